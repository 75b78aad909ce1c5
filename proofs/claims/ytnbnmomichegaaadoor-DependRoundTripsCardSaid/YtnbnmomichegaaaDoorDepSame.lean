/-
  The contract of the reference's SameStrings. Condition: the lengths are ints.
-/
import Derived.Test.YtnbnmomichegaaaDoorDepRefTop
namespace Go.Proofs.YtnbnmomichegaaaDoor
open Go.RowKit Utf Dep
open Feat (Bs)

theorem strs_step {a b : List Bs} {k : Nat} (ha : k < a.length) (hb : k < b.length) (h : a.take k = b.take k) (e : a[k] = b[k]) : a.take (k + 1) = b.take (k + 1) := by
  rw [List.take_succ_eq_append_getElem ha, List.take_succ_eq_append_getElem hb, h, e]
theorem Sl.slen {w : World} {B n : Nat} {A : Option Addr} {l : List Bs} (h : Sl w B 1 A n (strs l)) : l.length = n := by simpa [strs] using h.1
theorem Sl.strAt {w : World} {B n k : Nat} {A : Option Addr} {l : List Bs} (h : Sl w B 1 A n (strs l)) (hk : k < n) :
    ∃ g o, ∃ hk : k < l.length, A = some ⟨g, o, none⟩ ∧ g < B ∧ w.cell? ⟨g, o + k, none⟩ = some (str l[k]) := by
  have hl := h.slen
  obtain ⟨h1, h2⟩ := h
  obtain ⟨g, o, e, hb, hc⟩ := h2 (by simp [strs]; omega)
  exact ⟨g, o, by omega, e, hb, hc k _ (by simp [strs, List.getElem?_map])⟩
theorem str_ne {x y : Bs} (h : x ≠ y) : ByteArray.mk x.toArray ≠ ByteArray.mk y.toArray := by
  intro e; injection e with e2; exact h (by simpa using congrArg Array.toList e2)
attribute [local go_sem] byte_mk ByteArray.extract_mk

set_option maxRecDepth 100000 in
set_option maxHeartbeats 1000000 in
theorem sameStrs_any (A B : Option Addr) (n m c d : Nat) (a b : List Bs) (w : World) (hn : n ≤ 9223372036854775807) (hm : m ≤ 9223372036854775807) (ha : Sl w w.heap.size 1 A n (strs a)) (hb : Sl w w.heap.size 1 B m (strs b)) :
    Calls Tryd.prog 11 #[.slice A n c, .slice B m d] w (Drawn (.bool (decide (a = b))) w) := by
  have hla := Lib.hid ha.slen
  have hlb := Lib.hid hb.slen
  by_cases hnm : n = m
  · subst hnm
    have hnm2 : ((n : Int) != n) = false := by simp
    go_enter Tryd.func11, Tryd.ntmps11
    go_wp2
    go_loopw [13] (fun iv wr => ∃ k q : Nat, k ≤ n ∧ iv = .int .i64 k ∧ wr = w.drewN q ∧ Hid (a.take k = b.take k)) (fun iv _ => n - (intOf iv).toNat)
    case atStart => exact ⟨0, 0, by omega, rfl, rfl, rfl⟩
    case round =>
      obtain ⟨k, q, hk, rfl, rfl, heq⟩ := hrel
      by_cases hlt : k < n
      · obtain ⟨g, o, hk1, rfl, hg, c0⟩ := ha.strAt hlt
        obtain ⟨g2, o2, hk2, rfl, hg2, c1⟩ := hb.strAt hlt
        have hst := fun e => Lib.hid (strs_step hk1 hk2 heq.out e)
        have HST := Lib.hid hst
        have hno : Hid (a[k] ≠ b[k] → decide (a = b) = false) := fun e => by simp; rintro rfl; exact e rfl
        obtain ⟨x, hx⟩ : ∃ x, a[k] = x := ⟨_, rfl⟩
        obtain ⟨y, hy⟩ : ∃ y, b[k] = y := ⟨_, rfl⟩
        rw [hx] at c0 HST hno
        rw [hy] at c1 HST hno
        clear hx hy hst
        by_cases hxy : x = y
        · have HS := Lib.hid (HST.out hxy).out
          subst hxy
          go_wp2
          go_quiet (fail)
          go_wp2
          all_goals
            go_roundw
            case rel => exact ⟨k + 1, _, by omega, by go_num, rfl, HS⟩
            case measure => simp [intOf]; omega
        · have hxy2 : (x == y) = false := by rw [beq_eq_false_iff_ne]; exact hxy
          have HN := Lib.hid (hno.out hxy)
          clear hxy
          go_wp2
          go_quiet (fail)
          go_wp2
          go_ret
          exact ⟨ret_bool HN.out.symm, q + nq, World.drewN_drewN _ _ _⟩
      · have HF : Hid (decide (a = b) = true) := by
          show _ = _
          have h1 := heq.out
          rw [List.take_of_length_le (by rw [hla.out]; omega), List.take_of_length_le (by rw [hlb.out]; omega)] at h1
          simpa using h1
        go_wp2
        go_ret
        exact ⟨ret_bool HF.out.symm, q, rfl⟩
  · have hnm2 : ((n : Int) != m) = true := by rw [bne_iff_ne]; omega
    have HF : Hid (decide (a = b) = false) := by
      show _ = _
      simp; rintro rfl; exact hnm (hla.out.symm.trans hlb.out)
    clear hnm
    go_enter Tryd.func11, Tryd.ntmps11
    go_wp2
    go_ret
    exact ⟨ret_bool HF.out.symm, 0, rfl⟩
end Go.Proofs.YtnbnmomichegaaaDoor
