/-
  The contracts of the reference's cyclic, Check and Valid, and of depend.usable. Condition: the list's length is an int.
-/
import Derived.Test.YtnbnmomichegaaaDoorDepCheck
namespace Go.Proofs.YtnbnmomichegaaaDoor
open Go.RowKit Dep

namespace Dep
theorem cyc_no {h : Hs} {i k : Nat} (hlo : ∀ j, j < k → up h (j + 1) (i : Nat) ≠ (i : Nat)) (hk : up h (k + 1) (i : Nat) < 0 ∨ h.length ≤ k) : cyc h i = false := by
  unfold cyc
  rw [List.any_eq_false]
  intro j hj
  rw [List.mem_range] at hj
  rw [beq_iff_eq]
  intro e
  by_cases hjk : j < k
  · exact hlo j hjk e
  · rcases hk with hk | hk
    · have := up_neg_le hk (show k + 1 ≤ j + 1 by omega); omega
    · omega
theorem cyc_yes {h : Hs} {i k : Nat} (hk : k < h.length) (e : up h (k + 1) (i : Nat) = (i : Nat)) : cyc h i = true := by
  unfold cyc
  rw [List.any_eq_true]
  exact ⟨k, by simpa using hk, by simpa using e⟩
theorem chk_cyc {h : Hs} (hl : ¬ 4096 < h.length) (ho : Ok h) {i : Nat} (hi : i < h.length) (hc : cyc h i = true) (hlo : ∀ j, j < i → cyc h j = false) : chk h = (i, 12) := by
  rw [chk_ok hl ho, fst_some.2 ⟨hi, hc, hlo⟩]
theorem chk_nocyc {h : Hs} (hl : ¬ 4096 < h.length) (ho : Ok h) (hlo : ∀ j, j < h.length → cyc h j = false) : chk h = (0, 0) := by
  rw [chk_ok hl ho, fst_none.2 hlo]
def usb (h : Hs) (i : Int) : Bool := decide ((chk h).2 = 0) && decide (0 ≤ i) && decide (i < h.length)
end Dep

set_option maxRecDepth 100000 in
set_option maxHeartbeats 1000000 in
theorem cyclic_any (A : Option Addr) (n c : Nat) (h : Hs) (i : Nat) (w : World) (hn : n ≤ 4096) (ho : Ok h) (hi : i < n) (hsl : Sl w w.heap.size 1 A n (ints h)) :
    Calls Tryd.prog 34 #[.slice A n c, .int .i64 (i : Nat)] w (SameW (.bool (cyc h i)) w) := by
  have HL := Lib.hid hsl.ilen
  have HO := Lib.hid ho
  clear ho
  go_enter Tryd.func34, Tryd.ntmps34
  go_wp2
  go_loop [9, 5] (fun iv av => ∃ (k : Nat) (x : Int), k ≤ n ∧ iv = .int .i64 k ∧ av = .int .i64 x ∧ 0 ≤ x ∧ x < n ∧ Hid (up h k (i : Nat) = x) ∧ Hid (∀ j, j < k → up h (j + 1) (i : Nat) ≠ (i : Nat))) (fun iv _ => n - (intOf iv).toNat)
  case atStart => exact ⟨0, (i : Nat), by omega, rfl, rfl, by omega, by omega, rfl, fun j hj => by omega⟩
  case round =>
    obtain ⟨k, x, hk, rfl, rfl, hx0, hx1, hup, hlo⟩ := hrel
    by_cases hlt : k < n
    · obtain ⟨a, rfl⟩ : ∃ a : Nat, x = a := ⟨x.toNat, by omega⟩
      obtain ⟨g, o, ha', rfl, hg, c0⟩ := hsl.int (show a < n by omega)
      have hnext : Hid (up h (k + 1) (i : Nat) = h[a]) := by show _ = _; rw [up_succ, hup.out, nx_at ha']
      have hb := HO.out _ (List.getElem_mem ha')
      have hlen := HL.out
      obtain ⟨y, hy⟩ : ∃ y, h[a] = y := ⟨_, rfl⟩
      rw [hy] at c0 hnext hb
      have hb1 := hb.1
      have hb2 : y < n := by rw [← hlen]; exact hb.2
      clear hy hb hlen
      by_cases hy0 : y < 0
      · have HF := Lib.hid (cyc_no (h := h) (k := k) hlo.out (.inl (by rw [hnext.out]; exact hy0)))
        go_wp2
        go_ret
        exact ⟨ret_bool HF.out.symm, rfl⟩
      · by_cases hyi : y = (i : Nat)
        · have HF := Lib.hid (cyc_yes (h := h) (i := i) (k := k) (by rw [HL.out]; exact hlt) (by rw [hnext.out, hyi]))
          have hyi2 : (y == (i : Nat)) = true := by rw [beq_iff_eq]; exact hyi
          clear hyi
          go_wp2
          go_ret
          exact ⟨ret_bool HF.out.symm, rfl⟩
        · have hyi2 : (y == (i : Nat)) = false := by rw [beq_eq_false_iff_ne]; exact hyi
          have HLO : Hid (∀ j, j < k + 1 → up h (j + 1) (i : Nat) ≠ (i : Nat)) := fun j hj => by
            by_cases e : j = k
            · subst e; rw [hnext.out]; exact hyi
            · exact hlo.out j (by omega)
          clear hyi hlo
          go_wp2
          go_round
          case rel => exact ⟨k + 1, y, by omega, by go_num, rfl, by omega, hb2, hnext, HLO⟩
          case measure => simp [intOf]; omega
    · have HF := Lib.hid (cyc_no (h := h) (k := k) hlo.out (.inr (by rw [HL.out]; omega)))
      go_wp2
      go_ret
      exact ⟨ret_bool HF.out.symm, rfl⟩

set_option maxRecDepth 100000 in
set_option maxHeartbeats 1000000 in
theorem refCheck_any (A : Option Addr) (n c : Nat) (h : Hs) (w : World) (hn : n ≤ 9223372036854775807) (hsl : Sl w w.heap.size 1 A n (ints h)) :
    Calls Tryd.prog 16 #[.slice A n c] w (SameW (.tuple #[.int .i64 ((chk h).1 : Nat), .int .i64 ((chk h).2 : Nat)]) w) := by
  have hl := hsl.ilen
  have hret : Hid (∀ a b, chk h = (a, b) → Ending.returned (.tuple #[.int .i64 (a : Nat), .int .i64 (b : Nat)]) = Ending.returned (.tuple #[.int .i64 ((chk h).1 : Nat), .int .i64 ((chk h).2 : Nat)])) := fun a b e => by rw [e]
  by_cases hlong : 4096 < n
  · have HC := Lib.hid (chk_long (h := h) (by omega))
    clear hl
    go_enter Tryd.func16, Tryd.ntmps16
    go_wp2
    go_ret2
    exact ⟨hret.out _ _ HC.out, rfl⟩
  · have HL := Lib.hid hl
    have hln : h.length ≤ n ∧ n ≤ h.length := by omega
    clear hl
    go_enter Tryd.func16, Tryd.ntmps16
    go_wp2
    go_loop [12] (fun iv => ∃ k : Nat, k ≤ n ∧ iv = .int .i64 k ∧ Hid (∀ j (hj : j < h.length), j < k → bad h.length h[j] = false)) (fun iv => n - (intOf iv).toNat)
    case atStart => exact ⟨0, Nat.zero_le _, rfl, fun j hj h => by omega⟩
    case round =>
      obtain ⟨k, hk, rfl, hlo⟩ := hrel
      by_cases hlt : k < n
      · obtain ⟨g, o, hk', rfl, hg, c0⟩ := hsl.int hlt
        have hstep : Hid (bad h.length h[k] = false → ∀ j (hj : j < h.length), j < k + 1 → bad h.length h[j] = false) := fun hb j hj hjk => by
          by_cases e : j = k
          · subst e; exact hb
          · exact hlo.out j hj (by omega)
        have hbad : Hid (bad h.length h[k] = true → chk h = (k, 8)) := fun hb => chk_bad (by omega) hk' hb (fun j hj => hlo.out j (by omega) hj)
        obtain ⟨x, hx⟩ : ∃ x, h[k] = x := ⟨_, rfl⟩
        rw [hx] at c0 hstep hbad
        clear hx hlo
        by_cases hx1 : x < -1
        · have HB := Lib.hid (hbad.out (by unfold bad; simp [hx1]))
          go_wp2
          go_ret2
          exact ⟨hret.out _ _ HB.out, rfl⟩
        · by_cases hx2 : (n : Int) ≤ x
          · have HB := Lib.hid (hbad.out (by unfold bad; simp; omega))
            go_wp2
            go_ret2
            exact ⟨hret.out _ _ HB.out, rfl⟩
          · have HB := Lib.hid (hstep.out (by unfold bad; simp; omega))
            go_wp2
            go_round
            case rel => exact ⟨k + 1, by omega, by go_num, HB⟩
            case measure => simp [intOf]; omega
      · have ho : Ok h := ok_all fun j hj => hlo.out j hj (by omega)
        have HO := Lib.hid ho
        clear ho hlo
        go_wp2
        go_loop [29] (fun iv => ∃ k : Nat, k ≤ n ∧ iv = .int .i64 k ∧ Hid (∀ j, j < k → cyc h j = false)) (fun iv => n - (intOf iv).toNat)
        case atStart => exact ⟨0, Nat.zero_le _, rfl, fun j hj => by omega⟩
        case round =>
          obtain ⟨k, hk, rfl, hlo⟩ := hrel
          by_cases hlt : k < n
          · go_wp2_with fail
            refine (cyclic_any A n c h k _ (by omega) HO.out hlt hsl).mono ?_
            rintro e w1 ⟨rfl, rfl⟩
            cases hc : cyc h k with
            | true =>
              have HC := Lib.hid (chk_cyc (h := h) (by omega) HO.out (by omega) hc hlo.out)
              clear hc hlo
              go_wp2
              go_ret2
              exact ⟨hret.out _ _ HC.out, rfl⟩
            | false =>
              have HN : Hid (∀ j, j < k + 1 → cyc h j = false) := fun j hj => by
                by_cases e : j = k
                · subst e; exact hc
                · exact hlo.out j (by omega)
              clear hc hlo
              go_wp2
              go_round
              case rel => exact ⟨k + 1, by omega, by go_num, HN⟩
              case measure => simp [intOf]; omega
          · have HC := Lib.hid (chk_nocyc (h := h) (by omega) HO.out (fun j hj => hlo.out j (by omega)))
            clear hlo
            go_wp2
            go_ret2
            exact ⟨hret.out _ _ HC.out, rfl⟩

theorem usable_any (A : Option Addr) (n c : Nat) (h : Hs) (i : Int) (w : World) (hn : n ≤ 9223372036854775807) (hsl : Sl w w.heap.size 1 A n (ints h)) :
    Calls Tryd.prog 37 #[.slice A n c, .int .i64 i] w (Gave (.bool (usb h i)) w) := by
  have HL := Lib.hid hsl.ilen
  go_enter Tryd.func37, Tryd.ntmps37
  go_wp2_with fail
  refine (depCheck_any A n c h _ hn hsl).mono ?_
  rintro e w1 ⟨rfl, hb⟩
  by_cases h0 : (chk h).2 = 0
  · have E : (((chk h).2 : Int) == 0) = true := by rw [h0]; rfl
    have H0 := Lib.hid h0
    clear h0
    by_cases h1 : 0 ≤ i
    · by_cases h2 : i < n
      · have HF : Hid (usb h i = true) := by show _ = _; unfold usb; simp [H0.out, HL.out, h1, h2]
        go_wp2
        go_ret
        exact ⟨ret_bool HF.out.symm, hb⟩
      · have HF : Hid (usb h i = false) := by show _ = _; unfold usb; simp [HL.out]; omega
        have h2b : decide (i < (n : Int)) = false := by simp; omega
        go_wp2
        go_ret
        exact ⟨ret_bool HF.out.symm, hb⟩
    · have HF : Hid (usb h i = false) := by show _ = _; unfold usb; simp; omega
      go_wp2
      go_ret
      exact ⟨ret_bool HF.out.symm, hb⟩
  · have E : (((chk h).2 : Int) == 0) = false := by rw [beq_eq_false_iff_ne]; omega
    have HF : Hid (usb h i = false) := by show _ = _; unfold usb; simp [h0]
    clear h0
    go_wp2
    go_ret
    exact ⟨ret_bool HF.out.symm, hb⟩
end Go.Proofs.YtnbnmomichegaaaDoor
