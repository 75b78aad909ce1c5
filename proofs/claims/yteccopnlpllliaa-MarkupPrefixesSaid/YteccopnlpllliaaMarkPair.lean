/-
  Lists of pairs in memory, and the contract of markup.has. Condition: the list's length is an int.
-/
import Derived.Test.YteccopnlpllliaaMarkVal
namespace Go.Proofs.Yteccopnlpllliaa
open Go.RowKit Utf Tagp
open Feat (Bs)
attribute [local go_sem] byte_mk ByteArray.extract_mk

/-- The cells of pairs. -/
def prs (l : List KV) : List Value := l.flatMap fun p => [str p.1, str p.2]
theorem prs_len (l : List KV) : (prs l).length = l.length * 2 := by
  induction l with
  | nil => rfl
  | cons x r ih => simp only [prs, List.flatMap_cons, List.length_append, List.length_cons, List.length_nil] at ih ⊢; omega
theorem prs_append (l m : List KV) : prs (l ++ m) = prs l ++ prs m := by simp [prs]
theorem prs_at : ∀ (l : List KV) (k : Nat) (hk : k < l.length), (prs l)[k * 2]? = some (str l[k].1) ∧ (prs l)[k * 2 + 1]? = some (str l[k].2)
  | [], k, hk => by simp at hk
  | x :: r, 0, _ => by simp [prs]
  | x :: r, k + 1, hk => by
    have := prs_at r k (by simpa using hk)
    simp only [prs, List.flatMap_cons, List.getElem_cons_succ] at this ⊢
    rw [show (k + 1) * 2 = k * 2 + 2 by omega]
    simpa using this
theorem sl_pair {w : World} {B n k : Nat} {A : Option Addr} {l : List KV} (h : Sl w B 2 A n (prs l)) (hk : k < n) :
    ∃ g o, ∃ hk : k < l.length, A = some ⟨g, o, none⟩ ∧ g < B ∧ w.cell? ⟨g, o + k * 2, none⟩ = some (str l[k].1) ∧ w.cell? ⟨g, o + k * 2 + 1, none⟩ = some (str l[k].2) := by
  obtain ⟨h1, h2⟩ := h
  rw [prs_len] at h1
  obtain ⟨g, o, e, hb, hc⟩ := h2 (by rw [prs_len]; omega)
  have hkl : k < l.length := by omega
  obtain ⟨p1, p2⟩ := prs_at l k hkl
  exact ⟨g, o, hkl, e, hb, hc _ _ p1, hc _ _ p2⟩
theorem Sl.under {w w' : World} {B sz n : Nat} {A : Option Addr} {xs : List Value} (h : Sl w B sz A n xs) (hb : Below B w w') : Sl w' B sz A n xs := by
  refine ⟨h.1, fun hp => ?_⟩
  obtain ⟨g, o, e, hg, hc⟩ := h.2 hp
  exact ⟨g, o, e, hg, fun j u hj => (World.cell?_of_block (hb.block g hg)).trans (hc j u hj)⟩
theorem hasK_step {l : List KV} {n : Bs} {k : Nat} (hk : k < l.length) : hasK (l.take (k + 1)) n = (hasK (l.take k) n || l[k].1 == n) := by
  unfold hasK
  rw [List.take_succ_eq_append_getElem hk, List.any_append]
  simp

set_option maxHeartbeats 800000 in
theorem has_any (A : Option Addr) (n c : Nat) (l : List KV) (f : Bs) (w : World) (hn : n ≤ 9223372036854775807) (h : Sl w w.heap.size 2 A n (prs l)) :
    Calls Try.prog 56 #[.slice A n c, str f] w (fun e w' => e = .returned (.bool (hasK l f)) ∧ Below w.heap.size w w') := by
  have hl : l.length = n := by have := h.1; rw [prs_len] at this; omega
  go_enter Try.func56, Try.ntmps56
  go_wp2
  go_loopw [9] (fun i wr => ∃ k : Nat, k ≤ n ∧ i = .int .i64 k ∧ Below w.heap.size w wr ∧ Hid (hasK (l.take k) f = false)) (fun i _ => n - (intOf i).toNat)
  case atStart => exact ⟨0, by omega, rfl, Below.refl _ _, rfl⟩
  case round =>
    obtain ⟨k, hk, rfl, hB, hno⟩ := hrel
    by_cases hlt : k < n
    · obtain ⟨g, o, hk', rfl, hg, c0, c1⟩ := sl_pair (h.under hB) hlt
      have hs := Lib.hid (hasK_step (n := f) hk')
      go_wp2
      · have hx : (l[k].1 == f) = true := by assumption
        go_ret
        refine ⟨ret_bool ?_, hB.alloc hB.size _⟩
        symm
        unfold hasK
        exact List.any_eq_true.2 ⟨_, List.getElem_mem hk', hx⟩
      · have hx : (l[k].1 == f) = false := by assumption
        go_roundw
        case rel => exact ⟨k + 1, by omega, by go_num, hB.alloc hB.size _, by show _ = _; rw [hs.out, hno.out, hx]; rfl⟩
        case measure => simp [intOf]; omega
    · have hf : Hid (hasK l f = false) := by show _ = _; rw [← hno.out, List.take_of_length_le (by omega)]
      go_wp2
      go_ret
      exact ⟨ret_bool hf.out.symm, hB⟩
end Go.Proofs.Yteccopnlpllliaa
