/-
 The contracts of equalLists and of the reference's sameAttributes, samePairs. Conditions: none but that the lists read as they do.
-/
import Derived.Test.YtgkdaebiefhgdaaGreatDoorPCorAtx
import Derived.BigQuiet
import Derived.Deep.QuietTactic
namespace Go.Proofs.YtgkdaebiefhgdaaGreatDoor
open Go.RowKit Utf
open Feat (Bs)
open Tagp (KV)
noncomputable def same {α : Type} (a b : α) : Bool := @decide (a = b) (Classical.propDecidable _)
theorem same_t {α : Type} {a b : α} (h : a = b) : same a b = true := by unfold same; simp [h]
theorem same_f {α : Type} {a b : α} (h : a ≠ b) : same a b = false := by unfold same; simp [h]
theorem same_iff {α : Type} {a b : α} : same a b = true ↔ a = b := by unfold same; simp
theorem take_ne {α : Type} {l m : List α} {k : Nat} (h1 : k < l.length) (h2 : k < m.length) (h : l[k] ≠ m[k]) : l ≠ m := by
 rintro rfl; exact h rfl
theorem take_eq {α : Type} {l m : List α} {k : Nat} (h1 : k < l.length) (h2 : k < m.length) (h : l[k] = m[k]) (ht : l.take k = m.take k) : l.take (k + 1) = m.take (k + 1) := by
 rw [List.take_succ_eq_append_getElem h1, List.take_succ_eq_append_getElem h2, h, ht]

set_option maxRecDepth 100000 in
set_option maxHeartbeats 1600000 in
theorem rEqL_attr_any (A : Option Addr) (n c : Nat) (A2 : Option Addr) (n2 c2 : Nat) (l m : List At) (w : World) (hl : Atts w w.heap.size ⟨A, n, c⟩ l) (hm : Atts w w.heap.size ⟨A2, n2, c2⟩ m) :
  Calls Tryz.prog 31 #[.slice A n c, .slice A2 n2 c2] w (Drawn (.bool (same l m)) w) := by
 have hll := hl.len
 have hml := hm.len
 simp only [] at hll hml
 have f1 : n ≤ 9223372036854775807 := hl.1.2
 have f2 : n2 ≤ 9223372036854775807 := hm.1.2
 by_cases hn : n = n2
 ·subst hn
  have HL := Lib.hid hll
  have HM := Lib.hid hml
  clear hll hml
  go_enter Tryz.func31, Tryz.ntmps31
  go_wp2
  go_loopw [13] (fun iv wr => ∃ k q : Nat, k ≤ n ∧ iv = .int .i64 k ∧ wr = w.drewN q ∧ Hid (l.take k = m.take k)) (fun iv _ => n - (intOf iv).toNat)
  case atStart => exact ⟨0, 0, Nat.zero_le _, rfl, rfl, rfl⟩
  case round =>
   obtain ⟨k, q, hk, rfl, rfl, hin⟩ := hrel
   by_cases hlt : k < n
   ·obtain ⟨g1, o1, hk1, rfl, hg1, hl1, d10, d11⟩ := hl.at_ (k := k) hlt
    obtain ⟨g2, o2, hk2, rfl, hg2, hl2, d20, d21⟩ := hm.at_ (k := k) hlt
    have ht := @take_eq _ l m k hk1 hk2
    have hne := @take_ne _ l m k hk1 hk2
    obtain ⟨⟨x0, x1⟩, hx⟩ : ∃ x, l[k] = x := ⟨_, rfl⟩
    obtain ⟨⟨y0, y1⟩, hy⟩ : ∃ x, m[k] = x := ⟨_, rfl⟩
    rw [hx] at d10 d11
    rw [hy] at d20 d21
    rw [hx, hy] at ht hne
    have HT := Lib.hid ht
    have HN := Lib.hid hne
    simp only [] at d10 d11 d20 d21
    clear hx hy ht hne hl1 hl2
    have k0 : (0 : Int) ≤ k := by omega
    have k1 : (k : Int) < n := by omega
    by_cases e0 : x0 = y0
    ·subst e0
     by_cases e1 : x1 = y1
     ·subst e1
      have HI : Hid (l.take (k + 1) = m.take (k + 1)) := HT.out rfl hin.out
      clear HT HN hin
      go_wp2
      go_quiet (fail)
      go_wp2
      go_roundw
      case rel => (first | exact ⟨k + 1, _, by omega, by go_num, World.drewN_drewN _ _ _, HI⟩ | exact ⟨k + 1, _, by omega, by go_num, rfl, HI⟩ | ((repeat apply Exists.intro); exact ⟨⟨k + 1, _, by omega, by go_num, World.drewN_drewN _ _ _, HI⟩, rfl⟩))
      case measure => simp [intOf]; omega
     ·have HF := Lib.hid (same_f (HN.out (fun h => by injection h with j0 j1; exact e1 j1)))
      clear HT HN hin
      go_wp2
      go_quiet (fail)
      go_wp2
      go_ret
      exact ⟨ret_bool HF.out.symm, _, World.drewN_drewN _ _ _⟩
    ·have HF := Lib.hid (same_f (HN.out (fun h => by injection h with j0 j1; exact e0 j0)))
     clear HT HN hin
     go_wp2
     go_quiet (fail)
     go_wp2
     go_ret
     exact ⟨ret_bool HF.out.symm, _, World.drewN_drewN _ _ _⟩
   ·have HE : Hid (l = m) := by
     have h := hin.out
     rw [List.take_of_length_le (by have : l.length = n := HL.out; omega), List.take_of_length_le (by have : m.length = n := HM.out; omega)] at h
     exact h
    go_wp2
    go_ret
    exact ⟨ret_bool (same_t HE.out).symm, _, rfl⟩
 ·have HF := Lib.hid (same_f (fun h : l = m => hn (by rw [← hll, ← hml, h])))
  have hd : decide (n = n2) = false := by simpa using hn
  clear hl hm hll hml
  go_enter Tryz.func31, Tryz.ntmps31
  go_wp2
  go_ret
  exact ⟨ret_bool HF.out.symm, 0, rfl⟩

set_option maxRecDepth 100000 in
set_option maxHeartbeats 1600000 in
theorem rEqL_pair_any (A : Option Addr) (n c : Nat) (A2 : Option Addr) (n2 c2 : Nat) (l m : List KV) (w : World) (hl : Keys w w.heap.size ⟨A, n, c⟩ l) (hm : Keys w w.heap.size ⟨A2, n2, c2⟩ m) :
  Calls Tryz.prog 32 #[.slice A n c, .slice A2 n2 c2] w (Drawn (.bool (same l m)) w) := by
 have hll := hl.len
 have hml := hm.len
 simp only [] at hll hml
 have f1 : n ≤ 9223372036854775807 := hl.1.2
 have f2 : n2 ≤ 9223372036854775807 := hm.1.2
 by_cases hn : n = n2
 ·subst hn
  have HL := Lib.hid hll
  have HM := Lib.hid hml
  clear hll hml
  go_enter Tryz.func32, Tryz.ntmps32
  go_wp2
  go_loopw [13] (fun iv wr => ∃ k q : Nat, k ≤ n ∧ iv = .int .i64 k ∧ wr = w.drewN q ∧ Hid (l.take k = m.take k)) (fun iv _ => n - (intOf iv).toNat)
  case atStart => exact ⟨0, 0, Nat.zero_le _, rfl, rfl, rfl⟩
  case round =>
   obtain ⟨k, q, hk, rfl, rfl, hin⟩ := hrel
   by_cases hlt : k < n
   ·obtain ⟨g1, o1, hk1, rfl, hg1, hl1, d10, d11⟩ := hl.at_ (k := k) hlt
    obtain ⟨g2, o2, hk2, rfl, hg2, hl2, d20, d21⟩ := hm.at_ (k := k) hlt
    have ht := @take_eq _ l m k hk1 hk2
    have hne := @take_ne _ l m k hk1 hk2
    obtain ⟨⟨x0, x1⟩, hx⟩ : ∃ x, l[k] = x := ⟨_, rfl⟩
    obtain ⟨⟨y0, y1⟩, hy⟩ : ∃ x, m[k] = x := ⟨_, rfl⟩
    rw [hx] at d10 d11
    rw [hy] at d20 d21
    rw [hx, hy] at ht hne
    have HT := Lib.hid ht
    have HN := Lib.hid hne
    simp only [] at d10 d11 d20 d21
    clear hx hy ht hne hl1 hl2
    have k0 : (0 : Int) ≤ k := by omega
    have k1 : (k : Int) < n := by omega
    by_cases e0 : x0 = y0
    ·subst e0
     by_cases e1 : x1 = y1
     ·subst e1
      have HI : Hid (l.take (k + 1) = m.take (k + 1)) := HT.out rfl hin.out
      clear HT HN hin
      go_wp2
      go_quiet (fail)
      go_wp2
      go_roundw
      case rel => (first | exact ⟨k + 1, _, by omega, by go_num, World.drewN_drewN _ _ _, HI⟩ | exact ⟨k + 1, _, by omega, by go_num, rfl, HI⟩ | ((repeat apply Exists.intro); exact ⟨⟨k + 1, _, by omega, by go_num, World.drewN_drewN _ _ _, HI⟩, rfl⟩))
      case measure => simp [intOf]; omega
     ·have HF := Lib.hid (same_f (HN.out (fun h => by injection h with j0 j1; exact e1 j1)))
      clear HT HN hin
      go_wp2
      go_quiet (fail)
      go_wp2
      go_ret
      exact ⟨ret_bool HF.out.symm, _, World.drewN_drewN _ _ _⟩
    ·have HF := Lib.hid (same_f (HN.out (fun h => by injection h with j0 j1; exact e0 j0)))
     clear HT HN hin
     go_wp2
     go_quiet (fail)
     go_wp2
     go_ret
     exact ⟨ret_bool HF.out.symm, _, World.drewN_drewN _ _ _⟩
   ·have HE : Hid (l = m) := by
     have h := hin.out
     rw [List.take_of_length_le (by have : l.length = n := HL.out; omega), List.take_of_length_le (by have : m.length = n := HM.out; omega)] at h
     exact h
    go_wp2
    go_ret
    exact ⟨ret_bool (same_t HE.out).symm, _, rfl⟩
 ·have HF := Lib.hid (same_f (fun h : l = m => hn (by rw [← hll, ← hml, h])))
  have hd : decide (n = n2) = false := by simpa using hn
  clear hl hm hll hml
  go_enter Tryz.func32, Tryz.ntmps32
  go_wp2
  go_ret
  exact ⟨ret_bool HF.out.symm, 0, rfl⟩

end Go.Proofs.YtgkdaebiefhgdaaGreatDoor
