/-
 The contracts of the reader's fail and want. Condition: the text's length is an int.
-/
import Derived.Test.YtgkdaebiefhgdaaGreatDoorPMarkRefUn
import Derived.Test.YtgkdaebiefhgdaaGreatDoorPMarkRefSort
import Derived.BigQuiet
import Derived.Deep.QuietTactic
namespace Go.Proofs.YtgkdaebiefhgdaaGreatDoor
open Go.RowKit Utf Tagp
open Feat (Bs)
attribute [local go_sem] byte_mk ByteArray.extract_mk
def Rok (w : World) (g : Nat) (s : Bs) (i : Nat) (cl : Bool) (nm : Bs) (v : Value) : Prop := Blk w g 152 #[str s, .int .i64 (i : Nat), .bool cl, str nm, v, .int .i64 0, .int .i64 0, .bool false]
def Rbad (w : World) (g : Nat) (s : Bs) (p : Nat × Nat) : Prop := ∃ (i : Nat) (cl : Bool) (nm : Bs) (A : Option Addr) (n c : Nat), Blk w g 152 #[str s, .int .i64 (i : Nat), .bool cl, str nm, .slice A n c, .int .i64 (p.1 : Nat), .int .i64 (p.2 : Nat), .bool true]
def RbadX (w : World) (g : Nat) (s : Bs) (cl : Bool) (nm : Bs) (v : Value) (p : Nat × Nat) : Prop := ∃ i : Nat, Blk w g 152 #[str s, .int .i64 (i : Nat), .bool cl, str nm, v, .int .i64 (p.1 : Nat), .int .i64 (p.2 : Nat), .bool true]
theorem RbadX.bad {w : World} {g : Nat} {s : Bs} {cl : Bool} {nm : Bs} {A : Option Addr} {n c : Nat} {p : Nat × Nat} (h : RbadX w g s cl nm (.slice A n c) p) : Rbad w g s p := by
 obtain ⟨i, h⟩ := h
 exact ⟨i, cl, nm, A, n, c, h⟩
theorem Rok.below {w w' : World} {g : Nat} {s : Bs} {i : Nat} {cl : Bool} {nm : Bs} {v : Value} (h : Rok w g s i cl nm v) (hb : Below w.heap.size w w') : Rok w' g s i cl nm v := Blk.below h hb
theorem Rbad.below {w w' : World} {g : Nat} {s : Bs} {p : Nat × Nat} (h : Rbad w g s p) (hb : Below w.heap.size w w') : Rbad w' g s p := by
 obtain ⟨i, cl, nm, A, n, c, h⟩ := h
 exact ⟨i, cl, nm, A, n, c, Blk.below h hb⟩
theorem Rok.drewN {w : World} {g : Nat} {s : Bs} {i : Nat} {cl : Bool} {nm : Bs} {v : Value} (h : Rok w g s i cl nm v) (q : Nat) : Rok (w.drewN q) g s i cl nm v := h
theorem Rok.move {w : World} {g : Nat} {s : Bs} {i : Nat} {cl : Bool} {nm : Bs} {v : Value} (h : Rok w g s i cl nm v) (j : Nat) : Rok (w.setCell ⟨g, 1, none⟩ (.int .i64 (j : Nat))) g s j cl nm v := Blk.set_ h 1 _
theorem grown_set {w : World} {g k : Nat} (v : Value) : w.grownBy (w.setCell ⟨g, k, none⟩ v) (some g) := ⟨rfl, rfl, rfl, by simp, fun j _ hj => setCell_block (fun h => hj (by rw [h]))⟩

def Rds {α : Type} (w : World) (g : Nat) (s : Bs) (cl : Bool) (nm : Bs) (v : Value) (r : R (α × Nat)) (val : α → Value → Prop) (e : Ending) (w' : World) : Prop :=
 w.grownBy w' (some g) ∧ match r with
  | .ok (a, j) => Rok w' g s j cl nm v ∧ ∃ x, e = .returned x ∧ val a x
  | .error p => RbadX w' g s cl nm v p ∧ ∃ x, e = .returned (str x)

set_option maxHeartbeats 800000 in
theorem fail_ok (s : Bs) (g i p n : Nat) (cl : Bool) (nm : Bs) (A : Option Addr) (m c : Nat) (w : World) (h : Rok w g s i cl nm (.slice A m c)) :
  Calls Tryz.prog 111 #[.pointer (some ⟨g, 0, none⟩), .int .i64 (p : Nat), .int .i64 (n : Nat)] w (fun e w' => e = .returned (.tuple #[]) ∧ w.grownBy w' (some g) ∧ RbadX w' g s cl nm (.slice A m c) (p, n)) := by
 have k5 := Blk.cell h 5
 have k6 := Blk.cell h 6
 have k7 := Blk.cell h 7
 have f := fun k => Blk.free h k
 go_enter Tryz.func111, Tryz.ntmps111
 go_wp2
 go_end0
 exact ⟨rfl, ((grown_set _).trans (grown_set _)).trans (grown_set _), i, ((Blk.set_ h 5 _).set_ 6 _).set_ 7 _⟩
set_option maxHeartbeats 800000 in
theorem fail_bad (s : Bs) (g : Nat) (P N : Int) (p : Nat × Nat) (w : World) (h : Rbad w g s p) :
  Calls Tryz.prog 111 #[.pointer (some ⟨g, 0, none⟩), .int .i64 P, .int .i64 N] w (fun e w' => e = .returned (.tuple #[]) ∧ w' = w) := by
 obtain ⟨i, cl, nm, A, n, c, h⟩ := h
 have k7 := Blk.cell h 7
 go_enter Tryz.func111, Tryz.ntmps111
 go_wp2
 go_end0
 exact ⟨rfl, rfl⟩

def wantP (s : Bs) : Bs → Nat → R Nat
 | [], i => .ok i
 | c :: r, i => match eatP s c i with
  | .error e => .error e
  | .ok j => wantP s r j
theorem wantP_at {s x : Bs} {k j : Nat} (hk : k < x.length) : wantP s (x.drop k) j = if s[j]? = some x[k] then wantP s (x.drop (k + 1)) (j + 1) else .error (j, 3) := by
 rw [List.drop_eq_getElem_cons hk, wantP, eatP]
 split
 ·rename_i h
  split at h
  ·cases h
  ·rename_i h2
   cases h
   rw [if_neg h2]
 ·rename_i h
  split at h
  ·rename_i h2
   cases h
   rw [if_pos h2]
  ·cases h

def Wants (w : World) (g : Nat) (s : Bs) (cl : Bool) (nm : Bs) (v : Value) (r : R Nat) (e : Ending) (w' : World) : Prop :=
 e = .returned (.tuple #[]) ∧ w.grownBy w' (some g) ∧ match r with
  | .ok j => Rok w' g s j cl nm v ∧ j ≤ s.length
  | .error p => RbadX w' g s cl nm v p
set_option maxRecDepth 100000 in
set_option maxHeartbeats 1600000 in
theorem want_ok (s x : Bs) (g i : Nat) (cl : Bool) (nm : Bs) (A : Option Addr) (m c : Nat) (w : World) (hs : s.length ≤ 9223372036854775807) (hx : x.length ≤ 100) (hi : i ≤ s.length) (h : Rok w g s i cl nm (.slice A m c)) :
  Calls Tryz.prog 108 #[.pointer (some ⟨g, 0, none⟩), str x] w (Wants w g s cl nm (.slice A m c) (wantP s x i)) := by
 go_enter Tryz.func108, Tryz.ntmps108
 go_wp2
 go_loopw [4] (fun iv wr => ∃ k j : Nat, k ≤ x.length ∧ iv = .int .i64 k ∧ j ≤ s.length ∧ w.grownBy wr (some g) ∧ Rok wr g s j cl nm (.slice A m c) ∧ Hid (wantP s x i = wantP s (x.drop k) j)) (fun iv _ => x.length - (intOf iv).toNat)
 case atStart => exact ⟨0, i, Nat.zero_le _, rfl, hi, World.grownBy.refl _ _, h, rfl⟩
 case round =>
  obtain ⟨k, j, hk, rfl, hj, hg, hr, hw⟩ := hrel
  have k0 := Blk.cell hr 0
  have k1 := Blk.cell hr 1
  have k7 := Blk.cell hr 7
  have f1 := Blk.free hr 1
  by_cases hkx : k < x.length
  ·have hst := Lib.hid (wantP_at (s := s) (j := j) hkx)
   by_cases hjl : j < s.length
   ·have hg0 : s[j]? = some s[j] := List.getElem?_eq_getElem hjl
    have hd : decide ((s.length : Int) ≤ (j : Int)) = false := by rw [decide_eq_false_iff_not]; omega
    have hch := ch_of s[j] x[k]
    cases hne : (s[j] != x[k]) with
    | true =>
     rw [hne] at hch
     have HE : Hid (wantP s x i = .error (j, 3)) := by
      show _ = _
      rw [hw.out, hst.out, hg0, if_neg (by intro e; rw [Option.some.inj e] at hne; simp at hne)]
     clear hg0 hne
     go_wp2
     go_quiet (fail)
     go_wp2_with fail
     refine (fail_ok s g j j 3 cl nm A m c _ (hr.drewN nq)).mono ?_
     rintro e w2 ⟨rfl, hg2, hb2⟩
     go_wp2
     refine bodyPost_ret (results_none rfl _ _ _) rfl ?_
     unfold Wants
     rw [HE.out]
     exact ⟨rfl, hg.trans ((grown_drewN _).trans hg2), hb2⟩
    | false =>
     rw [hne] at hch
     have HE : Hid (wantP s x i = wantP s (x.drop (k + 1)) (j + 1)) := by
      show _ = _
      rw [hw.out, hst.out, hg0, if_pos (by rw [bne_eq_false_iff_eq] at hne; rw [hne])]
     clear hg0 hne
     go_wp2
     go_quiet (fail)
     go_wp2
     go_roundw
     case rel => exact ⟨k + 1, j + 1, by omega, by go_num, by omega, hg.trans ((grown_drewN _).trans (grown_set _)), (hr.drewN nq).move (j + 1), HE.out⟩
     case measure => simp [intOf]; omega
   ·have hd : decide ((s.length : Int) ≤ (j : Int)) = true := by rw [decide_eq_true_iff]; omega
    have HE : Hid (wantP s x i = .error (j, 3)) := by
     show _ = _
     rw [hw.out, hst.out, List.getElem?_eq_none (by omega), if_neg (by simp)]
    go_wp2
    go_quiet (fail)
    go_wp2_with fail
    refine (fail_ok s g j j 3 cl nm A m c _ (hr.drewN nq)).mono ?_
    rintro e w2 ⟨rfl, hg2, hb2⟩
    go_wp2
    refine bodyPost_ret (results_none rfl _ _ _) rfl ?_
    unfold Wants
    rw [HE.out]
    exact ⟨rfl, hg.trans ((grown_drewN _).trans hg2), hb2⟩
  ·have HE : Hid (wantP s x i = .ok j) := by show _ = _; rw [hw.out, List.drop_eq_nil_of_le (by omega)]; rfl
   go_wp2
   go_end0
   unfold Wants
   rw [HE.out]
   exact ⟨rfl, hg, hr, hj⟩
set_option maxHeartbeats 800000 in
theorem want_bad (s x : Bs) (g : Nat) (p : Nat × Nat) (w : World) (h : Rbad w g s p) :
  Calls Tryz.prog 108 #[.pointer (some ⟨g, 0, none⟩), str x] w (fun e w' => e = .returned (.tuple #[]) ∧ w' = w) := by
 obtain ⟨i, cl, nm, A, n, c, h⟩ := h
 have k7 := Blk.cell h 7
 go_enter Tryz.func108, Tryz.ntmps108
 go_wp2
 go_loop [4] (fun iv => iv = .int .i64 0) (fun _ => 0)
 case atStart => rfl
 case round =>
  obtain rfl := hrel
  by_cases h0 : 0 < x.length
  ·go_wp2
   go_end0
   exact ⟨rfl, rfl⟩
  ·go_wp2
   go_end0
   exact ⟨rfl, rfl⟩
end Go.Proofs.YtgkdaebiefhgdaaGreatDoor
