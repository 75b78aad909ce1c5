/-
 The contracts of the reader's name. Conditions: the text's length is an int; at most eight keys have been read.
-/
import Derived.Test.YtgkdaebiefhgdaaGreatDoorPMarkRd
namespace Go.Proofs.YtgkdaebiefhgdaaGreatDoor
open Go.RowKit Utf Tagp
open Feat (Bs)
attribute [local go_sem] byte_mk ByteArray.extract_mk
def Rst (w : World) (g : Nat) (s : Bs) (i : Nat) (cl : Bool) (nm : Bs) (v : Value) (p : Nat × Nat) (b : Bool) : Prop := Blk w g 152 #[str s, .int .i64 (i : Nat), .bool cl, str nm, v, .int .i64 (p.1 : Nat), .int .i64 (p.2 : Nat), .bool b]
theorem Rst.bad {w : World} {g i : Nat} {s : Bs} {cl : Bool} {nm : Bs} {A : Option Addr} {n c : Nat} {p : Nat × Nat} (h : Rst w g s i cl nm (.slice A n c) p true) : Rbad w g s p := ⟨i, cl, nm, A, n, c, h⟩
theorem Rst.ok {w : World} {g i : Nat} {s : Bs} {cl : Bool} {nm : Bs} {v : Value} (h : Rok w g s i cl nm v) : Rst w g s i cl nm v (0, 0) false := h

set_option maxHeartbeats 800000 in
theorem fail_st (s : Bs) (g i p n : Nat) (cl : Bool) (nm : Bs) (v : Value) (q : Nat × Nat) (b : Bool) (w : World) (hst : Rst w g s i cl nm v q b) :
  Calls Tryz.prog 111 #[.pointer (some ⟨g, 0, none⟩), .int .i64 (p : Nat), .int .i64 (n : Nat)] w (fun e w' => e = .returned (.tuple #[]) ∧ w.grownBy w' (some g) ∧ Rst w' g s i cl nm v (if b = true then q else (p, n)) true) := by
 have k5 := Blk.cell hst 5
 have k6 := Blk.cell hst 6
 have k7 := Blk.cell hst 7
 have f := fun k => Blk.free hst k
 cases b with
 | true =>
  go_enter Tryz.func111, Tryz.ntmps111
  go_wp2
  go_end0
  exact ⟨rfl, World.grownBy.refl _ _, hst⟩
 | false =>
  go_enter Tryz.func111, Tryz.ntmps111
  go_wp2
  go_end0
  exact ⟨rfl, ((grown_set _).trans (grown_set _)).trans (grown_set _), ((Blk.set_ hst 5 _).set_ 6 _).set_ 7 _⟩

theorem first_is {c : UInt8} {b : Bool} (h : beg c = b) (w : World) : Calls Tryz.prog 106 #[.int .u8 (c.toNat : Nat)] w fun e w' => e = .returned (.bool b) ∧ w' = w := by
 subst h
 exact (first_any c w).mono fun e w' h => ⟨h.1, h.2.symm⟩
theorem next_is {c : UInt8} {b : Bool} (h : gon c = b) (w : World) : Calls Tryz.prog 107 #[.int .u8 (c.toNat : Nat)] w fun e w' => e = .returned (.bool b) ∧ w' = w := by
 subst h
 exact (next_any c w).mono fun e w' h => ⟨h.1, h.2.symm⟩

set_option maxRecDepth 100000 in
set_option maxHeartbeats 3200000 in
theorem name0_ok (s : Bs) (g i : Nat) (cl : Bool) (nm : Bs) (A : Option Addr) (m c : Nat) (w : World) (hs : s.length ≤ 9223372036854775807) (hi : i ≤ s.length) (hok : Rok w g s i cl nm (.slice A m c)) :
  Calls Tryz.prog 109 #[.pointer (some ⟨g, 0, none⟩), .bool false] w (Rds w g s cl nm (.slice A m c) (nameP s i) fun n x => x = str n) := by
 have k0 := Blk.cell hok 0
 have k1 := Blk.cell hok 1
 have k7 := Blk.cell hok 7
 by_cases hlt : i < s.length
 ·have he : s[i]? = some s[i] := List.getElem?_eq_getElem hlt
  have hd : decide ((s.length : Int) ≤ (i : Int)) = false := by rw [decide_eq_false_iff_not]; omega
  cases hb : beg s[i] with
  | false =>
   have HE : Hid (nameP s i = .error (i, 3)) := by show _ = _; unfold nameP; rw [he]; simp [hb]
   have HB := Lib.hid hb
   clear he hb
   go_enter Tryz.func109, Tryz.ntmps109
   go_wp2
   go_quiet (exact Calls.quiet_of_same (first_is HB.out _))
   go_wp2_with fail
   refine (fail_st s g i i 3 cl nm _ (0, 0) false _ (hok.drewN nq)).mono ?_
   rintro e w2 ⟨rfl, hg2, hb2⟩
   go_wp2
   go_ret
   unfold Rds
   rw [HE.out]
   exact ⟨(grown_drewN _).trans hg2, ⟨_, hb2⟩, [], rfl⟩
  | true =>
   have HE : Hid (nameP s i = if 32 < run gon s i - i then .error (i, 2) else .ok ((s.drop i).take (run gon s i - i), run gon s i)) := by show _ = _; unfold nameP; rw [he]; simp [hb]
   have HB := Lib.hid hb
   clear he hb
   go_enter Tryz.func109, Tryz.ntmps109
   go_wp2
   go_quiet (exact Calls.quiet_of_same (first_is HB.out _))
   go_wp2
   go_loopw [48] (fun _ wr => ∃ j : Nat, i ≤ j ∧ j ≤ s.length ∧ w.grownBy wr (some g) ∧ Rok wr g s j cl nm (.slice A m c) ∧ Hid (run gon s i = run gon s j)) (fun _ wr => s.length - (intOf ((wr.cell? ⟨g, 1, none⟩).getD undef)).toNat)
   case atStart => exact ⟨i, Nat.le_refl _, hi, grown_drewN _, hok.drewN _, rfl⟩
   case round =>
    obtain ⟨j, hij, hj, hg, hat, hrun⟩ := hrel
    clear k0 k1 k7
    have c0 := Blk.cell hat 0
    have c1 := Blk.cell hat 1
    have cf := Blk.free hat 1
    have hexit : (j < s.length → gon s[j]! = false) → run gon s i = j := by
     intro hh
     rw [hrun.out]
     by_cases hjl : j < s.length
     ·refine run_stop hjl ?_
      have := hh hjl
      rwa [getElem!_pos s j hjl] at this
     ·exact run_end _ (by omega)
    by_cases hjl : j < s.length
    ·cases hgn : gon s[j] with
     | true =>
      have HR := Lib.hid (run_step (p := gon) hjl hgn)
      have HG := Lib.hid hgn
      clear hgn hexit
      go_wp2
      go_quiet (exact Calls.quiet_of_same (next_is HG.out _))
      go_wp2
      go_roundw
      case rel =>
       refine ⟨j + 1, by omega, by omega, hg.trans ((grown_drewN _).trans (grown_set _)), (hat.drewN _).move (j + 1), ?_⟩
       show _ = _
       rw [hrun.out, HR.out]
      case measure =>
       have e1 : ((wr.drewN nq).setCell ⟨g, 1, none⟩ (.int .i64 ((j : Int) + 1))).cell? ⟨g, 1, none⟩ = some (.int .i64 ((j + 1 : Nat) : Int)) := Blk.cell ((hat.drewN nq).move (j + 1)) 1
       rw [e1, c1]
       simp [intOf]
       omega
     | false =>
      have HX := Lib.hid (hexit (fun _ => by rw [getElem!_pos s j hjl]; exact hgn))
      have HG := Lib.hid hgn
      clear hgn hexit
      by_cases h32 : 32 < j - i
      ·have HF : Hid (nameP s i = .error (i, 2)) := by show _ = _; rw [HE.out, HX.out, if_pos h32]
       go_wp2
       go_quiet (exact Calls.quiet_of_same (next_is HG.out _))
       go_wp2
       go_quiet (fail)
       go_wp2_with fail
       refine (fail_st s g j i 2 cl nm _ (0, 0) false _ (hat.drewN _)).mono ?_
       rintro e w2 ⟨rfl, hg2, hb2⟩
       go_wp2
       go_ret
       unfold Rds
       rw [HF.out]
       exact ⟨hg.trans ((grown_drewN _).trans hg2), ⟨_, hb2⟩, _, rfl⟩
      ·have HF : Hid (nameP s i = .ok ((s.drop i).take (j - i), j)) := by show _ = _; rw [HE.out, HX.out, if_neg h32]
       go_wp2
       go_quiet (exact Calls.quiet_of_same (next_is HG.out _))
       go_wp2
       go_quiet (fail)
       go_wp2
       go_ret
       unfold Rds
       rw [HF.out]
       exact ⟨hg.trans (grown_drewN _), hat.drewN _, _, rfl, rfl⟩
    ·have HX := Lib.hid (hexit (fun h => absurd h hjl))
     clear hexit
     by_cases h32 : 32 < j - i
     ·have HF : Hid (nameP s i = .error (i, 2)) := by show _ = _; rw [HE.out, HX.out, if_pos h32]
      go_wp2
      go_quiet (fail)
      go_wp2
      go_quiet (fail)
      go_wp2_with fail
      refine (fail_st s g j i 2 cl nm _ (0, 0) false _ (hat.drewN _)).mono ?_
      rintro e w2 ⟨rfl, hg2, hb2⟩
      go_wp2
      go_ret
      unfold Rds
      rw [HF.out]
      exact ⟨hg.trans ((grown_drewN _).trans hg2), ⟨_, hb2⟩, _, rfl⟩
     ·have HF : Hid (nameP s i = .ok ((s.drop i).take (j - i), j)) := by show _ = _; rw [HE.out, HX.out, if_neg h32]
      go_wp2
      go_quiet (fail)
      go_wp2
      go_quiet (fail)
      go_wp2
      go_ret
      unfold Rds
      rw [HF.out]
      exact ⟨hg.trans (grown_drewN _), hat.drewN _, _, rfl, rfl⟩
 ·have hd : decide ((s.length : Int) ≤ (i : Int)) = true := by rw [decide_eq_true_iff]; omega
  have HE : Hid (nameP s i = .error (i, 3)) := by show _ = _; unfold nameP; rw [List.getElem?_eq_none (by omega)]; rfl
  go_enter Tryz.func109, Tryz.ntmps109
  go_wp2
  go_quiet (fail)
  go_wp2_with fail
  refine (fail_st s g i i 3 cl nm _ (0, 0) false _ (hok.drewN nq)).mono ?_
  rintro e w2 ⟨rfl, hg2, hb2⟩
  go_wp2
  go_ret
  unfold Rds
  rw [HE.out]
  exact ⟨(grown_drewN _).trans hg2, ⟨_, hb2⟩, [], rfl⟩
end Go.Proofs.YtgkdaebiefhgdaaGreatDoor
