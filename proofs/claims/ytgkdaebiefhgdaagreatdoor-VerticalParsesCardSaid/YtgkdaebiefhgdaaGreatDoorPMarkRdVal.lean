/-
 The contract of the reader's value. Condition: the text has at most 2 to the 44th bytes.
-/
import Derived.Test.YtgkdaebiefhgdaaGreatDoorPMarkRdName
namespace Go.Proofs.YtgkdaebiefhgdaaGreatDoor
open Go.RowKit Utf Tagp
open Feat (Bs)
attribute [local go_sem] byte_mk ByteArray.extract_mk
theorem wantP_one (s : Bs) (c : UInt8) (i : Nat) : wantP s [c] i = eatP s c i := by
 rw [wantP]
 cases eatP s c i <;> rfl

set_option maxRecDepth 100000 in
set_option maxHeartbeats 3200000 in
theorem value_ok (s : Bs) (g i : Nat) (cl : Bool) (nm : Bs) (A : Option Addr) (m c : Nat) (w : World) (hs : s.length ≤ 17592186044416) (hi : i ≤ s.length) (hok : Rok w g s i cl nm (.slice A m c)) :
  Calls Tryz.prog 110 #[.pointer (some ⟨g, 0, none⟩)] w (Rds w g s cl nm (.slice A m c) (valueP s i) fun n x => x = str n) := by
 have k1 := Blk.cell hok 1
 have hJ := run_le plainCh s i hi
 have hJi := run_ge plainCh s i
 have HE : Hid (valueP s i = match eatP s 34 (run plainCh s i) with
  | .error e => .error e
  | .ok j => match unesc ((s.drop i).take (run plainCh s i - i)) with
   | (v, at', e) => if e ≠ 0 then .error (i + at', e) else if vErr v ≠ 0 then .error (i, vErr v) else .ok (v, j)) := rfl
 go_enter Tryz.func110, Tryz.ntmps110
 go_wp2
 go_loopw [13] (fun _ wr => ∃ j : Nat, i ≤ j ∧ j ≤ s.length ∧ w.grownBy wr (some g) ∧ Rok wr g s j cl nm (.slice A m c) ∧ Hid (run plainCh s i = run plainCh s j)) (fun _ wr => s.length - (intOf ((wr.cell? ⟨g, 1, none⟩).getD undef)).toNat)
 case atStart => exact ⟨i, Nat.le_refl _, hi, grown_drewN 0, hok, rfl⟩
 case round =>
  obtain ⟨j, hij, hj, hg, hat, hrun⟩ := hrel
  have c0 := Blk.cell hat 0
  have c1 := Blk.cell hat 1
  have cf := Blk.free hat 1
  have hgo : j < s.length ∧ ((s[j]!.toNat : Int) != 34) = true ∧ ((s[j]!.toNat : Int) != 60) = true ∧ ((s[j]!.toNat : Int) != 62) = true ∨ run plainCh s i = j := by
   by_cases hjl : j < s.length
   ·rw [getElem!_pos s j hjl]
    rcases plain_cases s[j] with ⟨hp, b1, b2, b3⟩ | ⟨hp, hb⟩
    ·exact .inl ⟨hjl, b1, b2, b3⟩
    ·exact .inr (hrun.out.trans (run_stop hjl hp))
   ·exact .inr (hrun.out.trans (run_end _ (by omega)))
  clear hgo
  by_cases hjl : j < s.length
  ·rcases plain_cases s[j] with ⟨hp, b1, b2, b3⟩ | ⟨hp, hb⟩
   ·have HR := Lib.hid (run_step (p := plainCh) hjl hp)
    clear hp
    go_wp2
    go_quiet (fail)
    go_wp2
    go_roundw
    case rel =>
     refine ⟨j + 1, by omega, by omega, hg.trans ((grown_drewN _).trans (grown_set _)), (hat.drewN _).move (j + 1), ?_⟩
     show _ = _
     rw [hrun.out, HR.out]
    case measure =>
     have e1 : ((wr.drewN nq).setCell ⟨g, 1, none⟩ (.int .i64 ((j : Int) + 1))).cell? ⟨g, 1, none⟩ = some (.int .i64 ((j + 1 : Nat) : Int)) := Blk.cell ((hat.drewN nq).move (j + 1)) 1
     rw [e1, c1]
     simp [intOf]
     omega
   ·have HR := Lib.hid (hrun.out.trans (run_stop (p := plainCh) hjl hp))
    clear hp
    rcases hb with b1 | ⟨b1, b2 | ⟨b2, b3⟩⟩
    all_goals go_wp2
    all_goals go_quiet (fail)
    all_goals go_wp2_with fail
    all_goals refine (want_ok s [34] g j cl nm A m c _ (by omega) (by simp) hj (hat.drewN nq)).mono ?_
    all_goals rintro e w2 ⟨rfl, hg2, hm⟩
    all_goals rw [wantP_one] at hm
    all_goals have hg3 := hg.trans ((grown_drewN nq).trans hg2)
    all_goals clear c0 c1 cf
    all_goals cases hE : eatP s 34 j with
     | error p =>
      rw [hE] at hm
      simp only at hm
      have HF : Hid (valueP s i = .error p) := by show _ = _; rw [HE.out, HR.out, hE]
      have hbad := hm
      obtain ⟨i', hb⟩ := hm
      have k7 := Blk.cell hb 7
      clear hE
      go_wp2
      go_ret
      unfold Rds
      rw [HF.out]
      exact ⟨hg3, hbad, [], rfl⟩
     | ok J =>
      rw [hE] at hm
      simp only at hm
      obtain ⟨hat2, -⟩ := hm
      have hJe : J = j + 1 := (eatP_le hE).2
      subst hJe
      have HF : Hid (valueP s i = match unesc ((s.drop i).take (j - i)) with | (v, at', e) => if e ≠ 0 then .error (i + at', e) else if vErr v ≠ 0 then .error (i, vErr v) else .ok (v, j + 1)) := by show _ = _; rw [HE.out, HR.out, hE]
      clear hE
      have c0' := Blk.cell hat2 0
      have c7' := Blk.cell hat2 7
      have hul := unesc_len ((s.drop i).take (j - i))
      have hcl : ((s.drop i).take (j - i)).length ≤ s.length := by rw [List.length_take, List.length_drop]; omega
      have hexU := fun W => refUnescape_any ((s.drop i).take (j - i)) (by omega) W
      unfold Une at hexU
      obtain ⟨v, a', e', hu⟩ : ∃ v a' e', unesc ((s.drop i).take (j - i)) = (v, a', e') := ⟨_, _, _, rfl⟩
      rw [hu] at hexU HF hul
      simp only at hexU hul
      have hbd : (0 : Int) ≤ (i : Int) ∧ (i : Int) ≤ (j : Int) ∧ (j : Int) ≤ (s.length : Int) := by omega
      have haw : IntKind.i64.wrap ((i : Int) + a') = ((i + a' : Nat) : Int) := by rw [IntWalk.i64_in _ (by omega)]; omega
      have hvl : v.length ≤ 9223372036854775807 := by omega
      have hul2 := hul.2
      clear hu hul hcl
      go_wp2_with fail
      refine (hexU _).mono ?_
      rintro e w3 ⟨hb3, rfl⟩
      have hgr := hg3.trans (grown_below hb3)
      have hat3 := hat2.below hb3
      by_cases h0 : e' = 0
      ·have q0 : ((e' : Int) != 0) = false := by rw [h0]; rfl
       have hex := refValue_any v hvl
       by_cases h1 : vErr v = 0
       ·have E : ((vErr v : Int) != 0) = false := by rw [h1]; rfl
        have HF2 : Hid (valueP s i = .ok (v, j + 1)) := by show _ = _; rw [HF.out]; simp [h0, h1]
        clear h0 h1
        go_wp2_with fail
        refine (hex _).mono ?_
        rintro e w4 ⟨rfl, hb4⟩
        go_wp2
        go_ret
        unfold Rds
        rw [HF2.out]
        exact ⟨hgr.trans (grown_below hb4), hat3.below hb4, _, rfl, rfl⟩
       ·have E : ((vErr v : Int) != 0) = true := by rw [bne_iff_ne]; omega
        have HF2 : Hid (valueP s i = .error (i, vErr v)) := by show _ = _; rw [HF.out]; simp [h0, h1]
        clear h0 h1
        go_wp2_with fail
        refine (hex _).mono ?_
        rintro e w4 ⟨rfl, hb4⟩
        go_wp2_with fail
        refine (fail_st s g (j + 1) i (vErr v) cl nm _ (0, 0) false _ (hat3.below hb4)).mono ?_
        rintro e w5 ⟨rfl, hg5, hb5⟩
        go_wp2
        go_ret
        unfold Rds
        rw [HF2.out]
        exact ⟨(hgr.trans (grown_below hb4)).trans hg5, ⟨_, hb5⟩, _, rfl⟩
      ·have q0 : ((e' : Int) != 0) = true := by rw [bne_iff_ne]; omega
       have HF2 : Hid (valueP s i = .error (i + a', e')) := by show _ = _; rw [HF.out]; simp [h0]
       clear h0
       go_wp2_with fail
       refine (fail_st s g (j + 1) (i + a') e' cl nm _ (0, 0) false _ hat3).mono ?_
       rintro e w5 ⟨rfl, hg5, hb5⟩
       go_wp2
       go_ret
       unfold Rds
       rw [HF2.out]
       exact ⟨hgr.trans hg5, ⟨_, hb5⟩, [], rfl⟩
  ·have HR := Lib.hid (hrun.out.trans (run_end plainCh (s := s) (i := j) (by omega)))
   have hE : eatP s 34 j = .error (j, 3) := by unfold eatP; rw [List.getElem?_eq_none (by omega)]; simp
   have HF : Hid (valueP s i = .error (j, 3)) := by show _ = _; rw [HE.out, HR.out, hE]
   go_wp2
   go_quiet (fail)
   go_wp2_with fail
   refine (want_ok s [34] g j cl nm A m c _ (by omega) (by simp) hj (hat.drewN nq)).mono ?_
   rintro e w2 ⟨rfl, hg2, hm⟩
   rw [wantP_one, hE] at hm
   simp only at hm
   have hbad := hm
   obtain ⟨i', hb⟩ := hm
   have k7 := Blk.cell hb 7
   clear c0 c1 cf
   go_wp2
   go_ret
   unfold Rds
   rw [HF.out]
   exact ⟨hg.trans ((grown_drewN nq).trans hg2), hbad, [], rfl⟩
end Go.Proofs.YtgkdaebiefhgdaaGreatDoor
