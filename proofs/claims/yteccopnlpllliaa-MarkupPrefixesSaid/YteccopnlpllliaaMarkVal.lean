/-
  The contract of the scanner's value. Condition: the text has at most 2 to the 44th bytes.
-/
import Derived.Test.YteccopnlpllliaaMarkScan
import Derived.Deep.RegionLaw
namespace Go.Proofs.Yteccopnlpllliaa
open Go.RowKit Utf Tagp
open Feat (Bs)
attribute [local go_sem] byte_mk ByteArray.extract_mk

theorem grown_below {w w' : World} {row : Option Nat} (h : Below w.heap.size w w') : w.grownBy w' row := ⟨h.os, h.tape, h.output, h.size, fun k hk _ => h.block k hk⟩
theorem grown_drew {w : World} {row : Option Nat} : w.grownBy w.drew row := ⟨rfl, rfl, rfl, Nat.le_refl _, fun _ _ _ => rfl⟩
theorem At.below {w w' : World} {g i : Nat} {s : Bs} (h : At w g s i) (hb : Below w.heap.size w w') : At w' g s i := (hb.block g (Blk.lt h)).trans h
theorem ch_of (c : UInt8) (n : UInt8) : ((c.toNat : Int) != (n.toNat : Int)) = (c != n) := by
  rw [Bool.eq_iff_iff]; simp only [bne_iff_ne]
  exact ⟨fun h e => h (by rw [e]), fun h e => h (UInt8.toNat_inj.1 (by omega))⟩
theorem plain_cases (c : UInt8) : (plainCh c = true ∧ ((c.toNat : Int) != 34) = true ∧ ((c.toNat : Int) != 60) = true ∧ ((c.toNat : Int) != 62) = true) ∨
    (plainCh c = false ∧ (((c.toNat : Int) != 34) = false ∨ (((c.toNat : Int) != 34) = true ∧ (((c.toNat : Int) != 60) = false ∨ (((c.toNat : Int) != 60) = true ∧ ((c.toNat : Int) != 62) = false))))) := by
  have h1 := ch_of c 34
  have h2 := ch_of c 60
  have h3 := ch_of c 62
  have e1 : ((34 : UInt8).toNat : Int) = 34 := rfl
  have e2 : ((60 : UInt8).toNat : Int) = 60 := rfl
  have e3 : ((62 : UInt8).toNat : Int) = 62 := rfl
  rw [e1] at h1
  rw [e2] at h2
  rw [e3] at h3
  unfold plainCh
  rw [h1, h2, h3]
  cases (c != 34) <;> cases (c != 60) <;> cases (c != 62) <;> simp

theorem unl_len : ∀ (s : Bs) (k i : Nat) (v : Bs), k ≤ s.length → Tagp.un s k i = .ok v → v.length + k ≤ s.length
  | [], k, i, v, hk, h => by simp [Tagp.un] at h; subst h; simpa using hk
  | c :: r, k + 1, i, v, hk, h => by
    rw [Tagp.un] at h
    have := unl_len r k (i + 1) v (by simpa using hk) h
    simp; omega
  | c :: r, 0, i, v, hk, h => by
    rw [Tagp.un] at h
    split at h
    · split at h
      · cases h
      · rename_i hn
        have hm := esc1_min _ hn
        have hl := esc1_len (c :: r)
        simp only [List.length_cons] at hl
        cases hu : Tagp.un r ((esc1 (c :: r)).2 - 1) (i + 1) with
        | error p => rw [hu] at h; cases h
        | ok v' =>
          rw [hu] at h
          have hv := unl_len r _ (i + 1) v' (by omega) hu
          have he := enc_len (esc1 (c :: r)).1
          have hvv : enc (esc1 (c :: r)).1 ++ v' = v := Except.ok.inj h
          rw [← hvv, List.length_append, List.length_cons]
          omega
    · cases hu : Tagp.un r 0 (i + 1) with
      | error p => rw [hu] at h; cases h
      | ok v' =>
        rw [hu] at h
        have hv := unl_len r 0 (i + 1) v' (by omega) hu
        have hvv : c :: v' = v := by cases h; rfl
        rw [← hvv]
        simp; omega
theorem unl_err : ∀ (s : Bs) (k i p : Nat), Tagp.un s k i = .error p → p < i + s.length
  | [], k, i, p, h => by simp [Tagp.un] at h
  | c :: r, k + 1, i, p, h => by
    rw [Tagp.un] at h
    have := unl_err r k (i + 1) p h
    simp; omega
  | c :: r, 0, i, p, h => by
    rw [Tagp.un] at h
    split at h
    · split at h
      · cases h; simp
      · cases hu : Tagp.un r ((esc1 (c :: r)).2 - 1) (i + 1) with
        | error q =>
          rw [hu] at h
          have hq : q = p := by cases h; rfl
          subst hq
          have := unl_err r _ (i + 1) q hu
          simp; omega
        | ok v' => rw [hu] at h; cases h
    · cases hu : Tagp.un r 0 (i + 1) with
      | error q =>
        rw [hu] at h
        have hq : q = p := by cases h; rfl
        subst hq
        have := unl_err r 0 (i + 1) q hu
        simp; omega
      | ok v' => rw [hu] at h; cases h
theorem unesc_len (s : Bs) : (unesc s).1.length ≤ s.length ∧ (unesc s).2.1 ≤ s.length := by
  unfold unesc
  cases h : Tagp.un s 0 0 with
  | ok v => exact ⟨unl_len s 0 0 v (by omega) h, by simp⟩
  | error p => have := unl_err s 0 0 p h; exact ⟨by simp, by simp only; omega⟩

set_option maxRecDepth 100000 in
set_option maxHeartbeats 3200000 in
theorem value_scan (s : Bs) (g i : Nat) (w : World) (hs : s.length ≤ 17592186044416) (hi : i ≤ s.length) (h : At w g s i) :
    Calls Try.prog 59 #[.pointer (some ⟨g, 0, none⟩)] w (Scan s g w (valueP s i) fun n v _ => v = str n) := by
  have k1 := h.c1
  have hJ := run_le plainCh s i hi
  have hJi := run_ge plainCh s i
  have HE : Hid (valueP s i = match eatP s 34 (run plainCh s i) with
    | .error e => .error e
    | .ok j => match unesc ((s.drop i).take (run plainCh s i - i)) with
      | (v, at', e) => if e ≠ 0 then .error (i + at', e) else if vErr v ≠ 0 then .error (i, vErr v) else .ok (v, j)) := rfl
  go_enter Try.func59, Try.ntmps59
  go_wp2
  go_loopw [62] (fun _ wr => ∃ j : Nat, i ≤ j ∧ j ≤ s.length ∧ w.grownBy wr (some g) ∧ At wr g s j ∧ Hid (run plainCh s i = run plainCh s j)) (fun _ wr => s.length - (intOf ((wr.cell? ⟨g, 1, none⟩).getD undef)).toNat)
  case atStart => exact ⟨i, Nat.le_refl _, hi, grown_drewN 0, h, rfl⟩
  case round =>
    obtain ⟨j, hij, hj, hg, hat, hrun⟩ := hrel
    have c0 := hat.c0
    have c1 := hat.c1
    have cf := hat.free 1
    by_cases hjl : j < s.length
    · rcases plain_cases s[j] with ⟨hp, b1, b2, b3⟩ | ⟨hp, hb⟩
      · have HR := Lib.hid (run_step (p := plainCh) hjl hp)
        clear hp
        go_wp2
        go_quiet (fail)
        go_wp2
        go_roundw
        case rel =>
          refine ⟨j + 1, by omega, by omega, hg.trans ((grown_drewN _).trans (grown_move _)), (hat.drewN _).move (j + 1), ?_⟩
          show _ = _
          rw [hrun.out, HR.out]
        case measure =>
          have e1 : ((wr.drewN nq).setCell ⟨g, 1, none⟩ (.int .i64 ((j : Int) + 1))).cell? ⟨g, 1, none⟩ = some (.int .i64 ((j + 1 : Nat) : Int)) := ((hat.drewN nq).move (j + 1)).c1
          rw [e1, c1]
          simp [intOf]
          omega
      · have HR := Lib.hid (run_stop (p := plainCh) hjl hp)
        clear hp
        rcases hb with b1 | ⟨b1, b2 | ⟨b2, b3⟩⟩
        all_goals go_wp2
        all_goals go_quiet (fail)
        all_goals go_wp2_with fail
        all_goals refine (eat_any s g j 34 _ (by omega) hj (hat.drewN nq)).mono ?_
        all_goals rintro e w2 ⟨hg2, hm⟩
        all_goals have hg3 := hg.trans ((grown_drewN nq).trans hg2)
        all_goals cases hE : eatP s 34 j with
          | error p =>
            rw [hE] at hm
            simp only [Except.map] at hm
            subst hm
            have HF : Hid (valueP s i = .error p) := by show _ = _; rw [HE.out, hrun.out, HR.out, hE]
            clear hE
            unfold fault
            go_wp2
            refine ⟨rfl, hg3, ?_⟩
            rw [HF.out]
            rfl
          | ok J =>
            rw [hE] at hm
            simp only [Except.map] at hm
            obtain ⟨hat2, v, rfl, rfl⟩ := hm
            have hJe : J = j + 1 := by unfold eatP at hE; split at hE <;> cases hE; rfl
            subst hJe
            have HF : Hid (valueP s i = match unesc ((s.drop i).take (j - i)) with | (v, at', e) => if e ≠ 0 then .error (i + at', e) else if vErr v ≠ 0 then .error (i, vErr v) else .ok (v, j + 1)) := by show _ = _; rw [HE.out, hrun.out, HR.out, hE]
            clear hE
            have c0' := hat2.c0
            have c1' := hat2.c1
            have hul := unesc_len ((s.drop i).take (j - i))
            have hcl : ((s.drop i).take (j - i)).length ≤ s.length := by rw [List.length_take, List.length_drop]; omega
            have hexU := fun W => unescape_any ((s.drop i).take (j - i)) (by omega) W
            unfold Une at hexU
            obtain ⟨v, a', e', hu⟩ : ∃ v a' e', unesc ((s.drop i).take (j - i)) = (v, a', e') := ⟨_, _, _, rfl⟩
            rw [hu] at hexU HF hul
            simp only at hexU hul
            have hwj : IntKind.i64.wrap (j : Int) = (j : Int) := IntWalk.i64_in _ (by omega)
            have hbd : (0 : Int) ≤ (i : Int) ∧ (i : Int) ≤ (j : Int) ∧ (j : Int) ≤ (s.length : Int) := by omega
            have haw : IntKind.i64.wrap ((i : Int) + a') = ((i + a' : Nat) : Int) := by rw [IntWalk.i64_in _ (by omega)]; omega
            have hvl : v.length ≤ 9223372036854775807 := by omega
            clear hu hul hcl
            go_wp2
            go_region_law (go_simp; refine (hexU _).mono ?_; rintro e w3 ⟨hb3, rfl⟩; go_simp)
            all_goals
              have hgr := hg3.trans (grown_drew.trans (grown_below hb3))
              have hat3 : At w3 g s (j + 1) := At.below (w := w2.drew) hat2 hb3
              by_cases h0 : e' = 0
              · have q0 : ((e' : Int) != 0) = false := by rw [h0]; rfl
                have hex := value_any v hvl
                by_cases h1 : vErr v = 0
                · have E : Hid ((vErr v : Int) = 0) := by show _ = _; rw [h1]; rfl
                  have HF2 : Hid (valueP s i = .ok (v, j + 1)) := by show _ = _; rw [HF.out]; simp [h0, h1]
                  clear h0 h1
                  go_wp2_with fail
                  refine (hex _).mono ?_
                  rintro e w4 ⟨rfl, hb4⟩
                  rw [E.out]
                  go_wp2
                  go_ret
                  rw [HF2.out]
                  exact ⟨hgr.trans (grown_below hb4), hat3.below hb4, _, rfl, rfl⟩
                · have E : ((vErr v : Int) != 0) = true := by rw [bne_iff_ne]; omega
                  have HF2 : Hid (valueP s i = .error (i, vErr v)) := by show _ = _; rw [HF.out]; simp [h0, h1]
                  clear h0 h1
                  go_wp2_with fail
                  refine (hex _).mono ?_
                  rintro e w4 ⟨rfl, hb4⟩
                  go_wp2
                  refine ⟨rfl, hgr.trans (grown_below hb4), ?_⟩
                  rw [HF2.out]
                  rfl
              · have q0 : ((e' : Int) != 0) = true := by rw [bne_iff_ne]; omega
                have HF2 : Hid (valueP s i = .error (i + a', e')) := by show _ = _; rw [HF.out]; simp [h0]
                clear h0
                go_wp2
                refine ⟨rfl, hgr, ?_⟩
                rw [HF2.out]
                rfl
    · have HR := Lib.hid (run_end plainCh (s := s) (i := j) (by omega))
      have hE : eatP s 34 j = .error (j, 3) := by unfold eatP; rw [List.getElem?_eq_none (by omega)]; simp
      have HF : Hid (valueP s i = .error (j, 3)) := by show _ = _; rw [HE.out, hrun.out, HR.out, hE]
      go_wp2
      go_quiet (fail)
      go_wp2_with fail
      refine (eat_any s g j 34 _ (by omega) hj (hat.drewN nq)).mono ?_
      rintro e w2 ⟨hg2, hm⟩
      rw [hE] at hm
      simp only [Except.map] at hm
      subst hm
      clear hE
      unfold fault
      go_wp2
      refine ⟨rfl, hg.trans ((grown_drewN nq).trans hg2), ?_⟩
      rw [HF.out]
      rfl
end Go.Proofs.Yteccopnlpllliaa
