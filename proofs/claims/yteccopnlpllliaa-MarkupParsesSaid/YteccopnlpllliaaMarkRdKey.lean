/-
  The contract of the reader's name for a key. Conditions: the text's length is an int; at most eight keys have been read.
-/
import Derived.Test.YteccopnlpllliaaMarkRdName
namespace Go.Proofs.Yteccopnlpllliaa
open Go.RowKit Utf Tagp
open Feat (Bs)
attribute [local go_sem] byte_mk ByteArray.extract_mk

/-- A key's name, new and not the ninth. -/
def nameK (s : Bs) (l : List KV) (i : Nat) : R (Bs × Nat) :=
  match nameP s i with
  | .error e => .error e
  | .ok (n, j) => if hasK l n = true then .error (i, 5) else if l.length = 8 then .error (i, 2) else .ok (n, j)

/-- Amid the keys read before. -/
def NInv (w : World) (g : Nat) (s : Bs) (i j : Nat) (cl : Bool) (nm : Bs) (A : Option Addr) (m c : Nat) (l : List KV) (nn : Bs) (iv : Value) (wx : World) : Prop :=
  ∃ (k : Nat) (p : Nat × Nat) (b : Bool), k ≤ m ∧ iv = .int .i64 k ∧ w.grownBy wx (some g) ∧ Rst wx g s j cl nm (.slice A m c) p b ∧ Hid ((b = true → nameK s l i = .error p) ∧ (b = false → hasK (l.take k) nn = false ∧ p = (0, 0) ∧ nameK s l i = if hasK l nn = true then .error (i, 5) else if l.length = 8 then .error (i, 2) else .ok (nn, j)))

set_option maxRecDepth 100000 in
set_option maxHeartbeats 3200000 in
theorem name1_ok (s : Bs) (g i : Nat) (cl : Bool) (nm : Bs) (A : Option Addr) (m c : Nat) (w : World) (hs : s.length ≤ 9223372036854775807) (hi : i ≤ s.length) (l : List KV) (hl8 : l.length ≤ 8) (hsl : Sl w w.heap.size 2 A m (prs l)) (hne : ∀ ga o, A = some ⟨ga, o, none⟩ → ga ≠ g) (hok : Rok w g s i cl nm (.slice A m c)) :
    Calls Try.prog 43 #[.pointer (some ⟨g, 0, none⟩), .bool true] w (Rds w g s cl nm (.slice A m c) (nameK s l i) fun n x => x = str n) := by
  have hml : l.length = m := by have := hsl.1; rw [prs_len] at this; omega
  have k0 := Blk.cell hok 0
  have k1 := Blk.cell hok 1
  have k7 := Blk.cell hok 7
  by_cases hlt : i < s.length
  · have he : s[i]? = some s[i] := List.getElem?_eq_getElem hlt
    have hd : decide ((s.length : Int) ≤ (i : Int)) = false := by rw [decide_eq_false_iff_not]; omega
    have hdn : decide (s.length ≤ i) = false := by rw [decide_eq_false_iff_not]; omega
    cases hb : beg s[i] with
    | false =>
      have HE : Hid (nameK s l i = .error (i, 3)) := by show _ = _; unfold nameK nameP; rw [he]; simp [hb]
      have HB := Lib.hid hb
      clear he hb
      go_enter Try.func43, Try.ntmps43
      go_wp2
      go_quiet (exact Calls.quiet_of_same (first_is HB.out _))
      go_wp2_with fail
      refine (fail_st s g i i 3 cl nm _ (0, 0) false _ (hok.drewN nq)).mono ?_
      rintro e w2 ⟨rfl, hg2, hb2⟩
      go_wp2
      go_ret
      unfold Rds
      rw [HE.out]
      exact ⟨(grown_drewN _).trans hg2, ⟨_, hb2⟩, [], rfl⟩
    | true =>
      have HE : Hid (nameP s i = if 32 < run gon s i - i then .error (i, 2) else .ok ((s.drop i).take (run gon s i - i), run gon s i)) := by show _ = _; unfold nameP; rw [he]; simp [hb]
      have HB := Lib.hid hb
      clear he hb
      go_enter Try.func43, Try.ntmps43
      go_wp2
      go_quiet (exact Calls.quiet_of_same (first_is HB.out _))
      go_wp2
      go_loopw [48] (fun _ wr => ∃ j : Nat, i ≤ j ∧ j ≤ s.length ∧ w.grownBy wr (some g) ∧ Rok wr g s j cl nm (.slice A m c) ∧ Hid (run gon s i = run gon s j)) (fun _ wr => s.length - (intOf ((wr.cell? ⟨g, 1, none⟩).getD undef)).toNat)
      case atStart => exact ⟨i, Nat.le_refl _, hi, grown_drewN _, hok.drewN _, rfl⟩
      case round =>
        obtain ⟨j, hij, hj, hg, hat, hrun⟩ := hrel
        clear k0 k1 k7
        have c0 := Blk.cell hat 0
        have c1 := Blk.cell hat 1
        have cf := Blk.free hat 1
        have hexit : (j < s.length → gon s[j]! = false) → run gon s i = j := by
          intro hh
          rw [hrun.out]
          by_cases hjl : j < s.length
          · refine run_stop hjl ?_
            have := hh hjl
            rwa [getElem!_pos s j hjl] at this
          · exact run_end _ (by omega)
        by_cases hjl : j < s.length
        · cases hgn : gon s[j] with
          | true =>
            have HR := Lib.hid (run_step (p := gon) hjl hgn)
            have HG := Lib.hid hgn
            clear hgn hexit
            go_wp2
            go_quiet (exact Calls.quiet_of_same (next_is HG.out _))
            go_wp2
            go_roundw
            case rel =>
              refine ⟨j + 1, by omega, by omega, hg.trans ((grown_drewN _).trans (grown_set _)), (hat.drewN _).move (j + 1), ?_⟩
              show _ = _
              rw [hrun.out, HR.out]
            case measure =>
              have e1 : ((wr.drewN nq).setCell ⟨g, 1, none⟩ (.int .i64 ((j : Int) + 1))).cell? ⟨g, 1, none⟩ = some (.int .i64 ((j + 1 : Nat) : Int)) := Blk.cell ((hat.drewN nq).move (j + 1)) 1
              rw [e1, c1]
              simp [intOf]
              omega
          | false =>
            have HX := Lib.hid (hexit (fun _ => by rw [getElem!_pos s j hjl]; exact hgn))
            have HG := Lib.hid hgn
            clear hgn hexit
            by_cases h32 : 32 < j - i
            · obtain ⟨nn, hnn⟩ : ∃ nn, (s.drop i).take (j - i) = nn := ⟨_, rfl⟩
              have hnl : nn.length = j - i := by rw [← hnn, List.length_take, List.length_drop]; omega
              have HF : Hid (nameK s l i = .error (i, 2)) := by show _ = _; unfold nameK; rw [HE.out, HX.out, if_pos h32]
              have h32' : decide ((32 : Int) < (nn.length : Int)) = true := by rw [decide_eq_true_iff]; omega
              go_wp2
              go_quiet (exact Calls.quiet_of_same (next_is HG.out _))
              go_wp2
              go_quiet (fail)
              go_wp2_with fail
              refine (fail_st s g j i 2 cl nm _ (0, 0) false _ (hat.drewN _)).mono ?_
              rintro e w2 ⟨rfl, hg2, hb2⟩
              have hgB := hg.trans ((grown_drewN _).trans hg2)
              have b4 := Blk.cell hb2 4
              go_wp2
              go_loopw [100] (fun iv wx => NInv w g s i j cl nm A m c l nn iv wx) (fun iv _ => m - (intOf iv).toNat)
              case atStart => exact ⟨0, _, true, Nat.zero_le _, rfl, hgB, hb2, ⟨fun _ => HF.out, fun h => by cases h⟩⟩
              case round =>
                obtain ⟨k, p, b, hk, rfl, hgx, hrx, hinv⟩ := hrel
                have e2 := Blk.cell hrx 4
                by_cases hkm : k < m
                · obtain ⟨ga, o, hk', rfl, hgl, d0, d1⟩ := sl_pair (hsl.grown (Nat.le_refl _) hgx hne) hkm
                  have hst := Lib.hid (hasK_step (n := nn) hk')
                  have hyes : (l[k].1 == nn) = true → hasK l nn = true := fun hx => by
                    unfold hasK
                    exact List.any_eq_true.2 ⟨l[k], List.getElem_mem hk', hx⟩
                  obtain ⟨q, hq⟩ : ∃ q, l[k] = q := ⟨_, rfl⟩
                  rw [hq] at d0 d1 hst hyes
                  have HY0 := Lib.hid hyes
                  clear hq hyes
                  have hrxa : Rst (wr.alloc (.cells #[str q.1, str q.2] 52)) g s j cl nm (.slice (some ⟨ga, o, none⟩) m c) p b := Blk.alloc hrx _
                  cases hx : (q.1 == nn) with
                  | true =>
                    have HY := Lib.hid (HY0.out hx)
                    go_wp2_with fail
                    refine (fail_st s g j i 5 cl nm _ p b _ hrxa).mono ?_
                    rintro e w3 ⟨rfl, hg3, hr3⟩
                    go_wp2
                    go_roundw
                    case rel =>
                      refine ⟨k + 1, _, true, by omega, by go_num, hgx.trans ((grown_alloc _).trans hg3), hr3, ⟨fun _ => ?_, fun h => by cases h⟩⟩
                      cases b with
                      | true => exact hinv.out.1 rfl
                      | false => exact (hinv.out.2 rfl).2.2.trans (if_pos HY.out)
                    case measure => simp [intOf]; omega
                  | false =>
                    have HX := Lib.hid hx
                    go_wp2
                    go_roundw
                    case rel =>
                      refine ⟨k + 1, p, b, by omega, by go_num, hgx.trans (grown_alloc _), hrxa, ⟨hinv.out.1, fun h => ⟨?_, (hinv.out.2 h).2⟩⟩⟩
                      rw [hst.out, (hinv.out.2 h).1, HX.out]; rfl
                    case measure => simp [intOf]; omega
                · have htk : l.take k = l := List.take_of_length_le (by omega)
                  by_cases h8 : 8 ≤ m
                  · have q8 : decide ((8 : Int) ≤ (m : Int)) = true := by rw [decide_eq_true_iff]; omega
                    go_wp2_with fail
                    refine (fail_st s g j i 2 cl nm _ p b _ hrx).mono ?_
                    rintro e w3 ⟨rfl, hg3, hr3⟩
                    go_wp2
                    go_ret
                    have hfin : nameK s l i = .error (if b = true then p else (i, 2)) := by
                      cases b with
                      | true => exact hinv.out.1 rfl
                      | false =>
                        have h0 := (hinv.out.2 rfl).1
                        rw [htk] at h0
                        exact (hinv.out.2 rfl).2.2.trans ((if_neg (by rw [h0]; simp)).trans (if_pos (by omega)))
                    unfold Rds
                    rw [hfin]
                    exact ⟨hgx.trans hg3, ⟨_, hr3⟩, _, rfl⟩
                  · have q8 : decide ((8 : Int) ≤ (m : Int)) = false := by rw [decide_eq_false_iff_not]; omega
                    go_wp2
                    go_ret
                    cases b with
                    | true =>
                      unfold Rds
                      rw [hinv.out.1 rfl]
                      exact ⟨hgx, ⟨_, hrx⟩, _, rfl⟩
                    | false =>
                      obtain ⟨h0, hp0, h2⟩ := hinv.out.2 rfl
                      rw [htk] at h0
                      have hfin : nameK s l i = .ok (nn, j) := h2.trans ((if_neg (by rw [h0]; simp)).trans (if_neg (by omega)))
                      subst hp0
                      unfold Rds
                      rw [hfin]
                      exact ⟨hgx, hrx, _, rfl, rfl⟩
            · obtain ⟨nn, hnn⟩ : ∃ nn, (s.drop i).take (j - i) = nn := ⟨_, rfl⟩
              have hnl : nn.length = j - i := by rw [← hnn, List.length_take, List.length_drop]; omega
              have HF : Hid (nameK s l i = if hasK l nn = true then .error (i, 5) else if l.length = 8 then .error (i, 2) else .ok (nn, j)) := by show _ = _; unfold nameK; rw [HE.out, HX.out, if_neg h32, hnn]
              have h32' : decide ((32 : Int) < (nn.length : Int)) = false := by rw [decide_eq_false_iff_not]; omega
              have b4 := Blk.cell hat 4
              go_wp2
              go_quiet (exact Calls.quiet_of_same (next_is HG.out _))
              go_wp2
              go_quiet (fail)
              go_wp2
              go_loopw [100] (fun iv wx => NInv w g s i j cl nm A m c l nn iv wx) (fun iv _ => m - (intOf iv).toNat)
              case atStart => exact ⟨0, (0, 0), false, Nat.zero_le _, rfl, hg.trans (grown_drewN _), hat.drewN _, ⟨(fun h => by cases h), fun _ => ⟨rfl, rfl, HF.out⟩⟩⟩
              case round =>
                obtain ⟨k, p, b, hk, rfl, hgx, hrx, hinv⟩ := hrel
                have e2 := Blk.cell hrx 4
                by_cases hkm : k < m
                · obtain ⟨ga, o, hk', rfl, hgl, d0, d1⟩ := sl_pair (hsl.grown (Nat.le_refl _) hgx hne) hkm
                  have hst := Lib.hid (hasK_step (n := nn) hk')
                  have hyes : (l[k].1 == nn) = true → hasK l nn = true := fun hx => by
                    unfold hasK
                    exact List.any_eq_true.2 ⟨l[k], List.getElem_mem hk', hx⟩
                  obtain ⟨q, hq⟩ : ∃ q, l[k] = q := ⟨_, rfl⟩
                  rw [hq] at d0 d1 hst hyes
                  have HY0 := Lib.hid hyes
                  clear hq hyes
                  have hrxa : Rst (wr.alloc (.cells #[str q.1, str q.2] 52)) g s j cl nm (.slice (some ⟨ga, o, none⟩) m c) p b := Blk.alloc hrx _
                  cases hx : (q.1 == nn) with
                  | true =>
                    have HY := Lib.hid (HY0.out hx)
                    go_wp2_with fail
                    refine (fail_st s g j i 5 cl nm _ p b _ hrxa).mono ?_
                    rintro e w3 ⟨rfl, hg3, hr3⟩
                    go_wp2
                    go_roundw
                    case rel =>
                      refine ⟨k + 1, _, true, by omega, by go_num, hgx.trans ((grown_alloc _).trans hg3), hr3, ⟨fun _ => ?_, fun h => by cases h⟩⟩
                      cases b with
                      | true => exact hinv.out.1 rfl
                      | false => exact (hinv.out.2 rfl).2.2.trans (if_pos HY.out)
                    case measure => simp [intOf]; omega
                  | false =>
                    have HX := Lib.hid hx
                    go_wp2
                    go_roundw
                    case rel =>
                      refine ⟨k + 1, p, b, by omega, by go_num, hgx.trans (grown_alloc _), hrxa, ⟨hinv.out.1, fun h => ⟨?_, (hinv.out.2 h).2⟩⟩⟩
                      rw [hst.out, (hinv.out.2 h).1, HX.out]; rfl
                    case measure => simp [intOf]; omega
                · have htk : l.take k = l := List.take_of_length_le (by omega)
                  by_cases h8 : 8 ≤ m
                  · have q8 : decide ((8 : Int) ≤ (m : Int)) = true := by rw [decide_eq_true_iff]; omega
                    go_wp2_with fail
                    refine (fail_st s g j i 2 cl nm _ p b _ hrx).mono ?_
                    rintro e w3 ⟨rfl, hg3, hr3⟩
                    go_wp2
                    go_ret
                    have hfin : nameK s l i = .error (if b = true then p else (i, 2)) := by
                      cases b with
                      | true => exact hinv.out.1 rfl
                      | false =>
                        have h0 := (hinv.out.2 rfl).1
                        rw [htk] at h0
                        exact (hinv.out.2 rfl).2.2.trans ((if_neg (by rw [h0]; simp)).trans (if_pos (by omega)))
                    unfold Rds
                    rw [hfin]
                    exact ⟨hgx.trans hg3, ⟨_, hr3⟩, _, rfl⟩
                  · have q8 : decide ((8 : Int) ≤ (m : Int)) = false := by rw [decide_eq_false_iff_not]; omega
                    go_wp2
                    go_ret
                    cases b with
                    | true =>
                      unfold Rds
                      rw [hinv.out.1 rfl]
                      exact ⟨hgx, ⟨_, hrx⟩, _, rfl⟩
                    | false =>
                      obtain ⟨h0, hp0, h2⟩ := hinv.out.2 rfl
                      rw [htk] at h0
                      have hfin : nameK s l i = .ok (nn, j) := h2.trans ((if_neg (by rw [h0]; simp)).trans (if_neg (by omega)))
                      subst hp0
                      unfold Rds
                      rw [hfin]
                      exact ⟨hgx, hrx, _, rfl, rfl⟩
        · have HX := Lib.hid (hexit (fun h => absurd h hjl))
          clear hexit
          by_cases h32 : 32 < j - i
          · obtain ⟨nn, hnn⟩ : ∃ nn, (s.drop i).take (j - i) = nn := ⟨_, rfl⟩
            have hnl : nn.length = j - i := by rw [← hnn, List.length_take, List.length_drop]; omega
            have HF : Hid (nameK s l i = .error (i, 2)) := by show _ = _; unfold nameK; rw [HE.out, HX.out, if_pos h32]
            have h32' : decide ((32 : Int) < (nn.length : Int)) = true := by rw [decide_eq_true_iff]; omega
            go_wp2
            go_quiet (fail)
            go_wp2
            go_quiet (fail)
            go_wp2_with fail
            refine (fail_st s g j i 2 cl nm _ (0, 0) false _ (hat.drewN _)).mono ?_
            rintro e w2 ⟨rfl, hg2, hb2⟩
            have hgB := hg.trans ((grown_drewN _).trans hg2)
            have b4 := Blk.cell hb2 4
            go_wp2
            go_loopw [100] (fun iv wx => NInv w g s i j cl nm A m c l nn iv wx) (fun iv _ => m - (intOf iv).toNat)
            case atStart => exact ⟨0, _, true, Nat.zero_le _, rfl, hgB, hb2, ⟨fun _ => HF.out, fun h => by cases h⟩⟩
            case round =>
              obtain ⟨k, p, b, hk, rfl, hgx, hrx, hinv⟩ := hrel
              have e2 := Blk.cell hrx 4
              by_cases hkm : k < m
              · obtain ⟨ga, o, hk', rfl, hgl, d0, d1⟩ := sl_pair (hsl.grown (Nat.le_refl _) hgx hne) hkm
                have hst := Lib.hid (hasK_step (n := nn) hk')
                have hyes : (l[k].1 == nn) = true → hasK l nn = true := fun hx => by
                  unfold hasK
                  exact List.any_eq_true.2 ⟨l[k], List.getElem_mem hk', hx⟩
                obtain ⟨q, hq⟩ : ∃ q, l[k] = q := ⟨_, rfl⟩
                rw [hq] at d0 d1 hst hyes
                have HY0 := Lib.hid hyes
                clear hq hyes
                have hrxa : Rst (wr.alloc (.cells #[str q.1, str q.2] 52)) g s j cl nm (.slice (some ⟨ga, o, none⟩) m c) p b := Blk.alloc hrx _
                cases hx : (q.1 == nn) with
                | true =>
                  have HY := Lib.hid (HY0.out hx)
                  go_wp2_with fail
                  refine (fail_st s g j i 5 cl nm _ p b _ hrxa).mono ?_
                  rintro e w3 ⟨rfl, hg3, hr3⟩
                  go_wp2
                  go_roundw
                  case rel =>
                    refine ⟨k + 1, _, true, by omega, by go_num, hgx.trans ((grown_alloc _).trans hg3), hr3, ⟨fun _ => ?_, fun h => by cases h⟩⟩
                    cases b with
                    | true => exact hinv.out.1 rfl
                    | false => exact (hinv.out.2 rfl).2.2.trans (if_pos HY.out)
                  case measure => simp [intOf]; omega
                | false =>
                  have HX := Lib.hid hx
                  go_wp2
                  go_roundw
                  case rel =>
                    refine ⟨k + 1, p, b, by omega, by go_num, hgx.trans (grown_alloc _), hrxa, ⟨hinv.out.1, fun h => ⟨?_, (hinv.out.2 h).2⟩⟩⟩
                    rw [hst.out, (hinv.out.2 h).1, HX.out]; rfl
                  case measure => simp [intOf]; omega
              · have htk : l.take k = l := List.take_of_length_le (by omega)
                by_cases h8 : 8 ≤ m
                · have q8 : decide ((8 : Int) ≤ (m : Int)) = true := by rw [decide_eq_true_iff]; omega
                  go_wp2_with fail
                  refine (fail_st s g j i 2 cl nm _ p b _ hrx).mono ?_
                  rintro e w3 ⟨rfl, hg3, hr3⟩
                  go_wp2
                  go_ret
                  have hfin : nameK s l i = .error (if b = true then p else (i, 2)) := by
                    cases b with
                    | true => exact hinv.out.1 rfl
                    | false =>
                      have h0 := (hinv.out.2 rfl).1
                      rw [htk] at h0
                      exact (hinv.out.2 rfl).2.2.trans ((if_neg (by rw [h0]; simp)).trans (if_pos (by omega)))
                  unfold Rds
                  rw [hfin]
                  exact ⟨hgx.trans hg3, ⟨_, hr3⟩, _, rfl⟩
                · have q8 : decide ((8 : Int) ≤ (m : Int)) = false := by rw [decide_eq_false_iff_not]; omega
                  go_wp2
                  go_ret
                  cases b with
                  | true =>
                    unfold Rds
                    rw [hinv.out.1 rfl]
                    exact ⟨hgx, ⟨_, hrx⟩, _, rfl⟩
                  | false =>
                    obtain ⟨h0, hp0, h2⟩ := hinv.out.2 rfl
                    rw [htk] at h0
                    have hfin : nameK s l i = .ok (nn, j) := h2.trans ((if_neg (by rw [h0]; simp)).trans (if_neg (by omega)))
                    subst hp0
                    unfold Rds
                    rw [hfin]
                    exact ⟨hgx, hrx, _, rfl, rfl⟩
          · obtain ⟨nn, hnn⟩ : ∃ nn, (s.drop i).take (j - i) = nn := ⟨_, rfl⟩
            have hnl : nn.length = j - i := by rw [← hnn, List.length_take, List.length_drop]; omega
            have HF : Hid (nameK s l i = if hasK l nn = true then .error (i, 5) else if l.length = 8 then .error (i, 2) else .ok (nn, j)) := by show _ = _; unfold nameK; rw [HE.out, HX.out, if_neg h32, hnn]
            have h32' : decide ((32 : Int) < (nn.length : Int)) = false := by rw [decide_eq_false_iff_not]; omega
            have b4 := Blk.cell hat 4
            go_wp2
            go_quiet (fail)
            go_wp2
            go_quiet (fail)
            go_wp2
            go_loopw [100] (fun iv wx => NInv w g s i j cl nm A m c l nn iv wx) (fun iv _ => m - (intOf iv).toNat)
            case atStart => exact ⟨0, (0, 0), false, Nat.zero_le _, rfl, hg.trans (grown_drewN _), hat.drewN _, ⟨(fun h => by cases h), fun _ => ⟨rfl, rfl, HF.out⟩⟩⟩
            case round =>
              obtain ⟨k, p, b, hk, rfl, hgx, hrx, hinv⟩ := hrel
              have e2 := Blk.cell hrx 4
              by_cases hkm : k < m
              · obtain ⟨ga, o, hk', rfl, hgl, d0, d1⟩ := sl_pair (hsl.grown (Nat.le_refl _) hgx hne) hkm
                have hst := Lib.hid (hasK_step (n := nn) hk')
                have hyes : (l[k].1 == nn) = true → hasK l nn = true := fun hx => by
                  unfold hasK
                  exact List.any_eq_true.2 ⟨l[k], List.getElem_mem hk', hx⟩
                obtain ⟨q, hq⟩ : ∃ q, l[k] = q := ⟨_, rfl⟩
                rw [hq] at d0 d1 hst hyes
                have HY0 := Lib.hid hyes
                clear hq hyes
                have hrxa : Rst (wr.alloc (.cells #[str q.1, str q.2] 52)) g s j cl nm (.slice (some ⟨ga, o, none⟩) m c) p b := Blk.alloc hrx _
                cases hx : (q.1 == nn) with
                | true =>
                  have HY := Lib.hid (HY0.out hx)
                  go_wp2_with fail
                  refine (fail_st s g j i 5 cl nm _ p b _ hrxa).mono ?_
                  rintro e w3 ⟨rfl, hg3, hr3⟩
                  go_wp2
                  go_roundw
                  case rel =>
                    refine ⟨k + 1, _, true, by omega, by go_num, hgx.trans ((grown_alloc _).trans hg3), hr3, ⟨fun _ => ?_, fun h => by cases h⟩⟩
                    cases b with
                    | true => exact hinv.out.1 rfl
                    | false => exact (hinv.out.2 rfl).2.2.trans (if_pos HY.out)
                  case measure => simp [intOf]; omega
                | false =>
                  have HX := Lib.hid hx
                  go_wp2
                  go_roundw
                  case rel =>
                    refine ⟨k + 1, p, b, by omega, by go_num, hgx.trans (grown_alloc _), hrxa, ⟨hinv.out.1, fun h => ⟨?_, (hinv.out.2 h).2⟩⟩⟩
                    rw [hst.out, (hinv.out.2 h).1, HX.out]; rfl
                  case measure => simp [intOf]; omega
              · have htk : l.take k = l := List.take_of_length_le (by omega)
                by_cases h8 : 8 ≤ m
                · have q8 : decide ((8 : Int) ≤ (m : Int)) = true := by rw [decide_eq_true_iff]; omega
                  go_wp2_with fail
                  refine (fail_st s g j i 2 cl nm _ p b _ hrx).mono ?_
                  rintro e w3 ⟨rfl, hg3, hr3⟩
                  go_wp2
                  go_ret
                  have hfin : nameK s l i = .error (if b = true then p else (i, 2)) := by
                    cases b with
                    | true => exact hinv.out.1 rfl
                    | false =>
                      have h0 := (hinv.out.2 rfl).1
                      rw [htk] at h0
                      exact (hinv.out.2 rfl).2.2.trans ((if_neg (by rw [h0]; simp)).trans (if_pos (by omega)))
                  unfold Rds
                  rw [hfin]
                  exact ⟨hgx.trans hg3, ⟨_, hr3⟩, _, rfl⟩
                · have q8 : decide ((8 : Int) ≤ (m : Int)) = false := by rw [decide_eq_false_iff_not]; omega
                  go_wp2
                  go_ret
                  cases b with
                  | true =>
                    unfold Rds
                    rw [hinv.out.1 rfl]
                    exact ⟨hgx, ⟨_, hrx⟩, _, rfl⟩
                  | false =>
                    obtain ⟨h0, hp0, h2⟩ := hinv.out.2 rfl
                    rw [htk] at h0
                    have hfin : nameK s l i = .ok (nn, j) := h2.trans ((if_neg (by rw [h0]; simp)).trans (if_neg (by omega)))
                    subst hp0
                    unfold Rds
                    rw [hfin]
                    exact ⟨hgx, hrx, _, rfl, rfl⟩
  · have hd : decide ((s.length : Int) ≤ (i : Int)) = true := by rw [decide_eq_true_iff]; omega
    have HE : Hid (nameK s l i = .error (i, 3)) := by show _ = _; unfold nameK nameP; rw [List.getElem?_eq_none (by omega)]; rfl
    go_enter Try.func43, Try.ntmps43
    go_wp2
    go_quiet (fail)
    go_wp2_with fail
    refine (fail_st s g i i 3 cl nm _ (0, 0) false _ (hok.drewN nq)).mono ?_
    rintro e w2 ⟨rfl, hg2, hb2⟩
    go_wp2
    go_ret
    unfold Rds
    rw [HE.out]
    exact ⟨(grown_drewN _).trans hg2, ⟨_, hb2⟩, [], rfl⟩
end Go.Proofs.Yteccopnlpllliaa
