/-
  Several texts of this seat, one behind the other: CorRegR, CorNodR, CorHeadR, CorValR. No conditions but those of each.
-/
import Derived.Test.YtgkdaebiefhgdaaGreatDoorFCorAtx
import Derived.Test.YtgkdaebiefhgdaaGreatDoorFCorPl
import Derived.Deep.RegionLaw
import Derived.Deep.CutRange
import Derived.Test.YtgkdaebiefhgdaaGreatDoorFCorNw
import Derived.Deep.RegionHeld3
import Derived.Test.YtgkdaebiefhgdaaGreatDoorFCorVal
namespace Go.Proofs.YtgkdaebiefhgdaaGreatDoor
open Go.RowKit Utf
open Feat (Bs)
open Tagp (KV okName)
open Cor (rgF rgErr prErr within crossR coverR cmpR)
theorem info_reg2 : (Tryz.prog.info? 69).map (fun i => (i.zero, i.size, i.bytes)) = some (some (.agg #[.string ⟨#[]⟩, .int .i64 0, .int .i64 0, .slice none 0 0]), 4, 56) := by kernel_rfl
theorem deep_yes {l : List Cor.Reg} {x : Cor.Reg} {j d : Nat} (hj : j < l.length) (h : d = ((l.take j).filter (coverR x)).length) (hc : coverR x l[j] = true) : d + 1 = ((l.take (j + 1)).filter (coverR x)).length := by
  rw [List.take_succ_eq_append_getElem hj, List.filter_append, List.length_append, ← h]; simp [hc]
theorem deep_no {l : List Cor.Reg} {x : Cor.Reg} {j d : Nat} (hj : j < l.length) (h : d = ((l.take j).filter (coverR x)).length) (hc : coverR x l[j] = false) : d = ((l.take (j + 1)).filter (coverR x)).length := by
  rw [List.take_succ_eq_append_getElem hj, List.filter_append, List.length_append, ← h]; simp [hc]

set_option maxRecDepth 100000 in
set_option maxHeartbeats 20000000 in
theorem refRegions_any (H : CH) (ts : List Cor.Txt) (l : List Cor.Reg) (w : World) (hts : Txts w w.heap.size H.x ts) (hx : Txts w w.heap.size H.r l) :
    Calls Tryz.prog 78 #[H.v] w (Kept (.tuple #[.int .i64 ((rgErr ts l).1 : Nat), .int .i64 ((rgErr ts l).2 : Nat)]) w) := by
  obtain ⟨ha, htt, hX, ⟨A, n, c⟩, hn, hh, hl⟩ := H
  show Calls Tryz.prog 78 #[.agg #[ha.v, htt.v, hX.v, .slice A n c, hn.v, hh.v, hl.v]] w _
  have HL := Lib.hid hx.len
  have f1 : n ≤ 9223372036854775807 := hx.fit.2
  have f2 : n ≤ c := hx.fit.1
  obtain ⟨i0, hi0, hz0, hz1, hz2⟩ := info_parts info_reg2
  have hB0 := (Below.refl w.heap.size w).alloc (Nat.le_refl _) (.cells #[ha.v, htt.v, hX.v, .slice A n c, hn.v, hh.v, hl.v] 30)
  have hb0 := Blk.new w 30 #[ha.v, htt.v, hX.v, .slice A n c, hn.v, hh.v, hl.v]
  by_cases h8 : 1024 < n
  · have HF : Hid (rgErr ts l = (0, 2)) := by show _ = _; unfold rgErr; rw [if_pos (by have : l.length = n := HL.out; omega)]
    go_enter Tryz.func78, Tryz.ntmps78
    go_wp2
    go_ret2
    exact ⟨ret_p HF.out rfl rfl, hB0⟩
  go_enter Tryz.func78, Tryz.ntmps78
  go_wp2
  go_loopw [17] (fun iv wr => ∃ k : Nat, k ≤ n ∧ iv = .int .i64 k ∧ Below w.heap.size w wr ∧ Blk wr w.heap.size 30 #[ha.v, htt.v, hX.v, .slice A n c, hn.v, hh.v, hl.v] ∧ Hid (∀ j, j < k → rgF ts l j = 0)) (fun iv _ => n - (intOf iv).toNat)
  case atStart => exact ⟨0, by omega, rfl, hB0, hb0, fun j hj => by omega⟩
  case round =>
    obtain ⟨k, hk, rfl, hB, hbx, hinv⟩ := hrel
    by_cases hlt : k < n
    · obtain ⟨g, o, ⟨A', n', c'⟩, hk', e0, hg, hok', c0w, c1w, c2w, c3w⟩ := hx.at_ hlt
      have e0 : A = some ⟨g, o, none⟩ := e0
      subst e0
      have c0 := (World.cell?_of_block (a := ⟨g, o + k * 4, none⟩) (hB.block g hg)).trans c0w
      have c1 := (World.cell?_of_block (a := ⟨g, o + k * 4 + 1, none⟩) (hB.block g hg)).trans c1w
      have c2 := (World.cell?_of_block (a := ⟨g, o + k * 4 + 2, none⟩) (hB.block g hg)).trans c2w
      have c3 := (World.cell?_of_block (a := ⟨g, o + k * 4 + 3, none⟩) (hB.block g hg)).trans c3w
      clear c0w c1w c2w c3w
      have HF := Lib.hid (Cor.rgF_at (ts := ts) hk')
      have HA := Lib.hid (fun h => Cor.rgErr_at (ts := ts) (l := l) (k := k) (by have : l.length = n := HL.out; omega) hk' hinv.out h)
      have hks := hok'.2.2.2
      have z0 : l[k].nm.length ≤ 9223372036854775807 := hok'.1
      have r1 : Rng l[k].b := hok'.2.1
      have r2 : Rng l[k].e := hok'.2.2.1
      clear hok'
      obtain ⟨⟨x, b, e, ks⟩, hx'⟩ : ∃ p, l[k] = p := ⟨_, rfl⟩
      rw [hx'] at HF c0 c1 c2 z0 r1 r2 hks
      clear hx'
      have hBa := hB.alloc hB.size (.cells #[str x, .int .i64 b, .int .i64 e, .slice A' n' c'] 69)
      have hpa := Blk.new wr 69 #[str x, .int .i64 b, .int .i64 e, .slice A' n' c']
      have hbxa := hbx.alloc (.cells #[str x, .int .i64 b, .int .i64 e, .slice A' n' c'] 69)
      have b00 := hbxa.cell 0
      have b01 := hbxa.cell 1
      have b02 := hbxa.cell 2
      have b03 := hbxa.cell 3
      have b04 := hbxa.cell 4
      have b05 := hbxa.cell 5
      have b06 := hbxa.cell 6
      have HT := Lib.hid (within_any ⟨ha, htt, hX, ⟨some ⟨g, o, none⟩, n, c⟩, hn, hh, hl⟩ ts b e (wr.alloc (.cells #[str x, .int .i64 b, .int .i64 e, .slice A' n' c'] 69)) ((hts.under hBa).up hBa.size))
      go_wp2_with fail
      refine (refValidName_any x z0 _).mono ?_
      rintro e' w1 ⟨rfl, rfl⟩
      cases hok : okName x with
      | false =>
        have HF2 := Lib.hid (HF.out.trans (if_pos hok))
        have HF3 : Hid (rgErr ts l = (k, 4)) := by show _ = _; rw [HA.out (by rw [HF2.out]; simp), HF2.out]
        clear hok HF HA HF2 HT
        go_wp2
        go_ret2
        exact ⟨ret_p HF3.out rfl rfl, hBa⟩
      | true =>
        have HF2 := Lib.hid (HF.out.trans (if_neg (by rw [hok]; simp)))
        clear hok HF
        go_wp2_with fail
        refine HT.out.mono ?_
        rintro e' w2 ⟨rfl, hb2⟩
        clear HT b00 b01 b02 b03 b04 b05 b06
        have hB2 := hBa.trans (hb2.mono hBa.size)
        have hbx2 := hbxa.below hb2
        have hp2 := hpa.below hb2
        clear hpa hbxa
        cases hwi : within ts b e with
        | false =>
          have HF3 := Lib.hid (HF2.out.trans (if_pos hwi))
          have HF4 : Hid (rgErr ts l = (k, 8)) := by show _ = _; rw [HA.out (by rw [HF3.out]; simp), HF3.out]
          clear HF2 HF3 HA hwi
          go_wp2
          go_ret2
          exact ⟨ret_p HF4.out rfl rfl, hB2⟩
        | true =>
          have hbe := Cor.within_lt hwi
          have HF3 := Lib.hid (HF2.out.trans (if_neg (by rw [hwi]; simp)))
          clear hwi HF2
          have p3 := hp2.cell 3
          go_wp2_with fail
          refine (refPairs_any A' n' c' ks _ ((hks.under hB2).up hB2.size)).mono ?_
          rintro e' w3 ⟨rfl, hb3⟩
          clear p3
          have hB3 := hB2.trans (hb3.mono hB2.size)
          have hbx3 := hbx2.below hb3
          have hp3 := hp2.below hb3
          clear hbx2 hp2
          by_cases hv : prErr ks = 0
          · have E6 : ((prErr ks : Int) != 0) = false := by rw [hv]; rfl
            have HF4 := Lib.hid (HF3.out.trans (if_neg (by simp [hv])))
            clear hv HF3
            go_wp2
            clear E6
            obtain ⟨wo, rfl⟩ : ∃ wo : World, wo = wr := ⟨_, rfl⟩
            go_cut [56, 17] from 17 to 142 (fun tv iv wc => ∃ b6 : Bool, tv = .bool b6 ∧ iv = .int .i64 k ∧ Hid (b6 = true ↔ (0 < k ∧ 0 < cmpR (l[k - 1]'(by omega)) ⟨x, b, e, ks⟩)) ∧ Below w.heap.size w wc ∧ Blk wc w.heap.size 30 #[ha.v, htt.v, hX.v, .slice (some ⟨g, o, none⟩) n c, hn.v, hh.v, hl.v] ∧ Blk wc wo.heap.size 69 #[str x, .int .i64 b, .int .i64 e, .slice A' n' c'])
            case first =>
              by_cases hk0 : 0 < k
              · obtain ⟨g3, o3, ⟨A3, n3, c3'⟩, hk3, e3, hg3, hok3, d0, d1, d2, d3⟩ := (hx.under hB3).at_ (k := k - 1) (show k - 1 < n by omega)
                cases e3
                have hks3 := hok3.2.2.2
                clear hok3
                obtain ⟨⟨y, yb, ye, yk⟩, hy'⟩ : ∃ p, l[k - 1] = p := ⟨_, rfl⟩
                rw [hy'] at d0 d1 d2 hks3
                have HY := Lib.hid hy'
                have HCC := Lib.hid (refCompareR_any ⟨y, yb, ye, yk⟩ ⟨x, b, e, ks⟩ A3 n3 c3' A' n' c' w3.drew ((hks3.under ((Below.refl _ w3).drew)).up hB3.size) (((hks.under hB3).up hB3.size).under ((Below.refl _ w3).drew)))
                have i1 : IntKind.i64.wrap ((k : Int) - 1) = ((k - 1 : Nat) : Int) := by rw [IntWalk.i64_in _ (by omega)]; omega
                have j1 : decide (0 < k) = true := by simpa using hk0
                have j2 : 0 ≤ (k : Int) - 1 := by omega
                have j3 : (k : Int) - 1 < n := by omega
                have j5 : k - 1 < n := by omega
                have j4 : ((k : Int) - 1).toNat = k - 1 := by omega
                have q0 := hp3.cell 0
                have q1 := hp3.cell 1
                have q2 := hp3.cell 2
                have q3 := hp3.cell 3
                have q4 := hbx3.cell 3
                clear hy'
                go_region_law (go_simp; refine HCC.out.mono ?_; rintro e' w4 ⟨rfl, hb4⟩; go_simp)
                all_goals
                  clear q0 q1 q2 q3 q4 i1 j1 j2 j3 j4 j5 HCC d0 d1 d2 d3
                  go_wp2
                  go_meet
                  case rel =>
                    have hiff : decide (0 < cmpR (⟨y, yb, ye, yk⟩ : Cor.Reg) ⟨x, b, e, ks⟩) = true ↔ (0 < k ∧ 0 < cmpR (l[k - 1]'(by omega)) ⟨x, b, e, ks⟩) := by rw [HY.out]; simp [hk0]
                    exact ⟨_, rfl, rfl, hiff, hB3.drew.trans (hb4.mono hB3.drew.size), Blk.below (w := w3.drew) hbx3 hb4, Blk.below (w := w3.drew) hp3 hb4⟩
              · obtain rfl : k = 0 := by omega
                go_big_quiet (fail)
                go_wp2
                go_meet
                case rel =>
                  have hiff : false = true ↔ (0 < 0 ∧ 0 < cmpR (l[0 - 1]'(by omega)) ⟨x, b, e, ks⟩) := by simp
                  exact ⟨false, rfl, rfl, hiff, below_drewN hB3 _, hbx3, hp3⟩
            case rest =>
              obtain ⟨b6, rfl, rfl, HB6, hBW, hbxW, hpW⟩ := hcut
              clear hB3 hbx3 hp3 hb3
              cases b6 with
              | true =>
                have HF5 : Hid (rgErr ts l = (k, 6)) := by
                  have hf := HF4.out.trans (if_pos (HB6.out.1 rfl))
                  show _ = _
                  rw [HA.out (by rw [hf]; simp), hf]
                clear HF4 HA HB6
                go_wp2
                go_ret2
                exact ⟨ret_p HF5.out rfl rfl, hBW⟩
              | false =>
                have HF5 := Lib.hid (HF4.out.trans (if_neg (fun h => by have := HB6.out.2 h; cases this)))
                clear HF4 HB6
                have hs1 : ∀ W, (Instr.slice 25 (.slice (some ⟨g, o, none⟩) n c) none (some (.int .i64 ((k : Int) + 1))) none).run Tryz.prog W = .ok (.slice (some ⟨g, o, none⟩) (k + 1) c) W := fun W => by
                  have h := slice_to (P := Tryz.prog) 25 69 i0 Tryz.underlying25 hi0 (some ⟨g, o, none⟩) n c (k + 1) (by omega) W
                  rw [show ((k + 1 : Nat) : Int) = (k : Int) + 1 by omega] at h
                  exact h
                have q3 := hbxW.cell 3
                go_wp2
                clear hs1 q3
                go_loopw [7, 64] (fun dv jv wr2 => ∃ j d : Nat, j ≤ k + 1 ∧ dv = .int .i64 d ∧ jv = .int .i64 j ∧ d ≤ j ∧ Below w.heap.size w wr2 ∧ Blk wr2 w.heap.size 30 #[ha.v, htt.v, hX.v, .slice (some ⟨g, o, none⟩) n c, hn.v, hh.v, hl.v] ∧ Blk wr2 wo.heap.size 69 #[str x, .int .i64 b, .int .i64 e, .slice A' n' c'] ∧ Hid (d = ((l.take j).filter (coverR (⟨x, b, e, ks⟩ : Cor.Reg))).length) ∧ Hid (∀ q (_ : q < j) (_ : q < k) (h2 : q < l.length), crossR l[q] ⟨x, b, e, ks⟩ = false)) (fun _ jv _ => k + 1 - (intOf jv).toNat)
                case atStart => exact ⟨0, 0, by omega, rfl, rfl, by omega, hBW, hbxW, hpW, rfl, fun q hq => by omega⟩
                case round =>
                  obtain ⟨j, d, hj, rfl, rfl, hdj, hB2, hb2, hp2, hd, hin3⟩ := hrel
                  by_cases hjt : j < k + 1
                  · obtain ⟨g2, o2, ⟨A2, n2, c2⟩, hj2, e0, hg2, hz2', d0, d1, d2, d3⟩ := (hx.under hB2).at_ (k := j) (show j < n by omega)
                    cases e0
                    clear hz2'
                    obtain ⟨⟨y, yb, ye, yk⟩, hy'⟩ : ∃ p, l[j] = p := ⟨_, rfl⟩
                    rw [hy'] at d0 d1 d2
                    have HY := Lib.hid hy'
                    clear hy'
                    have hBy := hB2.alloc hB2.size (.cells #[str y, .int .i64 yb, .int .i64 ye, .slice A2 n2 c2] 69)
                    have hbyx := hb2.alloc (.cells #[str y, .int .i64 yb, .int .i64 ye, .slice A2 n2 c2] 69)
                    have hpyx := hp2.alloc (.cells #[str y, .int .i64 yb, .int .i64 ye, .slice A2 n2 c2] 69)
                    have v0 := hpyx.cell 0
                    have v1 := hpyx.cell 1
                    have v2 := hpyx.cell 2
                    by_cases c5 : yb ≤ b
                    · by_cases c4 : b < ye
                      · by_cases c1 : j < k
                        · cases EY : (y == x) with
                          | true =>
                            by_cases c3 : yb < e
                            · by_cases c6 : e ≤ ye
                              · have HD2 : Hid (d + 1 = ((l.take (j + 1)).filter (coverR (⟨x, b, e, ks⟩ : Cor.Reg))).length) := deep_yes hj2 hd.out (by rw [HY.out]; unfold coverR; simp; try omega)
                                have HI : Hid (∀ q (_ : q < j + 1) (_ : q < k) (h2 : q < l.length), crossR l[q] ⟨x, b, e, ks⟩ = false) := by
                                  have hcv : crossR (⟨y, yb, ye, yk⟩ : Cor.Reg) ⟨x, b, e, ks⟩ = false := by unfold crossR; simp [EY]; try omega
                                  intro q hq hqk h2
                                  by_cases eq : q = j
                                  · subst eq; rw [HY.out]; exact hcv
                                  · exact hin3.out q (by omega) hqk h2
                                clear hin3 HF5 HA HY hd hj2
                                go_wp2
                                go_roundw
                                case rel => (first | exact ⟨j + 1, d + 1, by omega, by go_num, by go_num, by omega, hBy, hbyx, hpyx, HD2, HI⟩ | ((repeat apply Exists.intro); exact ⟨⟨j + 1, d + 1, by omega, by go_num, by go_num, by omega, hBy, hbyx, hpyx, HD2, HI⟩, rfl⟩))
                                case measure => simp [intOf]; omega
                              · by_cases c7 : b ≤ yb
                                · by_cases c8 : ye ≤ e
                                  · have HD2 : Hid (d + 1 = ((l.take (j + 1)).filter (coverR (⟨x, b, e, ks⟩ : Cor.Reg))).length) := deep_yes hj2 hd.out (by rw [HY.out]; unfold coverR; simp; try omega)
                                    have HI : Hid (∀ q (_ : q < j + 1) (_ : q < k) (h2 : q < l.length), crossR l[q] ⟨x, b, e, ks⟩ = false) := by
                                      have hcv : crossR (⟨y, yb, ye, yk⟩ : Cor.Reg) ⟨x, b, e, ks⟩ = false := by unfold crossR; simp [EY]; try omega
                                      intro q hq hqk h2
                                      by_cases eq : q = j
                                      · subst eq; rw [HY.out]; exact hcv
                                      · exact hin3.out q (by omega) hqk h2
                                    clear hin3 HF5 HA HY hd hj2
                                    go_wp2
                                    go_roundw
                                    case rel => (first | exact ⟨j + 1, d + 1, by omega, by go_num, by go_num, by omega, hBy, hbyx, hpyx, HD2, HI⟩ | ((repeat apply Exists.intro); exact ⟨⟨j + 1, d + 1, by omega, by go_num, by go_num, by omega, hBy, hbyx, hpyx, HD2, HI⟩, rfl⟩))
                                    case measure => simp [intOf]; omega
                                  · exfalso; omega
                                · have HD2 : Hid (d + 1 = ((l.take (j + 1)).filter (coverR (⟨x, b, e, ks⟩ : Cor.Reg))).length) := deep_yes hj2 hd.out (by rw [HY.out]; unfold coverR; simp; try omega)
                                  have HF6 : Hid (rgErr ts l = (k, 13)) := by
                                    have hcv : crossR (⟨y, yb, ye, yk⟩ : Cor.Reg) ⟨x, b, e, ks⟩ = true := by unfold crossR; simp [EY]; try omega
                                    have hf := HF5.out.trans (if_pos (any_take_true (l := l) (p := fun y : Cor.Reg => crossR y ⟨x, b, e, ks⟩) c1 hj2 (by show crossR l[j] _ = true; rw [HY.out]; exact hcv)))
                                    show _ = _
                                    rw [HA.out (by rw [hf]; simp), hf]
                                  clear hin3 HF5 HA HY hd hj2 HD2
                                  go_wp2
                                  go_ret2
                                  exact ⟨ret_p HF6.out rfl rfl, hBy⟩
                            · exfalso; omega
                          | false =>
                            have HD2 : Hid (d + 1 = ((l.take (j + 1)).filter (coverR (⟨x, b, e, ks⟩ : Cor.Reg))).length) := deep_yes hj2 hd.out (by rw [HY.out]; unfold coverR; simp; try omega)
                            have HI : Hid (∀ q (_ : q < j + 1) (_ : q < k) (h2 : q < l.length), crossR l[q] ⟨x, b, e, ks⟩ = false) := by
                              have hcv : crossR (⟨y, yb, ye, yk⟩ : Cor.Reg) ⟨x, b, e, ks⟩ = false := by unfold crossR; simp [EY]; try omega
                              intro q hq hqk h2
                              by_cases eq : q = j
                              · subst eq; rw [HY.out]; exact hcv
                              · exact hin3.out q (by omega) hqk h2
                            clear hin3 HF5 HA HY hd hj2
                            go_wp2
                            go_roundw
                            case rel => (first | exact ⟨j + 1, d + 1, by omega, by go_num, by go_num, by omega, hBy, hbyx, hpyx, HD2, HI⟩ | ((repeat apply Exists.intro); exact ⟨⟨j + 1, d + 1, by omega, by go_num, by go_num, by omega, hBy, hbyx, hpyx, HD2, HI⟩, rfl⟩))
                            case measure => simp [intOf]; omega
                        · have HD2 : Hid (d + 1 = ((l.take (j + 1)).filter (coverR (⟨x, b, e, ks⟩ : Cor.Reg))).length) := deep_yes hj2 hd.out (by rw [HY.out]; unfold coverR; simp; try omega)
                          have HI : Hid (∀ q (_ : q < j + 1) (_ : q < k) (h2 : q < l.length), crossR l[q] ⟨x, b, e, ks⟩ = false) := fun q hq hqk h2 => hin3.out q (by omega) hqk h2
                          clear hin3 HF5 HA HY hd hj2
                          go_wp2
                          go_roundw
                          case rel => (first | exact ⟨j + 1, d + 1, by omega, by go_num, by go_num, by omega, hBy, hbyx, hpyx, HD2, HI⟩ | ((repeat apply Exists.intro); exact ⟨⟨j + 1, d + 1, by omega, by go_num, by go_num, by omega, hBy, hbyx, hpyx, HD2, HI⟩, rfl⟩))
                          case measure => simp [intOf]; omega
                      · by_cases c1 : j < k
                        · cases EY : (y == x) with
                          | true =>
                            by_cases c3 : yb < e
                            · have HD2 : Hid (d = ((l.take (j + 1)).filter (coverR (⟨x, b, e, ks⟩ : Cor.Reg))).length) := deep_no hj2 hd.out (by rw [HY.out]; unfold coverR; simp; try omega)
                              have HI : Hid (∀ q (_ : q < j + 1) (_ : q < k) (h2 : q < l.length), crossR l[q] ⟨x, b, e, ks⟩ = false) := by
                                have hcv : crossR (⟨y, yb, ye, yk⟩ : Cor.Reg) ⟨x, b, e, ks⟩ = false := by unfold crossR; simp [EY]; try omega
                                intro q hq hqk h2
                                by_cases eq : q = j
                                · subst eq; rw [HY.out]; exact hcv
                                · exact hin3.out q (by omega) hqk h2
                              clear hin3 HF5 HA HY hd hj2
                              go_wp2
                              go_roundw
                              case rel => (first | exact ⟨j + 1, d, by omega, by go_num, by go_num, by omega, hBy, hbyx, hpyx, HD2, HI⟩ | ((repeat apply Exists.intro); exact ⟨⟨j + 1, d, by omega, by go_num, by go_num, by omega, hBy, hbyx, hpyx, HD2, HI⟩, rfl⟩))
                              case measure => simp [intOf]; omega
                            · exfalso; omega
                          | false =>
                            have HD2 : Hid (d = ((l.take (j + 1)).filter (coverR (⟨x, b, e, ks⟩ : Cor.Reg))).length) := deep_no hj2 hd.out (by rw [HY.out]; unfold coverR; simp; try omega)
                            have HI : Hid (∀ q (_ : q < j + 1) (_ : q < k) (h2 : q < l.length), crossR l[q] ⟨x, b, e, ks⟩ = false) := by
                              have hcv : crossR (⟨y, yb, ye, yk⟩ : Cor.Reg) ⟨x, b, e, ks⟩ = false := by unfold crossR; simp [EY]; try omega
                              intro q hq hqk h2
                              by_cases eq : q = j
                              · subst eq; rw [HY.out]; exact hcv
                              · exact hin3.out q (by omega) hqk h2
                            clear hin3 HF5 HA HY hd hj2
                            go_wp2
                            go_roundw
                            case rel => (first | exact ⟨j + 1, d, by omega, by go_num, by go_num, by omega, hBy, hbyx, hpyx, HD2, HI⟩ | ((repeat apply Exists.intro); exact ⟨⟨j + 1, d, by omega, by go_num, by go_num, by omega, hBy, hbyx, hpyx, HD2, HI⟩, rfl⟩))
                            case measure => simp [intOf]; omega
                        · have HD2 : Hid (d = ((l.take (j + 1)).filter (coverR (⟨x, b, e, ks⟩ : Cor.Reg))).length) := deep_no hj2 hd.out (by rw [HY.out]; unfold coverR; simp; try omega)
                          have HI : Hid (∀ q (_ : q < j + 1) (_ : q < k) (h2 : q < l.length), crossR l[q] ⟨x, b, e, ks⟩ = false) := fun q hq hqk h2 => hin3.out q (by omega) hqk h2
                          clear hin3 HF5 HA HY hd hj2
                          go_wp2
                          go_roundw
                          case rel => (first | exact ⟨j + 1, d, by omega, by go_num, by go_num, by omega, hBy, hbyx, hpyx, HD2, HI⟩ | ((repeat apply Exists.intro); exact ⟨⟨j + 1, d, by omega, by go_num, by go_num, by omega, hBy, hbyx, hpyx, HD2, HI⟩, rfl⟩))
                          case measure => simp [intOf]; omega
                    · by_cases c4 : b < ye
                      · by_cases c1 : j < k
                        · cases EY : (y == x) with
                          | true =>
                            by_cases c3 : yb < e
                            · by_cases c8 : ye ≤ e
                              · have HD2 : Hid (d = ((l.take (j + 1)).filter (coverR (⟨x, b, e, ks⟩ : Cor.Reg))).length) := deep_no hj2 hd.out (by rw [HY.out]; unfold coverR; simp; try omega)
                                have HI : Hid (∀ q (_ : q < j + 1) (_ : q < k) (h2 : q < l.length), crossR l[q] ⟨x, b, e, ks⟩ = false) := by
                                  have hcv : crossR (⟨y, yb, ye, yk⟩ : Cor.Reg) ⟨x, b, e, ks⟩ = false := by unfold crossR; simp [EY]; try omega
                                  intro q hq hqk h2
                                  by_cases eq : q = j
                                  · subst eq; rw [HY.out]; exact hcv
                                  · exact hin3.out q (by omega) hqk h2
                                clear hin3 HF5 HA HY hd hj2
                                go_wp2
                                go_roundw
                                case rel => (first | exact ⟨j + 1, d, by omega, by go_num, by go_num, by omega, hBy, hbyx, hpyx, HD2, HI⟩ | ((repeat apply Exists.intro); exact ⟨⟨j + 1, d, by omega, by go_num, by go_num, by omega, hBy, hbyx, hpyx, HD2, HI⟩, rfl⟩))
                                case measure => simp [intOf]; omega
                              · have HD2 : Hid (d = ((l.take (j + 1)).filter (coverR (⟨x, b, e, ks⟩ : Cor.Reg))).length) := deep_no hj2 hd.out (by rw [HY.out]; unfold coverR; simp; try omega)
                                have HF6 : Hid (rgErr ts l = (k, 13)) := by
                                  have hcv : crossR (⟨y, yb, ye, yk⟩ : Cor.Reg) ⟨x, b, e, ks⟩ = true := by unfold crossR; simp [EY]; try omega
                                  have hf := HF5.out.trans (if_pos (any_take_true (l := l) (p := fun y : Cor.Reg => crossR y ⟨x, b, e, ks⟩) c1 hj2 (by show crossR l[j] _ = true; rw [HY.out]; exact hcv)))
                                  show _ = _
                                  rw [HA.out (by rw [hf]; simp), hf]
                                clear hin3 HF5 HA HY hd hj2 HD2
                                go_wp2
                                go_ret2
                                exact ⟨ret_p HF6.out rfl rfl, hBy⟩
                            · have HD2 : Hid (d = ((l.take (j + 1)).filter (coverR (⟨x, b, e, ks⟩ : Cor.Reg))).length) := deep_no hj2 hd.out (by rw [HY.out]; unfold coverR; simp; try omega)
                              have HI : Hid (∀ q (_ : q < j + 1) (_ : q < k) (h2 : q < l.length), crossR l[q] ⟨x, b, e, ks⟩ = false) := by
                                have hcv : crossR (⟨y, yb, ye, yk⟩ : Cor.Reg) ⟨x, b, e, ks⟩ = false := by unfold crossR; simp [EY]; try omega
                                intro q hq hqk h2
                                by_cases eq : q = j
                                · subst eq; rw [HY.out]; exact hcv
                                · exact hin3.out q (by omega) hqk h2
                              clear hin3 HF5 HA HY hd hj2
                              go_wp2
                              go_roundw
                              case rel => (first | exact ⟨j + 1, d, by omega, by go_num, by go_num, by omega, hBy, hbyx, hpyx, HD2, HI⟩ | ((repeat apply Exists.intro); exact ⟨⟨j + 1, d, by omega, by go_num, by go_num, by omega, hBy, hbyx, hpyx, HD2, HI⟩, rfl⟩))
                              case measure => simp [intOf]; omega
                          | false =>
                            have HD2 : Hid (d = ((l.take (j + 1)).filter (coverR (⟨x, b, e, ks⟩ : Cor.Reg))).length) := deep_no hj2 hd.out (by rw [HY.out]; unfold coverR; simp; try omega)
                            have HI : Hid (∀ q (_ : q < j + 1) (_ : q < k) (h2 : q < l.length), crossR l[q] ⟨x, b, e, ks⟩ = false) := by
                              have hcv : crossR (⟨y, yb, ye, yk⟩ : Cor.Reg) ⟨x, b, e, ks⟩ = false := by unfold crossR; simp [EY]; try omega
                              intro q hq hqk h2
                              by_cases eq : q = j
                              · subst eq; rw [HY.out]; exact hcv
                              · exact hin3.out q (by omega) hqk h2
                            clear hin3 HF5 HA HY hd hj2
                            go_wp2
                            go_roundw
                            case rel => (first | exact ⟨j + 1, d, by omega, by go_num, by go_num, by omega, hBy, hbyx, hpyx, HD2, HI⟩ | ((repeat apply Exists.intro); exact ⟨⟨j + 1, d, by omega, by go_num, by go_num, by omega, hBy, hbyx, hpyx, HD2, HI⟩, rfl⟩))
                            case measure => simp [intOf]; omega
                        · have HD2 : Hid (d = ((l.take (j + 1)).filter (coverR (⟨x, b, e, ks⟩ : Cor.Reg))).length) := deep_no hj2 hd.out (by rw [HY.out]; unfold coverR; simp; try omega)
                          have HI : Hid (∀ q (_ : q < j + 1) (_ : q < k) (h2 : q < l.length), crossR l[q] ⟨x, b, e, ks⟩ = false) := fun q hq hqk h2 => hin3.out q (by omega) hqk h2
                          clear hin3 HF5 HA HY hd hj2
                          go_wp2
                          go_roundw
                          case rel => (first | exact ⟨j + 1, d, by omega, by go_num, by go_num, by omega, hBy, hbyx, hpyx, HD2, HI⟩ | ((repeat apply Exists.intro); exact ⟨⟨j + 1, d, by omega, by go_num, by go_num, by omega, hBy, hbyx, hpyx, HD2, HI⟩, rfl⟩))
                          case measure => simp [intOf]; omega
                      · by_cases c1 : j < k
                        · cases EY : (y == x) with
                          | true =>
                            by_cases c3 : yb < e
                            · have HD2 : Hid (d = ((l.take (j + 1)).filter (coverR (⟨x, b, e, ks⟩ : Cor.Reg))).length) := deep_no hj2 hd.out (by rw [HY.out]; unfold coverR; simp; try omega)
                              have HI : Hid (∀ q (_ : q < j + 1) (_ : q < k) (h2 : q < l.length), crossR l[q] ⟨x, b, e, ks⟩ = false) := by
                                have hcv : crossR (⟨y, yb, ye, yk⟩ : Cor.Reg) ⟨x, b, e, ks⟩ = false := by unfold crossR; simp [EY]; try omega
                                intro q hq hqk h2
                                by_cases eq : q = j
                                · subst eq; rw [HY.out]; exact hcv
                                · exact hin3.out q (by omega) hqk h2
                              clear hin3 HF5 HA HY hd hj2
                              go_wp2
                              go_roundw
                              case rel => (first | exact ⟨j + 1, d, by omega, by go_num, by go_num, by omega, hBy, hbyx, hpyx, HD2, HI⟩ | ((repeat apply Exists.intro); exact ⟨⟨j + 1, d, by omega, by go_num, by go_num, by omega, hBy, hbyx, hpyx, HD2, HI⟩, rfl⟩))
                              case measure => simp [intOf]; omega
                            · have HD2 : Hid (d = ((l.take (j + 1)).filter (coverR (⟨x, b, e, ks⟩ : Cor.Reg))).length) := deep_no hj2 hd.out (by rw [HY.out]; unfold coverR; simp; try omega)
                              have HI : Hid (∀ q (_ : q < j + 1) (_ : q < k) (h2 : q < l.length), crossR l[q] ⟨x, b, e, ks⟩ = false) := by
                                have hcv : crossR (⟨y, yb, ye, yk⟩ : Cor.Reg) ⟨x, b, e, ks⟩ = false := by unfold crossR; simp [EY]; try omega
                                intro q hq hqk h2
                                by_cases eq : q = j
                                · subst eq; rw [HY.out]; exact hcv
                                · exact hin3.out q (by omega) hqk h2
                              clear hin3 HF5 HA HY hd hj2
                              go_wp2
                              go_roundw
                              case rel => (first | exact ⟨j + 1, d, by omega, by go_num, by go_num, by omega, hBy, hbyx, hpyx, HD2, HI⟩ | ((repeat apply Exists.intro); exact ⟨⟨j + 1, d, by omega, by go_num, by go_num, by omega, hBy, hbyx, hpyx, HD2, HI⟩, rfl⟩))
                              case measure => simp [intOf]; omega
                          | false =>
                            have HD2 : Hid (d = ((l.take (j + 1)).filter (coverR (⟨x, b, e, ks⟩ : Cor.Reg))).length) := deep_no hj2 hd.out (by rw [HY.out]; unfold coverR; simp; try omega)
                            have HI : Hid (∀ q (_ : q < j + 1) (_ : q < k) (h2 : q < l.length), crossR l[q] ⟨x, b, e, ks⟩ = false) := by
                              have hcv : crossR (⟨y, yb, ye, yk⟩ : Cor.Reg) ⟨x, b, e, ks⟩ = false := by unfold crossR; simp [EY]; try omega
                              intro q hq hqk h2
                              by_cases eq : q = j
                              · subst eq; rw [HY.out]; exact hcv
                              · exact hin3.out q (by omega) hqk h2
                            clear hin3 HF5 HA HY hd hj2
                            go_wp2
                            go_roundw
                            case rel => (first | exact ⟨j + 1, d, by omega, by go_num, by go_num, by omega, hBy, hbyx, hpyx, HD2, HI⟩ | ((repeat apply Exists.intro); exact ⟨⟨j + 1, d, by omega, by go_num, by go_num, by omega, hBy, hbyx, hpyx, HD2, HI⟩, rfl⟩))
                            case measure => simp [intOf]; omega
                        · have HD2 : Hid (d = ((l.take (j + 1)).filter (coverR (⟨x, b, e, ks⟩ : Cor.Reg))).length) := deep_no hj2 hd.out (by rw [HY.out]; unfold coverR; simp; try omega)
                          have HI : Hid (∀ q (_ : q < j + 1) (_ : q < k) (h2 : q < l.length), crossR l[q] ⟨x, b, e, ks⟩ = false) := fun q hq hqk h2 => hin3.out q (by omega) hqk h2
                          clear hin3 HF5 HA HY hd hj2
                          go_wp2
                          go_roundw
                          case rel => (first | exact ⟨j + 1, d, by omega, by go_num, by go_num, by omega, hBy, hbyx, hpyx, HD2, HI⟩ | ((repeat apply Exists.intro); exact ⟨⟨j + 1, d, by omega, by go_num, by go_num, by omega, hBy, hbyx, hpyx, HD2, HI⟩, rfl⟩))
                          case measure => simp [intOf]; omega
                  · have HD2 : Hid (((l.take (k + 1)).filter (coverR (⟨x, b, e, ks⟩ : Cor.Reg))).length = d) := by show _ = _; rw [hd.out, show j = k + 1 by omega]
                    have hnc := any_take_false (l := l) (k := k) (p := fun y : Cor.Reg => crossR y ⟨x, b, e, ks⟩) (fun q hq h2 => hin3.out q (by omega) hq h2)
                    have HF6 := Lib.hid (HF5.out.trans (if_neg (by rw [hnc]; simp)))
                    clear hnc hin3 HF5 hd
                    by_cases h40 : 40 < d
                    · have HF7 : Hid (rgErr ts l = (k, 2)) := by
                        have hf := HF6.out.trans (if_pos (by rw [HD2.out]; exact h40))
                        show _ = _
                        rw [HA.out (by rw [hf]; simp), hf]
                      clear HF6 HD2 HA
                      go_wp2
                      go_ret2
                      exact ⟨ret_p HF7.out rfl rfl, hB2⟩
                    · have HI : Hid (∀ j, j < k + 1 → rgF ts l j = 0) := upto_step hinv.out (HF6.out.trans (if_neg (by rw [HD2.out]; exact h40)))
                      clear HF6 HD2 HA hinv
                      go_wp2
                      go_roundw
                      case rel => (first | exact ⟨k + 1, by omega, by go_num, hB2, hb2, HI⟩ | ((repeat apply Exists.intro); exact ⟨⟨k + 1, by omega, by go_num, hB2, hb2, HI⟩, rfl⟩))
                      case measure => simp [intOf]; omega
          · have E6 : ((prErr ks : Int) != 0) = true := by rw [bne_iff_ne]; omega
            have HF4 : Hid (rgErr ts l = (k, prErr ks)) := by
              have hf := HF3.out.trans (if_pos hv)
              show _ = _
              rw [HA.out (by rw [hf]; exact hv), hf]
            clear hv HF3 HA
            go_wp2
            go_ret2
            exact ⟨ret_p HF4.out rfl rfl, hB3⟩
    · have HF : Hid (rgErr ts l = (0, 0)) := Cor.rgErr_zero (by have : l.length = n := HL.out; omega) (fun j hj => hinv.out j (by have : l.length = n := HL.out; omega))
      clear hinv
      go_wp2
      go_ret2
      exact ⟨ret_p HF.out rfl rfl, hB⟩
end Go.Proofs.YtgkdaebiefhgdaaGreatDoor
namespace Go.Proofs.YtgkdaebiefhgdaaGreatDoor
open Go.RowKit Utf
open Feat (Bs)
open Tagp (KV okName)
open Cor (ndF ndErr anc par ParOk dp within sibE Nod)
set_option maxRecDepth 100000 in
set_option maxHeartbeats 8000000 in
theorem refNodes_any (H : CH) (A : Option Addr) (n c : Nat) (ts : List Cor.Txt) (l : List Nod) (w : World) (hts : Txts w w.heap.size H.x ts) (hx : Nods w w.heap.size ⟨A, n, c⟩ l) :
    Calls Tryz.prog 79 #[.slice A n c, H.v] w (Kept (.tuple #[.int .i64 ((ndErr ts l).1 : Nat), .int .i64 ((ndErr ts l).2 : Nat)]) w) := by
  have HL := Lib.hid hx.len
  have f1 : n ≤ 9223372036854775807 := hx.1.2
  have f2 : n ≤ c := hx.1.1
  have hB0 := (Below.refl w.heap.size w).alloc (Nat.le_refl _) (.cells H.cs 30)
  have hb0 := Blk.new w 30 H.cs
  by_cases h8 : 2048 < n
  · have HF : Hid (ndErr ts l = (0, 2)) := by show _ = _; unfold ndErr; rw [if_pos (by have : l.length = n := HL.out; omega)]
    go_enter Tryz.func79, Tryz.ntmps79
    go_wp2
    go_ret2
    exact ⟨ret_p HF.out rfl rfl, hB0⟩
  have hmk := made_ints n (by omega)
  have hD0 := Blk.new (w.alloc (.cells H.cs 30)) 3 (ints (List.replicate n 0)).toArray
  have hb1 := hb0.alloc (.cells (ints (List.replicate n 0)).toArray 3)
  have hB1 := hB0.alloc hB0.size (.cells (ints (List.replicate n 0)).toArray 3)
  rw [World.size_alloc] at hD0
  go_enter Tryz.func79, Tryz.ntmps79
  go_wp2
  clear hmk
  go_loopw [20] (fun iv wr => ∃ (k : Nat) (D : List Int), k ≤ n ∧ iv = .int .i64 k ∧ Below w.heap.size w wr ∧ Blk wr w.heap.size 30 H.cs ∧ Blk wr (w.heap.size + 1) 3 (ints D).toArray ∧ D.length = n ∧
    Hid (∀ q, q < n → D[q]? = some (if q < k then (dp l (q : Nat) : Int) else 0)) ∧ Hid (∀ j, j < k → ndF ts l j = 0)) (fun iv _ => n - (intOf iv).toNat)
  case atStart =>
    refine ⟨0, List.replicate n 0, by omega, rfl, hB1, hb1, hD0, by simp, fun q hq => ?_, fun j hj => by omega⟩
    rw [List.getElem?_replicate, if_pos (by omega), if_neg (by omega)]
  case round =>
    obtain ⟨k, D, hk, rfl, hB, hbx, hD, hDl, hDv, hinv⟩ := hrel
    by_cases hlt : k < n
    · obtain ⟨g, o, hk', e0, hg, hok', c0w, c1w, c2w, c3w⟩ := hx.at_ hlt
      have e0 : A = some ⟨g, o, none⟩ := e0
      subst e0
      have c0 := (World.cell?_of_block (a := ⟨g, o + k * 4, none⟩) (hB.block g hg)).trans c0w
      have c1 := (World.cell?_of_block (a := ⟨g, o + k * 4 + 1, none⟩) (hB.block g hg)).trans c1w
      have c2 := (World.cell?_of_block (a := ⟨g, o + k * 4 + 2, none⟩) (hB.block g hg)).trans c2w
      have c3 := (World.cell?_of_block (a := ⟨g, o + k * 4 + 3, none⟩) (hB.block g hg)).trans c3w
      clear c0w c1w c2w c3w
      have HF := Lib.hid (Cor.ndF_at (ts := ts) hk')
      have HA := Lib.hid (fun h => Cor.ndErr_at (ts := ts) (l := l) (k := k) (by have : l.length = n := HL.out; omega) hk' hinv.out h)
      have HOK0 := Lib.hid (Cor.parOk_of (by omega) hinv.out)
      have z0 : l[k].lb.length ≤ 9223372036854775807 := hok'.1
      have r3 : Rng l[k].p := hok'.2.2.2
      clear hok'
      obtain ⟨⟨x, b, e, p⟩, hx'⟩ : ∃ p, l[k] = p := ⟨_, rfl⟩
      rw [hx'] at HF c0 c1 c2 c3 z0 r3
      have HX := Lib.hid hx'
      clear hx'
      have hBa := hB.alloc hB.size (.cells #[str x, .int .i64 b, .int .i64 e, .int .i64 p] 71)
      have hpa := Blk.new wr 71 #[str x, .int .i64 b, .int .i64 e, .int .i64 p]
      have hbxa := hbx.alloc (.cells #[str x, .int .i64 b, .int .i64 e, .int .i64 p] 71)
      have hDa := hD.alloc (.cells #[str x, .int .i64 b, .int .i64 e, .int .i64 p] 71)
      have b00 := hbxa.cell 0
      have b01 := hbxa.cell 1
      have b02 := hbxa.cell 2
      have b03 := hbxa.cell 3
      have b04 := hbxa.cell 4
      have b05 := hbxa.cell 5
      have b06 := hbxa.cell 6
      have HT := Lib.hid (within_any H ts b e (wr.alloc (.cells #[str x, .int .i64 b, .int .i64 e, .int .i64 p] 71)) ((hts.under hBa).up hBa.size))
      go_wp2_with fail
      refine (refValidName_any x z0 _).mono ?_
      rintro e' w1 ⟨rfl, rfl⟩
      cases hok : okName x with
      | false =>
        have HF2 := Lib.hid (HF.out.trans (if_pos hok))
        have HF3 : Hid (ndErr ts l = (k, 4)) := by show _ = _; rw [HA.out (by rw [HF2.out]; simp), HF2.out]
        clear hok HF HA HF2 HT
        go_wp2
        go_ret2
        exact ⟨ret_p HF3.out rfl rfl, hBa⟩
      | true =>
        have HF2 := Lib.hid (HF.out.trans (if_neg (by rw [hok]; simp)))
        clear hok HF
        go_wp2_with fail
        refine HT.out.mono ?_
        rintro e' w2 ⟨rfl, hb2⟩
        clear HT b00 b01 b02 b03 b04 b05 b06
        have hB2 := hBa.trans (hb2.mono hBa.size)
        have hbx2 := hbxa.below hb2
        have hp2 := hpa.below hb2
        have hD2 := hDa.below hb2
        clear hpa hbxa hDa
        cases hwi : within ts b e with
        | false =>
          have HF3 := Lib.hid (HF2.out.trans (if_pos hwi))
          have HF4 : Hid (ndErr ts l = (k, 8)) := by show _ = _; rw [HA.out (by rw [HF3.out]; simp), HF3.out]
          clear HF2 HF3 HA hwi
          go_wp2
          go_ret2
          exact ⟨ret_p HF4.out rfl rfl, hB2⟩
        | true =>
          have HF3 := Lib.hid (HF2.out.trans (if_neg (by rw [hwi]; simp)))
          clear hwi HF2
          obtain ⟨wo, rfl⟩ : ∃ wo : World, wo = wr := ⟨_, rfl⟩
          go_wp2
          go_loopw [9] (fun av wr2 => ∃ (q : Int) (f : Nat), -1 ≤ q ∧ q < k ∧ q + 1 ≤ f ∧ av = .int .i64 q ∧ wr2 = w2 ∧ Hid (anc l p k ((k : Int) - 1) = anc l p f q)) (fun av _ => (intOf av + 1).toNat)
          case atStart => exact ⟨(k : Int) - 1, k, by omega, by omega, by omega, rfl, rfl, rfl⟩
          case round =>
            obtain ⟨q, f, hq1, hq2, hqf, rfl, hw, hanc⟩ := hrel
            have hw := hw.symm
            subst hw
            have p0 := hp2.cell 0
            have p1 := hp2.cell 1
            have p2 := hp2.cell 2
            have p3 := hp2.cell 3
            by_cases hstep : 0 ≤ q ∧ q ≠ p
            · obtain ⟨h0, hqp⟩ := hstep
              obtain ⟨j, rfl⟩ : ∃ j : Nat, q = j := ⟨q.toNat, by omega⟩
              obtain ⟨f', rfl⟩ : ∃ f', f = f' + 1 := ⟨f - 1, by omega⟩
              obtain ⟨g3, o3, hj', e3, hg3, hz3, d0, d1, d2, d3⟩ := (hx.under hB2).at_ (k := j) (show j < n by omega)
              cases e3
              clear hz3
              have hb := HOK0.out j (by omega) hj'
              have HI : Hid (anc l p k ((k : Int) - 1) = anc l p f' l[j].p) := by show _ = _; rw [hanc.out, Cor.anc_step f' (by omega) hqp, Cor.par_at hj']
              have E := bne_t hqp
              obtain ⟨z, hz⟩ : ∃ z, l[j].p = z := ⟨_, rfl⟩
              rw [hz] at hb d3 HI
              clear hanc hz hqp
              go_wp2
              go_roundw
              case rel => (first | exact ⟨z, f', by omega, by omega, by omega, rfl, trivial, HI⟩ | exact ⟨z, f', by omega, by omega, by omega, rfl, rfl, HI⟩ | exact ⟨z, f', by omega, by omega, by omega, rfl, HI⟩)
              case measure => simp [intOf]; omega
            · have HAN := Lib.hid (hanc.out.trans (Cor.anc_end f (by omega)))
              clear hanc
              by_cases hqp : q = p
              · subst hqp
                have HF4 := Lib.hid (HF3.out.trans (if_neg (by rw [HAN.out]; simp)))
                have HOK := Lib.hid (Cor.parOk_step HOK0.out hk' (by rw [HX.out, HAN.out]; simp))
                clear HF3 HOK0 HAN hstep
                by_cases hp0 : 0 ≤ q
                · obtain ⟨j, rfl⟩ : ∃ j : Nat, q = j := ⟨q.toNat, by omega⟩
                  obtain ⟨g3, o3, hj', e3, hg3, hz3, d0, d1, d2, d3⟩ := (hx.under hB2).at_ (k := j) (show j < n by omega)
                  cases e3
                  clear hz3
                  have hd40 : dp l (j : Nat) ≤ 40 := by rw [← Cor.dep_dp]; exact (Cor.ndF_ok hj' (hinv.out j (by omega))).2.2.2.2.2
                  have HPJ : Hid (l[((j : Nat) : Int).toNat]? = some l[j]) := by show _ = _; rw [Int.toNat_natCast, List.getElem?_eq_getElem hj']
                  obtain ⟨⟨y, yb, ye, yp⟩, hy'⟩ : ∃ p, l[j] = p := ⟨_, rfl⟩
                  rw [hy'] at HPJ d0 d1 d2 d3
                  clear hy'
                  have hB3 := hB2.alloc hB2.size (.cells #[str y, .int .i64 yb, .int .i64 ye, .int .i64 yp] 71)
                  have hbx3 := hbx2.alloc (.cells #[str y, .int .i64 yb, .int .i64 ye, .int .i64 yp] 71)
                  have hp3 := hp2.alloc (.cells #[str y, .int .i64 yb, .int .i64 ye, .int .i64 yp] 71)
                  have hDy := hD2.alloc (.cells #[str y, .int .i64 yb, .int .i64 ye, .int .i64 yp] 71)
                  have t0 := hp3.cell 0
                  have t1 := hp3.cell 1
                  have t2 := hp3.cell 2
                  have t3 := hp3.cell 3
                  have E0 : ((j : Int) != (j : Int)) = false := by simp
                  by_cases hyb : b < yb
                  · have HF5 : Hid (ndErr ts l = (k, 8)) := by
                      have hf := HF4.out.trans (if_pos ⟨hp0, by show (l[((j : Nat) : Int).toNat]?).any _ = true; rw [HPJ.out]; simp [hyb]⟩)
                      show _ = _
                      rw [HA.out (by rw [hf]; simp), hf]
                    clear HF4 HA HPJ
                    go_wp2
                    go_ret2
                    exact ⟨ret_p HF5.out rfl rfl, hB3⟩
                  · by_cases hye : ye < e
                    · have HF5 : Hid (ndErr ts l = (k, 8)) := by
                        have hf := HF4.out.trans (if_pos ⟨hp0, by show (l[((j : Nat) : Int).toNat]?).any _ = true; rw [HPJ.out]; simp [hye]⟩)
                        show _ = _
                        rw [HA.out (by rw [hf]; simp), hf]
                      clear HF4 HA HPJ
                      go_wp2
                      go_ret2
                      exact ⟨ret_p HF5.out rfl rfl, hB3⟩
                    · have HF5 := Lib.hid (HF4.out.trans (if_neg (fun h => by
                        have h2 : (l[((j : Nat) : Int).toNat]?).any (fun q => decide (b < q.b) || decide (q.e < e)) = true := h.2
                        rw [HPJ.out] at h2
                        simp [hyb, hye] at h2)))
                      clear HF4 HPJ
                      obtain ⟨d, hd⟩ : ∃ d, dp l ((j : Nat) : Int) = d := ⟨_, rfl⟩
                      have HDJ := hDv.out j (by omega)
                      rw [if_pos (by omega), hd] at HDJ
                      rw [hd] at hd40
                      have HD := Lib.hid hd
                      clear hd
                      have cD := hDy.ival HDJ
                      have fD := hDy.free k
                      clear HDJ
                      have cDk := hDy.iat (i := k) (by omega)
                      obtain ⟨v9, hv9⟩ : ∃ v9, D[k]'(by omega) = v9 := ⟨_, rfl⟩
                      rw [hv9] at cDk
                      clear hv9
                      obtain ⟨D1, hD1⟩ : ∃ D1, D.set k (d : Int) = D1 := ⟨_, rfl⟩
                      have lD1 : D1.length = n := by rw [← hD1]; simp [hDl]
                      have HD1 : Hid (∀ q, q < n → q ≤ k → D1[q]? = some (if q < k then (dp l (q : Nat) : Int) else d)) := by
                        intro q hq hqk
                        rw [← hD1]
                        by_cases eq : q = k
                        · subst eq; rw [List.getElem?_set_self (by omega), if_neg (by omega)]
                        · rw [List.getElem?_set_ne (by omega), hDv.out q hq, if_pos (by omega), if_pos (by omega)]
                      have HD1z : Hid (∀ q, q < n → k < q → D1[q]? = some 0) := by
                        intro q hq hqk
                        rw [← hD1, List.getElem?_set_ne (by omega), hDv.out q hq, if_neg (by omega)]
                      have hsz := hD.lt
                      have n1 : wo.heap.size ≠ w.heap.size + 1 := by omega
                      have n3 : w.heap.size + 1 ≠ wo.heap.size := by omega
                      have hD3' := hDy.seti k (d : Int)
                      have hB3' := hB3.setCell (p := ⟨w.heap.size + 1, k, none⟩) (by show w.heap.size ≤ w.heap.size + 1; omega) (.int .i64 (d : Int))
                      have hbx3' := hbx3.other (p := ⟨w.heap.size + 1, k, none⟩) (by show w.heap.size + 1 ≠ w.heap.size; omega) (.int .i64 (d : Int))
                      have hp3' := hp3.other (p := ⟨w.heap.size + 1, k, none⟩) (by show w.heap.size + 1 ≠ wo.heap.size; omega) (.int .i64 (d : Int))
                      rw [hD1] at hD3'
                      clear hD1 hDv
                      have hp3 := hp3'
                      have hbx3 := hbx3'
                      have hB3 := hB3'
                      have hD3 := hD3'
                      go_wp2
                      go_loopw [11] (fun sv wr2 => ∃ s : Int, -1 ≤ s ∧ s < k ∧ sv = .int .i64 s ∧ Below w.heap.size w wr2 ∧ Blk wr2 w.heap.size 30 H.cs ∧ Blk wr2 wo.heap.size 71 #[str x, .int .i64 b, .int .i64 e, .int .i64 (j : Nat)] ∧ Blk wr2 (w.heap.size + 1) 3 (ints D1).toArray ∧ Hid (sibE ((j : Nat) : Int) (l.take k) = sibE ((j : Nat) : Int) (l.take (s + 1).toNat))) (fun sv _ => (intOf sv + 1).toNat)
                      case atStart => exact ⟨(k : Int) - 1, by omega, by omega, rfl, hB3, hbx3, hp3, hD3, by show _ = _; rw [show ((k : Int) - 1 + 1).toNat = k by omega]⟩
                      case round =>
                        obtain ⟨s, hs1, hs2, rfl, hB6, hbx6, hp6, hD6, hsib⟩ := hrel
                        have z0 := hp6.cell 1
                        have z3 := hp6.cell 3
                        by_cases hs0 : 0 ≤ s
                        · obtain ⟨i, rfl⟩ : ∃ i : Nat, s = i := ⟨s.toNat, by omega⟩
                          obtain ⟨g4, o4, hi', e4, hg4, hz4, v0, v1, v2, v3⟩ := (hx.under hB6).at_ (k := i) (show i < n by omega)
                          cases e4
                          clear hz4
                          have HST := Lib.hid (Cor.sibE_take (p := ((j : Nat) : Int)) hi')
                          obtain ⟨⟨u, ub, ue, up⟩, hu⟩ : ∃ p, l[i] = p := ⟨_, rfl⟩
                          rw [hu] at HST v0 v1 v2 v3
                          clear hu hi'
                          by_cases hup : up = ((j : Nat) : Int)
                          · have E7 : (up == ((j : Nat) : Int)) = true := by simpa using hup
                            have HSS : Hid (sibE ((j : Nat) : Int) (l.take k) = some ue) := by
                              show _ = _
                              rw [hsib.out, show ((i : Int) + 1).toNat = i + 1 by omega, HST.out, if_pos hup]
                            by_cases hbu : b < ue
                            · have HF6 : Hid (ndErr ts l = (k, 8)) := by
                                have hf := HF5.out.trans (if_pos (by rw [HSS.out]; simpa using hbu))
                                show _ = _
                                rw [HA.out (by rw [hf]; simp), hf]
                              clear HF5 HA HSS HST hsib hup
                              subst_eqs
                              go_wp2
                              go_quiet (fail)
                              go_wp2
                              go_quiet (fail)
                              go_wp2
                              go_ret2
                              exact ⟨ret_p HF6.out rfl rfl, by (repeat refine below_drewN ?_ _); exact hB6⟩
                            · have HSB : (sibE ((j : Nat) : Int) (l.take k)).any (fun e => decide (b < e)) = false := by rw [HSS.out]; simpa using hbu
                              have HSB := Lib.hid HSB
                              clear HSS HST hsib hup
                              go_wp2
                              go_quiet (fail)
                              go_wp2
                              go_quiet (fail)
                              have hDk := hD6.ival (HD1.out k (by omega) (Nat.le_refl _))
                              rw [if_neg (by omega)] at hDk
                              have fDk := hD6.free k
                              have HF6 := Lib.hid (HF5.out.trans (if_neg (by rw [HSB]; simp)))
                              have HDK : Hid (Cor.dep l (k + 1) k = d + 1) := by
                                have h := Cor.dp_at HOK.out hk'
                                rw [HX.out] at h
                                show _ = _
                                rw [Cor.dep_dp, h, ← HD.out]
                              have HDN : Hid (∀ q, q < n → (D1.set k ((d : Int) + 1))[q]? = some (if q < k + 1 then (dp l (q : Nat) : Int) else 0)) := by
                                intro q hq
                                by_cases eq : q = k
                                · subst eq
                                  have h := Cor.dp_at HOK.out hk'
                                  rw [HX.out] at h
                                  rw [List.getElem?_set_self (by omega), if_pos (by omega), h]
                                  show some ((d : Int) + 1) = some ((dp l ((j : Nat) : Int) + 1 : Nat) : Int)
                                  rw [HD.out]; simp
                                · rw [List.getElem?_set_ne (by omega)]
                                  by_cases hqk : q < k
                                  · rw [HD1.out q hq (by omega), if_pos hqk, if_pos (by omega)]
                                  · rw [HD1z.out q hq (by omega), if_neg (by omega)]
                              by_cases h40 : 40 < d + 1
                              · have HF7 : Hid (ndErr ts l = (k, 2)) := by
                                  have hf := HF6.out.trans (if_pos (by rw [HDK.out]; exact h40))
                                  show _ = _
                                  rw [HA.out (by rw [hf]; simp), hf]
                                have h41 : (40 : Int) < (d : Int) + 1 := by omega
                                clear HF6 HF5 HA HDK HDN HD HX HOK HSB HD1 HD1z
                                go_wp2
                                go_ret2
                                exact ⟨ret_p HF7.out rfl rfl, (below_drewN hB6 _).setCell (p := ⟨w.heap.size + 1, _, none⟩) (by show w.heap.size ≤ w.heap.size + 1; omega) _⟩
                              · have h41 : ¬ (40 : Int) < (d : Int) + 1 := by omega
                                have HI : Hid (∀ j, j < k + 1 → ndF ts l j = 0) := upto_step hinv.out (HF6.out.trans (if_neg (by rw [HDK.out]; exact h40)))
                                clear HF6 HF5 HA HDK HD HX HOK HSB HD1 HD1z hinv
                                go_wp2
                                go_roundw
                                case rel =>
                                  exact ⟨k + 1, _, by omega, by go_num, (below_drewN hB6 _).setCell (p := ⟨w.heap.size + 1, k, none⟩) (by show w.heap.size ≤ w.heap.size + 1; omega) _, (hbx6.drewN _).other (p := ⟨w.heap.size + 1, k, none⟩) (by show w.heap.size + 1 ≠ w.heap.size; omega) _, (hD6.drewN _).seti k ((d : Int) + 1), by simp [lD1], HDN, HI⟩
                                case measure => simp [intOf]; omega
                          · have E7 : (up == ((j : Nat) : Int)) = false := by simpa using hup
                            have HI : Hid (sibE ((j : Nat) : Int) (l.take k) = sibE ((j : Nat) : Int) (l.take ((i : Int) - 1 + 1).toNat)) := by
                              show _ = _
                              rw [hsib.out, show ((i : Int) + 1).toNat = i + 1 by omega, HST.out, if_neg hup, show ((i : Int) - 1 + 1).toNat = i by omega]
                            clear HST hsib hup
                            go_wp2
                            go_quiet (fail)
                            go_wp2
                            go_roundw
                            case rel => (first | exact ⟨(i : Int) - 1, by omega, by omega, by go_num, below_drewN hB6 _, hbx6, hp6, hD6, HI⟩ | ((repeat apply Exists.intro); exact ⟨⟨(i : Int) - 1, by omega, by omega, by go_num, below_drewN hB6 _, hbx6, hp6, hD6, HI⟩, rfl⟩))
                            case measure => simp [intOf]
                        · obtain rfl : s = -1 := by omega
                          have HSB : (sibE ((j : Nat) : Int) (l.take k)).any (fun e => decide (b < e)) = false := by rw [hsib.out]; rfl
                          have HSB := Lib.hid HSB
                          clear hsib
                          have hDk := hD6.ival (HD1.out k (by omega) (Nat.le_refl _))
                          rw [if_neg (by omega)] at hDk
                          have fDk := hD6.free k
                          have HF6 := Lib.hid (HF5.out.trans (if_neg (by rw [HSB]; simp)))
                          have HDK : Hid (Cor.dep l (k + 1) k = d + 1) := by
                            have h := Cor.dp_at HOK.out hk'
                            rw [HX.out] at h
                            show _ = _
                            rw [Cor.dep_dp, h, ← HD.out]
                          have HDN : Hid (∀ q, q < n → (D1.set k ((d : Int) + 1))[q]? = some (if q < k + 1 then (dp l (q : Nat) : Int) else 0)) := by
                            intro q hq
                            by_cases eq : q = k
                            · subst eq
                              have h := Cor.dp_at HOK.out hk'
                              rw [HX.out] at h
                              rw [List.getElem?_set_self (by omega), if_pos (by omega), h]
                              show some ((d : Int) + 1) = some ((dp l ((j : Nat) : Int) + 1 : Nat) : Int)
                              rw [HD.out]; simp
                            · rw [List.getElem?_set_ne (by omega)]
                              by_cases hqk : q < k
                              · rw [HD1.out q hq (by omega), if_pos hqk, if_pos (by omega)]
                              · rw [HD1z.out q hq (by omega), if_neg (by omega)]
                          by_cases h40 : 40 < d + 1
                          · have HF7 : Hid (ndErr ts l = (k, 2)) := by
                              have hf := HF6.out.trans (if_pos (by rw [HDK.out]; exact h40))
                              show _ = _
                              rw [HA.out (by rw [hf]; simp), hf]
                            have h41 : (40 : Int) < (d : Int) + 1 := by omega
                            clear HF6 HF5 HA HDK HDN HD HX HOK HSB HD1 HD1z
                            go_wp2
                            go_ret2
                            exact ⟨ret_p HF7.out rfl rfl, hB6.setCell (p := ⟨w.heap.size + 1, _, none⟩) (by show w.heap.size ≤ w.heap.size + 1; omega) _⟩
                          · have h41 : ¬ (40 : Int) < (d : Int) + 1 := by omega
                            have HI : Hid (∀ j, j < k + 1 → ndF ts l j = 0) := upto_step hinv.out (HF6.out.trans (if_neg (by rw [HDK.out]; exact h40)))
                            clear HF6 HF5 HA HDK HD HX HOK HSB HD1 HD1z hinv
                            go_wp2
                            go_roundw
                            case rel =>
                              exact ⟨k + 1, _, by omega, by go_num, hB6.setCell (p := ⟨w.heap.size + 1, k, none⟩) (by show w.heap.size ≤ w.heap.size + 1; omega) _, hbx6.other (p := ⟨w.heap.size + 1, k, none⟩) (by show w.heap.size + 1 ≠ w.heap.size; omega) _, hD6.seti k ((d : Int) + 1), by simp [lD1], HDN, HI⟩
                            case measure => simp [intOf]; omega
                · obtain rfl : q = -1 := by omega
                  have HF5 := Lib.hid (HF4.out.trans (if_neg (fun h => hp0 h.1)))
                  have hB3 := hB2
                  have hbx3 := hbx2
                  have hp3 := hp2
                  have hD3 := hD2
                  obtain ⟨d, hd⟩ : ∃ d : Nat, d = 0 := ⟨_, rfl⟩
                  have hd40 : d ≤ 40 := by omega
                  have HD : Hid (dp l (-1) = d) := by show _ = _; rw [Cor.dp_neg (by omega), hd]
                  have HD1 : Hid (∀ q, q < n → q ≤ k → D[q]? = some (if q < k then (dp l (q : Nat) : Int) else d)) := by
                    intro q hq hqk
                    rw [hDv.out q hq, hd]
                    rfl
                  have HD1z : Hid (∀ q, q < n → k < q → D[q]? = some 0) := by
                    intro q hq hqk
                    rw [hDv.out q hq, if_neg (by omega)]
                  have lD1 : D.length = n := hDl
                  obtain ⟨D1, rfl⟩ : ∃ D1, D1 = D := ⟨_, rfl⟩
                  have hsz := hD.lt
                  have n1 : wo.heap.size ≠ w.heap.size + 1 := by omega
                  have n3 : w.heap.size + 1 ≠ wo.heap.size := by omega
                  clear HF4 hp0 hd hDv
                  go_wp2
                  go_loopw [11] (fun sv wr2 => ∃ s : Int, -1 ≤ s ∧ s < k ∧ sv = .int .i64 s ∧ Below w.heap.size w wr2 ∧ Blk wr2 w.heap.size 30 H.cs ∧ Blk wr2 wo.heap.size 71 #[str x, .int .i64 b, .int .i64 e, .int .i64 (-1)] ∧ Blk wr2 (w.heap.size + 1) 3 (ints D1).toArray ∧ Hid (sibE (-1 : Int) (l.take k) = sibE (-1 : Int) (l.take (s + 1).toNat))) (fun sv _ => (intOf sv + 1).toNat)
                  case atStart => exact ⟨(k : Int) - 1, by omega, by omega, rfl, hB3, hbx3, hp3, hD3, by show _ = _; rw [show ((k : Int) - 1 + 1).toNat = k by omega]⟩
                  case round =>
                    obtain ⟨s, hs1, hs2, rfl, hB6, hbx6, hp6, hD6, hsib⟩ := hrel
                    have z0 := hp6.cell 1
                    have z3 := hp6.cell 3
                    by_cases hs0 : 0 ≤ s
                    · obtain ⟨i, rfl⟩ : ∃ i : Nat, s = i := ⟨s.toNat, by omega⟩
                      obtain ⟨g4, o4, hi', e4, hg4, hz4, v0, v1, v2, v3⟩ := (hx.under hB6).at_ (k := i) (show i < n by omega)
                      cases e4
                      clear hz4
                      have HST := Lib.hid (Cor.sibE_take (p := (-1 : Int)) hi')
                      obtain ⟨⟨u, ub, ue, up⟩, hu⟩ : ∃ p, l[i] = p := ⟨_, rfl⟩
                      rw [hu] at HST v0 v1 v2 v3
                      clear hu hi'
                      by_cases hup : up = (-1 : Int)
                      · have E7 : (up == (-1 : Int)) = true := by simpa using hup
                        have HSS : Hid (sibE (-1 : Int) (l.take k) = some ue) := by
                          show _ = _
                          rw [hsib.out, show ((i : Int) + 1).toNat = i + 1 by omega, HST.out, if_pos hup]
                        by_cases hbu : b < ue
                        · have HF6 : Hid (ndErr ts l = (k, 8)) := by
                            have hf := HF5.out.trans (if_pos (by rw [HSS.out]; simpa using hbu))
                            show _ = _
                            rw [HA.out (by rw [hf]; simp), hf]
                          clear HF5 HA HSS HST hsib hup
                          subst_eqs
                          go_wp2
                          go_quiet (fail)
                          go_wp2
                          go_quiet (fail)
                          go_wp2
                          go_ret2
                          exact ⟨ret_p HF6.out rfl rfl, by (repeat refine below_drewN ?_ _); exact hB6⟩
                        · have HSB : (sibE (-1 : Int) (l.take k)).any (fun e => decide (b < e)) = false := by rw [HSS.out]; simpa using hbu
                          have HSB := Lib.hid HSB
                          clear HSS HST hsib hup
                          go_wp2
                          go_quiet (fail)
                          go_wp2
                          go_quiet (fail)
                          have hDk := hD6.ival (HD1.out k (by omega) (Nat.le_refl _))
                          rw [if_neg (by omega)] at hDk
                          have fDk := hD6.free k
                          have HF6 := Lib.hid (HF5.out.trans (if_neg (by rw [HSB]; simp)))
                          have HDK : Hid (Cor.dep l (k + 1) k = d + 1) := by
                            have h := Cor.dp_at HOK.out hk'
                            rw [HX.out] at h
                            show _ = _
                            rw [Cor.dep_dp, h, ← HD.out]
                          have HDN : Hid (∀ q, q < n → (D1.set k ((d : Int) + 1))[q]? = some (if q < k + 1 then (dp l (q : Nat) : Int) else 0)) := by
                            intro q hq
                            by_cases eq : q = k
                            · subst eq
                              have h := Cor.dp_at HOK.out hk'
                              rw [HX.out] at h
                              rw [List.getElem?_set_self (by omega), if_pos (by omega), h]
                              show some ((d : Int) + 1) = some ((dp l (-1 : Int) + 1 : Nat) : Int)
                              rw [HD.out]; simp
                            · rw [List.getElem?_set_ne (by omega)]
                              by_cases hqk : q < k
                              · rw [HD1.out q hq (by omega), if_pos hqk, if_pos (by omega)]
                              · rw [HD1z.out q hq (by omega), if_neg (by omega)]
                          by_cases h40 : 40 < d + 1
                          · have HF7 : Hid (ndErr ts l = (k, 2)) := by
                              have hf := HF6.out.trans (if_pos (by rw [HDK.out]; exact h40))
                              show _ = _
                              rw [HA.out (by rw [hf]; simp), hf]
                            have h41 : (40 : Int) < (d : Int) + 1 := by omega
                            clear HF6 HF5 HA HDK HDN HD HX HOK HSB HD1 HD1z
                            go_wp2
                            go_ret2
                            exact ⟨ret_p HF7.out rfl rfl, (below_drewN hB6 _).setCell (p := ⟨w.heap.size + 1, _, none⟩) (by show w.heap.size ≤ w.heap.size + 1; omega) _⟩
                          · have h41 : ¬ (40 : Int) < (d : Int) + 1 := by omega
                            have HI : Hid (∀ j, j < k + 1 → ndF ts l j = 0) := upto_step hinv.out (HF6.out.trans (if_neg (by rw [HDK.out]; exact h40)))
                            clear HF6 HF5 HA HDK HD HX HOK HSB HD1 HD1z hinv
                            go_wp2
                            go_roundw
                            case rel =>
                              exact ⟨k + 1, _, by omega, by go_num, (below_drewN hB6 _).setCell (p := ⟨w.heap.size + 1, k, none⟩) (by show w.heap.size ≤ w.heap.size + 1; omega) _, (hbx6.drewN _).other (p := ⟨w.heap.size + 1, k, none⟩) (by show w.heap.size + 1 ≠ w.heap.size; omega) _, (hD6.drewN _).seti k ((d : Int) + 1), by simp [lD1], HDN, HI⟩
                            case measure => simp [intOf]; omega
                      · have E7 : (up == (-1 : Int)) = false := by simpa using hup
                        have HI : Hid (sibE (-1 : Int) (l.take k) = sibE (-1 : Int) (l.take ((i : Int) - 1 + 1).toNat)) := by
                          show _ = _
                          rw [hsib.out, show ((i : Int) + 1).toNat = i + 1 by omega, HST.out, if_neg hup, show ((i : Int) - 1 + 1).toNat = i by omega]
                        clear HST hsib hup
                        go_wp2
                        go_quiet (fail)
                        go_wp2
                        go_roundw
                        case rel => (first | exact ⟨(i : Int) - 1, by omega, by omega, by go_num, below_drewN hB6 _, hbx6, hp6, hD6, HI⟩ | ((repeat apply Exists.intro); exact ⟨⟨(i : Int) - 1, by omega, by omega, by go_num, below_drewN hB6 _, hbx6, hp6, hD6, HI⟩, rfl⟩))
                        case measure => simp [intOf]
                    · obtain rfl : s = -1 := by omega
                      have HSB : (sibE (-1 : Int) (l.take k)).any (fun e => decide (b < e)) = false := by rw [hsib.out]; rfl
                      have HSB := Lib.hid HSB
                      clear hsib
                      have hDk := hD6.ival (HD1.out k (by omega) (Nat.le_refl _))
                      rw [if_neg (by omega)] at hDk
                      have fDk := hD6.free k
                      have HF6 := Lib.hid (HF5.out.trans (if_neg (by rw [HSB]; simp)))
                      have HDK : Hid (Cor.dep l (k + 1) k = d + 1) := by
                        have h := Cor.dp_at HOK.out hk'
                        rw [HX.out] at h
                        show _ = _
                        rw [Cor.dep_dp, h, ← HD.out]
                      have HDN : Hid (∀ q, q < n → (D1.set k ((d : Int) + 1))[q]? = some (if q < k + 1 then (dp l (q : Nat) : Int) else 0)) := by
                        intro q hq
                        by_cases eq : q = k
                        · subst eq
                          have h := Cor.dp_at HOK.out hk'
                          rw [HX.out] at h
                          rw [List.getElem?_set_self (by omega), if_pos (by omega), h]
                          show some ((d : Int) + 1) = some ((dp l (-1 : Int) + 1 : Nat) : Int)
                          rw [HD.out]; simp
                        · rw [List.getElem?_set_ne (by omega)]
                          by_cases hqk : q < k
                          · rw [HD1.out q hq (by omega), if_pos hqk, if_pos (by omega)]
                          · rw [HD1z.out q hq (by omega), if_neg (by omega)]
                      by_cases h40 : 40 < d + 1
                      · have HF7 : Hid (ndErr ts l = (k, 2)) := by
                          have hf := HF6.out.trans (if_pos (by rw [HDK.out]; exact h40))
                          show _ = _
                          rw [HA.out (by rw [hf]; simp), hf]
                        have h41 : (40 : Int) < (d : Int) + 1 := by omega
                        clear HF6 HF5 HA HDK HDN HD HX HOK HSB HD1 HD1z
                        go_wp2
                        go_ret2
                        exact ⟨ret_p HF7.out rfl rfl, hB6.setCell (p := ⟨w.heap.size + 1, _, none⟩) (by show w.heap.size ≤ w.heap.size + 1; omega) _⟩
                      · have h41 : ¬ (40 : Int) < (d : Int) + 1 := by omega
                        have HI : Hid (∀ j, j < k + 1 → ndF ts l j = 0) := upto_step hinv.out (HF6.out.trans (if_neg (by rw [HDK.out]; exact h40)))
                        clear HF6 HF5 HA HDK HD HX HOK HSB HD1 HD1z hinv
                        go_wp2
                        go_roundw
                        case rel =>
                          exact ⟨k + 1, _, by omega, by go_num, hB6.setCell (p := ⟨w.heap.size + 1, k, none⟩) (by show w.heap.size ≤ w.heap.size + 1; omega) _, hbx6.other (p := ⟨w.heap.size + 1, k, none⟩) (by show w.heap.size + 1 ≠ w.heap.size; omega) _, hD6.seti k ((d : Int) + 1), by simp [lD1], HDN, HI⟩
                        case measure => simp [intOf]; omega
              · have HF4 := Lib.hid (HF3.out.trans (if_pos (by rw [HAN.out]; simpa using hqp)))
                have HF5 : Hid (ndErr ts l = (k, 6)) := by show _ = _; rw [HA.out (by rw [HF4.out]; simp), HF4.out]
                obtain rfl : q = -1 := by omega
                have E8 : (p != -1) = true := by rw [bne_iff_ne]; omega
                clear HF3 HF4 HA HAN hstep hqp
                go_wp2
                go_ret2
                exact ⟨ret_p HF5.out rfl rfl, hB2⟩
    · have HF : Hid (ndErr ts l = (0, 0)) := Cor.ndErr_zero (by have : l.length = n := HL.out; omega) (fun j hj => hinv.out j (by have : l.length = n := HL.out; omega))
      clear hinv
      go_wp2
      go_ret2
      exact ⟨ret_p HF.out rfl rfl, hB⟩
end Go.Proofs.YtgkdaebiefhgdaaGreatDoor
namespace Go.Proofs.YtgkdaebiefhgdaaGreatDoor
open Go.RowKit Utf
open Feat (Bs)
open Tagp (KV okName)
open Cor (hdF hdErr bare textAt)
set_option maxRecDepth 100000 in
set_option maxHeartbeats 8000000 in
theorem refHeads_any (H : CH) (ts : List Cor.Txt) (h : List Int) (r : List Bs) (w : World) (hft : Fit H.t) (hts : Txts w w.heap.size H.x ts) (hh : Nums w w.heap.size H.h h) (hrl : Words w w.heap.size H.l r) :
    Calls Tryz.prog 80 #[H.v] w (Kept (.tuple #[.int .i64 ((hdErr H.t.n ts h r).1 : Nat), .int .i64 ((hdErr H.t.n ts h r).2 : Nat)]) w) := by
  obtain ⟨ha, ⟨At, nt, ct⟩, hX, hr, hn, ⟨A, n, c⟩, ⟨A2, n2, c2⟩⟩ := H
  show Calls Tryz.prog 80 #[.agg #[ha.v, .slice At nt ct, hX.v, hr.v, hn.v, .slice A n c, .slice A2 n2 c2]] w (Kept (.tuple #[.int .i64 ((hdErr nt ts h r).1 : Nat), .int .i64 ((hdErr nt ts h r).2 : Nat)]) w)
  have f0 : nt ≤ 9223372036854775807 := hft.2
  have HL := Lib.hid hh.len
  have HR := Lib.hid hrl.len
  have f1 : n ≤ 9223372036854775807 := hh.1.2
  have f2 : n2 ≤ 9223372036854775807 := hrl.1.2
  clear hft
  have hB0 := (Below.refl w.heap.size w).alloc (Nat.le_refl _) (.cells #[ha.v, .slice At nt ct, hX.v, hr.v, hn.v, .slice A n c, .slice A2 n2 c2] 30)
  have hb0 := Blk.new w 30 #[ha.v, .slice At nt ct, hX.v, hr.v, hn.v, .slice A n c, .slice A2 n2 c2]
  by_cases e1 : n = n2
  · subst e1
    have hnl : h.length ≤ n ∧ n ≤ h.length := by have : h.length = n := HL.out; omega
    have hr' : Words w w.heap.size ⟨A2, n, c2⟩ r := hrl
    by_cases e2 : n = 0
    · have H1 : Hid (¬ (h.length ≠ r.length ∨ (h.length ≠ 0 ∧ h.length ≠ nt))) := by
        have h1 : h.length = n := HL.out
        have h2 : r.length = n := HR.out
        show ¬ _
        omega
      have H2 : Hid (¬ (0 < h.length ∧ bare h r = true)) := by show ¬ _; omega
      have E1 : decide (0 < n) = false := by simpa using e2
      have i2 : ¬ 0 < n := by omega
      have E0 : ((n : Int) != 0) = false := by simp [e2]
      clear e2
      go_enter Tryz.func80, Tryz.ntmps80
      go_wp2
      go_loopw [38] (fun iv wr => ∃ k : Nat, k ≤ n ∧ iv = .int .i64 k ∧ Below w.heap.size w wr ∧ Blk wr w.heap.size 30 #[ha.v, .slice At nt ct, hX.v, hr.v, hn.v, .slice A n c, .slice A2 n c2] ∧ Hid (∀ j, j < k → hdF ts h r j = 0)) (fun iv _ => n - (intOf iv).toNat)
      case atStart => exact ⟨0, by omega, rfl, hB0, hb0, fun j hj => by omega⟩
      case round =>
        obtain ⟨k, hk, rfl, hB, hbx, hinv⟩ := hrel
        by_cases hlt : k < n
        · exfalso; omega
        · have HF : Hid (hdErr nt ts h r = (0, 0)) := hdErr_zero H1.out H2.out (fun j hj => hinv.out j (by omega))
          clear hinv
          go_wp2
          go_ret2
          exact ⟨ret_p HF.out rfl rfl, hB⟩
    · have E0 : ((n : Int) != 0) = true := by rw [bne_iff_ne]; omega
      by_cases e3 : n = nt
      · subst e3
        have E1 : decide (0 < n) = true := by simp; omega
        have i2 : 0 < n := by omega
        clear e2
        have HNH := Lib.hid (bare_any A n c A2 c2 h r (w.alloc (.cells #[ha.v, .slice At n ct, hX.v, hr.v, hn.v, .slice A n c, .slice A2 n c2] 30)) ((hh.under hB0).up hB0.size) ((hr'.under hB0).up hB0.size))
        cases hba : bare h r with
        | true =>
          have HF : Hid (hdErr n ts h r = (0, 14)) := by
            have h1 : h.length = n := HL.out
            have h2 : r.length = n := HR.out
            show _ = _
            unfold hdErr
            rw [if_neg (by omega), if_pos ⟨by omega, hba⟩]
          rw [hba] at HNH
          clear hba
          go_enter Tryz.func80, Tryz.ntmps80
          go_wp2_with fail
          refine HNH.out.mono ?_
          rintro e' w1 ⟨rfl, rfl⟩
          go_wp2
          go_ret2
          exact ⟨ret_p HF.out rfl rfl, hB0⟩
        | false =>
          have H1 : Hid (¬ (h.length ≠ r.length ∨ (h.length ≠ 0 ∧ h.length ≠ n))) := by
            have h1 : h.length = n := HL.out
            have h2 : r.length = n := HR.out
            show ¬ _
            omega
          have H2 : Hid (¬ (0 < h.length ∧ bare h r = true)) := by show ¬ _; rw [hba]; simp
          rw [hba] at HNH
          clear hba
          go_enter Tryz.func80, Tryz.ntmps80
          go_wp2_with fail
          refine HNH.out.mono ?_
          rintro e' w1 ⟨rfl, rfl⟩
          clear HNH
          go_wp2
          go_loopw [38] (fun iv wr => ∃ k : Nat, k ≤ n ∧ iv = .int .i64 k ∧ Below w.heap.size w wr ∧ Blk wr w.heap.size 30 #[ha.v, .slice At n ct, hX.v, hr.v, hn.v, .slice A n c, .slice A2 n c2] ∧ Hid (∀ j, j < k → hdF ts h r j = 0)) (fun iv _ => n - (intOf iv).toNat)
          case atStart => exact ⟨0, by omega, rfl, hB0, hb0, fun j hj => by omega⟩
          case round =>
            obtain ⟨k, hk, rfl, hB, hbx, hinv⟩ := hrel
            by_cases hlt : k < n
            · obtain ⟨g, o, hk1, e0, hg, z1, c0⟩ := (hh.under hB).at_ (k := k) hlt
              have e0 : A = some ⟨g, o, none⟩ := e0
              subst e0
              obtain ⟨g2, o2, hk2, e0, hg2, z2, d0⟩ := (hr'.under hB).at_ (k := k) hlt
              have e0 : A2 = some ⟨g2, o2, none⟩ := e0
              subst e0
              have HF := Lib.hid (hdF_at (ts := ts) hk1 hk2)
              have HA := Lib.hid (fun hf => hdErr_at (n := n) H1.out H2.out hk1 hinv.out hf)
              obtain ⟨x, hx⟩ : ∃ x, h[k] = x := ⟨_, rfl⟩
              obtain ⟨s, hs⟩ : ∃ s, r[k] = s := ⟨_, rfl⟩
              rw [hx, HL.out] at HF
              rw [hx] at c0 z1
              rw [hs] at d0 HF z2
              have z2 : s.length ≤ 9223372036854775807 := z2
              have HS := Lib.hid hs
              clear hx hs
              go_wp2
              go_cut [62, 38] from 38 to 85 (fun tv iv wc => ∃ bv : Bool, tv = .bool bv ∧ iv = .int .i64 k ∧ Hid (bv = true ↔ (x ≠ -1 ∧ (x < 0 ∨ (n : Int) ≤ x ∨ textAt ts x ≠ textAt ts (k : Nat)))) ∧ Below w.heap.size w wc ∧ Blk wc w.heap.size 30 #[ha.v, .slice At n ct, hX.v, hr.v, hn.v, .slice (some ⟨g, o, none⟩) n c, .slice (some ⟨g2, o2, none⟩) n c2])
              case first =>
                clear HF HA HS
                by_cases ex : x = -1
                · subst ex
                  go_big_quiet (fail)
                  go_wp2
                  go_meet
                  case rel => exact ⟨false, rfl, rfl, by show _ ↔ _; simp, below_drewN hB _, hbx⟩
                · have E1 := bne_t ex
                  have E1d : decide (x = -1) = false := by simpa using ex
                  by_cases ex0 : x < 0
                  · have E2 : decide (x < 0) = true := by simpa using ex0
                    go_big_quiet (fail)
                    go_wp2
                    go_meet
                    case rel => exact ⟨true, rfl, rfl, by show _ ↔ _; simp [ex, ex0], below_drewN hB _, hbx⟩
                  · have E2 : decide (x < 0) = false := by simpa using ex0
                    by_cases exn : (n : Int) ≤ x
                    · have E3 : decide ((n : Int) ≤ x) = true := by simpa using exn
                      go_big_quiet (fail)
                      go_wp2
                      go_meet
                      case rel => exact ⟨true, rfl, rfl, by show _ ↔ _; simp [ex, exn], below_drewN hB _, hbx⟩
                    · have E3 : decide ((n : Int) ≤ x) = false := by simpa using exn
                      have b0 := hbx.cell 0
                      have b1 := hbx.cell 1
                      have b2 := hbx.cell 2
                      have b3 := hbx.cell 3
                      have b4 := hbx.cell 4
                      have b5 := hbx.cell 5
                      have b6 := hbx.cell 6
                      have hbD := (Below.refl wr.heap.size wr).drew
                      have HTA := Lib.hid (fun (W : World) (hW : Below wr.heap.size wr W) => refTextAt_any ⟨ha, ⟨At, n, ct⟩, hX, hr, hn, ⟨some ⟨g, o, none⟩, n, c⟩, ⟨some ⟨g2, o2, none⟩, n, c2⟩⟩ ts x W ((hts.under (hB.trans (hW.mono hB.size))).up (hB.trans (hW.mono hB.size)).size))
                      have HTB := Lib.hid (fun (W : World) (hW : Below wr.heap.size wr W) => refTextAt_any ⟨ha, ⟨At, n, ct⟩, hX, hr, hn, ⟨some ⟨g, o, none⟩, n, c⟩, ⟨some ⟨g2, o2, none⟩, n, c2⟩⟩ ts (k : Nat) W ((hts.under (hB.trans (hW.mono hB.size))).up (hB.trans (hW.mono hB.size)).size))
                      go_region_held3 (fun W => W.cell? ⟨w.heap.size, 0, none⟩ = some (.slice ha.A ha.n ha.c) ∧ W.cell? ⟨w.heap.size, 1, none⟩ = some (.slice At n ct) ∧ W.cell? ⟨w.heap.size, 2, none⟩ = some (.slice hX.A hX.n hX.c) ∧ W.cell? ⟨w.heap.size, 3, none⟩ = some (.slice hr.A hr.n hr.c) ∧ W.cell? ⟨w.heap.size, 4, none⟩ = some (.slice hn.A hn.n hn.c) ∧ W.cell? ⟨w.heap.size, 5, none⟩ = some (.slice (some ⟨g, o, none⟩) n c) ∧ W.cell? ⟨w.heap.size, 6, none⟩ = some (.slice (some ⟨g2, o2, none⟩) n c2)) (first | (with_reducible exact ⟨x0, x1, x2, x3, x4, x5, x6⟩) | (with_reducible exact ⟨b0, b1, b2, b3, b4, b5, b6⟩) | go_keep) (first
                        | (go_at_call 122; (with_reducible show Calls _ _ _ (World.drew wr) _); refine (HTA.out wr.drew hbD).mono ?_; rintro e' w5 ⟨rfl, hb5⟩; have hb6 := hbD.trans (hb5.mono hbD.size); have B5 := hbx.below hb6; have x0 : w5.cell? ⟨w.heap.size, 0, none⟩ = some (.slice ha.A ha.n ha.c) := B5.cell 0; have x1 : w5.cell? ⟨w.heap.size, 1, none⟩ = some (.slice At n ct) := B5.cell 1; have x2 : w5.cell? ⟨w.heap.size, 2, none⟩ = some (.slice hX.A hX.n hX.c) := B5.cell 2; have x3 : w5.cell? ⟨w.heap.size, 3, none⟩ = some (.slice hr.A hr.n hr.c) := B5.cell 3; have x4 : w5.cell? ⟨w.heap.size, 4, none⟩ = some (.slice hn.A hn.n hn.c) := B5.cell 4; have x5 : w5.cell? ⟨w.heap.size, 5, none⟩ = some (.slice (some ⟨g, o, none⟩) n c) := B5.cell 5; have x6 : w5.cell? ⟨w.heap.size, 6, none⟩ = some (.slice (some ⟨g2, o2, none⟩) n c2) := B5.cell 6)
                        | (go_at_call 122; refine (HTB.out _ hb6).mono ?_; rintro e' w7 ⟨rfl, hb7⟩; have hb8 := hb6.trans (hb7.mono hb6.size); have B5 := hbx.below hb8; have x0 : w7.cell? ⟨w.heap.size, 0, none⟩ = some (.slice ha.A ha.n ha.c) := B5.cell 0; have x1 : w7.cell? ⟨w.heap.size, 1, none⟩ = some (.slice At n ct) := B5.cell 1; have x2 : w7.cell? ⟨w.heap.size, 2, none⟩ = some (.slice hX.A hX.n hX.c) := B5.cell 2; have x3 : w7.cell? ⟨w.heap.size, 3, none⟩ = some (.slice hr.A hr.n hr.c) := B5.cell 3; have x4 : w7.cell? ⟨w.heap.size, 4, none⟩ = some (.slice hn.A hn.n hn.c) := B5.cell 4; have x5 : w7.cell? ⟨w.heap.size, 5, none⟩ = some (.slice (some ⟨g, o, none⟩) n c) := B5.cell 5; have x6 : w7.cell? ⟨w.heap.size, 6, none⟩ = some (.slice (some ⟨g2, o2, none⟩) n c2) := B5.cell 6))
                      all_goals
                        go_wp2
                        go_meet
                        case rel => exact ⟨_, rfl, rfl, by show _ ↔ _; simp [ex]; exact ⟨fun h => .inr (.inr h), fun h => h.elim (fun h => absurd h (by omega)) (fun h => h.elim (fun h => absurd h (by omega)) id)⟩, hB.trans (hb8.mono hB.size), hbx.below hb8⟩
              case rest =>
                obtain ⟨bv, rfl, rfl, HBV, hB7, hbx7⟩ := hcut
                have q6 := hbx7.cell 6
                obtain ⟨g2', o2', hk2', e0, hg2', z2', d0'⟩ := (hr'.under hB7).at_ (k := k) hlt
                cases e0
                rw [HS.out] at d0'
                clear z2' d0 c0
                cases bv with
                | true =>
                  have HF8 := Lib.hid (HF.out.trans (if_pos (HBV.out.1 rfl)))
                  have HF9 : Hid (hdErr n ts h r = (k, 8)) := by show _ = _; rw [HA.out (by rw [HF8.out]; simp), HF8.out]
                  clear HF8 HA HF
                  go_wp2
                  go_ret2
                  exact ⟨ret_p HF9.out rfl rfl, hB7⟩
                | false =>
                  have HF2 := Lib.hid (HF.out.trans (if_neg (fun h => by have := HBV.out.2 h; cases this)))
                  by_cases es : s = []
                  · subst es
                    have HF4 := Lib.hid (HF2.out.trans (if_neg (fun h => by simp at h)))
                    clear HF2
                    have q5 := hbx7.cell 5
                    go_wp2_with fail
                    refine (cyclic_any (some ⟨g, o, none⟩) n c h k _ hlt ((hh.under hB7).up hB7.size)).mono ?_
                    rintro e' w9 ⟨rfl, rfl⟩
                    clear q5
                    obtain ⟨cy, hcy2⟩ : ∃ cy, Cor.cyc h k = cy := ⟨_, rfl⟩
                    simp only [hcy2]
                    have HCY := Lib.hid hcy2
                    clear hcy2
                    cases cy with
                    | true =>
                      have HF8 := Lib.hid (HF4.out.trans (if_pos HCY.out))
                      have HF9 : Hid (hdErr n ts h r = (k, 12)) := by show _ = _; rw [HA.out (by rw [HF8.out]; simp), HF8.out]
                      clear HF8 HA HF
                      go_wp2
                      go_ret2
                      exact ⟨ret_p HF9.out rfl rfl, hB7⟩
                    | false =>
                      have HI : Hid (∀ j, j < k + 1 → hdF ts h r j = 0) := upto_step hinv.out (HF4.out.trans (if_neg (by rw [HCY.out]; simp)))
                      clear HF4 HA HF hinv
                      go_wp2
                      go_roundw
                      case rel => (first | exact ⟨k + 1, by omega, by go_num, hB7, hbx7, HI⟩ | ((repeat apply Exists.intro); exact ⟨⟨k + 1, by omega, by go_num, hB7, hbx7, HI⟩, rfl⟩))
                      case measure => simp [intOf]; omega
                  · have E3 : (s == []) = false := by simpa using es
                    have E4 : s.isEmpty = false := by simpa using es
                    cases hok2 : okName s with
                    | false =>
                      have HF8 := Lib.hid (HF2.out.trans (if_pos ⟨E4, hok2⟩))
                      have HF9 : Hid (hdErr n ts h r = (k, 4)) := by show _ = _; rw [HA.out (by rw [HF8.out]; simp), HF8.out]
                      clear HF2 HF8 HA HF es E4
                      go_wp2_with fail
                      refine (refValidName_any s z2 _).mono ?_
                      rintro e' w8 ⟨rfl, rfl⟩
                      rw [hok2]
                      clear hok2
                      go_wp2
                      go_ret2
                      exact ⟨ret_p HF9.out rfl rfl, hB7⟩
                    | true =>
                      have HF4 := Lib.hid (HF2.out.trans (if_neg (fun h => by rw [hok2] at h; simp at h)))
                      clear HF2 es E4
                      go_wp2_with fail
                      refine (refValidName_any s z2 _).mono ?_
                      rintro e' w8 ⟨rfl, rfl⟩
                      rw [hok2]
                      clear hok2
                      have q5 := hbx7.cell 5
                      go_wp2_with fail
                      refine (cyclic_any (some ⟨g, o, none⟩) n c h k _ hlt ((hh.under hB7).up hB7.size)).mono ?_
                      rintro e' w9 ⟨rfl, rfl⟩
                      clear q5
                      obtain ⟨cy, hcy2⟩ : ∃ cy, Cor.cyc h k = cy := ⟨_, rfl⟩
                      simp only [hcy2]
                      have HCY := Lib.hid hcy2
                      clear hcy2
                      cases cy with
                      | true =>
                        have HF8 := Lib.hid (HF4.out.trans (if_pos HCY.out))
                        have HF9 : Hid (hdErr n ts h r = (k, 12)) := by show _ = _; rw [HA.out (by rw [HF8.out]; simp), HF8.out]
                        clear HF8 HA HF
                        go_wp2
                        go_ret2
                        exact ⟨ret_p HF9.out rfl rfl, hB7⟩
                      | false =>
                        have HI : Hid (∀ j, j < k + 1 → hdF ts h r j = 0) := upto_step hinv.out (HF4.out.trans (if_neg (by rw [HCY.out]; simp)))
                        clear HF4 HA HF hinv
                        go_wp2
                        go_roundw
                        case rel => (first | exact ⟨k + 1, by omega, by go_num, hB7, hbx7, HI⟩ | ((repeat apply Exists.intro); exact ⟨⟨k + 1, by omega, by go_num, hB7, hbx7, HI⟩, rfl⟩))
                        case measure => simp [intOf]; omega
            · have HF : Hid (hdErr n ts h r = (0, 0)) := hdErr_zero H1.out H2.out (fun j hj => hinv.out j (by omega))
              clear hinv
              go_wp2
              go_ret2
              exact ⟨ret_p HF.out rfl rfl, hB⟩
      · have HF : Hid (hdErr nt ts h r = (0, 15)) := by
          have h1 : h.length = n := HL.out
          show _ = _
          unfold hdErr
          rw [if_pos (.inr (by omega))]
        have E1 : decide (0 < n) = true := by simp; omega
        have i2 : 0 < n := by omega
        have E2 : ((n : Int) != (nt : Int)) = true := by rw [bne_iff_ne]; omega
        go_enter Tryz.func80, Tryz.ntmps80
        go_wp2
        go_ret2
        exact ⟨ret_p HF.out rfl rfl, hB0⟩
  · have HF : Hid (hdErr nt ts h r = (0, 15)) := by
      have h1 : h.length = n := HL.out
      have h2 : r.length = n2 := HR.out
      show _ = _
      unfold hdErr
      rw [if_pos (.inl (by omega))]
    have E : ((n : Int) != (n2 : Int)) = true := by rw [bne_iff_ne]; omega
    go_enter Tryz.func80, Tryz.ntmps80
    go_wp2
    go_ret2
    exact ⟨ret_p HF.out rfl rfl, hB0⟩
end Go.Proofs.YtgkdaebiefhgdaaGreatDoor
namespace Go.Proofs.YtgkdaebiefhgdaaGreatDoor
open Go.RowKit Utf
open Feat (Bs)
open Cor (C check atErr tkErr txErr rgErr ndErr hdErr)
set_option maxRecDepth 100000 in
set_option maxHeartbeats 4000000 in
theorem refValidate_any (H : CH) (c : Cor.C) (w : World) (hr : Reads w w.heap.size H c) : Calls Tryz.prog 34 #[H.v] w (Valed c w) := by
  obtain ⟨⟨Aa, na, ca⟩, ⟨At, nt, ct⟩, ⟨Ax, nx, cx⟩, ⟨Ar, nr, cr⟩, ⟨An, nn, cn⟩, ⟨Ah, nh, ch⟩, ⟨Al, nl, cl⟩⟩ := H
  show Calls Tryz.prog 34 #[.agg #[.slice Aa na ca, .slice At nt ct, .slice Ax nx cx, .slice Ar nr cr, .slice An nn cn, .slice Ah nh ch, .slice Al nl cl]] w _
  have hB0 := (Below.refl w.heap.size w).alloc (Nat.le_refl _) (.cells #[.slice Aa na ca, .slice At nt ct, .slice Ax nx cx, .slice Ar nr cr, .slice An nn cn, .slice Ah nh ch, .slice Al nl cl] 30)
  have b0 := Blk.new w 30 #[.slice Aa na ca, .slice At nt ct, .slice Ax nx cx, .slice Ar nr cr, .slice An nn cn, .slice Ah nh ch, .slice Al nl cl]
  have r0 := (hr.under hB0).up hB0.size
  have g0 := Below.refl (w.alloc (.cells #[.slice Aa na ca, .slice At nt ct, .slice Ax nx cx, .slice Ar nr cr, .slice An nn cn, .slice Ah nh ch, .slice Al nl cl] 30)).heap.size (w.alloc (.cells #[.slice Aa na ca, .slice At nt ct, .slice Ax nx cx, .slice Ar nr cr, .slice An nn cn, .slice Ah nh ch, .slice Al nl cl] 30))
  have htl : c.toks.length = nt := hr.t.len
  have HX := Lib.hid (fun (W : World) (hW : Below (w.alloc (.cells #[.slice Aa na ca, .slice At nt ct, .slice Ax nx cx, .slice Ar nr cr, .slice An nn cn, .slice Ah nh ch, .slice Al nl cl] 30)).heap.size (w.alloc (.cells #[.slice Aa na ca, .slice At nt ct, .slice Ax nx cx, .slice Ar nr cr, .slice An nn cn, .slice Ah nh ch, .slice Al nl cl] 30)) W) => b0.below hW)
  have C0 := Lib.hid (fun (W : World) (hW : Below (w.alloc (.cells #[.slice Aa na ca, .slice At nt ct, .slice Ax nx cx, .slice Ar nr cr, .slice An nn cn, .slice Ah nh ch, .slice Al nl cl] 30)).heap.size (w.alloc (.cells #[.slice Aa na ca, .slice At nt ct, .slice Ax nx cx, .slice Ar nr cr, .slice An nn cn, .slice Ah nh ch, .slice Al nl cl] 30)) W) => refAttributes_any Aa na ca c.attrs W ((r0.a.under hW).up hW.size))
  have C1 := Lib.hid (fun (W : World) (hW : Below (w.alloc (.cells #[.slice Aa na ca, .slice At nt ct, .slice Ax nx cx, .slice Ar nr cr, .slice An nn cn, .slice Ah nh ch, .slice Al nl cl] 30)).heap.size (w.alloc (.cells #[.slice Aa na ca, .slice At nt ct, .slice Ax nx cx, .slice Ar nr cr, .slice An nn cn, .slice Ah nh ch, .slice Al nl cl] 30)) W) => refTokens_any ⟨⟨Aa, na, ca⟩, ⟨At, nt, ct⟩, ⟨Ax, nx, cx⟩, ⟨Ar, nr, cr⟩, ⟨An, nn, cn⟩, ⟨Ah, nh, ch⟩, ⟨Al, nl, cl⟩⟩ c.attrs c.toks W ((r0.a.under hW).up hW.size) ((r0.t.under hW).up hW.size))
  have C2 := Lib.hid (fun (W : World) (hW : Below (w.alloc (.cells #[.slice Aa na ca, .slice At nt ct, .slice Ax nx cx, .slice Ar nr cr, .slice An nn cn, .slice Ah nh ch, .slice Al nl cl] 30)).heap.size (w.alloc (.cells #[.slice Aa na ca, .slice At nt ct, .slice Ax nx cx, .slice Ar nr cr, .slice An nn cn, .slice Ah nh ch, .slice Al nl cl] 30)) W) => refTexts_any ⟨⟨Aa, na, ca⟩, ⟨At, nt, ct⟩, ⟨Ax, nx, cx⟩, ⟨Ar, nr, cr⟩, ⟨An, nn, cn⟩, ⟨Ah, nh, ch⟩, ⟨Al, nl, cl⟩⟩ c.texts W r0.t.fit ((r0.x.under hW).up hW.size))
  have C3 := Lib.hid (fun (W : World) (hW : Below (w.alloc (.cells #[.slice Aa na ca, .slice At nt ct, .slice Ax nx cx, .slice Ar nr cr, .slice An nn cn, .slice Ah nh ch, .slice Al nl cl] 30)).heap.size (w.alloc (.cells #[.slice Aa na ca, .slice At nt ct, .slice Ax nx cx, .slice Ar nr cr, .slice An nn cn, .slice Ah nh ch, .slice Al nl cl] 30)) W) => refRegions_any ⟨⟨Aa, na, ca⟩, ⟨At, nt, ct⟩, ⟨Ax, nx, cx⟩, ⟨Ar, nr, cr⟩, ⟨An, nn, cn⟩, ⟨Ah, nh, ch⟩, ⟨Al, nl, cl⟩⟩ c.texts c.regs W ((r0.x.under hW).up hW.size) ((r0.r.under hW).up hW.size))
  have C4 := Lib.hid (fun (W : World) (hW : Below (w.alloc (.cells #[.slice Aa na ca, .slice At nt ct, .slice Ax nx cx, .slice Ar nr cr, .slice An nn cn, .slice Ah nh ch, .slice Al nl cl] 30)).heap.size (w.alloc (.cells #[.slice Aa na ca, .slice At nt ct, .slice Ax nx cx, .slice Ar nr cr, .slice An nn cn, .slice Ah nh ch, .slice Al nl cl] 30)) W) => refNodes_any ⟨⟨Aa, na, ca⟩, ⟨At, nt, ct⟩, ⟨Ax, nx, cx⟩, ⟨Ar, nr, cr⟩, ⟨An, nn, cn⟩, ⟨Ah, nh, ch⟩, ⟨Al, nl, cl⟩⟩ An nn cn c.texts c.nods W ((r0.x.under hW).up hW.size) ((r0.n.under hW).up hW.size))
  have C5 := Lib.hid (fun (W : World) (hW : Below (w.alloc (.cells #[.slice Aa na ca, .slice At nt ct, .slice Ax nx cx, .slice Ar nr cr, .slice An nn cn, .slice Ah nh ch, .slice Al nl cl] 30)).heap.size (w.alloc (.cells #[.slice Aa na ca, .slice At nt ct, .slice Ax nx cx, .slice Ar nr cr, .slice An nn cn, .slice Ah nh ch, .slice Al nl cl] 30)) W) => refHeads_any ⟨⟨Aa, na, ca⟩, ⟨At, nt, ct⟩, ⟨Ax, nx, cx⟩, ⟨Ar, nr, cr⟩, ⟨An, nn, cn⟩, ⟨Ah, nh, ch⟩, ⟨Al, nl, cl⟩⟩ c.texts c.heads c.rels W r0.t.fit ((r0.x.under hW).up hW.size) ((r0.h.under hW).up hW.size) ((r0.l.under hW).up hW.size))
  obtain ⟨⟨a0, e0⟩, hp0⟩ : ∃ p, atErr c.attrs = p := ⟨_, rfl⟩
  have P0 : Hid (pE c 0 = (a0, e0)) := by show _ = _; rw [← hp0]; rfl
  simp only [hp0] at C0
  clear hp0
  obtain ⟨⟨a1, e1⟩, hp1⟩ : ∃ p, tkErr c.attrs c.toks = p := ⟨_, rfl⟩
  have P1 : Hid (pE c 1 = (a1, e1)) := by show _ = _; rw [← hp1]; rfl
  simp only [hp1] at C1
  clear hp1
  obtain ⟨⟨a2, e2⟩, hp2⟩ : ∃ p, txErr nt c.texts = p := ⟨_, rfl⟩
  have P2 : Hid (pE c 2 = (a2, e2)) := by show _ = _; rw [← hp2]; show _ = _; rw [← htl]; rfl
  simp only [hp2] at C2
  clear hp2
  obtain ⟨⟨a3, e3⟩, hp3⟩ : ∃ p, rgErr c.texts c.regs = p := ⟨_, rfl⟩
  have P3 : Hid (pE c 3 = (a3, e3)) := by show _ = _; rw [← hp3]; rfl
  simp only [hp3] at C3
  clear hp3
  obtain ⟨⟨a4, e4⟩, hp4⟩ : ∃ p, ndErr c.texts c.nods = p := ⟨_, rfl⟩
  have P4 : Hid (pE c 4 = (a4, e4)) := by show _ = _; rw [← hp4]; rfl
  simp only [hp4] at C4
  clear hp4
  obtain ⟨⟨a5, e5⟩, hp5⟩ : ∃ p, hdErr nt c.texts c.heads c.rels = p := ⟨_, rfl⟩
  have P5 : Hid (pE c 5 = (a5, e5)) := by show _ = _; rw [← hp5]; show _ = _; rw [← htl]; rfl
  simp only [hp5] at C5
  clear hp5
  clear b0 r0 hr htl
  go_enter Tryz.func34, Tryz.ntmps34
  go_wp2_with fail
  refine (C0.out _ g0).mono ?_
  rintro e' w1 ⟨rfl, h1⟩
  have g1 := g0.trans (h1.mono g0.size)
  have x0 := (HX.out w1 g1).cell 0
  have x1 := (HX.out w1 g1).cell 1
  have x2 := (HX.out w1 g1).cell 2
  have x3 := (HX.out w1 g1).cell 3
  have x4 := (HX.out w1 g1).cell 4
  have x5 := (HX.out w1 g1).cell 5
  have x6 := (HX.out w1 g1).cell 6
  clear C0 h1
  by_cases z : e0 = 0
  · subst z
    go_wp2_with fail
    refine (C1.out _ g1).mono ?_
    rintro e' w2 ⟨rfl, h2⟩
    have g2 := g1.trans (h2.mono g1.size)
    have x0 := (HX.out w2 g2).cell 0
    have x1 := (HX.out w2 g2).cell 1
    have x2 := (HX.out w2 g2).cell 2
    have x3 := (HX.out w2 g2).cell 3
    have x4 := (HX.out w2 g2).cell 4
    have x5 := (HX.out w2 g2).cell 5
    have x6 := (HX.out w2 g2).cell 6
    clear C1 h2
    by_cases z : e1 = 0
    · subst z
      go_wp2_with fail
      refine (C2.out _ g2).mono ?_
      rintro e' w3 ⟨rfl, h3⟩
      have g3 := g2.trans (h3.mono g2.size)
      have x0 := (HX.out w3 g3).cell 0
      have x1 := (HX.out w3 g3).cell 1
      have x2 := (HX.out w3 g3).cell 2
      have x3 := (HX.out w3 g3).cell 3
      have x4 := (HX.out w3 g3).cell 4
      have x5 := (HX.out w3 g3).cell 5
      have x6 := (HX.out w3 g3).cell 6
      clear C2 h3
      by_cases z : e2 = 0
      · subst z
        go_wp2_with fail
        refine (C3.out _ g3).mono ?_
        rintro e' w4 ⟨rfl, h4⟩
        have g4 := g3.trans (h4.mono g3.size)
        have x0 := (HX.out w4 g4).cell 0
        have x1 := (HX.out w4 g4).cell 1
        have x2 := (HX.out w4 g4).cell 2
        have x3 := (HX.out w4 g4).cell 3
        have x4 := (HX.out w4 g4).cell 4
        have x5 := (HX.out w4 g4).cell 5
        have x6 := (HX.out w4 g4).cell 6
        clear C3 h4
        by_cases z : e3 = 0
        · subst z
          go_wp2_with fail
          refine (C4.out _ g4).mono ?_
          rintro e' w5 ⟨rfl, h5⟩
          have g5 := g4.trans (h5.mono g4.size)
          have x0 := (HX.out w5 g5).cell 0
          have x1 := (HX.out w5 g5).cell 1
          have x2 := (HX.out w5 g5).cell 2
          have x3 := (HX.out w5 g5).cell 3
          have x4 := (HX.out w5 g5).cell 4
          have x5 := (HX.out w5 g5).cell 5
          have x6 := (HX.out w5 g5).cell 6
          clear C4 h5
          by_cases z : e4 = 0
          · subst z
            go_wp2_with fail
            refine (C5.out _ g5).mono ?_
            rintro e' w6 ⟨rfl, h6⟩
            have g6 := g5.trans (h6.mono g5.size)
            have x0 := (HX.out w6 g6).cell 0
            have x1 := (HX.out w6 g6).cell 1
            have x2 := (HX.out w6 g6).cell 2
            have x3 := (HX.out w6 g6).cell 3
            have x4 := (HX.out w6 g6).cell 4
            have x5 := (HX.out w6 g6).cell 5
            have x6 := (HX.out w6 g6).cell 6
            clear C5 h6
            by_cases z : e5 = 0
            · subst z
              have HK : Hid (check c = (0, 0, 0)) := check_all (fun i hi => by
                rcases (show i = 0 ∨ i = 1 ∨ i = 2 ∨ i = 3 ∨ i = 4 ∨ i = 5 by omega) with rfl | rfl | rfl | rfl | rfl | rfl
                · rw [P0.out]
                · rw [P1.out]
                · rw [P2.out]
                · rw [P3.out]
                · rw [P4.out]
                · rw [P5.out])
              go_wp2
              go_ret3
              exact valed HK.out rfl rfl rfl (hB0.trans (g6.mono hB0.size))
            · have HK : Hid (check c = (5 + 1, (a5, e5))) := by
                have h := check_at (c := c) (j := 5) (by omega) (fun i hi => by
                  rcases (show i = 0 ∨ i = 1 ∨ i = 2 ∨ i = 3 ∨ i = 4 by omega) with rfl | rfl | rfl | rfl | rfl
                  · rw [P0.out]
                  · rw [P1.out]
                  · rw [P2.out]
                  · rw [P3.out]
                  · rw [P4.out]) (by rw [P5.out]; exact z)
                rw [P5.out] at h; exact h
              have E1 : (((e5 : Nat) : Int) != 0) = true := by simpa using z
              have E2 : ((e5 : Nat) != 0) = true := by simpa using z
              clear z
              go_wp2
              go_ret3
              exact valed HK.out rfl rfl rfl (hB0.trans (g6.mono hB0.size))
          · have HK : Hid (check c = (4 + 1, (a4, e4))) := by
              have h := check_at (c := c) (j := 4) (by omega) (fun i hi => by
                rcases (show i = 0 ∨ i = 1 ∨ i = 2 ∨ i = 3 by omega) with rfl | rfl | rfl | rfl
                · rw [P0.out]
                · rw [P1.out]
                · rw [P2.out]
                · rw [P3.out]) (by rw [P4.out]; exact z)
              rw [P4.out] at h; exact h
            have E1 : (((e4 : Nat) : Int) != 0) = true := by simpa using z
            have E2 : ((e4 : Nat) != 0) = true := by simpa using z
            clear z
            go_wp2
            go_ret3
            exact valed HK.out rfl rfl rfl (hB0.trans (g5.mono hB0.size))
        · have HK : Hid (check c = (3 + 1, (a3, e3))) := by
            have h := check_at (c := c) (j := 3) (by omega) (fun i hi => by
              rcases (show i = 0 ∨ i = 1 ∨ i = 2 by omega) with rfl | rfl | rfl
              · rw [P0.out]
              · rw [P1.out]
              · rw [P2.out]) (by rw [P3.out]; exact z)
            rw [P3.out] at h; exact h
          have E1 : (((e3 : Nat) : Int) != 0) = true := by simpa using z
          have E2 : ((e3 : Nat) != 0) = true := by simpa using z
          clear z
          go_wp2
          go_ret3
          exact valed HK.out rfl rfl rfl (hB0.trans (g4.mono hB0.size))
      · have HK : Hid (check c = (2 + 1, (a2, e2))) := by
          have h := check_at (c := c) (j := 2) (by omega) (fun i hi => by
            rcases (show i = 0 ∨ i = 1 by omega) with rfl | rfl
            · rw [P0.out]
            · rw [P1.out]) (by rw [P2.out]; exact z)
          rw [P2.out] at h; exact h
        have E1 : (((e2 : Nat) : Int) != 0) = true := by simpa using z
        have E2 : ((e2 : Nat) != 0) = true := by simpa using z
        clear z
        go_wp2
        go_ret3
        exact valed HK.out rfl rfl rfl (hB0.trans (g3.mono hB0.size))
    · have HK : Hid (check c = (1 + 1, (a1, e1))) := by
        have h := check_at (c := c) (j := 1) (by omega) (fun i hi => by
          rcases (show i = 0 by omega) with rfl
          · rw [P0.out]) (by rw [P1.out]; exact z)
        rw [P1.out] at h; exact h
      have E1 : (((e1 : Nat) : Int) != 0) = true := by simpa using z
      have E2 : ((e1 : Nat) != 0) = true := by simpa using z
      clear z
      go_wp2
      go_ret3
      exact valed HK.out rfl rfl rfl (hB0.trans (g2.mono hB0.size))
  · have HK : Hid (check c = (0 + 1, (a0, e0))) := by
      have h := check_at (c := c) (j := 0) (by omega) (fun i hi => by omega) (by rw [P0.out]; exact z)
      rw [P0.out] at h; exact h
    have E1 : (((e0 : Nat) : Int) != 0) = true := by simpa using z
    have E2 : ((e0 : Nat) != 0) = true := by simpa using z
    clear z
    go_wp2
    go_ret3
    exact valed HK.out rfl rfl rfl (hB0.trans (g1.mono hB0.size))
set_option maxRecDepth 100000 in
theorem refCorValid_any (H : CH) (c : Cor.C) (w : World) (hr : Reads w w.heap.size H c) : Calls Tryz.prog 14 #[H.v] w (Kept (.bool (Cor.valid c)) w) := by
  have hB0 := (Below.refl w.heap.size w).alloc (Nat.le_refl _) (.cells H.cs 30)
  have hr2 := (hr.under hB0).up hB0.size
  obtain ⟨n, hn⟩ : ∃ n, (Cor.check c).2.2 = n := ⟨_, rfl⟩
  have HV : Hid (Cor.valid c = (n == 0)) := by show _ = _; unfold Cor.valid; rw [hn]
  go_enter Tryz.func14, Tryz.ntmps14
  go_wp2_with fail
  refine (refValidate_any H c _ hr2).mono ?_
  rintro e' w1 ⟨rfl, hb⟩
  have hB1 := hB0.trans (hb.mono hB0.size)
  simp only [hn]
  clear hn hr2 hr hb hB0
  go_wp2
  go_ret
  refine ⟨ret_bool ?_, hB1⟩
  rw [HV.out]
  cases n <;> rfl
end Go.Proofs.YtgkdaebiefhgdaaGreatDoor
