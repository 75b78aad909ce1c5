/-
  The contract of the reference's check of regions. Conditions: none but that a corpus reads as it does.
-/
import Derived.Test.YtaihgoohmcipkaaCorTxt
import Derived.Test.YtaihgoohmcipkaaCorReg
import Derived.Deep.RegionLaw
import Derived.Deep.CutRange
namespace Go.Proofs.Ytaihgoohmcipkaa
open Go.RowKit Utf
open Feat (Bs)
open Tagp (KV okName)
open Cor (rgF rgErr prErr within crossR coverR cmpR)

theorem info_reg2 : (Try.prog.info? 39).map (fun i => (i.zero, i.size, i.bytes)) = some (some (.agg #[.string ⟨#[]⟩, .int .i64 0, .int .i64 0, .slice none 0 0]), 4, 56) := by kernel_rfl
theorem deep_yes {l : List Cor.Reg} {x : Cor.Reg} {j d : Nat} (hj : j < l.length) (h : d = ((l.take j).filter (coverR x)).length) (hc : coverR x l[j] = true) : d + 1 = ((l.take (j + 1)).filter (coverR x)).length := by
  rw [List.take_succ_eq_append_getElem hj, List.filter_append, List.length_append, ← h]; simp [hc]
theorem deep_no {l : List Cor.Reg} {x : Cor.Reg} {j d : Nat} (hj : j < l.length) (h : d = ((l.take j).filter (coverR x)).length) (hc : coverR x l[j] = false) : d = ((l.take (j + 1)).filter (coverR x)).length := by
  rw [List.take_succ_eq_append_getElem hj, List.filter_append, List.length_append, ← h]; simp [hc]

set_option maxRecDepth 100000 in
set_option maxHeartbeats 20000000 in
theorem refRegions_any (H : CH) (ts : List Cor.Txt) (l : List Cor.Reg) (w : World) (hts : Txts w w.heap.size H.x ts) (hx : Txts w w.heap.size H.r l) :
    Calls Try.prog 42 #[H.v] w (Kept (.tuple #[.int .i64 ((rgErr ts l).1 : Nat), .int .i64 ((rgErr ts l).2 : Nat)]) w) := by
  obtain ⟨ha, htt, hX, ⟨A, n, c⟩, hn, hh, hl⟩ := H
  show Calls Try.prog 42 #[.agg #[ha.v, htt.v, hX.v, .slice A n c, hn.v, hh.v, hl.v]] w _
  have HL := Lib.hid hx.len
  have f1 : n ≤ 9223372036854775807 := hx.fit.2
  have f2 : n ≤ c := hx.fit.1
  obtain ⟨i0, hi0, hz0, hz1, hz2⟩ := info_parts info_reg2
  have hB0 := (Below.refl w.heap.size w).alloc (Nat.le_refl _) (.cells #[ha.v, htt.v, hX.v, .slice A n c, hn.v, hh.v, hl.v] 30)
  have hb0 := Blk.new w 30 #[ha.v, htt.v, hX.v, .slice A n c, hn.v, hh.v, hl.v]
  by_cases h8 : 1024 < n
  · have HF : Hid (rgErr ts l = (0, 2)) := by show _ = _; unfold rgErr; rw [if_pos (by have : l.length = n := HL.out; omega)]
    go_enter Try.func42, Try.ntmps42
    go_wp2
    go_ret2
    exact ⟨ret_p HF.out rfl rfl, hB0⟩
  go_enter Try.func42, Try.ntmps42
  go_wp2
  go_loopw [17] (fun iv wr => ∃ k : Nat, k ≤ n ∧ iv = .int .i64 k ∧ Below w.heap.size w wr ∧ Blk wr w.heap.size 30 #[ha.v, htt.v, hX.v, .slice A n c, hn.v, hh.v, hl.v] ∧ Hid (∀ j, j < k → rgF ts l j = 0)) (fun iv _ => n - (intOf iv).toNat)
  case atStart => exact ⟨0, by omega, rfl, hB0, hb0, fun j hj => by omega⟩
  case round =>
    obtain ⟨k, hk, rfl, hB, hbx, hinv⟩ := hrel
    by_cases hlt : k < n
    · obtain ⟨g, o, ⟨A', n', c'⟩, hk', e0, hg, hok', c0w, c1w, c2w, c3w⟩ := hx.at_ hlt
      have e0 : A = some ⟨g, o, none⟩ := e0
      subst e0
      have c0 := (World.cell?_of_block (a := ⟨g, o + k * 4, none⟩) (hB.block g hg)).trans c0w
      have c1 := (World.cell?_of_block (a := ⟨g, o + k * 4 + 1, none⟩) (hB.block g hg)).trans c1w
      have c2 := (World.cell?_of_block (a := ⟨g, o + k * 4 + 2, none⟩) (hB.block g hg)).trans c2w
      have c3 := (World.cell?_of_block (a := ⟨g, o + k * 4 + 3, none⟩) (hB.block g hg)).trans c3w
      clear c0w c1w c2w c3w
      have HF := Lib.hid (Cor.rgF_at (ts := ts) hk')
      have HA := Lib.hid (fun h => Cor.rgErr_at (ts := ts) (l := l) (k := k) (by have : l.length = n := HL.out; omega) hk' hinv.out h)
      have hks := hok'.2.2.2
      have z0 : l[k].nm.length ≤ 9223372036854775807 := hok'.1
      have r1 : Rng l[k].b := hok'.2.1
      have r2 : Rng l[k].e := hok'.2.2.1
      clear hok'
      obtain ⟨⟨x, b, e, ks⟩, hx'⟩ : ∃ p, l[k] = p := ⟨_, rfl⟩
      rw [hx'] at HF c0 c1 c2 z0 r1 r2 hks
      clear hx'
      have hBa := hB.alloc hB.size (.cells #[str x, .int .i64 b, .int .i64 e, .slice A' n' c'] 39)
      have hpa := Blk.new wr 39 #[str x, .int .i64 b, .int .i64 e, .slice A' n' c']
      have hbxa := hbx.alloc (.cells #[str x, .int .i64 b, .int .i64 e, .slice A' n' c'] 39)
      have b00 := hbxa.cell 0
      have b01 := hbxa.cell 1
      have b02 := hbxa.cell 2
      have b03 := hbxa.cell 3
      have b04 := hbxa.cell 4
      have b05 := hbxa.cell 5
      have b06 := hbxa.cell 6
      have HT := Lib.hid (within_any ⟨ha, htt, hX, ⟨some ⟨g, o, none⟩, n, c⟩, hn, hh, hl⟩ ts b e (wr.alloc (.cells #[str x, .int .i64 b, .int .i64 e, .slice A' n' c'] 39)) ((hts.under hBa).up hBa.size))
      go_wp2_with fail
      refine (refValidName_any x z0 _).mono ?_
      rintro e' w1 ⟨rfl, rfl⟩
      cases hok : okName x with
      | false =>
        have HF2 := Lib.hid (HF.out.trans (if_pos hok))
        have HF3 : Hid (rgErr ts l = (k, 4)) := by show _ = _; rw [HA.out (by rw [HF2.out]; simp), HF2.out]
        clear hok HF HA HF2 HT
        go_wp2
        go_ret2
        exact ⟨ret_p HF3.out rfl rfl, hBa⟩
      | true =>
        have HF2 := Lib.hid (HF.out.trans (if_neg (by rw [hok]; simp)))
        clear hok HF
        go_wp2_with fail
        refine HT.out.mono ?_
        rintro e' w2 ⟨rfl, hb2⟩
        clear HT b00 b01 b02 b03 b04 b05 b06
        have hB2 := hBa.trans (hb2.mono hBa.size)
        have hbx2 := hbxa.below hb2
        have hp2 := hpa.below hb2
        clear hpa hbxa
        cases hwi : within ts b e with
        | false =>
          have HF3 := Lib.hid (HF2.out.trans (if_pos hwi))
          have HF4 : Hid (rgErr ts l = (k, 8)) := by show _ = _; rw [HA.out (by rw [HF3.out]; simp), HF3.out]
          clear HF2 HF3 HA hwi
          go_wp2
          go_ret2
          exact ⟨ret_p HF4.out rfl rfl, hB2⟩
        | true =>
          have hbe := Cor.within_lt hwi
          have HF3 := Lib.hid (HF2.out.trans (if_neg (by rw [hwi]; simp)))
          clear hwi HF2
          have p3 := hp2.cell 3
          go_wp2_with fail
          refine (refPairs_any A' n' c' ks _ ((hks.under hB2).up hB2.size)).mono ?_
          rintro e' w3 ⟨rfl, hb3⟩
          clear p3
          have hB3 := hB2.trans (hb3.mono hB2.size)
          have hbx3 := hbx2.below hb3
          have hp3 := hp2.below hb3
          clear hbx2 hp2
          by_cases hv : prErr ks = 0
          · have E6 : ((prErr ks : Int) != 0) = false := by rw [hv]; rfl
            have HF4 := Lib.hid (HF3.out.trans (if_neg (by simp [hv])))
            clear hv HF3
            go_wp2
            clear E6
            obtain ⟨wo, rfl⟩ : ∃ wo : World, wo = wr := ⟨_, rfl⟩
            go_cut [56, 17] from 17 to 142 (fun tv iv wc => ∃ b6 : Bool, tv = .bool b6 ∧ iv = .int .i64 k ∧ Hid (b6 = true ↔ (0 < k ∧ 0 < cmpR (l[k - 1]'(by omega)) ⟨x, b, e, ks⟩)) ∧ Below w.heap.size w wc ∧ Blk wc w.heap.size 30 #[ha.v, htt.v, hX.v, .slice (some ⟨g, o, none⟩) n c, hn.v, hh.v, hl.v] ∧ Blk wc wo.heap.size 39 #[str x, .int .i64 b, .int .i64 e, .slice A' n' c'])
            case first =>
              by_cases hk0 : 0 < k
              · obtain ⟨g3, o3, ⟨A3, n3, c3'⟩, hk3, e3, hg3, hok3, d0, d1, d2, d3⟩ := (hx.under hB3).at_ (k := k - 1) (show k - 1 < n by omega)
                cases e3
                have hks3 := hok3.2.2.2
                clear hok3
                obtain ⟨⟨y, yb, ye, yk⟩, hy'⟩ : ∃ p, l[k - 1] = p := ⟨_, rfl⟩
                rw [hy'] at d0 d1 d2 hks3
                have HY := Lib.hid hy'
                have HCC := Lib.hid (refCompareR_any ⟨y, yb, ye, yk⟩ ⟨x, b, e, ks⟩ A3 n3 c3' A' n' c' w3.drew ((hks3.under ((Below.refl _ w3).drew)).up hB3.size) (((hks.under hB3).up hB3.size).under ((Below.refl _ w3).drew)))
                have i1 : IntKind.i64.wrap ((k : Int) - 1) = ((k - 1 : Nat) : Int) := by rw [IntWalk.i64_in _ (by omega)]; omega
                have j1 : decide (0 < k) = true := by simpa using hk0
                have j2 : 0 ≤ (k : Int) - 1 := by omega
                have j3 : (k : Int) - 1 < n := by omega
                have j5 : k - 1 < n := by omega
                have j4 : ((k : Int) - 1).toNat = k - 1 := by omega
                have q0 := hp3.cell 0
                have q1 := hp3.cell 1
                have q2 := hp3.cell 2
                have q3 := hp3.cell 3
                have q4 := hbx3.cell 3
                clear hy'
                go_region_law (go_simp; refine HCC.out.mono ?_; rintro e' w4 ⟨rfl, hb4⟩; go_simp)
                all_goals
                  clear q0 q1 q2 q3 q4 i1 j1 j2 j3 j4 j5 HCC d0 d1 d2 d3
                  go_wp2
                  go_meet
                  case rel =>
                    have hiff : decide (0 < cmpR (⟨y, yb, ye, yk⟩ : Cor.Reg) ⟨x, b, e, ks⟩) = true ↔ (0 < k ∧ 0 < cmpR (l[k - 1]'(by omega)) ⟨x, b, e, ks⟩) := by rw [HY.out]; simp [hk0]
                    exact ⟨_, rfl, rfl, hiff, hB3.drew.trans (hb4.mono hB3.drew.size), Blk.below (w := w3.drew) hbx3 hb4, Blk.below (w := w3.drew) hp3 hb4⟩
              · obtain rfl : k = 0 := by omega
                go_big_quiet (fail)
                go_wp2
                go_meet
                case rel =>
                  have hiff : false = true ↔ (0 < 0 ∧ 0 < cmpR (l[0 - 1]'(by omega)) ⟨x, b, e, ks⟩) := by simp
                  exact ⟨false, rfl, rfl, hiff, below_drewN hB3 _, hbx3, hp3⟩
            case rest =>
              obtain ⟨b6, rfl, rfl, HB6, hBW, hbxW, hpW⟩ := hcut
              clear hB3 hbx3 hp3 hb3
              cases b6 with
              | true =>
                have HF5 : Hid (rgErr ts l = (k, 6)) := by
                  have hf := HF4.out.trans (if_pos (HB6.out.1 rfl))
                  show _ = _
                  rw [HA.out (by rw [hf]; simp), hf]
                clear HF4 HA HB6
                go_wp2
                go_ret2
                exact ⟨ret_p HF5.out rfl rfl, hBW⟩
              | false =>
                have HF5 := Lib.hid (HF4.out.trans (if_neg (fun h => by have := HB6.out.2 h; cases this)))
                clear HF4 HB6
                have hs1 : ∀ W, (Instr.slice 25 (.slice (some ⟨g, o, none⟩) n c) none (some (.int .i64 ((k : Int) + 1))) none).run Try.prog W = .ok (.slice (some ⟨g, o, none⟩) (k + 1) c) W := fun W => by
                  have h := slice_to (P := Try.prog) 25 39 i0 Try.underlying25 hi0 (some ⟨g, o, none⟩) n c (k + 1) (by omega) W
                  rw [show ((k + 1 : Nat) : Int) = (k : Int) + 1 by omega] at h
                  exact h
                have q3 := hbxW.cell 3
                go_wp2
                clear hs1 q3
                go_loopw [7, 64] (fun dv jv wr2 => ∃ j d : Nat, j ≤ k + 1 ∧ dv = .int .i64 d ∧ jv = .int .i64 j ∧ d ≤ j ∧ Below w.heap.size w wr2 ∧ Blk wr2 w.heap.size 30 #[ha.v, htt.v, hX.v, .slice (some ⟨g, o, none⟩) n c, hn.v, hh.v, hl.v] ∧ Blk wr2 wo.heap.size 39 #[str x, .int .i64 b, .int .i64 e, .slice A' n' c'] ∧ Hid (d = ((l.take j).filter (coverR (⟨x, b, e, ks⟩ : Cor.Reg))).length) ∧ Hid (∀ q (_ : q < j) (_ : q < k) (h2 : q < l.length), crossR l[q] ⟨x, b, e, ks⟩ = false)) (fun _ jv _ => k + 1 - (intOf jv).toNat)
                case atStart => exact ⟨0, 0, by omega, rfl, rfl, by omega, hBW, hbxW, hpW, rfl, fun q hq => by omega⟩
                case round =>
                  obtain ⟨j, d, hj, rfl, rfl, hdj, hB2, hb2, hp2, hd, hin3⟩ := hrel
                  by_cases hjt : j < k + 1
                  · obtain ⟨g2, o2, ⟨A2, n2, c2⟩, hj2, e0, hg2, hz2', d0, d1, d2, d3⟩ := (hx.under hB2).at_ (k := j) (show j < n by omega)
                    cases e0
                    clear hz2'
                    obtain ⟨⟨y, yb, ye, yk⟩, hy'⟩ : ∃ p, l[j] = p := ⟨_, rfl⟩
                    rw [hy'] at d0 d1 d2
                    have HY := Lib.hid hy'
                    clear hy'
                    have hBy := hB2.alloc hB2.size (.cells #[str y, .int .i64 yb, .int .i64 ye, .slice A2 n2 c2] 39)
                    have hbyx := hb2.alloc (.cells #[str y, .int .i64 yb, .int .i64 ye, .slice A2 n2 c2] 39)
                    have hpyx := hp2.alloc (.cells #[str y, .int .i64 yb, .int .i64 ye, .slice A2 n2 c2] 39)
                    have v0 := hpyx.cell 0
                    have v1 := hpyx.cell 1
                    have v2 := hpyx.cell 2
                    by_cases c5 : yb ≤ b
                    · by_cases c4 : b < ye
                      · by_cases c1 : j < k
                        · cases EY : (y == x) with
                          | true =>
                            by_cases c3 : yb < e
                            · by_cases c6 : e ≤ ye
                              · have HD2 : Hid (d + 1 = ((l.take (j + 1)).filter (coverR (⟨x, b, e, ks⟩ : Cor.Reg))).length) := deep_yes hj2 hd.out (by rw [HY.out]; unfold coverR; simp; try omega)
                                have HI : Hid (∀ q (_ : q < j + 1) (_ : q < k) (h2 : q < l.length), crossR l[q] ⟨x, b, e, ks⟩ = false) := by
                                  have hcv : crossR (⟨y, yb, ye, yk⟩ : Cor.Reg) ⟨x, b, e, ks⟩ = false := by unfold crossR; simp [EY]; try omega
                                  intro q hq hqk h2
                                  by_cases eq : q = j
                                  · subst eq; rw [HY.out]; exact hcv
                                  · exact hin3.out q (by omega) hqk h2
                                clear hin3 HF5 HA HY hd hj2
                                go_wp2
                                go_roundw
                                case rel => (first | exact ⟨j + 1, d + 1, by omega, by go_num, by go_num, by omega, hBy, hbyx, hpyx, HD2, HI⟩ | ((repeat apply Exists.intro); exact ⟨⟨j + 1, d + 1, by omega, by go_num, by go_num, by omega, hBy, hbyx, hpyx, HD2, HI⟩, rfl⟩))
                                case measure => simp [intOf]; omega
                              · by_cases c7 : b ≤ yb
                                · by_cases c8 : ye ≤ e
                                  · have HD2 : Hid (d + 1 = ((l.take (j + 1)).filter (coverR (⟨x, b, e, ks⟩ : Cor.Reg))).length) := deep_yes hj2 hd.out (by rw [HY.out]; unfold coverR; simp; try omega)
                                    have HI : Hid (∀ q (_ : q < j + 1) (_ : q < k) (h2 : q < l.length), crossR l[q] ⟨x, b, e, ks⟩ = false) := by
                                      have hcv : crossR (⟨y, yb, ye, yk⟩ : Cor.Reg) ⟨x, b, e, ks⟩ = false := by unfold crossR; simp [EY]; try omega
                                      intro q hq hqk h2
                                      by_cases eq : q = j
                                      · subst eq; rw [HY.out]; exact hcv
                                      · exact hin3.out q (by omega) hqk h2
                                    clear hin3 HF5 HA HY hd hj2
                                    go_wp2
                                    go_roundw
                                    case rel => (first | exact ⟨j + 1, d + 1, by omega, by go_num, by go_num, by omega, hBy, hbyx, hpyx, HD2, HI⟩ | ((repeat apply Exists.intro); exact ⟨⟨j + 1, d + 1, by omega, by go_num, by go_num, by omega, hBy, hbyx, hpyx, HD2, HI⟩, rfl⟩))
                                    case measure => simp [intOf]; omega
                                  · exfalso; omega
                                · have HD2 : Hid (d + 1 = ((l.take (j + 1)).filter (coverR (⟨x, b, e, ks⟩ : Cor.Reg))).length) := deep_yes hj2 hd.out (by rw [HY.out]; unfold coverR; simp; try omega)
                                  have HF6 : Hid (rgErr ts l = (k, 13)) := by
                                    have hcv : crossR (⟨y, yb, ye, yk⟩ : Cor.Reg) ⟨x, b, e, ks⟩ = true := by unfold crossR; simp [EY]; try omega
                                    have hf := HF5.out.trans (if_pos (any_take_true (l := l) (p := fun y : Cor.Reg => crossR y ⟨x, b, e, ks⟩) c1 hj2 (by show crossR l[j] _ = true; rw [HY.out]; exact hcv)))
                                    show _ = _
                                    rw [HA.out (by rw [hf]; simp), hf]
                                  clear hin3 HF5 HA HY hd hj2 HD2
                                  go_wp2
                                  go_ret2
                                  exact ⟨ret_p HF6.out rfl rfl, hBy⟩
                            · exfalso; omega
                          | false =>
                            have HD2 : Hid (d + 1 = ((l.take (j + 1)).filter (coverR (⟨x, b, e, ks⟩ : Cor.Reg))).length) := deep_yes hj2 hd.out (by rw [HY.out]; unfold coverR; simp; try omega)
                            have HI : Hid (∀ q (_ : q < j + 1) (_ : q < k) (h2 : q < l.length), crossR l[q] ⟨x, b, e, ks⟩ = false) := by
                              have hcv : crossR (⟨y, yb, ye, yk⟩ : Cor.Reg) ⟨x, b, e, ks⟩ = false := by unfold crossR; simp [EY]; try omega
                              intro q hq hqk h2
                              by_cases eq : q = j
                              · subst eq; rw [HY.out]; exact hcv
                              · exact hin3.out q (by omega) hqk h2
                            clear hin3 HF5 HA HY hd hj2
                            go_wp2
                            go_roundw
                            case rel => (first | exact ⟨j + 1, d + 1, by omega, by go_num, by go_num, by omega, hBy, hbyx, hpyx, HD2, HI⟩ | ((repeat apply Exists.intro); exact ⟨⟨j + 1, d + 1, by omega, by go_num, by go_num, by omega, hBy, hbyx, hpyx, HD2, HI⟩, rfl⟩))
                            case measure => simp [intOf]; omega
                        · have HD2 : Hid (d + 1 = ((l.take (j + 1)).filter (coverR (⟨x, b, e, ks⟩ : Cor.Reg))).length) := deep_yes hj2 hd.out (by rw [HY.out]; unfold coverR; simp; try omega)
                          have HI : Hid (∀ q (_ : q < j + 1) (_ : q < k) (h2 : q < l.length), crossR l[q] ⟨x, b, e, ks⟩ = false) := fun q hq hqk h2 => hin3.out q (by omega) hqk h2
                          clear hin3 HF5 HA HY hd hj2
                          go_wp2
                          go_roundw
                          case rel => (first | exact ⟨j + 1, d + 1, by omega, by go_num, by go_num, by omega, hBy, hbyx, hpyx, HD2, HI⟩ | ((repeat apply Exists.intro); exact ⟨⟨j + 1, d + 1, by omega, by go_num, by go_num, by omega, hBy, hbyx, hpyx, HD2, HI⟩, rfl⟩))
                          case measure => simp [intOf]; omega
                      · by_cases c1 : j < k
                        · cases EY : (y == x) with
                          | true =>
                            by_cases c3 : yb < e
                            · have HD2 : Hid (d = ((l.take (j + 1)).filter (coverR (⟨x, b, e, ks⟩ : Cor.Reg))).length) := deep_no hj2 hd.out (by rw [HY.out]; unfold coverR; simp; try omega)
                              have HI : Hid (∀ q (_ : q < j + 1) (_ : q < k) (h2 : q < l.length), crossR l[q] ⟨x, b, e, ks⟩ = false) := by
                                have hcv : crossR (⟨y, yb, ye, yk⟩ : Cor.Reg) ⟨x, b, e, ks⟩ = false := by unfold crossR; simp [EY]; try omega
                                intro q hq hqk h2
                                by_cases eq : q = j
                                · subst eq; rw [HY.out]; exact hcv
                                · exact hin3.out q (by omega) hqk h2
                              clear hin3 HF5 HA HY hd hj2
                              go_wp2
                              go_roundw
                              case rel => (first | exact ⟨j + 1, d, by omega, by go_num, by go_num, by omega, hBy, hbyx, hpyx, HD2, HI⟩ | ((repeat apply Exists.intro); exact ⟨⟨j + 1, d, by omega, by go_num, by go_num, by omega, hBy, hbyx, hpyx, HD2, HI⟩, rfl⟩))
                              case measure => simp [intOf]; omega
                            · exfalso; omega
                          | false =>
                            have HD2 : Hid (d = ((l.take (j + 1)).filter (coverR (⟨x, b, e, ks⟩ : Cor.Reg))).length) := deep_no hj2 hd.out (by rw [HY.out]; unfold coverR; simp; try omega)
                            have HI : Hid (∀ q (_ : q < j + 1) (_ : q < k) (h2 : q < l.length), crossR l[q] ⟨x, b, e, ks⟩ = false) := by
                              have hcv : crossR (⟨y, yb, ye, yk⟩ : Cor.Reg) ⟨x, b, e, ks⟩ = false := by unfold crossR; simp [EY]; try omega
                              intro q hq hqk h2
                              by_cases eq : q = j
                              · subst eq; rw [HY.out]; exact hcv
                              · exact hin3.out q (by omega) hqk h2
                            clear hin3 HF5 HA HY hd hj2
                            go_wp2
                            go_roundw
                            case rel => (first | exact ⟨j + 1, d, by omega, by go_num, by go_num, by omega, hBy, hbyx, hpyx, HD2, HI⟩ | ((repeat apply Exists.intro); exact ⟨⟨j + 1, d, by omega, by go_num, by go_num, by omega, hBy, hbyx, hpyx, HD2, HI⟩, rfl⟩))
                            case measure => simp [intOf]; omega
                        · have HD2 : Hid (d = ((l.take (j + 1)).filter (coverR (⟨x, b, e, ks⟩ : Cor.Reg))).length) := deep_no hj2 hd.out (by rw [HY.out]; unfold coverR; simp; try omega)
                          have HI : Hid (∀ q (_ : q < j + 1) (_ : q < k) (h2 : q < l.length), crossR l[q] ⟨x, b, e, ks⟩ = false) := fun q hq hqk h2 => hin3.out q (by omega) hqk h2
                          clear hin3 HF5 HA HY hd hj2
                          go_wp2
                          go_roundw
                          case rel => (first | exact ⟨j + 1, d, by omega, by go_num, by go_num, by omega, hBy, hbyx, hpyx, HD2, HI⟩ | ((repeat apply Exists.intro); exact ⟨⟨j + 1, d, by omega, by go_num, by go_num, by omega, hBy, hbyx, hpyx, HD2, HI⟩, rfl⟩))
                          case measure => simp [intOf]; omega
                    · by_cases c4 : b < ye
                      · by_cases c1 : j < k
                        · cases EY : (y == x) with
                          | true =>
                            by_cases c3 : yb < e
                            · by_cases c8 : ye ≤ e
                              · have HD2 : Hid (d = ((l.take (j + 1)).filter (coverR (⟨x, b, e, ks⟩ : Cor.Reg))).length) := deep_no hj2 hd.out (by rw [HY.out]; unfold coverR; simp; try omega)
                                have HI : Hid (∀ q (_ : q < j + 1) (_ : q < k) (h2 : q < l.length), crossR l[q] ⟨x, b, e, ks⟩ = false) := by
                                  have hcv : crossR (⟨y, yb, ye, yk⟩ : Cor.Reg) ⟨x, b, e, ks⟩ = false := by unfold crossR; simp [EY]; try omega
                                  intro q hq hqk h2
                                  by_cases eq : q = j
                                  · subst eq; rw [HY.out]; exact hcv
                                  · exact hin3.out q (by omega) hqk h2
                                clear hin3 HF5 HA HY hd hj2
                                go_wp2
                                go_roundw
                                case rel => (first | exact ⟨j + 1, d, by omega, by go_num, by go_num, by omega, hBy, hbyx, hpyx, HD2, HI⟩ | ((repeat apply Exists.intro); exact ⟨⟨j + 1, d, by omega, by go_num, by go_num, by omega, hBy, hbyx, hpyx, HD2, HI⟩, rfl⟩))
                                case measure => simp [intOf]; omega
                              · have HD2 : Hid (d = ((l.take (j + 1)).filter (coverR (⟨x, b, e, ks⟩ : Cor.Reg))).length) := deep_no hj2 hd.out (by rw [HY.out]; unfold coverR; simp; try omega)
                                have HF6 : Hid (rgErr ts l = (k, 13)) := by
                                  have hcv : crossR (⟨y, yb, ye, yk⟩ : Cor.Reg) ⟨x, b, e, ks⟩ = true := by unfold crossR; simp [EY]; try omega
                                  have hf := HF5.out.trans (if_pos (any_take_true (l := l) (p := fun y : Cor.Reg => crossR y ⟨x, b, e, ks⟩) c1 hj2 (by show crossR l[j] _ = true; rw [HY.out]; exact hcv)))
                                  show _ = _
                                  rw [HA.out (by rw [hf]; simp), hf]
                                clear hin3 HF5 HA HY hd hj2 HD2
                                go_wp2
                                go_ret2
                                exact ⟨ret_p HF6.out rfl rfl, hBy⟩
                            · have HD2 : Hid (d = ((l.take (j + 1)).filter (coverR (⟨x, b, e, ks⟩ : Cor.Reg))).length) := deep_no hj2 hd.out (by rw [HY.out]; unfold coverR; simp; try omega)
                              have HI : Hid (∀ q (_ : q < j + 1) (_ : q < k) (h2 : q < l.length), crossR l[q] ⟨x, b, e, ks⟩ = false) := by
                                have hcv : crossR (⟨y, yb, ye, yk⟩ : Cor.Reg) ⟨x, b, e, ks⟩ = false := by unfold crossR; simp [EY]; try omega
                                intro q hq hqk h2
                                by_cases eq : q = j
                                · subst eq; rw [HY.out]; exact hcv
                                · exact hin3.out q (by omega) hqk h2
                              clear hin3 HF5 HA HY hd hj2
                              go_wp2
                              go_roundw
                              case rel => (first | exact ⟨j + 1, d, by omega, by go_num, by go_num, by omega, hBy, hbyx, hpyx, HD2, HI⟩ | ((repeat apply Exists.intro); exact ⟨⟨j + 1, d, by omega, by go_num, by go_num, by omega, hBy, hbyx, hpyx, HD2, HI⟩, rfl⟩))
                              case measure => simp [intOf]; omega
                          | false =>
                            have HD2 : Hid (d = ((l.take (j + 1)).filter (coverR (⟨x, b, e, ks⟩ : Cor.Reg))).length) := deep_no hj2 hd.out (by rw [HY.out]; unfold coverR; simp; try omega)
                            have HI : Hid (∀ q (_ : q < j + 1) (_ : q < k) (h2 : q < l.length), crossR l[q] ⟨x, b, e, ks⟩ = false) := by
                              have hcv : crossR (⟨y, yb, ye, yk⟩ : Cor.Reg) ⟨x, b, e, ks⟩ = false := by unfold crossR; simp [EY]; try omega
                              intro q hq hqk h2
                              by_cases eq : q = j
                              · subst eq; rw [HY.out]; exact hcv
                              · exact hin3.out q (by omega) hqk h2
                            clear hin3 HF5 HA HY hd hj2
                            go_wp2
                            go_roundw
                            case rel => (first | exact ⟨j + 1, d, by omega, by go_num, by go_num, by omega, hBy, hbyx, hpyx, HD2, HI⟩ | ((repeat apply Exists.intro); exact ⟨⟨j + 1, d, by omega, by go_num, by go_num, by omega, hBy, hbyx, hpyx, HD2, HI⟩, rfl⟩))
                            case measure => simp [intOf]; omega
                        · have HD2 : Hid (d = ((l.take (j + 1)).filter (coverR (⟨x, b, e, ks⟩ : Cor.Reg))).length) := deep_no hj2 hd.out (by rw [HY.out]; unfold coverR; simp; try omega)
                          have HI : Hid (∀ q (_ : q < j + 1) (_ : q < k) (h2 : q < l.length), crossR l[q] ⟨x, b, e, ks⟩ = false) := fun q hq hqk h2 => hin3.out q (by omega) hqk h2
                          clear hin3 HF5 HA HY hd hj2
                          go_wp2
                          go_roundw
                          case rel => (first | exact ⟨j + 1, d, by omega, by go_num, by go_num, by omega, hBy, hbyx, hpyx, HD2, HI⟩ | ((repeat apply Exists.intro); exact ⟨⟨j + 1, d, by omega, by go_num, by go_num, by omega, hBy, hbyx, hpyx, HD2, HI⟩, rfl⟩))
                          case measure => simp [intOf]; omega
                      · by_cases c1 : j < k
                        · cases EY : (y == x) with
                          | true =>
                            by_cases c3 : yb < e
                            · have HD2 : Hid (d = ((l.take (j + 1)).filter (coverR (⟨x, b, e, ks⟩ : Cor.Reg))).length) := deep_no hj2 hd.out (by rw [HY.out]; unfold coverR; simp; try omega)
                              have HI : Hid (∀ q (_ : q < j + 1) (_ : q < k) (h2 : q < l.length), crossR l[q] ⟨x, b, e, ks⟩ = false) := by
                                have hcv : crossR (⟨y, yb, ye, yk⟩ : Cor.Reg) ⟨x, b, e, ks⟩ = false := by unfold crossR; simp [EY]; try omega
                                intro q hq hqk h2
                                by_cases eq : q = j
                                · subst eq; rw [HY.out]; exact hcv
                                · exact hin3.out q (by omega) hqk h2
                              clear hin3 HF5 HA HY hd hj2
                              go_wp2
                              go_roundw
                              case rel => (first | exact ⟨j + 1, d, by omega, by go_num, by go_num, by omega, hBy, hbyx, hpyx, HD2, HI⟩ | ((repeat apply Exists.intro); exact ⟨⟨j + 1, d, by omega, by go_num, by go_num, by omega, hBy, hbyx, hpyx, HD2, HI⟩, rfl⟩))
                              case measure => simp [intOf]; omega
                            · have HD2 : Hid (d = ((l.take (j + 1)).filter (coverR (⟨x, b, e, ks⟩ : Cor.Reg))).length) := deep_no hj2 hd.out (by rw [HY.out]; unfold coverR; simp; try omega)
                              have HI : Hid (∀ q (_ : q < j + 1) (_ : q < k) (h2 : q < l.length), crossR l[q] ⟨x, b, e, ks⟩ = false) := by
                                have hcv : crossR (⟨y, yb, ye, yk⟩ : Cor.Reg) ⟨x, b, e, ks⟩ = false := by unfold crossR; simp [EY]; try omega
                                intro q hq hqk h2
                                by_cases eq : q = j
                                · subst eq; rw [HY.out]; exact hcv
                                · exact hin3.out q (by omega) hqk h2
                              clear hin3 HF5 HA HY hd hj2
                              go_wp2
                              go_roundw
                              case rel => (first | exact ⟨j + 1, d, by omega, by go_num, by go_num, by omega, hBy, hbyx, hpyx, HD2, HI⟩ | ((repeat apply Exists.intro); exact ⟨⟨j + 1, d, by omega, by go_num, by go_num, by omega, hBy, hbyx, hpyx, HD2, HI⟩, rfl⟩))
                              case measure => simp [intOf]; omega
                          | false =>
                            have HD2 : Hid (d = ((l.take (j + 1)).filter (coverR (⟨x, b, e, ks⟩ : Cor.Reg))).length) := deep_no hj2 hd.out (by rw [HY.out]; unfold coverR; simp; try omega)
                            have HI : Hid (∀ q (_ : q < j + 1) (_ : q < k) (h2 : q < l.length), crossR l[q] ⟨x, b, e, ks⟩ = false) := by
                              have hcv : crossR (⟨y, yb, ye, yk⟩ : Cor.Reg) ⟨x, b, e, ks⟩ = false := by unfold crossR; simp [EY]; try omega
                              intro q hq hqk h2
                              by_cases eq : q = j
                              · subst eq; rw [HY.out]; exact hcv
                              · exact hin3.out q (by omega) hqk h2
                            clear hin3 HF5 HA HY hd hj2
                            go_wp2
                            go_roundw
                            case rel => (first | exact ⟨j + 1, d, by omega, by go_num, by go_num, by omega, hBy, hbyx, hpyx, HD2, HI⟩ | ((repeat apply Exists.intro); exact ⟨⟨j + 1, d, by omega, by go_num, by go_num, by omega, hBy, hbyx, hpyx, HD2, HI⟩, rfl⟩))
                            case measure => simp [intOf]; omega
                        · have HD2 : Hid (d = ((l.take (j + 1)).filter (coverR (⟨x, b, e, ks⟩ : Cor.Reg))).length) := deep_no hj2 hd.out (by rw [HY.out]; unfold coverR; simp; try omega)
                          have HI : Hid (∀ q (_ : q < j + 1) (_ : q < k) (h2 : q < l.length), crossR l[q] ⟨x, b, e, ks⟩ = false) := fun q hq hqk h2 => hin3.out q (by omega) hqk h2
                          clear hin3 HF5 HA HY hd hj2
                          go_wp2
                          go_roundw
                          case rel => (first | exact ⟨j + 1, d, by omega, by go_num, by go_num, by omega, hBy, hbyx, hpyx, HD2, HI⟩ | ((repeat apply Exists.intro); exact ⟨⟨j + 1, d, by omega, by go_num, by go_num, by omega, hBy, hbyx, hpyx, HD2, HI⟩, rfl⟩))
                          case measure => simp [intOf]; omega
                  · have HD2 : Hid (((l.take (k + 1)).filter (coverR (⟨x, b, e, ks⟩ : Cor.Reg))).length = d) := by show _ = _; rw [hd.out, show j = k + 1 by omega]
                    have hnc := any_take_false (l := l) (k := k) (p := fun y : Cor.Reg => crossR y ⟨x, b, e, ks⟩) (fun q hq h2 => hin3.out q (by omega) hq h2)
                    have HF6 := Lib.hid (HF5.out.trans (if_neg (by rw [hnc]; simp)))
                    clear hnc hin3 HF5 hd
                    by_cases h40 : 40 < d
                    · have HF7 : Hid (rgErr ts l = (k, 2)) := by
                        have hf := HF6.out.trans (if_pos (by rw [HD2.out]; exact h40))
                        show _ = _
                        rw [HA.out (by rw [hf]; simp), hf]
                      clear HF6 HD2 HA
                      go_wp2
                      go_ret2
                      exact ⟨ret_p HF7.out rfl rfl, hB2⟩
                    · have HI : Hid (∀ j, j < k + 1 → rgF ts l j = 0) := upto_step hinv.out (HF6.out.trans (if_neg (by rw [HD2.out]; exact h40)))
                      clear HF6 HD2 HA hinv
                      go_wp2
                      go_roundw
                      case rel => (first | exact ⟨k + 1, by omega, by go_num, hB2, hb2, HI⟩ | ((repeat apply Exists.intro); exact ⟨⟨k + 1, by omega, by go_num, hB2, hb2, HI⟩, rfl⟩))
                      case measure => simp [intOf]; omega
          · have E6 : ((prErr ks : Int) != 0) = true := by rw [bne_iff_ne]; omega
            have HF4 : Hid (rgErr ts l = (k, prErr ks)) := by
              have hf := HF3.out.trans (if_pos hv)
              show _ = _
              rw [HA.out (by rw [hf]; exact hv), hf]
            clear hv HF3 HA
            go_wp2
            go_ret2
            exact ⟨ret_p HF4.out rfl rfl, hB3⟩
    · have HF : Hid (rgErr ts l = (0, 0)) := Cor.rgErr_zero (by have : l.length = n := HL.out; omega) (fun j hj => hinv.out j (by have : l.length = n := HL.out; omega))
      clear hinv
      go_wp2
      go_ret2
      exact ⟨ret_p HF.out rfl rfl, hB⟩
end Go.Proofs.Ytaihgoohmcipkaa
