/-
 The contract of the program's check of regions. Conditions: the texts follow one another.
-/
import Derived.Test.YtgkdaebiefhgdaaGreatDoorPCorAtx
import Derived.Test.YtgkdaebiefhgdaaGreatDoorPCorPl
import Derived.Deep.RegionLaw
namespace Go.Proofs.YtgkdaebiefhgdaaGreatDoor
open Go.RowKit Utf
open Feat (Bs)
open Tagp (KV okName)
open Cor (rgF rgErr prErr within stil crossP crossR coverR cmpR)
theorem info_reg : (Tryz.prog.info? 69).map (fun i => (i.zero, i.size, i.bytes)) = some (some (.agg #[.string ⟨#[]⟩, .int .i64 0, .int .i64 0, .slice none 0 0]), 4, 56) := by kernel_rfl
theorem txs_snoc (m : List TH) (x : TH) : (m ++ [x]).flatMap txV = m.flatMap txV ++ txV x := by simp
theorem txV_one (x : TH) : ∀ u ∈ txV x, u.oneCell' = true := by
 intro u hu; unfold txV at hu; simp at hu; rcases hu with rfl | rfl | rfl | rfl <;> rfl
theorem own_tx {w : World} {base g n cap : Nat} {e : TypeId} {m : List TH} (h : w.ownsRow base e 4 (.slice (some ⟨g, 0, none⟩) n cap) n (m.flatMap txV)) {j : Nat} (hj : j < m.length) :
  w.cell? ⟨g, j * 4, none⟩ = some (str m[j].1.nm) ∧ w.cell? ⟨g, j * 4 + 1, none⟩ = some (.int .i64 m[j].1.b) ∧ w.cell? ⟨g, j * 4 + 2, none⟩ = some (.int .i64 m[j].1.e) ∧ w.cell? ⟨g, j * 4 + 3, none⟩ = some (.slice m[j].2.A m[j].2.n m[j].2.c) := by
 have hl : (m.flatMap txV).length = n * 4 := h.1
 have hm := flat_len txV_len m
 have k : ∀ i, i < 4 → ∀ u, (txV m[j])[i]? = some u → w.cell? ⟨g, j * 4 + i, none⟩ = some u := by
  intro i hi u hu
  have hlt : j * 4 + i < (m.flatMap txV).length := by rw [hm]; omega
  rw [h.cellAt (j * 4 + i) (by rw [← hl]; exact hlt), ← hu, ← flat_at txV_len m j hj i hi, List.getElem?_eq_getElem hlt]
 exact ⟨k 0 (by omega) _ rfl, k 1 (by omega) _ rfl, k 2 (by omega) _ rfl, k 3 (by omega) _ rfl⟩

set_option maxRecDepth 100000 in
theorem crosses_any (x y : Bs) (a b c d : Int) (h1 h2 : Hd) (w : World) :
  Calls Tryz.prog 132 #[.agg #[str x, .int .i64 a, .int .i64 b, h1.v], .agg #[str y, .int .i64 c, .int .i64 d, h2.v]] w (Kept (.bool (decide (a < c) && decide (c < b) && decide (b < d))) w) := by
 have hB := ((Below.refl w.heap.size w).alloc (Nat.le_refl _) (.cells #[str x, .int .i64 a, .int .i64 b, h1.v] 69)).alloc (by simp) (.cells #[str y, .int .i64 c, .int .i64 d, h2.v] 69)
 by_cases e1 : a < c
 ·by_cases e2 : c < b
  ·by_cases e3 : b < d
   ·have HF : Hid ((decide (a < c) && decide (c < b) && decide (b < d)) = true) := by show _ = _; simp [e1, e2, e3]
    go_enter Tryz.func132, Tryz.ntmps132
    go_wp2
    go_ret
    exact ⟨ret_bool HF.out.symm, hB⟩
   ·have HF : Hid ((decide (a < c) && decide (c < b) && decide (b < d)) = false) := by show _ = _; simp [e3]
    go_enter Tryz.func132, Tryz.ntmps132
    go_wp2
    go_ret
    exact ⟨ret_bool (by simp [e3]), hB⟩
  ·have HF : Hid ((decide (a < c) && decide (c < b) && decide (b < d)) = false) := by show _ = _; simp [e2]
   go_enter Tryz.func132, Tryz.ntmps132
   go_wp2
   go_ret
   exact ⟨ret_bool (by simp; omega), hB⟩
 ·have HF : Hid ((decide (a < c) && decide (c < b) && decide (b < d)) = false) := by show _ = _; simp [e1]
  go_enter Tryz.func132, Tryz.ntmps132
  go_wp2
  go_ret
  exact ⟨ret_bool HF.out.symm, hB⟩

set_option maxRecDepth 100000 in
set_option maxHeartbeats 8000000 in
theorem regions_any (H : CH) (ts : List Cor.Txt) (l : List Cor.Reg) (w : World) (hts : Txts w w.heap.size H.x ts) (hrow : Row_ ts) (hx : Txts w w.heap.size H.r l) :
  Calls Tryz.prog 91 #[H.v] w (Kept (.tuple #[.int .i64 ((rgErr ts l).1 : Nat), .int .i64 ((rgErr ts l).2 : Nat)]) w) := by
 obtain ⟨ha, htt, hX, ⟨A, n, c⟩, hn, hh, hl⟩ := H
 show Calls Tryz.prog 91 #[.agg #[ha.v, htt.v, hX.v, .slice A n c, hn.v, hh.v, hl.v]] w _
 have HL := Lib.hid hx.len
 have HROW := Lib.hid hrow
 clear hrow
 have f1 : n ≤ 9223372036854775807 := hx.fit.2
 have f2 : n ≤ c := hx.fit.1
 obtain ⟨i0, hi0, hz0, hz1, hz2⟩ := info_parts info_reg
 have hB0 := (Below.refl w.heap.size w).alloc (Nat.le_refl _) (.cells #[ha.v, htt.v, hX.v, .slice A n c, hn.v, hh.v, hl.v] 30)
 have hb0 := Blk.new w 30 #[ha.v, htt.v, hX.v, .slice A n c, hn.v, hh.v, hl.v]
 by_cases h8 : 1024 < n
 ·have HF : Hid (rgErr ts l = (0, 2)) := by show _ = _; unfold rgErr; rw [if_pos (by have : l.length = n := HL.out; omega)]
  go_enter Tryz.func91, Tryz.ntmps91
  go_wp2
  go_ret2
  exact ⟨ret_p HF.out rfl rfl, hB0⟩
 go_enter Tryz.func91, Tryz.ntmps91
 go_wp2
 go_loopw [4, 20] (fun ov iv wr => ∃ (k : Nat) (m : List TH) (b0 : Int), k ≤ n ∧ iv = .int .i64 k ∧ m.length ≤ 40 ∧ wr.ownsRow (w.heap.size + 1) 69 4 ov m.length (m.flatMap txV) ∧ Below w.heap.size w wr ∧ Blk wr w.heap.size 30 #[ha.v, htt.v, hX.v, .slice A n c, hn.v, hh.v, hl.v] ∧ Hid (m.map Prod.fst = stil l k b0) ∧ Hid (∀ j, j < k → rgF ts l j = 0) ∧ Hid (∀ (h : k - 1 < l.length), 0 < k → l[k - 1].b = b0)) (fun _ iv _ => n - (intOf iv).toNat)
 case atStart => exact ⟨0, [], 0, by omega, rfl, by simp, World.ownsRow_nil _ _ _ _, hB0, hb0, (by show _ = _; simp [stil]), fun j hj => by omega, fun h hk => by omega⟩
 case round =>
  obtain ⟨k, m, b0, hk, rfl, hm40, hown, hB, hbx, HMM, hinv, HB0⟩ := hrel
  obtain ⟨Ao, co, rfl, -, -⟩ := own_slc hown
  by_cases hlt : k < n
  ·obtain ⟨g, o, ⟨A', n', c'⟩, hk', e0, hg, hok', c0w, c1w, c2w, c3w⟩ := hx.at_ hlt
   have e0 : A = some ⟨g, o, none⟩ := e0
   subst e0
   have c0 := (World.cell?_of_block (a := ⟨g, o + k * 4, none⟩) (hB.block g hg)).trans c0w
   have c1 := (World.cell?_of_block (a := ⟨g, o + k * 4 + 1, none⟩) (hB.block g hg)).trans c1w
   have c2 := (World.cell?_of_block (a := ⟨g, o + k * 4 + 2, none⟩) (hB.block g hg)).trans c2w
   have c3 := (World.cell?_of_block (a := ⟨g, o + k * 4 + 3, none⟩) (hB.block g hg)).trans c3w
   clear c0w c1w c2w c3w
   have HF := Lib.hid (Cor.rgF_at (ts := ts) hk')
   have HA := Lib.hid (fun h => Cor.rgErr_at (ts := ts) (l := l) (k := k) (by have : l.length = n := HL.out; omega) hk' hinv.out h)
   have hmk := Lib.hid (Cor.mono_ok (by omega) hinv.out)
   have hks := hok'.2.2.2
   have z0 : l[k].nm.length ≤ 9223372036854775807 := hok'.1
   have r1 : Rng l[k].b := hok'.2.1
   have r2 : Rng l[k].e := hok'.2.2.1
   clear hok'
   obtain ⟨⟨x, b, e, ks⟩, hx'⟩ : ∃ p, l[k] = p := ⟨_, rfl⟩
   have HNX : Hid (∀ (h : k + 1 - 1 < l.length), 0 < k + 1 → l[k + 1 - 1].b = b) := fun _ _ => by simp [hx']
   rw [hx'] at HF c0 c1 c2 z0 r1 r2 hks
   have HX := Lib.hid hx'
   clear hx'
   have hBa := hB.alloc hB.size (.cells #[str x, .int .i64 b, .int .i64 e, .slice A' n' c'] 69)
   have hpa := Blk.new wr 69 #[str x, .int .i64 b, .int .i64 e, .slice A' n' c']
   have hbxa := hbx.alloc (.cells #[str x, .int .i64 b, .int .i64 e, .slice A' n' c'] 69)
   have owna := hown.alloc (.cells #[str x, .int .i64 b, .int .i64 e, .slice A' n' c'] 69)
   have b00 := hbxa.cell 0
   have b01 := hbxa.cell 1
   have b02 := hbxa.cell 2
   have b03 := hbxa.cell 3
   have b04 := hbxa.cell 4
   have b05 := hbxa.cell 5
   have b06 := hbxa.cell 6
   have HT := Lib.hid (inText_any ⟨ha, htt, hX, ⟨some ⟨g, o, none⟩, n, c⟩, hn, hh, hl⟩ ts b e (wr.alloc (.cells #[str x, .int .i64 b, .int .i64 e, .slice A' n' c'] 69)) ((hts.under hBa).up hBa.size) HROW.out)
   go_wp2_with fail
   refine (validName_any x z0 _).mono ?_
   rintro e' w1 ⟨rfl, rfl⟩
   cases hok : okName x with
   | false =>
    have HF2 := Lib.hid (HF.out.trans (if_pos hok))
    have HF3 : Hid (rgErr ts l = (k, 4)) := by show _ = _; rw [HA.out (by rw [HF2.out]; simp), HF2.out]
    clear hok HF HA HF2 HT
    go_wp2
    go_ret2
    exact ⟨ret_p HF3.out rfl rfl, hBa⟩
   | true =>
    have HF2 := Lib.hid (HF.out.trans (if_neg (by rw [hok]; simp)))
    clear hok HF
    go_wp2_with fail
    refine HT.out.mono ?_
    rintro e' w2 ⟨rfl, hb2⟩
    clear HT b00 b01 b02 b03 b04 b05 b06
    have hB2 := hBa.trans (hb2.mono hBa.size)
    have hbx2 := hbxa.below hb2
    have hp2 := hpa.below hb2
    have own2 := own_below owna hb2
    clear hpa hbxa owna
    cases hwi : within ts b e with
    | false =>
     have HF3 := Lib.hid (HF2.out.trans (if_pos hwi))
     have HF4 : Hid (rgErr ts l = (k, 8)) := by show _ = _; rw [HA.out (by rw [HF3.out]; simp), HF3.out]
     clear HF2 HF3 HA hwi
     go_wp2
     go_ret2
     exact ⟨ret_p HF4.out rfl rfl, hB2⟩
    | true =>
     have hbe := Cor.within_lt hwi
     have HF3 := Lib.hid (HF2.out.trans (if_neg (by rw [hwi]; simp)))
     clear hwi HF2
     have p3 := hp2.cell 3
     go_wp2_with fail
     refine (pairs_any A' n' c' ks _ ((hks.under hB2).up hB2.size)).mono ?_
     rintro e' w3 ⟨rfl, hb3⟩
     clear p3
     have hB3 := hB2.trans (hb3.mono hB2.size)
     have hbx3 := hbx2.below hb3
     have hp3 := hp2.below hb3
     have own3 := own_below own2 hb3
     clear hbx2 hp2 own2
     by_cases hv : prErr ks = 0
     ·have E6 : ((prErr ks : Int) != 0) = false := by rw [hv]; rfl
      have HF4 := Lib.hid (HF3.out.trans (if_neg (by simp [hv])))
      clear hv HF3
      go_wp2
      clear E6
      obtain ⟨wo, rfl⟩ : ∃ wo : World, wo = wr := ⟨_, rfl⟩
      by_cases hk0 : 0 < k
      ·obtain ⟨g3, o3, ⟨A3, n3, c3'⟩, hk3, e3, hg3, hok3, d0, d1, d2, d3⟩ := (hx.under hB3).at_ (k := k - 1) (show k - 1 < n by omega)
       cases e3
       have hB0' := Lib.hid (HB0.out hk3 hk0)
       have hks3 := hok3.2.2.2
       clear hok3
       obtain ⟨⟨y, yb, ye, yk⟩, hy'⟩ : ∃ p, l[k - 1] = p := ⟨_, rfl⟩
       rw [hy'] at HF4 hB0' d0 d1 d2 hks3
       have HMM : Hid (m.map Prod.fst = stil l k yb) := by show _ = _; rw [HMM.out, ← hB0'.out]
       have HMS := fun h => Cor.mono_step hk' hmk.out h
       rw [hy', HX.out] at HMS
       have HMS := Lib.hid HMS
       clear HB0 hB0' hmk
       have HCC := Lib.hid (compare_any ⟨y, yb, ye, yk⟩ ⟨x, b, e, ks⟩ A3 n3 c3' A' n' c' w3.drew ((hks3.under ((Below.refl _ w3).drew)).up hB3.size) (((hks.under hB3).up hB3.size).under ((Below.refl _ w3).drew)))
       have i1 : IntKind.i64.wrap ((k : Int) - 1) = ((k - 1 : Nat) : Int) := by rw [IntWalk.i64_in _ (by omega)]; omega
       have j1 : decide (0 < k) = true := by simpa using hk0
       have j2 : 0 ≤ (k : Int) - 1 := by omega
       have j3 : (k : Int) - 1 < n := by omega
       have j5 : k - 1 < n := by omega
       have j4 : ((k : Int) - 1).toNat = k - 1 := by omega
       have q0 := hp3.cell 0
       have q1 := hp3.cell 1
       have q2 := hp3.cell 2
       have q3 := hp3.cell 3
       have q4 := hbx3.cell 3
       clear hy'
       go_region_law (go_simp; refine HCC.out.mono ?_; rintro e' w4 ⟨rfl, hb4⟩; go_simp)
       all_goals
        have hBW := hB3.drew.trans (hb4.mono hB3.drew.size)
        have hbxW := Blk.below (w := w3.drew) hbx3 hb4
        have hpW := Blk.below (w := w3.drew) hp3 hb4
        have hownW := own_below (w := w3.drew) (own_same own3 (fun _ _ => rfl)) hb4
        clear q0 q1 q2 q3 q4 i1 j1 j2 j3 j4 j5 HCC d0 d1 d2 d3 hbx3 hp3 own3
        by_cases hcc : 0 < cmpR (⟨y, yb, ye, yk⟩ : Cor.Reg) ⟨x, b, e, ks⟩
        ·have HF5 : Hid (rgErr ts l = (k, 6)) := by
          have hf := HF4.out.trans (if_pos ⟨hk0, hcc⟩)
          show _ = _
          rw [HA.out (by rw [hf]; simp), hf]
         clear HF4 HA HMS HMM
         go_wp2
         go_ret2
         exact ⟨ret_p HF5.out rfl rfl, hBW⟩
        ·have HF5 := Lib.hid (HF4.out.trans (if_neg (fun h => hcc h.2)))
         have hmono : Cor.MonoB l (k + 1) := HMS.out (fun _ => hcc)
         have HSTIL : Hid ((stil l k yb).filter (fun y => decide (b < y.e)) = stil l k b) := Cor.stil_again (Cor.cmpR_b hcc)
         obtain ⟨W0, rfl⟩ : ∃ W0 : World, W0 = w4 := ⟨_, rfl⟩
         clear HF4 HMS hB3 hb4
         have HM := Lib.hid hmono
         clear hmono
         go_wp2
         go_loopw [8, 63] (fun sv jv wr2 => ∃ (j : Nat) (m2 : List TH), j ≤ m.length ∧ jv = .int .i64 j ∧ m2.length ≤ j ∧ wr2.ownsRow W0.heap.size 69 4 sv m2.length (m2.flatMap txV) ∧ Below W0.heap.size W0 wr2 ∧ Hid (m2 = (m.take j).filter fun y => decide (b < y.1.e))) (fun _ jv _ => m.length - (intOf jv).toNat)
         case atStart => exact ⟨0, [], by omega, rfl, by simp, World.ownsRow_nil _ _ _ _, Below.refl _ _, rfl⟩
         case round =>
          obtain ⟨j, m2, hj, rfl, hm2j, own2, hB2, hin2⟩ := hrel
          have p61 := (hpW.below hB2).cell 1
          have p6f := (hpW.below hB2).lt
          by_cases hjt : j < m.length
          ·have hownJ := own_below hownW hB2
           obtain ⟨g4, cap4, hv4, hb4, hlt4, hc4⟩ := own_form hownJ (by omega)
           cases hv4
           obtain ⟨d0, d1, d2, d3⟩ := own_tx hownJ hjt
           obtain ⟨⟨⟨y, yb, ye, yk⟩, ⟨A2, n2, c2⟩⟩, hy⟩ : ∃ p, m[j] = p := ⟨_, rfl⟩
           rw [hy] at d0 d1 d2 d3
           have HY := Lib.hid hy
           clear hy
           have hBj := hB2.alloc hB2.size (.cells #[str y, .int .i64 yb, .int .i64 ye, .slice A2 n2 c2] 69)
           have p61a := (hpW.below hBj).cell 1
           have own2a := own2.alloc (.cells #[str y, .int .i64 yb, .int .i64 ye, .slice A2 n2 c2] 69)
           have hpy := Blk.new wr 69 #[str y, .int .i64 yb, .int .i64 ye, .slice A2 n2 c2]
           by_cases hye : b < ye
           ·have hHI : Hid (m2 ++ [(⟨y, yb, ye, yk⟩, ⟨A2, n2, c2⟩)] = (m.take (j + 1)).filter fun y => decide (b < y.1.e)) := by
             show _ = _
             rw [List.take_succ_eq_append_getElem hjt, List.filter_append, ← hin2.out, HY.out]
             simp [hye]
            have hoa := own2a.alloc (.cells #[str y, .int .i64 yb, .int .i64 ye, .slice A2 n2 c2] 69)
            have hBjj := hBj.alloc hBj.size (.cells #[str y, .int .i64 yb, .int .i64 ye, .slice A2 n2 c2] 69)
            clear hin2 HY
            go_wp2_with (at_builtin; refine wpList_append_own_at _ rfl (.tmp 72) (.tmp 74) _ rfl W0.heap.size 69 i0 _ 4 56 Tryz.underlying25 hi0 hz0 hz1 hz2 rfl (by decide) _ _ _ rfl hoa ⟨_, 0, none⟩ 1 1 (txV (⟨y, yb, ye, yk⟩, ⟨A2, n2, c2⟩)) rfl rfl ?zba1 ?zba2 ?zba3 ?zba4 ?zba5 ?_)
            try (case zba1 => (first | exact fun _ _ h => h | exact news_new _ _ _))
            try (case zba2 => exact txV_one _)
            try (case zba3 => simp [maxLen]; omega)
            try (case zba4 => omega)
            try (case zba5 => (first | exact hBjj.size | (have := hB2.size; omega)))
            intro v2 w9 own9 gr9 _ _
            have hB9 : Below W0.heap.size W0 w9 := hBjj.grown gr9 hBjj.size (fun k hk => (hoa.lt k hk).1)
            rw [← txs_snoc] at own9
            clear hoa own2 own2a p61 p61a hpy hBjj d0 d1 d2 d3
            go_wp2
            go_roundw
            case rel => (first | exact ⟨j + 1, m2 ++ [(⟨y, yb, ye, yk⟩, ⟨A2, n2, c2⟩)], by omega, by go_num, by simp; omega, by simpa using own9, hB9, hHI⟩ | ((repeat apply Exists.intro); exact ⟨⟨j + 1, m2 ++ [(⟨y, yb, ye, yk⟩, ⟨A2, n2, c2⟩)], by omega, by go_num, by simp; omega, by simpa using own9, hB9, hHI⟩, rfl⟩))
            case measure => simp [intOf]; omega
           ·have hHI : Hid (m2 = (m.take (j + 1)).filter fun y => decide (b < y.1.e)) := by
             show _ = _
             rw [List.take_succ_eq_append_getElem hjt, List.filter_append, ← hin2.out, HY.out]
             simp [hye]
            clear hin2 HY
            go_wp2
            go_roundw
            case rel => (first | exact ⟨j + 1, m2, by omega, by go_num, by omega, own2a, hBj, hHI⟩ | ((repeat apply Exists.intro); exact ⟨⟨j + 1, m2, by omega, by go_num, by omega, own2a, hBj, hHI⟩, rfl⟩))
            case measure => simp [intOf]; omega
          ·have hm2 : Hid (m2.map Prod.fst = stil l k b) := by
            show _ = _
            rw [hin2.out, List.take_of_length_le (by omega), ← HSTIL.out, HMM.out.symm, List.filter_map]
            rfl
           have hm2l : m2.length ≤ 40 := by omega
           obtain ⟨W1, hW1⟩ : ∃ W1 : World, W1 = wr := ⟨_, rfl⟩
           subst hW1
           have HCR : Hid ((l.take k).any (fun y => crossR y (⟨x, b, e, ks⟩ : Cor.Reg)) = m2.any fun y => y.1.nm == x && crossP y.1 ⟨x, b, e, ks⟩) := by
            have h := Cor.cross_any hk' HM.out
            rw [HX.out] at h
            show _ = _
            rw [h, ← hm2.out, List.any_map]
            rfl
           clear hin2
           obtain ⟨A8, c8, rfl, -, -⟩ := own_slc own2
           go_wp2
           go_loopw [79] (fun jv wr2 => ∃ i : Nat, i ≤ m2.length ∧ jv = .int .i64 i ∧ Below W1.heap.size W1 wr2 ∧ Hid (∀ q (_ : q < i) (h2 : q < m2.length), (m2[q].1.nm == x && crossP m2[q].1 ⟨x, b, e, ks⟩) = false)) (fun jv _ => m2.length - (intOf jv).toNat)
           case atStart => exact ⟨0, by omega, rfl, Below.refl _ _, fun q hq => by omega⟩
           case round =>
            obtain ⟨i, hi, rfl, hB3, hin3⟩ := hrel
            have hpi := (hpW.below hB2).below hB3
            have q60 := hpi.cell 0
            have q61 := hpi.cell 1
            have q62 := hpi.cell 2
            have q63 := hpi.cell 3
            have hBi := hB2.trans (hB3.mono hB2.size)
            by_cases hit : i < m2.length
            ·have hownI := own_below own2 hB3
             obtain ⟨g5, cap5, hv5, hb5, hlt5, hc5⟩ := own_form hownI (by omega)
             cases hv5
             obtain ⟨d0, d1, d2, d3⟩ := own_tx hownI hit
             obtain ⟨⟨⟨y, yb, ye, yk⟩, ⟨A2, n2, c2⟩⟩, hy⟩ : ∃ p, m2[i] = p := ⟨_, rfl⟩
             rw [hy] at d0 d1 d2 d3
             have HY := Lib.hid hy
             clear hy
             have hBy := hB3.alloc hB3.size (.cells #[str y, .int .i64 yb, .int .i64 ye, .slice A2 n2 c2] 69)
             have hpy := hpi.alloc (.cells #[str y, .int .i64 yb, .int .i64 ye, .slice A2 n2 c2] 69)
             have r60 := hpy.cell 0
             have r61 := hpy.cell 1
             have r62 := hpy.cell 2
             have r63 := hpy.cell 3
             clear q60 q61 q62 q63
             by_cases ety : y = x
             ·have E : (y == x) = true := by simpa using ety
              cases hcr : (decide (yb < b) && decide (b < ye) && decide (ye < e)) with
              | true =>
               have HF6 : Hid (rgErr ts l = (k, 13)) := by
                have hyc : (y == x && (decide (yb < b) && decide (b < ye) && decide (ye < e))) = true := by rw [E, hcr]; rfl
                have han : (m2.any fun y => y.1.nm == x && crossP y.1 ⟨x, b, e, ks⟩) = true := List.any_eq_true.2 ⟨m2[i], List.getElem_mem _, by rw [HY.out]; exact hyc⟩
                have hf := HF5.out.trans (if_pos (HCR.out.trans han))
                show _ = _
                rw [HA.out (by rw [hf]; simp), hf]
               clear hin3 HCR HF5 HA HY ety
               go_wp2_with fail
               refine (crosses_any y x yb ye b e ⟨A2, n2, c2⟩ ⟨A', n', c'⟩ _).mono ?_
               rintro e' w8 ⟨rfl, hb8⟩
               rw [hcr]
               clear hcr
               go_wp2
               go_ret2
               exact ⟨ret_p HF6.out rfl rfl, hBW.trans ((hB2.trans ((hBy.trans (hb8.mono hBy.size)).mono hB2.size)).mono hBW.size)⟩
              | false =>
               have HI : Hid (∀ q (_ : q < i + 1) (h2 : q < m2.length), (m2[q].1.nm == x && crossP m2[q].1 ⟨x, b, e, ks⟩) = false) := stepG (p := fun y : TH => y.1.nm == x && crossP y.1 ⟨x, b, e, ks⟩) hin3.out hit (by show (m2[i].1.nm == x && crossP m2[i].1 ⟨x, b, e, ks⟩) = false; rw [HY.out]; show (y == x && (decide (yb < b) && decide (b < ye) && decide (ye < e))) = false; rw [hcr]; simp)
               clear hin3 HCR HF5 HA HY ety
               go_wp2_with fail
               refine (crosses_any y x yb ye b e ⟨A2, n2, c2⟩ ⟨A', n', c'⟩ _).mono ?_
               rintro e' w8 ⟨rfl, hb8⟩
               rw [hcr]
               clear hcr
               go_wp2
               go_roundw
               case rel => (first | exact ⟨i + 1, by omega, by go_num, hBy.trans (hb8.mono hBy.size), HI⟩ | ((repeat apply Exists.intro); exact ⟨⟨i + 1, by omega, by go_num, hBy.trans (hb8.mono hBy.size), HI⟩, rfl⟩))
               case measure => simp [intOf]; omega
             ·have E : (y == x) = false := by simpa using ety
              have HI : Hid (∀ q (_ : q < i + 1) (h2 : q < m2.length), (m2[q].1.nm == x && crossP m2[q].1 ⟨x, b, e, ks⟩) = false) := stepG (p := fun y : TH => y.1.nm == x && crossP y.1 ⟨x, b, e, ks⟩) hin3.out hit (by show (m2[i].1.nm == x && crossP m2[i].1 ⟨x, b, e, ks⟩) = false; rw [HY.out]; show (y == x && _) = false; rw [E]; rfl)
              clear hin3 HCR HF5 HA HY ety
              go_wp2
              go_roundw
              case rel => (first | exact ⟨i + 1, by omega, by go_num, hBy, HI⟩ | ((repeat apply Exists.intro); exact ⟨⟨i + 1, by omega, by go_num, hBy, HI⟩, rfl⟩))
              case measure => simp [intOf]; omega
            ·have hnc := any_take_false (l := m2) (k := m2.length) (p := fun y : TH => y.1.nm == x && crossP y.1 ⟨x, b, e, ks⟩) (fun q hq h2 => hin3.out q (by omega) h2)
             rw [List.take_length] at hnc
             have HF6 := Lib.hid (HF5.out.trans (if_neg (by rw [HCR.out, hnc]; simp)))
             clear hnc
             have HDP : Hid (((l.take (k + 1)).filter (coverR (⟨x, b, e, ks⟩ : Cor.Reg))).length = m2.length + 1) := by
              have h := Cor.deep_eq hk' HM.out (by rw [HX.out]; exact hbe)
              rw [HX.out] at h
              show _ = _
              rw [h, ← hm2.out, List.length_map]
             have HON : Hid ((m2 ++ [((⟨x, b, e, ks⟩ : Cor.Reg), (⟨A', n', c'⟩ : Hd))]).map Prod.fst = stil l (k + 1) b) := by
              have h := Cor.open_next hk' (by rw [HX.out]; exact hbe)
              rw [HX.out] at h
              show _ = _
              rw [h, ← hm2.out, List.map_append]; rfl
             clear hin3 HCR HF5
             have own3 := own_below own2 hB3
             have hoa := own3.alloc (.cells #[str x, .int .i64 b, .int .i64 e, .slice A' n' c'] 69)
             have hBa3 := hBi.alloc hBi.size (.cells #[str x, .int .i64 b, .int .i64 e, .slice A' n' c'] 69)
             go_wp2_with (at_builtin; refine wpList_append_own_at _ rfl (.tmp 95) (.tmp 97) _ rfl W0.heap.size 69 i0 _ 4 56 Tryz.underlying25 hi0 hz0 hz1 hz2 rfl (by decide) _ _ _ rfl hoa ⟨_, 0, none⟩ 1 1 (txV (⟨x, b, e, ks⟩, ⟨A', n', c'⟩)) rfl rfl ?zbb1 ?zbb2 ?zbb3 ?zbb4 ?zbb5 ?_)
             try (case zbb1 => (first | exact fun _ _ h => h | exact news_new _ _ _))
             try (case zbb2 => exact txV_one _)
             try (case zbb3 => simp [maxLen]; omega)
             try (case zbb4 => omega)
             try (case zbb5 => (first | exact hBa3.size | (have := hBi.size; omega)))
             intro v9 w9 own9 gr9 _ _
             have hB9 : Below W0.heap.size W0 w9 := hBa3.grown gr9 hBa3.size (fun k hk => (hoa.lt k hk).1)
             rw [← txs_snoc] at own9
             have hBfin := hBW.trans (hB9.mono hBW.size)
             have hbx9 := hbxW.below hB9
             obtain ⟨A9, c9, rfl, -, -⟩ := own_slc own9
             clear hoa own2 own3 q60 q61 q62 q63 hpi hBa3 gr9
             by_cases h40 : 40 < m2.length + 1
             ·have HF7 : Hid (rgErr ts l = (k, 2)) := by
               have hf := HF6.out.trans (if_pos (by rw [HDP.out]; exact h40))
               show _ = _
               rw [HA.out (by rw [hf]; simp), hf]
              clear HF6 HDP HA HON
              go_wp2
              go_ret2
              exact ⟨ret_p HF7.out rfl rfl, hBfin⟩
             ·have HI : Hid (∀ j, j < k + 1 → rgF ts l j = 0) := upto_step hinv.out (HF6.out.trans (if_neg (by rw [HDP.out]; exact h40)))
              clear HF6 HDP HA hinv
              go_wp2
              go_roundw
              case rel => (first | exact ⟨k + 1, m2 ++ [((⟨x, b, e, ks⟩ : Cor.Reg), (⟨A', n', c'⟩ : Hd))], b, by omega, by go_num, by simp; omega, own_base (by simpa using own9) (by have := hbxW.lt; omega), hBfin, hbx9, HON, HI, HNX⟩ | ((repeat apply Exists.intro); exact ⟨⟨k + 1, m2 ++ [((⟨x, b, e, ks⟩ : Cor.Reg), (⟨A', n', c'⟩ : Hd))], b, by omega, by go_num, by simp; omega, own_base (by simpa using own9) (by have := hbxW.lt; omega), hBfin, hbx9, HON, HI, HNX⟩, rfl⟩))
              case measure => simp [intOf]; omega
      ·obtain rfl : k = 0 := by omega
       have HF5 := Lib.hid (HF4.out.trans (if_neg (fun h => hk0 h.1)))
       have hmono : Cor.MonoB l (0 + 1) := Cor.mono_step hk' hmk.out (fun h => by omega)
       have HSTIL : Hid ((stil l 0 b0).filter (fun y => decide (b < y.e)) = stil l 0 b) := by show _ = _; simp [stil]
       clear HF4 hmk HB0 hk0
       go_big_quiet (fail)
       obtain ⟨W0, hW0⟩ : ∃ W0, w3.drewN nq = W0 := ⟨_, rfl⟩
       have hBW := below_drewN hB3 nq
       have hbxW : Blk (w3.drewN nq) w.heap.size 30 #[ha.v, htt.v, hX.v, .slice (some ⟨g, o, none⟩) n c, hn.v, hh.v, hl.v] := hbx3
       have hpW : Blk (w3.drewN nq) wo.heap.size 69 #[str x, .int .i64 b, .int .i64 e, .slice A' n' c'] := hp3
       have hownW : (w3.drewN nq).ownsRow (w.heap.size + 1) 69 4 _ m.length (m.flatMap txV) := own_same own3 (fun _ _ => rfl)
       rw [hW0] at hBW hbxW hpW hownW
       simp only [hW0]
       clear hW0 hB3 hbx3 hp3 own3 hb3
       have HM := Lib.hid hmono
       clear hmono
       go_wp2
       go_loopw [8, 63] (fun sv jv wr2 => ∃ (j : Nat) (m2 : List TH), j ≤ m.length ∧ jv = .int .i64 j ∧ m2.length ≤ j ∧ wr2.ownsRow W0.heap.size 69 4 sv m2.length (m2.flatMap txV) ∧ Below W0.heap.size W0 wr2 ∧ Hid (m2 = (m.take j).filter fun y => decide (b < y.1.e))) (fun _ jv _ => m.length - (intOf jv).toNat)
       case atStart => exact ⟨0, [], by omega, rfl, by simp, World.ownsRow_nil _ _ _ _, Below.refl _ _, rfl⟩
       case round =>
        obtain ⟨j, m2, hj, rfl, hm2j, own2, hB2, hin2⟩ := hrel
        have p61 := (hpW.below hB2).cell 1
        have p6f := (hpW.below hB2).lt
        by_cases hjt : j < m.length
        ·have hownJ := own_below hownW hB2
         obtain ⟨g4, cap4, hv4, hb4, hlt4, hc4⟩ := own_form hownJ (by omega)
         cases hv4
         obtain ⟨d0, d1, d2, d3⟩ := own_tx hownJ hjt
         obtain ⟨⟨⟨y, yb, ye, yk⟩, ⟨A2, n2, c2⟩⟩, hy⟩ : ∃ p, m[j] = p := ⟨_, rfl⟩
         rw [hy] at d0 d1 d2 d3
         have HY := Lib.hid hy
         clear hy
         have hBj := hB2.alloc hB2.size (.cells #[str y, .int .i64 yb, .int .i64 ye, .slice A2 n2 c2] 69)
         have p61a := (hpW.below hBj).cell 1
         have own2a := own2.alloc (.cells #[str y, .int .i64 yb, .int .i64 ye, .slice A2 n2 c2] 69)
         have hpy := Blk.new wr 69 #[str y, .int .i64 yb, .int .i64 ye, .slice A2 n2 c2]
         by_cases hye : b < ye
         ·have hHI : Hid (m2 ++ [(⟨y, yb, ye, yk⟩, ⟨A2, n2, c2⟩)] = (m.take (j + 1)).filter fun y => decide (b < y.1.e)) := by
           show _ = _
           rw [List.take_succ_eq_append_getElem hjt, List.filter_append, ← hin2.out, HY.out]
           simp [hye]
          have hoa := own2a.alloc (.cells #[str y, .int .i64 yb, .int .i64 ye, .slice A2 n2 c2] 69)
          have hBjj := hBj.alloc hBj.size (.cells #[str y, .int .i64 yb, .int .i64 ye, .slice A2 n2 c2] 69)
          clear hin2 HY
          go_wp2_with (at_builtin; refine wpList_append_own_at _ rfl (.tmp 72) (.tmp 74) _ rfl W0.heap.size 69 i0 _ 4 56 Tryz.underlying25 hi0 hz0 hz1 hz2 rfl (by decide) _ _ _ rfl hoa ⟨_, 0, none⟩ 1 1 (txV (⟨y, yb, ye, yk⟩, ⟨A2, n2, c2⟩)) rfl rfl ?zaa1 ?zaa2 ?zaa3 ?zaa4 ?zaa5 ?_)
          try (case zaa1 => (first | exact fun _ _ h => h | exact news_new _ _ _))
          try (case zaa2 => exact txV_one _)
          try (case zaa3 => simp [maxLen]; omega)
          try (case zaa4 => omega)
          try (case zaa5 => (first | exact hBjj.size | (have := hB2.size; omega)))
          intro v2 w9 own9 gr9 _ _
          have hB9 : Below W0.heap.size W0 w9 := hBjj.grown gr9 hBjj.size (fun k hk => (hoa.lt k hk).1)
          rw [← txs_snoc] at own9
          clear hoa own2 own2a p61 p61a hpy hBjj d0 d1 d2 d3
          go_wp2
          go_roundw
          case rel => (first | exact ⟨j + 1, m2 ++ [(⟨y, yb, ye, yk⟩, ⟨A2, n2, c2⟩)], by omega, by go_num, by simp; omega, by simpa using own9, hB9, hHI⟩ | ((repeat apply Exists.intro); exact ⟨⟨j + 1, m2 ++ [(⟨y, yb, ye, yk⟩, ⟨A2, n2, c2⟩)], by omega, by go_num, by simp; omega, by simpa using own9, hB9, hHI⟩, rfl⟩))
          case measure => simp [intOf]; omega
         ·have hHI : Hid (m2 = (m.take (j + 1)).filter fun y => decide (b < y.1.e)) := by
           show _ = _
           rw [List.take_succ_eq_append_getElem hjt, List.filter_append, ← hin2.out, HY.out]
           simp [hye]
          clear hin2 HY
          go_wp2
          go_roundw
          case rel => (first | exact ⟨j + 1, m2, by omega, by go_num, by omega, own2a, hBj, hHI⟩ | ((repeat apply Exists.intro); exact ⟨⟨j + 1, m2, by omega, by go_num, by omega, own2a, hBj, hHI⟩, rfl⟩))
          case measure => simp [intOf]; omega
        ·have hm2 : Hid (m2.map Prod.fst = stil l 0 b) := by
          show _ = _
          rw [hin2.out, List.take_of_length_le (by omega), ← HSTIL.out, HMM.out.symm, List.filter_map]
          rfl
         have hm2l : m2.length ≤ 40 := by omega
         obtain ⟨W1, hW1⟩ : ∃ W1 : World, W1 = wr := ⟨_, rfl⟩
         subst hW1
         have HCR : Hid ((l.take 0).any (fun y => crossR y (⟨x, b, e, ks⟩ : Cor.Reg)) = m2.any fun y => y.1.nm == x && crossP y.1 ⟨x, b, e, ks⟩) := by
          have h := Cor.cross_any hk' HM.out
          rw [HX.out] at h
          show _ = _
          rw [h, ← hm2.out, List.any_map]
          rfl
         clear hin2
         obtain ⟨A8, c8, rfl, -, -⟩ := own_slc own2
         go_wp2
         go_loopw [79] (fun jv wr2 => ∃ i : Nat, i ≤ m2.length ∧ jv = .int .i64 i ∧ Below W1.heap.size W1 wr2 ∧ Hid (∀ q (_ : q < i) (h2 : q < m2.length), (m2[q].1.nm == x && crossP m2[q].1 ⟨x, b, e, ks⟩) = false)) (fun jv _ => m2.length - (intOf jv).toNat)
         case atStart => exact ⟨0, by omega, rfl, Below.refl _ _, fun q hq => by omega⟩
         case round =>
          obtain ⟨i, hi, rfl, hB3, hin3⟩ := hrel
          have hpi := (hpW.below hB2).below hB3
          have q60 := hpi.cell 0
          have q61 := hpi.cell 1
          have q62 := hpi.cell 2
          have q63 := hpi.cell 3
          have hBi := hB2.trans (hB3.mono hB2.size)
          by_cases hit : i < m2.length
          ·have hownI := own_below own2 hB3
           obtain ⟨g5, cap5, hv5, hb5, hlt5, hc5⟩ := own_form hownI (by omega)
           cases hv5
           obtain ⟨d0, d1, d2, d3⟩ := own_tx hownI hit
           obtain ⟨⟨⟨y, yb, ye, yk⟩, ⟨A2, n2, c2⟩⟩, hy⟩ : ∃ p, m2[i] = p := ⟨_, rfl⟩
           rw [hy] at d0 d1 d2 d3
           have HY := Lib.hid hy
           clear hy
           have hBy := hB3.alloc hB3.size (.cells #[str y, .int .i64 yb, .int .i64 ye, .slice A2 n2 c2] 69)
           have hpy := hpi.alloc (.cells #[str y, .int .i64 yb, .int .i64 ye, .slice A2 n2 c2] 69)
           have r60 := hpy.cell 0
           have r61 := hpy.cell 1
           have r62 := hpy.cell 2
           have r63 := hpy.cell 3
           clear q60 q61 q62 q63
           by_cases ety : y = x
           ·have E : (y == x) = true := by simpa using ety
            cases hcr : (decide (yb < b) && decide (b < ye) && decide (ye < e)) with
            | true =>
             have HF6 : Hid (rgErr ts l = (0, 13)) := by
              have hyc : (y == x && (decide (yb < b) && decide (b < ye) && decide (ye < e))) = true := by rw [E, hcr]; rfl
              have han : (m2.any fun y => y.1.nm == x && crossP y.1 ⟨x, b, e, ks⟩) = true := List.any_eq_true.2 ⟨m2[i], List.getElem_mem _, by rw [HY.out]; exact hyc⟩
              have hf := HF5.out.trans (if_pos (HCR.out.trans han))
              show _ = _
              rw [HA.out (by rw [hf]; simp), hf]
             clear hin3 HCR HF5 HA HY ety
             go_wp2_with fail
             refine (crosses_any y x yb ye b e ⟨A2, n2, c2⟩ ⟨A', n', c'⟩ _).mono ?_
             rintro e' w8 ⟨rfl, hb8⟩
             rw [hcr]
             clear hcr
             go_wp2
             go_ret2
             exact ⟨ret_p HF6.out rfl rfl, hBW.trans ((hB2.trans ((hBy.trans (hb8.mono hBy.size)).mono hB2.size)).mono hBW.size)⟩
            | false =>
             have HI : Hid (∀ q (_ : q < i + 1) (h2 : q < m2.length), (m2[q].1.nm == x && crossP m2[q].1 ⟨x, b, e, ks⟩) = false) := stepG (p := fun y : TH => y.1.nm == x && crossP y.1 ⟨x, b, e, ks⟩) hin3.out hit (by show (m2[i].1.nm == x && crossP m2[i].1 ⟨x, b, e, ks⟩) = false; rw [HY.out]; show (y == x && (decide (yb < b) && decide (b < ye) && decide (ye < e))) = false; rw [hcr]; simp)
             clear hin3 HCR HF5 HA HY ety
             go_wp2_with fail
             refine (crosses_any y x yb ye b e ⟨A2, n2, c2⟩ ⟨A', n', c'⟩ _).mono ?_
             rintro e' w8 ⟨rfl, hb8⟩
             rw [hcr]
             clear hcr
             go_wp2
             go_roundw
             case rel => (first | exact ⟨i + 1, by omega, by go_num, hBy.trans (hb8.mono hBy.size), HI⟩ | ((repeat apply Exists.intro); exact ⟨⟨i + 1, by omega, by go_num, hBy.trans (hb8.mono hBy.size), HI⟩, rfl⟩))
             case measure => simp [intOf]; omega
           ·have E : (y == x) = false := by simpa using ety
            have HI : Hid (∀ q (_ : q < i + 1) (h2 : q < m2.length), (m2[q].1.nm == x && crossP m2[q].1 ⟨x, b, e, ks⟩) = false) := stepG (p := fun y : TH => y.1.nm == x && crossP y.1 ⟨x, b, e, ks⟩) hin3.out hit (by show (m2[i].1.nm == x && crossP m2[i].1 ⟨x, b, e, ks⟩) = false; rw [HY.out]; show (y == x && _) = false; rw [E]; rfl)
            clear hin3 HCR HF5 HA HY ety
            go_wp2
            go_roundw
            case rel => (first | exact ⟨i + 1, by omega, by go_num, hBy, HI⟩ | ((repeat apply Exists.intro); exact ⟨⟨i + 1, by omega, by go_num, hBy, HI⟩, rfl⟩))
            case measure => simp [intOf]; omega
          ·have hnc := any_take_false (l := m2) (k := m2.length) (p := fun y : TH => y.1.nm == x && crossP y.1 ⟨x, b, e, ks⟩) (fun q hq h2 => hin3.out q (by omega) h2)
           rw [List.take_length] at hnc
           have HF6 := Lib.hid (HF5.out.trans (if_neg (by rw [HCR.out, hnc]; simp)))
           clear hnc
           have HDP : Hid (((l.take (0 + 1)).filter (coverR (⟨x, b, e, ks⟩ : Cor.Reg))).length = m2.length + 1) := by
            have h := Cor.deep_eq hk' HM.out (by rw [HX.out]; exact hbe)
            rw [HX.out] at h
            show _ = _
            rw [h, ← hm2.out, List.length_map]
           have HON : Hid ((m2 ++ [((⟨x, b, e, ks⟩ : Cor.Reg), (⟨A', n', c'⟩ : Hd))]).map Prod.fst = stil l (0 + 1) b) := by
            have h := Cor.open_next hk' (by rw [HX.out]; exact hbe)
            rw [HX.out] at h
            show _ = _
            rw [h, ← hm2.out, List.map_append]; rfl
           clear hin3 HCR HF5
           have own3 := own_below own2 hB3
           have hoa := own3.alloc (.cells #[str x, .int .i64 b, .int .i64 e, .slice A' n' c'] 69)
           have hBa3 := hBi.alloc hBi.size (.cells #[str x, .int .i64 b, .int .i64 e, .slice A' n' c'] 69)
           go_wp2_with (at_builtin; refine wpList_append_own_at _ rfl (.tmp 95) (.tmp 97) _ rfl W0.heap.size 69 i0 _ 4 56 Tryz.underlying25 hi0 hz0 hz1 hz2 rfl (by decide) _ _ _ rfl hoa ⟨_, 0, none⟩ 1 1 (txV (⟨x, b, e, ks⟩, ⟨A', n', c'⟩)) rfl rfl ?zab1 ?zab2 ?zab3 ?zab4 ?zab5 ?_)
           try (case zab1 => (first | exact fun _ _ h => h | exact news_new _ _ _))
           try (case zab2 => exact txV_one _)
           try (case zab3 => simp [maxLen]; omega)
           try (case zab4 => omega)
           try (case zab5 => (first | exact hBa3.size | (have := hBi.size; omega)))
           intro v9 w9 own9 gr9 _ _
           have hB9 : Below W0.heap.size W0 w9 := hBa3.grown gr9 hBa3.size (fun k hk => (hoa.lt k hk).1)
           rw [← txs_snoc] at own9
           have hBfin := hBW.trans (hB9.mono hBW.size)
           have hbx9 := hbxW.below hB9
           obtain ⟨A9, c9, rfl, -, -⟩ := own_slc own9
           clear hoa own2 own3 q60 q61 q62 q63 hpi hBa3 gr9
           by_cases h40 : 40 < m2.length + 1
           ·have HF7 : Hid (rgErr ts l = (0, 2)) := by
             have hf := HF6.out.trans (if_pos (by rw [HDP.out]; exact h40))
             show _ = _
             rw [HA.out (by rw [hf]; simp), hf]
            clear HF6 HDP HA HON
            go_wp2
            go_ret2
            exact ⟨ret_p HF7.out rfl rfl, hBfin⟩
           ·have HI : Hid (∀ j, j < 0 + 1 → rgF ts l j = 0) := upto_step hinv.out (HF6.out.trans (if_neg (by rw [HDP.out]; exact h40)))
            clear HF6 HDP HA hinv
            go_wp2
            go_roundw
            case rel => (first | exact ⟨0 + 1, m2 ++ [((⟨x, b, e, ks⟩ : Cor.Reg), (⟨A', n', c'⟩ : Hd))], b, by omega, by go_num, by simp; omega, own_base (by simpa using own9) (by have := hbxW.lt; omega), hBfin, hbx9, HON, HI, HNX⟩ | ((repeat apply Exists.intro); exact ⟨⟨0 + 1, m2 ++ [((⟨x, b, e, ks⟩ : Cor.Reg), (⟨A', n', c'⟩ : Hd))], b, by omega, by go_num, by simp; omega, own_base (by simpa using own9) (by have := hbxW.lt; omega), hBfin, hbx9, HON, HI, HNX⟩, rfl⟩))
            case measure => simp [intOf]; omega
     ·have E6 : ((prErr ks : Int) != 0) = true := by rw [bne_iff_ne]; omega
      have HF4 : Hid (rgErr ts l = (k, prErr ks)) := by
       have hf := HF3.out.trans (if_pos hv)
       show _ = _
       rw [HA.out (by rw [hf]; exact hv), hf]
      clear hv HF3 HA
      go_wp2
      go_ret2
      exact ⟨ret_p HF4.out rfl rfl, hB3⟩
  ·have HF : Hid (rgErr ts l = (0, 0)) := Cor.rgErr_zero (by have : l.length = n := HL.out; omega) (fun j hj => hinv.out j (by have : l.length = n := HL.out; omega))
   clear hinv
   go_wp2
   go_ret2
   exact ⟨ret_p HF.out rfl rfl, hB⟩
end Go.Proofs.YtgkdaebiefhgdaaGreatDoor
