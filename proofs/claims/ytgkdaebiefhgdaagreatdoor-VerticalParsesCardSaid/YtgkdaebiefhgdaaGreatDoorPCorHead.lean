/-
 The contract of the program's check of heads. Conditions: the texts are valid, at most 4096 tokens.
-/
import Derived.Test.YtgkdaebiefhgdaaGreatDoorPCorPl
import Derived.Test.YtgkdaebiefhgdaaGreatDoorPCorNw
import Derived.Deep.RegionLaw
import Derived.Deep.CutRange
namespace Go.Proofs.YtgkdaebiefhgdaaGreatDoor
open Go.RowKit Utf
open Feat (Bs)
open Tagp (KV okName)
open Cor (hdF hdErr bare textAt)
theorem Blk.set_size (w : World) (p : Addr) (v : Value) : (w.setCell p v).heap.size = w.heap.size := by simp [World.setCell]

set_option maxRecDepth 100000 in
set_option maxHeartbeats 8000000 in
theorem heads_any (H : CH) (ts : List Cor.Txt) (h : List Int) (r : List Bs) (w : World) (hft : Fit H.t) (hT : H.t.n ≤ 4096) (hts : Txts w w.heap.size H.x ts) (ho : TextsOk ts H.t.n) (hh : Nums w w.heap.size H.h h) (hrl : Words w w.heap.size H.l r) :
  Calls Tryz.prog 93 #[H.v] w (Kept (.tuple #[.int .i64 ((hdErr H.t.n ts h r).1 : Nat), .int .i64 ((hdErr H.t.n ts h r).2 : Nat)]) w) := by
 obtain ⟨ha, ⟨At, nt, ct⟩, ⟨Ax, nx, cx⟩, hr, hn, ⟨A, n, c⟩, ⟨A2, n2, c2⟩⟩ := H
 show Calls Tryz.prog 93 #[.agg #[ha.v, .slice At nt ct, .slice Ax nx cx, hr.v, hn.v, .slice A n c, .slice A2 n2 c2]] w (Kept (.tuple #[.int .i64 ((hdErr nt ts h r).1 : Nat), .int .i64 ((hdErr nt ts h r).2 : Nat)]) w)
 have hT : nt ≤ 4096 := hT
 have hok := Lib.hid ho
 have HXL := Lib.hid hts.len
 have HL := Lib.hid hh.len
 have HR := Lib.hid hrl.len
 have f1 : n ≤ 9223372036854775807 := hh.1.2
 have f2 : n2 ≤ 9223372036854775807 := hrl.1.2
 clear ho hft
 have hB0 := (Below.refl w.heap.size w).alloc (Nat.le_refl _) (.cells #[ha.v, .slice At nt ct, .slice Ax nx cx, hr.v, hn.v, .slice A n c, .slice A2 n2 c2] 30)
 have hb0 := Blk.new w 30 #[ha.v, .slice At nt ct, .slice Ax nx cx, hr.v, hn.v, .slice A n c, .slice A2 n2 c2]
 by_cases e1 : n = n2
 ·subst e1
  have hnl : h.length ≤ n ∧ n ≤ h.length := by have : h.length = n := HL.out; omega
  have hr' : Words w w.heap.size ⟨A2, n, c2⟩ r := hrl
  by_cases e2 : n = 0
  ·have H1 : Hid (¬ (h.length ≠ r.length ∨ (h.length ≠ 0 ∧ h.length ≠ nt))) := by
    have h1 : h.length = n := HL.out
    have h2 : r.length = n := HR.out
    show ¬ _
    omega
   have H2 : Hid (¬ (0 < h.length ∧ bare h r = true)) := by show ¬ _; omega
   have hn4 : n ≤ 4096 := by omega
   have E1 : decide (0 < n) = false := by simpa using e2
   have i2 : ¬ 0 < n := by omega
   clear e2
   go_enter Tryz.func93, Tryz.ntmps93
   have HCY := Lib.hid (cycles_any A n c h (w.alloc (.cells #[ha.v, .slice At nt ct, .slice Ax nx cx, hr.v, hn.v, .slice A n c, .slice A2 n c2] 30)) hn4 ((hh.under hB0).up hB0.size))
   go_wp2_with fail
   refine HCY.out.mono ?_
   rintro e' w3 ⟨rfl, hb3, hcy⟩
   clear HCY
   have hB3 := hB0.trans (hb3.mono hB0.size)
   have hbx3 := hb0.below hb3
   have b5 := hbx3.cell 5
   have hcl : (w.alloc (.cells #[ha.v, .slice At nt ct, .slice Ax nx cx, hr.v, hn.v, .slice A n c, .slice A2 n c2] 30)).heap.size < w3.heap.size := hcy.lt
   have hwl : w.heap.size ≤ (w.alloc (.cells #[ha.v, .slice At nt ct, .slice Ax nx cx, hr.v, hn.v, .slice A n c, .slice A2 n c2] 30)).heap.size := hB0.size
   obtain ⟨gc, hgc⟩ : ∃ gc, (w.alloc (.cells #[ha.v, .slice At nt ct, .slice Ax nx cx, hr.v, hn.v, .slice A n c, .slice A2 n c2] 30)).heap.size = gc := ⟨_, rfl⟩
   rw [hgc] at hcy hcl hwl
   simp only [hgc]
   clear hgc hb3
   go_wp2
   clear b5
   go_loopw [43] (fun iv wr => ∃ k : Nat, k ≤ n ∧ iv = .int .i64 k ∧ Below w.heap.size w wr ∧ Blk wr w.heap.size 30 #[ha.v, .slice At nt ct, .slice Ax nx cx, hr.v, hn.v, .slice A n c, .slice A2 n c2] ∧ gc < wr.heap.size ∧ Blk wr gc 4 (bools ((List.range h.length).map fun i => Cor.cyc h i)).toArray ∧ Hid (∀ j, j < k → hdF ts h r j = 0)) (fun iv _ => n - (intOf iv).toNat)
   case atStart => exact ⟨0, by omega, rfl, hB3, hbx3, hcl, hcy, fun j hj => by omega⟩
   case round =>
    obtain ⟨k, hk, rfl, hB, hbx, hgl, hC, hinv⟩ := hrel
    by_cases hlt : k < n
    ·exfalso; omega
    ·have HF : Hid (hdErr nt ts h r = (0, 0)) := hdErr_zero H1.out H2.out (fun j hj => hinv.out j (by omega))
     clear hinv
     go_wp2
     go_ret2
     exact ⟨ret_p HF.out rfl rfl, hB⟩
  ·by_cases e3 : n = nt
   ·subst e3
    have hn4 : n ≤ 4096 := hT
    have E1 : decide (0 < n) = true := by simp; omega
    have i2 : 0 < n := by omega
    clear e2
    have HNH := Lib.hid (noHeads_any A n c A2 c2 h r (w.alloc (.cells #[ha.v, .slice At n ct, .slice Ax nx cx, hr.v, hn.v, .slice A n c, .slice A2 n c2] 30)) ((hh.under hB0).up hB0.size) ((hr'.under hB0).up hB0.size))
    cases hba : bare h r with
    | true =>
     have HF : Hid (hdErr n ts h r = (0, 14)) := by
      have h1 : h.length = n := HL.out
      have h2 : r.length = n := HR.out
      show _ = _
      unfold hdErr
      rw [if_neg (by omega), if_pos ⟨by omega, hba⟩]
     rw [hba] at HNH
     clear hba
     go_enter Tryz.func93, Tryz.ntmps93
     go_wp2_with fail
     refine HNH.out.mono ?_
     rintro e' w1 ⟨rfl, rfl⟩
     go_wp2
     go_ret2
     exact ⟨ret_p HF.out rfl rfl, hB0⟩
    | false =>
     have H1 : Hid (¬ (h.length ≠ r.length ∨ (h.length ≠ 0 ∧ h.length ≠ n))) := by
      have h1 : h.length = n := HL.out
      have h2 : r.length = n := HR.out
      show ¬ _
      omega
     have H2 : Hid (¬ (0 < h.length ∧ bare h r = true)) := by show ¬ _; rw [hba]; simp
     rw [hba] at HNH
     clear hba
     go_enter Tryz.func93, Tryz.ntmps93
     go_wp2_with fail
     refine HNH.out.mono ?_
     rintro e' w1 ⟨rfl, rfl⟩
     clear HNH
     have HCY := Lib.hid (cycles_any A n c h (w.alloc (.cells #[ha.v, .slice At n ct, .slice Ax nx cx, hr.v, hn.v, .slice A n c, .slice A2 n c2] 30)) hn4 ((hh.under hB0).up hB0.size))
     go_wp2_with fail
     refine HCY.out.mono ?_
     rintro e' w3 ⟨rfl, hb3, hcy⟩
     clear HCY
     have hB3 := hB0.trans (hb3.mono hB0.size)
     have hbx3 := hb0.below hb3
     have b5 := hbx3.cell 5
     have hcl : (w.alloc (.cells #[ha.v, .slice At n ct, .slice Ax nx cx, hr.v, hn.v, .slice A n c, .slice A2 n c2] 30)).heap.size < w3.heap.size := hcy.lt
     have hwl : w.heap.size ≤ (w.alloc (.cells #[ha.v, .slice At n ct, .slice Ax nx cx, hr.v, hn.v, .slice A n c, .slice A2 n c2] 30)).heap.size := hB0.size
     obtain ⟨gc, hgc⟩ : ∃ gc, (w.alloc (.cells #[ha.v, .slice At n ct, .slice Ax nx cx, hr.v, hn.v, .slice A n c, .slice A2 n c2] 30)).heap.size = gc := ⟨_, rfl⟩
     rw [hgc] at hcy hcl hwl
     simp only [hgc]
     clear hgc hb3
     go_wp2
     clear b5
     go_loopw [43] (fun iv wr => ∃ k : Nat, k ≤ n ∧ iv = .int .i64 k ∧ Below w.heap.size w wr ∧ Blk wr w.heap.size 30 #[ha.v, .slice At n ct, .slice Ax nx cx, hr.v, hn.v, .slice A n c, .slice A2 n c2] ∧ gc < wr.heap.size ∧ Blk wr gc 4 (bools ((List.range h.length).map fun i => Cor.cyc h i)).toArray ∧ Hid (∀ j, j < k → hdF ts h r j = 0)) (fun iv _ => n - (intOf iv).toNat)
     case atStart => exact ⟨0, by omega, rfl, hB3, hbx3, hcl, hcy, fun j hj => by omega⟩
     case round =>
      obtain ⟨k, hk, rfl, hB, hbx, hgl, hC, hinv⟩ := hrel
      by_cases hlt : k < n
      ·have hnn : n = n := by rfl
       obtain ⟨g, o, hk1, e0, hg, z1, c0⟩ := (hh.under hB).at_ (k := k) hlt
       have e0 : A = some ⟨g, o, none⟩ := e0
       subst e0
       obtain ⟨g2, o2, hk2, e0, hg2, z2, d0⟩ := (hr'.under hB).at_ (k := k) hlt
       have e0 : A2 = some ⟨g2, o2, none⟩ := e0
       subst e0
       have HF := Lib.hid (hdF_at (ts := ts) hk1 hk2)
       have HA := Lib.hid (fun hf => hdErr_at (n := n) H1.out H2.out hk1 hinv.out hf)
       obtain ⟨ix, hix, hhit⟩ := hok.out.cov (k : Int) (by omega) (by omega)
       have HTX := Lib.hid (hits_one hok.out.row hix hhit)
       have HOUT := Lib.hid (out_iff (x := h[k]) hok.out hix hhit)
       have hixn : ix < nx := by have : ts.length = nx := HXL.out; omega
       obtain ⟨gx, ox, ⟨Am, nm, cm⟩, hix2, e0, hgx, hokx, t0w, t1w, t2w, t3w⟩ := (hts.under hB).at_ (k := ix) hixn
       have e0 : Ax = some ⟨gx, ox, none⟩ := e0
       subst e0
       clear hokx
       obtain ⟨⟨tn, tb, te, tk⟩, htt⟩ : ∃ t, ts[ix] = t := ⟨_, rfl⟩
       rw [htt] at HOUT t0w t1w t2w
       obtain ⟨x, hx⟩ : ∃ x, h[k] = x := ⟨_, rfl⟩
       obtain ⟨s, hs⟩ : ∃ s, r[k] = s := ⟨_, rfl⟩
       rw [hx] at c0 HF HOUT z1
       rw [hs] at d0 HF z2
       have z2 : s.length ≤ 9223372036854775807 := z2
       have HS := Lib.hid hs
       clear hx hs htt hhit
       have hbD := (Below.refl wr.heap.size wr).drew
       have HT := Lib.hid (fun (W : World) (hW : Below wr.heap.size wr W) => textAt_any ⟨ha, ⟨At, n, ct⟩, ⟨some ⟨gx, ox, none⟩, nx, cx⟩, hr, hn, ⟨some ⟨g, o, none⟩, n, c⟩, ⟨some ⟨g2, o2, none⟩, n, c2⟩⟩ ts (k : Nat) W ((hts.under (hB.trans (hW.mono hB.size))).up (hB.trans (hW.mono hB.size)).size))
       have b0 := hbx.cell 0
       have b1 := hbx.cell 1
       have b2 := hbx.cell 2
       have b3 := hbx.cell 3
       have b4 := hbx.cell 4
       have b5 := hbx.cell 5
       have b6 := hbx.cell 6
       have hHX : Hid (∀ wz, Below wr.heap.size wr wz → wz.cell? ⟨gx, ox + ix * 4, none⟩ = some (str tn) ∧ wz.cell? ⟨gx, ox + ix * 4 + 1, none⟩ = some (.int .i64 tb) ∧ wz.cell? ⟨gx, ox + ix * 4 + 2, none⟩ = some (.int .i64 te) ∧ wz.cell? ⟨gx, ox + ix * 4 + 3, none⟩ = some (.slice Am nm cm) ∧ wz.cell? ⟨w.heap.size, 2, none⟩ = some (.slice (some ⟨gx, ox, none⟩) nx cx)) := by
        intro wz hz
        have hb := hz.block gx (Nat.lt_of_lt_of_le hgx hB.size)
        refine ⟨(World.cell?_of_block hb).trans t0w, (World.cell?_of_block hb).trans t1w, (World.cell?_of_block hb).trans t2w, (World.cell?_of_block hb).trans t3w, ?_⟩
        exact (World.cell?_of_block (hz.block w.heap.size hbx.lt)).trans b2
       clear t0w t1w t2w t3w hix2
       go_wp2
       have hwr : w.heap.size < wr.heap.size := hbx.lt
       have hbE : Below wr.heap.size wr (wr.alloc (.cells #[.string ⟨#[]⟩, .int .i64 0, .int .i64 0, .slice none 0 0] 66)).drew := ((Below.refl wr.heap.size wr).alloc (Nat.le_refl _) _).drew
       have Z0 : Blk (wr.alloc (.cells #[.string ⟨#[]⟩, .int .i64 0, .int .i64 0, .slice none 0 0] 66)).drew wr.heap.size 66 #[.string ⟨#[]⟩, .int .i64 0, .int .i64 0, .slice none 0 0] := Blk.new wr _ _
       have hgx2 : gx < wr.heap.size := Nat.lt_of_lt_of_le hgx hB.size
       have hBwr := Below.refl wr.heap.size wr
       go_cut [8, 43] from 43 to 94 (fun v8 iv wc => ∃ p8, v8 = .pointer (some ⟨p8, 0, none⟩) ∧ iv = .int .i64 k ∧ Below w.heap.size w wc ∧ Blk wc w.heap.size 30 #[ha.v, .slice At n ct, .slice (some ⟨gx, ox, none⟩) nx cx, hr.v, hn.v, .slice (some ⟨g, o, none⟩) n c, .slice (some ⟨g2, o2, none⟩) n c2] ∧ gc < wc.heap.size ∧ Blk wc gc 4 (bools ((List.range h.length).map fun i => Cor.cyc h i)).toArray ∧ Blk wc p8 66 #[str tn, .int .i64 tb, .int .i64 te, .slice Am nm cm])
       case first =>
        go_region_law (first
         | (go_simp; refine (HT.out wr.drew hbD).mono ?_; rintro e' w5 ⟨rfl, hb5⟩; rw [HTX.out]; have hb6 := hbD.trans (hb5.mono hbD.size); have hs6 := hb6.size; have hg6 : gx < w5.heap.size := (by omega); have hg7 : w.heap.size < w5.heap.size := (by omega); obtain ⟨y0, y1, y2, y3, y4⟩ := hHX.out w5 hb6; go_simp)
         | (go_simp; refine (HT.out (wr.alloc (.cells #[.string ⟨#[]⟩, .int .i64 0, .int .i64 0, .slice none 0 0] 66)).drew hbE).mono ?_; rintro e' w5 ⟨rfl, hb5⟩; rw [HTX.out]; have hb6 := hbE.trans (hb5.mono hbE.size); have z5 := Blk.below (w := (wr.alloc (.cells #[.string ⟨#[]⟩, .int .i64 0, .int .i64 0, .slice none 0 0] 66)).drew) Z0 hb5; have x0 := z5.cell 0; have x1 := z5.cell 1; have x2 := z5.cell 2; have x3 := z5.cell 3; have x4 := z5.free 0; have x5 := z5.free 1; have x6 := z5.free 2; have x7 := z5.free 3; obtain ⟨y0, y1, y2, y3, y4⟩ := hHX.out w5 hb6; go_simp))
        all_goals
         go_wp2
         go_meet
         case rel =>
          have hX1 := hB.trans (hb6.mono hB.size)
          have hX2 := hbx.below hb6
          have hX3 := hC.below hb6
          have hX4 := hb6.size
          first
          | exact ⟨_, rfl, rfl, hX1.alloc hX1.size _, hX2.alloc _, by rw [World.size_alloc]; omega, hX3.alloc _, Blk.new _ _ _⟩
          | (refine ⟨wr.heap.size, rfl, rfl, ?_, ?_, ?_, ?_, ?_⟩
             ·exact (((hX1.setCell (p := ⟨wr.heap.size, 0, none⟩) hB.size _).setCell (p := ⟨wr.heap.size, 1, none⟩) hB.size _).setCell (p := ⟨wr.heap.size, 2, none⟩) hB.size _).setCell (p := ⟨wr.heap.size, 3, none⟩) hB.size _
             ·exact (((hX2.other (p := ⟨wr.heap.size, 0, none⟩) (by show wr.heap.size ≠ w.heap.size; omega) _).other (p := ⟨wr.heap.size, 1, none⟩) (by show wr.heap.size ≠ w.heap.size; omega) _).other (p := ⟨wr.heap.size, 2, none⟩) (by show wr.heap.size ≠ w.heap.size; omega) _).other (p := ⟨wr.heap.size, 3, none⟩) (by show wr.heap.size ≠ w.heap.size; omega) _
             ·rw [Blk.set_size, Blk.set_size, Blk.set_size, Blk.set_size]; omega
             ·exact (((hX3.other (p := ⟨wr.heap.size, 0, none⟩) (by show wr.heap.size ≠ gc; omega) _).other (p := ⟨wr.heap.size, 1, none⟩) (by show wr.heap.size ≠ gc; omega) _).other (p := ⟨wr.heap.size, 2, none⟩) (by show wr.heap.size ≠ gc; omega) _).other (p := ⟨wr.heap.size, 3, none⟩) (by show wr.heap.size ≠ gc; omega) _
             ·exact (((z5.set_ 0 (str tn)).set_ 1 (.int .i64 tb)).set_ 2 (.int .i64 te)).set_ 3 (.slice Am nm cm))
       case rest =>
        obtain ⟨p8, rfl, rfl, hB7, hbx7, hgl7, hC7, hp7⟩ := hcut
        clear HT hHX Z0 hbE hbD
        have q1 := hp7.cell 1
        have q2 := hp7.cell 2
        have q6 := hbx7.cell 6
        obtain ⟨g2', o2', hk2', e0, hg2', z2', d0'⟩ := (hr'.under hB7).at_ (k := k) hlt
        cases e0
        rw [HS.out] at d0'
        have hCk := hC7.bat (i := k) (by simp; omega)
        simp only [List.getElem_map, List.getElem_range] at hCk
        obtain ⟨cy, hcy2⟩ : ∃ cy, Cor.cyc h k = cy := ⟨_, rfl⟩
        rw [hcy2] at hCk
        have HCY := Lib.hid hcy2
        clear hcy2 z2' d0 c0
        by_cases ex : x = -1
        ·subst ex
         have HF2 := Lib.hid (HF.out.trans (if_neg (fun h => h.1 rfl)))
         by_cases es : s = []
         ·subst es
          have HF4 := Lib.hid (HF2.out.trans (if_neg (fun h => by simp at h)))
          clear HF2
          cases cy with
          | true =>
           have HF8 := Lib.hid (HF4.out.trans (if_pos HCY.out))
           have HF9 : Hid (hdErr n ts h r = (k, 12)) := by show _ = _; rw [HA.out (by rw [HF8.out]; simp), HF8.out]
           clear HF8 HA HF
           go_wp2
           go_ret2
           exact ⟨ret_p HF9.out rfl rfl, hB7⟩
          | false =>
           have HI : Hid (∀ j, j < k + 1 → hdF ts h r j = 0) := upto_step hinv.out (HF4.out.trans (if_neg (by rw [HCY.out]; simp)))
           clear HF4 HA HF hinv
           go_wp2
           go_roundw
           case rel => (first | exact ⟨k + 1, by omega, by go_num, hB7, hbx7, hgl7, hC7, HI⟩ | ((repeat apply Exists.intro); exact ⟨⟨k + 1, by omega, by go_num, hB7, hbx7, hgl7, hC7, HI⟩, rfl⟩))
           case measure => simp [intOf]; omega
         ·have E3 : (s == []) = false := by simpa using es
          have E4 : s.isEmpty = false := by simpa using es
          cases hok2 : okName s with
          | false =>
           have HF8 := Lib.hid (HF2.out.trans (if_pos ⟨E4, hok2⟩))
           have HF9 : Hid (hdErr n ts h r = (k, 4)) := by show _ = _; rw [HA.out (by rw [HF8.out]; simp), HF8.out]
           clear HF2 HF8 HA HF es E4
           go_wp2_with fail
           refine (validName_any s z2 _).mono ?_
           rintro e' w8 ⟨rfl, rfl⟩
           rw [hok2]
           clear hok2
           go_wp2
           go_ret2
           exact ⟨ret_p HF9.out rfl rfl, hB7⟩
          | true =>
           have HF4 := Lib.hid (HF2.out.trans (if_neg (fun h => by rw [hok2] at h; simp at h)))
           clear HF2 es E4
           go_wp2_with fail
           refine (validName_any s z2 _).mono ?_
           rintro e' w8 ⟨rfl, rfl⟩
           rw [hok2]
           clear hok2
           cases cy with
           | true =>
            have HF8 := Lib.hid (HF4.out.trans (if_pos HCY.out))
            have HF9 : Hid (hdErr n ts h r = (k, 12)) := by show _ = _; rw [HA.out (by rw [HF8.out]; simp), HF8.out]
            clear HF8 HA HF
            go_wp2
            go_ret2
            exact ⟨ret_p HF9.out rfl rfl, hB7⟩
           | false =>
            have HI : Hid (∀ j, j < k + 1 → hdF ts h r j = 0) := upto_step hinv.out (HF4.out.trans (if_neg (by rw [HCY.out]; simp)))
            clear HF4 HA HF hinv
            go_wp2
            go_roundw
            case rel => (first | exact ⟨k + 1, by omega, by go_num, hB7, hbx7, hgl7, hC7, HI⟩ | ((repeat apply Exists.intro); exact ⟨⟨k + 1, by omega, by go_num, hB7, hbx7, hgl7, hC7, HI⟩, rfl⟩))
            case measure => simp [intOf]; omega
        ·have E1 := bne_t ex
         by_cases eo : x < tb
         ·have HF8 := Lib.hid (HF.out.trans (if_pos ⟨ex, by rw [HL.out]; exact HOUT.out.2 (.inl eo)⟩))
          clear ex
          have HF9 : Hid (hdErr n ts h r = (k, 8)) := by show _ = _; rw [HA.out (by rw [HF8.out]; simp), HF8.out]
          clear HF8 HA HF
          go_wp2
          go_ret2
          exact ⟨ret_p HF9.out rfl rfl, hB7⟩
         ·by_cases eo2 : te ≤ x
          ·have HF8 := Lib.hid (HF.out.trans (if_pos ⟨ex, by rw [HL.out]; exact HOUT.out.2 (.inr eo2)⟩))
           clear ex
           have HF9 : Hid (hdErr n ts h r = (k, 8)) := by show _ = _; rw [HA.out (by rw [HF8.out]; simp), HF8.out]
           clear HF8 HA HF
           go_wp2
           go_ret2
           exact ⟨ret_p HF9.out rfl rfl, hB7⟩
          ·have HF2 := Lib.hid (HF.out.trans (if_neg (fun h => by
            have h2 := h.2
            rw [HL.out] at h2
            rcases HOUT.out.1 h2 with h3 | h3
            ·exact eo h3
            ·exact eo2 h3)))
           clear ex
           by_cases es : s = []
           ·subst es
            have HF4 := Lib.hid (HF2.out.trans (if_neg (fun h => by simp at h)))
            clear HF2
            cases cy with
            | true =>
             have HF8 := Lib.hid (HF4.out.trans (if_pos HCY.out))
             have HF9 : Hid (hdErr n ts h r = (k, 12)) := by show _ = _; rw [HA.out (by rw [HF8.out]; simp), HF8.out]
             clear HF8 HA HF
             go_wp2
             go_ret2
             exact ⟨ret_p HF9.out rfl rfl, hB7⟩
            | false =>
             have HI : Hid (∀ j, j < k + 1 → hdF ts h r j = 0) := upto_step hinv.out (HF4.out.trans (if_neg (by rw [HCY.out]; simp)))
             clear HF4 HA HF hinv
             go_wp2
             go_roundw
             case rel => (first | exact ⟨k + 1, by omega, by go_num, hB7, hbx7, hgl7, hC7, HI⟩ | ((repeat apply Exists.intro); exact ⟨⟨k + 1, by omega, by go_num, hB7, hbx7, hgl7, hC7, HI⟩, rfl⟩))
             case measure => simp [intOf]; omega
           ·have E3 : (s == []) = false := by simpa using es
            have E4 : s.isEmpty = false := by simpa using es
            cases hok2 : okName s with
            | false =>
             have HF8 := Lib.hid (HF2.out.trans (if_pos ⟨E4, hok2⟩))
             have HF9 : Hid (hdErr n ts h r = (k, 4)) := by show _ = _; rw [HA.out (by rw [HF8.out]; simp), HF8.out]
             clear HF2 HF8 HA HF es E4
             go_wp2_with fail
             refine (validName_any s z2 _).mono ?_
             rintro e' w8 ⟨rfl, rfl⟩
             rw [hok2]
             clear hok2
             go_wp2
             go_ret2
             exact ⟨ret_p HF9.out rfl rfl, hB7⟩
            | true =>
             have HF4 := Lib.hid (HF2.out.trans (if_neg (fun h => by rw [hok2] at h; simp at h)))
             clear HF2 es E4
             go_wp2_with fail
             refine (validName_any s z2 _).mono ?_
             rintro e' w8 ⟨rfl, rfl⟩
             rw [hok2]
             clear hok2
             cases cy with
             | true =>
              have HF8 := Lib.hid (HF4.out.trans (if_pos HCY.out))
              have HF9 : Hid (hdErr n ts h r = (k, 12)) := by show _ = _; rw [HA.out (by rw [HF8.out]; simp), HF8.out]
              clear HF8 HA HF
              go_wp2
              go_ret2
              exact ⟨ret_p HF9.out rfl rfl, hB7⟩
             | false =>
              have HI : Hid (∀ j, j < k + 1 → hdF ts h r j = 0) := upto_step hinv.out (HF4.out.trans (if_neg (by rw [HCY.out]; simp)))
              clear HF4 HA HF hinv
              go_wp2
              go_roundw
              case rel => (first | exact ⟨k + 1, by omega, by go_num, hB7, hbx7, hgl7, hC7, HI⟩ | ((repeat apply Exists.intro); exact ⟨⟨k + 1, by omega, by go_num, hB7, hbx7, hgl7, hC7, HI⟩, rfl⟩))
              case measure => simp [intOf]; omega
      ·have HF : Hid (hdErr n ts h r = (0, 0)) := hdErr_zero H1.out H2.out (fun j hj => hinv.out j (by omega))
       clear hinv
       go_wp2
       go_ret2
       exact ⟨ret_p HF.out rfl rfl, hB⟩
   ·have HF : Hid (hdErr nt ts h r = (0, 15)) := by
     have h1 : h.length = n := HL.out
     show _ = _
     unfold hdErr
     rw [if_pos (.inr (by omega))]
    have E1 : decide (0 < n) = true := by simp; omega
    have i2 : 0 < n := by omega
    have E2 : ((n : Int) != (nt : Int)) = true := by rw [bne_iff_ne]; omega
    go_enter Tryz.func93, Tryz.ntmps93
    go_wp2
    go_ret2
    exact ⟨ret_p HF.out rfl rfl, hB0⟩
 ·have HF : Hid (hdErr nt ts h r = (0, 15)) := by
   have h1 : h.length = n := HL.out
   have h2 : r.length = n2 := HR.out
   show _ = _
   unfold hdErr
   rw [if_pos (.inl (by omega))]
  have E : ((n : Int) != (n2 : Int)) = true := by rw [bne_iff_ne]; omega
  go_enter Tryz.func93, Tryz.ntmps93
  go_wp2
  go_ret2
  exact ⟨ret_p HF.out rfl rfl, hB0⟩
end Go.Proofs.YtgkdaebiefhgdaaGreatDoor
