/-
 Several texts of this seat, one behind the other: CorNodW, CorCycW. No conditions but those of each.
-/
import Derived.Test.YtgkdaebiefhgdaaGreatDoorPCorAtx
import Derived.Test.YtgkdaebiefhgdaaGreatDoorPCorPl
import Derived.Deep.LoopGhost
namespace Go.Proofs.YtgkdaebiefhgdaaGreatDoor
open Go.RowKit Utf
open Feat (Bs)
open Tagp (KV okName)
open Cor (ndF ndErr anc par ParOk dp lastE within sibE Nod)
theorem Blk.drewN {w : World} {g : Nat} {t : TypeId} {cs : Array Value} (h : Blk w g t cs) (q : Nat) : Blk (w.drewN q) g t cs := h
theorem Blk.ival {w : World} {g : Nat} {t : TypeId} {l : List Int} (h : Blk w g t (ints l).toArray) {i : Nat} {v : Int} (hi : l[i]? = some v) : w.cell? ⟨g, i, none⟩ = some (.int .i64 v) :=
 (h.cell i).trans (by simp [ints, hi])
theorem made_ints (n : Nat) (hn : n ≤ 1048576) (W : World) :
  (Instr.makeSlice 27 (.int .i64 (n : Int)) (.int .i64 (n : Int))).run Tryz.prog W = .ok (.slice (some ⟨W.heap.size, 0, none⟩) n n) (W.alloc (.cells (ints (List.replicate n 0)).toArray 3)) := by
 obtain ⟨i0, hi0, hz0, hz1, hz2⟩ := info_parts info_int
 have hr := run_make (P := Tryz.prog) W 27 3 i0 _ Tryz.underlying27 hi0 hz0 .i64 .i64 n n (by omega) (Int.le_refl _) (by rw [hz2]; omega) (by omega)
 rw [hr, hz1]
 simp only [Int.toNat_natCast, Nat.mul_one]
 have : madeCells (Value.cells (.int .i64 0)) n = (ints (List.replicate n 0)).toArray := by
  rw [ints_replicate]
  have e := toList_madeCells_one (.int .i64 0) n
  show madeCells #[.int .i64 0] n = (List.replicate n (Value.int .i64 0)).toArray
  rw [← e]
 rw [this]

set_option maxRecDepth 100000 in
theorem isAncestor_any (A : Option Addr) (n c : Nat) (l : List Nod) (p : Int) (k : Nat) (w : World) (hx : Nods w w.heap.size ⟨A, n, c⟩ l) (hk : k ≤ n) (ho : ParOk l k) (m : Int) (hm : m = (k : Int) - 1) :
  Calls Tryz.prog 133 #[.slice A n c, .int .i64 p, .int .i64 m] w (SameW (.bool (anc l p k m)) w) := by
 subst hm
 have HL := Lib.hid hx.len
 have HO := Lib.hid ho
 have f1 : n ≤ 9223372036854775807 := hx.1.2
 clear ho
 go_enter Tryz.func133, Tryz.ntmps133
 go_wp2
 go_loop [2] (fun iv => ∃ (q : Int) (f : Nat), -1 ≤ q ∧ q < k ∧ q + 1 ≤ f ∧ iv = .int .i64 q ∧ Hid (anc l p k ((k : Int) - 1) = anc l p f q)) (fun iv => (intOf iv + 1).toNat)
 case atStart => exact ⟨(k : Int) - 1, k, by omega, by omega, by omega, rfl, rfl⟩
 case round =>
  obtain ⟨q, f, hq1, hq2, hf, rfl, hinv⟩ := hrel
  by_cases h0 : 0 ≤ q
  ·obtain ⟨j, rfl⟩ : ∃ j : Nat, q = j := ⟨q.toNat, by omega⟩
   by_cases hp : (j : Int) = p
   ·subst hp
    have HF := Lib.hid (hinv.out.trans ((Cor.anc_end f (.inr rfl)).trans (by simp : ((j : Int) == (j : Int)) = true)))
    clear hinv
    go_wp2
    go_ret
    exact ⟨ret_bool HF.out.symm, rfl⟩
   ·obtain ⟨f', rfl⟩ : ∃ f', f = f' + 1 := ⟨f - 1, by omega⟩
    obtain ⟨g, o, hj', e0, hg, _, c0, c1, c2, c3⟩ := hx.at_ (k := j) (show j < n by omega)
    have e0 : A = some ⟨g, o, none⟩ := e0
    subst e0
    have hb := HO.out j (by omega) hj'
    have HI : Hid (anc l p k ((k : Int) - 1) = anc l p f' l[j].p) := by show _ = _; rw [hinv.out, Cor.anc_step f' (by omega) hp, Cor.par_at hj']
    have E := bne_t hp
    obtain ⟨z, hz⟩ : ∃ z, l[j].p = z := ⟨_, rfl⟩
    rw [hz] at hb c3 HI
    clear hinv hz hp
    go_wp2
    go_round
    case rel => exact ⟨z, f', by omega, by omega, by omega, rfl, HI⟩
    case measure => simp [intOf]; omega
  ·obtain rfl : q = -1 := by omega
   have HF := Lib.hid (hinv.out.trans (Cor.anc_end f (.inl (by omega))))
   clear hinv
   go_wp2
   go_ret
   exact ⟨ret_bool HF.out.symm, rfl⟩

set_option maxRecDepth 100000 in
set_option maxHeartbeats 8000000 in
theorem nodes_any (H : CH) (ts : List Cor.Txt) (l : List Nod) (w : World) (hts : Txts w w.heap.size H.x ts) (hrow : Row_ ts) (hpos : ∀ t ∈ ts, 0 ≤ t.b) (hx : Nods w w.heap.size H.n l) :
  Calls Tryz.prog 92 #[H.v] w (Kept (.tuple #[.int .i64 ((ndErr ts l).1 : Nat), .int .i64 ((ndErr ts l).2 : Nat)]) w) := by
 obtain ⟨ha, htt, hX, hr, ⟨A, n, c⟩, hh, hl⟩ := H
 show Calls Tryz.prog 92 #[.agg #[ha.v, htt.v, hX.v, hr.v, .slice A n c, hh.v, hl.v]] w _
 have HL := Lib.hid hx.len
 have HROW := Lib.hid hrow
 have HPOS := Lib.hid hpos
 clear hrow hpos
 have f1 : n ≤ 9223372036854775807 := hx.1.2
 have f2 : n ≤ c := hx.1.1
 have hB0 := (Below.refl w.heap.size w).alloc (Nat.le_refl _) (.cells #[ha.v, htt.v, hX.v, hr.v, .slice A n c, hh.v, hl.v] 30)
 have hb0 := Blk.new w 30 #[ha.v, htt.v, hX.v, hr.v, .slice A n c, hh.v, hl.v]
 by_cases h8 : 2048 < n
 ·have HF : Hid (ndErr ts l = (0, 2)) := by show _ = _; unfold ndErr; rw [if_pos (by have : l.length = n := HL.out; omega)]
  go_enter Tryz.func92, Tryz.ntmps92
  go_wp2
  go_ret2
  exact ⟨ret_p HF.out rfl rfl, hB0⟩
 have hmk := made_ints (n + 1) (by omega)
 rw [show ((n + 1 : Nat) : Int) = (n : Int) + 1 by omega] at hmk
 have hE0 := Blk.new (w.alloc (.cells #[ha.v, htt.v, hX.v, hr.v, .slice A n c, hh.v, hl.v] 30)) 3 (ints (List.replicate (n + 1) 0)).toArray
 have hD0 := Blk.new ((w.alloc (.cells #[ha.v, htt.v, hX.v, hr.v, .slice A n c, hh.v, hl.v] 30)).alloc (.cells (ints (List.replicate (n + 1) 0)).toArray 3)) 3 (ints (List.replicate (n + 1) 0)).toArray
 have hE1 := hE0.alloc (.cells (ints (List.replicate (n + 1) 0)).toArray 3)
 have hb1 := (hb0.alloc (.cells (ints (List.replicate (n + 1) 0)).toArray 3)).alloc (.cells (ints (List.replicate (n + 1) 0)).toArray 3)
 have hB1 := (hB0.alloc hB0.size (.cells (ints (List.replicate (n + 1) 0)).toArray 3)).alloc (hB0.alloc hB0.size (.cells (ints (List.replicate (n + 1) 0)).toArray 3)).size (.cells (ints (List.replicate (n + 1) 0)).toArray 3)
 rw [World.size_alloc] at hE1
 rw [World.size_alloc, World.size_alloc] at hD0
 clear hE0
 go_enter Tryz.func92, Tryz.ntmps92
 go_wp2
 clear hmk
 go_loopw [26] (fun iv wr => ∃ (k : Nat) (E D : List Int), k ≤ n ∧ iv = .int .i64 k ∧ Below w.heap.size w wr ∧ Blk wr w.heap.size 30 #[ha.v, htt.v, hX.v, hr.v, .slice A n c, hh.v, hl.v] ∧ Blk wr (w.heap.size + 1) 3 (ints E).toArray ∧ Blk wr (w.heap.size + 1 + 1) 3 (ints D).toArray ∧ E.length = n + 1 ∧ D.length = n + 1 ∧
  Hid (∀ q, q ≤ n → E[q]? = some (lastE l k ((q : Int) - 1))) ∧ Hid (∀ q, q ≤ k → D[q]? = some (dp l ((q : Int) - 1) : Int)) ∧ Hid (∀ j, j < k → ndF ts l j = 0)) (fun iv _ => n - (intOf iv).toNat)
 case atStart =>
  refine ⟨0, List.replicate (n + 1) 0, List.replicate (n + 1) 0, by omega, rfl, hB1, hb1, hE1, hD0, by simp, by simp, fun q hq => ?_, fun q hq => ?_, fun j hj => by omega⟩
  ·rw [Cor.lastE_zero, List.getElem?_replicate, if_pos (by omega)]
  ·rw [List.getElem?_replicate, if_pos (by omega), Cor.dp_neg (by omega)]; rfl
 case round =>
  obtain ⟨k, E, D, hk, rfl, hB, hbx, hE, hD, hEl, hDl, hEv, hDv, hinv⟩ := hrel
  by_cases hlt : k < n
  ·obtain ⟨g, o, hk', e0, hg, hok', c0w, c1w, c2w, c3w⟩ := hx.at_ hlt
   have e0 : A = some ⟨g, o, none⟩ := e0
   subst e0
   have c0 := (World.cell?_of_block (a := ⟨g, o + k * 4, none⟩) (hB.block g hg)).trans c0w
   have c1 := (World.cell?_of_block (a := ⟨g, o + k * 4 + 1, none⟩) (hB.block g hg)).trans c1w
   have c2 := (World.cell?_of_block (a := ⟨g, o + k * 4 + 2, none⟩) (hB.block g hg)).trans c2w
   have c3 := (World.cell?_of_block (a := ⟨g, o + k * 4 + 3, none⟩) (hB.block g hg)).trans c3w
   clear c0w c1w c2w c3w
   have HF := Lib.hid (Cor.ndF_at (ts := ts) hk')
   have HA := Lib.hid (fun h => Cor.ndErr_at (ts := ts) (l := l) (k := k) (by have : l.length = n := HL.out; omega) hk' hinv.out h)
   have HOK0 := Lib.hid (Cor.parOk_of (by omega) hinv.out)
   have z0 : l[k].lb.length ≤ 9223372036854775807 := hok'.1
   have r1 : Rng l[k].b := hok'.2.1
   have r2 : Rng l[k].e := hok'.2.2.1
   have r3 : Rng l[k].p := hok'.2.2.2
   clear hok'
   obtain ⟨⟨x, b, e, p⟩, hx'⟩ : ∃ p, l[k] = p := ⟨_, rfl⟩
   rw [hx'] at HF c0 c1 c2 c3 z0 r1 r2 r3
   have HX := Lib.hid hx'
   clear hx'
   have hBa := hB.alloc hB.size (.cells #[str x, .int .i64 b, .int .i64 e, .int .i64 p] 71)
   have hpa := Blk.new wr 71 #[str x, .int .i64 b, .int .i64 e, .int .i64 p]
   have hbxa := hbx.alloc (.cells #[str x, .int .i64 b, .int .i64 e, .int .i64 p] 71)
   have hEa := hE.alloc (.cells #[str x, .int .i64 b, .int .i64 e, .int .i64 p] 71)
   have hDa := hD.alloc (.cells #[str x, .int .i64 b, .int .i64 e, .int .i64 p] 71)
   have b00 := hbxa.cell 0
   have b01 := hbxa.cell 1
   have b02 := hbxa.cell 2
   have b03 := hbxa.cell 3
   have b04 := hbxa.cell 4
   have b05 := hbxa.cell 5
   have b06 := hbxa.cell 6
   have HT := Lib.hid (inText_any ⟨ha, htt, hX, hr, ⟨some ⟨g, o, none⟩, n, c⟩, hh, hl⟩ ts b e (wr.alloc (.cells #[str x, .int .i64 b, .int .i64 e, .int .i64 p] 71)) ((hts.under hBa).up hBa.size) HROW.out)
   go_wp2_with fail
   refine (validName_any x z0 _).mono ?_
   rintro e' w1 ⟨rfl, rfl⟩
   cases hok : okName x with
   | false =>
    have HF2 := Lib.hid (HF.out.trans (if_pos hok))
    have HF3 : Hid (ndErr ts l = (k, 4)) := by show _ = _; rw [HA.out (by rw [HF2.out]; simp), HF2.out]
    clear hok HF HA HF2 HT
    go_wp2
    go_ret2
    exact ⟨ret_p HF3.out rfl rfl, hBa⟩
   | true =>
    have HF2 := Lib.hid (HF.out.trans (if_neg (by rw [hok]; simp)))
    clear hok HF
    go_wp2_with fail
    refine HT.out.mono ?_
    rintro e' w2 ⟨rfl, hb2⟩
    clear HT b00 b01 b02 b03 b04 b05 b06
    have hB2 := hBa.trans (hb2.mono hBa.size)
    have hbx2 := hbxa.below hb2
    have hp2 := hpa.below hb2
    have hE2 := hEa.below hb2
    have hD2 := hDa.below hb2
    clear hpa hbxa hEa hDa
    cases hwi : within ts b e with
    | false =>
     have HF3 := Lib.hid (HF2.out.trans (if_pos hwi))
     have HF4 : Hid (ndErr ts l = (k, 8)) := by show _ = _; rw [HA.out (by rw [HF3.out]; simp), HF3.out]
     clear HF2 HF3 HA hwi
     go_wp2
     go_ret2
     exact ⟨ret_p HF4.out rfl rfl, hB2⟩
    | true =>
     have hb0 := Cor.within_pos HPOS.out hwi
     have HF3 := Lib.hid (HF2.out.trans (if_neg (by rw [hwi]; simp)))
     clear hwi HF2
     have p0 := hp2.cell 0
     have p1 := hp2.cell 1
     have p2 := hp2.cell 2
     have p3 := hp2.cell 3
     have q4 := hbx2.cell 4
     have HIA := Lib.hid (isAncestor_any (some ⟨g, o, none⟩) n c l p k w2 ((hx.under hB2).up hB2.size) hk HOK0.out ((k : Int) - 1) rfl)
     go_wp2_with fail
     refine HIA.out.mono ?_
     rintro e' w3 ⟨rfl, rfl⟩
     clear HIA
     cases han : anc l p k ((k : Int) - 1) with
     | false =>
      have HF4 := Lib.hid (HF3.out.trans (if_pos han))
      have HF5 : Hid (ndErr ts l = (k, 6)) := by show _ = _; rw [HA.out (by rw [HF4.out]; simp), HF4.out]
      clear HF3 HF4 HA han
      go_wp2
      go_ret2
      exact ⟨ret_p HF5.out rfl rfl, hB2⟩
     | true =>
      have HF4 := Lib.hid (HF3.out.trans (if_neg (by rw [han]; simp)))
      have HOK := Lib.hid (Cor.parOk_step HOK0.out hk' (by rw [HX.out]; exact han))
      have hpb := HOK.out k (by omega) hk'
      rw [HX.out] at hpb
      have hpb1 : -1 ≤ p := hpb.1
      have hpb2 : p < k := hpb.2
      clear hpb han HF3 HOK0
      by_cases hp0 : 0 ≤ p
      ·obtain ⟨j, rfl⟩ : ∃ j : Nat, p = j := ⟨p.toNat, by omega⟩
       obtain ⟨g3, o3, hj', e3, hg3, hz3, d0, d1, d2, d3⟩ := (hx.under hB2).at_ (k := j) (show j < n by omega)
       cases e3
       clear hz3
       have hd40 : dp l (j : Nat) ≤ 40 := by rw [← Cor.dep_dp]; exact (Cor.ndF_ok hj' (hinv.out j (by omega))).2.2.2.2.2
       have HPJ : Hid (l[((j : Nat) : Int).toNat]? = some l[j]) := by show _ = _; rw [Int.toNat_natCast, List.getElem?_eq_getElem hj']
       obtain ⟨⟨y, yb, ye, yp⟩, hy'⟩ : ∃ p, l[j] = p := ⟨_, rfl⟩
       rw [hy'] at HPJ d0 d1 d2 d3
       clear hy'
       have hB3 := hB2.alloc hB2.size (.cells #[str y, .int .i64 yb, .int .i64 ye, .int .i64 yp] 71)
       have hbx3 := hbx2.alloc (.cells #[str y, .int .i64 yb, .int .i64 ye, .int .i64 yp] 71)
       have hp3 := hp2.alloc (.cells #[str y, .int .i64 yb, .int .i64 ye, .int .i64 yp] 71)
       have hE3 := hE2.alloc (.cells #[str y, .int .i64 yb, .int .i64 ye, .int .i64 yp] 71)
       have hD3 := hD2.alloc (.cells #[str y, .int .i64 yb, .int .i64 ye, .int .i64 yp] 71)
       have t0 := hp3.cell 0
       have t1 := hp3.cell 1
       have t2 := hp3.cell 2
       have t3 := hp3.cell 3
       by_cases hyb : b < yb
       ·have HF5 : Hid (ndErr ts l = (k, 8)) := by
         have hf := HF4.out.trans (if_pos ⟨hp0, by show (l[((j : Nat) : Int).toNat]?).any _ = true; rw [HPJ.out]; simp [hyb]⟩)
         show _ = _
         rw [HA.out (by rw [hf]; simp), hf]
        clear HF4 HA HPJ
        go_wp2
        go_ret2
        exact ⟨ret_p HF5.out rfl rfl, hB3⟩
       ·by_cases hye : ye < e
        ·have HF5 : Hid (ndErr ts l = (k, 8)) := by
          have hf := HF4.out.trans (if_pos ⟨hp0, by show (l[((j : Nat) : Int).toNat]?).any _ = true; rw [HPJ.out]; simp [hye]⟩)
          show _ = _
          rw [HA.out (by rw [hf]; simp), hf]
         clear HF4 HA HPJ
         go_wp2
         go_ret2
         exact ⟨ret_p HF5.out rfl rfl, hB3⟩
        ·have HF5 := Lib.hid (HF4.out.trans (if_neg (fun h => by
          have h2 : (l[((j : Nat) : Int).toNat]?).any (fun q => decide (b < q.b) || decide (q.e < e)) = true := h.2
          rw [HPJ.out] at h2
          simp [hyb, hye] at h2)))
         clear HF4 HPJ
         have cE := hE3.ival (hEv.out (j + 1) (by omega))
         have cD := hD3.ival (hDv.out (j + 1) (by omega))
         have fE := hE3.free (j + 1)
         have fD := hD3.free (k + 1)
         have eP : (((j + 1) : Nat) : Int) - 1 = ((j : Nat) : Int) := by omega
         rw [eP] at cE cD
         have HEP := Lib.hid eP
         clear eP
         obtain ⟨le, hle⟩ : ∃ le, lastE l k ((j : Nat) : Int) = le := ⟨_, rfl⟩
         rw [hle] at cE
         have HLE := Lib.hid hle
         obtain ⟨d, hd⟩ : ∃ d, dp l ((j : Nat) : Int) = d := ⟨_, rfl⟩
         rw [hd] at cD hd40
         have HD := Lib.hid hd
         clear hle hd
         by_cases hbl : b < le
         ·have HF6 : Hid (ndErr ts l = (k, 8)) := by
           have hf := HF5.out.trans (if_pos (by rw [Cor.lastE_any hb0, HLE.out]; simpa using hbl))
           show _ = _
           rw [HA.out (by rw [hf]; simp), hf]
          clear HF5 HA HLE HD
          go_wp2
          go_quiet (fail)
          go_wp2
          go_ret2
          exact ⟨ret_p HF6.out rfl rfl, by (repeat refine below_drewN ?_ _); exact hB3⟩
         ·have HF6 := Lib.hid (HF5.out.trans (if_neg (by rw [Cor.lastE_any hb0, HLE.out]; simpa using hbl)))
          have HDK : Hid (Cor.dep l (k + 1) k = d + 1) := by
           have h := Cor.dp_at HOK.out hk'
           rw [HX.out] at h
           show _ = _
           rw [Cor.dep_dp, h, ← HD.out]
          clear HF5
          have hE4 := hE3.seti (j + 1) e
          have hD4 := hD3.seti (k + 1) ((d : Int) + 1)
          have lE : E.length = n + 1 := hEl
          have lD : D.length = n + 1 := hDl
          have HEN : Hid (∀ q, q ≤ n → (E.set (j + 1) e)[q]? = some (lastE l (k + 1) ((q : Int) - 1))) := by
           intro q hq
           rw [Cor.lastE_succ hk', HX.out]
           by_cases eq : q = (j + 1)
           ·subst eq
            rw [List.getElem?_set_self (by omega), if_pos (by show ((j : Nat) : Int) = _; exact HEP.out.symm)]
           ·rw [List.getElem?_set_ne (by omega), hEv.out q hq, if_neg (by show ¬ ((j : Nat) : Int) = _; have := HEP.out; omega)]
          have HDN : Hid (∀ q, q ≤ k + 1 → (D.set (k + 1) ((d : Int) + 1))[q]? = some (dp l ((q : Int) - 1) : Int)) := by
           intro q hq
           by_cases eq : q = k + 1
           ·subst eq
            have h := Cor.dp_at HOK.out hk'
            rw [HX.out] at h
            rw [List.getElem?_set_self (by omega), show (((k + 1 : Nat) : Int) - 1) = (k : Int) by omega, h]
            show some ((d : Int) + 1) = some ((dp l ((j : Nat) : Int) + 1 : Nat) : Int)
            rw [HD.out]; simp
           ·rw [List.getElem?_set_ne (by omega), hDv.out q (by omega)]
          clear hEv hDv
          have cD1 := hD3.iat (i := k + 1) (by omega)
          obtain ⟨v1, hv1⟩ : ∃ v1, D[k + 1]'(by omega) = v1 := ⟨_, rfl⟩
          rw [hv1] at cD1
          clear hv1
          have hsz := hD.lt
          have n1 : wr.heap.size ≠ w.heap.size + 1 := by omega
          have n2 : wr.heap.size ≠ w.heap.size + 1 + 1 := by omega
          have n3 : w.heap.size + 1 ≠ wr.heap.size := by omega
          have n4 : w.heap.size + 1 + 1 ≠ wr.heap.size := by omega
          by_cases h40 : 40 < d + 1
          ·have HF7 : Hid (ndErr ts l = (k, 2)) := by
            have hf := HF6.out.trans (if_pos (by rw [HDK.out]; exact h40))
            show _ = _
            rw [HA.out (by rw [hf]; simp), hf]
           have h41 : (40 : Int) < (d : Int) + 1 := by omega
           clear HF6 HA HDK HEN HDN HEP HLE HD HX HOK
           go_wp2
           go_quiet (fail)
           go_wp2
           go_ret2
           exact ⟨ret_p HF7.out rfl rfl, ((below_drewN hB3 _).setCell (p := ⟨w.heap.size + 1, _, none⟩) (by show w.heap.size ≤ w.heap.size + 1; omega) _).setCell (p := ⟨w.heap.size + 1 + 1, _, none⟩) (by show w.heap.size ≤ w.heap.size + 1 + 1; omega) _⟩
          ·have h41 : ¬ (40 : Int) < (d : Int) + 1 := by omega
           have HI : Hid (∀ j, j < k + 1 → ndF ts l j = 0) := upto_step hinv.out (HF6.out.trans (if_neg (by rw [HDK.out]; exact h40)))
           clear HF6 HA HDK HEP HLE HD HX HOK
           go_wp2
           go_quiet (fail)
           go_wp2
           go_roundw
           case rel =>
            exact ⟨k + 1, E.set (j + 1) e, D.set (k + 1) ((d : Int) + 1), by omega, by go_num, ((below_drewN hB3 _).setCell (p := ⟨w.heap.size + 1, (j + 1), none⟩) (by show w.heap.size ≤ w.heap.size + 1; omega) _).setCell (p := ⟨w.heap.size + 1 + 1, k + 1, none⟩) (by show w.heap.size ≤ w.heap.size + 1 + 1; omega) _,
             ((hbx3.drewN _).other (p := ⟨w.heap.size + 1, (j + 1), none⟩) (by show w.heap.size + 1 ≠ w.heap.size; omega) _).other (p := ⟨w.heap.size + 1 + 1, k + 1, none⟩) (by show w.heap.size + 1 + 1 ≠ w.heap.size; omega) _,
             ((hE3.drewN _).seti (j + 1) e).other (p := ⟨w.heap.size + 1 + 1, k + 1, none⟩) (by show w.heap.size + 1 + 1 ≠ w.heap.size + 1; omega) _,
             ((hD3.drewN _).other (p := ⟨w.heap.size + 1, (j + 1), none⟩) (by show w.heap.size + 1 ≠ w.heap.size + 1 + 1; omega) _).seti (k + 1) _, by simp [lE], by simp [lD], HEN, HDN, HI⟩
           case measure => simp [intOf]; omega
      ·obtain rfl : p = -1 := by omega
       have HF5 := Lib.hid (HF4.out.trans (if_neg (fun h => hp0 h.1)))
       have hB3 := hB2
       have hbx3 := hbx2
       have hE3 := hE2
       have hD3 := hD2
       have hd40 : dp l (-1) ≤ 40 := by rw [Cor.dp_neg (by omega)]; omega
       clear HF4 hp0
       have cE := hE3.ival (hEv.out 0 (by omega))
       have cD := hD3.ival (hDv.out 0 (by omega))
       have fE := hE3.free 0
       have fD := hD3.free (k + 1)
       have eP : ((0 : Nat) : Int) - 1 = (-1 : Int) := by omega
       rw [eP] at cE cD
       have HEP := Lib.hid eP
       clear eP
       obtain ⟨le, hle⟩ : ∃ le, lastE l k (-1 : Int) = le := ⟨_, rfl⟩
       rw [hle] at cE
       have HLE := Lib.hid hle
       obtain ⟨d, hd⟩ : ∃ d, dp l (-1 : Int) = d := ⟨_, rfl⟩
       rw [hd] at cD hd40
       have HD := Lib.hid hd
       clear hle hd
       by_cases hbl : b < le
       ·have HF6 : Hid (ndErr ts l = (k, 8)) := by
         have hf := HF5.out.trans (if_pos (by rw [Cor.lastE_any hb0, HLE.out]; simpa using hbl))
         show _ = _
         rw [HA.out (by rw [hf]; simp), hf]
        clear HF5 HA HLE HD
        go_wp2
        go_quiet (fail)
        go_wp2
        go_ret2
        exact ⟨ret_p HF6.out rfl rfl, by (repeat refine below_drewN ?_ _); exact hB3⟩
       ·have HF6 := Lib.hid (HF5.out.trans (if_neg (by rw [Cor.lastE_any hb0, HLE.out]; simpa using hbl)))
        have HDK : Hid (Cor.dep l (k + 1) k = d + 1) := by
         have h := Cor.dp_at HOK.out hk'
         rw [HX.out] at h
         show _ = _
         rw [Cor.dep_dp, h, ← HD.out]
        clear HF5
        have hE4 := hE3.seti 0 e
        have hD4 := hD3.seti (k + 1) ((d : Int) + 1)
        have lE : E.length = n + 1 := hEl
        have lD : D.length = n + 1 := hDl
        have HEN : Hid (∀ q, q ≤ n → (E.set 0 e)[q]? = some (lastE l (k + 1) ((q : Int) - 1))) := by
         intro q hq
         rw [Cor.lastE_succ hk', HX.out]
         by_cases eq : q = 0
         ·subst eq
          rw [List.getElem?_set_self (by omega), if_pos (by show (-1 : Int) = _; exact HEP.out.symm)]
         ·rw [List.getElem?_set_ne (by omega), hEv.out q hq, if_neg (by show ¬ (-1 : Int) = _; have := HEP.out; omega)]
        have HDN : Hid (∀ q, q ≤ k + 1 → (D.set (k + 1) ((d : Int) + 1))[q]? = some (dp l ((q : Int) - 1) : Int)) := by
         intro q hq
         by_cases eq : q = k + 1
         ·subst eq
          have h := Cor.dp_at HOK.out hk'
          rw [HX.out] at h
          rw [List.getElem?_set_self (by omega), show (((k + 1 : Nat) : Int) - 1) = (k : Int) by omega, h]
          show some ((d : Int) + 1) = some ((dp l (-1 : Int) + 1 : Nat) : Int)
          rw [HD.out]; simp
         ·rw [List.getElem?_set_ne (by omega), hDv.out q (by omega)]
        clear hEv hDv
        have cD1 := hD3.iat (i := k + 1) (by omega)
        obtain ⟨v1, hv1⟩ : ∃ v1, D[k + 1]'(by omega) = v1 := ⟨_, rfl⟩
        rw [hv1] at cD1
        clear hv1
        have hsz := hD.lt
        have n1 : wr.heap.size ≠ w.heap.size + 1 := by omega
        have n2 : wr.heap.size ≠ w.heap.size + 1 + 1 := by omega
        have n3 : w.heap.size + 1 ≠ wr.heap.size := by omega
        have n4 : w.heap.size + 1 + 1 ≠ wr.heap.size := by omega
        by_cases h40 : 40 < d + 1
        ·have HF7 : Hid (ndErr ts l = (k, 2)) := by
          have hf := HF6.out.trans (if_pos (by rw [HDK.out]; exact h40))
          show _ = _
          rw [HA.out (by rw [hf]; simp), hf]
         have h41 : (40 : Int) < (d : Int) + 1 := by omega
         clear HF6 HA HDK HEN HDN HEP HLE HD HX HOK
         go_wp2
         go_quiet (fail)
         go_wp2
         go_ret2
         exact ⟨ret_p HF7.out rfl rfl, ((below_drewN hB3 _).setCell (p := ⟨w.heap.size + 1, _, none⟩) (by show w.heap.size ≤ w.heap.size + 1; omega) _).setCell (p := ⟨w.heap.size + 1 + 1, _, none⟩) (by show w.heap.size ≤ w.heap.size + 1 + 1; omega) _⟩
        ·have h41 : ¬ (40 : Int) < (d : Int) + 1 := by omega
         have HI : Hid (∀ j, j < k + 1 → ndF ts l j = 0) := upto_step hinv.out (HF6.out.trans (if_neg (by rw [HDK.out]; exact h40)))
         clear HF6 HA HDK HEP HLE HD HX HOK
         go_wp2
         go_quiet (fail)
         go_wp2
         go_roundw
         case rel =>
          exact ⟨k + 1, E.set 0 e, D.set (k + 1) ((d : Int) + 1), by omega, by go_num, ((below_drewN hB3 _).setCell (p := ⟨w.heap.size + 1, 0, none⟩) (by show w.heap.size ≤ w.heap.size + 1; omega) _).setCell (p := ⟨w.heap.size + 1 + 1, k + 1, none⟩) (by show w.heap.size ≤ w.heap.size + 1 + 1; omega) _,
           ((hbx3.drewN _).other (p := ⟨w.heap.size + 1, 0, none⟩) (by show w.heap.size + 1 ≠ w.heap.size; omega) _).other (p := ⟨w.heap.size + 1 + 1, k + 1, none⟩) (by show w.heap.size + 1 + 1 ≠ w.heap.size; omega) _,
           ((hE3.drewN _).seti 0 e).other (p := ⟨w.heap.size + 1 + 1, k + 1, none⟩) (by show w.heap.size + 1 + 1 ≠ w.heap.size + 1; omega) _,
           ((hD3.drewN _).other (p := ⟨w.heap.size + 1, 0, none⟩) (by show w.heap.size + 1 ≠ w.heap.size + 1 + 1; omega) _).seti (k + 1) _, by simp [lE], by simp [lD], HEN, HDN, HI⟩
         case measure => simp [intOf]; omega
  ·have HF : Hid (ndErr ts l = (0, 0)) := Cor.ndErr_zero (by have : l.length = n := HL.out; omega) (fun j hj => hinv.out j (by have : l.length = n := HL.out; omega))
   clear hinv
   go_wp2
   go_ret2
   exact ⟨ret_p HF.out rfl rfl, hB⟩
end Go.Proofs.YtgkdaebiefhgdaaGreatDoor
namespace Go.Proofs.YtgkdaebiefhgdaaGreatDoor
open Go.RowKit Utf Dep
open Cor (nrm At_ Marks Fresh)
theorem nz_f {s : Int} (h : s ≠ 0) : (s == 0) = false := by rw [beq_eq_false_iff_ne]; exact h
def bools (l : List Bool) : List Value := l.map Value.bool
theorem bools_set (l : List Bool) (i : Nat) (x : Bool) : bools (l.set i x) = (bools l).set i (.bool x) := by simp [bools]
theorem Blk.setb {w : World} {g : Nat} {t : TypeId} {l : List Bool} (h : Blk w g t (bools l).toArray) (i : Nat) (x : Bool) : Blk (w.setCell ⟨g, i, none⟩ (.bool x)) g t (bools (l.set i x)).toArray := by
 have := h.set_ i (.bool x)
 rw [bools_set]
 simpa using this
theorem Blk.bat {w : World} {g : Nat} {t : TypeId} {l : List Bool} (h : Blk w g t (bools l).toArray) {i : Nat} (hi : i < l.length) : w.cell? ⟨g, i, none⟩ = some (.bool l[i]) := (h.cell i).trans (by simp [bools, hi])
theorem info_bool : (Tryz.prog.info? 4).map (fun i => (i.zero, i.size, i.bytes)) = some (some (.bool false), 1, 1) := by kernel_rfl
theorem made_bools (n : Nat) (hn : n ≤ 1048576) (W : World) :
  (Instr.makeSlice 176 (.int .i64 (n : Int)) (.int .i64 (n : Int))).run Tryz.prog W = .ok (.slice (some ⟨W.heap.size, 0, none⟩) n n) (W.alloc (.cells (bools (List.replicate n false)).toArray 4)) := by
 obtain ⟨i0, hi0, hz0, hz1, hz2⟩ := info_parts info_bool
 have hr := run_make (P := Tryz.prog) W 176 4 i0 _ Tryz.underlying176 hi0 hz0 .i64 .i64 n n (by omega) (Int.le_refl _) (by rw [hz2]; omega) (by omega)
 rw [hr, hz1]
 simp only [Int.toNat_natCast, Nat.mul_one]
 have : madeCells (Value.cells (.bool false)) n = (bools (List.replicate n false)).toArray := by
  have e := toList_madeCells_one (.bool false) n
  unfold bools
  rw [List.map_replicate]
  show madeCells #[.bool false] n = (List.replicate n (Value.bool false)).toArray
  rw [← e]
 rw [this]

def Cycled (n : Nat) (h : List Int) (w : World) (e : Ending) (w' : World) : Prop :=
 e = .returned (.slice (some ⟨w.heap.size, 0, none⟩) n n) ∧ Below w.heap.size w w' ∧ Blk w' w.heap.size 4 (bools ((List.range h.length).map fun i => Cor.cyc h i)).toArray

set_option maxRecDepth 100000 in
set_option maxHeartbeats 8000000 in
theorem cycles_any (A : Option Addr) (n c : Nat) (h : List Int) (w : World) (hn : n ≤ 4096) (hx : Nums w w.heap.size ⟨A, n, c⟩ h) :
  Calls Tryz.prog 135 #[.slice A n c] w (Cycled n h w) := by
 have HL := Lib.hid hx.len
 have hnl : h.length ≤ n ∧ n ≤ h.length := by have : h.length = n := hx.len; omega
 have hmkb := made_bools n (by omega)
 have hmki := made_ints n (by omega)
 have hO0 := Blk.new w 4 (bools (List.replicate n false)).toArray
 have hS0 := Blk.new (w.alloc (.cells (bools (List.replicate n false)).toArray 4)) 3 (ints (List.replicate n 0)).toArray
 have hO1 := hO0.alloc (.cells (ints (List.replicate n 0)).toArray 3)
 have hB1 := ((Below.refl w.heap.size w).alloc (Nat.le_refl _) (.cells (bools (List.replicate n false)).toArray 4)).alloc (by simp) (.cells (ints (List.replicate n 0)).toArray 3)
 rw [World.size_alloc] at hS0
 clear hO0
 have HM0 : Hid (Marks (nrm h) 0 (List.replicate n 0) (List.replicate n false)) := by
  have := Cor.marks_start (nrm h)
  rw [Cor.nrm_len, HL.out] at this
  exact this
 go_enter Tryz.func135, Tryz.ntmps135
 go_wp2
 clear hmkb hmki
 go_loopw [16] (fun iv wr => ∃ (i : Nat) (seen : List Int) (out : List Bool), i ≤ n ∧ iv = .int .i64 i ∧ Hid (Marks (nrm h) i seen out) ∧ Below w.heap.size w wr ∧ Blk wr w.heap.size 4 (bools out).toArray ∧ Blk wr (w.heap.size + 1) 3 (ints seen).toArray) (fun iv _ => n - (intOf iv).toNat)
 case atStart => exact ⟨0, _, _, Nat.zero_le _, rfl, HM0, hB1, hO1, hS0⟩
 case round =>
  obtain ⟨i, seen, out, hi, rfl, hm, hB, hO, hS⟩ := hrel
  obtain ⟨wo, rfl⟩ : ∃ wo : World, wo = wr := ⟨_, rfl⟩
  by_cases hlt : i < n
  ·have hsl : seen.length ≤ n ∧ n ≤ seen.length := by have := hm.out.len; rw [Cor.nrm_len] at this; omega
   have hol : out.length ≤ n ∧ n ≤ out.length := by have := hm.out.olen; rw [Cor.nrm_len] at this; omega
   go_wp2
   go_loopg [6] (n + 1) (fun gk av wr => ∃ (k : Nat) (v : Int) (sn : List Int), gk + k = n + 1 ∧ av = .int .i64 v ∧ Rng v ∧ Hid (At_ h i k v) ∧ Hid (Inn (nrm h) i k seen sn) ∧ Hid (Fresh (nrm h) i k seen) ∧ Below w.heap.size w wr ∧ Blk wr w.heap.size 4 (bools out).toArray ∧ Blk wr (w.heap.size + 1) 3 (ints sn).toArray)
   case atStart => exact ⟨0, (i : Nat), seen, by omega, rfl, by unfold Rng; omega, Cor.at_start h (by omega), inn_start _ i seen, Cor.fresh_start _ i seen, hB, hO, hS⟩
   case round =>
    obtain ⟨k, v, sn, hgk, rfl, hrv, hat, hinn, hfr, hB2, hO2, hS2⟩ := hrel
    obtain ⟨wx, rfl⟩ : ∃ wx : World, wx = wr := ⟨_, rfl⟩
    have hkn : k ≤ n := by have := inn_le (Cor.nrm_ok h) hinn.out (by rw [Cor.nrm_len]; omega); rw [Cor.nrm_len] at this; omega
    have hsn : sn.length ≤ n ∧ n ≤ sn.length := by have := hinn.out.len; omega
    unfold Rng at hrv
    by_cases hv0 : 0 ≤ v
    ·obtain ⟨a, rfl⟩ : ∃ a : Nat, v = a := ⟨v.toNat, by omega⟩
     by_cases han : a < n
     ·have hup := Lib.hid (Cor.at_in hat.out (by omega))
      obtain ⟨g, o, ha', e0, hg, hrx, c0⟩ := (hx.under hB2).at_ (k := a) han
      have e0 : A = some ⟨g, o, none⟩ := e0
      subst e0
      have c1 := hS2.iat (i := a) (by omega)
      have c2 := hS2.free a
      have c3 := hO2.bat (i := a) (by omega)
      have c4 := hO2.free a
      have HNX := Lib.hid (Cor.at_step hat.out ha')
      have hasn : a < sn.length := by omega
      have HZ := fun (hz : sn[a] = 0) => inn_step hinn.out hup.out hasn hz
      have HFZ := fun (hz : sn[a] = 0) => Cor.fresh_step hfr.out hinn.out hup.out hasn hz
      have HOLD := fun (h0 : sn[a] ≠ 0) (h1 : sn[a] ≠ (i : Int) + 1) => Cor.marks_old hm.out hinn.out hup.out hasn h0 h1
      have HNEW := fun (h1 : sn[a] = (i : Int) + 1) => Cor.marks_new hm.out hinn.out hfr.out hasn h1
      have HON := fun (h1 : sn[a] = (i : Int) + 1) => let ⟨least, hv⟩ := hm.out.inv; inn_on hv hinn.out hup.out hasn h1
      have HCYC := fun (s t : Nat) (out' : List Bool) (h1 : sn[a] = (i : Int) + 1) (hts : t < s) e hl ho => Cor.marks_cyc (s := s) (t := t) (out' := out') hm.out hinn.out hup.out hasn h1 hts e hl ho
      obtain ⟨z, hz⟩ : ∃ z, sn[a] = z := ⟨_, rfl⟩
      rw [hz] at c1 HZ HFZ HOLD HNEW HON HCYC
      obtain ⟨hv, hhv⟩ : ∃ hv, h[a] = hv := ⟨_, rfl⟩
      rw [hhv] at c0 HNX hrx
      have HZ := Lib.hid HZ
      have HFZ := Lib.hid HFZ
      have HOLD := Lib.hid HOLD
      have HNEW := Lib.hid HNEW
      have HON := Lib.hid HON
      have HCYC := Lib.hid HCYC
      clear hz hhv
      by_cases hz0 : z = 0
      ·subst hz0
       have HN := Lib.hid (HZ.out rfl)
       have HFN := Lib.hid (HFZ.out rfl)
       have hSn := hS2.seti a ((i : Int) + 1)
       have hOn := hO2.other (p := ⟨w.heap.size + 1, a, none⟩) (by show w.heap.size + 1 ≠ w.heap.size; omega) (.int .i64 ((i : Int) + 1))
       have hBn := hB2.setCell (p := ⟨w.heap.size + 1, a, none⟩) (by show w.heap.size ≤ w.heap.size + 1; omega) (.int .i64 ((i : Int) + 1))
       have c0n : (wx.setCell ⟨w.heap.size + 1, a, none⟩ (.int .i64 ((i : Int) + 1))).cell? ⟨g, o + a, none⟩ = some (.int .i64 hv) := (World.cell?_of_block (Below.heap_setCell _ _ _ _ (by show g ≠ w.heap.size + 1; omega))).trans c0
       clear HZ HFZ HOLD HNEW HON HCYC
       go_wp2
       go_roundg (n - k)
       case measure => omega
       case rel => exact ⟨k + 1, hv, _, by omega, rfl, hrx, HNX, HN, HFN, hBn, hOn, hSn⟩
      ·have hzf := nz_f hz0
       by_cases hz1 : z = (i : Int) + 1
       ·have hse : (z != (i : Int) + 1) = false := bne_f hz1
        have HN1 := Lib.hid (HNEW.out hz1)
        have HCA : Hid (Cyc (nrm h) (a : Nat)) := by
         obtain ⟨m0, hm0, -, hq⟩ := HON.out hz1
         exact ⟨by omega, k - m0 - 1, by rw [show k - m0 - 1 + 1 = k - m0 by omega]; exact hq⟩
        have HC2 := Lib.hid (fun s t out' hts e hl ho => HCYC.out s t out' hz1 hts e hl ho)
        have hoa : out[a]'(by omega) = false := HN1.out.2 0 a rfl HCA.out (by omega)
        rw [hoa] at c3
        clear HZ HFZ HOLD HNEW HON HCYC hoa hz1 hz0
        go_wp2
        go_loopg [7] (n + 1) (fun gk xv wr => ∃ (s b : Nat) (o2 : List Bool), gk + s = n + 1 ∧ xv = .int .i64 b ∧ b < n ∧ o2.length = out.length ∧ Hid (up (nrm h) s (a : Nat) = (b : Nat)) ∧ Hid (∀ p q, p < q → q < s → up (nrm h) p (a : Nat) ≠ up (nrm h) q (a : Nat)) ∧
         Hid (∀ x (hx : x < o2.length), o2[x] = true ↔ ((∃ hy : x < out.length, out[x] = true) ∨ ∃ m, m < s ∧ up (nrm h) m (a : Nat) = (x : Nat))) ∧ Below w.heap.size w wr ∧ Blk wr w.heap.size 4 (bools o2).toArray ∧ Blk wr (w.heap.size + 1) 3 (ints sn).toArray)
        case atStart =>
         refine ⟨0, a, out, by omega, rfl, han, rfl, rfl, fun p q _ hq => by omega, fun x hx => ?_, hB2, hO2, hS2⟩
         constructor
         ·intro h; exact .inl ⟨hx, h⟩
         ·rintro (⟨_, h⟩ | ⟨m, hm, _⟩)
          ·exact h
          ·omega
        case round =>
         obtain ⟨s, b, o2, hgs, rfl, hbn, hl2, hups, hdis, hsp, hB3, hO3, hS3⟩ := hrel
         have hsn2 : s ≤ n := by
          have := way_bound (Cor.nrm_ok h) (i := (a : Nat)) (by rw [Cor.nrm_len]; omega) (k := s) (fun m _ => (cyc_step HCA.out m).1) hdis.out
          rw [Cor.nrm_len] at this; omega
         obtain ⟨g3, o3, hb', hA3, hg3, hr3, c5⟩ := (hx.under hB3).at_ (k := b) hbn
         cases hA3
         have d3 := hO3.bat (i := b) (by omega)
         have d4 := hO3.free b
         have HSB := Lib.hid (hsp.out b (by omega))
         have HNXT : Hid (up (nrm h) (s + 1) (a : Nat) = h[b] ∧ 0 ≤ h[b] ∧ h[b] < h.length) := by
          have h1 := (cyc_step HCA.out (s + 1)).1
          have h2 : up (nrm h) (s + 1) (a : Nat) = if 0 ≤ h[b] ∧ h[b] < h.length then h[b] else -1 := by rw [up_succ, hups.out, Cor.nrm_at hb']
          rw [h2] at h1 ⊢
          by_cases hc : 0 ≤ h[b] ∧ h[b] < h.length
          ·rw [if_pos hc]; exact ⟨rfl, hc⟩
          ·rw [if_neg hc] at h1; omega
         obtain ⟨z2, hz2⟩ : ∃ z2, h[b] = z2 := ⟨_, rfl⟩
         rw [hz2] at c5 HNXT
         have hz0 := HNXT.out.2.1
         have hz1 := HNXT.out.2.2
         obtain ⟨b2, rfl⟩ : ∃ b2 : Nat, z2 = b2 := ⟨z2.toNat, by omega⟩
         clear hz2 hr3
         obtain ⟨ob, hob⟩ : ∃ ob, o2[b]'(by omega) = ob := ⟨_, rfl⟩
         rw [hob] at d3 HSB
         clear hob
         cases ob with
         | true =>
          have HI : Hid (Marks (nrm h) (i + 1) sn o2) := by
           rcases HSB.out.1 rfl with ⟨hy, ho⟩ | ⟨t, ht, e⟩
           ·have := HN1.out.2 s b hups.out HCA.out hy
            rw [this] at ho; cases ho
           ·refine HC2.out s t o2 ht (by rw [e, hups.out]) hl2 fun x hx => ?_
            rw [hsp.out x hx]
            constructor
            ·rintro (⟨_, h⟩ | h)
             ·exact .inl h
             ·exact .inr h
            ·rintro (h | h)
             ·exact .inl ⟨_, h⟩
             ·exact .inr h
          clear HSB hsp HNXT hdis
          go_wp2
          go_roundw
          case rel => exact ⟨i + 1, _, _, by omega, by go_num, HI, hB3, hO3, hS3⟩
          case measure => simp [intOf]; omega
         | false =>
          have HD2 : Hid (∀ p q, p < q → q < s + 1 → up (nrm h) p (a : Nat) ≠ up (nrm h) q (a : Nat)) := by
           intro p q hpq hq
           by_cases eq : q = s
           ·subst eq
            intro e
            have := HSB.out.2 (.inr ⟨p, hpq, by rw [e, hups.out]⟩)
            cases this
           ·exact hdis.out p q hpq (by omega)
          have HS2 : Hid (∀ x (hx : x < (o2.set b true).length), (o2.set b true)[x] = true ↔ ((∃ hy : x < out.length, out[x] = true) ∨ ∃ m, m < s + 1 ∧ up (nrm h) m (a : Nat) = (x : Nat))) := by
           intro x hx
           by_cases ex : b = x
           ·subst ex
            simp only [List.getElem_set_self, true_iff]
            exact .inr ⟨s, by omega, hups.out⟩
           ·rw [List.getElem_set_ne ex, hsp.out x (by simpa using hx)]
            constructor
            ·rintro (h | ⟨m, hm, e⟩)
             ·exact .inl h
             ·exact .inr ⟨m, by omega, e⟩
            ·rintro (h | ⟨m, hm, e⟩)
             ·exact .inl h
             ·by_cases em : m = s
              ·subst em; rw [hups.out] at e; omega
              ·exact .inr ⟨m, by omega, e⟩
          have hOn := hO3.setb b true
          have hSn := hS3.other (p := ⟨w.heap.size, b, none⟩) (by show w.heap.size ≠ w.heap.size + 1; omega) (.bool true)
          have hBn := hB3.setCell (p := ⟨w.heap.size, b, none⟩) (Nat.le_refl _) (.bool true)
          have c5n := (World.cell?_of_block (a := ⟨g, o + b, none⟩) (Below.heap_setCell wr ⟨w.heap.size, b, none⟩ (.bool true) g (by show g ≠ w.heap.size; omega))).trans c5
          have HU := Lib.hid HNXT.out.1
          clear HSB hsp HNXT hdis hups
          go_wp2
          go_roundg (n - s)
          case measure => omega
          case rel => exact ⟨s + 1, b2, _, by omega, rfl, by omega, by simp [hl2], HU, HD2, HS2, hBn, hOn, hSn⟩
       ·have hse : (z != (i : Int) + 1) = true := bne_t hz1
        have HI := Lib.hid (HOLD.out hz0 hz1)
        clear HZ HFZ HOLD HNEW HON HCYC hz1 hz0
        go_wp2
        go_roundw
        case rel => exact ⟨i + 1, _, _, by omega, by go_num, HI, hB2, hO2, hS2⟩
        case measure => simp [intOf]; omega
     ·have HI := Lib.hid (Cor.marks_neg hm.out hinn.out (Cor.at_out hat.out (.inr (by omega))))
      go_wp2
      go_roundw
      case rel => exact ⟨i + 1, _, _, by omega, by go_num, HI, hB2, hO2, hS2⟩
      case measure => simp [intOf]; omega
    ·have HI := Lib.hid (Cor.marks_neg hm.out hinn.out (Cor.at_out hat.out (.inl (by omega))))
     go_wp2
     go_roundw
     case rel => exact ⟨i + 1, _, _, by omega, by go_num, HI, hB2, hO2, hS2⟩
     case measure => simp [intOf]; omega
  ·obtain rfl : i = n := by omega
   have HD : Hid (out = (List.range h.length).map fun i => Cor.cyc h i) := Cor.marks_done (by rw [HL.out]; exact hm.out)
   rw [HD.out] at hO
   go_wp2
   go_ret
   exact ⟨rfl, hB, hO⟩
end Go.Proofs.YtgkdaebiefhgdaaGreatDoor
