/-
  The contract of the reference's check of nodes. Conditions: none but that nodes and texts read as they do.
-/
import Derived.Test.YtaihgoohmcipkaaCorNodW
namespace Go.Proofs.Ytaihgoohmcipkaa
open Go.RowKit Utf
open Feat (Bs)
open Tagp (KV okName)
open Cor (ndF ndErr anc par ParOk dp within sibE Nod)

set_option maxRecDepth 100000 in
set_option maxHeartbeats 8000000 in
theorem refNodes_any (H : CH) (A : Option Addr) (n c : Nat) (ts : List Cor.Txt) (l : List Nod) (w : World) (hts : Txts w w.heap.size H.x ts) (hx : Nods w w.heap.size ⟨A, n, c⟩ l) :
    Calls Try.prog 43 #[.slice A n c, H.v] w (Kept (.tuple #[.int .i64 ((ndErr ts l).1 : Nat), .int .i64 ((ndErr ts l).2 : Nat)]) w) := by
  have HL := Lib.hid hx.len
  have f1 : n ≤ 9223372036854775807 := hx.1.2
  have f2 : n ≤ c := hx.1.1
  have hB0 := (Below.refl w.heap.size w).alloc (Nat.le_refl _) (.cells H.cs 30)
  have hb0 := Blk.new w 30 H.cs
  by_cases h8 : 2048 < n
  · have HF : Hid (ndErr ts l = (0, 2)) := by show _ = _; unfold ndErr; rw [if_pos (by have : l.length = n := HL.out; omega)]
    go_enter Try.func43, Try.ntmps43
    go_wp2
    go_ret2
    exact ⟨ret_p HF.out rfl rfl, hB0⟩
  have hmk := made_ints n (by omega)
  have hD0 := Blk.new (w.alloc (.cells H.cs 30)) 3 (ints (List.replicate n 0)).toArray
  have hb1 := hb0.alloc (.cells (ints (List.replicate n 0)).toArray 3)
  have hB1 := hB0.alloc hB0.size (.cells (ints (List.replicate n 0)).toArray 3)
  rw [World.size_alloc] at hD0
  go_enter Try.func43, Try.ntmps43
  go_wp2
  clear hmk
  go_loopw [20] (fun iv wr => ∃ (k : Nat) (D : List Int), k ≤ n ∧ iv = .int .i64 k ∧ Below w.heap.size w wr ∧ Blk wr w.heap.size 30 H.cs ∧ Blk wr (w.heap.size + 1) 3 (ints D).toArray ∧ D.length = n ∧
    Hid (∀ q, q < n → D[q]? = some (if q < k then (dp l (q : Nat) : Int) else 0)) ∧ Hid (∀ j, j < k → ndF ts l j = 0)) (fun iv _ => n - (intOf iv).toNat)
  case atStart =>
    refine ⟨0, List.replicate n 0, by omega, rfl, hB1, hb1, hD0, by simp, fun q hq => ?_, fun j hj => by omega⟩
    rw [List.getElem?_replicate, if_pos (by omega), if_neg (by omega)]
  case round =>
    obtain ⟨k, D, hk, rfl, hB, hbx, hD, hDl, hDv, hinv⟩ := hrel
    by_cases hlt : k < n
    · obtain ⟨g, o, hk', e0, hg, hok', c0w, c1w, c2w, c3w⟩ := hx.at_ hlt
      have e0 : A = some ⟨g, o, none⟩ := e0
      subst e0
      have c0 := (World.cell?_of_block (a := ⟨g, o + k * 4, none⟩) (hB.block g hg)).trans c0w
      have c1 := (World.cell?_of_block (a := ⟨g, o + k * 4 + 1, none⟩) (hB.block g hg)).trans c1w
      have c2 := (World.cell?_of_block (a := ⟨g, o + k * 4 + 2, none⟩) (hB.block g hg)).trans c2w
      have c3 := (World.cell?_of_block (a := ⟨g, o + k * 4 + 3, none⟩) (hB.block g hg)).trans c3w
      clear c0w c1w c2w c3w
      have HF := Lib.hid (Cor.ndF_at (ts := ts) hk')
      have HA := Lib.hid (fun h => Cor.ndErr_at (ts := ts) (l := l) (k := k) (by have : l.length = n := HL.out; omega) hk' hinv.out h)
      have HOK0 := Lib.hid (Cor.parOk_of (by omega) hinv.out)
      have z0 : l[k].lb.length ≤ 9223372036854775807 := hok'.1
      have r3 : Rng l[k].p := hok'.2.2.2
      clear hok'
      obtain ⟨⟨x, b, e, p⟩, hx'⟩ : ∃ p, l[k] = p := ⟨_, rfl⟩
      rw [hx'] at HF c0 c1 c2 c3 z0 r3
      have HX := Lib.hid hx'
      clear hx'
      have hBa := hB.alloc hB.size (.cells #[str x, .int .i64 b, .int .i64 e, .int .i64 p] 74)
      have hpa := Blk.new wr 74 #[str x, .int .i64 b, .int .i64 e, .int .i64 p]
      have hbxa := hbx.alloc (.cells #[str x, .int .i64 b, .int .i64 e, .int .i64 p] 74)
      have hDa := hD.alloc (.cells #[str x, .int .i64 b, .int .i64 e, .int .i64 p] 74)
      have b00 := hbxa.cell 0
      have b01 := hbxa.cell 1
      have b02 := hbxa.cell 2
      have b03 := hbxa.cell 3
      have b04 := hbxa.cell 4
      have b05 := hbxa.cell 5
      have b06 := hbxa.cell 6
      have HT := Lib.hid (within_any H ts b e (wr.alloc (.cells #[str x, .int .i64 b, .int .i64 e, .int .i64 p] 74)) ((hts.under hBa).up hBa.size))
      go_wp2_with fail
      refine (refValidName_any x z0 _).mono ?_
      rintro e' w1 ⟨rfl, rfl⟩
      cases hok : okName x with
      | false =>
        have HF2 := Lib.hid (HF.out.trans (if_pos hok))
        have HF3 : Hid (ndErr ts l = (k, 4)) := by show _ = _; rw [HA.out (by rw [HF2.out]; simp), HF2.out]
        clear hok HF HA HF2 HT
        go_wp2
        go_ret2
        exact ⟨ret_p HF3.out rfl rfl, hBa⟩
      | true =>
        have HF2 := Lib.hid (HF.out.trans (if_neg (by rw [hok]; simp)))
        clear hok HF
        go_wp2_with fail
        refine HT.out.mono ?_
        rintro e' w2 ⟨rfl, hb2⟩
        clear HT b00 b01 b02 b03 b04 b05 b06
        have hB2 := hBa.trans (hb2.mono hBa.size)
        have hbx2 := hbxa.below hb2
        have hp2 := hpa.below hb2
        have hD2 := hDa.below hb2
        clear hpa hbxa hDa
        cases hwi : within ts b e with
        | false =>
          have HF3 := Lib.hid (HF2.out.trans (if_pos hwi))
          have HF4 : Hid (ndErr ts l = (k, 8)) := by show _ = _; rw [HA.out (by rw [HF3.out]; simp), HF3.out]
          clear HF2 HF3 HA hwi
          go_wp2
          go_ret2
          exact ⟨ret_p HF4.out rfl rfl, hB2⟩
        | true =>
          have HF3 := Lib.hid (HF2.out.trans (if_neg (by rw [hwi]; simp)))
          clear hwi HF2
          obtain ⟨wo, rfl⟩ : ∃ wo : World, wo = wr := ⟨_, rfl⟩
          go_wp2
          go_loopw [9] (fun av wr2 => ∃ (q : Int) (f : Nat), -1 ≤ q ∧ q < k ∧ q + 1 ≤ f ∧ av = .int .i64 q ∧ wr2 = w2 ∧ Hid (anc l p k ((k : Int) - 1) = anc l p f q)) (fun av _ => (intOf av + 1).toNat)
          case atStart => exact ⟨(k : Int) - 1, k, by omega, by omega, by omega, rfl, rfl, rfl⟩
          case round =>
            obtain ⟨q, f, hq1, hq2, hqf, rfl, hw, hanc⟩ := hrel
            have hw := hw.symm
            subst hw
            have p0 := hp2.cell 0
            have p1 := hp2.cell 1
            have p2 := hp2.cell 2
            have p3 := hp2.cell 3
            by_cases hstep : 0 ≤ q ∧ q ≠ p
            · obtain ⟨h0, hqp⟩ := hstep
              obtain ⟨j, rfl⟩ : ∃ j : Nat, q = j := ⟨q.toNat, by omega⟩
              obtain ⟨f', rfl⟩ : ∃ f', f = f' + 1 := ⟨f - 1, by omega⟩
              obtain ⟨g3, o3, hj', e3, hg3, hz3, d0, d1, d2, d3⟩ := (hx.under hB2).at_ (k := j) (show j < n by omega)
              cases e3
              clear hz3
              have hb := HOK0.out j (by omega) hj'
              have HI : Hid (anc l p k ((k : Int) - 1) = anc l p f' l[j].p) := by show _ = _; rw [hanc.out, Cor.anc_step f' (by omega) hqp, Cor.par_at hj']
              have E := bne_t hqp
              obtain ⟨z, hz⟩ : ∃ z, l[j].p = z := ⟨_, rfl⟩
              rw [hz] at hb d3 HI
              clear hanc hz hqp
              go_wp2
              go_roundw
              case rel => (first | exact ⟨z, f', by omega, by omega, by omega, rfl, trivial, HI⟩ | exact ⟨z, f', by omega, by omega, by omega, rfl, rfl, HI⟩ | exact ⟨z, f', by omega, by omega, by omega, rfl, HI⟩)
              case measure => simp [intOf]; omega
            · have HAN := Lib.hid (hanc.out.trans (Cor.anc_end f (by omega)))
              clear hanc
              by_cases hqp : q = p
              · subst hqp
                have HF4 := Lib.hid (HF3.out.trans (if_neg (by rw [HAN.out]; simp)))
                have HOK := Lib.hid (Cor.parOk_step HOK0.out hk' (by rw [HX.out, HAN.out]; simp))
                clear HF3 HOK0 HAN hstep
                by_cases hp0 : 0 ≤ q
                · obtain ⟨j, rfl⟩ : ∃ j : Nat, q = j := ⟨q.toNat, by omega⟩
                  obtain ⟨g3, o3, hj', e3, hg3, hz3, d0, d1, d2, d3⟩ := (hx.under hB2).at_ (k := j) (show j < n by omega)
                  cases e3
                  clear hz3
                  have hd40 : dp l (j : Nat) ≤ 40 := by rw [← Cor.dep_dp]; exact (Cor.ndF_ok hj' (hinv.out j (by omega))).2.2.2.2.2
                  have HPJ : Hid (l[((j : Nat) : Int).toNat]? = some l[j]) := by show _ = _; rw [Int.toNat_natCast, List.getElem?_eq_getElem hj']
                  obtain ⟨⟨y, yb, ye, yp⟩, hy'⟩ : ∃ p, l[j] = p := ⟨_, rfl⟩
                  rw [hy'] at HPJ d0 d1 d2 d3
                  clear hy'
                  have hB3 := hB2.alloc hB2.size (.cells #[str y, .int .i64 yb, .int .i64 ye, .int .i64 yp] 74)
                  have hbx3 := hbx2.alloc (.cells #[str y, .int .i64 yb, .int .i64 ye, .int .i64 yp] 74)
                  have hp3 := hp2.alloc (.cells #[str y, .int .i64 yb, .int .i64 ye, .int .i64 yp] 74)
                  have hDy := hD2.alloc (.cells #[str y, .int .i64 yb, .int .i64 ye, .int .i64 yp] 74)
                  have t0 := hp3.cell 0
                  have t1 := hp3.cell 1
                  have t2 := hp3.cell 2
                  have t3 := hp3.cell 3
                  have E0 : ((j : Int) != (j : Int)) = false := by simp
                  by_cases hyb : b < yb
                  · have HF5 : Hid (ndErr ts l = (k, 8)) := by
                      have hf := HF4.out.trans (if_pos ⟨hp0, by show (l[((j : Nat) : Int).toNat]?).any _ = true; rw [HPJ.out]; simp [hyb]⟩)
                      show _ = _
                      rw [HA.out (by rw [hf]; simp), hf]
                    clear HF4 HA HPJ
                    go_wp2
                    go_ret2
                    exact ⟨ret_p HF5.out rfl rfl, hB3⟩
                  · by_cases hye : ye < e
                    · have HF5 : Hid (ndErr ts l = (k, 8)) := by
                        have hf := HF4.out.trans (if_pos ⟨hp0, by show (l[((j : Nat) : Int).toNat]?).any _ = true; rw [HPJ.out]; simp [hye]⟩)
                        show _ = _
                        rw [HA.out (by rw [hf]; simp), hf]
                      clear HF4 HA HPJ
                      go_wp2
                      go_ret2
                      exact ⟨ret_p HF5.out rfl rfl, hB3⟩
                    · have HF5 := Lib.hid (HF4.out.trans (if_neg (fun h => by
                        have h2 : (l[((j : Nat) : Int).toNat]?).any (fun q => decide (b < q.b) || decide (q.e < e)) = true := h.2
                        rw [HPJ.out] at h2
                        simp [hyb, hye] at h2)))
                      clear HF4 HPJ
                      obtain ⟨d, hd⟩ : ∃ d, dp l ((j : Nat) : Int) = d := ⟨_, rfl⟩
                      have HDJ := hDv.out j (by omega)
                      rw [if_pos (by omega), hd] at HDJ
                      rw [hd] at hd40
                      have HD := Lib.hid hd
                      clear hd
                      have cD := hDy.ival HDJ
                      have fD := hDy.free k
                      clear HDJ
                      have cDk := hDy.iat (i := k) (by omega)
                      obtain ⟨v9, hv9⟩ : ∃ v9, D[k]'(by omega) = v9 := ⟨_, rfl⟩
                      rw [hv9] at cDk
                      clear hv9
                      obtain ⟨D1, hD1⟩ : ∃ D1, D.set k (d : Int) = D1 := ⟨_, rfl⟩
                      have lD1 : D1.length = n := by rw [← hD1]; simp [hDl]
                      have HD1 : Hid (∀ q, q < n → q ≤ k → D1[q]? = some (if q < k then (dp l (q : Nat) : Int) else d)) := by
                        intro q hq hqk
                        rw [← hD1]
                        by_cases eq : q = k
                        · subst eq; rw [List.getElem?_set_self (by omega), if_neg (by omega)]
                        · rw [List.getElem?_set_ne (by omega), hDv.out q hq, if_pos (by omega), if_pos (by omega)]
                      have HD1z : Hid (∀ q, q < n → k < q → D1[q]? = some 0) := by
                        intro q hq hqk
                        rw [← hD1, List.getElem?_set_ne (by omega), hDv.out q hq, if_neg (by omega)]
                      have hsz := hD.lt
                      have n1 : wo.heap.size ≠ w.heap.size + 1 := by omega
                      have n3 : w.heap.size + 1 ≠ wo.heap.size := by omega
                      have hD3' := hDy.seti k (d : Int)
                      have hB3' := hB3.setCell (p := ⟨w.heap.size + 1, k, none⟩) (by show w.heap.size ≤ w.heap.size + 1; omega) (.int .i64 (d : Int))
                      have hbx3' := hbx3.other (p := ⟨w.heap.size + 1, k, none⟩) (by show w.heap.size + 1 ≠ w.heap.size; omega) (.int .i64 (d : Int))
                      have hp3' := hp3.other (p := ⟨w.heap.size + 1, k, none⟩) (by show w.heap.size + 1 ≠ wo.heap.size; omega) (.int .i64 (d : Int))
                      rw [hD1] at hD3'
                      clear hD1 hDv
                      have hp3 := hp3'
                      have hbx3 := hbx3'
                      have hB3 := hB3'
                      have hD3 := hD3'
                      go_wp2
                      go_loopw [11] (fun sv wr2 => ∃ s : Int, -1 ≤ s ∧ s < k ∧ sv = .int .i64 s ∧ Below w.heap.size w wr2 ∧ Blk wr2 w.heap.size 30 H.cs ∧ Blk wr2 wo.heap.size 74 #[str x, .int .i64 b, .int .i64 e, .int .i64 (j : Nat)] ∧ Blk wr2 (w.heap.size + 1) 3 (ints D1).toArray ∧ Hid (sibE ((j : Nat) : Int) (l.take k) = sibE ((j : Nat) : Int) (l.take (s + 1).toNat))) (fun sv _ => (intOf sv + 1).toNat)
                      case atStart => exact ⟨(k : Int) - 1, by omega, by omega, rfl, hB3, hbx3, hp3, hD3, by show _ = _; rw [show ((k : Int) - 1 + 1).toNat = k by omega]⟩
                      case round =>
                        obtain ⟨s, hs1, hs2, rfl, hB6, hbx6, hp6, hD6, hsib⟩ := hrel
                        have z0 := hp6.cell 1
                        have z3 := hp6.cell 3
                        by_cases hs0 : 0 ≤ s
                        · obtain ⟨i, rfl⟩ : ∃ i : Nat, s = i := ⟨s.toNat, by omega⟩
                          obtain ⟨g4, o4, hi', e4, hg4, hz4, v0, v1, v2, v3⟩ := (hx.under hB6).at_ (k := i) (show i < n by omega)
                          cases e4
                          clear hz4
                          have HST := Lib.hid (Cor.sibE_take (p := ((j : Nat) : Int)) hi')
                          obtain ⟨⟨u, ub, ue, up⟩, hu⟩ : ∃ p, l[i] = p := ⟨_, rfl⟩
                          rw [hu] at HST v0 v1 v2 v3
                          clear hu hi'
                          by_cases hup : up = ((j : Nat) : Int)
                          · have E7 : (up == ((j : Nat) : Int)) = true := by simpa using hup
                            have HSS : Hid (sibE ((j : Nat) : Int) (l.take k) = some ue) := by
                              show _ = _
                              rw [hsib.out, show ((i : Int) + 1).toNat = i + 1 by omega, HST.out, if_pos hup]
                            by_cases hbu : b < ue
                            · have HF6 : Hid (ndErr ts l = (k, 8)) := by
                                have hf := HF5.out.trans (if_pos (by rw [HSS.out]; simpa using hbu))
                                show _ = _
                                rw [HA.out (by rw [hf]; simp), hf]
                              clear HF5 HA HSS HST hsib hup
                              subst_eqs
                              go_wp2
                              go_quiet (fail)
                              go_wp2
                              go_quiet (fail)
                              go_wp2
                              go_ret2
                              exact ⟨ret_p HF6.out rfl rfl, by (repeat refine below_drewN ?_ _); exact hB6⟩
                            · have HSB : (sibE ((j : Nat) : Int) (l.take k)).any (fun e => decide (b < e)) = false := by rw [HSS.out]; simpa using hbu
                              have HSB := Lib.hid HSB
                              clear HSS HST hsib hup
                              go_wp2
                              go_quiet (fail)
                              go_wp2
                              go_quiet (fail)
                              have hDk := hD6.ival (HD1.out k (by omega) (Nat.le_refl _))
                              rw [if_neg (by omega)] at hDk
                              have fDk := hD6.free k
                              have HF6 := Lib.hid (HF5.out.trans (if_neg (by rw [HSB]; simp)))
                              have HDK : Hid (Cor.dep l (k + 1) k = d + 1) := by
                                have h := Cor.dp_at HOK.out hk'
                                rw [HX.out] at h
                                show _ = _
                                rw [Cor.dep_dp, h, ← HD.out]
                              have HDN : Hid (∀ q, q < n → (D1.set k ((d : Int) + 1))[q]? = some (if q < k + 1 then (dp l (q : Nat) : Int) else 0)) := by
                                intro q hq
                                by_cases eq : q = k
                                · subst eq
                                  have h := Cor.dp_at HOK.out hk'
                                  rw [HX.out] at h
                                  rw [List.getElem?_set_self (by omega), if_pos (by omega), h]
                                  show some ((d : Int) + 1) = some ((dp l ((j : Nat) : Int) + 1 : Nat) : Int)
                                  rw [HD.out]; simp
                                · rw [List.getElem?_set_ne (by omega)]
                                  by_cases hqk : q < k
                                  · rw [HD1.out q hq (by omega), if_pos hqk, if_pos (by omega)]
                                  · rw [HD1z.out q hq (by omega), if_neg (by omega)]
                              by_cases h40 : 40 < d + 1
                              · have HF7 : Hid (ndErr ts l = (k, 2)) := by
                                  have hf := HF6.out.trans (if_pos (by rw [HDK.out]; exact h40))
                                  show _ = _
                                  rw [HA.out (by rw [hf]; simp), hf]
                                have h41 : (40 : Int) < (d : Int) + 1 := by omega
                                clear HF6 HF5 HA HDK HDN HD HX HOK HSB HD1 HD1z
                                go_wp2
                                go_ret2
                                exact ⟨ret_p HF7.out rfl rfl, (below_drewN hB6 _).setCell (p := ⟨w.heap.size + 1, _, none⟩) (by show w.heap.size ≤ w.heap.size + 1; omega) _⟩
                              · have h41 : ¬ (40 : Int) < (d : Int) + 1 := by omega
                                have HI : Hid (∀ j, j < k + 1 → ndF ts l j = 0) := upto_step hinv.out (HF6.out.trans (if_neg (by rw [HDK.out]; exact h40)))
                                clear HF6 HF5 HA HDK HD HX HOK HSB HD1 HD1z hinv
                                go_wp2
                                go_roundw
                                case rel =>
                                  exact ⟨k + 1, _, by omega, by go_num, (below_drewN hB6 _).setCell (p := ⟨w.heap.size + 1, k, none⟩) (by show w.heap.size ≤ w.heap.size + 1; omega) _, (hbx6.drewN _).other (p := ⟨w.heap.size + 1, k, none⟩) (by show w.heap.size + 1 ≠ w.heap.size; omega) _, (hD6.drewN _).seti k ((d : Int) + 1), by simp [lD1], HDN, HI⟩
                                case measure => simp [intOf]; omega
                          · have E7 : (up == ((j : Nat) : Int)) = false := by simpa using hup
                            have HI : Hid (sibE ((j : Nat) : Int) (l.take k) = sibE ((j : Nat) : Int) (l.take ((i : Int) - 1 + 1).toNat)) := by
                              show _ = _
                              rw [hsib.out, show ((i : Int) + 1).toNat = i + 1 by omega, HST.out, if_neg hup, show ((i : Int) - 1 + 1).toNat = i by omega]
                            clear HST hsib hup
                            go_wp2
                            go_quiet (fail)
                            go_wp2
                            go_roundw
                            case rel => (first | exact ⟨(i : Int) - 1, by omega, by omega, by go_num, below_drewN hB6 _, hbx6, hp6, hD6, HI⟩ | ((repeat apply Exists.intro); exact ⟨⟨(i : Int) - 1, by omega, by omega, by go_num, below_drewN hB6 _, hbx6, hp6, hD6, HI⟩, rfl⟩))
                            case measure => simp [intOf]
                        · obtain rfl : s = -1 := by omega
                          have HSB : (sibE ((j : Nat) : Int) (l.take k)).any (fun e => decide (b < e)) = false := by rw [hsib.out]; rfl
                          have HSB := Lib.hid HSB
                          clear hsib
                          have hDk := hD6.ival (HD1.out k (by omega) (Nat.le_refl _))
                          rw [if_neg (by omega)] at hDk
                          have fDk := hD6.free k
                          have HF6 := Lib.hid (HF5.out.trans (if_neg (by rw [HSB]; simp)))
                          have HDK : Hid (Cor.dep l (k + 1) k = d + 1) := by
                            have h := Cor.dp_at HOK.out hk'
                            rw [HX.out] at h
                            show _ = _
                            rw [Cor.dep_dp, h, ← HD.out]
                          have HDN : Hid (∀ q, q < n → (D1.set k ((d : Int) + 1))[q]? = some (if q < k + 1 then (dp l (q : Nat) : Int) else 0)) := by
                            intro q hq
                            by_cases eq : q = k
                            · subst eq
                              have h := Cor.dp_at HOK.out hk'
                              rw [HX.out] at h
                              rw [List.getElem?_set_self (by omega), if_pos (by omega), h]
                              show some ((d : Int) + 1) = some ((dp l ((j : Nat) : Int) + 1 : Nat) : Int)
                              rw [HD.out]; simp
                            · rw [List.getElem?_set_ne (by omega)]
                              by_cases hqk : q < k
                              · rw [HD1.out q hq (by omega), if_pos hqk, if_pos (by omega)]
                              · rw [HD1z.out q hq (by omega), if_neg (by omega)]
                          by_cases h40 : 40 < d + 1
                          · have HF7 : Hid (ndErr ts l = (k, 2)) := by
                              have hf := HF6.out.trans (if_pos (by rw [HDK.out]; exact h40))
                              show _ = _
                              rw [HA.out (by rw [hf]; simp), hf]
                            have h41 : (40 : Int) < (d : Int) + 1 := by omega
                            clear HF6 HF5 HA HDK HDN HD HX HOK HSB HD1 HD1z
                            go_wp2
                            go_ret2
                            exact ⟨ret_p HF7.out rfl rfl, hB6.setCell (p := ⟨w.heap.size + 1, _, none⟩) (by show w.heap.size ≤ w.heap.size + 1; omega) _⟩
                          · have h41 : ¬ (40 : Int) < (d : Int) + 1 := by omega
                            have HI : Hid (∀ j, j < k + 1 → ndF ts l j = 0) := upto_step hinv.out (HF6.out.trans (if_neg (by rw [HDK.out]; exact h40)))
                            clear HF6 HF5 HA HDK HD HX HOK HSB HD1 HD1z hinv
                            go_wp2
                            go_roundw
                            case rel =>
                              exact ⟨k + 1, _, by omega, by go_num, hB6.setCell (p := ⟨w.heap.size + 1, k, none⟩) (by show w.heap.size ≤ w.heap.size + 1; omega) _, hbx6.other (p := ⟨w.heap.size + 1, k, none⟩) (by show w.heap.size + 1 ≠ w.heap.size; omega) _, hD6.seti k ((d : Int) + 1), by simp [lD1], HDN, HI⟩
                            case measure => simp [intOf]; omega
                · obtain rfl : q = -1 := by omega
                  have HF5 := Lib.hid (HF4.out.trans (if_neg (fun h => hp0 h.1)))
                  have hB3 := hB2
                  have hbx3 := hbx2
                  have hp3 := hp2
                  have hD3 := hD2
                  obtain ⟨d, hd⟩ : ∃ d : Nat, d = 0 := ⟨_, rfl⟩
                  have hd40 : d ≤ 40 := by omega
                  have HD : Hid (dp l (-1) = d) := by show _ = _; rw [Cor.dp_neg (by omega), hd]
                  have HD1 : Hid (∀ q, q < n → q ≤ k → D[q]? = some (if q < k then (dp l (q : Nat) : Int) else d)) := by
                    intro q hq hqk
                    rw [hDv.out q hq, hd]
                    rfl
                  have HD1z : Hid (∀ q, q < n → k < q → D[q]? = some 0) := by
                    intro q hq hqk
                    rw [hDv.out q hq, if_neg (by omega)]
                  have lD1 : D.length = n := hDl
                  obtain ⟨D1, rfl⟩ : ∃ D1, D1 = D := ⟨_, rfl⟩
                  have hsz := hD.lt
                  have n1 : wo.heap.size ≠ w.heap.size + 1 := by omega
                  have n3 : w.heap.size + 1 ≠ wo.heap.size := by omega
                  clear HF4 hp0 hd hDv
                  go_wp2
                  go_loopw [11] (fun sv wr2 => ∃ s : Int, -1 ≤ s ∧ s < k ∧ sv = .int .i64 s ∧ Below w.heap.size w wr2 ∧ Blk wr2 w.heap.size 30 H.cs ∧ Blk wr2 wo.heap.size 74 #[str x, .int .i64 b, .int .i64 e, .int .i64 (-1)] ∧ Blk wr2 (w.heap.size + 1) 3 (ints D1).toArray ∧ Hid (sibE (-1 : Int) (l.take k) = sibE (-1 : Int) (l.take (s + 1).toNat))) (fun sv _ => (intOf sv + 1).toNat)
                  case atStart => exact ⟨(k : Int) - 1, by omega, by omega, rfl, hB3, hbx3, hp3, hD3, by show _ = _; rw [show ((k : Int) - 1 + 1).toNat = k by omega]⟩
                  case round =>
                    obtain ⟨s, hs1, hs2, rfl, hB6, hbx6, hp6, hD6, hsib⟩ := hrel
                    have z0 := hp6.cell 1
                    have z3 := hp6.cell 3
                    by_cases hs0 : 0 ≤ s
                    · obtain ⟨i, rfl⟩ : ∃ i : Nat, s = i := ⟨s.toNat, by omega⟩
                      obtain ⟨g4, o4, hi', e4, hg4, hz4, v0, v1, v2, v3⟩ := (hx.under hB6).at_ (k := i) (show i < n by omega)
                      cases e4
                      clear hz4
                      have HST := Lib.hid (Cor.sibE_take (p := (-1 : Int)) hi')
                      obtain ⟨⟨u, ub, ue, up⟩, hu⟩ : ∃ p, l[i] = p := ⟨_, rfl⟩
                      rw [hu] at HST v0 v1 v2 v3
                      clear hu hi'
                      by_cases hup : up = (-1 : Int)
                      · have E7 : (up == (-1 : Int)) = true := by simpa using hup
                        have HSS : Hid (sibE (-1 : Int) (l.take k) = some ue) := by
                          show _ = _
                          rw [hsib.out, show ((i : Int) + 1).toNat = i + 1 by omega, HST.out, if_pos hup]
                        by_cases hbu : b < ue
                        · have HF6 : Hid (ndErr ts l = (k, 8)) := by
                            have hf := HF5.out.trans (if_pos (by rw [HSS.out]; simpa using hbu))
                            show _ = _
                            rw [HA.out (by rw [hf]; simp), hf]
                          clear HF5 HA HSS HST hsib hup
                          subst_eqs
                          go_wp2
                          go_quiet (fail)
                          go_wp2
                          go_quiet (fail)
                          go_wp2
                          go_ret2
                          exact ⟨ret_p HF6.out rfl rfl, by (repeat refine below_drewN ?_ _); exact hB6⟩
                        · have HSB : (sibE (-1 : Int) (l.take k)).any (fun e => decide (b < e)) = false := by rw [HSS.out]; simpa using hbu
                          have HSB := Lib.hid HSB
                          clear HSS HST hsib hup
                          go_wp2
                          go_quiet (fail)
                          go_wp2
                          go_quiet (fail)
                          have hDk := hD6.ival (HD1.out k (by omega) (Nat.le_refl _))
                          rw [if_neg (by omega)] at hDk
                          have fDk := hD6.free k
                          have HF6 := Lib.hid (HF5.out.trans (if_neg (by rw [HSB]; simp)))
                          have HDK : Hid (Cor.dep l (k + 1) k = d + 1) := by
                            have h := Cor.dp_at HOK.out hk'
                            rw [HX.out] at h
                            show _ = _
                            rw [Cor.dep_dp, h, ← HD.out]
                          have HDN : Hid (∀ q, q < n → (D1.set k ((d : Int) + 1))[q]? = some (if q < k + 1 then (dp l (q : Nat) : Int) else 0)) := by
                            intro q hq
                            by_cases eq : q = k
                            · subst eq
                              have h := Cor.dp_at HOK.out hk'
                              rw [HX.out] at h
                              rw [List.getElem?_set_self (by omega), if_pos (by omega), h]
                              show some ((d : Int) + 1) = some ((dp l (-1 : Int) + 1 : Nat) : Int)
                              rw [HD.out]; simp
                            · rw [List.getElem?_set_ne (by omega)]
                              by_cases hqk : q < k
                              · rw [HD1.out q hq (by omega), if_pos hqk, if_pos (by omega)]
                              · rw [HD1z.out q hq (by omega), if_neg (by omega)]
                          by_cases h40 : 40 < d + 1
                          · have HF7 : Hid (ndErr ts l = (k, 2)) := by
                              have hf := HF6.out.trans (if_pos (by rw [HDK.out]; exact h40))
                              show _ = _
                              rw [HA.out (by rw [hf]; simp), hf]
                            have h41 : (40 : Int) < (d : Int) + 1 := by omega
                            clear HF6 HF5 HA HDK HDN HD HX HOK HSB HD1 HD1z
                            go_wp2
                            go_ret2
                            exact ⟨ret_p HF7.out rfl rfl, (below_drewN hB6 _).setCell (p := ⟨w.heap.size + 1, _, none⟩) (by show w.heap.size ≤ w.heap.size + 1; omega) _⟩
                          · have h41 : ¬ (40 : Int) < (d : Int) + 1 := by omega
                            have HI : Hid (∀ j, j < k + 1 → ndF ts l j = 0) := upto_step hinv.out (HF6.out.trans (if_neg (by rw [HDK.out]; exact h40)))
                            clear HF6 HF5 HA HDK HD HX HOK HSB HD1 HD1z hinv
                            go_wp2
                            go_roundw
                            case rel =>
                              exact ⟨k + 1, _, by omega, by go_num, (below_drewN hB6 _).setCell (p := ⟨w.heap.size + 1, k, none⟩) (by show w.heap.size ≤ w.heap.size + 1; omega) _, (hbx6.drewN _).other (p := ⟨w.heap.size + 1, k, none⟩) (by show w.heap.size + 1 ≠ w.heap.size; omega) _, (hD6.drewN _).seti k ((d : Int) + 1), by simp [lD1], HDN, HI⟩
                            case measure => simp [intOf]; omega
                      · have E7 : (up == (-1 : Int)) = false := by simpa using hup
                        have HI : Hid (sibE (-1 : Int) (l.take k) = sibE (-1 : Int) (l.take ((i : Int) - 1 + 1).toNat)) := by
                          show _ = _
                          rw [hsib.out, show ((i : Int) + 1).toNat = i + 1 by omega, HST.out, if_neg hup, show ((i : Int) - 1 + 1).toNat = i by omega]
                        clear HST hsib hup
                        go_wp2
                        go_quiet (fail)
                        go_wp2
                        go_roundw
                        case rel => (first | exact ⟨(i : Int) - 1, by omega, by omega, by go_num, below_drewN hB6 _, hbx6, hp6, hD6, HI⟩ | ((repeat apply Exists.intro); exact ⟨⟨(i : Int) - 1, by omega, by omega, by go_num, below_drewN hB6 _, hbx6, hp6, hD6, HI⟩, rfl⟩))
                        case measure => simp [intOf]
                    · obtain rfl : s = -1 := by omega
                      have HSB : (sibE (-1 : Int) (l.take k)).any (fun e => decide (b < e)) = false := by rw [hsib.out]; rfl
                      have HSB := Lib.hid HSB
                      clear hsib
                      have hDk := hD6.ival (HD1.out k (by omega) (Nat.le_refl _))
                      rw [if_neg (by omega)] at hDk
                      have fDk := hD6.free k
                      have HF6 := Lib.hid (HF5.out.trans (if_neg (by rw [HSB]; simp)))
                      have HDK : Hid (Cor.dep l (k + 1) k = d + 1) := by
                        have h := Cor.dp_at HOK.out hk'
                        rw [HX.out] at h
                        show _ = _
                        rw [Cor.dep_dp, h, ← HD.out]
                      have HDN : Hid (∀ q, q < n → (D1.set k ((d : Int) + 1))[q]? = some (if q < k + 1 then (dp l (q : Nat) : Int) else 0)) := by
                        intro q hq
                        by_cases eq : q = k
                        · subst eq
                          have h := Cor.dp_at HOK.out hk'
                          rw [HX.out] at h
                          rw [List.getElem?_set_self (by omega), if_pos (by omega), h]
                          show some ((d : Int) + 1) = some ((dp l (-1 : Int) + 1 : Nat) : Int)
                          rw [HD.out]; simp
                        · rw [List.getElem?_set_ne (by omega)]
                          by_cases hqk : q < k
                          · rw [HD1.out q hq (by omega), if_pos hqk, if_pos (by omega)]
                          · rw [HD1z.out q hq (by omega), if_neg (by omega)]
                      by_cases h40 : 40 < d + 1
                      · have HF7 : Hid (ndErr ts l = (k, 2)) := by
                          have hf := HF6.out.trans (if_pos (by rw [HDK.out]; exact h40))
                          show _ = _
                          rw [HA.out (by rw [hf]; simp), hf]
                        have h41 : (40 : Int) < (d : Int) + 1 := by omega
                        clear HF6 HF5 HA HDK HDN HD HX HOK HSB HD1 HD1z
                        go_wp2
                        go_ret2
                        exact ⟨ret_p HF7.out rfl rfl, hB6.setCell (p := ⟨w.heap.size + 1, _, none⟩) (by show w.heap.size ≤ w.heap.size + 1; omega) _⟩
                      · have h41 : ¬ (40 : Int) < (d : Int) + 1 := by omega
                        have HI : Hid (∀ j, j < k + 1 → ndF ts l j = 0) := upto_step hinv.out (HF6.out.trans (if_neg (by rw [HDK.out]; exact h40)))
                        clear HF6 HF5 HA HDK HD HX HOK HSB HD1 HD1z hinv
                        go_wp2
                        go_roundw
                        case rel =>
                          exact ⟨k + 1, _, by omega, by go_num, hB6.setCell (p := ⟨w.heap.size + 1, k, none⟩) (by show w.heap.size ≤ w.heap.size + 1; omega) _, hbx6.other (p := ⟨w.heap.size + 1, k, none⟩) (by show w.heap.size + 1 ≠ w.heap.size; omega) _, hD6.seti k ((d : Int) + 1), by simp [lD1], HDN, HI⟩
                        case measure => simp [intOf]; omega
              · have HF4 := Lib.hid (HF3.out.trans (if_pos (by rw [HAN.out]; simpa using hqp)))
                have HF5 : Hid (ndErr ts l = (k, 6)) := by show _ = _; rw [HA.out (by rw [HF4.out]; simp), HF4.out]
                obtain rfl : q = -1 := by omega
                have E8 : (p != -1) = true := by rw [bne_iff_ne]; omega
                clear HF3 HF4 HA HAN hstep hqp
                go_wp2
                go_ret2
                exact ⟨ret_p HF5.out rfl rfl, hB2⟩
    · have HF : Hid (ndErr ts l = (0, 0)) := Cor.ndErr_zero (by have : l.length = n := HL.out; omega) (fun j hj => hinv.out j (by have : l.length = n := HL.out; omega))
      clear hinv
      go_wp2
      go_ret2
      exact ⟨ret_p HF.out rfl rfl, hB⟩
end Go.Proofs.Ytaihgoohmcipkaa
