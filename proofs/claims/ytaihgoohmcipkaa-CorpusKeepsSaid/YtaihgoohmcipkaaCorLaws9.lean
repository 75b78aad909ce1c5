/-
  The law CorpusKeeps returns true. Conditions: none but that the arguments read as they do.
-/
import Derived.Test.YtaihgoohmcipkaaCorLaws3
import Derived.Test.YtaihgoohmcipkaaCorLawsE
import Derived.Test.YtaihgoohmcipkaaCorVal
namespace Go.Proofs.Ytaihgoohmcipkaa
set_option linter.unusedSimpArgs false
set_option linter.unusedVariables false
open Go.RowKit Utf
open Feat (Bs)

theorem cat_err {a b d : Cor.C} {n : Nat} (h : Cor.cat a b = (d, n)) (hn : ¬ n = 0) : d = Cor.nil := by
  unfold Cor.cat at h
  split at h
  · exact (congrArg Prod.fst h).symm
  · split at h
    · exact (congrArg Prod.fst h).symm
    · split at h
      · exact (congrArg Prod.fst h).symm
      · split at h
        · exact (congrArg Prod.fst h).symm
        · exact absurd (congrArg Prod.snd h).symm hn

set_option maxRecDepth 100000 in
set_option maxHeartbeats 16000000 in
theorem law_keeps (H K : CH) (a b : Cor.C) (w : World) (ha : Reads w w.heap.size H a) (hb : Reads w w.heap.size K b) : Calls Try.prog 12 #[H.v, K.v] w (Kept (.bool true) w) := by
  obtain ⟨⟨Aa, Aan, Aac⟩, ⟨At, Atn, Atc⟩, ⟨Ax, Axn, Axc⟩, ⟨Ar, Arn, Arc⟩, ⟨An, Ann, Anc⟩, ⟨Ah, Ahn, Ahc⟩, ⟨Al, Aln, Alc⟩⟩ := H
  obtain ⟨⟨Ba, Ban, Bac⟩, ⟨Bt, Btn, Btc⟩, ⟨Bx, Bxn, Bxc⟩, ⟨Br, Brn, Brc⟩, ⟨Bn, Bnn, Bnc⟩, ⟨Bh, Bhn, Bhc⟩, ⟨Bl, Bln, Blc⟩⟩ := K
  show Calls Try.prog 12 #[.agg #[.slice Aa Aan Aac, .slice At Atn Atc, .slice Ax Axn Axc, .slice Ar Arn Arc, .slice An Ann Anc, .slice Ah Ahn Ahc, .slice Al Aln Alc], .agg #[.slice Ba Ban Bac, .slice Bt Btn Btc, .slice Bx Bxn Bxc, .slice Br Brn Brc, .slice Bn Bnn Bnc, .slice Bh Bhn Bhc, .slice Bl Bln Blc]] w _
  have hB0 := ((((Below.refl w.heap.size w).alloc (Nat.le_refl _) (.cells #[.slice Aa Aan Aac, .slice At Atn Atc, .slice Ax Axn Axc, .slice Ar Arn Arc, .slice An Ann Anc, .slice Ah Ahn Ahc, .slice Al Aln Alc] 30)).alloc (by simp <;> omega) (.cells #[.slice Ba Ban Bac, .slice Bt Btn Btc, .slice Bx Bxn Bxc, .slice Br Brn Brc, .slice Bn Bnn Bnc, .slice Bh Bhn Bhc, .slice Bl Bln Blc] 30)).alloc (by simp <;> omega) (.cells #[.slice Aa Aan Aac, .slice At Atn Atc, .slice Ax Axn Axc, .slice Ar Arn Arc, .slice An Ann Anc, .slice Ah Ahn Ahc, .slice Al Aln Alc, .slice Ba Ban Bac, .slice Bt Btn Btc, .slice Bx Bxn Bxc, .slice Br Brn Brc, .slice Bn Bnn Bnc, .slice Bh Bhn Bhc, .slice Bl Bln Blc] 30))
  have bA := ((Blk.new w 30 #[.slice Aa Aan Aac, .slice At Atn Atc, .slice Ax Axn Axc, .slice Ar Arn Arc, .slice An Ann Anc, .slice Ah Ahn Ahc, .slice Al Aln Alc]).alloc (.cells #[.slice Ba Ban Bac, .slice Bt Btn Btc, .slice Bx Bxn Bxc, .slice Br Brn Brc, .slice Bn Bnn Bnc, .slice Bh Bhn Bhc, .slice Bl Bln Blc] 30)).alloc (.cells #[.slice Aa Aan Aac, .slice At Atn Atc, .slice Ax Axn Axc, .slice Ar Arn Arc, .slice An Ann Anc, .slice Ah Ahn Ahc, .slice Al Aln Alc, .slice Ba Ban Bac, .slice Bt Btn Btc, .slice Bx Bxn Bxc, .slice Br Brn Brc, .slice Bn Bnn Bnc, .slice Bh Bhn Bhc, .slice Bl Bln Blc] 30)
  have bB := (Blk.new (w.alloc (.cells #[.slice Aa Aan Aac, .slice At Atn Atc, .slice Ax Axn Axc, .slice Ar Arn Arc, .slice An Ann Anc, .slice Ah Ahn Ahc, .slice Al Aln Alc] 30)) 30 #[.slice Ba Ban Bac, .slice Bt Btn Btc, .slice Bx Bxn Bxc, .slice Br Brn Brc, .slice Bn Bnn Bnc, .slice Bh Bhn Bhc, .slice Bl Bln Blc]).alloc (.cells #[.slice Aa Aan Aac, .slice At Atn Atc, .slice Ax Axn Axc, .slice Ar Arn Arc, .slice An Ann Anc, .slice Ah Ahn Ahc, .slice Al Aln Alc, .slice Ba Ban Bac, .slice Bt Btn Btc, .slice Bx Bxn Bxc, .slice Br Brn Brc, .slice Bn Bnn Bnc, .slice Bh Bhn Bhc, .slice Bl Bln Blc] 30)
  have bZ := Blk.new ((w.alloc (.cells #[.slice Aa Aan Aac, .slice At Atn Atc, .slice Ax Axn Axc, .slice Ar Arn Arc, .slice An Ann Anc, .slice Ah Ahn Ahc, .slice Al Aln Alc] 30)).alloc (.cells #[.slice Ba Ban Bac, .slice Bt Btn Btc, .slice Bx Bxn Bxc, .slice Br Brn Brc, .slice Bn Bnn Bnc, .slice Bh Bhn Bhc, .slice Bl Bln Blc] 30)) 30 #[.slice Aa Aan Aac, .slice At Atn Atc, .slice Ax Axn Axc, .slice Ar Arn Arc, .slice An Ann Anc, .slice Ah Ahn Ahc, .slice Al Aln Alc, .slice Ba Ban Bac, .slice Bt Btn Btc, .slice Bx Bxn Bxc, .slice Br Brn Brc, .slice Bn Bnn Bnc, .slice Bh Bhn Bhc, .slice Bl Bln Blc]
  simp only [World.size_alloc] at bB bZ
  have rA := (ha.under hB0).up hB0.size
  have rB := (hb.under hB0).up hB0.size
  have HHV := Lib.hid (heavy_any (some ⟨w.heap.size + 1 + 1, 0, none⟩) 2 2 [(⟨⟨Aa, Aan, Aac⟩, ⟨At, Atn, Atc⟩, ⟨Ax, Axn, Axc⟩, ⟨Ar, Arn, Arc⟩, ⟨An, Ann, Anc⟩, ⟨Ah, Ahn, Ahc⟩, ⟨Al, Aln, Alc⟩⟩, a), (⟨⟨Ba, Ban, Bac⟩, ⟨Bt, Btn, Btc⟩, ⟨Bx, Bxn, Bxc⟩, ⟨Br, Brn, Brc⟩, ⟨Bn, Bnn, Bnc⟩, ⟨Bh, Bhn, Bhc⟩, ⟨Bl, Bln, Blc⟩⟩, b)] _ (by omega) (sl_two7 (H := ⟨⟨Aa, Aan, Aac⟩, ⟨At, Atn, Atc⟩, ⟨Ax, Axn, Axc⟩, ⟨Ar, Arn, Arc⟩, ⟨An, Ann, Anc⟩, ⟨Ah, Ahn, Ahc⟩, ⟨Al, Aln, Alc⟩⟩) (K := ⟨⟨Ba, Ban, Bac⟩, ⟨Bt, Btn, Btc⟩, ⟨Bx, Bxn, Bxc⟩, ⟨Br, Brn, Brc⟩, ⟨Bn, Bnn, Bnc⟩, ⟨Bh, Bhn, Bhc⟩, ⟨Bl, Bln, Blc⟩⟩) bZ) (fun x hx => by
      simp at hx
      rcases hx with rfl | rfl
      · exact rA
      · exact rB))
  go_enter Try.func12, Try.ntmps12
  go_wp2_with fail
  refine HHV.out.mono ?_
  rintro e' w1 ⟨bb, rfl, hb1⟩
  have hB1 := hB0.trans (hb1.mono hB0.size)
  have RA := Lib.hid ((rA.under hb1).up hb1.size)
  have BA := bA.below hb1
  have RB := Lib.hid ((rB.under hb1).up hb1.size)
  have BB := bB.below hb1
  clear bA bB bZ rA rB ha hb hB0 HHV hb1
  cases bb with
  | true =>
    go_wp2
    go_ret
    exact ⟨rfl, hB1⟩
  | false =>
    have HW : Below w1.heap.size w1 w1 := Below.refl _ _
    obtain ⟨⟨x, n⟩, hx0⟩ : ∃ p, Cor.cat a b = p := ⟨_, rfl⟩
    obtain ⟨zn, hzn⟩ : ∃ z : Int, (n : Int) = z := ⟨_, rfl⟩
    have HX := Lib.hid hx0
    have ZN := Lib.hid hzn
    clear hx0 hzn
    have CT := Lib.hid (concat_z ⟨⟨Aa, Aan, Aac⟩, ⟨At, Atn, Atc⟩, ⟨Ax, Axn, Axc⟩, ⟨Ar, Arn, Arc⟩, ⟨An, Ann, Anc⟩, ⟨Ah, Ahn, Ahc⟩, ⟨Al, Aln, Alc⟩⟩ ⟨⟨Ba, Ban, Bac⟩, ⟨Bt, Btn, Btc⟩, ⟨Bx, Bxn, Bxc⟩, ⟨Br, Brn, Brc⟩, ⟨Bn, Bnn, Bnc⟩, ⟨Bh, Bhn, Bhc⟩, ⟨Bl, Bln, Blc⟩⟩ HX.out w1 RA.out RB.out)
    have q0 := BA.cell 0
    have q1 := BA.cell 1
    have q2 := BA.cell 2
    have q3 := BA.cell 3
    have q4 := BA.cell 4
    have q5 := BA.cell 5
    have q6 := BA.cell 6
    have k0 := BB.cell 0
    have k1 := BB.cell 1
    have k2 := BB.cell 2
    have k3 := BB.cell 3
    have k4 := BB.cell 4
    have k5 := BB.cell 5
    have k6 := BB.cell 6
    go_upto_region 4 with (go_at_call 30; refine (CT.out zn ZN.out).mono ?_; rintro e' wx ⟨⟨⟨Pa, Pan, Pac⟩, ⟨Pt, Ptn, Ptc⟩, ⟨Px, Pxn, Pxc⟩, ⟨Pr, Prn, Prc⟩, ⟨Pn, Pnn, Pnc⟩, ⟨Ph, Phn, Phc⟩, ⟨Pl, Pln, Plc⟩⟩, rfl, rx, hx⟩; simp only [CH.v, CH.cs, Hd.v])
    clear q0 q1 q2 q3 q4 q5 q6 k0 k1 k2 k3 k4 k5 k6 CT
    have ha := (Below.refl wx.heap.size wx).alloc (Nat.le_refl _) (.cells #[.slice Pa Pan Pac, .slice Pt Ptn Ptc, .slice Px Pxn Pxc, .slice Pr Prn Prc, .slice Pn Pnn Pnc, .slice Ph Phn Phc, .slice Pl Pln Plc] 30)
    have hxa := hx.trans (ha.mono hx.size)
    replace BA := BA.below hxa
    replace BB := BB.below hxa
    replace RA := Lib.hid ((RA.out.under hxa).up hxa.size)
    replace RB := Lib.hid ((RB.out.under hxa).up hxa.size)
    replace HW := HW.trans (hxa.mono HW.size)
    have BP := Blk.new wx 30 #[.slice Pa Pan Pac, .slice Pt Ptn Ptc, .slice Px Pxn Pxc, .slice Pr Prn Prc, .slice Pn Pnn Pnc, .slice Ph Phn Phc, .slice Pl Pln Plc]
    have RP := Lib.hid ((rx.under ha).up ha.size)
    clear rx hx ha hxa
    generalize wx.alloc (.cells #[.slice Pa Pan Pac, .slice Pt Ptn Ptc, .slice Px Pxn Pxc, .slice Pr Prn Prc, .slice Pn Pnn Pnc, .slice Ph Phn Phc, .slice Pl Pln Plc] 30) = w2 at BA BB BP RA RB RP HW ⊢
    generalize wx.heap.size = gP at BP ⊢
    clear wx
    by_cases hn : n = 0
    · obtain rfl : zn = 0 := by have := ZN.out; omega
      subst hn
      have HC := Lib.hid (cat_ok.1 HX.out)
      have hck : (Cor.check x).2.2 = 0 := by have h := vd_iff.2 HC.out.vd; unfold Cor.valid at h; simpa using h
      have VT := validate_any ⟨⟨Pa, Pan, Pac⟩, ⟨Pt, Ptn, Ptc⟩, ⟨Px, Pxn, Pxc⟩, ⟨Pr, Prn, Prc⟩, ⟨Pn, Pnn, Pnc⟩, ⟨Ph, Phn, Phc⟩, ⟨Pl, Pln, Plc⟩⟩ x w2 RP.out
      unfold Valed at VT
      simp only [hck] at VT
      generalize ((Cor.check x).1 : Int) = z1 at VT
      generalize ((Cor.check x).2.1 : Int) = z2 at VT
      have VT := Lib.hid VT
      clear hck
      have q0 := BP.cell 0
      have q1 := BP.cell 1
      have q2 := BP.cell 2
      have q3 := BP.cell 3
      have q4 := BP.cell 4
      have q5 := BP.cell 5
      have q6 := BP.cell 6
      go_upto_region 7 with (first
        | (go_at_call 15; refine VT.out.mono ?_; rintro e' wx ⟨rfl, hx⟩))
      clear q0 q1 q2 q3 q4 q5 q6 VT
      replace BA := BA.below hx
      replace BB := BB.below hx
      replace BP := BP.below hx
      replace RA := Lib.hid ((RA.out.under hx).up hx.size)
      replace RB := Lib.hid ((RB.out.under hx).up hx.size)
      replace RP := Lib.hid ((RP.out.under hx).up hx.size)
      replace HW := HW.trans (hx.mono HW.size)
      clear hx
      have LA : Hid (a.texts.length = Axn) := RA.out.x.len
      have LB : Hid (b.texts.length = Bxn) := RB.out.x.len
      have LP : Hid (x.texts.length = Pxn) := RP.out.x.len
      have l2 : Axn + Bxn ≤ 64 := by have h := HC.out.l2; rw [LA.out, LB.out] at h; exact h
      have lp : Hid (Pxn = Axn + Bxn) := by have h := congrArg List.length HC.out.texts; rw [List.length_append, List.length_map, LA.out, LB.out, LP.out] at h; exact h
      have e3 : ((Pxn : Int) == (Axn : Int) + (Bxn : Int)) = true := by have := lp.out; simp; omega
      have e4 : ((Pxn : Int) != (Axn : Int) + (Bxn : Int)) = false := by have := lp.out; simp; omega
      have l3 : Pxn ≤ 64 := by have := lp.out; omega
      have q2 : _ = some (Value.slice Px Pxn Pxc) := BP.cell 2
      have k2 : _ = some (Value.slice Ax Axn Axc) := BA.cell 2
      have u2 : _ = some (Value.slice Bx Bxn Bxc) := BB.cell 2
      go_upto_region 9 with (fail)
      go_wp2
      clear q2 k2 u2 e3 e4
      go_loopw [58] (fun iv wr => ∃ j : Nat, j ≤ Pxn ∧ iv = .int .i64 j ∧ Below wx.heap.size wx wr) (fun iv _ => Pxn - (intOf iv).toNat)
      case atStart => exact ⟨0, Nat.zero_le _, rfl, Below.refl _ _⟩
      case round =>
        obtain ⟨j, hj, rfl, hB⟩ := hrel
        have hBH := Lib.hid hB
        have BA2 := BA.below hB
        have BB2 := BB.below hB
        have BP2 := BP.below hB
        have RA2 := Lib.hid ((RA.out.under hB).up hB.size)
        have RB2 := Lib.hid ((RB.out.under hB).up hB.size)
        have RP2 := Lib.hid ((RP.out.under hB).up hB.size)
        clear hB
        by_cases hlt : j < Pxn
        · obtain ⟨⟨d, nd⟩, hd0⟩ : ∃ p, Cor.ext x (j : Nat) = p := ⟨_, rfl⟩
          have hxl : j < x.texts.length := by rw [LP.out]; exact hlt
          obtain rfl : nd = 0 := by have h := ext_ok HC.out.vd hxl; rw [hd0] at h; exact congrArg Prod.snd h
          have RJ : Rng (j : Nat) := by unfold Rng; omega
          have ED := Lib.hid (extract_z ⟨⟨Pa, Pan, Pac⟩, ⟨Pt, Ptn, Ptc⟩, ⟨Px, Pxn, Pxc⟩, ⟨Pr, Prn, Prc⟩, ⟨Pn, Pnn, Pnc⟩, ⟨Ph, Phn, Phc⟩, ⟨Pl, Pln, Plc⟩⟩ hd0 wr RJ RP2.out 0 rfl)
          have HD := Lib.hid hd0
          have HRJ := Lib.hid RJ
          clear hd0 hxl RJ
          have q0 := BP2.cell 0
          have q1 := BP2.cell 1
          have q2 := BP2.cell 2
          have q3 := BP2.cell 3
          have q4 := BP2.cell 4
          have q5 := BP2.cell 5
          have q6 := BP2.cell 6
          go_upto_region 13 with (go_at_call 21; refine ED.out.mono ?_; rintro e' w4 ⟨⟨⟨Da, Dan, Dac⟩, ⟨Dt, Dtn, Dtc⟩, ⟨Dx, Dxn, Dxc⟩, ⟨Dr, Drn, Drc⟩, ⟨Dn, Dnn, Dnc⟩, ⟨Dh, Dhn, Dhc⟩, ⟨Dl, Dln, Dlc⟩⟩, rfl, rx, hx⟩; simp only [CH.v, CH.cs, Hd.v])
          clear q0 q1 q2 q3 q4 q5 q6 ED
          have ha := (Below.refl w4.heap.size w4).alloc (Nat.le_refl _) (.cells #[.slice Da Dan Dac, .slice Dt Dtn Dtc, .slice Dx Dxn Dxc, .slice Dr Drn Drc, .slice Dn Dnn Dnc, .slice Dh Dhn Dhc, .slice Dl Dln Dlc] 30)
          have hxa := hx.trans (ha.mono hx.size)
          replace BA2 := BA2.below hxa
          replace BB2 := BB2.below hxa
          replace RA2 := Lib.hid ((RA2.out.under hxa).up hxa.size)
          replace RB2 := Lib.hid ((RB2.out.under hxa).up hxa.size)
          have HW5 : Below wx.heap.size wx (w4.alloc (.cells #[.slice Da Dan Dac, .slice Dt Dtn Dtc, .slice Dx Dxn Dxc, .slice Dr Drn Drc, .slice Dn Dnn Dnc, .slice Dh Dhn Dhc, .slice Dl Dln Dlc] 30)) := hBH.out.trans (hxa.mono hBH.out.size)
          have BD := Blk.new w4 30 #[.slice Da Dan Dac, .slice Dt Dtn Dtc, .slice Dx Dxn Dxc, .slice Dr Drn Drc, .slice Dn Dnn Dnc, .slice Dh Dhn Dhc, .slice Dl Dln Dlc]
          have RD := Lib.hid ((rx.reads.under ha).up ha.size)
          clear rx hx ha hxa BP2 RP2
          generalize w4.alloc (.cells #[.slice Da Dan Dac, .slice Dt Dtn Dtc, .slice Dx Dxn Dxc, .slice Dr Drn Drc, .slice Dn Dnn Dnc, .slice Dh Dhn Dhc, .slice Dl Dln Dlc] 30) = w5 at BA2 BB2 BD RA2 RB2 RD HW5 ⊢
          generalize w4.heap.size = gD at BD ⊢
          clear w4
          by_cases hja : j < Axn
          · have hal : j < a.texts.length := by rw [LA.out]; exact hja
            have EX := Lib.hid (extract_z ⟨⟨Aa, Aan, Aac⟩, ⟨At, Atn, Atc⟩, ⟨Ax, Axn, Axc⟩, ⟨Ar, Arn, Arc⟩, ⟨An, Ann, Anc⟩, ⟨Ah, Ahn, Ahc⟩, ⟨Al, Aln, Alc⟩⟩ ((HC.out.ext_left hal).symm.trans HD.out) w5 HRJ.out RA2.out 0 rfl)
            clear hal
            have q0 := BA2.cell 0
            have q1 := BA2.cell 1
            have q2 := BA2.cell 2
            have q3 := BA2.cell 3
            have q4 := BA2.cell 4
            have q5 := BA2.cell 5
            have q6 := BA2.cell 6
            go_upto_region 14 with (go_at_call 21; refine EX.out.mono ?_; rintro e' w6 ⟨⟨⟨Xa, Xan, Xac⟩, ⟨Xt, Xtn, Xtc⟩, ⟨Xx, Xxn, Xxc⟩, ⟨Xr, Xrn, Xrc⟩, ⟨Xn, Xnn, Xnc⟩, ⟨Xh, Xhn, Xhc⟩, ⟨Xl, Xln, Xlc⟩⟩, rfl, rx, hx⟩; simp only [CH.v, CH.cs, Hd.v])
            clear q0 q1 q2 q3 q4 q5 q6 EX
            have ha := (Below.refl w6.heap.size w6).alloc (Nat.le_refl _) (.cells #[.slice Xa Xan Xac, .slice Xt Xtn Xtc, .slice Xx Xxn Xxc, .slice Xr Xrn Xrc, .slice Xn Xnn Xnc, .slice Xh Xhn Xhc, .slice Xl Xln Xlc] 30)
            have hxa := hx.trans (ha.mono hx.size)
            replace BA2 := BA2.below hxa
            replace BD := BD.below hxa
            replace RD := Lib.hid ((RD.out.under hxa).up hxa.size)
            replace HW5 := HW5.trans (hxa.mono HW5.size)
            have BX := Blk.new w6 30 #[.slice Xa Xan Xac, .slice Xt Xtn Xtc, .slice Xx Xxn Xxc, .slice Xr Xrn Xrc, .slice Xn Xnn Xnc, .slice Xh Xhn Xhc, .slice Xl Xln Xlc]
            have RX := Lib.hid ((rx.reads.under ha).up ha.size)
            clear rx hx ha hxa BB2 RB2 RA2
            generalize w6.alloc (.cells #[.slice Xa Xan Xac, .slice Xt Xtn Xtc, .slice Xx Xxn Xxc, .slice Xr Xrn Xrc, .slice Xn Xnn Xnc, .slice Xh Xhn Xhc, .slice Xl Xln Xlc] 30) = w7 at BA2 BD BX RD RX HW5 ⊢
            generalize w6.heap.size = gX at BX ⊢
            clear w6
            have EE := Lib.hid (equal_any ⟨⟨Da, Dan, Dac⟩, ⟨Dt, Dtn, Dtc⟩, ⟨Dx, Dxn, Dxc⟩, ⟨Dr, Drn, Drc⟩, ⟨Dn, Dnn, Dnc⟩, ⟨Dh, Dhn, Dhc⟩, ⟨Dl, Dln, Dlc⟩⟩ ⟨⟨Xa, Xan, Xac⟩, ⟨Xt, Xtn, Xtc⟩, ⟨Xx, Xxn, Xxc⟩, ⟨Xr, Xrn, Xrc⟩, ⟨Xn, Xnn, Xnc⟩, ⟨Xh, Xhn, Xhc⟩, ⟨Xl, Xln, Xlc⟩⟩ d d w7 RD.out RX.out)
            rw [same_t rfl] at EE
            have k2 : _ = some (Value.slice Ax Axn Axc) := BA2.cell 2
            have q0 := BD.cell 0
            have q1 := BD.cell 1
            have q2 := BD.cell 2
            have q3 := BD.cell 3
            have q4 := BD.cell 4
            have q5 := BD.cell 5
            have q6 := BD.cell 6
            have u0 := BX.cell 0
            have u1 := BX.cell 1
            have u2 := BX.cell 2
            have u3 := BX.cell 3
            have u4 := BX.cell 4
            have u5 := BX.cell 5
            have u6 := BX.cell 6
            go_wp2_with (go_at_call 29; refine EE.out.mono ?_; rintro e' w8 ⟨rfl, hx⟩)
            go_roundw
            case rel => first | exact ⟨j + 1, by omega, by go_num, HW5.trans (hx.mono HW5.size)⟩ | ((repeat apply Exists.intro); exact ⟨⟨j + 1, by omega, by go_num, HW5.trans (hx.mono HW5.size)⟩, rfl⟩)
            case measure => simp [intOf]; omega
          · have hext : Cor.ext a (j : Nat) = (Cor.nil, 8) := by
              unfold Cor.ext
              rw [if_neg (by rw [vd_iff.2 HC.out.va]; simp), if_pos (by right; rw [LA.out]; omega)]
            have EX := Lib.hid (extract_z ⟨⟨Aa, Aan, Aac⟩, ⟨At, Atn, Atc⟩, ⟨Ax, Axn, Axc⟩, ⟨Ar, Arn, Arc⟩, ⟨An, Ann, Anc⟩, ⟨Ah, Ahn, Ahc⟩, ⟨Al, Aln, Alc⟩⟩ hext w5 HRJ.out RA2.out 8 rfl)
            clear hext
            obtain ⟨i, hi⟩ : ∃ i, i = j - Axn := ⟨_, rfl⟩
            have HI := Lib.hid hi
            have hbl : i < b.texts.length := by rw [LB.out]; have := lp.out; omega
            have eji : Hid (Axn + i = j) := by show _ = _; omega
            have HE2 : Hid (Cor.ext b (i : Nat) = (d, 0)) := by
              have h := HC.out.ext_right hbl
              rw [LA.out, eji.out] at h
              exact h.symm.trans HD.out
            have RI : Rng (i : Nat) := by unfold Rng; omega
            have HRI := Lib.hid RI
            have hi64 : i ≤ 64 := by omega
            clear hi hbl RI
            have q0 := BA2.cell 0
            have q1 := BA2.cell 1
            have q2 := BA2.cell 2
            have q3 := BA2.cell 3
            have q4 := BA2.cell 4
            have q5 := BA2.cell 5
            have q6 := BA2.cell 6
            go_upto_region 14 with (go_at_call 21; refine EX.out.mono ?_; rintro e' w6 ⟨⟨⟨Xa, Xan, Xac⟩, ⟨Xt, Xtn, Xtc⟩, ⟨Xx, Xxn, Xxc⟩, ⟨Xr, Xrn, Xrc⟩, ⟨Xn, Xnn, Xnc⟩, ⟨Xh, Xhn, Xhc⟩, ⟨Xl, Xln, Xlc⟩⟩, rfl, rx, hx⟩; simp only [CH.v, CH.cs, Hd.v])
            clear q0 q1 q2 q3 q4 q5 q6 EX rx
            replace BA2 := BA2.below hx
            replace BB2 := BB2.below hx
            replace BD := BD.below hx
            replace RD := Lib.hid ((RD.out.under hx).up hx.size)
            replace RB2 := Lib.hid ((RB2.out.under hx).up hx.size)
            replace HW5 := HW5.trans (hx.mono HW5.size)
            clear hx RA2
            have h6 := (Below.refl w6.heap.size w6).alloc (Nat.le_refl _) (.cells #[.slice Xa Xan Xac, .slice Xt Xtn Xtc, .slice Xx Xxn Xxc, .slice Xr Xrn Xrc, .slice Xn Xnn Xnc, .slice Xh Xhn Xhc, .slice Xl Xln Xlc] 30)
            have BX := Blk.new w6 30 #[.slice Xa Xan Xac, .slice Xt Xtn Xtc, .slice Xx Xxn Xxc, .slice Xr Xrn Xrc, .slice Xn Xnn Xnc, .slice Xh Xhn Xhc, .slice Xl Xln Xlc]
            have BA3 := BA2.below h6
            have BB3 := BB2.below h6
            have RB3 := Lib.hid ((RB2.out.under h6).up h6.size)
            generalize w6.alloc (.cells #[.slice Xa Xan Xac, .slice Xt Xtn Xtc, .slice Xx Xxn Xxc, .slice Xr Xrn Xrc, .slice Xn Xnn Xnc, .slice Xh Xhn Xhc, .slice Xl Xln Xlc] 30) = w7 at BX BA3 BB3 RB3 h6 ⊢
            have ES := Lib.hid (extract_z ⟨⟨Ba, Ban, Bac⟩, ⟨Bt, Btn, Btc⟩, ⟨Bx, Bxn, Bxc⟩, ⟨Br, Brn, Brc⟩, ⟨Bn, Bnn, Bnc⟩, ⟨Bh, Bhn, Bhc⟩, ⟨Bl, Bln, Blc⟩⟩ HE2.out w7 HRI.out RB3.out 0 rfl)
            have k2 : _ = some (Value.slice Ax Axn Axc) := BA3.cell 2
            have dja : decide (Axn ≤ j) = true := by simp; omega
            have dja2 : decide ((Axn : Int) ≤ (j : Int)) = true := by simp; omega
            have esub : ((j : Int) - (Axn : Int)) = (i : Int) := by have := eji.out; omega
            have q0 := BB3.cell 0
            have q1 := BB3.cell 1
            have q2 := BB3.cell 2
            have q3 := BB3.cell 3
            have q4 := BB3.cell 4
            have q5 := BB3.cell 5
            have q6 := BB3.cell 6
            go_upto_region 15 with (fail)
            go_upto_region 16 with (go_at_call 21; (try rw [esub]); refine ES.out.mono ?_; rintro e' w8 ⟨⟨⟨Sa, San, Sac⟩, ⟨St, Stn, Stc⟩, ⟨Sx, Sxn, Sxc⟩, ⟨Sr, Srn, Src⟩, ⟨Sn, Snn, Snc⟩, ⟨Sh, Shn, Shc⟩, ⟨Sl, Sln, Slc⟩⟩, rfl, rx, hx⟩; simp only [CH.v, CH.cs, Hd.v]; have bX8 := BX.below hx; have x0 := bX8.cell 0; have x1 := bX8.cell 1; have x2 := bX8.cell 2; have x3 := bX8.cell 3; have x4 := bX8.cell 4; have x5 := bX8.cell 5; have x6 := bX8.cell 6; have f0 := bX8.free 0; have f1 := bX8.free 1; have f2 := bX8.free 2; have f3 := bX8.free 3; have f4 := bX8.free 4; have f5 := bX8.free 5; have f6 := bX8.free 6)
            have BX9 := blk7 bX8 (.slice Sa San Sac) (.slice St Stn Stc) (.slice Sx Sxn Sxc) (.slice Sr Srn Src) (.slice Sn Snn Snc) (.slice Sh Shn Shc) (.slice Sl Sln Slc)
            have h68 := h6.trans (hx.mono h6.size)
            have h69 := below7 h68 (Nat.le_refl _) (.slice Sa San Sac) (.slice St Stn Stc) (.slice Sx Sxn Sxc) (.slice Sr Srn Src) (.slice Sn Snn Snc) (.slice Sh Shn Shc) (.slice Sl Sln Slc)
            have RX := Lib.hid ((rx.off (off7 bX8 (.slice Sa San Sac) (.slice St Stn Stc) (.slice Sx Sxn Sxc) (.slice Sr Srn Src) (.slice Sn Snn Snc) (.slice Sh Shn Shc) (.slice Sl Sln Slc))).reads)
            have BD9 := BD.below h69
            have RD9 := Lib.hid ((RD.out.under h69).up h69.size)
            have HW9 := HW5.trans (h69.mono HW5.size)
            clear BX bX8 x0 x1 x2 x3 x4 x5 x6 f0 f1 f2 f3 f4 f5 f6 rx hx h6 h68 h69 BA3 BB3 RB3 ES k2 dja dja2 esub q0 q1 q2 q3 q4 q5 q6
            generalize (((((((w8.setCell ⟨w6.heap.size, 0, none⟩ (.slice Sa San Sac)).setCell ⟨w6.heap.size, 1, none⟩ (.slice St Stn Stc)).setCell ⟨w6.heap.size, 2, none⟩ (.slice Sx Sxn Sxc)).setCell ⟨w6.heap.size, 3, none⟩ (.slice Sr Srn Src)).setCell ⟨w6.heap.size, 4, none⟩ (.slice Sn Snn Snc)).setCell ⟨w6.heap.size, 5, none⟩ (.slice Sh Shn Shc)).setCell ⟨w6.heap.size, 6, none⟩ (.slice Sl Sln Slc)) = w9 at BX9 BD9 RD9 RX HW9 ⊢
            have EE := Lib.hid (equal_any ⟨⟨Da, Dan, Dac⟩, ⟨Dt, Dtn, Dtc⟩, ⟨Dx, Dxn, Dxc⟩, ⟨Dr, Drn, Drc⟩, ⟨Dn, Dnn, Dnc⟩, ⟨Dh, Dhn, Dhc⟩, ⟨Dl, Dln, Dlc⟩⟩ ⟨⟨Sa, San, Sac⟩, ⟨St, Stn, Stc⟩, ⟨Sx, Sxn, Sxc⟩, ⟨Sr, Srn, Src⟩, ⟨Sn, Snn, Snc⟩, ⟨Sh, Shn, Shc⟩, ⟨Sl, Sln, Slc⟩⟩ d d w9 RD9.out RX.out)
            rw [same_t rfl] at EE
            have q0 := BD9.cell 0
            have q1 := BD9.cell 1
            have q2 := BD9.cell 2
            have q3 := BD9.cell 3
            have q4 := BD9.cell 4
            have q5 := BD9.cell 5
            have q6 := BD9.cell 6
            have u0 := BX9.cell 0
            have u1 := BX9.cell 1
            have u2 := BX9.cell 2
            have u3 := BX9.cell 3
            have u4 := BX9.cell 4
            have u5 := BX9.cell 5
            have u6 := BX9.cell 6
            go_wp2_with (go_at_call 29; refine EE.out.mono ?_; rintro e' w10 ⟨rfl, hx⟩)
            go_roundw
            case rel => first | exact ⟨j + 1, by omega, by go_num, HW9.trans (hx.mono HW9.size)⟩ | ((repeat apply Exists.intro); exact ⟨⟨j + 1, by omega, by go_num, HW9.trans (hx.mono HW9.size)⟩, rfl⟩)
            case measure => simp [intOf]; omega
        · obtain rfl : Pxn = j := by omega
          clear BA2 RA2 BB2 RB2 BP2 RP2
          go_wp2_with (go_at_call 17; refine (awake_any _).mono ?_; rintro e' w11 ⟨rfl, hb11⟩)
          go_ret
          have h9 := hBH.out.trans (hb11.mono hBH.out.size)
          have hw := HW.trans (h9.mono HW.size)
          exact ⟨rfl, hB1.trans (hw.mono hB1.size)⟩
    · have e1 : (zn == 0) = false := by have := ZN.out; simp; omega
      have hp : Ptn = 0 := by
        have h : x.toks.length = Ptn := RP.out.t.len
        have h2 : x = Cor.nil := cat_err HX.out hn
        rw [h2] at h; exact h.symm
      subst hp
      have q1 : _ = some (Value.slice Pt 0 Ptc) := BP.cell 1
      go_wp2_with (go_at_call 17; refine (awake_any _).mono ?_; rintro e' w11 ⟨rfl, hb11⟩)
      go_ret
      have hw := HW.trans (hb11.mono HW.size)
      exact ⟨rfl, hB1.trans (hw.mono hB1.size)⟩
end Go.Proofs.Ytaihgoohmcipkaa
