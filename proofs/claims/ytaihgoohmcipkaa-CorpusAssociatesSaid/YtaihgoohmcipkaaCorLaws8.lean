/-
  The law CorpusAssociates returns true. Conditions: none but that the arguments read as they do.
-/
import Derived.Test.YtaihgoohmcipkaaCorLaws3
import Derived.Test.YtaihgoohmcipkaaCorLawsK
namespace Go.Proofs.Ytaihgoohmcipkaa
set_option linter.unusedSimpArgs false
set_option linter.unusedVariables false
open Go.RowKit Utf
open Feat (Bs)

theorem sl_three7 {w : World} {g : Nat} {H K M : CH} {c d e : Cor.C} (h : Blk w g 30 #[H.a.v, H.t.v, H.x.v, H.r.v, H.n.v, H.h.v, H.l.v, K.a.v, K.t.v, K.x.v, K.r.v, K.n.v, K.h.v, K.l.v, M.a.v, M.t.v, M.x.v, M.r.v, M.n.v, M.h.v, M.l.v]) : Sl w w.heap.size 7 (some ⟨g, 0, none⟩) 3 ([(H, c), (K, d), (M, e)].flatMap heV) := by
  refine sl_blk (cs := #[H.a.v, H.t.v, H.x.v, H.r.v, H.n.v, H.h.v, H.l.v, K.a.v, K.t.v, K.x.v, K.r.v, K.n.v, K.h.v, K.l.v, M.a.v, M.t.v, M.x.v, M.r.v, M.n.v, M.h.v, M.l.v]) h (by simp [heV]) (by simp [heV])

set_option maxRecDepth 100000 in
set_option maxHeartbeats 16000000 in
theorem law_assoc (H K M : CH) (a b c : Cor.C) (w : World) (ha : Reads w w.heap.size H a) (hb : Reads w w.heap.size K b) (hc : Reads w w.heap.size M c) : Calls Try.prog 11 #[H.v, K.v, M.v] w (Kept (.bool true) w) := by
  obtain ⟨⟨Aa, Aan, Aac⟩, ⟨At, Atn, Atc⟩, ⟨Ax, Axn, Axc⟩, ⟨Ar, Arn, Arc⟩, ⟨An, Ann, Anc⟩, ⟨Ah, Ahn, Ahc⟩, ⟨Al, Aln, Alc⟩⟩ := H
  obtain ⟨⟨Ba, Ban, Bac⟩, ⟨Bt, Btn, Btc⟩, ⟨Bx, Bxn, Bxc⟩, ⟨Br, Brn, Brc⟩, ⟨Bn, Bnn, Bnc⟩, ⟨Bh, Bhn, Bhc⟩, ⟨Bl, Bln, Blc⟩⟩ := K
  obtain ⟨⟨Ca, Can, Cac⟩, ⟨Ct, Ctn, Ctc⟩, ⟨Cx, Cxn, Cxc⟩, ⟨Cr, Crn, Crc⟩, ⟨Cn, Cnn, Cnc⟩, ⟨Ch, Chn, Chc⟩, ⟨Cl, Cln, Clc⟩⟩ := M
  show Calls Try.prog 11 #[.agg #[.slice Aa Aan Aac, .slice At Atn Atc, .slice Ax Axn Axc, .slice Ar Arn Arc, .slice An Ann Anc, .slice Ah Ahn Ahc, .slice Al Aln Alc], .agg #[.slice Ba Ban Bac, .slice Bt Btn Btc, .slice Bx Bxn Bxc, .slice Br Brn Brc, .slice Bn Bnn Bnc, .slice Bh Bhn Bhc, .slice Bl Bln Blc], .agg #[.slice Ca Can Cac, .slice Ct Ctn Ctc, .slice Cx Cxn Cxc, .slice Cr Crn Crc, .slice Cn Cnn Cnc, .slice Ch Chn Chc, .slice Cl Cln Clc]] w _
  have hB0 := (((((Below.refl w.heap.size w).alloc (Nat.le_refl _) (.cells #[.slice Aa Aan Aac, .slice At Atn Atc, .slice Ax Axn Axc, .slice Ar Arn Arc, .slice An Ann Anc, .slice Ah Ahn Ahc, .slice Al Aln Alc] 30)).alloc (by simp <;> omega) (.cells #[.slice Ba Ban Bac, .slice Bt Btn Btc, .slice Bx Bxn Bxc, .slice Br Brn Brc, .slice Bn Bnn Bnc, .slice Bh Bhn Bhc, .slice Bl Bln Blc] 30)).alloc (by simp <;> omega) (.cells #[.slice Ca Can Cac, .slice Ct Ctn Ctc, .slice Cx Cxn Cxc, .slice Cr Crn Crc, .slice Cn Cnn Cnc, .slice Ch Chn Chc, .slice Cl Cln Clc] 30)).alloc (by simp <;> omega) (.cells #[.slice Aa Aan Aac, .slice At Atn Atc, .slice Ax Axn Axc, .slice Ar Arn Arc, .slice An Ann Anc, .slice Ah Ahn Ahc, .slice Al Aln Alc, .slice Ba Ban Bac, .slice Bt Btn Btc, .slice Bx Bxn Bxc, .slice Br Brn Brc, .slice Bn Bnn Bnc, .slice Bh Bhn Bhc, .slice Bl Bln Blc, .slice Ca Can Cac, .slice Ct Ctn Ctc, .slice Cx Cxn Cxc, .slice Cr Crn Crc, .slice Cn Cnn Cnc, .slice Ch Chn Chc, .slice Cl Cln Clc] 30))
  have bA := (((Blk.new w 30 #[.slice Aa Aan Aac, .slice At Atn Atc, .slice Ax Axn Axc, .slice Ar Arn Arc, .slice An Ann Anc, .slice Ah Ahn Ahc, .slice Al Aln Alc]).alloc (.cells #[.slice Ba Ban Bac, .slice Bt Btn Btc, .slice Bx Bxn Bxc, .slice Br Brn Brc, .slice Bn Bnn Bnc, .slice Bh Bhn Bhc, .slice Bl Bln Blc] 30)).alloc (.cells #[.slice Ca Can Cac, .slice Ct Ctn Ctc, .slice Cx Cxn Cxc, .slice Cr Crn Crc, .slice Cn Cnn Cnc, .slice Ch Chn Chc, .slice Cl Cln Clc] 30)).alloc (.cells #[.slice Aa Aan Aac, .slice At Atn Atc, .slice Ax Axn Axc, .slice Ar Arn Arc, .slice An Ann Anc, .slice Ah Ahn Ahc, .slice Al Aln Alc, .slice Ba Ban Bac, .slice Bt Btn Btc, .slice Bx Bxn Bxc, .slice Br Brn Brc, .slice Bn Bnn Bnc, .slice Bh Bhn Bhc, .slice Bl Bln Blc, .slice Ca Can Cac, .slice Ct Ctn Ctc, .slice Cx Cxn Cxc, .slice Cr Crn Crc, .slice Cn Cnn Cnc, .slice Ch Chn Chc, .slice Cl Cln Clc] 30)
  have bB := ((Blk.new (w.alloc (.cells #[.slice Aa Aan Aac, .slice At Atn Atc, .slice Ax Axn Axc, .slice Ar Arn Arc, .slice An Ann Anc, .slice Ah Ahn Ahc, .slice Al Aln Alc] 30)) 30 #[.slice Ba Ban Bac, .slice Bt Btn Btc, .slice Bx Bxn Bxc, .slice Br Brn Brc, .slice Bn Bnn Bnc, .slice Bh Bhn Bhc, .slice Bl Bln Blc]).alloc (.cells #[.slice Ca Can Cac, .slice Ct Ctn Ctc, .slice Cx Cxn Cxc, .slice Cr Crn Crc, .slice Cn Cnn Cnc, .slice Ch Chn Chc, .slice Cl Cln Clc] 30)).alloc (.cells #[.slice Aa Aan Aac, .slice At Atn Atc, .slice Ax Axn Axc, .slice Ar Arn Arc, .slice An Ann Anc, .slice Ah Ahn Ahc, .slice Al Aln Alc, .slice Ba Ban Bac, .slice Bt Btn Btc, .slice Bx Bxn Bxc, .slice Br Brn Brc, .slice Bn Bnn Bnc, .slice Bh Bhn Bhc, .slice Bl Bln Blc, .slice Ca Can Cac, .slice Ct Ctn Ctc, .slice Cx Cxn Cxc, .slice Cr Crn Crc, .slice Cn Cnn Cnc, .slice Ch Chn Chc, .slice Cl Cln Clc] 30)
  have bC := (Blk.new ((w.alloc (.cells #[.slice Aa Aan Aac, .slice At Atn Atc, .slice Ax Axn Axc, .slice Ar Arn Arc, .slice An Ann Anc, .slice Ah Ahn Ahc, .slice Al Aln Alc] 30)).alloc (.cells #[.slice Ba Ban Bac, .slice Bt Btn Btc, .slice Bx Bxn Bxc, .slice Br Brn Brc, .slice Bn Bnn Bnc, .slice Bh Bhn Bhc, .slice Bl Bln Blc] 30)) 30 #[.slice Ca Can Cac, .slice Ct Ctn Ctc, .slice Cx Cxn Cxc, .slice Cr Crn Crc, .slice Cn Cnn Cnc, .slice Ch Chn Chc, .slice Cl Cln Clc]).alloc (.cells #[.slice Aa Aan Aac, .slice At Atn Atc, .slice Ax Axn Axc, .slice Ar Arn Arc, .slice An Ann Anc, .slice Ah Ahn Ahc, .slice Al Aln Alc, .slice Ba Ban Bac, .slice Bt Btn Btc, .slice Bx Bxn Bxc, .slice Br Brn Brc, .slice Bn Bnn Bnc, .slice Bh Bhn Bhc, .slice Bl Bln Blc, .slice Ca Can Cac, .slice Ct Ctn Ctc, .slice Cx Cxn Cxc, .slice Cr Crn Crc, .slice Cn Cnn Cnc, .slice Ch Chn Chc, .slice Cl Cln Clc] 30)
  have bZ := Blk.new (((w.alloc (.cells #[.slice Aa Aan Aac, .slice At Atn Atc, .slice Ax Axn Axc, .slice Ar Arn Arc, .slice An Ann Anc, .slice Ah Ahn Ahc, .slice Al Aln Alc] 30)).alloc (.cells #[.slice Ba Ban Bac, .slice Bt Btn Btc, .slice Bx Bxn Bxc, .slice Br Brn Brc, .slice Bn Bnn Bnc, .slice Bh Bhn Bhc, .slice Bl Bln Blc] 30)).alloc (.cells #[.slice Ca Can Cac, .slice Ct Ctn Ctc, .slice Cx Cxn Cxc, .slice Cr Crn Crc, .slice Cn Cnn Cnc, .slice Ch Chn Chc, .slice Cl Cln Clc] 30)) 30 #[.slice Aa Aan Aac, .slice At Atn Atc, .slice Ax Axn Axc, .slice Ar Arn Arc, .slice An Ann Anc, .slice Ah Ahn Ahc, .slice Al Aln Alc, .slice Ba Ban Bac, .slice Bt Btn Btc, .slice Bx Bxn Bxc, .slice Br Brn Brc, .slice Bn Bnn Bnc, .slice Bh Bhn Bhc, .slice Bl Bln Blc, .slice Ca Can Cac, .slice Ct Ctn Ctc, .slice Cx Cxn Cxc, .slice Cr Crn Crc, .slice Cn Cnn Cnc, .slice Ch Chn Chc, .slice Cl Cln Clc]
  simp only [World.size_alloc] at bB bC bZ
  have rA := (ha.under hB0).up hB0.size
  have rB := (hb.under hB0).up hB0.size
  have rC := (hc.under hB0).up hB0.size
  have HHV := Lib.hid (heavy_any (some ⟨w.heap.size + 1 + 1 + 1, 0, none⟩) 3 3 [(⟨⟨Aa, Aan, Aac⟩, ⟨At, Atn, Atc⟩, ⟨Ax, Axn, Axc⟩, ⟨Ar, Arn, Arc⟩, ⟨An, Ann, Anc⟩, ⟨Ah, Ahn, Ahc⟩, ⟨Al, Aln, Alc⟩⟩, a), (⟨⟨Ba, Ban, Bac⟩, ⟨Bt, Btn, Btc⟩, ⟨Bx, Bxn, Bxc⟩, ⟨Br, Brn, Brc⟩, ⟨Bn, Bnn, Bnc⟩, ⟨Bh, Bhn, Bhc⟩, ⟨Bl, Bln, Blc⟩⟩, b), (⟨⟨Ca, Can, Cac⟩, ⟨Ct, Ctn, Ctc⟩, ⟨Cx, Cxn, Cxc⟩, ⟨Cr, Crn, Crc⟩, ⟨Cn, Cnn, Cnc⟩, ⟨Ch, Chn, Chc⟩, ⟨Cl, Cln, Clc⟩⟩, c)] _ (by omega) (sl_three7 (H := ⟨⟨Aa, Aan, Aac⟩, ⟨At, Atn, Atc⟩, ⟨Ax, Axn, Axc⟩, ⟨Ar, Arn, Arc⟩, ⟨An, Ann, Anc⟩, ⟨Ah, Ahn, Ahc⟩, ⟨Al, Aln, Alc⟩⟩) (K := ⟨⟨Ba, Ban, Bac⟩, ⟨Bt, Btn, Btc⟩, ⟨Bx, Bxn, Bxc⟩, ⟨Br, Brn, Brc⟩, ⟨Bn, Bnn, Bnc⟩, ⟨Bh, Bhn, Bhc⟩, ⟨Bl, Bln, Blc⟩⟩) (M := ⟨⟨Ca, Can, Cac⟩, ⟨Ct, Ctn, Ctc⟩, ⟨Cx, Cxn, Cxc⟩, ⟨Cr, Crn, Crc⟩, ⟨Cn, Cnn, Cnc⟩, ⟨Ch, Chn, Chc⟩, ⟨Cl, Cln, Clc⟩⟩) bZ) (fun x hx => by
      simp at hx
      rcases hx with rfl | rfl | rfl
      · exact rA
      · exact rB
      · exact rC))
  go_enter Try.func11, Try.ntmps11
  go_wp2_with fail
  refine HHV.out.mono ?_
  rintro e' w1 ⟨bb, rfl, hb1⟩
  have hB1 := hB0.trans (hb1.mono hB0.size)
  have RA := Lib.hid ((rA.under hb1).up hb1.size)
  have BA := bA.below hb1
  have RB := Lib.hid ((rB.under hb1).up hb1.size)
  have BB := bB.below hb1
  have RC := Lib.hid ((rC.under hb1).up hb1.size)
  have BC := bC.below hb1
  clear bA bB bC bZ rA rB rC ha hb hc hB0 HHV hb1
  cases bb with
  | true =>
    go_wp2
    go_ret
    exact ⟨rfl, hB1⟩
  | false =>
    have HW : Below w1.heap.size w1 w1 := Below.refl _ _
    obtain ⟨⟨x, n⟩, hx0⟩ : ∃ p, Cor.cat a b = p := ⟨_, rfl⟩
    obtain ⟨⟨y, m⟩, hy0⟩ : ∃ p, Cor.cat b c = p := ⟨_, rfl⟩
    obtain ⟨zn, hzn⟩ : ∃ z : Int, (n : Int) = z := ⟨_, rfl⟩
    obtain ⟨zm, hzm⟩ : ∃ z : Int, (m : Int) = z := ⟨_, rfl⟩
    have HX := Lib.hid hx0
    have HY := Lib.hid hy0
    have ZN := Lib.hid hzn
    have ZM := Lib.hid hzm
    clear hx0 hy0 hzn hzm
    have CT := Lib.hid (concat_z ⟨⟨Aa, Aan, Aac⟩, ⟨At, Atn, Atc⟩, ⟨Ax, Axn, Axc⟩, ⟨Ar, Arn, Arc⟩, ⟨An, Ann, Anc⟩, ⟨Ah, Ahn, Ahc⟩, ⟨Al, Aln, Alc⟩⟩ ⟨⟨Ba, Ban, Bac⟩, ⟨Bt, Btn, Btc⟩, ⟨Bx, Bxn, Bxc⟩, ⟨Br, Brn, Brc⟩, ⟨Bn, Bnn, Bnc⟩, ⟨Bh, Bhn, Bhc⟩, ⟨Bl, Bln, Blc⟩⟩ HX.out w1 RA.out RB.out)
    have q0 := BA.cell 0
    have q1 := BA.cell 1
    have q2 := BA.cell 2
    have q3 := BA.cell 3
    have q4 := BA.cell 4
    have q5 := BA.cell 5
    have q6 := BA.cell 6
    have k0 := BB.cell 0
    have k1 := BB.cell 1
    have k2 := BB.cell 2
    have k3 := BB.cell 3
    have k4 := BB.cell 4
    have k5 := BB.cell 5
    have k6 := BB.cell 6
    go_upto_region 4 with (go_at_call 30; refine (CT.out zn ZN.out).mono ?_; rintro e' wx ⟨⟨⟨Pa, Pan, Pac⟩, ⟨Pt, Ptn, Ptc⟩, ⟨Px, Pxn, Pxc⟩, ⟨Pr, Prn, Prc⟩, ⟨Pn, Pnn, Pnc⟩, ⟨Ph, Phn, Phc⟩, ⟨Pl, Pln, Plc⟩⟩, rfl, rx, hx⟩; simp only [CH.v, CH.cs, Hd.v])
    clear q0 q1 q2 q3 q4 q5 q6 k0 k1 k2 k3 k4 k5 k6 CT
    have ha := (Below.refl wx.heap.size wx).alloc (Nat.le_refl _) (.cells #[.slice Pa Pan Pac, .slice Pt Ptn Ptc, .slice Px Pxn Pxc, .slice Pr Prn Prc, .slice Pn Pnn Pnc, .slice Ph Phn Phc, .slice Pl Pln Plc] 30)
    have hxa := hx.trans (ha.mono hx.size)
    replace BA := BA.below hxa
    replace BB := BB.below hxa
    replace BC := BC.below hxa
    replace RA := Lib.hid ((RA.out.under hxa).up hxa.size)
    replace RB := Lib.hid ((RB.out.under hxa).up hxa.size)
    replace RC := Lib.hid ((RC.out.under hxa).up hxa.size)
    replace HW := HW.trans (hxa.mono HW.size)
    have BP := Blk.new wx 30 #[.slice Pa Pan Pac, .slice Pt Ptn Ptc, .slice Px Pxn Pxc, .slice Pr Prn Prc, .slice Pn Pnn Pnc, .slice Ph Phn Phc, .slice Pl Pln Plc]
    have RP := Lib.hid ((rx.under ha).up ha.size)
    clear rx hx ha hxa
    generalize wx.alloc (.cells #[.slice Pa Pan Pac, .slice Pt Ptn Ptc, .slice Px Pxn Pxc, .slice Pr Prn Prc, .slice Pn Pnn Pnc, .slice Ph Phn Phc, .slice Pl Pln Plc] 30) = w2 at BA BB BC BP RA RB RC RP HW ⊢
    generalize wx.heap.size = gP at BP ⊢
    clear wx
    have CT := Lib.hid (concat_z ⟨⟨Ba, Ban, Bac⟩, ⟨Bt, Btn, Btc⟩, ⟨Bx, Bxn, Bxc⟩, ⟨Br, Brn, Brc⟩, ⟨Bn, Bnn, Bnc⟩, ⟨Bh, Bhn, Bhc⟩, ⟨Bl, Bln, Blc⟩⟩ ⟨⟨Ca, Can, Cac⟩, ⟨Ct, Ctn, Ctc⟩, ⟨Cx, Cxn, Cxc⟩, ⟨Cr, Crn, Crc⟩, ⟨Cn, Cnn, Cnc⟩, ⟨Ch, Chn, Chc⟩, ⟨Cl, Cln, Clc⟩⟩ HY.out w2 RB.out RC.out)
    have q0 := BB.cell 0
    have q1 := BB.cell 1
    have q2 := BB.cell 2
    have q3 := BB.cell 3
    have q4 := BB.cell 4
    have q5 := BB.cell 5
    have q6 := BB.cell 6
    have k0 := BC.cell 0
    have k1 := BC.cell 1
    have k2 := BC.cell 2
    have k3 := BC.cell 3
    have k4 := BC.cell 4
    have k5 := BC.cell 5
    have k6 := BC.cell 6
    go_upto_region 5 with (go_at_call 30; refine (CT.out zm ZM.out).mono ?_; rintro e' wx ⟨⟨⟨Ya, Yan, Yac⟩, ⟨Yt, Ytn, Ytc⟩, ⟨Yx, Yxn, Yxc⟩, ⟨Yr, Yrn, Yrc⟩, ⟨Yn, Ynn, Ync⟩, ⟨Yh, Yhn, Yhc⟩, ⟨Yl, Yln, Ylc⟩⟩, rfl, rx, hx⟩; simp only [CH.v, CH.cs, Hd.v])
    clear q0 q1 q2 q3 q4 q5 q6 k0 k1 k2 k3 k4 k5 k6 CT
    have ha := (Below.refl wx.heap.size wx).alloc (Nat.le_refl _) (.cells #[.slice Ya Yan Yac, .slice Yt Ytn Ytc, .slice Yx Yxn Yxc, .slice Yr Yrn Yrc, .slice Yn Ynn Ync, .slice Yh Yhn Yhc, .slice Yl Yln Ylc] 30)
    have hxa := hx.trans (ha.mono hx.size)
    replace BA := BA.below hxa
    replace BB := BB.below hxa
    replace BC := BC.below hxa
    replace BP := BP.below hxa
    replace RA := Lib.hid ((RA.out.under hxa).up hxa.size)
    replace RB := Lib.hid ((RB.out.under hxa).up hxa.size)
    replace RC := Lib.hid ((RC.out.under hxa).up hxa.size)
    replace RP := Lib.hid ((RP.out.under hxa).up hxa.size)
    replace HW := HW.trans (hxa.mono HW.size)
    have BY := Blk.new wx 30 #[.slice Ya Yan Yac, .slice Yt Ytn Ytc, .slice Yx Yxn Yxc, .slice Yr Yrn Yrc, .slice Yn Ynn Ync, .slice Yh Yhn Yhc, .slice Yl Yln Ylc]
    have RY := Lib.hid ((rx.under ha).up ha.size)
    clear rx hx ha hxa
    generalize wx.alloc (.cells #[.slice Ya Yan Yac, .slice Yt Ytn Ytc, .slice Yx Yxn Yxc, .slice Yr Yrn Yrc, .slice Yn Ynn Ync, .slice Yh Yhn Yhc, .slice Yl Yln Ylc] 30) = w3 at BA BB BC BP BY RA RB RC RP RY HW ⊢
    generalize wx.heap.size = gY at BY ⊢
    clear wx
    by_cases hn : n = 0
    · obtain rfl : zn = 0 := by have := ZN.out; omega
      by_cases hm : m = 0
      · obtain rfl : zm = 0 := by have := ZM.out; omega
        subst hn hm
        have HCX := Lib.hid (cat_ok.1 HX.out)
        have HCY := Lib.hid (cat_ok.1 HY.out)
        obtain ⟨⟨l, k⟩, hl0⟩ : ∃ p, Cor.cat x c = p := ⟨_, rfl⟩
        have HL := Lib.hid hl0
        have HR : Hid (Cor.cat a y = (l, k)) := by show _ = _; rw [← cat_assoc HCX.out HCY.out]; exact HL.out
        obtain ⟨zk, hzk⟩ : ∃ z : Int, (k : Int) = z := ⟨_, rfl⟩
        have ZK := Lib.hid hzk
        clear hl0 hzk
        go_upto_region 7 with (fail)
        have CT := Lib.hid (concat_z ⟨⟨Pa, Pan, Pac⟩, ⟨Pt, Ptn, Ptc⟩, ⟨Px, Pxn, Pxc⟩, ⟨Pr, Prn, Prc⟩, ⟨Pn, Pnn, Pnc⟩, ⟨Ph, Phn, Phc⟩, ⟨Pl, Pln, Plc⟩⟩ ⟨⟨Ca, Can, Cac⟩, ⟨Ct, Ctn, Ctc⟩, ⟨Cx, Cxn, Cxc⟩, ⟨Cr, Crn, Crc⟩, ⟨Cn, Cnn, Cnc⟩, ⟨Ch, Chn, Chc⟩, ⟨Cl, Cln, Clc⟩⟩ HL.out w3 RP.out RC.out)
        have q0 := BP.cell 0
        have q1 := BP.cell 1
        have q2 := BP.cell 2
        have q3 := BP.cell 3
        have q4 := BP.cell 4
        have q5 := BP.cell 5
        have q6 := BP.cell 6
        have k0 := BC.cell 0
        have k1 := BC.cell 1
        have k2 := BC.cell 2
        have k3 := BC.cell 3
        have k4 := BC.cell 4
        have k5 := BC.cell 5
        have k6 := BC.cell 6
        go_upto_region 8 with (go_at_call 30; refine (CT.out zk ZK.out).mono ?_; rintro e' wx ⟨⟨⟨La, Lan, Lac⟩, ⟨Lt, Ltn, Ltc⟩, ⟨Lx, Lxn, Lxc⟩, ⟨Lr, Lrn, Lrc⟩, ⟨Ln, Lnn, Lnc⟩, ⟨Lh, Lhn, Lhc⟩, ⟨Ll, Lln, Llc⟩⟩, rfl, rx, hx⟩; simp only [CH.v, CH.cs, Hd.v])
        clear q0 q1 q2 q3 q4 q5 q6 k0 k1 k2 k3 k4 k5 k6 CT
        have ha := (Below.refl wx.heap.size wx).alloc (Nat.le_refl _) (.cells #[.slice La Lan Lac, .slice Lt Ltn Ltc, .slice Lx Lxn Lxc, .slice Lr Lrn Lrc, .slice Ln Lnn Lnc, .slice Lh Lhn Lhc, .slice Ll Lln Llc] 30)
        have hxa := hx.trans (ha.mono hx.size)
        replace BA := BA.below hxa
        replace BB := BB.below hxa
        replace BC := BC.below hxa
        replace BP := BP.below hxa
        replace BY := BY.below hxa
        replace RA := Lib.hid ((RA.out.under hxa).up hxa.size)
        replace RB := Lib.hid ((RB.out.under hxa).up hxa.size)
        replace RC := Lib.hid ((RC.out.under hxa).up hxa.size)
        replace RP := Lib.hid ((RP.out.under hxa).up hxa.size)
        replace RY := Lib.hid ((RY.out.under hxa).up hxa.size)
        replace HW := HW.trans (hxa.mono HW.size)
        have BL := Blk.new wx 30 #[.slice La Lan Lac, .slice Lt Ltn Ltc, .slice Lx Lxn Lxc, .slice Lr Lrn Lrc, .slice Ln Lnn Lnc, .slice Lh Lhn Lhc, .slice Ll Lln Llc]
        have RL := Lib.hid ((rx.under ha).up ha.size)
        clear rx hx ha hxa
        generalize wx.alloc (.cells #[.slice La Lan Lac, .slice Lt Ltn Ltc, .slice Lx Lxn Lxc, .slice Lr Lrn Lrc, .slice Ln Lnn Lnc, .slice Lh Lhn Lhc, .slice Ll Lln Llc] 30) = w4 at BA BB BC BP BY BL RA RB RC RP RY RL HW ⊢
        generalize wx.heap.size = gL at BL ⊢
        clear wx
        have CT := Lib.hid (concat_z ⟨⟨Aa, Aan, Aac⟩, ⟨At, Atn, Atc⟩, ⟨Ax, Axn, Axc⟩, ⟨Ar, Arn, Arc⟩, ⟨An, Ann, Anc⟩, ⟨Ah, Ahn, Ahc⟩, ⟨Al, Aln, Alc⟩⟩ ⟨⟨Ya, Yan, Yac⟩, ⟨Yt, Ytn, Ytc⟩, ⟨Yx, Yxn, Yxc⟩, ⟨Yr, Yrn, Yrc⟩, ⟨Yn, Ynn, Ync⟩, ⟨Yh, Yhn, Yhc⟩, ⟨Yl, Yln, Ylc⟩⟩ HR.out w4 RA.out RY.out)
        have q0 := BA.cell 0
        have q1 := BA.cell 1
        have q2 := BA.cell 2
        have q3 := BA.cell 3
        have q4 := BA.cell 4
        have q5 := BA.cell 5
        have q6 := BA.cell 6
        have k0 := BY.cell 0
        have k1 := BY.cell 1
        have k2 := BY.cell 2
        have k3 := BY.cell 3
        have k4 := BY.cell 4
        have k5 := BY.cell 5
        have k6 := BY.cell 6
        go_upto_region 9 with (go_at_call 30; refine (CT.out zk ZK.out).mono ?_; rintro e' wx ⟨⟨⟨Ra, Ran, Rac⟩, ⟨Rt, Rtn, Rtc⟩, ⟨Rx, Rxn, Rxc⟩, ⟨Rr, Rrn, Rrc⟩, ⟨Rn, Rnn, Rnc⟩, ⟨Rh, Rhn, Rhc⟩, ⟨Rl, Rln, Rlc⟩⟩, rfl, rx, hx⟩; simp only [CH.v, CH.cs, Hd.v])
        clear q0 q1 q2 q3 q4 q5 q6 k0 k1 k2 k3 k4 k5 k6 CT
        have ha := (Below.refl wx.heap.size wx).alloc (Nat.le_refl _) (.cells #[.slice Ra Ran Rac, .slice Rt Rtn Rtc, .slice Rx Rxn Rxc, .slice Rr Rrn Rrc, .slice Rn Rnn Rnc, .slice Rh Rhn Rhc, .slice Rl Rln Rlc] 30)
        have hxa := hx.trans (ha.mono hx.size)
        replace BA := BA.below hxa
        replace BB := BB.below hxa
        replace BC := BC.below hxa
        replace BP := BP.below hxa
        replace BY := BY.below hxa
        replace BL := BL.below hxa
        replace RA := Lib.hid ((RA.out.under hxa).up hxa.size)
        replace RB := Lib.hid ((RB.out.under hxa).up hxa.size)
        replace RC := Lib.hid ((RC.out.under hxa).up hxa.size)
        replace RP := Lib.hid ((RP.out.under hxa).up hxa.size)
        replace RY := Lib.hid ((RY.out.under hxa).up hxa.size)
        replace RL := Lib.hid ((RL.out.under hxa).up hxa.size)
        replace HW := HW.trans (hxa.mono HW.size)
        have BR := Blk.new wx 30 #[.slice Ra Ran Rac, .slice Rt Rtn Rtc, .slice Rx Rxn Rxc, .slice Rr Rrn Rrc, .slice Rn Rnn Rnc, .slice Rh Rhn Rhc, .slice Rl Rln Rlc]
        have RR := Lib.hid ((rx.under ha).up ha.size)
        clear rx hx ha hxa
        generalize wx.alloc (.cells #[.slice Ra Ran Rac, .slice Rt Rtn Rtc, .slice Rx Rxn Rxc, .slice Rr Rrn Rrc, .slice Rn Rnn Rnc, .slice Rh Rhn Rhc, .slice Rl Rln Rlc] 30) = w5 at BA BB BC BP BY BL BR RA RB RC RP RY RL RR HW ⊢
        generalize wx.heap.size = gR at BR ⊢
        clear wx
        have ET := Lib.hid (refEqual_any ⟨⟨La, Lan, Lac⟩, ⟨Lt, Ltn, Ltc⟩, ⟨Lx, Lxn, Lxc⟩, ⟨Lr, Lrn, Lrc⟩, ⟨Ln, Lnn, Lnc⟩, ⟨Lh, Lhn, Lhc⟩, ⟨Ll, Lln, Llc⟩⟩ ⟨⟨Ra, Ran, Rac⟩, ⟨Rt, Rtn, Rtc⟩, ⟨Rx, Rxn, Rxc⟩, ⟨Rr, Rrn, Rrc⟩, ⟨Rn, Rnn, Rnc⟩, ⟨Rh, Rhn, Rhc⟩, ⟨Rl, Rln, Rlc⟩⟩ l l w5 RL.out RR.out)
        rw [same_t rfl] at ET
        have q0 := BL.cell 0
        have q1 := BL.cell 1
        have q2 := BL.cell 2
        have q3 := BL.cell 3
        have q4 := BL.cell 4
        have q5 := BL.cell 5
        have q6 := BL.cell 6
        have k0 := BR.cell 0
        have k1 := BR.cell 1
        have k2 := BR.cell 2
        have k3 := BR.cell 3
        have k4 := BR.cell 4
        have k5 := BR.cell 5
        have k6 := BR.cell 6
        go_upto_region 11 with (go_at_call 20; refine ET.out.mono ?_; rintro e' wx ⟨rfl, hx⟩)
        clear q0 q1 q2 q3 q4 q5 q6 k0 k1 k2 k3 k4 k5 k6 ET BL BR BP BY RL RR RP RY BB BC RB RC
        replace BA := BA.below hx
        replace RA := Lib.hid ((RA.out.under hx).up hx.size)
        replace HW := HW.trans (hx.mono HW.size)
        clear hx
        have HVA := Lib.hid HCX.out.va
        have q0 := BA.cell 0
        go_upto_region 12 with (fail)
        clear q0
        have ha := (Below.refl wx.heap.size wx).alloc (Nat.le_refl _) (.cells #[.slice Aa Aan Aac, .slice none 0 0, .slice none 0 0, .slice none 0 0, .slice none 0 0, .slice none 0 0, .slice none 0 0] 30)
        replace BA := BA.below ha
        replace RA := Lib.hid ((RA.out.under ha).up ha.size)
        replace HW := HW.trans (ha.mono HW.size)
        have BN := Blk.new wx 30 #[.slice Aa Aan Aac, .slice none 0 0, .slice none 0 0, .slice none 0 0, .slice none 0 0, .slice none 0 0, .slice none 0 0]
        have RN := Lib.hid (reads_none RA.out)
        clear ha
        generalize wx.alloc (.cells #[.slice Aa Aan Aac, .slice none 0 0, .slice none 0 0, .slice none 0 0, .slice none 0 0, .slice none 0 0, .slice none 0 0] 30) = w6 at BA RA HW BN RN ⊢
        generalize wx.heap.size = gN at BN ⊢
        have CT := Lib.hid (concat_z ⟨⟨Aa, Aan, Aac⟩, ⟨none, 0, 0⟩, ⟨none, 0, 0⟩, ⟨none, 0, 0⟩, ⟨none, 0, 0⟩, ⟨none, 0, 0⟩, ⟨none, 0, 0⟩⟩ ⟨⟨Aa, Aan, Aac⟩, ⟨At, Atn, Atc⟩, ⟨Ax, Axn, Axc⟩, ⟨Ar, Arn, Arc⟩, ⟨An, Ann, Anc⟩, ⟨Ah, Ahn, Ahc⟩, ⟨Al, Aln, Alc⟩⟩ (none_left HVA.out) w6 RN.out RA.out)
        have q0 := BN.cell 0
        have q1 := BN.cell 1
        have q2 := BN.cell 2
        have q3 := BN.cell 3
        have q4 := BN.cell 4
        have q5 := BN.cell 5
        have q6 := BN.cell 6
        have k0 := BA.cell 0
        have k1 := BA.cell 1
        have k2 := BA.cell 2
        have k3 := BA.cell 3
        have k4 := BA.cell 4
        have k5 := BA.cell 5
        have k6 := BA.cell 6
        go_upto_region 13 with (go_at_call 30; refine (CT.out 0 rfl).mono ?_; rintro e' wy ⟨⟨⟨Sa, San, Sac⟩, ⟨St, Stn, Stc⟩, ⟨Sx, Sxn, Sxc⟩, ⟨Sr, Srn, Src⟩, ⟨Sn, Snn, Snc⟩, ⟨Sh, Shn, Shc⟩, ⟨Sl, Sln, Slc⟩⟩, rfl, rx, hx⟩; simp only [CH.v, CH.cs, Hd.v])
        clear q0 q1 q2 q3 q4 q5 q6 k0 k1 k2 k3 k4 k5 k6 CT
        have ha := (Below.refl wy.heap.size wy).alloc (Nat.le_refl _) (.cells #[.slice Sa San Sac, .slice St Stn Stc, .slice Sx Sxn Sxc, .slice Sr Srn Src, .slice Sn Snn Snc, .slice Sh Shn Shc, .slice Sl Sln Slc] 30)
        have hxa := hx.trans (ha.mono hx.size)
        replace BA := BA.below hxa
        replace BN := BN.below hxa
        replace RA := Lib.hid ((RA.out.under hxa).up hxa.size)
        replace RN := Lib.hid ((RN.out.under hxa).up hxa.size)
        replace HW := HW.trans (hxa.mono HW.size)
        have BS := Blk.new wy 30 #[.slice Sa San Sac, .slice St Stn Stc, .slice Sx Sxn Sxc, .slice Sr Srn Src, .slice Sn Snn Snc, .slice Sh Shn Shc, .slice Sl Sln Slc]
        have RS := Lib.hid ((rx.under ha).up ha.size)
        clear rx hx ha hxa
        generalize wy.alloc (.cells #[.slice Sa San Sac, .slice St Stn Stc, .slice Sx Sxn Sxc, .slice Sr Srn Src, .slice Sn Snn Snc, .slice Sh Shn Shc, .slice Sl Sln Slc] 30) = w7 at BA BN BS RA RN RS HW ⊢
        generalize wy.heap.size = gS at BS ⊢
        clear wy
        have CT := Lib.hid (concat_z ⟨⟨Aa, Aan, Aac⟩, ⟨At, Atn, Atc⟩, ⟨Ax, Axn, Axc⟩, ⟨Ar, Arn, Arc⟩, ⟨An, Ann, Anc⟩, ⟨Ah, Ahn, Ahc⟩, ⟨Al, Aln, Alc⟩⟩ ⟨⟨Aa, Aan, Aac⟩, ⟨none, 0, 0⟩, ⟨none, 0, 0⟩, ⟨none, 0, 0⟩, ⟨none, 0, 0⟩, ⟨none, 0, 0⟩, ⟨none, 0, 0⟩⟩ (none_right HVA.out) w7 RA.out RN.out)
        have q0 := BA.cell 0
        have q1 := BA.cell 1
        have q2 := BA.cell 2
        have q3 := BA.cell 3
        have q4 := BA.cell 4
        have q5 := BA.cell 5
        have q6 := BA.cell 6
        have k0 := BN.cell 0
        have k1 := BN.cell 1
        have k2 := BN.cell 2
        have k3 := BN.cell 3
        have k4 := BN.cell 4
        have k5 := BN.cell 5
        have k6 := BN.cell 6
        go_upto_region 14 with (go_at_call 30; refine (CT.out 0 rfl).mono ?_; rintro e' wy ⟨⟨⟨Ua, Uan, Uac⟩, ⟨Ut, Utn, Utc⟩, ⟨Ux, Uxn, Uxc⟩, ⟨Ur, Urn, Urc⟩, ⟨Un, Unn, Unc⟩, ⟨Uh, Uhn, Uhc⟩, ⟨Ul, Uln, Ulc⟩⟩, rfl, rx, hx⟩; simp only [CH.v, CH.cs, Hd.v])
        clear q0 q1 q2 q3 q4 q5 q6 k0 k1 k2 k3 k4 k5 k6 CT
        have ha := (Below.refl wy.heap.size wy).alloc (Nat.le_refl _) (.cells #[.slice Ua Uan Uac, .slice Ut Utn Utc, .slice Ux Uxn Uxc, .slice Ur Urn Urc, .slice Un Unn Unc, .slice Uh Uhn Uhc, .slice Ul Uln Ulc] 30)
        have hxa := hx.trans (ha.mono hx.size)
        replace BA := BA.below hxa
        replace BN := BN.below hxa
        replace BS := BS.below hxa
        replace RA := Lib.hid ((RA.out.under hxa).up hxa.size)
        replace RN := Lib.hid ((RN.out.under hxa).up hxa.size)
        replace RS := Lib.hid ((RS.out.under hxa).up hxa.size)
        replace HW := HW.trans (hxa.mono HW.size)
        have BU := Blk.new wy 30 #[.slice Ua Uan Uac, .slice Ut Utn Utc, .slice Ux Uxn Uxc, .slice Ur Urn Urc, .slice Un Unn Unc, .slice Uh Uhn Uhc, .slice Ul Uln Ulc]
        have RU := Lib.hid ((rx.under ha).up ha.size)
        clear rx hx ha hxa
        generalize wy.alloc (.cells #[.slice Ua Uan Uac, .slice Ut Utn Utc, .slice Ux Uxn Uxc, .slice Ur Urn Urc, .slice Un Unn Unc, .slice Uh Uhn Uhc, .slice Ul Uln Ulc] 30) = w8 at BA BN BS BU RA RN RS RU HW ⊢
        generalize wy.heap.size = gU at BU ⊢
        clear wy
        have E1 := Lib.hid (fun (W : World) (hW : Below w8.heap.size w8 W) => refEqual_any ⟨⟨Sa, San, Sac⟩, ⟨St, Stn, Stc⟩, ⟨Sx, Sxn, Sxc⟩, ⟨Sr, Srn, Src⟩, ⟨Sn, Snn, Snc⟩, ⟨Sh, Shn, Shc⟩, ⟨Sl, Sln, Slc⟩⟩ ⟨⟨Aa, Aan, Aac⟩, ⟨At, Atn, Atc⟩, ⟨Ax, Axn, Axc⟩, ⟨Ar, Arn, Arc⟩, ⟨An, Ann, Anc⟩, ⟨Ah, Ahn, Ahc⟩, ⟨Al, Aln, Alc⟩⟩ a a W ((RS.out.under hW).up hW.size) ((RA.out.under hW).up hW.size))
        have E2 := Lib.hid (fun (W : World) (hW : Below w8.heap.size w8 W) => refEqual_any ⟨⟨Ua, Uan, Uac⟩, ⟨Ut, Utn, Utc⟩, ⟨Ux, Uxn, Uxc⟩, ⟨Ur, Urn, Urc⟩, ⟨Un, Unn, Unc⟩, ⟨Uh, Uhn, Uhc⟩, ⟨Ul, Uln, Ulc⟩⟩ ⟨⟨Aa, Aan, Aac⟩, ⟨At, Atn, Atc⟩, ⟨Ax, Axn, Axc⟩, ⟨Ar, Arn, Arc⟩, ⟨An, Ann, Anc⟩, ⟨Ah, Ahn, Ahc⟩, ⟨Al, Aln, Alc⟩⟩ a a W ((RU.out.under hW).up hW.size) ((RA.out.under hW).up hW.size))
        rw [same_t (rfl : a = a)] at E1 E2
        have q0 := BS.cell 0
        have q1 := BS.cell 1
        have q2 := BS.cell 2
        have q3 := BS.cell 3
        have q4 := BS.cell 4
        have q5 := BS.cell 5
        have q6 := BS.cell 6
        have k0 := BA.cell 0
        have k1 := BA.cell 1
        have k2 := BA.cell 2
        have k3 := BA.cell 3
        have k4 := BA.cell 4
        have k5 := BA.cell 5
        have k6 := BA.cell 6
        have u0 := BU.cell 0
        have u1 := BU.cell 1
        have u2 := BU.cell 2
        have u3 := BU.cell 3
        have u4 := BU.cell 4
        have u5 := BU.cell 5
        have u6 := BU.cell 6
        go_wp2_with (first
          | (go_at_call 20; (with_reducible show Calls _ _ _ w8 _); refine (E1.out _ (Below.refl _ _)).mono ?_; rintro e' w9 ⟨rfl, hb9⟩; have x0 := (BU.below hb9).cell 0; have x1 := (BU.below hb9).cell 1; have x2 := (BU.below hb9).cell 2; have x3 := (BU.below hb9).cell 3; have x4 := (BU.below hb9).cell 4; have x5 := (BU.below hb9).cell 5; have x6 := (BU.below hb9).cell 6; have y0 := (BA.below hb9).cell 0; have y1 := (BA.below hb9).cell 1; have y2 := (BA.below hb9).cell 2; have y3 := (BA.below hb9).cell 3; have y4 := (BA.below hb9).cell 4; have y5 := (BA.below hb9).cell 5; have y6 := (BA.below hb9).cell 6)
          | (go_at_call 20; refine (E2.out _ hb9).mono ?_; rintro e' w10 ⟨rfl, hb10⟩)
          | (go_at_call 17; refine (awake_any _).mono ?_; rintro e' w11 ⟨rfl, hb11⟩))
        go_ret
        have h10 := hb9.trans (hb10.mono hb9.size)
        have h11 := h10.trans (hb11.mono h10.size)
        have hW := HW.trans (h11.mono HW.size)
        exact ⟨rfl, hB1.trans (hW.mono hB1.size)⟩
      · have e2 : (zm == 0) = false := by have := ZM.out; simp; omega
        subst hn
        go_wp2
        go_ret
        exact ⟨rfl, hB1.trans (HW.mono hB1.size)⟩
    · have e1 : (zn == 0) = false := by have := ZN.out; simp; omega
      go_wp2
      go_ret
      exact ⟨rfl, hB1.trans (HW.mono hB1.size)⟩
end Go.Proofs.Ytaihgoohmcipkaa
