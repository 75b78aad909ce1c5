/-
 The law VerticalJoins: it returns true. Conditions: the corpora read as they do, MaxLen's cell holds a number.
-/
import Derived.Test.YtgkdaebiefhgdaaGreatDoorJVertLt
import Derived.Test.YtgkdaebiefhgdaaGreatDoorJCorHv
import Derived.Test.YtgkdaebiefhgdaaGreatDoorJVertAwk
import Derived.Test.YtgkdaebiefhgdaaGreatDoorJFmt7
import Derived.Test.YtgkdaebiefhgdaaGreatDoorJCorCj
import Derived.Test.YtgkdaebiefhgdaaGreatDoorJCorEqR
import Derived.Deep.RegionHeld3
namespace Go.Proofs.YtgkdaebiefhgdaaGreatDoor
set_option linter.unusedSimpArgs false
set_option linter.unusedVariables false
open Go.RowKit Utf
open Feat (Bs)
open Vert (bodyV writeV readV fmtErr)
attribute [local go_sem] byte_mk ByteArray.extract_mk
set_option maxRecDepth 100000 in
set_option maxHeartbeats 16000000 in
theorem law_vjoins (H K : CH) (a b : Cor.C) (m : Int) (w : World) (ha : Reads w w.heap.size H a) (hb : Reads w w.heap.size K b) (hm : w.cell? ⟨0, 0, none⟩ = some (.int .i64 m)) : Calls Tryz.prog 8 #[H.v, K.v] w (Kept (.bool true) w) := by
 have hw0 : 0 < w.heap.size := by
  rcases Nat.eq_zero_or_pos w.heap.size with h | h
  ·have : w.heap[0]? = none := Array.getElem?_eq_none (by omega)
   simp [World.cell?, this] at hm
  ·exact h
 obtain ⟨⟨Aa, Aan, Aac⟩, ⟨At, Atn, Atc⟩, ⟨Ax, Axn, Axc⟩, ⟨Ar, Arn, Arc⟩, ⟨An, Ann, Anc⟩, ⟨Ah, Ahn, Ahc⟩, ⟨Al, Aln, Alc⟩⟩ := H
 obtain ⟨⟨Ba, Ban, Bac⟩, ⟨Bt, Btn, Btc⟩, ⟨Bx, Bxn, Bxc⟩, ⟨Br, Brn, Brc⟩, ⟨Bn, Bnn, Bnc⟩, ⟨Bh, Bhn, Bhc⟩, ⟨Bl, Bln, Blc⟩⟩ := K
 show Calls Tryz.prog 8 #[.agg #[.slice Aa Aan Aac, .slice At Atn Atc, .slice Ax Axn Axc, .slice Ar Arn Arc, .slice An Ann Anc, .slice Ah Ahn Ahc, .slice Al Aln Alc], .agg #[.slice Ba Ban Bac, .slice Bt Btn Btc, .slice Bx Bxn Bxc, .slice Br Brn Brc, .slice Bn Bnn Bnc, .slice Bh Bhn Bhc, .slice Bl Bln Blc]] w _
 have HAW : Hid (∀ W : World, Below w.heap.size w W → Calls Tryz.prog 12 #[] W (Kept (.bool true) W)) := fun W hW => vawake_any m W ((hW.cell (p := ⟨0, 0, none⟩) hw0).trans hm)
 have hB0 := ((Below.refl w.heap.size w).alloc (Nat.le_refl _) (.cells #[.slice Aa Aan Aac, .slice At Atn Atc, .slice Ax Axn Axc, .slice Ar Arn Arc, .slice An Ann Anc, .slice Ah Ahn Ahc, .slice Al Aln Alc] 30)).alloc (by simp) (.cells #[.slice Ba Ban Bac, .slice Bt Btn Btc, .slice Bx Bxn Bxc, .slice Br Brn Brc, .slice Bn Bnn Bnc, .slice Bh Bhn Bhc, .slice Bl Bln Blc] 30)
 have BA : Blk ((w.alloc (.cells #[.slice Aa Aan Aac, .slice At Atn Atc, .slice Ax Axn Axc, .slice Ar Arn Arc, .slice An Ann Anc, .slice Ah Ahn Ahc, .slice Al Aln Alc] 30)).alloc (.cells #[.slice Ba Ban Bac, .slice Bt Btn Btc, .slice Bx Bxn Bxc, .slice Br Brn Brc, .slice Bn Bnn Bnc, .slice Bh Bhn Bhc, .slice Bl Bln Blc] 30)) w.heap.size 30 #[.slice Aa Aan Aac, .slice At Atn Atc, .slice Ax Axn Axc, .slice Ar Arn Arc, .slice An Ann Anc, .slice Ah Ahn Ahc, .slice Al Aln Alc] := (Blk.new w _ _).alloc _
 have BB := Blk.new (w.alloc (.cells #[.slice Aa Aan Aac, .slice At Atn Atc, .slice Ax Axn Axc, .slice Ar Arn Arc, .slice An Ann Anc, .slice Ah Ahn Ahc, .slice Al Aln Alc] 30)) 30 #[.slice Ba Ban Bac, .slice Bt Btn Btc, .slice Bx Bxn Bxc, .slice Br Brn Brc, .slice Bn Bnn Bnc, .slice Bh Bhn Bhc, .slice Bl Bln Blc]
 rw [World.size_alloc] at BB
 have RA := Lib.hid ((ha.under hB0).up hB0.size)
 have RB := Lib.hid ((hb.under hB0).up hB0.size)
 have HB := Lib.hid hB0
 clear hB0
 have HHV := Lib.hid (vheavy_w ⟨⟨Aa, Aan, Aac⟩, ⟨At, Atn, Atc⟩, ⟨Ax, Axn, Axc⟩, ⟨Ar, Arn, Arc⟩, ⟨An, Ann, Anc⟩, ⟨Ah, Ahn, Ahc⟩, ⟨Al, Aln, Alc⟩⟩ a _ RA.out)
 have q0 := BA.cell 0
 have q1 := BA.cell 1
 have q2 := BA.cell 2
 have q3 := BA.cell 3
 have q4 := BA.cell 4
 have q5 := BA.cell 5
 have q6 := BA.cell 6
 have k0 := BB.cell 0
 have k1 := BB.cell 1
 have k2 := BB.cell 2
 have k3 := BB.cell 3
 have k4 := BB.cell 4
 have k5 := BB.cell 5
 have k6 := BB.cell 6
 go_enter Tryz.func8, Tryz.ntmps8
 go_wp2_with fail
 refine HHV.out.mono ?_
 rintro en w1 ⟨ba, rfl, hla, hx⟩
 clear q0 q1 q2 q3 q4 q5 q6 k0 k1 k2 k3 k4 k5 k6 HHV
 replace BA := BA.below hx
 replace BB := BB.below hx
 replace RA := Lib.hid ((RA.out.under hx).up hx.size)
 replace RB := Lib.hid ((RB.out.under hx).up hx.size)
 replace HB := Lib.hid (HB.out.trans (hx.mono HB.out.size))
 clear hx
 cases ba with
 | true =>
  go_wp2
  go_ret
  exact ⟨rfl, HB.out⟩
 | false =>
  have LA := Lib.hid (hla rfl)
  clear hla
  have HHV := Lib.hid (vheavy_w ⟨⟨Ba, Ban, Bac⟩, ⟨Bt, Btn, Btc⟩, ⟨Bx, Bxn, Bxc⟩, ⟨Br, Brn, Brc⟩, ⟨Bn, Bnn, Bnc⟩, ⟨Bh, Bhn, Bhc⟩, ⟨Bl, Bln, Blc⟩⟩ b _ RB.out)
  have q0 := BA.cell 0
  have q1 := BA.cell 1
  have q2 := BA.cell 2
  have q3 := BA.cell 3
  have q4 := BA.cell 4
  have q5 := BA.cell 5
  have q6 := BA.cell 6
  have k0 := BB.cell 0
  have k1 := BB.cell 1
  have k2 := BB.cell 2
  have k3 := BB.cell 3
  have k4 := BB.cell 4
  have k5 := BB.cell 5
  have k6 := BB.cell 6
  go_wp2_with fail
  refine HHV.out.mono ?_
  rintro en w2 ⟨bb, rfl, hlb, hx⟩
  clear q0 q1 q2 q3 q4 q5 q6 k0 k1 k2 k3 k4 k5 k6 HHV
  replace BA := BA.below hx
  replace BB := BB.below hx
  replace RA := Lib.hid ((RA.out.under hx).up hx.size)
  replace RB := Lib.hid ((RB.out.under hx).up hx.size)
  replace HB := Lib.hid (HB.out.trans (hx.mono HB.out.size))
  clear hx
  cases bb with
  | true =>
   go_wp2
   go_ret
   exact ⟨rfl, HB.out⟩
  | false =>
   have LB := Lib.hid (hlb rfl)
   clear hlb
   obtain ⟨⟨c, n⟩, hcat⟩ : ∃ p, Cor.cat a b = p := ⟨_, rfl⟩
   have HCT := Lib.hid (concat_any ⟨⟨Aa, Aan, Aac⟩, ⟨At, Atn, Atc⟩, ⟨Ax, Axn, Axc⟩, ⟨Ar, Arn, Arc⟩, ⟨An, Ann, Anc⟩, ⟨Ah, Ahn, Ahc⟩, ⟨Al, Aln, Alc⟩⟩ ⟨⟨Ba, Ban, Bac⟩, ⟨Bt, Btn, Btc⟩, ⟨Bx, Bxn, Bxc⟩, ⟨Br, Brn, Brc⟩, ⟨Bn, Bnn, Bnc⟩, ⟨Bh, Bhn, Bhc⟩, ⟨Bl, Bln, Blc⟩⟩ a b w2 RA.out RB.out)
   unfold Made at HCT
   rw [hcat] at HCT
   dsimp only at HCT
   have HC := Lib.hid hcat
   clear hcat
   have q0 := BA.cell 0
   have q1 := BA.cell 1
   have q2 := BA.cell 2
   have q3 := BA.cell 3
   have q4 := BA.cell 4
   have q5 := BA.cell 5
   have q6 := BA.cell 6
   have k0 := BB.cell 0
   have k1 := BB.cell 1
   have k2 := BB.cell 2
   have k3 := BB.cell 3
   have k4 := BB.cell 4
   have k5 := BB.cell 5
   have k6 := BB.cell 6
   go_wp2_with fail
   refine HCT.out.mono ?_
   rintro en w3 ⟨⟨⟨Pa, Pan, Pac⟩, ⟨Pt, Ptn, Ptc⟩, ⟨Px, Pxn, Pxc⟩, ⟨Pr, Prn, Prc⟩, ⟨Pn, Pnn, Pnc⟩, ⟨Ph, Phn, Phc⟩, ⟨Pl, Pln, Plc⟩⟩, rfl, rx, hx⟩
   clear q0 q1 q2 q3 q4 q5 q6 k0 k1 k2 k3 k4 k5 k6 HCT
   have hal := (Below.refl w3.heap.size w3).alloc (Nat.le_refl _) (.cells #[.slice Pa Pan Pac, .slice Pt Ptn Ptc, .slice Px Pxn Pxc, .slice Pr Prn Prc, .slice Pn Pnn Pnc, .slice Ph Phn Phc, .slice Pl Pln Plc] 30)
   have hxa := hx.trans (hal.mono hx.size)
   replace BA := BA.below hxa
   replace RA := Lib.hid ((RA.out.under hxa).up hxa.size)
   replace BB := BB.below hxa
   replace RB := Lib.hid ((RB.out.under hxa).up hxa.size)
   have BP := Blk.new w3 30 #[.slice Pa Pan Pac, .slice Pt Ptn Ptc, .slice Px Pxn Pxc, .slice Pr Prn Prc, .slice Pn Pnn Pnc, .slice Ph Phn Phc, .slice Pl Pln Plc]
   have RP := Lib.hid ((rx.under hal).up hal.size)
   replace HB := Lib.hid (HB.out.trans (hxa.mono HB.out.size))
   clear rx hx hal hxa
   by_cases hn : n = 0
   ·subst hn
    have CC := Lib.hid (cat_ok.1 HC.out)
    go_upto_region 6 with (fail)
    generalize w3.alloc (.cells #[.slice Pa Pan Pac, .slice Pt Ptn Ptc, .slice Px Pxn Pxc, .slice Pr Prn Prc, .slice Pn Pnn Pnc, .slice Ph Phn Phc, .slice Pl Pln Plc] 30) = w4 at BA BB BP RA RB RP HB ⊢
    generalize w3.heap.size = gP at BP ⊢
    obtain ⟨sa, ea, hwa⟩ : ∃ s e, writeV a = (s, e) := ⟨_, _, rfl⟩
    obtain ⟨sb, eb, hwb⟩ : ∃ s e, writeV b = (s, e) := ⟨_, _, rfl⟩
    obtain ⟨sc, ec, hwc⟩ : ∃ s e, writeV c = (s, e) := ⟨_, _, rfl⟩
    have HWJ := write_join CC.out.va CC.out.vb LA.out LB.out
    rw [← CC.out.eq, hwa, hwb, hwc] at HWJ
    dsimp only at HWJ
    replace HWJ := Lib.hid HWJ
    have HWA := Lib.hid hwa
    have HWB := Lib.hid hwb
    have HWC := Lib.hid hwc
    clear hwa hwb hwc
    have HFM := Lib.hid (vformat_any ⟨⟨Aa, Aan, Aac⟩, ⟨At, Atn, Atc⟩, ⟨Ax, Axn, Axc⟩, ⟨Ar, Arn, Arc⟩, ⟨An, Ann, Anc⟩, ⟨Ah, Ahn, Ahc⟩, ⟨Al, Aln, Alc⟩⟩ a w4 RA.out CC.out.va (fun t ht u hu => Nat.le_trans (vd_val CC.out.va t ht u hu) (by decide)) (body_len CC.out.va))
    unfold Writ at HFM
    rw [HWA.out] at HFM
    dsimp only at HFM
    have q0 := BA.cell 0
    have q1 := BA.cell 1
    have q2 := BA.cell 2
    have q3 := BA.cell 3
    have q4 := BA.cell 4
    have q5 := BA.cell 5
    have q6 := BA.cell 6
    go_wp2_with fail
    refine HFM.out.mono ?_
    rintro en w5 ⟨rfl, hx⟩
    clear q0 q1 q2 q3 q4 q5 q6 HFM
    replace BA := BA.below hx
    replace BB := BB.below hx
    replace BP := BP.below hx
    replace RA := Lib.hid ((RA.out.under hx).up hx.size)
    replace RB := Lib.hid ((RB.out.under hx).up hx.size)
    replace RP := Lib.hid ((RP.out.under hx).up hx.size)
    replace HB := Lib.hid (HB.out.trans (hx.mono HB.out.size))
    clear hx
    have HFM := Lib.hid (vformat_any ⟨⟨Ba, Ban, Bac⟩, ⟨Bt, Btn, Btc⟩, ⟨Bx, Bxn, Bxc⟩, ⟨Br, Brn, Brc⟩, ⟨Bn, Bnn, Bnc⟩, ⟨Bh, Bhn, Bhc⟩, ⟨Bl, Bln, Blc⟩⟩ b w5 RB.out CC.out.vb (fun t ht u hu => Nat.le_trans (vd_val CC.out.vb t ht u hu) (by decide)) (body_len CC.out.vb))
    unfold Writ at HFM
    rw [HWB.out] at HFM
    dsimp only at HFM
    have q0 := BB.cell 0
    have q1 := BB.cell 1
    have q2 := BB.cell 2
    have q3 := BB.cell 3
    have q4 := BB.cell 4
    have q5 := BB.cell 5
    have q6 := BB.cell 6
    go_wp2_with fail
    refine HFM.out.mono ?_
    rintro en w6 ⟨rfl, hx⟩
    clear q0 q1 q2 q3 q4 q5 q6 HFM
    replace BA := BA.below hx
    replace BB := BB.below hx
    replace BP := BP.below hx
    replace RA := Lib.hid ((RA.out.under hx).up hx.size)
    replace RB := Lib.hid ((RB.out.under hx).up hx.size)
    replace RP := Lib.hid ((RP.out.under hx).up hx.size)
    replace HB := Lib.hid (HB.out.trans (hx.mono HB.out.size))
    clear hx
    have HFM := Lib.hid (vformat_any ⟨⟨Pa, Pan, Pac⟩, ⟨Pt, Ptn, Ptc⟩, ⟨Px, Pxn, Pxc⟩, ⟨Pr, Prn, Prc⟩, ⟨Pn, Pnn, Pnc⟩, ⟨Ph, Phn, Phc⟩, ⟨Pl, Pln, Plc⟩⟩ c w6 RP.out CC.out.vd (fun t ht u hu => Nat.le_trans (vd_val CC.out.vd t ht u hu) (by decide)) (body_len CC.out.vd))
    unfold Writ at HFM
    rw [HWC.out] at HFM
    dsimp only at HFM
    have q0 := BP.cell 0
    have q1 := BP.cell 1
    have q2 := BP.cell 2
    have q3 := BP.cell 3
    have q4 := BP.cell 4
    have q5 := BP.cell 5
    have q6 := BP.cell 6
    go_wp2_with fail
    refine HFM.out.mono ?_
    rintro en w7 ⟨rfl, hx⟩
    clear q0 q1 q2 q3 q4 q5 q6 HFM
    replace BA := BA.below hx
    replace BB := BB.below hx
    replace BP := BP.below hx
    replace RA := Lib.hid ((RA.out.under hx).up hx.size)
    replace RB := Lib.hid ((RB.out.under hx).up hx.size)
    replace RP := Lib.hid ((RP.out.under hx).up hx.size)
    replace HB := Lib.hid (HB.out.trans (hx.mono HB.out.size))
    clear hx
    rcases HWJ.out with ⟨n1, n3⟩ | ⟨z1, n2, n3⟩ | ⟨z1, z2, z3, fj, l1, l2⟩
    ·have e1 : ((ea : Int) == 0) = false := by rw [beq_eq_false_iff_ne]; omega
     have e3 : ((ec : Int) == 0) = false := by rw [beq_eq_false_iff_ne]; omega
     have e4 : ((ec : Int) != 0) = true := by rw [bne_iff_ne]; omega
     clear n1 n3 HWJ
     have HA := Lib.hid (HAW.out w7 HB.out)
     go_wp2_with fail
     refine HA.out.mono ?_
     rintro en w8 ⟨rfl, hb8⟩
     go_wp2
     go_ret
     exact ⟨rfl, HB.out.trans (hb8.mono HB.out.size)⟩
    ·subst z1
     have e2 : ((eb : Int) == 0) = false := by rw [beq_eq_false_iff_ne]; omega
     have e3 : ((ec : Int) == 0) = false := by rw [beq_eq_false_iff_ne]; omega
     have e4 : ((ec : Int) != 0) = true := by rw [bne_iff_ne]; omega
     clear n2 n3 HWJ
     have HA := Lib.hid (HAW.out w7 HB.out)
     go_wp2_with fail
     refine HA.out.mono ?_
     rintro en w8 ⟨rfl, hb8⟩
     go_wp2
     go_ret
     exact ⟨rfl, HB.out.trans (hb8.mono HB.out.size)⟩
    ·have hD1 : bodyV a = sa := (congrArg Prod.fst z1).symm
     have hD2 : bodyV b = sb := (congrArg Prod.fst z2).symm
     have q1 : ea = 0 := congrArg Prod.snd z1
     have q2 : eb = 0 := congrArg Prod.snd z2
     have q3 : ec = 0 := congrArg Prod.snd z3
     subst q1 q2 q3
     have hD : sa ++ sb = sc := by rw [← hD1, ← hD2]; exact (congrArg Prod.fst z3).symm
     rw [hD1] at l1
     rw [hD2] at l2
     clear z1 z2 z3
     have hDl : sc.length ≤ 1048576 := by rw [← hD, List.length_append]; omega
     have hrb := read_back CC.out.vd fj
     have hbd : bodyV c = sc := by rw [CC.out.eq, body_join CC.out.va CC.out.vb, hD1, hD2, hD]
     have hat : c.attrs = a.attrs := by rw [CC.out.eq]; rfl
     rw [hbd] at hrb
     have HRD : Hid (readV sc a.attrs = (bareC c, none, 0)) := by show _ = _; rw [← hat]; exact hrb hDl
     have HAD : ∀ W, (Op.stringOp .add ⟨sa.toArray⟩ ⟨sb.toArray⟩).run Tryz.prog W = .ok (str sc) W := fun W => by rw [← hD]; exact add_str W sa sb (by omega)
     have HDL := Lib.hid hDl
     clear hrb hbd hat hD1 hD2 hD fj l1 l2 HWJ hDl
     have HPA := Lib.hid (vparse_any Aa Aan Aac a.attrs sc m w7 RA.out.a (Nat.le_trans HDL.out (by decide)) ((HB.out.cell (p := ⟨0, 0, none⟩) hw0).trans hm))
     unfold VRead at HPA
     rw [HRD.out] at HPA
     dsimp only at HPA
     rw [show posR sc none = (0, 0) from rfl] at HPA
     dsimp only at HPA
     have q0 := BA.cell 0
     have q1 := BA.cell 1
     have q2 := BA.cell 2
     have q3 := BA.cell 3
     have q4 := BA.cell 4
     have q5 := BA.cell 5
     have q6 := BA.cell 6
     go_wp2_with fail
     refine HPA.out.mono ?_
     rintro e' w8 ⟨⟨⟨Qa, Qan, Qac⟩, ⟨Qt, Qtn, Qtc⟩, ⟨Qx, Qxn, Qxc⟩, ⟨Qr, Qrn, Qrc⟩, ⟨Qn, Qnn, Qnc⟩, ⟨Qh, Qhn, Qhc⟩, ⟨Ql, Qln, Qlc⟩⟩, rfl, hr4, hb4⟩
     clear q0 q1 q2 q3 q4 q5 q6
     have ha := ((Below.refl w8.heap.size w8).alloc (Nat.le_refl _) (.cells #[.slice Qa Qan Qac, .slice Qt Qtn Qtc, .slice Qx Qxn Qxc, .slice Qr Qrn Qrc, .slice Qn Qnn Qnc, .slice Qh Qhn Qhc, .slice Ql Qln Qlc] 30)).alloc (by simp) (.cells #[.int .i64 ((0 : Nat) : Int), .int .i64 ((0 : Nat) : Int)] 32)
     have hxa := hb4.trans (ha.mono hb4.size)
     replace BP := BP.below hxa
     replace RP := Lib.hid ((RP.out.under hxa).up hxa.size)
     have RQ := Lib.hid ((hr4.under ha).up ha.size)
     have BQ : Blk ((w8.alloc (.cells #[.slice Qa Qan Qac, .slice Qt Qtn Qtc, .slice Qx Qxn Qxc, .slice Qr Qrn Qrc, .slice Qn Qnn Qnc, .slice Qh Qhn Qhc, .slice Ql Qln Qlc] 30)).alloc (.cells #[.int .i64 ((0 : Nat) : Int), .int .i64 ((0 : Nat) : Int)] 32)) w8.heap.size 30 #[.slice Qa Qan Qac, .slice Qt Qtn Qtc, .slice Qx Qxn Qxc, .slice Qr Qrn Qrc, .slice Qn Qnn Qnc, .slice Qh Qhn Qhc, .slice Ql Qln Qlc] := (Blk.new w8 _ _).alloc _
     replace HB := Lib.hid (HB.out.trans (hxa.mono HB.out.size))
     clear hr4 hb4 ha hxa BA BB RA RB HPA HRD HDL
     go_upto_region 12 with (fail)
     generalize ((w8.alloc (.cells #[.slice Qa Qan Qac, .slice Qt Qtn Qtc, .slice Qx Qxn Qxc, .slice Qr Qrn Qrc, .slice Qn Qnn Qnc, .slice Qh Qhn Qhc, .slice Ql Qln Qlc] 30)).alloc (.cells #[.int .i64 ((0 : Nat) : Int), .int .i64 ((0 : Nat) : Int)] 32)) = w5 at BP RP RQ BQ HB ⊢
     generalize w8.heap.size = gQ at BQ ⊢
     have hbD : Below w5.heap.size w5 w5.drew := (Below.refl _ _).drew
     have HS := Lib.hid (fun (W : World) (hW : Below w5.heap.size w5 W) => show W.cell? ⟨gP, 0, none⟩ = some (.slice Pa Pan Pac) ∧ W.cell? ⟨gP, 1, none⟩ = some (.slice Pt Ptn Ptc) ∧ W.cell? ⟨gP, 2, none⟩ = some (.slice Px Pxn Pxc) ∧ W.cell? ⟨gP, 3, none⟩ = some (.slice Pr Prn Prc) ∧ W.cell? ⟨gP, 4, none⟩ = some (.slice Pn Pnn Pnc) ∧ W.cell? ⟨gP, 5, none⟩ = some (.slice Ph Phn Phc) ∧ W.cell? ⟨gP, 6, none⟩ = some (.slice Pl Pln Plc) ∧ W.cell? ⟨gQ, 0, none⟩ = some (.slice Qa Qan Qac) ∧ W.cell? ⟨gQ, 1, none⟩ = some (.slice Qt Qtn Qtc) ∧ W.cell? ⟨gQ, 2, none⟩ = some (.slice Qx Qxn Qxc) ∧ W.cell? ⟨gQ, 3, none⟩ = some (.slice Qr Qrn Qrc) ∧ W.cell? ⟨gQ, 4, none⟩ = some (.slice Qn Qnn Qnc) ∧ W.cell? ⟨gQ, 5, none⟩ = some (.slice Qh Qhn Qhc) ∧ W.cell? ⟨gQ, 6, none⟩ = some (.slice Ql Qln Qlc) from (by
      have H1 := BP.below hW
      have H2 := BQ.below hW
      exact ⟨H1.cell 0, H1.cell 1, H1.cell 2, H1.cell 3, H1.cell 4, H1.cell 5, H1.cell 6, H2.cell 0, H2.cell 1, H2.cell 2, H2.cell 3, H2.cell 4, H2.cell 5, H2.cell 6⟩))
     have F1 := Lib.hid (fun (W : World) => vbare_any ⟨⟨Pa, Pan, Pac⟩, ⟨Pt, Ptn, Ptc⟩, ⟨Px, Pxn, Pxc⟩, ⟨Pr, Prn, Prc⟩, ⟨Pn, Pnn, Pnc⟩, ⟨Ph, Phn, Phc⟩, ⟨Pl, Pln, Plc⟩⟩ W)
     have F2 := Lib.hid (fun (W : World) (hW : Below w5.heap.size w5 W) => refEqual_any ⟨⟨Qa, Qan, Qac⟩, ⟨Qt, Qtn, Qtc⟩, ⟨Qx, Qxn, Qxc⟩, ⟨Qr, Qrn, Qrc⟩, ⟨Qn, Qnn, Qnc⟩, ⟨Qh, Qhn, Qhc⟩, ⟨Ql, Qln, Qlc⟩⟩ (bareH ⟨⟨Pa, Pan, Pac⟩, ⟨Pt, Ptn, Ptc⟩, ⟨Px, Pxn, Pxc⟩, ⟨Pr, Prn, Prc⟩, ⟨Pn, Pnn, Pnc⟩, ⟨Ph, Phn, Phc⟩, ⟨Pl, Pln, Plc⟩⟩) (bareC c) (bareC c) W ((RQ.out.under hW).up hW.size) (reads_bare ((RP.out.under hW).up hW.size)))
     rw [same_t rfl] at F2
     have F3 := Lib.hid (fun (W : World) (hW : Below w5.heap.size w5 W) => HAW.out W (HB.out.trans (hW.mono HB.out.size)))
     clear BP BQ RP RQ
     unfold Bared at F1
     simp only [bareH, CH.v, CH.cs, Hd.v] at F1 F2
     have X0 := HS.out w5.drew hbD
     go_region_held3 (fun W => W.cell? ⟨gP, 0, none⟩ = some (.slice Pa Pan Pac) ∧ W.cell? ⟨gP, 1, none⟩ = some (.slice Pt Ptn Ptc) ∧ W.cell? ⟨gP, 2, none⟩ = some (.slice Px Pxn Pxc) ∧ W.cell? ⟨gP, 3, none⟩ = some (.slice Pr Prn Prc) ∧ W.cell? ⟨gP, 4, none⟩ = some (.slice Pn Pnn Pnc) ∧ W.cell? ⟨gP, 5, none⟩ = some (.slice Ph Phn Phc) ∧ W.cell? ⟨gP, 6, none⟩ = some (.slice Pl Pln Plc) ∧ W.cell? ⟨gQ, 0, none⟩ = some (.slice Qa Qan Qac) ∧ W.cell? ⟨gQ, 1, none⟩ = some (.slice Qt Qtn Qtc) ∧ W.cell? ⟨gQ, 2, none⟩ = some (.slice Qx Qxn Qxc) ∧ W.cell? ⟨gQ, 3, none⟩ = some (.slice Qr Qrn Qrc) ∧ W.cell? ⟨gQ, 4, none⟩ = some (.slice Qn Qnn Qnc) ∧ W.cell? ⟨gQ, 5, none⟩ = some (.slice Qh Qhn Qhc) ∧ W.cell? ⟨gQ, 6, none⟩ = some (.slice Ql Qln Qlc)) (first | (with_reducible exact X0) | (with_reducible exact X5) | (with_reducible exact X6) | (with_reducible exact X7) | go_keep) (first
      | (go_at_call 17; refine (F1.out _).mono ?_; rintro e' w6 ⟨rfl, hb5⟩; have hc5 := hbD.trans (hb5.mono hbD.size); have X5 := HS.out w6 hc5)
      | (go_at_call 11; refine (F2.out _ hc5).mono ?_; rintro e' w7 ⟨rfl, hb6⟩; have hc6 := hc5.trans (hb6.mono hc5.size); have X6 := HS.out w7 hc6)
      | (go_at_call 12; refine (F3.out _ hc6).mono ?_; rintro e' w8 ⟨rfl, hb7⟩; have hc7 := hc6.trans (hb7.mono hc6.size); have X7 := HS.out w8 hc7))
     go_wp2
     go_ret
     exact ⟨rfl, HB.out.trans (hc7.mono HB.out.size)⟩
   ·have e1 : ((n : Int) == 0) = false := by rw [beq_eq_false_iff_ne]; omega
    clear hn
    go_wp2
    go_ret
    exact ⟨rfl, HB.out⟩
end Go.Proofs.YtgkdaebiefhgdaaGreatDoor
