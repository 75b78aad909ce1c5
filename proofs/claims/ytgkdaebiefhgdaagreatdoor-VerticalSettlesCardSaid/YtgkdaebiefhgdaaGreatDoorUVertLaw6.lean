/-
  The law VerticalSettles: it returns true. Conditions: the attributes read as they do, the text's length is an int, MaxLen's cell holds a number.
-/
import Derived.Test.YtgkdaebiefhgdaaGreatDoorUVertSet
import Derived.Test.YtgkdaebiefhgdaaGreatDoorUVertAwk
import Derived.Test.YtgkdaebiefhgdaaGreatDoorUCorSrtY
import Derived.Test.YtgkdaebiefhgdaaGreatDoorUBase6Y
import Derived.Test.YtgkdaebiefhgdaaGreatDoorUVertPlY
import Derived.Test.YtgkdaebiefhgdaaGreatDoorUFmt7
import Derived.Test.YtgkdaebiefhgdaaGreatDoorUVertRbY
import Derived.Test.YtgkdaebiefhgdaaGreatDoorUCorEqB
import Derived.Test.YtgkdaebiefhgdaaGreatDoorUCorEqBY
namespace Go.Proofs.YtgkdaebiefhgdaaGreatDoor
set_option linter.unusedSimpArgs false
set_option linter.unusedVariables false
open Go.RowKit Utf
open Feat (Bs)
open Vert (bodyV writeV readV fmtErr)
attribute [local go_sem] byte_mk ByteArray.extract_mk
theorem write_fine {c : Cor.C} (h : fmtErr c = 0) : writeV c = ([], 2) ∨ (writeV c = (bodyV c, 0) ∧ (bodyV c).length ≤ 1048576) := by
  unfold writeV
  rw [if_neg (by omega)]
  by_cases h2 : 1048576 < (bodyV c).length
  · rw [if_pos h2]; exact .inl rfl
  · rw [if_neg h2]; exact .inr ⟨rfl, by omega⟩
set_option maxRecDepth 100000 in
set_option maxHeartbeats 16000000 in
theorem law_vsettles (A : Option Addr) (n c : Nat) (l : List At) (d : Bs) (m : Int) (w : World) (ha : Atts w w.heap.size ⟨A, n, c⟩ l) (hd : d.length ≤ 9223372036854775807) (hm : w.cell? ⟨0, 0, none⟩ = some (.int .i64 m)) : Calls Tryz.prog 7 #[str d, .slice A n c] w (Kept (.bool true) w) := by
  have hw0 : 0 < w.heap.size := by
    rcases Nat.eq_zero_or_pos w.heap.size with h | h
    · have : w.heap[0]? = none := Array.getElem?_eq_none (by omega)
      simp [World.cell?, this] at hm
    · exact h
  have hnn : n ≤ 9223372036854775807 := ha.fit.2
  by_cases h1 : 3000 < d.length
  · go_enter Tryz.func7, Tryz.ntmps7
    go_wp2
    go_ret
    exact ⟨rfl, Below.refl _ _⟩
  by_cases hn12 : 12 < n
  · go_enter Tryz.func7, Tryz.ntmps7
    go_wp2
    go_ret
    exact ⟨rfl, Below.refl _ _⟩
  have HV1 := Lib.hid (vparse_any A n c l d m w ha hd hm)
  have HAW : Hid (∀ W : World, Below w.heap.size w W → Calls Tryz.prog 12 #[] W (Kept (.bool true) W)) := fun W hW => vawake_any m W ((hW.cell (p := ⟨0, 0, none⟩) hw0).trans hm)
  unfold VRead at HV1
  obtain ⟨er, her⟩ : ∃ er, (readV d l).2.2 = er := ⟨_, rfl⟩
  obtain ⟨cc, hcc⟩ : ∃ cc, (readV d l).1 = cc := ⟨_, rfl⟩
  obtain ⟨px, py, hpp⟩ : ∃ px py, posR d (readV d l).2.1 = (px, py) := ⟨_, _, rfl⟩
  by_cases h0 : er = 0
  · subst h0
    have hvl := (readV_valid her).1
    have hrf := read_fmt her
    rw [hcc] at hvl hrf
    obtain ⟨hfe, hbc, hat⟩ := hrf
    have HVD := Lib.hid (vd_iff.1 hvl)
    have hrb := fun h => read_back HVD.out hfe h
    rw [hbc, hat] at hrb
    have hwf := write_fine hfe
    have HRB := Lib.hid hrb
    have HWF := Lib.hid hwf
    rw [her, hcc, hpp] at HV1
    dsimp only at HV1
    clear hrb hwf hbc hat hfe hvl her hcc hpp
    go_enter Tryz.func7, Tryz.ntmps7
    go_wp2_with fail
    refine HV1.out.mono ?_
    rintro en w1 ⟨⟨⟨Pa, Pan, Pac⟩, ⟨Pt, Ptn, Ptc⟩, ⟨Px, Pxn, Pxc⟩, ⟨Pr, Prn, Prc⟩, ⟨Pn, Pnn, Pnc⟩, ⟨Ph, Phn, Phc⟩, ⟨Pl, Pln, Plc⟩⟩, rfl, hr1, hb1⟩
    have ha1 := ((Below.refl w1.heap.size w1).alloc (Nat.le_refl _) (.cells #[.slice Pa Pan Pac, .slice Pt Ptn Ptc, .slice Px Pxn Pxc, .slice Pr Prn Prc, .slice Pn Pnn Pnc, .slice Ph Phn Phc, .slice Pl Pln Plc] 30)).alloc (by simp) (.cells #[.int .i64 (px : Nat), .int .i64 (py : Nat)] 32)
    have hxa := hb1.trans (ha1.mono hb1.size)
    have RP := Lib.hid ((hr1.under ha1).up ha1.size)
    have HAT := Lib.hid ((ha.under hxa).up hxa.size)
    have BP : Blk ((w1.alloc (.cells #[.slice Pa Pan Pac, .slice Pt Ptn Ptc, .slice Px Pxn Pxc, .slice Pr Prn Prc, .slice Pn Pnn Pnc, .slice Ph Phn Phc, .slice Pl Pln Plc] 30)).alloc (.cells #[.int .i64 (px : Nat), .int .i64 (py : Nat)] 32)) w1.heap.size 30 #[.slice Pa Pan Pac, .slice Pt Ptn Ptc, .slice Px Pxn Pxc, .slice Pr Prn Prc, .slice Pn Pnn Pnc, .slice Ph Phn Phc, .slice Pl Pln Plc] := (Blk.new w1 _ _).alloc _
    have HB1 := Lib.hid hxa
    clear hr1 hb1 ha1 hxa HV1
    go_upto_region 6 with (fail)
    generalize ((w1.alloc (.cells #[.slice Pa Pan Pac, .slice Pt Ptn Ptc, .slice Px Pxn Pxc, .slice Pr Prn Prc, .slice Pn Pnn Pnc, .slice Ph Phn Phc, .slice Pl Pln Plc] 30)).alloc (.cells #[.int .i64 (px : Nat), .int .i64 (py : Nat)] 32)) = w2 at BP RP HAT HB1 ⊢
    have HFM := Lib.hid (vformat_any ⟨⟨Pa, Pan, Pac⟩, ⟨Pt, Ptn, Ptc⟩, ⟨Px, Pxn, Pxc⟩, ⟨Pr, Prn, Prc⟩, ⟨Pn, Pnn, Pnc⟩, ⟨Ph, Phn, Phc⟩, ⟨Pl, Pln, Plc⟩⟩ cc w2 RP.out HVD.out (fun t ht u hu => Nat.le_trans (vd_val HVD.out t ht u hu) (by decide)) (body_len HVD.out))
    unfold Writ at HFM
    have q0 := BP.cell 0
    have q1 := BP.cell 1
    have q2 := BP.cell 2
    have q3 := BP.cell 3
    have q4 := BP.cell 4
    have q5 := BP.cell 5
    have q6 := BP.cell 6
    rcases HWF.out with hwr | ⟨hwr, hbl⟩
    · rw [hwr] at HFM
      clear hwr
      go_wp2_with fail
      refine HFM.out.mono ?_
      rintro e' w3 ⟨rfl, hb3⟩
      clear q0 q1 q2 q3 q4 q5 q6
      have HB3 := Lib.hid (HB1.out.trans (hb3.mono HB1.out.size))
      clear hb3
      have HA3 := Lib.hid (HAW.out w3 HB3.out)
      go_wp2_with fail
      refine HA3.out.mono ?_
      rintro en w4 ⟨rfl, hb4⟩
      go_wp2
      go_ret
      exact ⟨rfl, HB3.out.trans (hb4.mono HB3.out.size)⟩
    · rw [hwr] at HFM
      have HBL := Lib.hid hbl
      have HWR := Lib.hid hwr
      clear hwr hbl
      have HRD := Lib.hid (HRB.out HBL.out)
      obtain ⟨D, hD⟩ : ∃ D, bodyV cc = D := ⟨_, rfl⟩
      rw [hD] at HFM HRD HBL HWR
      clear hD
      go_wp2_with fail
      refine HFM.out.mono ?_
      rintro e' w3 ⟨rfl, hb3⟩
      clear q0 q1 q2 q3 q4 q5 q6
      have HB3 := Lib.hid (HB1.out.trans (hb3.mono HB1.out.size))
      have BP3 := BP.below hb3
      have RP3 := Lib.hid ((RP.out.under hb3).up hb3.size)
      have HAT3 := Lib.hid ((HAT.out.under hb3).up hb3.size)
      have HPA := Lib.hid (vparse_any A n c l D m w3 HAT3.out (Nat.le_trans HBL.out (by decide)) ((HB3.out.cell (p := ⟨0, 0, none⟩) hw0).trans hm))
      unfold VRead at HPA
      rw [HRD.out] at HPA
      dsimp only at HPA
      rw [show posR D none = (0, 0) from rfl] at HPA
      dsimp only at HPA
      clear hb3 HB1 HAT BP RP HFM
      go_wp2_with fail
      refine HPA.out.mono ?_
      rintro e' w4 ⟨⟨⟨Qa, Qan, Qac⟩, ⟨Qt, Qtn, Qtc⟩, ⟨Qx, Qxn, Qxc⟩, ⟨Qr, Qrn, Qrc⟩, ⟨Qn, Qnn, Qnc⟩, ⟨Qh, Qhn, Qhc⟩, ⟨Ql, Qln, Qlc⟩⟩, rfl, hr4, hb4⟩
      have ha := ((Below.refl w4.heap.size w4).alloc (Nat.le_refl _) (.cells #[.slice Qa Qan Qac, .slice Qt Qtn Qtc, .slice Qx Qxn Qxc, .slice Qr Qrn Qrc, .slice Qn Qnn Qnc, .slice Qh Qhn Qhc, .slice Ql Qln Qlc] 30)).alloc (by simp) (.cells #[.int .i64 ((0 : Nat) : Int), .int .i64 ((0 : Nat) : Int)] 32)
      have hxa := hb4.trans (ha.mono hb4.size)
      have BP4 := BP3.below hxa
      have RP4 := Lib.hid ((RP3.out.under hxa).up hxa.size)
      have RQ := Lib.hid ((hr4.under ha).up ha.size)
      have BQ : Blk ((w4.alloc (.cells #[.slice Qa Qan Qac, .slice Qt Qtn Qtc, .slice Qx Qxn Qxc, .slice Qr Qrn Qrc, .slice Qn Qnn Qnc, .slice Qh Qhn Qhc, .slice Ql Qln Qlc] 30)).alloc (.cells #[.int .i64 ((0 : Nat) : Int), .int .i64 ((0 : Nat) : Int)] 32)) w4.heap.size 30 #[.slice Qa Qan Qac, .slice Qt Qtn Qtc, .slice Qx Qxn Qxc, .slice Qr Qrn Qrc, .slice Qn Qnn Qnc, .slice Qh Qhn Qhc, .slice Ql Qln Qlc] := (Blk.new w4 _ _).alloc _
      have HB4 := Lib.hid (HB3.out.trans (hxa.mono HB3.out.size))
      clear hr4 hb4 ha hxa BP3 RP3 HB3 HPA HAT3
      go_upto_region 10 with (fail)
      generalize ((w4.alloc (.cells #[.slice Qa Qan Qac, .slice Qt Qtn Qtc, .slice Qx Qxn Qxc, .slice Qr Qrn Qrc, .slice Qn Qnn Qnc, .slice Qh Qhn Qhc, .slice Ql Qln Qlc] 30)).alloc (.cells #[.int .i64 ((0 : Nat) : Int), .int .i64 ((0 : Nat) : Int)] 32)) = w5 at BP4 RP4 RQ BQ HB4 ⊢
      have HFM := Lib.hid (vformat_any ⟨⟨Qa, Qan, Qac⟩, ⟨Qt, Qtn, Qtc⟩, ⟨Qx, Qxn, Qxc⟩, ⟨Qr, Qrn, Qrc⟩, ⟨Qn, Qnn, Qnc⟩, ⟨Qh, Qhn, Qhc⟩, ⟨Ql, Qln, Qlc⟩⟩ cc w5 RQ.out HVD.out (fun t ht u hu => Nat.le_trans (vd_val HVD.out t ht u hu) (by decide)) (body_len HVD.out))
      unfold Writ at HFM
      rw [HWR.out] at HFM
      dsimp only at HFM
      have q0 := BQ.cell 0
      have q1 := BQ.cell 1
      have q2 := BQ.cell 2
      have q3 := BQ.cell 3
      have q4 := BQ.cell 4
      have q5 := BQ.cell 5
      have q6 := BQ.cell 6
      go_wp2_with fail
      refine HFM.out.mono ?_
      rintro e' w6 ⟨rfl, hb6⟩
      clear q0 q1 q2 q3 q4 q5 q6
      have HB6 := Lib.hid (HB4.out.trans (hb6.mono HB4.out.size))
      have BP6 := BP4.below hb6
      have RP6 := (RP4.out.under hb6).up hb6.size
      have RQ6 := (RQ.out.under hb6).up hb6.size
      have BQ6 := BQ.below hb6
      have HEQ := Lib.hid (equal_any ⟨⟨Pa, Pan, Pac⟩, ⟨Pt, Ptn, Ptc⟩, ⟨Px, Pxn, Pxc⟩, ⟨Pr, Prn, Prc⟩, ⟨Pn, Pnn, Pnc⟩, ⟨Ph, Phn, Phc⟩, ⟨Pl, Pln, Plc⟩⟩ ⟨⟨Qa, Qan, Qac⟩, ⟨Qt, Qtn, Qtc⟩, ⟨Qx, Qxn, Qxc⟩, ⟨Qr, Qrn, Qrc⟩, ⟨Qn, Qnn, Qnc⟩, ⟨Qh, Qhn, Qhc⟩, ⟨Ql, Qln, Qlc⟩⟩ cc cc w6 RP6 RQ6)
      rw [same_t rfl] at HEQ
      have q0 := BP6.cell 0
      have q1 := BP6.cell 1
      have q2 := BP6.cell 2
      have q3 := BP6.cell 3
      have q4 := BP6.cell 4
      have q5 := BP6.cell 5
      have q6 := BP6.cell 6
      have k0 := BQ6.cell 0
      have k1 := BQ6.cell 1
      have k2 := BQ6.cell 2
      have k3 := BQ6.cell 3
      have k4 := BQ6.cell 4
      have k5 := BQ6.cell 5
      have k6 := BQ6.cell 6
      clear BP4 RP4 RQ BQ HB4 hb6 RP6 RQ6 BP6 BQ6 HFM
      go_wp2_with fail
      refine HEQ.out.mono ?_
      rintro en w7 ⟨rfl, hb7⟩
      clear q0 q1 q2 q3 q4 q5 q6 k0 k1 k2 k3 k4 k5 k6
      have HB7 := Lib.hid (HB6.out.trans (hb7.mono HB6.out.size))
      have HA7 := Lib.hid (HAW.out w7 HB7.out)
      clear hb7
      go_wp2_with fail
      refine HA7.out.mono ?_
      rintro en w8 ⟨rfl, hb8⟩
      go_wp2
      go_ret
      exact ⟨rfl, HB7.out.trans (hb8.mono HB7.out.size)⟩
  · have e0 : ((er : Int) == 0) = false := by rw [beq_eq_false_iff_ne]; omega
    rw [her, hcc, hpp] at HV1
    dsimp only at HV1
    clear her hcc hpp
    go_enter Tryz.func7, Tryz.ntmps7
    go_wp2_with fail
    refine HV1.out.mono ?_
    rintro en w1 ⟨⟨⟨Pa, Pan, Pac⟩, ⟨Pt, Ptn, Ptc⟩, ⟨Px, Pxn, Pxc⟩, ⟨Pr, Prn, Prc⟩, ⟨Pn, Pnn, Pnc⟩, ⟨Ph, Phn, Phc⟩, ⟨Pl, Pln, Plc⟩⟩, rfl, hr1, hb1⟩
    go_wp2
    go_ret
    exact ⟨rfl, hb1.trans ((((Below.refl w1.heap.size w1).alloc (Nat.le_refl _) _).alloc (by simp) _).mono hb1.size)⟩
end Go.Proofs.YtgkdaebiefhgdaaGreatDoor
