/-
  The law VerticalRoundTrips: it returns true. Conditions: the corpus reads as it does, MaxLen's cell holds a number.
-/
import Derived.Test.YtgkdaebiefhgdaaGreatDoorUVertRb
import Derived.Test.YtgkdaebiefhgdaaGreatDoorUCorHv
import Derived.Test.YtgkdaebiefhgdaaGreatDoorUVertAwk
import Derived.Test.YtgkdaebiefhgdaaGreatDoorUFmt7
import Derived.Test.YtgkdaebiefhgdaaGreatDoorUCorRr
import Derived.Test.YtgkdaebiefhgdaaGreatDoorUCorEqR
namespace Go.Proofs.YtgkdaebiefhgdaaGreatDoor
set_option linter.unusedSimpArgs false
set_option linter.unusedVariables false
open Go.RowKit Utf
open Feat (Bs)
open Vert (bodyV writeV readV fmtErr)
attribute [local go_sem] byte_mk ByteArray.extract_mk
set_option maxRecDepth 100000 in
set_option maxHeartbeats 16000000 in
theorem law_vround (H : CH) (c : Cor.C) (m : Int) (w : World) (hc : Reads w w.heap.size H c) (hm : w.cell? ⟨0, 0, none⟩ = some (.int .i64 m)) : Calls Tryz.prog 5 #[H.v] w (Kept (.bool true) w) := by
  have hw0 : 0 < w.heap.size := by
    rcases Nat.eq_zero_or_pos w.heap.size with h | h
    · have : w.heap[0]? = none := Array.getElem?_eq_none (by omega)
      simp [World.cell?, this] at hm
    · exact h
  obtain ⟨⟨Aa, Aan, Aac⟩, ⟨At, Atn, Atc⟩, ⟨Ax, Axn, Axc⟩, ⟨Ar, Arn, Arc⟩, ⟨An, Ann, Anc⟩, ⟨Ah, Ahn, Ahc⟩, ⟨Al, Aln, Alc⟩⟩ := H
  show Calls Tryz.prog 5 #[.agg #[.slice Aa Aan Aac, .slice At Atn Atc, .slice Ax Axn Axc, .slice Ar Arn Arc, .slice An Ann Anc, .slice Ah Ahn Ahc, .slice Al Aln Alc]] w _
  have HAW : Hid (∀ W : World, Below w.heap.size w W → Calls Tryz.prog 12 #[] W (Kept (.bool true) W)) := fun W hW => vawake_any m W ((hW.cell (p := ⟨0, 0, none⟩) hw0).trans hm)
  have hB0 := (Below.refl w.heap.size w).alloc (Nat.le_refl _) (.cells #[.slice Aa Aan Aac, .slice At Atn Atc, .slice Ax Axn Axc, .slice Ar Arn Arc, .slice An Ann Anc, .slice Ah Ahn Ahc, .slice Al Aln Alc] 30)
  have bA := Blk.new w 30 #[.slice Aa Aan Aac, .slice At Atn Atc, .slice Ax Axn Axc, .slice Ar Arn Arc, .slice An Ann Anc, .slice Ah Ahn Ahc, .slice Al Aln Alc]
  have rA := (hc.under hB0).up hB0.size
  have HHV := Lib.hid (vheavy_any ⟨⟨Aa, Aan, Aac⟩, ⟨At, Atn, Atc⟩, ⟨Ax, Axn, Axc⟩, ⟨Ar, Arn, Arc⟩, ⟨An, Ann, Anc⟩, ⟨Ah, Ahn, Ahc⟩, ⟨Al, Aln, Alc⟩⟩ c _ rA)
  have HB0 := Lib.hid hB0
  have HRA := Lib.hid rA
  have HBA := Lib.hid bA
  have q0 := bA.cell 0
  have q1 := bA.cell 1
  have q2 := bA.cell 2
  have q3 := bA.cell 3
  have q4 := bA.cell 4
  have q5 := bA.cell 5
  have q6 := bA.cell 6
  clear hB0 rA bA
  go_enter Tryz.func5, Tryz.ntmps5
  go_wp2_with fail
  refine HHV.out.mono ?_
  rintro e' w1 ⟨bb, rfl, hb1⟩
  clear q0 q1 q2 q3 q4 q5 q6
  have hB1 := HB0.out.trans (hb1.mono HB0.out.size)
  cases bb with
  | true =>
    go_wp2
    go_ret
    exact ⟨rfl, hB1⟩
  | false =>
    have HRB := Lib.hid ((HRA.out.under hb1).up hb1.size)
    have HBB := Lib.hid (HBA.out.below hb1)
    have HVL := Lib.hid (refCorValid_any ⟨⟨Aa, Aan, Aac⟩, ⟨At, Atn, Atc⟩, ⟨Ax, Axn, Axc⟩, ⟨Ar, Arn, Arc⟩, ⟨An, Ann, Anc⟩, ⟨Ah, Ahn, Ahc⟩, ⟨Al, Aln, Alc⟩⟩ c w1 HRB.out)
    have HB1 := Lib.hid hB1
    clear hB1 hb1 HRA HBA HB0 HHV
    have q0 := HBB.out.cell 0
    have q1 := HBB.out.cell 1
    have q2 := HBB.out.cell 2
    have q3 := HBB.out.cell 3
    have q4 := HBB.out.cell 4
    have q5 := HBB.out.cell 5
    have q6 := HBB.out.cell 6
    obtain ⟨vl, hvl⟩ : ∃ vl, Cor.valid c = vl := ⟨_, rfl⟩
    rw [hvl] at HVL
    have HVE := Lib.hid hvl
    clear hvl
    go_wp2_with fail
    refine HVL.out.mono ?_
    rintro e' w2 ⟨rfl, hb2⟩
    clear q0 q1 q2 q3 q4 q5 q6
    have hB2 := HB1.out.trans (hb2.mono HB1.out.size)
    cases vl with
    | false =>
      go_wp2
      go_ret
      exact ⟨rfl, hB2⟩
    | true =>
      have HRC := Lib.hid ((HRB.out.under hb2).up hb2.size)
      have HBC := Lib.hid (HBB.out.below hb2)
      have HVD := Lib.hid (vd_iff.1 HVE.out)
      have HFM := Lib.hid (vformat_any ⟨⟨Aa, Aan, Aac⟩, ⟨At, Atn, Atc⟩, ⟨Ax, Axn, Axc⟩, ⟨Ar, Arn, Arc⟩, ⟨An, Ann, Anc⟩, ⟨Ah, Ahn, Ahc⟩, ⟨Al, Aln, Alc⟩⟩ c w2 HRC.out HVD.out (fun t ht u hu => Nat.le_trans (vd_val HVD.out t ht u hu) (by decide)) (body_len HVD.out))
      have HB2 := Lib.hid hB2
      clear hB2 hb2 HRB HBB HB1 HVL HVE
      have q0 := HBC.out.cell 0
      have q1 := HBC.out.cell 1
      have q2 := HBC.out.cell 2
      have q3 := HBC.out.cell 3
      have q4 := HBC.out.cell 4
      have q5 := HBC.out.cell 5
      have q6 := HBC.out.cell 6
      unfold Writ at HFM
      rcases write_two c with ⟨k, hwr, hk0, hk⟩ | ⟨hwr, hfe, hbl⟩
      · rw [hwr] at HFM
        have e0 : ((k : Int) == 0) = false := by rw [beq_eq_false_iff_ne]; omega
        clear hwr
        go_wp2_with fail
        refine HFM.out.mono ?_
        rintro e' w3 ⟨rfl, hb3⟩
        clear q0 q1 q2 q3 q4 q5 q6
        have HB3 := Lib.hid (HB2.out.trans (hb3.mono HB2.out.size))
        clear hb3
        have HA3 := Lib.hid (HAW.out w3 HB3.out)
        go_wp2_with fail
        refine HA3.out.mono ?_
        rintro en w4 ⟨rfl, hb4⟩
        go_wp2
        go_ret
        exact ⟨rfl, HB3.out.trans (hb4.mono HB3.out.size)⟩
      · rw [hwr] at HFM
        have HFE := Lib.hid hfe
        have HBL := Lib.hid hbl
        clear hwr hfe hbl
        obtain ⟨D, hD⟩ : ∃ D, bodyV c = D := ⟨_, rfl⟩
        have HRD : Hid (readV D c.attrs = (bareC c, none, 0)) := by show _ = _; rw [← hD]; exact read_back HVD.out HFE.out HBL.out
        have HDL : Hid (D.length ≤ 1048576) := by show _ ≤ _; rw [← hD]; exact HBL.out
        rw [hD] at HFM
        clear hD HBL HFE
        go_wp2_with fail
        refine HFM.out.mono ?_
        rintro e' w3 ⟨rfl, hb3⟩
        clear q0 q1 q2 q3 q4 q5 q6
        have HB3 := Lib.hid (HB2.out.trans (hb3.mono HB2.out.size))
        have HR3 := Lib.hid ((HRC.out.under hb3).up hb3.size)
        have HBD := Lib.hid (HBC.out.below hb3)
        have HPA := Lib.hid (vparse_any Aa Aan Aac c.attrs D m w3 HR3.out.a (Nat.le_trans HDL.out (by decide)) ((HB3.out.cell (p := ⟨0, 0, none⟩) hw0).trans hm))
        unfold VRead at HPA
        rw [HRD.out] at HPA
        dsimp only at HPA
        rw [show posR D none = (0, 0) from rfl] at HPA
        dsimp only at HPA
        clear hb3 HRC HBC HB2 HFM HRD HDL
        have q0 := HBD.out.cell 0
        have q1 := HBD.out.cell 1
        have q2 := HBD.out.cell 2
        have q3 := HBD.out.cell 3
        have q4 := HBD.out.cell 4
        have q5 := HBD.out.cell 5
        have q6 := HBD.out.cell 6
        go_wp2_with fail
        refine HPA.out.mono ?_
        rintro e' w4 ⟨⟨⟨Pa, Pan, Pac⟩, ⟨Pt, Ptn, Ptc⟩, ⟨Px, Pxn, Pxc⟩, ⟨Pr, Prn, Prc⟩, ⟨Pn, Pnn, Pnc⟩, ⟨Ph, Phn, Phc⟩, ⟨Pl, Pln, Plc⟩⟩, rfl, hr4, hb4⟩
        clear q0 q1 q2 q3 q4 q5 q6
        have ha := ((Below.refl w4.heap.size w4).alloc (Nat.le_refl _) (.cells #[.slice Pa Pan Pac, .slice Pt Ptn Ptc, .slice Px Pxn Pxc, .slice Pr Prn Prc, .slice Pn Pnn Pnc, .slice Ph Phn Phc, .slice Pl Pln Plc] 30)).alloc (by simp) (.cells #[.int .i64 ((0 : Nat) : Int), .int .i64 ((0 : Nat) : Int)] 32)
        have hxa := hb4.trans (ha.mono hb4.size)
        have BA := HBD.out.below hxa
        have RA := Lib.hid ((HR3.out.under hxa).up hxa.size)
        have RP := Lib.hid ((hr4.under ha).up ha.size)
        have BP : Blk ((w4.alloc (.cells #[.slice Pa Pan Pac, .slice Pt Ptn Ptc, .slice Px Pxn Pxc, .slice Pr Prn Prc, .slice Pn Pnn Pnc, .slice Ph Phn Phc, .slice Pl Pln Plc] 30)).alloc (.cells #[.int .i64 ((0 : Nat) : Int), .int .i64 ((0 : Nat) : Int)] 32)) w4.heap.size 30 #[.slice Pa Pan Pac, .slice Pt Ptn Ptc, .slice Px Pxn Pxc, .slice Pr Prn Prc, .slice Pn Pnn Pnc, .slice Ph Phn Phc, .slice Pl Pln Plc] := (Blk.new w4 _ _).alloc _
        have BQ := Blk.new (w4.alloc (.cells #[.slice Pa Pan Pac, .slice Pt Ptn Ptc, .slice Px Pxn Pxc, .slice Pr Prn Prc, .slice Pn Pnn Pnc, .slice Ph Phn Phc, .slice Pl Pln Plc] 30)) 32 #[.int .i64 ((0 : Nat) : Int), .int .i64 ((0 : Nat) : Int)]
        rw [World.size_alloc] at BQ
        have HB4 := Lib.hid (HB3.out.trans (hxa.mono HB3.out.size))
        clear hr4 hb4 ha hxa HBD HR3 HB3 HPA
        go_upto_region 7 with (fail)
        generalize ((w4.alloc (.cells #[.slice Pa Pan Pac, .slice Pt Ptn Ptc, .slice Px Pxn Pxc, .slice Pr Prn Prc, .slice Pn Pnn Pnc, .slice Ph Phn Phc, .slice Pl Pln Plc] 30)).alloc (.cells #[.int .i64 ((0 : Nat) : Int), .int .i64 ((0 : Nat) : Int)] 32)) = w5 at BA RA RP BP BQ HB4 ⊢
        have hbD : Below w5.heap.size w5 w5.drew := (Below.refl _ _).drew
        have HS := Lib.hid (fun (W : World) (hW : Below w5.heap.size w5 W) => show W.cell? ⟨w.heap.size, 0, none⟩ = some (.slice Aa Aan Aac) ∧ W.cell? ⟨w.heap.size, 1, none⟩ = some (.slice At Atn Atc) ∧ W.cell? ⟨w.heap.size, 2, none⟩ = some (.slice Ax Axn Axc) ∧ W.cell? ⟨w.heap.size, 3, none⟩ = some (.slice Ar Arn Arc) ∧ W.cell? ⟨w.heap.size, 4, none⟩ = some (.slice An Ann Anc) ∧ W.cell? ⟨w.heap.size, 5, none⟩ = some (.slice Ah Ahn Ahc) ∧ W.cell? ⟨w.heap.size, 6, none⟩ = some (.slice Al Aln Alc) ∧ W.cell? ⟨w4.heap.size, 0, none⟩ = some (.slice Pa Pan Pac) ∧ W.cell? ⟨w4.heap.size, 1, none⟩ = some (.slice Pt Ptn Ptc) ∧ W.cell? ⟨w4.heap.size, 2, none⟩ = some (.slice Px Pxn Pxc) ∧ W.cell? ⟨w4.heap.size, 3, none⟩ = some (.slice Pr Prn Prc) ∧ W.cell? ⟨w4.heap.size, 4, none⟩ = some (.slice Pn Pnn Pnc) ∧ W.cell? ⟨w4.heap.size, 5, none⟩ = some (.slice Ph Phn Phc) ∧ W.cell? ⟨w4.heap.size, 6, none⟩ = some (.slice Pl Pln Plc) ∧ W.cell? ⟨w4.heap.size + 1, 0, none⟩ = some (.int .i64 ((0 : Nat) : Int)) ∧ W.cell? ⟨w4.heap.size + 1, 1, none⟩ = some (.int .i64 ((0 : Nat) : Int)) from (by
          have H1 := BA.below hW
          have H2 := BP.below hW
          have H3 := BQ.below hW
          exact ⟨H1.cell 0, H1.cell 1, H1.cell 2, H1.cell 3, H1.cell 4, H1.cell 5, H1.cell 6, H2.cell 0, H2.cell 1, H2.cell 2, H2.cell 3, H2.cell 4, H2.cell 5, H2.cell 6, H3.cell 0, H3.cell 1⟩))
        have F1 := Lib.hid (fun (W : World) => vbare_any ⟨⟨Aa, Aan, Aac⟩, ⟨At, Atn, Atc⟩, ⟨Ax, Axn, Axc⟩, ⟨Ar, Arn, Arc⟩, ⟨An, Ann, Anc⟩, ⟨Ah, Ahn, Ahc⟩, ⟨Al, Aln, Alc⟩⟩ W)
        have F2 := Lib.hid (fun (W : World) (hW : Below w5.heap.size w5 W) => refEqual_any ⟨⟨Pa, Pan, Pac⟩, ⟨Pt, Ptn, Ptc⟩, ⟨Px, Pxn, Pxc⟩, ⟨Pr, Prn, Prc⟩, ⟨Pn, Pnn, Pnc⟩, ⟨Ph, Phn, Phc⟩, ⟨Pl, Pln, Plc⟩⟩ (bareH ⟨⟨Aa, Aan, Aac⟩, ⟨At, Atn, Atc⟩, ⟨Ax, Axn, Axc⟩, ⟨Ar, Arn, Arc⟩, ⟨An, Ann, Anc⟩, ⟨Ah, Ahn, Ahc⟩, ⟨Al, Aln, Alc⟩⟩) (bareC c) (bareC c) W ((RP.out.under hW).up hW.size) (reads_bare ((RA.out.under hW).up hW.size)))
        rw [same_t rfl] at F2
        have F3 := Lib.hid (fun (W : World) (hW : Below w5.heap.size w5 W) => HAW.out W (HB4.out.trans (hW.mono HB4.out.size)))
        clear BA BP BQ RA RP
        unfold Bared at F1
        simp only [bareH, CH.v, CH.cs, Hd.v] at F1 F2
        have X0 := HS.out w5.drew hbD
        go_region_held3 (fun W => W.cell? ⟨w.heap.size, 0, none⟩ = some (.slice Aa Aan Aac) ∧ W.cell? ⟨w.heap.size, 1, none⟩ = some (.slice At Atn Atc) ∧ W.cell? ⟨w.heap.size, 2, none⟩ = some (.slice Ax Axn Axc) ∧ W.cell? ⟨w.heap.size, 3, none⟩ = some (.slice Ar Arn Arc) ∧ W.cell? ⟨w.heap.size, 4, none⟩ = some (.slice An Ann Anc) ∧ W.cell? ⟨w.heap.size, 5, none⟩ = some (.slice Ah Ahn Ahc) ∧ W.cell? ⟨w.heap.size, 6, none⟩ = some (.slice Al Aln Alc) ∧ W.cell? ⟨w4.heap.size, 0, none⟩ = some (.slice Pa Pan Pac) ∧ W.cell? ⟨w4.heap.size, 1, none⟩ = some (.slice Pt Ptn Ptc) ∧ W.cell? ⟨w4.heap.size, 2, none⟩ = some (.slice Px Pxn Pxc) ∧ W.cell? ⟨w4.heap.size, 3, none⟩ = some (.slice Pr Prn Prc) ∧ W.cell? ⟨w4.heap.size, 4, none⟩ = some (.slice Pn Pnn Pnc) ∧ W.cell? ⟨w4.heap.size, 5, none⟩ = some (.slice Ph Phn Phc) ∧ W.cell? ⟨w4.heap.size, 6, none⟩ = some (.slice Pl Pln Plc) ∧ W.cell? ⟨w4.heap.size + 1, 0, none⟩ = some (.int .i64 ((0 : Nat) : Int)) ∧ W.cell? ⟨w4.heap.size + 1, 1, none⟩ = some (.int .i64 ((0 : Nat) : Int))) (first | (with_reducible exact X0) | (with_reducible exact X5) | (with_reducible exact X6) | (with_reducible exact X7) | go_keep) (first
          | (go_at_call 17; refine (F1.out _).mono ?_; rintro e' w6 ⟨rfl, hb5⟩; have hc5 := hbD.trans (hb5.mono hbD.size); have X5 := HS.out w6 hc5)
          | (go_at_call 11; refine (F2.out _ hc5).mono ?_; rintro e' w7 ⟨rfl, hb6⟩; have hc6 := hc5.trans (hb6.mono hc5.size); have X6 := HS.out w7 hc6)
          | (go_at_call 12; refine (F3.out _ hc6).mono ?_; rintro e' w8 ⟨rfl, hb7⟩; have hc7 := hc6.trans (hb7.mono hc6.size); have X7 := HS.out w8 hc7))
        go_wp2
        go_ret
        exact ⟨rfl, HB4.out.trans (hc7.mono HB4.out.size)⟩
end Go.Proofs.YtgkdaebiefhgdaaGreatDoor
