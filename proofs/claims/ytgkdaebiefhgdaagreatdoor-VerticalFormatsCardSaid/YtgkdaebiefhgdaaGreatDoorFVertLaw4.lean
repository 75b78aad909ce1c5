/-
  The law VerticalFormats: it returns true. Conditions: the corpus reads as it does, MaxLen's cell holds a number.
-/
import Derived.Test.YtgkdaebiefhgdaaGreatDoorFRefFmt7
import Derived.Test.YtgkdaebiefhgdaaGreatDoorFCorHv
import Derived.Test.YtgkdaebiefhgdaaGreatDoorFVertAwk
import Derived.Test.YtgkdaebiefhgdaaGreatDoorFFmt7
import Derived.Test.YtgkdaebiefhgdaaGreatDoorFCorRr
namespace Go.Proofs.YtgkdaebiefhgdaaGreatDoor
set_option linter.unusedSimpArgs false
set_option linter.unusedVariables false
open Go.RowKit Utf
open Feat (Bs)
open Vert (bodyV writeV readV fmtErr)
attribute [local go_sem] byte_mk ByteArray.extract_mk
set_option maxRecDepth 100000 in
set_option maxHeartbeats 16000000 in
theorem law_vformats (H : CH) (c : Cor.C) (m : Int) (w : World) (hc : Reads w w.heap.size H c) (hm : w.cell? ⟨0, 0, none⟩ = some (.int .i64 m)) : Calls Tryz.prog 4 #[H.v] w (Kept (.bool true) w) := by
  have hw0 : 0 < w.heap.size := by
    rcases Nat.eq_zero_or_pos w.heap.size with h | h
    · have : w.heap[0]? = none := Array.getElem?_eq_none (by omega)
      simp [World.cell?, this] at hm
    · exact h
  obtain ⟨⟨Aa, Aan, Aac⟩, ⟨At, Atn, Atc⟩, ⟨Ax, Axn, Axc⟩, ⟨Ar, Arn, Arc⟩, ⟨An, Ann, Anc⟩, ⟨Ah, Ahn, Ahc⟩, ⟨Al, Aln, Alc⟩⟩ := H
  show Calls Tryz.prog 4 #[.agg #[.slice Aa Aan Aac, .slice At Atn Atc, .slice Ax Axn Axc, .slice Ar Arn Arc, .slice An Ann Anc, .slice Ah Ahn Ahc, .slice Al Aln Alc]] w _
  have HAW : Hid (∀ W : World, Below w.heap.size w W → Calls Tryz.prog 12 #[] W (Kept (.bool true) W)) := fun W hW => vawake_any m W ((hW.cell (p := ⟨0, 0, none⟩) hw0).trans hm)
  have hB0 := (Below.refl w.heap.size w).alloc (Nat.le_refl _) (.cells #[.slice Aa Aan Aac, .slice At Atn Atc, .slice Ax Axn Axc, .slice Ar Arn Arc, .slice An Ann Anc, .slice Ah Ahn Ahc, .slice Al Aln Alc] 30)
  have bA := Blk.new w 30 #[.slice Aa Aan Aac, .slice At Atn Atc, .slice Ax Axn Axc, .slice Ar Arn Arc, .slice An Ann Anc, .slice Ah Ahn Ahc, .slice Al Aln Alc]
  have rA := (hc.under hB0).up hB0.size
  have HHV := Lib.hid (vheavy_any ⟨⟨Aa, Aan, Aac⟩, ⟨At, Atn, Atc⟩, ⟨Ax, Axn, Axc⟩, ⟨Ar, Arn, Arc⟩, ⟨An, Ann, Anc⟩, ⟨Ah, Ahn, Ahc⟩, ⟨Al, Aln, Alc⟩⟩ c _ rA)
  have HB0 := Lib.hid hB0
  have HRA := Lib.hid rA
  have HBA := Lib.hid bA
  have q0 := bA.cell 0
  have q1 := bA.cell 1
  have q2 := bA.cell 2
  have q3 := bA.cell 3
  have q4 := bA.cell 4
  have q5 := bA.cell 5
  have q6 := bA.cell 6
  clear hB0 rA bA
  go_enter Tryz.func4, Tryz.ntmps4
  go_wp2_with fail
  refine HHV.out.mono ?_
  rintro e' w1 ⟨bb, rfl, hb1⟩
  clear q0 q1 q2 q3 q4 q5 q6
  have hB1 := HB0.out.trans (hb1.mono HB0.out.size)
  cases bb with
  | true =>
    go_wp2
    go_ret
    exact ⟨rfl, hB1⟩
  | false =>
    have HRB := Lib.hid ((HRA.out.under hb1).up hb1.size)
    have HBB := Lib.hid (HBA.out.below hb1)
    have HVL := Lib.hid (refCorValid_any ⟨⟨Aa, Aan, Aac⟩, ⟨At, Atn, Atc⟩, ⟨Ax, Axn, Axc⟩, ⟨Ar, Arn, Arc⟩, ⟨An, Ann, Anc⟩, ⟨Ah, Ahn, Ahc⟩, ⟨Al, Aln, Alc⟩⟩ c w1 HRB.out)
    have HB1 := Lib.hid hB1
    clear hB1 hb1 HRA HBA HB0 HHV
    have q0 := HBB.out.cell 0
    have q1 := HBB.out.cell 1
    have q2 := HBB.out.cell 2
    have q3 := HBB.out.cell 3
    have q4 := HBB.out.cell 4
    have q5 := HBB.out.cell 5
    have q6 := HBB.out.cell 6
    obtain ⟨vl, hvl⟩ : ∃ vl, Cor.valid c = vl := ⟨_, rfl⟩
    rw [hvl] at HVL
    have HVE := Lib.hid hvl
    clear hvl
    go_wp2_with fail
    refine HVL.out.mono ?_
    rintro e' w2 ⟨rfl, hb2⟩
    clear q0 q1 q2 q3 q4 q5 q6
    have hB2 := HB1.out.trans (hb2.mono HB1.out.size)
    cases vl with
    | false =>
      go_wp2
      go_ret
      exact ⟨rfl, hB2⟩
    | true =>
      have HRC := Lib.hid ((HRB.out.under hb2).up hb2.size)
      have HBC := Lib.hid (HBB.out.below hb2)
      have HVD := Lib.hid (vd_iff.1 HVE.out)
      have HFM := Lib.hid (vformat_any ⟨⟨Aa, Aan, Aac⟩, ⟨At, Atn, Atc⟩, ⟨Ax, Axn, Axc⟩, ⟨Ar, Arn, Arc⟩, ⟨An, Ann, Anc⟩, ⟨Ah, Ahn, Ahc⟩, ⟨Al, Aln, Alc⟩⟩ c w2 HRC.out HVD.out (fun t ht u hu => Nat.le_trans (vd_val HVD.out t ht u hu) (by decide)) (body_len HVD.out))
      have HB2 := Lib.hid hB2
      clear hB2 hb2 HRB HBB HB1 HVL HVE
      have q0 := HBC.out.cell 0
      have q1 := HBC.out.cell 1
      have q2 := HBC.out.cell 2
      have q3 := HBC.out.cell 3
      have q4 := HBC.out.cell 4
      have q5 := HBC.out.cell 5
      have q6 := HBC.out.cell 6
      unfold Writ at HFM
      obtain ⟨S, E, hwr⟩ : ∃ S E, writeV c = (S, E) := ⟨_, _, rfl⟩
      have HWR := Lib.hid hwr
      rw [hwr] at HFM
      dsimp only at HFM
      clear hwr
      go_wp2_with fail
      refine HFM.out.mono ?_
      rintro e' w3 ⟨rfl, hb3⟩
      clear q0 q1 q2 q3 q4 q5 q6
      have HB3 := Lib.hid (HB2.out.trans (hb3.mono HB2.out.size))
      have HRD := Lib.hid ((HRC.out.under hb3).up hb3.size)
      have HBD := HBC.out.below hb3
      have HRF := Lib.hid (rformat_any ⟨⟨Aa, Aan, Aac⟩, ⟨At, Atn, Atc⟩, ⟨Ax, Axn, Axc⟩, ⟨Ar, Arn, Arc⟩, ⟨An, Ann, Anc⟩, ⟨Ah, Ahn, Ahc⟩, ⟨Al, Aln, Alc⟩⟩ c w3 HRD.out HVD.out)
      unfold Writ at HRF
      rw [HWR.out] at HRF
      dsimp only at HRF
      have q0 := HBD.cell 0
      have q1 := HBD.cell 1
      have q2 := HBD.cell 2
      have q3 := HBD.cell 3
      have q4 := HBD.cell 4
      have q5 := HBD.cell 5
      have q6 := HBD.cell 6
      clear hb3 HRC HBC HB2 HFM HBD HWR
      go_wp2_with fail
      refine HRF.out.mono ?_
      rintro e' w4 ⟨rfl, hb4⟩
      clear q0 q1 q2 q3 q4 q5 q6
      have HB4 := Lib.hid (HB3.out.trans (hb4.mono HB3.out.size))
      have HA := Lib.hid (HAW.out w4 HB4.out)
      clear hb4 HRF HRD
      go_wp2_with fail
      refine HA.out.mono ?_
      rintro en w5 ⟨rfl, hb5⟩
      go_wp2
      go_ret
      exact ⟨rfl, HB4.out.trans (hb5.mono HB4.out.size)⟩
end Go.Proofs.YtgkdaebiefhgdaaGreatDoor
