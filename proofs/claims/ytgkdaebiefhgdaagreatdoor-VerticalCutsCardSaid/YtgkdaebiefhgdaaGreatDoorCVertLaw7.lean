/-
  The law VerticalCuts: it returns true. Conditions: the corpus reads as it does, the number is an int, MaxLen's cell holds a number.
-/
import Derived.Test.YtgkdaebiefhgdaaGreatDoorCVertCut
import Derived.Test.YtgkdaebiefhgdaaGreatDoorCCorHv
import Derived.Test.YtgkdaebiefhgdaaGreatDoorCVertAwk
import Derived.Test.YtgkdaebiefhgdaaGreatDoorCFmt7
import Derived.Test.YtgkdaebiefhgdaaGreatDoorCCorRr
import Derived.Deep.RegionWith
import Derived.Deep.RegionHeld3
import Derived.Deep.CutRange
import Derived.Test.YtgkdaebiefhgdaaGreatDoorCCorHold
namespace Go.Proofs.YtgkdaebiefhgdaaGreatDoor
set_option linter.unusedSimpArgs false
set_option linter.unusedVariables false
open Go.RowKit Utf
open Feat (Bs)
open Vert (bodyV writeV readV fmtErr)
attribute [local go_sem] byte_mk ByteArray.extract_mk
section
variable {P : Program} {ops : Array Oper} {Q : Exit → Act → World → Prop} {md : Region.Mode} {S : World → Prop} {m : Nat}
abbrev Arm (P : Program) (md : Region.Mode) (ops : Array Oper) (Q : Exit → Act → World → Prop) (S : World → Prop) (m fuel : Nat) (listed : Array Bool) (a : Act) (w : World) (i : Nat) (o : Oper) : Prop :=
  ∀ K : Act → World → Prop, Hid (∀ a' w', (i ≠ m → S w') → wpAnyM P md ops Q S m fuel (listed.setIfInBounds i true) a' w' → K a' w') → if Region.wanted o (yielded ops a.tmps) = true then Oper.wp P o a w K Q else K (a.put o.dst undef) w
theorem arm_wp {fuel : Nat} {listed : Array Bool} {a : Act} {w : World} {i : Nat} {o : Oper} (ho : ops[i]? = some o) (h : Arm P md ops Q S m fuel listed a w i o) :
    wpOp P ops Q i (fun a' w' => (i ≠ m → S w') ∧ wpAnyM P md ops Q S m fuel (listed.setIfInBounds i true) a' w') a w := by
  have h1 := h (fun a' w' => (i ≠ m → S w') ∧ wpAnyM P md ops Q S m fuel (listed.setIfInBounds i true) a' w') (Lib.hid fun a' w' h1 h2 => ⟨h1, h2⟩)
  unfold wpOp
  rw [ho]
  simp only []
  split
  · rename_i hw
    rw [if_pos hw] at h1; exact .inl h1
  · rename_i hw
    rw [if_neg hw] at h1; exact h1
/-- Two may come up. -/
theorem wpAnyM_two {i j : Nat} {o p : Oper} {fuel : Nat} {listed : Array Bool} {a : Act} {w : World} (hr : Region.ready md ops listed = [i, j]) (ho : ops[i]? = some o) (hp : ops[j]? = some p)
    (h : Arm P md ops Q S m fuel listed a w i o) (h2 : Arm P md ops Q S m fuel listed a w j p) : wpAnyM P md ops Q S m (fuel + 1) listed a w := by
  refine ⟨fun h0 => (by rw [hr] at h0; cases h0), fun x hx => ?_⟩
  rw [hr] at hx
  simp only [List.mem_cons, List.not_mem_nil, or_false] at hx
  rcases hx with rfl | rfl
  · exact arm_wp ho h
  · exact arm_wp hp h2
/-- Three may come up. -/
theorem wpAnyM_three {i j k : Nat} {o p q : Oper} {fuel : Nat} {listed : Array Bool} {a : Act} {w : World} (hr : Region.ready md ops listed = [i, j, k]) (ho : ops[i]? = some o) (hp : ops[j]? = some p) (hq : ops[k]? = some q)
    (h : Arm P md ops Q S m fuel listed a w i o) (h2 : Arm P md ops Q S m fuel listed a w j p) (h3 : Arm P md ops Q S m fuel listed a w k q) : wpAnyM P md ops Q S m (fuel + 1) listed a w := by
  refine ⟨fun h0 => (by rw [hr] at h0; cases h0), fun x hx => ?_⟩
  rw [hr] at hx
  simp only [List.mem_cons, List.not_mem_nil, or_false] at hx
  rcases hx with rfl | rfl | rfl
  · exact arm_wp ho h
  · exact arm_wp hp h2
  · exact arm_wp hq h3
end
set_option maxRecDepth 100000 in
set_option maxHeartbeats 16000000 in
theorem law_vcuts (H : CH) (c : Cor.C) (z : Int) (m : Int) (w : World) (hz : Rng z) (hc : Reads w w.heap.size H c) (hm : w.cell? ⟨0, 0, none⟩ = some (.int .i64 m)) : Calls Tryz.prog 6 #[H.v, .int .i64 z] w (Kept (.bool true) w) := by
  have hw0 : 0 < w.heap.size := by
    rcases Nat.eq_zero_or_pos w.heap.size with h | h
    · have : w.heap[0]? = none := Array.getElem?_eq_none (by omega)
      simp [World.cell?, this] at hm
    · exact h
  unfold Rng at hz
  obtain ⟨⟨Aa, Aan, Aac⟩, ⟨At, Atn, Atc⟩, ⟨Ax, Axn, Axc⟩, ⟨Ar, Arn, Arc⟩, ⟨An, Ann, Anc⟩, ⟨Ah, Ahn, Ahc⟩, ⟨Al, Aln, Alc⟩⟩ := H
  show Calls Tryz.prog 6 #[.agg #[.slice Aa Aan Aac, .slice At Atn Atc, .slice Ax Axn Axc, .slice Ar Arn Arc, .slice An Ann Anc, .slice Ah Ahn Ahc, .slice Al Aln Alc], .int .i64 z] w _
  have HAW : Hid (∀ W : World, Below w.heap.size w W → Calls Tryz.prog 12 #[] W (Kept (.bool true) W)) := fun W hW => vawake_any m W ((hW.cell (p := ⟨0, 0, none⟩) hw0).trans hm)
  have hB0 := (Below.refl w.heap.size w).alloc (Nat.le_refl _) (.cells #[.slice Aa Aan Aac, .slice At Atn Atc, .slice Ax Axn Axc, .slice Ar Arn Arc, .slice An Ann Anc, .slice Ah Ahn Ahc, .slice Al Aln Alc] 30)
  have bA := Blk.new w 30 #[.slice Aa Aan Aac, .slice At Atn Atc, .slice Ax Axn Axc, .slice Ar Arn Arc, .slice An Ann Anc, .slice Ah Ahn Ahc, .slice Al Aln Alc]
  have rA := (hc.under hB0).up hB0.size
  have HHV := Lib.hid (vheavy_any ⟨⟨Aa, Aan, Aac⟩, ⟨At, Atn, Atc⟩, ⟨Ax, Axn, Axc⟩, ⟨Ar, Arn, Arc⟩, ⟨An, Ann, Anc⟩, ⟨Ah, Ahn, Ahc⟩, ⟨Al, Aln, Alc⟩⟩ c _ rA)
  have HB0 := Lib.hid hB0
  have HRA := Lib.hid rA
  have HBA := Lib.hid bA
  have q0 := bA.cell 0
  have q1 := bA.cell 1
  have q2 := bA.cell 2
  have q3 := bA.cell 3
  have q4 := bA.cell 4
  have q5 := bA.cell 5
  have q6 := bA.cell 6
  clear hB0 rA bA
  go_enter Tryz.func6, Tryz.ntmps6
  go_wp2_with fail
  refine HHV.out.mono ?_
  rintro e' w1 ⟨bb, rfl, hb1⟩
  clear q0 q1 q2 q3 q4 q5 q6
  have hB1 := HB0.out.trans (hb1.mono HB0.out.size)
  cases bb with
  | true =>
    go_wp2
    go_ret
    exact ⟨rfl, hB1⟩
  | false =>
    have HRB := Lib.hid ((HRA.out.under hb1).up hb1.size)
    have HBB := Lib.hid (HBA.out.below hb1)
    have HVL := Lib.hid (refCorValid_any ⟨⟨Aa, Aan, Aac⟩, ⟨At, Atn, Atc⟩, ⟨Ax, Axn, Axc⟩, ⟨Ar, Arn, Arc⟩, ⟨An, Ann, Anc⟩, ⟨Ah, Ahn, Ahc⟩, ⟨Al, Aln, Alc⟩⟩ c w1 HRB.out)
    have HB1 := Lib.hid hB1
    clear hB1 hb1 HRA HBA HB0 HHV
    have q0 := HBB.out.cell 0
    have q1 := HBB.out.cell 1
    have q2 := HBB.out.cell 2
    have q3 := HBB.out.cell 3
    have q4 := HBB.out.cell 4
    have q5 := HBB.out.cell 5
    have q6 := HBB.out.cell 6
    obtain ⟨vl, hvl⟩ : ∃ vl, Cor.valid c = vl := ⟨_, rfl⟩
    rw [hvl] at HVL
    have HVE := Lib.hid hvl
    clear hvl
    go_wp2_with fail
    refine HVL.out.mono ?_
    rintro e' w2 ⟨rfl, hb2⟩
    clear q0 q1 q2 q3 q4 q5 q6
    have hB2 := HB1.out.trans (hb2.mono HB1.out.size)
    cases vl with
    | false =>
      go_wp2
      go_ret
      exact ⟨rfl, hB2⟩
    | true =>
      have HRC := Lib.hid ((HRB.out.under hb2).up hb2.size)
      have HBC := Lib.hid (HBB.out.below hb2)
      have HVD := Lib.hid (vd_iff.1 HVE.out)
      have HFM := Lib.hid (vformat_any ⟨⟨Aa, Aan, Aac⟩, ⟨At, Atn, Atc⟩, ⟨Ax, Axn, Axc⟩, ⟨Ar, Arn, Arc⟩, ⟨An, Ann, Anc⟩, ⟨Ah, Ahn, Ahc⟩, ⟨Al, Aln, Alc⟩⟩ c w2 HRC.out HVD.out (fun t ht u hu => Nat.le_trans (vd_val HVD.out t ht u hu) (by decide)) (body_len HVD.out))
      have HB2 := Lib.hid hB2
      clear hB2 hb2 HRB HBB HB1 HVL HVE
      have q0 := HBC.out.cell 0
      have q1 := HBC.out.cell 1
      have q2 := HBC.out.cell 2
      have q3 := HBC.out.cell 3
      have q4 := HBC.out.cell 4
      have q5 := HBC.out.cell 5
      have q6 := HBC.out.cell 6
      unfold Writ at HFM
      rcases write_two c with ⟨k, hwr, hk0, hk⟩ | ⟨hwr, hfe, hbl⟩
      · rw [hwr] at HFM
        have e0 : ((k : Int) == 0) = false := by rw [beq_eq_false_iff_ne]; omega
        clear hwr
        go_wp2_with fail
        refine HFM.out.mono ?_
        rintro e' w3 ⟨rfl, hb3⟩
        clear q0 q1 q2 q3 q4 q5 q6
        go_wp2
        go_ret
        exact ⟨rfl, HB2.out.trans (hb3.mono HB2.out.size)⟩
      · rw [hwr] at HFM
        obtain ⟨ls, y, hls, hgo⟩ := body_lines HVD.out hfe
        rw [hls] at HFM hbl
        have HRD := Lib.hid (fun k => read_cut HVD.out.a hgo hbl k)
        have HNO := Lib.hid hgo.no
        have HBL := Lib.hid hbl
        clear hwr hfe hbl hls hgo
        obtain ⟨D, hD⟩ : ∃ D, linesT ls = D := ⟨_, rfl⟩
        have HD := Lib.hid hD
        rw [hD] at HFM HBL
        clear hD
        go_wp2_with fail
        refine HFM.out.mono ?_
        rintro e' w3 ⟨rfl, hb3⟩
        clear q0 q1 q2 q3 q4 q5 q6
        have HB3 := Lib.hid (HB2.out.trans (hb3.mono HB2.out.size))
        by_cases hz0 : z < 0
        · go_wp2
          go_ret
          exact ⟨rfl, HB3.out⟩
        have HR3 := Lib.hid ((HRC.out.under hb3).up hb3.size)
        have HBD := Lib.hid (HBC.out.below hb3)
        clear hb3 HRC HBC HB2 HFM
        have HLD : Hid (D.length ≤ 1048576) := HBL.out
        go_upto_block 0 with (fail)
        go_cut [7, 8, 9, 10, 11] from 33 (fun av bv iv fv lv W => ∃ k : Nat, av = .int .i64 ((linesT (ls.take k)).length : Nat) ∧ bv = .bool (openK ls k) ∧ W = w3)
        case first =>
          have hDl : D.length ≤ 1048576 := HBL.out
          skip
          go_wp2
          go_loopw [9, 7, 8] (fun iv av bv W => ∃ k : Nat, k ≤ ls.length ∧ (k : Int) ≤ z ∧ iv = .int .i64 k ∧ av = .int .i64 ((linesT (ls.take k)).length : Nat) ∧ bv = .bool (openK ls k) ∧ W = w3) (fun iv _ _ _ => ls.length - (intOf iv).toNat)
          case atStart => exact ⟨0, Nat.zero_le _, by omega, rfl, rfl, rfl, rfl⟩
          case round =>
            obtain ⟨k, hk, hkz, rfl, rfl, rfl, rfl⟩ := hrel
            obtain ⟨wo, hwo⟩ : ∃ wo : World, wo = wr := ⟨_, rfl⟩
            obtain rfl := hwo
            obtain ⟨b0, hb0⟩ : ∃ b, openK ls k = b := ⟨_, rfl⟩
            by_cases hkn : k < ls.length
            · by_cases hz1 : (k : Int) < z
              · obtain ⟨hq1, hq2⟩ := linesT_lt hkn
                have hpre : ∃ s, ls[k] = s := ⟨_, rfl⟩
                obtain ⟨s, hs⟩ := hpre
                have hno := HNO.out ls[k] (List.getElem_mem hkn)
                have hat : ∀ j (hj : j < ls[k].length), ∃ hq : (linesT (ls.take k)).length + j < (linesT ls).length, (linesT ls)[(linesT (ls.take k)).length + j]'hq = ls[k][j] := fun j hj => line_at hkn hj
                obtain ⟨hqe, hen⟩ := line_end hkn
                have hsub := line_sub hkn
                have hflag := openK_succ hkn
                have hnext := linesT_succ hkn
                rw [hb0] at hflag ⊢
                simp only [HD.out] at hq2 hat hqe hen hsub
                simp only [hs] at hno hat hqe hen hsub hflag hq1 hnext
                obtain ⟨p, hp⟩ : ∃ p, (linesT (ls.take k)).length = p := ⟨_, rfl⟩
                obtain ⟨p2, hp2⟩ : ∃ p2, (linesT (ls.take (k + 1))).length = p2 := ⟨_, rfl⟩
                simp only [hp, hp2] at hq1 hq2 hat hqe hen hsub ⊢
                obtain ⟨L, hL⟩ : ∃ L, s ++ [10] = L := ⟨_, rfl⟩
                have hLl : L.length = s.length + 1 := by rw [← hL]; simp
                rw [flag_six, hL] at hflag
                rw [hL] at hsub
                have HLL := Lib.hid hLl
                have HAT : Hid (∀ x, p ≤ x → x < p + s.length → ∃ hx : x < D.length, D[x] ≠ 10) := fun x h1 h2 => by
                  obtain ⟨hq, e⟩ := hat (x - p) (by omega)
                  have e2 : p + (x - p) = x := by omega
                  simp only [e2] at hq e
                  exact ⟨hq, by rw [e]; exact hno _ (List.getElem_mem _)⟩
                have HEN : Hid (∃ hx : p + s.length < D.length, D[p + s.length] = 10) := ⟨hqe, hen⟩
                have HNX := Lib.hid hp2
                have HFL := Lib.hid hflag
                have HPP := Lib.hid hp
                obtain ⟨n, hn⟩ : ∃ n, s.length = n := ⟨_, rfl⟩
                rw [hn] at HAT HEN HLL hq1
                have hw1 : IntKind.i64.wrap (((p + n : Nat) : Int) + 1) = ((p2 : Nat) : Int) := by rw [IntWalk.i64_in _ (by omega)]; omega
                have hwk : IntKind.i64.wrap ((k : Int) + 1) = ((k + 1 : Nat) : Int) := by rw [IntWalk.i64_in _ (by omega)]; omega
                have hmin : min ((p : Int) + (n : Int) + 1) (D.length : Int) = ((p2 : Nat) : Int) := by omega
                have HSL : ∀ W, (Instr.slice 9 (str D) (some (.int .i64 ((p : Nat) : Int))) (some (.int .i64 ((p2 : Nat) : Int))) none).run Tryz.prog W = .ok (str L) W := fun W => by
                  rw [str_mid 9 (by kernel_rfl) D p p2 (by omega) (by omega) W]
                  have : (D.drop p).take (p2 - p) = L := by rw [← hsub, List.drop_take]; congr 1; omega
                  rw [this]
                obtain ⟨b6, hb6⟩ : ∃ b6, ((L.take 6 == [60, 116, 101, 120, 116, 32]) = b6) := ⟨_, rfl⟩
                obtain ⟨b8, hb8⟩ : ∃ b8, ((L == [60, 47, 116, 101, 120, 116, 62, 10]) = b8) := ⟨_, rfl⟩
                have HS6 : 6 < L.length → ∀ W, (Instr.slice 9 (str L) none (some (.int .i64 6)) none).run Tryz.prog W = .ok (str (L.take 6)) W := fun h W => str_to 9 (by kernel_rfl) L 6 (by omega) W
                have HB6 := Lib.hid hb6
                have HB8 := Lib.hid hb8
                have hn6 : (6 < L.length) ↔ (6 : Int) < (L.length : Int) := by omega
                clear hat hno hqe hen hsub hflag hnext hp hp2 hL hs hn hLl
                go_wp2
                go_loopw [7] (fun av W => ∃ x : Nat, p ≤ x ∧ x ≤ p + n ∧ av = .int .i64 x ∧ W = wo) (fun av _ => p + n - (intOf av).toNat)
                case atStart => exact ⟨p, Nat.le_refl _, by omega, rfl, rfl⟩
                case round =>
                  obtain ⟨x, hx1, hx2, rfl, rfl⟩ := hrel
                  by_cases hx : x < p + n
                  · obtain ⟨hxd, hne⟩ := HAT.out x hx1 hx
                    obtain ⟨b, hb⟩ : ∃ b, D[x] = b := ⟨_, rfl⟩
                    rw [hb] at hne
                    have he : ((b.toNat : Int) == 10) = false := by
                      rw [beq_eq_false_iff_ne]
                      intro e
                      exact hne (UInt8.toNat_inj.1 (by have : (10 : UInt8).toNat = 10 := rfl; omega))
                    have hwx : IntKind.i64.wrap ((x : Int) + 1) = ((x + 1 : Nat) : Int) := by rw [IntWalk.i64_in _ (by omega)]; omega
                    go_wp2
                    go_roundw
                    case rel => exact ⟨x + 1, by omega, by omega, rfl, (by first | rfl | trivial)⟩
                    case measure => simp [intOf]; omega
                  · obtain rfl : x = p + n := by omega
                    obtain ⟨hxd, hb⟩ := HEN.out
                    have he : (((10 : UInt8).toNat : Int) == 10) = true := rfl
                    by_cases h6 : 6 < L.length
                    · have HS := HS6 h6
                      cases b6 with
                      | true =>
                        go_wp2
                        go_roundw
                        case rel =>
                          refine ⟨k + 1, by omega, by omega, by go_num, by rw [HNX.out], ?_, (by first | rfl | trivial)⟩
                          rw [HFL.out]
                          rw [if_pos ⟨h6, by simpa using HB6.out⟩]
                        case measure => simp [intOf]; omega
                      | false =>
                        cases b8 with
                        | true =>
                          go_wp2
                          go_roundw
                          case rel =>
                            refine ⟨k + 1, by omega, by omega, by go_num, by rw [HNX.out], ?_, (by first | rfl | trivial)⟩
                            rw [HFL.out]
                            rw [if_neg (fun h => by have := HB6.out; rw [h.2] at this; revert this; decide), if_pos (by simpa using HB8.out)]
                          case measure => simp [intOf]; omega
                        | false =>
                          go_wp2
                          go_roundw
                          case rel =>
                            refine ⟨k + 1, by omega, by omega, by go_num, by rw [HNX.out], ?_, (by first | rfl | trivial)⟩
                            rw [HFL.out]
                            rw [if_neg (fun h => by have := HB6.out; rw [h.2] at this; revert this; decide), if_neg (fun h => by have := HB8.out; rw [h] at this; revert this; decide)]
                          case measure => simp [intOf]; omega
                    · cases b8 with
                      | true => exact absurd (congrArg List.length (show L = [60, 47, 116, 101, 120, 116, 62, 10] by simpa using HB8.out)) (by simp; omega)
                      | false =>
                        go_wp2
                        go_roundw
                        case rel =>
                          refine ⟨k + 1, by omega, by omega, by go_num, by rw [HNX.out], ?_, (by first | rfl | trivial)⟩
                          rw [HFL.out]
                          rw [if_neg (fun h => h6 h.1), if_neg (fun h => by have := HB8.out; rw [h] at this; revert this; decide)]
                        case measure => simp [intOf]; omega
              · go_wp2
                go_meet
                case rel => exact ⟨k, rfl, by rw [hb0], rfl⟩
            · have hpd : (linesT (ls.take k)).length = D.length := by rw [List.take_of_length_le (by omega), HD.out]
              rw [hpd]
              by_cases hz1 : (k : Int) < z
              · go_wp2
                go_meet
                case rel => exact ⟨k, by rw [hpd], by rw [hb0], rfl⟩
              · go_wp2
                go_meet
                case rel => exact ⟨k, by rw [hpd], by rw [hb0], rfl⟩
        case rest =>
          obtain ⟨k, rfl, rfl, rfl⟩ := hcut
          obtain ⟨wa, rfl⟩ : ∃ wa : World, wa = wc := ⟨_, rfl⟩
          have hpre := line_pre ls k
          rw [HD.out] at hpre
          have hle := linesT_take_le ls k
          rw [HD.out] at hle
          have hdl : D.length ≤ 1048576 := HBL.out
          obtain ⟨hcu, hcd⟩ := HRD.out k
          obtain ⟨E, hE⟩ : ∃ E, linesT (ls.take k) = E := ⟨_, rfl⟩
          rw [hE] at hpre hle hcu hcd ⊢
          obtain ⟨p, hp⟩ : ∃ p, E.length = p := ⟨_, rfl⟩
          rw [hp] at hpre hle hcu ⊢
          obtain ⟨b, hb⟩ : ∃ b, openK ls k = b := ⟨_, rfl⟩
          rw [hb] at hcu hcd ⊢
          have HPA := Lib.hid (fun (W : World) (hW : Below wa.heap.size wa W) => vparse_any Aa Aan Aac c.attrs E m W ((HR3.out.a.under hW).up hW.size) (by omega) (((HB3.out.trans (hW.mono HB3.out.size)).cell (p := ⟨0, 0, none⟩) hw0).trans hm))
          have HTO : ∀ W, (Instr.slice 9 (str D) none (some (.int .i64 ((p : Nat) : Int))) none).run Tryz.prog W = .ok (str E) W := fun W => by
            rw [str_to 9 (by kernel_rfl) D p hle W, hpre]
          obtain ⟨q1, q2, hqq⟩ : ∃ q1 q2, posR E (readV E c.attrs).2.1 = (q1, q2) := ⟨_, _, rfl⟩
          obtain ⟨er, her⟩ : ∃ er, (readV E c.attrs).2.2 = er := ⟨_, rfl⟩
          have HQ := Lib.hid hqq
          have HE := Lib.hid her
          have HP := Lib.hid hp
          have HLE := Lib.hid hle
          have HCU := Lib.hid hcu
          have HCD := Lib.hid hcd
          unfold VRead at HPA
          simp only [hqq, her] at HPA
          clear hqq her hp hpre hle hcu hcd hE hb HRD HNO HD HLD
          go_upto_region 19 with (fail)
          have HSS : Hid (∀ W, Below wa.heap.size wa W → W.cell? ⟨w.heap.size, 0, none⟩ = some (.slice Aa Aan Aac)) := fun W hW => (HBD.out.below hW).cell 0
          have HB0 := Lib.hid (Below.refl wa.heap.size wa)
          skip
          go_cut [12, 13, 14] from 76 (fun _ bv ev W => ∃ h, bv = .pointer (some ⟨h, 0, none⟩) ∧ ev = .int .i64 (er : Nat) ∧ Below wa.heap.size wa W ∧ Blk W h 32 #[.int .i64 (q1 : Nat), .int .i64 (q2 : Nat)])
          case first =>
            have HB1 := Lib.hid HB0.out.drew
            skip
            refine wp_region_m (fun W => W.cell? ⟨w.heap.size, 0, none⟩ = some (.slice Aa Aan Aac)) 14 (by as_aux_lemma => kernel_rfl) (HSS.out _ HB1.out) (fun hHeld => ?_)
            generalize wa.drew = wd at HB1 hHeld ⊢
            refine wpAnyM_take (i := 0) (v := ?_) rfl (by as_aux_lemma => kernel_rfl) (by as_aux_lemma => kernel_rfl) (by as_aux_lemma => kernel_rfl) (by as_aux_lemma => kernel_rfl) (fun _ _ _ h => h) (Or.inl ⟨by rfl, ?_⟩) (hHeld) ?_
            rotate_left
            · ((intro W hSw); (try dsimp only at hSw); go_simp; try (with_reducible rfl))
            simp only [List.getElem_toArray, List.getElem_cons_zero, List.getElem_cons_succ, Act.put, List.setIfInBounds_toArray, List.set_cons_zero, List.set_cons_succ]
            refine wpAnyM_take (i := 1) (v := ?_) rfl (by as_aux_lemma => kernel_rfl) (by as_aux_lemma => kernel_rfl) (by as_aux_lemma => kernel_rfl) (by as_aux_lemma => kernel_rfl) (fun _ _ _ h => h) (Or.inl ⟨by rfl, ?_⟩) (hHeld) ?_
            rotate_left
            · ((intro W hSw); (try dsimp only at hSw); go_simp; try (with_reducible rfl))
            simp only [List.getElem_toArray, List.getElem_cons_zero, List.getElem_cons_succ, Act.put, List.setIfInBounds_toArray, List.set_cons_zero, List.set_cons_succ]
            refine wpAnyM_take (i := 2) (v := ?_) rfl (by as_aux_lemma => kernel_rfl) (by as_aux_lemma => kernel_rfl) (by as_aux_lemma => kernel_rfl) (by as_aux_lemma => kernel_rfl) (fun _ _ _ h => h) (Or.inl ⟨by rfl, ?_⟩) (hHeld) ?_
            rotate_left
            · ((intro W hSw); (try dsimp only at hSw); go_simp; try (with_reducible rfl))
            simp only [List.getElem_toArray, List.getElem_cons_zero, List.getElem_cons_succ, Act.put, List.setIfInBounds_toArray, List.set_cons_zero, List.set_cons_succ]
            refine wpAnyM_take (i := 3) (v := ?_) rfl (by as_aux_lemma => kernel_rfl) (by as_aux_lemma => kernel_rfl) (by as_aux_lemma => kernel_rfl) (by as_aux_lemma => kernel_rfl) (fun _ _ _ h => h) (Or.inl ⟨by rfl, ?_⟩) (hHeld) ?_
            rotate_left
            · ((intro W hSw); (try dsimp only at hSw); go_simp; try (with_reducible rfl))
            simp only [List.getElem_toArray, List.getElem_cons_zero, List.getElem_cons_succ, Act.put, List.setIfInBounds_toArray, List.set_cons_zero, List.set_cons_succ]
            refine wpAnyM_take (i := 4) (v := ?_) rfl (by as_aux_lemma => kernel_rfl) (by as_aux_lemma => kernel_rfl) (by as_aux_lemma => kernel_rfl) (by as_aux_lemma => kernel_rfl) (fun _ _ _ h => h) (Or.inl ⟨by rfl, ?_⟩) (hHeld) ?_
            rotate_left
            · ((intro W hSw); (try dsimp only at hSw); go_simp; try (with_reducible rfl))
            simp only [List.getElem_toArray, List.getElem_cons_zero, List.getElem_cons_succ, Act.put, List.setIfInBounds_toArray, List.set_cons_zero, List.set_cons_succ]
            refine wpAnyM_three (i := 5) (j := 10) (k := 11) (by as_aux_lemma => kernel_rfl) rfl rfl rfl (fun K hK => ?_) (fun K hK => ?_) (fun K hK => ?_)
            · skip
              go_simp
              refine (HPA.out _ HB1.out).mono ?_
              rintro e' wx1 ⟨⟨⟨Pa, Pan, Pac⟩, ⟨Pt, Ptn, Ptc⟩, ⟨Px, Pxn, Pxc⟩, ⟨Pr, Prn, Prc⟩, ⟨Pn, Pnn, Pnc⟩, ⟨Ph, Phn, Phc⟩, ⟨Pl, Pln, Plc⟩⟩, rfl, rx, hx1⟩
              have HB1_ := Lib.hid (HB1.out.trans (hx1.mono HB1.out.size))
              refine hK.out _ _ (fun _ => HSS.out _ HB1_.out) ?_
              clear hK K
              try simp only [List.getElem_toArray, List.getElem_cons_zero, List.getElem_cons_succ, Act.put, List.setIfInBounds_toArray, List.set_cons_zero, List.set_cons_succ]
              have hHeld : wx1.cell? ⟨w.heap.size, 0, none⟩ = some (.slice Aa Aan Aac) := HSS.out _ HB1_.out
              refine wpAnyM_take (i := 6) (v := ?_) rfl (by as_aux_lemma => kernel_rfl) (by as_aux_lemma => kernel_rfl) (by as_aux_lemma => kernel_rfl) (by as_aux_lemma => kernel_rfl) (fun _ _ _ h => h) (Or.inl ⟨by rfl, ?_⟩) (hHeld) ?_
              rotate_left
              · ((intro W hSw); (try dsimp only at hSw); go_simp; try (with_reducible rfl))
              simp only [List.getElem_toArray, List.getElem_cons_zero, List.getElem_cons_succ, Act.put, List.setIfInBounds_toArray, List.set_cons_zero, List.set_cons_succ]
              refine wpAnyM_take (i := 7) (v := ?_) rfl (by as_aux_lemma => kernel_rfl) (by as_aux_lemma => kernel_rfl) (by as_aux_lemma => kernel_rfl) (by as_aux_lemma => kernel_rfl) (fun _ _ _ h => h) (Or.inl ⟨by rfl, ?_⟩) (hHeld) ?_
              rotate_left
              · ((intro W hSw); (try dsimp only at hSw); go_simp; try (with_reducible rfl))
              simp only [List.getElem_toArray, List.getElem_cons_zero, List.getElem_cons_succ, Act.put, List.setIfInBounds_toArray, List.set_cons_zero, List.set_cons_succ]
              refine wpAnyM_take (i := 8) (v := ?_) rfl (by as_aux_lemma => kernel_rfl) (by as_aux_lemma => kernel_rfl) (by as_aux_lemma => kernel_rfl) (by as_aux_lemma => kernel_rfl) (fun _ _ _ h => h) (Or.inl ⟨by rfl, ?_⟩) (hHeld) ?_
              rotate_left
              · ((intro W hSw); (try dsimp only at hSw); go_simp; try (with_reducible rfl))
              simp only [List.getElem_toArray, List.getElem_cons_zero, List.getElem_cons_succ, Act.put, List.setIfInBounds_toArray, List.set_cons_zero, List.set_cons_succ]
              refine wpAnyM_take (i := 9) (v := ?_) rfl (by as_aux_lemma => kernel_rfl) (by as_aux_lemma => kernel_rfl) (by as_aux_lemma => kernel_rfl) (by as_aux_lemma => kernel_rfl) (fun _ _ _ h => h) (Or.inl ⟨by rfl, ?_⟩) (hHeld) ?_
              rotate_left
              · ((intro W hSw); (try dsimp only at hSw); go_simp; try (with_reducible rfl))
              simp only [List.getElem_toArray, List.getElem_cons_zero, List.getElem_cons_succ, Act.put, List.setIfInBounds_toArray, List.set_cons_zero, List.set_cons_succ]
              refine wpAnyM_two (i := 10) (j := 11) (by as_aux_lemma => kernel_rfl) rfl rfl (fun K hK => ?_) (fun K hK => ?_)
              · skip
                have HB2_ := Lib.hid (HB1_.out.alloc HB1_.out.size (.cells #[.slice none 0 0, .slice none 0 0, .slice none 0 0, .slice none 0 0, .slice none 0 0, .slice none 0 0, .slice none 0 0] 30))
                have BKA2 := Blk.new wx1 30 #[.slice none 0 0, .slice none 0 0, .slice none 0 0, .slice none 0 0, .slice none 0 0, .slice none 0 0, .slice none 0 0]
                have HGA2 : Hid (wa.heap.size ≤ wx1.heap.size) := HB1_.out.size
                go_simp
                refine hK.out _ _ (fun _ => HSS.out _ HB2_.out) ?_
                clear hK K
                try simp only [List.getElem_toArray, List.getElem_cons_zero, List.getElem_cons_succ, Act.put, List.setIfInBounds_toArray, List.set_cons_zero, List.set_cons_succ]
                generalize wx1.alloc (.cells #[.slice none 0 0, .slice none 0 0, .slice none 0 0, .slice none 0 0, .slice none 0 0, .slice none 0 0, .slice none 0 0] 30) = wx2 at HB2_ BKA2 ⊢
                skip
                refine wpAnyM_one (i := 11) (by as_aux_lemma => kernel_rfl) rfl (fun K hK => ?_)
                · skip
                  have HB3_ := Lib.hid (HB2_.out.alloc HB2_.out.size (.cells #[.int .i64 0, .int .i64 0] 32))
                  have BKB3 := Blk.new wx2 32 #[.int .i64 0, .int .i64 0]
                  have BKA3 := BKA2.alloc (.cells #[.int .i64 0, .int .i64 0] 32)
                  have HGB3 : Hid (wa.heap.size ≤ wx2.heap.size) := HB2_.out.size
                  have HN3 : Hid (_ ≠ wx2.heap.size) := Nat.ne_of_lt BKA2.lt
                  go_simp
                  refine hK.out _ _ (fun _ => HSS.out _ HB3_.out) ?_
                  clear hK K
                  try simp only [List.getElem_toArray, List.getElem_cons_zero, List.getElem_cons_succ, Act.put, List.setIfInBounds_toArray, List.set_cons_zero, List.set_cons_succ]
                  generalize wx2.alloc (.cells #[.int .i64 0, .int .i64 0] 32) = wx3 at HB3_ BKB3 BKA3 ⊢
                  skip
                  have a0 : _ = some (Value.slice none 0 0) := BKA3.cell 0
                  have z0 := BKA3.free 0
                  have a1 : _ = some (Value.slice none 0 0) := BKA3.cell 1
                  have z1 := BKA3.free 1
                  have a2 : _ = some (Value.slice none 0 0) := BKA3.cell 2
                  have z2 := BKA3.free 2
                  have a3 : _ = some (Value.slice none 0 0) := BKA3.cell 3
                  have z3 := BKA3.free 3
                  have a4 : _ = some (Value.slice none 0 0) := BKA3.cell 4
                  have z4 := BKA3.free 4
                  have a5 : _ = some (Value.slice none 0 0) := BKA3.cell 5
                  have z5 := BKA3.free 5
                  have a6 : _ = some (Value.slice none 0 0) := BKA3.cell 6
                  have z6 := BKA3.free 6
                  have p0 : _ = some (Value.int .i64 0) := BKB3.cell 0
                  have y0 := BKB3.free 0
                  have p1 : _ = some (Value.int .i64 0) := BKB3.cell 1
                  have y1 := BKB3.free 1
                  have B12 := Lib.hid (below7V HB3_.out HGA2.out (.slice Pa Pan Pac) (.slice Pt Ptn Ptc) (.slice Px Pxn Pxc) (.slice Pr Prn Prc) (.slice Pn Pnn Pnc) (.slice Ph Phn Phc) (.slice Pl Pln Plc))
                  have P12 := Lib.hid (other7V BKB3 (HN3.out) (.slice Pa Pan Pac) (.slice Pt Ptn Ptc) (.slice Px Pxn Pxc) (.slice Pr Prn Prc) (.slice Pn Pnn Pnc) (.slice Ph Phn Phc) (.slice Pl Pln Plc))
                  have pp0 : _ = some (Value.int .i64 0) := P12.out.cell 0
                  have yy0 := P12.out.free 0
                  have pp1 : _ = some (Value.int .i64 0) := P12.out.cell 1
                  have yy1 := P12.out.free 1
                  have B13 := Lib.hid (below2V B12.out HGB3.out (.int .i64 (q1 : Nat)) (.int .i64 (q2 : Nat)))
                  have P13 := Lib.hid (set2V P12.out (.int .i64 (q1 : Nat)) (.int .i64 (q2 : Nat)))
                  refine wpAnyM_one (i := 12) (by as_aux_lemma => kernel_rfl) rfl (fun K hK => ?_)
                  go_simp
                  refine hK.out _ _ (fun _ => HSS.out _ B12.out) ?_
                  clear hK K
                  try simp only [List.getElem_toArray, List.getElem_cons_zero, List.getElem_cons_succ, Act.put, List.setIfInBounds_toArray, List.set_cons_zero, List.set_cons_succ]
                  refine wpAnyM_one (i := 13) (by as_aux_lemma => kernel_rfl) rfl (fun K hK => ?_)
                  go_simp
                  refine hK.out _ _ (fun _ => HSS.out _ B13.out) ?_
                  clear hK K
                  try simp only [List.getElem_toArray, List.getElem_cons_zero, List.getElem_cons_succ, Act.put, List.setIfInBounds_toArray, List.set_cons_zero, List.set_cons_succ]
                  refine wpAnyM_one (i := 14) (by as_aux_lemma => kernel_rfl) rfl (fun K hK => ?_)
                  go_simp
                  refine hK.out _ _ (fun h => absurd rfl h) ?_
                  clear hK K
                  try simp only [List.getElem_toArray, List.getElem_cons_zero, List.getElem_cons_succ, Act.put, List.setIfInBounds_toArray, List.set_cons_zero, List.set_cons_succ]
                  refine wpAnyM_done (by as_aux_lemma => kernel_rfl) (NoPanic.normal ?_) _
                  go_wp2
                  go_meet
                  case rel => exact ⟨_, rfl, rfl, B13.out, P13.out⟩
              · skip
                have HB4_ := Lib.hid (HB1_.out.alloc HB1_.out.size (.cells #[.int .i64 0, .int .i64 0] 32))
                have BKB4 := Blk.new wx1 32 #[.int .i64 0, .int .i64 0]
                have HGB4 : Hid (wa.heap.size ≤ wx1.heap.size) := HB1_.out.size
                go_simp
                refine hK.out _ _ (fun _ => HSS.out _ HB4_.out) ?_
                clear hK K
                try simp only [List.getElem_toArray, List.getElem_cons_zero, List.getElem_cons_succ, Act.put, List.setIfInBounds_toArray, List.set_cons_zero, List.set_cons_succ]
                generalize wx1.alloc (.cells #[.int .i64 0, .int .i64 0] 32) = wx4 at HB4_ BKB4 ⊢
                skip
                refine wpAnyM_one (i := 10) (by as_aux_lemma => kernel_rfl) rfl (fun K hK => ?_)
                · skip
                  have HB5_ := Lib.hid (HB4_.out.alloc HB4_.out.size (.cells #[.slice none 0 0, .slice none 0 0, .slice none 0 0, .slice none 0 0, .slice none 0 0, .slice none 0 0, .slice none 0 0] 30))
                  have BKA5 := Blk.new wx4 30 #[.slice none 0 0, .slice none 0 0, .slice none 0 0, .slice none 0 0, .slice none 0 0, .slice none 0 0, .slice none 0 0]
                  have BKB5 := BKB4.alloc (.cells #[.slice none 0 0, .slice none 0 0, .slice none 0 0, .slice none 0 0, .slice none 0 0, .slice none 0 0, .slice none 0 0] 30)
                  have HGA5 : Hid (wa.heap.size ≤ wx4.heap.size) := HB4_.out.size
                  have HN5 : Hid (_ ≠ wx4.heap.size) := Nat.ne_of_lt BKB4.lt
                  go_simp
                  refine hK.out _ _ (fun _ => HSS.out _ HB5_.out) ?_
                  clear hK K
                  try simp only [List.getElem_toArray, List.getElem_cons_zero, List.getElem_cons_succ, Act.put, List.setIfInBounds_toArray, List.set_cons_zero, List.set_cons_succ]
                  generalize wx4.alloc (.cells #[.slice none 0 0, .slice none 0 0, .slice none 0 0, .slice none 0 0, .slice none 0 0, .slice none 0 0, .slice none 0 0] 30) = wx5 at HB5_ BKA5 BKB5 ⊢
                  skip
                  have a0 : _ = some (Value.slice none 0 0) := BKA5.cell 0
                  have z0 := BKA5.free 0
                  have a1 : _ = some (Value.slice none 0 0) := BKA5.cell 1
                  have z1 := BKA5.free 1
                  have a2 : _ = some (Value.slice none 0 0) := BKA5.cell 2
                  have z2 := BKA5.free 2
                  have a3 : _ = some (Value.slice none 0 0) := BKA5.cell 3
                  have z3 := BKA5.free 3
                  have a4 : _ = some (Value.slice none 0 0) := BKA5.cell 4
                  have z4 := BKA5.free 4
                  have a5 : _ = some (Value.slice none 0 0) := BKA5.cell 5
                  have z5 := BKA5.free 5
                  have a6 : _ = some (Value.slice none 0 0) := BKA5.cell 6
                  have z6 := BKA5.free 6
                  have p0 : _ = some (Value.int .i64 0) := BKB5.cell 0
                  have y0 := BKB5.free 0
                  have p1 : _ = some (Value.int .i64 0) := BKB5.cell 1
                  have y1 := BKB5.free 1
                  have B12 := Lib.hid (below7V HB5_.out HGA5.out (.slice Pa Pan Pac) (.slice Pt Ptn Ptc) (.slice Px Pxn Pxc) (.slice Pr Prn Prc) (.slice Pn Pnn Pnc) (.slice Ph Phn Phc) (.slice Pl Pln Plc))
                  have P12 := Lib.hid (other7V BKB5 (HN5.out.symm) (.slice Pa Pan Pac) (.slice Pt Ptn Ptc) (.slice Px Pxn Pxc) (.slice Pr Prn Prc) (.slice Pn Pnn Pnc) (.slice Ph Phn Phc) (.slice Pl Pln Plc))
                  have pp0 : _ = some (Value.int .i64 0) := P12.out.cell 0
                  have yy0 := P12.out.free 0
                  have pp1 : _ = some (Value.int .i64 0) := P12.out.cell 1
                  have yy1 := P12.out.free 1
                  have B13 := Lib.hid (below2V B12.out HGB4.out (.int .i64 (q1 : Nat)) (.int .i64 (q2 : Nat)))
                  have P13 := Lib.hid (set2V P12.out (.int .i64 (q1 : Nat)) (.int .i64 (q2 : Nat)))
                  refine wpAnyM_one (i := 12) (by as_aux_lemma => kernel_rfl) rfl (fun K hK => ?_)
                  go_simp
                  refine hK.out _ _ (fun _ => HSS.out _ B12.out) ?_
                  clear hK K
                  try simp only [List.getElem_toArray, List.getElem_cons_zero, List.getElem_cons_succ, Act.put, List.setIfInBounds_toArray, List.set_cons_zero, List.set_cons_succ]
                  refine wpAnyM_one (i := 13) (by as_aux_lemma => kernel_rfl) rfl (fun K hK => ?_)
                  go_simp
                  refine hK.out _ _ (fun _ => HSS.out _ B13.out) ?_
                  clear hK K
                  try simp only [List.getElem_toArray, List.getElem_cons_zero, List.getElem_cons_succ, Act.put, List.setIfInBounds_toArray, List.set_cons_zero, List.set_cons_succ]
                  refine wpAnyM_one (i := 14) (by as_aux_lemma => kernel_rfl) rfl (fun K hK => ?_)
                  go_simp
                  refine hK.out _ _ (fun h => absurd rfl h) ?_
                  clear hK K
                  try simp only [List.getElem_toArray, List.getElem_cons_zero, List.getElem_cons_succ, Act.put, List.setIfInBounds_toArray, List.set_cons_zero, List.set_cons_succ]
                  refine wpAnyM_done (by as_aux_lemma => kernel_rfl) (NoPanic.normal ?_) _
                  go_wp2
                  go_meet
                  case rel => exact ⟨_, rfl, rfl, B13.out, P13.out⟩
            · skip
              have HB6_ := Lib.hid (HB1.out.alloc HB1.out.size (.cells #[.slice none 0 0, .slice none 0 0, .slice none 0 0, .slice none 0 0, .slice none 0 0, .slice none 0 0, .slice none 0 0] 30))
              have BKA6 := Blk.new wd 30 #[.slice none 0 0, .slice none 0 0, .slice none 0 0, .slice none 0 0, .slice none 0 0, .slice none 0 0, .slice none 0 0]
              have HGA6 : Hid (wa.heap.size ≤ wd.heap.size) := HB1.out.size
              go_simp
              refine hK.out _ _ (fun _ => HSS.out _ HB6_.out) ?_
              clear hK K
              try simp only [List.getElem_toArray, List.getElem_cons_zero, List.getElem_cons_succ, Act.put, List.setIfInBounds_toArray, List.set_cons_zero, List.set_cons_succ]
              generalize wd.alloc (.cells #[.slice none 0 0, .slice none 0 0, .slice none 0 0, .slice none 0 0, .slice none 0 0, .slice none 0 0, .slice none 0 0] 30) = wx6 at HB6_ BKA6 ⊢
              skip
              refine wpAnyM_two (i := 5) (j := 11) (by as_aux_lemma => kernel_rfl) rfl rfl (fun K hK => ?_) (fun K hK => ?_)
              · skip
                go_simp
                refine (HPA.out _ HB6_.out).mono ?_
                rintro e' wx7 ⟨⟨⟨Pa, Pan, Pac⟩, ⟨Pt, Ptn, Ptc⟩, ⟨Px, Pxn, Pxc⟩, ⟨Pr, Prn, Prc⟩, ⟨Pn, Pnn, Pnc⟩, ⟨Ph, Phn, Phc⟩, ⟨Pl, Pln, Plc⟩⟩, rfl, rx, hx7⟩
                have HB7_ := Lib.hid (HB6_.out.trans (hx7.mono HB6_.out.size))
                have BKA7 := BKA6.below hx7
                refine hK.out _ _ (fun _ => HSS.out _ HB7_.out) ?_
                clear hK K
                try simp only [List.getElem_toArray, List.getElem_cons_zero, List.getElem_cons_succ, Act.put, List.setIfInBounds_toArray, List.set_cons_zero, List.set_cons_succ]
                have hHeld : wx7.cell? ⟨w.heap.size, 0, none⟩ = some (.slice Aa Aan Aac) := HSS.out _ HB7_.out
                refine wpAnyM_take (i := 6) (v := ?_) rfl (by as_aux_lemma => kernel_rfl) (by as_aux_lemma => kernel_rfl) (by as_aux_lemma => kernel_rfl) (by as_aux_lemma => kernel_rfl) (fun _ _ _ h => h) (Or.inl ⟨by rfl, ?_⟩) (hHeld) ?_
                rotate_left
                · ((intro W hSw); (try dsimp only at hSw); go_simp; try (with_reducible rfl))
                simp only [List.getElem_toArray, List.getElem_cons_zero, List.getElem_cons_succ, Act.put, List.setIfInBounds_toArray, List.set_cons_zero, List.set_cons_succ]
                refine wpAnyM_take (i := 7) (v := ?_) rfl (by as_aux_lemma => kernel_rfl) (by as_aux_lemma => kernel_rfl) (by as_aux_lemma => kernel_rfl) (by as_aux_lemma => kernel_rfl) (fun _ _ _ h => h) (Or.inl ⟨by rfl, ?_⟩) (hHeld) ?_
                rotate_left
                · ((intro W hSw); (try dsimp only at hSw); go_simp; try (with_reducible rfl))
                simp only [List.getElem_toArray, List.getElem_cons_zero, List.getElem_cons_succ, Act.put, List.setIfInBounds_toArray, List.set_cons_zero, List.set_cons_succ]
                refine wpAnyM_take (i := 8) (v := ?_) rfl (by as_aux_lemma => kernel_rfl) (by as_aux_lemma => kernel_rfl) (by as_aux_lemma => kernel_rfl) (by as_aux_lemma => kernel_rfl) (fun _ _ _ h => h) (Or.inl ⟨by rfl, ?_⟩) (hHeld) ?_
                rotate_left
                · ((intro W hSw); (try dsimp only at hSw); go_simp; try (with_reducible rfl))
                simp only [List.getElem_toArray, List.getElem_cons_zero, List.getElem_cons_succ, Act.put, List.setIfInBounds_toArray, List.set_cons_zero, List.set_cons_succ]
                refine wpAnyM_take (i := 9) (v := ?_) rfl (by as_aux_lemma => kernel_rfl) (by as_aux_lemma => kernel_rfl) (by as_aux_lemma => kernel_rfl) (by as_aux_lemma => kernel_rfl) (fun _ _ _ h => h) (Or.inl ⟨by rfl, ?_⟩) (hHeld) ?_
                rotate_left
                · ((intro W hSw); (try dsimp only at hSw); go_simp; try (with_reducible rfl))
                simp only [List.getElem_toArray, List.getElem_cons_zero, List.getElem_cons_succ, Act.put, List.setIfInBounds_toArray, List.set_cons_zero, List.set_cons_succ]
                refine wpAnyM_one (i := 11) (by as_aux_lemma => kernel_rfl) rfl (fun K hK => ?_)
                · skip
                  have HB8_ := Lib.hid (HB7_.out.alloc HB7_.out.size (.cells #[.int .i64 0, .int .i64 0] 32))
                  have BKB8 := Blk.new wx7 32 #[.int .i64 0, .int .i64 0]
                  have BKA8 := BKA7.alloc (.cells #[.int .i64 0, .int .i64 0] 32)
                  have HGB8 : Hid (wa.heap.size ≤ wx7.heap.size) := HB7_.out.size
                  have HN8 : Hid (_ ≠ wx7.heap.size) := Nat.ne_of_lt BKA7.lt
                  go_simp
                  refine hK.out _ _ (fun _ => HSS.out _ HB8_.out) ?_
                  clear hK K
                  try simp only [List.getElem_toArray, List.getElem_cons_zero, List.getElem_cons_succ, Act.put, List.setIfInBounds_toArray, List.set_cons_zero, List.set_cons_succ]
                  generalize wx7.alloc (.cells #[.int .i64 0, .int .i64 0] 32) = wx8 at HB8_ BKB8 BKA8 ⊢
                  skip
                  have a0 : _ = some (Value.slice none 0 0) := BKA8.cell 0
                  have z0 := BKA8.free 0
                  have a1 : _ = some (Value.slice none 0 0) := BKA8.cell 1
                  have z1 := BKA8.free 1
                  have a2 : _ = some (Value.slice none 0 0) := BKA8.cell 2
                  have z2 := BKA8.free 2
                  have a3 : _ = some (Value.slice none 0 0) := BKA8.cell 3
                  have z3 := BKA8.free 3
                  have a4 : _ = some (Value.slice none 0 0) := BKA8.cell 4
                  have z4 := BKA8.free 4
                  have a5 : _ = some (Value.slice none 0 0) := BKA8.cell 5
                  have z5 := BKA8.free 5
                  have a6 : _ = some (Value.slice none 0 0) := BKA8.cell 6
                  have z6 := BKA8.free 6
                  have p0 : _ = some (Value.int .i64 0) := BKB8.cell 0
                  have y0 := BKB8.free 0
                  have p1 : _ = some (Value.int .i64 0) := BKB8.cell 1
                  have y1 := BKB8.free 1
                  have B12 := Lib.hid (below7V HB8_.out HGA6.out (.slice Pa Pan Pac) (.slice Pt Ptn Ptc) (.slice Px Pxn Pxc) (.slice Pr Prn Prc) (.slice Pn Pnn Pnc) (.slice Ph Phn Phc) (.slice Pl Pln Plc))
                  have P12 := Lib.hid (other7V BKB8 (HN8.out) (.slice Pa Pan Pac) (.slice Pt Ptn Ptc) (.slice Px Pxn Pxc) (.slice Pr Prn Prc) (.slice Pn Pnn Pnc) (.slice Ph Phn Phc) (.slice Pl Pln Plc))
                  have pp0 : _ = some (Value.int .i64 0) := P12.out.cell 0
                  have yy0 := P12.out.free 0
                  have pp1 : _ = some (Value.int .i64 0) := P12.out.cell 1
                  have yy1 := P12.out.free 1
                  have B13 := Lib.hid (below2V B12.out HGB8.out (.int .i64 (q1 : Nat)) (.int .i64 (q2 : Nat)))
                  have P13 := Lib.hid (set2V P12.out (.int .i64 (q1 : Nat)) (.int .i64 (q2 : Nat)))
                  refine wpAnyM_one (i := 12) (by as_aux_lemma => kernel_rfl) rfl (fun K hK => ?_)
                  go_simp
                  refine hK.out _ _ (fun _ => HSS.out _ B12.out) ?_
                  clear hK K
                  try simp only [List.getElem_toArray, List.getElem_cons_zero, List.getElem_cons_succ, Act.put, List.setIfInBounds_toArray, List.set_cons_zero, List.set_cons_succ]
                  refine wpAnyM_one (i := 13) (by as_aux_lemma => kernel_rfl) rfl (fun K hK => ?_)
                  go_simp
                  refine hK.out _ _ (fun _ => HSS.out _ B13.out) ?_
                  clear hK K
                  try simp only [List.getElem_toArray, List.getElem_cons_zero, List.getElem_cons_succ, Act.put, List.setIfInBounds_toArray, List.set_cons_zero, List.set_cons_succ]
                  refine wpAnyM_one (i := 14) (by as_aux_lemma => kernel_rfl) rfl (fun K hK => ?_)
                  go_simp
                  refine hK.out _ _ (fun h => absurd rfl h) ?_
                  clear hK K
                  try simp only [List.getElem_toArray, List.getElem_cons_zero, List.getElem_cons_succ, Act.put, List.setIfInBounds_toArray, List.set_cons_zero, List.set_cons_succ]
                  refine wpAnyM_done (by as_aux_lemma => kernel_rfl) (NoPanic.normal ?_) _
                  go_wp2
                  go_meet
                  case rel => exact ⟨_, rfl, rfl, B13.out, P13.out⟩
              · skip
                have HB9_ := Lib.hid (HB6_.out.alloc HB6_.out.size (.cells #[.int .i64 0, .int .i64 0] 32))
                have BKB9 := Blk.new wx6 32 #[.int .i64 0, .int .i64 0]
                have BKA9 := BKA6.alloc (.cells #[.int .i64 0, .int .i64 0] 32)
                have HGB9 : Hid (wa.heap.size ≤ wx6.heap.size) := HB6_.out.size
                have HN9 : Hid (_ ≠ wx6.heap.size) := Nat.ne_of_lt BKA6.lt
                go_simp
                refine hK.out _ _ (fun _ => HSS.out _ HB9_.out) ?_
                clear hK K
                try simp only [List.getElem_toArray, List.getElem_cons_zero, List.getElem_cons_succ, Act.put, List.setIfInBounds_toArray, List.set_cons_zero, List.set_cons_succ]
                generalize wx6.alloc (.cells #[.int .i64 0, .int .i64 0] 32) = wx9 at HB9_ BKB9 BKA9 ⊢
                skip
                refine wpAnyM_one (i := 5) (by as_aux_lemma => kernel_rfl) rfl (fun K hK => ?_)
                · skip
                  go_simp
                  refine (HPA.out _ HB9_.out).mono ?_
                  rintro e' wx10 ⟨⟨⟨Pa, Pan, Pac⟩, ⟨Pt, Ptn, Ptc⟩, ⟨Px, Pxn, Pxc⟩, ⟨Pr, Prn, Prc⟩, ⟨Pn, Pnn, Pnc⟩, ⟨Ph, Phn, Phc⟩, ⟨Pl, Pln, Plc⟩⟩, rfl, rx, hx10⟩
                  have HB10_ := Lib.hid (HB9_.out.trans (hx10.mono HB9_.out.size))
                  have BKA10 := BKA9.below hx10
                  have BKB10 := BKB9.below hx10
                  refine hK.out _ _ (fun _ => HSS.out _ HB10_.out) ?_
                  clear hK K
                  try simp only [List.getElem_toArray, List.getElem_cons_zero, List.getElem_cons_succ, Act.put, List.setIfInBounds_toArray, List.set_cons_zero, List.set_cons_succ]
                  have hHeld : wx10.cell? ⟨w.heap.size, 0, none⟩ = some (.slice Aa Aan Aac) := HSS.out _ HB10_.out
                  refine wpAnyM_take (i := 6) (v := ?_) rfl (by as_aux_lemma => kernel_rfl) (by as_aux_lemma => kernel_rfl) (by as_aux_lemma => kernel_rfl) (by as_aux_lemma => kernel_rfl) (fun _ _ _ h => h) (Or.inl ⟨by rfl, ?_⟩) (hHeld) ?_
                  rotate_left
                  · ((intro W hSw); (try dsimp only at hSw); go_simp; try (with_reducible rfl))
                  simp only [List.getElem_toArray, List.getElem_cons_zero, List.getElem_cons_succ, Act.put, List.setIfInBounds_toArray, List.set_cons_zero, List.set_cons_succ]
                  refine wpAnyM_take (i := 7) (v := ?_) rfl (by as_aux_lemma => kernel_rfl) (by as_aux_lemma => kernel_rfl) (by as_aux_lemma => kernel_rfl) (by as_aux_lemma => kernel_rfl) (fun _ _ _ h => h) (Or.inl ⟨by rfl, ?_⟩) (hHeld) ?_
                  rotate_left
                  · ((intro W hSw); (try dsimp only at hSw); go_simp; try (with_reducible rfl))
                  simp only [List.getElem_toArray, List.getElem_cons_zero, List.getElem_cons_succ, Act.put, List.setIfInBounds_toArray, List.set_cons_zero, List.set_cons_succ]
                  refine wpAnyM_take (i := 8) (v := ?_) rfl (by as_aux_lemma => kernel_rfl) (by as_aux_lemma => kernel_rfl) (by as_aux_lemma => kernel_rfl) (by as_aux_lemma => kernel_rfl) (fun _ _ _ h => h) (Or.inl ⟨by rfl, ?_⟩) (hHeld) ?_
                  rotate_left
                  · ((intro W hSw); (try dsimp only at hSw); go_simp; try (with_reducible rfl))
                  simp only [List.getElem_toArray, List.getElem_cons_zero, List.getElem_cons_succ, Act.put, List.setIfInBounds_toArray, List.set_cons_zero, List.set_cons_succ]
                  refine wpAnyM_take (i := 9) (v := ?_) rfl (by as_aux_lemma => kernel_rfl) (by as_aux_lemma => kernel_rfl) (by as_aux_lemma => kernel_rfl) (by as_aux_lemma => kernel_rfl) (fun _ _ _ h => h) (Or.inl ⟨by rfl, ?_⟩) (hHeld) ?_
                  rotate_left
                  · ((intro W hSw); (try dsimp only at hSw); go_simp; try (with_reducible rfl))
                  simp only [List.getElem_toArray, List.getElem_cons_zero, List.getElem_cons_succ, Act.put, List.setIfInBounds_toArray, List.set_cons_zero, List.set_cons_succ]
                  have a0 : _ = some (Value.slice none 0 0) := BKA10.cell 0
                  have z0 := BKA10.free 0
                  have a1 : _ = some (Value.slice none 0 0) := BKA10.cell 1
                  have z1 := BKA10.free 1
                  have a2 : _ = some (Value.slice none 0 0) := BKA10.cell 2
                  have z2 := BKA10.free 2
                  have a3 : _ = some (Value.slice none 0 0) := BKA10.cell 3
                  have z3 := BKA10.free 3
                  have a4 : _ = some (Value.slice none 0 0) := BKA10.cell 4
                  have z4 := BKA10.free 4
                  have a5 : _ = some (Value.slice none 0 0) := BKA10.cell 5
                  have z5 := BKA10.free 5
                  have a6 : _ = some (Value.slice none 0 0) := BKA10.cell 6
                  have z6 := BKA10.free 6
                  have p0 : _ = some (Value.int .i64 0) := BKB10.cell 0
                  have y0 := BKB10.free 0
                  have p1 : _ = some (Value.int .i64 0) := BKB10.cell 1
                  have y1 := BKB10.free 1
                  have B12 := Lib.hid (below7V HB10_.out HGA6.out (.slice Pa Pan Pac) (.slice Pt Ptn Ptc) (.slice Px Pxn Pxc) (.slice Pr Prn Prc) (.slice Pn Pnn Pnc) (.slice Ph Phn Phc) (.slice Pl Pln Plc))
                  have P12 := Lib.hid (other7V BKB10 (HN9.out) (.slice Pa Pan Pac) (.slice Pt Ptn Ptc) (.slice Px Pxn Pxc) (.slice Pr Prn Prc) (.slice Pn Pnn Pnc) (.slice Ph Phn Phc) (.slice Pl Pln Plc))
                  have pp0 : _ = some (Value.int .i64 0) := P12.out.cell 0
                  have yy0 := P12.out.free 0
                  have pp1 : _ = some (Value.int .i64 0) := P12.out.cell 1
                  have yy1 := P12.out.free 1
                  have B13 := Lib.hid (below2V B12.out HGB9.out (.int .i64 (q1 : Nat)) (.int .i64 (q2 : Nat)))
                  have P13 := Lib.hid (set2V P12.out (.int .i64 (q1 : Nat)) (.int .i64 (q2 : Nat)))
                  refine wpAnyM_one (i := 12) (by as_aux_lemma => kernel_rfl) rfl (fun K hK => ?_)
                  go_simp
                  refine hK.out _ _ (fun _ => HSS.out _ B12.out) ?_
                  clear hK K
                  try simp only [List.getElem_toArray, List.getElem_cons_zero, List.getElem_cons_succ, Act.put, List.setIfInBounds_toArray, List.set_cons_zero, List.set_cons_succ]
                  refine wpAnyM_one (i := 13) (by as_aux_lemma => kernel_rfl) rfl (fun K hK => ?_)
                  go_simp
                  refine hK.out _ _ (fun _ => HSS.out _ B13.out) ?_
                  clear hK K
                  try simp only [List.getElem_toArray, List.getElem_cons_zero, List.getElem_cons_succ, Act.put, List.setIfInBounds_toArray, List.set_cons_zero, List.set_cons_succ]
                  refine wpAnyM_one (i := 14) (by as_aux_lemma => kernel_rfl) rfl (fun K hK => ?_)
                  go_simp
                  refine hK.out _ _ (fun h => absurd rfl h) ?_
                  clear hK K
                  try simp only [List.getElem_toArray, List.getElem_cons_zero, List.getElem_cons_succ, Act.put, List.setIfInBounds_toArray, List.set_cons_zero, List.set_cons_succ]
                  refine wpAnyM_done (by as_aux_lemma => kernel_rfl) (NoPanic.normal ?_) _
                  go_wp2
                  go_meet
                  case rel => exact ⟨_, rfl, rfl, B13.out, P13.out⟩
            · skip
              have HB11_ := Lib.hid (HB1.out.alloc HB1.out.size (.cells #[.int .i64 0, .int .i64 0] 32))
              have BKB11 := Blk.new wd 32 #[.int .i64 0, .int .i64 0]
              have HGB11 : Hid (wa.heap.size ≤ wd.heap.size) := HB1.out.size
              go_simp
              refine hK.out _ _ (fun _ => HSS.out _ HB11_.out) ?_
              clear hK K
              try simp only [List.getElem_toArray, List.getElem_cons_zero, List.getElem_cons_succ, Act.put, List.setIfInBounds_toArray, List.set_cons_zero, List.set_cons_succ]
              generalize wd.alloc (.cells #[.int .i64 0, .int .i64 0] 32) = wx11 at HB11_ BKB11 ⊢
              skip
              refine wpAnyM_two (i := 5) (j := 10) (by as_aux_lemma => kernel_rfl) rfl rfl (fun K hK => ?_) (fun K hK => ?_)
              · skip
                go_simp
                refine (HPA.out _ HB11_.out).mono ?_
                rintro e' wx12 ⟨⟨⟨Pa, Pan, Pac⟩, ⟨Pt, Ptn, Ptc⟩, ⟨Px, Pxn, Pxc⟩, ⟨Pr, Prn, Prc⟩, ⟨Pn, Pnn, Pnc⟩, ⟨Ph, Phn, Phc⟩, ⟨Pl, Pln, Plc⟩⟩, rfl, rx, hx12⟩
                have HB12_ := Lib.hid (HB11_.out.trans (hx12.mono HB11_.out.size))
                have BKB12 := BKB11.below hx12
                refine hK.out _ _ (fun _ => HSS.out _ HB12_.out) ?_
                clear hK K
                try simp only [List.getElem_toArray, List.getElem_cons_zero, List.getElem_cons_succ, Act.put, List.setIfInBounds_toArray, List.set_cons_zero, List.set_cons_succ]
                have hHeld : wx12.cell? ⟨w.heap.size, 0, none⟩ = some (.slice Aa Aan Aac) := HSS.out _ HB12_.out
                refine wpAnyM_take (i := 6) (v := ?_) rfl (by as_aux_lemma => kernel_rfl) (by as_aux_lemma => kernel_rfl) (by as_aux_lemma => kernel_rfl) (by as_aux_lemma => kernel_rfl) (fun _ _ _ h => h) (Or.inl ⟨by rfl, ?_⟩) (hHeld) ?_
                rotate_left
                · ((intro W hSw); (try dsimp only at hSw); go_simp; try (with_reducible rfl))
                simp only [List.getElem_toArray, List.getElem_cons_zero, List.getElem_cons_succ, Act.put, List.setIfInBounds_toArray, List.set_cons_zero, List.set_cons_succ]
                refine wpAnyM_take (i := 7) (v := ?_) rfl (by as_aux_lemma => kernel_rfl) (by as_aux_lemma => kernel_rfl) (by as_aux_lemma => kernel_rfl) (by as_aux_lemma => kernel_rfl) (fun _ _ _ h => h) (Or.inl ⟨by rfl, ?_⟩) (hHeld) ?_
                rotate_left
                · ((intro W hSw); (try dsimp only at hSw); go_simp; try (with_reducible rfl))
                simp only [List.getElem_toArray, List.getElem_cons_zero, List.getElem_cons_succ, Act.put, List.setIfInBounds_toArray, List.set_cons_zero, List.set_cons_succ]
                refine wpAnyM_take (i := 8) (v := ?_) rfl (by as_aux_lemma => kernel_rfl) (by as_aux_lemma => kernel_rfl) (by as_aux_lemma => kernel_rfl) (by as_aux_lemma => kernel_rfl) (fun _ _ _ h => h) (Or.inl ⟨by rfl, ?_⟩) (hHeld) ?_
                rotate_left
                · ((intro W hSw); (try dsimp only at hSw); go_simp; try (with_reducible rfl))
                simp only [List.getElem_toArray, List.getElem_cons_zero, List.getElem_cons_succ, Act.put, List.setIfInBounds_toArray, List.set_cons_zero, List.set_cons_succ]
                refine wpAnyM_take (i := 9) (v := ?_) rfl (by as_aux_lemma => kernel_rfl) (by as_aux_lemma => kernel_rfl) (by as_aux_lemma => kernel_rfl) (by as_aux_lemma => kernel_rfl) (fun _ _ _ h => h) (Or.inl ⟨by rfl, ?_⟩) (hHeld) ?_
                rotate_left
                · ((intro W hSw); (try dsimp only at hSw); go_simp; try (with_reducible rfl))
                simp only [List.getElem_toArray, List.getElem_cons_zero, List.getElem_cons_succ, Act.put, List.setIfInBounds_toArray, List.set_cons_zero, List.set_cons_succ]
                refine wpAnyM_one (i := 10) (by as_aux_lemma => kernel_rfl) rfl (fun K hK => ?_)
                · skip
                  have HB13_ := Lib.hid (HB12_.out.alloc HB12_.out.size (.cells #[.slice none 0 0, .slice none 0 0, .slice none 0 0, .slice none 0 0, .slice none 0 0, .slice none 0 0, .slice none 0 0] 30))
                  have BKA13 := Blk.new wx12 30 #[.slice none 0 0, .slice none 0 0, .slice none 0 0, .slice none 0 0, .slice none 0 0, .slice none 0 0, .slice none 0 0]
                  have BKB13 := BKB12.alloc (.cells #[.slice none 0 0, .slice none 0 0, .slice none 0 0, .slice none 0 0, .slice none 0 0, .slice none 0 0, .slice none 0 0] 30)
                  have HGA13 : Hid (wa.heap.size ≤ wx12.heap.size) := HB12_.out.size
                  have HN13 : Hid (_ ≠ wx12.heap.size) := Nat.ne_of_lt BKB12.lt
                  go_simp
                  refine hK.out _ _ (fun _ => HSS.out _ HB13_.out) ?_
                  clear hK K
                  try simp only [List.getElem_toArray, List.getElem_cons_zero, List.getElem_cons_succ, Act.put, List.setIfInBounds_toArray, List.set_cons_zero, List.set_cons_succ]
                  generalize wx12.alloc (.cells #[.slice none 0 0, .slice none 0 0, .slice none 0 0, .slice none 0 0, .slice none 0 0, .slice none 0 0, .slice none 0 0] 30) = wx13 at HB13_ BKA13 BKB13 ⊢
                  skip
                  have a0 : _ = some (Value.slice none 0 0) := BKA13.cell 0
                  have z0 := BKA13.free 0
                  have a1 : _ = some (Value.slice none 0 0) := BKA13.cell 1
                  have z1 := BKA13.free 1
                  have a2 : _ = some (Value.slice none 0 0) := BKA13.cell 2
                  have z2 := BKA13.free 2
                  have a3 : _ = some (Value.slice none 0 0) := BKA13.cell 3
                  have z3 := BKA13.free 3
                  have a4 : _ = some (Value.slice none 0 0) := BKA13.cell 4
                  have z4 := BKA13.free 4
                  have a5 : _ = some (Value.slice none 0 0) := BKA13.cell 5
                  have z5 := BKA13.free 5
                  have a6 : _ = some (Value.slice none 0 0) := BKA13.cell 6
                  have z6 := BKA13.free 6
                  have p0 : _ = some (Value.int .i64 0) := BKB13.cell 0
                  have y0 := BKB13.free 0
                  have p1 : _ = some (Value.int .i64 0) := BKB13.cell 1
                  have y1 := BKB13.free 1
                  have B12 := Lib.hid (below7V HB13_.out HGA13.out (.slice Pa Pan Pac) (.slice Pt Ptn Ptc) (.slice Px Pxn Pxc) (.slice Pr Prn Prc) (.slice Pn Pnn Pnc) (.slice Ph Phn Phc) (.slice Pl Pln Plc))
                  have P12 := Lib.hid (other7V BKB13 (HN13.out.symm) (.slice Pa Pan Pac) (.slice Pt Ptn Ptc) (.slice Px Pxn Pxc) (.slice Pr Prn Prc) (.slice Pn Pnn Pnc) (.slice Ph Phn Phc) (.slice Pl Pln Plc))
                  have pp0 : _ = some (Value.int .i64 0) := P12.out.cell 0
                  have yy0 := P12.out.free 0
                  have pp1 : _ = some (Value.int .i64 0) := P12.out.cell 1
                  have yy1 := P12.out.free 1
                  have B13 := Lib.hid (below2V B12.out HGB11.out (.int .i64 (q1 : Nat)) (.int .i64 (q2 : Nat)))
                  have P13 := Lib.hid (set2V P12.out (.int .i64 (q1 : Nat)) (.int .i64 (q2 : Nat)))
                  refine wpAnyM_one (i := 12) (by as_aux_lemma => kernel_rfl) rfl (fun K hK => ?_)
                  go_simp
                  refine hK.out _ _ (fun _ => HSS.out _ B12.out) ?_
                  clear hK K
                  try simp only [List.getElem_toArray, List.getElem_cons_zero, List.getElem_cons_succ, Act.put, List.setIfInBounds_toArray, List.set_cons_zero, List.set_cons_succ]
                  refine wpAnyM_one (i := 13) (by as_aux_lemma => kernel_rfl) rfl (fun K hK => ?_)
                  go_simp
                  refine hK.out _ _ (fun _ => HSS.out _ B13.out) ?_
                  clear hK K
                  try simp only [List.getElem_toArray, List.getElem_cons_zero, List.getElem_cons_succ, Act.put, List.setIfInBounds_toArray, List.set_cons_zero, List.set_cons_succ]
                  refine wpAnyM_one (i := 14) (by as_aux_lemma => kernel_rfl) rfl (fun K hK => ?_)
                  go_simp
                  refine hK.out _ _ (fun h => absurd rfl h) ?_
                  clear hK K
                  try simp only [List.getElem_toArray, List.getElem_cons_zero, List.getElem_cons_succ, Act.put, List.setIfInBounds_toArray, List.set_cons_zero, List.set_cons_succ]
                  refine wpAnyM_done (by as_aux_lemma => kernel_rfl) (NoPanic.normal ?_) _
                  go_wp2
                  go_meet
                  case rel => exact ⟨_, rfl, rfl, B13.out, P13.out⟩
              · skip
                have HB14_ := Lib.hid (HB11_.out.alloc HB11_.out.size (.cells #[.slice none 0 0, .slice none 0 0, .slice none 0 0, .slice none 0 0, .slice none 0 0, .slice none 0 0, .slice none 0 0] 30))
                have BKA14 := Blk.new wx11 30 #[.slice none 0 0, .slice none 0 0, .slice none 0 0, .slice none 0 0, .slice none 0 0, .slice none 0 0, .slice none 0 0]
                have BKB14 := BKB11.alloc (.cells #[.slice none 0 0, .slice none 0 0, .slice none 0 0, .slice none 0 0, .slice none 0 0, .slice none 0 0, .slice none 0 0] 30)
                have HGA14 : Hid (wa.heap.size ≤ wx11.heap.size) := HB11_.out.size
                have HN14 : Hid (_ ≠ wx11.heap.size) := Nat.ne_of_lt BKB11.lt
                go_simp
                refine hK.out _ _ (fun _ => HSS.out _ HB14_.out) ?_
                clear hK K
                try simp only [List.getElem_toArray, List.getElem_cons_zero, List.getElem_cons_succ, Act.put, List.setIfInBounds_toArray, List.set_cons_zero, List.set_cons_succ]
                generalize wx11.alloc (.cells #[.slice none 0 0, .slice none 0 0, .slice none 0 0, .slice none 0 0, .slice none 0 0, .slice none 0 0, .slice none 0 0] 30) = wx14 at HB14_ BKA14 BKB14 ⊢
                skip
                refine wpAnyM_one (i := 5) (by as_aux_lemma => kernel_rfl) rfl (fun K hK => ?_)
                · skip
                  go_simp
                  refine (HPA.out _ HB14_.out).mono ?_
                  rintro e' wx15 ⟨⟨⟨Pa, Pan, Pac⟩, ⟨Pt, Ptn, Ptc⟩, ⟨Px, Pxn, Pxc⟩, ⟨Pr, Prn, Prc⟩, ⟨Pn, Pnn, Pnc⟩, ⟨Ph, Phn, Phc⟩, ⟨Pl, Pln, Plc⟩⟩, rfl, rx, hx15⟩
                  have HB15_ := Lib.hid (HB14_.out.trans (hx15.mono HB14_.out.size))
                  have BKA15 := BKA14.below hx15
                  have BKB15 := BKB14.below hx15
                  refine hK.out _ _ (fun _ => HSS.out _ HB15_.out) ?_
                  clear hK K
                  try simp only [List.getElem_toArray, List.getElem_cons_zero, List.getElem_cons_succ, Act.put, List.setIfInBounds_toArray, List.set_cons_zero, List.set_cons_succ]
                  have hHeld : wx15.cell? ⟨w.heap.size, 0, none⟩ = some (.slice Aa Aan Aac) := HSS.out _ HB15_.out
                  refine wpAnyM_take (i := 6) (v := ?_) rfl (by as_aux_lemma => kernel_rfl) (by as_aux_lemma => kernel_rfl) (by as_aux_lemma => kernel_rfl) (by as_aux_lemma => kernel_rfl) (fun _ _ _ h => h) (Or.inl ⟨by rfl, ?_⟩) (hHeld) ?_
                  rotate_left
                  · ((intro W hSw); (try dsimp only at hSw); go_simp; try (with_reducible rfl))
                  simp only [List.getElem_toArray, List.getElem_cons_zero, List.getElem_cons_succ, Act.put, List.setIfInBounds_toArray, List.set_cons_zero, List.set_cons_succ]
                  refine wpAnyM_take (i := 7) (v := ?_) rfl (by as_aux_lemma => kernel_rfl) (by as_aux_lemma => kernel_rfl) (by as_aux_lemma => kernel_rfl) (by as_aux_lemma => kernel_rfl) (fun _ _ _ h => h) (Or.inl ⟨by rfl, ?_⟩) (hHeld) ?_
                  rotate_left
                  · ((intro W hSw); (try dsimp only at hSw); go_simp; try (with_reducible rfl))
                  simp only [List.getElem_toArray, List.getElem_cons_zero, List.getElem_cons_succ, Act.put, List.setIfInBounds_toArray, List.set_cons_zero, List.set_cons_succ]
                  refine wpAnyM_take (i := 8) (v := ?_) rfl (by as_aux_lemma => kernel_rfl) (by as_aux_lemma => kernel_rfl) (by as_aux_lemma => kernel_rfl) (by as_aux_lemma => kernel_rfl) (fun _ _ _ h => h) (Or.inl ⟨by rfl, ?_⟩) (hHeld) ?_
                  rotate_left
                  · ((intro W hSw); (try dsimp only at hSw); go_simp; try (with_reducible rfl))
                  simp only [List.getElem_toArray, List.getElem_cons_zero, List.getElem_cons_succ, Act.put, List.setIfInBounds_toArray, List.set_cons_zero, List.set_cons_succ]
                  refine wpAnyM_take (i := 9) (v := ?_) rfl (by as_aux_lemma => kernel_rfl) (by as_aux_lemma => kernel_rfl) (by as_aux_lemma => kernel_rfl) (by as_aux_lemma => kernel_rfl) (fun _ _ _ h => h) (Or.inl ⟨by rfl, ?_⟩) (hHeld) ?_
                  rotate_left
                  · ((intro W hSw); (try dsimp only at hSw); go_simp; try (with_reducible rfl))
                  simp only [List.getElem_toArray, List.getElem_cons_zero, List.getElem_cons_succ, Act.put, List.setIfInBounds_toArray, List.set_cons_zero, List.set_cons_succ]
                  have a0 : _ = some (Value.slice none 0 0) := BKA15.cell 0
                  have z0 := BKA15.free 0
                  have a1 : _ = some (Value.slice none 0 0) := BKA15.cell 1
                  have z1 := BKA15.free 1
                  have a2 : _ = some (Value.slice none 0 0) := BKA15.cell 2
                  have z2 := BKA15.free 2
                  have a3 : _ = some (Value.slice none 0 0) := BKA15.cell 3
                  have z3 := BKA15.free 3
                  have a4 : _ = some (Value.slice none 0 0) := BKA15.cell 4
                  have z4 := BKA15.free 4
                  have a5 : _ = some (Value.slice none 0 0) := BKA15.cell 5
                  have z5 := BKA15.free 5
                  have a6 : _ = some (Value.slice none 0 0) := BKA15.cell 6
                  have z6 := BKA15.free 6
                  have p0 : _ = some (Value.int .i64 0) := BKB15.cell 0
                  have y0 := BKB15.free 0
                  have p1 : _ = some (Value.int .i64 0) := BKB15.cell 1
                  have y1 := BKB15.free 1
                  have B12 := Lib.hid (below7V HB15_.out HGA14.out (.slice Pa Pan Pac) (.slice Pt Ptn Ptc) (.slice Px Pxn Pxc) (.slice Pr Prn Prc) (.slice Pn Pnn Pnc) (.slice Ph Phn Phc) (.slice Pl Pln Plc))
                  have P12 := Lib.hid (other7V BKB15 (HN14.out.symm) (.slice Pa Pan Pac) (.slice Pt Ptn Ptc) (.slice Px Pxn Pxc) (.slice Pr Prn Prc) (.slice Pn Pnn Pnc) (.slice Ph Phn Phc) (.slice Pl Pln Plc))
                  have pp0 : _ = some (Value.int .i64 0) := P12.out.cell 0
                  have yy0 := P12.out.free 0
                  have pp1 : _ = some (Value.int .i64 0) := P12.out.cell 1
                  have yy1 := P12.out.free 1
                  have B13 := Lib.hid (below2V B12.out HGB11.out (.int .i64 (q1 : Nat)) (.int .i64 (q2 : Nat)))
                  have P13 := Lib.hid (set2V P12.out (.int .i64 (q1 : Nat)) (.int .i64 (q2 : Nat)))
                  refine wpAnyM_one (i := 12) (by as_aux_lemma => kernel_rfl) rfl (fun K hK => ?_)
                  go_simp
                  refine hK.out _ _ (fun _ => HSS.out _ B12.out) ?_
                  clear hK K
                  try simp only [List.getElem_toArray, List.getElem_cons_zero, List.getElem_cons_succ, Act.put, List.setIfInBounds_toArray, List.set_cons_zero, List.set_cons_succ]
                  refine wpAnyM_one (i := 13) (by as_aux_lemma => kernel_rfl) rfl (fun K hK => ?_)
                  go_simp
                  refine hK.out _ _ (fun _ => HSS.out _ B13.out) ?_
                  clear hK K
                  try simp only [List.getElem_toArray, List.getElem_cons_zero, List.getElem_cons_succ, Act.put, List.setIfInBounds_toArray, List.set_cons_zero, List.set_cons_succ]
                  refine wpAnyM_one (i := 14) (by as_aux_lemma => kernel_rfl) rfl (fun K hK => ?_)
                  go_simp
                  refine hK.out _ _ (fun h => absurd rfl h) ?_
                  clear hK K
                  try simp only [List.getElem_toArray, List.getElem_cons_zero, List.getElem_cons_succ, Act.put, List.setIfInBounds_toArray, List.set_cons_zero, List.set_cons_succ]
                  refine wpAnyM_done (by as_aux_lemma => kernel_rfl) (NoPanic.normal ?_) _
                  go_wp2
                  go_meet
                  case rel => exact ⟨_, rfl, rfl, B13.out, P13.out⟩
          case rest =>
            obtain ⟨gp, rfl, rfl, HBW, HPB⟩ := hcut
            have HW := Lib.hid (HB3.out.trans (HBW.mono HB3.out.size))
            have HPBH := Lib.hid HPB
            clear HBW HPB HPA HSS HB0
            cases b with
            | false =>
              have e := HCD.out rfl
              have hq := HQ.out
              rw [e] at hq
              have he := HE.out
              rw [e] at he
              obtain ⟨rfl, rfl⟩ : 0 = q1 ∧ 0 = q2 := ⟨congrArg Prod.fst hq, congrArg Prod.snd hq⟩
              have he : 0 = er := he
              subst he
              clear e hq
              have p0 : wc.cell? ⟨gp, 0, none⟩ = some (.int .i64 ((0 : Nat) : Int)) := HPBH.out.cell 0
              have p1 : wc.cell? ⟨gp, 1, none⟩ = some (.int .i64 ((0 : Nat) : Int)) := HPBH.out.cell 1
              have HA := Lib.hid (HAW.out wc HW.out)
              go_wp2_with fail
              refine HA.out.mono ?_
              rintro en w5 ⟨rfl, hb5⟩
              go_wp2
              go_ret
              exact ⟨rfl, HW.out.trans (hb5.mono HW.out.size)⟩
            | true =>
              have e := HCU.out rfl
              have hq := HQ.out
              rw [e] at hq
              have he := HE.out
              rw [e] at he
              have he : 10 = er := he
              subst he
              have hq : Pos.posOf E p = (q1, q2) := hq
              have HPO : Hid (∀ W : World, Calls Tryz.prog 18 #[str E, .int .i64 (p : Nat)] W (Posd (q1, q2) W)) := fun W => by
                rw [← hq]
                exact position_any E p (by have := HP.out; have := HLE.out; have := HBL.out; omega) W
              clear e hq
              have HX : Hid (∀ W, Below wc.heap.size wc W → W.cell? ⟨gp, 0, none⟩ = some (.int .i64 (q1 : Nat)) ∧ W.cell? ⟨gp, 1, none⟩ = some (.int .i64 (q2 : Nat))) := fun W hW => ⟨(HPBH.out.below hW).cell 0, (HPBH.out.below hW).cell 1⟩
              have hbD : Below wc.heap.size wc wc.drew := (Below.refl _ _).drew
              have X0 := HX.out wc.drew hbD
              have HAX := Lib.hid (fun (W : World) (hW : Below wc.heap.size wc W) => HAW.out W (HW.out.trans (hW.mono HW.out.size)))
              go_upto_region 22 with (fail)
              go_region_held3 (fun W => W.cell? ⟨gp, 0, none⟩ = some (.int .i64 (q1 : Nat)) ∧ W.cell? ⟨gp, 1, none⟩ = some (.int .i64 (q2 : Nat))) (first | (with_reducible exact X0) | (with_reducible exact X5) | (with_reducible exact X6) | go_keep) (first
                | (go_at_call 18; refine (HPO.out _).mono ?_; rintro e' w5 ⟨rfl, hb5⟩; have hc5 := hbD.trans (hb5.mono hbD.size); have X5 := HX.out w5 hc5)
                | (go_at_call 12; refine (HAX.out _ hc5).mono ?_; rintro e' w6 ⟨rfl, hb6⟩; have hc6 := hc5.trans (hb6.mono hc5.size); have X6 := HX.out w6 hc6))
              go_wp2
              go_ret
              exact ⟨rfl, HW.out.trans (hc6.mono HW.out.size)⟩
end Go.Proofs.YtgkdaebiefhgdaaGreatDoor
