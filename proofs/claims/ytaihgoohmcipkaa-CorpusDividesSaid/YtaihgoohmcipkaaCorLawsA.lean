/-
  The law CorpusDivides returns true. Conditions: none but that the argument reads as it does.
-/
import Derived.Test.YtaihgoohmcipkaaCorLaws3
import Derived.Test.YtaihgoohmcipkaaCorLawsE
import Derived.Test.YtaihgoohmcipkaaCorVal
namespace Go.Proofs.Ytaihgoohmcipkaa
set_option linter.unusedSimpArgs false
set_option linter.unusedVariables false
open Go.RowKit Utf
open Feat (Bs)

set_option maxRecDepth 100000 in
set_option maxHeartbeats 16000000 in
theorem law_divides (H : CH) (c : Cor.C) (w : World) (ha : Reads w w.heap.size H c) : Calls Try.prog 13 #[H.v] w (Kept (.bool true) w) := by
  obtain ⟨⟨Aa, Aan, Aac⟩, ⟨At, Atn, Atc⟩, ⟨Ax, Axn, Axc⟩, ⟨Ar, Arn, Arc⟩, ⟨An, Ann, Anc⟩, ⟨Ah, Ahn, Ahc⟩, ⟨Al, Aln, Alc⟩⟩ := H
  show Calls Try.prog 13 #[.agg #[.slice Aa Aan Aac, .slice At Atn Atc, .slice Ax Axn Axc, .slice Ar Arn Arc, .slice An Ann Anc, .slice Ah Ahn Ahc, .slice Al Aln Alc]] w _
  have hB0 := (((Below.refl w.heap.size w).alloc (Nat.le_refl _) (.cells #[.slice Aa Aan Aac, .slice At Atn Atc, .slice Ax Axn Axc, .slice Ar Arn Arc, .slice An Ann Anc, .slice Ah Ahn Ahc, .slice Al Aln Alc] 30)).alloc (by simp <;> omega) (.cells #[.slice Aa Aan Aac, .slice At Atn Atc, .slice Ax Axn Axc, .slice Ar Arn Arc, .slice An Ann Anc, .slice Ah Ahn Ahc, .slice Al Aln Alc] 30))
  have bA := (Blk.new w 30 #[.slice Aa Aan Aac, .slice At Atn Atc, .slice Ax Axn Axc, .slice Ar Arn Arc, .slice An Ann Anc, .slice Ah Ahn Ahc, .slice Al Aln Alc]).alloc (.cells #[.slice Aa Aan Aac, .slice At Atn Atc, .slice Ax Axn Axc, .slice Ar Arn Arc, .slice An Ann Anc, .slice Ah Ahn Ahc, .slice Al Aln Alc] 30)
  have bZ := Blk.new (w.alloc (.cells #[.slice Aa Aan Aac, .slice At Atn Atc, .slice Ax Axn Axc, .slice Ar Arn Arc, .slice An Ann Anc, .slice Ah Ahn Ahc, .slice Al Aln Alc] 30)) 30 #[.slice Aa Aan Aac, .slice At Atn Atc, .slice Ax Axn Axc, .slice Ar Arn Arc, .slice An Ann Anc, .slice Ah Ahn Ahc, .slice Al Aln Alc]
  simp only [World.size_alloc] at  bZ
  have rA := (ha.under hB0).up hB0.size
  have HHV := Lib.hid (heavy_any (some ⟨w.heap.size + 1, 0, none⟩) 1 1 [(⟨⟨Aa, Aan, Aac⟩, ⟨At, Atn, Atc⟩, ⟨Ax, Axn, Axc⟩, ⟨Ar, Arn, Arc⟩, ⟨An, Ann, Anc⟩, ⟨Ah, Ahn, Ahc⟩, ⟨Al, Aln, Alc⟩⟩, c)] _ (by omega) (sl_one7 (H := ⟨⟨Aa, Aan, Aac⟩, ⟨At, Atn, Atc⟩, ⟨Ax, Axn, Axc⟩, ⟨Ar, Arn, Arc⟩, ⟨An, Ann, Anc⟩, ⟨Ah, Ahn, Ahc⟩, ⟨Al, Aln, Alc⟩⟩) bZ) (fun x hx => by
      simp at hx
      subst hx; exact rA))
  go_enter Try.func13, Try.ntmps13
  go_wp2_with fail
  refine HHV.out.mono ?_
  rintro e' w1 ⟨bb, rfl, hb1⟩
  have hB1 := hB0.trans (hb1.mono hB0.size)
  have RA := Lib.hid ((rA.under hb1).up hb1.size)
  have BA := bA.below hb1
  clear bA bZ rA ha hB0 HHV hb1
  cases bb with
  | true =>
    go_wp2
    go_ret
    exact ⟨rfl, hB1⟩
  | false =>
    have HW : Below w1.heap.size w1 w1 := Below.refl _ _
    obtain ⟨n, hn0⟩ : ∃ n, (Cor.check c).2.2 = n := ⟨_, rfl⟩
    obtain ⟨zn, hzn⟩ : ∃ z : Int, (n : Int) = z := ⟨_, rfl⟩
    have VT := validate_any ⟨⟨Aa, Aan, Aac⟩, ⟨At, Atn, Atc⟩, ⟨Ax, Axn, Axc⟩, ⟨Ar, Arn, Arc⟩, ⟨An, Ann, Anc⟩, ⟨Ah, Ahn, Ahc⟩, ⟨Al, Aln, Alc⟩⟩ c w1 RA.out
    unfold Valed at VT
    rw [hn0, hzn] at VT
    generalize ((Cor.check c).1 : Int) = z1 at VT
    generalize ((Cor.check c).2.1 : Int) = z2 at VT
    have VT := Lib.hid VT
    have HN := Lib.hid hn0
    have ZN := Lib.hid hzn
    clear hn0 hzn
    have q0 := BA.cell 0
    have q1 := BA.cell 1
    have q2 := BA.cell 2
    have q3 := BA.cell 3
    have q4 := BA.cell 4
    have q5 := BA.cell 5
    have q6 := BA.cell 6
    go_upto_region 4 with (go_at_call 15; refine VT.out.mono ?_; rintro e' w2 ⟨rfl, hx⟩)
    clear q0 q1 q2 q3 q4 q5 q6 VT
    replace BA := BA.below hx
    replace RA := Lib.hid ((RA.out.under hx).up hx.size)
    replace HW := HW.trans (hx.mono HW.size)
    clear hx
    by_cases hn : n = 0
    · obtain rfl : zn = 0 := by have := ZN.out; omega
      subst hn
      have HV : Hid (Vd c) := vd_iff.1 (by unfold Cor.valid; rw [HN.out]; rfl)
      have q0 : _ = some (Value.slice Aa Aan Aac) := BA.cell 0
      go_upto_region 7 with (fail)
      clear q0
      have ha := (Below.refl w2.heap.size w2).alloc (Nat.le_refl _) (.cells #[.slice Aa Aan Aac, .slice none 0 0, .slice none 0 0, .slice none 0 0, .slice none 0 0, .slice none 0 0, .slice none 0 0] 30)
      have BA3 := BA.below ha
      have RA3 := Lib.hid ((RA.out.under ha).up ha.size)
      have BN := Blk.new w2 30 #[.slice Aa Aan Aac, .slice none 0 0, .slice none 0 0, .slice none 0 0, .slice none 0 0, .slice none 0 0, .slice none 0 0]
      have RN := Lib.hid (reads_none RA3.out)
      generalize w2.alloc (.cells #[.slice Aa Aan Aac, .slice none 0 0, .slice none 0 0, .slice none 0 0, .slice none 0 0, .slice none 0 0, .slice none 0 0] 30) = w3 at BA3 RA3 BN RN ha ⊢
      have LA : Hid (c.texts.length = Axn) := RA.out.x.len
      have l2 : Axn ≤ 64 := by have h := HV.out.txl; rw [LA.out] at h; exact h
      have q2 : _ = some (Value.slice Ax Axn Axc) := BA3.cell 2
      go_wp2
      clear q2
      go_loopw [27] (fun iv wr => ∃ j : Nat, j ≤ Axn ∧ iv = .int .i64 j ∧ ∃ D : CH, Below w2.heap.size w2 wr ∧ Blk wr w2.heap.size 30 D.cs ∧ Reads wr wr.heap.size D (upto c j)) (fun iv _ => Axn - (intOf iv).toNat)
      case atStart => exact ⟨0, Nat.zero_le _, rfl, ⟨⟨Aa, Aan, Aac⟩, ⟨none, 0, 0⟩, ⟨none, 0, 0⟩, ⟨none, 0, 0⟩, ⟨none, 0, 0⟩, ⟨none, 0, 0⟩, ⟨none, 0, 0⟩⟩, ha, BN, by rw [upto_zero HV.out]; exact RN.out⟩
      case round =>
        obtain ⟨j, hj, rfl, ⟨⟨Da, Dan, Dac⟩, ⟨Dt, Dtn, Dtc⟩, ⟨Dx, Dxn, Dxc⟩, ⟨Dr, Drn, Drc⟩, ⟨Dn, Dnn, Dnc⟩, ⟨Dh, Dhn, Dhc⟩, ⟨Dl, Dln, Dlc⟩⟩, hB, hblk, hrd⟩ := hrel
        have BD : Blk wr w2.heap.size 30 #[.slice Da Dan Dac, .slice Dt Dtn Dtc, .slice Dx Dxn Dxc, .slice Dr Drn Drc, .slice Dn Dnn Dnc, .slice Dh Dhn Dhc, .slice Dl Dln Dlc] := hblk
        have RD := Lib.hid hrd
        have hBH := Lib.hid hB
        have BA4 := BA.below hB
        have RA4 := Lib.hid ((RA.out.under hB).up hB.size)
        clear hB hblk hrd
        by_cases hlt : j < Axn
        · have hxl : j < c.texts.length := by rw [LA.out]; exact hlt
          obtain ⟨d, hd0⟩ : ∃ d, Cor.doc c c.texts[j] = d := ⟨_, rfl⟩
          have hex : Cor.ext c (j : Nat) = (d, 0) := by rw [ext_ok HV.out hxl, hd0]
          have HU : Hid (Cor.cat (upto c j) d = (upto c (j + 1), 0)) := by show _ = _; rw [← hd0]; exact upto_ok HV.out hxl
          have H1 : Hid (d.texts.length = 1) := by show _ = _; rw [← hd0]; rfl
          have ED := Lib.hid (extract_z ⟨⟨Aa, Aan, Aac⟩, ⟨At, Atn, Atc⟩, ⟨Ax, Axn, Axc⟩, ⟨Ar, Arn, Arc⟩, ⟨An, Ann, Anc⟩, ⟨Ah, Ahn, Ahc⟩, ⟨Al, Aln, Alc⟩⟩ hex wr (by unfold Rng; omega) RA4.out 0 rfl)
          clear hd0 hex hxl
          have q0 := BA4.cell 0
          have q1 := BA4.cell 1
          have q2 := BA4.cell 2
          have q3 := BA4.cell 3
          have q4 := BA4.cell 4
          have q5 := BA4.cell 5
          have q6 := BA4.cell 6
          go_upto_region 11 with (go_at_call 21; refine ED.out.mono ?_; rintro e' w4 ⟨⟨⟨Ea, Ean, Eac⟩, ⟨Et, Etn, Etc⟩, ⟨Ex, Exn, Exc⟩, ⟨Er, Ern, Erc⟩, ⟨En, Enn, Enc⟩, ⟨Eh, Ehn, Ehc⟩, ⟨El, Eln, Elc⟩⟩, rfl, rx, hx⟩; simp only [CH.v, CH.cs, Hd.v])
          clear q0 q1 q2 q3 q4 q5 q6 ED
          have ha4 := (Below.refl w4.heap.size w4).alloc (Nat.le_refl _) (.cells #[.slice Ea Ean Eac, .slice Et Etn Etc, .slice Ex Exn Exc, .slice Er Ern Erc, .slice En Enn Enc, .slice Eh Ehn Ehc, .slice El Eln Elc] 30)
          have hxa := hx.trans (ha4.mono hx.size)
          replace BD := BD.below hxa
          replace RD := Lib.hid ((RD.out.under hxa).up hxa.size)
          have HW5 : Below w2.heap.size w2 (w4.alloc (.cells #[.slice Ea Ean Eac, .slice Et Etn Etc, .slice Ex Exn Exc, .slice Er Ern Erc, .slice En Enn Enc, .slice Eh Ehn Ehc, .slice El Eln Elc] 30)) := hBH.out.trans (hxa.mono hBH.out.size)
          have BE := Blk.new w4 30 #[.slice Ea Ean Eac, .slice Et Etn Etc, .slice Ex Exn Exc, .slice Er Ern Erc, .slice En Enn Enc, .slice Eh Ehn Ehc, .slice El Eln Elc]
          have RE := Lib.hid ((rx.reads.under ha4).up ha4.size)
          clear rx hx ha4 hxa BA4 RA4
          generalize w4.alloc (.cells #[.slice Ea Ean Eac, .slice Et Etn Etc, .slice Ex Exn Exc, .slice Er Ern Erc, .slice En Enn Enc, .slice Eh Ehn Ehc, .slice El Eln Elc] 30) = w5 at BD BE RD RE HW5 ⊢
          generalize w4.heap.size = gE at BE ⊢
          clear w4
          obtain rfl : Exn = 1 := by have h : d.texts.length = Exn := RE.out.x.len; rw [H1.out] at h; exact h.symm
          have u2 : _ = some (Value.slice Ex 1 Exc) := BE.cell 2
          go_upto_region 13 with (fail)
          clear u2
          have CT := Lib.hid (concat_oz ⟨⟨Da, Dan, Dac⟩, ⟨Dt, Dtn, Dtc⟩, ⟨Dx, Dxn, Dxc⟩, ⟨Dr, Drn, Drc⟩, ⟨Dn, Dnn, Dnc⟩, ⟨Dh, Dhn, Dhc⟩, ⟨Dl, Dln, Dlc⟩⟩ ⟨⟨Ea, Ean, Eac⟩, ⟨Et, Etn, Etc⟩, ⟨Ex, 1, Exc⟩, ⟨Er, Ern, Erc⟩, ⟨En, Enn, Enc⟩, ⟨Eh, Ehn, Ehc⟩, ⟨El, Eln, Elc⟩⟩ HU.out w5 RD.out RE.out 0 rfl)
          have q0 := BD.cell 0
          have q1 := BD.cell 1
          have q2 := BD.cell 2
          have q3 := BD.cell 3
          have q4 := BD.cell 4
          have q5 := BD.cell 5
          have q6 := BD.cell 6
          have k0 := BE.cell 0
          have k1 := BE.cell 1
          have k2 := BE.cell 2
          have k3 := BE.cell 3
          have k4 := BE.cell 4
          have k5 := BE.cell 5
          have k6 := BE.cell 6
          go_upto_region 14 with (go_at_call 30; refine CT.out.mono ?_; rintro e' w6 ⟨⟨⟨Sa, San, Sac⟩, ⟨St, Stn, Stc⟩, ⟨Sx, Sxn, Sxc⟩, ⟨Sr, Srn, Src⟩, ⟨Sn, Snn, Snc⟩, ⟨Sh, Shn, Shc⟩, ⟨Sl, Sln, Slc⟩⟩, rfl, rx, hx⟩; simp only [CH.v, CH.cs, Hd.v]; have bD6 := BD.below hx; have x0 := bD6.cell 0; have x1 := bD6.cell 1; have x2 := bD6.cell 2; have x3 := bD6.cell 3; have x4 := bD6.cell 4; have x5 := bD6.cell 5; have x6 := bD6.cell 6; have f0 := bD6.free 0; have f1 := bD6.free 1; have f2 := bD6.free 2; have f3 := bD6.free 3; have f4 := bD6.free 4; have f5 := bD6.free 5; have f6 := bD6.free 6)
          have B7 := blk7 bD6 (.slice Sa San Sac) (.slice St Stn Stc) (.slice Sx Sxn Sxc) (.slice Sr Srn Src) (.slice Sn Snn Snc) (.slice Sh Shn Shc) (.slice Sl Sln Slc)
          have h26 := HW5.trans (hx.mono HW5.size)
          have h27 := below7 h26 (Nat.le_refl _) (.slice Sa San Sac) (.slice St Stn Stc) (.slice Sx Sxn Sxc) (.slice Sr Srn Src) (.slice Sn Snn Snc) (.slice Sh Shn Shc) (.slice Sl Sln Slc)
          have R7 := Lib.hid ((rx.off (off7 bD6 (.slice Sa San Sac) (.slice St Stn Stc) (.slice Sx Sxn Sxc) (.slice Sr Srn Src) (.slice Sn Snn Snc) (.slice Sh Shn Shc) (.slice Sl Sln Slc))).reads)
          clear BD bD6 x0 x1 x2 x3 x4 x5 x6 f0 f1 f2 f3 f4 f5 f6 rx hx h26 CT q0 k0 q1 k1 q2 k2 q3 k3 q4 k4 q5 k5 q6 k6
          generalize (((((((w6.setCell ⟨w2.heap.size, 0, none⟩ (.slice Sa San Sac)).setCell ⟨w2.heap.size, 1, none⟩ (.slice St Stn Stc)).setCell ⟨w2.heap.size, 2, none⟩ (.slice Sx Sxn Sxc)).setCell ⟨w2.heap.size, 3, none⟩ (.slice Sr Srn Src)).setCell ⟨w2.heap.size, 4, none⟩ (.slice Sn Snn Snc)).setCell ⟨w2.heap.size, 5, none⟩ (.slice Sh Shn Shc)).setCell ⟨w2.heap.size, 6, none⟩ (.slice Sl Sln Slc)) = w7 at B7 R7 h27 ⊢
          go_wp2
          go_roundw
          case rel => exact ⟨j + 1, by omega, by go_num, ⟨⟨Sa, San, Sac⟩, ⟨St, Stn, Stc⟩, ⟨Sx, Sxn, Sxc⟩, ⟨Sr, Srn, Src⟩, ⟨Sn, Snn, Snc⟩, ⟨Sh, Shn, Shc⟩, ⟨Sl, Sln, Slc⟩⟩, h27, B7, R7.out⟩
          case measure => simp [intOf]; omega
        · obtain rfl : Axn = j := by omega
          have hup : upto c Axn = c := by rw [← LA.out]; exact upto_all HV.out
          rw [hup] at RD
          clear hup
          have E1 := Lib.hid (equal_any ⟨⟨Da, Dan, Dac⟩, ⟨Dt, Dtn, Dtc⟩, ⟨Dx, Dxn, Dxc⟩, ⟨Dr, Drn, Drc⟩, ⟨Dn, Dnn, Dnc⟩, ⟨Dh, Dhn, Dhc⟩, ⟨Dl, Dln, Dlc⟩⟩ ⟨⟨Aa, Aan, Aac⟩, ⟨At, Atn, Atc⟩, ⟨Ax, Axn, Axc⟩, ⟨Ar, Arn, Arc⟩, ⟨An, Ann, Anc⟩, ⟨Ah, Ahn, Ahc⟩, ⟨Al, Aln, Alc⟩⟩ c c wr RD.out RA4.out)
          have E2 := Lib.hid (fun (W : World) (hW : Below wr.heap.size wr W) => refEqual_any ⟨⟨Da, Dan, Dac⟩, ⟨Dt, Dtn, Dtc⟩, ⟨Dx, Dxn, Dxc⟩, ⟨Dr, Drn, Drc⟩, ⟨Dn, Dnn, Dnc⟩, ⟨Dh, Dhn, Dhc⟩, ⟨Dl, Dln, Dlc⟩⟩ ⟨⟨Aa, Aan, Aac⟩, ⟨At, Atn, Atc⟩, ⟨Ax, Axn, Axc⟩, ⟨Ar, Arn, Arc⟩, ⟨An, Ann, Anc⟩, ⟨Ah, Ahn, Ahc⟩, ⟨Al, Aln, Alc⟩⟩ c c W ((RD.out.under hW).up hW.size) ((RA4.out.under hW).up hW.size))
          rw [same_t (rfl : c = c)] at E1 E2
          have q0 := BD.cell 0
          have q1 := BD.cell 1
          have q2 := BD.cell 2
          have q3 := BD.cell 3
          have q4 := BD.cell 4
          have q5 := BD.cell 5
          have q6 := BD.cell 6
          have k0 := BA4.cell 0
          have k1 := BA4.cell 1
          have k2 := BA4.cell 2
          have k3 := BA4.cell 3
          have k4 := BA4.cell 4
          have k5 := BA4.cell 5
          have k6 := BA4.cell 6
          go_wp2_with (first
            | (go_at_call 29; refine E1.out.mono ?_; rintro e' w9 ⟨rfl, hb9⟩; have x0 := (BD.below hb9).cell 0; have x1 := (BD.below hb9).cell 1; have x2 := (BD.below hb9).cell 2; have x3 := (BD.below hb9).cell 3; have x4 := (BD.below hb9).cell 4; have x5 := (BD.below hb9).cell 5; have x6 := (BD.below hb9).cell 6; have y0 := (BA4.below hb9).cell 0; have y1 := (BA4.below hb9).cell 1; have y2 := (BA4.below hb9).cell 2; have y3 := (BA4.below hb9).cell 3; have y4 := (BA4.below hb9).cell 4; have y5 := (BA4.below hb9).cell 5; have y6 := (BA4.below hb9).cell 6)
            | (go_at_call 20; refine (E2.out _ hb9).mono ?_; rintro e' w10 ⟨rfl, hb10⟩)
            | (go_at_call 17; refine (awake_any _).mono ?_; rintro e' w11 ⟨rfl, hb11⟩))
          go_ret
          have h10 := hb9.trans (hb10.mono hb9.size)
          have h11 := h10.trans (hb11.mono h10.size)
          have h12 := hBH.out.trans (h11.mono hBH.out.size)
          have hW := HW.trans (h12.mono HW.size)
          exact ⟨rfl, hB1.trans (hW.mono hB1.size)⟩
    · have e1 : (zn == 0) = false := by have := ZN.out; simp; omega
      go_wp2
      go_ret
      exact ⟨rfl, hB1.trans (HW.mono hB1.size)⟩
end Go.Proofs.Ytaihgoohmcipkaa
