/-
  The law CorpusExtracts returns true. Conditions: none but that the arguments read as they do.
-/
import Derived.Test.YtaihgoohmcipkaaCorLaws1
import Derived.Test.YtaihgoohmcipkaaCorEqR
import Derived.Test.YtaihgoohmcipkaaCorExt
import Derived.Test.YtaihgoohmcipkaaCorRExt
namespace Go.Proofs.Ytaihgoohmcipkaa
set_option linter.unusedSimpArgs false
set_option linter.unusedVariables false
open Go.RowKit Utf
open Feat (Bs)

set_option maxRecDepth 100000 in
set_option maxHeartbeats 8000000 in
theorem law_extracts (H : CH) (c : Cor.C) (i : Int) (w : World) (hi : Rng i) (hr : Reads w w.heap.size H c) : Calls Try.prog 6 #[H.v, .int .i64 i] w (Kept (.bool true) w) := by
  obtain ⟨⟨Aa, na, ca⟩, ⟨At, nt, ct⟩, ⟨Ax, nx, cx⟩, ⟨Ar, nr, cr⟩, ⟨An, nn, cn⟩, ⟨Ah, nh, ch⟩, ⟨Al, nl, cl⟩⟩ := H
  show Calls Try.prog 6 #[.agg #[.slice Aa na ca, .slice At nt ct, .slice Ax nx cx, .slice Ar nr cr, .slice An nn cn, .slice Ah nh ch, .slice Al nl cl], .int .i64 i] w _
  have hB0 := ((Below.refl w.heap.size w).alloc (Nat.le_refl _) (.cells #[.slice Aa na ca, .slice At nt ct, .slice Ax nx cx, .slice Ar nr cr, .slice An nn cn, .slice Ah nh ch, .slice Al nl cl] 30)).alloc (by simp) (.cells #[.slice Aa na ca, .slice At nt ct, .slice Ax nx cx, .slice Ar nr cr, .slice An nn cn, .slice Ah nh ch, .slice Al nl cl] 30)
  have b0 := (Blk.new w 30 #[.slice Aa na ca, .slice At nt ct, .slice Ax nx cx, .slice Ar nr cr, .slice An nn cn, .slice Ah nh ch, .slice Al nl cl]).alloc (.cells #[.slice Aa na ca, .slice At nt ct, .slice Ax nx cx, .slice Ar nr cr, .slice An nn cn, .slice Ah nh ch, .slice Al nl cl] 30)
  have b1 := Blk.new (w.alloc (.cells #[.slice Aa na ca, .slice At nt ct, .slice Ax nx cx, .slice Ar nr cr, .slice An nn cn, .slice Ah nh ch, .slice Al nl cl] 30)) 30 #[.slice Aa na ca, .slice At nt ct, .slice Ax nx cx, .slice Ar nr cr, .slice An nn cn, .slice Ah nh ch, .slice Al nl cl]
  rw [World.size_alloc] at b1
  have hr2 := (hr.under hB0).up hB0.size
  have hi2 := hi
  unfold Rng at hi
  go_enter Try.func6, Try.ntmps6
  go_wp2_with fail
  refine (heavy_any (some ⟨w.heap.size + 1, 0, none⟩) 1 1 [(⟨⟨Aa, na, ca⟩, ⟨At, nt, ct⟩, ⟨Ax, nx, cx⟩, ⟨Ar, nr, cr⟩, ⟨An, nn, cn⟩, ⟨Ah, nh, ch⟩, ⟨Al, nl, cl⟩⟩, c)] _ (by omega) (sl_one7 (H := ⟨⟨Aa, na, ca⟩, ⟨At, nt, ct⟩, ⟨Ax, nx, cx⟩, ⟨Ar, nr, cr⟩, ⟨An, nn, cn⟩, ⟨Ah, nh, ch⟩, ⟨Al, nl, cl⟩⟩) b1) (fun x hx => by simp at hx; subst hx; exact hr2)).mono ?_
  rintro e' w1 ⟨b, rfl, hb⟩
  have hB1 := hB0.trans (hb.mono hB0.size)
  have bW := b0.below hb
  have hrW := (hr2.under hb).up hb.size
  clear b0 b1 hr2 hr hb hB0
  cases b with
  | true =>
    go_wp2
    go_ret
    exact ⟨rfl, hB1⟩
  | false =>
    obtain ⟨⟨d, n⟩, hx⟩ : ∃ x, Cor.ext c i = x := ⟨_, rfl⟩
    have F1 := extract_any ⟨⟨Aa, na, ca⟩, ⟨At, nt, ct⟩, ⟨Ax, nx, cx⟩, ⟨Ar, nr, cr⟩, ⟨An, nn, cn⟩, ⟨Ah, nh, ch⟩, ⟨Al, nl, cl⟩⟩ c i w1 hi2 hrW
    have F2 := Lib.hid (fun (W : World) (hW : Below w1.heap.size w1 W) => refExtract_any ⟨⟨Aa, na, ca⟩, ⟨At, nt, ct⟩, ⟨Ax, nx, cx⟩, ⟨Ar, nr, cr⟩, ⟨An, nn, cn⟩, ⟨Ah, nh, ch⟩, ⟨Al, nl, cl⟩⟩ c i W hi2 ((hrW.under hW).up hW.size))
    rw [hx] at F1 F2
    have F1 := Lib.hid F1
    have q0 := bW.cell 0
    have q1 := bW.cell 1
    have q2 := bW.cell 2
    have q3 := bW.cell 3
    have q4 := bW.cell 4
    have q5 := bW.cell 5
    have q6 := bW.cell 6
    clear hx hrW
    go_wp2_with (first
      | (go_at_call 21; refine F1.out.mono ?_; rintro e' w2 ⟨⟨⟨Ba, ma, da⟩, ⟨Bt, mt, dt⟩, ⟨Bx, mx, dx⟩, ⟨Br, mr, dr⟩, ⟨Bn, mn, dn⟩, ⟨Bh, mh, dh⟩, ⟨Bl, ml, dl⟩⟩, rfl, r2, hb2⟩; have R2 := Lib.hid r2; clear r2; have bX := bW.below hb2; have x0 := bX.cell 0; have x1 := bX.cell 1; have x2 := bX.cell 2; have x3 := bX.cell 3; have x4 := bX.cell 4; have x5 := bX.cell 5; have x6 := bX.cell 6; have lx := bX.lt; have bN := Blk.new w2 30 #[.slice Ba ma da, .slice Bt mt dt, .slice Bx mx dx, .slice Br mr dr, .slice Bn mn dn, .slice Bh mh dh, .slice Bl ml dl]; have hb2a := hb2.alloc hb2.size (.cells #[.slice Ba ma da, .slice Bt mt dt, .slice Bx mx dx, .slice Br mr dr, .slice Bn mn dn, .slice Bh mh dh, .slice Bl ml dl] 30); try simp only [CH.v, CH.cs, Hd.v])
      | (go_at_call 22; refine (F2.out _ hb2a).mono ?_; rintro e' w3 ⟨⟨⟨Ea, oa, fa⟩, ⟨Et, ot, ft⟩, ⟨Ex, ox, fx⟩, ⟨Er, or_, fr⟩, ⟨En, on, fn⟩, ⟨Eh, oh, fh⟩, ⟨El, ol, fl⟩⟩, rfl, r3, hb3⟩; have hb2b : Below w2.heap.size w2 w3 := ((Below.refl _ _).alloc (Nat.le_refl _) (.cells #[.slice Ba ma da, .slice Bt mt dt, .slice Bx mx dx, .slice Br mr dr, .slice Bn mn dn, .slice Bh mh dh, .slice Bl ml dl] 30)).trans (hb3.mono (by simp)); have bM := (bN.below hb3); have y0 := bM.cell 0; have y1 := bM.cell 1; have y2 := bM.cell 2; have y3 := bM.cell 3; have y4 := bM.cell 4; have y5 := bM.cell 5; have y6 := bM.cell 6; have ly := bM.lt; have hb3a := hb2b.alloc hb2b.size (.cells #[.slice Ea oa fa, .slice Et ot ft, .slice Ex ox fx, .slice Er or_ fr, .slice En on fn, .slice Eh oh fh, .slice El ol fl] 30); have E6 := Lib.hid (refEqual_any _ _ _ _ _ ((R2.out.under hb3a).up hb3a.size) ((r3.under ((Below.refl _ _).alloc (Nat.le_refl _) (.cells #[.slice Ea oa fa, .slice Et ot ft, .slice Ex ox fx, .slice Er or_ fr, .slice En on fn, .slice Eh oh fh, .slice El ol fl] 30))).up (by simp))); rw [same_t rfl] at E6; try simp only [CH.v, CH.cs, Hd.v])
      | (go_at_call 20; refine E6.out.mono ?_; rintro e' w4 ⟨rfl, hb4⟩)
      | (go_at_call 17; refine (awake_any _).mono ?_; rintro e' w5 ⟨rfl, hb5⟩))
    go_ret
    have h3 := hb2.trans (hb3a.mono hb2.size)
    have h4 := h3.trans (hb4.mono h3.size)
    have h5 := h4.trans (hb5.mono h4.size)
    exact ⟨rfl, hB1.trans (h5.mono hB1.size)⟩
end Go.Proofs.Ytaihgoohmcipkaa
