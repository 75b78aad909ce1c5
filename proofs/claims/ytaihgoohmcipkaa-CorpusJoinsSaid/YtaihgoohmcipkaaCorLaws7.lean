/-
  The law CorpusJoins returns true. Conditions: none but that the arguments read as they do.
-/
import Derived.Test.YtaihgoohmcipkaaCorLaws3
import Derived.Test.YtaihgoohmcipkaaCorConc
import Derived.Test.YtaihgoohmcipkaaCorRConc
namespace Go.Proofs.Ytaihgoohmcipkaa
set_option linter.unusedSimpArgs false
set_option linter.unusedVariables false
open Go.RowKit Utf
open Feat (Bs)

set_option maxRecDepth 100000 in
set_option maxHeartbeats 8000000 in
theorem law_joins (H K : CH) (a b : Cor.C) (w : World) (ha : Reads w w.heap.size H a) (hb0 : Reads w w.heap.size K b) : Calls Try.prog 10 #[H.v, K.v] w (Kept (.bool true) w) := by
  obtain ⟨⟨Aa, na, ca⟩, ⟨At, nt, ct⟩, ⟨Ax, nx, cx⟩, ⟨Ar, nr, cr⟩, ⟨An, nn, cn⟩, ⟨Ah, nh, ch⟩, ⟨Al, nl, cl⟩⟩ := H
  obtain ⟨⟨Ba, ma, da⟩, ⟨Bt, mt, dt⟩, ⟨Bx, mx, dx⟩, ⟨Br, mr, dr⟩, ⟨Bn, mn, dn⟩, ⟨Bh, mh, dh⟩, ⟨Bl, ml, dl⟩⟩ := K
  show Calls Try.prog 10 #[.agg #[.slice Aa na ca, .slice At nt ct, .slice Ax nx cx, .slice Ar nr cr, .slice An nn cn, .slice Ah nh ch, .slice Al nl cl], .agg #[.slice Ba ma da, .slice Bt mt dt, .slice Bx mx dx, .slice Br mr dr, .slice Bn mn dn, .slice Bh mh dh, .slice Bl ml dl]] w _
  have hB0 := (((Below.refl w.heap.size w).alloc (Nat.le_refl _) (.cells #[.slice Aa na ca, .slice At nt ct, .slice Ax nx cx, .slice Ar nr cr, .slice An nn cn, .slice Ah nh ch, .slice Al nl cl] 30)).alloc (by simp) (.cells #[.slice Ba ma da, .slice Bt mt dt, .slice Bx mx dx, .slice Br mr dr, .slice Bn mn dn, .slice Bh mh dh, .slice Bl ml dl] 30)).alloc (by simp; omega) (.cells #[.slice Aa na ca, .slice At nt ct, .slice Ax nx cx, .slice Ar nr cr, .slice An nn cn, .slice Ah nh ch, .slice Al nl cl, .slice Ba ma da, .slice Bt mt dt, .slice Bx mx dx, .slice Br mr dr, .slice Bn mn dn, .slice Bh mh dh, .slice Bl ml dl] 30)
  have b0 := ((Blk.new w 30 #[.slice Aa na ca, .slice At nt ct, .slice Ax nx cx, .slice Ar nr cr, .slice An nn cn, .slice Ah nh ch, .slice Al nl cl]).alloc (.cells #[.slice Ba ma da, .slice Bt mt dt, .slice Bx mx dx, .slice Br mr dr, .slice Bn mn dn, .slice Bh mh dh, .slice Bl ml dl] 30)).alloc (.cells #[.slice Aa na ca, .slice At nt ct, .slice Ax nx cx, .slice Ar nr cr, .slice An nn cn, .slice Ah nh ch, .slice Al nl cl, .slice Ba ma da, .slice Bt mt dt, .slice Bx mx dx, .slice Br mr dr, .slice Bn mn dn, .slice Bh mh dh, .slice Bl ml dl] 30)
  have b1 := (Blk.new (w.alloc (.cells #[.slice Aa na ca, .slice At nt ct, .slice Ax nx cx, .slice Ar nr cr, .slice An nn cn, .slice Ah nh ch, .slice Al nl cl] 30)) 30 #[.slice Ba ma da, .slice Bt mt dt, .slice Bx mx dx, .slice Br mr dr, .slice Bn mn dn, .slice Bh mh dh, .slice Bl ml dl]).alloc (.cells #[.slice Aa na ca, .slice At nt ct, .slice Ax nx cx, .slice Ar nr cr, .slice An nn cn, .slice Ah nh ch, .slice Al nl cl, .slice Ba ma da, .slice Bt mt dt, .slice Bx mx dx, .slice Br mr dr, .slice Bn mn dn, .slice Bh mh dh, .slice Bl ml dl] 30)
  have b2 := Blk.new ((w.alloc (.cells #[.slice Aa na ca, .slice At nt ct, .slice Ax nx cx, .slice Ar nr cr, .slice An nn cn, .slice Ah nh ch, .slice Al nl cl] 30)).alloc (.cells #[.slice Ba ma da, .slice Bt mt dt, .slice Bx mx dx, .slice Br mr dr, .slice Bn mn dn, .slice Bh mh dh, .slice Bl ml dl] 30)) 30 #[.slice Aa na ca, .slice At nt ct, .slice Ax nx cx, .slice Ar nr cr, .slice An nn cn, .slice Ah nh ch, .slice Al nl cl, .slice Ba ma da, .slice Bt mt dt, .slice Bx mx dx, .slice Br mr dr, .slice Bn mn dn, .slice Bh mh dh, .slice Bl ml dl]
  simp only [World.size_alloc] at b1 b2
  have rc := (ha.under hB0).up hB0.size
  have rd := (hb0.under hB0).up hB0.size
  have HHV := Lib.hid (heavy_any (some ⟨w.heap.size + 1 + 1, 0, none⟩) 2 2 [(⟨⟨Aa, na, ca⟩, ⟨At, nt, ct⟩, ⟨Ax, nx, cx⟩, ⟨Ar, nr, cr⟩, ⟨An, nn, cn⟩, ⟨Ah, nh, ch⟩, ⟨Al, nl, cl⟩⟩, a), (⟨⟨Ba, ma, da⟩, ⟨Bt, mt, dt⟩, ⟨Bx, mx, dx⟩, ⟨Br, mr, dr⟩, ⟨Bn, mn, dn⟩, ⟨Bh, mh, dh⟩, ⟨Bl, ml, dl⟩⟩, b)] _ (by omega) (sl_two7 (H := ⟨⟨Aa, na, ca⟩, ⟨At, nt, ct⟩, ⟨Ax, nx, cx⟩, ⟨Ar, nr, cr⟩, ⟨An, nn, cn⟩, ⟨Ah, nh, ch⟩, ⟨Al, nl, cl⟩⟩) (K := ⟨⟨Ba, ma, da⟩, ⟨Bt, mt, dt⟩, ⟨Bx, mx, dx⟩, ⟨Br, mr, dr⟩, ⟨Bn, mn, dn⟩, ⟨Bh, mh, dh⟩, ⟨Bl, ml, dl⟩⟩) b2) (fun x hx => by
    simp at hx
    rcases hx with rfl | rfl
    · exact rc
    · exact rd))
  go_enter Try.func10, Try.ntmps10
  go_wp2_with fail
  refine HHV.out.mono ?_
  rintro e' w1 ⟨bb, rfl, hb⟩
  have hB1 := hB0.trans (hb.mono hB0.size)
  have bX := b0.below hb
  have bY := b1.below hb
  have sc := (rc.under hb).up hb.size
  have sd := (rd.under hb).up hb.size
  clear b0 b1 b2 rc rd ha hb0 hb hB0 HHV
  cases bb with
  | true =>
    go_wp2
    go_ret
    exact ⟨rfl, hB1⟩
  | false =>
    obtain ⟨⟨d, n⟩, hx⟩ : ∃ x, Cor.cat a b = x := ⟨_, rfl⟩
    have F1 := concat_any ⟨⟨Aa, na, ca⟩, ⟨At, nt, ct⟩, ⟨Ax, nx, cx⟩, ⟨Ar, nr, cr⟩, ⟨An, nn, cn⟩, ⟨Ah, nh, ch⟩, ⟨Al, nl, cl⟩⟩ ⟨⟨Ba, ma, da⟩, ⟨Bt, mt, dt⟩, ⟨Bx, mx, dx⟩, ⟨Br, mr, dr⟩, ⟨Bn, mn, dn⟩, ⟨Bh, mh, dh⟩, ⟨Bl, ml, dl⟩⟩ a b w1 sc sd
    have F2 := Lib.hid (fun (W : World) (hW : Below w1.heap.size w1 W) => refConcat_any ⟨⟨Aa, na, ca⟩, ⟨At, nt, ct⟩, ⟨Ax, nx, cx⟩, ⟨Ar, nr, cr⟩, ⟨An, nn, cn⟩, ⟨Ah, nh, ch⟩, ⟨Al, nl, cl⟩⟩ ⟨⟨Ba, ma, da⟩, ⟨Bt, mt, dt⟩, ⟨Bx, mx, dx⟩, ⟨Br, mr, dr⟩, ⟨Bn, mn, dn⟩, ⟨Bh, mh, dh⟩, ⟨Bl, ml, dl⟩⟩ a b W ((sc.under hW).up hW.size) ((sd.under hW).up hW.size))
    rw [hx] at F1 F2
    have F1 := Lib.hid F1
    have q0 := bX.cell 0
    have q1 := bX.cell 1
    have q2 := bX.cell 2
    have q3 := bX.cell 3
    have q4 := bX.cell 4
    have q5 := bX.cell 5
    have q6 := bX.cell 6
    have k0 := bY.cell 0
    have k1 := bY.cell 1
    have k2 := bY.cell 2
    have k3 := bY.cell 3
    have k4 := bY.cell 4
    have k5 := bY.cell 5
    have k6 := bY.cell 6
    clear hx sc sd
    go_wp2_with (first
      | (go_at_call 30; refine F1.out.mono ?_; rintro e' w2 ⟨⟨⟨Pa, pa, pca⟩, ⟨Pt, pt, pct⟩, ⟨Px, px, pcx⟩, ⟨Pr, pr, pcr⟩, ⟨Pn, pn, pcn⟩, ⟨Ph, ph, pch⟩, ⟨Pl, pl, pcl⟩⟩, rfl, r2, hb2⟩; have R2 := Lib.hid r2; clear r2; have bX2 := bX.below hb2; have bY2 := bY.below hb2; have x0 := bX2.cell 0; have x1 := bX2.cell 1; have x2 := bX2.cell 2; have x3 := bX2.cell 3; have x4 := bX2.cell 4; have x5 := bX2.cell 5; have x6 := bX2.cell 6; have u0 := bY2.cell 0; have u1 := bY2.cell 1; have u2 := bY2.cell 2; have u3 := bY2.cell 3; have u4 := bY2.cell 4; have u5 := bY2.cell 5; have u6 := bY2.cell 6; have lx := bX2.lt; have lu := bY2.lt; have bN := Blk.new w2 30 #[.slice Pa pa pca, .slice Pt pt pct, .slice Px px pcx, .slice Pr pr pcr, .slice Pn pn pcn, .slice Ph ph pch, .slice Pl pl pcl]; have hb2a := hb2.alloc hb2.size (.cells #[.slice Pa pa pca, .slice Pt pt pct, .slice Px px pcx, .slice Pr pr pcr, .slice Pn pn pcn, .slice Ph ph pch, .slice Pl pl pcl] 30); try simp only [CH.v, CH.cs, Hd.v])
      | (go_at_call 31; refine (F2.out _ hb2a).mono ?_; rintro e' w3 ⟨⟨⟨Qa, qa, qca⟩, ⟨Qt, qt, qct⟩, ⟨Qx, qx, qcx⟩, ⟨Qr, qr, qcr⟩, ⟨Qn, qn, qcn⟩, ⟨Qh, qh, qch⟩, ⟨Ql, ql, qcl⟩⟩, rfl, r3, hb3⟩; have hb2b : Below w2.heap.size w2 w3 := ((Below.refl _ _).alloc (Nat.le_refl _) (.cells #[.slice Pa pa pca, .slice Pt pt pct, .slice Px px pcx, .slice Pr pr pcr, .slice Pn pn pcn, .slice Ph ph pch, .slice Pl pl pcl] 30)).trans (hb3.mono (by simp)); have bM := (bN.below hb3); have y0 := bM.cell 0; have y1 := bM.cell 1; have y2 := bM.cell 2; have y3 := bM.cell 3; have y4 := bM.cell 4; have y5 := bM.cell 5; have y6 := bM.cell 6; have ly := bM.lt; have hb3a := hb2b.alloc hb2b.size (.cells #[.slice Qa qa qca, .slice Qt qt qct, .slice Qx qx qcx, .slice Qr qr qcr, .slice Qn qn qcn, .slice Qh qh qch, .slice Ql ql qcl] 30); have E6 := Lib.hid (refEqual_any _ _ _ _ _ ((R2.out.under hb3a).up hb3a.size) ((r3.under ((Below.refl _ _).alloc (Nat.le_refl _) (.cells #[.slice Qa qa qca, .slice Qt qt qct, .slice Qx qx qcx, .slice Qr qr qcr, .slice Qn qn qcn, .slice Qh qh qch, .slice Ql ql qcl] 30))).up (by simp))); rw [same_t rfl] at E6; try simp only [CH.v, CH.cs, Hd.v])
      | (go_at_call 20; refine E6.out.mono ?_; rintro e' w4 ⟨rfl, hb4⟩)
      | (go_at_call 17; refine (awake_any _).mono ?_; rintro e' w5 ⟨rfl, hb5⟩))
    go_ret
    have h3 := hb2.trans (hb3a.mono hb2.size)
    have h4 := h3.trans (hb4.mono h3.size)
    have h5 := h4.trans (hb5.mono h4.size)
    exact ⟨rfl, hB1.trans (h5.mono hB1.size)⟩
end Go.Proofs.Ytaihgoohmcipkaa
