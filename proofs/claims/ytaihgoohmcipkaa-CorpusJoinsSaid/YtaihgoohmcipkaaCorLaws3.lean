/-
  The law CorpusEquals returns true. Conditions: none but that the arguments read as they do.
-/
import Derived.Test.YtaihgoohmcipkaaCorLaws1
import Derived.Test.YtaihgoohmcipkaaCorEqR
namespace Go.Proofs.Ytaihgoohmcipkaa
set_option linter.unusedSimpArgs false
set_option linter.unusedVariables false
open Go.RowKit Utf
open Feat (Bs)

theorem sl_two7 {w : World} {g : Nat} {H K : CH} {c d : Cor.C} (h : Blk w g 30 #[H.a.v, H.t.v, H.x.v, H.r.v, H.n.v, H.h.v, H.l.v, K.a.v, K.t.v, K.x.v, K.r.v, K.n.v, K.h.v, K.l.v]) : Sl w w.heap.size 7 (some ⟨g, 0, none⟩) 2 ([(H, c), (K, d)].flatMap heV) := by
  refine sl_blk (cs := #[H.a.v, H.t.v, H.x.v, H.r.v, H.n.v, H.h.v, H.l.v, K.a.v, K.t.v, K.x.v, K.r.v, K.n.v, K.h.v, K.l.v]) h (by simp [heV]) (by simp [heV])

set_option maxRecDepth 100000 in
set_option maxHeartbeats 4000000 in
theorem law_equals (H K : CH) (c d : Cor.C) (w : World) (hc : Reads w w.heap.size H c) (hd : Reads w w.heap.size K d) : Calls Try.prog 9 #[H.v, K.v] w (Kept (.bool true) w) := by
  obtain ⟨⟨Aa, na, ca⟩, ⟨At, nt, ct⟩, ⟨Ax, nx, cx⟩, ⟨Ar, nr, cr⟩, ⟨An, nn, cn⟩, ⟨Ah, nh, ch⟩, ⟨Al, nl, cl⟩⟩ := H
  obtain ⟨⟨Ba, ma, da⟩, ⟨Bt, mt, dt⟩, ⟨Bx, mx, dx⟩, ⟨Br, mr, dr⟩, ⟨Bn, mn, dn⟩, ⟨Bh, mh, dh⟩, ⟨Bl, ml, dl⟩⟩ := K
  show Calls Try.prog 9 #[.agg #[.slice Aa na ca, .slice At nt ct, .slice Ax nx cx, .slice Ar nr cr, .slice An nn cn, .slice Ah nh ch, .slice Al nl cl], .agg #[.slice Ba ma da, .slice Bt mt dt, .slice Bx mx dx, .slice Br mr dr, .slice Bn mn dn, .slice Bh mh dh, .slice Bl ml dl]] w _
  have hB0 := (((Below.refl w.heap.size w).alloc (Nat.le_refl _) (.cells #[.slice Aa na ca, .slice At nt ct, .slice Ax nx cx, .slice Ar nr cr, .slice An nn cn, .slice Ah nh ch, .slice Al nl cl] 30)).alloc (by simp) (.cells #[.slice Ba ma da, .slice Bt mt dt, .slice Bx mx dx, .slice Br mr dr, .slice Bn mn dn, .slice Bh mh dh, .slice Bl ml dl] 30)).alloc (by simp; omega) (.cells #[.slice Aa na ca, .slice At nt ct, .slice Ax nx cx, .slice Ar nr cr, .slice An nn cn, .slice Ah nh ch, .slice Al nl cl, .slice Ba ma da, .slice Bt mt dt, .slice Bx mx dx, .slice Br mr dr, .slice Bn mn dn, .slice Bh mh dh, .slice Bl ml dl] 30)
  have b0 := ((Blk.new w 30 #[.slice Aa na ca, .slice At nt ct, .slice Ax nx cx, .slice Ar nr cr, .slice An nn cn, .slice Ah nh ch, .slice Al nl cl]).alloc (.cells #[.slice Ba ma da, .slice Bt mt dt, .slice Bx mx dx, .slice Br mr dr, .slice Bn mn dn, .slice Bh mh dh, .slice Bl ml dl] 30)).alloc (.cells #[.slice Aa na ca, .slice At nt ct, .slice Ax nx cx, .slice Ar nr cr, .slice An nn cn, .slice Ah nh ch, .slice Al nl cl, .slice Ba ma da, .slice Bt mt dt, .slice Bx mx dx, .slice Br mr dr, .slice Bn mn dn, .slice Bh mh dh, .slice Bl ml dl] 30)
  have b1 := (Blk.new (w.alloc (.cells #[.slice Aa na ca, .slice At nt ct, .slice Ax nx cx, .slice Ar nr cr, .slice An nn cn, .slice Ah nh ch, .slice Al nl cl] 30)) 30 #[.slice Ba ma da, .slice Bt mt dt, .slice Bx mx dx, .slice Br mr dr, .slice Bn mn dn, .slice Bh mh dh, .slice Bl ml dl]).alloc (.cells #[.slice Aa na ca, .slice At nt ct, .slice Ax nx cx, .slice Ar nr cr, .slice An nn cn, .slice Ah nh ch, .slice Al nl cl, .slice Ba ma da, .slice Bt mt dt, .slice Bx mx dx, .slice Br mr dr, .slice Bn mn dn, .slice Bh mh dh, .slice Bl ml dl] 30)
  have b2 := Blk.new ((w.alloc (.cells #[.slice Aa na ca, .slice At nt ct, .slice Ax nx cx, .slice Ar nr cr, .slice An nn cn, .slice Ah nh ch, .slice Al nl cl] 30)).alloc (.cells #[.slice Ba ma da, .slice Bt mt dt, .slice Bx mx dx, .slice Br mr dr, .slice Bn mn dn, .slice Bh mh dh, .slice Bl ml dl] 30)) 30 #[.slice Aa na ca, .slice At nt ct, .slice Ax nx cx, .slice Ar nr cr, .slice An nn cn, .slice Ah nh ch, .slice Al nl cl, .slice Ba ma da, .slice Bt mt dt, .slice Bx mx dx, .slice Br mr dr, .slice Bn mn dn, .slice Bh mh dh, .slice Bl ml dl]
  simp only [World.size_alloc] at b1 b2
  have rc := (hc.under hB0).up hB0.size
  have rd := (hd.under hB0).up hB0.size
  have HHV := Lib.hid (heavy_any (some ⟨w.heap.size + 1 + 1, 0, none⟩) 2 2 [(⟨⟨Aa, na, ca⟩, ⟨At, nt, ct⟩, ⟨Ax, nx, cx⟩, ⟨Ar, nr, cr⟩, ⟨An, nn, cn⟩, ⟨Ah, nh, ch⟩, ⟨Al, nl, cl⟩⟩, c), (⟨⟨Ba, ma, da⟩, ⟨Bt, mt, dt⟩, ⟨Bx, mx, dx⟩, ⟨Br, mr, dr⟩, ⟨Bn, mn, dn⟩, ⟨Bh, mh, dh⟩, ⟨Bl, ml, dl⟩⟩, d)] _ (by omega) (sl_two7 (H := ⟨⟨Aa, na, ca⟩, ⟨At, nt, ct⟩, ⟨Ax, nx, cx⟩, ⟨Ar, nr, cr⟩, ⟨An, nn, cn⟩, ⟨Ah, nh, ch⟩, ⟨Al, nl, cl⟩⟩) (K := ⟨⟨Ba, ma, da⟩, ⟨Bt, mt, dt⟩, ⟨Bx, mx, dx⟩, ⟨Br, mr, dr⟩, ⟨Bn, mn, dn⟩, ⟨Bh, mh, dh⟩, ⟨Bl, ml, dl⟩⟩) b2) (fun x hx => by
    simp at hx
    rcases hx with rfl | rfl
    · exact rc
    · exact rd))
  go_enter Try.func9, Try.ntmps9
  go_wp2_with fail
  refine HHV.out.mono ?_
  rintro e' w1 ⟨b, rfl, hb⟩
  have hB1 := hB0.trans (hb.mono hB0.size)
  have bX := b0.below hb
  have bY := b1.below hb
  have sc := (rc.under hb).up hb.size
  have sd := (rd.under hb).up hb.size
  clear b0 b1 b2 rc rd hc hd hb hB0 HHV
  cases b with
  | true =>
    go_wp2
    go_ret
    exact ⟨rfl, hB1⟩
  | false =>
    have hbD : Below w1.heap.size w1 w1.drew := (Below.refl _ _).drew
    have HS := Lib.hid (fun (W : World) (hW : Below w1.heap.size w1 W) => show W.cell? ⟨w.heap.size, 0, none⟩ = some (.slice Aa na ca) ∧ W.cell? ⟨w.heap.size, 1, none⟩ = some (.slice At nt ct) ∧ W.cell? ⟨w.heap.size, 2, none⟩ = some (.slice Ax nx cx) ∧ W.cell? ⟨w.heap.size, 3, none⟩ = some (.slice Ar nr cr) ∧ W.cell? ⟨w.heap.size, 4, none⟩ = some (.slice An nn cn) ∧ W.cell? ⟨w.heap.size, 5, none⟩ = some (.slice Ah nh ch) ∧ W.cell? ⟨w.heap.size, 6, none⟩ = some (.slice Al nl cl) ∧ W.cell? ⟨w.heap.size + 1, 0, none⟩ = some (.slice Ba ma da) ∧ W.cell? ⟨w.heap.size + 1, 1, none⟩ = some (.slice Bt mt dt) ∧ W.cell? ⟨w.heap.size + 1, 2, none⟩ = some (.slice Bx mx dx) ∧ W.cell? ⟨w.heap.size + 1, 3, none⟩ = some (.slice Br mr dr) ∧ W.cell? ⟨w.heap.size + 1, 4, none⟩ = some (.slice Bn mn dn) ∧ W.cell? ⟨w.heap.size + 1, 5, none⟩ = some (.slice Bh mh dh) ∧ W.cell? ⟨w.heap.size + 1, 6, none⟩ = some (.slice Bl ml dl) from (by
      have HB := bX.below hW
      have HB2 := bY.below hW
      exact ⟨HB.cell 0, HB.cell 1, HB.cell 2, HB.cell 3, HB.cell 4, HB.cell 5, HB.cell 6, HB2.cell 0, HB2.cell 1, HB2.cell 2, HB2.cell 3, HB2.cell 4, HB2.cell 5, HB2.cell 6⟩))
    have F1 := Lib.hid (fun (W : World) (hW : Below w1.heap.size w1 W) => equal_any ⟨⟨Aa, na, ca⟩, ⟨At, nt, ct⟩, ⟨Ax, nx, cx⟩, ⟨Ar, nr, cr⟩, ⟨An, nn, cn⟩, ⟨Ah, nh, ch⟩, ⟨Al, nl, cl⟩⟩ ⟨⟨Ba, ma, da⟩, ⟨Bt, mt, dt⟩, ⟨Bx, mx, dx⟩, ⟨Br, mr, dr⟩, ⟨Bn, mn, dn⟩, ⟨Bh, mh, dh⟩, ⟨Bl, ml, dl⟩⟩ c d W ((sc.under hW).up hW.size) ((sd.under hW).up hW.size))
    have F2 := Lib.hid (fun (W : World) (hW : Below w1.heap.size w1 W) => refEqual_any ⟨⟨Aa, na, ca⟩, ⟨At, nt, ct⟩, ⟨Ax, nx, cx⟩, ⟨Ar, nr, cr⟩, ⟨An, nn, cn⟩, ⟨Ah, nh, ch⟩, ⟨Al, nl, cl⟩⟩ ⟨⟨Ba, ma, da⟩, ⟨Bt, mt, dt⟩, ⟨Bx, mx, dx⟩, ⟨Br, mr, dr⟩, ⟨Bn, mn, dn⟩, ⟨Bh, mh, dh⟩, ⟨Bl, ml, dl⟩⟩ c d W ((sc.under hW).up hW.size) ((sd.under hW).up hW.size))
    have F3 := Lib.hid (fun (W : World) (hW : Below w1.heap.size w1 W) => equal_any ⟨⟨Ba, ma, da⟩, ⟨Bt, mt, dt⟩, ⟨Bx, mx, dx⟩, ⟨Br, mr, dr⟩, ⟨Bn, mn, dn⟩, ⟨Bh, mh, dh⟩, ⟨Bl, ml, dl⟩⟩ ⟨⟨Aa, na, ca⟩, ⟨At, nt, ct⟩, ⟨Ax, nx, cx⟩, ⟨Ar, nr, cr⟩, ⟨An, nn, cn⟩, ⟨Ah, nh, ch⟩, ⟨Al, nl, cl⟩⟩ d c W ((sd.under hW).up hW.size) ((sc.under hW).up hW.size))
    have F4 := Lib.hid (fun (W : World) (hW : Below w1.heap.size w1 W) => equal_any ⟨⟨Aa, na, ca⟩, ⟨At, nt, ct⟩, ⟨Ax, nx, cx⟩, ⟨Ar, nr, cr⟩, ⟨An, nn, cn⟩, ⟨Ah, nh, ch⟩, ⟨Al, nl, cl⟩⟩ ⟨⟨Aa, na, ca⟩, ⟨At, nt, ct⟩, ⟨Ax, nx, cx⟩, ⟨Ar, nr, cr⟩, ⟨An, nn, cn⟩, ⟨Ah, nh, ch⟩, ⟨Al, nl, cl⟩⟩ c c W ((sc.under hW).up hW.size) ((sc.under hW).up hW.size))
    rw [same_comm d c] at F3
    rw [same_t (rfl : c = c)] at F4
    obtain ⟨bb, hbb⟩ : ∃ x, same c d = x := ⟨_, rfl⟩
    rw [hbb] at F1 F2 F3
    have X0 := HS.out w1.drew hbD
    clear hbb bX bY sc sd
    go_upto_region 3 with (fail)
    go_region_held3 (fun W => W.cell? ⟨w.heap.size, 0, none⟩ = some (.slice Aa na ca) ∧ W.cell? ⟨w.heap.size, 1, none⟩ = some (.slice At nt ct) ∧ W.cell? ⟨w.heap.size, 2, none⟩ = some (.slice Ax nx cx) ∧ W.cell? ⟨w.heap.size, 3, none⟩ = some (.slice Ar nr cr) ∧ W.cell? ⟨w.heap.size, 4, none⟩ = some (.slice An nn cn) ∧ W.cell? ⟨w.heap.size, 5, none⟩ = some (.slice Ah nh ch) ∧ W.cell? ⟨w.heap.size, 6, none⟩ = some (.slice Al nl cl) ∧ W.cell? ⟨w.heap.size + 1, 0, none⟩ = some (.slice Ba ma da) ∧ W.cell? ⟨w.heap.size + 1, 1, none⟩ = some (.slice Bt mt dt) ∧ W.cell? ⟨w.heap.size + 1, 2, none⟩ = some (.slice Bx mx dx) ∧ W.cell? ⟨w.heap.size + 1, 3, none⟩ = some (.slice Br mr dr) ∧ W.cell? ⟨w.heap.size + 1, 4, none⟩ = some (.slice Bn mn dn) ∧ W.cell? ⟨w.heap.size + 1, 5, none⟩ = some (.slice Bh mh dh) ∧ W.cell? ⟨w.heap.size + 1, 6, none⟩ = some (.slice Bl ml dl)) (first | (with_reducible exact X0) | (with_reducible exact X5) | (with_reducible exact X6) | (with_reducible exact X7) | (with_reducible exact X8) | (with_reducible exact X9) | (with_reducible exact X10) | go_keep) (first
      | (go_at_call 29; (with_reducible show Calls _ _ _ (World.drew w1) _); refine (F1.out _ hbD).mono ?_; rintro e' w5 ⟨rfl, hb5⟩; have hc5 := hbD.trans (hb5.mono hbD.size); have X5 := HS.out w5 hc5)
      | (go_at_call 20; refine (F2.out _ hc5).mono ?_; rintro e' w6 ⟨rfl, hb6⟩; have hc6 := hc5.trans (hb6.mono hc5.size); have X6 := HS.out w6 hc6)
      | (go_at_call 17; refine (awake_any _).mono ?_; rintro e' w10 ⟨rfl, hb10⟩; have hc10 := hc9.trans (hb10.mono hc9.size); have X10 := HS.out w10 hc10)
      | (go_at_call 29; (with_reducible show Calls _ _ _ w8 _); refine (F4.out _ hc8).mono ?_; rintro e' w9 ⟨rfl, hb9⟩; have hc9 := hc8.trans (hb9.mono hc8.size); have X9 := HS.out w9 hc9)
      | (go_at_call 29; (with_reducible show Calls _ _ _ w7 _); refine (F1.out _ hc7).mono ?_; rintro e' w8 ⟨rfl, hb8⟩; have hc8 := hc7.trans (hb8.mono hc7.size); have X8 := HS.out w8 hc8)
      | (go_at_call 29; (with_reducible show Calls _ _ _ w6 _); refine (F3.out _ hc6).mono ?_; rintro e' w7 ⟨rfl, hb7⟩; have hc7 := hc6.trans (hb7.mono hc6.size); have X7 := HS.out w7 hc7))
    go_wp2
    go_ret
    exact ⟨rfl, hB1.trans (hc10.mono hB1.size)⟩
end Go.Proofs.Ytaihgoohmcipkaa
