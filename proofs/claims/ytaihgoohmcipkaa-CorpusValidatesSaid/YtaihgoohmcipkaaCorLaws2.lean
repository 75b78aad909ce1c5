/-
  The law CorpusValidates returns true. Conditions: none but that the argument reads as it does.
-/
import Derived.Test.YtaihgoohmcipkaaCorLaws1
import Derived.Test.YtaihgoohmcipkaaCorValR
namespace Go.Proofs.Ytaihgoohmcipkaa
open Go.RowKit Utf
open Feat (Bs)

set_option maxRecDepth 100000 in
set_option maxHeartbeats 1600000 in
theorem law_validates (H : CH) (c : Cor.C) (w : World) (hr : Reads w w.heap.size H c) : Calls Try.prog 3 #[H.v] w (Kept (.bool true) w) := by
  obtain ⟨⟨Aa, na, ca⟩, ⟨At, nt, ct⟩, ⟨Ax, nx, cx⟩, ⟨Ar, nr, cr⟩, ⟨An, nn, cn⟩, ⟨Ah, nh, ch⟩, ⟨Al, nl, cl⟩⟩ := H
  show Calls Try.prog 3 #[.agg #[.slice Aa na ca, .slice At nt ct, .slice Ax nx cx, .slice Ar nr cr, .slice An nn cn, .slice Ah nh ch, .slice Al nl cl]] w _
  have hB0 := ((Below.refl w.heap.size w).alloc (Nat.le_refl _) (.cells #[.slice Aa na ca, .slice At nt ct, .slice Ax nx cx, .slice Ar nr cr, .slice An nn cn, .slice Ah nh ch, .slice Al nl cl] 30)).alloc (by simp) (.cells #[.slice Aa na ca, .slice At nt ct, .slice Ax nx cx, .slice Ar nr cr, .slice An nn cn, .slice Ah nh ch, .slice Al nl cl] 30)
  have b0 := (Blk.new w 30 #[.slice Aa na ca, .slice At nt ct, .slice Ax nx cx, .slice Ar nr cr, .slice An nn cn, .slice Ah nh ch, .slice Al nl cl]).alloc (.cells #[.slice Aa na ca, .slice At nt ct, .slice Ax nx cx, .slice Ar nr cr, .slice An nn cn, .slice Ah nh ch, .slice Al nl cl] 30)
  have b1 := Blk.new (w.alloc (.cells #[.slice Aa na ca, .slice At nt ct, .slice Ax nx cx, .slice Ar nr cr, .slice An nn cn, .slice Ah nh ch, .slice Al nl cl] 30)) 30 #[.slice Aa na ca, .slice At nt ct, .slice Ax nx cx, .slice Ar nr cr, .slice An nn cn, .slice Ah nh ch, .slice Al nl cl]
  rw [World.size_alloc] at b1
  have hr2 := (hr.under hB0).up hB0.size
  go_enter Try.func3, Try.ntmps3
  go_wp2_with fail
  refine (heavy_any (some ⟨w.heap.size + 1, 0, none⟩) 1 1 [(⟨⟨Aa, na, ca⟩, ⟨At, nt, ct⟩, ⟨Ax, nx, cx⟩, ⟨Ar, nr, cr⟩, ⟨An, nn, cn⟩, ⟨Ah, nh, ch⟩, ⟨Al, nl, cl⟩⟩, c)] _ (by omega) (sl_one7 (H := ⟨⟨Aa, na, ca⟩, ⟨At, nt, ct⟩, ⟨Ax, nx, cx⟩, ⟨Ar, nr, cr⟩, ⟨An, nn, cn⟩, ⟨Ah, nh, ch⟩, ⟨Al, nl, cl⟩⟩) b1) (fun x hx => by simp at hx; subst hx; exact hr2)).mono ?_
  rintro e' w1 ⟨b, rfl, hb⟩
  have hB1 := hB0.trans (hb.mono hB0.size)
  have bW := b0.below hb
  have hrW := (hr2.under hb).up hb.size
  clear b0 b1 hr2 hr hb hB0
  cases b with
  | true =>
    go_wp2
    go_ret
    exact ⟨rfl, hB1⟩
  | false =>
    have V1 := validate_any ⟨⟨Aa, na, ca⟩, ⟨At, nt, ct⟩, ⟨Ax, nx, cx⟩, ⟨Ar, nr, cr⟩, ⟨An, nn, cn⟩, ⟨Ah, nh, ch⟩, ⟨Al, nl, cl⟩⟩ c w1 hrW
    have V2 := Lib.hid (fun (W : World) (hW : Below w1.heap.size w1 W) => refValidate_any ⟨⟨Aa, na, ca⟩, ⟨At, nt, ct⟩, ⟨Ax, nx, cx⟩, ⟨Ar, nr, cr⟩, ⟨An, nn, cn⟩, ⟨Ah, nh, ch⟩, ⟨Al, nl, cl⟩⟩ c W ((hrW.under hW).up hW.size))
    obtain ⟨⟨p, i, e⟩, hck⟩ : ∃ x, Cor.check c = x := ⟨_, rfl⟩
    unfold Valed at V1 V2
    simp only [hck] at V1 V2
    have V1 := Lib.hid V1
    have HX := Lib.hid (fun (W : World) (hW : Below w1.heap.size w1 W) => bW.below hW)
    have x0 := bW.cell 0
    have x1 := bW.cell 1
    have x2 := bW.cell 2
    have x3 := bW.cell 3
    have x4 := bW.cell 4
    have x5 := bW.cell 5
    have x6 := bW.cell 6
    clear bW hrW hck
    go_wp2_with fail
    refine V1.out.mono ?_
    rintro e' w2 ⟨rfl, h2⟩
    have y0 := (HX.out w2 h2).cell 0
    have y1 := (HX.out w2 h2).cell 1
    have y2 := (HX.out w2 h2).cell 2
    have y3 := (HX.out w2 h2).cell 3
    have y4 := (HX.out w2 h2).cell 4
    have y5 := (HX.out w2 h2).cell 5
    have y6 := (HX.out w2 h2).cell 6
    clear x0 x1 x2 x3 x4 x5 x6 V1
    go_wp2_with fail
    refine (V2.out w2 h2).mono ?_
    rintro e' w3 ⟨rfl, h3⟩
    have h23 := h2.trans (h3.mono h2.size)
    clear y0 y1 y2 y3 y4 y5 y6 V2 h3
    go_wp2_with (go_at_call 17; refine (awake_any _).mono ?_; rintro e' w4 ⟨rfl, h4⟩)
    go_ret
    exact ⟨rfl, hB1.trans ((h23.trans (h4.mono h23.size)).mono hB1.size)⟩
end Go.Proofs.Ytaihgoohmcipkaa
