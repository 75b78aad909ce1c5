/-
  The laws CorpusFinds and CorpusCompares return true. Conditions: none but that the arguments read as they do.
-/
import Derived.Test.YtaihgoohmcipkaaCorHeavy
import Derived.Test.YtaihgoohmcipkaaCorAwk
import Derived.Deep.RegionHeld3
namespace Go.Proofs.Ytaihgoohmcipkaa
set_option linter.unusedSimpArgs false
set_option linter.unusedVariables false
open Go.RowKit Utf
open Feat (Bs)
open Cor (findT textAt cmpR)

theorem sl_one7 {w : World} {g : Nat} {H : CH} {c : Cor.C} (h : Blk w g 30 H.cs) : Sl w w.heap.size 7 (some ⟨g, 0, none⟩) 1 ([(H, c)].flatMap heV) := by
  refine sl_blk (cs := H.cs) h (by simp [heV]) (by simp [heV])

set_option maxRecDepth 100000 in
set_option maxHeartbeats 1600000 in
theorem law_finds (H : CH) (c : Cor.C) (nm : Bs) (pos : Int) (w : World) (hp : Rng pos) (hr : Reads w w.heap.size H c) : Calls Try.prog 7 #[H.v, str nm, .int .i64 pos] w (Kept (.bool true) w) := by
  obtain ⟨⟨Aa, na, ca⟩, ⟨At, nt, ct⟩, ⟨Ax, nx, cx⟩, ⟨Ar, nr, cr⟩, ⟨An, nn, cn⟩, ⟨Ah, nh, ch⟩, ⟨Al, nl, cl⟩⟩ := H
  show Calls Try.prog 7 #[.agg #[.slice Aa na ca, .slice At nt ct, .slice Ax nx cx, .slice Ar nr cr, .slice An nn cn, .slice Ah nh ch, .slice Al nl cl], str nm, .int .i64 pos] w _
  have hB0 := ((Below.refl w.heap.size w).alloc (Nat.le_refl _) (.cells #[.slice Aa na ca, .slice At nt ct, .slice Ax nx cx, .slice Ar nr cr, .slice An nn cn, .slice Ah nh ch, .slice Al nl cl] 30)).alloc (by simp) (.cells #[.slice Aa na ca, .slice At nt ct, .slice Ax nx cx, .slice Ar nr cr, .slice An nn cn, .slice Ah nh ch, .slice Al nl cl] 30)
  have b0 := (Blk.new w 30 #[.slice Aa na ca, .slice At nt ct, .slice Ax nx cx, .slice Ar nr cr, .slice An nn cn, .slice Ah nh ch, .slice Al nl cl]).alloc (.cells #[.slice Aa na ca, .slice At nt ct, .slice Ax nx cx, .slice Ar nr cr, .slice An nn cn, .slice Ah nh ch, .slice Al nl cl] 30)
  have b1 := Blk.new (w.alloc (.cells #[.slice Aa na ca, .slice At nt ct, .slice Ax nx cx, .slice Ar nr cr, .slice An nn cn, .slice Ah nh ch, .slice Al nl cl] 30)) 30 #[.slice Aa na ca, .slice At nt ct, .slice Ax nx cx, .slice Ar nr cr, .slice An nn cn, .slice Ah nh ch, .slice Al nl cl]
  rw [World.size_alloc] at b1
  have hr2 := (hr.under hB0).up hB0.size
  unfold Rng at hp
  go_enter Try.func7, Try.ntmps7
  go_wp2_with fail
  refine (heavy_any (some ⟨w.heap.size + 1, 0, none⟩) 1 1 [(⟨⟨Aa, na, ca⟩, ⟨At, nt, ct⟩, ⟨Ax, nx, cx⟩, ⟨Ar, nr, cr⟩, ⟨An, nn, cn⟩, ⟨Ah, nh, ch⟩, ⟨Al, nl, cl⟩⟩, c)] _ (by omega) (sl_one7 (H := ⟨⟨Aa, na, ca⟩, ⟨At, nt, ct⟩, ⟨Ax, nx, cx⟩, ⟨Ar, nr, cr⟩, ⟨An, nn, cn⟩, ⟨Ah, nh, ch⟩, ⟨Al, nl, cl⟩⟩) b1) (fun x hx => by simp at hx; subst hx; exact hr2)).mono ?_
  rintro e' w1 ⟨b, rfl, hb⟩
  have hB1 := hB0.trans (hb.mono hB0.size)
  have bW := b0.below hb
  have hrW := (hr2.under hb).up hb.size
  clear b0 b1 hr2 hr hb hB0
  cases b with
  | true =>
    go_wp2
    go_ret
    exact ⟨rfl, hB1⟩
  | false =>
    have hbD : Below w1.heap.size w1 w1.drew := (Below.refl _ _).drew
    have HS := Lib.hid (fun (W : World) (hW : Below w1.heap.size w1 W) => show W.cell? ⟨w.heap.size, 0, none⟩ = some (.slice Aa na ca) ∧ W.cell? ⟨w.heap.size, 1, none⟩ = some (.slice At nt ct) ∧ W.cell? ⟨w.heap.size, 2, none⟩ = some (.slice Ax nx cx) ∧ W.cell? ⟨w.heap.size, 3, none⟩ = some (.slice Ar nr cr) ∧ W.cell? ⟨w.heap.size, 4, none⟩ = some (.slice An nn cn) ∧ W.cell? ⟨w.heap.size, 5, none⟩ = some (.slice Ah nh ch) ∧ W.cell? ⟨w.heap.size, 6, none⟩ = some (.slice Al nl cl) from (by
      have HB := bW.below hW
      exact ⟨HB.cell 0, HB.cell 1, HB.cell 2, HB.cell 3, HB.cell 4, HB.cell 5, HB.cell 6⟩))
    have F1 := Lib.hid (fun (W : World) (hW : Below w1.heap.size w1 W) => findText_any ⟨⟨Aa, na, ca⟩, ⟨At, nt, ct⟩, ⟨Ax, nx, cx⟩, ⟨Ar, nr, cr⟩, ⟨An, nn, cn⟩, ⟨Ah, nh, ch⟩, ⟨Al, nl, cl⟩⟩ c.texts nm W ((hrW.x.under hW).up hW.size))
    have F2 := Lib.hid (fun (W : World) (hW : Below w1.heap.size w1 W) => refFindText_any ⟨⟨Aa, na, ca⟩, ⟨At, nt, ct⟩, ⟨Ax, nx, cx⟩, ⟨Ar, nr, cr⟩, ⟨An, nn, cn⟩, ⟨Ah, nh, ch⟩, ⟨Al, nl, cl⟩⟩ c.texts nm W ((hrW.x.under hW).up hW.size))
    have F3 := Lib.hid (fun (W : World) (hW : Below w1.heap.size w1 W) => textAt_any ⟨⟨Aa, na, ca⟩, ⟨At, nt, ct⟩, ⟨Ax, nx, cx⟩, ⟨Ar, nr, cr⟩, ⟨An, nn, cn⟩, ⟨Ah, nh, ch⟩, ⟨Al, nl, cl⟩⟩ c.texts pos W ((hrW.x.under hW).up hW.size))
    have F4 := Lib.hid (fun (W : World) (hW : Below w1.heap.size w1 W) => refTextAt_any ⟨⟨Aa, na, ca⟩, ⟨At, nt, ct⟩, ⟨Ax, nx, cx⟩, ⟨Ar, nr, cr⟩, ⟨An, nn, cn⟩, ⟨Ah, nh, ch⟩, ⟨Al, nl, cl⟩⟩ c.texts pos W ((hrW.x.under hW).up hW.size))
    obtain ⟨fi, hfi⟩ : ∃ x, findT c.texts nm = x := ⟨_, rfl⟩
    obtain ⟨ti, hti⟩ : ∃ x, textAt c.texts pos = x := ⟨_, rfl⟩
    rw [hfi] at F1 F2
    rw [hti] at F3 F4
    clear hfi hti bW hrW
    have X0 := HS.out w1.drew hbD
    go_upto_region 3 with (fail)
    go_region_held3 (fun W => W.cell? ⟨w.heap.size, 0, none⟩ = some (.slice Aa na ca) ∧ W.cell? ⟨w.heap.size, 1, none⟩ = some (.slice At nt ct) ∧ W.cell? ⟨w.heap.size, 2, none⟩ = some (.slice Ax nx cx) ∧ W.cell? ⟨w.heap.size, 3, none⟩ = some (.slice Ar nr cr) ∧ W.cell? ⟨w.heap.size, 4, none⟩ = some (.slice An nn cn) ∧ W.cell? ⟨w.heap.size, 5, none⟩ = some (.slice Ah nh ch) ∧ W.cell? ⟨w.heap.size, 6, none⟩ = some (.slice Al nl cl)) (first | (with_reducible exact X0) | (with_reducible exact X5) | (with_reducible exact X6) | (with_reducible exact X7) | (with_reducible exact X8) | (with_reducible exact X9) | go_keep) (first
      | (go_at_call 23; refine (F1.out _ hbD).mono ?_; rintro e' w5 ⟨rfl, hb5⟩; have hc5 := hbD.trans (hb5.mono hbD.size); have X5 := HS.out w5 hc5)
      | (go_at_call 24; refine (F2.out _ hc5).mono ?_; rintro e' w6 ⟨rfl, hb6⟩; have hc6 := hc5.trans (hb6.mono hc5.size); have X6 := HS.out w6 hc6)
      | (go_at_call 25; refine (F3.out _ hc6).mono ?_; rintro e' w7 ⟨rfl, hb7⟩; have hc7 := hc6.trans (hb7.mono hc6.size); have X7 := HS.out w7 hc7)
      | (go_at_call 26; refine (F4.out _ hc7).mono ?_; rintro e' w8 ⟨rfl, hb8⟩; have hc8 := hc7.trans (hb8.mono hc7.size); have X8 := HS.out w8 hc8)
      | (go_at_call 17; refine (awake_any _).mono ?_; rintro e' w9 ⟨rfl, hb9⟩; have hc9 := hc8.trans (hb9.mono hc8.size); have X9 := HS.out w9 hc9))
    go_wp2
    go_ret
    exact ⟨rfl, hB1.trans (hc9.mono hB1.size)⟩

set_option maxRecDepth 100000 in
set_option maxHeartbeats 1600000 in
theorem law_compares (a b : Cor.Reg) (A1 : Option Addr) (n1 c1 : Nat) (A2 : Option Addr) (n2 c2 : Nat) (w : World) (ha : TxOk w w.heap.size (a, ⟨A1, n1, c1⟩)) (hb : TxOk w w.heap.size (b, ⟨A2, n2, c2⟩)) :
    Calls Try.prog 4 #[.agg #[str a.nm, .int .i64 a.b, .int .i64 a.e, .slice A1 n1 c1], .agg #[str b.nm, .int .i64 b.b, .int .i64 b.e, .slice A2 n2 c2]] w (Kept (.bool true) w) := by
  have hB0 := ((Below.refl w.heap.size w).alloc (Nat.le_refl _) (.cells #[str a.nm, .int .i64 a.b, .int .i64 a.e, .slice A1 n1 c1] 39)).alloc (by simp) (.cells #[str b.nm, .int .i64 b.b, .int .i64 b.e, .slice A2 n2 c2] 39)
  have b0 := (Blk.new w 39 #[str a.nm, .int .i64 a.b, .int .i64 a.e, .slice A1 n1 c1]).alloc (.cells #[str b.nm, .int .i64 b.b, .int .i64 b.e, .slice A2 n2 c2] 39)
  have b1 := Blk.new (w.alloc (.cells #[str a.nm, .int .i64 a.b, .int .i64 a.e, .slice A1 n1 c1] 39)) 39 #[str b.nm, .int .i64 b.b, .int .i64 b.e, .slice A2 n2 c2]
  rw [World.size_alloc] at b1
  obtain ⟨an, ab, ae, ak⟩ := a
  obtain ⟨bn, bb, be, bk⟩ := b
  have ka := (ha.2.2.2.under hB0).up hB0.size
  have kb := (hb.2.2.2.under hB0).up hB0.size
  simp only [] at ka kb b0 b1 hB0 ⊢
  have f1 : n1 ≤ 9223372036854775807 := ka.1.2
  have f2 : n2 ≤ 9223372036854775807 := kb.1.2
  clear ha hb
  by_cases hl : 20 < n1
  · go_enter Try.func4, Try.ntmps4
    go_wp2
    go_ret
    exact ⟨rfl, hB0⟩
  by_cases hl2 : 20 < n2
  · go_enter Try.func4, Try.ntmps4
    go_wp2
    go_ret
    exact ⟨rfl, hB0⟩
  obtain ⟨W0, hW0⟩ : ∃ W0, (w.alloc (.cells #[str an, .int .i64 ab, .int .i64 ae, .slice A1 n1 c1] 39)).alloc (.cells #[str bn, .int .i64 bb, .int .i64 be, .slice A2 n2 c2] 39) = W0 := ⟨_, rfl⟩
  rw [hW0] at hB0 b0 b1 ka kb
  have HW0 := Lib.hid hW0
  clear hW0
  have hbD : Below W0.heap.size W0 W0.drew := (Below.refl _ _).drew
  have HS := Lib.hid (fun (W : World) (hW : Below W0.heap.size W0 W) => show W.cell? ⟨w.heap.size, 0, none⟩ = some (str an) ∧ W.cell? ⟨w.heap.size, 1, none⟩ = some (.int .i64 ab) ∧ W.cell? ⟨w.heap.size, 2, none⟩ = some (.int .i64 ae) ∧ W.cell? ⟨w.heap.size, 3, none⟩ = some (.slice A1 n1 c1) ∧ W.cell? ⟨w.heap.size + 1, 0, none⟩ = some (str bn) ∧ W.cell? ⟨w.heap.size + 1, 1, none⟩ = some (.int .i64 bb) ∧ W.cell? ⟨w.heap.size + 1, 2, none⟩ = some (.int .i64 be) ∧ W.cell? ⟨w.heap.size + 1, 3, none⟩ = some (.slice A2 n2 c2) from
    ⟨(b0.below hW).cell 0, (b0.below hW).cell 1, (b0.below hW).cell 2, (b0.below hW).cell 3, (b1.below hW).cell 0, (b1.below hW).cell 1, (b1.below hW).cell 2, (b1.below hW).cell 3⟩)
  have F1 := Lib.hid (fun (W : World) (hW : Below W0.heap.size W0 W) => compare_any ⟨an, ab, ae, ak⟩ ⟨bn, bb, be, bk⟩ A1 n1 c1 A2 n2 c2 W ((ka.under hW).up hW.size) ((kb.under hW).up hW.size))
  have F2 := Lib.hid (fun (W : World) (hW : Below W0.heap.size W0 W) => refCompareR_any ⟨an, ab, ae, ak⟩ ⟨bn, bb, be, bk⟩ A1 n1 c1 A2 n2 c2 W ((ka.under hW).up hW.size) ((kb.under hW).up hW.size))
  obtain ⟨ci, hci⟩ : ∃ x, cmpR ⟨an, ab, ae, ak⟩ ⟨bn, bb, be, bk⟩ = x := ⟨_, rfl⟩
  rw [hci] at F1 F2
  have X0 := HS.out W0.drew hbD
  have HB0 := Lib.hid hB0
  clear hci ka kb b0 b1 hB0
  go_enter Try.func4, Try.ntmps4
  go_upto_region 3 with (fail)
  rw [show (w.alloc (.cells #[str an, .int .i64 ab, .int .i64 ae, .slice A1 n1 c1] 39)).alloc (.cells #[str bn, .int .i64 bb, .int .i64 be, .slice A2 n2 c2] 39) = W0 from HW0.out]
  go_region_held3 (fun W => W.cell? ⟨w.heap.size, 0, none⟩ = some (str an) ∧ W.cell? ⟨w.heap.size, 1, none⟩ = some (.int .i64 ab) ∧ W.cell? ⟨w.heap.size, 2, none⟩ = some (.int .i64 ae) ∧ W.cell? ⟨w.heap.size, 3, none⟩ = some (.slice A1 n1 c1) ∧ W.cell? ⟨w.heap.size + 1, 0, none⟩ = some (str bn) ∧ W.cell? ⟨w.heap.size + 1, 1, none⟩ = some (.int .i64 bb) ∧ W.cell? ⟨w.heap.size + 1, 2, none⟩ = some (.int .i64 be) ∧ W.cell? ⟨w.heap.size + 1, 3, none⟩ = some (.slice A2 n2 c2)) (first | (with_reducible exact X0) | (with_reducible exact X5) | (with_reducible exact X6) | (with_reducible exact X9) | go_keep) (first
      | (go_at_call 18; refine (F1.out _ hbD).mono ?_; rintro e' w5 ⟨rfl, hb5⟩; have hc5 := hbD.trans (hb5.mono hbD.size); have X5 := HS.out w5 hc5)
      | (go_at_call 19; refine (F2.out _ hc5).mono ?_; rintro e' w6 ⟨rfl, hb6⟩; have hc6 := hc5.trans (hb6.mono hc5.size); have X6 := HS.out w6 hc6)
      | (go_at_call 17; refine (awake_any _).mono ?_; rintro e' w9 ⟨rfl, hb9⟩; have hc9 := hc6.trans (hb9.mono hc6.size); have X9 := HS.out w9 hc9))
  go_wp2
  go_ret
  exact ⟨rfl, HB0.out.trans (hc9.mono HB0.out.size)⟩
end Go.Proofs.Ytaihgoohmcipkaa
