/-
  The law CorpusOrders returns true. Conditions: none but that the arguments read as they do.
-/
import Derived.Test.YtaihgoohmcipkaaCorLaws1
import Derived.Test.YtaihgoohmcipkaaCorEqR
import Derived.Test.YtaihgoohmcipkaaCorOrd
namespace Go.Proofs.Ytaihgoohmcipkaa
set_option linter.unusedSimpArgs false
set_option linter.unusedVariables false
open Go.RowKit Utf
open Feat (Bs)
open Cor (cmpR)

theorem reads_reg {w : World} {g : Nat} {x : Cor.Reg} {A : Option Addr} {n c : Nat} (h : Blk w g 39 #[str x.nm, .int .i64 x.b, .int .i64 x.e, .slice A n c]) (ho : TxOk w w.heap.size (x, ⟨A, n, c⟩)) :
    Reads w w.heap.size ⟨⟨none, 0, 0⟩, ⟨none, 0, 0⟩, ⟨none, 0, 0⟩, ⟨some ⟨g, 0, none⟩, 1, 1⟩, ⟨none, 0, 0⟩, ⟨none, 0, 0⟩, ⟨none, 0, 0⟩⟩ ⟨[], [], [], [x], [], [], []⟩ := by
  have r := reads_nil w w.heap.size
  refine ⟨r.a, r.t, r.x, ⟨[(x, ⟨A, n, c⟩)], rfl, ⟨Nat.le_refl _, by show 1 ≤ _; omega⟩, sl_blk (xs := [(x, (⟨A, n, c⟩ : Hd))].flatMap txV) h rfl rfl, fun y hy => by simp at hy; subst hy; exact ho⟩, r.n, r.h, r.l⟩
theorem same_reg (a b : Cor.Reg) : same (⟨[], [], [], [a], [], [], []⟩ : Cor.C) ⟨[], [], [], [b], [], [], []⟩ = (cmpR a b == 0) := by
  rw [Bool.eq_iff_iff, same_iff, beq_iff_eq, ord_R.zero]
  constructor
  · intro h; injection h with _ _ _ h; injection h
  · rintro rfl; rfl

set_option maxRecDepth 100000 in
set_option maxHeartbeats 8000000 in
theorem law_orders (a b c : Cor.Reg) (A1 : Option Addr) (n1 c1 : Nat) (A2 : Option Addr) (n2 c2 : Nat) (A3 : Option Addr) (n3 c3 : Nat) (w : World) (ha : TxOk w w.heap.size (a, ⟨A1, n1, c1⟩)) (hb : TxOk w w.heap.size (b, ⟨A2, n2, c2⟩)) (hc : TxOk w w.heap.size (c, ⟨A3, n3, c3⟩)) :
    Calls Try.prog 5 #[.agg #[str a.nm, .int .i64 a.b, .int .i64 a.e, .slice A1 n1 c1], .agg #[str b.nm, .int .i64 b.b, .int .i64 b.e, .slice A2 n2 c2], .agg #[str c.nm, .int .i64 c.b, .int .i64 c.e, .slice A3 n3 c3]] w (Kept (.bool true) w) := by
  obtain ⟨an, ab, ae, ak⟩ := a
  obtain ⟨bn, bb, be, bk⟩ := b
  obtain ⟨cn, cb, ce, ck⟩ := c
  simp only []
  have hB0 := (((Below.refl w.heap.size w).alloc (Nat.le_refl _) (.cells #[str an, .int .i64 ab, .int .i64 ae, .slice A1 n1 c1] 39)).alloc (by simp) (.cells #[str bn, .int .i64 bb, .int .i64 be, .slice A2 n2 c2] 39)).alloc (by simp; omega) (.cells #[str cn, .int .i64 cb, .int .i64 ce, .slice A3 n3 c3] 39)
  have b0 := ((Blk.new w 39 #[str an, .int .i64 ab, .int .i64 ae, .slice A1 n1 c1]).alloc (.cells #[str bn, .int .i64 bb, .int .i64 be, .slice A2 n2 c2] 39)).alloc (.cells #[str cn, .int .i64 cb, .int .i64 ce, .slice A3 n3 c3] 39)
  have b1 := (Blk.new (w.alloc (.cells #[str an, .int .i64 ab, .int .i64 ae, .slice A1 n1 c1] 39)) 39 #[str bn, .int .i64 bb, .int .i64 be, .slice A2 n2 c2]).alloc (.cells #[str cn, .int .i64 cb, .int .i64 ce, .slice A3 n3 c3] 39)
  have b2 := Blk.new ((w.alloc (.cells #[str an, .int .i64 ab, .int .i64 ae, .slice A1 n1 c1] 39)).alloc (.cells #[str bn, .int .i64 bb, .int .i64 be, .slice A2 n2 c2] 39)) 39 #[str cn, .int .i64 cb, .int .i64 ce, .slice A3 n3 c3]
  simp only [World.size_alloc] at b1 b2
  have oa := (ha.under hB0).up hB0.size
  have ob := (hb.under hB0).up hB0.size
  have oc := (hc.under hB0).up hB0.size
  have f1 : n1 ≤ 9223372036854775807 := oa.2.2.2.1.2
  have f2 : n2 ≤ 9223372036854775807 := ob.2.2.2.1.2
  have f3 : n3 ≤ 9223372036854775807 := oc.2.2.2.1.2
  clear ha hb hc
  by_cases hl : 20 < n1
  · go_enter Try.func5, Try.ntmps5
    go_wp2
    go_ret
    exact ⟨rfl, hB0⟩
  by_cases hl2 : 20 < n2
  · go_enter Try.func5, Try.ntmps5
    go_wp2
    go_ret
    exact ⟨rfl, hB0⟩
  by_cases hl3 : 20 < n3
  · go_enter Try.func5, Try.ntmps5
    go_wp2
    go_ret
    exact ⟨rfl, hB0⟩
  obtain ⟨W0, hW0⟩ : ∃ W0, (((w.alloc (.cells #[str an, .int .i64 ab, .int .i64 ae, .slice A1 n1 c1] 39)).alloc (.cells #[str bn, .int .i64 bb, .int .i64 be, .slice A2 n2 c2] 39)).alloc (.cells #[str cn, .int .i64 cb, .int .i64 ce, .slice A3 n3 c3] 39)) = W0 := ⟨_, rfl⟩
  rw [hW0] at hB0 b0 b1 b2 oa ob oc
  have HW0 := Lib.hid hW0
  clear hW0
  have hbD : Below W0.heap.size W0 W0.drew := (Below.refl _ _).drew
  have HS := Lib.hid (fun (W : World) (hW : Below W0.heap.size W0 W) => show W.cell? ⟨w.heap.size, 0, none⟩ = some (str an) ∧ W.cell? ⟨w.heap.size, 1, none⟩ = some (.int .i64 ab) ∧ W.cell? ⟨w.heap.size, 2, none⟩ = some (.int .i64 ae) ∧ W.cell? ⟨w.heap.size, 3, none⟩ = some (.slice A1 n1 c1) ∧ W.cell? ⟨w.heap.size + 1, 0, none⟩ = some (str bn) ∧ W.cell? ⟨w.heap.size + 1, 1, none⟩ = some (.int .i64 bb) ∧ W.cell? ⟨w.heap.size + 1, 2, none⟩ = some (.int .i64 be) ∧ W.cell? ⟨w.heap.size + 1, 3, none⟩ = some (.slice A2 n2 c2) ∧ W.cell? ⟨w.heap.size + 1 + 1, 0, none⟩ = some (str cn) ∧ W.cell? ⟨w.heap.size + 1 + 1, 1, none⟩ = some (.int .i64 cb) ∧ W.cell? ⟨w.heap.size + 1 + 1, 2, none⟩ = some (.int .i64 ce) ∧ W.cell? ⟨w.heap.size + 1 + 1, 3, none⟩ = some (.slice A3 n3 c3) from ⟨(b0.below hW).cell 0, (b0.below hW).cell 1, (b0.below hW).cell 2, (b0.below hW).cell 3, (b1.below hW).cell 0, (b1.below hW).cell 1, (b1.below hW).cell 2, (b1.below hW).cell 3, (b2.below hW).cell 0, (b2.below hW).cell 1, (b2.below hW).cell 2, (b2.below hW).cell 3⟩)
  have F1 := Lib.hid (fun (W : World) (hW : Below W0.heap.size W0 W) => compare_any ⟨an, ab, ae, ak⟩ ⟨bn, bb, be, bk⟩ A1 n1 c1 A2 n2 c2 W ((oa.2.2.2.under hW).up hW.size) ((ob.2.2.2.under hW).up hW.size))
  have F2 := Lib.hid (fun (W : World) (hW : Below W0.heap.size W0 W) => compare_any ⟨bn, bb, be, bk⟩ ⟨cn, cb, ce, ck⟩ A2 n2 c2 A3 n3 c3 W ((ob.2.2.2.under hW).up hW.size) ((oc.2.2.2.under hW).up hW.size))
  have F3 := Lib.hid (fun (W : World) (hW : Below W0.heap.size W0 W) => compare_any ⟨an, ab, ae, ak⟩ ⟨cn, cb, ce, ck⟩ A1 n1 c1 A3 n3 c3 W ((oa.2.2.2.under hW).up hW.size) ((oc.2.2.2.under hW).up hW.size))
  have F4 := Lib.hid (fun (W : World) (hW : Below W0.heap.size W0 W) => compare_any ⟨bn, bb, be, bk⟩ ⟨an, ab, ae, ak⟩ A2 n2 c2 A1 n1 c1 W ((ob.2.2.2.under hW).up hW.size) ((oa.2.2.2.under hW).up hW.size))
  have OAB := Lib.hid (And.intro oa ob)
  have ho := ord_R
  have vx := ho.val ⟨an, ab, ae, ak⟩ ⟨bn, bb, be, bk⟩
  have vy := ho.val ⟨bn, bb, be, bk⟩ ⟨cn, cb, ce, ck⟩
  have vz := ho.val ⟨an, ab, ae, ak⟩ ⟨cn, cb, ce, ck⟩
  have t1 := ho.tr ⟨an, ab, ae, ak⟩ ⟨bn, bb, be, bk⟩ ⟨cn, cb, ce, ck⟩
  have t2 := ho.flip.tr ⟨an, ab, ae, ak⟩ ⟨bn, bb, be, bk⟩ ⟨cn, cb, ce, ck⟩
  rw [ho.anti ⟨an, ab, ae, ak⟩ ⟨bn, bb, be, bk⟩] at F4
  have sr := same_reg ⟨an, ab, ae, ak⟩ ⟨bn, bb, be, bk⟩
  simp only [ho.anti ⟨an, ab, ae, ak⟩ ⟨bn, bb, be, bk⟩, ho.anti ⟨bn, bb, be, bk⟩ ⟨cn, cb, ce, ck⟩, ho.anti ⟨an, ab, ae, ak⟩ ⟨cn, cb, ce, ck⟩] at t2
  obtain ⟨x, hx⟩ : ∃ x, cmpR ⟨an, ab, ae, ak⟩ ⟨bn, bb, be, bk⟩ = x := ⟨_, rfl⟩
  obtain ⟨y, hy⟩ : ∃ x, cmpR ⟨bn, bb, be, bk⟩ ⟨cn, cb, ce, ck⟩ = x := ⟨_, rfl⟩
  obtain ⟨z, hz⟩ : ∃ x, cmpR ⟨an, ab, ae, ak⟩ ⟨cn, cb, ce, ck⟩ = x := ⟨_, rfl⟩
  simp only [hx, hy, hz] at F1 F2 F3 F4 vx vy vz t1 t2 sr
  have VX := Lib.hid vx
  have VY := Lib.hid vy
  have VZ := Lib.hid vz
  have T1 := Lib.hid t1
  have T2 := Lib.hid t2
  have SR := Lib.hid sr
  have X0 := HS.out W0.drew hbD
  have HB0 := Lib.hid hB0
  clear hx hy hz vx vy vz t1 t2 sr ho oa ob oc b0 b1 b2 hB0
  go_enter Try.func5, Try.ntmps5
  go_upto_region 3 with (fail)
  rw [show (((w.alloc (.cells #[str an, .int .i64 ab, .int .i64 ae, .slice A1 n1 c1] 39)).alloc (.cells #[str bn, .int .i64 bb, .int .i64 be, .slice A2 n2 c2] 39)).alloc (.cells #[str cn, .int .i64 cb, .int .i64 ce, .slice A3 n3 c3] 39)) = W0 from HW0.out]
  go_region_held3 (fun W => W.cell? ⟨w.heap.size, 0, none⟩ = some (str an) ∧ W.cell? ⟨w.heap.size, 1, none⟩ = some (.int .i64 ab) ∧ W.cell? ⟨w.heap.size, 2, none⟩ = some (.int .i64 ae) ∧ W.cell? ⟨w.heap.size, 3, none⟩ = some (.slice A1 n1 c1) ∧ W.cell? ⟨w.heap.size + 1, 0, none⟩ = some (str bn) ∧ W.cell? ⟨w.heap.size + 1, 1, none⟩ = some (.int .i64 bb) ∧ W.cell? ⟨w.heap.size + 1, 2, none⟩ = some (.int .i64 be) ∧ W.cell? ⟨w.heap.size + 1, 3, none⟩ = some (.slice A2 n2 c2) ∧ W.cell? ⟨w.heap.size + 1 + 1, 0, none⟩ = some (str cn) ∧ W.cell? ⟨w.heap.size + 1 + 1, 1, none⟩ = some (.int .i64 cb) ∧ W.cell? ⟨w.heap.size + 1 + 1, 2, none⟩ = some (.int .i64 ce) ∧ W.cell? ⟨w.heap.size + 1 + 1, 3, none⟩ = some (.slice A3 n3 c3)) (first | (with_reducible exact X0) | (with_reducible exact X5) | (with_reducible exact X6) | (with_reducible exact X7) | go_keep) (first
    | (go_at_call 18; (with_reducible show Calls _ _ _ (World.drew W0) _); refine (F1.out _ hbD).mono ?_; rintro e' w5 ⟨rfl, hb5⟩; have hc5 := hbD.trans (hb5.mono hbD.size); have X5 := HS.out w5 hc5)
    | (go_at_call 18; (with_reducible show Calls _ _ _ w6 _); refine (F3.out _ hc6).mono ?_; rintro e' w7 ⟨rfl, hb7⟩; have hc7 := hc6.trans (hb7.mono hc6.size); have X7 := HS.out w7 hc7)
    | (go_at_call 18; (with_reducible show Calls _ _ _ w5 _); refine (F2.out _ hc5).mono ?_; rintro e' w6 ⟨rfl, hb6⟩; have hc6 := hc5.trans (hb6.mono hc5.size); have X6 := HS.out w6 hc6))
  obtain ⟨p0, p1, p2, p3, p4, p5, p6, p7, p8, p9, p10, p11⟩ := X7
  have hz0 : w.heap.size < w7.heap.size := World.block_lt_of_cell? w7 ⟨w.heap.size, 0, none⟩ p0
  have hz1 : w.heap.size + 1 < w7.heap.size := World.block_lt_of_cell? w7 ⟨w.heap.size + 1, 0, none⟩ p4
  have g1 := Below.refl w7.heap.size w7
  have g2 := (g1.alloc (Nat.le_refl _) (.cells #[str an, .int .i64 ab, .int .i64 ae, .slice A1 n1 c1] 39)).alloc (by simp) (.cells #[str bn, .int .i64 bb, .int .i64 be, .slice A2 n2 c2] 39)
  have d0 := (Blk.new w7 39 #[str an, .int .i64 ab, .int .i64 ae, .slice A1 n1 c1]).alloc (.cells #[str bn, .int .i64 bb, .int .i64 be, .slice A2 n2 c2] 39)
  have d1 := Blk.new (w7.alloc (.cells #[str an, .int .i64 ab, .int .i64 ae, .slice A1 n1 c1] 39)) 39 #[str bn, .int .i64 bb, .int .i64 be, .slice A2 n2 c2]
  rw [World.size_alloc] at d1
  have gg := hc7.trans (g2.mono hc7.size)
  have E1 := refEqual_any _ _ _ _ _ (reads_reg (x := ⟨an, ab, ae, ak⟩) d0 ((OAB.out.1.under gg).up gg.size)) (reads_reg (x := ⟨bn, bb, be, bk⟩) d1 ((OAB.out.2.under gg).up gg.size))
  rw [SR.out] at E1
  have HE1 := Lib.hid E1
  have GG := Lib.hid gg
  clear E1 d0 d1 g1 g2 gg X5 X6 X0 hb5 hb6 hb7
  go_wp2_with fail
  refine HE1.out.mono ?_
  rintro e' w8 ⟨rfl, hb8⟩
  have hc8 := GG.out.trans (hb8.mono GG.out.size)
  have X8 := HS.out w8 hc8
  clear p0 p1 p2 p3 p4 p5 p6 p7 p8 p9 p10 p11 hz0 hz1 HE1
  obtain ⟨p0, p1, p2, p3, p4, p5, p6, p7, p8, p9, p10, p11⟩ := X8
  have HF4 := Lib.hid (F4.out w8 hc8)
  clear F1 F2 F3 F4
  rcases VX.out with e1 | e1 | e1 <;> rcases VY.out with e2 | e2 | e2 <;> rcases VZ.out with e3 | e3 | e3 <;> subst e1 e2 e3 <;>
    first
    | (exfalso; have h1 := T1.out; have h2 := T2.out; omega)
    | (go_wp2_with (first
        | (go_at_call 18; refine HF4.out.mono ?_; rintro e' w9 ⟨rfl, hb9⟩; have hc9 := hc8.trans (hb9.mono hc8.size))
        | (go_at_call 17; refine (awake_any _).mono ?_; rintro e' w10 ⟨rfl, hb10⟩))
       go_ret
       exact ⟨rfl, HB0.out.trans ((hc9.trans (hb10.mono hc9.size)).mono HB0.out.size)⟩)
end Go.Proofs.Ytaihgoohmcipkaa
