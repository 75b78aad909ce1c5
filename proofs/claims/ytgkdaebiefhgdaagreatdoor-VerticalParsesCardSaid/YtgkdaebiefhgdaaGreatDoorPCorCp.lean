/-
 Several texts of this seat, one behind the other: CorCopy, CorCopyB. No conditions but those of each.
-/
import Derived.Test.YtgkdaebiefhgdaaGreatDoorPCorAtx
import Derived.Deep.RegionHeld3
namespace Go.Proofs.YtgkdaebiefhgdaaGreatDoor
open Go.RowKit Utf
open Feat (Bs)
open Tagp (KV)
theorem info_pair : (Tryz.prog.info? 84).map (fun i => (i.zero, i.size, i.bytes)) = some (some (.agg #[.string ⟨#[]⟩, .string ⟨#[]⟩]), 2, 32) := by kernel_rfl
theorem prV_one (l : List KV) : ∀ u ∈ l.flatMap prV, u.oneCell' = true := by
 intro u hu
 rw [List.mem_flatMap] at hu
 obtain ⟨p, _, hp⟩ := hu
 unfold prV at hp
 simp at hp
 rcases hp with rfl | rfl <;> rfl
theorem Keys.src {w : World} {B : Nat} {A : Option Addr} {n c : Nat} {l : List KV} (h : Keys w B ⟨A, n, c⟩ l) : Src w A (l.flatMap prV) := by
 intro hp
 obtain ⟨g, o, e, _, hc⟩ := h.2.1.2 hp
 refine ⟨⟨g, o, none⟩, e, fun j u hj => ?_⟩
 have ea : (⟨g, o, none⟩ : Addr).add j = ⟨g, o + j, none⟩ := by unfold Addr.add; split <;> simp_all
 rw [ea]; exact hc j u hj
theorem ret_sl {A : Option Addr} {a b c : Nat} (h : a = b) : Ending.returned (.slice A a c) = .returned (.slice A b c) := by rw [h]
def Copied (l : List KV) (w : World) (e : Ending) (w' : World) : Prop :=
 ∃ A c, e = .returned (.slice A l.length c) ∧ w'.ownsRow w.heap.size 84 2 (.slice A l.length c) l.length (l.flatMap prV) ∧ Below w.heap.size w w'

def CopiedT (nm : Bs) (b e : Int) (l : List KV) (w : World) (en : Ending) (w' : World) : Prop :=
 ∃ A c, en = .returned (.agg #[str nm, .int .i64 b, .int .i64 e, .slice A l.length c]) ∧ w'.ownsRow w.heap.size 84 2 (.slice A l.length c) l.length (l.flatMap prV) ∧ Below w.heap.size w w'

end Go.Proofs.YtgkdaebiefhgdaaGreatDoor
namespace Go.Proofs.YtgkdaebiefhgdaaGreatDoor
set_option linter.unusedSimpArgs false
set_option linter.unusedVariables false
open Go.RowKit Utf
open Feat (Bs)
open Tagp (KV)
set_option maxRecDepth 100000 in
theorem copyPairs_big (A : Option Addr) (n c : Nat) (l : List KV) (w : World) (hn : n * 32 ≤ 140737488355328) (hx : Keys w w.heap.size ⟨A, n, c⟩ l) :
  Calls Tryz.prog 105 #[.slice A n c] w (Copied l w) := by
 have HL := Lib.hid hx.len
 have hfl : Hid ((l.flatMap prV).length = n * 2) := hx.2.1.1
 have hs := Lib.hid hx.src
 have h1 := Lib.hid (prV_one l)
 obtain ⟨i0, hi0, hz0, hz1, hz2⟩ := info_parts info_pair
 go_enter Tryz.func105, Tryz.ntmps105
 go_wp2_with (at_builtin; refine wpList_app _ rfl (.const (.slice none 0 0)) (.tmp 3) _ rfl w.heap.size 84 i0 _ 2 32 Tryz.underlying64 hi0 hz0 hz1 hz2 rfl (by decide) _ 0 [] rfl (World.ownsRow_nil _ _ _ _) A n c (l.flatMap prV) rfl hfl.out hs.out h1.out (by unfold maxLen; omega) (by omega) (Nat.le_refl _) ?_)
 intro v' w' own' gr' _
 have hB : Below w.heap.size w w' := (Below.refl _ _).grown gr' (Nat.le_refl _) (fun k hk => by cases hk)
 obtain ⟨A', c', rfl, -, -⟩ := own_slc own'
 go_wp2
 go_ret
 have e : l.length = n := HL.out
 exact ⟨A', c', ret_sl e.symm, by rw [e]; exact own', hB⟩

set_option maxRecDepth 100000 in
set_option maxHeartbeats 1600000 in
theorem copyRegion_big (nm : Bs) (b e y : Int) (A : Option Addr) (n c : Nat) (l : List KV) (w : World) (hn : n * 32 ≤ 140737488355328) (hb : Rng (b + y)) (he : Rng (e + y)) (hx : Keys w w.heap.size ⟨A, n, c⟩ l) :
  Calls Tryz.prog 65 #[.agg #[str nm, .int .i64 b, .int .i64 e, .slice A n c], .int .i64 y] w (CopiedT nm (b + y) (e + y) l w) := by
 unfold Rng at hb he
 have hB0 := ((Below.refl w.heap.size w).alloc (Nat.le_refl _) (.cells #[str nm, .int .i64 b, .int .i64 e, .slice A n c] 69)).alloc (by simp) (.cells #[.string ⟨#[]⟩, .int .i64 0, .int .i64 0, .slice none 0 0] 69)
 have b0 := (Blk.new w 69 #[str nm, .int .i64 b, .int .i64 e, .slice A n c]).alloc (.cells #[.string ⟨#[]⟩, .int .i64 0, .int .i64 0, .slice none 0 0] 69)
 have b1 := Blk.new (w.alloc (.cells #[str nm, .int .i64 b, .int .i64 e, .slice A n c] 69)) 69 #[.string ⟨#[]⟩, .int .i64 0, .int .i64 0, .slice none 0 0]
 rw [World.size_alloc] at b1
 have hx2 := (hx.under hB0).up hB0.size
 have HC := Lib.hid (fun (W : World) (h : Keys W W.heap.size ⟨A, n, c⟩ l) => copyPairs_big A n c l W hn h)
 have HK : Hid (Keys ((w.alloc (.cells #[str nm, .int .i64 b, .int .i64 e, .slice A n c] 69)).alloc (.cells #[.string ⟨#[]⟩, .int .i64 0, .int .i64 0, .slice none 0 0] 69)).drew ((w.alloc (.cells #[str nm, .int .i64 b, .int .i64 e, .slice A n c] 69)).alloc (.cells #[.string ⟨#[]⟩, .int .i64 0, .int .i64 0, .slice none 0 0] 69)).drew.heap.size ⟨A, n, c⟩ l) := hx2.under ((Below.refl _ _).drew)
 have i1 : IntKind.i64.wrap (b + y) = b + y := IntWalk.i64_in _ (by omega)
 have i2 : IntKind.i64.wrap (e + y) = e + y := IntWalk.i64_in _ (by omega)
 go_enter Tryz.func65, Tryz.ntmps65
 go_wp2
 go_region_held3 (fun W => W.cell? ⟨w.heap.size, 0, none⟩ = some (str nm) ∧ W.cell? ⟨w.heap.size, 1, none⟩ = some (.int .i64 b) ∧ W.cell? ⟨w.heap.size, 2, none⟩ = some (.int .i64 e) ∧ W.cell? ⟨w.heap.size, 3, none⟩ = some (.slice A n c)) (first | go_keep | exact ⟨x0, x1, x2, x3⟩) (first | (go_at_call 105; refine (HC.out ((w.alloc (.cells #[str nm, .int .i64 b, .int .i64 e, .slice A n c] 69)).alloc (.cells #[.string ⟨#[]⟩, .int .i64 0, .int .i64 0, .slice none 0 0] 69)).drew HK.out).mono ?_; rintro en w5 ⟨A', c', rfl, own5, hb5⟩; have B0 := Blk.below (w := ((w.alloc (.cells #[str nm, .int .i64 b, .int .i64 e, .slice A n c] 69)).alloc (.cells #[.string ⟨#[]⟩, .int .i64 0, .int .i64 0, .slice none 0 0] 69)).drew) b0 hb5; have B1 := Blk.below (w := ((w.alloc (.cells #[str nm, .int .i64 b, .int .i64 e, .slice A n c] 69)).alloc (.cells #[.string ⟨#[]⟩, .int .i64 0, .int .i64 0, .slice none 0 0] 69)).drew) b1 hb5; have x0 := B0.cell 0; have x1 := B0.cell 1; have x2 := B0.cell 2; have x3 := B0.cell 3; have y0 := B1.cell 0; have y1 := B1.cell 1; have y2 := B1.cell 2; have y3 := B1.cell 3; have z0 := B1.free 0; have z1 := B1.free 1; have z2 := B1.free 2; have z3 := B1.free 3))
 have R := (((B1.set_ 0 (str nm)).set_ 1 (.int .i64 (b + y))).set_ 2 (.int .i64 (e + y))).set_ 3 (.slice A' l.length c')
 have r0 := R.cell 0
 have r1 := R.cell 1
 have r2 := R.cell 2
 have r3 := R.cell 3
 go_wp2
 refine bodyPost_ret (v := .agg #[str nm, .int .i64 (b + y), .int .i64 (e + y), .slice A' l.length c']) (by simp [results, Tryz.f65, go_sem, r0, r1, r2, r3]) rfl ⟨A', c', rfl, ?_, ?_⟩
 ·refine own_base (own_same own5 fun g hg => ?_) (by simp; omega)
  have hge := (own5.lt g hg).1
  simp at hge
  rw [setCell_block (by show g ≠ w.heap.size + 1; omega), setCell_block (by show g ≠ w.heap.size + 1; omega), setCell_block (by show g ≠ w.heap.size + 1; omega), setCell_block (by show g ≠ w.heap.size + 1; omega)]
 ·exact ((((hB0.drew.trans (hb5.mono hB0.drew.size)).setCell (p := ⟨w.heap.size + 1, 0, none⟩) (by show w.heap.size ≤ w.heap.size + 1; omega) _).setCell (p := ⟨w.heap.size + 1, 1, none⟩) (by show w.heap.size ≤ w.heap.size + 1; omega) _).setCell (p := ⟨w.heap.size + 1, 2, none⟩) (by show w.heap.size ≤ w.heap.size + 1; omega) _).setCell (p := ⟨w.heap.size + 1, 3, none⟩) (by show w.heap.size ≤ w.heap.size + 1; omega) _
end Go.Proofs.YtgkdaebiefhgdaaGreatDoor
