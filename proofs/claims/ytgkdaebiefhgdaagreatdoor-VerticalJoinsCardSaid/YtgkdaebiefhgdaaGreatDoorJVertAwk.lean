/-
 The contract of the laws' awake: it returns true. Condition: MaxLen's cell holds a number.
-/
import Derived.Test.YtgkdaebiefhgdaaGreatDoorJVertPar
namespace Go.Proofs.YtgkdaebiefhgdaaGreatDoor
set_option linter.unusedSimpArgs false
set_option linter.unusedVariables false
open Go.RowKit
open Feat (Bs)
open Vert (readV)
attribute [local go_sem] byte_mk ByteArray.extract_mk
namespace Vert
def exD : Bs := [60, 116, 101, 120, 116, 32, 105, 100, 61, 34, 116, 34, 62, 10, 60, 115, 32, 110, 61, 34, 49, 34, 62, 10, 97, 10, 60, 110, 112, 62, 10, 98, 32, 38, 97, 109, 112, 59, 32, 99, 10, 60, 47, 115, 62, 10, 60, 47, 110, 112, 62, 10, 60, 47, 116, 101, 120, 116, 62, 10]
def exA : List At := [([119, 111, 114, 100], false)]
theorem ex_read : (readV exD exA).2 = (none, 0) ∧ (readV exD exA).1.toks.length = 2 ∧ ((readV exD exA).1.regs.map fun r => r.nm) = [[115], [110, 112]] := by decide +kernel
theorem ex_bad : (readV [97] exA).2 = (some 0, 17) := by decide +kernel
theorem ex_pos : Pos.posOf [97] 0 = (1, 1) := by
 unfold Pos.posOf
 have : (Utf.un 0 [97]).takeWhile (fun u => decide (u.2.1 < 0)) = [] := by
  cases Utf.un 0 [97] with
  | nil => rfl
  | cons u l => simp
 rw [this]; rfl
end Vert
theorem ownA1 {w : World} {B g : Nat} {E : TypeId} {a b : Value} (h : Blk w g E #[a, b]) (hb : B ≤ g) : w.ownsRow B E 2 (.slice (some ⟨g, 0, none⟩) 1 1) 1 [a, b] :=
 ⟨rfl, .inr ⟨g, 1, #[a, b], rfl, hb, h, Nat.le_refl _, by decide, rfl, rfl⟩⟩

set_option maxRecDepth 100000 in
set_option maxHeartbeats 4000000 in
theorem vawake_any (m : Int) (w : World) (hm : w.cell? ⟨0, 0, none⟩ = some (.int .i64 m)) : Calls Tryz.prog 12 #[] w (Kept (.bool true) w) := by
 have hw0 : 0 < w.heap.size := by
  rcases Nat.eq_zero_or_pos w.heap.size with h | h
  ·have : w.heap[0]? = none := Array.getElem?_eq_none (by omega)
   simp [World.cell?, this] at hm
  ·exact h
 have hB1 := (Below.refl w.heap.size w).alloc (Nat.le_refl _) (.cells #[str [119, 111, 114, 100], .bool false] 73)
 have hO1 : OA (w.alloc (.cells #[str [119, 111, 114, 100], .bool false] 73)) w.heap.size ⟨some ⟨w.heap.size, 0, none⟩, 1, 1⟩ Vert.exA :=
  ⟨ownA1 (Blk.new w _ _) (Nat.le_refl _), fun a ha => by
   have ha : a ∈ [(([119, 111, 114, 100] : Bs), false)] := ha
   rw [List.mem_singleton] at ha
   subst ha
   show ([119, 111, 114, 100] : Bs).length ≤ _
   simp⟩
 have hA1 := hO1.reads
 have HV1 := Lib.hid (vparse_any (some ⟨w.heap.size, 0, none⟩) 1 1 Vert.exA Vert.exD m _ hA1 (by decide) ((hB1.cell (p := ⟨0, 0, none⟩) hw0).trans hm))
 unfold VRead at HV1
 obtain ⟨e1, e2, e3⟩ := Vert.ex_read
 obtain ⟨c, hc⟩ : ∃ c, (readV Vert.exD Vert.exA).1 = c := ⟨_, rfl⟩
 rw [e1, hc] at HV1
 rw [hc] at e2 e3
 have HB1 := Lib.hid hB1
 have HA1 := Lib.hid hA1
 have hx1 : 1 < c.regs.length := by have := congrArg List.length e3; simp at this; omega
 have E3 : Hid (∀ h : 1 < c.regs.length, c.regs[1].nm = [110, 112]) := fun h => by
  have := congrArg (fun L => L[1]?) e3
  simpa [h] using this
 have E2 := Lib.hid e2
 have E3L : Hid (c.regs.length = 2) := by have := congrArg List.length e3; show _ = _; simpa using this
 clear hB1 hO1 hA1 e1 e2 e3 hc hx1
 go_enter Tryz.func12, Tryz.ntmps12
 go_wp2_with fail
 refine HV1.out.mono ?_
 rintro en w2 ⟨⟨⟨Aa, na, ca⟩, ⟨At', nt, ct⟩, ⟨Ax, nx, cx⟩, ⟨Ar, nr, cr⟩, ⟨An, nn, cn⟩, ⟨Ah, nh, ch⟩, ⟨Al, nl, cl⟩⟩, rfl, hr2, hb2⟩
 obtain rfl : nt = 2 := by have h1 : c.toks.length = nt := hr2.t.len; rw [← h1]; exact E2.out
 obtain rfl : nr = 2 := by have h1 : c.regs.length = nr := hr2.r.len; rw [← h1]; exact E3L.out
 obtain ⟨gr, orr, H2, hk, hAr, hg, -, r0, -, -, -⟩ := hr2.r.at_ (k := 1) (by show 1 < 2; omega)
 dsimp only at hAr
 subst hAr
 rw [E3.out hk] at r0
 have hB2 : Below w.heap.size w w2 := HB1.out.trans (hb2.mono HB1.out.size)
 have hb3 : Below w2.heap.size w2 ((w2.alloc (.cells #[.slice Aa na ca, .slice At' 2 ct, .slice Ax nx cx, .slice (some ⟨gr, orr, none⟩) 2 cr, .slice An nn cn, .slice Ah nh ch, .slice Al nl cl] 30)).alloc (.cells #[.int .i64 0, .int .i64 0] 32)) := ((Below.refl _ _).alloc (Nat.le_refl _) _).alloc (by simp) _
 have hb13 := hb2.trans (hb3.mono hb2.size)
 have hB3 : Below w.heap.size w ((w2.alloc (.cells #[.slice Aa na ca, .slice At' 2 ct, .slice Ax nx cx, .slice (some ⟨gr, orr, none⟩) 2 cr, .slice An nn cn, .slice Ah nh ch, .slice Al nl cl] 30)).alloc (.cells #[.int .i64 0, .int .i64 0] 32)) := hB2.trans (hb3.mono hB2.size)
 have HV2 := Lib.hid (vparse_any (some ⟨w.heap.size, 0, none⟩) 1 1 Vert.exA [97] m ((w2.alloc (.cells #[.slice Aa na ca, .slice At' 2 ct, .slice Ax nx cx, .slice (some ⟨gr, orr, none⟩) 2 cr, .slice An nn cn, .slice Ah nh ch, .slice Al nl cl] 30)).alloc (.cells #[.int .i64 0, .int .i64 0] 32)) ((HA1.out.under hb13).up hb13.size) (by decide) ((hB3.cell (p := ⟨0, 0, none⟩) hw0).trans hm))
 unfold VRead at HV2
 rw [Vert.ex_bad] at HV2
 dsimp only at HV2
 rw [show posR [97] (some 0) = (1, 1) from Vert.ex_pos] at HV2
 have hC3 : Blk ((w2.alloc (.cells #[.slice Aa na ca, .slice At' 2 ct, .slice Ax nx cx, .slice (some ⟨gr, orr, none⟩) 2 cr, .slice An nn cn, .slice Ah nh ch, .slice Al nl cl] 30)).alloc (.cells #[.int .i64 0, .int .i64 0] 32)) w2.heap.size 30 #[.slice Aa na ca, .slice At' 2 ct, .slice Ax nx cx, .slice (some ⟨gr, orr, none⟩) 2 cr, .slice An nn cn, .slice Ah nh ch, .slice Al nl cl] := (Blk.new w2 _ _).alloc _
 have hP3 := Blk.new (w2.alloc (.cells #[.slice Aa na ca, .slice At' 2 ct, .slice Ax nx cx, .slice (some ⟨gr, orr, none⟩) 2 cr, .slice An nn cn, .slice Ah nh ch, .slice Al nl cl] 30)) 32 #[.int .i64 0, .int .i64 0]
 rw [World.size_alloc] at hP3
 have HB3 := Lib.hid hB3
 have HC3 := Lib.hid hC3
 have HP3 := Lib.hid hP3
 have R3 : Hid (World.cell? ((w2.alloc (.cells #[.slice Aa na ca, .slice At' 2 ct, .slice Ax nx cx, .slice (some ⟨gr, orr, none⟩) 2 cr, .slice An nn cn, .slice Ah nh ch, .slice Al nl cl] 30)).alloc (.cells #[.int .i64 0, .int .i64 0] 32)) ⟨gr, orr + 1 * 4, none⟩ = some (str [110, 112])) := (hb3.cell (p := ⟨gr, orr + 1 * 4, none⟩) hg).trans r0
 clear hB2 hb3 hb13 hB3 hC3 hP3 r0 hr2 hb2
 go_wp2_with fail
 refine HV2.out.mono ?_
 rintro en w4 ⟨⟨⟨Da, ma, da⟩, ⟨Dt, mt, dt⟩, ⟨Dx, mx, dx⟩, ⟨Dr, mr, dr⟩, ⟨Dn, mn, dn⟩, ⟨Dh, mh, dh⟩, ⟨Dl, ml, dl⟩⟩, rfl, -, hb4⟩
 have hb6 : Below w4.heap.size w4 ((w4.alloc (.cells #[.slice Da ma da, .slice Dt mt dt, .slice Dx mx dx, .slice Dr mr dr, .slice Dn mn dn, .slice Dh mh dh, .slice Dl ml dl] 30)).alloc (.cells #[.int .i64 1, .int .i64 1] 32)) := ((Below.refl _ _).alloc (Nat.le_refl _) _).alloc (by simp) _
 have hb36 := hb4.trans (hb6.mono hb4.size)
 have hC6 := HC3.out.below hb36
 have hP6 := HP3.out.below hb36
 have q1 : _ = some (Value.slice At' 2 ct) := hC6.cell 1
 have q3 : _ = some (Value.slice (some ⟨gr, orr, none⟩) 2 cr) := hC6.cell 3
 have p0 : _ = some (Value.int .i64 0) := hP6.cell 0
 have p1 : _ = some (Value.int .i64 0) := hP6.cell 1
 have r6 : World.cell? ((w4.alloc (.cells #[.slice Da ma da, .slice Dt mt dt, .slice Dx mx dx, .slice Dr mr dr, .slice Dn mn dn, .slice Dh mh dh, .slice Dl ml dl] 30)).alloc (.cells #[.int .i64 1, .int .i64 1] 32)) ⟨gr, orr + 1 * 4, none⟩ = some (str [110, 112]) := (hb36.cell (p := ⟨gr, orr + 1 * 4, none⟩) (by show gr < _; simp; omega)).trans R3.out
 have HB6 : Hid (Below w.heap.size w ((w4.alloc (.cells #[.slice Da ma da, .slice Dt mt dt, .slice Dx mx dx, .slice Dr mr dr, .slice Dn mn dn, .slice Dh mh dh, .slice Dl ml dl] 30)).alloc (.cells #[.int .i64 1, .int .i64 1] 32))) := HB3.out.trans (hb36.mono HB3.out.size)
 have hP6n := Blk.new (w4.alloc (.cells #[.slice Da ma da, .slice Dt mt dt, .slice Dx mx dx, .slice Dr mr dr, .slice Dn mn dn, .slice Dh mh dh, .slice Dl ml dl] 30)) 32 #[.int .i64 1, .int .i64 1]
 rw [World.size_alloc] at hP6n
 have s0 : _ = some (Value.int .i64 1) := hP6n.cell 0
 have s1 : _ = some (Value.int .i64 1) := hP6n.cell 1
 clear hb4 hb6 hb36 hC6 hP6 hP6n
 go_wp2
 go_ret
 exact ⟨rfl, HB6.out⟩
end Go.Proofs.YtgkdaebiefhgdaaGreatDoor
