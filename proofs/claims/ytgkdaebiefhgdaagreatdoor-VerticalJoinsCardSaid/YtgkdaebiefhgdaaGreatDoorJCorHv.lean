/-
 Several texts of this seat, one behind the other: CorHeavy, VertHv. No conditions but those of each.
-/
import Derived.Test.YtgkdaebiefhgdaaGreatDoorJCorAtx
import Derived.Deep.CutRange
import Derived.Deep.CutBlock
import Derived.Deep.RegionHeld3
import Derived.Test.YtgkdaebiefhgdaaGreatDoorJCorExP
namespace Go.Proofs.YtgkdaebiefhgdaaGreatDoor
open Go.RowKit Utf
open Feat (Bs)
open Tagp (KV)
end Go.Proofs.YtgkdaebiefhgdaaGreatDoor
namespace Go.Proofs.YtgkdaebiefhgdaaGreatDoor
set_option linter.unusedSimpArgs false
set_option linter.unusedVariables false
open Go.RowKit Utf
open Feat (Bs)
def bareH (H : CH) : CH := { H with n := ⟨none, 0, 0⟩, h := ⟨none, 0, 0⟩, l := ⟨none, 0, 0⟩ }
def bareC (c : Cor.C) : Cor.C := { c with nods := [], heads := [], rels := [] }
theorem reads_bare {w : World} {B : Nat} {H : CH} {c : Cor.C} (h : Reads w B H c) : Reads w B (bareH H) (bareC c) :=
 have k := reads_nil w B
 ⟨h.a, h.t, h.x, h.r, k.n, k.h, k.l⟩
theorem results_bare {w : World} {g : Nat} {a0 a1 a2 a3 a4 a5 a6 : Value} (tmps : Array Value) (h4 : tmps.getD 2 undef = .pointer (some ⟨g, 0, none⟩)) (hc : Blk w g 30 #[a0, a1, a2, a3, a4, a5, a6]) :
  (results Tryz.f17 tmps).run Tryz.prog w = .ok (.agg #[a0, a1, a2, a3, a4, a5, a6]) w := by
 have hp4 : tmps[2]?.getD undef = .pointer (some ⟨g, 0, none⟩) := by simpa using h4
 have c0 := hc.cell 0
 have c1 := hc.cell 1
 have c2 := hc.cell 2
 have c3 := hc.cell 3
 have c4 := hc.cell 4
 have c5 := hc.cell 5
 have c6 := hc.cell 6
 simp only [List.getElem?_toArray, List.getElem?_cons_zero, List.getElem?_cons_succ] at c0 c1 c2 c3 c4 c5 c6
 simp [results, Tryz.f17, hp4, asAddr, c0, c1, c2, c3, c4, c5, c6, go_sem]
def Bared (H : CH) (w : World) (e : Ending) (w' : World) : Prop := e = .returned (bareH H).v ∧ Below w.heap.size w w'
set_option maxRecDepth 100000 in
set_option maxHeartbeats 4000000 in
theorem vbare_any (H : CH) (w : World) : Calls Tryz.prog 17 #[H.v] w (Bared H w) := by
 obtain ⟨⟨Aa, na, ca⟩, ⟨At, nt, ct⟩, ⟨Ax, nx, cx⟩, ⟨Ar, nr, cr⟩, ⟨An, nn, cn⟩, ⟨Ah, nh, ch⟩, ⟨Al, nl, cl⟩⟩ := H
 show Calls Tryz.prog 17 #[.agg #[.slice Aa na ca, .slice At nt ct, .slice Ax nx cx, .slice Ar nr cr, .slice An nn cn, .slice Ah nh ch, .slice Al nl cl]] w _
 go_enter Tryz.func17, Tryz.ntmps17
 go_wp2
 have hb := ((Below.refl w.heap.size w).alloc (Nat.le_refl _) (.cells #[.slice Aa na ca, .slice At nt ct, .slice Ax nx cx, .slice Ar nr cr, .slice none 0 0, .slice none 0 0, .slice none 0 0] 30)).alloc (by simp) (.cells #[.slice Aa na ca, .slice At nt ct, .slice Ax nx cx, .slice Ar nr cr, .slice none 0 0, .slice none 0 0, .slice none 0 0] 30)
 have hX := Blk.new (w.alloc (.cells #[.slice Aa na ca, .slice At nt ct, .slice Ax nx cx, .slice Ar nr cr, .slice none 0 0, .slice none 0 0, .slice none 0 0] 30)) 30 #[.slice Aa na ca, .slice At nt ct, .slice Ax nx cx, .slice Ar nr cr, .slice none 0 0, .slice none 0 0, .slice none 0 0]
 rw [World.size_alloc] at hX
 refine bodyPost_ret (results_bare _ rfl hX) rfl ?_
 exact ⟨rfl, hb⟩
end Go.Proofs.YtgkdaebiefhgdaaGreatDoor
