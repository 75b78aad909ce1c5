/-
 The contracts of equalTexts, equalRegions, equalBy and of the program's Equal. Conditions: none but that the lists read as they do.
-/
import Derived.Test.YtgkdaebiefhgdaaGreatDoorPCorEq
import Derived.Deep.RegionHeld3
import Derived.Deep.CutRange
namespace Go.Proofs.YtgkdaebiefhgdaaGreatDoor
open Go.RowKit Utf
open Feat (Bs)
open Tagp (KV)
theorem same_C (c d : Cor.C) : same c d = true ↔ (same c.attrs d.attrs = true ∧ same c.toks d.toks = true ∧ same c.texts d.texts = true ∧ same c.regs d.regs = true ∧ same c.nods d.nods = true ∧ same c.heads d.heads = true ∧ same c.rels d.rels = true) := by
 obtain ⟨a, b, x, y, z, u, v⟩ := c
 obtain ⟨a', b', x', y', z', u', v'⟩ := d
 simp only [same_iff]
 constructor
 ·intro h; injection h with h1 h2 h3 h4 h5 h6 h7; exact ⟨h1, h2, h3, h4, h5, h6, h7⟩
 ·rintro ⟨rfl, rfl, rfl, rfl, rfl, rfl, rfl⟩; rfl
end Go.Proofs.YtgkdaebiefhgdaaGreatDoor
