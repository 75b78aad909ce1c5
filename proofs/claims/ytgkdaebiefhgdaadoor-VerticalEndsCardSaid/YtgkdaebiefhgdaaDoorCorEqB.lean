/-
  The contracts of equalTexts, equalRegions, equalBy and of the program's Equal. Conditions: none but that the lists read as they do.
-/
import Derived.Test.YtgkdaebiefhgdaaDoorCorEq
import Derived.Deep.RegionHeld3
import Derived.Deep.CutRange
namespace Go.Proofs.YtgkdaebiefhgdaaDoor
open Go.RowKit Utf
open Feat (Bs)
open Tagp (KV)

theorem same_tx {a : Bs} {b c : Int} {k l : List KV} : same (⟨a, b, c, k⟩ : Cor.Txt) ⟨a, b, c, l⟩ = same k l := by
  rw [Bool.eq_iff_iff, same_iff, same_iff]
  constructor
  · intro h; injection h
  · rintro rfl; rfl

theorem Keys.drewk {w : World} {B : Nat} {h : Hd} {l : List KV} (k : Keys w B h l) : Keys w.drew B h l := k.under ((Below.refl _ _).drew)
theorem Words.drewk {w : World} {B : Nat} {h : Hd} {l : List Bs} (k : Words w B h l) : Words w.drew B h l := k.under ((Below.refl _ _).drew)
theorem same_C (c d : Cor.C) : same c d = true ↔ (same c.attrs d.attrs = true ∧ same c.toks d.toks = true ∧ same c.texts d.texts = true ∧ same c.regs d.regs = true ∧ same c.nods d.nods = true ∧ same c.heads d.heads = true ∧ same c.rels d.rels = true) := by
  obtain ⟨a, b, x, y, z, u, v⟩ := c
  obtain ⟨a', b', x', y', z', u', v'⟩ := d
  simp only [same_iff]
  constructor
  · intro h; injection h with h1 h2 h3 h4 h5 h6 h7; exact ⟨h1, h2, h3, h4, h5, h6, h7⟩
  · rintro ⟨rfl, rfl, rfl, rfl, rfl, rfl, rfl⟩; rfl
theorem kept_of {v : Value} {w w0 : World} {e : Ending} {w' : World} (h : Drawn v w e w') (_ : w0 = w) : Kept v w e w' := by
  obtain ⟨he, q, hw⟩ := h
  exact ⟨he, hw ▸ below_drewN (Below.refl _ _) q⟩
end Go.Proofs.YtgkdaebiefhgdaaDoor
