/-
  A result that lies in memory of the call's own: it is read later too, though a box of a corpus has been written. No conditions.
-/
import Derived.Test.YtaihgoohmcipkaaCorExP
namespace Go.Proofs.Ytaihgoohmcipkaa
set_option linter.unusedSimpArgs false
set_option linter.unusedVariables false
open Go.RowKit
open Feat (Bs)

def OwnD (w : World) (D : CH) (d : Cor.C) : Prop :=
  ∃ B B2 : Nat, OA w B D.a d.attrs ∧ OT w B D.t d.toks ∧ OX w B 64 D.x d.texts ∧ OX w B 39 D.r d.regs ∧ ON w B D.n d.nods ∧ OI w B2 D.h d.heads ∧ OwnW w B2 D.l d.rels
theorem OwnD.reads {w : World} {D : CH} {d : Cor.C} (h : OwnD w D d) : Reads w w.heap.size D d := by
  obtain ⟨B, B2, h1, h2, h3, h4, h5, h6, h7⟩ := h
  exact ⟨h1.reads, h2.reads, h3.reads, h4.reads, h5.reads, h6.reads, h7.reads⟩
theorem OwnD.off {w w1 : World} {D : CH} {d : Cor.C} (h : OwnD w D d) (hf : Off 30 w w1) : OwnD w1 D d := by
  obtain ⟨B, B2, h1, h2, h3, h4, h5, h6, h7⟩ := h
  exact ⟨B, B2, h1.off hf (by decide), h2.off hf (by decide) (by decide), h3.off hf (by decide) (by decide), h4.off hf (by decide) (by decide), h5.off hf (by decide), h6.off hf (by decide), h7.off hf (by decide)⟩
theorem ownD_nil (w : World) : OwnD w nilH Cor.nil :=
  ⟨0, 0, ⟨own_nil0 _ _ _ _, fun _ h => by cases h⟩, ⟨[], rfl, own_nil0 _ _ _ _, fun _ h => by cases h⟩, ⟨[], rfl, own_nil0 _ _ _ _, fun _ h => by cases h⟩, ⟨[], rfl, own_nil0 _ _ _ _, fun _ h => by cases h⟩, ⟨own_nil0 _ _ _ _, fun _ h => by cases h⟩, ⟨own_nil0 _ _ _ _, fun _ h => by cases h⟩, ⟨own_nil0 _ _ _ _, fun _ h => by cases h⟩⟩
def MadeO (r : Cor.C × Nat) (w : World) (e : Ending) (w' : World) : Prop :=
  ∃ H : CH, e = .returned (.tuple #[H.v, .int .i64 (r.2 : Nat)]) ∧ OwnD w' H r.1 ∧ Below w.heap.size w w'
theorem MadeO.made {r : Cor.C × Nat} {w : World} {e : Ending} {w' : World} (h : MadeO r w e w') : Made r w e w' := by
  obtain ⟨H, he, ho, hb⟩ := h
  exact ⟨H, he, ho.reads, hb⟩
theorem made_ofO {w w1 wr : World} {B gd : Nat} {D : CH} {d : Cor.C} {r : Cor.C × Nat} (hr : r = (d, 0)) (h1 : OwnC wr B gd D d) (h2 : OI wr B D.h d.heads) (h3 : OwnW wr B D.l d.rels) (hf : Off 30 wr w1) (hb : Below w.heap.size w w1) :
    MadeO r w (.returned (.tuple #[D.v, .int .i64 0])) w1 := by
  subst hr
  exact ⟨D, rfl, OwnD.off ⟨B, B, h1.a, h1.t, h1.x, h1.r, h1.n, h2, h3⟩ hf, hb⟩
theorem made_partsO {w w1 wr : World} {B B2 : Nat} {D : CH} {d : Cor.C} {r : Cor.C × Nat} (hr : r = (d, 0)) (h1 : OA wr B D.a d.attrs ∧ OT wr B D.t d.toks ∧ OX wr B 64 D.x d.texts ∧ OX wr B 39 D.r d.regs ∧ ON wr B D.n d.nods) (h2 : OI wr B2 D.h d.heads) (h3 : OwnW wr B2 D.l d.rels) (hf : Off 30 wr w1) (hb : Below w.heap.size w w1) :
    MadeO r w (.returned (.tuple #[D.v, .int .i64 0])) w1 := by
  subst hr
  exact ⟨D, rfl, OwnD.off ⟨B, B2, h1.1, h1.2.1, h1.2.2.1, h1.2.2.2.1, h1.2.2.2.2, h2, h3⟩ hf, hb⟩
/-- A box of a corpus is written whole. -/
theorem blk7 {w : World} {g : Nat} {u0 u1 u2 u3 u4 u5 u6 : Value} (h : Blk w g 30 #[u0, u1, u2, u3, u4, u5, u6]) (v0 v1 v2 v3 v4 v5 v6 : Value) :
    Blk (((((((w.setCell ⟨g, 0, none⟩ v0).setCell ⟨g, 1, none⟩ v1).setCell ⟨g, 2, none⟩ v2).setCell ⟨g, 3, none⟩ v3).setCell ⟨g, 4, none⟩ v4).setCell ⟨g, 5, none⟩ v5).setCell ⟨g, 6, none⟩ v6) g 30 #[v0, v1, v2, v3, v4, v5, v6] := by
  have k := ((((((h.set_ 0 v0).set_ 1 v1).set_ 2 v2).set_ 3 v3).set_ 4 v4).set_ 5 v5).set_ 6 v6
  simp only [List.setIfInBounds_toArray, List.set_cons_zero, List.set_cons_succ] at k
  exact k
theorem size7 (w : World) (g : Nat) (v0 v1 v2 v3 v4 v5 v6 : Value) :
    (((((((w.setCell ⟨g, 0, none⟩ v0).setCell ⟨g, 1, none⟩ v1).setCell ⟨g, 2, none⟩ v2).setCell ⟨g, 3, none⟩ v3).setCell ⟨g, 4, none⟩ v4).setCell ⟨g, 5, none⟩ v5).setCell ⟨g, 6, none⟩ v6).heap.size = w.heap.size := by simp [World.setCell]
end Go.Proofs.Ytaihgoohmcipkaa
