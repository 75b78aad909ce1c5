/-
  What is known of memory while a corpus is appended to another. No conditions.
-/
import Derived.Test.YtaihgoohmcipkaaCorExP
namespace Go.Proofs.Ytaihgoohmcipkaa
set_option linter.unusedSimpArgs false
set_option linter.unusedVariables false
open Go.RowKit
open Feat (Bs)
open Tagp (KV)

/-- What was a corpus' block is there still, but block g. -/
structure OffG (g : Nat) (w w1 : World) : Prop where
  size : w.heap.size ≤ w1.heap.size
  keep : ∀ (k : Nat) (cs : Array Value), w.heap[k]? = some (Obj.cells cs 30 (0, 0)) → k ≠ g → w1.heap[k]? = w.heap[k]?
theorem OffG.refl (g : Nat) (w : World) : OffG g w w := ⟨Nat.le_refl _, fun _ _ _ _ => rfl⟩
theorem OffG.trans {g : Nat} {a b c : World} (h : OffG g a b) (k : OffG g b c) : OffG g a c :=
  ⟨Nat.le_trans h.size k.size, fun i cs hi hg => by
    have h1 := h.keep i cs hi hg
    exact (k.keep i cs (h1.trans hi) hg).trans h1⟩
theorem Off.offG {R : TypeId} {g : Nat} {w w1 : World} (h : Off R w w1) (n : 30 ≠ R) : OffG g w w1 := ⟨h.size, fun k cs hk _ => h.keep k cs _ hk n⟩
theorem OffG.below {g : Nat} {w w1 : World} (h : Below w.heap.size w w1) : OffG g w w1 := (Off.below (R := 4294967295) h).offG (by decide)
theorem OffG.set_ {w : World} (g i : Nat) (v : Value) : OffG g w (w.setCell ⟨g, i, none⟩ v) := ⟨by simp [World.setCell], fun k cs _ hk => setCell_block (by show k ≠ g; exact hk)⟩
theorem Blk.offG {g k : Nat} {w w1 : World} {cs : Array Value} (h : Blk w k 30 cs) (f : OffG g w w1) (hk : k ≠ g) : Blk w1 k 30 cs := (f.keep k cs h hk).trans h

structure CT (w0 w1 wr : World) (gd : Nat) : Prop where
  below : Below w0.heap.size w0 wr
  keep : OffG gd w1 wr
section
variable {w0 w1 wr w' : World} {gd : Nat}
theorem CT.bel (h : CT w0 w1 wr gd) (hb : Below wr.heap.size wr w') : CT w0 w1 w' gd := ⟨h.below.trans (hb.mono h.below.size), h.keep.trans (OffG.below hb)⟩
theorem CT.drewN (h : CT w0 w1 wr gd) (n : Nat) : CT w0 w1 (wr.drewN n) gd := ⟨below_drewN h.below n, h.keep.trans ((Off.drewN (R := 4294967295) wr n).offG (by decide))⟩
theorem CT.drew (h : CT w0 w1 wr gd) : CT w0 w1 wr.drew gd := h.drewN 1
theorem CT.alloc (h : CT w0 w1 wr gd) (o : Obj) : CT w0 w1 (wr.alloc o) gd := h.bel ((Below.refl _ _).alloc (Nat.le_refl _) o)
theorem CT.grown {e : TypeId} {s n : Nat} {v : Value} {xs : List Value} (h : CT w0 w1 wr gd) (ho : wr.ownsRow w0.heap.size e s v n xs) (gr : wr.grownBy w' v.ownBlock) (n1 : 30 ≠ e) : CT w0 w1 w' gd :=
  ⟨h.below.grown gr h.below.size (fun k hk => (ho.lt k hk).1), h.keep.trans ((Off.grown ho gr).offG n1)⟩
theorem CT.setd (h : CT w0 w1 wr gd) (hg : w0.heap.size ≤ gd) (i : Nat) (v : Value) : CT w0 w1 (wr.setCell ⟨gd, i, none⟩ v) gd :=
  ⟨h.below.setCell (p := ⟨gd, i, none⟩) hg _, h.keep.trans (OffG.set_ gd i v)⟩
end
/-- The corpus that grows. -/
def CatR (w0 w1 wr : World) (gd : Nat) (Dh Dl : Hd) (d : Cor.C) : Prop := ∃ D : CH, CT w0 w1 wr gd ∧ OwnC wr w0.heap.size gd D d ∧ D.h = Dh ∧ D.l = Dl
end Go.Proofs.Ytaihgoohmcipkaa
