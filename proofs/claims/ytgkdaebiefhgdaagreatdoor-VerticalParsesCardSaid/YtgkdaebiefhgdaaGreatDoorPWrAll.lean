/-
 Several texts of this seat, one behind the other: ShelfJ, WrMem, WrOpen, WrTok, FmtMem, VertFc. No conditions but those of each.
-/
import Derived.Shelf.Strings.OnBuilder
import Derived.Test.YtgkdaebiefhgdaaGreatDoorProg
import Derived.Test.YtgkdaebiefhgdaaGreatDoorPCorOwn
import Derived.Test.YtgkdaebiefhgdaaGreatDoorPMarkAll
import Derived.Lib.Join
import Derived.Test.YtgkdaebiefhgdaaGreatDoorPMarkRnd
import Derived.Test.YtgkdaebiefhgdaaGreatDoorPCorHold
import Derived.Test.YtgkdaebiefhgdaaGreatDoorPCorSrt
import Derived.RegionTactic
import Derived.BigRegion
import Derived.Deep.RegionLaw
import Derived.Test.YtgkdaebiefhgdaaGreatDoorPVertRb
import Derived.Test.YtgkdaebiefhgdaaGreatDoorPVertMm
import Derived.Test.YtgkdaebiefhgdaaGreatDoorPCorMem
namespace Go.Proofs
open Go.Shelf
end Go.Proofs
namespace Go.Proofs.YtgkdaebiefhgdaaGreatDoor
set_option linter.unusedSimpArgs false
set_option linter.unusedVariables false
open Go.RowKit
open Feat (Bs)
def Dry (w w1 : World) : Prop := ∀ (k : Nat) (cs : Array Value) (t : TypeId), t ≠ 81 → t ≠ 5 → w.heap[k]? = some (Obj.cells cs t (0, 0)) → w1.heap[k]? = w.heap[k]?
theorem Dry.refl (w : World) : Dry w w := fun _ _ _ _ _ _ => rfl
theorem Dry.below {w w1 : World} (h : Below w.heap.size w w1) : Dry w w1 := fun k _ _ _ _ hk => h.block k (Array.getElem?_eq_some_iff.1 hk).1
theorem Dry.trans {a b c : World} (h : Dry a b) (k : Dry b c) : Dry a c := fun i cs t h1 h2 hi => by
 have q := h i cs t h1 h2 hi
 exact (k i cs t h1 h2 (q.trans hi)).trans q
theorem Dry.off {R : TypeId} {a b c : World} (h : Dry a b) (f : Off R b c) (n : R = 81 ∨ R = 5) : Dry a c := h.trans fun i cs t h1 h2 hi => f.keep i cs t hi (by rcases n with rfl | rfl <;> assumption)
theorem Dry.blk {w w1 : World} (h : Dry w w1) {g : Nat} {t : TypeId} {cs : Array Value} (k : Blk w g t cs) (h1 : t ≠ 81) (h2 : t ≠ 5) : Blk w1 g t cs := (h g cs t h1 h2 k).trans k
theorem Dry.own {w w1 : World} (h : Dry w w1) {b s n : Nat} {e : TypeId} {v : Value} {xs : List Value} (k : w.ownsRow b e s v n xs) (h1 : e ≠ 81) (h2 : e ≠ 5) : w1.ownsRow b e s v n xs := by
 refine ⟨k.1, ?_⟩
 rcases k.2 with hn | ⟨g, cap, cur, rfl, hb, hgg, rest⟩
 ·exact .inl hn
 ·exact .inr ⟨g, cap, cur, rfl, hb, (h g _ _ h1 h2 hgg).trans hgg, rest⟩
def OwnB (w : World) (B g : Nat) (L : Bs) : Prop := ∃ (A : Option Addr) (c : Nat), Blk w g 81 #[.slice A L.length c] ∧ w.ownsRow B 5 1 (.slice A L.length c) L.length (bys L) ∧ B ≤ g
theorem OwnB.off {R : TypeId} {w w1 : World} {B g : Nat} {L : Bs} (h : OwnB w B g L) (f : Off R w w1) (n1 : 81 ≠ R) (n2 : 5 ≠ R) : OwnB w1 B g L := by
 obtain ⟨A, c, h1, h2, h3⟩ := h
 exact ⟨A, c, h1.off f n1, own_off h2 f n2, h3⟩
theorem OwnB.below {w w1 : World} {B g : Nat} {L : Bs} (h : OwnB w B g L) (hb : Below w.heap.size w w1) : OwnB w1 B g L := h.off (R := 4294967295) (Off.below hb) (by decide) (by decide)
end Go.Proofs.YtgkdaebiefhgdaaGreatDoor
namespace Go.Proofs.YtgkdaebiefhgdaaGreatDoor
set_option linter.unusedSimpArgs false
set_option linter.unusedVariables false
open Go.RowKit
open Feat (Bs)
open Tagp (KV fmtT esc)
attribute [local go_sem] byte_mk ByteArray.extract_mk
def nints (l : List Nat) : List Value := l.map fun k => Value.int .i64 (k : Nat)
end Go.Proofs.YtgkdaebiefhgdaaGreatDoor
namespace Go.Proofs.YtgkdaebiefhgdaaGreatDoor
set_option linter.unusedSimpArgs false
set_option linter.unusedVariables false
open Go.RowKit
open Feat (Bs)
open Tagp (KV fmtT esc)
attribute [local go_sem] byte_mk ByteArray.extract_mk
end Go.Proofs.YtgkdaebiefhgdaaGreatDoor
namespace Go.Proofs.YtgkdaebiefhgdaaGreatDoor
set_option linter.unusedSimpArgs false
set_option linter.unusedVariables false
open Go.RowKit
open Feat (Bs)
open Tagp (KV)
abbrev BH := Hd × List Nat
def Apart (a b : BH) : Prop := ∀ k, a.1.v.ownBlock = some k → b.1.v.ownBlock ≠ some k
theorem Apart.symm {a b : BH} (h : Apart a b) : Apart b a := fun k h1 h2 => h k h2 h1
def Rws (w : World) (B : Nat) (Z : List BH) : Prop := (∀ z ∈ Z, w.ownsRow B 3 1 z.1.v z.1.n (nints z.2)) ∧ ∀ i j (hi : i < Z.length) (hj : j < Z.length), i ≠ j → Apart Z[i] Z[j]
theorem Rws.dry {w w1 : World} {B : Nat} {Z : List BH} (h : Rws w B Z) (d : Dry w w1) : Rws w1 B Z := ⟨fun z hz => d.own (h.1 z hz) (by decide) (by decide), h.2⟩
theorem Rws.off {R : TypeId} {w w1 : World} {B : Nat} {Z : List BH} (h : Rws w B Z) (f : Off R w w1) (n : 3 ≠ R) : Rws w1 B Z := ⟨fun z hz => own_off (h.1 z hz) f n, h.2⟩
def hdrs (Z : List BH) : Array Value := (Z.map fun z => z.1.v).toArray
structure Fs (w0 w : World) (gb ge : Nat) (H : CH) (X Y : List BH) : Prop where
 below : Below w0.heap.size w0 w
 cor : Blk w w0.heap.size 30 H.cs
 bx : Blk w gb 27 (hdrs X)
 by_ : Blk w ge 27 (hdrs Y)
 gb0 : w0.heap.size ≤ gb
 ge0 : w0.heap.size ≤ ge
 gbe : gb ≠ ge
 rows : Rws w w0.heap.size (X ++ Y)
section
variable {w0 w w1 : World} {gb ge : Nat} {H : CH} {X Y : List BH}
theorem Fs.dry (h : Fs w0 w gb ge H X Y) (d : Dry w w1) (b : Below w0.heap.size w w1) : Fs w0 w1 gb ge H X Y :=
 ⟨h.below.trans b, d.blk h.cor (by decide) (by decide), d.blk h.bx (by decide) (by decide), d.blk h.by_ (by decide) (by decide), h.gb0, h.ge0, h.gbe, h.rows.dry d⟩
theorem Fs.under (h : Fs w0 w gb ge H X Y) (b : Below w.heap.size w w1) : Fs w0 w1 gb ge H X Y := h.dry (Dry.below b) (b.mono h.below.size)
theorem Fs.alloc (h : Fs w0 w gb ge H X Y) (o : Obj) : Fs w0 (w.alloc o) gb ge H X Y := h.under ((Below.refl _ _).alloc (Nat.le_refl _) o)
theorem Fs.drew (h : Fs w0 w gb ge H X Y) : Fs w0 w.drew gb ge H X Y := h.under ((Below.refl _ _).drew)
end
def Tab (Z : List BH) (N : Nat) (f : Nat → List Nat) : Prop := Z.length = N + 1 ∧ ∀ k (h : k < Z.length), Z[k].2 = f k
theorem Tab.put {Z : List BH} {N i : Nat} {f g : Nat → List Nat} {x : BH} (h : Tab Z N f) (hi : i ≤ N) (hx : x.2 = g i) (ho : ∀ k, k ≠ i → g k = f k) : Tab (Z.set i x) N g := by
 refine ⟨by rw [List.length_set]; exact h.1, fun k hk => ?_⟩
 rw [List.getElem_set]
 by_cases e : i = k
 ·subst e; rw [if_pos rfl]; exact hx
 ·rw [if_neg e, ho k (fun e2 => e e2.symm)]
  exact h.2 k _
end Go.Proofs.YtgkdaebiefhgdaaGreatDoor
namespace Go.Proofs.YtgkdaebiefhgdaaGreatDoor
set_option linter.unusedSimpArgs false
set_option linter.unusedVariables false
open Go.RowKit
open Feat (Bs)
open Tagp (KV)
open Vert (isId badT fmtErr)
attribute [local go_sem] byte_mk ByteArray.extract_mk
end Go.Proofs.YtgkdaebiefhgdaaGreatDoor
