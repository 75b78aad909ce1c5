/-
  What the laws of chapter 6 share: contracts with the error's number named, the corpus of attributes alone. No conditions.
-/
import Derived.Test.YtaihgoohmcipkaaCorSeg
import Derived.Test.YtaihgoohmcipkaaCorConc
namespace Go.Proofs.Ytaihgoohmcipkaa
set_option linter.unusedSimpArgs false
set_option linter.unusedVariables false
open Go.RowKit Utf
open Feat (Bs)

def MadeZ (d : Cor.C) (z : Int) (w : World) (e : Ending) (w' : World) : Prop :=
  ∃ H : CH, e = .returned (.tuple #[H.v, .int .i64 z]) ∧ Reads w' w'.heap.size H d ∧ Below w.heap.size w w'
def OwnZ (d : Cor.C) (z : Int) (w : World) (e : Ending) (w' : World) : Prop :=
  ∃ H : CH, e = .returned (.tuple #[H.v, .int .i64 z]) ∧ OwnD w' H d ∧ Below w.heap.size w w'
theorem concat_z (H K : CH) {a b d : Cor.C} {n : Nat} (h : Cor.cat a b = (d, n)) (w : World) (ha : Reads w w.heap.size H a) (hb : Reads w w.heap.size K b) (z : Int) (hz : (n : Int) = z) :
    Calls Try.prog 30 #[H.v, K.v] w (MadeZ d z w) :=
  (concat_any H K a b w ha hb).mono fun e w' ⟨D, he, hr, hB⟩ => by
    rw [h] at he hr
    subst hz
    exact ⟨D, he, hr, hB⟩
theorem concat_oz (H K : CH) {a b d : Cor.C} {n : Nat} (h : Cor.cat a b = (d, n)) (w : World) (ha : Reads w w.heap.size H a) (hb : Reads w w.heap.size K b) (z : Int) (hz : (n : Int) = z) :
    Calls Try.prog 30 #[H.v, K.v] w (OwnZ d z w) :=
  (concat_own H K a b w ha hb).mono fun e w' ⟨D, he, hr, hB⟩ => by
    rw [h] at he hr
    subst hz
    exact ⟨D, he, hr, hB⟩
theorem reads_none {w : World} {B : Nat} {A T X R N S L : Hd} {c : Cor.C} (h : Reads w B ⟨A, T, X, R, N, S, L⟩ c) : Reads w B ⟨A, ⟨none, 0, 0⟩, ⟨none, 0, 0⟩, ⟨none, 0, 0⟩, ⟨none, 0, 0⟩, ⟨none, 0, 0⟩, ⟨none, 0, 0⟩⟩ (none_ c.attrs) :=
  have k := reads_nil w B
  ⟨h.a, k.t, k.x, k.r, k.n, k.h, k.l⟩
end Go.Proofs.Ytaihgoohmcipkaa
