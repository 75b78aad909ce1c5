/-
  The arguments of the laws over a text and attributes, MaxLen's cell, a world that holds the listed tables. No conditions.
-/
import Derived.Test.YtgkdaebiefhgdaaGreatDoorUArgs7D
import Derived.Test.YtgkdaebiefhgdaaGreatDoorUArgs6
import Derived.Test.YtgkdaebiefhgdaaGreatDoorUArgs6Y
import Derived.Test.YtgkdaebiefhgdaaGreatDoorCards
import Derived.Test.YtgkdaebiefhgdaaGreatDoorTie
import Derived.Deep.Strs
import Derived.Deep.DeepHandedRow
import Derived.Lib.LaidTab
import Derived.Stop.LaidErr
namespace Go.Proofs.YtgkdaebiefhgdaaGreatDoor
set_option linter.unusedSimpArgs false
set_option linter.unusedVariables false
open Go.ChangeShapes Go.WideShapes Go.ChangeAt Go.RowKit
open Feat (Bs)
set_option maxRecDepth 100000 in
theorem attrs_argD {H : Type} {enc : TypeId × Value → H} {W : World} {base : Nat} {v : Value} {d : DataW H} {ps : List MemPlace} (hval : Value.okWide Tryz.prog W .any base 22 v) (h : DataW.Trod enc Tryz.prog W 0 (fun _ => true) true 22 v d ps) :
    ∃ (A : Option Addr) (n c : Nat) (l : List At), v = .slice A n c ∧ Atts W W.heap.size ⟨A, n, c⟩ l := by
  obtain ⟨fuel, hf⟩ := h
  obtain ⟨a0, n0, c0, rfl⟩ := Go.WideShapes.okWide_slice Tryz.underlying22 hval
  obtain ⟨⟨A, n, c⟩, l3, e3, r3⟩ := attrs_arg hf
  simp [Value.cells] at e3
  exact ⟨A, n, c, l3, by simp [e3], r3⟩
end Go.Proofs.YtgkdaebiefhgdaaGreatDoor
