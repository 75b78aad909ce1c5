/-
  A law's arguments as lists of bytes. No conditions.
-/
import Derived.Test.YteccopnlpllliaaRows
import Derived.Test.YteccopnlpllliaaRow
import Derived.Deep.Strs
namespace Go.Proofs.Yteccopnlpllliaa
open Go.ChangeShapes Go.WideShapes Go.ChangeAt Go.RowKit
open Go.ChangeMaps (open_string)

theorem ownKnobs : ownKnob Try.prog.godebug = none := by kernel_rfl
theorem laidOut : laidOutB Try.prog = true := by kernel_rfl

theorem str_arg {H : Type} {enc : TypeId × Value → H} {W : World} {base b : Nat} {sp : Nat → Bool} {held : Bool} {v : Value} {d : DataW H} {ps : List MemPlace} (hval : Value.okWide Try.prog W .any base 9 v) (h : DataW.Trod enc Try.prog W b sp held 9 v d ps) :
    ∃ l : List UInt8, v = str l ∧ l.length ≤ 9223372036854775807 := by
  obtain ⟨⟨⟨l⟩⟩, rfl, _, _, hs⟩ := open_string Try.underlying9 hval h
  refine ⟨l, rfl, ?_⟩
  have h1 : l.length ≤ maxLen := hs
  unfold maxLen at h1
  omega
end Go.Proofs.Yteccopnlpllliaa
