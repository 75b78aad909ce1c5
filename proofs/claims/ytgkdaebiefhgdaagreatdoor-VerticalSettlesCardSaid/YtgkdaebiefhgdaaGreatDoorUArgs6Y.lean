/-
  A law's arguments of chapter 6: a corpus, a region, a list of regions, as they read in memory. No conditions.
-/
import Derived.Test.YtgkdaebiefhgdaaGreatDoorUArgs6
import Derived.Test.YtgkdaebiefhgdaaGreatDoorRows
import Derived.Test.YtgkdaebiefhgdaaGreatDoorUBase6
import Derived.Test.YtgkdaebiefhgdaaGreatDoorUBase6Y
import Derived.Test.YtgkdaebiefhgdaaGreatDoorUCorMem
import Derived.Test.YtgkdaebiefhgdaaGreatDoorProg
import Derived.OpenShut
import Derived.Lib.Hide
import Derived.Deep.Slices
import Derived.Deep.Fields
import Derived.ChangeSame
import Derived.Lib.SmallJoins
namespace Go.Proofs.YtgkdaebiefhgdaaGreatDoor
open Go.ChangeShapes Go.WideShapes Go.ChangeAt Go.RowKit Go.Joins Go.Deep
open Feat (Bs)
section
variable {H : Type} {enc : TypeId × Value → H} {P : Program} {w : World} {base : Nat} {spare : Nat → Bool} {held : Bool}
end
section
variable {H : Type} {enc : TypeId × Value → H} {w : World} {base : Nat} {spare : Nat → Bool} {held : Bool}
end
set_option maxRecDepth 100000 in
theorem str_arg {H : Type} {enc : TypeId × Value → H} {W : World} {base b : Nat} {sp : Nat → Bool} {held : Bool} {v : Value} {d : DataW H} {ps : List MemPlace} (hval : Value.okWide Tryz.prog W .any base 9 v) (h : DataW.Trod enc Tryz.prog W b sp held 9 v d ps) :
    ∃ l : Bs, v = str l ∧ Len l := by
  obtain ⟨⟨⟨l⟩⟩, rfl, _, _, hs⟩ := Go.ChangeMaps.open_string Tryz.underlying9 hval h
  refine ⟨l, rfl, ?_⟩
  have h1 : l.length ≤ maxLen := hs
  unfold maxLen at h1
  unfold Len; omega
end Go.Proofs.YtgkdaebiefhgdaaGreatDoor
