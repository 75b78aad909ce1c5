/-
  Chapter 6: words for memory, UTF-8, names, values, features, heads: the texts of chapters 4, 5 and 9 that it needs, one behind the other. No conditions.
-/
import Derived.Test.YtgkdaebiefhgdaaGreatDoorUBase6
import GoSem.Core.Utf8
import Derived.WalkKit
import Derived.Lib.Hide
import Derived.Deep.Draws
import Derived.ProofKit
import Derived.Below
import Derived.ChangeSame
import Derived.Maps.AppendAt
import Derived.Deep.AppendLies
import Derived.RegionTactic
import Derived.OwnWalk
import Derived.Test.YtgkdaebiefhgdaaGreatDoorProg
import Derived.Laws.OwnMore
import GoSem.Op.String
import Derived.RangeFuncNested
import Derived.RangeFuncLeaves
import Derived.Shelf.Abstract
import Derived.RangeFuncBound
import Derived.RangeFuncCalls
import Derived.Shelf.RegionOpen
import Derived.OwnWalkIn
import Derived.TacticsInMore
import Derived.LoopNIn
import Derived.LoopIn
import Derived.Lib.OthersKept
import Derived.WalkSpells
import Derived.WalkLawsBesides
import Derived.BigQuiet
import Derived.Deep.QuietTactic
import Derived.Laws.IdiomStrings
import Derived.Lib.AppendStr
import Derived.Laws.BytesArg
import Derived.Laws.Concat
import Derived.Laws.CopyOwn
import Derived.Deep.RegionLaw
namespace Go.Proofs.YtgkdaebiefhgdaaGreatDoor.Utf
open Go
end Go.Proofs.YtgkdaebiefhgdaaGreatDoor.Utf
namespace Go.Proofs.YtgkdaebiefhgdaaGreatDoor
open Go.RowKit
end Go.Proofs.YtgkdaebiefhgdaaGreatDoor
namespace Go.Proofs.YtgkdaebiefhgdaaGreatDoor
open Go.ChangeShapes Go.WideShapes Go.ChangeAt Go.RowKit
end Go.Proofs.YtgkdaebiefhgdaaGreatDoor
namespace Go.Proofs.YtgkdaebiefhgdaaGreatDoor
open Go.RowKit
section
variable {P : Program} (w : World)
end
end Go.Proofs.YtgkdaebiefhgdaaGreatDoor
namespace Go.Proofs.YtgkdaebiefhgdaaGreatDoor
open Go.RowKit
end Go.Proofs.YtgkdaebiefhgdaaGreatDoor
namespace Go.Proofs.YtgkdaebiefhgdaaGreatDoor.Feat
open Go Utf
def subset (a b : Bs) : Bool × Nat :=
  if (parse a).2 ≠ 0 then (false, (parse a).2) else if (parse b).2 ≠ 0 then (false, (parse b).2) else ((parse a).1.all fun f => (parse b).1.elem f, 0)

end Go.Proofs.YtgkdaebiefhgdaaGreatDoor.Feat
namespace Go.Proofs.YtgkdaebiefhgdaaGreatDoor.Tagp
open Utf
open Feat (Bs lt lt_irrefl lt_trans lt_tri lt_asymm)
end Go.Proofs.YtgkdaebiefhgdaaGreatDoor.Tagp
namespace Go.Proofs.YtgkdaebiefhgdaaGreatDoor
namespace Dep
end Dep
end Go.Proofs.YtgkdaebiefhgdaaGreatDoor
namespace Go.Proofs.YtgkdaebiefhgdaaGreatDoor
namespace Dep
theorem inv_start (h : Hs) : Inv h 0 (List.replicate h.length 0) (-1) := by
  refine ⟨by simp, fun x hx => by simp, fun x hx => ?_, .inl ⟨rfl, ?_⟩⟩
  · simp; rintro ⟨j, hj, _⟩; omega
  · rintro x ⟨_, j, hj, _⟩; omega

end Dep
end Go.Proofs.YtgkdaebiefhgdaaGreatDoor
namespace Go.Proofs.YtgkdaebiefhgdaaGreatDoor
open Go.RowKit
end Go.Proofs.YtgkdaebiefhgdaaGreatDoor
namespace Go.Proofs.YtgkdaebiefhgdaaGreatDoor
open Go.RowKit Go.Shelf Utf
attribute [local go_sem] Oper.semAt_some
end Go.Proofs.YtgkdaebiefhgdaaGreatDoor
namespace Go.Proofs.YtgkdaebiefhgdaaGreatDoor
open Go.RowKit Utf
end Go.Proofs.YtgkdaebiefhgdaaGreatDoor
namespace Go.Proofs.YtgkdaebiefhgdaaGreatDoor
open Go.RowKit Utf
end Go.Proofs.YtgkdaebiefhgdaaGreatDoor
namespace Go.Proofs.YtgkdaebiefhgdaaGreatDoor
open Go.RowKit
end Go.Proofs.YtgkdaebiefhgdaaGreatDoor
namespace Go.Proofs.YtgkdaebiefhgdaaGreatDoor
open Go.RowKit Utf
end Go.Proofs.YtgkdaebiefhgdaaGreatDoor
namespace Go.Proofs.YtgkdaebiefhgdaaGreatDoor
open Go.RowKit Utf
end Go.Proofs.YtgkdaebiefhgdaaGreatDoor
namespace Go.Proofs.YtgkdaebiefhgdaaGreatDoor
open Go.RowKit Utf Tagp
open Feat (Bs)
attribute [local go_sem] byte_mk ByteArray.extract_mk
end Go.Proofs.YtgkdaebiefhgdaaGreatDoor
namespace Go.Proofs.YtgkdaebiefhgdaaGreatDoor
open Go.RowKit Utf Feat
attribute [local go_sem] byte_mk ByteArray.extract_mk
end Go.Proofs.YtgkdaebiefhgdaaGreatDoor
namespace Go.Proofs.YtgkdaebiefhgdaaGreatDoor
open Go.RowKit Utf Feat
attribute [local go_sem] byte_mk ByteArray.extract_mk
end Go.Proofs.YtgkdaebiefhgdaaGreatDoor
namespace Go.Proofs.YtgkdaebiefhgdaaGreatDoor
open Go.RowKit
end Go.Proofs.YtgkdaebiefhgdaaGreatDoor
