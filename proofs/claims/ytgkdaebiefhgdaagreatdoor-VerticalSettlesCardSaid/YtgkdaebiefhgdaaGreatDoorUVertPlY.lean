/-
  Several texts of this seat, one behind the other: VertTokP, VertEndP, VertP, VertKey. No conditions but those of each.
-/
import Derived.Test.YtgkdaebiefhgdaaGreatDoorUVertPl
import Derived.Test.YtgkdaebiefhgdaaGreatDoorUVert
import Derived.Test.YtgkdaebiefhgdaaGreatDoorUCorSrtY
import Derived.Test.YtgkdaebiefhgdaaGreatDoorUMarkAll
import Derived.Test.YtgkdaebiefhgdaaGreatDoorUBase6Y
import Derived.Test.YtgkdaebiefhgdaaGreatDoorUDepAll
namespace Go.Proofs.YtgkdaebiefhgdaaGreatDoor
set_option linter.unusedSimpArgs false
set_option linter.unusedVariables false
open Feat (Bs)
open Tagp (unesc)
open Cor (vlErr)
open Vert (Rd splitT fields tokenP)
end Go.Proofs.YtgkdaebiefhgdaaGreatDoor
namespace Go.Proofs.YtgkdaebiefhgdaaGreatDoor
open Feat (Bs)
open Vert (lastOf)
end Go.Proofs.YtgkdaebiefhgdaaGreatDoor
namespace Go.Proofs.YtgkdaebiefhgdaaGreatDoor
set_option linter.unusedSimpArgs false
set_option linter.unusedVariables false
open Utf
open Feat (Bs)
open Tagp (KV eatP nameP valueP keyP keysP tagP plainCh unesc)
open Vert (Rd splitT fields tokenP lineV lineOf parseV readV tagOf tagLine)
theorem eatP_ne {s : Bs} {c : UInt8} {i : Nat} {p : Nat × Nat} (h : eatP s c i = .error p) : p.2 ≠ 0 := by
  unfold eatP at h
  split at h
  · cases h
  · cases h; exact fun e => by cases e
end Go.Proofs.YtgkdaebiefhgdaaGreatDoor
namespace Go.Proofs.YtgkdaebiefhgdaaGreatDoor
set_option linter.unusedSimpArgs false
set_option linter.unusedVariables false
open Utf
open Feat (Bs lt lt_tri)
open Tagp (KV eatP nameP valueP keyP keysP tagP okName beg gon hasK sortP insP Up)
theorem tagOf_ok {s : Bs} (h : (Vert.tagOf s).2.2 = 0) : tagP s = .ok (Vert.tagOf s).1 ∨ (Vert.tagOf s).1 = (false, [], []) := by
  unfold Vert.tagOf
  split
  · left; assumption
  · right; rfl
end Go.Proofs.YtgkdaebiefhgdaaGreatDoor
