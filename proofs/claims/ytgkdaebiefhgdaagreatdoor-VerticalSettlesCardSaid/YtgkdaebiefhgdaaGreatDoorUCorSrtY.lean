/-
  Several texts of this seat, one behind the other: CorOrd, CorSortP. No conditions but those of each.
-/
import Derived.Test.YtgkdaebiefhgdaaGreatDoorUCorSrt
import Derived.Test.YtgkdaebiefhgdaaGreatDoorUCorCmp
import Derived.Test.YtgkdaebiefhgdaaGreatDoorUBase6Y
import Derived.Test.YtgkdaebiefhgdaaGreatDoorUCorOwn
import Derived.Test.YtgkdaebiefhgdaaGreatDoorUBase6
namespace Go.Proofs.YtgkdaebiefhgdaaGreatDoor
open Feat (Bs lt lt_irrefl lt_trans lt_asymm lt_tri)
open Tagp (KV)
open Cor (cmpI cmpS cmpK cmpR)
end Go.Proofs.YtgkdaebiefhgdaaGreatDoor
namespace Go.Proofs.YtgkdaebiefhgdaaGreatDoor
set_option linter.unusedSimpArgs false
set_option linter.unusedVariables false
open Go.RowKit
open Feat (Bs)
open Tagp (KV)
open Cor (cmpR)
theorem insT_len (x : Cor.Reg) (m : List Cor.Reg) : (insT x m).length = m.length + 1 := by
  have := spot_le x m m.length
  unfold insT; simp; omega
theorem sortT_len (l : List Cor.Reg) : (sortT l).length = l.length := by
  have : ∀ (l m : List Cor.Reg), (l.foldl (fun m x => insT x m) m).length = m.length + l.length := by
    intro l
    induction l with
    | nil => intro m; rfl
    | cons a l ih => intro m; rw [List.foldl_cons, ih, insT_len, List.length_cons]; omega
  have h := this l []
  unfold sortT; simpa using h

end Go.Proofs.YtgkdaebiefhgdaaGreatDoor
