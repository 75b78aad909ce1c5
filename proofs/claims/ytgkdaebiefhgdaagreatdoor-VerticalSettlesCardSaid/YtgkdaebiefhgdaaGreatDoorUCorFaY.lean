/-
  Several texts of this seat, one behind the other: CorFull, CorApp. No conditions but those of each.
-/
import Derived.Test.YtgkdaebiefhgdaaGreatDoorUCorFa
import Derived.Test.YtgkdaebiefhgdaaGreatDoorUCorVfs
import Derived.Test.YtgkdaebiefhgdaaGreatDoorUBase6Y
import Derived.Test.YtgkdaebiefhgdaaGreatDoorUCorSrt
import Derived.Test.YtgkdaebiefhgdaaGreatDoorUCorSrtY
namespace Go.Proofs.YtgkdaebiefhgdaaGreatDoor
set_option linter.unusedSimpArgs false
set_option linter.unusedVariables false
open Cor (C Nod Txt Reg atErr tkErr txErr rgErr ndErr hdErr check valid within prErr par anc sibE dep ParOk allH allL bare mvT mvR mvN mvH cmpR crossR coverR)
open Tagp (okName)
open Feat (Bs)
theorem chain_app {n : Int} {m : List Txt} : ∀ {l : List Txt} {u : Int}, Chain u (l ++ m) n ↔ ∃ v, Chain u l v ∧ Chain v m n
  | [], u => ⟨fun h => ⟨u, rfl, h⟩, fun ⟨v, h1, h2⟩ => by cases h1; exact h2⟩
  | t :: l, u => by
    show (t.b = u ∧ t.b < t.e ∧ Chain t.e (l ++ m) n) ↔ _
    rw [chain_app]
    exact ⟨fun ⟨a, b, v, c, d⟩ => ⟨v, ⟨a, b, c⟩, d⟩, fun ⟨v, ⟨a, b, c⟩, d⟩ => ⟨a, b, v, c, d⟩⟩
end Go.Proofs.YtgkdaebiefhgdaaGreatDoor
namespace Go.Proofs.YtgkdaebiefhgdaaGreatDoor
set_option linter.unusedSimpArgs false
set_option linter.unusedVariables false
open Cor (C Nod Txt Reg atErr tkErr txErr rgErr ndErr hdErr check valid within prErr par anc sibE dep ParOk allH allL bare mvT mvR mvN mvH cmpR cmpI crossR coverR)
open Tagp (okName)
open Feat (Bs)
section
variable {l m : List Nod} {n : Int}
end
end Go.Proofs.YtgkdaebiefhgdaaGreatDoor
