/-
  The contracts of the program's copies of pairs, regions and texts. Conditions: a list of pairs is short, moved numbers are ints.
-/
import Derived.Test.YtnbnmomichegaaaDoorCorAtt
import Derived.Deep.RegionHeld3
namespace Go.Proofs.YtnbnmomichegaaaDoor
open Go.RowKit Utf
open Feat (Bs)
open Tagp (KV)

theorem info_pair : (Tryd.prog.info? 95).map (fun i => (i.zero, i.size, i.bytes)) = some (some (.agg #[.string ⟨#[]⟩, .string ⟨#[]⟩]), 2, 32) := by kernel_rfl
theorem prV_one (l : List KV) : ∀ u ∈ l.flatMap prV, u.oneCell' = true := by
  intro u hu
  rw [List.mem_flatMap] at hu
  obtain ⟨p, _, hp⟩ := hu
  unfold prV at hp
  simp at hp
  rcases hp with rfl | rfl <;> rfl
theorem Keys.src {w : World} {B : Nat} {A : Option Addr} {n c : Nat} {l : List KV} (h : Keys w B ⟨A, n, c⟩ l) : Src w A (l.flatMap prV) := by
  intro hp
  obtain ⟨g, o, e, _, hc⟩ := h.2.1.2 hp
  refine ⟨⟨g, o, none⟩, e, fun j u hj => ?_⟩
  have ea : (⟨g, o, none⟩ : Addr).add j = ⟨g, o + j, none⟩ := by unfold Addr.add; split <;> simp_all
  rw [ea]; exact hc j u hj
theorem ret_sl {A : Option Addr} {a b c : Nat} (h : a = b) : Ending.returned (.slice A a c) = .returned (.slice A b c) := by rw [h]
/-- A list of pairs of the call's own. -/
def Copied (l : List KV) (w : World) (e : Ending) (w' : World) : Prop :=
  ∃ A c, e = .returned (.slice A l.length c) ∧ w'.ownsRow w.heap.size 95 2 (.slice A l.length c) l.length (l.flatMap prV) ∧ Below w.heap.size w w'

/-- A region or a text of the call's own pairs. -/
def CopiedT (nm : Bs) (b e : Int) (l : List KV) (w : World) (en : Ending) (w' : World) : Prop :=
  ∃ A c, en = .returned (.agg #[str nm, .int .i64 b, .int .i64 e, .slice A l.length c]) ∧ w'.ownsRow w.heap.size 95 2 (.slice A l.length c) l.length (l.flatMap prV) ∧ Below w.heap.size w w'

end Go.Proofs.YtnbnmomichegaaaDoor
