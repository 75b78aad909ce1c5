/-
  The contract of the reference's Projective. Condition: the list's length is an int.
-/
import Derived.Test.YtnbnmomichegaaaDoorDepProj
namespace Go.Proofs.YtnbnmomichegaaaDoor
open Go.RowKit Dep

/-- A row without its first element. -/
theorem own_tail {w : World} {base n c : Nat} {A : Option Addr} {e : TypeId} {l : List Int} (h : w.ownsRow base e 1 (.slice A n c) n (ints l)) (hn : 1 ≤ n) : Sl w w.heap.size 1 (cutAt A 1 c 1) (n - 1) (ints (l.drop 1)) := by
  have hl : l.length = n := by simpa [ints] using h.1
  refine ⟨by simp [ints]; omega, fun hp => ?_⟩
  have hp' : 1 < n := by simp [ints] at hp; omega
  obtain ⟨g, cap, e, _, hg, hc⟩ := own_form h (by omega)
  injection e with e1 _ e3
  subst e1 e3
  refine ⟨g, 1, by rw [cutAt_in (by omega)], hg, fun j u hj => ?_⟩
  have hj' : 1 + j < l.length := by
    have := (List.getElem?_eq_some_iff.1 hj).1
    simp [ints] at this; omega
  rw [own_int h (1 + j) hj', ← hj]
  have hj2 : j + 1 < l.length := by omega
  simp [ints, hj2, Nat.add_comm 1 j]

end Go.Proofs.YtnbnmomichegaaaDoor
