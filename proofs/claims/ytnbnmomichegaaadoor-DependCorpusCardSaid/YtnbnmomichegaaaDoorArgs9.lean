/-
  A law's arguments as lists of bytes, ints and lists of ints. No conditions.
-/
import Derived.Test.YtnbnmomichegaaaDoorRows
import Derived.Test.YtnbnmomichegaaaDoorBase6
import Derived.OpenShut
namespace Go.Proofs.YtnbnmomichegaaaDoor
open Go.ChangeShapes Go.WideShapes Go.ChangeAt Go.RowKit
open Go.ChangeMaps (open_string)

set_option maxRecDepth 100000 in
theorem ownKnobs : ownKnob Tryd.prog.godebug = none := by kernel_rfl
set_option maxRecDepth 100000 in
theorem laidOut : laidOutB Tryd.prog = true := by kernel_rfl

set_option maxRecDepth 100000 in
theorem str_arg {H : Type} {enc : TypeId × Value → H} {W : World} {base b : Nat} {sp : Nat → Bool} {held : Bool} {v : Value} {d : DataW H} {ps : List MemPlace} (hval : Value.okWide Tryd.prog W .any base 9 v) (h : DataW.Trod enc Tryd.prog W b sp held 9 v d ps) :
    ∃ l : List UInt8, v = str l ∧ l.length ≤ 9223372036854775807 := by
  obtain ⟨⟨⟨l⟩⟩, rfl, _, _, hs⟩ := open_string Tryd.underlying9 hval h
  refine ⟨l, rfl, ?_⟩
  have h1 : l.length ≤ maxLen := hs
  unfold maxLen at h1
  omega
set_option maxRecDepth 100000 in
theorem ints_arg {H : Type} {enc : TypeId × Value → H} {W : World} {base : Nat} {v : Value} {d : DataW H} {ps : List MemPlace} (hval : Value.okWide Tryd.prog W .any base 22 v) (h : DataW.Trod enc Tryd.prog W 0 (fun _ => true) true 22 v d ps) :
    ∃ A n c, ∃ l : List Int, v = .slice A n c ∧ n ≤ 9223372036854775807 ∧ Sl W W.heap.size 1 A n (ints l) := by
  obtain ⟨fuel, hf⟩ := h
  obtain ⟨a0, n0, c0, rfl⟩ := Go.WideShapes.okWide_slice Tryd.underlying22 hval
  rcases open_ints Tryd.underlying22 Tryd.underlying3 (by kernel_rfl) hf with ⟨hv, _⟩ | ⟨a, len, cap, zs, hv, _, hlc, hcm, hm, hx, hc, _⟩
  · refine ⟨none, 0, 0, [], ?_, by omega, ⟨rfl, fun h => by cases h⟩⟩
    simp [Value.cells] at hv
    simp [hv]
  · rw [if_pos rfl] at hm
    refine ⟨some a, len, cap, zs.take len, ?_, by unfold maxLen at hcm; omega, by simp [ints]; omega, fun hp => ?_⟩
    · simp [Value.cells] at hv
      simp [hv]
    · have hp' : 0 < len := by simp [ints] at hp; omega
      have h0 := hc 0 (by omega)
      obtain ⟨g, o, s⟩ := a
      have hs : s = none := by
        cases s with
        | none => rfl
        | some k =>
          simp only [World.cell?, Addr.add] at h0
          split at h0
          · simp at h0
          · cases h0
      subst hs
      have hg : g < W.heap.size := by
        by_cases hg : g < W.heap.size
        · exact hg
        · have h1 : W.heap[g]? = none := Array.getElem?_eq_none (by omega)
          simp [World.cell?, Addr.add, h1] at h0
      refine ⟨g, o, rfl, hg, fun j u hj => ?_⟩
      have hj' : j < len := by have := (List.getElem?_eq_some_iff.1 hj).1; simp [ints] at this; omega
      have ea : (⟨g, o, none⟩ : Addr).add j = ⟨g, o + j, none⟩ := by unfold Addr.add; split <;> simp_all
      have h2 := hc j (by omega)
      rw [ea] at h2
      rw [h2, ← hj]
      simp [ints, hj', show j < zs.length by omega]
end Go.Proofs.YtnbnmomichegaaaDoor
