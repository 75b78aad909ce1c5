/-
  The arguments of the laws over heads and relations, the three listed tables, a world that holds them. No conditions.
-/
import Derived.Test.YtnbnmomichegaaaDoorArgs9
import Derived.Test.YtnbnmomichegaaaDoorCards
import Derived.Test.YtnbnmomichegaaaDoorTie
import Derived.Deep.Strs
import Derived.Deep.DeepHandedRow
import Derived.Lib.LaidTab
import Derived.Lib.ItoaNum
import Derived.Stop.LaidErr
namespace Go.Proofs.YtnbnmomichegaaaDoor
set_option linter.unusedSimpArgs false
set_option linter.unusedVariables false
open Go.ChangeShapes Go.WideShapes Go.ChangeAt Go.RowKit

set_option maxRecDepth 100000 in
theorem strs_argL {H : Type} {enc : TypeId × Value → H} {W : World} {base : Nat} {v : Value} {d : DataW H} {ps : List MemPlace} (hval : Value.okWide Tryd.prog W .any base 23 v) (h : DataW.Trod enc Tryd.prog W 0 (fun _ => true) true 23 v d ps) :
    ∃ A n c, ∃ l : List (List UInt8), v = .slice A n c ∧ n ≤ 9223372036854775807 ∧ Sl W W.heap.size 1 A n (strs l) ∧ ∀ s ∈ l, s.length ≤ 9223372036854775807 := by
  obtain ⟨fuel, hf⟩ := h
  obtain ⟨a0, n0, c0, rfl⟩ := Go.WideShapes.okWide_slice Tryd.underlying23 hval
  rcases Go.Deep.open_strs Tryd.underlying23 Tryd.underlying9 (by kernel_rfl) hf with ⟨hv, _⟩ | ⟨a, len, cap, m, Sx, hv, _, hlc, hcm, hm, hx, hc⟩
  · refine ⟨none, 0, 0, [], ?_, by omega, ⟨rfl, fun h => by cases h⟩, fun s hs => by cases hs⟩
    simp [Value.cells] at hv
    simp [hv]
  · rw [if_pos rfl] at hm
    refine ⟨some a, len, cap, (List.range len).map fun i => (Sx i).data.toList, ?_, by unfold maxLen at hcm; omega, ⟨by simp [strs], fun hp => ?_⟩, fun s hs => ?_⟩
    · simp [Value.cells] at hv
      simp [hv]
    · have hp' : 0 < len := by simpa [strs] using hp
      have h0 := (hc 0 (by omega)).1
      obtain ⟨g, o, s⟩ := a
      have hs : s = none := by
        cases s with
        | none => rfl
        | some k =>
          simp only [World.cell?, Addr.add] at h0
          split at h0
          · simp at h0
          · cases h0
      subst hs
      have hg : g < W.heap.size := by
        by_cases hg : g < W.heap.size
        · exact hg
        · have h1 : W.heap[g]? = none := Array.getElem?_eq_none (by omega)
          simp [World.cell?, Addr.add, h1] at h0
      refine ⟨g, o, rfl, hg, fun j u hj => ?_⟩
      have hj' : j < len := by have := (List.getElem?_eq_some_iff.1 hj).1; simpa [strs] using this
      have ea : (⟨g, o, none⟩ : Addr).add j = ⟨g, o + j, none⟩ := by unfold Addr.add; split <;> simp_all
      have h2 := (hc j (by omega)).1
      rw [ea] at h2
      rw [h2, ← hj]
      simp [strs, hj']
    · obtain ⟨i, hi, rfl⟩ := List.mem_map.1 hs
      have h2 := (hc i (by have := List.mem_range.1 hi; omega)).2
      unfold maxLen at h2
      have : (Sx i).data.toList.length = (Sx i).size := by rw [Array.length_toList]; rfl
      omega

theorem gPow : Tryd.prog.globalNamed "internal/strconv.uint64pow10" = some 1 := by kernel_rfl
theorem gPowType : (Tryd.prog.globals[1]?).map (·.type) = some 107 := by kernel_rfl
theorem cellsPow : Tryd.prog.cellsOf 107 = 20 := by kernel_rfl
theorem cellsU64 : Tryd.prog.cellsOf 87 = 1 := by kernel_rfl
set_option maxRecDepth 100000 in
/-- What the row's list gives: the table of powers of ten. -/
theorem powTable {W : World} {x y : String × DataW Unit} (h : laidMet Tryd.prog [x, y, ("internal/strconv.uint64pow10", Rows.laid_internal_strconv_uint64pow10)] W) : Lib.TabIs Tryd.prog W "internal/strconv.uint64pow10" .u64 Lib.pow10Tab := by
  have h3 := h.tail.tail
  have e : (Rows.laid_internal_strconv_uint64pow10 : DataW Unit) = Lib.tabData .u64 Lib.pow10Tab := by rfl
  rw [e] at h3
  exact Lib.tabIs_of_head (rest := []) gPow gPowType Tryd.underlying107 Tryd.underlying87 cellsU64 cellsPow h3
/-- A world for the witness: the settled one, the three tables holding what their initialisers lay. -/
def refill (cs : Array Value) (o : Obj) : Obj :=
  match o with
  | .cells _ t frozen => .cells cs t frozen
  | x => x
noncomputable def laidHeap (h : Array Obj) : Array Obj :=
  ((h.modify 1 (refill #[.int .u64 1, .int .u64 10, .int .u64 100, .int .u64 1000, .int .u64 10000, .int .u64 100000, .int .u64 1000000, .int .u64 10000000, .int .u64 100000000, .int .u64 1000000000, .int .u64 10000000000, .int .u64 100000000000, .int .u64 1000000000000, .int .u64 10000000000000, .int .u64 100000000000000, .int .u64 1000000000000000, .int .u64 10000000000000000, .int .u64 100000000000000000, .int .u64 1000000000000000000, .int .u64 10000000000000000000])).modify 2 (refill #[.int .u8 0, .int .u8 1, .int .u8 28, .int .u8 2, .int .u8 29, .int .u8 14, .int .u8 24, .int .u8 3, .int .u8 30, .int .u8 22, .int .u8 20, .int .u8 15, .int .u8 25, .int .u8 17, .int .u8 4, .int .u8 8, .int .u8 31, .int .u8 27, .int .u8 13, .int .u8 23, .int .u8 21, .int .u8 19, .int .u8 16, .int .u8 7, .int .u8 26, .int .u8 12, .int .u8 18, .int .u8 6, .int .u8 11, .int .u8 5, .int .u8 10, .int .u8 9])).modify 3 (refill #[.int .u8 0, .int .u8 1, .int .u8 56, .int .u8 2, .int .u8 57, .int .u8 49, .int .u8 28, .int .u8 3, .int .u8 61, .int .u8 58, .int .u8 42, .int .u8 50, .int .u8 38, .int .u8 29, .int .u8 17, .int .u8 4, .int .u8 62, .int .u8 47, .int .u8 59, .int .u8 36, .int .u8 45, .int .u8 43, .int .u8 51, .int .u8 22, .int .u8 53, .int .u8 39, .int .u8 33, .int .u8 30, .int .u8 24, .int .u8 18, .int .u8 12, .int .u8 5, .int .u8 63, .int .u8 55, .int .u8 48, .int .u8 27, .int .u8 60, .int .u8 41, .int .u8 37, .int .u8 16, .int .u8 46, .int .u8 35, .int .u8 44, .int .u8 21, .int .u8 52, .int .u8 32, .int .u8 23, .int .u8 11, .int .u8 54, .int .u8 26, .int .u8 40, .int .u8 15, .int .u8 34, .int .u8 20, .int .u8 31, .int .u8 10, .int .u8 25, .int .u8 14, .int .u8 19, .int .u8 9, .int .u8 13, .int .u8 8, .int .u8 7, .int .u8 6])
noncomputable def laidWorld (os : Os) : World :=
  { World.holding Tryd.prog os ⟨#[], #[], []⟩ with heap := laidHeap (World.holding Tryd.prog os ⟨#[], #[], []⟩).heap }
end Go.Proofs.YtnbnmomichegaaaDoor
