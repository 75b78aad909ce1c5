/-
  A law's argument that is a tag, as a bool, a name and a list of pairs. No conditions.
-/
import Derived.Test.YteccopnlpllliaaArgs4
import Derived.Test.YteccopnlpllliaaMarkCheck
import Derived.Lib.SmallJoins
import Derived.Deep.SlicePairs
namespace Go.Proofs.Yteccopnlpllliaa
open Go.ChangeShapes Go.WideShapes Go.ChangeAt Go.RowKit Go.Joins

theorem tag_arg {H : Type} {enc : TypeId × Value → H} {W : World} {base : Nat} {v : Value} {d : DataW H} {ps : List MemPlace} (hval : Value.okWide Try.prog W .any base 33 v) (h : DataW.Trod enc Try.prog W 0 (fun _ => true) true 33 v d ps) :
    ∃ cl nm A n c, ∃ l : List Tagp.KV, v = .agg #[.bool cl, str nm, .slice A n c] ∧ n ≤ 9223372036854775807 ∧ n ≤ c ∧ nm.length ≤ 9223372036854775807 ∧ Short l ∧ Sl W W.heap.size 2 A n (prs l) := by
  obtain ⟨v0, v1, v2, y0, y1, y2, m, rfl, _, _, h0, h1, h2⟩ := open_agg3 Try.underlying33 (by kernel_rfl) (by kernel_rfl) hval h
  obtain ⟨cl, e0, _⟩ := DataW.trod_bool Try.underlying4 h0
  obtain ⟨nm, e1, _, hs⟩ := DataW.trod_string Try.underlying9 h1
  simp at e0 e1
  subst e0 e1
  have hnm : nm.data.toList.length ≤ 9223372036854775807 := by
    have : nm.size ≤ maxLen := hs
    unfold maxLen at this
    have e : nm.data.toList.length = nm.size := by rw [Array.length_toList]; rfl
    omega
  have hstr : Value.string nm = str nm.data.toList := by cases nm; simp
  rcases Go.Deep.open_slice_pairs Try.underlying31 Try.underlying52 (by kernel_rfl) rfl rfl (by kernel_rfl) (by kernel_rfl) h2 with ⟨hv, _⟩ | ⟨a, len, cap, m, n, V0, V1, D0, D1, P0, P1, hv, _, hlc, hcm, hm, _, hc⟩
  · simp at hv
    subst hv
    exact ⟨cl, _, none, 0, 0, [], by rw [hstr], by omega, Nat.le_refl _, hnm, fun k hk => by simp at hk, ⟨rfl, fun h => by cases h⟩⟩
  · simp at hv
    subst hv
    rw [if_pos rfl] at hm
    have each : ∀ i, i < m → ∃ s0 s1 : List UInt8, V0 i = str s0 ∧ V1 i = str s1 ∧ s0.length ≤ 9223372036854775807 ∧ s1.length ≤ 9223372036854775807 := by
      intro i hi
      obtain ⟨_, _, t0, t1⟩ := hc i hi
      obtain ⟨b0, f0, _, g0⟩ := DataW.trod_string Try.underlying9 t0
      obtain ⟨b1, f1, _, g1⟩ := DataW.trod_string Try.underlying9 t1
      simp at f0 f1
      refine ⟨b0.data.toList, b1.data.toList, by rw [f0], by rw [f1], ?_, ?_⟩
      · have : b0.size ≤ maxLen := g0
        unfold maxLen at this
        have e : b0.data.toList.length = b0.size := by rw [Array.length_toList]; rfl
        omega
      · have : b1.size ≤ maxLen := g1
        unfold maxLen at this
        have e : b1.data.toList.length = b1.size := by rw [Array.length_toList]; rfl
        omega
    obtain ⟨S0, hS0⟩ := Go.Deep.choose_lt each
    obtain ⟨S1, hS1⟩ := Go.Deep.choose_lt hS0
    refine ⟨cl, _, some a, len, cap, (List.range len).map fun i => (S0 i, S1 i), by rw [hstr], by unfold maxLen at hcm; omega, hlc, hnm, ?_, ?_, ?_⟩
    · intro k hk
      simp only [List.length_map, List.length_range] at hk
      simp only [List.getElem_map, List.getElem_range]
      exact (hS1 k (by omega)).2.2
    · rw [prs_len]; simp
    · intro hp
      have hp' : 0 < len := by rw [prs_len] at hp; simpa using hp
      have h0 := (hc 0 (by omega)).1
      obtain ⟨g, o, s⟩ := a
      have hs : s = none := by
        cases s with
        | none => rfl
        | some k =>
          simp only [World.cell?, Addr.add] at h0
          split at h0
          · simp at h0
          · cases h0
      subst hs
      have hg : g < W.heap.size := by
        by_cases hg : g < W.heap.size
        · exact hg
        · have h1 : W.heap[g]? = none := Array.getElem?_eq_none (by omega)
          simp [World.cell?, Addr.add, h1] at h0
      refine ⟨g, o, rfl, hg, fun j u hj => ?_⟩
      have hj' : j < len * 2 := by have := (List.getElem?_eq_some_iff.1 hj).1; rw [prs_len] at this; simpa using this
      have ea : ∀ i, (⟨g, o, none⟩ : Addr).add i = ⟨g, o + i, none⟩ := by intro i; unfold Addr.add; split <;> simp_all
      have hk : j / 2 < ((List.range len).map fun i => (S0 i, S1 i)).length := by simp; omega
      obtain ⟨p1, p2⟩ := prs_at ((List.range len).map fun i => (S0 i, S1 i)) (j / 2) hk
      simp only [List.getElem_map, List.getElem_range] at p1 p2
      have hcj := hc (j / 2) (by omega)
      have hsj := hS1 (j / 2) (by omega)
      rw [ea, ea] at hcj
      rcases Nat.mod_two_eq_zero_or_one j with e | e
      · have e2 : j = j / 2 * 2 := by omega
        rw [e2] at hj ⊢
        rw [p1] at hj
        rw [hcj.1, hsj.1, ← hj]
      · have e2 : j = j / 2 * 2 + 1 := by omega
        rw [e2] at hj ⊢
        rw [p2] at hj
        rw [← Nat.add_assoc] at hcj ⊢
        rw [hcj.2.1, hsj.2.1, ← hj]
end Go.Proofs.Yteccopnlpllliaa
