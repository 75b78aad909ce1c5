/-
  The law DependValid: it returns true for every text and number. Condition: the text's length is an int.
-/
import Derived.Test.YtnbnmomichegaaaDoorDepAwake
namespace Go.Proofs.YtnbnmomichegaaaDoor
open Go.RowKit Utf Dep
open Feat (Bs)

namespace Dep
theorem parseF_ok {T : Nat} : ∀ (f a : Nat) (rest : Bs) (H : List Int) (R : List Bs) (O : List Nat), H.length ≤ T → R.length = H.length → O.length = H.length → (∀ o ∈ O, o ≤ a) →
    match parseF T f a rest H R O with
    | .ok (H', R', O') => H'.length ≤ T ∧ R'.length = H'.length ∧ O'.length = H'.length ∧ ∀ o ∈ O', o ≤ a + rest.length
    | .error (x, e) => x ≤ a + rest.length ∧ e ≠ 0
  | 0, a, rest, H, R, O, h1, h2, h3, h4 => ⟨h1, h2, h3, fun o ho => by have := h4 o ho; omega⟩
  | f + 1, a, rest, H, R, O, h1, h2, h3, h4 => by
    by_cases hr : rest = []
    · rw [hr, parseF_end]; exact ⟨h1, h2, h3, fun o ho => by have := h4 o ho; simp; omega⟩
    · by_cases hm : H.length = T
      · rw [parseF_many hr hm]; exact ⟨by omega, by decide⟩
      · have hl := ln_len rest
        by_cases he : (lineP (ln rest) T).2.2.2 = 0
        · rw [parseF_step hr hm he]
          have h0 : 0 < rest.length := by
            rcases Nat.eq_zero_or_pos rest.length with e | e
            · exact absurd (List.eq_nil_of_length_eq_zero e) hr
            · exact e
          have ih := parseF_ok (T := T) f (a + (ln rest).length + 1) (rest.drop ((ln rest).length + 1)) (H ++ [(lineP (ln rest) T).1]) (R ++ [(lineP (ln rest) T).2.1]) (O ++ [a]) (by simp; omega) (by simp [h2]) (by simp [h3]) (fun (o : Nat) (ho : o ∈ O ++ [a]) => by
            show o ≤ a + (ln rest).length + 1
            rcases List.mem_append.1 ho with h | h
            · have := h4 o h; omega
            · simp at h; omega)
          by_cases hle : (ln rest).length + 1 ≤ rest.length
          · have e : a + (ln rest).length + 1 + (rest.drop ((ln rest).length + 1)).length = a + rest.length := by simp; omega
            rw [e] at ih
            exact ih
          · have hdn : rest.drop ((ln rest).length + 1) = [] := List.drop_eq_nil_of_le (by omega)
            rw [hdn, parseF_end]
            refine ⟨by simp; omega, by simp [h2], by simp [h3], fun o ho => ?_⟩
            rcases List.mem_append.1 ho with h | h
            · have := h4 o h; omega
            · simp at h; omega
        · rw [parseF_bad hr hm he]
          have := lineP_at (ln rest) T
          exact ⟨by omega, he⟩
theorem parseA_valid {d : Bs} {T : Nat} (hT : T ≤ 4096) (hd : ¬ 1048576 < d.length) :
    ((parseA d (T : Nat)).2.2.2 = 0 → (chk (parseA d (T : Nat)).1).2 = 0 ∧ (parseA d (T : Nat)).1.length = T ∧ (parseA d (T : Nat)).2.1.length = T ∧ (parseA d (T : Nat)).2.2.1 = (0, 0)) ∧
    ((parseA d (T : Nat)).2.2.2 ≠ 0 → (parseA d (T : Nat)).1 = [] ∧ (parseA d (T : Nat)).2.1 = [] ∧ ∃ k, k ≤ d.length ∧ Pos.posOf d k = (parseA d (T : Nat)).2.2.1) := by
  rw [parseA_in hT hd]
  have hok := parseF_ok (T := T) (d.length + 1) 0 d [] [] [] (by simp) rfl rfl (fun o ho => by simp at ho)
  cases hp : parseD d T with
  | error p =>
    obtain ⟨x, e⟩ := p
    rw [show parseF T (d.length + 1) 0 d [] [] [] = .error (x, e) from hp] at hok
    rw [parseO_err hp]
    simp only [] at hok
    exact ⟨fun h => absurd h hok.2, fun _ => ⟨rfl, rfl, x, by omega, rfl⟩⟩
  | ok p =>
    obtain ⟨H, R, O⟩ := p
    rw [show parseF T (d.length + 1) 0 d [] [] [] = .ok (H, R, O) from hp] at hok
    simp only [] at hok
    obtain ⟨h1, h2, h3, h4⟩ := hok
    by_cases hf : H.length < T
    · rw [parseO_few hp hf]
      exact ⟨(fun h => by cases h), fun _ => ⟨rfl, rfl, d.length, Nat.le_refl _, rfl⟩⟩
    · by_cases hc : (chk H).2 = 0
      · rw [parseO_ok hp hf hc]
        exact ⟨fun _ => ⟨hc, by show H.length = T; omega, by show R.length = T; omega, rfl⟩, fun h => absurd rfl h⟩
      · rw [parseO_chk hp hf hc]
        refine ⟨fun h => absurd h hc, fun _ => ⟨rfl, rfl, O.getD (chk H).1 0, ?_, rfl⟩⟩
        by_cases hi : (chk H).1 < O.length
        · have : O.getD (chk H).1 0 = O[(chk H).1] := by simp [hi]
          rw [this]
          have := h4 _ (List.getElem_mem hi)
          omega
        · have : O.getD (chk H).1 0 = 0 := by rw [List.getD_eq_getElem?_getD, List.getElem?_eq_none (by omega)]; rfl
          rw [this]; omega
end Dep
attribute [local go_sem] byte_mk ByteArray.extract_mk

end Go.Proofs.YtnbnmomichegaaaDoor
