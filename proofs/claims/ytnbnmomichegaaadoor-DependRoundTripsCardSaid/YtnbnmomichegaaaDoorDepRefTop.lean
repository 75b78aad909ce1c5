/-
  The contracts of the reference's Parse and SameStrings. Condition: the text's length is an int; lists' lengths are ints.
-/
import Derived.Test.YtnbnmomichegaaaDoorDepRefParse
import Derived.Test.YtnbnmomichegaaaDoorDepRefProj
import Derived.Test.YtnbnmomichegaaaDoorDepLaws4
namespace Go.Proofs.YtnbnmomichegaaaDoor
open Go.RowKit Utf Dep
open Feat (Bs)

namespace Dep
theorem parseD_ok (d : Bs) (T : Nat) : match parseD d T with
    | .ok (H', R', O') => H'.length ≤ T ∧ R'.length = H'.length ∧ O'.length = H'.length ∧ ∀ o ∈ O', o ≤ d.length
    | .error (x, e) => x ≤ d.length ∧ e ≠ 0 := by
  have := parseF_ok (T := T) (d.length + 1) 0 d [] [] [] (by simp) rfl rfl (fun o ho => by simp at ho)
  simp only [Nat.zero_add] at this
  exact this
theorem parseD_ne {d : Bs} {T a e : Nat} (h : parseD d T = .error (a, e)) : e ≠ 0 := by
  have := parseD_ok d T
  rw [h] at this
  exact this.2
theorem parseR_at (d : Bs) (T : Nat) (h : (parseR d T).2.2.2 ≠ 0) : (parseR d T).1 = [] ∧ (parseR d T).2.1 = [] ∧ (parseR d T).2.2.1 ≤ d.length := by
  have hok := parseD_ok d T
  cases hp : parseD d T with
  | error p =>
    obtain ⟨a, e⟩ := p
    rw [hp] at hok
    rw [parseR_err hp]
    exact ⟨rfl, rfl, hok.1⟩
  | ok p =>
    obtain ⟨H, R, O⟩ := p
    rw [hp] at hok
    obtain ⟨h1, h2, h3, h4⟩ := hok
    by_cases hf : H.length < T
    · rw [parseR_few hp hf]; exact ⟨rfl, rfl, Nat.le_refl _⟩
    · by_cases hc : (chk H).2 = 0
      · rw [parseR_ok hp hf hc] at h; exact absurd rfl h
      · rw [parseR_chk hp hf hc]
        refine ⟨rfl, rfl, ?_⟩
        show O.getD (chk H).1 0 ≤ _
        by_cases hi : (chk H).1 < O.length
        · have : O.getD (chk H).1 0 = O[(chk H).1] := by simp [hi]
          rw [this]
          exact h4 _ (List.getElem_mem hi)
        · have : O.getD (chk H).1 0 = 0 := by rw [List.getD_eq_getElem?_getD, List.getElem?_eq_none (by omega)]; rfl
          rw [this]; omega
theorem parseR_zero (d : Bs) (T : Nat) (h : (parseR d T).2.2.2 = 0) : (parseR d T).2.2.1 = 0 := by
  cases hp : parseD d T with
  | error p =>
    obtain ⟨a, e⟩ := p
    rw [parseR_err hp] at h
    exact absurd h (parseD_ne hp)
  | ok p =>
    obtain ⟨H, R, O⟩ := p
    by_cases hf : H.length < T
    · rw [parseR_few hp hf] at h; cases h
    · by_cases hc : (chk H).2 = 0
      · rw [parseR_ok hp hf hc]
      · rw [parseR_chk hp hf hc] at h; exact absurd h hc
theorem parseR_O (d : Bs) (T : Nat) : parseO d T = if (parseR d T).2.2.2 ≠ 0 then ([], [], Pos.posOf d (parseR d T).2.2.1, (parseR d T).2.2.2) else ((parseR d T).1, (parseR d T).2.1, (0, 0), 0) := by
  unfold parseO parseR
  cases hp : parseD d T with
  | error p =>
    obtain ⟨a, e⟩ := p
    simp only []
    by_cases he : e ≠ 0
    · rw [if_pos he]
    · exact absurd (parseD_ne hp) he
  | ok p =>
    obtain ⟨H, R, O⟩ := p
    simp only []
    by_cases h1 : H.length < T
    · rw [if_pos h1, if_pos h1]; rfl
    · rw [if_neg h1, if_neg h1]
      by_cases h2 : (chk H).2 ≠ 0
      · rw [if_pos h2, if_pos h2]; simp only []; rw [if_pos h2]
      · rw [if_neg h2, if_neg h2]; rfl
theorem parseO_bad {d : Bs} {T x e : Nat} (h : parseR d T = ([], [], x, e)) (he : e ≠ 0) : parseO d T = ([], [], Pos.posOf d x, e) := by
  rw [parseR_O, h]; exact if_pos he
theorem parseO_good {d : Bs} {T x : Nat} {H : List Int} {R : List Bs} (h : parseR d T = (H, R, x, 0)) : parseO d T = (H, R, (0, 0), 0) := by
  rw [parseR_O, h]; rfl
end Dep
theorem strs_inj {a b : List Bs} (h : a = b) : strs a = strs b := by rw [h]
attribute [local go_sem] byte_mk ByteArray.extract_mk

end Go.Proofs.YtnbnmomichegaaaDoor
