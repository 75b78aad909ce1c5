/-
  Plain laws of the check of regions: the open regions are those before that reach beyond a region's first token. No conditions.
-/
import Derived.Test.YtgkdaebiefhgdaaDoorCor
namespace Go.Proofs.YtgkdaebiefhgdaaDoor.Cor
open Tagp (okName)

theorem rgF_at {ts : List Txt} {l : List Reg} {k : Nat} (hk : k < l.length) : rgF ts l k = if okName l[k].nm = false then 4 else if within ts l[k].b l[k].e = false then 8 else if prErr l[k].ks ≠ 0 then prErr l[k].ks
    else if 0 < k ∧ 0 < cmpR (l[k - 1]'(by omega)) l[k] then 6 else if (l.take k).any (fun y => crossR y l[k]) = true then 13 else if 40 < ((l.take (k + 1)).filter (coverR l[k])).length then 2 else 0 := by
  unfold rgF
  rw [List.getElem?_eq_getElem hk, List.getElem?_eq_getElem (show k - 1 < l.length by omega)]
  simp only [Option.any_some, decide_eq_true_eq]
theorem rgErr_at {ts : List Txt} {l : List Reg} {k : Nat} (h8 : ¬ 1024 < l.length) (hk : k < l.length) (h : ∀ j, j < k → rgF ts l j = 0) (hf : rgF ts l k ≠ 0) : rgErr ts l = (k, rgF ts l k) := by
  unfold rgErr; rw [if_neg h8, first_at 0 l.length k (Nat.zero_le _) (by omega) (fun j _ hj => h j hj) hf]
theorem rgErr_zero {ts : List Txt} {l : List Reg} (h8 : ¬ 1024 < l.length) (h : ∀ j, j < l.length → rgF ts l j = 0) : rgErr ts l = (0, 0) := by
  unfold rgErr; rw [if_neg h8, first_none 0 l.length (fun j _ hj => h j (by omega))]

theorem cmpR_b {x y : Reg} (h : ¬ 0 < cmpR x y) : x.b ≤ y.b := by
  rcases (show y.b < x.b ∨ x.b ≤ y.b by omega) with k | k
  · exfalso; apply h
    have e : cmpI x.b y.b = 1 := by unfold cmpI; rw [if_neg (by omega), if_pos k]
    unfold cmpR
    rw [e]; simp
  · exact k
theorem within_lt {ts : List Txt} {b e : Int} (h : within ts b e = true) : b < e := by
  unfold within at h
  rw [List.any_eq_true] at h
  obtain ⟨t, _, ht⟩ := h
  simp only [Bool.and_eq_true, decide_eq_true_eq] at ht
  omega
/-- What a region without an error is. -/
theorem rgF_ok {ts : List Txt} {l : List Reg} {k : Nat} (hk : k < l.length) (h : rgF ts l k = 0) : okName l[k].nm = true ∧ within ts l[k].b l[k].e = true ∧ prErr l[k].ks = 0 ∧ (0 < k → ¬ 0 < cmpR (l[k - 1]'(by omega)) l[k]) ∧
    (l.take k).any (fun y => crossR y l[k]) = false ∧ ((l.take (k + 1)).filter (coverR l[k])).length ≤ 40 := by
  rw [rgF_at hk] at h
  by_cases h1 : okName l[k].nm = false
  · rw [if_pos h1] at h; omega
  rw [if_neg h1] at h
  by_cases h2 : within ts l[k].b l[k].e = false
  · rw [if_pos h2] at h; omega
  rw [if_neg h2] at h
  by_cases h3 : prErr l[k].ks ≠ 0
  · rw [if_pos h3] at h; exact absurd h h3
  rw [if_neg h3] at h
  by_cases h4 : 0 < k ∧ 0 < cmpR (l[k - 1]'(by omega)) l[k]
  · rw [if_pos h4] at h; omega
  rw [if_neg h4] at h
  by_cases h5 : (l.take k).any (fun y => crossR y l[k]) = true
  · rw [if_pos h5] at h; omega
  rw [if_neg h5] at h
  by_cases h6 : 40 < ((l.take (k + 1)).filter (coverR l[k])).length
  · rw [if_pos h6] at h; omega
  exact ⟨by simpa using h1, by simpa using h2, by omega, fun a b => h4 ⟨a, b⟩, by simpa using h5, by omega⟩
/-- The regions up to k begin in order. -/
def MonoB (l : List Reg) (k : Nat) : Prop := ∀ i j (_ : i ≤ j) (_ : j < k) (h : j < l.length), (l[i]'(by omega)).b ≤ l[j].b
theorem mono_step {l : List Reg} {k : Nat} (hk : k < l.length) (h : MonoB l k) (h2 : 0 < k → ¬ 0 < cmpR (l[k - 1]'(by omega)) l[k]) : MonoB l (k + 1) := by
  intro i j hij hj hl
  by_cases e : j = k
  · subst e
    by_cases e2 : i = j
    · subst e2; exact Int.le_refl _
    · have := cmpR_b (h2 (by omega))
      have := h i (j - 1) (by omega) (by omega) (by omega)
      omega
  · exact h i j hij (by omega) hl
theorem mono_ok {ts : List Txt} {l : List Reg} : ∀ {k : Nat}, k ≤ l.length → (∀ j, j < k → rgF ts l j = 0) → MonoB l k
  | 0, _, _ => fun i j _ hj _ => by omega
  | k + 1, hk, h => mono_step (by omega) (mono_ok (by omega) fun j hj => h j (by omega)) (rgF_ok (by omega) (h k (by omega))).2.2.2.1

def stil (l : List Reg) (k : Nat) (b : Int) : List Reg := (l.take k).filter fun y => decide (b < y.e)
theorem stil_again {l : List Reg} {k : Nat} {b c : Int} (h : b ≤ c) : (stil l k b).filter (fun y => decide (c < y.e)) = stil l k c := by
  unfold stil
  rw [List.filter_filter]
  congr 1
  funext y
  rw [Bool.eq_iff_iff]; simp; omega
def crossP (y x : Reg) : Bool := decide (y.b < x.b) && decide (x.b < y.e) && decide (y.e < x.e)
theorem cross_eq {y x : Reg} (h : y.b ≤ x.b) : crossR y x = (decide (x.b < y.e) && (y.nm == x.nm && crossP y x)) := by
  unfold crossR crossP
  cases y.nm == x.nm
  · simp
  · rw [Bool.eq_iff_iff]
    simp only [Bool.true_and, Bool.and_eq_true, decide_eq_true_eq, Bool.not_eq_true', Bool.and_eq_false_iff, decide_eq_false_iff_not]
    omega
theorem cross_any {l : List Reg} {k : Nat} (hk : k < l.length) (h : MonoB l (k + 1)) : (l.take k).any (fun y => crossR y l[k]) = (stil l k l[k].b).any fun y => y.nm == l[k].nm && crossP y l[k] := by
  unfold stil
  rw [List.any_filter, Bool.eq_iff_iff, List.any_eq_true, List.any_eq_true]
  have hb : ∀ y ∈ l.take k, y.b ≤ l[k].b := by
    intro y hy
    rw [List.mem_take_iff_getElem] at hy
    obtain ⟨j, hj, rfl⟩ := hy
    exact h j k (by omega) (by omega) hk
  constructor
  · rintro ⟨y, hy, e⟩; exact ⟨y, hy, by rw [← cross_eq (hb y hy)]; exact e⟩
  · rintro ⟨y, hy, e⟩; exact ⟨y, hy, by rw [cross_eq (hb y hy)]; exact e⟩
theorem open_next {l : List Reg} {k : Nat} (hk : k < l.length) (h : l[k].b < l[k].e) : stil l (k + 1) l[k].b = stil l k l[k].b ++ [l[k]] := by
  unfold stil
  rw [List.take_succ_eq_append_getElem hk, List.filter_append]
  simp [h]
theorem deep_eq {l : List Reg} {k : Nat} (hk : k < l.length) (h : MonoB l (k + 1)) (hlt : l[k].b < l[k].e) : ((l.take (k + 1)).filter (coverR l[k])).length = (stil l k l[k].b).length + 1 := by
  have e : (l.take (k + 1)).filter (coverR l[k]) = stil l (k + 1) l[k].b := by
    unfold stil
    apply List.filter_congr
    intro y hy
    rw [List.mem_take_iff_getElem] at hy
    obtain ⟨j, hj, rfl⟩ := hy
    have := h j k (by omega) (by omega) hk
    unfold coverR
    simp [this]
  rw [e, open_next hk hlt]; simp
end Go.Proofs.YtgkdaebiefhgdaaDoor.Cor
