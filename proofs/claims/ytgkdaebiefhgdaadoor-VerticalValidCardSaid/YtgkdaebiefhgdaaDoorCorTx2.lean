/-
  Plain: what valid texts are: they follow one another and cover all tokens. No conditions.
-/
import Derived.Test.YtgkdaebiefhgdaaDoorCorTxt
namespace Go.Proofs.YtgkdaebiefhgdaaDoor
open Cor (txF txErr endB textAt hdF hdErr cyc)
open Tagp (okName)

structure TextsOk (ts : List Cor.Txt) (n : Nat) : Prop where
  row : Row_ ts
  pos : ∀ t ∈ ts, 0 ≤ t.b
  top : ∀ t ∈ ts, t.e ≤ n
  cov : ∀ p : Int, 0 ≤ p → p < n → ∃ k, ∃ hk : k < ts.length, hits ts[k] p = true

theorem txF_ok {m : Nat} {l : List Cor.Txt} {k : Nat} (hk : k < l.length) (h : txF m l k = 0) : okName l[k].nm = true ∧ (l.take k).any (fun u => u.nm == l[k].nm) = false ∧ l[k].b = endB l k ∧ l[k].b < l[k].e ∧ l[k].e ≤ m ∧ (k + 1 = l.length → l[k].e = m) ∧ Cor.prErr l[k].ks = 0 := by
  rw [txF_at hk] at h
  by_cases h1 : okName l[k].nm = false
  · rw [if_pos h1] at h; omega
  rw [if_neg h1] at h
  by_cases h2 : (l.take k).any (fun u => u.nm == l[k].nm) = true
  · rw [if_pos h2] at h; omega
  rw [if_neg h2] at h
  by_cases h3 : l[k].b ≠ endB l k ∨ l[k].e ≤ l[k].b ∨ (m : Int) < l[k].e ∨ (k + 1 = l.length ∧ l[k].e ≠ m)
  · rw [if_pos h3] at h; omega
  rw [if_neg h3] at h
  refine ⟨by simpa using h1, by simpa using h2, Classical.byContradiction fun e => h3 (.inl e), Classical.byContradiction fun e => h3 (.inr (.inl (by omega))), Classical.byContradiction fun e => h3 (.inr (.inr (.inl (by omega)))), fun e => Classical.byContradiction fun e2 => h3 (.inr (.inr (.inr ⟨e, e2⟩))), h⟩
theorem endB_at {l : List Cor.Txt} {k : Nat} (h0 : 0 < k) (hk : k ≤ l.length) : endB l k = (l[k - 1]'(by omega)).e := by
  unfold endB; rw [if_neg (by omega), List.getElem?_eq_getElem (show k - 1 < l.length by omega)]

theorem texts_ok {m : Nat} {l : List Cor.Txt} (h : (txErr m l).2 = 0) : TextsOk l m ∧ l.length ≤ 64 := by
  unfold txErr at h
  by_cases h1 : 64 < l.length
  · rw [if_pos h1] at h; cases h
  rw [if_neg h1] at h
  by_cases h2 : ((l.length == 0) != (m == 0)) = true
  · rw [if_pos h2] at h; cases h
  rw [if_neg h2] at h
  have hz := Cor.first_zero 0 l.length h
  have ok : ∀ k (hk : k < l.length), _ := fun k hk => txF_ok hk (hz k (Nat.zero_le _) (by omega))
  have hle : ∀ i j (_ : i < j) (hj : j < l.length), l[i].e ≤ l[j].b := by
    intro i j hij hj
    induction j with
    | zero => omega
    | succ j ih =>
      have e1 := (ok (j + 1) hj).2.2.1
      rw [endB_at (by omega) (by omega)] at e1
      have e2 : l[j + 1 - 1]'(by omega) = l[j]'(by omega) := by congr 1
      by_cases e : i = j
      · subst e; rw [e1]; exact Int.le_refl _
      · have a := ih (by omega) (by omega)
        have b := (ok j (by omega)).2.2.2.1
        rw [e1]
        show l[i].e ≤ (l[j]'(by omega)).e
        omega
  have hpos : ∀ k (hk : k < l.length), 0 ≤ l[k].b := by
    intro k hk
    by_cases e : k = 0
    · subst e
      have := (ok 0 hk).2.2.1
      rw [this]; exact Int.le_refl _
    · have a := (ok 0 (by omega)).2.2.1
      have b := (ok 0 (by omega)).2.2.2.1
      have c := hle 0 k (by omega) hk
      have z : endB l 0 = 0 := rfl
      omega
  refine ⟨⟨fun i j hij hj => hle i j hij hj, fun t ht => ?_, fun t ht => ?_, fun p h0 hp => ?_⟩, by omega⟩
  · obtain ⟨k, hk, rfl⟩ := List.getElem_of_mem ht; exact hpos k hk
  · obtain ⟨k, hk, rfl⟩ := List.getElem_of_mem ht; exact (ok k hk).2.2.2.2.1
  · have hne : l.length ≠ 0 := by
      intro e
      rw [e] at h2
      have : m ≠ 0 := by omega
      simp [this] at h2
    have hlast : (l[l.length - 1]'(by omega)).e = m := (ok (l.length - 1) (by omega)).2.2.2.2.2.1 (by omega)
    obtain ⟨k, _, ⟨hk, hkp⟩, hmin⟩ := Dep.ex_least (p := fun k => ∃ hk : k < l.length, p < l[k].e) (n := l.length - 1) ⟨by omega, by omega⟩
    refine ⟨k, hk, ?_⟩
    unfold hits
    simp only [Bool.and_eq_true, decide_eq_true_eq]
    refine ⟨?_, hkp⟩
    have e1 := (ok k hk).2.2.1
    by_cases e : k = 0
    · subst e
      have z : endB l 0 = 0 := rfl
      omega
    · rw [endB_at (by omega) (by omega)] at e1
      have := hmin (k - 1) (by omega)
      have h3 : ¬ p < (l[k - 1]'(by omega)).e := fun h => this ⟨by omega, h⟩
      omega

theorem hdF_at {ts : List Cor.Txt} {h : List Int} {r : List Feat.Bs} {k : Nat} (h1 : k < h.length) (h2 : k < r.length) : hdF ts h r k = if h[k] ≠ -1 ∧ (h[k] < 0 ∨ (h.length : Int) ≤ h[k] ∨ textAt ts h[k] ≠ textAt ts k) then 8 else if r[k].isEmpty = false ∧ okName r[k] = false then 4 else if cyc h k = true then 12 else 0 := by
  unfold hdF; rw [List.getElem?_eq_getElem h1, List.getElem?_eq_getElem h2]
theorem hdErr_at {ts : List Cor.Txt} {h : List Int} {r : List Feat.Bs} {n k : Nat} (h1 : ¬ (h.length ≠ r.length ∨ (h.length ≠ 0 ∧ h.length ≠ n))) (h2 : ¬ (0 < h.length ∧ Cor.bare h r = true)) (hk : k < h.length) (hb : ∀ j, j < k → hdF ts h r j = 0) (hf : hdF ts h r k ≠ 0) : hdErr n ts h r = (k, hdF ts h r k) := by
  unfold hdErr; rw [if_neg h1, if_neg h2, Cor.first_at 0 h.length k (Nat.zero_le _) (by omega) (fun j _ hj => hb j hj) hf]
theorem hdErr_zero {ts : List Cor.Txt} {h : List Int} {r : List Feat.Bs} {n : Nat} (h1 : ¬ (h.length ≠ r.length ∨ (h.length ≠ 0 ∧ h.length ≠ n))) (h2 : ¬ (0 < h.length ∧ Cor.bare h r = true)) (hb : ∀ j, j < h.length → hdF ts h r j = 0) : hdErr n ts h r = (0, 0) := by
  unfold hdErr; rw [if_neg h1, if_neg h2, Cor.first_none 0 h.length (fun j _ hj => hb j (by omega))]
/-- A head outside of its token's text. -/
theorem out_iff {ts : List Cor.Txt} {n i : Nat} {x k : Int} (ho : TextsOk ts n) (hi : i < ts.length) (hk : hits ts[i] k = true) :
    (x < 0 ∨ (n : Int) ≤ x ∨ textAt ts x ≠ textAt ts k) ↔ (x < ts[i].b ∨ ts[i].e ≤ x) := by
  have hb := ho.pos _ (List.getElem_mem hi)
  have he := ho.top _ (List.getElem_mem hi)
  have hk2 := hits_one ho.row hi hk
  constructor
  · intro h
    refine Classical.byContradiction fun hc => ?_
    have hx : hits ts[i] x = true := by unfold hits; simp only [Bool.and_eq_true, decide_eq_true_eq]; omega
    have := hits_one ho.row hi hx
    rcases h with h | h | h
    · omega
    · omega
    · exact h (by omega)
  · intro h
    by_cases h0 : 0 ≤ x ∧ x < n
    · right; right
      intro e
      obtain ⟨j, hj, hjx⟩ := ho.cov x h0.1 h0.2
      have h2 := hits_one ho.row hj hjx
      have : j = i := by omega
      subst this
      unfold hits at hjx
      simp only [Bool.and_eq_true, decide_eq_true_eq] at hjx
      omega
    · omega
end Go.Proofs.YtgkdaebiefhgdaaDoor
