/-
 Several texts of this seat, one behind the other: CorTx2, CorReg, CorNod, CorCyc, CorBare. No conditions but those of each.
-/
import Derived.Test.YtgkdaebiefhgdaaGreatDoorPCorAtx
import Derived.Test.YtgkdaebiefhgdaaGreatDoorPCor
namespace Go.Proofs.YtgkdaebiefhgdaaGreatDoor
open Cor (txF txErr endB textAt hdF hdErr cyc)
open Tagp (okName)
structure TextsOk (ts : List Cor.Txt) (n : Nat) : Prop where
 row : Row_ ts
 pos : ∀ t ∈ ts, 0 ≤ t.b
 top : ∀ t ∈ ts, t.e ≤ n
 cov : ∀ p : Int, 0 ≤ p → p < n → ∃ k, ∃ hk : k < ts.length, hits ts[k] p = true

theorem txF_ok {m : Nat} {l : List Cor.Txt} {k : Nat} (hk : k < l.length) (h : txF m l k = 0) : okName l[k].nm = true ∧ (l.take k).any (fun u => u.nm == l[k].nm) = false ∧ l[k].b = endB l k ∧ l[k].b < l[k].e ∧ l[k].e ≤ m ∧ (k + 1 = l.length → l[k].e = m) ∧ Cor.prErr l[k].ks = 0 := by
 rw [txF_at hk] at h
 by_cases h1 : okName l[k].nm = false
 ·rw [if_pos h1] at h; omega
 rw [if_neg h1] at h
 by_cases h2 : (l.take k).any (fun u => u.nm == l[k].nm) = true
 ·rw [if_pos h2] at h; omega
 rw [if_neg h2] at h
 by_cases h3 : l[k].b ≠ endB l k ∨ l[k].e ≤ l[k].b ∨ (m : Int) < l[k].e ∨ (k + 1 = l.length ∧ l[k].e ≠ m)
 ·rw [if_pos h3] at h; omega
 rw [if_neg h3] at h
 refine ⟨by simpa using h1, by simpa using h2, Classical.byContradiction fun e => h3 (.inl e), Classical.byContradiction fun e => h3 (.inr (.inl (by omega))), Classical.byContradiction fun e => h3 (.inr (.inr (.inl (by omega)))), fun e => Classical.byContradiction fun e2 => h3 (.inr (.inr (.inr ⟨e, e2⟩))), h⟩
theorem endB_at {l : List Cor.Txt} {k : Nat} (h0 : 0 < k) (hk : k ≤ l.length) : endB l k = (l[k - 1]'(by omega)).e := by
 unfold endB; rw [if_neg (by omega), List.getElem?_eq_getElem (show k - 1 < l.length by omega)]

theorem texts_ok {m : Nat} {l : List Cor.Txt} (h : (txErr m l).2 = 0) : TextsOk l m ∧ l.length ≤ 64 := by
 unfold txErr at h
 by_cases h1 : 64 < l.length
 ·rw [if_pos h1] at h; cases h
 rw [if_neg h1] at h
 by_cases h2 : ((l.length == 0) != (m == 0)) = true
 ·rw [if_pos h2] at h; cases h
 rw [if_neg h2] at h
 have hz := Cor.first_zero 0 l.length h
 have ok : ∀ k (hk : k < l.length), _ := fun k hk => txF_ok hk (hz k (Nat.zero_le _) (by omega))
 have hle : ∀ i j (_ : i < j) (hj : j < l.length), l[i].e ≤ l[j].b := by
  intro i j hij hj
  induction j with
  | zero => omega
  | succ j ih =>
   have e1 := (ok (j + 1) hj).2.2.1
   rw [endB_at (by omega) (by omega)] at e1
   have e2 : l[j + 1 - 1]'(by omega) = l[j]'(by omega) := by congr 1
   by_cases e : i = j
   ·subst e; rw [e1]; exact Int.le_refl _
   ·have a := ih (by omega) (by omega)
    have b := (ok j (by omega)).2.2.2.1
    rw [e1]
    show l[i].e ≤ (l[j]'(by omega)).e
    omega
 have hpos : ∀ k (hk : k < l.length), 0 ≤ l[k].b := by
  intro k hk
  by_cases e : k = 0
  ·subst e
   have := (ok 0 hk).2.2.1
   rw [this]; exact Int.le_refl _
  ·have a := (ok 0 (by omega)).2.2.1
   have b := (ok 0 (by omega)).2.2.2.1
   have c := hle 0 k (by omega) hk
   have z : endB l 0 = 0 := rfl
   omega
 refine ⟨⟨fun i j hij hj => hle i j hij hj, fun t ht => ?_, fun t ht => ?_, fun p h0 hp => ?_⟩, by omega⟩
 ·obtain ⟨k, hk, rfl⟩ := List.getElem_of_mem ht; exact hpos k hk
 ·obtain ⟨k, hk, rfl⟩ := List.getElem_of_mem ht; exact (ok k hk).2.2.2.2.1
 ·have hne : l.length ≠ 0 := by
   intro e
   rw [e] at h2
   have : m ≠ 0 := by omega
   simp [this] at h2
  have hlast : (l[l.length - 1]'(by omega)).e = m := (ok (l.length - 1) (by omega)).2.2.2.2.2.1 (by omega)
  obtain ⟨k, _, ⟨hk, hkp⟩, hmin⟩ := Dep.ex_least (p := fun k => ∃ hk : k < l.length, p < l[k].e) (n := l.length - 1) ⟨by omega, by omega⟩
  refine ⟨k, hk, ?_⟩
  unfold hits
  simp only [Bool.and_eq_true, decide_eq_true_eq]
  refine ⟨?_, hkp⟩
  have e1 := (ok k hk).2.2.1
  by_cases e : k = 0
  ·subst e
   have z : endB l 0 = 0 := rfl
   omega
  ·rw [endB_at (by omega) (by omega)] at e1
   have := hmin (k - 1) (by omega)
   have h3 : ¬ p < (l[k - 1]'(by omega)).e := fun h => this ⟨by omega, h⟩
   omega

theorem hdF_at {ts : List Cor.Txt} {h : List Int} {r : List Feat.Bs} {k : Nat} (h1 : k < h.length) (h2 : k < r.length) : hdF ts h r k = if h[k] ≠ -1 ∧ (h[k] < 0 ∨ (h.length : Int) ≤ h[k] ∨ textAt ts h[k] ≠ textAt ts k) then 8 else if r[k].isEmpty = false ∧ okName r[k] = false then 4 else if cyc h k = true then 12 else 0 := by
 unfold hdF; rw [List.getElem?_eq_getElem h1, List.getElem?_eq_getElem h2]
theorem hdErr_at {ts : List Cor.Txt} {h : List Int} {r : List Feat.Bs} {n k : Nat} (h1 : ¬ (h.length ≠ r.length ∨ (h.length ≠ 0 ∧ h.length ≠ n))) (h2 : ¬ (0 < h.length ∧ Cor.bare h r = true)) (hk : k < h.length) (hb : ∀ j, j < k → hdF ts h r j = 0) (hf : hdF ts h r k ≠ 0) : hdErr n ts h r = (k, hdF ts h r k) := by
 unfold hdErr; rw [if_neg h1, if_neg h2, Cor.first_at 0 h.length k (Nat.zero_le _) (by omega) (fun j _ hj => hb j hj) hf]
theorem hdErr_zero {ts : List Cor.Txt} {h : List Int} {r : List Feat.Bs} {n : Nat} (h1 : ¬ (h.length ≠ r.length ∨ (h.length ≠ 0 ∧ h.length ≠ n))) (h2 : ¬ (0 < h.length ∧ Cor.bare h r = true)) (hb : ∀ j, j < h.length → hdF ts h r j = 0) : hdErr n ts h r = (0, 0) := by
 unfold hdErr; rw [if_neg h1, if_neg h2, Cor.first_none 0 h.length (fun j _ hj => hb j (by omega))]
theorem out_iff {ts : List Cor.Txt} {n i : Nat} {x k : Int} (ho : TextsOk ts n) (hi : i < ts.length) (hk : hits ts[i] k = true) :
  (x < 0 ∨ (n : Int) ≤ x ∨ textAt ts x ≠ textAt ts k) ↔ (x < ts[i].b ∨ ts[i].e ≤ x) := by
 have hb := ho.pos _ (List.getElem_mem hi)
 have he := ho.top _ (List.getElem_mem hi)
 have hk2 := hits_one ho.row hi hk
 constructor
 ·intro h
  refine Classical.byContradiction fun hc => ?_
  have hx : hits ts[i] x = true := by unfold hits; simp only [Bool.and_eq_true, decide_eq_true_eq]; omega
  have := hits_one ho.row hi hx
  rcases h with h | h | h
  ·omega
  ·omega
  ·exact h (by omega)
 ·intro h
  by_cases h0 : 0 ≤ x ∧ x < n
  ·right; right
   intro e
   obtain ⟨j, hj, hjx⟩ := ho.cov x h0.1 h0.2
   have h2 := hits_one ho.row hj hjx
   have : j = i := by omega
   subst this
   unfold hits at hjx
   simp only [Bool.and_eq_true, decide_eq_true_eq] at hjx
   omega
  ·omega
end Go.Proofs.YtgkdaebiefhgdaaGreatDoor
namespace Go.Proofs.YtgkdaebiefhgdaaGreatDoor.Cor
open Tagp (okName)
theorem rgF_at {ts : List Txt} {l : List Reg} {k : Nat} (hk : k < l.length) : rgF ts l k = if okName l[k].nm = false then 4 else if within ts l[k].b l[k].e = false then 8 else if prErr l[k].ks ≠ 0 then prErr l[k].ks
  else if 0 < k ∧ 0 < cmpR (l[k - 1]'(by omega)) l[k] then 6 else if (l.take k).any (fun y => crossR y l[k]) = true then 13 else if 40 < ((l.take (k + 1)).filter (coverR l[k])).length then 2 else 0 := by
 unfold rgF
 rw [List.getElem?_eq_getElem hk, List.getElem?_eq_getElem (show k - 1 < l.length by omega)]
 simp only [Option.any_some, decide_eq_true_eq]
theorem rgErr_at {ts : List Txt} {l : List Reg} {k : Nat} (h8 : ¬ 1024 < l.length) (hk : k < l.length) (h : ∀ j, j < k → rgF ts l j = 0) (hf : rgF ts l k ≠ 0) : rgErr ts l = (k, rgF ts l k) := by
 unfold rgErr; rw [if_neg h8, first_at 0 l.length k (Nat.zero_le _) (by omega) (fun j _ hj => h j hj) hf]
theorem rgErr_zero {ts : List Txt} {l : List Reg} (h8 : ¬ 1024 < l.length) (h : ∀ j, j < l.length → rgF ts l j = 0) : rgErr ts l = (0, 0) := by
 unfold rgErr; rw [if_neg h8, first_none 0 l.length (fun j _ hj => h j (by omega))]

theorem cmpR_b {x y : Reg} (h : ¬ 0 < cmpR x y) : x.b ≤ y.b := by
 rcases (show y.b < x.b ∨ x.b ≤ y.b by omega) with k | k
 ·exfalso; apply h
  have e : cmpI x.b y.b = 1 := by unfold cmpI; rw [if_neg (by omega), if_pos k]
  unfold cmpR
  rw [e]; simp
 ·exact k
theorem within_lt {ts : List Txt} {b e : Int} (h : within ts b e = true) : b < e := by
 unfold within at h
 rw [List.any_eq_true] at h
 obtain ⟨t, _, ht⟩ := h
 simp only [Bool.and_eq_true, decide_eq_true_eq] at ht
 omega
theorem rgF_ok {ts : List Txt} {l : List Reg} {k : Nat} (hk : k < l.length) (h : rgF ts l k = 0) : okName l[k].nm = true ∧ within ts l[k].b l[k].e = true ∧ prErr l[k].ks = 0 ∧ (0 < k → ¬ 0 < cmpR (l[k - 1]'(by omega)) l[k]) ∧
  (l.take k).any (fun y => crossR y l[k]) = false ∧ ((l.take (k + 1)).filter (coverR l[k])).length ≤ 40 := by
 rw [rgF_at hk] at h
 by_cases h1 : okName l[k].nm = false
 ·rw [if_pos h1] at h; omega
 rw [if_neg h1] at h
 by_cases h2 : within ts l[k].b l[k].e = false
 ·rw [if_pos h2] at h; omega
 rw [if_neg h2] at h
 by_cases h3 : prErr l[k].ks ≠ 0
 ·rw [if_pos h3] at h; exact absurd h h3
 rw [if_neg h3] at h
 by_cases h4 : 0 < k ∧ 0 < cmpR (l[k - 1]'(by omega)) l[k]
 ·rw [if_pos h4] at h; omega
 rw [if_neg h4] at h
 by_cases h5 : (l.take k).any (fun y => crossR y l[k]) = true
 ·rw [if_pos h5] at h; omega
 rw [if_neg h5] at h
 by_cases h6 : 40 < ((l.take (k + 1)).filter (coverR l[k])).length
 ·rw [if_pos h6] at h; omega
 exact ⟨by simpa using h1, by simpa using h2, by omega, fun a b => h4 ⟨a, b⟩, by simpa using h5, by omega⟩
def MonoB (l : List Reg) (k : Nat) : Prop := ∀ i j (_ : i ≤ j) (_ : j < k) (h : j < l.length), (l[i]'(by omega)).b ≤ l[j].b
theorem mono_step {l : List Reg} {k : Nat} (hk : k < l.length) (h : MonoB l k) (h2 : 0 < k → ¬ 0 < cmpR (l[k - 1]'(by omega)) l[k]) : MonoB l (k + 1) := by
 intro i j hij hj hl
 by_cases e : j = k
 ·subst e
  by_cases e2 : i = j
  ·subst e2; exact Int.le_refl _
  ·have := cmpR_b (h2 (by omega))
   have := h i (j - 1) (by omega) (by omega) (by omega)
   omega
 ·exact h i j hij (by omega) hl
theorem mono_ok {ts : List Txt} {l : List Reg} : ∀ {k : Nat}, k ≤ l.length → (∀ j, j < k → rgF ts l j = 0) → MonoB l k
 | 0, _, _ => fun i j _ hj _ => by omega
 | k + 1, hk, h => mono_step (by omega) (mono_ok (by omega) fun j hj => h j (by omega)) (rgF_ok (by omega) (h k (by omega))).2.2.2.1

def stil (l : List Reg) (k : Nat) (b : Int) : List Reg := (l.take k).filter fun y => decide (b < y.e)
theorem stil_again {l : List Reg} {k : Nat} {b c : Int} (h : b ≤ c) : (stil l k b).filter (fun y => decide (c < y.e)) = stil l k c := by
 unfold stil
 rw [List.filter_filter]
 congr 1
 funext y
 rw [Bool.eq_iff_iff]; simp; omega
def crossP (y x : Reg) : Bool := decide (y.b < x.b) && decide (x.b < y.e) && decide (y.e < x.e)
theorem cross_eq {y x : Reg} (h : y.b ≤ x.b) : crossR y x = (decide (x.b < y.e) && (y.nm == x.nm && crossP y x)) := by
 unfold crossR crossP
 cases y.nm == x.nm
 ·simp
 ·rw [Bool.eq_iff_iff]
  simp only [Bool.true_and, Bool.and_eq_true, decide_eq_true_eq, Bool.not_eq_true', Bool.and_eq_false_iff, decide_eq_false_iff_not]
  omega
theorem cross_any {l : List Reg} {k : Nat} (hk : k < l.length) (h : MonoB l (k + 1)) : (l.take k).any (fun y => crossR y l[k]) = (stil l k l[k].b).any fun y => y.nm == l[k].nm && crossP y l[k] := by
 unfold stil
 rw [List.any_filter, Bool.eq_iff_iff, List.any_eq_true, List.any_eq_true]
 have hb : ∀ y ∈ l.take k, y.b ≤ l[k].b := by
  intro y hy
  rw [List.mem_take_iff_getElem] at hy
  obtain ⟨j, hj, rfl⟩ := hy
  exact h j k (by omega) (by omega) hk
 constructor
 ·rintro ⟨y, hy, e⟩; exact ⟨y, hy, by rw [← cross_eq (hb y hy)]; exact e⟩
 ·rintro ⟨y, hy, e⟩; exact ⟨y, hy, by rw [cross_eq (hb y hy)]; exact e⟩
theorem open_next {l : List Reg} {k : Nat} (hk : k < l.length) (h : l[k].b < l[k].e) : stil l (k + 1) l[k].b = stil l k l[k].b ++ [l[k]] := by
 unfold stil
 rw [List.take_succ_eq_append_getElem hk, List.filter_append]
 simp [h]
theorem deep_eq {l : List Reg} {k : Nat} (hk : k < l.length) (h : MonoB l (k + 1)) (hlt : l[k].b < l[k].e) : ((l.take (k + 1)).filter (coverR l[k])).length = (stil l k l[k].b).length + 1 := by
 have e : (l.take (k + 1)).filter (coverR l[k]) = stil l (k + 1) l[k].b := by
  unfold stil
  apply List.filter_congr
  intro y hy
  rw [List.mem_take_iff_getElem] at hy
  obtain ⟨j, hj, rfl⟩ := hy
  have := h j k (by omega) (by omega) hk
  unfold coverR
  simp [this]
 rw [e, open_next hk hlt]; simp
end Go.Proofs.YtgkdaebiefhgdaaGreatDoor.Cor
namespace Go.Proofs.YtgkdaebiefhgdaaGreatDoor.Cor
open Tagp (okName)
def ParOk (l : List Nod) (k : Nat) : Prop := ∀ j (_ : j < k) (h : j < l.length), -1 ≤ l[j].p ∧ l[j].p < j
theorem par_at {l : List Nod} {j : Nat} (h : j < l.length) : par l (j : Nat) = l[j].p := by
 unfold par
 rw [if_pos (by omega), Int.toNat_natCast, List.getElem?_eq_getElem h]
theorem par_ok {l : List Nod} {n : Nat} (ho : ParOk l n) (hn : n ≤ l.length) {k : Int} (h0 : 0 ≤ k) (hk : k < n) : -1 ≤ par l k ∧ par l k < k := by
 have e : k = (k.toNat : Nat) := by omega
 rw [e, par_at (by omega)]
 exact ho k.toNat (by omega) (by omega)
theorem anc_end {l : List Nod} {p k : Int} (f : Nat) (h : k < 0 ∨ k = p) : anc l p f k = (k == p) := by
 cases f with
 | zero => rfl
 | succ f =>
  unfold anc
  by_cases h0 : k < 0
  ·rw [if_pos h0]
  ·rw [if_neg h0, if_pos (by omega)]
   have : k = p := by omega
   simp [this]
theorem anc_step {l : List Nod} {p k : Int} (f : Nat) (h0 : 0 ≤ k) (h : k ≠ p) : anc l p (f + 1) k = anc l p f (par l k) := by
 rw [anc, if_neg (by omega), if_neg h]
theorem anc_bound {l : List Nod} {n : Nat} (ho : ParOk l n) (hn : n ≤ l.length) {p : Int} : ∀ (f : Nat) (k : Int), -1 ≤ k → k < n → anc l p f k = true → -1 ≤ p ∧ p ≤ k
 | 0, k, h1, _, h => by unfold anc at h; simp at h; omega
 | f + 1, k, h1, h2, h => by
  by_cases e : k < 0 ∨ k = p
  ·rw [anc_end _ e] at h; simp at h; omega
  ·rw [anc_step f (by omega) (by omega)] at h
   have := par_ok ho hn (k := k) (by omega) h2
   have := anc_bound ho hn f (par l k) this.1 (by omega) h
   omega

theorem ndF_at {ts : List Txt} {l : List Nod} {k : Nat} (hk : k < l.length) : ndF ts l k = if okName l[k].lb = false then 4 else if within ts l[k].b l[k].e = false then 8 else if anc l l[k].p k ((k : Int) - 1) = false then 6
  else if 0 ≤ l[k].p ∧ (l[l[k].p.toNat]?).any (fun q => decide (l[k].b < q.b) || decide (q.e < l[k].e)) = true then 8 else if (sibE l[k].p (l.take k)).any (fun e => decide (l[k].b < e)) = true then 8 else if 40 < dep l (k + 1) k then 2 else 0 := by
 unfold ndF; rw [List.getElem?_eq_getElem hk]
theorem ndErr_at {ts : List Txt} {l : List Nod} {k : Nat} (h8 : ¬ 2048 < l.length) (hk : k < l.length) (h : ∀ j, j < k → ndF ts l j = 0) (hf : ndF ts l k ≠ 0) : ndErr ts l = (k, ndF ts l k) := by
 unfold ndErr; rw [if_neg h8, first_at 0 l.length k (Nat.zero_le _) (by omega) (fun j _ hj => h j hj) hf]
theorem ndErr_zero {ts : List Txt} {l : List Nod} (h8 : ¬ 2048 < l.length) (h : ∀ j, j < l.length → ndF ts l j = 0) : ndErr ts l = (0, 0) := by
 unfold ndErr; rw [if_neg h8, first_none 0 l.length (fun j _ hj => h j (by omega))]
theorem ndF_ok {ts : List Txt} {l : List Nod} {k : Nat} (hk : k < l.length) (h : ndF ts l k = 0) : okName l[k].lb = true ∧ within ts l[k].b l[k].e = true ∧ anc l l[k].p k ((k : Int) - 1) = true ∧
  (0 ≤ l[k].p → (l[l[k].p.toNat]?).any (fun q => decide (l[k].b < q.b) || decide (q.e < l[k].e)) = false) ∧ (sibE l[k].p (l.take k)).any (fun e => decide (l[k].b < e)) = false ∧ dep l (k + 1) k ≤ 40 := by
 rw [ndF_at hk] at h
 by_cases h1 : okName l[k].lb = false
 ·rw [if_pos h1] at h; omega
 rw [if_neg h1] at h
 by_cases h2 : within ts l[k].b l[k].e = false
 ·rw [if_pos h2] at h; omega
 rw [if_neg h2] at h
 by_cases h3 : anc l l[k].p k ((k : Int) - 1) = false
 ·rw [if_pos h3] at h; omega
 rw [if_neg h3] at h
 by_cases h4 : 0 ≤ l[k].p ∧ (l[l[k].p.toNat]?).any (fun q => decide (l[k].b < q.b) || decide (q.e < l[k].e)) = true
 ·rw [if_pos h4] at h; omega
 rw [if_neg h4] at h
 by_cases h5 : (sibE l[k].p (l.take k)).any (fun e => decide (l[k].b < e)) = true
 ·rw [if_pos h5] at h; omega
 rw [if_neg h5] at h
 by_cases h6 : 40 < dep l (k + 1) k
 ·rw [if_pos h6] at h; omega
 exact ⟨by simpa using h1, by simpa using h2, by simpa using h3, fun a => by
  cases hb : (l[l[k].p.toNat]?).any (fun q => decide (l[k].b < q.b) || decide (q.e < l[k].e)) with
  | false => rfl
  | true => exact absurd ⟨a, hb⟩ h4, by simpa using h5, by omega⟩
theorem parOk_step {l : List Nod} {k : Nat} (ho : ParOk l k) (hk : k < l.length) (h : anc l l[k].p k ((k : Int) - 1) = true) : ParOk l (k + 1) := by
 intro j hj hl
 by_cases e : j = k
 ·subst e
  have := anc_bound ho (by omega) j ((j : Int) - 1) (by omega) (by omega) h
  omega
 ·exact ho j (by omega) hl
theorem parOk_of {ts : List Txt} {l : List Nod} : ∀ {k : Nat}, k ≤ l.length → (∀ j, j < k → ndF ts l j = 0) → ParOk l k
 | 0, _, _ => fun j hj _ => by omega
 | k + 1, hk, h => parOk_step (parOk_of (by omega) fun j hj => h j (by omega)) (by omega) (ndF_ok (by omega) (h k (by omega))).2.2.1

theorem dep_fuel {l : List Nod} {n : Nat} (ho : ParOk l n) (hn : n ≤ l.length) : ∀ (f g : Nat) (k : Int), k < n → k + 1 ≤ f → k + 1 ≤ g → dep l f k = dep l g k
 | 0, 0, _, _, _, _ => rfl
 | 0, g + 1, k, h, h1, h2 => by rw [dep, dep, if_pos (by omega)]
 | f + 1, 0, k, h, h1, h2 => by rw [dep, dep, if_pos (by omega)]
 | f + 1, g + 1, k, h, h1, h2 => by
  rw [dep, dep]
  by_cases e : k < 0
  ·rw [if_pos e, if_pos e]
  ·rw [if_neg e, if_neg e]
   have := par_ok ho hn (k := k) (by omega) h
   rw [dep_fuel ho hn f g (par l k) (by omega) (by omega) (by omega)]
def dp (l : List Nod) (k : Int) : Nat := dep l (k + 1).toNat k
theorem dp_neg {l : List Nod} {k : Int} (h : k < 0) : dp l k = 0 := by
 unfold dp; rw [show (k + 1).toNat = 0 by omega]; rfl
theorem dp_at {l : List Nod} {k : Nat} (ho : ParOk l (k + 1)) (hk : k < l.length) : dp l (k : Nat) = dp l l[k].p + 1 := by
 have hp := ho k (by omega) hk
 unfold dp
 rw [show ((k : Int) + 1).toNat = k + 1 by omega, dep, if_neg (by omega), par_at hk, dep_fuel ho (by omega) k (l[k].p + 1).toNat l[k].p (by omega) (by omega) (by omega)]
theorem dep_dp (l : List Nod) (k : Nat) : dep l (k + 1) k = dp l (k : Nat) := by unfold dp; rw [show ((k : Int) + 1).toNat = k + 1 by omega]

theorem sibE_snoc (p : Int) (x : Nod) : ∀ l : List Nod, sibE p (l ++ [x]) = if x.p = p then some x.e else sibE p l
 | [] => by
  show sibE p [x] = _
  unfold sibE; by_cases e : x.p = p <;> simp [e, sibE]
 | y :: l => by
  show sibE p (y :: (l ++ [x])) = _
  rw [sibE, sibE_snoc p x l]
  by_cases e : x.p = p
  ·rw [if_pos e, if_pos e]
  ·rw [if_neg e, if_neg e, sibE]
theorem sibE_take {p : Int} {l : List Nod} {k : Nat} (hk : k < l.length) : sibE p (l.take (k + 1)) = if l[k].p = p then some l[k].e else sibE p (l.take k) := by
 rw [List.take_succ_eq_append_getElem hk, sibE_snoc]
def lastE (l : List Nod) (k : Nat) (q : Int) : Int := (sibE q (l.take k)).getD 0
theorem lastE_zero (l : List Nod) (q : Int) : lastE l 0 q = 0 := rfl
theorem lastE_succ {l : List Nod} {k : Nat} (hk : k < l.length) (q : Int) : lastE l (k + 1) q = if l[k].p = q then l[k].e else lastE l k q := by
 unfold lastE; rw [sibE_take hk]; split <;> rfl
theorem lastE_any {l : List Nod} {k : Nat} {q b : Int} (hb : 0 ≤ b) : (sibE q (l.take k)).any (fun e => decide (b < e)) = decide (b < lastE l k q) := by
 unfold lastE
 cases h : sibE q (l.take k) with
 | none =>
  show false = decide (b < 0)
  rw [eq_comm, decide_eq_false_iff_not]; omega
 | some e => rfl
theorem within_pos {ts : List Txt} (h : ∀ t ∈ ts, 0 ≤ t.b) {b e : Int} (hw : within ts b e = true) : 0 ≤ b := by
 unfold within at hw
 rw [List.any_eq_true] at hw
 obtain ⟨t, ht, h2⟩ := hw
 have := h t ht
 simp only [Bool.and_eq_true, decide_eq_true_eq] at h2
 omega
end Go.Proofs.YtgkdaebiefhgdaaGreatDoor.Cor
namespace Go.Proofs.YtgkdaebiefhgdaaGreatDoor
namespace Cor
open Dep
theorem nrm_len (h : List Int) : (nrm h).length = h.length := by simp [nrm]
theorem nrm_ok (h : List Int) : Ok (nrm h) := by
 intro x hx
 rw [nrm_len]
 unfold nrm at hx
 rw [List.mem_map] at hx
 obtain ⟨y, _, rfl⟩ := hx
 split <;> omega
theorem nrm_at {h : List Int} {i : Nat} (hi : i < h.length) : nx (nrm h) (i : Nat) = if 0 ≤ h[i] ∧ h[i] < h.length then h[i] else -1 := by
 rw [nx_at (by rw [nrm_len]; exact hi)]
 simp [nrm]
def At_ (h : List Int) (i k : Nat) (v : Int) : Prop := up (nrm h) k (i : Nat) = if 0 ≤ v ∧ v < h.length then v else -1
theorem at_start (h : List Int) {i : Nat} (hi : i < h.length) : At_ h i 0 (i : Nat) := by
 unfold At_; rw [if_pos (by omega)]; rfl
theorem at_step {h : List Int} {i k a : Nat} (hv : At_ h i k (a : Nat)) (ha : a < h.length) : At_ h i (k + 1) h[a] := by
 unfold At_ at hv ⊢
 rw [if_pos (by omega)] at hv
 rw [up_succ, hv, nrm_at ha]
theorem at_in {h : List Int} {i k a : Nat} (hv : At_ h i k (a : Nat)) (ha : a < h.length) : up (nrm h) k (i : Nat) = (a : Nat) := by
 unfold At_ at hv; rw [if_pos (by omega)] at hv; exact hv
theorem at_out {h : List Int} {i k : Nat} {v : Int} (hv : At_ h i k v) (hn : v < 0 ∨ (h.length : Int) ≤ v) : up (nrm h) k (i : Nat) < 0 := by
 unfold At_ at hv; rw [if_neg (by omega)] at hv; omega

structure Marks (h : Hs) (i : Nat) (seen : List Int) (out : List Bool) : Prop where
 len : seen.length = h.length
 olen : out.length = h.length
 bnd : ∀ x (hx : x < seen.length), 0 ≤ seen[x] ∧ seen[x] ≤ i
 zero : ∀ x (hx : x < seen.length), seen[x] = 0 ↔ ¬ R h i x
 on : ∀ x (hx : x < out.length), out[x] = true ↔ Cyc h x ∧ R h i x
theorem marks_start (h : Hs) : Marks h 0 (List.replicate h.length 0) (List.replicate h.length false) := by
 refine ⟨by simp, by simp, fun x hx => by simp, fun x hx => ?_, fun x hx => ?_⟩
 ·simp; rintro ⟨j, hj, _⟩; omega
 ·simp; rintro _ ⟨j, hj, _⟩; omega
theorem Marks.inv {h : Hs} {i : Nat} {seen : List Int} {out : List Bool} (hm : Marks h i seen out) : ∃ least, Inv h i seen least := by
 by_cases hS : ∃ n : Nat, Cyc h (n : Nat) ∧ R h i (n : Nat)
 ·obtain ⟨n, hn⟩ := hS
  obtain ⟨m, _, h2, h3⟩ := ex_least (p := fun n : Nat => Cyc h (n : Nat) ∧ R h i (n : Nat)) hn
  refine ⟨(m : Nat), hm.len, hm.bnd, hm.zero, .inr ⟨by omega, h2, fun x hx => ?_⟩⟩
  have h0 := hx.1.1
  rcases Nat.lt_or_ge x.toNat m with k | k
  ·exact absurd (by rw [show ((x.toNat : Nat) : Int) = x by omega]; exact hx) (h3 x.toNat k)
  ·omega
 ·refine ⟨-1, hm.len, hm.bnd, hm.zero, .inl ⟨rfl, fun x hx => hS ⟨x.toNat, ?_⟩⟩⟩
  have h0 := hx.1.1
  rw [show ((x.toNat : Nat) : Int) = x by omega]; exact hx
theorem marks_next {h : Hs} {i : Nat} {seen : List Int} {out' : List Bool} {least : Int} (hv : Inv h (i + 1) seen least) (hl : out'.length = h.length)
  (ho : ∀ x (hx : x < out'.length), out'[x] = true ↔ Cyc h x ∧ R h (i + 1) x) : Marks h (i + 1) seen out' :=
 ⟨hv.len, hl, hv.bnd, hv.zero, ho⟩
def Fresh (h : Hs) (i k : Nat) (seen0 : List Int) : Prop := ∀ m, m < k → ∀ a : Nat, up h m (i : Nat) = (a : Nat) → ∀ ha : a < seen0.length, seen0[a] = 0
theorem fresh_start (h : Hs) (i : Nat) (seen : List Int) : Fresh h i 0 seen := fun m hm => by omega
theorem fresh_step {h : Hs} {i k a : Nat} {seen0 seen : List Int} (hf : Fresh h i k seen0) (hn : Inn h i k seen0 seen) (ha : up h k (i : Nat) = (a : Nat)) (hl : a < seen.length) (hz : seen[a] = 0) : Fresh h i (k + 1) seen0 := by
 intro m hm b hb hbl
 by_cases e : m = k
 ·subst e
  have eb : b = a := by omega
  subst eb
  rcases hn.val b hl with ⟨_, e⟩ | ⟨_, e⟩
  ·omega
  ·rw [← e]; exact hz
 ·exact hf m (by omega) b hb hbl
theorem marks_neg {h : Hs} {i k : Nat} {seen0 seen : List Int} {out : List Bool} (hm : Marks h i seen0 out) (hn : Inn h i k seen0 seen) (hneg : up h k (i : Nat) < 0) : Marks h (i + 1) seen out := by
 obtain ⟨least, hv⟩ := hm.inv
 refine marks_next (inn_neg hv hn hneg) hm.olen fun x hx => (hm.on x hx).trans ?_
 rw [R_succ]
 constructor
 ·rintro ⟨h1, h2⟩; exact ⟨h1, .inl h2⟩
 ·rintro ⟨h1, h2 | ⟨m, hm⟩⟩
  ·exact ⟨h1, h2⟩
  ·exfalso
   have h3 := (cyc_step h1 k).1
   rw [← hm, ← up_add, Nat.add_comm, up_add] at h3
   have := up_neg (h := h) hneg m
   omega
theorem marks_old {h : Hs} {i k a : Nat} {seen0 seen : List Int} {out : List Bool} (hm : Marks h i seen0 out) (hn : Inn h i k seen0 seen) (ha : up h k (i : Nat) = (a : Nat)) (hl : a < seen.length)
  (h0 : seen[a] ≠ 0) (h1 : seen[a] ≠ i + 1) : Marks h (i + 1) seen out := by
 obtain ⟨least, hv⟩ := hm.inv
 have hr : R h i (a : Nat) := by
  rcases hn.val a hl with ⟨_, e⟩ | ⟨_, e⟩
  ·exact absurd e h1
  ·rw [e] at h0
   exact Classical.byContradiction fun hc => h0 ((hm.zero a (by have := hn.len; omega)).2 hc)
 refine marks_next (inn_old hv hn ha hl h0 h1) hm.olen fun x hx => (hm.on x hx).trans ?_
 rw [R_succ]
 constructor
 ·rintro ⟨h1, h2⟩; exact ⟨h1, .inl h2⟩
 ·rintro ⟨h1, h2 | ⟨m, hm⟩⟩
  ·exact ⟨h1, h2⟩
  ·obtain ⟨t, ht⟩ := cyc_far h1 hm k
   rw [ha] at ht
   exact ⟨h1, by rw [ht]; exact R_up hr t⟩
theorem marks_new {h : Hs} {i k a : Nat} {seen0 seen : List Int} {out : List Bool} (hm : Marks h i seen0 out) (hn : Inn h i k seen0 seen) (hf : Fresh h i k seen0) (hl : a < seen.length) (h1 : seen[a] = i + 1) :
  (∃ m, m < k ∧ up h m (i : Nat) = (a : Nat)) ∧ ∀ t b, up h t (a : Nat) = (b : Nat) → Cyc h (a : Nat) → ∀ hb : b < out.length, out[b] = false := by
 have hs : seen0.length = seen.length := hn.len.symm
 rcases hn.val a hl with ⟨hex, _⟩ | ⟨_, e⟩
 ·refine ⟨hex, fun t b hb hc hbl => ?_⟩
  cases ho : out[b] with
  | false => rfl
  | true =>
   exfalso
   obtain ⟨hcb, hr⟩ := (hm.on b hbl).1 ho
   -- a is reached again from b, so it was marked before
   obtain ⟨h0, p, hp⟩ := hc
   have hra : R h i (a : Nat) := by
    have h2 : up h ((p + 1) * t - t) (b : Nat) = (a : Nat) := by
     rw [← hb, ← up_add, show t + ((p + 1) * t - t) = (p + 1) * t by have := Nat.le_mul_of_pos_left t (show 0 < p + 1 by omega); omega, cyc_mul hp]
    rw [← h2]; exact R_up hr _
   obtain ⟨m, hmk, hma⟩ := hex
   have hz := hm.zero a (by omega)
   have hpos : seen0[a]'(by omega) ≠ 0 := fun e => (hz.1 e) hra
   -- but the way has passed a when its mark was 0
   have : seen0[a]'(by omega) = 0 := hf m hmk a hma (by omega)
   exact hpos this
 ·have := hm.bnd a (by omega)
  omega
theorem around {h : Hs} {a s t : Nat} (hc : Cyc h (a : Nat)) (hts : t < s) (e : up h t (a : Nat) = up h s (a : Nat)) : up h (s - t) (a : Nat) = (a : Nat) := by
 obtain ⟨h0, p, hp⟩ := hc
 have hle : t ≤ (p + 1) * t := Nat.le_mul_of_pos_left t (by omega)
 have h1 : up h ((p + 1) * t - t) (up h t (a : Nat)) = (a : Nat) := by rw [← up_add, show t + ((p + 1) * t - t) = (p + 1) * t by omega, cyc_mul hp]
 have h2 : up h ((p + 1) * t - t) (up h s (a : Nat)) = up h (s - t) (a : Nat) := by
  rw [← up_add, show s + ((p + 1) * t - t) = (p + 1) * t + (s - t) by omega, up_add, cyc_mul hp]
 rw [← h2, ← e, h1]
theorem marks_cyc {h : Hs} {i k a s t : Nat} {seen0 seen : List Int} {out out' : List Bool} (hm : Marks h i seen0 out) (hn : Inn h i k seen0 seen) (ha : up h k (i : Nat) = (a : Nat)) (hl : a < seen.length)
  (h1 : seen[a] = i + 1) (hts : t < s) (e : up h t (a : Nat) = up h s (a : Nat)) (hlen : out'.length = out.length)
  (hout : ∀ x (hx : x < out'.length), out'[x] = true ↔ (out[x]'(by omega) = true ∨ ∃ m, m < s ∧ up h m (a : Nat) = (x : Nat))) : Marks h (i + 1) seen out' := by
 obtain ⟨least, hv⟩ := hm.inv
 obtain ⟨m0, hm0, e0, ep⟩ := inn_on hv hn ha hl h1
 have hca : Cyc h (a : Nat) := ⟨by omega, k - m0 - 1, by rw [show k - m0 - 1 + 1 = k - m0 by omega]; exact ep⟩
 have hq := around hca hts e
 have hon : ∀ x (hx : x < out'.length), out'[x] = true ↔ Cyc h x ∧ R h (i + 1) x := by
  intro x hx
  rw [hout x hx, hm.on x (by omega), R_succ]
  constructor
  ·rintro (⟨h2, h3⟩ | ⟨m, _, e⟩)
   ·exact ⟨h2, .inl h3⟩
   ·exact ⟨e ▸ cyc_step hca m, .inr ⟨k + m, by rw [up_add, ha]; exact e⟩⟩
  ·rintro ⟨h2, h3 | ⟨m, hm⟩⟩
   ·exact .inl ⟨h2, h3⟩
   ·obtain ⟨u, hu⟩ := cyc_far h2 hm k
    rw [ha] at hu
    have hlt := Nat.mod_lt u (show 0 < s - t by omega)
    refine .inr ⟨u % (s - t), by omega, ?_⟩
    rw [hu]
    conv => rhs; rw [← Nat.div_add_mod u (s - t), up_add, cyc_mul hq]
 refine ⟨by rw [hn.len, hm.len], by rw [hlen, hm.olen], fun x hx => ?_, fun x hx => ?_, hon⟩
 ·rcases hn.val x hx with ⟨_, e⟩ | ⟨_, e⟩
  ·omega
  ·have := hm.bnd x (by have := hn.len; omega); omega
 ·have hx0 : x < seen0.length := by have := hn.len; omega
  have hz := hm.zero x hx0
  rw [R_succ]
  rcases hn.val x hx with ⟨⟨m, hm, hm2⟩, e⟩ | ⟨e1, e⟩
  ·constructor
   ·omega
   ·intro hc; exact absurd (.inr ⟨m, hm2⟩) hc
  ·rw [e, hz]
   constructor
   ·intro hr hc
    rcases hc with hc | ⟨m, hm⟩
    ·exact hr hc
    ·have key : ∀ m, up h m (i : Nat) = (x : Nat) → ∃ m', m' < k ∧ up h m' (i : Nat) = (x : Nat) := by
      intro m
      induction m using Nat.strongRecOn with
      | _ m ih =>
       intro hm
       by_cases e : k ≤ m
       ·have e1 : up h m (i : Nat) = up h (m0 + (m - k)) (i : Nat) := by
         rw [up_add h m0, e0, ← ha, ← up_add, show k + (m - k) = m by omega]
        rw [e1] at hm
        exact ih (m0 + (m - k)) (by omega) hm
       ·exact ⟨m, by omega, hm⟩
     exact e1 (key m hm)
   ·exact fun hc hr => hc (.inl hr)
theorem marks_done {h : List Int} {seen : List Int} {out : List Bool} (hm : Marks (nrm h) h.length seen out) : out = (List.range h.length).map fun i => cyc h i := by
 apply List.ext_getElem
 ·rw [hm.olen, nrm_len]; simp
 ·intro x h1 h2
  have hx : x < h.length := by simpa using h2
  rw [List.getElem_map, List.getElem_range, Bool.eq_iff_iff, hm.on x h1]
  unfold cyc
  rw [cyc_iff (nrm_ok h) (by rw [nrm_len]; exact hx)]
  exact ⟨fun h => h.1, fun hc => ⟨hc, x, hx, 0, rfl⟩⟩
end Cor
end Go.Proofs.YtgkdaebiefhgdaaGreatDoor
namespace Go.Proofs.YtgkdaebiefhgdaaGreatDoor
open Go.RowKit Utf
open Feat (Bs)
open Cor (bare cyc nrm At_)
theorem bare_no {h : List Int} {r : List Bs} {k : Nat} (hk : k < h.length) (e : h[k] ≠ -1) : bare h r = false := by
 unfold bare
 have : h.all (fun x => x == -1) = false := List.all_eq_false.2 ⟨h[k], List.getElem_mem hk, by simpa using e⟩
 rw [this]; rfl
theorem bare_no2 {h : List Int} {r : List Bs} {k : Nat} (hk : k < r.length) (e : r[k] ≠ []) : bare h r = false := by
 unfold bare
 have : r.all (fun s => s.isEmpty) = false := List.all_eq_false.2 ⟨r[k], List.getElem_mem hk, by simpa using e⟩
 rw [this, Bool.and_false]
theorem bare_yes {h : List Int} {r : List Bs} (h1 : ∀ k (hk : k < h.length), h[k] = -1) (h2 : ∀ k (hk : k < r.length), r[k] = []) : bare h r = true := by
 unfold bare
 rw [Bool.and_eq_true, List.all_eq_true, List.all_eq_true]
 refine ⟨fun x hx => ?_, fun x hx => ?_⟩
 ·obtain ⟨i, hi, rfl⟩ := List.getElem_of_mem hx; rw [h1 i hi]; rfl
 ·obtain ⟨i, hi, rfl⟩ := List.getElem_of_mem hx; rw [h2 i hi]; rfl

set_option maxRecDepth 100000 in
set_option maxHeartbeats 1600000 in
theorem noHeads_any (A : Option Addr) (n c : Nat) (A2 : Option Addr) (c2 : Nat) (h : List Int) (r : List Bs) (w : World) (hh : Nums w w.heap.size ⟨A, n, c⟩ h) (hr : Words w w.heap.size ⟨A2, n, c2⟩ r) :
  Calls Tryz.prog 134 #[.slice A n c, .slice A2 n c2] w (SameW (.bool (bare h r)) w) := by
 have HL := Lib.hid hh.len
 have HR := Lib.hid hr.len
 have f1 : n ≤ 9223372036854775807 := hh.1.2
 go_enter Tryz.func134, Tryz.ntmps134
 go_wp2
 go_loop [9] (fun iv => ∃ k : Nat, k ≤ n ∧ iv = .int .i64 k ∧ Hid (∀ j, j < k → (∀ hj : j < h.length, h[j] = -1) ∧ ∀ hj : j < r.length, r[j] = [])) (fun iv => n - (intOf iv).toNat)
 case atStart => exact ⟨0, by omega, rfl, fun j hj => by omega⟩
 case round =>
  obtain ⟨k, hk, rfl, hinv⟩ := hrel
  by_cases hlt : k < n
  ·obtain ⟨g, o, hk1, e0, hg, z0, c0⟩ := hh.at_ hlt
   have e0 : A = some ⟨g, o, none⟩ := e0
   subst e0
   obtain ⟨g2, o2, hk2, e0, hg2, z2, d0⟩ := hr.at_ hlt
   have e0 : A2 = some ⟨g2, o2, none⟩ := e0
   subst e0
   have HN1 := fun e => bare_no (r := r) hk1 e
   have HN2 := fun e => bare_no2 (h := h) hk2 e
   obtain ⟨x, hx⟩ : ∃ x, h[k] = x := ⟨_, rfl⟩
   obtain ⟨s, hs⟩ : ∃ s, r[k] = s := ⟨_, rfl⟩
   rw [hx] at c0 HN1 z0
   rw [hs] at d0 HN2 z2
   have HX := Lib.hid hx
   have HS := Lib.hid hs
   have HN1 := Lib.hid HN1
   have HN2 := Lib.hid HN2
   clear hx hs z0 z2
   by_cases e : x = -1
   ·subst e
    by_cases e2 : s = []
    ·subst e2
     have HI : Hid (∀ j, j < k + 1 → (∀ hj : j < h.length, h[j] = -1) ∧ ∀ hj : j < r.length, r[j] = []) := by
      intro j hj
      by_cases ej : j = k
      ·subst ej; exact ⟨fun _ => HX.out, fun _ => HS.out⟩
      ·exact hinv.out j (by omega)
     clear hinv HN1 HN2
     go_wp2
     go_round
     case rel => exact ⟨k + 1, by omega, by go_num, HI⟩
     case measure => simp [intOf]; omega
    ·have HF := Lib.hid (HN2.out e2)
     have E2 : s.isEmpty = false := by simpa using e2
     have E3 : (s == []) = false := by simpa using e2
     clear hinv HN1 HN2 e2
     go_wp2
     go_ret
     exact ⟨ret_bool HF.out.symm, rfl⟩
   ·have HF := Lib.hid (HN1.out e)
    have E := bne_t e
    clear hinv HN1 HN2 e
    go_wp2
    go_ret
    exact ⟨ret_bool HF.out.symm, rfl⟩
  ·have HF : Hid (bare h r = true) := bare_yes (fun j hj => (hinv.out j (by have : h.length = n := HL.out; omega)).1 hj) (fun j hj => (hinv.out j (by have : r.length = n := HR.out; omega)).2 hj)
   clear hinv
   go_wp2
   go_ret
   exact ⟨ret_bool HF.out.symm, rfl⟩
end Go.Proofs.YtgkdaebiefhgdaaGreatDoor
