/-
  Plain laws of the check of nodes: ways up, depths, siblings. No conditions.
-/
import Derived.Test.YtgkdaebiefhgdaaDoorCorReg
namespace Go.Proofs.YtgkdaebiefhgdaaDoor.Cor
open Tagp (okName)

/-- The parents of the first k nodes lie before them. -/
def ParOk (l : List Nod) (k : Nat) : Prop := ∀ j (_ : j < k) (h : j < l.length), -1 ≤ l[j].p ∧ l[j].p < j
theorem par_at {l : List Nod} {j : Nat} (h : j < l.length) : par l (j : Nat) = l[j].p := by
  unfold par
  rw [if_pos (by omega), Int.toNat_natCast, List.getElem?_eq_getElem h]
theorem par_neg {l : List Nod} {k : Int} (h : k < 0) : par l k = -1 := by unfold par; rw [if_neg (by omega)]
theorem par_ok {l : List Nod} {n : Nat} (ho : ParOk l n) (hn : n ≤ l.length) {k : Int} (h0 : 0 ≤ k) (hk : k < n) : -1 ≤ par l k ∧ par l k < k := by
  have e : k = (k.toNat : Nat) := by omega
  rw [e, par_at (by omega)]
  exact ho k.toNat (by omega) (by omega)
theorem anc_end {l : List Nod} {p k : Int} (f : Nat) (h : k < 0 ∨ k = p) : anc l p f k = (k == p) := by
  cases f with
  | zero => rfl
  | succ f =>
    unfold anc
    by_cases h0 : k < 0
    · rw [if_pos h0]
    · rw [if_neg h0, if_pos (by omega)]
      have : k = p := by omega
      simp [this]
theorem anc_step {l : List Nod} {p k : Int} (f : Nat) (h0 : 0 ≤ k) (h : k ≠ p) : anc l p (f + 1) k = anc l p f (par l k) := by
  rw [anc, if_neg (by omega), if_neg h]
theorem anc_bound {l : List Nod} {n : Nat} (ho : ParOk l n) (hn : n ≤ l.length) {p : Int} : ∀ (f : Nat) (k : Int), -1 ≤ k → k < n → anc l p f k = true → -1 ≤ p ∧ p ≤ k
  | 0, k, h1, _, h => by unfold anc at h; simp at h; omega
  | f + 1, k, h1, h2, h => by
    by_cases e : k < 0 ∨ k = p
    · rw [anc_end _ e] at h; simp at h; omega
    · rw [anc_step f (by omega) (by omega)] at h
      have := par_ok ho hn (k := k) (by omega) h2
      have := anc_bound ho hn f (par l k) this.1 (by omega) h
      omega

theorem ndF_at {ts : List Txt} {l : List Nod} {k : Nat} (hk : k < l.length) : ndF ts l k = if okName l[k].lb = false then 4 else if within ts l[k].b l[k].e = false then 8 else if anc l l[k].p k ((k : Int) - 1) = false then 6
    else if 0 ≤ l[k].p ∧ (l[l[k].p.toNat]?).any (fun q => decide (l[k].b < q.b) || decide (q.e < l[k].e)) = true then 8 else if (sibE l[k].p (l.take k)).any (fun e => decide (l[k].b < e)) = true then 8 else if 40 < dep l (k + 1) k then 2 else 0 := by
  unfold ndF; rw [List.getElem?_eq_getElem hk]
theorem ndErr_at {ts : List Txt} {l : List Nod} {k : Nat} (h8 : ¬ 2048 < l.length) (hk : k < l.length) (h : ∀ j, j < k → ndF ts l j = 0) (hf : ndF ts l k ≠ 0) : ndErr ts l = (k, ndF ts l k) := by
  unfold ndErr; rw [if_neg h8, first_at 0 l.length k (Nat.zero_le _) (by omega) (fun j _ hj => h j hj) hf]
theorem ndErr_zero {ts : List Txt} {l : List Nod} (h8 : ¬ 2048 < l.length) (h : ∀ j, j < l.length → ndF ts l j = 0) : ndErr ts l = (0, 0) := by
  unfold ndErr; rw [if_neg h8, first_none 0 l.length (fun j _ hj => h j (by omega))]
theorem ndF_ok {ts : List Txt} {l : List Nod} {k : Nat} (hk : k < l.length) (h : ndF ts l k = 0) : okName l[k].lb = true ∧ within ts l[k].b l[k].e = true ∧ anc l l[k].p k ((k : Int) - 1) = true ∧
    (0 ≤ l[k].p → (l[l[k].p.toNat]?).any (fun q => decide (l[k].b < q.b) || decide (q.e < l[k].e)) = false) ∧ (sibE l[k].p (l.take k)).any (fun e => decide (l[k].b < e)) = false ∧ dep l (k + 1) k ≤ 40 := by
  rw [ndF_at hk] at h
  by_cases h1 : okName l[k].lb = false
  · rw [if_pos h1] at h; omega
  rw [if_neg h1] at h
  by_cases h2 : within ts l[k].b l[k].e = false
  · rw [if_pos h2] at h; omega
  rw [if_neg h2] at h
  by_cases h3 : anc l l[k].p k ((k : Int) - 1) = false
  · rw [if_pos h3] at h; omega
  rw [if_neg h3] at h
  by_cases h4 : 0 ≤ l[k].p ∧ (l[l[k].p.toNat]?).any (fun q => decide (l[k].b < q.b) || decide (q.e < l[k].e)) = true
  · rw [if_pos h4] at h; omega
  rw [if_neg h4] at h
  by_cases h5 : (sibE l[k].p (l.take k)).any (fun e => decide (l[k].b < e)) = true
  · rw [if_pos h5] at h; omega
  rw [if_neg h5] at h
  by_cases h6 : 40 < dep l (k + 1) k
  · rw [if_pos h6] at h; omega
  exact ⟨by simpa using h1, by simpa using h2, by simpa using h3, fun a => by
    cases hb : (l[l[k].p.toNat]?).any (fun q => decide (l[k].b < q.b) || decide (q.e < l[k].e)) with
    | false => rfl
    | true => exact absurd ⟨a, hb⟩ h4, by simpa using h5, by omega⟩
theorem parOk_step {l : List Nod} {k : Nat} (ho : ParOk l k) (hk : k < l.length) (h : anc l l[k].p k ((k : Int) - 1) = true) : ParOk l (k + 1) := by
  intro j hj hl
  by_cases e : j = k
  · subst e
    have := anc_bound ho (by omega) j ((j : Int) - 1) (by omega) (by omega) h
    omega
  · exact ho j (by omega) hl
theorem parOk_of {ts : List Txt} {l : List Nod} : ∀ {k : Nat}, k ≤ l.length → (∀ j, j < k → ndF ts l j = 0) → ParOk l k
  | 0, _, _ => fun j hj _ => by omega
  | k + 1, hk, h => parOk_step (parOk_of (by omega) fun j hj => h j (by omega)) (by omega) (ndF_ok (by omega) (h k (by omega))).2.2.1

/-- Depths. -/
theorem dep_fuel {l : List Nod} {n : Nat} (ho : ParOk l n) (hn : n ≤ l.length) : ∀ (f g : Nat) (k : Int), k < n → k + 1 ≤ f → k + 1 ≤ g → dep l f k = dep l g k
  | 0, 0, _, _, _, _ => rfl
  | 0, g + 1, k, h, h1, h2 => by rw [dep, dep, if_pos (by omega)]
  | f + 1, 0, k, h, h1, h2 => by rw [dep, dep, if_pos (by omega)]
  | f + 1, g + 1, k, h, h1, h2 => by
    rw [dep, dep]
    by_cases e : k < 0
    · rw [if_pos e, if_pos e]
    · rw [if_neg e, if_neg e]
      have := par_ok ho hn (k := k) (by omega) h
      rw [dep_fuel ho hn f g (par l k) (by omega) (by omega) (by omega)]
/-- The depth of a node, 0 of none. -/
def dp (l : List Nod) (k : Int) : Nat := dep l (k + 1).toNat k
theorem dp_neg {l : List Nod} {k : Int} (h : k < 0) : dp l k = 0 := by
  unfold dp; rw [show (k + 1).toNat = 0 by omega]; rfl
theorem dp_at {l : List Nod} {k : Nat} (ho : ParOk l (k + 1)) (hk : k < l.length) : dp l (k : Nat) = dp l l[k].p + 1 := by
  have hp := ho k (by omega) hk
  unfold dp
  rw [show ((k : Int) + 1).toNat = k + 1 by omega, dep, if_neg (by omega), par_at hk, dep_fuel ho (by omega) k (l[k].p + 1).toNat l[k].p (by omega) (by omega) (by omega)]
theorem dep_dp (l : List Nod) (k : Nat) : dep l (k + 1) k = dp l (k : Nat) := by unfold dp; rw [show ((k : Int) + 1).toNat = k + 1 by omega]

/-- Siblings. -/
theorem sibE_snoc (p : Int) (x : Nod) : ∀ l : List Nod, sibE p (l ++ [x]) = if x.p = p then some x.e else sibE p l
  | [] => by
    show sibE p [x] = _
    unfold sibE; by_cases e : x.p = p <;> simp [e, sibE]
  | y :: l => by
    show sibE p (y :: (l ++ [x])) = _
    rw [sibE, sibE_snoc p x l]
    by_cases e : x.p = p
    · rw [if_pos e, if_pos e]
    · rw [if_neg e, if_neg e, sibE]
theorem sibE_take {p : Int} {l : List Nod} {k : Nat} (hk : k < l.length) : sibE p (l.take (k + 1)) = if l[k].p = p then some l[k].e else sibE p (l.take k) := by
  rw [List.take_succ_eq_append_getElem hk, sibE_snoc]
/-- The end of the last child so far, 0 if there is none. -/
def lastE (l : List Nod) (k : Nat) (q : Int) : Int := (sibE q (l.take k)).getD 0
theorem lastE_zero (l : List Nod) (q : Int) : lastE l 0 q = 0 := rfl
theorem lastE_succ {l : List Nod} {k : Nat} (hk : k < l.length) (q : Int) : lastE l (k + 1) q = if l[k].p = q then l[k].e else lastE l k q := by
  unfold lastE; rw [sibE_take hk]; split <;> rfl
theorem lastE_any {l : List Nod} {k : Nat} {q b : Int} (hb : 0 ≤ b) : (sibE q (l.take k)).any (fun e => decide (b < e)) = decide (b < lastE l k q) := by
  unfold lastE
  cases h : sibE q (l.take k) with
  | none =>
    show false = decide (b < 0)
    rw [eq_comm, decide_eq_false_iff_not]; omega
  | some e => rfl
theorem within_pos {ts : List Txt} (h : ∀ t ∈ ts, 0 ≤ t.b) {b e : Int} (hw : within ts b e = true) : 0 ≤ b := by
  unfold within at hw
  rw [List.any_eq_true] at hw
  obtain ⟨t, ht, h2⟩ := hw
  have := h t ht
  simp only [Bool.and_eq_true, decide_eq_true_eq] at h2
  omega
end Go.Proofs.YtgkdaebiefhgdaaDoor.Cor
