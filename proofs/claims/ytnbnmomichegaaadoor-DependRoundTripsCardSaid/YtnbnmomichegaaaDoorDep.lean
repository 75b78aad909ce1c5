/-
  Plain words for heads: the way up, cycles, the check, the way as a list. No conditions.
-/
namespace Go.Proofs.YtnbnmomichegaaaDoor
namespace Dep

abbrev Hs := List Int
def nx (h : Hs) (i : Int) : Int := if 0 ≤ i then h.getD i.toNat (-1) else -1
def up (h : Hs) : Nat → Int → Int
  | 0, i => i
  | k + 1, i => up h k (nx h i)
def Ok (h : Hs) : Prop := ∀ x ∈ h, -1 ≤ x ∧ x < h.length
def bad (n : Nat) (x : Int) : Bool := decide (x < -1) || decide ((n : Int) ≤ x)

theorem up_succ (h : Hs) (k : Nat) (i : Int) : up h (k + 1) i = nx h (up h k i) := by
  induction k generalizing i with
  | zero => rfl
  | succ k ih => rw [up, ih]; rfl
theorem up_add (h : Hs) (k m : Nat) (i : Int) : up h (k + m) i = up h m (up h k i) := by
  induction k generalizing i with
  | zero => simp [up]
  | succ k ih => rw [show k + 1 + m = (k + m) + 1 by omega, up, ih]; rfl
theorem nx_neg {h : Hs} {i : Int} (hi : i < 0) : nx h i = -1 := by unfold nx; rw [if_neg (by omega)]
theorem nx_at {h : Hs} {i : Nat} (hi : i < h.length) : nx h (i : Nat) = h[i] := by unfold nx; rw [if_pos (by omega)]; simp [hi]
theorem nx_ok {h : Hs} (ho : Ok h) (i : Int) : -1 ≤ nx h i ∧ nx h i < h.length := by
  unfold nx
  split
  · by_cases hl : i.toNat < h.length
    · rw [List.getD_eq_getElem?_getD, List.getElem?_eq_getElem hl]; exact ho _ (List.getElem_mem hl)
    · rw [List.getD_eq_getElem?_getD, List.getElem?_eq_none (by omega)]; simp; omega
  · omega
theorem up_ok {h : Hs} (ho : Ok h) (k : Nat) (i : Int) (h1 : -1 ≤ i) (h2 : i < h.length) : -1 ≤ up h k i ∧ up h k i < h.length := by
  cases k with
  | zero => exact ⟨h1, h2⟩
  | succ k => rw [up_succ]; exact nx_ok ho _
theorem up_nat {h : Hs} (ho : Ok h) {i k : Nat} (hi : i < h.length) (h0 : 0 ≤ up h k (i : Nat)) : ∃ a : Nat, a < h.length ∧ up h k (i : Nat) = (a : Nat) := by
  have := up_ok ho k (i : Nat) (by omega) (by omega)
  exact ⟨(up h k (i : Nat)).toNat, by omega, by omega⟩
theorem up_neg {h : Hs} {i : Int} (hi : i < 0) (k : Nat) : up h k i < 0 := by
  cases k with
  | zero => exact hi
  | succ k => 
    have : ∀ k, up h k (-1) = -1 := by intro k; induction k with
      | zero => rfl
      | succ k ih => rw [up, nx_neg (by omega), ih]
    rw [up, nx_neg hi, this]; omega
theorem up_neg_le {h : Hs} {i : Int} {k m : Nat} (hk : up h k i < 0) (hm : k ≤ m) : up h m i < 0 := by
  rw [show m = k + (m - k) by omega, up_add]; exact up_neg hk _

/-- The way from i leads back to it. -/
def Cyc (h : Hs) (i : Int) : Prop := 0 ≤ i ∧ ∃ k, up h (k + 1) i = i
theorem cyc_mul {h : Hs} {i : Int} {p : Nat} (hp : up h p i = i) (t : Nat) : up h (p * t) i = i := by
  induction t with
  | zero => rfl
  | succ t ih => rw [Nat.mul_succ, up_add, ih, hp]
theorem cyc_step {h : Hs} {i : Int} (hc : Cyc h i) (m : Nat) : Cyc h (up h m i) := by
  obtain ⟨h0, k, hk⟩ := hc
  have hb : ∀ m, up h (k + 1) (up h m i) = up h m i := by intro m; rw [← up_add, Nat.add_comm, up_add, hk]
  refine ⟨?_, k, hb m⟩
  by_cases hn : up h m i < 0
  · exfalso
    have h1 := up_neg_le hn (show m ≤ (k + 1) * (m + 1) by rw [Nat.mul_add]; have := Nat.le_mul_of_pos_left m (show 0 < k + 1 by omega); omega)
    rw [cyc_mul hk] at h1; omega
  · omega

theorem nodup_bound : ∀ (n : Nat) (l : List Nat), l.Nodup → (∀ x ∈ l, x < n) → l.length ≤ n
  | 0, l, _, h => by
    cases l with
    | nil => simp
    | cons a l => have := h a (by simp); omega
  | n + 1, l, hd, h => by
    have h1 := nodup_bound n (l.filter (· ≠ n)) (hd.filter _) (by
      intro x hx
      simp only [List.mem_filter, decide_eq_true_eq] at hx
      have := h x hx.1; omega)
    have h2 : l.length ≤ (l.filter (· ≠ n)).length + 1 := by
      clear h h1
      induction l with
      | nil => simp
      | cons a l ih =>
        rw [List.nodup_cons] at hd
        by_cases e : a = n
        · have hf : l.filter (· ≠ n) = l := by
            rw [List.filter_eq_self]; intro x hx; simp only [decide_eq_true_eq]; rintro rfl; exact hd.1 (e ▸ hx)
          rw [List.filter_cons_of_neg (by simp [e]), hf]; simp
        · have := ih hd.2
          rw [List.filter_cons_of_pos (by simp [e])]; simp only [List.length_cons]; omega
    omega

/-- A way whose first k tokens are different ones among n. -/
theorem way_bound {h : Hs} (ho : Ok h) {i : Int} (h2 : i < h.length) {k : Nat} (hp : ∀ m, m < k → 0 ≤ up h m i) (hd : ∀ a b, a < b → b < k → up h a i ≠ up h b i) : k ≤ h.length := by
  have hok : ∀ m, m < k → up h m i < h.length := by
    intro m hm
    cases m with
    | zero => exact h2
    | succ m => rw [up_succ]; exact (nx_ok ho _).2
  have := nodup_bound h.length ((List.range k).map fun m => (up h m i).toNat) (by
    rw [List.Nodup, List.pairwise_map]
    refine List.Pairwise.imp_of_mem ?_ (List.pairwise_lt_range (n := k))
    intro a b ha hb hab e
    rw [List.mem_range] at ha hb
    have h1 := hp a ha
    have h2 := hp b hb
    exact hd a b hab hb (by omega)) (by
    intro x hx
    rw [List.mem_map] at hx
    obtain ⟨m, hm, rfl⟩ := hx
    rw [List.mem_range] at hm
    have h1 := hp m hm
    have h2 := hok m hm
    omega)
  simpa using this

theorem ex_least {p : Nat → Prop} {n : Nat} (hn : p n) : ∃ m, m ≤ n ∧ p m ∧ ∀ k, k < m → ¬ p k := by
  induction n using Nat.strongRecOn with
  | _ n ih =>
    by_cases hm : ∃ m, m < n ∧ p m
    · obtain ⟨m, hlt, hp⟩ := hm
      obtain ⟨k, h1, h2, h3⟩ := ih m hlt hp
      exact ⟨k, by omega, h2, h3⟩
    · exact ⟨n, Nat.le_refl _, hn, fun k hk hp => hm ⟨k, hk, hp⟩⟩

theorem period_le {h : Hs} (ho : Ok h) {i : Int} (hl : i < h.length) (hc : Cyc h i) : ∃ k, k < h.length ∧ up h (k + 1) i = i ∧ ∀ m, m < k → up h (m + 1) i ≠ i := by
  obtain ⟨h0, k, hk⟩ := hc
  obtain ⟨m, _, hm, hlt⟩ := ex_least (p := fun k => up h (k + 1) i = i) hk
  have hpos : ∀ j, 0 ≤ up h j i := fun j => (cyc_step ⟨h0, k, hk⟩ j).1
  refine ⟨m, way_bound ho hl (k := m + 1) (fun j _ => hpos j) ?_, hm, hlt⟩
  intro a b hab hb e
  -- then up (m+1-(b-a)) i = i, or so
  have h1 : up h (m + 1 - b) (up h b i) = i := by rw [← up_add, show b + (m + 1 - b) = m + 1 by omega]; exact hm
  rw [← e, ← up_add] at h1
  exact hlt (a + (m + 1 - b) - 1) (by omega) (by rw [show a + (m + 1 - b) - 1 + 1 = a + (m + 1 - b) by omega]; exact h1)

def cyc (h : Hs) (i : Nat) : Bool := (List.range h.length).any fun k => up h (k + 1) i == i
theorem cyc_iff {h : Hs} (ho : Ok h) {i : Nat} (hl : i < h.length) : cyc h i = true ↔ Cyc h i := by
  unfold cyc
  rw [List.any_eq_true]
  constructor
  · rintro ⟨k, _, hk⟩; exact ⟨by omega, k, by simpa using hk⟩
  · intro hc
    obtain ⟨k, h1, h2, _⟩ := period_le ho (by omega) hc
    exact ⟨k, by simpa using h1, by simpa using h2⟩

/-- The least index below n at which p holds, or none. -/
def fst (p : Nat → Bool) : Nat → Option Nat
  | 0 => none
  | n + 1 => match fst p n with | some i => some i | none => if p n then some n else none
theorem fst_none {p : Nat → Bool} {n : Nat} : fst p n = none ↔ ∀ i, i < n → p i = false := by
  induction n with
  | zero => simp [fst]
  | succ n ih =>
    rw [fst]
    cases hf : fst p n with
    | some i => 
      simp only [reduceCtorEq, false_iff]
      intro h
      rw [ih.2 (fun i hi => h i (by omega))] at hf; cases hf
    | none =>
      have h1 := ih.1 hf
      cases hp : p n with
      | true => simp only [if_true, reduceCtorEq, false_iff]; intro h; rw [h n (by omega)] at hp; cases hp
      | false => simp only [Bool.false_eq_true, if_false, true_iff]; intro i hi; by_cases e : i = n; exact e ▸ hp; exact h1 i (by omega)
theorem fst_some {p : Nat → Bool} {n m : Nat} : fst p n = some m ↔ m < n ∧ p m = true ∧ ∀ i, i < m → p i = false := by
  induction n with
  | zero => simp [fst]
  | succ n ih =>
    rw [fst]
    cases hf : fst p n with
    | some i =>
      rw [hf] at ih
      simp only [Option.some.injEq] at ih ⊢
      constructor
      · intro e; have := ih.1 e; exact ⟨by omega, this.2⟩
      · rintro ⟨h1, h2, h3⟩
        refine ih.2 ⟨?_, h2, h3⟩
        by_cases e : m = n
        · exfalso
          have h4 := (fst_none (p := p) (n := n)).2 (fun i hi => h3 i (by omega))
          rw [h4] at hf; cases hf
        · omega
    | none =>
      have h1 := fst_none.1 hf
      simp only []
      constructor
      · intro e
        cases hp : p n with
        | true => rw [hp] at e; cases e; exact ⟨by omega, hp, h1⟩
        | false => rw [hp] at e; cases e
      · rintro ⟨h2, h3, h4⟩
        by_cases e : m = n
        · subst e; rw [if_pos h3]
        · rw [h1 m (by omega)] at h3; cases h3

/-- What Check answers. -/
def chk (h : Hs) : Nat × Nat :=
  if 4096 < h.length then (0, 2) else
  match fst (fun i => bad h.length (h.getD i 0)) h.length with
  | some i => (i, 8)
  | none => match fst (cyc h) h.length with
    | some i => (i, 12)
    | none => (0, 0)

theorem ok_of {h : Hs} (hf : fst (fun i => bad h.length (h.getD i 0)) h.length = none) : Ok h := by
  intro x hx
  obtain ⟨i, hi, rfl⟩ := List.getElem_of_mem hx
  have := fst_none.1 hf i hi
  simp [bad, hi] at this
  omega
/-- Valid heads. -/
structure Good (h : Hs) : Prop where
  len : h.length ≤ 4096
  ok : Ok h
  none : ∀ i : Nat, i < h.length → ¬ Cyc h i
theorem chk_zero {h : Hs} : (chk h).2 = 0 ↔ Good h := by
  unfold chk
  constructor
  · intro e
    split at e
    · cases e
    · rename_i hl
      split at e
      · cases e
      · rename_i hf
        split at e
        · cases e
        · rename_i hc
          have ho := ok_of hf
          refine ⟨by omega, ho, fun i hi hcy => ?_⟩
          have := fst_none.1 hc i hi
          rw [(cyc_iff ho hi).2 hcy] at this; cases this
  · rintro ⟨h1, h2, h3⟩
    rw [if_neg (by omega)]
    have e1 : fst (fun i => bad h.length (h.getD i 0)) h.length = none := by
      rw [fst_none]; intro i hi
      have := h2 h[i] (List.getElem_mem hi)
      simp [bad, hi]; omega
    have e2 : fst (cyc h) h.length = none := by
      rw [fst_none]; intro i hi
      cases hc : cyc h i with
      | false => rfl
      | true => exact absurd ((cyc_iff h2 hi).1 hc) (h3 i hi)
    rw [e1, e2]
theorem chk_fst {h : Hs} (hg : Good h) : chk h = (0, 0) := by
  have h2 := chk_zero.2 hg
  have h3 : (chk h).1 = 0 := by
    unfold chk at h2 ⊢
    by_cases hl : 4096 < h.length
    · rw [if_pos hl]
    · rw [if_neg hl] at h2 ⊢
      cases hf : fst (fun i => bad h.length (h.getD i 0)) h.length with
      | some i => rw [hf] at h2; cases h2
      | none =>
        rw [hf] at h2
        cases hc : fst (cyc h) h.length with
        | some i => rw [hc] at h2; cases h2
        | none => rfl
  exact Prod.ext h3 h2
theorem chk_lt (h : Hs) : (chk h).1 = 0 ∨ (chk h).1 < h.length := by
  unfold chk
  split
  · exact .inl rfl
  · split
    · rename_i i hf; exact .inr (fst_some.1 hf).1
    · split
      · rename_i i hf; exact .inr (fst_some.1 hf).1
      · exact .inl rfl

theorem good_ends {h : Hs} (hg : Good h) {i : Int} (hl : i < h.length) : up h h.length i < 0 := by
  by_cases hn : up h h.length i < 0
  · exact hn
  · exfalso
    have hp : ∀ m, m < h.length + 1 → 0 ≤ up h m i := by
      intro m hm
      by_cases e : up h m i < 0
      · exact absurd (up_neg_le e (by omega)) hn
      · omega
    have hok : ∀ m, up h m i < h.length := by
      intro m
      cases m with
      | zero => exact hl
      | succ m => rw [up_succ]; exact (nx_ok hg.ok _).2
    have := way_bound hg.ok hl (k := h.length + 1) hp (by
      intro a b hab hb e
      have h1 := hp a (by omega)
      have h2 := hok a
      refine hg.none (up h a i).toNat (by omega) ⟨by omega, b - a - 1, ?_⟩
      rw [show ((up h a i).toNat : Int) = up h a i by omega, show b - a - 1 + 1 = b - a by omega, ← up_add, show a + (b - a) = b by omega]
      exact e.symm)
    omega

/-- A token and its ancestors. -/
def wayF (h : Hs) : Nat → Int → List Int
  | 0, _ => []
  | f + 1, i => if i < 0 then [] else i :: wayF h f (nx h i)
def way (h : Hs) (i : Int) : List Int := wayF h (h.length + 1) i
theorem wayF_more (h : Hs) : ∀ (f : Nat) (i : Int), up h f i < 0 → ∀ g, f ≤ g → wayF h g i = wayF h f i
  | 0, i, hi, g, _ => by
    have hi : i < 0 := hi
    cases g with
    | zero => rfl
    | succ g => exact if_pos hi
  | f + 1, i, hi, g, hg => by
    obtain ⟨g, rfl⟩ : ∃ k, g = k + 1 := ⟨g - 1, by omega⟩
    rw [wayF, wayF]
    split
    · rfl
    · rw [wayF_more h f (nx h i) hi g (by omega)]
theorem way_neg {h : Hs} {i : Int} (hi : i < 0) : way h i = [] := by unfold way; rw [wayF, if_pos hi]
theorem way_step {h : Hs} (hg : Good h) {i : Int} (h0 : 0 ≤ i) : way h i = i :: way h (nx h i) := by
  unfold way
  conv => lhs; rw [wayF, if_neg (by omega)]
  rw [wayF_more h h.length (nx h i) (good_ends hg (nx_ok hg.ok i).2) (h.length + 1) (by omega)]
theorem way_get {h : Hs} (hg : Good h) : ∀ (k : Nat) (i : Int), i < h.length → (way h i)[k]? = if 0 ≤ up h k i then some (up h k i) else none := by
  intro k
  induction k with
  | zero =>
    intro i hl
    by_cases h0 : 0 ≤ i
    · rw [way_step hg h0]; simp [up, h0]
    · rw [way_neg (by omega)]; simp [up, h0]
  | succ k ih =>
    intro i hl
    by_cases h0 : 0 ≤ i
    · rw [way_step hg h0, List.getElem?_cons_succ, ih _ (nx_ok hg.ok i).2]; rfl
    · rw [way_neg (by omega)]
      have := up_neg (h := h) (show i < 0 by omega) (k + 1)
      simp; omega
theorem way_len {h : Hs} (hg : Good h) {i : Int} (hl : i < h.length) : (way h i).length ≤ h.length := by
  have h1 := way_get hg h.length i hl
  have h2 := good_ends hg hl
  rw [if_neg (by omega)] at h1
  have := List.getElem?_eq_none_iff.1 h1
  omega
theorem way_at {h : Hs} (hg : Good h) {i : Int} (hl : i < h.length) {k : Nat} (hk : k < (way h i).length) : (way h i)[k] = up h k i ∧ 0 ≤ up h k i ∧ up h k i < h.length := by
  have h1 := way_get hg k i hl
  rw [List.getElem?_eq_getElem hk] at h1
  split at h1
  · have := Option.some.inj h1
    refine ⟨this, by assumption, ?_⟩
    cases k with
    | zero => exact hl
    | succ k => rw [up_succ]; exact (nx_ok hg.ok _).2
  · cases h1
theorem mem_way {h : Hs} (hg : Good h) {i : Int} (hl : i < h.length) {x : Int} : x ∈ way h i ↔ 0 ≤ x ∧ ∃ k, up h k i = x := by
  constructor
  · intro hx
    obtain ⟨k, hk, e⟩ := List.getElem_of_mem hx
    obtain ⟨h1, h2, h3⟩ := way_at hg hl hk
    exact ⟨by omega, k, by omega⟩
  · rintro ⟨h0, k, rfl⟩
    have := way_get hg k i hl
    rw [if_pos h0] at this
    exact List.mem_of_getElem? this
/-- On a way no token comes twice. -/
theorem up_inj {h : Hs} (hg : Good h) {i : Int} (hl : i < h.length) {a b : Nat} (h0 : 0 ≤ up h a i) (e : up h a i = up h b i) : a = b := by
  have key : ∀ a b, a < b → 0 ≤ up h a i → up h a i = up h b i → False := by
    intro a b hab h0 e
    have h2 : up h a i < h.length := by
      cases a with
      | zero => exact hl
      | succ m => rw [up_succ]; exact (nx_ok hg.ok _).2
    refine hg.none (up h a i).toNat (by omega) ⟨by omega, b - a - 1, ?_⟩
    rw [show ((up h a i).toNat : Int) = up h a i by omega, show b - a - 1 + 1 = b - a by omega, ← up_add, show a + (b - a) = b by omega]
    exact e.symm
  rcases Nat.lt_trichotomy a b with h1 | h1 | h1
  · exact (key a b h1 h0 e).elim
  · exact h1
  · exact (key b a h1 (by omega) e.symm).elim
end Dep
end Go.Proofs.YtnbnmomichegaaaDoor
