/-
  Plain: a valid corpus said without indices where that can be; its heads laid full, and packed again. No conditions.
-/
import Derived.Test.YtgkdaebiefhgdaaDoorCorVfs
import Derived.Test.YtgkdaebiefhgdaaDoorCorOrd
namespace Go.Proofs.YtgkdaebiefhgdaaDoor
set_option linter.unusedSimpArgs false
set_option linter.unusedVariables false
open Cor (C Nod Txt Reg atErr tkErr txErr rgErr ndErr hdErr check valid within prErr par anc sibE dep ParOk allH allL bare mvT mvR mvN mvH cmpR crossR coverR)
open Tagp (okName)
open Feat (Bs)

/-! Texts. -/
def Chain : Int → List Txt → Int → Prop
  | u, [], n => u = n
  | u, t :: l, n => t.b = u ∧ t.b < t.e ∧ Chain t.e l n
def pe (u : Int) (l : List Txt) (k : Nat) : Int := ((u :: l.map Txt.e)[k]?).getD 0
theorem pe_zero (u : Int) (l : List Txt) : pe u l 0 = u := rfl
theorem pe_cons (u : Int) (t : Txt) (l : List Txt) (k : Nat) : pe u (t :: l) (k + 1) = pe t.e l k := rfl
theorem pe_succ {u : Int} {l : List Txt} {k : Nat} (hk : k < l.length) : pe u l (k + 1) = l[k].e := by
  unfold pe; rw [List.getElem?_cons_succ, List.getElem?_map, List.getElem?_eq_getElem hk]; rfl
theorem chain_idx {n : Int} : ∀ {l : List Txt} {u : Int}, Chain u l n ↔ (∀ k (hk : k < l.length), l[k].b = pe u l k ∧ l[k].b < l[k].e) ∧ pe u l l.length = n
  | [], u => ⟨fun h => ⟨fun k hk => (by cases hk), h⟩, fun h => h.2⟩
  | t :: l, u => by
    have ih := chain_idx (n := n) (l := l) (u := t.e)
    constructor
    · rintro ⟨h1, h2, h3⟩
      rw [ih] at h3
      refine ⟨fun k hk => ?_, h3.2⟩
      cases k with
      | zero => exact ⟨h1, h2⟩
      | succ k => exact h3.1 k (by simpa using hk)
    · rintro ⟨h1, h2⟩
      refine ⟨(h1 0 (by simp)).1, (h1 0 (by simp)).2, ih.2 ⟨fun k hk => h1 (k + 1) (by simpa using hk), h2⟩⟩
theorem chain_app {n : Int} {m : List Txt} : ∀ {l : List Txt} {u : Int}, Chain u (l ++ m) n ↔ ∃ v, Chain u l v ∧ Chain v m n
  | [], u => ⟨fun h => ⟨u, rfl, h⟩, fun ⟨v, h1, h2⟩ => by cases h1; exact h2⟩
  | t :: l, u => by
    show (t.b = u ∧ t.b < t.e ∧ Chain t.e (l ++ m) n) ↔ _
    rw [chain_app]
    exact ⟨fun ⟨a, b, v, c, d⟩ => ⟨v, ⟨a, b, c⟩, d⟩, fun ⟨v, ⟨a, b, c⟩, d⟩ => ⟨a, b, v, c, d⟩⟩
theorem chain_mv {k n : Int} : ∀ {l : List Txt} {u : Int}, Chain (u + k) (l.map (mvT k)) (n + k) ↔ Chain u l n
  | [], u => by show u + k = n + k ↔ u = n; omega
  | t :: l, u => by
    show (t.b + k = u + k ∧ t.b + k < t.e + k ∧ Chain (t.e + k) (l.map (mvT k)) (n + k)) ↔ (t.b = u ∧ t.b < t.e ∧ Chain t.e l n)
    rw [chain_mv]
    constructor <;> rintro ⟨a, b, c⟩ <;> exact ⟨by omega, by omega, c⟩
theorem chain_end {n v : Int} : ∀ {l : List Txt} {u : Int}, Chain u l n → Chain u l v → n = v
  | [], u, h1, h2 => by cases h1; cases h2; rfl
  | t :: l, u, h1, h2 => chain_end h1.2.2 h2.2.2
theorem chain_bd {n : Int} : ∀ {l : List Txt} {u : Int}, Chain u l n → u ≤ n ∧ ∀ t ∈ l, u ≤ t.b ∧ t.b < t.e ∧ t.e ≤ n
  | [], u, h => by cases h; exact ⟨Int.le_refl _, fun t ht => (by cases ht)⟩
  | t :: l, u, h => by
    have ih := chain_bd h.2.2
    have h1 := h.1
    have h2 := h.2.1
    refine ⟨by omega, fun t' ht => ?_⟩
    rcases List.mem_cons.1 ht with e | e
    · subst e; omega
    · have := ih.2 t' e; omega
theorem chain_pw {n : Int} : ∀ {l : List Txt} {u : Int}, Chain u l n → l.Pairwise (fun a b => a.e ≤ b.b)
  | [], u, h => List.Pairwise.nil
  | t :: l, u, h => List.Pairwise.cons (fun t' ht => ((chain_bd h.2.2).2 t' ht).1) (chain_pw h.2.2)

structure TxC (n : Nat) (l : List Txt) : Prop where
  len : l.length ≤ 64
  row : Chain 0 l n
  one : ∀ t ∈ l, okName t.nm = true ∧ prErr t.ks = 0
  dis : l.Pairwise (fun t u => t.nm ≠ u.nm)
theorem endB_pe {l : List Txt} {k : Nat} (hk : k ≤ l.length) : Cor.endB l k = pe 0 l k := by
  cases k with
  | zero => rfl
  | succ k => rw [endB_at (by omega) hk, pe_succ (by omega)]; simp
theorem txC_iff {n : Nat} {l : List Txt} : (txErr n l).2 = 0 ↔ TxC n l := by
  constructor
  · intro h
    have hb := texts_ok h
    unfold txErr at h
    rw [if_neg (by omega)] at h
    by_cases h2 : ((l.length == 0) != (n == 0)) = true
    · rw [if_pos h2] at h; cases h
    rw [if_neg h2] at h
    have hz := Cor.first_zero 0 l.length h
    have ok : ∀ k (hk : k < l.length), _ := fun k hk => txF_ok hk (hz k (Nat.zero_le _) (by omega))
    refine ⟨hb.2, chain_idx.2 ⟨fun k hk => ⟨?_, (ok k hk).2.2.2.1⟩, ?_⟩, fun t ht => ?_, ?_⟩
    · rw [← endB_pe (by omega)]; exact (ok k hk).2.2.1
    · cases hl : l.length with
      | zero =>
        rw [hl] at h2
        have : n = 0 := by
          rcases Nat.eq_zero_or_pos n with e | e
          · exact e
          · exfalso; apply h2; have : n ≠ 0 := by omega
            simp [this]
        subst this; rfl
      | succ m => rw [pe_succ (by omega)]; exact (ok m (by omega)).2.2.2.2.2.1 (by omega)
    · obtain ⟨k, hk, rfl⟩ := List.getElem_of_mem ht
      exact ⟨(ok k hk).1, (ok k hk).2.2.2.2.2.2⟩
    · rw [List.pairwise_iff_getElem]
      intro i j hi hj hij e
      have := (ok j hj).2.1
      rw [List.any_eq_false] at this
      exact this l[i] (List.mem_take_iff_getElem.2 ⟨i, by omega, rfl⟩) (by simpa using e)
  · rintro ⟨h1, h2, h3, h4⟩
    have hi := chain_idx.1 h2
    have hbd := chain_bd h2
    unfold txErr
    rw [if_neg (by omega), if_neg]
    · rw [Cor.first_none 0 l.length]
      intro j _ hj
      have hj : j < l.length := by omega
      rw [txF_at hj, if_neg (by rw [(h3 _ (List.getElem_mem hj)).1]; simp), if_neg, if_neg]
      · exact (h3 _ (List.getElem_mem hj)).2
      · have a := hi.1 j hj
        have b := hbd.2 _ (List.getElem_mem hj)
        rw [← endB_pe (by omega)] at a
        rintro (c | c | c | ⟨c, d⟩)
        · exact c a.1
        · omega
        · omega
        · have := hi.2
          rw [← c, pe_succ hj] at this
          exact d this
      · intro hc
        rw [List.any_eq_true] at hc
        obtain ⟨u, hu, e⟩ := hc
        rw [List.mem_take_iff_getElem] at hu
        obtain ⟨i, hi2, rfl⟩ := hu
        exact List.pairwise_iff_getElem.1 h4 i j (by omega) hj (by omega) (by simpa using e)
    · have := hi.2
      cases l with
      | nil =>
        have : (0 : Int) = n := h2
        have : n = 0 := by omega
        subst this; simp
      | cons t l =>
        have := hbd.2 t (by simp)
        have : n ≠ 0 := by omega
        simp [this]

/-! Regions. -/
structure RgC (ts : List Txt) (l : List Reg) : Prop where
  len : l.length ≤ 1024
  one : ∀ x ∈ l, okName x.nm = true ∧ within ts x.b x.e = true ∧ prErr x.ks = 0
  pw : l.Pairwise (fun y x => cmpR y x ≤ 0 ∧ crossR y x = false)
  cov : ∀ k (hk : k < l.length), ((l.take (k + 1)).filter (coverR l[k])).length ≤ 40
theorem rgC_iff {ts : List Txt} {l : List Reg} : (rgErr ts l).2 = 0 ↔ RgC ts l := by
  constructor
  · intro h
    unfold rgErr at h
    by_cases h1 : 1024 < l.length
    · rw [if_pos h1] at h; cases h
    rw [if_neg h1] at h
    have hz := Cor.first_zero 0 l.length h
    have ok : ∀ k (hk : k < l.length), _ := fun k hk => Cor.rgF_ok hk (hz k (Nat.zero_le _) (by omega))
    refine ⟨by omega, fun x hx => ?_, ?_, fun k hk => (ok k hk).2.2.2.2.2⟩
    · obtain ⟨k, hk, rfl⟩ := List.getElem_of_mem hx
      exact ⟨(ok k hk).1, (ok k hk).2.1, (ok k hk).2.2.1⟩
    · rw [List.pairwise_iff_getElem]
      have hc : ∀ j (hj : j < l.length) i (hi : i < j), cmpR (l[i]'(by omega)) l[j] ≤ 0 := by
        intro j
        induction j with
        | zero => intro _ i hi; omega
        | succ j ih =>
          intro hj i hi
          have a := (ok (j + 1) hj).2.2.2.1 (by omega)
          have b : cmpR l[j] l[j + 1] ≤ 0 := by simpa using a
          by_cases e : i = j
          · subst e; exact b
          · exact ord_R.tr _ _ _ (ih (by omega) i (by omega)) b
      intro i j hi hj hij
      refine ⟨hc j hj i hij, ?_⟩
      have := (ok j hj).2.2.2.2.1
      rw [List.any_eq_false] at this
      simpa using this l[i] (List.mem_take_iff_getElem.2 ⟨i, by omega, rfl⟩)
  · rintro ⟨h1, h2, h3, h4⟩
    unfold rgErr
    rw [if_neg (by omega), Cor.first_none 0 l.length]
    intro k _ hk
    have hk : k < l.length := by omega
    have a := h2 _ (List.getElem_mem hk)
    rw [Cor.rgF_at hk, if_neg (by rw [a.1]; simp), if_neg (by rw [a.2.1]; simp), if_neg (by rw [a.2.2]; simp), if_neg, if_neg, if_neg]
    · have := h4 k hk; omega
    · intro hc
      rw [List.any_eq_true] at hc
      obtain ⟨u, hu, e⟩ := hc
      rw [List.mem_take_iff_getElem] at hu
      obtain ⟨i, hi2, rfl⟩ := hu
      have := (List.pairwise_iff_getElem.1 h3 i k (by omega) hk (by omega)).2
      rw [this] at e; cases e
    · rintro ⟨c, d⟩
      have := (List.pairwise_iff_getElem.1 h3 (k - 1) k (by omega) hk (by omega)).1
      omega

/-! Nodes. -/
structure NdC (ts : List Txt) (l : List Nod) : Prop where
  len : l.length ≤ 2048
  one : ∀ x ∈ l, okName x.lb = true ∧ within ts x.b x.e = true
  anc : ∀ k (hk : k < l.length), anc l l[k].p k ((k : Int) - 1) = true
  par : ∀ k (hk : k < l.length), 0 ≤ l[k].p → (l[l[k].p.toNat]?).any (fun q => decide (l[k].b < q.b) || decide (q.e < l[k].e)) = false
  sib : ∀ k (hk : k < l.length), (sibE l[k].p (l.take k)).any (fun e => decide (l[k].b < e)) = false
  dep : ∀ k (hk : k < l.length), dep l (k + 1) k ≤ 40
theorem ndC_iff {ts : List Txt} {l : List Nod} : (ndErr ts l).2 = 0 ↔ NdC ts l := by
  constructor
  · intro h
    unfold ndErr at h
    by_cases h1 : 2048 < l.length
    · rw [if_pos h1] at h; cases h
    rw [if_neg h1] at h
    have hz := Cor.first_zero 0 l.length h
    have ok : ∀ k (hk : k < l.length), _ := fun k hk => Cor.ndF_ok hk (hz k (Nat.zero_le _) (by omega))
    refine ⟨by omega, fun x hx => ?_, fun k hk => (ok k hk).2.2.1, fun k hk => (ok k hk).2.2.2.1, fun k hk => (ok k hk).2.2.2.2.1, fun k hk => (ok k hk).2.2.2.2.2⟩
    obtain ⟨k, hk, rfl⟩ := List.getElem_of_mem hx
    exact ⟨(ok k hk).1, (ok k hk).2.1⟩
  · rintro ⟨h1, h2, h3, h4, h5, h6⟩
    unfold ndErr
    rw [if_neg (by omega), Cor.first_none 0 l.length]
    intro k _ hk
    have hk : k < l.length := by omega
    have a := h2 _ (List.getElem_mem hk)
    rw [Cor.ndF_at hk, if_neg (by rw [a.1]; simp), if_neg (by rw [a.2]; simp), if_neg (by rw [h3 k hk]; simp), if_neg, if_neg (by rw [h5 k hk]; simp), if_neg (by have := h6 k hk; omega)]
    rintro ⟨c, d⟩
    rw [h4 k hk c] at d; cases d
theorem NdC.pok {ts : List Txt} {l : List Nod} (h : NdC ts l) : ParOk l l.length := by
  have : ∀ k, k ≤ l.length → ParOk l k := by
    intro k
    induction k with
    | zero => intro _ j hj; omega
    | succ k ih => intro hk; exact Cor.parOk_step (ih (by omega)) (by omega) (h.anc k (by omega))
  exact this _ (Nat.le_refl _)

/-! Heads. -/
structure HdC (n : Nat) (ts : List Txt) (h : List Int) (r : List Bs) : Prop where
  hl : h.length = n
  rl : r.length = n
  one : ∀ k (hk : k < h.length), h[k] = -1 ∨ ∃ t ∈ ts, t.b ≤ (k : Int) ∧ (k : Int) < t.e ∧ t.b ≤ h[k] ∧ h[k] < t.e
  rel : ∀ s ∈ r, s.isEmpty = false → okName s = true
  acy : ∀ k : Nat, k < h.length → ¬ Dep.Cyc h (k : Nat)
theorem nrm_id {h : List Int} (ho : Dep.Ok h) : Cor.nrm h = h := by
  unfold Cor.nrm
  conv => rhs; rw [← List.map_id h]
  apply List.map_congr_left
  intro x hx
  have := ho x hx
  show (if 0 ≤ x ∧ x < (h.length : Int) then x else -1) = x
  split <;> omega
theorem HdC.ok {n : Nat} {ts : List Txt} {h : List Int} {r : List Bs} (c : HdC n ts h r) (hb : ∀ t ∈ ts, 0 ≤ t.b ∧ t.e ≤ n) : Dep.Ok h := by
  intro x hx
  obtain ⟨k, hk, rfl⟩ := List.getElem_of_mem hx
  have := c.hl
  rcases c.one k hk with e | ⟨t, ht, a⟩
  · omega
  · have := hb t ht; omega
theorem hdC_iff {n : Nat} {ts : List Txt} {h : List Int} {r : List Bs} (ht : TextsOk ts n) (hl : h.length = n) (hb : 0 < n → bare h r = false) : (hdErr n ts h r).2 = 0 ↔ HdC n ts h r := by
  constructor
  · intro e
    unfold hdErr at e
    by_cases h1 : h.length ≠ r.length ∨ (h.length ≠ 0 ∧ h.length ≠ n)
    · rw [if_pos h1] at e; cases e
    rw [if_neg h1, if_neg (by rintro ⟨a, b⟩; rw [hb (by omega)] at b; cases b)] at e
    have hz := Cor.first_zero 0 h.length e
    have one : ∀ k (hk : k < h.length), h[k] = -1 ∨ ∃ t ∈ ts, t.b ≤ (k : Int) ∧ (k : Int) < t.e ∧ t.b ≤ h[k] ∧ h[k] < t.e := by
      intro k hk
      have z := hz k (Nat.zero_le _) (by omega)
      rw [hdF_at hk (by omega)] at z
      obtain ⟨i, hi, hik⟩ := ht.cov k (by omega) (by omega)
      have hq := out_iff (x := h[k]) ht hi hik
      unfold hits at hik
      simp only [Bool.and_eq_true, decide_eq_true_eq] at hik
      by_cases e1 : h[k] = -1
      · exact .inl e1
      · right
        refine ⟨ts[i], List.getElem_mem hi, hik.1, hik.2, ?_⟩
        refine Classical.byContradiction fun hc => ?_
        rw [hl, if_pos ⟨e1, hq.2 (by omega)⟩] at z
        cases z
    refine ⟨hl, by omega, one, fun s hs h0 => ?_, fun k hk => ?_⟩
    · obtain ⟨k, hk, rfl⟩ := List.getElem_of_mem hs
      have z := hz k (Nat.zero_le _) (by omega)
      rw [hdF_at (by omega) hk] at z
      split at z
      · cases z
      · split at z
        · cases z
        · rename_i q
          cases ho : okName r[k] with
          | true => rfl
          | false => exact absurd ⟨h0, ho⟩ q
    · have z := hz k (Nat.zero_le _) (by omega)
      rw [hdF_at hk (by omega)] at z
      have ok : Dep.Ok h := by
        intro x hx
        obtain ⟨k, hk, rfl⟩ := List.getElem_of_mem hx
        rcases one k hk with e | ⟨t, ht2, a⟩
        · omega
        · have := ht.pos t ht2
          have := ht.top t ht2
          omega
      rw [← Dep.cyc_iff ok hk]
      split at z
      · cases z
      · split at z
        · cases z
        · split at z
          · cases z
          · rename_i q
            unfold Cor.cyc at q
            rw [nrm_id ok] at q
            exact q
  · intro c
    have ok := c.ok fun t h => ⟨ht.pos t h, ht.top t h⟩
    have := c.rl
    rw [hdErr_zero (by omega) (by rintro ⟨a, b⟩; rw [hb (by omega)] at b; cases b)]
    intro k hk
    rw [hdF_at hk (by omega), if_neg, if_neg, if_neg]
    · unfold Cor.cyc
      rw [nrm_id ok, Dep.cyc_iff ok hk]
      exact c.acy k hk
    · rintro ⟨a, b⟩
      rw [c.rel _ (List.getElem_mem (by omega)) a] at b; cases b
    · rintro ⟨a, b⟩
      rcases c.one k hk with e | ⟨t, h2, d⟩
      · exact a e
      · obtain ⟨i, hi, rfl⟩ := List.getElem_of_mem h2
        rw [hl] at b
        have := (out_iff (x := h[k]) ht hi (k := k) (by unfold hits; simp only [Bool.and_eq_true, decide_eq_true_eq]; omega)).1 b
        omega

/-! The heads laid full, and packed. -/
def full (c : C) : C := { c with heads := allH c, rels := allL c }
def pack (c : C) : C := if bare c.heads c.rels = true then { c with heads := [], rels := [] } else c
structure Core (c : C) : Prop where
  a : (atErr c.attrs).2 = 0
  t : (tkErr c.attrs c.toks).2 = 0
  x : TxC c.toks.length c.texts
  r : RgC c.texts c.regs
  n : NdC c.texts c.nods
  h : HdC c.toks.length c.texts c.heads c.rels
theorem bare_iff {h : List Int} {r : List Bs} : bare h r = true ↔ (∀ x ∈ h, x = -1) ∧ ∀ s ∈ r, s = [] := by
  unfold bare
  rw [Bool.and_eq_true, List.all_eq_true, List.all_eq_true]
  simp
theorem bare_rep {h : List Int} {r : List Bs} {n : Nat} (h1 : h.length = n) (h2 : r.length = n) : bare h r = true ↔ h = List.replicate n (-1) ∧ r = List.replicate n [] := by
  rw [bare_iff, List.eq_replicate_iff, List.eq_replicate_iff]
  exact ⟨fun ⟨a, b⟩ => ⟨⟨h1, a⟩, h2, b⟩, fun ⟨a, b⟩ => ⟨a.2, b.2⟩⟩
theorem up_none {h : List Int} (hn : ∀ x ∈ h, x = -1) (k : Nat) (i : Int) : Dep.up h (k + 1) i < 0 := by
  rw [Dep.up_succ]
  unfold Dep.nx
  split
  · by_cases hl : (Dep.up h k i).toNat < h.length
    · rw [List.getD_eq_getElem?_getD, List.getElem?_eq_getElem hl]; have := hn _ (List.getElem_mem hl); simp; omega
    · rw [List.getD_eq_getElem?_getD, List.getElem?_eq_none (by omega)]; simp
  · omega
theorem core_of_vd {c : C} (v : Vd c) : Core (full c) := by
  have hl := v.hdl
  refine ⟨v.a, v.t, txC_iff.1 v.x, rgC_iff.1 v.r, ndC_iff.1 v.n, ?_⟩
  show HdC c.toks.length c.texts (allH c) (allL c)
  unfold allH allL
  by_cases h0 : 0 < c.heads.length
  · rw [if_pos h0, if_pos h0]
    exact (hdC_iff v.txs (by omega) (fun _ => v.bare h0)).1 v.h
  · rw [if_neg h0, if_neg h0]
    refine ⟨by simp, by simp, fun k hk => .inl (by simp), fun s hs h => ?_, fun k hk hc => ?_⟩
    · have := (List.mem_replicate.1 hs).2
      subst this; cases h
    · obtain ⟨h1, m, hm⟩ := hc
      have := up_none (h := List.replicate c.toks.length (-1)) (fun x hx => (List.mem_replicate.1 hx).2) m (k : Nat)
      omega
theorem vd_of_core {c : C} (v : Core c) : Vd (pack c) := by
  have hx := txC_iff.2 v.x
  unfold pack
  by_cases hb : bare c.heads c.rels = true
  · rw [if_pos hb]
    refine ⟨v.a, v.t, hx, rgC_iff.2 v.r, ndC_iff.2 v.n, ?_⟩
    show (hdErr c.toks.length c.texts [] []).2 = 0
    unfold hdErr; rfl
  · rw [if_neg hb]
    refine ⟨v.a, v.t, hx, rgC_iff.2 v.r, ndC_iff.2 v.n, ?_⟩
    exact (hdC_iff (texts_ok hx).1 v.h.hl (fun _ => by simpa using hb)).2 v.h
theorem pack_full {c : C} (v : Vd c) : pack (full c) = c := by
  have hl := v.hdl
  unfold pack full
  by_cases h0 : 0 < c.heads.length
  · have e1 : allH c = c.heads := by unfold allH; rw [if_pos h0]
    have e2 : allL c = c.rels := by unfold allL; rw [if_pos h0]
    simp only [e1, e2]
    rw [if_neg (by rw [v.bare h0]; simp)]
  · have e1 : allH c = List.replicate c.toks.length (-1) := by unfold allH; rw [if_neg h0]
    have e2 : allL c = List.replicate c.toks.length [] := by unfold allL; rw [if_neg h0]
    simp only [e1, e2]
    rw [if_pos ((bare_rep (n := c.toks.length) (by simp) (by simp)).2 ⟨rfl, rfl⟩)]
    have a : c.heads = [] := List.eq_nil_of_length_eq_zero (by omega)
    have b : c.rels = [] := List.eq_nil_of_length_eq_zero (by omega)
    rw [← a, ← b]
theorem full_pack {c : C} (h1 : c.heads.length = c.toks.length) (h2 : c.rels.length = c.toks.length) : full (pack c) = c := by
  unfold pack
  by_cases hb : bare c.heads c.rels = true
  · rw [if_pos hb]
    have := (bare_rep h1 h2).1 hb
    show C.mk c.attrs c.toks c.texts c.regs c.nods (List.replicate c.toks.length (-1)) (List.replicate c.toks.length []) = c
    rw [← this.1, ← this.2]
  · rw [if_neg hb]
    by_cases h0 : 0 < c.heads.length
    · unfold full allH allL; rw [if_pos h0, if_pos h0]
    · have : c.toks.length = 0 := by omega
      exfalso; apply hb
      rw [List.eq_nil_of_length_eq_zero (show c.heads.length = 0 by omega), List.eq_nil_of_length_eq_zero (show c.rels.length = 0 by omega)]
      rfl
theorem full_full {c : C} (v : Vd c) : (full c).heads.length = c.toks.length ∧ (full c).rels.length = c.toks.length := by
  have := core_of_vd v
  exact ⟨this.h.hl, this.h.rl⟩
end Go.Proofs.YtgkdaebiefhgdaaDoor
