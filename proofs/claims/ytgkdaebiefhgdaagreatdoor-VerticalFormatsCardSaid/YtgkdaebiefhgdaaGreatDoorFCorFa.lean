/-
  Several texts of this seat, one behind the other: CorFull, CorApp. No conditions but those of each.
-/
import Derived.Test.YtgkdaebiefhgdaaGreatDoorFCorVfs
import Derived.Test.YtgkdaebiefhgdaaGreatDoorFCorSrt
namespace Go.Proofs.YtgkdaebiefhgdaaGreatDoor
set_option linter.unusedSimpArgs false
set_option linter.unusedVariables false
open Cor (C Nod Txt Reg atErr tkErr txErr rgErr ndErr hdErr check valid within prErr par anc sibE dep ParOk allH allL bare mvT mvR mvN mvH cmpR crossR coverR)
open Tagp (okName)
open Feat (Bs)
def Chain : Int → List Txt → Int → Prop
  | u, [], n => u = n
  | u, t :: l, n => t.b = u ∧ t.b < t.e ∧ Chain t.e l n
def pe (u : Int) (l : List Txt) (k : Nat) : Int := ((u :: l.map Txt.e)[k]?).getD 0
theorem pe_succ {u : Int} {l : List Txt} {k : Nat} (hk : k < l.length) : pe u l (k + 1) = l[k].e := by
  unfold pe; rw [List.getElem?_cons_succ, List.getElem?_map, List.getElem?_eq_getElem hk]; rfl
theorem chain_idx {n : Int} : ∀ {l : List Txt} {u : Int}, Chain u l n ↔ (∀ k (hk : k < l.length), l[k].b = pe u l k ∧ l[k].b < l[k].e) ∧ pe u l l.length = n
  | [], u => ⟨fun h => ⟨fun k hk => (by cases hk), h⟩, fun h => h.2⟩
  | t :: l, u => by
    have ih := chain_idx (n := n) (l := l) (u := t.e)
    constructor
    · rintro ⟨h1, h2, h3⟩
      rw [ih] at h3
      refine ⟨fun k hk => ?_, h3.2⟩
      cases k with
      | zero => exact ⟨h1, h2⟩
      | succ k => exact h3.1 k (by simpa using hk)
    · rintro ⟨h1, h2⟩
      refine ⟨(h1 0 (by simp)).1, (h1 0 (by simp)).2, ih.2 ⟨fun k hk => h1 (k + 1) (by simpa using hk), h2⟩⟩
theorem chain_bd {n : Int} : ∀ {l : List Txt} {u : Int}, Chain u l n → u ≤ n ∧ ∀ t ∈ l, u ≤ t.b ∧ t.b < t.e ∧ t.e ≤ n
  | [], u, h => by cases h; exact ⟨Int.le_refl _, fun t ht => (by cases ht)⟩
  | t :: l, u, h => by
    have ih := chain_bd h.2.2
    have h1 := h.1
    have h2 := h.2.1
    refine ⟨by omega, fun t' ht => ?_⟩
    rcases List.mem_cons.1 ht with e | e
    · subst e; omega
    · have := ih.2 t' e; omega
structure TxC (n : Nat) (l : List Txt) : Prop where
  len : l.length ≤ 64
  row : Chain 0 l n
  one : ∀ t ∈ l, okName t.nm = true ∧ prErr t.ks = 0
  dis : l.Pairwise (fun t u => t.nm ≠ u.nm)
theorem endB_pe {l : List Txt} {k : Nat} (hk : k ≤ l.length) : Cor.endB l k = pe 0 l k := by
  cases k with
  | zero => rfl
  | succ k => rw [endB_at (by omega) hk, pe_succ (by omega)]; simp
theorem txC_iff {n : Nat} {l : List Txt} : (txErr n l).2 = 0 ↔ TxC n l := by
  constructor
  · intro h
    have hb := texts_ok h
    unfold txErr at h
    rw [if_neg (by omega)] at h
    by_cases h2 : ((l.length == 0) != (n == 0)) = true
    · rw [if_pos h2] at h; cases h
    rw [if_neg h2] at h
    have hz := Cor.first_zero 0 l.length h
    have ok : ∀ k (hk : k < l.length), _ := fun k hk => txF_ok hk (hz k (Nat.zero_le _) (by omega))
    refine ⟨hb.2, chain_idx.2 ⟨fun k hk => ⟨?_, (ok k hk).2.2.2.1⟩, ?_⟩, fun t ht => ?_, ?_⟩
    · rw [← endB_pe (by omega)]; exact (ok k hk).2.2.1
    · cases hl : l.length with
      | zero =>
        rw [hl] at h2
        have : n = 0 := by
          rcases Nat.eq_zero_or_pos n with e | e
          · exact e
          · exfalso; apply h2; have : n ≠ 0 := by omega
            simp [this]
        subst this; rfl
      | succ m => rw [pe_succ (by omega)]; exact (ok m (by omega)).2.2.2.2.2.1 (by omega)
    · obtain ⟨k, hk, rfl⟩ := List.getElem_of_mem ht
      exact ⟨(ok k hk).1, (ok k hk).2.2.2.2.2.2⟩
    · rw [List.pairwise_iff_getElem]
      intro i j hi hj hij e
      have := (ok j hj).2.1
      rw [List.any_eq_false] at this
      exact this l[i] (List.mem_take_iff_getElem.2 ⟨i, by omega, rfl⟩) (by simpa using e)
  · rintro ⟨h1, h2, h3, h4⟩
    have hi := chain_idx.1 h2
    have hbd := chain_bd h2
    unfold txErr
    rw [if_neg (by omega), if_neg]
    · rw [Cor.first_none 0 l.length]
      intro j _ hj
      have hj : j < l.length := by omega
      rw [txF_at hj, if_neg (by rw [(h3 _ (List.getElem_mem hj)).1]; simp), if_neg, if_neg]
      · exact (h3 _ (List.getElem_mem hj)).2
      · have a := hi.1 j hj
        have b := hbd.2 _ (List.getElem_mem hj)
        rw [← endB_pe (by omega)] at a
        rintro (c | c | c | ⟨c, d⟩)
        · exact c a.1
        · omega
        · omega
        · have := hi.2
          rw [← c, pe_succ hj] at this
          exact d this
      · intro hc
        rw [List.any_eq_true] at hc
        obtain ⟨u, hu, e⟩ := hc
        rw [List.mem_take_iff_getElem] at hu
        obtain ⟨i, hi2, rfl⟩ := hu
        exact List.pairwise_iff_getElem.1 h4 i j (by omega) hj (by omega) (by simpa using e)
    · have := hi.2
      cases l with
      | nil =>
        have : (0 : Int) = n := h2
        have : n = 0 := by omega
        subst this; simp
      | cons t l =>
        have := hbd.2 t (by simp)
        have : n ≠ 0 := by omega
        simp [this]

structure RgC (ts : List Txt) (l : List Reg) : Prop where
  len : l.length ≤ 1024
  one : ∀ x ∈ l, okName x.nm = true ∧ within ts x.b x.e = true ∧ prErr x.ks = 0
  pw : l.Pairwise (fun y x => cmpR y x ≤ 0 ∧ crossR y x = false)
  cov : ∀ k (hk : k < l.length), ((l.take (k + 1)).filter (coverR l[k])).length ≤ 40
theorem rgC_iff {ts : List Txt} {l : List Reg} : (rgErr ts l).2 = 0 ↔ RgC ts l := by
  constructor
  · intro h
    unfold rgErr at h
    by_cases h1 : 1024 < l.length
    · rw [if_pos h1] at h; cases h
    rw [if_neg h1] at h
    have hz := Cor.first_zero 0 l.length h
    have ok : ∀ k (hk : k < l.length), _ := fun k hk => Cor.rgF_ok hk (hz k (Nat.zero_le _) (by omega))
    refine ⟨by omega, fun x hx => ?_, ?_, fun k hk => (ok k hk).2.2.2.2.2⟩
    · obtain ⟨k, hk, rfl⟩ := List.getElem_of_mem hx
      exact ⟨(ok k hk).1, (ok k hk).2.1, (ok k hk).2.2.1⟩
    · rw [List.pairwise_iff_getElem]
      have hc : ∀ j (hj : j < l.length) i (hi : i < j), cmpR (l[i]'(by omega)) l[j] ≤ 0 := by
        intro j
        induction j with
        | zero => intro _ i hi; omega
        | succ j ih =>
          intro hj i hi
          have a := (ok (j + 1) hj).2.2.2.1 (by omega)
          have b : cmpR l[j] l[j + 1] ≤ 0 := by simpa using a
          by_cases e : i = j
          · subst e; exact b
          · exact ord_R.tr _ _ _ (ih (by omega) i (by omega)) b
      intro i j hi hj hij
      refine ⟨hc j hj i hij, ?_⟩
      have := (ok j hj).2.2.2.2.1
      rw [List.any_eq_false] at this
      simpa using this l[i] (List.mem_take_iff_getElem.2 ⟨i, by omega, rfl⟩)
  · rintro ⟨h1, h2, h3, h4⟩
    unfold rgErr
    rw [if_neg (by omega), Cor.first_none 0 l.length]
    intro k _ hk
    have hk : k < l.length := by omega
    have a := h2 _ (List.getElem_mem hk)
    rw [Cor.rgF_at hk, if_neg (by rw [a.1]; simp), if_neg (by rw [a.2.1]; simp), if_neg (by rw [a.2.2]; simp), if_neg, if_neg, if_neg]
    · have := h4 k hk; omega
    · intro hc
      rw [List.any_eq_true] at hc
      obtain ⟨u, hu, e⟩ := hc
      rw [List.mem_take_iff_getElem] at hu
      obtain ⟨i, hi2, rfl⟩ := hu
      have := (List.pairwise_iff_getElem.1 h3 i k (by omega) hk (by omega)).2
      rw [this] at e; cases e
    · rintro ⟨c, d⟩
      have := (List.pairwise_iff_getElem.1 h3 (k - 1) k (by omega) hk (by omega)).1
      omega

structure NdC (ts : List Txt) (l : List Nod) : Prop where
  len : l.length ≤ 2048
  one : ∀ x ∈ l, okName x.lb = true ∧ within ts x.b x.e = true
  anc : ∀ k (hk : k < l.length), anc l l[k].p k ((k : Int) - 1) = true
  par : ∀ k (hk : k < l.length), 0 ≤ l[k].p → (l[l[k].p.toNat]?).any (fun q => decide (l[k].b < q.b) || decide (q.e < l[k].e)) = false
  sib : ∀ k (hk : k < l.length), (sibE l[k].p (l.take k)).any (fun e => decide (l[k].b < e)) = false
  dep : ∀ k (hk : k < l.length), dep l (k + 1) k ≤ 40
theorem NdC.pok {ts : List Txt} {l : List Nod} (h : NdC ts l) : ParOk l l.length := by
  have : ∀ k, k ≤ l.length → ParOk l k := by
    intro k
    induction k with
    | zero => intro _ j hj; omega
    | succ k ih => intro hk; exact Cor.parOk_step (ih (by omega)) (by omega) (h.anc k (by omega))
  exact this _ (Nat.le_refl _)

structure HdC (n : Nat) (ts : List Txt) (h : List Int) (r : List Bs) : Prop where
  hl : h.length = n
  rl : r.length = n
  one : ∀ k (hk : k < h.length), h[k] = -1 ∨ ∃ t ∈ ts, t.b ≤ (k : Int) ∧ (k : Int) < t.e ∧ t.b ≤ h[k] ∧ h[k] < t.e
  rel : ∀ s ∈ r, s.isEmpty = false → okName s = true
  acy : ∀ k : Nat, k < h.length → ¬ Dep.Cyc h (k : Nat)
theorem HdC.ok {n : Nat} {ts : List Txt} {h : List Int} {r : List Bs} (c : HdC n ts h r) (hb : ∀ t ∈ ts, 0 ≤ t.b ∧ t.e ≤ n) : Dep.Ok h := by
  intro x hx
  obtain ⟨k, hk, rfl⟩ := List.getElem_of_mem hx
  have := c.hl
  rcases c.one k hk with e | ⟨t, ht, a⟩
  · omega
  · have := hb t ht; omega
structure Core (c : C) : Prop where
  a : (atErr c.attrs).2 = 0
  t : (tkErr c.attrs c.toks).2 = 0
  x : TxC c.toks.length c.texts
  r : RgC c.texts c.regs
  n : NdC c.texts c.nods
  h : HdC c.toks.length c.texts c.heads c.rels
end Go.Proofs.YtgkdaebiefhgdaaGreatDoor
namespace Go.Proofs.YtgkdaebiefhgdaaGreatDoor
set_option linter.unusedSimpArgs false
set_option linter.unusedVariables false
open Cor (C Nod Txt Reg atErr tkErr txErr rgErr ndErr hdErr check valid within prErr par anc sibE dep ParOk allH allL bare mvT mvR mvN mvH cmpR cmpI crossR coverR)
open Tagp (okName)
open Feat (Bs)
theorem tkC_iff {ats : List (Bs × Bool)} {l : List (List Bs)} : (tkErr ats l).2 = 0 ↔ l.length ≤ 4096 ∧ ∀ t ∈ l, t.length = ats.length ∧ (Cor.first (Cor.tvF ats t) 0 t.length).2 = 0 := by
  unfold tkErr
  constructor
  · intro h
    by_cases e : 4096 < l.length
    · rw [if_pos e] at h; cases h
    rw [if_neg e] at h
    refine ⟨by omega, fun t ht => ?_⟩
    obtain ⟨k, hk, rfl⟩ := List.getElem_of_mem ht
    have := Cor.first_zero 0 _ h k (Nat.zero_le _) (by omega)
    unfold Cor.tkF at this
    rw [List.getElem?_eq_getElem hk] at this
    by_cases e3 : l[k].length ≠ ats.length
    · simp only [] at this; rw [if_pos e3] at this; cases this
    · simp only [] at this; rw [if_neg e3] at this; exact ⟨by omega, this⟩
  · rintro ⟨h1, h2⟩
    rw [if_neg (by omega), Cor.first_none 0 l.length]
    intro k _ hk
    have hk : k < l.length := by omega
    have := h2 _ (List.getElem_mem hk)
    unfold Cor.tkF
    rw [List.getElem?_eq_getElem hk]
    simp only []
    rw [if_neg (by omega)]; exact this.2

section
variable {l m : List Nod} {n : Int}
end
end Go.Proofs.YtgkdaebiefhgdaaGreatDoor
