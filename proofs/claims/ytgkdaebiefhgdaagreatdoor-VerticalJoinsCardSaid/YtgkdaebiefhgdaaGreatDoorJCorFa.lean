/-
 Several texts of this seat, one behind the other: CorFull, CorApp. No conditions but those of each.
-/
import Derived.Test.YtgkdaebiefhgdaaGreatDoorJCorVfs
import Derived.Test.YtgkdaebiefhgdaaGreatDoorJCorSrt
namespace Go.Proofs.YtgkdaebiefhgdaaGreatDoor
set_option linter.unusedSimpArgs false
set_option linter.unusedVariables false
open Cor (C Nod Txt Reg atErr tkErr txErr rgErr ndErr hdErr check valid within prErr par anc sibE dep ParOk allH allL bare mvT mvR mvN mvH cmpR crossR coverR)
open Tagp (okName)
open Feat (Bs)
def Chain : Int → List Txt → Int → Prop
 | u, [], n => u = n
 | u, t :: l, n => t.b = u ∧ t.b < t.e ∧ Chain t.e l n
def pe (u : Int) (l : List Txt) (k : Nat) : Int := ((u :: l.map Txt.e)[k]?).getD 0
theorem pe_succ {u : Int} {l : List Txt} {k : Nat} (hk : k < l.length) : pe u l (k + 1) = l[k].e := by
 unfold pe; rw [List.getElem?_cons_succ, List.getElem?_map, List.getElem?_eq_getElem hk]; rfl
theorem chain_idx {n : Int} : ∀ {l : List Txt} {u : Int}, Chain u l n ↔ (∀ k (hk : k < l.length), l[k].b = pe u l k ∧ l[k].b < l[k].e) ∧ pe u l l.length = n
 | [], u => ⟨fun h => ⟨fun k hk => (by cases hk), h⟩, fun h => h.2⟩
 | t :: l, u => by
  have ih := chain_idx (n := n) (l := l) (u := t.e)
  constructor
  ·rintro ⟨h1, h2, h3⟩
   rw [ih] at h3
   refine ⟨fun k hk => ?_, h3.2⟩
   cases k with
   | zero => exact ⟨h1, h2⟩
   | succ k => exact h3.1 k (by simpa using hk)
  ·rintro ⟨h1, h2⟩
   refine ⟨(h1 0 (by simp)).1, (h1 0 (by simp)).2, ih.2 ⟨fun k hk => h1 (k + 1) (by simpa using hk), h2⟩⟩
theorem chain_app {n : Int} {m : List Txt} : ∀ {l : List Txt} {u : Int}, Chain u (l ++ m) n ↔ ∃ v, Chain u l v ∧ Chain v m n
 | [], u => ⟨fun h => ⟨u, rfl, h⟩, fun ⟨v, h1, h2⟩ => by cases h1; exact h2⟩
 | t :: l, u => by
  show (t.b = u ∧ t.b < t.e ∧ Chain t.e (l ++ m) n) ↔ _
  rw [chain_app]
  exact ⟨fun ⟨a, b, v, c, d⟩ => ⟨v, ⟨a, b, c⟩, d⟩, fun ⟨v, ⟨a, b, c⟩, d⟩ => ⟨a, b, v, c, d⟩⟩
theorem chain_mv {k n : Int} : ∀ {l : List Txt} {u : Int}, Chain (u + k) (l.map (mvT k)) (n + k) ↔ Chain u l n
 | [], u => by show u + k = n + k ↔ u = n; omega
 | t :: l, u => by
  show (t.b + k = u + k ∧ t.b + k < t.e + k ∧ Chain (t.e + k) (l.map (mvT k)) (n + k)) ↔ (t.b = u ∧ t.b < t.e ∧ Chain t.e l n)
  rw [chain_mv]
  constructor <;> rintro ⟨a, b, c⟩ <;> exact ⟨by omega, by omega, c⟩
theorem chain_bd {n : Int} : ∀ {l : List Txt} {u : Int}, Chain u l n → u ≤ n ∧ ∀ t ∈ l, u ≤ t.b ∧ t.b < t.e ∧ t.e ≤ n
 | [], u, h => by cases h; exact ⟨Int.le_refl _, fun t ht => (by cases ht)⟩
 | t :: l, u, h => by
  have ih := chain_bd h.2.2
  have h1 := h.1
  have h2 := h.2.1
  refine ⟨by omega, fun t' ht => ?_⟩
  rcases List.mem_cons.1 ht with e | e
  ·subst e; omega
  ·have := ih.2 t' e; omega
structure TxC (n : Nat) (l : List Txt) : Prop where
 len : l.length ≤ 64
 row : Chain 0 l n
 one : ∀ t ∈ l, okName t.nm = true ∧ prErr t.ks = 0
 dis : l.Pairwise (fun t u => t.nm ≠ u.nm)
theorem endB_pe {l : List Txt} {k : Nat} (hk : k ≤ l.length) : Cor.endB l k = pe 0 l k := by
 cases k with
 | zero => rfl
 | succ k => rw [endB_at (by omega) hk, pe_succ (by omega)]; simp
theorem txC_iff {n : Nat} {l : List Txt} : (txErr n l).2 = 0 ↔ TxC n l := by
 constructor
 ·intro h
  have hb := texts_ok h
  unfold txErr at h
  rw [if_neg (by omega)] at h
  by_cases h2 : ((l.length == 0) != (n == 0)) = true
  ·rw [if_pos h2] at h; cases h
  rw [if_neg h2] at h
  have hz := Cor.first_zero 0 l.length h
  have ok : ∀ k (hk : k < l.length), _ := fun k hk => txF_ok hk (hz k (Nat.zero_le _) (by omega))
  refine ⟨hb.2, chain_idx.2 ⟨fun k hk => ⟨?_, (ok k hk).2.2.2.1⟩, ?_⟩, fun t ht => ?_, ?_⟩
  ·rw [← endB_pe (by omega)]; exact (ok k hk).2.2.1
  ·cases hl : l.length with
   | zero =>
    rw [hl] at h2
    have : n = 0 := by
     rcases Nat.eq_zero_or_pos n with e | e
     ·exact e
     ·exfalso; apply h2; have : n ≠ 0 := by omega
      simp [this]
    subst this; rfl
   | succ m => rw [pe_succ (by omega)]; exact (ok m (by omega)).2.2.2.2.2.1 (by omega)
  ·obtain ⟨k, hk, rfl⟩ := List.getElem_of_mem ht
   exact ⟨(ok k hk).1, (ok k hk).2.2.2.2.2.2⟩
  ·rw [List.pairwise_iff_getElem]
   intro i j hi hj hij e
   have := (ok j hj).2.1
   rw [List.any_eq_false] at this
   exact this l[i] (List.mem_take_iff_getElem.2 ⟨i, by omega, rfl⟩) (by simpa using e)
 ·rintro ⟨h1, h2, h3, h4⟩
  have hi := chain_idx.1 h2
  have hbd := chain_bd h2
  unfold txErr
  rw [if_neg (by omega), if_neg]
  ·rw [Cor.first_none 0 l.length]
   intro j _ hj
   have hj : j < l.length := by omega
   rw [txF_at hj, if_neg (by rw [(h3 _ (List.getElem_mem hj)).1]; simp), if_neg, if_neg]
   ·exact (h3 _ (List.getElem_mem hj)).2
   ·have a := hi.1 j hj
    have b := hbd.2 _ (List.getElem_mem hj)
    rw [← endB_pe (by omega)] at a
    rintro (c | c | c | ⟨c, d⟩)
    ·exact c a.1
    ·omega
    ·omega
    ·have := hi.2
     rw [← c, pe_succ hj] at this
     exact d this
   ·intro hc
    rw [List.any_eq_true] at hc
    obtain ⟨u, hu, e⟩ := hc
    rw [List.mem_take_iff_getElem] at hu
    obtain ⟨i, hi2, rfl⟩ := hu
    exact List.pairwise_iff_getElem.1 h4 i j (by omega) hj (by omega) (by simpa using e)
  ·have := hi.2
   cases l with
   | nil =>
    have : (0 : Int) = n := h2
    have : n = 0 := by omega
    subst this; simp
   | cons t l =>
    have := hbd.2 t (by simp)
    have : n ≠ 0 := by omega
    simp [this]

structure RgC (ts : List Txt) (l : List Reg) : Prop where
 len : l.length ≤ 1024
 one : ∀ x ∈ l, okName x.nm = true ∧ within ts x.b x.e = true ∧ prErr x.ks = 0
 pw : l.Pairwise (fun y x => cmpR y x ≤ 0 ∧ crossR y x = false)
 cov : ∀ k (hk : k < l.length), ((l.take (k + 1)).filter (coverR l[k])).length ≤ 40
theorem rgC_iff {ts : List Txt} {l : List Reg} : (rgErr ts l).2 = 0 ↔ RgC ts l := by
 constructor
 ·intro h
  unfold rgErr at h
  by_cases h1 : 1024 < l.length
  ·rw [if_pos h1] at h; cases h
  rw [if_neg h1] at h
  have hz := Cor.first_zero 0 l.length h
  have ok : ∀ k (hk : k < l.length), _ := fun k hk => Cor.rgF_ok hk (hz k (Nat.zero_le _) (by omega))
  refine ⟨by omega, fun x hx => ?_, ?_, fun k hk => (ok k hk).2.2.2.2.2⟩
  ·obtain ⟨k, hk, rfl⟩ := List.getElem_of_mem hx
   exact ⟨(ok k hk).1, (ok k hk).2.1, (ok k hk).2.2.1⟩
  ·rw [List.pairwise_iff_getElem]
   have hc : ∀ j (hj : j < l.length) i (hi : i < j), cmpR (l[i]'(by omega)) l[j] ≤ 0 := by
    intro j
    induction j with
    | zero => intro _ i hi; omega
    | succ j ih =>
     intro hj i hi
     have a := (ok (j + 1) hj).2.2.2.1 (by omega)
     have b : cmpR l[j] l[j + 1] ≤ 0 := by simpa using a
     by_cases e : i = j
     ·subst e; exact b
     ·exact ord_R.tr _ _ _ (ih (by omega) i (by omega)) b
   intro i j hi hj hij
   refine ⟨hc j hj i hij, ?_⟩
   have := (ok j hj).2.2.2.2.1
   rw [List.any_eq_false] at this
   simpa using this l[i] (List.mem_take_iff_getElem.2 ⟨i, by omega, rfl⟩)
 ·rintro ⟨h1, h2, h3, h4⟩
  unfold rgErr
  rw [if_neg (by omega), Cor.first_none 0 l.length]
  intro k _ hk
  have hk : k < l.length := by omega
  have a := h2 _ (List.getElem_mem hk)
  rw [Cor.rgF_at hk, if_neg (by rw [a.1]; simp), if_neg (by rw [a.2.1]; simp), if_neg (by rw [a.2.2]; simp), if_neg, if_neg, if_neg]
  ·have := h4 k hk; omega
  ·intro hc
   rw [List.any_eq_true] at hc
   obtain ⟨u, hu, e⟩ := hc
   rw [List.mem_take_iff_getElem] at hu
   obtain ⟨i, hi2, rfl⟩ := hu
   have := (List.pairwise_iff_getElem.1 h3 i k (by omega) hk (by omega)).2
   rw [this] at e; cases e
  ·rintro ⟨c, d⟩
   have := (List.pairwise_iff_getElem.1 h3 (k - 1) k (by omega) hk (by omega)).1
   omega

structure NdC (ts : List Txt) (l : List Nod) : Prop where
 len : l.length ≤ 2048
 one : ∀ x ∈ l, okName x.lb = true ∧ within ts x.b x.e = true
 anc : ∀ k (hk : k < l.length), anc l l[k].p k ((k : Int) - 1) = true
 par : ∀ k (hk : k < l.length), 0 ≤ l[k].p → (l[l[k].p.toNat]?).any (fun q => decide (l[k].b < q.b) || decide (q.e < l[k].e)) = false
 sib : ∀ k (hk : k < l.length), (sibE l[k].p (l.take k)).any (fun e => decide (l[k].b < e)) = false
 dep : ∀ k (hk : k < l.length), dep l (k + 1) k ≤ 40
theorem ndC_iff {ts : List Txt} {l : List Nod} : (ndErr ts l).2 = 0 ↔ NdC ts l := by
 constructor
 ·intro h
  unfold ndErr at h
  by_cases h1 : 2048 < l.length
  ·rw [if_pos h1] at h; cases h
  rw [if_neg h1] at h
  have hz := Cor.first_zero 0 l.length h
  have ok : ∀ k (hk : k < l.length), _ := fun k hk => Cor.ndF_ok hk (hz k (Nat.zero_le _) (by omega))
  refine ⟨by omega, fun x hx => ?_, fun k hk => (ok k hk).2.2.1, fun k hk => (ok k hk).2.2.2.1, fun k hk => (ok k hk).2.2.2.2.1, fun k hk => (ok k hk).2.2.2.2.2⟩
  obtain ⟨k, hk, rfl⟩ := List.getElem_of_mem hx
  exact ⟨(ok k hk).1, (ok k hk).2.1⟩
 ·rintro ⟨h1, h2, h3, h4, h5, h6⟩
  unfold ndErr
  rw [if_neg (by omega), Cor.first_none 0 l.length]
  intro k _ hk
  have hk : k < l.length := by omega
  have a := h2 _ (List.getElem_mem hk)
  rw [Cor.ndF_at hk, if_neg (by rw [a.1]; simp), if_neg (by rw [a.2]; simp), if_neg (by rw [h3 k hk]; simp), if_neg, if_neg (by rw [h5 k hk]; simp), if_neg (by have := h6 k hk; omega)]
  rintro ⟨c, d⟩
  rw [h4 k hk c] at d; cases d
theorem NdC.pok {ts : List Txt} {l : List Nod} (h : NdC ts l) : ParOk l l.length := by
 have : ∀ k, k ≤ l.length → ParOk l k := by
  intro k
  induction k with
  | zero => intro _ j hj; omega
  | succ k ih => intro hk; exact Cor.parOk_step (ih (by omega)) (by omega) (h.anc k (by omega))
 exact this _ (Nat.le_refl _)

structure HdC (n : Nat) (ts : List Txt) (h : List Int) (r : List Bs) : Prop where
 hl : h.length = n
 rl : r.length = n
 one : ∀ k (hk : k < h.length), h[k] = -1 ∨ ∃ t ∈ ts, t.b ≤ (k : Int) ∧ (k : Int) < t.e ∧ t.b ≤ h[k] ∧ h[k] < t.e
 rel : ∀ s ∈ r, s.isEmpty = false → okName s = true
 acy : ∀ k : Nat, k < h.length → ¬ Dep.Cyc h (k : Nat)
theorem nrm_id {h : List Int} (ho : Dep.Ok h) : Cor.nrm h = h := by
 unfold Cor.nrm
 conv => rhs; rw [← List.map_id h]
 apply List.map_congr_left
 intro x hx
 have := ho x hx
 show (if 0 ≤ x ∧ x < (h.length : Int) then x else -1) = x
 split <;> omega
theorem HdC.ok {n : Nat} {ts : List Txt} {h : List Int} {r : List Bs} (c : HdC n ts h r) (hb : ∀ t ∈ ts, 0 ≤ t.b ∧ t.e ≤ n) : Dep.Ok h := by
 intro x hx
 obtain ⟨k, hk, rfl⟩ := List.getElem_of_mem hx
 have := c.hl
 rcases c.one k hk with e | ⟨t, ht, a⟩
 ·omega
 ·have := hb t ht; omega
theorem hdC_iff {n : Nat} {ts : List Txt} {h : List Int} {r : List Bs} (ht : TextsOk ts n) (hl : h.length = n) (hb : 0 < n → bare h r = false) : (hdErr n ts h r).2 = 0 ↔ HdC n ts h r := by
 constructor
 ·intro e
  unfold hdErr at e
  by_cases h1 : h.length ≠ r.length ∨ (h.length ≠ 0 ∧ h.length ≠ n)
  ·rw [if_pos h1] at e; cases e
  rw [if_neg h1, if_neg (by rintro ⟨a, b⟩; rw [hb (by omega)] at b; cases b)] at e
  have hz := Cor.first_zero 0 h.length e
  have one : ∀ k (hk : k < h.length), h[k] = -1 ∨ ∃ t ∈ ts, t.b ≤ (k : Int) ∧ (k : Int) < t.e ∧ t.b ≤ h[k] ∧ h[k] < t.e := by
   intro k hk
   have z := hz k (Nat.zero_le _) (by omega)
   rw [hdF_at hk (by omega)] at z
   obtain ⟨i, hi, hik⟩ := ht.cov k (by omega) (by omega)
   have hq := out_iff (x := h[k]) ht hi hik
   unfold hits at hik
   simp only [Bool.and_eq_true, decide_eq_true_eq] at hik
   by_cases e1 : h[k] = -1
   ·exact .inl e1
   ·right
    refine ⟨ts[i], List.getElem_mem hi, hik.1, hik.2, ?_⟩
    refine Classical.byContradiction fun hc => ?_
    rw [hl, if_pos ⟨e1, hq.2 (by omega)⟩] at z
    cases z
  refine ⟨hl, by omega, one, fun s hs h0 => ?_, fun k hk => ?_⟩
  ·obtain ⟨k, hk, rfl⟩ := List.getElem_of_mem hs
   have z := hz k (Nat.zero_le _) (by omega)
   rw [hdF_at (by omega) hk] at z
   split at z
   ·cases z
   ·split at z
    ·cases z
    ·rename_i q
     cases ho : okName r[k] with
     | true => rfl
     | false => exact absurd ⟨h0, ho⟩ q
  ·have z := hz k (Nat.zero_le _) (by omega)
   rw [hdF_at hk (by omega)] at z
   have ok : Dep.Ok h := by
    intro x hx
    obtain ⟨k, hk, rfl⟩ := List.getElem_of_mem hx
    rcases one k hk with e | ⟨t, ht2, a⟩
    ·omega
    ·have := ht.pos t ht2
     have := ht.top t ht2
     omega
   rw [← Dep.cyc_iff ok hk]
   split at z
   ·cases z
   ·split at z
    ·cases z
    ·split at z
     ·cases z
     ·rename_i q
      unfold Cor.cyc at q
      rw [nrm_id ok] at q
      exact q
 ·intro c
  have ok := c.ok fun t h => ⟨ht.pos t h, ht.top t h⟩
  have := c.rl
  rw [hdErr_zero (by omega) (by rintro ⟨a, b⟩; rw [hb (by omega)] at b; cases b)]
  intro k hk
  rw [hdF_at hk (by omega), if_neg, if_neg, if_neg]
  ·unfold Cor.cyc
   rw [nrm_id ok, Dep.cyc_iff ok hk]
   exact c.acy k hk
  ·rintro ⟨a, b⟩
   rw [c.rel _ (List.getElem_mem (by omega)) a] at b; cases b
  ·rintro ⟨a, b⟩
   rcases c.one k hk with e | ⟨t, h2, d⟩
   ·exact a e
   ·obtain ⟨i, hi, rfl⟩ := List.getElem_of_mem h2
    rw [hl] at b
    have := (out_iff (x := h[k]) ht hi (k := k) (by unfold hits; simp only [Bool.and_eq_true, decide_eq_true_eq]; omega)).1 b
    omega

def full (c : C) : C := { c with heads := allH c, rels := allL c }
def pack (c : C) : C := if bare c.heads c.rels = true then { c with heads := [], rels := [] } else c
structure Core (c : C) : Prop where
 a : (atErr c.attrs).2 = 0
 t : (tkErr c.attrs c.toks).2 = 0
 x : TxC c.toks.length c.texts
 r : RgC c.texts c.regs
 n : NdC c.texts c.nods
 h : HdC c.toks.length c.texts c.heads c.rels
theorem bare_iff {h : List Int} {r : List Bs} : bare h r = true ↔ (∀ x ∈ h, x = -1) ∧ ∀ s ∈ r, s = [] := by
 unfold bare
 rw [Bool.and_eq_true, List.all_eq_true, List.all_eq_true]
 simp
theorem bare_rep {h : List Int} {r : List Bs} {n : Nat} (h1 : h.length = n) (h2 : r.length = n) : bare h r = true ↔ h = List.replicate n (-1) ∧ r = List.replicate n [] := by
 rw [bare_iff, List.eq_replicate_iff, List.eq_replicate_iff]
 exact ⟨fun ⟨a, b⟩ => ⟨⟨h1, a⟩, h2, b⟩, fun ⟨a, b⟩ => ⟨a.2, b.2⟩⟩
theorem up_none {h : List Int} (hn : ∀ x ∈ h, x = -1) (k : Nat) (i : Int) : Dep.up h (k + 1) i < 0 := by
 rw [Dep.up_succ]
 unfold Dep.nx
 split
 ·by_cases hl : (Dep.up h k i).toNat < h.length
  ·rw [List.getD_eq_getElem?_getD, List.getElem?_eq_getElem hl]; have := hn _ (List.getElem_mem hl); simp; omega
  ·rw [List.getD_eq_getElem?_getD, List.getElem?_eq_none (by omega)]; simp
 ·omega
theorem core_of_vd {c : C} (v : Vd c) : Core (full c) := by
 have hl := v.hdl
 refine ⟨v.a, v.t, txC_iff.1 v.x, rgC_iff.1 v.r, ndC_iff.1 v.n, ?_⟩
 show HdC c.toks.length c.texts (allH c) (allL c)
 unfold allH allL
 by_cases h0 : 0 < c.heads.length
 ·rw [if_pos h0, if_pos h0]
  exact (hdC_iff v.txs (by omega) (fun _ => v.bare h0)).1 v.h
 ·rw [if_neg h0, if_neg h0]
  refine ⟨by simp, by simp, fun k hk => .inl (by simp), fun s hs h => ?_, fun k hk hc => ?_⟩
  ·have := (List.mem_replicate.1 hs).2
   subst this; cases h
  ·obtain ⟨h1, m, hm⟩ := hc
   have := up_none (h := List.replicate c.toks.length (-1)) (fun x hx => (List.mem_replicate.1 hx).2) m (k : Nat)
   omega
theorem vd_of_core {c : C} (v : Core c) : Vd (pack c) := by
 have hx := txC_iff.2 v.x
 unfold pack
 by_cases hb : bare c.heads c.rels = true
 ·rw [if_pos hb]
  refine ⟨v.a, v.t, hx, rgC_iff.2 v.r, ndC_iff.2 v.n, ?_⟩
  show (hdErr c.toks.length c.texts [] []).2 = 0
  unfold hdErr; rfl
 ·rw [if_neg hb]
  refine ⟨v.a, v.t, hx, rgC_iff.2 v.r, ndC_iff.2 v.n, ?_⟩
  exact (hdC_iff (texts_ok hx).1 v.h.hl (fun _ => by simpa using hb)).2 v.h
theorem full_pack {c : C} (h1 : c.heads.length = c.toks.length) (h2 : c.rels.length = c.toks.length) : full (pack c) = c := by
 unfold pack
 by_cases hb : bare c.heads c.rels = true
 ·rw [if_pos hb]
  have := (bare_rep h1 h2).1 hb
  show C.mk c.attrs c.toks c.texts c.regs c.nods (List.replicate c.toks.length (-1)) (List.replicate c.toks.length []) = c
  rw [← this.1, ← this.2]
 ·rw [if_neg hb]
  by_cases h0 : 0 < c.heads.length
  ·unfold full allH allL; rw [if_pos h0, if_pos h0]
  ·have : c.toks.length = 0 := by omega
   exfalso; apply hb
   rw [List.eq_nil_of_length_eq_zero (show c.heads.length = 0 by omega), List.eq_nil_of_length_eq_zero (show c.rels.length = 0 by omega)]
   rfl
end Go.Proofs.YtgkdaebiefhgdaaGreatDoor
namespace Go.Proofs.YtgkdaebiefhgdaaGreatDoor
set_option linter.unusedSimpArgs false
set_option linter.unusedVariables false
open Cor (C Nod Txt Reg atErr tkErr txErr rgErr ndErr hdErr check valid within prErr par anc sibE dep ParOk allH allL bare mvT mvR mvN mvH cmpR cmpI crossR coverR)
open Tagp (okName)
open Feat (Bs)
def app (X Y : C) : C where
 attrs := X.attrs
 toks := X.toks ++ Y.toks
 texts := X.texts ++ Y.texts.map (mvT X.toks.length)
 regs := X.regs ++ Y.regs.map (mvR X.toks.length)
 nods := X.nods ++ Y.nods.map (mvN X.toks.length X.nods.length)
 heads := X.heads ++ Y.heads.map (mvH X.toks.length)
 rels := X.rels ++ Y.rels

theorem tkC_iff {ats : List (Bs × Bool)} {l : List (List Bs)} : (tkErr ats l).2 = 0 ↔ l.length ≤ 4096 ∧ ∀ t ∈ l, t.length = ats.length ∧ (Cor.first (Cor.tvF ats t) 0 t.length).2 = 0 := by
 unfold tkErr
 constructor
 ·intro h
  by_cases e : 4096 < l.length
  ·rw [if_pos e] at h; cases h
  rw [if_neg e] at h
  refine ⟨by omega, fun t ht => ?_⟩
  obtain ⟨k, hk, rfl⟩ := List.getElem_of_mem ht
  have := Cor.first_zero 0 _ h k (Nat.zero_le _) (by omega)
  unfold Cor.tkF at this
  rw [List.getElem?_eq_getElem hk] at this
  by_cases e3 : l[k].length ≠ ats.length
  ·simp only [] at this; rw [if_pos e3] at this; cases this
  ·simp only [] at this; rw [if_neg e3] at this; exact ⟨by omega, this⟩
 ·rintro ⟨h1, h2⟩
  rw [if_neg (by omega), Cor.first_none 0 l.length]
  intro k _ hk
  have hk : k < l.length := by omega
  have := h2 _ (List.getElem_mem hk)
  unfold Cor.tkF
  rw [List.getElem?_eq_getElem hk]
  simp only []
  rw [if_neg (by omega)]; exact this.2

theorem txC_app {n n' : Nat} {l m : List Txt} (h1 : TxC n l) (h2 : TxC n' m) (hd : ∀ t ∈ l, ∀ u ∈ m, t.nm ≠ u.nm) (hl : l.length + m.length ≤ 64) : TxC (n + n') (l ++ m.map (mvT (n : Int))) := by
 refine ⟨by simpa using hl, ?_, fun t ht => ?_, ?_⟩
 ·rw [chain_app]
  refine ⟨n, h1.row, ?_⟩
  have := (chain_mv (k := (n : Int)) (n := (n' : Int)) (l := m) (u := 0)).2 h2.row
  rw [show ((n + n' : Nat) : Int) = (n' : Int) + n by omega]
  rw [Int.zero_add] at this; exact this
 ·rcases List.mem_append.1 ht with e | e
  ·exact h1.one t e
  ·obtain ⟨u, hu, rfl⟩ := List.mem_map.1 e
   exact h2.one u hu
 ·rw [List.pairwise_append, List.pairwise_map]
  refine ⟨h1.dis, h2.dis, fun a ha b hb => ?_⟩
  obtain ⟨u, hu, rfl⟩ := List.mem_map.1 hb
  exact hd a ha u hu
theorem within_left {ts us : List Txt} {n b e : Int} (he : e ≤ n) (hu : ∀ t ∈ us, 0 ≤ t.b) : within (ts ++ us.map (mvT n)) b e = within ts b e := by
 unfold within
 rw [List.any_append]
 have : (us.map (mvT n)).any (fun t => decide (t.b ≤ b) && decide (b < e) && decide (e ≤ t.e)) = false := by
  rw [List.any_eq_false]
  intro t ht
  obtain ⟨u, hu', rfl⟩ := List.mem_map.1 ht
  have := hu u hu'
  show ¬ ((decide (u.b + n ≤ b) && decide (b < e) && decide (e ≤ u.e + n)) = true)
  simp only [Bool.and_eq_true, decide_eq_true_eq]
  omega
 rw [this, Bool.or_false]
theorem within_right {ts us : List Txt} {n b e : Int} (hb : 0 ≤ b) (ht : ∀ t ∈ ts, t.e ≤ n) : within (ts ++ us.map (mvT n)) (b + n) (e + n) = within us b e := by
 unfold within
 rw [List.any_append]
 have : ts.any (fun t => decide (t.b ≤ b + n) && decide (b + n < e + n) && decide (e + n ≤ t.e)) = false := by
  rw [List.any_eq_false]
  intro t ht'
  have := ht t ht'
  simp only [Bool.and_eq_true, decide_eq_true_eq]
  omega
 rw [this, Bool.false_or, List.any_map]
 congr 1
 funext t
 show (decide (t.b + n ≤ b + n) && decide (b + n < e + n) && decide (e + n ≤ t.e + n)) = _
 rw [Bool.eq_iff_iff]
 simp only [Bool.and_eq_true, decide_eq_true_eq]
 omega
theorem cmpI_mv (a b n : Int) : cmpI (a + n) (b + n) = cmpI a b := by
 unfold cmpI
 by_cases h1 : a < b
 ·rw [if_pos h1, if_pos (by omega)]
 ·rw [if_neg h1, if_neg (by omega)]
  by_cases h2 : b < a
  ·rw [if_pos h2, if_pos (by omega)]
  ·rw [if_neg h2, if_neg (by omega)]
theorem cmpR_mv (x y : Reg) (n : Int) : cmpR (mvR n x) (mvR n y) = cmpR x y := by
 unfold cmpR mvR
 simp only [cmpI_mv]
theorem cross_mv (x y : Reg) (n : Int) : crossR (mvR n x) (mvR n y) = crossR x y := by
 unfold crossR mvR
 rw [Bool.eq_iff_iff]
 simp only [Bool.and_eq_true, decide_eq_true_eq, Bool.not_eq_true', Bool.and_eq_false_iff, decide_eq_false_iff_not]
 simp only [Int.add_le_add_iff_right, Int.add_lt_add_iff_right]
theorem cover_mv (x y : Reg) (n : Int) : coverR (mvR n x) (mvR n y) = coverR x y := by
 unfold coverR mvR
 rw [Bool.eq_iff_iff]
 simp only [Bool.and_eq_true, decide_eq_true_eq]
 omega
theorem cmpR_lt {x y : Reg} (h : x.b < y.b) : cmpR x y ≤ 0 := by
 have e : cmpI x.b y.b = -1 := by unfold cmpI; rw [if_pos h]
 unfold cmpR
 rw [e]; simp
theorem rgC_app {ts us : List Txt} {l m : List Reg} {n : Int} (hu : ∀ t ∈ us, 0 ≤ t.b) (ht : ∀ t ∈ ts, t.e ≤ n) (hl : ∀ x ∈ l, x.e ≤ n) (hm : ∀ x ∈ m, 0 ≤ x.b) :
  RgC (ts ++ us.map (mvT n)) (l ++ m.map (mvR n)) ↔ RgC ts l ∧ RgC us m ∧ l.length + m.length ≤ 1024 := by
 have cl : ∀ k (hk : k < l.length) (hk2 : k < (l ++ m.map (mvR n)).length), (((l ++ m.map (mvR n)).take (k + 1)).filter (coverR (l ++ m.map (mvR n))[k])).length = ((l.take (k + 1)).filter (coverR l[k])).length := by
  intro k hk hk2
  rw [List.getElem_append_left hk, List.take_append_of_le_length (by omega)]
 have cr : ∀ j (hj : j < m.length) (hk2 : l.length + j < (l ++ m.map (mvR n)).length), (((l ++ m.map (mvR n)).take (l.length + j + 1)).filter (coverR (l ++ m.map (mvR n))[l.length + j])).length = ((m.take (j + 1)).filter (coverR m[j])).length := by
  intro j hj hk2
  have e1 : (l ++ m.map (mvR n))[l.length + j] = mvR n m[j] := by
   rw [List.getElem_append_right (by omega), List.getElem_map]; congr 2; omega
  rw [e1, show l.length + j + 1 = l.length + (j + 1) by omega, List.take_length_add_append, List.filter_append, List.length_append, ← List.map_take, List.filter_map, List.length_map]
  have e2 : l.filter (coverR (mvR n m[j])) = [] := by
   rw [List.filter_eq_nil_iff]
   intro x hx
   have := hl x hx
   have := hm _ (List.getElem_mem hj)
   unfold coverR mvR
   simp only [Bool.and_eq_true, decide_eq_true_eq]
   omega
  rw [e2, List.length_nil, Nat.zero_add]
  congr 2
  funext x
  exact cover_mv _ _ _
 constructor
 ·rintro ⟨h1, h2, h3, h4⟩
  rw [List.length_append, List.length_map] at h1
  rw [List.pairwise_append, List.pairwise_map] at h3
  refine ⟨⟨by omega, fun x hx => ?_, h3.1, fun k hk => ?_⟩, ⟨by omega, fun x hx => ?_, ?_, fun j hj => ?_⟩, h1⟩
  ·have := h2 x (List.mem_append_left _ hx)
   rw [within_left (hl x hx) hu] at this; exact this
  ·rw [← cl k hk (by rw [List.length_append]; omega)]; exact h4 k _
  ·have := h2 (mvR n x) (List.mem_append_right _ (List.mem_map.2 ⟨x, hx, rfl⟩))
   have w : within (ts ++ us.map (mvT n)) (x.b + n) (x.e + n) = true := this.2.1
   rw [within_right (hm x hx) ht] at w
   exact ⟨this.1, w, this.2.2⟩
  ·exact h3.2.1.imp fun {a b} ⟨c, d⟩ => ⟨by rw [cmpR_mv] at c; exact c, by rw [cross_mv] at d; exact d⟩
  ·rw [← cr j hj (by rw [List.length_append, List.length_map]; omega)]; exact h4 _ _
 ·rintro ⟨⟨a1, a2, a3, a4⟩, ⟨b1, b2, b3, b4⟩, hlen⟩
  refine ⟨by rw [List.length_append, List.length_map]; exact hlen, fun x hx => ?_, ?_, fun k hk => ?_⟩
  ·rcases List.mem_append.1 hx with e | e
   ·rw [within_left (hl x e) hu]; exact a2 x e
   ·obtain ⟨y, hy, rfl⟩ := List.mem_map.1 e
    have := b2 y hy
    refine ⟨this.1, ?_, this.2.2⟩
    show within (ts ++ us.map (mvT n)) (y.b + n) (y.e + n) = true
    rw [within_right (hm y hy) ht]; exact this.2.1
  ·rw [List.pairwise_append, List.pairwise_map]
   refine ⟨a3, b3.imp fun {a b} ⟨c, d⟩ => ⟨by rw [cmpR_mv]; exact c, by rw [cross_mv]; exact d⟩, fun x hx y' hy' => ?_⟩
   obtain ⟨y, hy, rfl⟩ := List.mem_map.1 hy'
   have c1 := hl x hx
   have c2 := hm y hy
   have c3 := Cor.within_lt (a2 x hx).2.1
   refine ⟨cmpR_lt (by show x.b < y.b + n; omega), ?_⟩
   unfold crossR mvR
   simp only [Bool.and_eq_false_iff, decide_eq_false_iff_not]
   left; left; right
   omega
  ·by_cases h : k < l.length
   ·rw [cl k h hk]; exact a4 k h
   ·rw [List.length_append, List.length_map] at hk
    obtain ⟨j, rfl⟩ : ∃ j, k = l.length + j := ⟨k - l.length, by omega⟩
    rw [cr j (by omega) (by rw [List.length_append, List.length_map]; omega)]; exact b4 j (by omega)

def sh (s : Nat) (z : Int) : Int := if 0 ≤ z then z + s else z
theorem sh_neg {s : Nat} {z : Int} (h : z < 0) : sh s z = z := by unfold sh; rw [if_neg (by omega)]
theorem sh_pos {s : Nat} {z : Int} (h : 0 ≤ z) : sh s z = z + s := by unfold sh; rw [if_pos h]
theorem sh_inj {s : Nat} {a b : Int} : sh s a = sh s b ↔ a = b := by unfold sh; split <;> split <;> omega
theorem sh_lt0 {s : Nat} {z : Int} : sh s z < 0 ↔ z < 0 := by unfold sh; split <;> omega
section
variable {l m : List Nod} {n : Int}
theorem nd_left {k : Nat} (hk : k < l.length) (hk2 : k < (l ++ m.map (mvN n l.length)).length) : (l ++ m.map (mvN n l.length))[k] = l[k] := List.getElem_append_left hk
theorem nd_right {j : Nat} (hj : j < m.length) (hk2 : l.length + j < (l ++ m.map (mvN n l.length)).length) : (l ++ m.map (mvN n l.length))[l.length + j] = mvN n l.length m[j] := by
 rw [List.getElem_append_right (by omega), List.getElem_map]; congr 2; omega
theorem par_left {k : Int} (h : k < l.length) : par (l ++ m.map (mvN n l.length)) k = par l k := by
 by_cases h0 : k < 0
 ·rw [Cor.par_neg h0, Cor.par_neg h0]
 ·have e : k = (k.toNat : Nat) := by omega
  rw [e, Cor.par_at (by rw [List.length_append]; omega), Cor.par_at (by omega), nd_left (by omega)]
theorem par_right (z : Int) : par (l ++ m.map (mvN n l.length)) (sh l.length z) = sh l.length (par m z) := by
 by_cases h0 : z < 0
 ·rw [sh_neg h0, Cor.par_neg h0, Cor.par_neg h0]; rfl
 ·have e : z = (z.toNat : Nat) := by omega
  rw [sh_pos (by omega)]
  by_cases h : z.toNat < m.length
  ·have e2 : z + (l.length : Int) = ((l.length + z.toNat : Nat) : Int) := by omega
   rw [e2, Cor.par_at (by rw [List.length_append, List.length_map]; omega), nd_right h]
   conv => rhs; rw [e, Cor.par_at h]
   rfl
  ·have a : par m z = -1 := by unfold par; rw [if_pos (by omega), List.getElem?_eq_none (by omega)]
   have b : par (l ++ m.map (mvN n l.length)) (z + (l.length : Int)) = -1 := by unfold par; rw [if_pos (by omega), List.getElem?_eq_none (by rw [List.length_append, List.length_map]; omega)]
   rw [a, b]; rfl
theorem anc_left {p : Int} (ho : ParOk l l.length) : ∀ (f : Nat) (k : Int), k < l.length → anc (l ++ m.map (mvN n l.length)) p f k = anc l p f k
 | 0, k, _ => rfl
 | f + 1, k, h => by
  rw [anc, anc]
  by_cases h0 : k < 0
  ·rw [if_pos h0, if_pos h0]
  ·rw [if_neg h0, if_neg h0, par_left h, anc_left ho f _ (by have := Cor.par_ok ho (Nat.le_refl _) (k := k) (by omega) h; omega)]
theorem anc_right {p : Int} : ∀ (f : Nat) (k : Int), anc (l ++ m.map (mvN n l.length)) (sh l.length p) f (sh l.length k) = anc m p f k
 | 0, k => by
  show (sh l.length k == sh l.length p) = (k == p)
  rw [Bool.eq_iff_iff, beq_iff_eq, beq_iff_eq]; exact sh_inj
 | f + 1, k => by
  rw [anc, anc]
  by_cases h0 : k < 0
  ·rw [if_pos (sh_lt0.2 h0), if_pos h0, Bool.eq_iff_iff, beq_iff_eq, beq_iff_eq]; exact sh_inj
  ·rw [if_neg (fun h => h0 (sh_lt0.1 h)), if_neg h0]
   by_cases e : k = p
   ·rw [if_pos (sh_inj.2 e), if_pos e]
   ·rw [if_neg (fun h => e (sh_inj.1 h)), if_neg e, par_right, anc_right f]
theorem anc_fuel {p : Int} (ho : ParOk m m.length) : ∀ (f g : Nat) (k : Int), k < m.length → -1 ≤ k → k + 1 ≤ f → k + 1 ≤ g → anc m p f k = anc m p g k
 | 0, g, k, h, hm, h1, h2 => by rw [show k = -1 by omega, Cor.anc_end 0 (.inl (by omega)), Cor.anc_end g (.inl (by omega))]
 | f + 1, 0, k, h, hm, h1, h2 => by rw [show k = -1 by omega, Cor.anc_end 0 (.inl (by omega)), Cor.anc_end (f + 1) (.inl (by omega))]
 | f + 1, g + 1, k, h, hm, h1, h2 => by
  rw [anc, anc]
  by_cases e : k < 0
  ·rw [if_pos e, if_pos e]
  ·rw [if_neg e, if_neg e]
   have := Cor.par_ok ho (Nat.le_refl _) (k := k) (by omega) h
   rw [anc_fuel ho f g (par m k) (by omega) (by omega) (by omega) (by omega)]
theorem anc_root (ho : ParOk l l.length) : ∀ (f : Nat) (k : Int), k < l.length → -1 ≤ k → k + 1 ≤ f → anc l (-1) f k = true
 | 0, k, h, hm, h1 => by rw [show k = -1 by omega]; rfl
 | f + 1, k, h, hm, h1 => by
  by_cases e : k < 0
  ·rw [show k = -1 by omega, Cor.anc_end _ (.inl (by omega))]; rfl
  ·have := Cor.par_ok ho (Nat.le_refl _) (k := k) (by omega) h
   rw [Cor.anc_step f (by omega) (by omega), anc_root ho f _ (by omega) (by omega) (by omega)]
theorem dep_left (ho : ParOk l l.length) : ∀ (f : Nat) (k : Int), k < l.length → dep (l ++ m.map (mvN n l.length)) f k = dep l f k
 | 0, k, _ => rfl
 | f + 1, k, h => by
  rw [dep, dep]
  by_cases h0 : k < 0
  ·rw [if_pos h0, if_pos h0]
  ·rw [if_neg h0, if_neg h0, par_left h, dep_left ho f _ (by have := Cor.par_ok ho (Nat.le_refl _) (k := k) (by omega) h; omega)]
theorem dep_right : ∀ (f : Nat) (k : Int), dep (l ++ m.map (mvN n l.length)) f (sh l.length k) = dep m f k
 | 0, k => rfl
 | f + 1, k => by
  rw [dep, dep]
  by_cases h0 : k < 0
  ·rw [if_pos (sh_lt0.2 h0), if_pos h0]
  ·rw [if_neg (fun h => h0 (sh_lt0.1 h)), if_neg h0, par_right, dep_right f]
theorem sibE_app (p : Int) (b : List Nod) : ∀ a : List Nod, sibE p (a ++ b) = match sibE p b with | some e => some e | none => sibE p a
 | [] => by cases h : sibE p b <;> simp [h, sibE]
 | x :: a => by
  show sibE p (x :: (a ++ b)) = _
  rw [sibE, sibE_app p b a]
  cases h : sibE p b with
  | some e => rfl
  | none => rfl
theorem sibE_mv (p : Int) (s : Nat) (n : Int) : ∀ b : List Nod, sibE (sh s p) (b.map (mvN n s)) = (sibE p b).map (· + n)
 | [] => rfl
 | x :: b => by
  rw [List.map_cons, sibE, sibE_mv p s n b, sibE]
  cases h : sibE p b with
  | some e => rfl
  | none =>
   show (if sh s x.p = sh s p then some (x.e + n) else none) = _
   by_cases e : x.p = p
   ·rw [if_pos (sh_inj.2 e), if_pos e]; rfl
   ·rw [if_neg (fun h => e (sh_inj.1 h)), if_neg e]; rfl
theorem sibE_mem {p e : Int} : ∀ {a : List Nod}, sibE p a = some e → ∃ x ∈ a, x.e = e
 | x :: a, h => by
  rw [sibE] at h
  cases h2 : sibE p a with
  | some e' =>
   rw [h2] at h
   obtain ⟨y, hy, hye⟩ := sibE_mem h2
   simp at h; subst h
   exact ⟨y, List.mem_cons_of_mem _ hy, hye⟩
  | none =>
   rw [h2] at h
   simp only [] at h
   split at h
   ·simp at h; exact ⟨x, List.mem_cons_self, h⟩
   ·cases h
theorem parOk_left (h : ParOk (l ++ m.map (mvN n l.length)) (l ++ m.map (mvN n l.length)).length) : ParOk l l.length := by
 intro j hj hl
 have := h j (by rw [List.length_append]; omega) (by rw [List.length_append]; omega)
 rw [nd_left hl] at this; exact this
theorem parOk_right (h : ParOk (l ++ m.map (mvN n l.length)) (l ++ m.map (mvN n l.length)).length) : ParOk m m.length := by
 intro j hj hl
 have := h (l.length + j) (by rw [List.length_append, List.length_map]; omega) (by rw [List.length_append, List.length_map]; omega)
 rw [nd_right hl] at this
 have e : (mvN n l.length m[j]).p = sh l.length m[j].p := rfl
 rw [e] at this
 unfold sh at this
 split at this <;> omega
theorem ndC_app {ts us : List Txt} (hu : ∀ t ∈ us, 0 ≤ t.b) (ht : ∀ t ∈ ts, t.e ≤ n) (hl : ∀ x ∈ l, x.e ≤ n) (hm : ∀ x ∈ m, 0 ≤ x.b) :
  NdC (ts ++ us.map (mvT n)) (l ++ m.map (mvN n l.length)) ↔ NdC ts l ∧ NdC us m ∧ l.length + m.length ≤ 2048 := by
 have ll : (l ++ m.map (mvN n l.length)).length = l.length + m.length := by rw [List.length_append, List.length_map]
 have key1 : ParOk l l.length → ∀ k (hk : k < l.length), anc (l ++ m.map (mvN n l.length)) l[k].p k ((k : Int) - 1) = anc l l[k].p k ((k : Int) - 1) := fun ho k hk => anc_left ho k _ (by omega)
 have key2 : ParOk l l.length → ParOk m m.length → ∀ j (hj : j < m.length), anc (l ++ m.map (mvN n l.length)) (sh l.length m[j].p) (l.length + j) (((l.length + j : Nat) : Int) - 1) = anc m m[j].p j ((j : Int) - 1) := by
  intro ho ho2 j hj
  cases j with
  | succ j =>
   rw [show ((l.length + (j + 1) : Nat) : Int) - 1 = sh l.length (j : Nat) by rw [sh_pos (by omega)]; omega, anc_right, show (((j + 1 : Nat) : Int) - 1) = (j : Nat) by omega]
   exact anc_fuel ho2 _ _ _ (by omega) (by omega) (by omega) (by omega)
  | zero =>
   have e0 : anc m m[0].p 0 (((0 : Nat) : Int) - 1) = ((-1 : Int) == m[0].p) := rfl
   rw [e0, anc_left ho _ _ (by omega)]
   by_cases hp : m[0].p = -1
   ·rw [hp, sh_neg (by omega), anc_root ho _ _ (by omega) (by omega) (by omega)]; rfl
   ·have e1 : ((-1 : Int) == m[0].p) = false := by simpa using fun h => hp h.symm
    rw [e1]
    cases hb : anc l (sh l.length m[0].p) (l.length + 0) (((l.length + 0 : Nat) : Int) - 1) with
    | false => rfl
    | true =>
     have := Cor.anc_bound ho (Nat.le_refl _) _ _ (by omega) (by omega) hb
     unfold sh at this
     split at this <;> omega
 have par1 : ParOk l l.length → ∀ k (hk : k < l.length), ((l ++ m.map (mvN n l.length))[l[k].p.toNat]?).any (fun q => decide (l[k].b < q.b) || decide (q.e < l[k].e)) = (l[l[k].p.toNat]?).any (fun q => decide (l[k].b < q.b) || decide (q.e < l[k].e)) := by
  intro ho k hk
  have := ho k hk hk
  rw [List.getElem?_append_left (by omega)]
 have par2 : ∀ j (hj : j < m.length), 0 ≤ m[j].p → ((l ++ m.map (mvN n l.length))[(sh l.length m[j].p).toNat]?).any (fun q => decide (m[j].b + n < q.b) || decide (q.e < m[j].e + n)) = (m[m[j].p.toNat]?).any (fun q => decide (m[j].b < q.b) || decide (q.e < m[j].e)) := by
  intro j hj h0
  rw [sh_pos h0, show (m[j].p + (l.length : Int)).toNat = l.length + m[j].p.toNat by omega, List.getElem?_append_right (by omega), show l.length + m[j].p.toNat - l.length = m[j].p.toNat by omega, List.getElem?_map, Option.any_map]
  congr 1
  funext q
  show (decide (m[j].b + n < q.b + n) || decide (q.e + n < m[j].e + n)) = _
  rw [Bool.eq_iff_iff]
  simp only [Bool.or_eq_true, decide_eq_true_eq]
  omega
 have sib1 : ∀ k (hk : k < l.length), (l ++ m.map (mvN n l.length)).take k = l.take k := fun k hk => List.take_append_of_le_length (by omega)
 have sib2 : ∀ j (hj : j < m.length), (sibE (sh l.length m[j].p) ((l ++ m.map (mvN n l.length)).take (l.length + j))).any (fun e => decide (m[j].b + n < e)) = (sibE m[j].p (m.take j)).any (fun e => decide (m[j].b < e)) := by
  intro j hj
  rw [List.take_length_add_append, sibE_app, ← List.map_take, sibE_mv]
  cases h : sibE m[j].p (m.take j) with
  | some e =>
   show decide (m[j].b + n < e + n) = decide (m[j].b < e)
   rw [Bool.eq_iff_iff, decide_eq_true_eq, decide_eq_true_eq]; omega
  | none =>
   show (sibE (sh l.length m[j].p) l).any (fun e => decide (m[j].b + n < e)) = false
   cases h2 : sibE (sh l.length m[j].p) l with
   | none => rfl
   | some e =>
    obtain ⟨x, hx, rfl⟩ := sibE_mem h2
    have := hl x hx
    have := hm _ (List.getElem_mem hj)
    show decide (m[j].b + n < x.e) = false
    rw [decide_eq_false_iff_not]; omega
 have dep2 : ParOk m m.length → ∀ j (hj : j < m.length), dep (l ++ m.map (mvN n l.length)) (l.length + j + 1) ((l.length + j : Nat) : Int) = dep m (j + 1) j := by
  intro ho j hj
  rw [show ((l.length + j : Nat) : Int) = sh l.length (j : Nat) by rw [sh_pos (by omega)]; omega, dep_right]
  exact Cor.dep_fuel ho (Nat.le_refl _) _ _ _ (by omega) (by omega) (by omega)
 constructor
 ·intro h
  have ho := parOk_left h.pok
  have ho2 := parOk_right h.pok
  obtain ⟨h1, h2, h3, h4, h5, h6⟩ := h
  rw [ll] at h1
  refine ⟨⟨by omega, fun x hx => ?_, fun k hk => ?_, fun k hk h0 => ?_, fun k hk => ?_, fun k hk => ?_⟩, ⟨by omega, fun x hx => ?_, fun j hj => ?_, fun j hj h0 => ?_, fun j hj => ?_, fun j hj => ?_⟩, h1⟩
  ·have := h2 x (List.mem_append_left _ hx)
   rw [within_left (hl x hx) hu] at this; exact this
  ·have := h3 k (by rw [ll]; omega)
   rw [nd_left hk, key1 ho k hk] at this; exact this
  ·have := h4 k (by rw [ll]; omega)
   simp only [nd_left hk] at this
   rw [par1 ho k hk] at this; exact this h0
  ·have := h5 k (by rw [ll]; omega)
   rw [nd_left hk, sib1 k hk] at this; exact this
  ·have := h6 k (by rw [ll]; omega)
   rw [dep_left ho _ _ (by omega)] at this; exact this
  ·have := h2 (mvN n l.length x) (List.mem_append_right _ (List.mem_map.2 ⟨x, hx, rfl⟩))
   have w : within (ts ++ us.map (mvT n)) (x.b + n) (x.e + n) = true := this.2
   rw [within_right (hm x hx) ht] at w
   exact ⟨this.1, w⟩
  ·have := h3 (l.length + j) (by rw [ll]; omega)
   rw [nd_right hj] at this
   rw [← key2 ho ho2 j hj]; exact this
  ·have := h4 (l.length + j) (by rw [ll]; omega)
   simp only [nd_right hj] at this
   rw [← par2 j hj h0]
   refine this ?_
   show 0 ≤ sh l.length m[j].p
   rw [sh_pos h0]; omega
  ·have := h5 (l.length + j) (by rw [ll]; omega)
   simp only [nd_right hj] at this
   rw [← sib2 j hj]; exact this
  ·have := h6 (l.length + j) (by rw [ll]; omega)
   rw [dep2 ho2 j hj] at this; exact this
 ·rintro ⟨A, B, hlen⟩
  have ho := A.pok
  have ho2 := B.pok
  obtain ⟨a1, a2, a3, a4, a5, a6⟩ := A
  obtain ⟨b1, b2, b3, b4, b5, b6⟩ := B
  have cases_ : ∀ k, k < (l ++ m.map (mvN n l.length)).length → (k < l.length ∨ ∃ j, j < m.length ∧ k = l.length + j) := by
   intro k hk
   rw [ll] at hk
   by_cases h : k < l.length
   ·exact .inl h
   ·exact .inr ⟨k - l.length, by omega, by omega⟩
  refine ⟨by rw [ll]; exact hlen, fun x hx => ?_, fun k hk => ?_, fun k hk h0 => ?_, fun k hk => ?_, fun k hk => ?_⟩
  ·rcases List.mem_append.1 hx with e | e
   ·rw [within_left (hl x e) hu]; exact a2 x e
   ·obtain ⟨y, hy, rfl⟩ := List.mem_map.1 e
    have := b2 y hy
    refine ⟨this.1, ?_⟩
    show within (ts ++ us.map (mvT n)) (y.b + n) (y.e + n) = true
    rw [within_right (hm y hy) ht]; exact this.2
  ·rcases cases_ k hk with h | ⟨j, hj, rfl⟩
   ·rw [nd_left h, key1 ho k h]; exact a3 k h
   ·rw [nd_right hj]
    show anc _ (sh l.length m[j].p) _ _ = true
    rw [key2 ho ho2 j hj]; exact b3 j hj
  ·rcases cases_ k hk with h | ⟨j, hj, rfl⟩
   ·simp only [nd_left h] at h0 ⊢
    rw [par1 ho k h]; exact a4 k h h0
   ·simp only [nd_right hj] at h0 ⊢
    have h0' : 0 ≤ m[j].p := by
     refine Classical.byContradiction fun hc => ?_
     have : (mvN n l.length m[j]).p = m[j].p := by unfold mvN; rw [if_neg hc]
     omega
    have := par2 j hj h0'
    exact this.trans (b4 j hj h0')
  ·rcases cases_ k hk with h | ⟨j, hj, rfl⟩
   ·rw [nd_left h, sib1 k h]; exact a5 k h
   ·simp only [nd_right hj]
    exact (sib2 j hj).trans (b5 j hj)
  ·rcases cases_ k hk with h | ⟨j, hj, rfl⟩
   ·rw [dep_left ho _ _ (by omega)]; exact a6 k h
   ·rw [dep2 ho2 j hj]; exact b6 j hj
end
theorem mvH_inj {n : Nat} {a b : Int} : mvH (n : Int) a = mvH n b ↔ a = b := sh_inj
theorem nx_left {h k : List Int} {z : Int} (hz : z < h.length) : Dep.nx (h ++ k.map (mvH (h.length : Int))) z = Dep.nx h z := by
 unfold Dep.nx
 by_cases h0 : 0 ≤ z
 ·rw [if_pos h0, if_pos h0, List.getD_eq_getElem?_getD, List.getD_eq_getElem?_getD, List.getElem?_append_left (by omega)]
 ·rw [if_neg h0, if_neg h0]
theorem nx_right {h k : List Int} (z : Int) : Dep.nx (h ++ k.map (mvH (h.length : Int))) (mvH (h.length : Int) z) = mvH (h.length : Int) (Dep.nx k z) := by
 by_cases h0 : 0 ≤ z
 ·have e : mvH (h.length : Int) z = z + h.length := if_pos h0
  rw [e]
  unfold Dep.nx
  rw [if_pos (by omega), if_pos h0, List.getD_eq_getElem?_getD, List.getD_eq_getElem?_getD, List.getElem?_append_right (by omega), show (z + (h.length : Int)).toNat - h.length = z.toNat by omega, List.getElem?_map]
  cases h2 : k[z.toNat]? with
  | none => rfl
  | some x => rfl
 ·have e : mvH (h.length : Int) z = z := if_neg h0
  rw [e, Dep.nx_neg (by omega), Dep.nx_neg (by omega)]; rfl
theorem up_left {h k : List Int} (ho : Dep.Ok h) : ∀ (f : Nat) (z : Int), z < h.length → Dep.up (h ++ k.map (mvH (h.length : Int))) f z = Dep.up h f z
 | 0, z, _ => rfl
 | f + 1, z, hz => by
  rw [Dep.up, Dep.up, nx_left hz, up_left ho f _ (Dep.nx_ok ho z).2]
theorem up_right {h k : List Int} : ∀ (f : Nat) (z : Int), Dep.up (h ++ k.map (mvH (h.length : Int))) f (mvH (h.length : Int) z) = mvH (h.length : Int) (Dep.up k f z)
 | 0, z => rfl
 | f + 1, z => by rw [Dep.up, Dep.up, nx_right, up_right f]
theorem cyc_left {h k : List Int} (ho : Dep.Ok h) {i : Nat} (hi : i < h.length) : Dep.Cyc (h ++ k.map (mvH (h.length : Int))) (i : Nat) ↔ Dep.Cyc h (i : Nat) := by
 unfold Dep.Cyc
 constructor
 ·rintro ⟨a, f, hf⟩; exact ⟨a, f, by rw [up_left ho _ _ (by omega)] at hf; exact hf⟩
 ·rintro ⟨a, f, hf⟩; exact ⟨a, f, by rw [up_left ho _ _ (by omega)]; exact hf⟩
theorem cyc_right {h k : List Int} {j : Nat} : Dep.Cyc (h ++ k.map (mvH (h.length : Int))) ((h.length + j : Nat) : Int) ↔ Dep.Cyc k (j : Nat) := by
 have e : ((h.length + j : Nat) : Int) = mvH (h.length : Int) (j : Nat) := by unfold mvH; rw [if_pos (by omega)]; omega
 unfold Dep.Cyc
 constructor
 ·rintro ⟨a, f, hf⟩
  rw [e, up_right, mvH_inj] at hf
  exact ⟨by omega, f, hf⟩
 ·rintro ⟨a, f, hf⟩
  refine ⟨by omega, f, ?_⟩
  rw [e, up_right, hf]
theorem hdC_app {n n' : Nat} {ts us : List Txt} {h k : List Int} {r s : List Bs} (h1 : h.length = n) (h2 : k.length = n') (h3 : r.length = n) (h4 : s.length = n') (ht : ∀ t ∈ ts, 0 ≤ t.b ∧ t.e ≤ n) (hu : ∀ t ∈ us, 0 ≤ t.b ∧ t.e ≤ n') :
  HdC (n + n') (ts ++ us.map (mvT (n : Int))) (h ++ k.map (mvH (n : Int))) (r ++ s) ↔ HdC n ts h r ∧ HdC n' us k s := by
 subst h1
 have ll : (h ++ k.map (mvH (h.length : Int))).length = h.length + k.length := by rw [List.length_append, List.length_map]
 have gl : ∀ i (hi : i < h.length) (hi2 : i < (h ++ k.map (mvH (h.length : Int))).length), (h ++ k.map (mvH (h.length : Int)))[i] = h[i] := fun i hi _ => List.getElem_append_left hi
 have gr : ∀ j (hj : j < k.length) (hi2 : h.length + j < (h ++ k.map (mvH (h.length : Int))).length), (h ++ k.map (mvH (h.length : Int)))[h.length + j] = mvH (h.length : Int) k[j] := by
  intro j hj _
  rw [List.getElem_append_right (by omega), List.getElem_map]; congr 2; omega
 constructor
 ·intro H
  have one1 : ∀ i (hi : i < h.length), h[i] = -1 ∨ ∃ t ∈ ts, t.b ≤ (i : Int) ∧ (i : Int) < t.e ∧ t.b ≤ h[i] ∧ h[i] < t.e := by
   intro i hi
   have := H.one i (by rw [ll]; omega)
   rw [gl i hi] at this
   rcases this with e | ⟨t, m, a⟩
   ·exact .inl e
   ·right
    rcases List.mem_append.1 m with e | e
    ·exact ⟨t, e, a⟩
    ·obtain ⟨u, q, rfl⟩ := List.mem_map.1 e
     have := hu u q
     have : u.b + (h.length : Int) ≤ i := a.1
     omega
  have one2 : ∀ j (hj : j < k.length), k[j] = -1 ∨ ∃ t ∈ us, t.b ≤ (j : Int) ∧ (j : Int) < t.e ∧ t.b ≤ k[j] ∧ k[j] < t.e := by
   intro j hj
   have := H.one (h.length + j) (by rw [ll]; omega)
   rw [gr j hj] at this
   rcases this with e | ⟨t, m, a⟩
   ·left
    unfold mvH at e
    split at e <;> omega
   ·right
    rcases List.mem_append.1 m with e | e
    ·have := ht t e; omega
    ·obtain ⟨u, q, rfl⟩ := List.mem_map.1 e
     have q2 := hu u q
     obtain ⟨c1, c2, c3, c4⟩ := a
     have c1 : u.b + (h.length : Int) ≤ ((h.length + j : Nat) : Int) := c1
     have c2 : ((h.length + j : Nat) : Int) < u.e + (h.length : Int) := c2
     have c3 : u.b + (h.length : Int) ≤ mvH (h.length : Int) k[j] := c3
     have c4 : mvH (h.length : Int) k[j] < u.e + (h.length : Int) := c4
     refine ⟨u, q, by omega, by omega, ?_⟩
     unfold mvH at c3 c4
     split at c3 <;> split at c4 <;> omega
  have ok : Dep.Ok h := by
   intro x hx
   obtain ⟨i, hi, rfl⟩ := List.getElem_of_mem hx
   rcases one1 i hi with e | ⟨t, m, a⟩
   ·omega
   ·have := ht t m; omega
  refine ⟨⟨rfl, h3, one1, fun x hx => H.rel x (List.mem_append_left _ hx), fun i hi hc => H.acy i (by rw [ll]; omega) ((cyc_left ok hi).2 hc)⟩, ⟨h2, h4, one2, fun x hx => H.rel x (List.mem_append_right _ hx), fun j hj hc => H.acy (h.length + j) (by rw [ll]; omega) (cyc_right.2 hc)⟩⟩
 ·rintro ⟨A, B⟩
  have cs : ∀ i, i < (h ++ k.map (mvH (h.length : Int))).length → (i < h.length ∨ ∃ j, j < k.length ∧ i = h.length + j) := by
   intro i hi
   rw [ll] at hi
   by_cases e : i < h.length
   ·exact .inl e
   ·exact .inr ⟨i - h.length, by omega, by omega⟩
  refine ⟨by rw [ll]; omega, by rw [List.length_append]; omega, fun i hi => ?_, fun x hx => ?_, fun i hi hc => ?_⟩
  ·rcases cs i hi with e | ⟨j, hj, rfl⟩
   ·rw [gl i e]
    rcases A.one i e with q | ⟨t, m, a⟩
    ·exact .inl q
    ·exact .inr ⟨t, List.mem_append_left _ m, a⟩
   ·rw [gr j hj]
    rcases B.one j hj with q | ⟨t, m, a⟩
    ·left; rw [q]; rfl
    ·right
     have q2 := hu t m
     refine ⟨mvT h.length t, List.mem_append_right _ (List.mem_map.2 ⟨t, m, rfl⟩), ?_, ?_, ?_, ?_⟩
     ·show t.b + (h.length : Int) ≤ _; omega
     ·show _ < t.e + (h.length : Int); omega
     ·show t.b + (h.length : Int) ≤ _; unfold mvH; rw [if_pos (by omega)]; omega
     ·show _ < t.e + (h.length : Int); unfold mvH; rw [if_pos (by omega)]; omega
  ·rcases List.mem_append.1 hx with e | e
   ·exact A.rel x e
   ·exact B.rel x e
  ·rcases cs i hi with e | ⟨j, hj, rfl⟩
   ·exact A.acy i e ((cyc_left (A.ok ht) e).1 hc)
   ·exact B.acy j hj (cyc_right.1 hc)

theorem TxC.bd {n : Nat} {l : List Txt} (h : TxC n l) : ∀ t ∈ l, 0 ≤ t.b ∧ t.e ≤ n := fun t ht => by
 have := (chain_bd h.row).2 t ht; omega
theorem within_bd {ts : List Txt} {n : Nat} (h : ∀ t ∈ ts, 0 ≤ t.b ∧ t.e ≤ n) {b e : Int} (hw : within ts b e = true) : 0 ≤ b ∧ b < e ∧ e ≤ n := by
 unfold within at hw
 rw [List.any_eq_true] at hw
 obtain ⟨t, ht, h2⟩ := hw
 have := h t ht
 simp only [Bool.and_eq_true, decide_eq_true_eq] at h2
 omega
theorem Core.rgb {c : C} (h : Core c) : ∀ x ∈ c.regs, 0 ≤ x.b ∧ x.b < x.e ∧ x.e ≤ c.toks.length := fun x hx => within_bd h.x.bd (h.r.one x hx).2.1
theorem Core.ndb {c : C} (h : Core c) : ∀ x ∈ c.nods, 0 ≤ x.b ∧ x.b < x.e ∧ x.e ≤ c.toks.length := fun x hx => within_bd h.x.bd (h.n.one x hx).2
theorem core_app {X Y : C} (hx : Core X) (hy : Core Y) (ha : X.attrs = Y.attrs) (hd : ∀ t ∈ X.texts, ∀ u ∈ Y.texts, t.nm ≠ u.nm) (l1 : X.toks.length + Y.toks.length ≤ 4096) (l2 : X.texts.length + Y.texts.length ≤ 64) (l3 : X.regs.length + Y.regs.length ≤ 1024) (l4 : X.nods.length + Y.nods.length ≤ 2048) : Core (app X Y) := by
 have lt : (app X Y).toks.length = X.toks.length + Y.toks.length := List.length_append
 refine ⟨hx.a, ?_, ?_, ?_, ?_, ?_⟩
 ·have a := tkC_iff.1 hx.t
  have b := tkC_iff.1 hy.t
  rw [← ha] at b
  refine tkC_iff.2 ⟨by rw [lt]; exact l1, fun t ht => ?_⟩
  rcases List.mem_append.1 ht with e | e
  ·exact a.2 t e
  ·exact b.2 t e
 ·rw [lt]; exact txC_app hx.x hy.x hd l2
 ·exact (rgC_app (fun t ht => (hy.x.bd t ht).1) (fun t ht => (hx.x.bd t ht).2) (fun x h => (hx.rgb x h).2.2) (fun x h => (hy.rgb x h).1)).2 ⟨hx.r, hy.r, l3⟩
 ·exact (ndC_app (fun t ht => (hy.x.bd t ht).1) (fun t ht => (hx.x.bd t ht).2) (fun x h => (hx.ndb x h).2.2) (fun x h => (hy.ndb x h).1)).2 ⟨hx.n, hy.n, l4⟩
 ·rw [lt]; exact (hdC_app hx.h.hl hy.h.hl hx.h.rl hy.h.rl hx.x.bd hy.x.bd).2 ⟨hx.h, hy.h⟩
theorem bare_app {h k : List Int} {r s : List Bs} {n : Nat} : bare (h ++ k.map (mvH (n : Int))) (r ++ s) = (bare h r && bare k s) := by
 rw [Bool.eq_iff_iff, Bool.and_eq_true, bare_iff, bare_iff, bare_iff]
 constructor
 ·rintro ⟨a, b⟩
  refine ⟨⟨fun x hx => a x (List.mem_append_left _ hx), fun x hx => b x (List.mem_append_left _ hx)⟩, ⟨fun x hx => ?_, fun x hx => b x (List.mem_append_right _ hx)⟩⟩
  have := a (mvH n x) (List.mem_append_right _ (List.mem_map.2 ⟨x, hx, rfl⟩))
  unfold mvH at this
  split at this <;> omega
 ·rintro ⟨⟨a, b⟩, ⟨c, d⟩⟩
  refine ⟨fun x hx => ?_, fun x hx => (List.mem_append.1 hx).elim (b x) (d x)⟩
  rcases List.mem_append.1 hx with e | e
  ·exact a x e
  ·obtain ⟨y, hy, rfl⟩ := List.mem_map.1 e
   rw [c y hy]; rfl
theorem bare_full {c : C} (v : Vd c) : bare (allH c) (allL c) = (c.heads.length == 0) := by
 unfold allH allL
 by_cases h0 : 0 < c.heads.length
 ·rw [if_pos h0, if_pos h0, v.bare h0]
  have : c.heads.length ≠ 0 := by omega
  simp [this]
 ·rw [if_neg h0, if_neg h0, (bare_rep (n := c.toks.length) (by simp) (by simp)).2 ⟨rfl, rfl⟩]
  have : c.heads.length = 0 := by omega
  simp [this]
theorem join_eq {a b : C} (va : Vd a) (vb : Vd b) : Cor.join a b = pack (app (full a) (full b)) := by
 unfold pack
 have hb : bare (app (full a) (full b)).heads (app (full a) (full b)).rels = ((a.heads.length == 0) && (b.heads.length == 0)) := by
  rw [← bare_full va, ← bare_full vb]; exact bare_app
 rw [hb]
 unfold Cor.join
 by_cases h : a.heads.length + b.heads.length = 0
 ·rw [if_pos h, if_pos h, if_pos (by rw [Bool.and_eq_true, beq_iff_eq, beq_iff_eq]; omega)]; rfl
 ·rw [if_neg h, if_neg h, if_neg (by rw [Bool.and_eq_true, beq_iff_eq, beq_iff_eq]; omega)]; rfl
theorem find_any {l : List Txt} {nm : Bs} : (0 ≤ Cor.findT l nm) ↔ ∃ t ∈ l, t.nm = nm := by
 unfold Cor.findT
 cases h : l.findIdx? (fun t => t.nm == nm) with
 | none =>
  rw [List.findIdx?_eq_none_iff] at h
  constructor
  ·intro e; simp only [] at e; omega
  ·rintro ⟨t, ht, rfl⟩; have := h t ht; simp at this
 | some i =>
  rw [List.findIdx?_eq_some_iff_getElem] at h
  obtain ⟨hi, e, _⟩ := h
  exact ⟨fun _ => ⟨l[i], List.getElem_mem hi, by simpa using e⟩, fun _ => by simp only []; omega⟩
structure Cat (a b c : C) : Prop where
 va : Vd a
 vb : Vd b
 at_ : a.attrs = b.attrs
 dis : ∀ t ∈ a.texts, ∀ u ∈ b.texts, t.nm ≠ u.nm
 l1 : a.toks.length + b.toks.length ≤ 4096
 l2 : a.texts.length + b.texts.length ≤ 64
 l3 : a.regs.length + b.regs.length ≤ 1024
 l4 : a.nods.length + b.nods.length ≤ 2048
 eq : c = Cor.join a b
theorem dup_iff {a b : C} : b.texts.any (fun t => decide (0 ≤ Cor.findT a.texts t.nm)) = true ↔ ¬ ∀ t ∈ a.texts, ∀ u ∈ b.texts, t.nm ≠ u.nm := by
 rw [List.any_eq_true]
 constructor
 ·rintro ⟨u, hu, e⟩ h
  rw [decide_eq_true_eq, find_any] at e
  obtain ⟨t, ht, hn⟩ := e
  exact h t ht u hu hn
 ·intro h
  refine Classical.byContradiction fun hc => h fun t ht u hu hn => hc ⟨u, hu, ?_⟩
  rw [decide_eq_true_eq, find_any]
  exact ⟨t, ht, hn⟩
theorem cat_ok {a b c : C} : Cor.cat a b = (c, 0) ↔ Cat a b c := by
 unfold Cor.cat
 constructor
 ·intro h
  by_cases h1 : valid a = false ∨ valid b = false
  ·rw [if_pos h1] at h; cases h
  rw [if_neg h1] at h
  by_cases h2 : a.attrs ≠ b.attrs
  ·rw [if_pos h2] at h; cases h
  rw [if_neg h2] at h
  by_cases h3 : b.texts.any (fun t => decide (0 ≤ Cor.findT a.texts t.nm)) = true
  ·rw [if_pos h3] at h; cases h
  rw [if_neg h3] at h
  by_cases h4 : 4096 < a.toks.length + b.toks.length ∨ 64 < a.texts.length + b.texts.length ∨ 1024 < a.regs.length + b.regs.length ∨ 2048 < a.nods.length + b.nods.length
  ·rw [if_pos h4] at h; cases h
  rw [if_neg h4] at h
  have e : Cor.join a b = c := congrArg Prod.fst h
  refine ⟨vd_iff.1 ?_, vd_iff.1 ?_, by simpa using h2, ?_, by omega, by omega, by omega, by omega, e.symm⟩
  ·cases h : valid a with
   | true => rfl
   | false => exact absurd (.inl h) h1
  ·cases h : valid b with
   | true => rfl
   | false => exact absurd (.inr h) h1
  ·exact Classical.byContradiction fun hc => h3 (dup_iff.2 hc)
 ·rintro ⟨a1, a2, a3, a4, a5, a6, a7, a8, rfl⟩
  rw [if_neg (by rw [vd_iff.2 a1, vd_iff.2 a2]; simp), if_neg (by simpa using a3), if_neg (fun h => dup_iff.1 h a4), if_neg (by omega)]
theorem Cat.core {a b c : C} (h : Cat a b c) : Core (app (full a) (full b)) :=
 core_app (core_of_vd h.va) (core_of_vd h.vb) h.at_ h.dis h.l1 h.l2 h.l3 h.l4
theorem Cat.vd {a b c : C} (h : Cat a b c) : Vd c := by
 rw [h.eq, join_eq h.va h.vb]; exact vd_of_core h.core
theorem Cat.full {a b c : C} (h : Cat a b c) : full c = app (full a) (full b) := by
 rw [h.eq, join_eq h.va h.vb]; exact full_pack h.core.h.hl h.core.h.rl
end Go.Proofs.YtgkdaebiefhgdaaGreatDoor
