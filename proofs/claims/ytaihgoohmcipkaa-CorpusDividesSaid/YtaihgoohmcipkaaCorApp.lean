/-
  Plain: two full corpora one behind the other are valid exactly if each is, but for names and bounds. No conditions.
-/
import Derived.Test.YtaihgoohmcipkaaCorFull
namespace Go.Proofs.Ytaihgoohmcipkaa
set_option linter.unusedSimpArgs false
set_option linter.unusedVariables false
open Cor (C Nod Txt Reg atErr tkErr txErr rgErr ndErr hdErr check valid within prErr par anc sibE dep ParOk allH allL bare mvT mvR mvN mvH cmpR cmpI crossR coverR)
open Tagp (okName)
open Feat (Bs)

def app (X Y : C) : C where
  attrs := X.attrs
  toks := X.toks ++ Y.toks
  texts := X.texts ++ Y.texts.map (mvT X.toks.length)
  regs := X.regs ++ Y.regs.map (mvR X.toks.length)
  nods := X.nods ++ Y.nods.map (mvN X.toks.length X.nods.length)
  heads := X.heads ++ Y.heads.map (mvH X.toks.length)
  rels := X.rels ++ Y.rels

/-! Tokens. -/
theorem tkC_iff {ats : List (Bs × Bool)} {l : List (List Bs)} : (tkErr ats l).2 = 0 ↔ l.length ≤ 4096 ∧ ∀ t ∈ l, t.length = ats.length ∧ (Cor.first (Cor.tvF ats t) 0 t.length).2 = 0 := by
  unfold tkErr
  constructor
  · intro h
    by_cases e : 4096 < l.length
    · rw [if_pos e] at h; cases h
    rw [if_neg e] at h
    refine ⟨by omega, fun t ht => ?_⟩
    obtain ⟨k, hk, rfl⟩ := List.getElem_of_mem ht
    have := Cor.first_zero 0 _ h k (Nat.zero_le _) (by omega)
    unfold Cor.tkF at this
    rw [List.getElem?_eq_getElem hk] at this
    by_cases e3 : l[k].length ≠ ats.length
    · simp only [] at this; rw [if_pos e3] at this; cases this
    · simp only [] at this; rw [if_neg e3] at this; exact ⟨by omega, this⟩
  · rintro ⟨h1, h2⟩
    rw [if_neg (by omega), Cor.first_none 0 l.length]
    intro k _ hk
    have hk : k < l.length := by omega
    have := h2 _ (List.getElem_mem hk)
    unfold Cor.tkF
    rw [List.getElem?_eq_getElem hk]
    simp only []
    rw [if_neg (by omega)]; exact this.2

/-! Texts. -/
theorem txC_app {n n' : Nat} {l m : List Txt} (h1 : TxC n l) (h2 : TxC n' m) (hd : ∀ t ∈ l, ∀ u ∈ m, t.nm ≠ u.nm) (hl : l.length + m.length ≤ 64) : TxC (n + n') (l ++ m.map (mvT (n : Int))) := by
  refine ⟨by simpa using hl, ?_, fun t ht => ?_, ?_⟩
  · rw [chain_app]
    refine ⟨n, h1.row, ?_⟩
    have := (chain_mv (k := (n : Int)) (n := (n' : Int)) (l := m) (u := 0)).2 h2.row
    rw [show ((n + n' : Nat) : Int) = (n' : Int) + n by omega]
    rw [Int.zero_add] at this; exact this
  · rcases List.mem_append.1 ht with e | e
    · exact h1.one t e
    · obtain ⟨u, hu, rfl⟩ := List.mem_map.1 e
      exact h2.one u hu
  · rw [List.pairwise_append, List.pairwise_map]
    refine ⟨h1.dis, h2.dis, fun a ha b hb => ?_⟩
    obtain ⟨u, hu, rfl⟩ := List.mem_map.1 hb
    exact hd a ha u hu
theorem txC_cut {n n' : Nat} {l m : List Txt} (h : TxC (n + n') (l ++ m.map (mvT (n : Int)))) (hc : Chain 0 l n) : TxC n l ∧ TxC n' m ∧ ∀ t ∈ l, ∀ u ∈ m, t.nm ≠ u.nm := by
  have hlen := h.len
  rw [List.length_append, List.length_map] at hlen
  have hd := h.dis
  rw [List.pairwise_append, List.pairwise_map] at hd
  obtain ⟨v, c1, c2⟩ := chain_app.1 h.row
  have := chain_end c1 hc
  subst this
  refine ⟨⟨by omega, hc, fun t ht => h.one t (List.mem_append_left _ ht), hd.1⟩, ⟨by omega, ?_, fun t ht => h.one (mvT n t) (List.mem_append_right _ (List.mem_map.2 ⟨t, ht, rfl⟩)), hd.2.1⟩, fun t ht u hu => hd.2.2 t ht (mvT n u) (List.mem_map.2 ⟨u, hu, rfl⟩)⟩
  rw [show ((n + n' : Nat) : Int) = (n' : Int) + n by omega] at c2
  exact (chain_mv (k := (n : Int)) (n := (n' : Int)) (l := m) (u := 0)).1 (by rw [Int.zero_add]; exact c2)

/-! Regions. -/
theorem within_left {ts us : List Txt} {n b e : Int} (he : e ≤ n) (hu : ∀ t ∈ us, 0 ≤ t.b) : within (ts ++ us.map (mvT n)) b e = within ts b e := by
  unfold within
  rw [List.any_append]
  have : (us.map (mvT n)).any (fun t => decide (t.b ≤ b) && decide (b < e) && decide (e ≤ t.e)) = false := by
    rw [List.any_eq_false]
    intro t ht
    obtain ⟨u, hu', rfl⟩ := List.mem_map.1 ht
    have := hu u hu'
    show ¬ ((decide (u.b + n ≤ b) && decide (b < e) && decide (e ≤ u.e + n)) = true)
    simp only [Bool.and_eq_true, decide_eq_true_eq]
    omega
  rw [this, Bool.or_false]
theorem within_right {ts us : List Txt} {n b e : Int} (hb : 0 ≤ b) (ht : ∀ t ∈ ts, t.e ≤ n) : within (ts ++ us.map (mvT n)) (b + n) (e + n) = within us b e := by
  unfold within
  rw [List.any_append]
  have : ts.any (fun t => decide (t.b ≤ b + n) && decide (b + n < e + n) && decide (e + n ≤ t.e)) = false := by
    rw [List.any_eq_false]
    intro t ht'
    have := ht t ht'
    simp only [Bool.and_eq_true, decide_eq_true_eq]
    omega
  rw [this, Bool.false_or, List.any_map]
  congr 1
  funext t
  show (decide (t.b + n ≤ b + n) && decide (b + n < e + n) && decide (e + n ≤ t.e + n)) = _
  rw [Bool.eq_iff_iff]
  simp only [Bool.and_eq_true, decide_eq_true_eq]
  omega
theorem cmpI_mv (a b n : Int) : cmpI (a + n) (b + n) = cmpI a b := by
  unfold cmpI
  by_cases h1 : a < b
  · rw [if_pos h1, if_pos (by omega)]
  · rw [if_neg h1, if_neg (by omega)]
    by_cases h2 : b < a
    · rw [if_pos h2, if_pos (by omega)]
    · rw [if_neg h2, if_neg (by omega)]
theorem cmpR_mv (x y : Reg) (n : Int) : cmpR (mvR n x) (mvR n y) = cmpR x y := by
  unfold cmpR mvR
  simp only [cmpI_mv]
theorem cross_mv (x y : Reg) (n : Int) : crossR (mvR n x) (mvR n y) = crossR x y := by
  unfold crossR mvR
  rw [Bool.eq_iff_iff]
  simp only [Bool.and_eq_true, decide_eq_true_eq, Bool.not_eq_true', Bool.and_eq_false_iff, decide_eq_false_iff_not]
  simp only [Int.add_le_add_iff_right, Int.add_lt_add_iff_right]
theorem cover_mv (x y : Reg) (n : Int) : coverR (mvR n x) (mvR n y) = coverR x y := by
  unfold coverR mvR
  rw [Bool.eq_iff_iff]
  simp only [Bool.and_eq_true, decide_eq_true_eq]
  omega
theorem cmpR_lt {x y : Reg} (h : x.b < y.b) : cmpR x y ≤ 0 := by
  have e : cmpI x.b y.b = -1 := by unfold cmpI; rw [if_pos h]
  unfold cmpR
  rw [e]; simp
theorem rgC_app {ts us : List Txt} {l m : List Reg} {n : Int} (hu : ∀ t ∈ us, 0 ≤ t.b) (ht : ∀ t ∈ ts, t.e ≤ n) (hl : ∀ x ∈ l, x.e ≤ n) (hm : ∀ x ∈ m, 0 ≤ x.b) :
    RgC (ts ++ us.map (mvT n)) (l ++ m.map (mvR n)) ↔ RgC ts l ∧ RgC us m ∧ l.length + m.length ≤ 1024 := by
  have cl : ∀ k (hk : k < l.length) (hk2 : k < (l ++ m.map (mvR n)).length), (((l ++ m.map (mvR n)).take (k + 1)).filter (coverR (l ++ m.map (mvR n))[k])).length = ((l.take (k + 1)).filter (coverR l[k])).length := by
    intro k hk hk2
    rw [List.getElem_append_left hk, List.take_append_of_le_length (by omega)]
  have cr : ∀ j (hj : j < m.length) (hk2 : l.length + j < (l ++ m.map (mvR n)).length), (((l ++ m.map (mvR n)).take (l.length + j + 1)).filter (coverR (l ++ m.map (mvR n))[l.length + j])).length = ((m.take (j + 1)).filter (coverR m[j])).length := by
    intro j hj hk2
    have e1 : (l ++ m.map (mvR n))[l.length + j] = mvR n m[j] := by
      rw [List.getElem_append_right (by omega), List.getElem_map]; congr 2; omega
    rw [e1, show l.length + j + 1 = l.length + (j + 1) by omega, List.take_length_add_append, List.filter_append, List.length_append, ← List.map_take, List.filter_map, List.length_map]
    have e2 : l.filter (coverR (mvR n m[j])) = [] := by
      rw [List.filter_eq_nil_iff]
      intro x hx
      have := hl x hx
      have := hm _ (List.getElem_mem hj)
      unfold coverR mvR
      simp only [Bool.and_eq_true, decide_eq_true_eq]
      omega
    rw [e2, List.length_nil, Nat.zero_add]
    congr 2
    funext x
    exact cover_mv _ _ _
  constructor
  · rintro ⟨h1, h2, h3, h4⟩
    rw [List.length_append, List.length_map] at h1
    rw [List.pairwise_append, List.pairwise_map] at h3
    refine ⟨⟨by omega, fun x hx => ?_, h3.1, fun k hk => ?_⟩, ⟨by omega, fun x hx => ?_, ?_, fun j hj => ?_⟩, h1⟩
    · have := h2 x (List.mem_append_left _ hx)
      rw [within_left (hl x hx) hu] at this; exact this
    · rw [← cl k hk (by rw [List.length_append]; omega)]; exact h4 k _
    · have := h2 (mvR n x) (List.mem_append_right _ (List.mem_map.2 ⟨x, hx, rfl⟩))
      have w : within (ts ++ us.map (mvT n)) (x.b + n) (x.e + n) = true := this.2.1
      rw [within_right (hm x hx) ht] at w
      exact ⟨this.1, w, this.2.2⟩
    · exact h3.2.1.imp fun {a b} ⟨c, d⟩ => ⟨by rw [cmpR_mv] at c; exact c, by rw [cross_mv] at d; exact d⟩
    · rw [← cr j hj (by rw [List.length_append, List.length_map]; omega)]; exact h4 _ _
  · rintro ⟨⟨a1, a2, a3, a4⟩, ⟨b1, b2, b3, b4⟩, hlen⟩
    refine ⟨by rw [List.length_append, List.length_map]; exact hlen, fun x hx => ?_, ?_, fun k hk => ?_⟩
    · rcases List.mem_append.1 hx with e | e
      · rw [within_left (hl x e) hu]; exact a2 x e
      · obtain ⟨y, hy, rfl⟩ := List.mem_map.1 e
        have := b2 y hy
        refine ⟨this.1, ?_, this.2.2⟩
        show within (ts ++ us.map (mvT n)) (y.b + n) (y.e + n) = true
        rw [within_right (hm y hy) ht]; exact this.2.1
    · rw [List.pairwise_append, List.pairwise_map]
      refine ⟨a3, b3.imp fun {a b} ⟨c, d⟩ => ⟨by rw [cmpR_mv]; exact c, by rw [cross_mv]; exact d⟩, fun x hx y' hy' => ?_⟩
      obtain ⟨y, hy, rfl⟩ := List.mem_map.1 hy'
      have c1 := hl x hx
      have c2 := hm y hy
      have c3 := Cor.within_lt (a2 x hx).2.1
      refine ⟨cmpR_lt (by show x.b < y.b + n; omega), ?_⟩
      unfold crossR mvR
      simp only [Bool.and_eq_false_iff, decide_eq_false_iff_not]
      left; left; right
      omega
    · by_cases h : k < l.length
      · rw [cl k h hk]; exact a4 k h
      · rw [List.length_append, List.length_map] at hk
        obtain ⟨j, rfl⟩ : ∃ j, k = l.length + j := ⟨k - l.length, by omega⟩
        rw [cr j (by omega) (by rw [List.length_append, List.length_map]; omega)]; exact b4 j (by omega)

/-! Nodes. -/
def sh (s : Nat) (z : Int) : Int := if 0 ≤ z then z + s else z
theorem sh_neg {s : Nat} {z : Int} (h : z < 0) : sh s z = z := by unfold sh; rw [if_neg (by omega)]
theorem sh_pos {s : Nat} {z : Int} (h : 0 ≤ z) : sh s z = z + s := by unfold sh; rw [if_pos h]
theorem sh_inj {s : Nat} {a b : Int} : sh s a = sh s b ↔ a = b := by unfold sh; split <;> split <;> omega
theorem sh_lt0 {s : Nat} {z : Int} : sh s z < 0 ↔ z < 0 := by unfold sh; split <;> omega
section
variable {l m : List Nod} {n : Int}
theorem nd_left {k : Nat} (hk : k < l.length) (hk2 : k < (l ++ m.map (mvN n l.length)).length) : (l ++ m.map (mvN n l.length))[k] = l[k] := List.getElem_append_left hk
theorem nd_right {j : Nat} (hj : j < m.length) (hk2 : l.length + j < (l ++ m.map (mvN n l.length)).length) : (l ++ m.map (mvN n l.length))[l.length + j] = mvN n l.length m[j] := by
  rw [List.getElem_append_right (by omega), List.getElem_map]; congr 2; omega
theorem par_left {k : Int} (h : k < l.length) : par (l ++ m.map (mvN n l.length)) k = par l k := by
  by_cases h0 : k < 0
  · rw [Cor.par_neg h0, Cor.par_neg h0]
  · have e : k = (k.toNat : Nat) := by omega
    rw [e, Cor.par_at (by rw [List.length_append]; omega), Cor.par_at (by omega), nd_left (by omega)]
theorem par_right (z : Int) : par (l ++ m.map (mvN n l.length)) (sh l.length z) = sh l.length (par m z) := by
  by_cases h0 : z < 0
  · rw [sh_neg h0, Cor.par_neg h0, Cor.par_neg h0]; rfl
  · have e : z = (z.toNat : Nat) := by omega
    rw [sh_pos (by omega)]
    by_cases h : z.toNat < m.length
    · have e2 : z + (l.length : Int) = ((l.length + z.toNat : Nat) : Int) := by omega
      rw [e2, Cor.par_at (by rw [List.length_append, List.length_map]; omega), nd_right h]
      conv => rhs; rw [e, Cor.par_at h]
      rfl
    · have a : par m z = -1 := by unfold par; rw [if_pos (by omega), List.getElem?_eq_none (by omega)]
      have b : par (l ++ m.map (mvN n l.length)) (z + (l.length : Int)) = -1 := by unfold par; rw [if_pos (by omega), List.getElem?_eq_none (by rw [List.length_append, List.length_map]; omega)]
      rw [a, b]; rfl
theorem anc_left {p : Int} (ho : ParOk l l.length) : ∀ (f : Nat) (k : Int), k < l.length → anc (l ++ m.map (mvN n l.length)) p f k = anc l p f k
  | 0, k, _ => rfl
  | f + 1, k, h => by
    rw [anc, anc]
    by_cases h0 : k < 0
    · rw [if_pos h0, if_pos h0]
    · rw [if_neg h0, if_neg h0, par_left h, anc_left ho f _ (by have := Cor.par_ok ho (Nat.le_refl _) (k := k) (by omega) h; omega)]
theorem anc_right {p : Int} : ∀ (f : Nat) (k : Int), anc (l ++ m.map (mvN n l.length)) (sh l.length p) f (sh l.length k) = anc m p f k
  | 0, k => by
    show (sh l.length k == sh l.length p) = (k == p)
    rw [Bool.eq_iff_iff, beq_iff_eq, beq_iff_eq]; exact sh_inj
  | f + 1, k => by
    rw [anc, anc]
    by_cases h0 : k < 0
    · rw [if_pos (sh_lt0.2 h0), if_pos h0, Bool.eq_iff_iff, beq_iff_eq, beq_iff_eq]; exact sh_inj
    · rw [if_neg (fun h => h0 (sh_lt0.1 h)), if_neg h0]
      by_cases e : k = p
      · rw [if_pos (sh_inj.2 e), if_pos e]
      · rw [if_neg (fun h => e (sh_inj.1 h)), if_neg e, par_right, anc_right f]
theorem anc_fuel {p : Int} (ho : ParOk m m.length) : ∀ (f g : Nat) (k : Int), k < m.length → -1 ≤ k → k + 1 ≤ f → k + 1 ≤ g → anc m p f k = anc m p g k
  | 0, g, k, h, hm, h1, h2 => by rw [show k = -1 by omega, Cor.anc_end 0 (.inl (by omega)), Cor.anc_end g (.inl (by omega))]
  | f + 1, 0, k, h, hm, h1, h2 => by rw [show k = -1 by omega, Cor.anc_end 0 (.inl (by omega)), Cor.anc_end (f + 1) (.inl (by omega))]
  | f + 1, g + 1, k, h, hm, h1, h2 => by
    rw [anc, anc]
    by_cases e : k < 0
    · rw [if_pos e, if_pos e]
    · rw [if_neg e, if_neg e]
      have := Cor.par_ok ho (Nat.le_refl _) (k := k) (by omega) h
      rw [anc_fuel ho f g (par m k) (by omega) (by omega) (by omega) (by omega)]
theorem anc_root (ho : ParOk l l.length) : ∀ (f : Nat) (k : Int), k < l.length → -1 ≤ k → k + 1 ≤ f → anc l (-1) f k = true
  | 0, k, h, hm, h1 => by rw [show k = -1 by omega]; rfl
  | f + 1, k, h, hm, h1 => by
    by_cases e : k < 0
    · rw [show k = -1 by omega, Cor.anc_end _ (.inl (by omega))]; rfl
    · have := Cor.par_ok ho (Nat.le_refl _) (k := k) (by omega) h
      rw [Cor.anc_step f (by omega) (by omega), anc_root ho f _ (by omega) (by omega) (by omega)]
theorem dep_left (ho : ParOk l l.length) : ∀ (f : Nat) (k : Int), k < l.length → dep (l ++ m.map (mvN n l.length)) f k = dep l f k
  | 0, k, _ => rfl
  | f + 1, k, h => by
    rw [dep, dep]
    by_cases h0 : k < 0
    · rw [if_pos h0, if_pos h0]
    · rw [if_neg h0, if_neg h0, par_left h, dep_left ho f _ (by have := Cor.par_ok ho (Nat.le_refl _) (k := k) (by omega) h; omega)]
theorem dep_right : ∀ (f : Nat) (k : Int), dep (l ++ m.map (mvN n l.length)) f (sh l.length k) = dep m f k
  | 0, k => rfl
  | f + 1, k => by
    rw [dep, dep]
    by_cases h0 : k < 0
    · rw [if_pos (sh_lt0.2 h0), if_pos h0]
    · rw [if_neg (fun h => h0 (sh_lt0.1 h)), if_neg h0, par_right, dep_right f]
theorem sibE_app (p : Int) (b : List Nod) : ∀ a : List Nod, sibE p (a ++ b) = match sibE p b with | some e => some e | none => sibE p a
  | [] => by cases h : sibE p b <;> simp [h, sibE]
  | x :: a => by
    show sibE p (x :: (a ++ b)) = _
    rw [sibE, sibE_app p b a]
    cases h : sibE p b with
    | some e => rfl
    | none => rfl
theorem sibE_mv (p : Int) (s : Nat) (n : Int) : ∀ b : List Nod, sibE (sh s p) (b.map (mvN n s)) = (sibE p b).map (· + n)
  | [] => rfl
  | x :: b => by
    rw [List.map_cons, sibE, sibE_mv p s n b, sibE]
    cases h : sibE p b with
    | some e => rfl
    | none =>
      show (if sh s x.p = sh s p then some (x.e + n) else none) = _
      by_cases e : x.p = p
      · rw [if_pos (sh_inj.2 e), if_pos e]; rfl
      · rw [if_neg (fun h => e (sh_inj.1 h)), if_neg e]; rfl
theorem sibE_mem {p e : Int} : ∀ {a : List Nod}, sibE p a = some e → ∃ x ∈ a, x.e = e
  | x :: a, h => by
    rw [sibE] at h
    cases h2 : sibE p a with
    | some e' =>
      rw [h2] at h
      obtain ⟨y, hy, hye⟩ := sibE_mem h2
      simp at h; subst h
      exact ⟨y, List.mem_cons_of_mem _ hy, hye⟩
    | none =>
      rw [h2] at h
      simp only [] at h
      split at h
      · simp at h; exact ⟨x, List.mem_cons_self, h⟩
      · cases h
theorem parOk_left (h : ParOk (l ++ m.map (mvN n l.length)) (l ++ m.map (mvN n l.length)).length) : ParOk l l.length := by
  intro j hj hl
  have := h j (by rw [List.length_append]; omega) (by rw [List.length_append]; omega)
  rw [nd_left hl] at this; exact this
theorem parOk_right (h : ParOk (l ++ m.map (mvN n l.length)) (l ++ m.map (mvN n l.length)).length) : ParOk m m.length := by
  intro j hj hl
  have := h (l.length + j) (by rw [List.length_append, List.length_map]; omega) (by rw [List.length_append, List.length_map]; omega)
  rw [nd_right hl] at this
  have e : (mvN n l.length m[j]).p = sh l.length m[j].p := rfl
  rw [e] at this
  unfold sh at this
  split at this <;> omega
theorem ndC_app {ts us : List Txt} (hu : ∀ t ∈ us, 0 ≤ t.b) (ht : ∀ t ∈ ts, t.e ≤ n) (hl : ∀ x ∈ l, x.e ≤ n) (hm : ∀ x ∈ m, 0 ≤ x.b) :
    NdC (ts ++ us.map (mvT n)) (l ++ m.map (mvN n l.length)) ↔ NdC ts l ∧ NdC us m ∧ l.length + m.length ≤ 2048 := by
  have ll : (l ++ m.map (mvN n l.length)).length = l.length + m.length := by rw [List.length_append, List.length_map]
  have key1 : ParOk l l.length → ∀ k (hk : k < l.length), anc (l ++ m.map (mvN n l.length)) l[k].p k ((k : Int) - 1) = anc l l[k].p k ((k : Int) - 1) := fun ho k hk => anc_left ho k _ (by omega)
  have key2 : ParOk l l.length → ParOk m m.length → ∀ j (hj : j < m.length), anc (l ++ m.map (mvN n l.length)) (sh l.length m[j].p) (l.length + j) (((l.length + j : Nat) : Int) - 1) = anc m m[j].p j ((j : Int) - 1) := by
    intro ho ho2 j hj
    cases j with
    | succ j =>
      rw [show ((l.length + (j + 1) : Nat) : Int) - 1 = sh l.length (j : Nat) by rw [sh_pos (by omega)]; omega, anc_right, show (((j + 1 : Nat) : Int) - 1) = (j : Nat) by omega]
      exact anc_fuel ho2 _ _ _ (by omega) (by omega) (by omega) (by omega)
    | zero =>
      have e0 : anc m m[0].p 0 (((0 : Nat) : Int) - 1) = ((-1 : Int) == m[0].p) := rfl
      rw [e0, anc_left ho _ _ (by omega)]
      by_cases hp : m[0].p = -1
      · rw [hp, sh_neg (by omega), anc_root ho _ _ (by omega) (by omega) (by omega)]; rfl
      · have e1 : ((-1 : Int) == m[0].p) = false := by simpa using fun h => hp h.symm
        rw [e1]
        cases hb : anc l (sh l.length m[0].p) (l.length + 0) (((l.length + 0 : Nat) : Int) - 1) with
        | false => rfl
        | true =>
          have := Cor.anc_bound ho (Nat.le_refl _) _ _ (by omega) (by omega) hb
          unfold sh at this
          split at this <;> omega
  have par1 : ParOk l l.length → ∀ k (hk : k < l.length), ((l ++ m.map (mvN n l.length))[l[k].p.toNat]?).any (fun q => decide (l[k].b < q.b) || decide (q.e < l[k].e)) = (l[l[k].p.toNat]?).any (fun q => decide (l[k].b < q.b) || decide (q.e < l[k].e)) := by
    intro ho k hk
    have := ho k hk hk
    rw [List.getElem?_append_left (by omega)]
  have par2 : ∀ j (hj : j < m.length), 0 ≤ m[j].p → ((l ++ m.map (mvN n l.length))[(sh l.length m[j].p).toNat]?).any (fun q => decide (m[j].b + n < q.b) || decide (q.e < m[j].e + n)) = (m[m[j].p.toNat]?).any (fun q => decide (m[j].b < q.b) || decide (q.e < m[j].e)) := by
    intro j hj h0
    rw [sh_pos h0, show (m[j].p + (l.length : Int)).toNat = l.length + m[j].p.toNat by omega, List.getElem?_append_right (by omega), show l.length + m[j].p.toNat - l.length = m[j].p.toNat by omega, List.getElem?_map, Option.any_map]
    congr 1
    funext q
    show (decide (m[j].b + n < q.b + n) || decide (q.e + n < m[j].e + n)) = _
    rw [Bool.eq_iff_iff]
    simp only [Bool.or_eq_true, decide_eq_true_eq]
    omega
  have sib1 : ∀ k (hk : k < l.length), (l ++ m.map (mvN n l.length)).take k = l.take k := fun k hk => List.take_append_of_le_length (by omega)
  have sib2 : ∀ j (hj : j < m.length), (sibE (sh l.length m[j].p) ((l ++ m.map (mvN n l.length)).take (l.length + j))).any (fun e => decide (m[j].b + n < e)) = (sibE m[j].p (m.take j)).any (fun e => decide (m[j].b < e)) := by
    intro j hj
    rw [List.take_length_add_append, sibE_app, ← List.map_take, sibE_mv]
    cases h : sibE m[j].p (m.take j) with
    | some e =>
      show decide (m[j].b + n < e + n) = decide (m[j].b < e)
      rw [Bool.eq_iff_iff, decide_eq_true_eq, decide_eq_true_eq]; omega
    | none =>
      show (sibE (sh l.length m[j].p) l).any (fun e => decide (m[j].b + n < e)) = false
      cases h2 : sibE (sh l.length m[j].p) l with
      | none => rfl
      | some e =>
        obtain ⟨x, hx, rfl⟩ := sibE_mem h2
        have := hl x hx
        have := hm _ (List.getElem_mem hj)
        show decide (m[j].b + n < x.e) = false
        rw [decide_eq_false_iff_not]; omega
  have dep2 : ParOk m m.length → ∀ j (hj : j < m.length), dep (l ++ m.map (mvN n l.length)) (l.length + j + 1) ((l.length + j : Nat) : Int) = dep m (j + 1) j := by
    intro ho j hj
    rw [show ((l.length + j : Nat) : Int) = sh l.length (j : Nat) by rw [sh_pos (by omega)]; omega, dep_right]
    exact Cor.dep_fuel ho (Nat.le_refl _) _ _ _ (by omega) (by omega) (by omega)
  constructor
  · intro h
    have ho := parOk_left h.pok
    have ho2 := parOk_right h.pok
    obtain ⟨h1, h2, h3, h4, h5, h6⟩ := h
    rw [ll] at h1
    refine ⟨⟨by omega, fun x hx => ?_, fun k hk => ?_, fun k hk h0 => ?_, fun k hk => ?_, fun k hk => ?_⟩, ⟨by omega, fun x hx => ?_, fun j hj => ?_, fun j hj h0 => ?_, fun j hj => ?_, fun j hj => ?_⟩, h1⟩
    · have := h2 x (List.mem_append_left _ hx)
      rw [within_left (hl x hx) hu] at this; exact this
    · have := h3 k (by rw [ll]; omega)
      rw [nd_left hk, key1 ho k hk] at this; exact this
    · have := h4 k (by rw [ll]; omega)
      simp only [nd_left hk] at this
      rw [par1 ho k hk] at this; exact this h0
    · have := h5 k (by rw [ll]; omega)
      rw [nd_left hk, sib1 k hk] at this; exact this
    · have := h6 k (by rw [ll]; omega)
      rw [dep_left ho _ _ (by omega)] at this; exact this
    · have := h2 (mvN n l.length x) (List.mem_append_right _ (List.mem_map.2 ⟨x, hx, rfl⟩))
      have w : within (ts ++ us.map (mvT n)) (x.b + n) (x.e + n) = true := this.2
      rw [within_right (hm x hx) ht] at w
      exact ⟨this.1, w⟩
    · have := h3 (l.length + j) (by rw [ll]; omega)
      rw [nd_right hj] at this
      rw [← key2 ho ho2 j hj]; exact this
    · have := h4 (l.length + j) (by rw [ll]; omega)
      simp only [nd_right hj] at this
      rw [← par2 j hj h0]
      refine this ?_
      show 0 ≤ sh l.length m[j].p
      rw [sh_pos h0]; omega
    · have := h5 (l.length + j) (by rw [ll]; omega)
      simp only [nd_right hj] at this
      rw [← sib2 j hj]; exact this
    · have := h6 (l.length + j) (by rw [ll]; omega)
      rw [dep2 ho2 j hj] at this; exact this
  · rintro ⟨A, B, hlen⟩
    have ho := A.pok
    have ho2 := B.pok
    obtain ⟨a1, a2, a3, a4, a5, a6⟩ := A
    obtain ⟨b1, b2, b3, b4, b5, b6⟩ := B
    have cases_ : ∀ k, k < (l ++ m.map (mvN n l.length)).length → (k < l.length ∨ ∃ j, j < m.length ∧ k = l.length + j) := by
      intro k hk
      rw [ll] at hk
      by_cases h : k < l.length
      · exact .inl h
      · exact .inr ⟨k - l.length, by omega, by omega⟩
    refine ⟨by rw [ll]; exact hlen, fun x hx => ?_, fun k hk => ?_, fun k hk h0 => ?_, fun k hk => ?_, fun k hk => ?_⟩
    · rcases List.mem_append.1 hx with e | e
      · rw [within_left (hl x e) hu]; exact a2 x e
      · obtain ⟨y, hy, rfl⟩ := List.mem_map.1 e
        have := b2 y hy
        refine ⟨this.1, ?_⟩
        show within (ts ++ us.map (mvT n)) (y.b + n) (y.e + n) = true
        rw [within_right (hm y hy) ht]; exact this.2
    · rcases cases_ k hk with h | ⟨j, hj, rfl⟩
      · rw [nd_left h, key1 ho k h]; exact a3 k h
      · rw [nd_right hj]
        show anc _ (sh l.length m[j].p) _ _ = true
        rw [key2 ho ho2 j hj]; exact b3 j hj
    · rcases cases_ k hk with h | ⟨j, hj, rfl⟩
      · simp only [nd_left h] at h0 ⊢
        rw [par1 ho k h]; exact a4 k h h0
      · simp only [nd_right hj] at h0 ⊢
        have h0' : 0 ≤ m[j].p := by
          refine Classical.byContradiction fun hc => ?_
          have : (mvN n l.length m[j]).p = m[j].p := by unfold mvN; rw [if_neg hc]
          omega
        have := par2 j hj h0'
        exact this.trans (b4 j hj h0')
    · rcases cases_ k hk with h | ⟨j, hj, rfl⟩
      · rw [nd_left h, sib1 k h]; exact a5 k h
      · simp only [nd_right hj]
        exact (sib2 j hj).trans (b5 j hj)
    · rcases cases_ k hk with h | ⟨j, hj, rfl⟩
      · rw [dep_left ho _ _ (by omega)]; exact a6 k h
      · rw [dep2 ho2 j hj]; exact b6 j hj
end

/-! Heads. -/
theorem mvH_inj {n : Nat} {a b : Int} : mvH (n : Int) a = mvH n b ↔ a = b := sh_inj
theorem nx_left {h k : List Int} {z : Int} (hz : z < h.length) : Dep.nx (h ++ k.map (mvH (h.length : Int))) z = Dep.nx h z := by
  unfold Dep.nx
  by_cases h0 : 0 ≤ z
  · rw [if_pos h0, if_pos h0, List.getD_eq_getElem?_getD, List.getD_eq_getElem?_getD, List.getElem?_append_left (by omega)]
  · rw [if_neg h0, if_neg h0]
theorem nx_right {h k : List Int} (z : Int) : Dep.nx (h ++ k.map (mvH (h.length : Int))) (mvH (h.length : Int) z) = mvH (h.length : Int) (Dep.nx k z) := by
  by_cases h0 : 0 ≤ z
  · have e : mvH (h.length : Int) z = z + h.length := if_pos h0
    rw [e]
    unfold Dep.nx
    rw [if_pos (by omega), if_pos h0, List.getD_eq_getElem?_getD, List.getD_eq_getElem?_getD, List.getElem?_append_right (by omega), show (z + (h.length : Int)).toNat - h.length = z.toNat by omega, List.getElem?_map]
    cases h2 : k[z.toNat]? with
    | none => rfl
    | some x => rfl
  · have e : mvH (h.length : Int) z = z := if_neg h0
    rw [e, Dep.nx_neg (by omega), Dep.nx_neg (by omega)]; rfl
theorem up_left {h k : List Int} (ho : Dep.Ok h) : ∀ (f : Nat) (z : Int), z < h.length → Dep.up (h ++ k.map (mvH (h.length : Int))) f z = Dep.up h f z
  | 0, z, _ => rfl
  | f + 1, z, hz => by
    rw [Dep.up, Dep.up, nx_left hz, up_left ho f _ (Dep.nx_ok ho z).2]
theorem up_right {h k : List Int} : ∀ (f : Nat) (z : Int), Dep.up (h ++ k.map (mvH (h.length : Int))) f (mvH (h.length : Int) z) = mvH (h.length : Int) (Dep.up k f z)
  | 0, z => rfl
  | f + 1, z => by rw [Dep.up, Dep.up, nx_right, up_right f]
theorem cyc_left {h k : List Int} (ho : Dep.Ok h) {i : Nat} (hi : i < h.length) : Dep.Cyc (h ++ k.map (mvH (h.length : Int))) (i : Nat) ↔ Dep.Cyc h (i : Nat) := by
  unfold Dep.Cyc
  constructor
  · rintro ⟨a, f, hf⟩; exact ⟨a, f, by rw [up_left ho _ _ (by omega)] at hf; exact hf⟩
  · rintro ⟨a, f, hf⟩; exact ⟨a, f, by rw [up_left ho _ _ (by omega)]; exact hf⟩
theorem cyc_right {h k : List Int} {j : Nat} : Dep.Cyc (h ++ k.map (mvH (h.length : Int))) ((h.length + j : Nat) : Int) ↔ Dep.Cyc k (j : Nat) := by
  have e : ((h.length + j : Nat) : Int) = mvH (h.length : Int) (j : Nat) := by unfold mvH; rw [if_pos (by omega)]; omega
  unfold Dep.Cyc
  constructor
  · rintro ⟨a, f, hf⟩
    rw [e, up_right, mvH_inj] at hf
    exact ⟨by omega, f, hf⟩
  · rintro ⟨a, f, hf⟩
    refine ⟨by omega, f, ?_⟩
    rw [e, up_right, hf]
theorem hdC_app {n n' : Nat} {ts us : List Txt} {h k : List Int} {r s : List Bs} (h1 : h.length = n) (h2 : k.length = n') (h3 : r.length = n) (h4 : s.length = n') (ht : ∀ t ∈ ts, 0 ≤ t.b ∧ t.e ≤ n) (hu : ∀ t ∈ us, 0 ≤ t.b ∧ t.e ≤ n') :
    HdC (n + n') (ts ++ us.map (mvT (n : Int))) (h ++ k.map (mvH (n : Int))) (r ++ s) ↔ HdC n ts h r ∧ HdC n' us k s := by
  subst h1
  have ll : (h ++ k.map (mvH (h.length : Int))).length = h.length + k.length := by rw [List.length_append, List.length_map]
  have gl : ∀ i (hi : i < h.length) (hi2 : i < (h ++ k.map (mvH (h.length : Int))).length), (h ++ k.map (mvH (h.length : Int)))[i] = h[i] := fun i hi _ => List.getElem_append_left hi
  have gr : ∀ j (hj : j < k.length) (hi2 : h.length + j < (h ++ k.map (mvH (h.length : Int))).length), (h ++ k.map (mvH (h.length : Int)))[h.length + j] = mvH (h.length : Int) k[j] := by
    intro j hj _
    rw [List.getElem_append_right (by omega), List.getElem_map]; congr 2; omega
  constructor
  · intro H
    have one1 : ∀ i (hi : i < h.length), h[i] = -1 ∨ ∃ t ∈ ts, t.b ≤ (i : Int) ∧ (i : Int) < t.e ∧ t.b ≤ h[i] ∧ h[i] < t.e := by
      intro i hi
      have := H.one i (by rw [ll]; omega)
      rw [gl i hi] at this
      rcases this with e | ⟨t, m, a⟩
      · exact .inl e
      · right
        rcases List.mem_append.1 m with e | e
        · exact ⟨t, e, a⟩
        · obtain ⟨u, q, rfl⟩ := List.mem_map.1 e
          have := hu u q
          have : u.b + (h.length : Int) ≤ i := a.1
          omega
    have one2 : ∀ j (hj : j < k.length), k[j] = -1 ∨ ∃ t ∈ us, t.b ≤ (j : Int) ∧ (j : Int) < t.e ∧ t.b ≤ k[j] ∧ k[j] < t.e := by
      intro j hj
      have := H.one (h.length + j) (by rw [ll]; omega)
      rw [gr j hj] at this
      rcases this with e | ⟨t, m, a⟩
      · left
        unfold mvH at e
        split at e <;> omega
      · right
        rcases List.mem_append.1 m with e | e
        · have := ht t e; omega
        · obtain ⟨u, q, rfl⟩ := List.mem_map.1 e
          have q2 := hu u q
          obtain ⟨c1, c2, c3, c4⟩ := a
          have c1 : u.b + (h.length : Int) ≤ ((h.length + j : Nat) : Int) := c1
          have c2 : ((h.length + j : Nat) : Int) < u.e + (h.length : Int) := c2
          have c3 : u.b + (h.length : Int) ≤ mvH (h.length : Int) k[j] := c3
          have c4 : mvH (h.length : Int) k[j] < u.e + (h.length : Int) := c4
          refine ⟨u, q, by omega, by omega, ?_⟩
          unfold mvH at c3 c4
          split at c3 <;> split at c4 <;> omega
    have ok : Dep.Ok h := by
      intro x hx
      obtain ⟨i, hi, rfl⟩ := List.getElem_of_mem hx
      rcases one1 i hi with e | ⟨t, m, a⟩
      · omega
      · have := ht t m; omega
    refine ⟨⟨rfl, h3, one1, fun x hx => H.rel x (List.mem_append_left _ hx), fun i hi hc => H.acy i (by rw [ll]; omega) ((cyc_left ok hi).2 hc)⟩, ⟨h2, h4, one2, fun x hx => H.rel x (List.mem_append_right _ hx), fun j hj hc => H.acy (h.length + j) (by rw [ll]; omega) (cyc_right.2 hc)⟩⟩
  · rintro ⟨A, B⟩
    have cs : ∀ i, i < (h ++ k.map (mvH (h.length : Int))).length → (i < h.length ∨ ∃ j, j < k.length ∧ i = h.length + j) := by
      intro i hi
      rw [ll] at hi
      by_cases e : i < h.length
      · exact .inl e
      · exact .inr ⟨i - h.length, by omega, by omega⟩
    refine ⟨by rw [ll]; omega, by rw [List.length_append]; omega, fun i hi => ?_, fun x hx => ?_, fun i hi hc => ?_⟩
    · rcases cs i hi with e | ⟨j, hj, rfl⟩
      · rw [gl i e]
        rcases A.one i e with q | ⟨t, m, a⟩
        · exact .inl q
        · exact .inr ⟨t, List.mem_append_left _ m, a⟩
      · rw [gr j hj]
        rcases B.one j hj with q | ⟨t, m, a⟩
        · left; rw [q]; rfl
        · right
          have q2 := hu t m
          refine ⟨mvT h.length t, List.mem_append_right _ (List.mem_map.2 ⟨t, m, rfl⟩), ?_, ?_, ?_, ?_⟩
          · show t.b + (h.length : Int) ≤ _; omega
          · show _ < t.e + (h.length : Int); omega
          · show t.b + (h.length : Int) ≤ _; unfold mvH; rw [if_pos (by omega)]; omega
          · show _ < t.e + (h.length : Int); unfold mvH; rw [if_pos (by omega)]; omega
    · rcases List.mem_append.1 hx with e | e
      · exact A.rel x e
      · exact B.rel x e
    · rcases cs i hi with e | ⟨j, hj, rfl⟩
      · exact A.acy i e ((cyc_left (A.ok ht) e).1 hc)
      · exact B.acy j hj (cyc_right.1 hc)

/-! The whole. -/
theorem TxC.bd {n : Nat} {l : List Txt} (h : TxC n l) : ∀ t ∈ l, 0 ≤ t.b ∧ t.e ≤ n := fun t ht => by
  have := (chain_bd h.row).2 t ht; omega
theorem within_bd {ts : List Txt} {n : Nat} (h : ∀ t ∈ ts, 0 ≤ t.b ∧ t.e ≤ n) {b e : Int} (hw : within ts b e = true) : 0 ≤ b ∧ b < e ∧ e ≤ n := by
  unfold within at hw
  rw [List.any_eq_true] at hw
  obtain ⟨t, ht, h2⟩ := hw
  have := h t ht
  simp only [Bool.and_eq_true, decide_eq_true_eq] at h2
  omega
theorem Core.rgb {c : C} (h : Core c) : ∀ x ∈ c.regs, 0 ≤ x.b ∧ x.b < x.e ∧ x.e ≤ c.toks.length := fun x hx => within_bd h.x.bd (h.r.one x hx).2.1
theorem Core.ndb {c : C} (h : Core c) : ∀ x ∈ c.nods, 0 ≤ x.b ∧ x.b < x.e ∧ x.e ≤ c.toks.length := fun x hx => within_bd h.x.bd (h.n.one x hx).2
theorem core_app {X Y : C} (hx : Core X) (hy : Core Y) (ha : X.attrs = Y.attrs) (hd : ∀ t ∈ X.texts, ∀ u ∈ Y.texts, t.nm ≠ u.nm) (l1 : X.toks.length + Y.toks.length ≤ 4096) (l2 : X.texts.length + Y.texts.length ≤ 64) (l3 : X.regs.length + Y.regs.length ≤ 1024) (l4 : X.nods.length + Y.nods.length ≤ 2048) : Core (app X Y) := by
  have lt : (app X Y).toks.length = X.toks.length + Y.toks.length := List.length_append
  refine ⟨hx.a, ?_, ?_, ?_, ?_, ?_⟩
  · have a := tkC_iff.1 hx.t
    have b := tkC_iff.1 hy.t
    rw [← ha] at b
    refine tkC_iff.2 ⟨by rw [lt]; exact l1, fun t ht => ?_⟩
    rcases List.mem_append.1 ht with e | e
    · exact a.2 t e
    · exact b.2 t e
  · rw [lt]; exact txC_app hx.x hy.x hd l2
  · exact (rgC_app (fun t ht => (hy.x.bd t ht).1) (fun t ht => (hx.x.bd t ht).2) (fun x h => (hx.rgb x h).2.2) (fun x h => (hy.rgb x h).1)).2 ⟨hx.r, hy.r, l3⟩
  · exact (ndC_app (fun t ht => (hy.x.bd t ht).1) (fun t ht => (hx.x.bd t ht).2) (fun x h => (hx.ndb x h).2.2) (fun x h => (hy.ndb x h).1)).2 ⟨hx.n, hy.n, l4⟩
  · rw [lt]; exact (hdC_app hx.h.hl hy.h.hl hx.h.rl hy.h.rl hx.x.bd hy.x.bd).2 ⟨hx.h, hy.h⟩
theorem core_cut {X Y : C} (h : Core (app X Y)) (ha : X.attrs = Y.attrs) (hc : Chain 0 X.texts X.toks.length) (r1 : ∀ x ∈ X.regs, x.e ≤ X.toks.length) (r2 : ∀ x ∈ Y.regs, 0 ≤ x.b) (n1 : ∀ x ∈ X.nods, x.e ≤ X.toks.length) (n2 : ∀ x ∈ Y.nods, 0 ≤ x.b)
    (h1 : X.heads.length = X.toks.length) (h2 : Y.heads.length = Y.toks.length) (h3 : X.rels.length = X.toks.length) (h4 : Y.rels.length = Y.toks.length) : Core X ∧ Core Y := by
  have lt : (app X Y).toks.length = X.toks.length + Y.toks.length := List.length_append
  have ht := tkC_iff.1 h.t
  have hx := h.x
  rw [lt] at hx
  obtain ⟨x1, x2, _⟩ := txC_cut hx hc
  have hr := (rgC_app (fun t ht => (x2.bd t ht).1) (fun t ht => (x1.bd t ht).2) r1 r2).1 h.r
  have hn := (ndC_app (fun t ht => (x2.bd t ht).1) (fun t ht => (x1.bd t ht).2) n1 n2).1 h.n
  have hh := h.h
  rw [lt] at hh
  have hh := (hdC_app h1 h2 h3 h4 x1.bd x2.bd).1 hh
  have hl := ht.1
  rw [lt] at hl
  refine ⟨⟨h.a, tkC_iff.2 ⟨by omega, fun t m => ht.2 t (List.mem_append_left _ m)⟩, x1, hr.1, hn.1, hh.1⟩, ⟨?_, tkC_iff.2 ⟨by omega, fun t m => ?_⟩, x2, hr.2.1, hn.2.1, hh.2⟩⟩
  · rw [← ha]; exact h.a
  · rw [← ha]; exact ht.2 t (List.mem_append_right _ m)

/-! The join of valid corpora. -/
theorem bare_app {h k : List Int} {r s : List Bs} {n : Nat} : bare (h ++ k.map (mvH (n : Int))) (r ++ s) = (bare h r && bare k s) := by
  rw [Bool.eq_iff_iff, Bool.and_eq_true, bare_iff, bare_iff, bare_iff]
  constructor
  · rintro ⟨a, b⟩
    refine ⟨⟨fun x hx => a x (List.mem_append_left _ hx), fun x hx => b x (List.mem_append_left _ hx)⟩, ⟨fun x hx => ?_, fun x hx => b x (List.mem_append_right _ hx)⟩⟩
    have := a (mvH n x) (List.mem_append_right _ (List.mem_map.2 ⟨x, hx, rfl⟩))
    unfold mvH at this
    split at this <;> omega
  · rintro ⟨⟨a, b⟩, ⟨c, d⟩⟩
    refine ⟨fun x hx => ?_, fun x hx => (List.mem_append.1 hx).elim (b x) (d x)⟩
    rcases List.mem_append.1 hx with e | e
    · exact a x e
    · obtain ⟨y, hy, rfl⟩ := List.mem_map.1 e
      rw [c y hy]; rfl
theorem bare_full {c : C} (v : Vd c) : bare (allH c) (allL c) = (c.heads.length == 0) := by
  unfold allH allL
  by_cases h0 : 0 < c.heads.length
  · rw [if_pos h0, if_pos h0, v.bare h0]
    have : c.heads.length ≠ 0 := by omega
    simp [this]
  · rw [if_neg h0, if_neg h0, (bare_rep (n := c.toks.length) (by simp) (by simp)).2 ⟨rfl, rfl⟩]
    have : c.heads.length = 0 := by omega
    simp [this]
theorem join_eq {a b : C} (va : Vd a) (vb : Vd b) : Cor.join a b = pack (app (full a) (full b)) := by
  unfold pack
  have hb : bare (app (full a) (full b)).heads (app (full a) (full b)).rels = ((a.heads.length == 0) && (b.heads.length == 0)) := by
    rw [← bare_full va, ← bare_full vb]; exact bare_app
  rw [hb]
  unfold Cor.join
  by_cases h : a.heads.length + b.heads.length = 0
  · rw [if_pos h, if_pos h, if_pos (by rw [Bool.and_eq_true, beq_iff_eq, beq_iff_eq]; omega)]; rfl
  · rw [if_neg h, if_neg h, if_neg (by rw [Bool.and_eq_true, beq_iff_eq, beq_iff_eq]; omega)]; rfl
theorem find_any {l : List Txt} {nm : Bs} : (0 ≤ Cor.findT l nm) ↔ ∃ t ∈ l, t.nm = nm := by
  unfold Cor.findT
  cases h : l.findIdx? (fun t => t.nm == nm) with
  | none =>
    rw [List.findIdx?_eq_none_iff] at h
    constructor
    · intro e; simp only [] at e; omega
    · rintro ⟨t, ht, rfl⟩; have := h t ht; simp at this
  | some i =>
    rw [List.findIdx?_eq_some_iff_getElem] at h
    obtain ⟨hi, e, _⟩ := h
    exact ⟨fun _ => ⟨l[i], List.getElem_mem hi, by simpa using e⟩, fun _ => by simp only []; omega⟩
/-- A concatenation that has no error: what was asked, and what it is. -/
structure Cat (a b c : C) : Prop where
  va : Vd a
  vb : Vd b
  at_ : a.attrs = b.attrs
  dis : ∀ t ∈ a.texts, ∀ u ∈ b.texts, t.nm ≠ u.nm
  l1 : a.toks.length + b.toks.length ≤ 4096
  l2 : a.texts.length + b.texts.length ≤ 64
  l3 : a.regs.length + b.regs.length ≤ 1024
  l4 : a.nods.length + b.nods.length ≤ 2048
  eq : c = Cor.join a b
theorem dup_iff {a b : C} : b.texts.any (fun t => decide (0 ≤ Cor.findT a.texts t.nm)) = true ↔ ¬ ∀ t ∈ a.texts, ∀ u ∈ b.texts, t.nm ≠ u.nm := by
  rw [List.any_eq_true]
  constructor
  · rintro ⟨u, hu, e⟩ h
    rw [decide_eq_true_eq, find_any] at e
    obtain ⟨t, ht, hn⟩ := e
    exact h t ht u hu hn
  · intro h
    refine Classical.byContradiction fun hc => h fun t ht u hu hn => hc ⟨u, hu, ?_⟩
    rw [decide_eq_true_eq, find_any]
    exact ⟨t, ht, hn⟩
theorem cat_ok {a b c : C} : Cor.cat a b = (c, 0) ↔ Cat a b c := by
  unfold Cor.cat
  constructor
  · intro h
    by_cases h1 : valid a = false ∨ valid b = false
    · rw [if_pos h1] at h; cases h
    rw [if_neg h1] at h
    by_cases h2 : a.attrs ≠ b.attrs
    · rw [if_pos h2] at h; cases h
    rw [if_neg h2] at h
    by_cases h3 : b.texts.any (fun t => decide (0 ≤ Cor.findT a.texts t.nm)) = true
    · rw [if_pos h3] at h; cases h
    rw [if_neg h3] at h
    by_cases h4 : 4096 < a.toks.length + b.toks.length ∨ 64 < a.texts.length + b.texts.length ∨ 1024 < a.regs.length + b.regs.length ∨ 2048 < a.nods.length + b.nods.length
    · rw [if_pos h4] at h; cases h
    rw [if_neg h4] at h
    have e : Cor.join a b = c := congrArg Prod.fst h
    refine ⟨vd_iff.1 ?_, vd_iff.1 ?_, by simpa using h2, ?_, by omega, by omega, by omega, by omega, e.symm⟩
    · cases h : valid a with
      | true => rfl
      | false => exact absurd (.inl h) h1
    · cases h : valid b with
      | true => rfl
      | false => exact absurd (.inr h) h1
    · exact Classical.byContradiction fun hc => h3 (dup_iff.2 hc)
  · rintro ⟨a1, a2, a3, a4, a5, a6, a7, a8, rfl⟩
    rw [if_neg (by rw [vd_iff.2 a1, vd_iff.2 a2]; simp), if_neg (by simpa using a3), if_neg (fun h => dup_iff.1 h a4), if_neg (by omega)]
theorem Cat.core {a b c : C} (h : Cat a b c) : Core (app (full a) (full b)) :=
  core_app (core_of_vd h.va) (core_of_vd h.vb) h.at_ h.dis h.l1 h.l2 h.l3 h.l4
theorem Cat.vd {a b c : C} (h : Cat a b c) : Vd c := by
  rw [h.eq, join_eq h.va h.vb]; exact vd_of_core h.core
theorem Cat.full {a b c : C} (h : Cat a b c) : full c = app (full a) (full b) := by
  rw [h.eq, join_eq h.va h.vb]; exact full_pack h.core.h.hl h.core.h.rl
end Go.Proofs.Ytaihgoohmcipkaa
