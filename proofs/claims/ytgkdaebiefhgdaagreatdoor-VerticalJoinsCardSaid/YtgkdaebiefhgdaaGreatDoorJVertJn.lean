/-
 Plain: the text of a concatenation; how long a text is against the weight of its corpus. No conditions.
-/
import Derived.Test.YtgkdaebiefhgdaaGreatDoorJVertRb
import Derived.Test.YtgkdaebiefhgdaaGreatDoorJCorFa
namespace Go.Proofs.YtgkdaebiefhgdaaGreatDoor
set_option linter.unusedSimpArgs false
set_option linter.unusedVariables false
open Utf
open Feat (Bs lt)
open Tagp (KV okName esc escB fmtT chk sortP keyT)
open Cor (Txt Reg C vlErr prErr mvT mvR)
open Vert (tagText tokText closeText closes opens posText spanText textText endTag fmtErr badT bodyV writeV isId)
theorem filter_nil' {α : Type} {p : α → Bool} {l : List α} (h : ∀ x ∈ l, p x = false) : l.filter p = [] := by
 rw [List.filter_eq_nil_iff]
 intro x hx
 rw [h x hx]; simp
theorem regB {c : C} (v : Vd c) : ∀ r ∈ c.regs, 0 ≤ r.b ∧ r.b < r.e ∧ r.e ≤ c.toks.length := fun r hr =>
 within_bd (txC_iff.1 v.x).bd ((rgC_iff.1 v.r).one r hr).2.1
theorem textB {c : C} (v : Vd c) : ∀ t ∈ c.texts, 0 ≤ t.b ∧ t.b < t.e ∧ t.e ≤ c.toks.length := fun t ht => by
 have h := (txC_iff.1 v.x).bd t ht
 refine ⟨h.1, ?_, h.2⟩
 obtain ⟨k, hk, rfl⟩ := List.getElem_of_mem ht
 exact ((chain_idx.1 (txC_iff.1 v.x).row).1 k hk).2
theorem closes_left {a b : C} (va : Vd a) (vb : Vd b) {p : Nat} (hp : p ≤ a.toks.length) : closes (Cor.join a b).regs p = closes a.regs p := by
 show (((a.regs ++ b.regs.map (mvR a.toks.length)).filter fun r => decide (r.e = (p : Int))).reverse).flatMap closeText = _
 rw [List.filter_append, filter_nil' (l := b.regs.map _) fun x hx => ?_, List.append_nil]
 ·rfl
 ·obtain ⟨y, hy, rfl⟩ := List.mem_map.1 hx
  have := regB vb y hy
  show decide (y.e + (a.toks.length : Int) = p) = false
  rw [decide_eq_false_iff_not]; omega
theorem opens_left {a b : C} (va : Vd a) (vb : Vd b) {p : Nat} (hp : p < a.toks.length) : opens (Cor.join a b).regs p = opens a.regs p := by
 show ((a.regs ++ b.regs.map (mvR a.toks.length)).filter fun r => decide (r.b = (p : Int))).flatMap _ = _
 rw [List.filter_append, filter_nil' (l := b.regs.map _) fun x hx => ?_, List.append_nil]
 ·rfl
 ·obtain ⟨y, hy, rfl⟩ := List.mem_map.1 hx
  have := regB vb y hy
  show decide (y.b + (a.toks.length : Int) = p) = false
  rw [decide_eq_false_iff_not]; omega
theorem closes_right {a b : C} (va : Vd a) (vb : Vd b) {p : Nat} (hp : 0 < p) : closes (Cor.join a b).regs (a.toks.length + p) = closes b.regs p := by
 show (((a.regs ++ b.regs.map (mvR a.toks.length)).filter fun r => decide (r.e = ((a.toks.length + p : Nat) : Int))).reverse).flatMap closeText = _
 rw [List.filter_append, filter_nil' (l := a.regs) fun x hx => ?_, List.nil_append, List.filter_map, ← List.map_reverse, List.flatMap_map]
 ·unfold closes
  have e : (fun r : Reg => decide (r.e = ((a.toks.length + p : Nat) : Int))) ∘ mvR (a.toks.length : Int) = fun r => decide (r.e = (p : Int)) := by
   funext r
   show decide (r.e + (a.toks.length : Int) = ((a.toks.length + p : Nat) : Int)) = _
   rw [Bool.eq_iff_iff, decide_eq_true_eq, decide_eq_true_eq]; omega
  rw [e]; rfl
 ·have := regB va x hx
  rw [decide_eq_false_iff_not]; omega
theorem opens_right {a b : C} (va : Vd a) (vb : Vd b) {p : Nat} : opens (Cor.join a b).regs (a.toks.length + p) = opens b.regs p := by
 show ((a.regs ++ b.regs.map (mvR a.toks.length)).filter fun r => decide (r.b = ((a.toks.length + p : Nat) : Int))).flatMap _ = _
 rw [List.filter_append, filter_nil' (l := a.regs) fun x hx => ?_, List.nil_append, List.filter_map, List.flatMap_map]
 ·unfold opens
  have e : (fun r : Reg => decide (r.b = ((a.toks.length + p : Nat) : Int))) ∘ mvR (a.toks.length : Int) = fun r => decide (r.b = (p : Int)) := by
   funext r
   show decide (r.b + (a.toks.length : Int) = ((a.toks.length + p : Nat) : Int)) = _
   rw [Bool.eq_iff_iff, decide_eq_true_eq, decide_eq_true_eq]; omega
  rw [e]; rfl
 ·have := regB va x hx
  rw [decide_eq_false_iff_not]; omega
theorem text_left {a b : C} (va : Vd a) (vb : Vd b) {t : Txt} (ht : t ∈ a.texts) : textText (Cor.join a b) t = textText a t := by
 have h := textB va t ht
 unfold textText
 rw [closes_left va vb (by omega)]
 have e : spanText (Cor.join a b) t.b.toNat (t.e - t.b).toNat = spanText a t.b.toNat (t.e - t.b).toNat := by
  unfold spanText
  rw [List.flatMap_def, List.flatMap_def]
  congr 1
  refine List.map_congr_left fun i hi => ?_
  have hi := List.mem_range.1 hi
  unfold posText
  rw [closes_left va vb (by omega), opens_left va vb (by omega)]
  have e : (Cor.join a b).toks[t.b.toNat + i]? = a.toks[t.b.toNat + i]? := List.getElem?_append_left (by omega)
  rw [e]
 rw [e]
theorem text_right {a b : C} (va : Vd a) (vb : Vd b) {t : Txt} (ht : t ∈ b.texts) : textText (Cor.join a b) (mvT a.toks.length t) = textText b t := by
 have h := textB vb t ht
 have e1 : (mvT (a.toks.length : Int) t).b.toNat = a.toks.length + t.b.toNat := by
  show (t.b + (a.toks.length : Int)).toNat = _; omega
 have e2 : (mvT (a.toks.length : Int) t).e.toNat = a.toks.length + t.e.toNat := by
  show (t.e + (a.toks.length : Int)).toNat = _; omega
 have e3 : (mvT (a.toks.length : Int) t).e - (mvT (a.toks.length : Int) t).b = t.e - t.b := by
  show (t.e + (a.toks.length : Int)) - (t.b + (a.toks.length : Int)) = _; omega
 unfold textText
 rw [e1, e2, e3, closes_right va vb (by omega)]
 have e : spanText (Cor.join a b) (a.toks.length + t.b.toNat) (t.e - t.b).toNat = spanText b t.b.toNat (t.e - t.b).toNat := by
  unfold spanText
  rw [List.flatMap_def, List.flatMap_def]
  congr 1
  refine List.map_congr_left fun i hi => ?_
  have hi := List.mem_range.1 hi
  unfold posText
  rw [Nat.add_assoc, opens_right va vb]
  have e : (Cor.join a b).toks[a.toks.length + (t.b.toNat + i)]? = b.toks[t.b.toNat + i]? := by
   show (a.toks ++ b.toks)[a.toks.length + (t.b.toNat + i)]? = _
   rw [List.getElem?_append_right (by omega), Nat.add_sub_cancel_left]
  rw [e]
  by_cases hz : i = 0
  ·rw [if_pos (by omega), if_pos (by omega)]
  ·rw [if_neg (by omega), if_neg (by omega), closes_right va vb (by omega)]
 rw [e]; rfl
theorem body_join {a b : C} (va : Vd a) (vb : Vd b) : bodyV (Cor.join a b) = bodyV a ++ bodyV b := by
 show (a.texts ++ b.texts.map (mvT a.toks.length)).flatMap (textText (Cor.join a b)) = _
 rw [List.flatMap_append, List.flatMap_map]
 unfold bodyV
 rw [List.flatMap_def, List.flatMap_def, List.flatMap_def, List.flatMap_def]
 rw [List.map_congr_left fun t ht => text_left va vb ht, List.map_congr_left fun t ht => text_right va vb ht]
theorem fmt_zero {c : C} : fmtErr c = 0 ↔ (∀ t ∈ c.texts, badT t = false) ∧ ∀ r ∈ c.regs, (r.nm == Vert.text) = false := by
 unfold fmtErr
 constructor
 ·intro h
  split at h
  ·split at h <;> cases h
  ·rename_i h1
   split at h
   ·cases h
   ·rename_i h2
    refine ⟨fun t ht => ?_, fun r hr => ?_⟩
    ·have := List.find?_eq_none.1 h1 t ht
     simpa using this
    ·have h2 : c.regs.any (fun r => r.nm == Vert.text) = false := by simpa using h2
     rw [List.any_eq_false] at h2
     simpa using h2 r hr
 ·rintro ⟨h1, h2⟩
  have e : c.texts.find? badT = none := by
   rw [List.find?_eq_none]
   intro t ht
   rw [h1 t ht]; simp
  rw [e]
  dsimp only
  rw [if_neg]
  rw [List.any_eq_true]
  rintro ⟨r, hr, hq⟩
  rw [h2 r hr] at hq; cases hq
theorem fmt_join (a b : C) : fmtErr (Cor.join a b) = 0 ↔ fmtErr a = 0 ∧ fmtErr b = 0 := by
 rw [fmt_zero, fmt_zero, fmt_zero]
 show ((∀ t ∈ a.texts ++ b.texts.map (mvT a.toks.length), badT t = false) ∧ ∀ r ∈ a.regs ++ b.regs.map (mvR a.toks.length), (r.nm == Vert.text) = false) ↔ _
 constructor
 ·rintro ⟨h1, h2⟩
  refine ⟨⟨fun t ht => h1 t (List.mem_append_left _ ht), fun r hr => h2 r (List.mem_append_left _ hr)⟩, fun t ht => ?_, fun r hr => ?_⟩
  ·exact h1 (mvT a.toks.length t) (List.mem_append_right _ (List.mem_map_of_mem ht))
  ·exact h2 (mvR a.toks.length r) (List.mem_append_right _ (List.mem_map_of_mem hr))
 ·rintro ⟨⟨h1, h2⟩, h3, h4⟩
  refine ⟨fun t ht => ?_, fun r hr => ?_⟩
  ·rcases List.mem_append.1 ht with h | h
   ·exact h1 t h
   ·obtain ⟨u, hu, rfl⟩ := List.mem_map.1 h
    exact h3 u hu
  ·rcases List.mem_append.1 hr with h | h
   ·exact h2 r h
   ·obtain ⟨u, hu, rfl⟩ := List.mem_map.1 h
    exact h4 u hu

theorem fm_len {α β : Type} (f : α → List β) : ∀ l : List α, (l.flatMap f).length = (l.map fun x => (f x).length).sum
 | [] => rfl
 | a :: l => by rw [List.flatMap_cons, List.length_append, fm_len f l]; simp
theorem sum_one (x : Int) (y : Nat) : ∀ N : Nat, ((List.range N).map fun p : Nat => if x = (p : Int) then y else 0).sum ≤ y ∧ ((N : Int) ≤ x → ((List.range N).map fun p : Nat => if x = (p : Int) then y else 0).sum = 0)
 | 0 => by simp
 | N + 1 => by
  have ih := sum_one x y N
  rw [List.range_succ, List.map_append, List.sum_append]
  simp only [List.map_cons, List.map_nil, List.sum_cons, List.sum_nil, Nat.add_zero]
  constructor
  ·by_cases h : x = (N : Int)
   ·rw [if_pos h, ih.2 (by omega)]; omega
   ·rw [if_neg h]; have := ih.1; omega
  ·intro h
   rw [if_neg (by omega), ih.2 (by omega)]
theorem sum_add (f g : Nat → Nat) : ∀ l : List Nat, (l.map fun p => f p + g p).sum = (l.map f).sum + (l.map g).sum
 | [] => rfl
 | a :: l => by
  have := sum_add f g l
  simp only [List.map_cons, List.sum_cons]
  omega
theorem sum_mono {α : Type} {f g : α → Nat} : ∀ {l : List α}, (∀ x ∈ l, f x ≤ g x) → (l.map f).sum ≤ (l.map g).sum
 | [], _ => Nat.le_refl _
 | a :: l, h => by
  have := sum_mono (f := f) (g := g) (l := l) fun x hx => h x (by simp [hx])
  have := h a (by simp)
  simp only [List.map_cons, List.sum_cons]
  omega
theorem once {α : Type} (e : α → Int) (f : α → Nat) (N : Nat) : ∀ l : List α, ((List.range N).map fun p : Nat => ((l.filter fun x => decide (e x = (p : Int))).map f).sum).sum ≤ (l.map f).sum
 | [] => by
  have : ∀ M : List Nat, (M.map fun _ => 0).sum = 0 := fun M => by induction M <;> simp_all
  simp only [List.filter_nil, List.map_nil, List.sum_nil, this, Nat.le_refl]
 | a :: l => by
  have ih := once e f N l
  have h1 := (sum_one (e a) (f a) N).1
  have h2 := sum_add (fun p : Nat => if e a = (p : Int) then f a else 0) (fun p : Nat => ((l.filter fun x => decide (e x = (p : Int))).map f).sum) (List.range N)
  have h3 : ((List.range N).map fun p : Nat => (((a :: l).filter fun x => decide (e x = (p : Int))).map f).sum) = (List.range N).map fun p : Nat => (if e a = (p : Int) then f a else 0) + ((l.filter fun x => decide (e x = (p : Int))).map f).sum := by
   refine List.map_congr_left fun p _ => ?_
   rw [List.filter_cons]
   by_cases h : e a = (p : Int)
   ·rw [if_pos (by simpa using h), if_pos h]; simp
   ·rw [if_neg (by simpa using h), if_neg h]; simp
  rw [h3, h2, List.map_cons, List.sum_cons]
  omega
def wtK (l : List KV) : Nat := l.length + (l.map fun p => p.1.length + p.2.length).sum
def wtT (t : List Bs) : Nat := 1 + (t.map fun v => 1 + v.length).sum
def wtX (t : Txt) : Nat := 1 + t.nm.length + wtK t.ks
def wtR (r : Reg) : Nat := 1 + r.nm.length + wtK r.ks
def wtC (c : C) : Nat :=
 c.attrs.length + c.heads.length + (c.attrs.map fun a => a.1.length).sum + (c.toks.map wtT).sum + (c.texts.map wtX).sum + (c.regs.map wtR).sum + (c.nods.map fun x => 1 + x.lb.length).sum + (c.rels.map fun s => 1 + s.length).sum
theorem sum_perm {l m : List Nat} (h : l.Perm m) : l.sum = m.sum := by
 induction h with
 | nil => rfl
 | cons _ _ ih => simp [ih]
 | swap _ _ _ => simp; omega
 | trans _ _ h1 h2 => exact h1.trans h2
theorem sum_mul (k : Nat) {α : Type} (f : α → Nat) : ∀ l : List α, (l.map fun x => k * f x).sum = k * (l.map f).sum
 | [] => by simp
 | a :: l => by
  have := sum_mul k f l
  simp only [List.map_cons, List.sum_cons]
  rw [this, Nat.mul_add]
theorem wtK_eq (l : List KV) : wtK l = (l.map fun p => 1 + p.1.length + p.2.length).sum := by
 unfold wtK
 induction l with
 | nil => rfl
 | cons a l ih =>
  simp only [List.map_cons, List.sum_cons, List.length_cons] at ih ⊢
  omega
theorem tag_wt (nm : Bs) (l : List KV) : (tagText nm l).length ≤ 3 + 6 * (nm.length + wtK l) := by
 unfold tagText
 by_cases hc : chk false nm l = 0
 ·rw [fmt_tag hc]
  have h2 : ((sortP l).flatMap keyT).length ≤ 6 * wtK l := by
   rw [fm_len, wtK_eq, ← sum_mul]
   rw [← sum_perm ((perm_sort l).map fun p : KV => 6 * (1 + p.1.length + p.2.length))]
   refine sum_mono fun p _ => ?_
   have d := esc_l6 p.2
   unfold keyT
   simp only [List.length_append, List.length_cons, List.length_nil]
   omega
  unfold gapT
  simp only [List.replicate_zero, ite_self, List.append_nil, List.length_append, List.length_cons, List.length_nil]
  omega
 ·have : (fmtT false nm l).1 = [] := by unfold fmtT; rw [if_pos hc]
  rw [this]; simp; omega
theorem tok_wt (t : List Bs) : (tokText t).length ≤ 6 * wtT t := by
 have key : ∀ (l : List Bs), (([9] : Bs).intercalate (l.map esc)).length ≤ (l.map fun v => 6 * (1 + v.length)).sum := by
  intro l
  induction l with
  | nil => simp [List.intercalate]
  | cons a l ih =>
   have ha := esc_l6 a
   cases l with
   | nil => simp [List.intercalate]; omega
   | cons b l =>
    have e : ([9] : Bs).intercalate ((a :: b :: l).map esc) = esc a ++ 9 :: [9].intercalate ((b :: l).map esc) := by simp [List.intercalate, List.intersperse]
    rw [e, List.length_append, List.length_cons, List.map_cons (f := fun v : Bs => 6 * (1 + v.length)), List.sum_cons]
    omega
 have := key t
 rw [sum_mul] at this
 unfold tokText wtT
 rw [List.length_append]
 simp only [List.length_cons, List.length_nil]
 omega
def placeL (c : C) (p : Nat) : Nat := (opens c.regs p).length + (tokText ((c.toks[p]?).getD [])).length + (closes c.regs (p + 1)).length
theorem span_pl (c : C) (b : Nat) : ∀ j : Nat, (spanText c b (j + 1)).length + (closes c.regs (b + (j + 1))).length ≤ ((List.range (j + 1)).map fun i => placeL c (b + i)).sum
 | 0 => by
  rw [Vert.spanText_succ]
  unfold posText placeL
  rw [if_pos (by omega)]
  simp [spanText]
 | j + 1 => by
  have ih := span_pl c b j
  rw [Vert.spanText_succ, List.range_succ, List.map_append, List.sum_append]
  unfold posText
  rw [if_neg (by omega)]
  simp only [List.length_append, List.map_cons, List.map_nil, List.sum_cons, List.sum_nil]
  unfold placeL at ih ⊢
  have e : b + (j + 1) + 1 = b + (j + 1 + 1) := by omega
  rw [e]
  omega
theorem text_pl (c : C) {t : Txt} (h0 : 0 ≤ t.b) (h : t.b < t.e) : (textText c t).length ≤ 47 + 6 * wtX t + ((List.range (t.e - t.b).toNat).map fun i => placeL c (t.b.toNat + i)).sum := by
 obtain ⟨j, hj⟩ : ∃ j, (t.e - t.b).toNat = j + 1 := ⟨(t.e - t.b).toNat - 1, by omega⟩
 have h1 := span_pl c t.b.toNat j
 have h2 := tag_wt Vert.text (([105, 100], t.nm) :: t.ks)
 have e : t.e.toNat = t.b.toNat + (j + 1) := by omega
 have h3 : endTag.length = 8 := rfl
 have h4 : wtK (([105, 100], t.nm) :: t.ks) = 3 + t.nm.length + wtK t.ks := by
  rw [wtK_eq, wtK_eq]
  simp only [List.map_cons, List.sum_cons, List.length_cons, List.length_nil]
 have h5 : Vert.text.length = 4 := rfl
 unfold textText wtX
 rw [hj, e]
 simp only [List.length_append]
 omega
theorem range_shift (f : Nat → Nat) (p n : Nat) : ((List.range (p + n)).map f).sum = ((List.range p).map f).sum + ((List.range n).map fun i => f (p + i)).sum := by
 induction n with
 | zero => simp
 | succ n ih =>
  rw [← Nat.add_assoc, List.range_succ, List.map_append, List.sum_append, ih, List.range_succ (n := n), List.map_append, List.sum_append]
  simp only [List.map_cons, List.map_nil, List.sum_cons, List.sum_nil]
  omega
theorem body_pl (c : C) : ∀ (m : List Txt) (p : Nat) (n : Nat), Chain (p : Int) m (n : Int) → ((List.range p).map (placeL c)).sum + (m.flatMap (textText c)).length ≤ (m.map fun t => 47 + 6 * wtX t).sum + ((List.range n).map (placeL c)).sum
 | [], p, n, h => by
  have : (p : Int) = n := h
  have : p = n := by omega
  subst this; simp
 | t :: m, p, n, ⟨h1, h2, h3⟩ => by
  have e : t.e = ((p + (t.e - t.b).toNat : Nat) : Int) := by omega
  have e0 : t.b.toNat = p := by omega
  rw [e] at h3
  have ih := body_pl c m _ n h3
  have h4 := text_pl c (t := t) (by omega) h2
  rw [e0] at h4
  rw [range_shift] at ih
  rw [List.flatMap_cons, List.length_append, List.map_cons, List.sum_cons]
  omega
theorem getD_sum (f : List Bs → Nat) : ∀ (l : List (List Bs)), ((List.range l.length).map fun p => f ((l[p]?).getD [])).sum = (l.map f).sum
 | [] => rfl
 | a :: l => by
  rw [List.length_cons, Nat.add_comm, range_shift]
  have := getD_sum f l
  simp only [List.map_cons, List.sum_cons]
  rw [← this]
  simp [List.range_succ, Nat.add_comm 1]
theorem place_sum (c : C) : ((List.range c.toks.length).map (placeL c)).sum ≤ 7 * c.regs.length + 7 * (c.regs.map wtR).sum + 6 * (c.toks.map wtT).sum := by
 have h1 : ((List.range c.toks.length).map fun p : Nat => (opens c.regs p).length).sum ≤ (c.regs.map fun r => 3 + 6 * wtR r).sum := by
  refine Nat.le_trans ?_ (once (fun r : Reg => r.b) (fun r => 3 + 6 * wtR r) c.toks.length c.regs)
  refine sum_mono fun p _ => ?_
  unfold opens
  rw [fm_len]
  refine sum_mono fun r _ => ?_
  have := tag_wt r.nm r.ks
  unfold wtR
  omega
 have h2 : ((List.range c.toks.length).map fun p : Nat => (closes c.regs (p + 1)).length).sum ≤ (c.regs.map fun r => 4 + wtR r).sum := by
  refine Nat.le_trans ?_ (once (fun r : Reg => r.e) (fun r => 4 + wtR r) (1 + c.toks.length) c.regs)
  rw [range_shift]
  refine Nat.le_trans ?_ (Nat.le_add_left _ _)
  refine sum_mono fun p _ => ?_
  unfold closes
  rw [fm_len, List.map_reverse, List.sum_reverse, Nat.add_comm 1 p]
  refine sum_mono fun r _ => ?_
  unfold closeText wtR
  simp only [List.length_append, List.length_cons, List.length_nil]
  omega
 have h3 : ((List.range c.toks.length).map fun p : Nat => (tokText ((c.toks[p]?).getD [])).length).sum ≤ 6 * (c.toks.map wtT).sum := by
  rw [getD_sum fun t => (tokText t).length, ← sum_mul]
  exact sum_mono fun t _ => tok_wt t
 have h4 : ∀ k m : Nat, (c.regs.map fun r => k + m * wtR r).sum = k * c.regs.length + m * (c.regs.map wtR).sum := fun k m => by
  generalize c.regs = l
  induction l with
  | nil => simp
  | cons a l ih =>
   simp only [List.map_cons, List.sum_cons, List.length_cons, ih, Nat.mul_add, Nat.mul_one]
   omega
 have h5 := h4 3 6
 have h6 := h4 4 1
 simp only [Nat.one_mul] at h6
 unfold placeL
 rw [sum_add, sum_add]
 omega
theorem body_wt {c : C} (v : Vd c) : (bodyV c).length ≤ 47 * c.texts.length + 7 * c.regs.length + 7 * wtC c := by
 have h1 := body_pl c c.texts 0 c.toks.length (txC_iff.1 v.x).row
 have h2 := place_sum c
 have h3 : (c.texts.map fun t => 47 + 6 * wtX t).sum = 47 * c.texts.length + 6 * (c.texts.map wtX).sum := by
  generalize c.texts = l
  induction l with
  | nil => simp
  | cons a l ih =>
   simp only [List.map_cons, List.sum_cons, List.length_cons, ih, Nat.mul_add, Nat.mul_one]
   omega
 unfold bodyV
 rw [h3] at h1
 simp only [List.range_zero, List.map_nil, List.sum_nil, Nat.zero_add] at h1
 unfold wtC
 omega
end Go.Proofs.YtgkdaebiefhgdaaGreatDoor
