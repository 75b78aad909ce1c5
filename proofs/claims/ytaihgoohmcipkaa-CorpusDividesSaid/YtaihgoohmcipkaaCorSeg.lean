/-
  Plain: a full corpus cut at edges of its texts; documents; what follows for concatenations. No conditions.
-/
import Derived.Test.YtaihgoohmcipkaaCorApp
namespace Go.Proofs.Ytaihgoohmcipkaa
set_option linter.unusedSimpArgs false
set_option linter.unusedVariables false
open Cor (C Nod Txt Reg valid within par anc sibE ParOk allH allL bare mvT mvR mvN mvH cmpR inR inN cutL doc)
open Tagp (okName)
open Feat (Bs)

def seg (c : C) (u v : Int) : C where
  attrs := c.attrs
  toks := cutL u v c.toks
  texts := (c.texts.filter (inR u v)).map (mvT (-u))
  regs := (c.regs.filter (inR u v)).map (mvR (-u))
  nods := (c.nods.filter (inN u v)).map (mvN (-u) (-((c.nods.filter fun x => decide (x.b < u)).length : Int)))
  heads := (cutL u v c.heads).map (mvH (-u))
  rels := cutL u v c.rels
def Edge (c : C) (u : Int) : Prop := ∀ t ∈ c.texts, t.e ≤ u ∨ u ≤ t.b
theorem inR_iff {u v : Int} {x : Reg} : inR u v x = true ↔ u ≤ x.b ∧ x.e ≤ v := by unfold inR; rw [Bool.and_eq_true, decide_eq_true_eq, decide_eq_true_eq]
theorem inN_iff {u v : Int} {x : Nod} : inN u v x = true ↔ u ≤ x.b ∧ x.e ≤ v := by unfold inN; rw [Bool.and_eq_true, decide_eq_true_eq, decide_eq_true_eq]

theorem mvN_comp {n1 m1 n2 m2 : Int} {t : Nod} (h : 0 ≤ t.p → 0 ≤ t.p + m2) : mvN n1 m1 (mvN n2 m2 t) = mvN (n2 + n1) (m2 + m1) t := by
  obtain ⟨lb, b, e, p⟩ := t
  show Nod.mk lb (b + n2 + n1) (e + n2 + n1) (if 0 ≤ (if 0 ≤ p then p + m2 else p) then (if 0 ≤ p then p + m2 else p) + m1 else (if 0 ≤ p then p + m2 else p)) = Nod.mk lb (b + (n2 + n1)) (e + (n2 + n1)) (if 0 ≤ p then p + (m2 + m1) else p)
  rw [Int.add_assoc, Int.add_assoc]
  by_cases h0 : 0 ≤ p
  · have h1 : 0 ≤ p + m2 := h h0
    simp only [if_pos h0, if_pos h1, Int.add_assoc]
  · simp only [if_neg h0]
theorem mvH_comp {n1 n2 z : Int} (h : 0 ≤ z → 0 ≤ z + n2) : mvH n1 (mvH n2 z) = mvH (n2 + n1) z := by
  show (if 0 ≤ (if 0 ≤ z then z + n2 else z) then (if 0 ≤ z then z + n2 else z) + n1 else (if 0 ≤ z then z + n2 else z)) = if 0 ≤ z then z + (n2 + n1) else z
  by_cases h0 : 0 ≤ z
  · have h1 : 0 ≤ z + n2 := h h0
    simp only [if_pos h0, if_pos h1, Int.add_assoc]
  · simp only [if_neg h0]
theorem filter_split {α : Type} {p q r : α → Bool} : ∀ {l : List α}, (∀ x ∈ l, r x = true ↔ (p x = true ∨ q x = true)) → (∀ x ∈ l, p x = true → q x = true → False) → l.Pairwise (fun a b => q a = true → p b = true → False) → l.filter r = l.filter p ++ l.filter q
  | [], _, _, _ => rfl
  | x :: l, h1, h2, h3 => by
    obtain ⟨h3a, h3b⟩ := List.pairwise_cons.1 h3
    have ih := filter_split (fun y hy => h1 y (List.mem_cons_of_mem _ hy)) (fun y hy => h2 y (List.mem_cons_of_mem _ hy)) h3b
    have hx := h1 x List.mem_cons_self
    have hn := h2 x List.mem_cons_self
    cases hp : p x with
    | true =>
      have hq : q x = false := by
        cases hq : q x with
        | false => rfl
        | true => exact (hn hp hq).elim
      rw [List.filter_cons_of_pos (hx.2 (.inl hp)), List.filter_cons_of_pos hp, List.filter_cons_of_neg (by rw [hq]; simp), ih]; rfl
    | false =>
      cases hq : q x with
      | true =>
        have hnil : l.filter p = [] := by
          rw [List.filter_eq_nil_iff]
          intro y hy hpy
          exact h3a y hy hq hpy
        rw [List.filter_cons_of_pos (hx.2 (.inr hq)), List.filter_cons_of_neg (by rw [hp]; simp), List.filter_cons_of_pos hq, ih, hnil]; rfl
      | false =>
        have hr : ¬ r x = true := fun hr => by
          rcases hx.1 hr with e | e
          · rw [hp] at e; cases e
          · rw [hq] at e; cases e
        rw [List.filter_cons_of_neg hr, List.filter_cons_of_neg (by rw [hp]; simp), List.filter_cons_of_neg (by rw [hq]; simp), ih]
theorem cutL_app {α : Type} {l : List α} {u v x : Int} (h0 : 0 ≤ u) (h1 : u ≤ v) (h2 : v ≤ x) : cutL u v l ++ cutL v x l = cutL u x l := by
  unfold cutL
  rw [show (x - u).toNat = (v - u).toNat + (x - v).toNat by omega, List.take_add, List.drop_drop, show u.toNat + (v - u).toNat = v.toNat by omega]
theorem cutL_len {α : Type} {l : List α} {u v : Int} (h0 : 0 ≤ u) (h1 : u ≤ v) (h2 : v ≤ l.length) : ((cutL u v l).length : Int) = v - u := by
  unfold cutL; rw [List.length_take, List.length_drop]; omega
theorem cutL_all {α : Type} {l : List α} : cutL 0 l.length l = l := by
  unfold cutL; simp
theorem mem_cutL {α : Type} {l : List α} {u v : Int} {z : α} (h0 : 0 ≤ u) (h : z ∈ cutL u v l) : ∃ k, ∃ hk : k < l.length, u ≤ k ∧ (k : Int) < v ∧ l[k] = z := by
  unfold cutL at h
  obtain ⟨j, hj, rfl⟩ := List.getElem_of_mem h
  rw [List.length_take, List.length_drop] at hj
  refine ⟨u.toNat + j, by omega, by omega, by omega, ?_⟩
  rw [List.getElem_take, List.getElem_drop]

theorem within_edge {ts : List Txt} {u b e : Int} (hu : ∀ t ∈ ts, t.e ≤ u ∨ u ≤ t.b) (h : within ts b e = true) : e ≤ u ∨ u ≤ b := by
  unfold within at h
  rw [List.any_eq_true] at h
  obtain ⟨t, ht, h2⟩ := h
  simp only [Bool.and_eq_true, decide_eq_true_eq] at h2
  rcases hu t ht with e | e <;> omega
section
variable {c : C} (h : Core c)
include h
theorem Core.mono {u : Int} (hu : Edge c u) : ∀ j (hj : j < c.nods.length) i (hi : i ≤ j), u ≤ (c.nods[i]'(by omega)).b → u ≤ c.nods[j].b := by
  have v := vd_of_core h
  unfold pack at v
  split at v
  · exact Vd.mono v hu
  · exact Vd.mono v hu
theorem Core.nmono {u : Int} (hu : Edge c u) : c.nods.Pairwise (fun a b => u ≤ a.b → u ≤ b.b) := by
  rw [List.pairwise_iff_getElem]
  intro i j hi hj hij
  exact h.mono hu j hj i (by omega)
theorem Core.nfront {u : Int} (hu : Edge c u) : ∀ j (hj : j < c.nods.length), (c.nods[j].b < u ↔ j < (c.nods.filter fun x => decide (x.b < u)).length) := by
  intro j hj
  have := front_of (fun x : Nod => decide (x.b < u)) c.nods (fun a b hb hab q => by
    have := h.mono hu b hb a hab
    simp only [decide_eq_false_iff_not] at q ⊢
    omega) _ rfl j hj
  rw [← this, decide_eq_true_eq]
theorem Core.nsplit {u v : Int} (hu : Edge c u) (hv : Edge c v) (huv : u ≤ v) : (c.nods.filter fun x => decide (x.b < v)).length = (c.nods.filter fun x => decide (x.b < u)).length + (c.nods.filter (inN u v)).length := by
  rw [← List.length_append]
  congr 1
  refine filter_split (fun x hx => ?_) (fun x hx a b => ?_) ?_
  · have e := within_edge hv (h.n.one x hx).2
    have e2 := within_edge hu (h.n.one x hx).2
    have e3 := h.ndb x hx
    rw [inN_iff, decide_eq_true_eq, decide_eq_true_eq]; omega
  · rw [inN_iff] at b; rw [decide_eq_true_eq] at a; omega
  · refine (h.nmono hu).imp fun {a b} q p1 p2 => ?_
    rw [inN_iff] at p1
    rw [decide_eq_true_eq] at p2
    have := q p1.1
    omega
theorem Core.xsplit {u v x : Int} (hv : Edge c v) (huv : u ≤ v) (hvx : v ≤ x) : c.texts.filter (inR u x) = c.texts.filter (inR u v) ++ c.texts.filter (inR v x) := by
  have hb := (chain_bd h.x.row).2
  refine filter_split (fun t ht => ?_) (fun t ht a b => ?_) ?_
  · have := hb t ht
    have := hv t ht
    rw [inR_iff, inR_iff, inR_iff]; omega
  · have := hb t ht
    rw [inR_iff] at a b; omega
  · refine (chain_pw h.x.row).imp_of_mem fun {a b} ha hb' q p1 p2 => ?_
    have := hb a ha
    have := hb b hb'
    rw [inR_iff] at p1 p2; omega
theorem Core.rsplit {u v x : Int} (hv : Edge c v) (huv : u ≤ v) (hvx : v ≤ x) : c.regs.filter (inR u x) = c.regs.filter (inR u v) ++ c.regs.filter (inR v x) := by
  refine filter_split (fun t ht => ?_) (fun t ht a b => ?_) ?_
  · have := h.rgb t ht
    have := within_edge hv (h.r.one t ht).2.1
    rw [inR_iff, inR_iff, inR_iff]; omega
  · have := h.rgb t ht
    rw [inR_iff] at a b; omega
  · refine h.r.pw.imp_of_mem fun {a b} ha hb' q p1 p2 => ?_
    have := h.rgb a ha
    have := h.rgb b hb'
    have := Cor.cmpR_b (x := a) (y := b) (by have := q.1; omega)
    rw [inR_iff] at p1 p2; omega
theorem Core.nsplit2 {u v x : Int} (hv : Edge c v) (huv : u ≤ v) (hvx : v ≤ x) : c.nods.filter (inN u x) = c.nods.filter (inN u v) ++ c.nods.filter (inN v x) := by
  refine filter_split (fun t ht => ?_) (fun t ht a b => ?_) ?_
  · have := h.ndb t ht
    have := within_edge hv (h.n.one t ht).2
    rw [inN_iff, inN_iff, inN_iff]; omega
  · have := h.ndb t ht
    rw [inN_iff] at a b; omega
  · refine (h.nmono hv).imp_of_mem fun {a b} ha hb' q p1 p2 => ?_
    have := h.ndb a ha
    have := h.ndb b hb'
    rw [inN_iff] at p1 p2
    have := q p1.1
    omega
/-- The parent of a node behind an edge stands behind those in front of it. -/
theorem Core.npar {v : Int} (hv : Edge c v) {y : Nod} (hy : y ∈ c.nods) (hb : v ≤ y.b) (hp : 0 ≤ y.p) : ((c.nods.filter fun x => decide (x.b < v)).length : Int) ≤ y.p := by
  obtain ⟨k, hk, rfl⟩ := List.getElem_of_mem hy
  have ho := h.n.pok k hk hk
  have q := h.n.par k hk hp
  rw [List.getElem?_eq_getElem (show c.nods[k].p.toNat < c.nods.length by omega)] at q
  simp only [Option.any_some, Bool.or_eq_false_iff, decide_eq_false_iff_not] at q
  have hm := List.getElem_mem (show c.nods[k].p.toNat < c.nods.length by omega)
  have e := within_edge hv (h.n.one _ hm).2
  have b1 := h.ndb _ (List.getElem_mem hk)
  have f := h.nfront hv c.nods[k].p.toNat (by omega)
  omega
theorem Core.hpos {v x : Int} (hv : Edge c v) (h0 : 0 ≤ v) {z : Int} (hz : z ∈ cutL v x c.heads) (hp : 0 ≤ z) : v ≤ z := by
  obtain ⟨k, hk, h1, h2, rfl⟩ := mem_cutL h0 hz
  rcases h.h.one k hk with e | ⟨t, ht, a⟩
  · omega
  · have := hv t ht; omega
theorem seg_app {u v x : Int} (hu : Edge c u) (hv : Edge c v) (h0 : 0 ≤ u) (huv : u ≤ v) (hvx : v ≤ x) (hx : x ≤ c.toks.length) : app (seg c u v) (seg c v x) = seg c u x := by
  have l1 : ((seg c u v).toks.length : Int) = v - u := cutL_len h0 huv (by omega)
  have l2 : (seg c u v).nods.length = (c.nods.filter (inN u v)).length := List.length_map _
  have e1 : cutL u v c.toks ++ cutL v x c.toks = cutL u x c.toks := cutL_app h0 huv hvx
  have e2 : (seg c u v).texts ++ (seg c v x).texts.map (mvT (v - u)) = (seg c u x).texts := by
    show (c.texts.filter (inR u v)).map (mvT (-u)) ++ ((c.texts.filter (inR v x)).map (mvT (-v))).map (mvT (v - u)) = (c.texts.filter (inR u x)).map (mvT (-u))
    rw [h.xsplit hv huv hvx, List.map_append, List.map_map]
    congr 1
    apply List.map_congr_left
    intro t _
    simp only [Function.comp, mvT]
    congr 1 <;> omega
  have e3 : (seg c u v).regs ++ (seg c v x).regs.map (mvR (v - u)) = (seg c u x).regs := by
    show (c.regs.filter (inR u v)).map (mvR (-u)) ++ ((c.regs.filter (inR v x)).map (mvR (-v))).map (mvR (v - u)) = (c.regs.filter (inR u x)).map (mvR (-u))
    rw [h.rsplit hv huv hvx, List.map_append, List.map_map]
    congr 1
    apply List.map_congr_left
    intro t _
    simp only [Function.comp, mvR]
    congr 1 <;> omega
  have e4 : (seg c u v).nods ++ (seg c v x).nods.map (mvN (v - u) ((c.nods.filter (inN u v)).length : Nat)) = (seg c u x).nods := by
    show (c.nods.filter (inN u v)).map (mvN (-u) (-((c.nods.filter fun x => decide (x.b < u)).length : Int))) ++ ((c.nods.filter (inN v x)).map (mvN (-v) (-((c.nods.filter fun x => decide (x.b < v)).length : Int)))).map (mvN (v - u) ((c.nods.filter (inN u v)).length : Nat)) = (c.nods.filter (inN u x)).map (mvN (-u) (-((c.nods.filter fun x => decide (x.b < u)).length : Int)))
    rw [h.nsplit2 hv huv hvx, List.map_append, List.map_map]
    congr 1
    apply List.map_congr_left
    intro y hy
    obtain ⟨hm, hin⟩ := List.mem_filter.1 hy
    rw [inN_iff] at hin
    have hk := h.nsplit hu hv huv
    have hp := h.npar hv hm hin.1
    show mvN _ _ (mvN _ _ y) = _
    rw [mvN_comp (fun h => by have := hp h; omega)]
    congr 1 <;> omega
  have e5 : (seg c u v).heads ++ (seg c v x).heads.map (mvH (v - u)) = (seg c u x).heads := by
    show (cutL u v c.heads).map (mvH (-u)) ++ ((cutL v x c.heads).map (mvH (-v))).map (mvH (v - u)) = (cutL u x c.heads).map (mvH (-u))
    rw [← cutL_app h0 huv hvx, List.map_append, List.map_map]
    congr 1
    apply List.map_congr_left
    intro z hz
    have hp := h.hpos hv (by omega) hz
    show mvH _ (mvH _ z) = _
    rw [mvH_comp (fun h => by have := hp h; omega)]
    congr 1; omega
  have e6 : cutL u v c.rels ++ cutL v x c.rels = cutL u x c.rels := cutL_app h0 huv hvx
  unfold app
  rw [l1, l2, e2, e3, e4, e5]
  show C.mk c.attrs (cutL u v c.toks ++ cutL v x c.toks) _ _ _ _ (cutL u v c.rels ++ cutL v x c.rels) = _
  rw [e1, e6]; rfl
theorem seg_all : seg c 0 c.toks.length = c := by
  have hb := (chain_bd h.x.row).2
  have e2 : (seg c 0 c.toks.length).texts = c.texts := by
    show (c.texts.filter _).map _ = _
    rw [List.filter_eq_self.2 (fun t ht => by have := hb t ht; rw [inR_iff]; omega)]
    conv => rhs; rw [← List.map_id c.texts]
    apply List.map_congr_left
    intro t _
    show Txt.mk t.nm (t.b + -0) (t.e + -0) t.ks = t
    rw [show t.b + -0 = t.b by omega, show t.e + -0 = t.e by omega]
  have e3 : (seg c 0 c.toks.length).regs = c.regs := by
    show (c.regs.filter _).map _ = _
    rw [List.filter_eq_self.2 (fun t ht => by have := h.rgb t ht; rw [inR_iff]; omega)]
    conv => rhs; rw [← List.map_id c.regs]
    apply List.map_congr_left
    intro t _
    show Txt.mk t.nm (t.b + -0) (t.e + -0) t.ks = t
    rw [show t.b + -0 = t.b by omega, show t.e + -0 = t.e by omega]
  have e4 : (seg c 0 c.toks.length).nods = c.nods := by
    have e4a : c.nods.filter (inN 0 (c.toks.length : Int)) = c.nods := List.filter_eq_self.2 (fun t ht => by have := h.ndb t ht; rw [inN_iff]; omega)
    show (c.nods.filter (inN 0 (c.toks.length : Int))).map _ = _
    rw [e4a]
    conv => rhs; rw [← List.map_id c.nods]
    apply List.map_congr_left
    intro t ht
    have e0 : (c.nods.filter fun x => decide (x.b < 0)) = [] := by
      rw [List.filter_eq_nil_iff]
      intro y hy
      have := h.ndb y hy
      rw [decide_eq_true_eq]; omega
    show Nod.mk t.lb (t.b + -0) (t.e + -0) (if 0 ≤ t.p then t.p + -((c.nods.filter fun x => decide (x.b < 0)).length : Int) else t.p) = t
    rw [e0, show t.b + -0 = t.b by omega, show t.e + -0 = t.e by omega, show (if 0 ≤ t.p then t.p + -(([] : List Nod).length : Int) else t.p) = t.p by split <;> simp]
  have e5 : (seg c 0 c.toks.length).heads = c.heads := by
    show (cutL 0 (c.toks.length : Int) c.heads).map _ = _
    rw [← h.h.hl, cutL_all]
    conv => rhs; rw [← List.map_id c.heads]
    apply List.map_congr_left
    intro z _
    show (if 0 ≤ z then z + -0 else z) = z
    split <;> omega
  have e6 : (seg c 0 c.toks.length).rels = c.rels := by
    show cutL 0 (c.toks.length : Int) c.rels = _
    rw [← h.h.rl, cutL_all]
  have e1 : (seg c 0 c.toks.length).toks = c.toks := cutL_all
  have : seg c 0 c.toks.length = C.mk (seg c 0 c.toks.length).attrs (seg c 0 c.toks.length).toks (seg c 0 c.toks.length).texts (seg c 0 c.toks.length).regs (seg c 0 c.toks.length).nods (seg c 0 c.toks.length).heads (seg c 0 c.toks.length).rels := rfl
  rw [this, e1, e2, e3, e4, e5, e6]; rfl
end
theorem chain_le {n u : Int} : ∀ {l : List Txt} {s : Int}, Chain s l n → s ≤ u → (∀ t ∈ l, t.e ≤ u) → n ≤ u
  | [], s, h, hs, _ => by cases h; exact hs
  | t :: l, s, h, hs, ht => chain_le h.2.2 (ht t List.mem_cons_self) fun t' h' => ht t' (List.mem_cons_of_mem _ h')
theorem chain_ge {n u s : Int} {l : List Txt} (h : Chain s l n) (hn : u ≤ n) (ht : ∀ t ∈ l, u ≤ t.b) : u ≤ s := by
  cases l with
  | nil => cases h; exact hn
  | cons t l => have := ht t List.mem_cons_self; have := h.1; omega
section
variable {c : C} (h : Core c)
include h
theorem seg_chain {u v : Int} (hu : Edge c u) (hv : Edge c v) (h0 : 0 ≤ u) (huv : u ≤ v) (hx : v ≤ c.toks.length) : Chain 0 (seg c u v).texts (v - u) := by
  have hb := (chain_bd h.x.row).2
  have e1 := h.xsplit hu h0 (show u ≤ c.toks.length by omega)
  have e2 := h.xsplit hv huv hx
  have e3 : c.texts.filter (inR 0 c.toks.length) = c.texts := List.filter_eq_self.2 (fun t ht => by have := hb t ht; rw [inR_iff]; omega)
  rw [e3] at e1
  have hc := h.x.row
  rw [e1, e2] at hc
  obtain ⟨u', c1, c2⟩ := chain_app.1 hc
  obtain ⟨v', c3, c4⟩ := chain_app.1 c2
  have i1 : u' ≤ u := chain_le c1 h0 fun t ht => (inR_iff.1 (List.mem_filter.1 ht).2).2
  have i4 : v ≤ v' := chain_ge c4 hx fun t ht => (inR_iff.1 (List.mem_filter.1 ht).2).1
  have i2 : u ≤ u' := chain_ge c3 (by omega) fun t ht => (inR_iff.1 (List.mem_filter.1 ht).2).1
  have i3 : v' ≤ v := chain_le c3 (by omega) fun t ht => (inR_iff.1 (List.mem_filter.1 ht).2).2
  obtain rfl : u' = u := by omega
  obtain rfl : v' = v := by omega
  have := (chain_mv (k := -u') (n := v') (l := c.texts.filter (inR u' v')) (u := u')).2 c3
  rw [show u' + -u' = 0 by omega] at this
  exact this
theorem seg_cut {u v x : Int} (hu : Edge c u) (hv : Edge c v) (hx' : Edge c x) (h0 : 0 ≤ u) (huv : u ≤ v) (hvx : v ≤ x) (hx : x ≤ c.toks.length) (hc : Core (seg c u x)) : Core (seg c u v) ∧ Core (seg c v x) := by
  have l1 : ((seg c u v).toks.length : Int) = v - u := cutL_len h0 huv (by omega)
  have hl := h.h.hl
  have hr := h.h.rl
  have lc : ∀ {u v : Int}, 0 ≤ u → u ≤ v → v ≤ c.toks.length → (seg c u v).heads.length = (seg c u v).toks.length ∧ (seg c u v).rels.length = (seg c u v).toks.length := by
    intro u v a b d
    have i1 : ((seg c u v).toks.length : Int) = v - u := cutL_len a b d
    have i2 : ((cutL u v c.heads).length : Int) = v - u := cutL_len a b (by omega)
    have i3 : ((seg c u v).rels.length : Int) = v - u := cutL_len a b (by omega)
    have i4 : (seg c u v).heads.length = (cutL u v c.heads).length := List.length_map _
    omega
  refine core_cut (by rw [seg_app h hu hv h0 huv hvx hx]; exact hc) rfl ?_ ?_ ?_ ?_ ?_ (lc h0 huv (by omega)).1 (lc (by omega) hvx hx).1 (lc h0 huv (by omega)).2 (lc (by omega) hvx hx).2
  · rw [l1]; exact seg_chain h hu hv h0 huv (by omega)
  · intro y hy
    obtain ⟨t, ht, rfl⟩ := List.mem_map.1 hy
    have := inR_iff.1 (List.mem_filter.1 ht).2
    show t.e + -u ≤ _
    omega
  · intro y hy
    obtain ⟨t, ht, rfl⟩ := List.mem_map.1 hy
    have := inR_iff.1 (List.mem_filter.1 ht).2
    show 0 ≤ t.b + -v
    omega
  · intro y hy
    obtain ⟨t, ht, rfl⟩ := List.mem_map.1 hy
    have := inN_iff.1 (List.mem_filter.1 ht).2
    show t.e + -u ≤ _
    omega
  · intro y hy
    obtain ⟨t, ht, rfl⟩ := List.mem_map.1 hy
    have := inN_iff.1 (List.mem_filter.1 ht).2
    show 0 ≤ t.b + -v
    omega
theorem edge_zero : Edge c 0 := fun t ht => by have := (chain_bd h.x.row).2 t ht; omega
theorem edge_end : Edge c c.toks.length := fun t ht => by have := (chain_bd h.x.row).2 t ht; omega
theorem core_seg {u v : Int} (hu : Edge c u) (hv : Edge c v) (h0 : 0 ≤ u) (huv : u ≤ v) (hx : v ≤ c.toks.length) : Core (seg c u v) := by
  have h1 := (seg_cut h (edge_zero h) hv (edge_end h) (by omega) (show 0 ≤ v by omega) hx (by omega) (by rw [seg_all h]; exact h)).1
  exact (seg_cut h (edge_zero h) hu hv (by omega) h0 huv hx h1).2
theorem edge_text {i : Nat} (hi : i < c.texts.length) : Edge c c.texts[i].b ∧ Edge c c.texts[i].e := by
  have v := vd_of_core h
  unfold pack at v
  split at v
  · exact Vd.edge v hi
  · exact Vd.edge v hi
end
/-- A cut of two corpora one behind the other. -/
theorem seg_left {X Y : C} (hx : Core X) (hy : Core Y) {u v : Int} (h0 : 0 ≤ u) (huv : u ≤ v) (hv : v ≤ X.toks.length) : seg (app X Y) u v = seg X u v := by
  have cl : ∀ {α : Type} {l m : List α}, l.length = X.toks.length → cutL u v (l ++ m) = cutL u v l := by
    intro α l m hl
    unfold cutL
    rw [List.drop_append_of_le_length (by omega), List.take_append_of_le_length (by rw [List.length_drop]; omega)]
  have bx := (chain_bd hx.x.row).2
  have by_ := (chain_bd hy.x.row).2
  by_cases huv' : u = v
  · subst huv'
    have z1 : ∀ (l : List Reg), (∀ x ∈ l, x.b < x.e) → l.filter (inR u u) = [] := fun l hl => by
      rw [List.filter_eq_nil_iff]; intro x hx; have := hl x hx; rw [inR_iff]; omega
    have z2 : ∀ (l : List Nod), (∀ x ∈ l, x.b < x.e) → l.filter (inN u u) = [] := fun l hl => by
      rw [List.filter_eq_nil_iff]; intro x hx; have := hl x hx; rw [inN_iff]; omega
    have z3 : ∀ {α : Type} (l : List α), cutL u u l = [] := fun l => by unfold cutL; simp
    unfold seg
    rw [z3, z3, z3, z3, z3, z3, z1 _ (fun t ht => (bx t ht).2.1), z1 _ (fun t ht => (hx.rgb t ht).2.1), z2 _ (fun t ht => (hx.ndb t ht).2.1),
      z1 (app X Y).texts (fun t ht => (List.mem_append.1 ht).elim (fun e => (bx t e).2.1) fun e => by obtain ⟨t', q, rfl⟩ := List.mem_map.1 e; have := by_ t' q; show t'.b + _ < t'.e + _; omega),
      z1 (app X Y).regs (fun t ht => (List.mem_append.1 ht).elim (fun e => (hx.rgb t e).2.1) fun e => by obtain ⟨t', q, rfl⟩ := List.mem_map.1 e; have := hy.rgb t' q; show t'.b + _ < t'.e + _; omega),
      z2 (app X Y).nods (fun t ht => (List.mem_append.1 ht).elim (fun e => (hx.ndb t e).2.1) fun e => by obtain ⟨t', q, rfl⟩ := List.mem_map.1 e; have := hy.ndb t' q; show t'.b + _ < t'.e + _; omega)]
    rfl
  have f1 : (app X Y).texts.filter (inR u v) = X.texts.filter (inR u v) := by
    show (X.texts ++ Y.texts.map (mvT (X.toks.length : Int))).filter (inR u v) = _
    rw [List.filter_append, (List.filter_eq_nil_iff (l := Y.texts.map (mvT (X.toks.length : Int))) (p := (inR u v))).2, List.append_nil]
    intro t ht
    obtain ⟨t', q, rfl⟩ := List.mem_map.1 ht
    have := by_ t' q
    rw [inR_iff]
    show ¬ (u ≤ t'.b + (X.toks.length : Int) ∧ t'.e + (X.toks.length : Int) ≤ v)
    omega
  have f2 : (app X Y).regs.filter (inR u v) = X.regs.filter (inR u v) := by
    show (X.regs ++ Y.regs.map (mvR (X.toks.length : Int))).filter (inR u v) = _
    rw [List.filter_append, (List.filter_eq_nil_iff (l := Y.regs.map (mvR (X.toks.length : Int))) (p := (inR u v))).2, List.append_nil]
    intro t ht
    obtain ⟨t', q, rfl⟩ := List.mem_map.1 ht
    have := hy.rgb t' q
    rw [inR_iff]
    show ¬ (u ≤ t'.b + (X.toks.length : Int) ∧ t'.e + (X.toks.length : Int) ≤ v)
    omega
  have f3 : (app X Y).nods.filter (inN u v) = X.nods.filter (inN u v) := by
    show (X.nods ++ Y.nods.map (mvN (X.toks.length : Int) (X.nods.length : Int))).filter (inN u v) = _
    rw [List.filter_append, (List.filter_eq_nil_iff (l := Y.nods.map (mvN (X.toks.length : Int) (X.nods.length : Int))) (p := (inN u v))).2, List.append_nil]
    intro t ht
    obtain ⟨t', q, rfl⟩ := List.mem_map.1 ht
    have := hy.ndb t' q
    rw [inN_iff]
    show ¬ (u ≤ t'.b + (X.toks.length : Int) ∧ t'.e + (X.toks.length : Int) ≤ v)
    omega
  have f4 : ((app X Y).nods.filter fun x => decide (x.b < u)) = X.nods.filter fun x => decide (x.b < u) := by
    show (X.nods ++ Y.nods.map (mvN (X.toks.length : Int) (X.nods.length : Int))).filter (fun x => decide (x.b < u)) = _
    rw [List.filter_append, (List.filter_eq_nil_iff (l := Y.nods.map (mvN (X.toks.length : Int) (X.nods.length : Int))) (p := (fun x => decide (x.b < u)))).2, List.append_nil]
    intro t ht
    obtain ⟨t', q, rfl⟩ := List.mem_map.1 ht
    have := hy.ndb t' q
    rw [decide_eq_true_eq]
    show ¬ (t'.b + (X.toks.length : Int) < u)
    omega
  have f5 : cutL u v (app X Y).toks = cutL u v X.toks := cl rfl
  have f6 : cutL u v (app X Y).heads = cutL u v X.heads := cl hx.h.hl
  have f7 : cutL u v (app X Y).rels = cutL u v X.rels := cl hx.h.rl
  unfold seg
  rw [f1, f2, f3, f4, f5, f6, f7]; rfl
theorem seg_right {X Y : C} (hx : Core X) (hy : Core Y) (ha : X.attrs = Y.attrs) {u v : Int} (h0 : 0 ≤ u) (huv : u ≤ v) : seg (app X Y) (u + X.toks.length) (v + X.toks.length) = seg Y u v := by
  have cl : ∀ {α : Type} {l m : List α}, l.length = X.toks.length → cutL (u + X.toks.length) (v + X.toks.length) (l ++ m) = cutL u v m := by
    intro α l m hl
    unfold cutL
    rw [show (u + (X.toks.length : Int)).toNat = l.length + u.toNat by omega, List.drop_length_add_append, show (v + (X.toks.length : Int) - (u + (X.toks.length : Int))).toNat = (v - u).toNat by omega]
  have bx := (chain_bd hx.x.row).2
  have f1 : (app X Y).texts.filter (inR (u + X.toks.length) (v + X.toks.length)) = (Y.texts.filter (inR u v)).map (mvT X.toks.length) := by
    show (X.texts ++ _).filter _ = _
    rw [List.filter_append, List.filter_eq_nil_iff.2, List.nil_append, List.filter_map]
    · congr 1
      apply List.filter_congr
      intro t _
      rw [Bool.eq_iff_iff, inR_iff]
      show inR _ _ (mvT _ t) = true ↔ _
      rw [inR_iff]
      show (u + (X.toks.length : Int) ≤ t.b + (X.toks.length : Int) ∧ t.e + (X.toks.length : Int) ≤ v + (X.toks.length : Int)) ↔ _
      omega
    · intro t ht
      have := bx t ht
      rw [inR_iff]; omega
  have f2 : (app X Y).regs.filter (inR (u + X.toks.length) (v + X.toks.length)) = (Y.regs.filter (inR u v)).map (mvR X.toks.length) := by
    show (X.regs ++ _).filter _ = _
    rw [List.filter_append, List.filter_eq_nil_iff.2, List.nil_append, List.filter_map]
    · congr 1
      apply List.filter_congr
      intro t _
      rw [Bool.eq_iff_iff, inR_iff]
      show inR _ _ (mvR _ t) = true ↔ _
      rw [inR_iff]
      show (u + (X.toks.length : Int) ≤ t.b + (X.toks.length : Int) ∧ t.e + (X.toks.length : Int) ≤ v + (X.toks.length : Int)) ↔ _
      omega
    · intro t ht
      have := hx.rgb t ht
      rw [inR_iff]; omega
  have f3 : (app X Y).nods.filter (inN (u + X.toks.length) (v + X.toks.length)) = (Y.nods.filter (inN u v)).map (mvN X.toks.length X.nods.length) := by
    show (X.nods ++ _).filter _ = _
    rw [List.filter_append, List.filter_eq_nil_iff.2, List.nil_append, List.filter_map]
    · congr 1
      apply List.filter_congr
      intro t _
      rw [Bool.eq_iff_iff, inN_iff]
      show inN _ _ (mvN _ _ t) = true ↔ _
      rw [inN_iff]
      show (u + (X.toks.length : Int) ≤ t.b + (X.toks.length : Int) ∧ t.e + (X.toks.length : Int) ≤ v + (X.toks.length : Int)) ↔ _
      omega
    · intro t ht
      have := hx.ndb t ht
      rw [inN_iff]; omega
  have f4 : ((app X Y).nods.filter fun x => decide (x.b < u + X.toks.length)).length = X.nods.length + (Y.nods.filter fun x => decide (x.b < u)).length := by
    show ((X.nods ++ _).filter _).length = _
    rw [List.filter_append, List.length_append, List.filter_eq_self.2, List.filter_map, List.length_map]
    · congr 2
      apply List.filter_congr
      intro t _
      rw [Bool.eq_iff_iff, decide_eq_true_eq]
      show decide (t.b + (X.toks.length : Int) < u + (X.toks.length : Int)) = true ↔ _
      rw [decide_eq_true_eq]; omega
    · intro t ht
      have := hx.ndb t ht
      rw [decide_eq_true_eq]; omega
  have f5 : cutL (u + X.toks.length) (v + X.toks.length) (app X Y).toks = cutL u v Y.toks := cl rfl
  have f6 : cutL (u + X.toks.length) (v + X.toks.length) (app X Y).heads = (cutL u v Y.heads).map (mvH X.toks.length) := by
    show cutL _ _ (X.heads ++ _) = _
    rw [cl hx.h.hl]
    unfold cutL
    rw [List.map_take, List.map_drop]
  have f7 : cutL (u + X.toks.length) (v + X.toks.length) (app X Y).rels = cutL u v Y.rels := cl hx.h.rl
  unfold seg
  rw [f1, f2, f3, f4, f5, f6, f7, List.map_map, List.map_map, List.map_map, List.map_map]
  have g1 : (mvT (-(u + (X.toks.length : Int))) ∘ mvT (X.toks.length : Int)) = mvT (-u) := by
    funext t; simp only [Function.comp, mvT]; congr 1 <;> omega
  have g2 : (mvR (-(u + (X.toks.length : Int))) ∘ mvR (X.toks.length : Int)) = mvR (-u) := by
    funext t; simp only [Function.comp, mvR]; congr 1 <;> omega
  have g3 : (mvN (-(u + (X.toks.length : Int))) (-((X.nods.length + (Y.nods.filter fun x => decide (x.b < u)).length : Nat) : Int)) ∘ mvN (X.toks.length : Int) (X.nods.length : Int)) = mvN (-u) (-((Y.nods.filter fun x => decide (x.b < u)).length : Int)) := by
    funext t
    show mvN _ _ (mvN _ _ t) = _
    rw [mvN_comp (fun h => by omega)]
    congr 1 <;> omega
  have g4 : ∀ z ∈ cutL u v Y.heads, (mvH (-(u + (X.toks.length : Int))) ∘ mvH (X.toks.length : Int)) z = mvH (-u) z := by
    intro z _
    show mvH _ (mvH _ z) = _
    rw [mvH_comp (fun h => by omega)]
    congr 1; omega
  rw [g1, g2, g3, List.map_congr_left g4]
  show C.mk X.attrs _ _ _ _ _ _ = _
  rw [ha]
/-- A document is a cut, packed. -/
theorem filter_one {ts : List Txt} (hb : ∀ t ∈ ts, t.b < t.e) (hp : ts.Pairwise (fun a b => a.e ≤ b.b)) : ∀ {i : Nat} (hi : i < ts.length), ts.filter (inR ts[i].b ts[i].e) = [ts[i]] := by
  induction ts with
  | nil => intro i hi; cases hi
  | cons t l ih =>
    intro i hi
    obtain ⟨p1, p2⟩ := List.pairwise_cons.1 hp
    cases i with
    | zero =>
      show (t :: l).filter (inR t.b t.e) = [t]
      rw [List.filter_cons_of_pos (by rw [inR_iff]; omega), List.filter_eq_nil_iff.2]
      intro y hy
      have := p1 y hy
      have := hb y (List.mem_cons_of_mem _ hy)
      rw [inR_iff]; omega
    | succ i =>
      have hi : i < l.length := by simpa using hi
      show (t :: l).filter (inR l[i].b l[i].e) = [l[i]]
      have h1 := p1 _ (List.getElem_mem hi)
      have h2 := hb t List.mem_cons_self
      rw [List.filter_cons_of_neg (by rw [inR_iff]; omega)]
      exact ih (fun y hy => hb y (List.mem_cons_of_mem _ hy)) p2 hi
theorem doc_eq {c : C} (v : Vd c) {i : Nat} (hi : i < c.texts.length) : doc c c.texts[i] = pack (seg (full c) c.texts[i].b c.texts[i].e) := by
  have h := core_of_vd v
  have hb := (chain_bd h.x.row).2
  have hx : (full c).texts.filter (inR c.texts[i].b c.texts[i].e) = [c.texts[i]] := filter_one (fun t ht => (hb t ht).2.1) (chain_pw h.x.row) hi
  have ht := v.tx _ (List.getElem_mem hi)
  have hed := edge_text h (i := i) hi
  have hbare : bare (seg (full c) c.texts[i].b c.texts[i].e).heads (seg (full c) c.texts[i].b c.texts[i].e).rels = bare (cutL c.texts[i].b c.texts[i].e c.heads) (cutL c.texts[i].b c.texts[i].e c.rels) := by
    have hl := v.hdl
    by_cases h0 : 0 < c.heads.length
    · show bare ((cutL _ _ (allH c)).map _) (cutL _ _ (allL c)) = _
      have e1 : allH c = c.heads := by unfold allH; rw [if_pos h0]
      have e2 : allL c = c.rels := by unfold allL; rw [if_pos h0]
      rw [e1, e2, Bool.eq_iff_iff, bare_iff, bare_iff]
      have key : ∀ z ∈ cutL c.texts[i].b c.texts[i].e c.heads, (mvH (-c.texts[i].b) z = -1 ↔ z = -1) := by
        intro z hz
        have hp : 0 ≤ z → c.texts[i].b ≤ z := h.hpos hed.1 ht.1 (x := c.texts[i].e) (z := z) (by show z ∈ cutL _ _ (allH c); rw [e1]; exact hz)
        unfold mvH
        by_cases h1 : 0 ≤ z
        · rw [if_pos h1]; have := hp h1; omega
        · rw [if_neg h1]
      constructor
      · rintro ⟨a, b⟩
        exact ⟨fun z hz => (key z hz).1 (a _ (List.mem_map.2 ⟨z, hz, rfl⟩)), b⟩
      · rintro ⟨a, b⟩
        refine ⟨fun z' hz' => ?_, b⟩
        obtain ⟨z, hz, rfl⟩ := List.mem_map.1 hz'
        exact (key z hz).2 (a z hz)
    · have a : c.heads = [] := List.eq_nil_of_length_eq_zero (by omega)
      have b : c.rels = [] := List.eq_nil_of_length_eq_zero (by omega)
      have e1 : allH c = List.replicate c.toks.length (-1) := by unfold allH; rw [if_neg h0]
      have e2 : allL c = List.replicate c.toks.length [] := by unfold allL; rw [if_neg h0]
      show bare ((cutL _ _ (allH c)).map _) (cutL _ _ (allL c)) = _
      rw [a, b, e1, e2]
      have z3 : ∀ {α : Type}, cutL c.texts[i].b c.texts[i].e ([] : List α) = [] := fun {α} => by unfold cutL; simp
      rw [z3, z3]
      have : bare ([] : List Int) ([] : List Bs) = true := rfl
      rw [this, bare_iff]
      constructor
      · intro x hx
        obtain ⟨z, hz, rfl⟩ := List.mem_map.1 hx
        obtain ⟨k, hk, _, _, rfl⟩ := mem_cutL ht.1 hz
        rw [List.getElem_replicate]; rfl
      · intro x hx
        obtain ⟨k, hk, _, _, rfl⟩ := mem_cutL ht.1 hx
        rw [List.getElem_replicate]
  unfold pack
  rw [hbare]
  unfold doc
  cases hbb : bare (cutL c.texts[i].b c.texts[i].e c.heads) (cutL c.texts[i].b c.texts[i].e c.rels) with
  | true =>
    rw [if_pos rfl, if_pos rfl, if_pos rfl]
    show C.mk c.attrs _ [mvT (-c.texts[i].b) c.texts[i]] _ _ _ _ = C.mk c.attrs _ (((full c).texts.filter _).map _) _ _ _ _
    rw [hx]; rfl
  | false =>
    rw [if_neg (by simp), if_neg (by simp), if_neg (by simp)]
    have h0 : 0 < c.heads.length := by
      refine Classical.byContradiction fun hc => ?_
      have hl := v.hdl
      have a : c.heads = [] := List.eq_nil_of_length_eq_zero (by omega)
      have b : c.rels = [] := List.eq_nil_of_length_eq_zero (by omega)
      rw [a, b] at hbb
      have z3 : ∀ {α : Type}, cutL c.texts[i].b c.texts[i].e ([] : List α) = [] := fun {α} => by unfold cutL; simp
      rw [z3, z3] at hbb; cases hbb
    have e1 : allH c = c.heads := by unfold allH; rw [if_pos h0]
    have e2 : allL c = c.rels := by unfold allL; rw [if_pos h0]
    show C.mk c.attrs _ [mvT (-c.texts[i].b) c.texts[i]] _ _ _ _ = C.mk c.attrs _ (((full c).texts.filter _).map _) _ _ ((cutL _ _ (allH c)).map _) (cutL _ _ (allL c))
    rw [hx, e1, e2]; rfl

/-! What the laws say. -/
theorem ext_ok {c : C} (v : Vd c) {i : Nat} (hi : i < c.texts.length) : Cor.ext c (i : Nat) = (doc c c.texts[i], 0) := by
  unfold Cor.ext
  rw [if_neg (by rw [vd_iff.2 v]; simp), if_neg (by omega), Int.toNat_natCast, List.getElem?_eq_getElem hi]
theorem Cat.texts {a b c : C} (h : Cat a b c) : c.texts = a.texts ++ b.texts.map (mvT a.toks.length) := by rw [h.eq]; rfl
theorem Cat.ext_left {a b c : C} (h : Cat a b c) {i : Nat} (hi : i < a.texts.length) : Cor.ext c (i : Nat) = Cor.ext a (i : Nat) := by
  have hl : i < c.texts.length := by rw [h.texts, List.length_append]; omega
  have e : c.texts[i] = a.texts[i] := by
    have : c.texts[i]? = a.texts[i]? := by rw [h.texts, List.getElem?_append_left hi]
    rw [List.getElem?_eq_getElem hl, List.getElem?_eq_getElem hi] at this
    exact Option.some.inj this
  have ht := h.va.tx _ (List.getElem_mem hi)
  rw [ext_ok h.vd hl, ext_ok h.va hi, doc_eq h.vd hl, doc_eq h.va hi, h.full, e, seg_left (core_of_vd h.va) (core_of_vd h.vb) ht.1 (by omega) ht.2.2.1]
theorem Cat.ext_right {a b c : C} (h : Cat a b c) {j : Nat} (hj : j < b.texts.length) : Cor.ext c ((a.texts.length + j : Nat) : Int) = Cor.ext b (j : Nat) := by
  have hl : a.texts.length + j < c.texts.length := by rw [h.texts, List.length_append, List.length_map]; omega
  have e : c.texts[a.texts.length + j] = mvT a.toks.length b.texts[j] := by
    have : c.texts[a.texts.length + j]? = some (mvT a.toks.length b.texts[j]) := by
      rw [h.texts, List.getElem?_append_right (by omega), show a.texts.length + j - a.texts.length = j by omega, List.getElem?_map, List.getElem?_eq_getElem hj]; rfl
    rw [List.getElem?_eq_getElem hl] at this
    exact Option.some.inj this
  have ht := h.vb.tx _ (List.getElem_mem hj)
  rw [ext_ok h.vd hl, ext_ok h.vb hj, doc_eq h.vd hl, doc_eq h.vb hj, h.full, e]
  show (pack (seg _ (b.texts[j].b + (a.toks.length : Int)) (b.texts[j].e + (a.toks.length : Int))), 0) = _
  have := seg_right (core_of_vd h.va) (core_of_vd h.vb) h.at_ ht.1 (show b.texts[j].b ≤ b.texts[j].e by omega)
  have e2 : seg (app (_root_.Go.Proofs.Ytaihgoohmcipkaa.full a) (_root_.Go.Proofs.Ytaihgoohmcipkaa.full b)) (b.texts[j].b + (a.toks.length : Int)) (b.texts[j].e + (a.toks.length : Int)) = seg (_root_.Go.Proofs.Ytaihgoohmcipkaa.full b) b.texts[j].b b.texts[j].e := this
  rw [e2]
theorem cat_core {X Y : C} (hx : Core X) (hy : Core Y) (ha : X.attrs = Y.attrs) (h : Core (app X Y)) : Cat (pack X) (pack Y) (pack (app X Y)) := by
  have f1 := full_pack hx.h.hl hx.h.rl
  have f2 := full_pack hy.h.hl hy.h.rl
  have p : ∀ Z : C, (pack Z).attrs = Z.attrs ∧ (pack Z).texts = Z.texts ∧ (pack Z).toks = Z.toks ∧ (pack Z).regs = Z.regs ∧ (pack Z).nods = Z.nods := fun Z => by unfold pack; split <;> exact ⟨rfl, rfl, rfl, rfl, rfl⟩
  obtain ⟨a1, a2, a3, a4, a5⟩ := p X
  obtain ⟨b1, b2, b3, b4, b5⟩ := p Y
  have ht := (tkC_iff.1 h.t).1
  have hr := h.r.len
  have hn := h.n.len
  have hxx := h.x
  have lt : (app X Y).toks.length = X.toks.length + Y.toks.length := List.length_append
  rw [lt] at hxx
  have hl := hxx.len
  have ht : (X.toks ++ Y.toks).length ≤ 4096 := ht
  have hr : (X.regs ++ Y.regs.map (mvR X.toks.length)).length ≤ 1024 := hr
  have hn : (X.nods ++ Y.nods.map (mvN X.toks.length X.nods.length)).length ≤ 2048 := hn
  have hl : (X.texts ++ Y.texts.map (mvT X.toks.length)).length ≤ 64 := hl
  rw [List.length_append] at ht
  rw [List.length_append, List.length_map] at hr hn hl
  have vx := vd_of_core hx
  have vy := vd_of_core hy
  refine ⟨vx, vy, by rw [a1, b1]; exact ha, ?_, by rw [a3, b3]; exact ht, by rw [a2, b2]; exact hl, by rw [a4, b4]; exact hr, by rw [a5, b5]; exact hn, ?_⟩
  · rw [a2, b2]; exact (txC_cut hxx hx.x.row).2.2
  · rw [join_eq vx vy, f1, f2]
/-- The documents before text i, concatenated. -/
def upto (c : C) (i : Nat) : C := pack (seg (full c) 0 (pe 0 c.texts i))
theorem upto_ok {c : C} (v : Vd c) {i : Nat} (hi : i < c.texts.length) : Cor.cat (upto c i) (doc c c.texts[i]) = (upto c (i + 1), 0) := by
  have h := core_of_vd v
  have hi2 := (chain_idx.1 h.x.row).1 i hi
  have e1 : pe 0 c.texts i = c.texts[i].b := hi2.1.symm
  have e2 : pe 0 c.texts (i + 1) = c.texts[i].e := pe_succ hi
  have ht := v.tx _ (List.getElem_mem hi)
  have hed := edge_text h (i := i) hi
  have hed1 : Edge (full c) c.texts[i].b := hed.1
  have hed2 : Edge (full c) c.texts[i].e := hed.2
  have hlen : ((full c).toks.length : Int) = c.toks.length := rfl
  rw [cat_ok, doc_eq v hi]
  unfold upto
  have e3 := seg_app h (edge_zero h) hed1 (by omega) ht.1 (show c.texts[i].b ≤ c.texts[i].e by omega) (by omega)
  rw [e1, e2, ← e3]
  refine cat_core (core_seg h (edge_zero h) hed1 (by omega) ht.1 (by omega)) (core_seg h hed1 hed2 ht.1 (by omega) (by omega)) rfl ?_
  rw [seg_app h (edge_zero h) hed1 (by omega) ht.1 (by omega) (by omega)]
  exact core_seg h (edge_zero h) hed2 (by omega) (by omega) (by omega)
theorem doc_one {c : C} {t : Txt} : (doc c t).texts.length = 1 := rfl
theorem upto_all {c : C} (v : Vd c) : upto c c.texts.length = c := by
  have h := core_of_vd v
  have hi2 := (chain_idx.1 h.x.row).2
  unfold upto
  have : pe 0 c.texts c.texts.length = ((full c).toks.length : Int) := hi2
  rw [this, seg_all h, pack_full v]
/-- The corpus of attributes alone. -/
def none_ (a : List (Bs × Bool)) : C := ⟨a, [], [], [], [], [], []⟩
theorem upto_zero {c : C} (v : Vd c) : upto c 0 = none_ c.attrs := by
  have h := core_of_vd v
  have hb := (chain_bd h.x.row).2
  have z3 : ∀ {α : Type} (l : List α), cutL 0 0 l = [] := fun l => by unfold cutL; simp
  have f1 : (full c).texts.filter (inR 0 0) = [] := by
    rw [List.filter_eq_nil_iff]; intro t ht; have := hb t ht; rw [inR_iff]; omega
  have f2 : (full c).regs.filter (inR 0 0) = [] := by
    rw [List.filter_eq_nil_iff]; intro t ht; have := h.rgb t ht; rw [inR_iff]; omega
  have f3 : (full c).nods.filter (inN 0 0) = [] := by
    rw [List.filter_eq_nil_iff]; intro t ht; have := h.ndb t ht; rw [inN_iff]; omega
  have : seg (full c) 0 (pe 0 c.texts 0) = none_ c.attrs := by
    rw [pe_zero]
    unfold seg
    rw [f1, f2, f3, z3, z3, z3]; rfl
  unfold upto
  rw [this]; rfl
theorem none_core {c : C} (v : Vd c) : Core (none_ c.attrs) := by
  refine ⟨v.a, rfl, ⟨by show 0 ≤ 64; omega, rfl, fun t ht => (by cases ht), List.Pairwise.nil⟩, ⟨by show 0 ≤ 1024; omega, fun x hx => (by cases hx), List.Pairwise.nil, fun k hk => (by cases hk)⟩, ⟨by show 0 ≤ 2048; omega, fun x hx => (by cases hx), fun k hk => (by cases hk), fun k hk => (by cases hk), fun k hk => (by cases hk), fun k hk => (by cases hk)⟩, ⟨rfl, rfl, fun k hk => (by cases hk), fun s hs => (by cases hs), fun k hk => (by cases hk)⟩⟩
theorem none_left {c : C} (v : Vd c) : Cor.cat (none_ c.attrs) c = (c, 0) := by
  have h := core_of_vd v
  have e : app (none_ c.attrs) (full c) = full c := by
    unfold app
    have t : (full c).texts.map (mvT ((none_ c.attrs).toks.length : Int)) = (full c).texts := by
      conv => rhs; rw [← List.map_id (full c).texts]
      apply List.map_congr_left; intro t _
      show Txt.mk t.nm (t.b + 0) (t.e + 0) t.ks = t
      rw [Int.add_zero, Int.add_zero]
    have r : (full c).regs.map (mvR ((none_ c.attrs).toks.length : Int)) = (full c).regs := by
      conv => rhs; rw [← List.map_id (full c).regs]
      apply List.map_congr_left; intro t _
      show Txt.mk t.nm (t.b + 0) (t.e + 0) t.ks = t
      rw [Int.add_zero, Int.add_zero]
    have n : (full c).nods.map (mvN ((none_ c.attrs).toks.length : Int) ((none_ c.attrs).nods.length : Int)) = (full c).nods := by
      conv => rhs; rw [← List.map_id (full c).nods]
      apply List.map_congr_left; intro t _
      show Nod.mk t.lb (t.b + 0) (t.e + 0) (if 0 ≤ t.p then t.p + 0 else t.p) = t
      rw [Int.add_zero, Int.add_zero, Int.add_zero, show (if 0 ≤ t.p then t.p else t.p) = t.p by split <;> rfl]
    have hh : (full c).heads.map (mvH ((none_ c.attrs).toks.length : Int)) = (full c).heads := by
      conv => rhs; rw [← List.map_id (full c).heads]
      apply List.map_congr_left; intro z _
      show (if 0 ≤ z then z + 0 else z) = z
      split <;> omega
    rw [t, r, n, hh]; rfl
  rw [cat_ok]
  have := cat_core (none_core v) h rfl (by rw [e]; exact h)
  rw [e, pack_full v] at this
  exact this
theorem none_right {c : C} (v : Vd c) : Cor.cat c (none_ c.attrs) = (c, 0) := by
  have h := core_of_vd v
  have e : app (full c) (none_ c.attrs) = full c := by
    unfold app
    show C.mk c.attrs (c.toks ++ []) (c.texts ++ []) (c.regs ++ []) (c.nods ++ []) (allH c ++ []) (allL c ++ []) = full c
    rw [List.append_nil, List.append_nil, List.append_nil, List.append_nil, List.append_nil, List.append_nil]; rfl
  rw [cat_ok]
  have := cat_core h (none_core v) rfl (by rw [e]; exact h)
  rw [e, pack_full v] at this
  exact this
theorem app_assoc (A B D : C) : app (app A B) D = app A (app B D) := by
  unfold app
  simp only [List.length_append, List.length_map, List.append_assoc, List.map_append, List.map_map]
  have g1 : (mvT (A.toks.length : Int) ∘ mvT (B.toks.length : Int)) = mvT ((A.toks.length + B.toks.length : Nat) : Int) := by
    funext t; simp only [Function.comp, mvT]; congr 1 <;> omega
  have g2 : (mvR (A.toks.length : Int) ∘ mvR (B.toks.length : Int)) = mvR ((A.toks.length + B.toks.length : Nat) : Int) := by
    funext t; simp only [Function.comp, mvR]; congr 1 <;> omega
  have g3 : (mvN (A.toks.length : Int) (A.nods.length : Int) ∘ mvN (B.toks.length : Int) (B.nods.length : Int)) = mvN ((A.toks.length + B.toks.length : Nat) : Int) ((A.nods.length + B.nods.length : Nat) : Int) := by
    funext t
    show mvN _ _ (mvN _ _ t) = _
    rw [mvN_comp (fun h => by omega)]
    congr 1 <;> omega
  have g4 : (mvH (A.toks.length : Int) ∘ mvH (B.toks.length : Int)) = mvH ((A.toks.length + B.toks.length : Nat) : Int) := by
    funext z
    show mvH _ (mvH _ z) = _
    rw [mvH_comp (fun h => by omega)]
    congr 1; omega
  rw [g1, g2, g3, g4]
/-- Three corpora are concatenated alike from either end. -/
theorem cat_assoc {a b c x y : C} (h1 : Cat a b x) (h2 : Cat b c y) : Cor.cat x c = Cor.cat a y := by
  have ex := h1.eq
  have ey := h2.eq
  have tx : x.toks = a.toks ++ b.toks := by rw [ex]; rfl
  have ty : y.toks = b.toks ++ c.toks := by rw [ey]; rfl
  have rx : x.regs = a.regs ++ b.regs.map (mvR a.toks.length) := by rw [ex]; rfl
  have ry : y.regs = b.regs ++ c.regs.map (mvR b.toks.length) := by rw [ey]; rfl
  have nx : x.nods = a.nods ++ b.nods.map (mvN a.toks.length a.nods.length) := by rw [ex]; rfl
  have ny : y.nods = b.nods ++ c.nods.map (mvN b.toks.length b.nods.length) := by rw [ey]; rfl
  have ax : x.attrs = a.attrs := by rw [ex]; rfl
  have ay : y.attrs = b.attrs := by rw [ey]; rfl
  have lx := congrArg List.length h1.texts
  have ly := congrArg List.length h2.texts
  have l1 := congrArg List.length tx
  have l2 := congrArg List.length ty
  have l3 := congrArg List.length rx
  have l4 := congrArg List.length ry
  have l5 := congrArg List.length nx
  have l6 := congrArg List.length ny
  rw [List.length_append] at l1 l2
  rw [List.length_append, List.length_map] at lx ly l3 l4 l5 l6
  have hd : (c.texts.any (fun t => decide (0 ≤ Cor.findT x.texts t.nm)) = true) ↔ (y.texts.any (fun t => decide (0 ≤ Cor.findT a.texts t.nm)) = true) := by
    rw [dup_iff, dup_iff]
    refine not_congr ⟨?_, ?_⟩
    · intro q t ht u hu
      rw [h2.texts] at hu
      rcases List.mem_append.1 hu with e | e
      · exact h1.dis t ht u e
      · obtain ⟨u', hu', rfl⟩ := List.mem_map.1 e
        exact q t (by rw [h1.texts]; exact List.mem_append_left _ ht) u' hu'
    · intro q t ht u hu
      rw [h1.texts] at ht
      rcases List.mem_append.1 ht with e | e
      · exact q t e (mvT b.toks.length u) (by rw [h2.texts]; exact List.mem_append_right _ (List.mem_map.2 ⟨u, hu, rfl⟩))
      · obtain ⟨t', ht', rfl⟩ := List.mem_map.1 e
        exact h2.dis t' ht' u hu
  have hlim : (4096 < x.toks.length + c.toks.length ∨ 64 < x.texts.length + c.texts.length ∨ 1024 < x.regs.length + c.regs.length ∨ 2048 < x.nods.length + c.nods.length) ↔ (4096 < a.toks.length + y.toks.length ∨ 64 < a.texts.length + y.texts.length ∨ 1024 < a.regs.length + y.regs.length ∨ 2048 < a.nods.length + y.nods.length) := by
    rw [lx, ly, l1, l2, l3, l4, l5, l6]; omega
  have hj : Cor.join x c = Cor.join a y := by
    rw [join_eq h1.vd h2.vb, join_eq h1.va h2.vd, h1.full, h2.full, app_assoc]
  unfold Cor.cat
  rw [if_neg (by rw [vd_iff.2 h1.vd, vd_iff.2 h2.vb]; simp), if_neg (show ¬ (x.attrs ≠ c.attrs) by rw [ax, h1.at_, h2.at_]; simp)]
  conv => rhs; rw [if_neg (by rw [vd_iff.2 h1.va, vd_iff.2 h2.vd]; simp), if_neg (show ¬ (a.attrs ≠ y.attrs) by rw [ay, h1.at_]; simp)]
  by_cases e1 : c.texts.any (fun t => decide (0 ≤ Cor.findT x.texts t.nm)) = true
  · conv => rhs; rw [if_pos (hd.1 e1)]
    rw [if_pos e1]
  · conv => rhs; rw [if_neg (fun q => e1 (hd.2 q))]
    rw [if_neg e1]
    by_cases e2 : 4096 < x.toks.length + c.toks.length ∨ 64 < x.texts.length + c.texts.length ∨ 1024 < x.regs.length + c.regs.length ∨ 2048 < x.nods.length + c.nods.length
    · conv => rhs; rw [if_pos (hlim.1 e2)]
      rw [if_pos e2]
    · conv => rhs; rw [if_neg (fun q => e2 (hlim.2 q))]
      rw [if_neg e2, hj]
end Go.Proofs.Ytaihgoohmcipkaa
