/-
  Plain: the connection of two tokens by their ways; that the other direction's is its reverse; what it consists of. No conditions.
-/
import Derived.Test.YtnbnmomichegaaaDoorBase6
namespace Go.Proofs.YtnbnmomichegaaaDoor
namespace Dep

def mt (y : List Int) (v : Int) : Option Nat := fst (fun k => y.getD k 0 == v) y.length
/-- The first element of x that is in y too: the part of x up to it, and the part of y ahead of it turned around. -/
def pathL (x y : List Int) : List Int × Nat :=
  match fst (fun i => (mt y (x.getD i 0)).isSome) x.length with
  | none => ([], 11)
  | some i => match mt y (x.getD i 0) with
    | none => ([], 11)
    | some k => (x.take (i + 1) ++ (y.take k).reverse, 0)
/-- They meet at i and k. -/
structure Meet (x y : List Int) (i k : Nat) : Prop where
  hi : i < x.length
  hk : k < y.length
  eq : x[i] = y[k]
  before : ∀ i' (h : i' < i) (k' : Nat) (h' : k' < y.length), x[i']'(by omega) ≠ y[k']
  first : ∀ k' (h : k' < k), x[i] ≠ y[k']'(by omega)
theorem mt_none {y : List Int} {v : Int} (h : ∀ k (hk : k < y.length), v ≠ y[k]) : mt y v = none := by
  unfold mt; rw [fst_none]; intro k hk
  simp [hk]; exact fun e => h k hk e.symm
theorem pathL_none {x y : List Int} (h : ∀ i (hi : i < x.length) k (hk : k < y.length), x[i] ≠ y[k]) : pathL x y = ([], 11) := by
  have : fst (fun i => (mt y (x.getD i 0)).isSome) x.length = none := by
    rw [fst_none]; intro i hi
    rw [mt_none (y := y)]; rfl
    intro k hk; simpa [hi] using h i hi k hk
  unfold pathL; rw [this]
theorem pathL_meet {x y : List Int} {i k : Nat} (h : Meet x y i k) : pathL x y = (x.take (i + 1) ++ (y.take k).reverse, 0) := by
  have hi := h.hi
  have hk := h.hk
  have h1 : mt y (x.getD i 0) = some k := by
    unfold mt; rw [fst_some]
    refine ⟨h.hk, by simp [hi, hk, h.eq], fun k' hk' => ?_⟩
    have := h.first k' hk'
    simp [hi, show k' < y.length by omega]; exact fun e => this e.symm
  have h2 : fst (fun i => (mt y (x.getD i 0)).isSome) x.length = some i := by
    rw [fst_some]
    refine ⟨hi, by rw [h1]; rfl, fun i' hi' => ?_⟩
    rw [mt_none]; rfl
    intro k' hk'
    simpa [show i' < x.length by omega] using h.before i' hi' k' hk'
  unfold pathL; rw [h2]; simp only []; rw [h1]
theorem meet_or (x y : List Int) : (∃ i k, Meet x y i k) ∨ ∀ i (hi : i < x.length) k (hk : k < y.length), x[i] ≠ y[k] := by
  by_cases h : ∃ i, ∃ hi : i < x.length, ∃ k, ∃ hk : k < y.length, x[i] = y[k]
  · left
    obtain ⟨i0, hi0⟩ := h
    obtain ⟨i, _, ⟨hi, k0, hk0⟩, hlo⟩ := ex_least (p := fun i => ∃ hi : i < x.length, ∃ k, ∃ hk : k < y.length, x[i] = y[k]) hi0
    obtain ⟨k, _, ⟨hk, e⟩, hlk⟩ := ex_least (p := fun k => ∃ hk : k < y.length, x[i] = y[k]) hk0
    exact ⟨i, k, hi, hk, e, fun i' h k' h' e => hlo i' h ⟨by omega, k', h', e⟩, fun k' h e => hlk k' h ⟨by omega, e⟩⟩
  · right
    exact fun i hi k hk e => h ⟨i, hi, k, hk, e⟩

/-- What Path answers. -/
def path (h : Hs) (a b : Int) : List Int × Nat :=
  if (chk h).2 = 0 ∧ (0 ≤ a ∧ a < h.length) ∧ 0 ≤ b ∧ b < h.length then pathL (way h a) (way h b) else ([], 1)
/-- What Depth answers. -/
def depth (h : Hs) (i : Int) : Int := if (chk h).2 = 0 ∧ 0 ≤ i ∧ i < h.length then ((way h i).length : Int) - 1 else -1

theorem way_next {h : Hs} (hg : Good h) {i : Int} (hl : i < h.length) {k : Nat} (hk : k + 1 < (way h i).length) : nx h ((way h i)[k]'(by omega)) = (way h i)[k + 1] := by
  rw [(way_at hg hl (show k < _ by omega)).1, (way_at hg hl hk).1, up_succ]
theorem way_last {h : Hs} (hg : Good h) {i : Int} (hl : i < h.length) {k : Nat} (hk : k + 1 = (way h i).length) : nx h ((way h i)[k]'(by omega)) = -1 := by
  have h1 := way_get hg (k + 1) i hl
  rw [List.getElem?_eq_none (by omega)] at h1
  rw [(way_at hg hl (show k < _ by omega)).1, ← up_succ]
  split at h1
  · cases h1
  · have := up_succ h k i
    have := (nx_ok hg.ok (up h k i)).1
    omega
theorem way_pos {h : Hs} (hg : Good h) {i : Int} (h0 : 0 ≤ i) : 0 < (way h i).length ∧ ∀ hk : 0 < (way h i).length, (way h i)[0] = i := by
  rw [way_step hg h0]; simp
theorem way_inj {h : Hs} (hg : Good h) {i : Int} (hl : i < h.length) {a b : Nat} (ha : a < (way h i).length) (hb : b < (way h i).length) (e : (way h i)[a] = (way h i)[b]) : a = b := by
  have h1 := way_at hg hl ha
  have h2 := way_at hg hl hb
  exact up_inj hg hl h1.2.1 (by omega)
/-- From a common token on two ways are one. -/
theorem way_same {h : Hs} (hg : Good h) {a b : Int} (ha : a < h.length) (hb : b < h.length) {i k : Nat} (hi : i < (way h a).length) (hk : k < (way h b).length) (e : (way h a)[i] = (way h b)[k]) (m : Nat) :
    (way h a)[i + m]? = (way h b)[k + m]? := by
  rw [way_get hg _ a ha, way_get hg _ b hb, up_add, up_add, ← (way_at hg ha hi).1, ← (way_at hg hb hk).1, e]
theorem meet_swap {h : Hs} (hg : Good h) {a b : Int} (ha : a < h.length) (hb : b < h.length) {i k : Nat} (hm : Meet (way h a) (way h b) i k) : Meet (way h b) (way h a) k i := by
  have hno : ∀ k' (hk' : k' < k) (i' : Nat) (hi' : i' < (way h a).length), (way h b)[k']'(by have := hm.hk; omega) ≠ (way h a)[i'] := by
    intro k' hk' i' hi' e
    by_cases hlt : i' < i
    · exact hm.before i' hlt k' (by have := hm.hk; omega) e.symm
    · have h1 := way_same hg ha hb hi' (show k' < (way h b).length by have := hm.hk; omega) e.symm (k - k')
      rw [show k' + (k - k') = k by omega, List.getElem?_eq_getElem hm.hk] at h1
      obtain ⟨h2, h3⟩ := List.getElem?_eq_some_iff.1 h1
      have := way_inj hg ha h2 hm.hi (by rw [h3, hm.eq])
      omega
  exact ⟨hm.hk, hm.hi, hm.eq.symm, fun k' hk' i' hi' => hno k' hk' i' hi', fun i' hi' e => hm.before i' hi' k hm.hk e.symm⟩

/-- Element t of the connection. -/
theorem conn_at {x y : List Int} {i k : Nat} (hm : Meet x y i k) (t : Nat) (ht : t < (x.take (i + 1) ++ (y.take k).reverse).length) :
    t ≤ i + k ∧ (∀ h1 : t ≤ i, (x.take (i + 1) ++ (y.take k).reverse)[t] = x[t]'(by have := hm.hi; omega)) ∧ (∀ h1 : i ≤ t, (x.take (i + 1) ++ (y.take k).reverse)[t] = y[k + i - t]'(by have := hm.hk; omega)) := by
  have hi := hm.hi
  have hk := hm.hk
  have hlen : (x.take (i + 1)).length = i + 1 := by rw [List.length_take]; omega
  have hlen2 : (y.take k).length = k := by rw [List.length_take]; omega
  have ht' : t ≤ i + k := by simp at ht; omega
  have hA : ∀ h1 : t ≤ i, (x.take (i + 1) ++ (y.take k).reverse)[t] = x[t] := fun h1 => by
    rw [List.getElem_append_left (by omega), List.getElem_take]
  refine ⟨ht', hA, fun h1 => ?_⟩
  by_cases e : t = i
  · subst e
    rw [hA (Nat.le_refl _), hm.eq]
    congr 1; omega
  · rw [List.getElem_append_right (by omega), List.getElem_reverse, List.getElem_take]
    congr 1; omega
theorem conn_len {x y : List Int} {i k : Nat} (hm : Meet x y i k) : (x.take (i + 1) ++ (y.take k).reverse).length = i + k + 1 := by
  have hi := hm.hi
  have hk := hm.hk
  simp; omega
theorem conn_rev {x y : List Int} {i k : Nat} (hm : Meet x y i k) : (y.take (k + 1) ++ (x.take i).reverse) = (x.take (i + 1) ++ (y.take k).reverse).reverse := by
  have hi := hm.hi
  have hk := hm.hk
  rw [List.reverse_append, List.reverse_reverse, List.take_succ_eq_append_getElem hi, List.take_succ_eq_append_getElem hk, List.reverse_append, hm.eq]
  simp only [List.reverse_cons, List.reverse_nil, List.nil_append, List.append_assoc, List.cons_append]

/-- What DependConnects asks of two answers. -/
structure Conn (h : Hs) (a b : Int) (l m : List Int) : Prop where
  len : l.length = m.length
  pos : 0 < l.length
  beg : ∀ h0 : 0 < l.length, l[0] = a
  fin : ∀ h0 : l.length - 1 < l.length, l[l.length - 1] = b
  rng : ∀ t (ht : t < l.length), 0 ≤ l[t] ∧ l[t] < h.length
  rev : ∀ t (ht : t < l.length) (ht' : m.length - 1 - t < m.length), m[m.length - 1 - t] = l[t]
  arc : ∀ t (ht : t < l.length), 0 < t → nx h l[t] = l[t - 1] ∨ nx h (l[t - 1]) = l[t]
  dis : ∀ k t (hk : k < t) (ht : t < l.length), l[k]'(by omega) ≠ l[t]
theorem path_conn {h : Hs} {a b : Int} (he : (path h a b).2 = 0) : Conn h a b (path h a b).1 (path h b a).1 ∧ (path h b a).2 = 0 := by
  unfold path at he ⊢
  split at he
  · rename_i hc
    obtain ⟨h0, ⟨ha0, ha⟩, hb0, hb⟩ := hc
    have hg := chk_zero.1 h0
    rw [if_pos ⟨h0, ⟨ha0, ha⟩, hb0, hb⟩, if_pos ⟨h0, ⟨hb0, hb⟩, ha0, ha⟩]
    rcases meet_or (way h a) (way h b) with ⟨i, k, hm⟩ | hno
    · have hs := meet_swap hg ha hb hm
      rw [pathL_meet hm, pathL_meet hs]
      refine ⟨?_, rfl⟩
      have hr := conn_rev hm
      have hL := conn_len hm
      have hi := hm.hi
      have hk := hm.hk
      have hA := conn_at hm
      obtain ⟨hpa, hga⟩ := way_pos hg ha0
      obtain ⟨hpb, hgb⟩ := way_pos hg hb0
      simp only []
      rw [hr]
      have hrng : ∀ t (ht : t < (List.take (i + 1) (way h a) ++ (List.take k (way h b)).reverse).length), 0 ≤ (List.take (i + 1) (way h a) ++ (List.take k (way h b)).reverse)[t] ∧ (List.take (i + 1) (way h a) ++ (List.take k (way h b)).reverse)[t] < h.length := by
        intro t ht
        obtain ⟨h1, h2, h3⟩ := hA t ht
        by_cases e : t ≤ i
        · have := way_at hg ha (show t < (way h a).length by omega)
          rw [h2 e]; omega
        · have := way_at hg hb (show k + i - t < (way h b).length by omega)
          rw [h3 (by omega)]; omega
      obtain ⟨L, hLe⟩ : ∃ L, L = List.take (i + 1) (way h a) ++ (List.take k (way h b)).reverse := ⟨_, rfl⟩
      rw [← hLe] at hL hrng ⊢
      simp only [← hLe] at hA
      refine ⟨by simp, by omega, fun h0 => ?_, fun h1 => ?_, hrng, ?_, ?_, ?_⟩
      · rw [(hA 0 h0).2.1 (by omega)]; exact hga hpa
      · rw [(hA _ h1).2.2 (by omega)]
        have e : k + i - (L.length - 1) = 0 := by omega
        simp only [e]; exact hgb hpb
      · intro t ht ht'
        rw [List.getElem_reverse]
        congr 1; simp; omega
      · intro t ht ht0
        by_cases e : t ≤ i
        · right
          rw [(hA t ht).2.1 e, (hA (t - 1) (by omega)).2.1 (by omega)]
          have := way_next hg ha (k := t - 1) (by omega)
          simp only [show t - 1 + 1 = t by omega] at this
          exact this
        · left
          have h1 := (hA t ht).1
          rw [(hA t ht).2.2 (by omega), (hA (t - 1) (by omega)).2.2 (by omega)]
          have := way_next hg hb (k := k + i - t) (by omega)
          simp only [show k + i - t + 1 = k + i - (t - 1) by omega] at this
          exact this
      · intro s t hst ht e
        have h1 := hA t ht
        have h2 := hA s (by omega)
        by_cases et : t ≤ i
        · rw [h1.2.1 et, h2.2.1 (by omega)] at e
          have := way_inj hg ha _ _ e; omega
        · rw [h1.2.2 (by omega)] at e
          by_cases es : s ≤ i
          · rw [h2.2.1 es] at e
            by_cases es2 : s = i
            · subst es2
              exact hm.first (k + s - t) (by omega) e
            · exact hm.before s (by omega) (k + i - t) (by omega) e
          · rw [h2.2.2 (by omega)] at e
            have := way_inj hg hb _ _ e; omega
    · rw [pathL_none hno] at he; cases he
  · cases he
theorem path_err (h : Hs) (a b : Int) : (path h a b).2 = (path h b a).2 := by
  by_cases he : (path h a b).2 = 0
  · rw [he, (path_conn he).2]
  · by_cases he2 : (path h b a).2 = 0
    · exact absurd (path_conn he2).2 he
    · unfold path at he he2 ⊢
      by_cases hc : (chk h).2 = 0 ∧ (0 ≤ a ∧ a < h.length) ∧ 0 ≤ b ∧ b < h.length
      · have hc2 : (chk h).2 = 0 ∧ (0 ≤ b ∧ b < h.length) ∧ 0 ≤ a ∧ a < h.length := ⟨hc.1, hc.2.2, hc.2.1⟩
        rw [if_pos hc] at he ⊢
        rw [if_pos hc2] at he2 ⊢
        have key : ∀ x y, (pathL x y).2 ≠ 0 → (pathL x y).2 = 11 := by
          intro x y hn
          rcases meet_or x y with ⟨i, k, hm⟩ | hno
          · rw [pathL_meet hm] at hn; exact absurd rfl hn
          · rw [pathL_none hno]
        rw [key _ _ he, key _ _ he2]
      · rw [if_neg hc, if_neg (fun hc2 => hc ⟨hc2.1, hc2.2.2, hc2.2.1⟩)]
theorem path_nil {h : Hs} {a b : Int} (he : (path h a b).2 ≠ 0) : (path h a b).1 = [] := by
  unfold path at he ⊢
  split at he
  · rename_i hc
    rw [if_pos hc]
    rcases meet_or (way h a) (way h b) with ⟨i, k, hm⟩ | hno
    · rw [pathL_meet hm] at he; exact absurd rfl he
    · rw [pathL_none hno]
  · rename_i hc; rw [if_neg hc]
end Dep
end Go.Proofs.YtnbnmomichegaaaDoor
