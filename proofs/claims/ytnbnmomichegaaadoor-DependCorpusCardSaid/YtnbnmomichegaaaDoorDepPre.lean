/-
  Plain: the order in which each token stands ahead of its descendants, and that numbers in it tell who is whose descendant. No conditions.
-/
import Derived.Test.YtnbnmomichegaaaDoorDepPath
namespace Go.Proofs.YtnbnmomichegaaaDoor
namespace Dep

/-- The tokens with head x, in order; the roots for -1. -/
def kid (h : Hs) (x : Int) : List Nat := (List.range h.length).filter fun i => nx h (i : Nat) == x
theorem mem_kid {h : Hs} {x : Int} {c : Nat} : c ∈ kid h x ↔ c < h.length ∧ nx h (c : Nat) = x := by
  unfold kid; rw [List.mem_filter, List.mem_range, beq_iff_eq]
def preF (h : Hs) : Nat → Nat → List Nat
  | 0, _ => []
  | f + 1, x => x :: (kid h (x : Nat)).reverse.flatMap (preF h f)
def dp (h : Hs) (x : Nat) : Nat := (way h (x : Nat)).length
def pre (h : Hs) (x : Nat) : List Nat := preF h (h.length + 1 - dp h x) x
def tot (h : Hs) : List Nat := (kid h (-1)).reverse.flatMap (pre h)

theorem dp_kid {h : Hs} (hg : Good h) {x c : Nat} (hc : c ∈ kid h (x : Nat)) : dp h c = dp h x + 1 := by
  obtain ⟨_, h2⟩ := mem_kid.1 hc
  unfold dp; rw [way_step hg (by omega), h2]; rfl
theorem dp_le {h : Hs} (hg : Good h) {x : Nat} (hx : x < h.length) : dp h x ≤ h.length := way_len hg (by omega)
theorem pre_step {h : Hs} (hg : Good h) {x : Nat} (hx : x < h.length) : pre h x = x :: (kid h (x : Nat)).reverse.flatMap (pre h) := by
  have := dp_le hg hx
  unfold pre
  rw [show h.length + 1 - dp h x = (h.length - dp h x) + 1 by omega, preF]
  congr 1
  have : ∀ l : List Nat, (∀ c ∈ l, dp h c = dp h x + 1) → l.flatMap (preF h (h.length - dp h x)) = l.flatMap (fun x => preF h (h.length + 1 - dp h x) x) := by
    intro l
    induction l with
    | nil => intro _; rfl
    | cons c l ih =>
      intro hl
      rw [List.flatMap_cons, List.flatMap_cons, ih (fun c hc => hl c (by simp [hc])), hl c (by simp), show h.length + 1 - (dp h x + 1) = h.length - dp h x by omega]
  exact this _ (fun c hc => dp_kid hg (by simpa using hc))
theorem way_self {h : Hs} (hg : Good h) {x : Nat} : (x : Int) ∈ way h (x : Nat) := by rw [way_step hg (by omega)]; simp
theorem way_up {h : Hs} (hg : Good h) {x : Nat} (hx : x < h.length) {c : Int} (hc : c ∈ way h (x : Nat)) (h0 : 0 ≤ nx h c) : nx h c ∈ way h (x : Nat) := by
  obtain ⟨_, k, e⟩ := (mem_way hg (by omega)).1 hc
  exact (mem_way hg (by omega)).2 ⟨h0, k + 1, by rw [up_succ, e]⟩
theorem way_down {h : Hs} (hg : Good h) {x y : Nat} (hx : x < h.length) (hy : (y : Int) ∈ way h (x : Nat)) (hne : x ≠ y) : ∃ c : Nat, c ∈ kid h (y : Nat) ∧ (c : Int) ∈ way h (x : Nat) := by
  obtain ⟨_, k, e⟩ := (mem_way hg (by omega)).1 hy
  cases k with
  | zero => exact absurd (by have : (x : Int) = y := e; omega) hne
  | succ k =>
    rw [up_succ] at e
    have hc0 : 0 ≤ up h k (x : Nat) := by
      by_cases hn : up h k (x : Nat) < 0
      · rw [nx_neg hn] at e; omega
      · omega
    obtain ⟨c, hc1, hc2⟩ := up_nat hg.ok hx hc0
    exact ⟨c, mem_kid.2 ⟨hc1, by rw [← hc2, e]⟩, (mem_way hg (by omega)).2 ⟨by omega, k, hc2⟩⟩
theorem mem_preF {h : Hs} (hg : Good h) : ∀ (f y : Nat), y < h.length → h.length + 1 - dp h y = f → ∀ x, x ∈ preF h f y ↔ x < h.length ∧ (y : Int) ∈ way h (x : Nat)
  | 0, y, hy, hf, x => by have := dp_le hg hy; omega
  | f + 1, y, hy, hf, x => by
    rw [preF, List.mem_cons, List.mem_flatMap]
    have ih : ∀ c, c ∈ kid h (y : Nat) → (x ∈ preF h f c ↔ x < h.length ∧ (c : Int) ∈ way h (x : Nat)) := by
      intro c hc
      have := dp_kid hg hc
      exact mem_preF hg f c (mem_kid.1 hc).1 (by omega) x
    constructor
    · rintro (rfl | ⟨c, hc, hx⟩)
      · exact ⟨hy, way_self hg⟩
      · have hc' : c ∈ kid h (y : Nat) := by simpa using hc
        obtain ⟨h1, h2⟩ := (ih c hc').1 hx
        have h3 := (mem_kid.1 hc').2
        refine ⟨h1, ?_⟩
        have := way_up hg h1 h2 (by omega)
        rwa [h3] at this
    · rintro ⟨h1, h2⟩
      by_cases e : x = y
      · exact .inl e
      · obtain ⟨c, hc1, hc2⟩ := way_down hg h1 h2 e
        exact .inr ⟨c, by simpa using hc1, (ih c hc1).2 ⟨h1, hc2⟩⟩
theorem mem_pre {h : Hs} (hg : Good h) {x y : Nat} (hy : y < h.length) : x ∈ pre h y ↔ x < h.length ∧ (y : Int) ∈ way h (x : Nat) := mem_preF hg _ y hy rfl x
/-- Two tokens on one way with the same head are one. -/
theorem sib {h : Hs} (hg : Good h) {x c d : Nat} (hx : x < h.length) (hc : (c : Int) ∈ way h (x : Nat)) (hd : (d : Int) ∈ way h (x : Nat)) (e : nx h (c : Nat) = nx h (d : Nat)) : c = d := by
  obtain ⟨_, a, ea⟩ := (mem_way hg (by omega)).1 hc
  obtain ⟨_, b, eb⟩ := (mem_way hg (by omega)).1 hd
  rw [← ea, ← eb, ← up_succ, ← up_succ] at e
  have hab : a = b := by
    by_cases h0 : 0 ≤ up h (a + 1) (x : Nat)
    · have := up_inj hg (by omega) h0 e; omega
    · rcases Nat.lt_trichotomy a b with h1 | h1 | h1
      · have := up_neg_le (show up h (a + 1) (x : Nat) < 0 by omega) (show a + 1 ≤ b by omega); omega
      · exact h1
      · have := up_neg_le (show up h (b + 1) (x : Nat) < 0 by omega) (show b + 1 ≤ a by omega); omega
  subst hab; omega
theorem kid_nodup (h : Hs) (x : Int) : (kid h x).Nodup := by
  unfold kid; exact List.nodup_range.filter _
theorem flat_nodup {h : Hs} (hg : Good h) {x : Int} (f : Nat → List Nat) (hmem : ∀ c ∈ kid h x, ∀ z ∈ f c, z < h.length ∧ (c : Int) ∈ way h (z : Nat)) (hn : ∀ c ∈ kid h x, (f c).Nodup) : ((kid h x).reverse.flatMap f).Nodup := by
  unfold List.Nodup
  rw [List.pairwise_flatMap]
  refine ⟨fun c hc => hn c (by simpa using hc), ?_⟩
  rw [List.pairwise_reverse]
  refine List.Pairwise.imp_of_mem ?_ (kid_nodup h x)
  intro a b ha hb hab z hz z' hz' e
  subst e
  obtain ⟨h1, h2⟩ := hmem a ha z hz'
  obtain ⟨_, h3⟩ := hmem b hb z hz
  exact hab (sib hg h1 h2 h3 (by rw [(mem_kid.1 ha).2, (mem_kid.1 hb).2]))
theorem preF_nodup {h : Hs} (hg : Good h) : ∀ (f y : Nat), y < h.length → h.length + 1 - dp h y = f → (preF h f y).Nodup
  | 0, y, hy, hf => by have := dp_le hg hy; omega
  | f + 1, y, hy, hf => by
    rw [preF, List.nodup_cons]
    have hk : ∀ c ∈ kid h (y : Nat), h.length + 1 - dp h c = f := by
      intro c hc; have := dp_kid hg hc; omega
    refine ⟨?_, flat_nodup hg _ (fun c hc z hz => (mem_preF hg f c (mem_kid.1 hc).1 (hk c hc) z).1 hz) (fun c hc => preF_nodup hg f c (mem_kid.1 hc).1 (hk c hc))⟩
    intro hm
    rw [List.mem_flatMap] at hm
    obtain ⟨c, hc, hx⟩ := hm
    have hc' : c ∈ kid h (y : Nat) := by simpa using hc
    obtain ⟨_, h2⟩ := (mem_preF hg f c (mem_kid.1 hc').1 (hk c hc') y).1 hx
    obtain ⟨_, k, e⟩ := (mem_way hg (by omega)).1 h2
    exact hg.none y hy ⟨by omega, k, by rw [up_succ, e, (mem_kid.1 hc').2]⟩
theorem root_of {h : Hs} (hg : Good h) {x : Nat} (hx : x < h.length) : ∃ r : Nat, r ∈ kid h (-1) ∧ (r : Int) ∈ way h (x : Nat) := by
  have hp := (way_pos hg (show 0 ≤ ((x : Nat) : Int) by omega)).1
  have hw := way_at hg (show ((x : Nat) : Int) < h.length by omega) (show (way h (x : Nat)).length - 1 < _ by omega)
  have hl := way_last hg (show ((x : Nat) : Int) < h.length by omega) (k := (way h (x : Nat)).length - 1) (by omega)
  refine ⟨((way h (x : Nat))[(way h (x : Nat)).length - 1]).toNat, mem_kid.2 ⟨by omega, ?_⟩, ?_⟩
  · rw [show ((((way h (x : Nat))[(way h (x : Nat)).length - 1]).toNat : Nat) : Int) = (way h (x : Nat))[(way h (x : Nat)).length - 1] by omega]; exact hl
  · rw [show ((((way h (x : Nat))[(way h (x : Nat)).length - 1]).toNat : Nat) : Int) = (way h (x : Nat))[(way h (x : Nat)).length - 1] by omega]; exact List.getElem_mem _
theorem mem_tot {h : Hs} (hg : Good h) {x : Nat} : x ∈ tot h ↔ x < h.length := by
  unfold tot; rw [List.mem_flatMap]
  constructor
  · rintro ⟨r, hr, hx⟩
    exact ((mem_pre hg (mem_kid.1 (by simpa using hr)).1).1 hx).1
  · intro hx
    obtain ⟨r, h1, h2⟩ := root_of hg hx
    exact ⟨r, by simpa using h1, (mem_pre hg (mem_kid.1 h1).1).2 ⟨hx, h2⟩⟩
theorem tot_nodup {h : Hs} (hg : Good h) : (tot h).Nodup :=
  flat_nodup hg _ (fun _ hc _ hz => (mem_pre hg (mem_kid.1 hc).1).1 hz) (fun c hc => preF_nodup hg _ c (mem_kid.1 hc).1 rfl)
theorem infix_flat {f : Nat → List Nat} {l : List Nat} {a : Nat} (ha : a ∈ l) : f a <:+: l.flatMap f := by
  obtain ⟨s, t, rfl⟩ := List.append_of_mem ha
  exact ⟨s.flatMap f, t.flatMap f, by simp⟩
theorem pre_infix {h : Hs} (hg : Good h) : ∀ (d y : Nat), y < h.length → dp h y = d → pre h y <:+: tot h
  | 0, y, hy, hd => by have := (way_pos hg (show 0 ≤ ((y : Nat) : Int) by omega)).1; unfold dp at hd; omega
  | d + 1, y, hy, hd => by
    by_cases h0 : nx h (y : Nat) < 0
    · have : y ∈ kid h (-1) := mem_kid.2 ⟨hy, by have := (nx_ok hg.ok (y : Nat)).1; omega⟩
      exact infix_flat (f := pre h) (by simpa using this)
    · have hn := (nx_ok hg.ok (y : Nat)).2
      obtain ⟨p, hp⟩ : ∃ p : Nat, nx h (y : Nat) = p := ⟨(nx h (y : Nat)).toNat, by omega⟩
      have hk : y ∈ kid h (p : Nat) := mem_kid.2 ⟨hy, hp⟩
      have hdp := dp_kid hg hk
      refine List.IsInfix.trans ?_ (pre_infix hg d p (by omega) (by omega))
      rw [pre_step hg (show p < h.length by omega)]
      obtain ⟨s, t, e⟩ := infix_flat (f := pre h) (l := (kid h (p : Nat)).reverse) (a := y) (by simpa using hk)
      exact ⟨p :: s, t, by simp [← e]⟩
/-- Where a token stands among tot's. -/
theorem pre_at {h : Hs} (hg : Good h) {y : Nat} (hy : y < h.length) : ∃ A, A + (pre h y).length ≤ (tot h).length ∧ (∀ j (hj : j < (pre h y).length), (tot h)[A + j]? = some (pre h y)[j]) ∧ (tot h)[A]? = some y := by
  obtain ⟨s, t, e⟩ := pre_infix hg _ y hy rfl
  have hall : ∀ j (hj : j < (pre h y).length), (tot h)[s.length + j]? = some (pre h y)[j] := by
    intro j hj
    rw [← e, List.append_assoc, List.getElem?_append_right (by omega), List.getElem?_append_left (by omega), Nat.add_sub_cancel_left, List.getElem?_eq_getElem hj]
  have hl : 0 < (pre h y).length := by rw [pre_step hg hy]; simp
  refine ⟨s.length, ?_, hall, ?_⟩
  · rw [← e]; simp
  · have := hall 0 hl
    rw [Nat.add_zero] at this
    rw [this]
    congr 1
    simp [pre_step hg hy]
theorem tot_inj {h : Hs} (hg : Good h) {a b x : Nat} (ha : (tot h)[a]? = some x) (hb : (tot h)[b]? = some x) : a = b := by
  obtain ⟨ha', ea⟩ := List.getElem?_eq_some_iff.1 ha
  obtain ⟨hb', eb⟩ := List.getElem?_eq_some_iff.1 hb
  have hn := tot_nodup hg
  unfold List.Nodup at hn
  rw [List.pairwise_iff_getElem] at hn
  rcases Nat.lt_trichotomy a b with h1 | h1 | h1
  · exact absurd (ea.trans eb.symm) (hn a b ha' hb' h1)
  · exact h1
  · exact absurd (eb.trans ea.symm) (hn b a hb' ha' h1)
/-- The number of x is i. -/
def At (h : Hs) (x i : Nat) : Prop := (tot h)[i]? = some x
theorem at_ex {h : Hs} (hg : Good h) {x : Nat} (hx : x < h.length) : ∃ i, At h x i := List.getElem?_of_mem ((mem_tot hg).2 hx)
/-- Among y's descendants and y are those numbered from y's number on, as many as there are. -/
theorem at_pre {h : Hs} (hg : Good h) {x y a i : Nat} (hy : y < h.length) (ha : At h y a) (hi : At h x i) : x ∈ pre h y ↔ a ≤ i ∧ i < a + (pre h y).length := by
  obtain ⟨A, h1, h2, h3⟩ := pre_at hg hy
  obtain rfl := tot_inj hg ha h3
  constructor
  · intro hx
    obtain ⟨j, hj, e⟩ := List.getElem_of_mem hx
    have := h2 j hj
    rw [e] at this
    have := tot_inj hg hi this
    omega
  · rintro ⟨h4, h5⟩
    have := h2 (i - a) (by omega)
    rw [show a + (i - a) = i by omega] at this
    unfold At at hi
    rw [hi] at this
    rw [Option.some.inj this]
    exact List.getElem_mem _
theorem desc_iff {h : Hs} (hg : Good h) {x g : Nat} : (g : Int) ∈ way h (nx h (x : Nat)) → (g : Int) ∈ way h (x : Nat) := by
  intro hm
  rw [way_step hg (by omega)]; exact List.mem_cons_of_mem _ hm
theorem desc_of {h : Hs} (hg : Good h) {x g : Nat} (hne : x ≠ g) (hm : (g : Int) ∈ way h (x : Nat)) : (g : Int) ∈ way h (nx h (x : Nat)) := by
  rw [way_step hg (by omega)] at hm
  rcases List.mem_cons.1 hm with e | e
  · exact absurd (by omega) hne
  · exact e
theorem desc_ne {h : Hs} (hg : Good h) {x : Nat} (hx : x < h.length) : ¬ (x : Int) ∈ way h (nx h (x : Nat)) := by
  intro hm
  obtain ⟨_, k, e⟩ := (mem_way hg (nx_ok hg.ok _).2).1 hm
  exact hg.none x hx ⟨by omega, k, by rw [up]; exact e⟩

/-- What the second loop's numbers say when those from k on are worked off. -/
structure Lasts (h : Hs) (k : Nat) (last : List Nat) : Prop where
  len : last.length = h.length
  ge : ∀ x (hx : x < last.length) i, At h x i → i ≤ last[x]
  of : ∀ x (hx : x < last.length), ∃ z, z ∈ pre h x ∧ At h z last[x]
  kids : ∀ y (hy : y < last.length) i, At h y i → k ≤ i → ∀ p (hp : p < last.length), nx h (y : Nat) = (p : Nat) → last[y] ≤ last[p]
theorem lasts_start {h : Hs} (hg : Good h) {last : List Nat} (hl : last.length = h.length) (hat : ∀ x (hx : x < last.length), At h x last[x]) : Lasts h (tot h).length last := by
  refine ⟨hl, fun x hx i hi => ?_, fun x hx => ⟨x, (mem_pre hg (by omega)).2 ⟨by omega, way_self hg⟩, hat x hx⟩, fun y hy i hi hk => ?_⟩
  · have := tot_inj hg hi (hat x hx); omega
  · obtain ⟨h1, _⟩ := List.getElem?_eq_some_iff.1 hi
    omega
theorem lasts_skip {h : Hs} {k y : Nat} {last : List Nat} (hL : Lasts h (k + 1) last) (hy : At h y k) (hn : nx h (y : Nat) < 0) : Lasts h k last := by
  refine ⟨hL.len, hL.ge, hL.of, fun y' hy' i hi hk p hp e => ?_⟩
  by_cases e2 : i = k
  · subst e2
    have : y' = y := by unfold At at hi hy; rw [hi] at hy; exact Option.some.inj hy
    subst this; omega
  · exact hL.kids y' hy' i hi (by omega) p hp e
theorem at_parent {h : Hs} (hg : Good h) {x p i j : Nat} (hx : x < h.length) (hp : p < h.length) (e : nx h (x : Nat) = (p : Nat)) (hi : At h x i) (hj : At h p j) : j < i := by
  have hm : x ∈ pre h p := (mem_pre hg hp).2 ⟨hx, by have := way_up hg hx (way_self hg) (by omega); rwa [e] at this⟩
  have := (at_pre hg hp hj hi).1 hm
  by_cases eij : j = i
  · subst eij
    unfold At at hi hj
    rw [hi] at hj
    have := Option.some.inj hj
    subst this
    exact (hg.none x hx ⟨by omega, 0, e⟩).elim
  · omega
theorem lasts_step {h : Hs} (hg : Good h) {k y p : Nat} {last : List Nat} (hL : Lasts h (k + 1) last) (hy : At h y k) (hyl : y < last.length) (hpl : p < last.length) (hn : nx h (y : Nat) = (p : Nat)) : Lasts h k (last.set p (max last[p] last[y])) := by
  have hlen := hL.len
  have hyp : y ≠ p := by rintro rfl; exact hg.none y (by omega) ⟨by omega, 0, hn⟩
  have hy' : y ∈ pre h p := (mem_pre hg (by omega)).2 ⟨by omega, by have := way_up hg (show y < h.length by omega) (way_self hg) (by omega); rwa [hn] at this⟩
  refine ⟨by simpa using hlen, fun x hx i hi => ?_, fun x hx => ?_, fun z hz i hi hk q hq e => ?_⟩
  · have hx' : x < last.length := by simpa using hx
    have := hL.ge x hx' i hi
    by_cases e : p = x
    · subst e; simp; omega
    · rw [List.getElem_set_ne e]; exact this
  · have hx' : x < last.length := by simpa using hx
    by_cases e : p = x
    · subst e
      rw [List.getElem_set_self]
      obtain ⟨z1, hz1, hz2⟩ := hL.of p hpl
      obtain ⟨z3, hz3, hz4⟩ := hL.of y hyl
      by_cases hm : last[p] ≤ last[y]
      · refine ⟨z3, ?_, by rw [Nat.max_eq_right hm]; exact hz4⟩
        obtain ⟨h5, h6⟩ := (mem_pre hg (by omega)).1 hz3
        refine (mem_pre hg (by omega)).2 ⟨h5, ?_⟩
        have := way_up hg h5 h6 (by omega)
        rwa [hn] at this
      · exact ⟨z1, hz1, by rw [Nat.max_eq_left (by omega)]; exact hz2⟩
    · rw [List.getElem_set_ne e]; exact hL.of x hx'
  · have hz' : z < last.length := by simpa using hz
    have hq' : q < last.length := by simpa using hq
    by_cases ez : i = k
    · subst ez
      have : z = y := by unfold At at hi hy; rw [hi] at hy; exact Option.some.inj hy
      subst this
      obtain rfl : p = q := by omega
      rw [List.getElem_set_ne (Ne.symm hyp), List.getElem_set_self]
      omega
    · have h1 := hL.kids z hz' i hi (by omega) q hq' e
      have hzp : p ≠ z := by
        rintro rfl
        have := at_parent hg (show y < h.length by omega) (show p < h.length by omega) hn hy hi
        omega
      rw [List.getElem_set_ne hzp]
      by_cases e2 : p = q
      · subst e2; rw [List.getElem_set_self]; omega
      · rw [List.getElem_set_ne e2]; exact h1
theorem lasts_all {h : Hs} (hg : Good h) {last : List Nat} (hL : Lasts h 0 last) : ∀ (k x g : Nat), x < last.length → ∀ hgl : g < last.length, up h k (x : Nat) = (g : Nat) → ∀ i, At h x i → i ≤ last[g]
  | 0, x, g, hx, hgl, e, i, hi => by
    have : (x : Int) = g := e
    obtain rfl : x = g := by omega
    exact hL.ge x hx i hi
  | k + 1, x, g, hx, hgl, e, i, hi => by
    have hlen := hL.len
    rw [up_succ] at e
    have hc0 : 0 ≤ up h k (x : Nat) := by
      by_cases hn : up h k (x : Nat) < 0
      · rw [nx_neg hn] at e; omega
      · omega
    obtain ⟨c, hc1, hc2⟩ := up_nat hg.ok (show x < h.length by omega) hc0
    have h1 := lasts_all hg hL k x c hx (by omega) hc2 i hi
    obtain ⟨ic, hic⟩ := at_ex hg hc1
    have h2 := hL.kids c (by omega) ic hic (Nat.zero_le _) g hgl (by rw [← hc2, e])
    omega
/-- The numbers tell who is whose descendant. -/
theorem numbers_tell {h : Hs} (hg : Good h) {first last : List Nat} (hf : first.length = h.length) (hat : ∀ x (hx : x < first.length), At h x first[x]) (hL : Lasts h 0 last) {x g : Nat} (hx : x < h.length) (hgl : g < h.length) :
    (first[g]'(by omega) < first[x]'(by omega) ∧ first[x]'(by omega) ≤ last[g]'(by have := hL.len; omega)) ↔ (g : Int) ∈ way h (nx h (x : Nat)) := by
  have hlen := hL.len
  have hax := hat x (by omega)
  have hag := hat g (by omega)
  constructor
  · rintro ⟨h1, h2⟩
    obtain ⟨z, hz, hz2⟩ := hL.of g (by omega)
    have h3 := (at_pre hg hgl hag hz2).1 hz
    have h4 := (at_pre hg hgl hag hax).2 ⟨by omega, by omega⟩
    exact desc_of hg (by rintro rfl; omega) ((mem_pre hg hgl).1 h4).2
  · intro hm
    have hne : x ≠ g := by rintro rfl; exact desc_ne hg hx hm
    have hw := desc_iff hg hm
    have h4 := (at_pre hg hgl hag hax).1 ((mem_pre hg hgl).2 ⟨hx, hw⟩)
    obtain ⟨_, k, e⟩ := (mem_way hg (by omega)).1 hw
    have h5 := lasts_all hg hL k x g (by omega) (by omega) e _ hax
    refine ⟨?_, h5⟩
    by_cases eq : first[g]'(by omega) = first[x]'(by omega)
    · rw [← eq] at hax
      unfold At at hax hag
      rw [hag] at hax
      exact absurd (Option.some.inj hax).symm hne
    · omega
end Dep
end Go.Proofs.YtnbnmomichegaaaDoor
