/-
  Plain text, no program in it: sets of features, what is parsed, formatted, united, intersected. No conditions.
-/
import Derived.Test.YtnbnmomichegaaaDoorUtf
import GoSem.Op.String
namespace Go.Proofs.YtnbnmomichegaaaDoor.Feat
open Go Utf

abbrev Bs := List UInt8
def lt (a b : Bs) : Bool := Op.bytesLess a b

theorem lt_irrefl : ∀ a : Bs, lt a a = false
  | [] => rfl
  | c :: a => by
    have := lt_irrefl a
    unfold lt at this ⊢
    simp only [Op.bytesLess, this]
    simp
theorem lt_trans : ∀ {a b c : Bs}, lt a b = true → lt b c = true → lt a c = true
  | a, b, [], _, h => by cases b <;> simp [lt, Op.bytesLess] at h
  | a, [], c :: z, h, _ => by cases a <;> simp [lt, Op.bytesLess] at h
  | [], b :: y, c :: z, _, _ => rfl
  | a :: x, b :: y, c :: z, h, k => by
    have ih := @lt_trans x y z
    unfold lt at h k ih ⊢
    simp only [Op.bytesLess, Bool.or_eq_true, Bool.and_eq_true, decide_eq_true_eq, beq_iff_eq] at h k ⊢
    rcases h with h | ⟨rfl, h⟩ <;> rcases k with k | ⟨rfl, k⟩
    · left; exact UInt8.lt_trans h k
    · left; exact h
    · left; exact k
    · right; exact ⟨rfl, ih h k⟩
theorem lt_tri : ∀ a b : Bs, lt a b = true ∨ a = b ∨ lt b a = true
  | [], [] => .inr (.inl rfl)
  | [], _ :: _ => .inl rfl
  | _ :: _, [] => .inr (.inr rfl)
  | a :: x, b :: y => by
    have ih := lt_tri x y
    unfold lt at ih ⊢
    simp only [Op.bytesLess, Bool.or_eq_true, Bool.and_eq_true, decide_eq_true_eq, beq_iff_eq]
    rcases (by
      rcases Nat.lt_trichotomy a.toNat b.toNat with h | h | h
      · exact .inl (UInt8.lt_iff_toNat_lt.2 h)
      · exact .inr (.inl (UInt8.toNat_inj.1 h))
      · exact .inr (.inr (UInt8.lt_iff_toNat_lt.2 h)) : a < b ∨ a = b ∨ b < a) with h | rfl | h
    · exact .inl (.inl h)
    · rcases ih with h | rfl | h
      · exact .inl (.inr ⟨rfl, h⟩)
      · exact .inr (.inl rfl)
      · exact .inr (.inr (.inr ⟨rfl, h⟩))
    · exact .inr (.inr (.inl h))
theorem lt_asymm {a b : Bs} (h : lt a b = true) : lt b a = false := by
  cases k : lt b a with
  | false => rfl
  | true => have := lt_trans h k; rw [lt_irrefl] at this; cases this

/-- Strictly ascending: neighbour by neighbour. -/
def asc : List Bs → Bool
  | [] => true
  | [_] => true
  | x :: y :: r => lt x y && asc (y :: r)
def Asc (l : List Bs) : Prop := l.Pairwise fun a b => lt a b = true
theorem asc_iff : ∀ l : List Bs, asc l = true ↔ Asc l
  | [] => by simp [asc, Asc]
  | [x] => by simp [asc, Asc]
  | x :: y :: r => by
    have ih := asc_iff (y :: r)
    simp only [asc, Bool.and_eq_true, ih]
    unfold Asc at ih ⊢
    rw [List.pairwise_cons (a := x)]
    constructor
    · rintro ⟨h, k⟩
      refine ⟨fun z hz => ?_, k⟩
      rcases List.mem_cons.1 hz with rfl | hz
      · exact h
      · exact lt_trans h ((List.pairwise_cons.1 k).1 z hz)
    · rintro ⟨h, k⟩
      exact ⟨h y (by simp), k⟩

/-- Two ascending lists with the same members are one. -/
theorem asc_ext : ∀ {l m : List Bs}, Asc l → Asc m → (∀ x, x ∈ l ↔ x ∈ m) → l = m
  | [], [], _, _, _ => rfl
  | [], y :: m, _, _, h => by have := (h y).2 (by simp); cases this
  | x :: l, [], _, _, h => by have := (h x).1 (by simp); cases this
  | x :: l, y :: m, hl, hm, h => by
    obtain ⟨h1, h2⟩ := List.pairwise_cons.1 hl
    obtain ⟨k1, k2⟩ := List.pairwise_cons.1 hm
    have e : x = y := by
      rcases List.mem_cons.1 ((h x).1 (by simp)) with e | e
      · exact e
      · rcases List.mem_cons.1 ((h y).2 (by simp)) with e' | e'
        · exact e'.symm
        · have := lt_trans (k1 x e) (h1 y e'); rw [lt_irrefl] at this; cases this
    subst e
    have := asc_ext h2 k2 (fun z => by
      constructor
      · intro hz
        rcases List.mem_cons.1 ((h z).1 (List.mem_cons_of_mem _ hz)) with rfl | e
        · have := h1 z hz; rw [lt_irrefl] at this; cases this
        · exact e
      · intro hz
        rcases List.mem_cons.1 ((h z).2 (List.mem_cons_of_mem _ hz)) with rfl | e
        · have := k1 z hz; rw [lt_irrefl] at this; cases this
        · exact e)
    rw [this]

/-- Insertion into an ascending list. -/
def ins (f : Bs) : List Bs → List Bs
  | [] => [f]
  | x :: r => if lt x f then x :: ins f r else if x = f then x :: r else f :: x :: r
theorem mem_ins (f : Bs) : ∀ (l : List Bs) (x : Bs), x ∈ ins f l ↔ x = f ∨ x ∈ l
  | [], x => by simp [ins]
  | y :: r, x => by
    have ih := mem_ins f r x
    unfold ins
    split
    · rw [List.mem_cons, ih, List.mem_cons]; constructor
      · rintro (h | h | h) <;> simp [h]
      · rintro (h | h | h) <;> simp [h]
    · split
      · rename_i h; subst h; simp
      · simp
theorem asc_ins (f : Bs) : ∀ l : List Bs, Asc l → Asc (ins f l)
  | [], _ => by simp [ins, Asc]
  | y :: r, h => by
    obtain ⟨h1, h2⟩ := List.pairwise_cons.1 h
    have ih := asc_ins f r h2
    unfold ins
    split
    · rename_i hy
      refine List.pairwise_cons.2 ⟨fun z hz => ?_, ih⟩
      rcases (mem_ins f r z).1 hz with rfl | hz
      · exact hy
      · exact h1 z hz
    · rename_i hy
      split
      · exact h
      · rename_i hne
        have hf : lt f y = true := by
          rcases lt_tri f y with h | h | h
          · exact h
          · exact absurd h.symm hne
          · exact absurd h hy
        refine List.pairwise_cons.2 ⟨fun z hz => ?_, h⟩
        rcases List.mem_cons.1 hz with rfl | hz
        · exact hf
        · exact lt_trans hf (h1 z hz)

/-- The text of features. -/
def text (l : List Bs) : Bs := 124 :: l.flatMap fun f => f ++ [124]

/-- The features of what follows the first bar, the current one begun. -/
def scan : Bs → Bs → Option (List Bs)
  | _, [] => some []
  | cur, c :: r => if c = 124 then (if cur = [] then none else (scan [] r).map (cur :: ·)) else scan (cur ++ [c]) r

def parse (s : Bs) : List Bs × Nat :=
  if vErr s ≠ 0 then ([], vErr s)
  else if s.head? = some 124 ∧ s.getLast? = some 124 then
    match scan [] s.tail with
    | none => ([], 3)
    | some l => if asc l then (l, 0) else ([], 6)
  else ([], 3)

def fmt : List Bs → List Bs → Bs × Nat
  | acc, [] => if (text acc).length ≤ 120 then (text acc, 0) else ([], 2)
  | acc, f :: r => if vErr f ≠ 0 then ([], vErr f) else if f = [] ∨ (124 : UInt8) ∈ f then ([], 3) else fmt (ins f acc) r
def format (l : List Bs) : Bs × Nat := fmt [] l

def good (f : Bs) : Prop := vErr f = 0 ∧ f ≠ [] ∧ (124 : UInt8) ∉ f

theorem scan_some : ∀ (r cur : Bs) (l : List Bs), scan cur r = some l → (124 : UInt8) ∉ cur → (r = [] ∨ r.getLast? = some 124) → (r = [] → cur = []) →
    cur ++ r = l.flatMap (fun f => f ++ [124]) ∧ ∀ f ∈ l, f ≠ [] ∧ (124 : UInt8) ∉ f
  | [], cur, l, h, _, _, h0 => by simp [scan] at h; subst h; simp [h0 rfl]
  | c :: r, cur, l, h, hc, hl, _ => by
    have hr : r = [] ∨ r.getLast? = some 124 := by
      rcases r with _ | ⟨d, r⟩
      · exact .inl rfl
      · right; rcases hl with h | h
        · cases h
        · rw [List.getLast?_cons_cons] at h; exact h
    unfold scan at h
    split at h
    · rename_i e; subst e
      split at h
      · cases h
      · rename_i hne
        cases hs : scan [] r with
        | none => rw [hs] at h; cases h
        | some l' =>
          rw [hs] at h; simp at h; subst h
          obtain ⟨i1, i2⟩ := scan_some r [] l' hs (by simp) hr (fun _ => rfl)
          simp at i1
          refine ⟨by simp [← i1], ?_⟩
          intro f hf
          rcases List.mem_cons.1 hf with rfl | hf
          · exact ⟨hne, hc⟩
          · exact i2 f hf
    · rename_i hne
      have := scan_some r (cur ++ [c]) l h (by simp [hc]; exact fun e => hne e.symm) hr (fun e => by
        subst e
        rcases hl with h | h
        · cases h
        · simp at h; exact absurd h hne)
      simpa using this

theorem scan_run : ∀ (f r cur : Bs), (124 : UInt8) ∉ f → scan cur (f ++ r) = scan (cur ++ f) r
  | [], r, cur, _ => by simp
  | c :: f, r, cur, h => by
    simp at h
    rw [List.cons_append, scan, if_neg (fun e => h.1 e.symm), scan_run f r _ h.2]
    simp
theorem scan_text : ∀ l : List Bs, (∀ f ∈ l, f ≠ [] ∧ (124 : UInt8) ∉ f) → scan [] (l.flatMap fun f => f ++ [124]) = some l
  | [], _ => rfl
  | f :: l, h => by
    obtain ⟨h1, h2⟩ := h f (by simp)
    rw [List.flatMap_cons, List.append_assoc, scan_run _ _ _ h2]
    simp only [List.nil_append, List.cons_append, scan, if_true, h1, if_false]
    rw [scan_text l (fun g hg => h g (List.mem_cons_of_mem _ hg))]
    rfl

theorem getLast_text : ∀ l : List Bs, (text l).getLast? = some 124 := by
  intro l
  rcases List.eq_nil_or_concat l with rfl | ⟨m, f, rfl⟩
  · rfl
  · simp [text, List.flatMap_append]
    rw [List.getLast?_cons]; simp

theorem ctlB_append (a b : Bs) : ctlB (a ++ b) = (ctlB a || ctlB b) := by unfold ctlB; rw [List.any_append]
theorem ok_flat : ∀ l : List Bs, (∀ f ∈ l, ok f = true ∧ ctlB f = false) → ok (l.flatMap fun f => f ++ [124]) = true ∧ ctlB (l.flatMap fun f => f ++ [124]) = false
  | [], _ => ⟨rfl, rfl⟩
  | f :: l, h => by
    obtain ⟨i1, i2⟩ := ok_flat l (fun g hg => h g (List.mem_cons_of_mem _ hg))
    obtain ⟨h1, h2⟩ := h f (by simp)
    rw [List.flatMap_cons]
    refine ⟨ok_append _ _ (ok_append _ _ h1 (by decide)) i1, ?_⟩
    rw [ctlB_append, ctlB_append, h2, i2]; rfl
theorem flat_ok : ∀ l : List Bs, ok (l.flatMap fun f => f ++ [124]) = true → ctlB (l.flatMap fun f => f ++ [124]) = false → ∀ f ∈ l, ok f = true ∧ ctlB f = false
  | [], _, _ => by simp
  | f :: l, h, k => by
    rw [List.flatMap_cons] at h k
    rw [ctlB_append, ctlB_append] at k
    rw [List.append_assoc] at h
    have := ok_cut f 124 (l.flatMap fun f => f ++ [124]) (by decide) (by simpa using h)
    simp at k
    have ih := flat_ok l this.2 (by simp [k.2])
    intro g hg
    rcases List.mem_cons.1 hg with rfl | hg
    · exact ⟨this.1, k.1.1⟩
    · exact ih g hg
theorem len_flat : ∀ (l : List Bs) (f : Bs), f ∈ l → f.length ≤ (l.flatMap fun f => f ++ [124]).length
  | x :: l, f, h => by
    rw [List.flatMap_cons, List.length_append]
    rcases List.mem_cons.1 h with rfl | h
    · simp; omega
    · have := len_flat l f h; omega

/-- What is parsed is the text of ascending good features. -/
theorem parse_ok {s : Bs} {l : List Bs} (h : parse s = (l, 0)) : s = text l ∧ Asc l ∧ (∀ f ∈ l, good f) ∧ (text l).length ≤ 120 := by
  unfold parse at h
  split at h
  · rename_i h0; exact absurd (congrArg Prod.snd h) h0
  · rename_i h0
    have h0 : vErr s = 0 := by simpa using h0
    obtain ⟨hlen, hok, hctl⟩ := (vErr_zero s).1 h0
    split at h
    · rename_i hb
      split at h
      · cases h
      · rename_i l' hs
        split at h
        · rename_i ha
          cases h
          cases s with
          | nil => simp at hb
          | cons c r =>
            simp at hb
            obtain ⟨rfl, hl⟩ := hb
            rw [List.tail_cons] at hs
            have hr : r = [] ∨ r.getLast? = some 124 := by
              rcases r with _ | ⟨d, r⟩
              · exact .inl rfl
              · right; rw [List.getLast?_cons_cons] at hl; exact hl
            obtain ⟨i1, i2⟩ := scan_some r [] l hs (by simp) hr (fun _ => rfl)
            simp at i1
            have e : (124 : UInt8) :: r = text l := by rw [i1]; rfl
            refine ⟨e, (asc_iff l).1 ha, ?_, by rw [← e]; exact hlen⟩
            rw [ok_ascii _ _ (by decide), i1] at hok
            have hctl' : ctlB (l.flatMap fun f => f ++ [124]) = false := by
              rw [← i1]; unfold ctlB at hctl ⊢; rw [List.any_cons] at hctl; simp at hctl; simpa using hctl.2
            have i3 := flat_ok l hok hctl'
            intro f hf
            refine ⟨(vErr_zero f).2 ⟨?_, (i3 f hf).1, (i3 f hf).2⟩, i2 f hf⟩
            have := len_flat l f hf
            rw [← i1] at this; simp at hlen; omega
        · cases h
    · cases h

theorem parse_text {l : List Bs} (ha : Asc l) (hg : ∀ f ∈ l, good f) (hl : (text l).length ≤ 120) : parse (text l) = (l, 0) := by
  have hv : vErr (text l) = 0 := by
    obtain ⟨i1, i2⟩ := ok_flat l (fun f hf => ((vErr_zero f).1 (hg f hf).1).2)
    refine (vErr_zero _).2 ⟨hl, ?_, ?_⟩
    · unfold text; rw [ok_ascii _ _ (by decide)]; exact i1
    · unfold text ctlB; rw [List.any_cons]; unfold ctlB at i2; rw [i2]; rfl
  unfold parse
  rw [hv, if_neg (by simp), if_pos ⟨rfl, getLast_text l⟩]
  show (match scan [] (text l).tail with | none => ([], 3) | some l => if asc l then (l, 0) else ([], 6)) = _
  rw [show (text l).tail = l.flatMap fun f => f ++ [124] from rfl, scan_text l (fun f hf => (hg f hf).2)]
  simp [(asc_iff l).2 ha]

theorem parse_snd_le (s : Bs) (h : (parse s).2 ≠ 0) : (parse s).1 = [] := by
  unfold parse at h ⊢
  split
  · rfl
  · rename_i h0
    rw [if_neg h0] at h
    split
    · rename_i h1
      rw [if_pos h1] at h
      split
      · rfl
      · rename_i hs
        rw [hs] at h
        split
        · rename_i ha; simp [ha] at h
        · rfl
    · rfl

/-- All of a list, inserted. -/
def insAll (acc l : List Bs) : List Bs := l.foldl (fun a f => ins f a) acc
theorem mem_insAll : ∀ (l acc : List Bs) (x : Bs), x ∈ insAll acc l ↔ x ∈ acc ∨ x ∈ l
  | [], acc, x => by simp [insAll]
  | f :: l, acc, x => by
    have := mem_insAll l (ins f acc) x
    unfold insAll at this ⊢
    rw [List.foldl_cons, this, mem_ins, List.mem_cons]
    constructor
    · rintro ((h | h) | h) <;> simp [h]
    · rintro (h | h | h) <;> simp [h]
theorem asc_insAll : ∀ (l acc : List Bs), Asc acc → Asc (insAll acc l)
  | [], _, h => h
  | f :: l, acc, h => by
    have := asc_insAll l (ins f acc) (asc_ins f acc h)
    exact this
theorem fmt_good : ∀ (l acc : List Bs), (∀ f ∈ l, good f) → fmt acc l = if (text (insAll acc l)).length ≤ 120 then (text (insAll acc l), 0) else ([], 2)
  | [], _, _ => rfl
  | f :: l, acc, h => by
    obtain ⟨h1, h2, h3⟩ := h f (by simp)
    rw [fmt, if_neg (by simp [h1]), if_neg (by simp [h2, h3]), fmt_good l _ (fun g hg => h g (List.mem_cons_of_mem _ hg))]
    rfl
/-- Good features in whatever order: what is formatted is the text of their ascending list. -/
theorem format_good {l m : List Bs} (hg : ∀ f ∈ l, good f) (hm : Asc m) (hs : ∀ x, x ∈ m ↔ x ∈ l) : format l = if (text m).length ≤ 120 then (text m, 0) else ([], 2) := by
  have e : insAll [] l = m := asc_ext (asc_insAll l [] (by simp [Asc])) hm (fun x => by rw [mem_insAll, hs]; simp)
  unfold format
  rw [fmt_good l [] hg, e]
theorem text_inj {l m : List Bs} (hl : ∀ f ∈ l, good f) (hm : ∀ f ∈ m, good f) (h : text l = text m) : l = m := by
  have h1 := scan_text l (fun f hf => (hl f hf).2)
  have h2 := scan_text m (fun f hf => (hm f hf).2)
  have : (l.flatMap fun f => f ++ [124]) = m.flatMap fun f => f ++ [124] := by simpa [text] using h
  rw [this, h2] at h1
  exact (Option.some.inj h1).symm

def has (s f : Bs) : Bool := (parse s).2 == 0 && (parse s).1.elem f
def both (a b : Bs) (k : List Bs → List Bs → Bs × Nat) : Bs × Nat :=
  if (parse a).2 ≠ 0 then ([], (parse a).2) else if (parse b).2 ≠ 0 then ([], (parse b).2) else k (parse a).1 (parse b).1
def union (a b : Bs) : Bs × Nat := both a b fun x y => format (x ++ y)
def inter (a b : Bs) : Bs × Nat := both a b fun x y => format (x.filter fun f => y.elem f)
def rinter (a b : Bs) : Bs × Nat := both a b fun x y => (text (x.filter fun f => y.elem f), 0)
def subset (a b : Bs) : Bool × Nat :=
  if (parse a).2 ≠ 0 then (false, (parse a).2) else if (parse b).2 ≠ 0 then (false, (parse b).2) else ((parse a).1.all fun f => (parse b).1.elem f, 0)

theorem parse_cases (s : Bs) : (parse s).2 ≠ 0 ∨ ∃ l, parse s = (l, 0) := by
  by_cases h : (parse s).2 = 0
  · right; exact ⟨(parse s).1, by rw [← h]⟩
  · exact .inl h

theorem len_text_filter (p : Bs → Bool) : ∀ l : List Bs, (text (l.filter p)).length ≤ (text l).length := by
  intro l
  unfold text
  simp only [List.length_cons]
  have : ∀ l : List Bs, ((l.filter p).flatMap fun f => f ++ [124]).length ≤ (l.flatMap fun f => f ++ [(124 : UInt8)]).length := by
    intro l
    induction l with
    | nil => simp
    | cons f l ih =>
      rw [List.filter_cons]
      split
      · simp only [List.flatMap_cons, List.length_append] at ih ⊢; omega
      · simp only [List.flatMap_cons, List.length_append] at ih ⊢; omega
  have := this l
  omega

theorem format_filter {a : Bs} {x : List Bs} (h : parse a = (x, 0)) (p : Bs → Bool) : format (x.filter p) = (text (x.filter p), 0) ∧ parse (text (x.filter p)) = (x.filter p, 0) := by
  obtain ⟨_, h2, h3, h4⟩ := parse_ok h
  have hl := len_text_filter p x
  have hg : ∀ f ∈ x.filter p, good f := fun f hf => h3 f (List.mem_filter.1 hf).1
  have ha : Asc (x.filter p) := List.Pairwise.filter _ h2
  exact ⟨by rw [format_good hg ha (fun _ => Iff.rfl), if_pos (by omega)], parse_text ha hg (by omega)⟩

theorem inter_eq (a b : Bs) : inter a b = rinter a b := by
  unfold inter rinter both
  rcases parse_cases a with h | ⟨x, hx⟩
  · rw [if_pos h, if_pos h]
  · rcases parse_cases b with k | ⟨y, hy⟩
    · rw [if_neg (by simp [hx]), if_pos k, if_neg (by simp [hx]), if_pos k]
    · rw [if_neg (by simp [hx]), if_neg (by simp [hy]), if_neg (by simp [hx]), if_neg (by simp [hy]), hx, hy]; exact (format_filter hx (fun f => y.elem f)).1

/-- The ascending list of two ascending lists' members. -/
def uni (x y : List Bs) : List Bs := insAll [] (x ++ y)
theorem mem_uni (x y : List Bs) (f : Bs) : f ∈ uni x y ↔ f ∈ x ∨ f ∈ y := by unfold uni; rw [mem_insAll]; simp
theorem asc_uni (x y : List Bs) : Asc (uni x y) := asc_insAll _ _ (by simp [Asc])
theorem union_ok {a b : Bs} {x y : List Bs} (h : parse a = (x, 0)) (k : parse b = (y, 0)) :
    union a b = if (text (uni x y)).length ≤ 120 then (text (uni x y), 0) else ([], 2) := by
  obtain ⟨_, _, h3, _⟩ := parse_ok h
  obtain ⟨_, _, k3, _⟩ := parse_ok k
  unfold union both
  rw [if_neg (by simp [h]), if_neg (by simp [k]), h, k]
  refine format_good (fun f hf => ?_) (asc_uni x y) (fun f => by rw [mem_uni, List.mem_append])
  rcases List.mem_append.1 hf with hf | hf
  · exact h3 f hf
  · exact k3 f hf
theorem good_uni {a b : Bs} {x y : List Bs} (h : parse a = (x, 0)) (k : parse b = (y, 0)) : ∀ f ∈ uni x y, good f := by
  intro f hf
  rcases (mem_uni x y f).1 hf with hf | hf
  · exact (parse_ok h).2.2.1 f hf
  · exact (parse_ok k).2.2.1 f hf
theorem parse_uni {a b : Bs} {x y : List Bs} (h : parse a = (x, 0)) (k : parse b = (y, 0)) (hl : (text (uni x y)).length ≤ 120) : parse (text (uni x y)) = (uni x y, 0) :=
  parse_text (asc_uni x y) (good_uni h k) hl
theorem inter_ok {a b : Bs} {x y : List Bs} (h : parse a = (x, 0)) (k : parse b = (y, 0)) :
    inter a b = (text (x.filter fun f => y.elem f), 0) ∧ parse (text (x.filter fun f => y.elem f)) = (x.filter fun f => y.elem f, 0) := by
  have := format_filter h (fun f => y.elem f)
  unfold inter both
  rw [if_neg (by simp [h]), if_neg (by simp [k]), h, k]
  exact this
theorem both_err {a b : Bs} {k : List Bs → List Bs → Bs × Nat} (h : (both a b k).2 = 0) : ∃ x y, parse a = (x, 0) ∧ parse b = (y, 0) := by
  unfold both at h
  rcases parse_cases a with h' | ⟨x, hx⟩
  · rw [if_pos h'] at h; exact absurd h h'
  · rcases parse_cases b with k' | ⟨y, hy⟩
    · rw [if_neg (by simp [hx]), if_pos k'] at h; exact absurd h k'
    · exact ⟨x, y, hx, hy⟩
theorem elem_iff (l : List Bs) (f : Bs) : l.elem f = true ↔ f ∈ l := List.elem_iff

theorem law_members (a b f : Bs) (h : (union a b).2 = 0) :
    has (union a b).1 f = (has a f || has b f) ∧ has (inter a b).1 f = (has a f && has b f) := by
  obtain ⟨x, y, hx, hy⟩ := both_err h
  have hu := union_ok hx hy
  rw [hu] at h
  have hl : (text (uni x y)).length ≤ 120 := by
    by_cases hl : (text (uni x y)).length ≤ 120
    · exact hl
    · rw [if_neg hl] at h; cases h
  rw [hu, if_pos hl, (inter_ok hx hy).1]
  unfold has
  rw [parse_uni hx hy hl, (inter_ok hx hy).2, hx, hy]
  constructor
  · rw [Bool.eq_iff_iff]; simp [mem_uni]
  · rw [Bool.eq_iff_iff]; simp [List.mem_filter]

theorem law_lattice (a b : Bs) (h : (subset a b).2 = 0) : (inter a b).2 = 0 ∧ (((inter a b).1 == a) = (subset a b).1) ∧
    (((union a b).2 = 2 ∧ (subset a b).1 = false) ∨ ((union a b).2 = 0 ∧ ((union a b).1 == b) = (subset a b).1)) := by
  have he : ∃ x y, parse a = (x, 0) ∧ parse b = (y, 0) := by
    unfold subset at h
    rcases parse_cases a with h' | ⟨x, hx⟩
    · rw [if_pos h'] at h; exact absurd h h'
    · rcases parse_cases b with k' | ⟨y, hy⟩
      · rw [if_neg (by simp [hx]), if_pos k'] at h; exact absurd h k'
      · exact ⟨x, y, hx, hy⟩
  obtain ⟨x, y, hx, hy⟩ := he
  obtain ⟨a1, a2, a3, a4⟩ := parse_ok hx
  obtain ⟨b1, b2, b3, b4⟩ := parse_ok hy
  have hs : (subset a b).1 = true ↔ ∀ f ∈ x, f ∈ y := by
    unfold subset; rw [if_neg (by simp [hx]), if_neg (by simp [hy]), hx, hy]; simp
  rw [(inter_ok hx hy).1]
  refine ⟨rfl, ?_, ?_⟩
  · rw [Bool.eq_iff_iff, hs, beq_iff_eq]
    constructor
    · intro e f hf
      have e' : x.filter (fun f => y.elem f) = x := text_inj (fun g hg => a3 g (List.mem_filter.1 hg).1) a3 (by rw [← a1]; exact e)
      rw [← e'] at hf
      simpa using (List.mem_filter.1 hf).2
    · intro e
      show text _ = a
      rw [a1, List.filter_eq_self.2 (fun f hf => by simpa using e f hf)]
  · rw [union_ok hx hy]
    by_cases hl : (text (uni x y)).length ≤ 120
    · right
      rw [if_pos hl]
      refine ⟨rfl, ?_⟩
      rw [Bool.eq_iff_iff, hs, beq_iff_eq]
      constructor
      · intro e f hf
        have e' : uni x y = y := text_inj (good_uni hx hy) b3 (by rw [← b1]; exact e)
        rw [← e']; exact (mem_uni x y f).2 (.inl hf)
      · intro e
        have e' : uni x y = y := asc_ext (asc_uni x y) b2 (fun f => by rw [mem_uni]; exact ⟨fun h => h.elim (e f) id, .inr⟩)
        show text _ = b
        rw [e', ← b1]
    · left
      rw [if_neg hl]
      refine ⟨rfl, ?_⟩
      cases hsb : (subset a b).1 with
      | false => rfl
      | true =>
        have e := hs.1 hsb
        have e' : uni x y = y := asc_ext (asc_uni x y) b2 (fun f => by rw [mem_uni]; exact ⟨fun h => h.elim (e f) id, .inr⟩)
        rw [e'] at hl; exact absurd b4 hl

theorem law_assoc_u (a b c : Bs) (h : (union a b).2 = 0) (k : (union c b).2 = 0) : union (union a b).1 c = union a (union c b).1 := by
  obtain ⟨x, y, hx, hy⟩ := both_err h
  obtain ⟨z, _, hz, _⟩ := both_err k
  have l1 : (text (uni x y)).length ≤ 120 := by
    by_cases hl : (text (uni x y)).length ≤ 120
    · exact hl
    · rw [union_ok hx hy, if_neg hl] at h; cases h
  have l2 : (text (uni z y)).length ≤ 120 := by
    by_cases hl : (text (uni z y)).length ≤ 120
    · exact hl
    · rw [union_ok hz hy, if_neg hl] at k; cases k
  rw [union_ok hx hy, union_ok hz hy, if_pos l1, if_pos l2, union_ok (parse_uni hx hy l1) hz, union_ok hx (parse_uni hz hy l2)]
  have : uni (uni x y) z = uni x (uni z y) := asc_ext (asc_uni _ _) (asc_uni _ _) (fun f => by simp only [mem_uni]; exact ⟨fun q => q.elim (fun q => q.elim .inl (fun q => .inr (.inr q))) (fun q => .inr (.inl q)), fun q => q.elim (fun q => .inl (.inl q)) (fun q => q.elim .inr (fun q => .inl (.inr q)))⟩)
  rw [this]
theorem law_assoc_i (a b c : Bs) (h : (inter a b).2 = 0) (k : (inter c b).2 = 0) : inter (inter a b).1 c = inter a (inter c b).1 := by
  obtain ⟨x, y, hx, hy⟩ := both_err h
  obtain ⟨z, _, hz, _⟩ := both_err k
  rw [(inter_ok hx hy).1, (inter_ok hz hy).1, (inter_ok (inter_ok hx hy).2 hz).1, (inter_ok hx (inter_ok hz hy).2).1]
  congr 2
  rw [List.filter_filter]
  refine List.filter_congr fun f _ => ?_
  rw [Bool.eq_iff_iff]
  simp [List.mem_filter, and_comm]

theorem law_round {s : Bs} {l m : List Bs} (h : parse s = (l, 0)) (hm : ∀ x, x ∈ m ↔ x ∈ l) : format m = (s, 0) := by
  obtain ⟨h1, h2, h3, h4⟩ := parse_ok h
  rw [format_good (fun f hf => h3 f ((hm f).1 hf)) h2 (fun x => (hm x).symm), if_pos h4, ← h1]
end Go.Proofs.YtnbnmomichegaaaDoor.Feat
