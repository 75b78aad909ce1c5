/-
 Several texts of this seat, one behind the other: VertTokP, VertEndP, VertP, VertKey. No conditions but those of each.
-/
import Derived.Test.YtgkdaebiefhgdaaGreatDoorPVert
import Derived.Test.YtgkdaebiefhgdaaGreatDoorPMarkAll
import Derived.Test.YtgkdaebiefhgdaaGreatDoorPDepAll
namespace Go.Proofs.YtgkdaebiefhgdaaGreatDoor
set_option linter.unusedSimpArgs false
set_option linter.unusedVariables false
open Feat (Bs)
open Tagp (unesc)
open Cor (vlErr)
open Vert (Rd splitT fields tokenP)
def tot (l : List Bs) : Nat := (l.map fun p => p.length + 1).sum
theorem tot_cons (p : Bs) (l : List Bs) : tot (p :: l) = p.length + 1 + tot l := by simp [tot]
theorem splitT_tot : ∀ s : Bs, tot (splitT s) = s.length + 1
 | [] => rfl
 | c :: s => by
  have ih := splitT_tot s
  unfold splitT
  split
  ·rw [tot_cons, ih]; simp; omega
  ·cases h : splitT s with
   | nil => exact absurd h (Vert.splitT_ne s)
   | cons x r =>
    rw [h, tot_cons] at ih
    simp only [tot_cons, List.length_cons]
    omega
theorem fields_many {ats : List (Bs × Bool)} {raw : Bs} {rs : List Bs} {a : Nat} {vs : List Bs} (h : vs.length = ats.length) : fields ats (raw :: rs) a vs = .error (a, 15) := by
 unfold fields
 rw [List.getElem?_eq_none (by omega)]
theorem fields_une {ats : List (Bs × Bool)} {raw : Bs} {rs : List Bs} {a : Nat} {vs : List Bs} (h : vs.length < ats.length) (he : (unesc raw).2.2 ≠ 0) : fields ats (raw :: rs) a vs = .error (a + (unesc raw).2.1, (unesc raw).2.2) := by
 unfold fields
 rw [List.getElem?_eq_getElem h]
 dsimp only
 rw [if_pos he]
theorem fields_val {ats : List (Bs × Bool)} {raw : Bs} {rs : List Bs} {a : Nat} {vs : List Bs} (h : vs.length < ats.length) (h0 : (unesc raw).2.2 = 0) (he : vlErr ats[vs.length] (unesc raw).1 ≠ 0) : fields ats (raw :: rs) a vs = .error (a, vlErr ats[vs.length] (unesc raw).1) := by
 unfold fields
 rw [List.getElem?_eq_getElem h]
 dsimp only
 rw [if_neg (by simp [h0]), if_pos he]
theorem fields_step {ats : List (Bs × Bool)} {raw : Bs} {rs : List Bs} {a : Nat} {vs : List Bs} (h : vs.length < ats.length) (h0 : (unesc raw).2.2 = 0) (he : vlErr ats[vs.length] (unesc raw).1 = 0) : fields ats (raw :: rs) a vs = fields ats rs (a + raw.length + 1) (vs ++ [(unesc raw).1]) := by
 rw [fields, List.getElem?_eq_getElem h]
 dsimp only
 rw [if_neg (by simp [h0]), if_neg (by simp [he])]
theorem token_err {ats : List (Bs × Bool)} {x : Rd} {s : Bs} {p : Nat × Nat} (h1 : x.tx = true) (h2 : x.toks.length ≠ 4096) (h : fields ats (splitT s) 0 [] = .error p) : tokenP ats x s = .error p := by
 unfold tokenP; rw [if_neg (by simp [h1]), if_neg h2, h]
theorem token_few {ats : List (Bs × Bool)} {x : Rd} {s : Bs} {vs : List Bs} (h1 : x.tx = true) (h2 : x.toks.length ≠ 4096) (h : fields ats (splitT s) 0 [] = .ok vs) (h3 : vs.length < ats.length) : tokenP ats x s = .error (s.length, 15) := by
 unfold tokenP; rw [if_neg (by simp [h1]), if_neg h2, h]; dsimp only; rw [if_pos h3]
theorem token_ok {ats : List (Bs × Bool)} {x : Rd} {s : Bs} {vs : List Bs} (h1 : x.tx = true) (h2 : x.toks.length ≠ 4096) (h : fields ats (splitT s) 0 [] = .ok vs) (h3 : ¬ vs.length < ats.length) : tokenP ats x s = .ok { x with toks := x.toks ++ [vs] } := by
 unfold tokenP; rw [if_neg (by simp [h1]), if_neg h2, h]; dsimp only; rw [if_neg h3]
end Go.Proofs.YtgkdaebiefhgdaaGreatDoor
namespace Go.Proofs.YtgkdaebiefhgdaaGreatDoor
open Feat (Bs)
open Vert (lastOf)
theorem lastOf_none {nm : Bs} : ∀ {l : List Cor.Reg}, (∀ j (hj : j < l.length), l[j].nm ≠ nm) → lastOf nm l = none
 | [], _ => rfl
 | r :: l, h => by
  have h0 := h 0 (by simp)
  have ih := lastOf_none (l := l) (fun j hj => by have := h (j + 1) (by simpa using hj); simpa using this)
  unfold lastOf
  rw [ih]
  simpa using h0
theorem lastOf_at {nm : Bs} : ∀ {l : List Cor.Reg} {i : Nat} (hi : i < l.length), l[i].nm = nm → (∀ j (_ : i < j) (hj : j < l.length), l[j].nm ≠ nm) → lastOf nm l = some i
 | r :: l, 0, _, h, hb => by
  have ih := lastOf_none (nm := nm) (l := l) (fun j hj => by have := hb (j + 1) (by omega) (by simpa using hj); simpa using this)
  unfold lastOf
  rw [ih]
  simpa using h
 | r :: l, i + 1, hi, h, hb => by
  have ih := lastOf_at (nm := nm) (l := l) (i := i) (by simpa using hi) (by simpa using h) (fun j h1 hj => by have := hb (j + 1) (by omega) (by simpa using hj); simpa using this)
  unfold lastOf
  rw [ih]
end Go.Proofs.YtgkdaebiefhgdaaGreatDoor
namespace Go.Proofs.YtgkdaebiefhgdaaGreatDoor
set_option linter.unusedSimpArgs false
set_option linter.unusedVariables false
open Utf
open Feat (Bs)
open Tagp (KV eatP nameP valueP keyP keysP tagP plainCh unesc)
open Vert (Rd splitT fields tokenP lineV lineOf parseV readV tagOf tagLine)
theorem eatP_at {s : Bs} {c : UInt8} {i : Nat} {p : Nat × Nat} (hi : i ≤ s.length) (h : eatP s c i = .error p) : p.1 ≤ s.length := by
 unfold eatP at h
 split at h
 ·cases h
 ·cases h; exact hi
theorem nameP_at {s : Bs} {i : Nat} {p : Nat × Nat} (hi : i ≤ s.length) (h : nameP s i = .error p) : p.1 ≤ s.length := by
 unfold nameP at h
 split at h
 ·split at h
  ·cases h; exact hi
  ·cases h
 ·cases h; exact hi
theorem valueP_at {s : Bs} {i : Nat} {p : Nat × Nat} (hi : i ≤ s.length) (h : valueP s i = .error p) : p.1 ≤ s.length := by
 have hr := run_le plainCh s i hi
 have hg := run_ge plainCh s i
 unfold valueP at h
 split at h
 ·rename_i e he
  cases h; exact eatP_at hr he
 ·split at h
  rename_i v a' e hu
  have hul := (unesc_len ((s.drop i).take (Tagp.run plainCh s i - i))).2
  rw [hu] at hul
  simp only [List.length_take, List.length_drop] at hul
  split at h
  ·cases h
   show i + a' ≤ _
   omega
  ·split at h
   ·cases h; exact hi
   ·cases h
theorem keyP_at {s : Bs} {l : List KV} {i : Nat} {p : Nat × Nat} (hi : i ≤ s.length) (h : keyP s l i = .error p) : p.1 ≤ s.length := by
 unfold keyP at h
 split at h
 ·rename_i e he
  cases h; exact nameP_at hi he
 ·rename_i n j hn
  have hj := (nameP_le hi hn).1
  split at h
  ·cases h; exact hi
  ·split at h
   ·cases h; exact hi
   ·split at h
    ·rename_i e he
     cases h; exact eatP_at hj he
    ·rename_i j2 hj2
     split at h
     ·rename_i e he
      cases h; exact eatP_at (eatP_le hj2).1 he
     ·rename_i j3 hj3
      split at h
      ·rename_i e he
       cases h; exact valueP_at (eatP_le hj3).1 he
      ·cases h
theorem keysP_at {s : Bs} {p : Nat × Nat} : ∀ (k : Nat) (l : List KV) (i : Nat), i ≤ s.length → keysP s k l i = .error p → p.1 ≤ s.length
 | 0, l, i, hi, h => by cases h
 | k + 1, l, i, hi, h => by
  rw [keysP] at h
  split at h
  ·split at h
   ·rename_i e he
    cases h; exact keyP_at (run_le _ s i hi) he
   ·rename_i hK
    exact keysP_at k _ _ (keyP_le hK) h
  ·cases h
theorem keysP_to {s : Bs} : ∀ (k : Nat) (l : List KV) (i : Nat) (m : List KV) (j : Nat), i ≤ s.length → keysP s k l i = .ok (m, j) → j ≤ s.length
 | 0, l, i, m, j, hi, h => by cases h; exact hi
 | k + 1, l, i, m, j, hi, h => by
  rw [keysP] at h
  split at h
  ·split at h
   ·cases h
   ·rename_i hK
    exact keysP_to k _ _ m j (keyP_le hK) h
  ·cases h; exact hi
theorem tagP_at {s : Bs} {p : Nat × Nat} (h : tagP s = .error p) : p.1 ≤ s.length := by
 unfold tagP at h
 cases hE : eatP s 60 0 with
 | error q => rw [hE] at h; cases h; exact eatP_at (Nat.zero_le _) hE
 | ok j0 =>
  rw [hE] at h
  have h1 := (eatP_le hE).1
  have h2 := (eatP_le hE).2
  dsimp only at h
  have hi0 : (if (s[1]? == some 47) = true then 2 else 1) ≤ s.length := by
   split
   ·rename_i hc
    have hc' : s[1]? = some 47 := by simpa using hc
    have := (List.getElem?_eq_some_iff.1 hc').1
    omega
   ·omega
  cases hN : nameP s (if (s[1]? == some 47) = true then 2 else 1) with
  | error q => rw [hN] at h; cases h; exact nameP_at hi0 hN
  | ok r =>
   obtain ⟨n, i⟩ := r
   rw [hN] at h
   have hi := (nameP_le hi0 hN).1
   dsimp only at h
   cases hK : (if (s[1]? == some 47) = true then (.ok ([], i) : Tagp.R (List KV × Nat)) else keysP s 9 [] i) with
   | error q =>
    rw [hK] at h; cases h
    split at hK
    ·cases hK
    ·exact keysP_at _ _ _ hi hK
   | ok r =>
    obtain ⟨l, i2⟩ := r
    rw [hK] at h
    dsimp only at h
    have hi2 : i2 ≤ s.length := by
     split at hK
     ·cases hK; exact hi
     ·exact keysP_to _ _ _ _ _ hi hK
    cases hE2 : eatP s 62 i2 with
    | error q => rw [hE2] at h; cases h; exact eatP_at hi2 hE2
    | ok i3 =>
     rw [hE2] at h
     dsimp only at h
     split at h
     ·cases h; exact (eatP_le hE2).1
     ·cases h
theorem tagOf_at (s : Bs) : (tagOf s).2.1 ≤ s.length := by
 unfold tagOf
 split
 ·exact Nat.zero_le _
 ·rename_i p hp
  exact tagP_at hp
theorem fields_at {ats : List (Bs × Bool)} {p : Nat × Nat} : ∀ (rs : List Bs) (a : Nat) (vs : List Bs), fields ats rs a vs = .error p → p.1 + 1 ≤ a + tot rs
 | [], a, vs, h => by cases h
 | raw :: rs, a, vs, h => by
  have hu := (unesc_len raw).2
  rw [tot_cons]
  rw [fields] at h
  split at h
  ·cases h
   show a + 1 ≤ _
   omega
  ·split at h
   ·cases h
    show a + (unesc raw).2.1 + 1 ≤ _
    omega
   ·split at h
    ·cases h
     show a + 1 ≤ _
     omega
    ·have := fields_at rs _ _ h
     omega
theorem tokenP_at {ats : List (Bs × Bool)} {x : Rd} {s : Bs} {p : Nat × Nat} (h : tokenP ats x s = .error p) : p.1 ≤ s.length := by
 unfold tokenP at h
 split at h
 ·cases h; exact Nat.zero_le _
 ·split at h
  ·cases h; exact Nat.zero_le _
  ·split at h
   ·rename_i q hq
    cases h
    have h1 := fields_at _ _ _ hq
    rw [splitT_tot] at h1
    omega
   ·split at h
    ·cases h; exact Nat.le_refl _
    ·cases h
theorem lineV_at {ats : List (Bs × Bool)} {x : Rd} {s : Bs} {p : Nat × Nat} (h : lineV ats x s = .error p) : p.1 ≤ s.length := by
 unfold lineV at h
 split at h
 ·split at h
  ·cases h; exact tagOf_at s
  ·split at h
   ·cases h; exact Nat.zero_le _
   ·cases h
 ·exact tokenP_at h
theorem fields_ne {ats : List (Bs × Bool)} {p : Nat × Nat} : ∀ (rs : List Bs) (a : Nat) (vs : List Bs), fields ats rs a vs = .error p → p.2 ≠ 0
 | [], a, vs, h => by cases h
 | raw :: rs, a, vs, h => by
  rw [fields] at h
  split at h
  ·cases h; exact fun e => by cases e
  ·split at h
   ·rename_i h0
    cases h; exact h0
   ·split at h
    ·rename_i h0
     cases h; exact h0
    ·exact fields_ne rs _ _ h
theorem tokenP_ne {ats : List (Bs × Bool)} {x : Rd} {s : Bs} {p : Nat × Nat} (h : tokenP ats x s = .error p) : p.2 ≠ 0 := by
 unfold tokenP at h
 split at h
 ·cases h; exact fun e => by cases e
 ·split at h
  ·cases h; exact fun e => by cases e
  ·split at h
   ·rename_i q hq
    cases h
    exact fields_ne _ _ _ hq
   ·split at h
    ·cases h; exact fun e => by cases e
    ·cases h
theorem tagLine_ne {x : Rd} {cl : Bool} {nm : Bs} {ks : List KV} {e : Nat} (h : tagLine x cl nm ks = .error e) : e ≠ 0 := by
 unfold tagLine Vert.endText Vert.beginText Vert.endReg Vert.beginReg at h
 intro e0
 subst e0
 repeat' split at h
 all_goals (first | cases h | (injection h with h; omega))
theorem lineV_ne {ats : List (Bs × Bool)} {x : Rd} {s : Bs} {p : Nat × Nat} (h : lineV ats x s = .error p) : p.2 ≠ 0 := by
 unfold lineV at h
 split at h
 ·split at h
  ·rename_i h0
   cases h; exact h0
  ·split at h
   ·rename_i e he
    cases h; exact tagLine_ne he
   ·cases h
 ·exact tokenP_ne h
theorem lineOf_le (l : Bs) : (lineOf l).length ≤ l.length := (List.takeWhile_prefix _).length_le
theorem parseV_nil (ats : List (Bs × Bool)) (f a : Nat) (x : Rd) : parseV ats f a [] x = .ok x := by
 cases f with
 | zero => rfl
 | succ f => rw [parseV, if_pos rfl]
theorem parseV_at {ats : List (Bs × Bool)} {p : Nat × Nat} : ∀ (f a : Nat) (rest : Bs) (x : Rd), parseV ats f a rest x = .error p → p.1 ≤ a + rest.length
 | 0, a, rest, x, h => by cases h
 | f + 1, a, rest, x, h => by
  rw [parseV] at h
  split at h
  ·cases h
  ·have hl := lineOf_le rest
   split at h
   ·rename_i q hq
    cases h
    have := lineV_at hq
    show a + q.1 ≤ _
    omega
   ·rename_i y hy
    by_cases he : (lineOf rest).length + 1 ≤ rest.length
    ·have := parseV_at f _ _ _ h
     rw [List.length_drop] at this
     omega
    ·rw [List.drop_eq_nil_of_le (by omega), parseV_nil] at h
     cases h
end Go.Proofs.YtgkdaebiefhgdaaGreatDoor
namespace Go.Proofs.YtgkdaebiefhgdaaGreatDoor
set_option linter.unusedSimpArgs false
set_option linter.unusedVariables false
open Utf
open Feat (Bs lt lt_tri)
open Tagp (KV eatP nameP valueP keyP keysP tagP okName beg gon hasK sortP insP Up)
theorem perm_ins (p : KV) : ∀ l : List KV, (insP p l).Perm (p :: l)
 | [] => List.Perm.refl _
 | q :: r => by
  unfold insP
  split
  ·exact List.Perm.refl _
  ·exact ((perm_ins p r).cons q).trans (List.Perm.swap p q r)
theorem perm_fold : ∀ (l m : List KV), (l.foldl (fun m p => insP p m) m).Perm (m ++ l)
 | [], m => by simp
 | p :: r, m => by
  rw [List.foldl_cons]
  refine (perm_fold r (insP p m)).trans ?_
  refine ((perm_ins p m).append_right r).trans ?_
  exact (List.perm_middle (a := p) (l₁ := m) (l₂ := r)).symm
theorem perm_sort (l : List KV) : (sortP l).Perm l := by
 have := perm_fold l []
 simpa [sortP] using this
theorem gon_of_beg {c : UInt8} (h : beg c = true) : gon c = true := by unfold gon; rw [h]; rfl
theorem nameP_ok {s n : Bs} {i j : Nat} (h : nameP s i = .ok (n, j)) : okName n = true := by
 unfold nameP at h
 split at h
 ·rename_i hb
  split at h
  ·cases h
  ·rename_i h32
   cases h
   have e : Tagp.run gon s i - i = ((s.drop i).takeWhile gon).length := by unfold Tagp.run; omega
   rw [e] at h32 ⊢
   rw [← List.prefix_iff_eq_take.1 (List.takeWhile_prefix gon)]
   cases hd : s.drop i with
   | nil =>
    have : s[i]? = none := by rw [List.getElem?_eq_none]; have := congrArg List.length hd; simp at this; omega
    rw [this] at hb; cases hb
   | cons c t =>
    have hc : s[i]? = some c := by
     have := congrArg (fun l => l[0]?) hd
     simpa using this
    rw [hc] at hb
    have hb' : beg c = true := by simpa using hb
    have hg := gon_of_beg hb'
    rw [hd, List.takeWhile_cons, if_pos hg] at h32
    rw [List.takeWhile_cons, if_pos hg]
    unfold okName
    have hall : ((c :: List.takeWhile gon t).all gon) = true := by
     rw [List.all_cons, hg, List.all_takeWhile]; rfl
    rw [hall]
    simp only [List.length_cons, List.head?_cons, Option.any_some, hb', Bool.and_true, Bool.and_eq_true, decide_eq_true_eq]
    simp only [List.length_cons] at h32
    omega
 ·cases h
theorem valueP_ok {s v : Bs} {i j : Nat} (h : valueP s i = .ok (v, j)) : vErr v = 0 := by
 unfold valueP at h
 split at h
 ·cases h
 ·split at h
  split at h
  ·cases h
  ·split at h
   ·cases h
   ·rename_i hv
    cases h
    simpa using hv
theorem keyP_ok {s : Bs} {l : List KV} {i j : Nat} {p : KV} (h : keyP s l i = .ok (p, j)) : okName p.1 = true ∧ vErr p.2 = 0 ∧ hasK l p.1 = false ∧ l.length ≠ 8 := by
 unfold keyP at h
 split at h
 ·cases h
 ·rename_i n j0 hn
  split at h
  ·cases h
  ·rename_i hh
   split at h
   ·cases h
   ·rename_i h8
    split at h
    ·cases h
    ·split at h
     ·cases h
     ·split at h
      ·cases h
      ·rename_i hv
       cases h
       exact ⟨nameP_ok hn, valueP_ok hv, by simpa using hh, h8⟩
def Good (l : List KV) : Prop := l.length ≤ 8 ∧ (∀ p ∈ l, okName p.1 = true ∧ vErr p.2 = 0) ∧ (l.map (·.1)).Nodup
theorem good_snoc {l : List KV} {p : KV} (h : Good l) (h1 : okName p.1 = true) (h2 : vErr p.2 = 0) (h3 : hasK l p.1 = false) (h4 : l.length ≠ 8) : Good (l ++ [p]) := by
 refine ⟨by rw [List.length_append, List.length_singleton]; have := h.1; omega, fun q hq => ?_, ?_⟩
 ·rcases List.mem_append.1 hq with hq | hq
  ·exact h.2.1 q hq
  ·simp at hq; subst hq; exact ⟨h1, h2⟩
 ·rw [List.map_append, List.nodup_append]
  refine ⟨h.2.2, by simp, fun a ha b hb => ?_⟩
  simp at hb
  subst hb
  intro e
  subst e
  obtain ⟨q, hq, e⟩ := List.mem_map.1 ha
  have : hasK l p.1 = true := by unfold hasK; rw [List.any_eq_true]; exact ⟨q, hq, by simpa using e⟩
  rw [this] at h3; cases h3
theorem keysP_ok {s : Bs} : ∀ (k : Nat) (l : List KV) (i : Nat) (m : List KV) (j : Nat), Good l → keysP s k l i = .ok (m, j) → Good m
 | 0, l, i, m, j, hg, h => by cases h; exact hg
 | k + 1, l, i, m, j, hg, h => by
  rw [keysP] at h
  split at h
  ·split at h
   ·cases h
   ·rename_i hK
    obtain ⟨h1, h2, h3, h4⟩ := keyP_ok hK
    exact keysP_ok k _ _ m j (good_snoc hg h1 h2 h3 h4) h
  ·cases h; exact hg
def GoodK (l : List KV) : Prop := l.length ≤ 8 ∧ (∀ p ∈ l, okName p.1 = true ∧ vErr p.2 = 0) ∧ l.Pairwise fun a b => lt a.1 b.1 = true
theorem good_sort {l : List KV} (h : Good l) : GoodK (sortP l) := by
 have hp := perm_sort l
 have hn : ((sortP l).map (·.1)).Nodup := (List.Perm.nodup_iff (hp.map _)).2 h.2.2
 refine ⟨by rw [hp.length_eq]; exact h.1, fun p hp' => h.2.1 p (hp.mem_iff.1 hp'), ?_⟩
 have hu := Tagp.sortP_up l
 unfold Up at hu
 have hn2 : (sortP l).Pairwise fun a b => a.1 ≠ b.1 := List.pairwise_map.1 hn
 refine (hu.and hn2).imp fun {a b} hab => ?_
 rcases lt_tri a.1 b.1 with e | e | e
 ·exact e
 ·exact absurd e hab.2
 ·rw [hab.1] at e; cases e
theorem goodK_nil : GoodK [] := ⟨Nat.zero_le _, fun p h => (by cases h), List.Pairwise.nil⟩
theorem tagP_ok {s n : Bs} {cl : Bool} {l : List KV} (h : tagP s = .ok (cl, n, l)) : okName n = true ∧ GoodK l ∧ (cl = true → l = []) := by
 unfold tagP at h
 cases hE : eatP s 60 0 with
 | error q => rw [hE] at h; cases h
 | ok j0 =>
  rw [hE] at h
  dsimp only at h
  cases hN : nameP s (if (s[1]? == some 47) = true then 2 else 1) with
  | error q => rw [hN] at h; cases h
  | ok r =>
   obtain ⟨n', i⟩ := r
   rw [hN] at h
   dsimp only at h
   cases hK : (if (s[1]? == some 47) = true then (.ok ([], i) : Tagp.R (List KV × Nat)) else keysP s 9 [] i) with
   | error q => rw [hK] at h; cases h
   | ok r =>
    obtain ⟨l', i2⟩ := r
    rw [hK] at h
    dsimp only at h
    cases hE2 : eatP s 62 i2 with
    | error q => rw [hE2] at h; cases h
    | ok i3 =>
     rw [hE2] at h
     dsimp only at h
     split at h
     ·cases h
     ·cases h
      refine ⟨nameP_ok hN, ?_, fun hc => ?_⟩
      ·refine good_sort ?_
       split at hK
       ·cases hK; exact (show Good [] from ⟨Nat.zero_le _, fun p h => (by cases h), List.Pairwise.nil⟩)
       ·exact keysP_ok _ _ _ _ _ (show Good [] from ⟨Nat.zero_le _, fun p h => (by cases h), List.Pairwise.nil⟩) hK
      ·rw [if_pos hc] at hK
       cases hK; rfl
theorem tagOf_keys (s : Bs) : GoodK (Vert.tagOf s).1.2.2 := by
 unfold Vert.tagOf
 split
 ·rename_i t ht
  obtain ⟨cl, n, l⟩ := t
  exact (tagP_ok ht).2.1
 ·exact goodK_nil
theorem okName_le32 {s : Bs} (h : okName s = true) : s.length ≤ 32 := by
 unfold okName at h
 simp only [Bool.and_eq_true, decide_eq_true_eq] at h
 omega
theorem goodK_len {l : List KV} (h : GoodK l) : ∀ p ∈ l, p.1.length ≤ 9223372036854775807 ∧ p.2.length ≤ 9223372036854775807 := fun p hp => by
 obtain ⟨h1, h2⟩ := h.2.1 p hp
 have := okName_le32 h1
 have := ((vErr_zero p.2).1 h2).1
 omega
theorem tagOf_name (s : Bs) : (Vert.tagOf s).1.2.1.length ≤ 32 := by
 unfold Vert.tagOf
 split
 ·rename_i t ht
  obtain ⟨cl, n, l⟩ := t
  exact okName_le32 (tagP_ok ht).1
 ·exact Nat.zero_le _
end Go.Proofs.YtgkdaebiefhgdaaGreatDoor
