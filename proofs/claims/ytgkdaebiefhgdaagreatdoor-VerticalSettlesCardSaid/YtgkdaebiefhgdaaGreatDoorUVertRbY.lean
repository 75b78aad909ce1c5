/-
  Several texts of this seat, one behind the other: VertW, VertVd, VertRt, VertRt2, VertRt3, VertRt4, VertLen. No conditions but those of each.
-/
import Derived.Test.YtgkdaebiefhgdaaGreatDoorUVertRb
import Derived.Test.YtgkdaebiefhgdaaGreatDoorUVert
import Derived.Test.YtgkdaebiefhgdaaGreatDoorUCorSrtY
import Derived.Test.YtgkdaebiefhgdaaGreatDoorUVertPl
import Derived.Test.YtgkdaebiefhgdaaGreatDoorUVertPlY
import Derived.Test.YtgkdaebiefhgdaaGreatDoorUCorFa
import Derived.Test.YtgkdaebiefhgdaaGreatDoorUCorFaY
import Derived.Test.YtgkdaebiefhgdaaGreatDoorUMarkRnd
import Derived.Test.YtgkdaebiefhgdaaGreatDoorUBase6Y
namespace Go.Proofs.YtgkdaebiefhgdaaGreatDoor.Vert
set_option linter.unusedSimpArgs false
set_option linter.unusedVariables false
open Feat (Bs)
open Tagp (KV okName unesc esc fmtT)
open Cor (Txt Reg C findT vlErr)
end Go.Proofs.YtgkdaebiefhgdaaGreatDoor.Vert
namespace Go.Proofs.YtgkdaebiefhgdaaGreatDoor
set_option linter.unusedSimpArgs false
set_option linter.unusedVariables false
open Feat (Bs lt)
open Tagp (KV okName)
open Cor (Txt Reg C vlErr prErr cmpR crossR coverR within tkErr rgErr findT)
open Vert (Rd splitT fields tokenP lineV lineOf parseV readV tagOf tagLine isId lastOf)
theorem nameP_ne {s : Bs} {i : Nat} {p : Nat × Nat} (h : Tagp.nameP s i = .error p) : p.2 ≠ 0 := by
  unfold Tagp.nameP at h
  split at h
  · split at h
    · cases h; exact fun e => by cases e
    · cases h
  · cases h; exact fun e => by cases e
theorem valueP_ne {s : Bs} {i : Nat} {p : Nat × Nat} (h : Tagp.valueP s i = .error p) : p.2 ≠ 0 := by
  unfold Tagp.valueP at h
  split at h
  · rename_i e he
    cases h; exact eatP_ne he
  · split at h
    split at h
    · rename_i h0
      cases h; exact h0
    · split at h
      · rename_i h0
        cases h; exact h0
      · cases h
theorem keyP_ne {s : Bs} {l : List KV} {i : Nat} {p : Nat × Nat} (h : Tagp.keyP s l i = .error p) : p.2 ≠ 0 := by
  unfold Tagp.keyP at h
  split at h
  · rename_i e he
    cases h; exact nameP_ne he
  · split at h
    · cases h; exact fun e => by cases e
    · split at h
      · cases h; exact fun e => by cases e
      · split at h
        · rename_i e he
          cases h; exact eatP_ne he
        · split at h
          · rename_i e he
            cases h; exact eatP_ne he
          · split at h
            · rename_i e he
              cases h; exact valueP_ne he
            · cases h
theorem keysP_ne {s : Bs} {p : Nat × Nat} : ∀ (k : Nat) (l : List KV) (i : Nat), Tagp.keysP s k l i = .error p → p.2 ≠ 0
  | 0, l, i, h => by cases h
  | k + 1, l, i, h => by
    rw [Tagp.keysP] at h
    split at h
    · split at h
      · rename_i e he
        cases h; exact keyP_ne he
      · exact keysP_ne k _ _ h
    · cases h
theorem tagP_ne {s : Bs} {p : Nat × Nat} (h : Tagp.tagP s = .error p) : p.2 ≠ 0 := by
  unfold Tagp.tagP at h
  cases hE : Tagp.eatP s 60 0 with
  | error q => rw [hE] at h; cases h; exact eatP_ne hE
  | ok j0 =>
    rw [hE] at h
    dsimp only at h
    cases hN : Tagp.nameP s (if (s[1]? == some 47) = true then 2 else 1) with
    | error q => rw [hN] at h; cases h; exact nameP_ne hN
    | ok r =>
      obtain ⟨n, i⟩ := r
      rw [hN] at h
      dsimp only at h
      cases hK : (if (s[1]? == some 47) = true then (.ok ([], i) : Tagp.R (List KV × Nat)) else Tagp.keysP s 9 [] i) with
      | error q =>
        rw [hK] at h; cases h
        split at hK
        · cases hK
        · exact keysP_ne _ _ _ hK
      | ok r =>
        obtain ⟨l, i2⟩ := r
        rw [hK] at h
        dsimp only at h
        cases hE2 : Tagp.eatP s 62 i2 with
        | error q => rw [hE2] at h; cases h; exact eatP_ne hE2
        | ok i3 =>
          rw [hE2] at h
          dsimp only at h
          split at h
          · cases h; exact fun e => by cases e
          · cases h
theorem parseV_ne {ats : List (Bs × Bool)} {p : Nat × Nat} : ∀ {f a : Nat} {rest : Bs} {x : Rd}, parseV ats f a rest x = .error p → p.2 ≠ 0
  | 0, a, rest, x, h => by cases h
  | f + 1, a, rest, x, h => by
    rw [parseV] at h
    split at h
    · cases h
    · split at h
      · rename_i q hq
        cases h
        have := lineV_ne hq
        exact this
      · exact parseV_ne h

theorem cross_sym (y x : Reg) : crossR y x = crossR x y := by
  unfold crossR
  rw [show (y.nm == x.nm) = (x.nm == y.nm) by rw [Bool.eq_iff_iff, beq_iff_eq, beq_iff_eq]; exact eq_comm]
  cases (x.nm == y.nm) <;> cases decide (y.b < x.e) <;> cases decide (x.b < y.e) <;> cases decide (y.b ≤ x.b) <;> cases decide (x.e ≤ y.e) <;> cases decide (x.b ≤ y.b) <;> cases decide (y.e ≤ x.e) <;> rfl

theorem goodK_sub {l m : List KV} (h : GoodK l) (hs : List.Sublist m l) : GoodK m :=
  ⟨Nat.le_trans hs.length_le h.1, fun p hp => h.2.1 p (hs.subset hp), h.2.2.sublist hs⟩
theorem goodK_err {l : List KV} (h : GoodK l) : prErr l = 0 := by
  unfold prErr
  rw [if_neg (by have := h.1; omega), Cor.first_none 0 l.length]
  intro j _ hj
  have hj : j < l.length := by omega
  have h1 := h.2.1 _ (List.getElem_mem hj)
  unfold Cor.prF
  rw [List.getElem?_eq_getElem hj]
  dsimp only
  rw [if_neg (by rw [h1.1]; simp), if_neg, h1.2]
  rintro ⟨h0, hc⟩
  rw [List.getElem?_eq_getElem (by omega)] at hc
  have := List.pairwise_iff_getElem.1 h.2.2 (j - 1) j (by omega) hj (by omega)
  simp [this] at hc

theorem fields_ok {ats : List (Bs × Bool)} {r : List Bs} : ∀ (rs : List Bs) (a : Nat) (vs : List Bs), Vals ats vs → fields ats rs a vs = .ok r → Vals ats r
  | [], a, vs, hv, h => by cases h; exact hv
  | raw :: rs, a, vs, hv, h => by
    rw [fields] at h
    split at h
    · cases h
    · rename_i at_ ha
      obtain ⟨hl, he⟩ := List.getElem?_eq_some_iff.1 ha
      split at h
      · cases h
      · split at h
        · cases h
        · rename_i h1 h2
          refine fields_ok rs _ _ ⟨by simp; omega, fun k h3 h4 => ?_⟩ h
          by_cases e : k < vs.length
          · rw [List.getElem_append_left e]; exact hv.2 k e h4
          · have e2 : k = vs.length := by simp at h3; omega
            subst e2
            rw [List.getElem_append_right (Nat.le_refl _)]
            simp only [Nat.sub_self, List.getElem_cons_zero, he]
            simpa using h2

theorem inv_start (ats : List (Bs × Bool)) : Inv ats Vert.start :=
  ⟨Nat.zero_le _, Nat.zero_le _, Nat.zero_le _, Nat.zero_le _, fun t h => (by cases h), .inl ⟨rfl, rfl⟩, fun t h => (by cases h), List.Pairwise.nil, fun t h => (by cases h), fun t h => (by cases h), List.Pairwise.nil, List.Pairwise.nil, fun y h => (by cases h), fun p _ => Nat.zero_le _⟩
theorem inv_token {ats : List (Bs × Bool)} {x y : Rd} {s : Bs} (h : Inv ats x) (ht : tokenP ats x s = .ok y) : Inv ats y := by
  unfold tokenP at ht
  split at ht
  · cases ht
  · rename_i htx
    split at ht
    · cases ht
    · rename_i h4
      split at ht
      · cases ht
      · rename_i vs hvs
        split at ht
        · cases ht
        · rename_i hlen
          cases ht
          have hv := fields_ok _ _ _ ⟨Nat.zero_le _, fun k h1 => by cases h1⟩ hvs
          have htl := h.tl
          have hn : ((x.toks ++ [vs]).length : Int) = x.toks.length + 1 := by simp
          refine ⟨by show (x.toks ++ [vs]).length ≤ _; simp; omega, h.xl, h.rl, h.ol, fun t ht => ?_, ?_, h.one, h.dis, fun y hy => ?_, fun o ho => ?_, h.ob, h.nc, h.yo, fun p hp => ?_⟩
          · rcases List.mem_append.1 ht with ht | ht
            · exact h.tv t ht
            · simp at ht; subst ht; exact ⟨by have := hv.1; omega, hv⟩
          · have htx' : x.tx = true := by simpa using htx
            rcases h.ts with ⟨e, _⟩ | ⟨_, t, h1, h2, h3⟩
            · rw [e] at htx'; cases htx'
            · exact .inr ⟨htx', t, h1, h2, by show t.b ≤ ((x.toks ++ [vs]).length : Int); omega⟩
          · obtain ⟨a, b, c, d, e⟩ := h.rg y hy
            exact ⟨a, b, c, by show y.e ≤ ((x.toks ++ [vs]).length : Int); omega, e⟩
          · obtain ⟨a, b, c, d, e⟩ := h.og o ho
            exact ⟨a, b, by show o.b ≤ ((x.toks ++ [vs]).length : Int); omega, d, e⟩
          · have hp' : p < (x.toks.length : Int) + 1 := by rw [← hn]; exact hp
            show (x.regs.countP _) + (x.opn.countP _) ≤ 40
            by_cases hpn : p < x.toks.length
            · exact h.cov p hpn
            · have h0 : x.regs.countP (fun y => decide (y.b ≤ p) && decide (p < y.e)) = 0 := by
                rw [List.countP_eq_zero]
                intro y hy
                have := (h.rg y hy).2.2.2.1
                simp only [Bool.and_eq_true, decide_eq_true_eq, not_and]
                intro _
                omega
              have := List.countP_le_length (p := fun o : Reg => decide (o.b ≤ p)) (l := x.opn)
              have := h.ol
              omega
theorem findT_neg {l : List Txt} {nm : Bs} (h : ¬ 0 ≤ findT l nm) : ∀ t ∈ l, t.nm ≠ nm := by
  unfold findT at h
  split at h
  · rename_i hn
    rw [List.findIdx?_eq_none_iff] at hn
    intro t ht e
    have := hn t ht
    simp [e] at this
  · omega
theorem inv_beginText {ats : List (Bs × Bool)} {x y : Rd} {ks : List KV} (h : Inv ats x) (hk : GoodK ks) (hb : Vert.beginText x ks = .ok y) : Inv ats y := by
  unfold Vert.beginText at hb
  split at hb
  · cases hb
  · rename_i htx
    split at hb
    · cases hb
    · rename_i h64
      split at hb
      · cases hb
      · rename_i p hp
        split at hb
        · cases hb
        · rename_i hok
          split at hb
          · cases hb
          · rename_i hdup
            cases hb
            have htx' : x.tx = false := by simpa using htx
            have hch : Chain 0 x.texts x.toks.length := by
              rcases h.ts with ⟨_, e⟩ | ⟨e, _⟩
              · exact e
              · rw [htx'] at e; cases e
            have hxl := h.xl
            have hopn : x.opn = [] := by
              cases ho : x.opn with
              | nil => rfl
              | cons o l =>
                have := (h.og o (by rw [ho]; simp)).2.2.2.1
                rw [htx'] at this; cases this
            have hn := findT_neg hdup
            refine ⟨h.tl, by show (x.texts ++ [_]).length ≤ 64; simp; omega, h.rl, h.ol, h.tv, .inr ⟨rfl, _, List.getLast?_concat, ?_, Int.le_refl _⟩, fun t ht => ?_, ?_, fun y hy => ?_, fun o ho => ?_, h.ob, h.nc, h.yo, h.cov⟩
            · show Chain 0 (x.texts ++ [_]).dropLast _
              rw [List.dropLast_concat]; exact hch
            · rcases List.mem_append.1 ht with ht | ht
              · exact h.one t ht
              · simp at ht
                subst ht
                exact ⟨by simpa using hok, goodK_err (goodK_sub hk List.filter_sublist)⟩
            · show (x.texts ++ [_]).Pairwise _
              rw [List.pairwise_append]
              refine ⟨h.dis, by simp, fun t ht u hu => ?_⟩
              simp at hu
              subst hu
              exact hn t ht
            · obtain ⟨a, b, c, d, e⟩ := h.rg y hy
              refine ⟨a, b, c, d, ?_⟩
              rcases e with ⟨u, hu, h1, h2⟩ | ⟨e, _⟩
              · rw [htx'] at hu
                refine .inl ⟨u, ?_, h1, h2⟩
                show u ∈ (if true = true then (x.texts ++ [_]).dropLast else _)
                rw [if_pos rfl, List.dropLast_concat]
                simpa using hu
              · rw [htx'] at e; cases e
            · rw [hopn] at ho; cases ho
theorem inv_endText {ats : List (Bs × Bool)} {x y : Rd} (h : Inv ats x) (hb : Vert.endText x = .ok y) : Inv ats y := by
  unfold Vert.endText at hb
  split at hb
  · cases hb
  · rename_i htx
    split at hb
    · cases hb
    · rename_i hop
      split at hb
      · cases hb
      · rename_i t hl
        split at hb
        · cases hb
        · rename_i hne
          cases hb
          have htx' : x.tx = true := by simpa using htx
          have hopn : x.opn = [] := by simpa using hop
          have htt : x.texts = x.texts.dropLast ++ [t] := by
            obtain ⟨l, e⟩ := List.getLast?_eq_some_iff.1 hl
            rw [e, List.dropLast_concat]
          obtain ⟨hch, hle⟩ : Chain 0 x.texts.dropLast t.b ∧ t.b ≤ x.toks.length := by
            rcases h.ts with ⟨e, _⟩ | ⟨_, t', h1, h2, h3⟩
            · rw [htx'] at e; cases e
            · rw [hl] at h1; cases h1; exact ⟨h2, h3⟩
          have hmem : t ∈ x.texts := by rw [htt]; simp
          have hdis := h.dis
          rw [htt, List.pairwise_append] at hdis
          refine ⟨h.tl, ?_, h.rl, h.ol, h.tv, .inl ⟨rfl, chain_app.2 ⟨t.b, hch, rfl, by show t.b < (x.toks.length : Int); omega, rfl⟩⟩, fun u hu => ?_, ?_, fun y hy => ?_, fun o ho => ?_, h.ob, h.nc, h.yo, h.cov⟩
          · have := h.xl
            rw [htt] at this
            simpa using this
          · rcases List.mem_append.1 hu with hu | hu
            · exact h.one u (List.dropLast_subset _ hu)
            · simp at hu
              subst hu
              exact h.one t hmem
          · show (x.texts.dropLast ++ [_]).Pairwise _
            rw [List.pairwise_append]
            refine ⟨hdis.1, by simp, fun a ha u hu => ?_⟩
            simp at hu
            subst hu
            exact hdis.2.2 a ha t (by simp)
          · obtain ⟨a, b, c, d, e⟩ := h.rg y hy
            refine ⟨a, b, c, d, .inl ?_⟩
            rcases e with ⟨u, hu, h1, h2⟩ | ⟨_, t', h1, h2⟩
            · rw [htx', if_pos rfl] at hu
              exact ⟨u, by show u ∈ (if false = true then _ else x.texts.dropLast ++ [_]); simp [hu], h1, h2⟩
            · rw [hl] at h1
              cases h1
              exact ⟨{ t with e := x.toks.length }, by show _ ∈ (if false = true then _ else x.texts.dropLast ++ [_]); simp, h2, d⟩
          · rw [hopn] at ho; cases ho
theorem inv_beginReg {ats : List (Bs × Bool)} {x y : Rd} {nm : Bs} {ks : List KV} (h : Inv ats x) (hnm : okName nm = true) (hk : GoodK ks) (hb : Vert.beginReg x nm ks = .ok y) : Inv ats y := by
  unfold Vert.beginReg at hb
  split at hb
  · cases hb
  · rename_i htx
    split at hb
    · cases hb
    · rename_i hlim
      cases hb
      have htx' : x.tx = true := by simpa using htx
      obtain ⟨t, hl, hle⟩ : ∃ t, x.texts.getLast? = some t ∧ t.b ≤ x.toks.length := by
        rcases h.ts with ⟨e, _⟩ | ⟨_, t', h1, h2, h3⟩
        · rw [htx'] at e; cases e
        · exact ⟨t', h1, h3⟩
      refine ⟨h.tl, h.xl, by show x.regs.length + (x.opn ++ [_]).length ≤ 1024; simp; omega, by show (x.opn ++ [_]).length ≤ 40; simp; omega, h.tv, h.ts, h.one, h.dis, h.rg, fun o ho => ?_, ?_, h.nc, fun y hy o ho e => ?_, fun p hp => ?_⟩
      · rcases List.mem_append.1 ho with ho | ho
        · exact h.og o ho
        · simp at ho
          subst ho
          exact ⟨hnm, goodK_err hk, Int.le_refl _, htx', t, hl, hle⟩
      · show (x.opn ++ [_]).Pairwise _
        rw [List.pairwise_append]
        refine ⟨h.ob, by simp, fun a ha u hu => ?_⟩
        simp at hu
        subst hu
        exact (h.og a ha).2.2.1
      · rcases List.mem_append.1 ho with ho | ho
        · exact h.yo y hy o ho e
        · simp at ho
          subst ho
          exact .inr (h.rg y hy).2.2.2.1
      · have hp : p < (x.toks.length : Int) := hp
        show _ + (x.opn ++ [_]).countP _ ≤ 40
        rw [List.countP_append, List.countP_cons, List.countP_nil, if_neg (by simp; omega)]
        exact h.cov p hp
theorem lastOf_some {nm : Bs} : ∀ {l : List Reg} {i : Nat}, lastOf nm l = some i → ∃ hi : i < l.length, l[i].nm = nm ∧ ∀ j (hj : j < l.length), i < j → l[j].nm ≠ nm
  | [], i, h => by cases h
  | r :: l, i, h => by
    rw [lastOf] at h
    split at h
    · rename_i k hk
      cases h
      obtain ⟨hi, h1, h2⟩ := lastOf_some hk
      refine ⟨by simp; omega, by simpa using h1, fun j hj hij => ?_⟩
      cases j with
      | zero => omega
      | succ j => simpa using h2 j (by simpa using hj) (by omega)
    · rename_i hk
      split at h
      · rename_i hr
        cases h
        refine ⟨by simp, by simpa using hr, fun j hj hij e => ?_⟩
        cases j with
        | zero => omega
        | succ j =>
          have : ∀ (l : List Reg) (j : Nat) (hj : j < l.length), l[j].nm = nm → lastOf nm l ≠ none := by
            intro l
            induction l with
            | nil => intro j hj; cases hj
            | cons a l ih =>
              intro j hj e
              rw [lastOf]
              cases j with
              | zero =>
                split
                · simp
                · rw [if_pos (by simpa using e)]; simp
              | succ j =>
                have := ih j (by simpa using hj) (by simpa using e)
                split
                · simp
                · rename_i hn; exact absurd hn this
          exact this l j (by simpa using hj) (by simpa using e) hk
      · cases h
theorem inv_endReg {ats : List (Bs × Bool)} {x y : Rd} {nm : Bs} (h : Inv ats x) (hb : Vert.endReg x nm = .ok y) : Inv ats y := by
  unfold Vert.endReg at hb
  split at hb
  · cases hb
  · rename_i htx
    split at hb
    · cases hb
    · rename_i i hi
      split at hb
      · cases hb
      · rename_i r hr
        split at hb
        · cases hb
        · rename_i hne
          cases hb
          have htx' : x.tx = true := by simpa using htx
          obtain ⟨hil, hinm, hlast⟩ := lastOf_some hi
          have hri : x.opn[i] = r := by rw [List.getElem?_eq_getElem hil] at hr; exact Option.some.inj hr
          have hmem : r ∈ x.opn := List.mem_of_getElem? hr
          obtain ⟨r1, r2, r3, r4, t, r5, r6⟩ := h.og r hmem
          have hlt : r.b < x.toks.length := by omega
          have hsub : ∀ o ∈ x.opn.eraseIdx i, o ∈ x.opn := fun o ho => List.mem_of_mem_eraseIdx ho
          have hsp : x.opn = x.opn.take i ++ r :: x.opn.drop (i + 1) := by
            rw [← hri, ← List.drop_eq_getElem_cons hil, List.take_append_drop]
          have her : x.opn.eraseIdx i = x.opn.take i ++ x.opn.drop (i + 1) := List.eraseIdx_eq_take_drop_succ _ _
          refine ⟨h.tl, h.xl, ?_, ?_, h.tv, h.ts, h.one, h.dis, fun y hy => ?_, fun o ho => h.og o (hsub o ho), h.ob.sublist (List.eraseIdx_sublist _ _), ?_, fun y hy o ho e => ?_, fun p hp => ?_⟩
          · show (x.regs ++ [_]).length + (x.opn.eraseIdx i).length ≤ 1024
            have := h.rl
            rw [List.length_append, List.length_eraseIdx, if_pos hil, List.length_singleton]
            omega
          · show (x.opn.eraseIdx i).length ≤ 40
            have := h.ol
            rw [List.length_eraseIdx, if_pos hil]
            omega
          · rcases List.mem_append.1 hy with hy | hy
            · exact h.rg y hy
            · simp at hy
              subst hy
              exact ⟨r1, r2, hlt, Int.le_refl _, .inr ⟨htx', t, r5, r6⟩⟩
          · show (x.regs ++ [_]).Pairwise _
            rw [List.pairwise_append]
            refine ⟨h.nc, by simp, fun y hy z hz => ?_⟩
            simp at hz
            subst hz
            have hye := (h.rg y hy).2.2.2.1
            unfold crossR
            by_cases e : y.nm = r.nm
            · rcases h.yo y hy r hmem e with q | q
              · have d1 : decide (r.b ≤ y.b) = true := decide_eq_true q
                have d2 : decide (y.e ≤ (x.toks.length : Int)) = true := decide_eq_true hye
                simp [d1, d2]
              · have d1 : decide (r.b < y.e) = false := decide_eq_false (by omega)
                simp [d1]
            · have d1 : (y.nm == r.nm) = false := beq_eq_false_iff_ne.2 e
              simp [d1]
          · have ho' := hsub o ho
            rcases List.mem_append.1 hy with hy | hy
            · exact h.yo y hy o ho' e
            · simp at hy
              subst hy
              left
              show o.b ≤ r.b
              have e' : o.nm = nm := by rw [← e, ← hinm, hri]
              have hob := h.ob
              rw [hsp, List.pairwise_append] at hob
              rw [her] at ho
              rcases List.mem_append.1 ho with q | q
              · exact hob.2.2 o q r (by simp)
              · exfalso
                obtain ⟨j, hj, rfl⟩ := List.getElem_of_mem q
                rw [List.getElem_drop] at e'
                exact hlast (i + 1 + j) (by simp at hj; omega) (by omega) e'
          · have hp : p < (x.toks.length : Int) := hp
            have hc := h.cov p hp
            rw [hsp, List.countP_append, List.countP_cons] at hc
            show (x.regs ++ [_]).countP _ + (x.opn.eraseIdx i).countP _ ≤ 40
            rw [her, List.countP_append, List.countP_append, List.countP_cons, List.countP_nil]
            have e1 : (decide (r.b ≤ p) && decide (p < (x.toks.length : Int))) = decide (r.b ≤ p) := by rw [decide_eq_true hp, Bool.and_true]
            simp only [e1]
            omega
theorem inv_line {ats : List (Bs × Bool)} {x y : Rd} {s : Bs} (h : Inv ats x) (hl : lineV ats x s = .ok y) : Inv ats y := by
  unfold lineV at hl
  split at hl
  · split at hl
    · cases hl
    · rename_i h0
      have h0 : (tagOf s).2.2 = 0 := by simpa using h0
      have hkk := tagOf_keys s
      split at hl
      · cases hl
      · rename_i z hz
        cases hl
        unfold tagLine at hz
        split at hz
        · split at hz
          · exact inv_endText h hz
          · exact inv_beginText h hkk hz
        · split at hz
          · exact inv_endReg h hz
          · have hnm : okName (tagOf s).1.2.1 = true := by
              rcases tagOf_ok h0 with e | e
              · exact (tagP_ok e).1
              · exfalso
                unfold tagOf at e h0
                cases hp : Tagp.tagP s with
                | ok t =>
                  rw [hp] at e
                  dsimp only at e
                  rw [e] at hp
                  have := (tagP_ok hp).1
                  simp [okName] at this
                | error p => 
                  rw [hp] at h0
                  exact tagP_ne hp h0
            exact inv_beginReg h hnm hkk hz
  · exact inv_token h hl
theorem inv_parse {ats : List (Bs × Bool)} {y : Rd} : ∀ (f a : Nat) (rest : Bs) (x : Rd), Inv ats x → parseV ats f a rest x = .ok y → Inv ats y
  | 0, a, rest, x, h, hp => by cases hp; exact h
  | f + 1, a, rest, x, h, hp => by
    rw [parseV] at hp
    split at hp
    · cases hp; exact h
    · split at hp
      · cases hp
      · rename_i z hz
        exact inv_parse f _ _ _ (inv_line h hz) hp
theorem inv_valid {ats : List (Bs × Bool)} {x : Rd} (ha : (Cor.atErr ats).2 = 0) (h : Inv ats x) (htx : x.tx = false) : Cor.valid ⟨ats, x.toks, x.texts, sortT x.regs, [], [], []⟩ = true := by
  have hopn : x.opn = [] := by
    cases ho : x.opn with
    | nil => rfl
    | cons o l =>
      have := (h.og o (by rw [ho]; simp)).2.2.2.1
      rw [htx] at this; cases this
  have hch : Chain 0 x.texts x.toks.length := by
    rcases h.ts with ⟨_, e⟩ | ⟨e, _⟩
    · exact e
    · rw [htx] at e; cases e
  have hp := sortT_perm x.regs
  refine vd_iff.2 ⟨ha, ?_, ?_, ?_, rfl, ?_⟩
  · show (tkErr ats x.toks).2 = 0
    unfold tkErr
    rw [if_neg (by have := h.tl; omega), Cor.first_none 0 x.toks.length]
    intro j _ hj
    have hj : j < x.toks.length := by omega
    obtain ⟨h1, h2⟩ := h.tv _ (List.getElem_mem hj)
    unfold Cor.tkF
    rw [List.getElem?_eq_getElem hj]
    dsimp only
    rw [if_neg (by omega), Cor.first_none 0 _]
    intro k _ hk
    unfold Cor.tvF
    rw [List.getElem?_eq_getElem (show k < ats.length by omega), List.getElem?_eq_getElem (show k < x.toks[j].length by omega)]
    exact h2.2 k _ _
  · exact txC_iff.2 ⟨h.xl, hch, h.one, h.dis⟩
  · refine rgC_iff.2 ⟨?_, fun y hy => ?_, ?_, fun k hk => ?_⟩
    · show (sortT x.regs).length ≤ 1024
      rw [sortT_len]
      have := h.rl
      omega
    · obtain ⟨a, b, c, d, e⟩ := h.rg y (hp.mem_iff.1 hy)
      refine ⟨a, ?_, b⟩
      rcases e with ⟨u, hu, h1, h2⟩ | ⟨e, _⟩
      · rw [htx] at hu
        unfold within
        rw [List.any_eq_true]
        exact ⟨u, by simpa using hu, by simp; omega⟩
      · rw [htx] at e; cases e
    · have h1 := sortT_up x.regs
      have h2 : (sortT x.regs).Pairwise fun y z => crossR y z = false := (hp.pairwise_iff (fun {a b} hab => (cross_sym b a).trans hab)).2 h.nc
      exact h1.and h2
    · have hk : k < (sortT x.regs).length := hk
      show (((sortT x.regs).take (k + 1)).filter (coverR (sortT x.regs)[k])).length ≤ 40
      have hx := h.rg _ (hp.mem_iff.1 (List.getElem_mem hk))
      have hc := h.cov ((sortT x.regs)[k]).b (by omega)
      rw [hopn] at hc
      have h1 : (((sortT x.regs).take (k + 1)).filter (coverR (sortT x.regs)[k])).length ≤ ((sortT x.regs).filter (coverR (sortT x.regs)[k])).length := ((List.take_sublist _ _).filter _).length_le
      have h2 : ((sortT x.regs).filter (coverR (sortT x.regs)[k])).length = (x.regs.filter (coverR (sortT x.regs)[k])).length := (hp.filter _).length_eq
      have h3 : (x.regs.filter (coverR (sortT x.regs)[k])).length = x.regs.countP (fun y => decide (y.b ≤ ((sortT x.regs)[k]).b) && decide (((sortT x.regs)[k]).b < y.e)) := by
        rw [List.countP_eq_length_filter]; rfl
      simp only [List.countP_nil] at hc
      omega
  · show (Cor.hdErr x.toks.length x.texts [] []).2 = 0
    rfl
/-- What is read is valid. -/
theorem readV_valid {d : Bs} {ats : List (Bs × Bool)} (h : (readV d ats).2.2 = 0) : Cor.valid (readV d ats).1 = true ∧ (readV d ats).1.nods = [] ∧ (readV d ats).1.heads = [] ∧ (readV d ats).2.1 = none := by
  unfold readV at h ⊢
  by_cases ha : (Cor.atErr ats).2 ≠ 0
  · rw [if_pos ha] at h; cases h
  · rw [if_neg ha] at h ⊢
    by_cases hd : 1048576 < d.length
    · rw [if_pos hd] at h; cases h
    · rw [if_neg hd] at h ⊢
      cases hp : parseV ats (d.length + 1) 0 d Vert.start with
      | error p =>
        rw [hp] at h
        exact absurd h (parseV_ne hp)
      | ok x =>
        rw [hp] at h
        dsimp only at h ⊢
        by_cases ht : x.tx = true
        · rw [if_pos ht] at h; cases h
        · rw [if_neg ht]
          exact ⟨inv_valid (by simpa using ha) (inv_parse _ _ _ _ (inv_start ats) hp) (by simpa using ht), rfl, rfl, rfl⟩
end Go.Proofs.YtgkdaebiefhgdaaGreatDoor
namespace Go.Proofs.YtgkdaebiefhgdaaGreatDoor
set_option linter.unusedSimpArgs false
set_option linter.unusedVariables false
open Utf
open Feat (Bs lt)
open Tagp (KV okName esc escB fmtT chk chkKeys sortP keyT tagP unesc gon beg)
open Cor (Txt Reg C vlErr prErr)
open Vert (Rd splitT fields tokenP lineV lineOf parseV readV tagOf tagLine isId lastOf tagText tokText closeText)
end Go.Proofs.YtgkdaebiefhgdaaGreatDoor
namespace Go.Proofs.YtgkdaebiefhgdaaGreatDoor
set_option linter.unusedSimpArgs false
set_option linter.unusedVariables false
open Utf
open Feat (Bs lt)
open Tagp (KV okName esc fmtT chk sortP)
open Cor (Txt Reg C vlErr prErr cmpR crossR coverR)
open Vert (Rd tokenP lineV tagLine isId lastOf tagText tokText closeText closes opens)
end Go.Proofs.YtgkdaebiefhgdaaGreatDoor
namespace Go.Proofs.YtgkdaebiefhgdaaGreatDoor
set_option linter.unusedSimpArgs false
set_option linter.unusedVariables false
open Utf
open Feat (Bs lt)
open Tagp (KV okName esc fmtT chk sortP)
open Cor (Txt Reg C vlErr prErr cmpR cmpI crossR coverR within)
open Vert (Rd tokenP lineV tagLine isId lastOf tagText tokText closeText closes opens posText spanText textText endTag fmtErr badT bodyV)
end Go.Proofs.YtgkdaebiefhgdaaGreatDoor
namespace Go.Proofs.YtgkdaebiefhgdaaGreatDoor
set_option linter.unusedSimpArgs false
set_option linter.unusedVariables false
open Utf
open Feat (Bs lt)
open Tagp (KV okName esc fmtT chk sortP)
open Cor (Txt Reg C vlErr prErr cmpR cmpI crossR coverR within findT)
open Vert (Rd tokenP lineV tagLine isId lastOf tagText tokText closeText closes opens posText spanText textText endTag fmtErr badT bodyV readV parseV)
end Go.Proofs.YtgkdaebiefhgdaaGreatDoor
namespace Go.Proofs.YtgkdaebiefhgdaaGreatDoor
set_option linter.unusedSimpArgs false
set_option linter.unusedVariables false
open Utf
open Feat (Bs lt)
open Tagp (KV okName esc escB fmtT chk sortP keyT)
open Cor (Txt Reg C vlErr prErr)
open Vert (tagText tokText closeText closes opens posText spanText textText endTag fmtErr badT bodyV writeV)
end Go.Proofs.YtgkdaebiefhgdaaGreatDoor
