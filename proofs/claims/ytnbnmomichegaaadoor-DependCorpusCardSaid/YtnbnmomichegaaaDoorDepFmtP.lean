/-
  Plain: the text of heads and relations, and that it is read back. No conditions.
-/
import Derived.Test.YtnbnmomichegaaaDoorDepParseP
import Derived.Lib.ItoaLen
namespace Go.Proofs.YtnbnmomichegaaaDoor
set_option linter.unusedSimpArgs false
set_option linter.unusedVariables false
open Go.RowKit Utf
open Feat (Bs)

namespace Dep
open Tagp (okName)
/-- The line of a token. -/
def lnF (h : Int) (r : Bs) : Bs := Lib.decDigits (h + 1).toNat ++ 9 :: (r ++ [10])
def fmtL : List Int → List Bs → Bs
  | h :: hs, r :: rs => lnF h r ++ fmtL hs rs
  | _, _ => []
def badR (r : Bs) : Bool := !r.isEmpty && !okName r
def fmtA (h : List Int) (l : List Bs) : Bs × Nat :=
  if (chk h).2 ≠ 0 then ([], (chk h).2) else if h.length ≠ l.length then ([], 15) else if l.any badR = true then ([], 4) else (fmtL h l, 0)
theorem fmtA_chk {h : List Int} {l : List Bs} (h1 : (chk h).2 ≠ 0) : fmtA h l = ([], (chk h).2) := by unfold fmtA; rw [if_pos h1]
theorem fmtA_len {h : List Int} {l : List Bs} (h1 : (chk h).2 = 0) (h2 : h.length ≠ l.length) : fmtA h l = ([], 15) := by unfold fmtA; rw [if_neg (by omega), if_pos h2]
theorem fmtA_bad {h : List Int} {l : List Bs} (h1 : (chk h).2 = 0) (h2 : h.length = l.length) (h3 : l.any badR = true) : fmtA h l = ([], 4) := by unfold fmtA; rw [if_neg (by omega), if_neg (by omega), if_pos h3]
theorem fmtA_ok {h : List Int} {l : List Bs} (h1 : (chk h).2 = 0) (h2 : h.length = l.length) (h3 : l.any badR = false) : fmtA h l = (fmtL h l, 0) := by unfold fmtA; rw [if_neg (by omega), if_neg (by omega), if_neg (by rw [h3]; simp)]
theorem fmtL_snoc {hs : List Int} {rs : List Bs} (h : Int) (r : Bs) : ∀ (_ : hs.length = rs.length), fmtL (hs ++ [h]) (rs ++ [r]) = fmtL hs rs ++ lnF h r := by
  induction hs generalizing rs with
  | nil =>
    intro e
    cases rs with
    | nil => show lnF h r ++ [] = [] ++ lnF h r; simp
    | cons x rs => cases e
  | cons y hs ih =>
    intro e
    cases rs with
    | nil => cases e
    | cons x rs =>
      show lnF y x ++ fmtL (hs ++ [h]) (rs ++ [r]) = (lnF y x ++ fmtL hs rs) ++ lnF h r
      rw [ih (by simpa using e), List.append_assoc]
theorem fmtL_nil (l : List Bs) : fmtL [] l = [] := by cases l <;> rfl

/-! The digits. -/
theorem dgt_facts {d : Nat} (h : d < 10) : dg (UInt8.ofNat (48 + d)) = true ∧ (UInt8.ofNat (48 + d)).toNat - 48 = d := by
  have e : (UInt8.ofNat (48 + d)).toNat = 48 + d := by
    rw [UInt8.toNat_ofNat']; omega
  unfold dg
  rw [e]
  constructor
  · simp; omega
  · omega
theorem dec_facts (u : Nat) : (∀ c ∈ Lib.decDigits u, dg c = true) ∧ vl (Lib.decDigits u) = u ∧ Lib.decDigits u ≠ [] ∧ ((Lib.decDigits u)[0]? = some 48 → u = 0) := by
  induction u using Nat.strongRecOn with
  | _ u ih =>
    by_cases h : u < 10
    · rw [Lib.decDigits, dif_pos h]
      have f := dgt_facts h
      refine ⟨fun c hc => ?_, ?_, by simp, fun e => ?_⟩
      · rw [List.mem_singleton] at hc; subst hc; exact f.1
      · show 10 * 0 + ((UInt8.ofNat (48 + u)).toNat - 48) = u
        rw [f.2]; omega
      · have e : UInt8.ofNat (48 + u) = 48 := Option.some.inj e
        have h2 := f.2
        have : (UInt8.ofNat (48 + u)).toNat = 48 := by rw [e]; rfl
        omega
    · obtain ⟨i1, i2, i3, i4⟩ := ih (u / 10) (by omega)
      rw [Lib.decDigits, dif_neg h]
      have f := dgt_facts (show u % 10 < 10 by omega)
      refine ⟨fun c hc => ?_, ?_, by simp, fun e => ?_⟩
      · rcases List.mem_append.1 hc with hc | hc
        · exact i1 c hc
        · rw [List.mem_singleton] at hc; subst hc; exact f.1
      · rw [vl_snoc, i2, f.2]; omega
      · rw [List.getElem?_append_left (List.length_pos_iff.2 i3)] at e
        have := i4 e
        omega
theorem dec_len {u : Nat} (h : u ≤ 1099511627776) : 1 ≤ (Lib.decDigits u).length ∧ (Lib.decDigits u).length ≤ 20 := by
  rw [Lib.decDigits_length]
  exact ⟨Lib.nDigits_pos u, Lib.nDigits_le20 u (by omega)⟩
theorem digs_dec (u : Nat) (r : Bs) : digs (Lib.decDigits u ++ 9 :: r) = Lib.decDigits u := by
  unfold digs
  rw [List.takeWhile_append_of_pos (fun c hc => (dec_facts u).1 c hc), List.takeWhile_cons, if_neg (by decide), List.append_nil]
theorem line_back {v T : Nat} {r : Bs} (hv : v ≤ T) (hr : badR r = false) : lineP (Lib.decDigits v ++ 9 :: r) T = ((v : Int) - 1, r, 0, 0) := by
  obtain ⟨f1, f2, f3, f4⟩ := dec_facts v
  have hp := List.length_pos_iff.2 f3
  have e := digs_dec v r
  have hdrop : (Lib.decDigits v ++ 9 :: r).drop ((Lib.decDigits v).length + 1) = r := by
    rw [List.drop_length_add_append]; rfl
  have hz : ¬ ((Lib.decDigits v ++ 9 :: r)[0]? = some 48 ∧ 1 < (digs (Lib.decDigits v ++ 9 :: r)).length) := by
    rw [e, List.getElem?_append_left hp]
    rintro ⟨a, b⟩
    have := f4 a
    subst this
    rw [Lib.decDigits, dif_pos (by omega)] at b
    simp at b
  rw [line_ok (by rw [e]; omega) hz (by rw [e, List.getElem?_append_right (by omega)]; simp) (by rw [e, f2]; omega), e, f2, hdrop]
  rw [e, hdrop]
  rintro ⟨a, b⟩
  unfold badR at hr
  rw [b] at hr
  cases r with
  | nil => exact a rfl
  | cons c r => simp at hr
theorem dg_ten {c : UInt8} (h : dg c = true) : c ≠ 10 := by rintro rfl; cases h
theorem gon_ten {c : UInt8} (h : Tagp.gon c = true) : c ≠ 10 := by rintro rfl; cases h
theorem name_ten {r : Bs} (hr : badR r = false) : (∀ c ∈ r, c ≠ 10) ∧ r.length ≤ 32 := by
  unfold badR at hr
  cases r with
  | nil => exact ⟨fun c hc => (by cases hc), (by show 0 ≤ 32; omega)⟩
  | cons x r =>
    have : okName (x :: r) = true := by simpa using hr
    unfold okName at this
    simp only [Bool.and_eq_true, List.all_eq_true, decide_eq_true_eq] at this
    exact ⟨fun c hc => gon_ten (this.2 c hc), this.1.1.2⟩
theorem ln_ten {l rest : Bs} (h : ∀ c ∈ l, c ≠ 10) : ln (l ++ 10 :: rest) = l := by
  unfold ln
  rw [List.takeWhile_append_of_pos (fun c hc => by simpa using h c hc), List.takeWhile_cons, if_neg (by simp), List.append_nil]
theorem ln_all {l : Bs} (h : ∀ c ∈ l, c ≠ 10) : ln l = l := by
  unfold ln
  have := List.takeWhile_append_of_pos (p := fun c : UInt8 => c != 10) (l₁ := l) (l₂ := []) (fun c hc => by simpa using h c hc)
  simpa using this
theorem lnF_eq (h : Int) (r : Bs) : lnF h r = (Lib.decDigits (h + 1).toNat ++ 9 :: r) ++ [10] := by unfold lnF; simp
theorem body_ten {v : Nat} {r : Bs} (hr : badR r = false) : ∀ c ∈ Lib.decDigits v ++ 9 :: r, c ≠ 10 := by
  intro c hc
  rcases List.mem_append.1 hc with e | e
  · exact dg_ten ((dec_facts v).1 c e)
  · rcases List.mem_cons.1 e with e | e
    · subst e; decide
    · exact (name_ten hr).1 c e
/-- A text is read back from its start on, with its last line feed and without. -/
theorem parse_back (T : Nat) : ∀ (hs : List Int) (rs : List Bs) (f a : Nat) (H : List Int) (R : List Bs) (O : List Nat), hs.length = rs.length → (∀ h ∈ hs, -1 ≤ h ∧ h < T) → rs.any badR = false → H.length + hs.length ≤ T → hs.length ≤ f →
    (∃ O', parseF T f a (fmtL hs rs) H R O = .ok (H ++ hs, R ++ rs, O')) ∧ (hs ≠ [] → ∃ O', parseF T f a (fmtL hs rs).dropLast H R O = .ok (H ++ hs, R ++ rs, O'))
  | [], [], f, a, H, R, O, _, _, _, _, _ => ⟨⟨O, by rw [fmtL_nil, parseF_end, List.append_nil, List.append_nil]⟩, fun h => absurd rfl h⟩
  | h :: hs, r :: rs, 0, a, H, R, O, hl, hh, hr, hT, hf => by simp at hf
  | h :: hs, r :: rs, f + 1, a, H, R, O, hl, hh, hr, hT, hf => by
    have h1 := hh h List.mem_cons_self
    rw [List.any_cons, Bool.or_eq_false_iff] at hr
    simp only [List.length_cons] at hl hT hf
    have eb : lineP (Lib.decDigits (h + 1).toNat ++ 9 :: r) T = (h, r, 0, 0) := by
      rw [line_back (by omega) hr.1]
      congr 1
      omega
    have hb := body_ten (v := (h + 1).toNat) hr.1
    have hne : Lib.decDigits (h + 1).toNat ++ 9 :: r ≠ [] := by simp
    have key : ∀ rest : Bs, parseF T (f + 1) a ((Lib.decDigits (h + 1).toNat ++ 9 :: r) ++ 10 :: rest) H R O = parseF T f (a + (Lib.decDigits (h + 1).toNat ++ 9 :: r).length + 1) rest (H ++ [h]) (R ++ [r]) (O ++ [a]) := by
      intro rest
      have el : ln ((Lib.decDigits (h + 1).toNat ++ 9 :: r) ++ 10 :: rest) = Lib.decDigits (h + 1).toNat ++ 9 :: r := ln_ten hb
      rw [parseF_step (by simp) (by omega) (by rw [el, eb]), el, eb]
      congr 1
      rw [List.drop_length_add_append]; rfl
    have ih := parse_back T hs rs f (a + (Lib.decDigits (h + 1).toNat ++ 9 :: r).length + 1) (H ++ [h]) (R ++ [r]) (O ++ [a]) (by omega) (fun x hx => hh x (List.mem_cons_of_mem _ hx)) hr.2 (by rw [List.length_append, List.length_singleton]; omega) (by omega)
    have efull : fmtL (h :: hs) (r :: rs) = (Lib.decDigits (h + 1).toNat ++ 9 :: r) ++ 10 :: fmtL hs rs := by
      show lnF h r ++ fmtL hs rs = _
      rw [lnF_eq, List.append_assoc]; rfl
    constructor
    · obtain ⟨O', hO⟩ := ih.1
      refine ⟨O', ?_⟩
      rw [efull, key, hO, List.append_assoc, List.append_assoc]; rfl
    · intro _
      rw [efull]
      cases hs with
      | nil =>
        cases rs with
        | cons _ _ => simp at hl
        | nil =>
          rw [fmtL_nil]
          have ed : ((Lib.decDigits (h + 1).toNat ++ 9 :: r) ++ [10]).dropLast = Lib.decDigits (h + 1).toNat ++ 9 :: r := List.dropLast_concat
          refine ⟨O ++ [a], ?_⟩
          have el := ln_all hb
          rw [ed, parseF_step hne (by omega) (by rw [el, eb]), el, eb, List.drop_eq_nil_of_le (by omega), parseF_end]
      | cons h2 hs =>
        cases rs with
        | nil => simp at hl
        | cons r2 rs =>
          obtain ⟨O', hO⟩ := ih.2 (by simp)
          refine ⟨O', ?_⟩
          have hne2 : fmtL (h2 :: hs) (r2 :: rs) ≠ [] := by
            show lnF h2 r2 ++ _ ≠ []
            unfold lnF; simp
          have ed : ((Lib.decDigits (h + 1).toNat ++ 9 :: r) ++ 10 :: fmtL (h2 :: hs) (r2 :: rs)).dropLast = (Lib.decDigits (h + 1).toNat ++ 9 :: r) ++ 10 :: (fmtL (h2 :: hs) (r2 :: rs)).dropLast := by
            rw [List.dropLast_append_of_ne_nil (by simp), List.dropLast_cons_of_ne_nil hne2]
          rw [ed, key, hO, List.append_assoc, List.append_assoc]; rfl
theorem lnF_len {h : Int} {r : Bs} (h1 : -1 ≤ h) (h2 : h ≤ 4096) (hr : badR r = false) : 3 ≤ (lnF h r).length ∧ (lnF h r).length ≤ 54 := by
  have a := dec_len (u := (h + 1).toNat) (by omega)
  have b := (name_ten hr).2
  unfold lnF
  rw [List.length_append, List.length_cons, List.length_append]
  simp only [List.length_singleton]
  omega
theorem fmtL_len : ∀ (hs : List Int) (rs : List Bs), hs.length = rs.length → (∀ h ∈ hs, -1 ≤ h ∧ h ≤ 4096) → rs.any badR = false → 3 * hs.length ≤ (fmtL hs rs).length ∧ (fmtL hs rs).length ≤ 54 * hs.length
  | [], [], _, _, _ => by simp [fmtL]
  | h :: hs, r :: rs, hl, hh, hr => by
    rw [List.any_cons, Bool.or_eq_false_iff] at hr
    have h1 := hh h List.mem_cons_self
    have a := lnF_len h1.1 h1.2 hr.1
    have ih := fmtL_len hs rs (by simpa using hl) (fun x hx => hh x (List.mem_cons_of_mem _ hx)) hr.2
    show 3 * (hs.length + 1) ≤ (lnF h r ++ fmtL hs rs).length ∧ (lnF h r ++ fmtL hs rs).length ≤ 54 * (hs.length + 1)
    rw [List.length_append]; omega
theorem good_range {h : List Int} (hg : (chk h).2 = 0) : h.length ≤ 4096 ∧ ∀ x ∈ h, -1 ≤ x ∧ x < h.length := by
  have g := chk_zero.1 hg
  exact ⟨g.1, fun x hx => g.2 x hx⟩
/-- What Parse answers of a text that Format wrote, and of it without its last byte. -/
theorem round_back {h : List Int} {l : List Bs} {s : Bs} (hf : fmtA h l = (s, 0)) (hn : s ≠ []) : parseA s (h.length : Nat) = (h, l, (0, 0), 0) ∧ parseA s.dropLast (h.length : Nat) = (h, l, (0, 0), 0) ∧ s.length ≤ 54 * h.length := by
  have hc : (chk h).2 = 0 := by
    refine Classical.byContradiction fun e => ?_
    rw [fmtA_chk e] at hf
    exact e (congrArg Prod.snd hf)
  have hl : h.length = l.length := by
    refine Classical.byContradiction fun e => ?_
    rw [fmtA_len hc e] at hf
    have := congrArg Prod.snd hf
    cases this
  have hb : l.any badR = false := by
    cases e : l.any badR with
    | false => rfl
    | true =>
      rw [fmtA_bad hc hl e] at hf
      have := congrArg Prod.snd hf
      cases this
  rw [fmtA_ok hc hl hb] at hf
  have hs : fmtL h l = s := congrArg Prod.fst hf
  subst hs
  obtain ⟨g1, g2⟩ := good_range hc
  have len := fmtL_len h l hl (fun x hx => by have := g2 x hx; omega) hb
  have hne : h ≠ [] := by rintro rfl; exact hn (fmtL_nil _)
  have hp := List.length_pos_iff.2 hne
  have dl : (fmtL h l).dropLast.length = (fmtL h l).length - 1 := List.length_dropLast
  have one : ∀ d : Bs, d.length ≤ 1048576 → (∃ O', parseF h.length (d.length + 1) 0 d [] [] [] = .ok ([] ++ h, [] ++ l, O')) → parseA d (h.length : Nat) = (h, l, (0, 0), 0) := by
    rintro d hd ⟨O', hO⟩
    rw [parseA_in g1 (by omega)]
    exact parseO_ok (O := O') hO (by omega) hc
  refine ⟨one _ (by omega) (parse_back h.length h l _ 0 [] [] [] hl g2 hb (by simp) (by omega)).1, one _ (by omega) ((parse_back h.length h l _ 0 [] [] [] hl g2 hb (by simp) (by omega)).2 hne), len.2⟩
end Dep
end Go.Proofs.YtnbnmomichegaaaDoor
