/-
 Plain: what every state of the reference's reading keeps; a line of the text and what follows. No conditions.
-/
import Derived.Test.YtgkdaebiefhgdaaGreatDoorPRefVert
namespace Go.Proofs.YtgkdaebiefhgdaaGreatDoor
set_option linter.unusedSimpArgs false
set_option linter.unusedVariables false
open Feat (Bs)
open Tagp (KV okName)
open Vert (lineOf tagOf)
open Rf
def Rf.Good (y : Rf) : Prop := (y.tx = true → y.texts ≠ []) ∧ ∀ i ∈ y.opn, i < y.regs.length
theorem good_start : Rf.start.Good := ⟨fun h => (by cases h), fun i h => (by cases h)⟩
theorem good_of {y z : Rf} (h : y.Good) (e1 : z.tx = y.tx) (e2 : z.texts = y.texts) (e3 : z.opn = y.opn) (e4 : z.regs = y.regs) : z.Good := by
 unfold Rf.Good
 rw [e1, e2, e3, e4]
 exact h
theorem fail_eq (y : Rf) (a k : Nat) : (y.fail a k).tx = y.tx ∧ (y.fail a k).texts = y.texts ∧ (y.fail a k).opn = y.opn ∧ (y.fail a k).regs = y.regs ∧ (y.fail a k).toks = y.toks := by
 unfold Rf.fail
 split <;> exact ⟨rfl, rfl, rfl, rfl, rfl⟩
theorem good_fail {y : Rf} (h : y.Good) (a k : Nat) : (y.fail a k).Good :=
 have e := fail_eq y a k
 good_of h e.1 e.2.1 e.2.2.1 e.2.2.2.1
theorem good_end {y : Rf} (h : y.Good) (a : Nat) : (y.fEnd a).Good := by
 unfold Rf.fEnd
 split
 ·exact good_fail h _ _
 ·split
  ·exact h
  ·rename_i t ht
   refine ⟨fun h => (by cases h), ?_⟩
   have key : ∀ z : Rf, z.opn = y.opn → z.regs = y.regs → ∀ i ∈ ({ z with tx := false } : Rf).opn, i < ({ z with tx := false } : Rf).regs.length := fun z e1 e2 i hi => by
    have hi : i ∈ z.opn := hi
    rw [e1] at hi
    show i < z.regs.length
    rw [e2]
    exact h.2 i hi
   dsimp only
   refine key _ ?_ ?_
   ·split
    ·rw [(fail_eq _ a 8).2.2.1]; split
     ·exact (fail_eq _ a 6).2.2.1
     ·rfl
    ·split
     ·exact (fail_eq _ a 6).2.2.1
     ·rfl
   ·split
    ·rw [(fail_eq _ a 8).2.2.2.1]; split
     ·exact (fail_eq _ a 6).2.2.2.1
     ·rfl
    ·split
     ·exact (fail_eq _ a 6).2.2.2.1
     ·rfl
theorem good_begin {y : Rf} (h : y.Good) (ks : List KV) (a : Nat) : (y.fBegin ks a).Good := by
 unfold Rf.fBegin
 split
 ·exact good_fail h _ _
 ·split
  ·exact good_fail h _ _
  ·refine ⟨fun _ => by simp, ?_⟩
   dsimp only
   intro i hi
   have e : ∀ z : Rf, z = (if (ks.filter Vert.isId).isEmpty = true then y.fail a 11 else if okName (idOf ks) = false then y.fail a 4 else if 0 ≤ Cor.findT y.texts (idOf ks) then y.fail a 5 else y) → z.opn = y.opn ∧ z.regs = y.regs := fun z hz => by
    rw [hz]
    split
    ·exact ⟨(fail_eq y a 11).2.2.1, (fail_eq y a 11).2.2.2.1⟩
    ·split
     ·exact ⟨(fail_eq y a 4).2.2.1, (fail_eq y a 4).2.2.2.1⟩
     ·split
      ·exact ⟨(fail_eq y a 5).2.2.1, (fail_eq y a 5).2.2.2.1⟩
      ·exact ⟨rfl, rfl⟩
   obtain ⟨e1, e2⟩ := e _ rfl
   rw [e1] at hi
   rw [e2]
   exact h.2 i hi
theorem good_close {y : Rf} (h : y.Good) (nm : Bs) (a : Nat) : (y.fClose nm a).Good := by
 unfold Rf.fClose
 split
 ·exact good_fail h _ _
 ·split
  ·exact h
  ·split
   ·exact h
   ·rename_i _ k _ _ i _ _ r _
    dsimp only
    have key : ∀ z : Rf, z.tx = y.tx → z.texts = y.texts → z.regs.length = y.regs.length → ({ z with opn := y.opn.eraseIdx k } : Rf).Good := fun z e1 e2 e3 => by
     refine ⟨fun hx => ?_, fun j hj => ?_⟩
     ·show z.texts ≠ []
      rw [e2]; exact h.1 (e1.symm.trans hx)
     ·show j < z.regs.length
      rw [e3]
      exact h.2 j (List.mem_of_mem_eraseIdx hj)
    refine key _ ?_ ?_ ?_
    ·split
     ·exact (fail_eq _ a 8).1
     ·rfl
    ·split
     ·exact (fail_eq _ a 8).2.1
     ·rfl
    ·split
     ·rw [(fail_eq _ a 8).2.2.2.1]; simp
     ·simp
theorem good_line {ats : List (Bs × Bool)} {y : Rf} (h : y.Good) (a : Nat) (s : Bs) : (fLine ats y a s).Good := by
 unfold Rf.fLine
 split
 ·unfold Rf.fTag
  split
  ·exact good_fail h _ _
  ·unfold Rf.fTagOk
   split
   ·split
    ·exact good_end h a
    ·exact good_begin h _ a
   ·split
    ·exact good_fail h _ _
    ·split
     ·split
      ·exact good_fail h _ _
      ·refine ⟨h.1, fun i hi => ?_⟩
       show i < (y.regs ++ [_]).length
       rw [List.length_append, List.length_singleton]
       rcases List.mem_append.1 hi with hi | hi
       ·have := h.2 i hi; omega
       ·simp at hi; omega
     ·exact good_close h _ a
 ·unfold Rf.fTok
  split
  ·exact good_fail h _ _
  ·split
   ·exact good_fail h _ _
   ·split
    ·exact good_fail h _ _
    ·dsimp only
     split
     ·exact good_of (good_fail h (a + s.length) 15) rfl rfl rfl rfl
     ·exact good_of h rfl rfl rfl rfl
theorem line_scan {d : Bs} {P Q : Nat} (h1 : P ≤ Q) (h2 : Q ≤ d.length) (hno : ∀ x, P ≤ x → x < Q → d[x]? ≠ some 10) (hend : Q = d.length ∨ d[Q]? = some 10) : lineOf (d.drop P) = (d.drop P).take (Q - P) := by
 unfold Vert.lineOf
 have e : d.drop P = (d.drop P).take (Q - P) ++ d.drop Q := by
  conv => lhs; rw [← List.take_append_drop (Q - P) (d.drop P)]
  rw [List.drop_drop, show P + (Q - P) = Q by omega]
 have hall : ∀ c ∈ (d.drop P).take (Q - P), (c != 10) = true := fun c hc => by
  obtain ⟨k, hk, rfl⟩ := List.getElem_of_mem hc
  rw [List.length_take, List.length_drop] at hk
  rw [List.getElem_take, List.getElem_drop, bne_iff_ne]
  intro e
  exact hno (P + k) (by omega) (by omega) (by rw [List.getElem?_eq_getElem (by omega), e])
 conv => lhs; rw [e]
 rw [List.takeWhile_append_of_pos hall]
 have : (d.drop Q).takeWhile (fun c => c != 10) = [] := by
  rcases hend with h | h
  ·rw [List.drop_eq_nil_of_le (by omega)]; rfl
  ·obtain ⟨hl, e⟩ := List.getElem?_eq_some_iff.1 h
   rw [List.drop_eq_getElem_cons hl, e]
   rfl
 rw [this, List.append_nil]
theorem parse_at {ats : List (Bs × Bool)} {f a : Nat} {rest : Bs} {y : Rf} (h : rest ≠ []) (he : y.e = 0) : Rf.parse ats (f + 1) a rest y = Rf.parse ats f (a + (lineOf rest).length + 1) (rest.drop ((lineOf rest).length + 1)) (fLine ats y a (lineOf rest)) := by
 rw [Rf.parse, if_neg (fun hc => hc.elim h (fun k => k he))]
theorem parse_end {ats : List (Bs × Bool)} {f a : Nat} {rest : Bs} {y : Rf} (h : rest = [] ∨ y.e ≠ 0) : Rf.parse ats f a rest y = y := by
 cases f with
 | zero => rfl
 | succ f => rw [Rf.parse, if_pos h]
end Go.Proofs.YtgkdaebiefhgdaaGreatDoor
