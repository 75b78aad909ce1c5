/-
  Plain: a text that ends behind a whole line. No conditions.
-/
import Derived.Test.YtgkdaebiefhgdaaGreatDoorCVertRb
namespace Go.Proofs.YtgkdaebiefhgdaaGreatDoor
set_option linter.unusedSimpArgs false
set_option linter.unusedVariables false
open Utf
open Feat (Bs lt)
open Cor (C)
open Vert (Rd lineV parseV readV fmtErr bodyV)
def openK (ls : List Bs) (k : Nat) : Bool := (ls.take k).foldl (fun b s => flag s b) false
theorem openK_succ {ls : List Bs} {k : Nat} (h : k < ls.length) : openK ls (k + 1) = flag ls[k] (openK ls k) := by
  unfold openK
  rw [List.take_succ_eq_append_getElem h, List.foldl_append]; rfl
theorem linesT_succ {ls : List Bs} {k : Nat} (h : k < ls.length) : linesT (ls.take (k + 1)) = linesT (ls.take k) ++ (ls[k] ++ [10]) := by
  unfold linesT
  rw [List.take_succ_eq_append_getElem h, List.flatMap_append]; simp
theorem linesT_split {ls : List Bs} {k : Nat} (h : k < ls.length) : linesT ls = linesT (ls.take k) ++ (ls[k] ++ [10] ++ linesT (ls.drop (k + 1))) := by
  conv => lhs; rw [← List.take_append_drop k ls, List.drop_eq_getElem_cons h]
  unfold linesT
  rw [List.flatMap_append, List.flatMap_cons]
theorem linesT_take_le (ls : List Bs) (k : Nat) : (linesT (ls.take k)).length ≤ (linesT ls).length := by
  conv => rhs; rw [← List.take_append_drop k ls]
  unfold linesT
  rw [List.flatMap_append, List.length_append]; omega
theorem linesT_lt {ls : List Bs} {k : Nat} (h : k < ls.length) : (linesT (ls.take k)).length + ls[k].length + 1 = (linesT (ls.take (k + 1))).length ∧ (linesT (ls.take (k + 1))).length ≤ (linesT ls).length := by
  refine ⟨?_, linesT_take_le _ _⟩
  rw [linesT_succ h]; simp; omega
theorem Goes.no {ats : List (Bs × Bool)} : ∀ {ls : List Bs} {x y : Rd}, Goes ats x ls y → ∀ s ∈ ls, ∀ c ∈ s, c ≠ 10
  | [], _, _, _, s, hs => by cases hs
  | a :: ls, x, y, ⟨h, z, _, _, k⟩, s, hs => by
    rcases List.mem_cons.1 hs with e | e
    · subst e; exact h
    · exact Goes.no k s e
/-- What is read of the first lines. -/
theorem read_cut {ats : List (Bs × Bool)} {ls : List Bs} {y : Rd} (ha : (Cor.atErr ats).2 = 0) (h : Goes ats Vert.start ls y) (hl : (linesT ls).length ≤ 1048576) (k : Nat) :
    (openK ls k = true → (readV (linesT (ls.take k)) ats).2 = (some (linesT (ls.take k)).length, 10)) ∧ (openK ls k = false → (readV (linesT (ls.take k)) ats).2 = (none, 0)) := by
  obtain ⟨z, h1, h2⟩ := h.cut k
  have hle := linesT_take_le ls k
  unfold readV
  rw [if_neg (by rw [ha]; simp), if_neg (by omega), h1.done]
  dsimp only
  have h2 : z.tx = openK ls k := h2
  rw [h2]
  constructor
  · intro e; rw [if_pos e]
  · intro e; rw [if_neg (by rw [e]; simp)]
theorem body_lines {c : C} (v : Vd c) (hf : fmtErr c = 0) : ∃ ls y, bodyV c = linesT ls ∧ Goes c.attrs Vert.start ls y := by
  obtain ⟨y, ⟨ls, e, h⟩, _⟩ := run_body v hf
  exact ⟨ls, y, e, h⟩
/-- The bytes of a line within the text. -/
theorem line_at {ls : List Bs} {k j : Nat} (h : k < ls.length) (hj : j < ls[k].length) : ∃ hq : (linesT (ls.take k)).length + j < (linesT ls).length, (linesT ls)[(linesT (ls.take k)).length + j]'hq = ls[k][j] := by
  have hlt := linesT_lt h
  refine ⟨by omega, ?_⟩
  have e := linesT_split h
  simp only [e]
  rw [List.getElem_append_right (by omega)]
  simp only [Nat.add_sub_cancel_left, List.append_assoc]
  rw [List.getElem_append_left hj]
theorem line_end {ls : List Bs} {k : Nat} (h : k < ls.length) : ∃ hq : (linesT (ls.take k)).length + ls[k].length < (linesT ls).length, (linesT ls)[(linesT (ls.take k)).length + ls[k].length]'hq = 10 := by
  have hlt := linesT_lt h
  refine ⟨by omega, ?_⟩
  have e := linesT_split h
  simp only [e]
  rw [List.getElem_append_right (by omega)]
  simp only [Nat.add_sub_cancel_left, List.append_assoc]
  rw [List.getElem_append_right (Nat.le_refl _)]
  simp
theorem line_sub {ls : List Bs} {k : Nat} (h : k < ls.length) : ((linesT ls).take ((linesT (ls.take k)).length + ls[k].length + 1)).drop (linesT (ls.take k)).length = ls[k] ++ [10] := by
  rw [linesT_split h, List.take_append, List.drop_append]
  have e1 : (linesT (ls.take k)).take ((linesT (ls.take k)).length + ls[k].length + 1) = linesT (ls.take k) := List.take_of_length_le (by omega)
  rw [e1, List.drop_of_length_le (Nat.le_refl _), Nat.sub_self, List.drop_zero, List.nil_append]
  have e2 : (linesT (ls.take k)).length + ls[k].length + 1 - (linesT (ls.take k)).length = (ls[k] ++ [10]).length := by simp; omega
  rw [e2, List.take_append_of_le_length (Nat.le_refl _), List.take_length]
theorem line_pre (ls : List Bs) (k : Nat) : (linesT ls).take (linesT (ls.take k)).length = linesT (ls.take k) := by
  have : linesT ls = linesT (ls.take k) ++ linesT (ls.drop k) := by
    conv => lhs; rw [← List.take_append_drop k ls]
    unfold linesT
    rw [List.flatMap_append]
  rw [this, List.take_append_of_le_length (Nat.le_refl _), List.take_length]
theorem flag_six {s : Bs} {b : Bool} : flag s b = if 6 < (s ++ [10]).length ∧ (s ++ [10]).take 6 = [60, 116, 101, 120, 116, 32] then true else if s ++ [10] = [60, 47, 116, 101, 120, 116, 62, 10] then false else b := by
  have e1 : (s.take 6 = [60, 116, 101, 120, 116, 32]) ↔ (6 < (s ++ [10]).length ∧ (s ++ [10]).take 6 = [60, 116, 101, 120, 116, 32]) := by
    constructor
    · intro h
      have h6 : 6 ≤ s.length := by
        have := congrArg List.length h
        simp at this; omega
      exact ⟨by simp; omega, by rw [List.take_append_of_le_length h6]; exact h⟩
    · rintro ⟨h1, h2⟩
      rw [List.take_append_of_le_length (by simp at h1; omega)] at h2
      exact h2
  have e2 : (s = [60, 47, 116, 101, 120, 116, 62]) ↔ (s ++ [10] = [60, 47, 116, 101, 120, 116, 62, 10]) := by
    constructor
    · intro h; rw [h]; rfl
    · intro h
      have : s ++ [10] = [60, 47, 116, 101, 120, 116, 62] ++ [10] := h
      exact List.append_cancel_right this
  unfold flag
  by_cases h1 : s.take 6 = [60, 116, 101, 120, 116, 32]
  · rw [if_pos h1, if_pos (e1.1 h1)]
  · rw [if_neg h1, if_neg (fun h => h1 (e1.2 h))]
    by_cases h2 : s = [60, 47, 116, 101, 120, 116, 62]
    · rw [if_pos h2, if_pos (e2.1 h2)]
    · rw [if_neg h2, if_neg (fun h => h2 (e2.2 h))]
end Go.Proofs.YtgkdaebiefhgdaaGreatDoor
