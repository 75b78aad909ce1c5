/-
 Several texts of this seat, one behind the other: VertW, VertVd, VertRt, VertRt2, VertRt3, VertRt4, VertLen. No conditions but those of each.
-/
import Derived.Test.YtgkdaebiefhgdaaGreatDoorPVert
import Derived.Test.YtgkdaebiefhgdaaGreatDoorPVertPl
import Derived.Test.YtgkdaebiefhgdaaGreatDoorPCorFa
import Derived.Test.YtgkdaebiefhgdaaGreatDoorPMarkRnd
namespace Go.Proofs.YtgkdaebiefhgdaaGreatDoor.Vert
set_option linter.unusedSimpArgs false
set_option linter.unusedVariables false
open Feat (Bs)
open Tagp (KV okName unesc esc fmtT)
open Cor (Txt Reg C findT vlErr)
def tagText (nm : Bs) (ks : List KV) : Bs := (fmtT false nm ks).1 ++ [10]
def tokText (t : List Bs) : Bs := [9].intercalate (t.map esc) ++ [10]
def closeText (r : Reg) : Bs := [60, 47] ++ r.nm ++ [62, 10]
def closes (regs : List Reg) (k : Nat) : Bs := (regs.filter fun r => decide (r.e = (k : Int))).reverse.flatMap closeText
def opens (regs : List Reg) (k : Nat) : Bs := (regs.filter fun r => decide (r.b = (k : Int))).flatMap fun r => tagText r.nm r.ks
def posText (c : C) (b p : Nat) : Bs := (if p = b then [] else closes c.regs p) ++ opens c.regs p ++ tokText ((c.toks[p]?).getD [])
def spanText (c : C) (b j : Nat) : Bs := (List.range j).flatMap fun (i : Nat) => posText c b (b + i)
def endTag : Bs := [60, 47, 116, 101, 120, 116, 62, 10]
def textText (c : C) (t : Txt) : Bs := tagText text (([105, 100], t.nm) :: t.ks) ++ spanText c t.b.toNat (t.e - t.b).toNat ++ closes c.regs t.e.toNat ++ endTag
def badT (t : Txt) : Bool := t.ks.any isId || decide (8 ≤ t.ks.length)
def fmtErr (c : C) : Nat :=
 match c.texts.find? badT with
 | some t => if t.ks.any isId = true then 4 else 2
 | none => if c.regs.any (fun r => r.nm == text) = true then 4 else 0
def bodyV (c : C) : Bs := c.texts.flatMap (textText c)
def writeV (c : C) : Bs × Nat :=
 if fmtErr c ≠ 0 then ([], fmtErr c)
 else if 1048576 < (bodyV c).length then ([], 2)
 else (bodyV c, 0)
end Go.Proofs.YtgkdaebiefhgdaaGreatDoor.Vert
namespace Go.Proofs.YtgkdaebiefhgdaaGreatDoor
set_option linter.unusedSimpArgs false
set_option linter.unusedVariables false
open Feat (Bs lt)
open Tagp (KV okName)
open Cor (Txt Reg C vlErr prErr cmpR crossR coverR within tkErr rgErr findT)
open Vert (Rd splitT fields tokenP lineV lineOf parseV readV tagOf tagLine isId lastOf)
theorem parseV_ne {ats : List (Bs × Bool)} {p : Nat × Nat} : ∀ {f a : Nat} {rest : Bs} {x : Rd}, parseV ats f a rest x = .error p → p.2 ≠ 0
 | 0, a, rest, x, h => by cases h
 | f + 1, a, rest, x, h => by
  rw [parseV] at h
  split at h
  ·cases h
  ·split at h
   ·rename_i q hq
    cases h
    have := lineV_ne hq
    exact this
   ·exact parseV_ne h

theorem spot_all {x : Reg} {m : List Reg} : ∀ (i : Nat), i ≤ m.length → (∀ j (hj : j < m.length), spot x m i ≤ j → j < i → cmpR x m[j] < 0) ∧ (∀ h0 : 0 < spot x m i, ∃ hs : spot x m i - 1 < m.length, ¬ cmpR x m[spot x m i - 1] < 0)
 | 0, _ => ⟨fun j hj h1 h2 => by omega, fun h0 => by simp [spot] at h0⟩
 | i + 1, hi => by
  have ih := spot_all (x := x) (m := m) i (by omega)
  by_cases hc : cmpR x m[i] < 0
  ·rw [spot_down (by omega) hc]
   refine ⟨fun j hj h1 h2 => ?_, ih.2⟩
   by_cases e : j = i
   ·subst e; exact hc
   ·exact ih.1 j hj h1 (by omega)
  ·rw [spot_stay (by omega) hc]
   exact ⟨fun j hj h1 h2 => by omega, fun _ => ⟨by omega, by simpa using hc⟩⟩
theorem insT_perm (x : Reg) (m : List Reg) : (insT x m).Perm (x :: m) := by
 unfold insT
 have h := List.perm_middle (a := x) (l₁ := m.take (spot x m m.length)) (l₂ := m.drop (spot x m m.length))
 rwa [List.take_append_drop] at h
theorem insT_up {x : Reg} {m : List Reg} (h : m.Pairwise fun y z => cmpR y z ≤ 0) : (insT x m).Pairwise fun y z => cmpR y z ≤ 0 := by
 have hs := spot_all (x := x) (m := m) m.length (Nat.le_refl _)
 have hle := spot_le x m m.length
 unfold insT
 generalize spot x m m.length = s at hs hle ⊢
 have hp := h
 rw [← List.take_append_drop s m, List.pairwise_append] at hp
 have hlo : ∀ a ∈ m.take s, cmpR a x ≤ 0 := fun a ha => by
  obtain ⟨j, hj, rfl⟩ := List.getElem_of_mem ha
  have hj' : j < s := by simp at hj; omega
  obtain ⟨hsl, hns⟩ := hs.2 (by omega)
  have h1 : cmpR m[s - 1] x ≤ 0 := by have := ord_R.anti x m[s - 1]; omega
  rw [List.getElem_take]
  by_cases e : j = s - 1
  ·subst e; exact h1
  ·exact ord_R.tr _ _ _ (List.pairwise_iff_getElem.1 h j (s - 1) (by omega) hsl (by omega)) h1
 have hhi : ∀ b ∈ m.drop s, cmpR x b ≤ 0 := fun b hb => by
  obtain ⟨j, hj, rfl⟩ := List.getElem_of_mem hb
  rw [List.getElem_drop]
  have hj2 : s + j < m.length := by simp at hj; omega
  have := hs.1 (s + j) hj2 (by omega) hj2
  omega
 refine List.pairwise_append.2 ⟨hp.1, List.pairwise_cons.2 ⟨hhi, hp.2.1⟩, fun a ha b hb => ?_⟩
 rcases List.mem_cons.1 hb with e | e
 ·subst e; exact hlo a ha
 ·exact hp.2.2 a ha b e
theorem sortT_both : ∀ (l m : List Reg), (m.Pairwise fun y z => cmpR y z ≤ 0) → ((l.foldl (fun m x => insT x m) m).Pairwise fun y z => cmpR y z ≤ 0) ∧ (l.foldl (fun m x => insT x m) m).Perm (m ++ l)
 | [], m, h => ⟨h, by simp⟩
 | x :: l, m, h => by
  have ih := sortT_both l (insT x m) (insT_up h)
  refine ⟨ih.1, ih.2.trans ?_⟩
  refine ((insT_perm x m).append_right l).trans ?_
  exact (List.perm_middle (a := x) (l₁ := m) (l₂ := l)).symm
theorem sortT_up (l : List Reg) : (sortT l).Pairwise fun y z => cmpR y z ≤ 0 := (sortT_both l [] List.Pairwise.nil).1
theorem sortT_perm (l : List Reg) : (sortT l).Perm l := by have := (sortT_both l [] List.Pairwise.nil).2; simpa [sortT] using this
def Vals (ats : List (Bs × Bool)) (vs : List Bs) : Prop := vs.length ≤ ats.length ∧ ∀ k (h1 : k < vs.length) (h2 : k < ats.length), vlErr ats[k] vs[k] = 0
def TxS (n : Nat) (texts : List Txt) (tx : Bool) : Prop :=
 (tx = false ∧ Chain 0 texts n) ∨ (tx = true ∧ ∃ t, texts.getLast? = some t ∧ Chain 0 texts.dropLast t.b ∧ t.b ≤ n)
def Wi (texts : List Txt) (tx : Bool) (b e : Int) : Prop :=
 (∃ u ∈ (if tx = true then texts.dropLast else texts), u.b ≤ b ∧ e ≤ u.e) ∨ (tx = true ∧ ∃ t, texts.getLast? = some t ∧ t.b ≤ b)
structure Inv (ats : List (Bs × Bool)) (x : Rd) : Prop where
 tl : x.toks.length ≤ 4096
 xl : x.texts.length ≤ 64
 rl : x.regs.length + x.opn.length ≤ 1024
 ol : x.opn.length ≤ 40
 tv : ∀ t ∈ x.toks, t.length = ats.length ∧ Vals ats t
 ts : TxS x.toks.length x.texts x.tx
 one : ∀ t ∈ x.texts, okName t.nm = true ∧ prErr t.ks = 0
 dis : x.texts.Pairwise fun t u => t.nm ≠ u.nm
 rg : ∀ y ∈ x.regs, okName y.nm = true ∧ prErr y.ks = 0 ∧ y.b < y.e ∧ y.e ≤ x.toks.length ∧ Wi x.texts x.tx y.b y.e
 og : ∀ o ∈ x.opn, okName o.nm = true ∧ prErr o.ks = 0 ∧ o.b ≤ x.toks.length ∧ x.tx = true ∧ ∃ t, x.texts.getLast? = some t ∧ t.b ≤ o.b
 ob : x.opn.Pairwise fun a b => a.b ≤ b.b
 nc : x.regs.Pairwise fun y z => crossR y z = false
 yo : ∀ y ∈ x.regs, ∀ o ∈ x.opn, y.nm = o.nm → o.b ≤ y.b ∨ y.e ≤ o.b
 cov : ∀ p : Int, p < x.toks.length → (x.regs.countP fun y => decide (y.b ≤ p) && decide (p < y.e)) + (x.opn.countP fun o => decide (o.b ≤ p)) ≤ 40
end Go.Proofs.YtgkdaebiefhgdaaGreatDoor
namespace Go.Proofs.YtgkdaebiefhgdaaGreatDoor
set_option linter.unusedSimpArgs false
set_option linter.unusedVariables false
open Utf
open Feat (Bs lt)
open Tagp (KV okName esc escB fmtT chk chkKeys sortP keyT tagP unesc gon beg)
open Cor (Txt Reg C vlErr prErr)
open Vert (Rd splitT fields tokenP lineV lineOf parseV readV tagOf tagLine isId lastOf tagText tokText closeText)
def flag (s : Bs) (b : Bool) : Bool := if s.take 6 = [60, 116, 101, 120, 116, 32] then true else if s = [60, 47, 116, 101, 120, 116, 62] then false else b
def Goes (ats : List (Bs × Bool)) : Rd → List Bs → Rd → Prop
 | x, [], y => x = y
 | x, s :: ls, y => (∀ c ∈ s, c ≠ 10) ∧ ∃ z, lineV ats x s = .ok z ∧ z.tx = flag s x.tx ∧ Goes ats z ls y
def linesT (ls : List Bs) : Bs := ls.flatMap fun s => s ++ [10]
def Runs (ats : List (Bs × Bool)) (x : Rd) (L : Bs) (y : Rd) : Prop := ∃ ls, L = linesT ls ∧ Goes ats x ls y
theorem Runs.nil (ats : List (Bs × Bool)) (x : Rd) : Runs ats x [] x := ⟨[], rfl, rfl⟩
theorem lineOf_line {s rest : Bs} (h : ∀ c ∈ s, c ≠ 10) : lineOf (s ++ 10 :: rest) = s := by
 unfold lineOf
 rw [List.takeWhile_append]
 have : s.takeWhile (fun c => c != 10) = s := by
  clear rest
  induction s with
  | nil => rfl
  | cons d s ih =>
   rw [List.takeWhile_cons, if_pos (by simpa using h d (by simp)), ih fun c hc => h c (by simp [hc])]
 rw [this, if_pos rfl]
 simp
theorem Goes.parse {ats : List (Bs × Bool)} {y : Rd} : ∀ {ls : List Bs} {x : Rd} (f a : Nat) (rest : Bs), Goes ats x ls y → (linesT ls ++ rest).length < f → ∃ f', rest.length < f' ∧ parseV ats f a (linesT ls ++ rest) x = parseV ats f' (a + (linesT ls).length) rest y
 | [], x, f, a, rest, h, hf => by cases h; exact ⟨f, by simpa [linesT] using hf, by simp [linesT]⟩
 | s :: ls, x, f, a, rest, ⟨h, z, k, _, hz⟩, hf => by
  have e0 : linesT (s :: ls) = s ++ [10] ++ linesT ls := by simp [linesT]
  rw [e0] at hf ⊢
  simp only [List.length_append, List.length_cons, List.length_nil] at hf
  obtain ⟨f, rfl⟩ : ∃ q, f = q + 1 := ⟨f - 1, by omega⟩
  obtain ⟨f', h1, h2⟩ := Goes.parse f (a + s.length + 1) rest hz (by simp; omega)
  refine ⟨f', h1, ?_⟩
  rw [List.append_assoc, List.append_assoc, List.singleton_append, parseV, if_neg (by simp), lineOf_line h, k]
  dsimp only
  have e : (s ++ 10 :: (linesT ls ++ rest)).drop (s.length + 1) = linesT ls ++ rest := by
   rw [List.drop_append]; simp
  rw [e, h2]
  congr 1
  simp; omega
theorem Runs.line {ats : List (Bs × Bool)} {x y : Rd} {s : Bs} (h : ∀ c ∈ s, c ≠ 10) (k : lineV ats x s = .ok y) (hf : y.tx = flag s x.tx) : Runs ats x (s ++ [10]) y := ⟨[s], by simp [linesT], h, y, k, hf, rfl⟩
theorem Goes.done {ats : List (Bs × Bool)} {x y : Rd} {ls : List Bs} (h : Goes ats x ls y) : parseV ats ((linesT ls).length + 1) 0 (linesT ls) x = .ok y := by
 obtain ⟨f, _, e⟩ := h.parse ((linesT ls).length + 1) 0 [] (by simp)
 rw [List.append_nil] at e
 rw [e, parseV_nil]
theorem Runs.done {ats : List (Bs × Bool)} {x y : Rd} {L : Bs} (h : Runs ats x L y) : parseV ats (L.length + 1) 0 L x = .ok y := by
 obtain ⟨ls, rfl, h⟩ := h
 exact h.done
end Go.Proofs.YtgkdaebiefhgdaaGreatDoor
namespace Go.Proofs.YtgkdaebiefhgdaaGreatDoor
set_option linter.unusedSimpArgs false
set_option linter.unusedVariables false
open Utf
open Feat (Bs lt)
open Tagp (KV okName esc fmtT chk sortP)
open Cor (Txt Reg C vlErr prErr cmpR crossR coverR)
open Vert (Rd tokenP lineV tagLine isId lastOf tagText tokText closeText closes opens)
end Go.Proofs.YtgkdaebiefhgdaaGreatDoor
namespace Go.Proofs.YtgkdaebiefhgdaaGreatDoor
set_option linter.unusedSimpArgs false
set_option linter.unusedVariables false
open Utf
open Feat (Bs lt)
open Tagp (KV okName esc fmtT chk sortP)
open Cor (Txt Reg C vlErr prErr cmpR cmpI crossR coverR within)
open Vert (Rd tokenP lineV tagLine isId lastOf tagText tokText closeText closes opens posText spanText textText endTag fmtErr badT bodyV)
end Go.Proofs.YtgkdaebiefhgdaaGreatDoor
namespace Go.Proofs.YtgkdaebiefhgdaaGreatDoor
set_option linter.unusedSimpArgs false
set_option linter.unusedVariables false
open Utf
open Feat (Bs lt)
open Tagp (KV okName esc fmtT chk sortP)
open Cor (Txt Reg C vlErr prErr cmpR cmpI crossR coverR within findT)
open Vert (Rd tokenP lineV tagLine isId lastOf tagText tokText closeText closes opens posText spanText textText endTag fmtErr badT bodyV readV parseV)
end Go.Proofs.YtgkdaebiefhgdaaGreatDoor
namespace Go.Proofs.YtgkdaebiefhgdaaGreatDoor
set_option linter.unusedSimpArgs false
set_option linter.unusedVariables false
open Utf
open Feat (Bs lt)
open Tagp (KV okName esc escB fmtT chk sortP keyT)
open Cor (Txt Reg C vlErr prErr)
open Vert (tagText tokText closeText closes opens posText spanText textText endTag fmtErr badT bodyV writeV)
end Go.Proofs.YtgkdaebiefhgdaaGreatDoor
