/-
  Several texts of this seat, one behind the other: VertW, VertVd, VertRt, VertRt2, VertRt3, VertRt4, VertLen. No conditions but those of each.
-/
import Derived.Test.YtgkdaebiefhgdaaGreatDoorFVert
import Derived.Test.YtgkdaebiefhgdaaGreatDoorFVertPl
import Derived.Test.YtgkdaebiefhgdaaGreatDoorFCorFa
import Derived.Test.YtgkdaebiefhgdaaGreatDoorFMarkRnd
namespace Go.Proofs.YtgkdaebiefhgdaaGreatDoor.Vert
set_option linter.unusedSimpArgs false
set_option linter.unusedVariables false
open Feat (Bs)
open Tagp (KV okName unesc esc fmtT)
open Cor (Txt Reg C findT vlErr)
def tagText (nm : Bs) (ks : List KV) : Bs := (fmtT false nm ks).1 ++ [10]
def tokText (t : List Bs) : Bs := [9].intercalate (t.map esc) ++ [10]
def closeText (r : Reg) : Bs := [60, 47] ++ r.nm ++ [62, 10]
def closes (regs : List Reg) (k : Nat) : Bs := (regs.filter fun r => decide (r.e = (k : Int))).reverse.flatMap closeText
def opens (regs : List Reg) (k : Nat) : Bs := (regs.filter fun r => decide (r.b = (k : Int))).flatMap fun r => tagText r.nm r.ks
/-- What stands at token number p of a text that begins at b. -/
def posText (c : C) (b p : Nat) : Bs := (if p = b then [] else closes c.regs p) ++ opens c.regs p ++ tokText ((c.toks[p]?).getD [])
/-- The first j tokens from b on. -/
def spanText (c : C) (b j : Nat) : Bs := (List.range j).flatMap fun (i : Nat) => posText c b (b + i)
theorem spanText_succ (c : C) (b j : Nat) : spanText c b (j + 1) = spanText c b j ++ posText c b (b + j) := by
  unfold spanText; rw [List.range_succ, List.flatMap_append]; simp
def endTag : Bs := [60, 47, 116, 101, 120, 116, 62, 10]
def textText (c : C) (t : Txt) : Bs := tagText text (([105, 100], t.nm) :: t.ks) ++ spanText c t.b.toNat (t.e - t.b).toNat ++ closes c.regs t.e.toNat ++ endTag
def badT (t : Txt) : Bool := t.ks.any isId || decide (8 ≤ t.ks.length)
def fmtErr (c : C) : Nat :=
  match c.texts.find? badT with
  | some t => if t.ks.any isId = true then 4 else 2
  | none => if c.regs.any (fun r => r.nm == text) = true then 4 else 0
/-- The whole text. -/
def bodyV (c : C) : Bs := c.texts.flatMap (textText c)
/-- What Format answers of a valid corpus. -/
def writeV (c : C) : Bs × Nat :=
  if fmtErr c ≠ 0 then ([], fmtErr c)
  else if 1048576 < (bodyV c).length then ([], 2)
  else (bodyV c, 0)
def idxP (p : Reg → Bool) (regs : List Reg) (j : Nat) : List Nat := (List.range j).filter fun i => (regs[i]?).any p
theorem idxP_succ {p : Reg → Bool} {regs : List Reg} {j : Nat} (hj : j < regs.length) : idxP p regs (j + 1) = idxP p regs j ++ (if p regs[j] = true then [j] else []) := by
  unfold idxP
  rw [List.range_succ, List.filter_append]
  congr 1
  rw [List.filter_cons, List.getElem?_eq_getElem hj]
  cases hp : p regs[j] <;> simp [hp]
theorem idxP_lt {p : Reg → Bool} {regs : List Reg} {j q : Nat} (h : q ∈ idxP p regs j) : q < j := by
  unfold idxP at h
  exact List.mem_range.1 (List.mem_filter.1 h).1
theorem idxP_len (p : Reg → Bool) (regs : List Reg) (j : Nat) : (idxP p regs j).length ≤ j := by
  unfold idxP
  have := List.length_filter_le (fun i => (regs[i]?).any p) (List.range j)
  rwa [List.length_range] at this
theorem idxP_take {p : Reg → Bool} {regs : List Reg} : ∀ {j : Nat}, j ≤ regs.length → (idxP p regs j).map (fun k => regs[k]?) = ((regs.take j).filter p).map some
  | 0, _ => by simp [idxP]
  | j + 1, h => by
    rw [idxP_succ (by omega), List.map_append, idxP_take (by omega), List.take_succ_eq_append_getElem (by omega), List.filter_append, List.map_append]
    congr 1
    rw [List.filter_cons]
    cases hp : p regs[j] <;> simp [hp]
theorem idxP_all (p : Reg → Bool) (regs : List Reg) : (idxP p regs regs.length).map (fun k => regs[k]?) = (regs.filter p).map some := by
  have := idxP_take (p := p) (regs := regs) (Nat.le_refl _)
  rwa [List.take_length] at this
theorem flat_idx {β : Type} (f : Reg → List β) : ∀ (l : List Nat) (m : List Reg) (regs : List Reg), l.map (fun k => regs[k]?) = m.map some → l.flatMap (fun k => match regs[k]? with | some x => f x | none => []) = m.flatMap f
  | [], [], _, _ => rfl
  | [], _ :: _, _, h => by simp at h
  | _ :: _, [], _, h => by simp at h
  | a :: l, b :: m, regs, h => by
    simp only [List.map_cons, List.cons.injEq] at h
    rw [List.flatMap_cons, List.flatMap_cons, h.1, flat_idx f l m regs h.2]
end Go.Proofs.YtgkdaebiefhgdaaGreatDoor.Vert
namespace Go.Proofs.YtgkdaebiefhgdaaGreatDoor
set_option linter.unusedSimpArgs false
set_option linter.unusedVariables false
open Feat (Bs lt)
open Tagp (KV okName)
open Cor (Txt Reg C vlErr prErr cmpR crossR coverR within tkErr rgErr findT)
open Vert (Rd splitT fields tokenP lineV lineOf parseV readV tagOf tagLine isId lastOf)
def Vals (ats : List (Bs × Bool)) (vs : List Bs) : Prop := vs.length ≤ ats.length ∧ ∀ k (h1 : k < vs.length) (h2 : k < ats.length), vlErr ats[k] vs[k] = 0
def TxS (n : Nat) (texts : List Txt) (tx : Bool) : Prop :=
  (tx = false ∧ Chain 0 texts n) ∨ (tx = true ∧ ∃ t, texts.getLast? = some t ∧ Chain 0 texts.dropLast t.b ∧ t.b ≤ n)
def Wi (texts : List Txt) (tx : Bool) (b e : Int) : Prop :=
  (∃ u ∈ (if tx = true then texts.dropLast else texts), u.b ≤ b ∧ e ≤ u.e) ∨ (tx = true ∧ ∃ t, texts.getLast? = some t ∧ t.b ≤ b)
structure Inv (ats : List (Bs × Bool)) (x : Rd) : Prop where
  tl : x.toks.length ≤ 4096
  xl : x.texts.length ≤ 64
  rl : x.regs.length + x.opn.length ≤ 1024
  ol : x.opn.length ≤ 40
  tv : ∀ t ∈ x.toks, t.length = ats.length ∧ Vals ats t
  ts : TxS x.toks.length x.texts x.tx
  one : ∀ t ∈ x.texts, okName t.nm = true ∧ prErr t.ks = 0
  dis : x.texts.Pairwise fun t u => t.nm ≠ u.nm
  rg : ∀ y ∈ x.regs, okName y.nm = true ∧ prErr y.ks = 0 ∧ y.b < y.e ∧ y.e ≤ x.toks.length ∧ Wi x.texts x.tx y.b y.e
  og : ∀ o ∈ x.opn, okName o.nm = true ∧ prErr o.ks = 0 ∧ o.b ≤ x.toks.length ∧ x.tx = true ∧ ∃ t, x.texts.getLast? = some t ∧ t.b ≤ o.b
  ob : x.opn.Pairwise fun a b => a.b ≤ b.b
  nc : x.regs.Pairwise fun y z => crossR y z = false
  yo : ∀ y ∈ x.regs, ∀ o ∈ x.opn, y.nm = o.nm → o.b ≤ y.b ∨ y.e ≤ o.b
  cov : ∀ p : Int, p < x.toks.length → (x.regs.countP fun y => decide (y.b ≤ p) && decide (p < y.e)) + (x.opn.countP fun o => decide (o.b ≤ p)) ≤ 40
end Go.Proofs.YtgkdaebiefhgdaaGreatDoor
namespace Go.Proofs.YtgkdaebiefhgdaaGreatDoor
set_option linter.unusedSimpArgs false
set_option linter.unusedVariables false
open Utf
open Feat (Bs lt)
open Tagp (KV okName esc escB fmtT chk chkKeys sortP keyT tagP unesc gon beg)
open Cor (Txt Reg C vlErr prErr)
open Vert (Rd splitT fields tokenP lineV lineOf parseV readV tagOf tagLine isId lastOf tagText tokText closeText)
/-- What a line says of the place: within a text or not. -/
def flag (s : Bs) (b : Bool) : Bool := if s.take 6 = [60, 116, 101, 120, 116, 32] then true else if s = [60, 47, 116, 101, 120, 116, 62] then false else b
/-- These lines lead from one state to another. -/
def Goes (ats : List (Bs × Bool)) : Rd → List Bs → Rd → Prop
  | x, [], y => x = y
  | x, s :: ls, y => (∀ c ∈ s, c ≠ 10) ∧ ∃ z, lineV ats x s = .ok z ∧ z.tx = flag s x.tx ∧ Goes ats z ls y
def linesT (ls : List Bs) : Bs := ls.flatMap fun s => s ++ [10]
/-- The reading of this text leads from one state to another. -/
def Runs (ats : List (Bs × Bool)) (x : Rd) (L : Bs) (y : Rd) : Prop := ∃ ls, L = linesT ls ∧ Goes ats x ls y
theorem Runs.nil (ats : List (Bs × Bool)) (x : Rd) : Runs ats x [] x := ⟨[], rfl, rfl⟩
theorem lineOf_line {s rest : Bs} (h : ∀ c ∈ s, c ≠ 10) : lineOf (s ++ 10 :: rest) = s := by
  unfold lineOf
  rw [List.takeWhile_append]
  have : s.takeWhile (fun c => c != 10) = s := by
    clear rest
    induction s with
    | nil => rfl
    | cons d s ih =>
      rw [List.takeWhile_cons, if_pos (by simpa using h d (by simp)), ih fun c hc => h c (by simp [hc])]
  rw [this, if_pos rfl]
  simp
theorem Goes.parse {ats : List (Bs × Bool)} {y : Rd} : ∀ {ls : List Bs} {x : Rd} (f a : Nat) (rest : Bs), Goes ats x ls y → (linesT ls ++ rest).length < f → ∃ f', rest.length < f' ∧ parseV ats f a (linesT ls ++ rest) x = parseV ats f' (a + (linesT ls).length) rest y
  | [], x, f, a, rest, h, hf => by cases h; exact ⟨f, by simpa [linesT] using hf, by simp [linesT]⟩
  | s :: ls, x, f, a, rest, ⟨h, z, k, _, hz⟩, hf => by
    have e0 : linesT (s :: ls) = s ++ [10] ++ linesT ls := by simp [linesT]
    rw [e0] at hf ⊢
    simp only [List.length_append, List.length_cons, List.length_nil] at hf
    obtain ⟨f, rfl⟩ : ∃ q, f = q + 1 := ⟨f - 1, by omega⟩
    obtain ⟨f', h1, h2⟩ := Goes.parse f (a + s.length + 1) rest hz (by simp; omega)
    refine ⟨f', h1, ?_⟩
    rw [List.append_assoc, List.append_assoc, List.singleton_append, parseV, if_neg (by simp), lineOf_line h, k]
    dsimp only
    have e : (s ++ 10 :: (linesT ls ++ rest)).drop (s.length + 1) = linesT ls ++ rest := by
      rw [List.drop_append]; simp
    rw [e, h2]
    congr 1
    simp; omega
theorem Runs.line {ats : List (Bs × Bool)} {x y : Rd} {s : Bs} (h : ∀ c ∈ s, c ≠ 10) (k : lineV ats x s = .ok y) (hf : y.tx = flag s x.tx) : Runs ats x (s ++ [10]) y := ⟨[s], by simp [linesT], h, y, k, hf, rfl⟩
theorem Goes.done {ats : List (Bs × Bool)} {x y : Rd} {ls : List Bs} (h : Goes ats x ls y) : parseV ats ((linesT ls).length + 1) 0 (linesT ls) x = .ok y := by
  obtain ⟨f, _, e⟩ := h.parse ((linesT ls).length + 1) 0 [] (by simp)
  rw [List.append_nil] at e
  rw [e, parseV_nil]
theorem Runs.done {ats : List (Bs × Bool)} {x y : Rd} {L : Bs} (h : Runs ats x L y) : parseV ats (L.length + 1) 0 L x = .ok y := by
  obtain ⟨ls, rfl, h⟩ := h
  exact h.done
theorem fmt_tag {nm : Bs} {l : List KV} (h : chk false nm l = 0) : (fmtT false nm l).1 = gapT nm 0 (sortP l) := by
  unfold fmtT
  rw [if_neg (by rw [h]; simp), if_neg (by simp)]
  unfold gapT
  dsimp only
  split <;> simp
theorem vl_zero {a : Bs × Bool} {v : Bs} (h : vlErr a v = 0) : vErr v = 0 := by
  unfold vlErr at h
  split at h
  · unfold Feat.parse at h
    by_cases hv : vErr v ≠ 0
    · rw [if_pos hv] at h; exact absurd h hv
    · simpa using hv
  · exact h
end Go.Proofs.YtgkdaebiefhgdaaGreatDoor
namespace Go.Proofs.YtgkdaebiefhgdaaGreatDoor
set_option linter.unusedSimpArgs false
set_option linter.unusedVariables false
open Utf
open Feat (Bs lt)
open Tagp (KV okName esc fmtT chk sortP)
open Cor (Txt Reg C vlErr prErr cmpR crossR coverR)
open Vert (Rd tokenP lineV tagLine isId lastOf tagText tokText closeText closes opens)
end Go.Proofs.YtgkdaebiefhgdaaGreatDoor
namespace Go.Proofs.YtgkdaebiefhgdaaGreatDoor
set_option linter.unusedSimpArgs false
set_option linter.unusedVariables false
open Utf
open Feat (Bs lt)
open Tagp (KV okName esc fmtT chk sortP)
open Cor (Txt Reg C vlErr prErr cmpR cmpI crossR coverR within)
open Vert (Rd tokenP lineV tagLine isId lastOf tagText tokText closeText closes opens posText spanText textText endTag fmtErr badT bodyV)
theorem cmpR_le {x y : Reg} (h : cmpR x y ≤ 0) : x.b ≤ y.b ∧ (x.b = y.b → y.e ≤ x.e) := by
  unfold cmpR cmpI at h
  by_cases h1 : x.b < y.b
  · exact ⟨by omega, fun e => by omega⟩
  · by_cases h2 : y.b < x.b
    · simp [h1, h2] at h
    · refine ⟨by omega, fun _ => ?_⟩
      by_cases h3 : y.e < x.e
      · omega
      · by_cases h4 : x.e < y.e
        · simp [h1, h2, h3, h4] at h
        · omega
theorem prErr_good {l : List KV} (h : prErr l = 0) : GoodK l := by
  have h8 := prErr_le h
  unfold prErr at h
  rw [if_neg (by omega)] at h
  have hz := Cor.first_zero 0 l.length h
  have at_ : ∀ k (hk : k < l.length), okName l[k].1 = true ∧ vErr l[k].2 = 0 ∧ (∀ h0 : 0 < k, lt (l[k - 1]'(by omega)).1 l[k].1 = true) := fun k hk => by
    have hk' := hz k (Nat.zero_le _) (by omega)
    unfold Cor.prF at hk'
    rw [List.getElem?_eq_getElem hk] at hk'
    dsimp only at hk'
    split at hk'
    · cases hk'
    · rename_i h1
      split at hk'
      · cases hk'
      · rename_i h2
        refine ⟨by simpa using h1, hk', fun h0 => ?_⟩
        rw [List.getElem?_eq_getElem (by omega)] at h2
        have := fun e => h2 ⟨h0, e⟩
        simpa using this
  refine ⟨h8, fun p hp => ?_, ?_⟩
  · obtain ⟨k, hk, rfl⟩ := List.getElem_of_mem hp
    exact ⟨(at_ k hk).1, (at_ k hk).2.1⟩
  · rw [List.pairwise_iff_getElem]
    intro i j hi hj hij
    induction j with
    | zero => omega
    | succ j ih =>
      have hs := (at_ (j + 1) hj).2.2 (by omega)
      simp only [Nat.add_sub_cancel] at hs
      by_cases e : i = j
      · subst e; exact hs
      · exact Feat.lt_trans (ih (by omega) (by omega)) hs
/-- What is used of a valid corpus that has a file. -/
structure Fine (c : C) : Prop where
  v : Vd c
  srt : c.regs.Pairwise fun r y => r.b ≤ y.b ∧ (r.b = y.b → y.e ≤ r.e)
  nc : c.regs.Pairwise fun r y => crossR r y = false
  one : ∀ r ∈ c.regs, okName r.nm = true ∧ r.nm ≠ Vert.text ∧ GoodK r.ks ∧ 0 ≤ r.b ∧ r.b < r.e ∧ r.e ≤ c.toks.length
  cov : ∀ k (hk : k < c.regs.length), ((c.regs.take (k + 1)).filter (coverR c.regs[k])).length ≤ 40
  edge : ∀ t ∈ c.texts, ∀ r ∈ c.regs, (r.e ≤ t.b ∨ t.b ≤ r.b) ∧ (r.e ≤ t.e ∨ t.e ≤ r.b)
theorem fine_of {c : C} (v : Vd c) (hf : fmtErr c = 0) : Fine c := by
  have hr := rgC_iff.1 v.r
  have hnt : ∀ r ∈ c.regs, r.nm ≠ Vert.text := fun r hr' e => by
    unfold fmtErr at hf
    split at hf
    · split at hf <;> cases hf
    · split at hf
      · cases hf
      · rename_i h
        apply h
        rw [List.any_eq_true]
        exact ⟨r, hr', by simpa using e⟩
  refine ⟨v, hr.pw.imp fun h => cmpR_le h.1, hr.pw.imp fun h => h.2, fun r hm => ?_, hr.cov, fun t ht r hm => ?_⟩
  · have h1 := hr.one r hm
    have h2 := v.rg r hm
    exact ⟨h1.1, hnt r hm, prErr_good h1.2.2, h2.2.1, h2.2.2.1, h2.2.2.2.1⟩
  · obtain ⟨i, hi, rfl⟩ := List.getElem_of_mem ht
    have hed := v.edge hi
    have hw := (v.rg r hm).1
    unfold within at hw
    rw [List.any_eq_true] at hw
    obtain ⟨u, hu, hu2⟩ := hw
    simp only [Bool.and_eq_true, decide_eq_true_eq] at hu2
    have a := hed.1 u hu
    have b := hed.2 u hu
    constructor
    · rcases a with a | a
      · left; omega
      · right; omega
    · rcases b with b | b
      · left; omega
      · right; omega
end Go.Proofs.YtgkdaebiefhgdaaGreatDoor
namespace Go.Proofs.YtgkdaebiefhgdaaGreatDoor
set_option linter.unusedSimpArgs false
set_option linter.unusedVariables false
open Utf
open Feat (Bs lt)
open Tagp (KV okName esc fmtT chk sortP)
open Cor (Txt Reg C vlErr prErr cmpR cmpI crossR coverR within findT)
open Vert (Rd tokenP lineV tagLine isId lastOf tagText tokText closeText closes opens posText spanText textText endTag fmtErr badT bodyV readV parseV)
theorem vd_vals {c : C} (v : Vd c) : c.attrs ≠ [] ∧ ∀ t ∈ c.toks, t.length = c.attrs.length ∧ ∀ k (h1 : k < t.length) (h2 : k < c.attrs.length), vlErr c.attrs[k] t[k] = 0 := by
  refine ⟨fun e => ?_, fun t ht => ?_⟩
  · have h := v.a
    rw [e] at h
    cases h
  · have h := (tkC_iff.1 v.t).2 t ht
    refine ⟨h.1, fun k h1 h2 => ?_⟩
    have := Cor.first_zero 0 t.length h.2 k (Nat.zero_le _) (by omega)
    unfold Cor.tvF at this
    rw [List.getElem?_eq_getElem h2, List.getElem?_eq_getElem h1] at this
    exact this
end Go.Proofs.YtgkdaebiefhgdaaGreatDoor
namespace Go.Proofs.YtgkdaebiefhgdaaGreatDoor
set_option linter.unusedSimpArgs false
set_option linter.unusedVariables false
open Utf
open Feat (Bs lt)
open Tagp (KV okName esc escB fmtT chk sortP keyT)
open Cor (Txt Reg C vlErr prErr)
open Vert (tagText tokText closeText closes opens posText spanText textText endTag fmtErr badT bodyV writeV)
theorem sum_le {α : Type} {f : α → Bs} {k : Nat} : ∀ {l : List α}, (∀ x ∈ l, (f x).length ≤ k) → (l.flatMap f).length ≤ l.length * k
  | [], _ => by simp
  | a :: l, h => by
    have ih := sum_le (f := f) (k := k) (l := l) fun x hx => h x (by simp [hx])
    have := h a (by simp)
    rw [List.flatMap_cons, List.length_append, List.length_cons, Nat.succ_mul]
    omega
theorem escB_l6 (c : UInt8) : (escB c).length ≤ 6 := by
  unfold escB
  split
  · decide
  · split
    · decide
    · split
      · decide
      · split
        · decide
        · simp
theorem esc_l6 (s : Bs) : (esc s).length ≤ s.length * 6 := sum_le fun c _ => escB_l6 c
theorem vErr_l120 {s : Bs} (h : vErr s = 0) : s.length ≤ 120 := ((vErr_zero s).1 h).1
theorem tag_len (nm : Bs) (l : List KV) : (tagText nm l).length ≤ 7000 := by
  unfold tagText
  by_cases hc : chk false nm l = 0
  · rw [fmt_tag hc]
    have hk := chk_ok hc
    have h1 := okName_le32 hk.1
    have h2 : ((sortP l).flatMap keyT).length ≤ (sortP l).length * 757 := sum_le fun p hp => by
      have hp' := hk.2.2.2 p ((perm_sort l).mem_iff.1 hp)
      have a := okName_le32 hp'.1
      have b := vErr_l120 hp'.2
      have d := esc_l6 p.2
      unfold keyT
      simp only [List.length_append, List.length_cons, List.length_nil]
      omega
    have h3 := (perm_sort l).length_eq
    have h4 := hk.2.2.1
    unfold gapT
    simp only [List.replicate_zero, ite_self, List.append_nil, List.length_append, List.length_cons, List.length_nil]
    rw [h3] at h2
    have : l.length * 757 ≤ 8 * 757 := Nat.mul_le_mul_right _ h4
    omega
  · have : (fmtT false nm l).1 = [] := by unfold fmtT; rw [if_pos hc]
    rw [this]; simp
theorem tok_len {t : List Bs} (h8 : t.length ≤ 8) (h : ∀ v ∈ t, v.length ≤ 120) : (tokText t).length ≤ 6000 := by
  have key : ∀ (l : List Bs), (∀ v ∈ l, v.length ≤ 720) → (([9] : Bs).intercalate l).length ≤ l.length * 721 := by
    intro l
    induction l with
    | nil => intro _; simp [List.intercalate]
    | cons a l ih =>
      intro hl
      have ha := hl a (by simp)
      cases l with
      | nil => simp [List.intercalate]; omega
      | cons b l =>
        have e : ([9] : Bs).intercalate (a :: b :: l) = a ++ 9 :: [9].intercalate (b :: l) := by simp [List.intercalate, List.intersperse]
        have := ih fun v hv => hl v (by simp only [List.mem_cons] at hv ⊢; exact .inr hv)
        rw [e, List.length_append, List.length_cons, List.length_cons (a := a), Nat.succ_mul]
        omega
  have := key (t.map esc) fun v hv => by
    obtain ⟨u, hu, rfl⟩ := List.mem_map.1 hv
    have := esc_l6 u
    have := h u hu
    omega
  rw [List.length_map] at this
  have h9 : t.length * 721 ≤ 8 * 721 := Nat.mul_le_mul_right _ h8
  unfold tokText
  rw [List.length_append]
  simp only [List.length_cons, List.length_nil]
  omega
theorem vd_val {c : C} (v : Vd c) : ∀ t ∈ c.toks, ∀ u ∈ t, u.length ≤ 120 := fun t ht u hu => by
  obtain ⟨k, hk, rfl⟩ := List.getElem_of_mem hu
  have h := (vd_vals v).2 t ht
  exact vErr_l120 (vl_zero (h.2 k hk (by omega)))
theorem pos_len {c : C} (v : Vd c) (b p : Nat) : (posText c b p).length ≤ 10000000 := by
  have hr := rgC_iff.1 v.r
  have h1 : (closes c.regs p).length ≤ 1024 * 40 := by
    unfold closes
    have := sum_le (f := closeText) (k := 40) (l := (c.regs.filter fun r => decide (r.e = (p : Int))).reverse) fun r hr' => by
      have hm := (List.mem_filter.1 (List.mem_reverse.1 hr')).1
      have := okName_le32 (hr.one r hm).1
      unfold closeText
      simp only [List.length_append, List.length_cons, List.length_nil]
      omega
    rw [List.length_reverse] at this
    have h2 := List.length_filter_le (fun r : Reg => decide (r.e = (p : Int))) c.regs
    have h3 := hr.len
    refine Nat.le_trans this (Nat.mul_le_mul_right _ (by omega))
  have h2 : (opens c.regs p).length ≤ 1024 * 7000 := by
    unfold opens
    have := sum_le (f := fun r : Reg => tagText r.nm r.ks) (k := 7000) (l := c.regs.filter fun r => decide (r.b = (p : Int))) fun r _ => tag_len _ _
    have h2 := List.length_filter_le (fun r : Reg => decide (r.b = (p : Int))) c.regs
    have h3 := hr.len
    refine Nat.le_trans this (Nat.mul_le_mul_right _ (by omega))
  have h3 : (tokText ((c.toks[p]?).getD [])).length ≤ 6000 := by
    rcases Nat.lt_or_ge p c.toks.length with h | h
    · rw [List.getElem?_eq_getElem h]
      have hm := List.getElem_mem h
      refine tok_len ?_ (vd_val v _ hm)
      show c.toks[p].length ≤ 8
      rw [(vd_vals v).2 _ hm |>.1]
      exact v.atl
    · rw [List.getElem?_eq_none h]; decide
  unfold posText
  rw [List.length_append, List.length_append]
  have h4 : (if p = b then [] else closes c.regs p).length ≤ 1024 * 40 := by
    by_cases e : p = b
    · rw [if_pos e]; exact Nat.zero_le _
    · rw [if_neg e]; exact h1
  omega
theorem span_len {c : C} (v : Vd c) (b j : Nat) : (spanText c b j).length ≤ j * 10000000 := by
  unfold spanText
  have := sum_le (f := fun i : Nat => posText c b (b + i)) (k := 10000000) (l := List.range j) fun i _ => pos_len v _ _
  rwa [List.length_range] at this
theorem vtext_len {c : C} (v : Vd c) (t : Txt) : (textText c t).length ≤ ((t.e - t.b).toNat + 1) * 10000000 := by
  have h1 := span_len v t.b.toNat (t.e - t.b).toNat
  have h2 := tag_len Vert.text (([105, 100], t.nm) :: t.ks)
  have h3 : (closes c.regs t.e.toNat).length ≤ 1024 * 40 := by
    have hr := rgC_iff.1 v.r
    unfold closes
    have := sum_le (f := closeText) (k := 40) (l := (c.regs.filter fun r => decide (r.e = (t.e.toNat : Int))).reverse) fun r hr' => by
      have hm := (List.mem_filter.1 (List.mem_reverse.1 hr')).1
      have := okName_le32 (hr.one r hm).1
      unfold closeText
      simp only [List.length_append, List.length_cons, List.length_nil]
      omega
    rw [List.length_reverse] at this
    have h2 := List.length_filter_le (fun r : Reg => decide (r.e = (t.e.toNat : Int))) c.regs
    have h3 := hr.len
    refine Nat.le_trans this (Nat.mul_le_mul_right _ (by omega))
  have h4 : endTag.length = 8 := rfl
  unfold textText
  rw [List.length_append, List.length_append, List.length_append, h4]
  omega
theorem body_len {c : C} (v : Vd c) : (bodyV c).length ≤ 1099511627776 := by
  have key : ∀ (m : List Txt) (p : Int), 0 ≤ p → Chain p m c.toks.length → (m.flatMap (textText c)).length ≤ ((c.toks.length - p).toNat + m.length) * 10000000 := by
    intro m
    induction m with
    | nil => intro p _ _; simp
    | cons t m ih =>
      intro p hp ⟨h1, h2, h3⟩
      have h4 := ih t.e (by omega) h3
      have h5 := vtext_len v t
      have h6 := (chain_bd h3).1
      rw [List.flatMap_cons, List.length_append, List.length_cons]
      omega
  have hx := txC_iff.1 v.x
  have := key c.texts 0 (Int.le_refl _) hx.row
  have h1 := (tkC_iff.1 v.t).1
  have h2 := hx.len
  unfold bodyV
  refine Nat.le_trans this ?_
  have : ((c.toks.length : Int) - 0).toNat = c.toks.length := by omega
  rw [this]
  omega
end Go.Proofs.YtgkdaebiefhgdaaGreatDoor
