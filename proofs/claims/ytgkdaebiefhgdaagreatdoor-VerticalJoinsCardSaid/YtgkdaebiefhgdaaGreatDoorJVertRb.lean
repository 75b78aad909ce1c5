/-
 Several texts of this seat, one behind the other: VertW, VertVd, VertRt, VertRt2, VertRt3, VertRt4, VertLen. No conditions but those of each.
-/
import Derived.Test.YtgkdaebiefhgdaaGreatDoorJVert
import Derived.Test.YtgkdaebiefhgdaaGreatDoorJVertPl
import Derived.Test.YtgkdaebiefhgdaaGreatDoorJCorFa
import Derived.Test.YtgkdaebiefhgdaaGreatDoorJMarkRnd
namespace Go.Proofs.YtgkdaebiefhgdaaGreatDoor.Vert
set_option linter.unusedSimpArgs false
set_option linter.unusedVariables false
open Feat (Bs)
open Tagp (KV okName unesc esc fmtT)
open Cor (Txt Reg C findT vlErr)
def tagText (nm : Bs) (ks : List KV) : Bs := (fmtT false nm ks).1 ++ [10]
def tokText (t : List Bs) : Bs := [9].intercalate (t.map esc) ++ [10]
def closeText (r : Reg) : Bs := [60, 47] ++ r.nm ++ [62, 10]
def closes (regs : List Reg) (k : Nat) : Bs := (regs.filter fun r => decide (r.e = (k : Int))).reverse.flatMap closeText
def opens (regs : List Reg) (k : Nat) : Bs := (regs.filter fun r => decide (r.b = (k : Int))).flatMap fun r => tagText r.nm r.ks
def posText (c : C) (b p : Nat) : Bs := (if p = b then [] else closes c.regs p) ++ opens c.regs p ++ tokText ((c.toks[p]?).getD [])
def spanText (c : C) (b j : Nat) : Bs := (List.range j).flatMap fun (i : Nat) => posText c b (b + i)
theorem spanText_succ (c : C) (b j : Nat) : spanText c b (j + 1) = spanText c b j ++ posText c b (b + j) := by
 unfold spanText; rw [List.range_succ, List.flatMap_append]; simp
def endTag : Bs := [60, 47, 116, 101, 120, 116, 62, 10]
def textText (c : C) (t : Txt) : Bs := tagText text (([105, 100], t.nm) :: t.ks) ++ spanText c t.b.toNat (t.e - t.b).toNat ++ closes c.regs t.e.toNat ++ endTag
def badT (t : Txt) : Bool := t.ks.any isId || decide (8 ≤ t.ks.length)
def fmtErr (c : C) : Nat :=
 match c.texts.find? badT with
 | some t => if t.ks.any isId = true then 4 else 2
 | none => if c.regs.any (fun r => r.nm == text) = true then 4 else 0
def bodyV (c : C) : Bs := c.texts.flatMap (textText c)
def writeV (c : C) : Bs × Nat :=
 if fmtErr c ≠ 0 then ([], fmtErr c)
 else if 1048576 < (bodyV c).length then ([], 2)
 else (bodyV c, 0)
def idxP (p : Reg → Bool) (regs : List Reg) (j : Nat) : List Nat := (List.range j).filter fun i => (regs[i]?).any p
theorem idxP_succ {p : Reg → Bool} {regs : List Reg} {j : Nat} (hj : j < regs.length) : idxP p regs (j + 1) = idxP p regs j ++ (if p regs[j] = true then [j] else []) := by
 unfold idxP
 rw [List.range_succ, List.filter_append]
 congr 1
 rw [List.filter_cons, List.getElem?_eq_getElem hj]
 cases hp : p regs[j] <;> simp [hp]
theorem idxP_lt {p : Reg → Bool} {regs : List Reg} {j q : Nat} (h : q ∈ idxP p regs j) : q < j := by
 unfold idxP at h
 exact List.mem_range.1 (List.mem_filter.1 h).1
theorem idxP_len (p : Reg → Bool) (regs : List Reg) (j : Nat) : (idxP p regs j).length ≤ j := by
 unfold idxP
 have := List.length_filter_le (fun i => (regs[i]?).any p) (List.range j)
 rwa [List.length_range] at this
theorem idxP_take {p : Reg → Bool} {regs : List Reg} : ∀ {j : Nat}, j ≤ regs.length → (idxP p regs j).map (fun k => regs[k]?) = ((regs.take j).filter p).map some
 | 0, _ => by simp [idxP]
 | j + 1, h => by
  rw [idxP_succ (by omega), List.map_append, idxP_take (by omega), List.take_succ_eq_append_getElem (by omega), List.filter_append, List.map_append]
  congr 1
  rw [List.filter_cons]
  cases hp : p regs[j] <;> simp [hp]
theorem idxP_all (p : Reg → Bool) (regs : List Reg) : (idxP p regs regs.length).map (fun k => regs[k]?) = (regs.filter p).map some := by
 have := idxP_take (p := p) (regs := regs) (Nat.le_refl _)
 rwa [List.take_length] at this
theorem flat_idx {β : Type} (f : Reg → List β) : ∀ (l : List Nat) (m : List Reg) (regs : List Reg), l.map (fun k => regs[k]?) = m.map some → l.flatMap (fun k => match regs[k]? with | some x => f x | none => []) = m.flatMap f
 | [], [], _, _ => rfl
 | [], _ :: _, _, h => by simp at h
 | _ :: _, [], _, h => by simp at h
 | a :: l, b :: m, regs, h => by
  simp only [List.map_cons, List.cons.injEq] at h
  rw [List.flatMap_cons, List.flatMap_cons, h.1, flat_idx f l m regs h.2]
end Go.Proofs.YtgkdaebiefhgdaaGreatDoor.Vert
namespace Go.Proofs.YtgkdaebiefhgdaaGreatDoor
set_option linter.unusedSimpArgs false
set_option linter.unusedVariables false
open Feat (Bs lt)
open Tagp (KV okName)
open Cor (Txt Reg C vlErr prErr cmpR crossR coverR within tkErr rgErr findT)
open Vert (Rd splitT fields tokenP lineV lineOf parseV readV tagOf tagLine isId lastOf)
theorem spot_all {x : Reg} {m : List Reg} : ∀ (i : Nat), i ≤ m.length → (∀ j (hj : j < m.length), spot x m i ≤ j → j < i → cmpR x m[j] < 0) ∧ (∀ h0 : 0 < spot x m i, ∃ hs : spot x m i - 1 < m.length, ¬ cmpR x m[spot x m i - 1] < 0)
 | 0, _ => ⟨fun j hj h1 h2 => by omega, fun h0 => by simp [spot] at h0⟩
 | i + 1, hi => by
  have ih := spot_all (x := x) (m := m) i (by omega)
  by_cases hc : cmpR x m[i] < 0
  ·rw [spot_down (by omega) hc]
   refine ⟨fun j hj h1 h2 => ?_, ih.2⟩
   by_cases e : j = i
   ·subst e; exact hc
   ·exact ih.1 j hj h1 (by omega)
  ·rw [spot_stay (by omega) hc]
   exact ⟨fun j hj h1 h2 => by omega, fun _ => ⟨by omega, by simpa using hc⟩⟩
theorem insT_perm (x : Reg) (m : List Reg) : (insT x m).Perm (x :: m) := by
 unfold insT
 have h := List.perm_middle (a := x) (l₁ := m.take (spot x m m.length)) (l₂ := m.drop (spot x m m.length))
 rwa [List.take_append_drop] at h
theorem insT_up {x : Reg} {m : List Reg} (h : m.Pairwise fun y z => cmpR y z ≤ 0) : (insT x m).Pairwise fun y z => cmpR y z ≤ 0 := by
 have hs := spot_all (x := x) (m := m) m.length (Nat.le_refl _)
 have hle := spot_le x m m.length
 unfold insT
 generalize spot x m m.length = s at hs hle ⊢
 have hp := h
 rw [← List.take_append_drop s m, List.pairwise_append] at hp
 have hlo : ∀ a ∈ m.take s, cmpR a x ≤ 0 := fun a ha => by
  obtain ⟨j, hj, rfl⟩ := List.getElem_of_mem ha
  have hj' : j < s := by simp at hj; omega
  obtain ⟨hsl, hns⟩ := hs.2 (by omega)
  have h1 : cmpR m[s - 1] x ≤ 0 := by have := ord_R.anti x m[s - 1]; omega
  rw [List.getElem_take]
  by_cases e : j = s - 1
  ·subst e; exact h1
  ·exact ord_R.tr _ _ _ (List.pairwise_iff_getElem.1 h j (s - 1) (by omega) hsl (by omega)) h1
 have hhi : ∀ b ∈ m.drop s, cmpR x b ≤ 0 := fun b hb => by
  obtain ⟨j, hj, rfl⟩ := List.getElem_of_mem hb
  rw [List.getElem_drop]
  have hj2 : s + j < m.length := by simp at hj; omega
  have := hs.1 (s + j) hj2 (by omega) hj2
  omega
 refine List.pairwise_append.2 ⟨hp.1, List.pairwise_cons.2 ⟨hhi, hp.2.1⟩, fun a ha b hb => ?_⟩
 rcases List.mem_cons.1 hb with e | e
 ·subst e; exact hlo a ha
 ·exact hp.2.2 a ha b e
theorem sortT_both : ∀ (l m : List Reg), (m.Pairwise fun y z => cmpR y z ≤ 0) → ((l.foldl (fun m x => insT x m) m).Pairwise fun y z => cmpR y z ≤ 0) ∧ (l.foldl (fun m x => insT x m) m).Perm (m ++ l)
 | [], m, h => ⟨h, by simp⟩
 | x :: l, m, h => by
  have ih := sortT_both l (insT x m) (insT_up h)
  refine ⟨ih.1, ih.2.trans ?_⟩
  refine ((insT_perm x m).append_right l).trans ?_
  exact (List.perm_middle (a := x) (l₁ := m) (l₂ := l)).symm
theorem sortT_up (l : List Reg) : (sortT l).Pairwise fun y z => cmpR y z ≤ 0 := (sortT_both l [] List.Pairwise.nil).1
theorem sortT_perm (l : List Reg) : (sortT l).Perm l := by have := (sortT_both l [] List.Pairwise.nil).2; simpa [sortT] using this
def Vals (ats : List (Bs × Bool)) (vs : List Bs) : Prop := vs.length ≤ ats.length ∧ ∀ k (h1 : k < vs.length) (h2 : k < ats.length), vlErr ats[k] vs[k] = 0
def TxS (n : Nat) (texts : List Txt) (tx : Bool) : Prop :=
 (tx = false ∧ Chain 0 texts n) ∨ (tx = true ∧ ∃ t, texts.getLast? = some t ∧ Chain 0 texts.dropLast t.b ∧ t.b ≤ n)
def Wi (texts : List Txt) (tx : Bool) (b e : Int) : Prop :=
 (∃ u ∈ (if tx = true then texts.dropLast else texts), u.b ≤ b ∧ e ≤ u.e) ∨ (tx = true ∧ ∃ t, texts.getLast? = some t ∧ t.b ≤ b)
structure Inv (ats : List (Bs × Bool)) (x : Rd) : Prop where
 tl : x.toks.length ≤ 4096
 xl : x.texts.length ≤ 64
 rl : x.regs.length + x.opn.length ≤ 1024
 ol : x.opn.length ≤ 40
 tv : ∀ t ∈ x.toks, t.length = ats.length ∧ Vals ats t
 ts : TxS x.toks.length x.texts x.tx
 one : ∀ t ∈ x.texts, okName t.nm = true ∧ prErr t.ks = 0
 dis : x.texts.Pairwise fun t u => t.nm ≠ u.nm
 rg : ∀ y ∈ x.regs, okName y.nm = true ∧ prErr y.ks = 0 ∧ y.b < y.e ∧ y.e ≤ x.toks.length ∧ Wi x.texts x.tx y.b y.e
 og : ∀ o ∈ x.opn, okName o.nm = true ∧ prErr o.ks = 0 ∧ o.b ≤ x.toks.length ∧ x.tx = true ∧ ∃ t, x.texts.getLast? = some t ∧ t.b ≤ o.b
 ob : x.opn.Pairwise fun a b => a.b ≤ b.b
 nc : x.regs.Pairwise fun y z => crossR y z = false
 yo : ∀ y ∈ x.regs, ∀ o ∈ x.opn, y.nm = o.nm → o.b ≤ y.b ∨ y.e ≤ o.b
 cov : ∀ p : Int, p < x.toks.length → (x.regs.countP fun y => decide (y.b ≤ p) && decide (p < y.e)) + (x.opn.countP fun o => decide (o.b ≤ p)) ≤ 40
end Go.Proofs.YtgkdaebiefhgdaaGreatDoor
namespace Go.Proofs.YtgkdaebiefhgdaaGreatDoor
set_option linter.unusedSimpArgs false
set_option linter.unusedVariables false
open Utf
open Feat (Bs lt)
open Tagp (KV okName esc escB fmtT chk chkKeys sortP keyT tagP unesc gon beg)
open Cor (Txt Reg C vlErr prErr)
open Vert (Rd splitT fields tokenP lineV lineOf parseV readV tagOf tagLine isId lastOf tagText tokText closeText)
def flag (s : Bs) (b : Bool) : Bool := if s.take 6 = [60, 116, 101, 120, 116, 32] then true else if s = [60, 47, 116, 101, 120, 116, 62] then false else b
def Goes (ats : List (Bs × Bool)) : Rd → List Bs → Rd → Prop
 | x, [], y => x = y
 | x, s :: ls, y => (∀ c ∈ s, c ≠ 10) ∧ ∃ z, lineV ats x s = .ok z ∧ z.tx = flag s x.tx ∧ Goes ats z ls y
def linesT (ls : List Bs) : Bs := ls.flatMap fun s => s ++ [10]
theorem Goes.app {ats : List (Bs × Bool)} {y z : Rd} {m : List Bs} (k : Goes ats y m z) : ∀ {l : List Bs} {x : Rd}, Goes ats x l y → Goes ats x (l ++ m) z
 | [], x, h => by cases h; exact k
 | s :: l, x, ⟨h, z', a, b, c⟩ => ⟨h, z', a, b, Goes.app k c⟩
def Runs (ats : List (Bs × Bool)) (x : Rd) (L : Bs) (y : Rd) : Prop := ∃ ls, L = linesT ls ∧ Goes ats x ls y
theorem Runs.nil (ats : List (Bs × Bool)) (x : Rd) : Runs ats x [] x := ⟨[], rfl, rfl⟩
theorem Runs.app {ats : List (Bs × Bool)} {x y z : Rd} {L M : Bs} (h : Runs ats x L y) (k : Runs ats y M z) : Runs ats x (L ++ M) z := by
 obtain ⟨l, rfl, h⟩ := h
 obtain ⟨m, rfl, k⟩ := k
 exact ⟨l ++ m, by unfold linesT; rw [List.flatMap_append], k.app h⟩
theorem lineOf_line {s rest : Bs} (h : ∀ c ∈ s, c ≠ 10) : lineOf (s ++ 10 :: rest) = s := by
 unfold lineOf
 rw [List.takeWhile_append]
 have : s.takeWhile (fun c => c != 10) = s := by
  clear rest
  induction s with
  | nil => rfl
  | cons d s ih =>
   rw [List.takeWhile_cons, if_pos (by simpa using h d (by simp)), ih fun c hc => h c (by simp [hc])]
 rw [this, if_pos rfl]
 simp
theorem Goes.parse {ats : List (Bs × Bool)} {y : Rd} : ∀ {ls : List Bs} {x : Rd} (f a : Nat) (rest : Bs), Goes ats x ls y → (linesT ls ++ rest).length < f → ∃ f', rest.length < f' ∧ parseV ats f a (linesT ls ++ rest) x = parseV ats f' (a + (linesT ls).length) rest y
 | [], x, f, a, rest, h, hf => by cases h; exact ⟨f, by simpa [linesT] using hf, by simp [linesT]⟩
 | s :: ls, x, f, a, rest, ⟨h, z, k, _, hz⟩, hf => by
  have e0 : linesT (s :: ls) = s ++ [10] ++ linesT ls := by simp [linesT]
  rw [e0] at hf ⊢
  simp only [List.length_append, List.length_cons, List.length_nil] at hf
  obtain ⟨f, rfl⟩ : ∃ q, f = q + 1 := ⟨f - 1, by omega⟩
  obtain ⟨f', h1, h2⟩ := Goes.parse f (a + s.length + 1) rest hz (by simp; omega)
  refine ⟨f', h1, ?_⟩
  rw [List.append_assoc, List.append_assoc, List.singleton_append, parseV, if_neg (by simp), lineOf_line h, k]
  dsimp only
  have e : (s ++ 10 :: (linesT ls ++ rest)).drop (s.length + 1) = linesT ls ++ rest := by
   rw [List.drop_append]; simp
  rw [e, h2]
  congr 1
  simp; omega
theorem Runs.line {ats : List (Bs × Bool)} {x y : Rd} {s : Bs} (h : ∀ c ∈ s, c ≠ 10) (k : lineV ats x s = .ok y) (hf : y.tx = flag s x.tx) : Runs ats x (s ++ [10]) y := ⟨[s], by simp [linesT], h, y, k, hf, rfl⟩
theorem Goes.done {ats : List (Bs × Bool)} {x y : Rd} {ls : List Bs} (h : Goes ats x ls y) : parseV ats ((linesT ls).length + 1) 0 (linesT ls) x = .ok y := by
 obtain ⟨f, _, e⟩ := h.parse ((linesT ls).length + 1) 0 [] (by simp)
 rw [List.append_nil] at e
 rw [e, parseV_nil]
theorem Runs.done {ats : List (Bs × Bool)} {x y : Rd} {L : Bs} (h : Runs ats x L y) : parseV ats (L.length + 1) 0 L x = .ok y := by
 obtain ⟨ls, rfl, h⟩ := h
 exact h.done
theorem tagLine_tx {x y : Rd} {cl : Bool} {nm : Bs} {ks : List KV} (h : tagLine x cl nm ks = .ok y) : y.tx = if nm = Vert.text then !cl else x.tx := by
 unfold tagLine at h
 by_cases e : nm = Vert.text
 ·rw [if_pos e] at h ⊢
  cases cl with
  | true =>
   rw [if_pos rfl] at h
   unfold Vert.endText at h
   split at h
   ·cases h
   ·split at h
    ·cases h
    ·split at h
     ·cases h
     ·split at h
      ·cases h
      ·cases h; rfl
  | false =>
   rw [if_neg (by simp)] at h
   unfold Vert.beginText at h
   split at h
   ·cases h
   ·split at h
    ·cases h
    ·split at h
     ·cases h
     ·split at h
      ·cases h
      ·split at h
       ·cases h
       ·cases h; rfl
 ·rw [if_neg e] at h ⊢
  cases cl with
  | true =>
   rw [if_pos rfl] at h
   unfold Vert.endReg at h
   split at h
   ·cases h
   ·split at h
    ·cases h
    ·split at h
     ·cases h
     ·split at h
      ·cases h
      ·cases h; rfl
  | false =>
   rw [if_neg (by simp)] at h
   unfold Vert.beginReg at h
   split at h
   ·cases h
   ·split at h
    ·cases h
    ·cases h; rfl

theorem not_ctl {c : UInt8} {k : Nat} (h : ctlT c.toNat = false) (hk : k ≤ 31) (hk2 : k < 256) : c ≠ UInt8.ofNat k := by
 intro e
 subst e
 unfold ctlT at h
 simp only [Bool.or_eq_false_iff, decide_eq_false_iff_not] at h
 have : (UInt8.ofNat k).toNat = k := by simp [UInt8.toNat_ofNat']; omega
 omega
theorem esc_mem {v : Bs} {k : Nat} (hk : k ≤ 31) (h : ctlB v = false) : ∀ c ∈ esc v, c ≠ UInt8.ofNat k := by
 intro c hc
 unfold esc at hc
 rw [List.mem_flatMap] at hc
 obtain ⟨d, hd, hc⟩ := hc
 have hd' : ctlT d.toNat = false := by
  unfold ctlB at h
  rw [List.any_eq_false] at h
  simpa using h d hd
 unfold escB at hc
 have lit : ∀ (L : List UInt8), (L.all fun b => decide (32 ≤ b.toNat)) = true → c ∈ L → c ≠ UInt8.ofNat k := fun L hL hcL e => by
  rw [List.all_eq_true] at hL
  have h1 := hL c hcL
  rw [decide_eq_true_eq] at h1
  have h2 := congrArg UInt8.toNat e
  rw [UInt8.toNat_ofNat'] at h2
  have : k % 2 ^ 8 = k := Nat.mod_eq_of_lt (by omega)
  omega
 split at hc
 ·exact lit _ (by decide) hc
 ·split at hc
  ·exact lit _ (by decide) hc
  ·split at hc
   ·exact lit _ (by decide) hc
   ·split at hc
    ·exact lit _ (by decide) hc
    ·simp at hc
     subst hc
     exact not_ctl hd' hk (by omega)
theorem esc_ten {v : Bs} (h : vErr v = 0) : ∀ c ∈ esc v, c ≠ 10 := esc_mem (k := 10) (by decide) ((vErr_zero v).1 h).2.2
theorem esc_nine {v : Bs} (h : ctlB v = false) : ∀ c ∈ esc v, c ≠ 9 := esc_mem (k := 9) (by decide) h
theorem gon_ge {c : UInt8} (h : gon c = true) : 45 ≤ c.toNat := by
 unfold gon beg Tagp.dig at h
 simp only [Bool.or_eq_true, Bool.and_eq_true, decide_eq_true_eq] at h
 omega
theorem vname_ten {nm : Bs} (h : okName nm = true) : ∀ c ∈ nm, c ≠ 10 := by
 intro c hc e
 unfold okName at h
 simp only [Bool.and_eq_true] at h
 have := gon_ge (List.all_eq_true.1 h.2 c hc)
 subst e
 have : (10 : UInt8).toNat = 10 := rfl
 omega

theorem good_chk {nm : Bs} {l : List KV} (hn : okName nm = true) (h : Good l) : chk false nm l = 0 := by
 unfold chk
 rw [if_neg (by rw [hn]; simp), if_neg (by have := h.1; simp; omega)]
 have key : ∀ (m b : List KV), (∀ p ∈ m, okName p.1 = true ∧ vErr p.2 = 0) → ((b ++ m).map (·.1)).Nodup → chkKeys b m = 0 := by
  intro m
  induction m with
  | nil => intro b _ _; rfl
  | cons p m ih =>
   intro b h1 h2
   have hp := h1 p (by simp)
   rw [chkKeys, if_neg (by rw [hp.1]; simp), if_neg, if_neg (by rw [hp.2]; simp)]
   ·exact ih (b ++ [p]) (fun q hq => h1 q (by simp [hq])) (by simpa using h2)
   ·intro hk
    unfold Tagp.hasK at hk
    rw [List.any_eq_true] at hk
    obtain ⟨q, hq, e⟩ := hk
    rw [List.map_append, List.nodup_append] at h2
    exact h2.2.2 q.1 (List.mem_map_of_mem hq) p.1 (by simp) (by simpa using e)
 exact key l [] h.2.1 (by simpa using h.2.2)
theorem goodK_good {l : List KV} (h : GoodK l) : Good l := ⟨h.1, h.2.1, by
 refine List.pairwise_map.2 (h.2.2.imp fun {a b} hab e => ?_)
 rw [e] at hab
 exact absurd hab (by rw [Feat.lt_irrefl]; simp)⟩
theorem goodK_sorted {l : List KV} (h : GoodK l) : sortP l = l := sortP_self (by
 unfold Tagp.Up
 exact h.2.2.imp fun {a b} hab => Feat.lt_asymm hab)
theorem fmt_tag {nm : Bs} {l : List KV} (h : chk false nm l = 0) : (fmtT false nm l).1 = gapT nm 0 (sortP l) := by
 unfold fmtT
 rw [if_neg (by rw [h]; simp), if_neg (by simp)]
 unfold gapT
 dsimp only
 split <;> simp
theorem tag_ten {nm : Bs} {l : List KV} (hn : okName nm = true) (h : ∀ p ∈ l, okName p.1 = true ∧ vErr p.2 = 0) : ∀ c ∈ gapT nm 0 l, c ≠ 10 := by
 intro c hc
 unfold gapT at hc
 simp only [List.replicate_zero, ite_self, List.append_nil, List.mem_append, List.mem_singleton, List.mem_flatMap] at hc
 rcases hc with (hc | hc) | ⟨p, hp, hc⟩ | hc
 ·subst hc; decide
 ·exact vname_ten hn c hc
 ·unfold keyT at hc
  simp only [List.mem_append, List.mem_singleton, List.mem_cons, List.not_mem_nil, or_false] at hc
  rcases hc with (((hc | hc) | hc) | hc) | hc
  ·subst hc; decide
  ·exact vname_ten (h p hp).1 c hc
  ·rcases hc with hc | hc <;> (subst hc; decide)
  ·exact esc_ten (h p hp).2 c hc
  ·subst hc; decide
 ·subst hc; decide
theorem gon_lit {nm : Bs} (h : okName nm = true) : ∀ c ∈ nm, c ≠ 32 ∧ c ≠ 62 ∧ c ≠ 47 := by
 intro c hc
 unfold okName at h
 simp only [Bool.and_eq_true] at h
 have := List.all_eq_true.1 h.2 c hc
 refine ⟨?_, ?_, ?_⟩ <;> (intro e; subst e; revert this; decide)
theorem name_text {nm r : Bs} (h : ∀ c ∈ nm, c ≠ 32 ∧ c ≠ 62 ∧ c ≠ 47) (hr : r = [] ∨ ∃ d q, r = d :: q ∧ (d = 32 ∨ d = 62)) (he : (nm ++ r).take 5 = [116, 101, 120, 116, 32]) : nm = [116, 101, 120, 116] := by
 have no : ∀ (d : UInt8) (q : Bs), r = d :: q → d = 32 ∨ d = 62 := fun d q e => by
  rcases hr with e2 | ⟨d2, q2, e2, e3⟩
  ·rw [e2] at e; cases e
  ·rw [e2] at e; cases e; exact e3
 match nm, h, he with
 | [], h, he =>
  cases r with
  | nil => simp at he
  | cons d q => simp at he; rcases no d q rfl with e | e <;> (rw [e] at he; simp at he)
 | [a], h, he =>
  cases r with
  | nil => simp at he
  | cons d q => simp at he; rcases no d q rfl with e | e <;> (rw [e] at he; simp at he)
 | [a, b], h, he =>
  cases r with
  | nil => simp at he
  | cons d q => simp at he; rcases no d q rfl with e | e <;> (rw [e] at he; simp at he)
 | [a, b, c], h, he =>
  cases r with
  | nil => simp at he
  | cons d q => simp at he; rcases no d q rfl with e | e <;> (rw [e] at he; simp at he)
 | [a, b, c, d], h, he => simp at he; rw [he.1, he.2.1, he.2.2.1, he.2.2.2.1]
 | a :: b :: c :: d :: f :: l, h, he =>
  simp at he
  exact absurd he.2.2.2.2 (h f (by simp)).1
theorem flag_tag {nm : Bs} {l : List KV} (hn : okName nm = true) (b : Bool) (hl : nm = Vert.text → l ≠ []) : flag (gapT nm 0 l) b = if nm = Vert.text then true else b := by
 have hg := gon_lit hn
 unfold flag gapT
 simp only [List.replicate_zero, ite_self, List.append_nil]
 have e0 : ∀ T : Bs, ([60] ++ (nm ++ T)).take 6 = 60 :: (nm ++ T).take 5 := fun T => by simp
 rw [List.append_assoc]
 by_cases e : nm = Vert.text
 ·rw [if_pos, if_pos e]
  rw [e0, e]
  cases l with
  | nil => exact absurd rfl (hl e)
  | cons p l => rfl
 ·rw [if_neg e, if_neg, if_neg]
  ·intro h
   cases nm with
   | nil => revert hn; decide
   | cons a nm =>
    simp only [List.cons_append, List.nil_append, List.cons.injEq] at h
    exact (hg a (by simp)).2.2 h.2.1
  ·rw [e0]
   intro h
   refine e (name_text hg (.inr ?_) (List.cons.inj h).2)
   cases l with
   | nil => exact ⟨62, [], rfl, .inr rfl⟩
   | cons p l => exact ⟨32, _, rfl, .inl rfl⟩
theorem flag_close {nm : Bs} (hn : okName nm = true) (b : Bool) : flag ([60, 47] ++ nm ++ [62]) b = if nm = Vert.text then false else b := by
 unfold flag
 rw [if_neg (by simp)]
 by_cases e : nm = Vert.text
 ·rw [if_pos e, if_pos (by rw [e]; rfl)]
 ·rw [if_neg e, if_neg]
  intro h
  apply e
  have h2 : nm ++ [62] = Vert.text ++ [62] := by simpa [Vert.text] using h
  exact List.append_cancel_right h2
theorem flag_tok {s : Bs} (h : s.head? ≠ some 60) (b : Bool) : flag s b = b := by
 unfold flag
 rw [if_neg, if_neg]
 ·intro e; rw [e] at h; exact h rfl
 ·intro e
  cases s with
  | nil => simp at e
  | cons a s => simp at e; exact h (by rw [e.1]; rfl)
theorem rline_tag {ats : List (Bs × Bool)} {x y : Rd} {nm : Bs} {l : List KV} (hn : okName nm = true) (hg : Good l) (k : tagLine x false nm (sortP l) = .ok y) : Runs ats x (tagText nm l) y := by
 have hc := good_chk hn hg
 unfold tagText
 rw [fmt_tag hc]
 refine Runs.line (tag_ten hn fun p hp => hg.2.1 p ((perm_sort l).mem_iff.1 hp)) ?_ (by
  rw [tagLine_tx k, flag_tag hn x.tx fun e h0 => ?_]
  ·rfl
  ·rw [e, h0] at k
   unfold tagLine at k
   rw [if_pos rfl, if_neg (by simp)] at k
   unfold Vert.beginText at k
   split at k
   ·cases k
   ·split at k
    ·cases k
    ·cases k)
 have ht : tagOf (gapT nm 0 (sortP l)) = ((false, nm, sortP l), 0, 0) := by unfold tagOf; rw [tagP_gap 0 hc]
 unfold lineV
 rw [if_pos (by unfold gapT; rfl), ht, if_neg (by simp), k]
theorem rline_close {ats : List (Bs × Bool)} {x y : Rd} {nm : Bs} (hn : okName nm = true) (k : tagLine x true nm [] = .ok y) : Runs ats x ([60, 47] ++ nm ++ [62, 10]) y := by
 have e : [60, 47] ++ nm ++ [62, 10] = ([60, 47] ++ nm ++ [62]) ++ [10] := by simp
 rw [e]
 refine Runs.line (fun c hc => ?_) ?_ ?_
 ·simp only [List.mem_append, List.mem_cons, List.mem_singleton, List.not_mem_nil, or_false] at hc
  rcases hc with (hc | hc) | hc
  ·rcases hc with hc | hc <;> (subst hc; decide)
  ·exact vname_ten hn c hc
  ·subst hc; decide
 rotate_left
 ·rw [tagLine_tx k, flag_close hn]; rfl
 ·have ht : tagOf ([60, 47] ++ nm ++ [62]) = ((true, nm, []), 0, 0) := by unfold tagOf; rw [tagP_close hn]
  unfold lineV
  have h60 : (([60, 47] : Bs) ++ nm ++ [62]).head? = some 60 := rfl
  rw [if_pos h60, ht, if_neg (by simp), k]
theorem splitT_one : ∀ {s : Bs}, (∀ c ∈ s, c ≠ 9) → splitT s = [s]
 | [], _ => rfl
 | c :: s, h => by rw [splitT, if_neg (h c (by simp)), splitT_one fun d hd => h d (by simp [hd])]
theorem mem_join {c : UInt8} : ∀ {l : List Bs}, c ∈ ([9] : Bs).intercalate l → c = 9 ∨ ∃ s ∈ l, c ∈ s
 | [], h => by simp [List.intercalate] at h
 | [s], h => by
  rw [show ([9] : Bs).intercalate [s] = s by simp [List.intercalate]] at h
  exact .inr ⟨s, by simp, h⟩
 | s :: r :: l, h => by
  have e : ([9] : Bs).intercalate (s :: r :: l) = s ++ 9 :: [9].intercalate (r :: l) := by simp [List.intercalate, List.intersperse]
  rw [e] at h
  rcases List.mem_append.1 h with h | h
  ·exact .inr ⟨s, by simp, h⟩
  ·rcases List.mem_cons.1 h with h | h
   ·exact .inl h
   ·rcases mem_join h with h | ⟨u, hu, h⟩
    ·exact .inl h
    ·exact .inr ⟨u, by simp only [List.mem_cons] at hu ⊢; exact .inr hu, h⟩
theorem splitT_app {s r : Bs} (h : ∀ c ∈ s, c ≠ 9) : splitT (s ++ 9 :: r) = s :: splitT r := by
 induction s with
 | nil => rw [List.nil_append, splitT, if_pos rfl]
 | cons c s ih =>
  rw [List.cons_append, splitT, if_neg (h c (by simp)), ih fun d hd => h d (by simp [hd])]
theorem splitT_join : ∀ (l : List Bs), l ≠ [] → (∀ s ∈ l, ∀ c ∈ s, c ≠ 9) → splitT ([9].intercalate l) = l
 | [], h, _ => absurd rfl h
 | [s], _, h => by rw [show ([9] : Bs).intercalate [s] = s by simp [List.intercalate]]; exact splitT_one (h s (by simp))
 | s :: r :: l, _, h => by
  have e : ([9] : Bs).intercalate (s :: r :: l) = s ++ 9 :: [9].intercalate (r :: l) := by simp [List.intercalate, List.intersperse]
  rw [e, splitT_app (h s (by simp)), splitT_join (r :: l) (by simp) fun t ht => h t (by simp only [List.mem_cons] at ht ⊢; exact .inr ht)]
theorem fields_esc {ats : List (Bs × Bool)} : ∀ (r vs : List Bs) (a : Nat), vs.length + r.length ≤ ats.length → (∀ k (h1 : k < r.length) (h2 : vs.length + k < ats.length), vlErr ats[vs.length + k] r[k] = 0) → fields ats (r.map esc) a vs = .ok (vs ++ r)
 | [], vs, a, _, _ => by simp [fields]
 | v :: r, vs, a, hl, hv => by
  have hlt : vs.length < ats.length := by simp at hl; omega
  rw [List.map_cons, fields_step hlt (by rw [unesc_esc]) (by rw [unesc_esc]; exact hv 0 (by simp) hlt)]
  rw [unesc_esc]
  dsimp only
  rw [fields_esc r (vs ++ [v]) _ (by simp at hl ⊢; omega) fun k h1 h2 => by
   have h2' : vs.length + (k + 1) < ats.length := by simp at h2; omega
   have := hv (k + 1) (by simpa using h1) h2'
   simp only [List.getElem_cons_succ] at this
   have e : (vs ++ [v]).length + k = vs.length + (k + 1) := by simp; omega
   simp only [e]
   exact this]
  simp
theorem vl_zero {a : Bs × Bool} {v : Bs} (h : vlErr a v = 0) : vErr v = 0 := by
 unfold vlErr at h
 split at h
 ·unfold Feat.parse at h
  by_cases hv : vErr v ≠ 0
  ·rw [if_pos hv] at h; exact absurd h hv
  ·simpa using hv
 ·exact h
theorem vl_ctl {a : Bs × Bool} {v : Bs} (h : vlErr a v = 0) : ctlB v = false := ((vErr_zero v).1 (vl_zero h)).2.2
theorem rline_tok {ats : List (Bs × Bool)} {x : Rd} {vs : List Bs} (htx : x.tx = true) (h4 : x.toks.length ≠ 4096) (hne : vs ≠ []) (hl : vs.length = ats.length) (hv : ∀ k (h1 : k < vs.length) (h2 : k < ats.length), vlErr ats[k] vs[k] = 0) :
  Runs ats x (tokText vs) { x with toks := x.toks ++ [vs] } := by
 have hc : ∀ v ∈ vs, ctlB v = false := fun v hv' => by
  obtain ⟨k, hk, rfl⟩ := List.getElem_of_mem hv'
  exact vl_ctl (hv k hk (by omega))
 have hmem : ∀ c ∈ [9].intercalate (vs.map esc), c ≠ 10 := fun c hcm => by
  rcases mem_join hcm with h | ⟨s, hs, h⟩
  ·subst h; decide
  ·obtain ⟨v, hv', rfl⟩ := List.mem_map.1 hs
   exact esc_mem (k := 10) (by decide) (hc v hv') c h
 unfold tokText
 have hno : ([9].intercalate (vs.map esc)).head? ≠ some 60 := by
  intro h60
  have hm := List.mem_of_head? h60
  rcases mem_join hm with h | ⟨s, hs, h⟩
  ·cases h
  ·obtain ⟨v, _, rfl⟩ := List.mem_map.1 hs
   have := esc_plain v 60 h
   simp [Tagp.plainCh] at this
 refine Runs.line hmem ?_ (by rw [flag_tok hno])
 unfold lineV
 rw [if_neg hno]
 ·unfold tokenP
  rw [if_neg (by rw [htx]; simp), if_neg h4, splitT_join _ (by simpa using hne) fun s hs => by
   obtain ⟨v, hv', rfl⟩ := List.mem_map.1 hs
   exact esc_nine (hc v hv')]
  rw [fields_esc vs [] 0 (by simp; omega) fun k h1 h2 => by simpa using hv k h1 (by simpa using h2)]
  dsimp only
  rw [List.nil_append, if_neg (by omega)]
end Go.Proofs.YtgkdaebiefhgdaaGreatDoor
namespace Go.Proofs.YtgkdaebiefhgdaaGreatDoor
set_option linter.unusedSimpArgs false
set_option linter.unusedVariables false
open Utf
open Feat (Bs lt)
open Tagp (KV okName esc fmtT chk sortP)
open Cor (Txt Reg C vlErr prErr cmpR crossR coverR)
open Vert (Rd tokenP lineV tagLine isId lastOf tagText tokText closeText closes opens)
def opn0 (r : Reg) : Reg := { r with e := 0 }
theorem lastOf_last {nm : Bs} : ∀ {u v : List Reg} {r : Reg}, r.nm = nm → (∀ y ∈ v, y.nm ≠ nm) → lastOf nm (u ++ r :: v) = some u.length
 | [], v, r, hr, hv => by
  rw [List.nil_append, lastOf]
  have : lastOf nm v = none := by
   induction v with
   | nil => rfl
   | cons a v ih => rw [lastOf, ih fun y hy => hv y (by simp [hy]), if_neg (hv a (by simp))]
  rw [this]
  dsimp only
  rw [if_pos hr]; rfl
 | a :: u, v, r, hr, hv => by
  rw [List.cons_append, lastOf, lastOf_last hr hv]; rfl
theorem erase_mid {u v : List Reg} {r : Reg} : (u ++ r :: v).eraseIdx u.length = u ++ v := by
 induction u with
 | nil => rfl
 | cons a u ih => simp [ih]
theorem run_close {ats : List (Bs × Bool)} {p : Nat} : ∀ (n : Nat) (l v : List Reg) (x : Rd), l.length = n → x.tx = true → x.toks.length = p → x.opn = (l ++ v).map opn0 →
  (∀ y ∈ l, okName y.nm = true ∧ y.nm ≠ Vert.text ∧ y.b < (p : Int)) → (∀ r ∈ l, ∀ y ∈ v, r.e = (p : Int) → y.nm ≠ r.nm) → (l.Pairwise fun r y => r.e = (p : Int) → y.e ≠ (p : Int) → y.nm ≠ r.nm) →
  Runs ats x ((l.filter fun r => decide (r.e = (p : Int))).reverse.flatMap closeText) { x with regs := x.regs ++ (l.filter fun r => decide (r.e = (p : Int))).reverse, opn := ((l.filter fun r => decide (r.e ≠ (p : Int))) ++ v).map opn0 }
 | 0, l, v, x, hn, htx, hp, ho, _, _, _ => by
  have : l = [] := List.eq_nil_of_length_eq_zero hn
  subst this
  have e : ({ x with regs := x.regs ++ (([] : List Reg).filter fun r => decide (r.e = (p : Int))).reverse, opn := ((([] : List Reg).filter fun r => decide (r.e ≠ (p : Int))) ++ v).map opn0 } : Rd) = x := by
   obtain ⟨a, b, c, d, f⟩ := x
   dsimp only at ho
   simp [ho]
  rw [e]
  exact Runs.nil _ _
 | n + 1, l, v, x, hn, htx, hp, ho, hl, hv, hpw => by
  have hne : l ≠ [] := by intro e; rw [e] at hn; cases hn
  obtain ⟨l', a, rfl⟩ : ∃ l' a, l = l' ++ [a] := ⟨l.dropLast, l.getLast hne, (List.dropLast_concat_getLast hne).symm⟩
  have hn' : l'.length = n := by simpa using hn
  rw [List.pairwise_append] at hpw
  by_cases ha : a.e = (p : Int)
  ·have hal := hl a (by simp)
   have ho2 : x.opn = l'.map opn0 ++ opn0 a :: v.map opn0 := by rw [ho]; simp
   have hlast : lastOf a.nm x.opn = some (l'.map opn0).length := by
    rw [ho2]
    exact lastOf_last rfl fun y hy => by
     obtain ⟨z, hz, rfl⟩ := List.mem_map.1 hy
     exact hv a (by simp) z hz ha
   have hk : tagLine x true a.nm [] = .ok { x with regs := x.regs ++ [a], opn := (l' ++ v).map opn0 } := by
    unfold tagLine
    rw [if_neg hal.2.1, if_pos rfl]
    unfold Vert.endReg
    rw [if_neg (by rw [htx]; simp), hlast]
    dsimp only
    have hget : x.opn[(l'.map opn0).length]? = some (opn0 a) := by rw [ho2]; simp
    rw [hget]
    dsimp only
    rw [if_neg (by show ¬ a.b = _; rw [hp]; have := hal.2.2; omega), hp, ho2, erase_mid]
    have e1 : ({ opn0 a with e := (p : Int) } : Reg) = a := by
     obtain ⟨n1, b1, e1, k1⟩ := a
     dsimp only at ha
     subst ha
     rfl
    rw [e1, List.map_append]
   have ih := run_close (ats := ats) n l' v { x with regs := x.regs ++ [a], opn := (l' ++ v).map opn0 } hn' htx hp rfl (fun y hy => hl y (by simp [hy])) (fun r hr y hy => hv r (by simp [hr]) y hy) hpw.1
   have e2 : ((l' ++ [a]).filter fun r => decide (r.e = (p : Int))).reverse = a :: (l'.filter fun r => decide (r.e = (p : Int))).reverse := by
    rw [List.filter_append, List.filter_cons, if_pos (decide_eq_true ha)]; simp
   have e3 : ((l' ++ [a]).filter fun r => decide (r.e ≠ (p : Int))) = l'.filter fun r => decide (r.e ≠ (p : Int)) := by
    rw [List.filter_append, List.filter_cons, if_neg (by simp [ha])]; simp
   rw [e2, e3, List.flatMap_cons]
   refine Runs.app ?_ (by
    have e4 : x.regs ++ a :: (l'.filter fun r => decide (r.e = (p : Int))).reverse = x.regs ++ [a] ++ (l'.filter fun r => decide (r.e = (p : Int))).reverse := by simp
    rw [e4]
    exact ih)
   exact rline_close hal.1 hk
  ·have ih := run_close (ats := ats) n l' (a :: v) x hn' htx hp (by rw [ho]; simp) (fun y hy => hl y (by simp [hy])) (fun r hr y hy he => by
    rcases List.mem_cons.1 hy with e | e
    ·subst e; exact hpw.2.2 r hr y (by simp) he ha
    ·exact hv r (by simp [hr]) y e he) hpw.1
   have e2 : ((l' ++ [a]).filter fun r => decide (r.e = (p : Int))) = l'.filter fun r => decide (r.e = (p : Int)) := by
    rw [List.filter_append, List.filter_cons, if_neg (by simp [ha])]; simp
   have e3 : ((l' ++ [a]).filter fun r => decide (r.e ≠ (p : Int))) ++ v = (l'.filter fun r => decide (r.e ≠ (p : Int))) ++ a :: v := by
    rw [List.filter_append, List.filter_cons, if_pos (by simp [ha])]; simp
   rw [e2, e3]
   exact ih
theorem run_open {ats : List (Bs × Bool)} {p : Nat} : ∀ (m : List Reg) (x : Rd), x.tx = true → x.toks.length = p → (∀ y ∈ m, okName y.nm = true ∧ y.nm ≠ Vert.text ∧ y.b = (p : Int) ∧ GoodK y.ks) →
  x.regs.length + x.opn.length + m.length ≤ 1024 → x.opn.length + m.length ≤ 40 → Runs ats x (m.flatMap fun r => tagText r.nm r.ks) { x with opn := x.opn ++ m.map opn0 }
 | [], x, _, _, _, _, _ => by
  have e : ({ x with opn := x.opn ++ ([] : List Reg).map opn0 } : Rd) = x := by simp
  rw [e]
  exact Runs.nil _ _
 | a :: m, x, htx, hp, hm, h1, h2 => by
  have ha := hm a (by simp)
  have hs := goodK_sorted ha.2.2.2
  have hk : tagLine x false a.nm (sortP a.ks) = .ok { x with opn := x.opn ++ [opn0 a] } := by
   unfold tagLine
   rw [if_neg ha.2.1, if_neg (by simp)]
   unfold Vert.beginReg
   rw [if_neg (by rw [htx]; simp), if_neg (by simp at h1 h2; omega), hs, hp]
   have e : (⟨a.nm, (p : Int), 0, a.ks⟩ : Reg) = opn0 a := by
    obtain ⟨n1, b1, e1, k1⟩ := a
    have := ha.2.2.1
    dsimp only at this
    subst this
    rfl
   rw [e]
  have ih := run_open (ats := ats) m { x with opn := x.opn ++ [opn0 a] } htx hp (fun y hy => hm y (by simp [hy])) (by simp at h1 ⊢; omega) (by simp at h2 ⊢; omega)
  rw [List.flatMap_cons]
  refine Runs.app (rline_tag ha.1 (goodK_good ha.2.2.2) hk) ?_
  have e : x.opn ++ (a :: m).map opn0 = x.opn ++ [opn0 a] ++ m.map opn0 := by simp
  rw [e]
  exact ih
end Go.Proofs.YtgkdaebiefhgdaaGreatDoor
namespace Go.Proofs.YtgkdaebiefhgdaaGreatDoor
set_option linter.unusedSimpArgs false
set_option linter.unusedVariables false
open Utf
open Feat (Bs lt)
open Tagp (KV okName esc fmtT chk sortP)
open Cor (Txt Reg C vlErr prErr cmpR cmpI crossR coverR within)
open Vert (Rd tokenP lineV tagLine isId lastOf tagText tokText closeText closes opens posText spanText textText endTag fmtErr badT bodyV)
theorem cmpR_le {x y : Reg} (h : cmpR x y ≤ 0) : x.b ≤ y.b ∧ (x.b = y.b → y.e ≤ x.e) := by
 unfold cmpR cmpI at h
 by_cases h1 : x.b < y.b
 ·exact ⟨by omega, fun e => by omega⟩
 ·by_cases h2 : y.b < x.b
  ·simp [h1, h2] at h
  ·refine ⟨by omega, fun _ => ?_⟩
   by_cases h3 : y.e < x.e
   ·omega
   ·by_cases h4 : x.e < y.e
    ·simp [h1, h2, h3, h4] at h
    ·omega
theorem prErr_good {l : List KV} (h : prErr l = 0) : GoodK l := by
 have h8 := prErr_le h
 unfold prErr at h
 rw [if_neg (by omega)] at h
 have hz := Cor.first_zero 0 l.length h
 have at_ : ∀ k (hk : k < l.length), okName l[k].1 = true ∧ vErr l[k].2 = 0 ∧ (∀ h0 : 0 < k, lt (l[k - 1]'(by omega)).1 l[k].1 = true) := fun k hk => by
  have hk' := hz k (Nat.zero_le _) (by omega)
  unfold Cor.prF at hk'
  rw [List.getElem?_eq_getElem hk] at hk'
  dsimp only at hk'
  split at hk'
  ·cases hk'
  ·rename_i h1
   split at hk'
   ·cases hk'
   ·rename_i h2
    refine ⟨by simpa using h1, hk', fun h0 => ?_⟩
    rw [List.getElem?_eq_getElem (by omega)] at h2
    have := fun e => h2 ⟨h0, e⟩
    simpa using this
 refine ⟨h8, fun p hp => ?_, ?_⟩
 ·obtain ⟨k, hk, rfl⟩ := List.getElem_of_mem hp
  exact ⟨(at_ k hk).1, (at_ k hk).2.1⟩
 ·rw [List.pairwise_iff_getElem]
  intro i j hi hj hij
  induction j with
  | zero => omega
  | succ j ih =>
   have hs := (at_ (j + 1) hj).2.2 (by omega)
   simp only [Nat.add_sub_cancel] at hs
   by_cases e : i = j
   ·subst e; exact hs
   ·exact Feat.lt_trans (ih (by omega) (by omega)) hs
structure Fine (c : C) : Prop where
 v : Vd c
 srt : c.regs.Pairwise fun r y => r.b ≤ y.b ∧ (r.b = y.b → y.e ≤ r.e)
 nc : c.regs.Pairwise fun r y => crossR r y = false
 one : ∀ r ∈ c.regs, okName r.nm = true ∧ r.nm ≠ Vert.text ∧ GoodK r.ks ∧ 0 ≤ r.b ∧ r.b < r.e ∧ r.e ≤ c.toks.length
 cov : ∀ k (hk : k < c.regs.length), ((c.regs.take (k + 1)).filter (coverR c.regs[k])).length ≤ 40
 edge : ∀ t ∈ c.texts, ∀ r ∈ c.regs, (r.e ≤ t.b ∨ t.b ≤ r.b) ∧ (r.e ≤ t.e ∨ t.e ≤ r.b)
theorem fine_of {c : C} (v : Vd c) (hf : fmtErr c = 0) : Fine c := by
 have hr := rgC_iff.1 v.r
 have hnt : ∀ r ∈ c.regs, r.nm ≠ Vert.text := fun r hr' e => by
  unfold fmtErr at hf
  split at hf
  ·split at hf <;> cases hf
  ·split at hf
   ·cases hf
   ·rename_i h
    apply h
    rw [List.any_eq_true]
    exact ⟨r, hr', by simpa using e⟩
 refine ⟨v, hr.pw.imp fun h => cmpR_le h.1, hr.pw.imp fun h => h.2, fun r hm => ?_, hr.cov, fun t ht r hm => ?_⟩
 ·have h1 := hr.one r hm
  have h2 := v.rg r hm
  exact ⟨h1.1, hnt r hm, prErr_good h1.2.2, h2.2.1, h2.2.2.1, h2.2.2.2.1⟩
 ·obtain ⟨i, hi, rfl⟩ := List.getElem_of_mem ht
  have hed := v.edge hi
  have hw := (v.rg r hm).1
  unfold within at hw
  rw [List.any_eq_true] at hw
  obtain ⟨u, hu, hu2⟩ := hw
  simp only [Bool.and_eq_true, decide_eq_true_eq] at hu2
  have a := hed.1 u hu
  have b := hed.2 u hu
  constructor
  ·rcases a with a | a
   ·left; omega
   ·right; omega
  ·rcases b with b | b
   ·left; omega
   ·right; omega
theorem filter_two {α : Type} {P Q : α → Bool} : ∀ {l : List α}, (l.Pairwise fun a b => Q a = true → P b = false) → (∀ a ∈ l, Q a = true → P a = false) → l.filter P ++ l.filter Q = l.filter fun a => P a || Q a
 | [], _, _ => rfl
 | a :: l, hp, hd => by
  have hp' := List.pairwise_cons.1 hp
  have ih := filter_two hp'.2 fun b hb => hd b (by simp [hb])
  cases hq : Q a with
  | true =>
   have hpa := hd a (by simp) hq
   have h0 : l.filter P = [] := by
    rw [List.filter_eq_nil_iff]
    intro b hb
    rw [hp'.1 b hb hq]; simp
   rw [List.filter_cons, if_neg (by rw [hpa]; simp), List.filter_cons, if_pos hq, List.filter_cons, if_pos (by rw [hpa, hq]; rfl), ← ih, h0]
   rfl
  | false =>
   cases hpa : P a with
   | true => rw [List.filter_cons, if_pos hpa, List.filter_cons, if_neg (by rw [hq]; simp), List.filter_cons, if_pos (by rw [hpa]; rfl), ← ih]; rfl
   | false => rw [List.filter_cons, if_neg (by rw [hpa]; simp), List.filter_cons, if_neg (by rw [hq]; simp), List.filter_cons, if_neg (by rw [hpa, hq]; simp), ← ih]
theorem filter_perm {α : Type} {P Q : α → Bool} : ∀ {l : List α}, (∀ a ∈ l, P a = true → Q a = false) → (l.filter P ++ l.filter Q).Perm (l.filter fun a => P a || Q a)
 | [], _ => List.Perm.refl _
 | a :: l, h => by
  have ih := filter_perm (P := P) (Q := Q) (l := l) fun b hb => h b (by simp [hb])
  have ha := h a (by simp)
  simp only [List.filter_cons]
  cases hp : P a with
  | true =>
   rw [hp] at ha
   rw [ha rfl]
   simpa using ih.cons a
  | false =>
   cases hq : Q a with
   | true => simpa using (List.perm_middle).trans (ih.cons a)
   | false => simpa using ih
def covP (p : Nat) (r : Reg) : Bool := decide (r.b ≤ (p : Int)) && decide ((p : Int) < r.e)
theorem cov_all {p : Nat} : ∀ (n : Nat) (l : List Reg), l.length = n → (l.Pairwise fun r y => r.b ≤ y.b) → (∀ k (hk : k < l.length), ((l.take (k + 1)).filter (coverR l[k])).length ≤ 40) → (l.filter (covP p)).length ≤ 40
 | 0, l, hn, _, _ => by
  have : l = [] := List.eq_nil_of_length_eq_zero hn
  subst this; exact Nat.zero_le _
 | n + 1, l, hn, hs, hc => by
  have hne : l ≠ [] := by intro e; rw [e] at hn; cases hn
  obtain ⟨l', a, rfl⟩ : ∃ l' a, l = l' ++ [a] := ⟨l.dropLast, l.getLast hne, (List.dropLast_concat_getLast hne).symm⟩
  have hn' : l'.length = n := by simpa using hn
  have hs' := List.pairwise_append.1 hs
  cases ha : covP p a with
  | true =>
   have hk := hc l'.length (by simp)
   have e1 : (l' ++ [a])[l'.length]'(by simp) = a := by simp
   have e2 : (l' ++ [a]).take (l'.length + 1) = l' ++ [a] := List.take_of_length_le (by simp)
   rw [e1, e2] at hk
   refine Nat.le_trans ?_ hk
   rw [← List.countP_eq_length_filter, ← List.countP_eq_length_filter]
   refine List.countP_mono_left fun y hy hcy => ?_
   unfold covP at ha hcy
   simp only [Bool.and_eq_true, decide_eq_true_eq] at ha hcy
   unfold coverR
   simp only [Bool.and_eq_true, decide_eq_true_eq]
   refine ⟨?_, by omega⟩
   rcases List.mem_append.1 hy with h | h
   ·exact hs'.2.2 y h a (by simp)
   ·simp at h; subst h; exact Int.le_refl _
  | false =>
   rw [List.filter_append, List.filter_cons, if_neg (by rw [ha]; simp), List.filter_nil, List.append_nil]
   refine cov_all n l' hn' hs'.1 fun k hk => ?_
   have := hc k (by simp; omega)
   rw [List.getElem_append_left hk, List.take_append_of_le_length (by omega)] at this
   exact this
def YY (c : C) (p : Nat) (x : Rd) : Prop := x.tx = true ∧ x.toks = c.toks.take p ∧ x.opn = (c.regs.filter fun r => decide (r.b < (p : Int)) && decide ((p : Int) < r.e)).map opn0 ∧ x.regs.Perm (c.regs.filter fun r => decide (r.e ≤ (p : Int)))
def WW (c : C) (p : Nat) (x : Rd) : Prop := x.tx = true ∧ x.toks = c.toks.take p ∧ x.opn = (c.regs.filter fun r => decide (r.b < (p : Int)) && decide ((p : Int) ≤ r.e)).map opn0 ∧ x.regs.Perm (c.regs.filter fun r => decide (r.e < (p : Int)))
theorem three_le {P Q S : Reg → Bool} : ∀ {l : List Reg}, (∀ a ∈ l, (P a = true → Q a = false ∧ S a = false) ∧ (Q a = true → S a = false)) → (l.filter P).length + (l.filter Q).length + (l.filter S).length ≤ l.length
 | [], _ => Nat.le_refl _
 | a :: l, h => by
  have ih := three_le (P := P) (Q := Q) (S := S) (l := l) fun b hb => h b (by simp [hb])
  have ha := h a (by simp)
  simp only [List.filter_cons, List.length_cons]
  cases hp : P a <;> cases hq : Q a <;> cases hs : S a <;> simp_all <;> omega
theorem run_cl {ats : List (Bs × Bool)} {c : C} (hc : Fine c) {p : Nat} {x : Rd} (hp : p ≤ c.toks.length) (h : WW c p x) : ∃ y, Runs ats x (closes c.regs p) y ∧ YY c p y ∧ y.texts = x.texts := by
 obtain ⟨h1, h2, h3, h4⟩ := h
 have hlen : x.toks.length = p := by rw [h2, List.length_take]; omega
 have hsub : List.Sublist (c.regs.filter fun r => decide (r.b < (p : Int)) && decide ((p : Int) ≤ r.e)) c.regs := List.filter_sublist
 have hrun := run_close (ats := ats) (p := p) _ (c.regs.filter fun r => decide (r.b < (p : Int)) && decide ((p : Int) ≤ r.e)) [] x rfl h1 hlen (by rw [List.append_nil]; exact h3) (fun y hy => by
  obtain ⟨ym, hy2⟩ := List.mem_filter.1 hy
  simp only [Bool.and_eq_true, decide_eq_true_eq] at hy2
  have := hc.one y ym
  exact ⟨this.1, this.2.1, hy2.1⟩) (fun r hr y hy => by cases hy) (by
  have hboth := (hc.srt.and hc.nc).sublist hsub
  refine List.Pairwise.imp_of_mem ?_ hboth
  intro r y hr hy hry he hne e
  obtain ⟨_, hr2⟩ := List.mem_filter.1 hr
  obtain ⟨_, hy2⟩ := List.mem_filter.1 hy
  simp only [Bool.and_eq_true, decide_eq_true_eq] at hr2 hy2
  have hx := hry.2
  unfold crossR at hx
  have d1 : (r.nm == y.nm) = true := beq_iff_eq.2 e.symm
  have d2 : decide (r.b < y.e) = true := decide_eq_true (by omega)
  have d3 : decide (y.b < r.e) = true := decide_eq_true (by omega)
  have d4 : decide (y.e ≤ r.e) = false := decide_eq_false (by omega)
  have d5 : decide (y.b ≤ r.b) = false := decide_eq_false (fun hle => by have := hry.1.1; have := hry.1.2 (by omega); omega)
  rw [d1, d2, d3, d4, d5] at hx
  simp at hx)
 have e1 : ((c.regs.filter fun r => decide (r.b < (p : Int)) && decide ((p : Int) ≤ r.e)).filter fun r => decide (r.e = (p : Int))) = c.regs.filter fun r => decide (r.e = (p : Int)) := by
  rw [List.filter_filter]
  refine List.filter_congr fun r hr => ?_
  have := hc.one r hr
  rw [Bool.eq_iff_iff]
  simp only [Bool.and_eq_true, decide_eq_true_eq]
  exact ⟨fun h => h.1, fun h => ⟨h, by omega, by omega⟩⟩
 rw [e1] at hrun
 refine ⟨_, hrun, ⟨h1, h2, ?_, ?_⟩, rfl⟩
 ·show ((List.filter _ (List.filter _ c.regs)) ++ []).map opn0 = _
  rw [List.append_nil, List.filter_filter]
  congr 1
  refine List.filter_congr fun r hr => ?_
  rw [Bool.eq_iff_iff]
  simp only [Bool.and_eq_true, decide_eq_true_eq, ne_eq]
  omega
 ·show (x.regs ++ _).Perm _
  refine ((h4.append (List.reverse_perm _))).trans ?_
  refine (filter_perm fun r hr hlt => ?_).trans (List.Perm.of_eq (List.filter_congr fun r hr => ?_))
  ·rw [decide_eq_true_eq] at hlt
   rw [decide_eq_false_iff_not]; omega
  ·rw [Bool.eq_iff_iff]
   simp only [Bool.or_eq_true, decide_eq_true_eq]
   omega
end Go.Proofs.YtgkdaebiefhgdaaGreatDoor
namespace Go.Proofs.YtgkdaebiefhgdaaGreatDoor
set_option linter.unusedSimpArgs false
set_option linter.unusedVariables false
open Utf
open Feat (Bs lt)
open Tagp (KV okName esc fmtT chk sortP)
open Cor (Txt Reg C vlErr prErr cmpR cmpI crossR coverR within findT)
open Vert (Rd tokenP lineV tagLine isId lastOf tagText tokText closeText closes opens posText spanText textText endTag fmtErr badT bodyV readV parseV)
theorem vd_vals {c : C} (v : Vd c) : c.attrs ≠ [] ∧ ∀ t ∈ c.toks, t.length = c.attrs.length ∧ ∀ k (h1 : k < t.length) (h2 : k < c.attrs.length), vlErr c.attrs[k] t[k] = 0 := by
 refine ⟨fun e => ?_, fun t ht => ?_⟩
 ·have h := v.a
  rw [e] at h
  cases h
 ·have h := (tkC_iff.1 v.t).2 t ht
  refine ⟨h.1, fun k h1 h2 => ?_⟩
  have := Cor.first_zero 0 t.length h.2 k (Nat.zero_le _) (by omega)
  unfold Cor.tvF at this
  rw [List.getElem?_eq_getElem h2, List.getElem?_eq_getElem h1] at this
  exact this
theorem run_op {c : C} (hc : Fine c) {p : Nat} {x : Rd} (hp : p < c.toks.length) (h : YY c p x) : ∃ y, Runs c.attrs x (opens c.regs p ++ tokText ((c.toks[p]?).getD [])) y ∧ WW c (p + 1) y ∧ y.texts = x.texts := by
 obtain ⟨h1, h2, h3, h4⟩ := h
 have hvv := vd_vals hc.v
 have hlen : x.toks.length = p := by rw [h2, List.length_take]; omega
 have htl := (tkC_iff.1 hc.v.t).1
 have hrl := (rgC_iff.1 hc.v.r).len
 have hrg : x.regs.length = (c.regs.filter fun r => decide (r.e ≤ (p : Int))).length := h4.length_eq
 have hol : x.opn.length = (c.regs.filter fun r => decide (r.b < (p : Int)) && decide ((p : Int) < r.e)).length := by rw [h3, List.length_map]
 have h3l := three_le (l := c.regs) (P := fun r => decide (r.e ≤ (p : Int))) (Q := fun r => decide (r.b < (p : Int)) && decide ((p : Int) < r.e)) (S := fun r => decide (r.b = (p : Int))) fun a ha => by
  have := hc.one a ha
  simp only [decide_eq_true_eq, decide_eq_false_iff_not, Bool.and_eq_true, Bool.and_eq_false_iff]
  omega
 have h2f : (c.regs.filter fun r => decide (r.b < (p : Int)) && decide ((p : Int) < r.e)) ++ (c.regs.filter fun r => decide (r.b = (p : Int))) = c.regs.filter (covP p) := by
  rw [filter_two (hc.srt.imp fun {a b} hab hq => by
   simp only [decide_eq_true_eq] at hq
   rw [decide_eq_false (by omega)]; rfl) fun a ha hq => by
   simp only [decide_eq_true_eq] at hq
   rw [decide_eq_false (by omega)]; rfl]
  refine List.filter_congr fun r hr => ?_
  have := hc.one r hr
  unfold covP
  rw [Bool.eq_iff_iff]
  simp only [Bool.or_eq_true, Bool.and_eq_true, decide_eq_true_eq]
  omega
 have hcov := cov_all (p := p) _ c.regs rfl (hc.srt.imp fun h => h.1) hc.cov
 rw [← h2f, List.length_append] at hcov
 have ho := run_open (ats := c.attrs) (p := p) (c.regs.filter fun r => decide (r.b = (p : Int))) x h1 hlen (fun y hy => by
  obtain ⟨ym, hy2⟩ := List.mem_filter.1 hy
  have := hc.one y ym
  exact ⟨this.1, this.2.1, by simpa using hy2, this.2.2.1⟩) (by rw [hrg, hol]; omega) (by rw [hol]; omega)
 have hget : (c.toks[p]?).getD [] = c.toks[p] := by rw [List.getElem?_eq_getElem hp]; rfl
 have hv := hvv.2 c.toks[p] (List.getElem_mem hp)
 have hne : c.toks[p] ≠ [] := fun e => by
  have := hv.1
  rw [e] at this
  exact hvv.1 (List.eq_nil_of_length_eq_zero this.symm)
 rw [hget]
 refine ⟨_, ho.app (rline_tok (x := { x with opn := x.opn ++ _ }) h1 (by show x.toks.length ≠ _; omega) hne hv.1 hv.2), ⟨h1, ?_, ?_, ?_⟩, rfl⟩
 ·show x.toks ++ [c.toks[p]] = _
  rw [h2, List.take_succ_eq_append_getElem hp]
 ·show x.opn ++ _ = _
  rw [h3, ← List.map_append, h2f]
  congr 1
  refine List.filter_congr fun r hr => ?_
  unfold covP
  rw [Bool.eq_iff_iff]
  simp only [Bool.and_eq_true, decide_eq_true_eq]
  omega
 ·refine h4.trans (List.Perm.of_eq (List.filter_congr fun r hr => ?_))
  rw [Bool.eq_iff_iff]
  simp only [decide_eq_true_eq]
  omega
theorem run_span {c : C} (hc : Fine c) {b : Nat} {x : Rd} (h : YY c b x) : ∀ (q : Nat), b + (q + 1) ≤ c.toks.length → ∃ y, Runs c.attrs x (spanText c b (q + 1)) y ∧ WW c (b + (q + 1)) y ∧ y.texts = x.texts
 | 0, hq => by
  obtain ⟨y, h1, h2, h3⟩ := run_op hc (by omega) h
  refine ⟨y, ?_, h2, h3⟩
  have e : spanText c b (0 + 1) = opens c.regs b ++ tokText ((c.toks[b]?).getD []) := by
   rw [Vert.spanText_succ]
   unfold posText
   rw [if_pos (by omega)]
   simp [spanText]
  rw [e]; exact h1
 | q + 1, hq => by
  obtain ⟨y, h1, h2, h3⟩ := run_span hc h q (by omega)
  obtain ⟨z, k1, k2, k3⟩ := run_cl (ats := c.attrs) hc (by omega) h2
  obtain ⟨u, l1, l2, l3⟩ := run_op hc (by omega) k2
  refine ⟨u, ?_, l2, by rw [l3, k3, h3]⟩
  rw [Vert.spanText_succ]
  refine h1.app ?_
  unfold posText
  rw [if_neg (by omega), List.append_assoc]
  exact k1.app l1

theorem name_val {nm : Bs} (h : okName nm = true) : vErr nm = 0 := by
 have hg : ∀ c ∈ nm, Tagp.gon c = true := by
  unfold okName at h
  simp only [Bool.and_eq_true] at h
  exact fun c hc => List.all_eq_true.1 h.2 c hc
 have hl : nm.length ≤ 32 := by
  unfold okName at h
  simp only [Bool.and_eq_true, decide_eq_true_eq] at h
  exact h.1.1.2
 have hb : ∀ c ∈ nm, 45 ≤ c.toNat ∧ c.toNat < 123 := fun c hc => by
  have h := hg c hc
  unfold Tagp.gon Tagp.beg Tagp.dig at h
  simp only [Bool.or_eq_true, Bool.and_eq_true, decide_eq_true_eq, beq_iff_eq] at h
  omega
 rw [vErr_zero]
 refine ⟨by omega, ?_, ?_⟩
 ·clear h hl hg
  induction nm with
  | nil => rfl
  | cons a nm ih => rw [ok_ascii _ _ (by have := hb a (by simp); omega)]; exact ih fun c hc => hb c (by simp [hc])
 ·unfold ctlB
  rw [List.any_eq_false]
  intro c hc
  have := hb c hc
  unfold ctlT
  simp only [Bool.or_eq_true, decide_eq_true_eq, beq_iff_eq]
  omega
def ZZ (c : C) (p : Nat) (l : List Txt) (x : Rd) : Prop := x.tx = false ∧ x.toks = c.toks.take p ∧ x.opn = [] ∧ x.regs.Perm (c.regs.filter fun r => decide (r.e ≤ (p : Int))) ∧ x.texts = l
theorem id_good {nm : Bs} {ks : List KV} (hn : okName nm = true) (hk : GoodK ks) (h8 : ks.length < 8) (hid : ks.any isId = false) : Good (([105, 100], nm) :: ks) := by
 have hg := goodK_good hk
 refine ⟨by simp; omega, fun p hp => ?_, ?_⟩
 ·rcases List.mem_cons.1 hp with e | e
  ·subst e; exact ⟨(by decide : okName [105, 100] = true), name_val hn⟩
  ·exact hk.2.1 p e
 ·rw [List.map_cons, List.nodup_cons]
  refine ⟨fun hm => ?_, hg.2.2⟩
  obtain ⟨q, hq, e⟩ := List.mem_map.1 hm
  rw [List.any_eq_false] at hid
  exact hid q hq (by unfold isId; rw [e]; exact beq_self_eq_true _)
theorem id_sort {nm : Bs} {ks : List KV} (hk : GoodK ks) (hg : Good (([105, 100], nm) :: ks)) (hid : ks.any isId = false) : (sortP (([105, 100], nm) :: ks)).filter isId = [([105, 100], nm)] ∧ (sortP (([105, 100], nm) :: ks)).filter (fun p => !isId p) = ks := by
 have hp := perm_sort (([105, 100], nm) :: ks)
 have hno : ∀ p ∈ ks, isId p = false := fun p hp => by
  rw [List.any_eq_false] at hid
  simpa using hid p hp
 have hi : isId ([105, 100], nm) = true := by unfold isId; exact beq_self_eq_true _
 have f1 : ks.filter isId = [] := List.filter_eq_nil_iff.2 fun p h => by rw [hno p h]; simp
 have f2 : ks.filter (fun p => !isId p) = ks := List.filter_eq_self.2 fun p h => by rw [hno p h]; rfl
 constructor
 ·have h1 := hp.filter isId
  rw [List.filter_cons, if_pos hi, f1] at h1
  exact List.perm_singleton.1 h1
 ·have h1 := hp.filter fun p => !isId p
  rw [List.filter_cons (x := ([105, 100], nm)), if_neg (by rw [hi]; simp), f2] at h1
  exact List.Perm.eq_of_pairwise (le := fun a b : KV => lt a.1 b.1 = true) (fun a b _ _ h1 h2 => by
   have := Feat.lt_asymm h1
   rw [h2] at this; cases this) ((good_sort hg).2.2.sublist List.filter_sublist) hk.2.2 h1
theorem run_txt {c : C} (hc : Fine c) {l m : List Txt} {t : Txt} {x : Rd} (hb : badT t = false) (ht : c.texts = l ++ t :: m) (h : ZZ c t.b.toNat l x) : ∃ y, Runs c.attrs x (textText c t) y ∧ ZZ c t.e.toNat (l ++ [t]) y := by
 obtain ⟨h1, h2, h3, h4, h5⟩ := h
 have hx := txC_iff.1 hc.v.x
 have htm : t ∈ c.texts := by rw [ht]; simp
 have hone := hx.one t htm
 have hk := prErr_good hone.2
 have hed := fun r hr => hc.edge t htm r hr
 have hbd := hc.v.tx t htm
 unfold badT at hb
 rw [Bool.or_eq_false_iff, decide_eq_false_iff_not] at hb
 have hg := id_good hone.1 hk (by omega) hb.1
 have hs := id_sort (nm := t.nm) hk hg hb.1
 have hlen : x.toks.length = t.b.toNat := by rw [h2, List.length_take]; omega
 have hl64 : x.texts.length ≠ 64 := by
  have := hx.len
  rw [ht] at this
  simp at this
  rw [h5]; omega
 have hnf : ¬ 0 ≤ findT x.texts t.nm := by
  unfold findT
  rw [List.findIdx?_eq_none_iff.2 fun u hu => ?_]
  ·simp
  ·have hd := hx.dis
   rw [ht, List.pairwise_append] at hd
   rw [h5] at hu
   have := hd.2.2 u hu t (by simp)
   simpa using this
 have kb : tagLine x false Vert.text (sortP (([105, 100], t.nm) :: t.ks)) = .ok { x with texts := l ++ [⟨t.nm, t.b, -1, t.ks⟩], tx := true } := by
  unfold tagLine
  rw [if_pos rfl, if_neg (by simp)]
  unfold Vert.beginText
  rw [if_neg (by rw [h1]; simp), if_neg hl64, hs.1]
  dsimp only [List.getLast?_singleton]
  rw [if_neg (by rw [hone.1]; simp), if_neg hnf, hs.2, h5, hlen]
  have : ((t.b.toNat : Nat) : Int) = t.b := by omega
  rw [this]
 have r1 := rline_tag (ats := c.attrs) (by decide) hg kb
 have hY : YY c t.b.toNat { x with texts := l ++ [⟨t.nm, t.b, -1, t.ks⟩], tx := true } := by
  refine ⟨rfl, h2, ?_, h4⟩
  show x.opn = _
  rw [h3, List.filter_eq_nil_iff.2 fun r hr => ?_]
  ·rfl
  ·have := (hed r hr).1
   simp only [Bool.and_eq_true, decide_eq_true_eq, not_and]
   omega
 obtain ⟨q, hq⟩ : ∃ q, (t.e - t.b).toNat = q + 1 := ⟨(t.e - t.b).toNat - 1, by omega⟩
 have hqe : t.b.toNat + (q + 1) = t.e.toNat := by omega
 obtain ⟨y, r2, w2, x2⟩ := run_span hc hY q (by omega)
 rw [hqe] at w2
 obtain ⟨z, r3, w3, x3⟩ := run_cl (ats := c.attrs) hc (by omega) w2
 obtain ⟨z1, z2, z3, z4⟩ := w3
 have hzt : z.texts = l ++ [⟨t.nm, t.b, -1, t.ks⟩] := by rw [x3, x2]
 have hzl : z.toks.length = t.e.toNat := by rw [z2, List.length_take]; omega
 have hzo : z.opn = [] := by
  rw [z3, List.filter_eq_nil_iff.2 fun r hr => ?_]
  ·rfl
  ·have := (hed r hr).2
   simp only [Bool.and_eq_true, decide_eq_true_eq, not_and]
   omega
 have ke : tagLine z true Vert.text [] = .ok { z with texts := l ++ [t], tx := false } := by
  unfold tagLine
  rw [if_pos rfl, if_pos rfl]
  unfold Vert.endText
  rw [if_neg (by rw [z1]; simp), if_neg (by rw [hzo]; simp), hzt, List.getLast?_concat]
  dsimp only
  rw [if_neg (by omega), List.dropLast_concat, hzl]
  have : ((t.e.toNat : Nat) : Int) = t.e := by omega
  rw [this]
 have r4 := rline_close (ats := c.attrs) (nm := Vert.text) (by decide) ke
 refine ⟨{ z with texts := l ++ [t], tx := false }, ?_, ⟨rfl, z2, hzo, z4, rfl⟩⟩
 unfold textText
 rw [hq]
 exact ((r1.app r2).app r3).app r4
theorem run_all {c : C} (hc : Fine c) (hb : ∀ t ∈ c.texts, badT t = false) : ∀ (m l : List Txt) (p : Nat) (x : Rd), c.texts = l ++ m → Chain p m c.toks.length → ZZ c p l x → ∃ y, Runs c.attrs x (m.flatMap (textText c)) y ∧ ZZ c c.toks.length c.texts y
 | [], l, p, x, ht, hch, h => by
  refine ⟨x, Runs.nil _ _, ?_⟩
  have e : (p : Int) = c.toks.length := hch
  have e : p = c.toks.length := by omega
  subst e
  rw [ht, List.append_nil]; exact h
 | t :: m, l, p, x, ht, hch, h => by
  obtain ⟨e1, e2, e3⟩ := hch
  have htm : t ∈ c.texts := by rw [ht]; simp
  have hpb : p = t.b.toNat := by omega
  subst hpb
  obtain ⟨y, r1, w1⟩ := run_txt hc (hb t htm) ht h
  obtain ⟨z, r2, w2⟩ := run_all hc hb m (l ++ [t]) t.e.toNat y (by rw [ht]; simp) (by
   have : ((t.e.toNat : Nat) : Int) = t.e := by have := hc.v.tx t htm; omega
   rw [this]; exact e3) w1
  exact ⟨z, by rw [List.flatMap_cons]; exact r1.app r2, w2⟩
theorem vfmt_bad {c : C} (hf : fmtErr c = 0) : ∀ t ∈ c.texts, badT t = false := by
 intro t ht
 unfold fmtErr at hf
 split at hf
 ·split at hf <;> cases hf
 ·rename_i h
  rw [List.find?_eq_none] at h
  simpa using h t ht
theorem run_body {c : C} (v : Vd c) (hf : fmtErr c = 0) : ∃ y, Runs c.attrs Vert.start (bodyV c) y ∧ ZZ c c.toks.length c.texts y := by
 have hc := fine_of v hf
 refine run_all hc (vfmt_bad hf) c.texts [] 0 Vert.start rfl (txC_iff.1 v.x).row ⟨rfl, rfl, rfl, ?_, rfl⟩
 show [].Perm _
 rw [List.filter_eq_nil_iff.2 fun r hr => ?_]
 have := hc.one r hr
 rw [decide_eq_true_eq]; omega
theorem cmpR_eq {x y : Reg} (h1 : cmpR x y ≤ 0) (h2 : cmpR y x ≤ 0) : x = y := by
 have := ord_R.anti x y
 exact (ord_R.zero x y).1 (by omega)
theorem read_back {c : C} (v : Vd c) (hf : fmtErr c = 0) (hl : (bodyV c).length ≤ 1048576) : readV (bodyV c) c.attrs = ({ c with nods := [], heads := [], rels := [] }, none, 0) := by
 obtain ⟨y, r, z1, z2, z3, z4, z5⟩ := run_body v hf
 unfold readV
 rw [if_neg (by rw [v.a]; simp), if_neg (by omega), r.done]
 dsimp only
 rw [if_neg (by rw [z1]; simp), z2, z5, List.take_length]
 have hc := fine_of v hf
 have hall : (c.regs.filter fun r => decide (r.e ≤ (c.toks.length : Int))) = c.regs := List.filter_eq_self.2 fun r hr => decide_eq_true (hc.one r hr).2.2.2.2.2
 rw [hall] at z4
 have : sortT y.regs = c.regs := by
  refine List.Perm.eq_of_pairwise (le := fun a b => cmpR a b ≤ 0) (fun a b _ _ h1 h2 => cmpR_eq h1 h2) (sortT_up _) ((rgC_iff.1 v.r).pw.imp fun h => h.1) ((sortT_perm _).trans z4)
 rw [this]
end Go.Proofs.YtgkdaebiefhgdaaGreatDoor
namespace Go.Proofs.YtgkdaebiefhgdaaGreatDoor
set_option linter.unusedSimpArgs false
set_option linter.unusedVariables false
open Utf
open Feat (Bs lt)
open Tagp (KV okName esc escB fmtT chk sortP keyT)
open Cor (Txt Reg C vlErr prErr)
open Vert (tagText tokText closeText closes opens posText spanText textText endTag fmtErr badT bodyV writeV)
theorem sum_le {α : Type} {f : α → Bs} {k : Nat} : ∀ {l : List α}, (∀ x ∈ l, (f x).length ≤ k) → (l.flatMap f).length ≤ l.length * k
 | [], _ => by simp
 | a :: l, h => by
  have ih := sum_le (f := f) (k := k) (l := l) fun x hx => h x (by simp [hx])
  have := h a (by simp)
  rw [List.flatMap_cons, List.length_append, List.length_cons, Nat.succ_mul]
  omega
theorem escB_l6 (c : UInt8) : (escB c).length ≤ 6 := by
 unfold escB
 split
 ·decide
 ·split
  ·decide
  ·split
   ·decide
   ·split
    ·decide
    ·simp
theorem esc_l6 (s : Bs) : (esc s).length ≤ s.length * 6 := sum_le fun c _ => escB_l6 c
theorem vErr_l120 {s : Bs} (h : vErr s = 0) : s.length ≤ 120 := ((vErr_zero s).1 h).1
theorem tag_len (nm : Bs) (l : List KV) : (tagText nm l).length ≤ 7000 := by
 unfold tagText
 by_cases hc : chk false nm l = 0
 ·rw [fmt_tag hc]
  have hk := chk_ok hc
  have h1 := okName_le32 hk.1
  have h2 : ((sortP l).flatMap keyT).length ≤ (sortP l).length * 757 := sum_le fun p hp => by
   have hp' := hk.2.2.2 p ((perm_sort l).mem_iff.1 hp)
   have a := okName_le32 hp'.1
   have b := vErr_l120 hp'.2
   have d := esc_l6 p.2
   unfold keyT
   simp only [List.length_append, List.length_cons, List.length_nil]
   omega
  have h3 := (perm_sort l).length_eq
  have h4 := hk.2.2.1
  unfold gapT
  simp only [List.replicate_zero, ite_self, List.append_nil, List.length_append, List.length_cons, List.length_nil]
  rw [h3] at h2
  have : l.length * 757 ≤ 8 * 757 := Nat.mul_le_mul_right _ h4
  omega
 ·have : (fmtT false nm l).1 = [] := by unfold fmtT; rw [if_pos hc]
  rw [this]; simp
theorem tok_len {t : List Bs} (h8 : t.length ≤ 8) (h : ∀ v ∈ t, v.length ≤ 120) : (tokText t).length ≤ 6000 := by
 have key : ∀ (l : List Bs), (∀ v ∈ l, v.length ≤ 720) → (([9] : Bs).intercalate l).length ≤ l.length * 721 := by
  intro l
  induction l with
  | nil => intro _; simp [List.intercalate]
  | cons a l ih =>
   intro hl
   have ha := hl a (by simp)
   cases l with
   | nil => simp [List.intercalate]; omega
   | cons b l =>
    have e : ([9] : Bs).intercalate (a :: b :: l) = a ++ 9 :: [9].intercalate (b :: l) := by simp [List.intercalate, List.intersperse]
    have := ih fun v hv => hl v (by simp only [List.mem_cons] at hv ⊢; exact .inr hv)
    rw [e, List.length_append, List.length_cons, List.length_cons (a := a), Nat.succ_mul]
    omega
 have := key (t.map esc) fun v hv => by
  obtain ⟨u, hu, rfl⟩ := List.mem_map.1 hv
  have := esc_l6 u
  have := h u hu
  omega
 rw [List.length_map] at this
 have h9 : t.length * 721 ≤ 8 * 721 := Nat.mul_le_mul_right _ h8
 unfold tokText
 rw [List.length_append]
 simp only [List.length_cons, List.length_nil]
 omega
theorem vd_val {c : C} (v : Vd c) : ∀ t ∈ c.toks, ∀ u ∈ t, u.length ≤ 120 := fun t ht u hu => by
 obtain ⟨k, hk, rfl⟩ := List.getElem_of_mem hu
 have h := (vd_vals v).2 t ht
 exact vErr_l120 (vl_zero (h.2 k hk (by omega)))
theorem pos_len {c : C} (v : Vd c) (b p : Nat) : (posText c b p).length ≤ 10000000 := by
 have hr := rgC_iff.1 v.r
 have h1 : (closes c.regs p).length ≤ 1024 * 40 := by
  unfold closes
  have := sum_le (f := closeText) (k := 40) (l := (c.regs.filter fun r => decide (r.e = (p : Int))).reverse) fun r hr' => by
   have hm := (List.mem_filter.1 (List.mem_reverse.1 hr')).1
   have := okName_le32 (hr.one r hm).1
   unfold closeText
   simp only [List.length_append, List.length_cons, List.length_nil]
   omega
  rw [List.length_reverse] at this
  have h2 := List.length_filter_le (fun r : Reg => decide (r.e = (p : Int))) c.regs
  have h3 := hr.len
  refine Nat.le_trans this (Nat.mul_le_mul_right _ (by omega))
 have h2 : (opens c.regs p).length ≤ 1024 * 7000 := by
  unfold opens
  have := sum_le (f := fun r : Reg => tagText r.nm r.ks) (k := 7000) (l := c.regs.filter fun r => decide (r.b = (p : Int))) fun r _ => tag_len _ _
  have h2 := List.length_filter_le (fun r : Reg => decide (r.b = (p : Int))) c.regs
  have h3 := hr.len
  refine Nat.le_trans this (Nat.mul_le_mul_right _ (by omega))
 have h3 : (tokText ((c.toks[p]?).getD [])).length ≤ 6000 := by
  rcases Nat.lt_or_ge p c.toks.length with h | h
  ·rw [List.getElem?_eq_getElem h]
   have hm := List.getElem_mem h
   refine tok_len ?_ (vd_val v _ hm)
   show c.toks[p].length ≤ 8
   rw [(vd_vals v).2 _ hm |>.1]
   exact v.atl
  ·rw [List.getElem?_eq_none h]; decide
 unfold posText
 rw [List.length_append, List.length_append]
 have h4 : (if p = b then [] else closes c.regs p).length ≤ 1024 * 40 := by
  by_cases e : p = b
  ·rw [if_pos e]; exact Nat.zero_le _
  ·rw [if_neg e]; exact h1
 omega
theorem span_len {c : C} (v : Vd c) (b j : Nat) : (spanText c b j).length ≤ j * 10000000 := by
 unfold spanText
 have := sum_le (f := fun i : Nat => posText c b (b + i)) (k := 10000000) (l := List.range j) fun i _ => pos_len v _ _
 rwa [List.length_range] at this
theorem vtext_len {c : C} (v : Vd c) (t : Txt) : (textText c t).length ≤ ((t.e - t.b).toNat + 1) * 10000000 := by
 have h1 := span_len v t.b.toNat (t.e - t.b).toNat
 have h2 := tag_len Vert.text (([105, 100], t.nm) :: t.ks)
 have h3 : (closes c.regs t.e.toNat).length ≤ 1024 * 40 := by
  have hr := rgC_iff.1 v.r
  unfold closes
  have := sum_le (f := closeText) (k := 40) (l := (c.regs.filter fun r => decide (r.e = (t.e.toNat : Int))).reverse) fun r hr' => by
   have hm := (List.mem_filter.1 (List.mem_reverse.1 hr')).1
   have := okName_le32 (hr.one r hm).1
   unfold closeText
   simp only [List.length_append, List.length_cons, List.length_nil]
   omega
  rw [List.length_reverse] at this
  have h2 := List.length_filter_le (fun r : Reg => decide (r.e = (t.e.toNat : Int))) c.regs
  have h3 := hr.len
  refine Nat.le_trans this (Nat.mul_le_mul_right _ (by omega))
 have h4 : endTag.length = 8 := rfl
 unfold textText
 rw [List.length_append, List.length_append, List.length_append, h4]
 omega
theorem body_len {c : C} (v : Vd c) : (bodyV c).length ≤ 1099511627776 := by
 have key : ∀ (m : List Txt) (p : Int), 0 ≤ p → Chain p m c.toks.length → (m.flatMap (textText c)).length ≤ ((c.toks.length - p).toNat + m.length) * 10000000 := by
  intro m
  induction m with
  | nil => intro p _ _; simp
  | cons t m ih =>
   intro p hp ⟨h1, h2, h3⟩
   have h4 := ih t.e (by omega) h3
   have h5 := vtext_len v t
   have h6 := (chain_bd h3).1
   rw [List.flatMap_cons, List.length_append, List.length_cons]
   omega
 have hx := txC_iff.1 v.x
 have := key c.texts 0 (Int.le_refl _) hx.row
 have h1 := (tkC_iff.1 v.t).1
 have h2 := hx.len
 unfold bodyV
 refine Nat.le_trans this ?_
 have : ((c.toks.length : Int) - 0).toNat = c.toks.length := by omega
 rw [this]
 omega
end Go.Proofs.YtgkdaebiefhgdaaGreatDoor
