/-
 Plain words for the reference's reading of a vertical file, and that it ends where the program's does. No conditions.
-/
import Derived.Test.YtgkdaebiefhgdaaGreatDoorPVertRb
namespace Go.Proofs.YtgkdaebiefhgdaaGreatDoor
set_option linter.unusedSimpArgs false
set_option linter.unusedVariables false
open Feat (Bs)
open Tagp (KV okName)
open Cor (Txt Reg C findT cmpR)
open Vert (Rd tokenP lineV lineOf parseV readV tagOf tagLine isId lastOf splitT fields)
structure Rf where
 toks : List (List Bs)
 texts : List Txt
 regs : List Reg
 opn : List Nat
 tx : Bool
 at_ : Nat
 e : Nat
namespace Rf
def start : Rf := ⟨[], [], [], [], false, 0, 0⟩
def fail (y : Rf) (a k : Nat) : Rf := if y.e = 0 then { y with at_ := a, e := k } else y
def lastI (p : Nat → Bool) : List Nat → Option Nat
 | [] => none
 | i :: l => match lastI p l with | some k => some (k + 1) | none => if p i = true then some 0 else none
def named (nm : Bs) (regs : List Reg) (i : Nat) : Bool := (regs[i]?).any fun r => decide (r.nm = nm)
def fEnd (y : Rf) (a : Nat) : Rf :=
 if y.tx = false then y.fail a 17
 else match y.texts.getLast? with
  | none => y
  | some t =>
   let y1 := { y with texts := y.texts.dropLast ++ [{ t with e := y.toks.length }] }
   let y2 := if 0 < y.opn.length then y1.fail a 6 else y1
   let y3 := if t.b = y.toks.length then y2.fail a 8 else y2
   { y3 with tx := false }
def fClose (y : Rf) (nm : Bs) (a : Nat) : Rf :=
 match lastI (named nm y.regs) y.opn with
 | none => y.fail a 11
 | some k => match y.opn[k]? with
  | none => y
  | some i => match y.regs[i]? with
   | none => y
   | some r =>
    let y1 := { y with regs := y.regs.set i { r with e := y.toks.length } }
    let y2 := if r.b = y.toks.length then y1.fail a 8 else y1
    { y2 with opn := y.opn.eraseIdx k }
def idOf (ks : List KV) : Bs := match (ks.filter isId).getLast? with | none => [] | some p => p.2
def fBegin (y : Rf) (ks : List KV) (a : Nat) : Rf :=
 if y.tx = true then y.fail a 17
 else if 64 ≤ y.texts.length then y.fail a 2
 else
  let y1 := if (ks.filter isId).isEmpty = true then y.fail a 11 else if okName (idOf ks) = false then y.fail a 4 else if 0 ≤ findT y.texts (idOf ks) then y.fail a 5 else y
  { y1 with tx := true, texts := y.texts ++ [⟨idOf ks, y.toks.length, 0, ks.filter fun p => !isId p⟩] }
def fTagOk (y : Rf) (cl : Bool) (nm : Bs) (ks : List KV) (a : Nat) : Rf :=
 if nm = Vert.text then (if cl = true then y.fEnd a else y.fBegin ks a)
 else if y.tx = false then y.fail a 17
 else if cl = false then
  (if 1024 ≤ y.regs.length ∨ 40 ≤ y.opn.length then y.fail a 2 else { y with opn := y.opn ++ [y.regs.length], regs := y.regs ++ [⟨nm, y.toks.length, 0, ks⟩] })
 else y.fClose nm a
def fTag (y : Rf) (a : Nat) (s : Bs) : Rf :=
 if (tagOf s).2.2 ≠ 0 then y.fail (a + (tagOf s).2.1) (tagOf s).2.2 else y.fTagOk (tagOf s).1.1 (tagOf s).1.2.1 (tagOf s).1.2.2 a
def fTok (ats : List (Bs × Bool)) (y : Rf) (a : Nat) (s : Bs) : Rf :=
 if y.tx = false then y.fail a 17
 else if 4096 ≤ y.toks.length then y.fail a 2
 else match fields ats (splitT s) 0 [] with
  | .error p => y.fail (a + p.1) p.2
  | .ok vs =>
   let y1 := if vs.length < ats.length then y.fail (a + s.length) 15 else y
   { y1 with toks := y.toks ++ [vs] }
def fLine (ats : List (Bs × Bool)) (y : Rf) (a : Nat) (s : Bs) : Rf := if s.head? = some 60 then y.fTag a s else fTok ats y a s
def parse (ats : List (Bs × Bool)) : Nat → Nat → Bs → Rf → Rf
 | 0, _, _, y => y
 | f + 1, a, rest, y => if rest = [] ∨ y.e ≠ 0 then y else parse ats f (a + (lineOf rest).length + 1) (rest.drop ((lineOf rest).length + 1)) (fLine ats y a (lineOf rest))
end Rf
open Rf
structure Sim (x : Rd) (y : Rf) : Prop where
 e : y.e = 0
 toks : y.toks = x.toks
 tx : y.tx = x.tx
 shut : x.tx = false → y.texts = x.texts ∧ x.opn = []
 open_ : x.tx = true → ∃ pre t, x.texts = pre ++ [t] ∧ y.texts = pre ++ [{ t with e := 0 }]
 opn : x.opn.map some = y.opn.map fun i => y.regs[i]?
 nd : y.opn.Nodup
 regs : (x.regs ++ x.opn).Perm y.regs
 tl : x.toks.length ≤ 4096
 xl : x.texts.length ≤ 64
theorem sim_start : Sim Vert.start Rf.start :=
 ⟨rfl, rfl, rfl, fun _ => ⟨rfl, rfl⟩, fun h => (by cases h), rfl, List.nodup_nil, List.Perm.nil, Nat.zero_le _, Nat.zero_le _⟩
section
variable {x : Rd} {y : Rf}
theorem Sim.fail (h : Sim x y) (a k : Nat) : (y.fail a k).e = k ∧ (y.fail a k).at_ = a := by
 unfold Rf.fail
 rw [if_pos h.e]
 exact ⟨rfl, rfl⟩
theorem Sim.find (h : Sim x y) (nm : Bs) : findT y.texts nm = findT x.texts nm := by
 cases hx : x.tx with
 | false => rw [(h.shut hx).1]
 | true =>
  obtain ⟨pre, t, h1, h2⟩ := h.open_ hx
  rw [h1, h2]
  unfold findT
  rw [List.findIdx?_append, List.findIdx?_append]
  simp [List.findIdx?_cons]
theorem Sim.tlen (h : Sim x y) : y.texts.length = x.texts.length := by
 cases hx : x.tx with
 | false => rw [(h.shut hx).1]
 | true =>
  obtain ⟨pre, t, h1, h2⟩ := h.open_ hx
  rw [h1, h2]; simp
theorem Sim.rlen (h : Sim x y) : y.regs.length = x.regs.length + x.opn.length := by rw [← h.regs.length_eq, List.length_append]
theorem Sim.olen (h : Sim x y) : y.opn.length = x.opn.length := by
 have := congrArg List.length h.opn
 simpa using this.symm
def Met2 (r : Except Nat Rd) (a : Nat) (z : Rf) : Prop :=
 match r with
 | .error k => z.e = k ∧ z.at_ = a
 | .ok x' => Sim x' z
theorem sim_end (h : Sim x y) (hx : x.tx = true → x.texts ≠ []) (a : Nat) : Met2 (Vert.endText x) a (y.fEnd a) := by
 unfold Vert.endText Rf.fEnd Met2
 cases htx : x.tx with
 | false =>
  rw [if_pos rfl, if_pos (h.tx.trans htx)]
  exact h.fail a 17
 | true =>
  obtain ⟨pre, t, h1, h2⟩ := h.open_ htx
  have e1 : x.texts.getLast? = some t := by rw [h1]; simp
  have e2 : y.texts.getLast? = some { t with e := 0 } := by rw [h2]; simp
  have e3 : x.texts.dropLast = pre := by rw [h1]; simp
  have e4 : y.texts.dropLast = pre := by rw [h2]; simp
  rw [if_neg (by simp), if_neg (show ¬ y.tx = false by rw [h.tx, htx]; simp), e2]
  have hol := h.olen
  dsimp only
  by_cases ho : x.opn = []
  ·have ho2 : ¬ 0 < y.opn.length := by rw [hol, ho]; simp
   rw [if_neg (by simpa using ho), e1, if_neg ho2]
   dsimp only
   rw [h.toks]
   by_cases hb : t.b = x.toks.length
   ·rw [if_pos hb, if_pos hb]
    unfold Rf.fail
    rw [if_pos h.e]
    exact ⟨rfl, rfl⟩
   ·rw [if_neg hb, if_neg hb, e3, e4]
    refine ⟨h.e, rfl, rfl, fun _ => ⟨rfl, ho⟩, fun hf => (by cases hf), h.opn, h.nd, h.regs, h.tl, ?_⟩
    have := h.xl
    rw [h1] at this
    simpa using this
  ·have ho2 : 0 < y.opn.length := by rw [hol]; exact List.length_pos_iff.2 ho
   rw [if_pos ho, if_pos ho2]
   dsimp only
   rw [h.toks]
   unfold Rf.fail
   by_cases hb : t.b = x.toks.length
   ·rw [if_pos hb, if_pos h.e]
    dsimp only
    rw [if_neg (by decide)]
    exact ⟨rfl, rfl⟩
   ·rw [if_neg hb, if_pos h.e]
    exact ⟨rfl, rfl⟩
theorem sim_begin (h : Sim x y) (ks : List KV) (a : Nat) : Met2 (Vert.beginText x ks) a (y.fBegin ks a) := by
 unfold Vert.beginText Rf.fBegin Met2
 cases htx : x.tx with
 | true =>
  rw [if_pos rfl, if_pos (h.tx.trans htx)]
  exact h.fail a 17
 | false =>
  rw [if_neg (by simp), if_neg (show ¬ y.tx = true by rw [h.tx, htx]; simp), h.tlen]
  have hxl := h.xl
  by_cases h64 : x.texts.length = 64
  ·rw [if_pos h64, if_pos (by omega)]
   exact h.fail a 2
  ·rw [if_neg h64, if_neg (by omega)]
   dsimp only
   cases hg : (ks.filter isId).getLast? with
   | none =>
    have : ks.filter isId = [] := List.getLast?_eq_none_iff.1 hg
    rw [this, if_pos (show ([] : List KV).isEmpty = true from rfl)]
    exact h.fail a 11
   | some p =>
    have hne : (ks.filter isId).isEmpty = false := by
     cases hf : ks.filter isId with
     | nil => rw [hf] at hg; cases hg
     | cons _ _ => rfl
    have hid : idOf ks = p.2 := by unfold idOf; rw [hg]
    rw [hne, if_neg (by simp), hid]
    dsimp only
    by_cases hk : okName p.2 = false
    ·rw [if_pos hk, if_pos hk]
     exact h.fail a 4
    ·rw [if_neg hk, if_neg hk, h.find]
     by_cases hd : 0 ≤ findT x.texts p.2
     ·rw [if_pos hd, if_pos hd]
      exact h.fail a 5
     ·rw [if_neg hd, if_neg hd, h.toks]
      have hs := h.shut htx
      refine ⟨h.e, rfl, rfl, fun hf => (by cases hf), fun _ => ⟨x.texts, _, rfl, ?_⟩, h.opn, h.nd, h.regs, h.tl, ?_⟩
      ·rw [hs.1]
      ·show (x.texts ++ [_]).length ≤ 64
       simp; omega
theorem lastI_of {nm : Bs} {regs : List Reg} : ∀ {l : List Reg} {o : List Nat}, l.map some = (o.map fun i => regs[i]?) → lastI (named nm regs) o = lastOf nm l
 | [], [], _ => rfl
 | [], _ :: _, h => by simp at h
 | _ :: _, [], h => by simp at h
 | r :: l, i :: o, h => by
  simp only [List.map_cons, List.cons.injEq] at h
  have ih := lastI_of (nm := nm) h.2
  unfold lastI lastOf
  rw [ih]
  cases lastOf nm l with
  | some k => rfl
  | none =>
   dsimp only
   have : named nm regs i = decide (r.nm = nm) := by unfold named; rw [← h.1]; rfl
   rw [this]
   by_cases e : r.nm = nm
   ·rw [if_pos (by simpa using e), if_pos e]
   ·rw [if_neg (by simpa using e), if_neg e]
theorem perm_set {α : Type} {l : List α} {i : Nat} (hi : i < l.length) (v : α) : (l.set i v).Perm (v :: l.eraseIdx i) := by
 rw [List.set_eq_take_append_cons_drop, if_pos hi, List.eraseIdx_eq_take_drop_succ]
 exact List.perm_middle
theorem perm_at {α : Type} {l : List α} {i : Nat} (hi : i < l.length) : l.Perm (l[i] :: l.eraseIdx i) := by
 have := perm_set hi l[i]
 rwa [List.set_getElem_self] at this
theorem lastI_lt {p : Nat → Bool} : ∀ {l : List Nat} {k : Nat}, lastI p l = some k → k < l.length
 | [], k, h => by cases h
 | i :: l, k, h => by
  unfold lastI at h
  cases hl : lastI p l with
  | some j =>
   rw [hl] at h
   have := lastI_lt hl
   dsimp only at h
   injection h with h
   rw [List.length_cons]; omega
  | none =>
   rw [hl] at h
   dsimp only at h
   split at h
   ·injection h with h; rw [List.length_cons]; omega
   ·cases h
theorem er_map {α β : Type} (f : α → β) : ∀ (l : List α) (k : Nat), (l.eraseIdx k).map f = (l.map f).eraseIdx k
 | [], _ => rfl
 | _ :: _, 0 => rfl
 | a :: l, k + 1 => by simp only [List.eraseIdx_cons_succ, List.map_cons, er_map f l k]
theorem sim_close (h : Sim x y) (htx : x.tx = true) (nm : Bs) (a : Nat) : Met2 (Vert.endReg x nm) a (y.fClose nm a) := by
 unfold Vert.endReg Rf.fClose Met2
 rw [if_neg (by rw [htx]; simp), lastI_of h.opn]
 cases hl : lastOf nm x.opn with
 | none => exact h.fail a 11
 | some k =>
  dsimp only
  have hk : k < y.opn.length := lastI_lt ((lastI_of h.opn).trans hl)
  have hol := h.olen
  have hk2 : k < x.opn.length := by omega
  rw [List.getElem?_eq_getElem hk2, List.getElem?_eq_getElem hk]
  dsimp only
  have hat : some x.opn[k] = y.regs[y.opn[k]]? := by
   have := congrArg (fun l : List (Option Reg) => l[k]?) h.opn
   simp only [List.getElem?_map, List.getElem?_eq_getElem hk2, List.getElem?_eq_getElem hk, Option.map_some, Option.some.injEq] at this
   exact this
  obtain ⟨hi, hie⟩ := List.getElem?_eq_some_iff.1 hat.symm
  rw [← hat]
  dsimp only
  rw [h.toks]
  by_cases hb : x.opn[k].b = x.toks.length
  ·rw [if_pos hb, if_pos hb]
   unfold Rf.fail
   rw [if_pos h.e]
   exact ⟨rfl, rfl⟩
  ·rw [if_neg hb, if_neg hb]
   refine ⟨h.e, rfl, h.tx, fun hf => (by rw [htx] at hf; cases hf), h.open_, ?_, h.nd.eraseIdx k, ?_, h.tl, h.xl⟩
   ·show (x.opn.eraseIdx k).map some = (y.opn.eraseIdx k).map fun i => (y.regs.set y.opn[k] _)[i]?
    rw [er_map, h.opn, ← er_map]
    refine List.map_congr_left fun i him => ?_
    rw [List.getElem?_set_ne]
    intro e
    have hn := h.nd
    have hm := (perm_at hk).nodup_iff.1 hn
    rw [← e] at him
    exact (List.nodup_cons.1 hm).1 him
   ·show (x.regs ++ [_] ++ x.opn.eraseIdx k).Perm (y.regs.set y.opn[k] _)
    refine List.Perm.trans ?_ (perm_set hi _).symm
    rw [List.append_assoc]
    refine List.Perm.trans List.perm_middle (List.Perm.cons _ ?_)
    have p1 : (x.opn[k] :: (x.regs ++ x.opn.eraseIdx k)).Perm (y.regs[y.opn[k]] :: y.regs.eraseIdx y.opn[k]) :=
     (List.perm_middle.symm.trans ((perm_at hk2).symm.append_left x.regs)).trans (h.regs.trans (perm_at hi))
    rw [hie] at p1
    exact (List.perm_cons _).1 p1
theorem sim_open (h : Sim x y) (htx : x.tx = true) (nm : Bs) (ks : List KV) (a : Nat) :
  Met2 (Vert.beginReg x nm ks) a (if 1024 ≤ y.regs.length ∨ 40 ≤ y.opn.length then y.fail a 2 else { y with opn := y.opn ++ [y.regs.length], regs := y.regs ++ [⟨nm, y.toks.length, 0, ks⟩] }) := by
 unfold Vert.beginReg Met2
 rw [if_neg (by rw [htx]; simp), h.rlen, h.olen]
 by_cases hc : 1024 ≤ x.regs.length + x.opn.length ∨ 40 ≤ x.opn.length
 ·rw [if_pos hc, if_pos hc]
  exact h.fail a 2
 ·rw [if_neg hc, if_neg hc, h.toks]
  refine ⟨h.e, rfl, h.tx, fun hf => (by rw [htx] at hf; cases hf), h.open_, ?_, ?_, ?_, h.tl, h.xl⟩
  ·show (x.opn ++ [_]).map some = (y.opn ++ [x.regs.length + x.opn.length]).map fun i => (y.regs ++ [_])[i]?
   rw [List.map_append, List.map_append, h.opn]
   have hb : ∀ i ∈ y.opn, i < y.regs.length := fun i hi => by
    have : y.regs[i]? ∈ y.opn.map fun i => y.regs[i]? := List.mem_map_of_mem hi
    rw [← h.opn] at this
    obtain ⟨r, _, e⟩ := List.mem_map.1 this
    exact (List.getElem?_eq_some_iff.1 e.symm).1
   congr 1
   ·exact List.map_congr_left fun i hi => (List.getElem?_append_left (hb i hi)).symm
   ·simp only [List.map_cons, List.map_nil]
    rw [List.getElem?_append_right (by rw [h.rlen]; exact Nat.le_refl _), h.rlen]
    simp
  ·show (y.opn ++ [x.regs.length + x.opn.length]).Nodup
   rw [← h.rlen]
   have hb : ∀ i ∈ y.opn, i < y.regs.length := fun i hi => by
    have : y.regs[i]? ∈ y.opn.map fun i => y.regs[i]? := List.mem_map_of_mem hi
    rw [← h.opn] at this
    obtain ⟨r, _, e⟩ := List.mem_map.1 this
    exact (List.getElem?_eq_some_iff.1 e.symm).1
   rw [List.nodup_append]
   exact ⟨h.nd, by simp, fun i hi j hj => by
    simp at hj
    have := hb i hi
    omega⟩
  ·show (x.regs ++ (x.opn ++ [_])).Perm (y.regs ++ [_])
   rw [← List.append_assoc]
   exact h.regs.append_right _
theorem sim_tag (h : Sim x y) (hx : x.tx = true → x.texts ≠ []) (cl : Bool) (nm : Bs) (ks : List KV) (a : Nat) : Met2 (tagLine x cl nm ks) a (y.fTagOk cl nm ks a) := by
 unfold tagLine Rf.fTagOk
 by_cases hn : nm = Vert.text
 ·rw [if_pos hn, if_pos hn]
  cases cl with
  | true => rw [if_pos rfl, if_pos rfl]; exact sim_end h hx a
  | false => rw [if_neg (by simp), if_neg (by simp)]; exact sim_begin h ks a
 ·rw [if_neg hn, if_neg hn]
  cases htx : x.tx with
  | false =>
   rw [if_pos (h.tx.trans htx)]
   unfold Met2 Vert.endReg Vert.beginReg
   cases cl <;> simp only [htx, if_true, if_pos, ite_true, Bool.false_eq_true, if_false] <;> exact h.fail a 17
  | true =>
   rw [if_neg (show ¬ y.tx = false by rw [h.tx, htx]; simp)]
   cases cl with
   | true => rw [if_pos rfl, if_neg (by simp)]; exact sim_close h htx nm a
   | false => rw [if_neg (by simp), if_pos rfl]; exact sim_open h htx nm ks a
def Met3 (r : Except (Nat × Nat) Rd) (a : Nat) (z : Rf) : Prop :=
 match r with
 | .error p => z.e = p.2 ∧ z.at_ = a + p.1
 | .ok x' => Sim x' z
theorem sim_tok (h : Sim x y) (ats : List (Bs × Bool)) (a : Nat) (s : Bs) : Met3 (tokenP ats x s) a (fTok ats y a s) := by
 unfold tokenP Rf.fTok Met3
 cases htx : x.tx with
 | false =>
  rw [if_pos rfl, if_pos (h.tx.trans htx)]
  exact h.fail a 17
 | true =>
  have htl := h.tl
  rw [if_neg (by simp), if_neg (show ¬ y.tx = false by rw [h.tx, htx]; simp), h.toks]
  by_cases h4 : x.toks.length = 4096
  ·rw [if_pos h4, if_pos (by omega)]
   exact h.fail a 2
  ·rw [if_neg h4, if_neg (by omega)]
   cases hf : fields ats (splitT s) 0 [] with
   | error p => exact h.fail _ _
   | ok vs =>
    dsimp only
    by_cases hv : vs.length < ats.length
    ·rw [if_pos hv, if_pos hv]
     exact h.fail _ _
    ·rw [if_neg hv, if_neg hv]
     refine ⟨h.e, rfl, h.tx.trans htx, fun hf => (by cases hf), fun _ => h.open_ htx, h.opn, h.nd, h.regs, ?_, h.xl⟩
     show (x.toks ++ [vs]).length ≤ 4096
     simp; omega
theorem sim_line (h : Sim x y) (hx : x.tx = true → x.texts ≠ []) (ats : List (Bs × Bool)) (a : Nat) (s : Bs) : Met3 (lineV ats x s) a (fLine ats y a s) := by
 unfold lineV Rf.fLine
 by_cases hh : s.head? = some 60
 ·rw [if_pos hh, if_pos hh]
  unfold Rf.fTag
  by_cases he : (tagOf s).2.2 ≠ 0
  ·rw [if_pos he, if_pos he]
   exact h.fail _ _
  ·rw [if_neg he, if_neg he]
   have hm := sim_tag h hx (tagOf s).1.1 (tagOf s).1.2.1 (tagOf s).1.2.2 a
   cases ht : tagLine x (tagOf s).1.1 (tagOf s).1.2.1 (tagOf s).1.2.2 with
   | error k => rw [ht] at hm; exact hm
   | ok z => rw [ht] at hm; exact hm
 ·rw [if_neg hh, if_neg hh]
  exact sim_tok h ats a s
end
theorem parse_stop (ats : List (Bs × Bool)) (f a : Nat) (rest : Bs) {y : Rf} (h : y.e ≠ 0) : Rf.parse ats f a rest y = y := by
 cases f with
 | zero => rfl
 | succ f => rw [Rf.parse, if_pos (.inr h)]
theorem tx_ne {ats : List (Bs × Bool)} {x x' : Rd} {s : Bs} (h : x.tx = true → x.texts ≠ []) (hl : lineV ats x s = .ok x') : x'.tx = true → x'.texts ≠ [] := by
 intro htx
 unfold lineV at hl
 split at hl
 ·split at hl
  ·cases hl
  ·split at hl
   ·cases hl
   ·rename_i z hz
    cases hl
    unfold tagLine Vert.endText Vert.beginText Vert.endReg Vert.beginReg at hz
    repeat' split at hz
    all_goals first
     | (cases hz; done)
     | (cases hz; first | (exact h htx) | (cases htx; done) | (simp; done))
 ·unfold tokenP at hl
  repeat' split at hl
  all_goals first
   | (cases hl; done)
   | (cases hl; exact h htx)
theorem sim_parse {ats : List (Bs × Bool)} : ∀ (f a : Nat) (rest : Bs) (x : Rd) (y : Rf), Sim x y → (x.tx = true → x.texts ≠ []) →
  match parseV ats f a rest x with
  | .error p => (Rf.parse ats f a rest y).e = p.2 ∧ (Rf.parse ats f a rest y).at_ = p.1
  | .ok x' => Sim x' (Rf.parse ats f a rest y)
 | 0, a, rest, x, y, h, hx => h
 | f + 1, a, rest, x, y, h, hx => by
  rw [parseV, Rf.parse]
  by_cases hr : rest = []
  ·rw [if_pos hr, if_pos (.inl hr)]
   exact h
  ·rw [if_neg hr, if_neg (fun hc => hc.elim hr (fun he => he h.e))]
   have hm := sim_line h hx ats a (lineOf rest)
   cases hl : lineV ats x (lineOf rest) with
   | error p =>
    rw [hl] at hm
    have hne : (fLine ats y a (lineOf rest)).e ≠ 0 := by rw [hm.1]; exact lineV_ne hl
    rw [parse_stop _ _ _ _ hne]
    exact hm
   | ok z =>
    rw [hl] at hm
    exact sim_parse f _ _ z _ hm (tx_ne hx hl)
theorem up_perm : ∀ {l m : List Reg}, (l.Pairwise fun y z => cmpR y z ≤ 0) → (m.Pairwise fun y z => cmpR y z ≤ 0) → l.Perm m → l = m
 | [], m, _, _, p => (List.nil_perm.1 p).symm
 | a :: l, [], _, _, p => absurd p.length_eq (by simp)
 | a :: l, b :: m, hl, hm, p => by
  have hab : a = b := by
   have ha : a ∈ b :: m := p.mem_iff.1 (by simp)
   have hb : b ∈ a :: l := p.mem_iff.2 (by simp)
   have h1 : cmpR a b ≤ 0 := by
    rcases List.mem_cons.1 hb with e | e
    ·subst e; rw [(ord_R.zero _ _).2 rfl]; exact Int.le_refl _
    ·exact (List.pairwise_cons.1 hl).1 b e
   have h2 : cmpR b a ≤ 0 := by
    rcases List.mem_cons.1 ha with e | e
    ·subst e; rw [(ord_R.zero _ _).2 rfl]; exact Int.le_refl _
    ·exact (List.pairwise_cons.1 hm).1 a e
   have h3 := ord_R.anti a b
   exact (ord_R.zero _ _).1 (by omega)
  subst hab
  rw [up_perm (List.pairwise_cons.1 hl).2 (List.pairwise_cons.1 hm).2 ((List.perm_cons a).1 p)]
theorem sortT_eq {l m : List Reg} (h : l.Perm m) : sortT l = sortT m := up_perm (sortT_up l) (sortT_up m) ((sortT_perm l).trans (h.trans (sortT_perm m).symm))
theorem readV_ref {d : Bs} {ats : List (Bs × Bool)} (ha : (Cor.atErr ats).2 = 0) (hd : d.length ≤ 1048576) :
  let z := Rf.parse ats (d.length + 1) 0 d Rf.start
  let z2 := if z.tx = true then z.fail d.length 10 else z
  (z2.e ≠ 0 ∧ z2.at_ ≤ d.length ∧ readV d ats = (Cor.nil, some z2.at_, z2.e)) ∨ (z2.e = 0 ∧ readV d ats = (⟨ats, z2.toks, z2.texts, sortT z2.regs, [], [], []⟩, none, 0)) := by
 have hs := sim_parse (ats := ats) (d.length + 1) 0 d _ _ sim_start (fun h => (by cases h))
 unfold readV
 rw [if_neg (by rw [ha]; simp), if_neg (by omega)]
 dsimp only
 cases hp : parseV ats (d.length + 1) 0 d Vert.start with
 | error p =>
  rw [hp] at hs
  dsimp only at hs
  have hne := parseV_ne hp
  have hat := parseV_at _ _ _ _ hp
  left
  have e : (if (Rf.parse ats (d.length + 1) 0 d Rf.start).tx = true then (Rf.parse ats (d.length + 1) 0 d Rf.start).fail d.length 10 else Rf.parse ats (d.length + 1) 0 d Rf.start) = Rf.parse ats (d.length + 1) 0 d Rf.start := by
   split
   ·unfold Rf.fail; rw [if_neg (by rw [hs.1]; exact hne)]
   ·rfl
  rw [e, hs.1, hs.2]
  exact ⟨hne, by omega, rfl⟩
 | ok x =>
  rw [hp] at hs
  dsimp only at hs ⊢
  rw [hs.tx]
  by_cases htx : x.tx = true
  ·rw [if_pos htx, if_pos htx]
   left
   have := hs.fail d.length 10
   rw [this.1, this.2]
   exact ⟨by decide, Nat.le_refl _, rfl⟩
  ·rw [if_neg htx, if_neg htx]
   right
   have h0 := hs.shut (by simpa using htx)
   refine ⟨hs.e, ?_⟩
   have hr : x.regs.Perm (Rf.parse ats (d.length + 1) 0 d Rf.start).regs := by
    have := hs.regs
    rw [h0.2, List.append_nil] at this
    exact this
   rw [hs.toks, h0.1, sortT_eq hr]
end Go.Proofs.YtgkdaebiefhgdaaGreatDoor
