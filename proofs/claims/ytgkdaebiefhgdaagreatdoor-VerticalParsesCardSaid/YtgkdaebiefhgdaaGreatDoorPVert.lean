/-
 Plain words for a vertical file: the state of a reading, what each line makes of it, the whole reading. No conditions.
-/
import Derived.Test.YtgkdaebiefhgdaaGreatDoorPCorSrt
namespace Go.Proofs.YtgkdaebiefhgdaaGreatDoor.Vert
set_option linter.unusedSimpArgs false
set_option linter.unusedVariables false
open Feat (Bs)
open Tagp (KV okName unesc esc fmtT)
open Cor (Txt Reg C findT vlErr)
structure Rd where
 toks : List (List Bs)
 texts : List Txt
 regs : List Reg
 opn : List Reg
 tx : Bool
def start : Rd := ⟨[], [], [], [], false⟩
def splitT : Bs → List Bs
 | [] => [[]]
 | c :: s => if c = 9 then [] :: splitT s else match splitT s with | [] => [[c]] | x :: r => (c :: x) :: r
theorem splitT_ne (s : Bs) : splitT s ≠ [] := by
 cases s with
 | nil => simp [splitT]
 | cons c s =>
  unfold splitT
  split
  ·simp
  ·split <;> simp
def fields (ats : List (Bs × Bool)) : List Bs → Nat → List Bs → Except (Nat × Nat) (List Bs)
 | [], _, vs => .ok vs
 | raw :: rs, at_, vs =>
  match ats[vs.length]? with
  | none => .error (at_, 15)
  | some a =>
   if (unesc raw).2.2 ≠ 0 then .error (at_ + (unesc raw).2.1, (unesc raw).2.2)
   else if vlErr a (unesc raw).1 ≠ 0 then .error (at_, vlErr a (unesc raw).1)
   else fields ats rs (at_ + raw.length + 1) (vs ++ [(unesc raw).1])
def tokenP (ats : List (Bs × Bool)) (x : Rd) (s : Bs) : Except (Nat × Nat) Rd :=
 if x.tx = false then .error (0, 17)
 else if x.toks.length = 4096 then .error (0, 2)
 else match fields ats (splitT s) 0 [] with
  | .error p => .error p
  | .ok vs => if vs.length < ats.length then .error (s.length, 15) else .ok { x with toks := x.toks ++ [vs] }
def isId (p : KV) : Bool := p.1 == [105, 100]
def beginText (x : Rd) (ks : List KV) : Except Nat Rd :=
 if x.tx = true then .error 17
 else if x.texts.length = 64 then .error 2
 else match (ks.filter isId).getLast? with
  | none => .error 11
  | some p =>
   if okName p.2 = false then .error 4
   else if 0 ≤ findT x.texts p.2 then .error 5
   else .ok { x with texts := x.texts ++ [⟨p.2, x.toks.length, -1, ks.filter fun p => !isId p⟩], tx := true }
def endText (x : Rd) : Except Nat Rd :=
 if x.tx = false then .error 17
 else if x.opn ≠ [] then .error 6
 else match x.texts.getLast? with
  | none => .error 17
  | some t => if t.b = x.toks.length then .error 8 else .ok { x with texts := x.texts.dropLast ++ [{ t with e := x.toks.length }], tx := false }
def beginReg (x : Rd) (nm : Bs) (ks : List KV) : Except Nat Rd :=
 if x.tx = false then .error 17
 else if 1024 ≤ x.regs.length + x.opn.length ∨ 40 ≤ x.opn.length then .error 2
 else .ok { x with opn := x.opn ++ [⟨nm, x.toks.length, 0, ks⟩] }
def lastOf (nm : Bs) : List Reg → Option Nat
 | [] => none
 | r :: l => match lastOf nm l with | some i => some (i + 1) | none => if r.nm = nm then some 0 else none
def endReg (x : Rd) (nm : Bs) : Except Nat Rd :=
 if x.tx = false then .error 17
 else match lastOf nm x.opn with
  | none => .error 11
  | some i => match x.opn[i]? with
   | none => .error 11
   | some r => if r.b = x.toks.length then .error 8 else .ok { x with regs := x.regs ++ [{ r with e := x.toks.length }], opn := x.opn.eraseIdx i }
def text : Bs := [116, 101, 120, 116]
def tagLine (x : Rd) (close : Bool) (nm : Bs) (ks : List KV) : Except Nat Rd :=
 if nm = text then (if close = true then endText x else beginText x ks) else if close = true then endReg x nm else beginReg x nm ks
def tagOf (s : Bs) : (Bool × Bs × List KV) × Nat × Nat :=
 match Tagp.tagP s with
 | .ok t => (t, 0, 0)
 | .error p => ((false, [], []), p.1, p.2)
def lineV (ats : List (Bs × Bool)) (x : Rd) (s : Bs) : Except (Nat × Nat) Rd :=
 if s.head? = some 60 then
  if (tagOf s).2.2 ≠ 0 then .error ((tagOf s).2.1, (tagOf s).2.2)
  else match tagLine x (tagOf s).1.1 (tagOf s).1.2.1 (tagOf s).1.2.2 with
   | .error e => .error (0, e)
   | .ok y => .ok y
 else tokenP ats x s
def lineOf (l : Bs) : Bs := l.takeWhile fun c => c != 10
def parseV (ats : List (Bs × Bool)) : Nat → Nat → Bs → Rd → Except (Nat × Nat) Rd
 | 0, _, _, x => .ok x
 | f + 1, a, rest, x =>
  if rest = [] then .ok x
  else match lineV ats x (lineOf rest) with
   | .error p => .error (a + p.1, p.2)
   | .ok y => parseV ats f (a + (lineOf rest).length + 1) (rest.drop ((lineOf rest).length + 1)) y
def readV (d : Bs) (ats : List (Bs × Bool)) : C × Option Nat × Nat :=
 if (Cor.atErr ats).2 ≠ 0 then (Cor.nil, none, 1)
 else if 1048576 < d.length then (Cor.nil, none, 2)
 else match parseV ats (d.length + 1) 0 d start with
  | .error p => (Cor.nil, some p.1, p.2)
  | .ok x => if x.tx = true then (Cor.nil, some d.length, 10) else (⟨ats, x.toks, x.texts, sortT x.regs, [], [], []⟩, none, 0)
end Go.Proofs.YtgkdaebiefhgdaaGreatDoor.Vert
