/-
 Plain words for a corpus: its parts, the first error of each part, the order of regions. No conditions.
-/
import Derived.Test.YtgkdaebiefhgdaaGreatDoorPBase6
namespace Go.Proofs.YtgkdaebiefhgdaaGreatDoor.Cor
open Utf
open Feat (Bs lt lt_irrefl lt_trans lt_tri lt_asymm)
open Tagp (KV okName)
structure Txt where
 nm : Bs
 b : Int
 e : Int
 ks : List KV
abbrev Reg := Txt
structure Nod where
 lb : Bs
 b : Int
 e : Int
 p : Int
structure C where
 attrs : List (Bs × Bool)
 toks : List (List Bs)
 texts : List Txt
 regs : List Reg
 nods : List Nod
 heads : List Int
 rels : List Bs
def nil : C := ⟨[], [], [], [], [], [], []⟩

def first (f : Nat → Nat) : Nat → Nat → Nat × Nat
 | _, 0 => (0, 0)
 | k, n + 1 => if f k ≠ 0 then (k, f k) else first f (k + 1) n
theorem first_none {f : Nat → Nat} : ∀ (k n : Nat), (∀ j, k ≤ j → j < k + n → f j = 0) → first f k n = (0, 0)
 | _, 0, _ => rfl
 | k, n + 1, h => by
  rw [first, if_neg (by rw [h k (Nat.le_refl _) (by omega)]; simp)]
  exact first_none (k + 1) n fun j h1 h2 => h j (by omega) (by omega)
theorem first_at {f : Nat → Nat} : ∀ (k n i : Nat), k ≤ i → i < k + n → (∀ j, k ≤ j → j < i → f j = 0) → f i ≠ 0 → first f k n = (i, f i)
 | _, 0, i, h1, h2, _, _ => by omega
 | k, n + 1, i, h1, h2, h, hi => by
  by_cases e : k = i
  ·subst e; rw [first, if_pos hi]
  ·rw [first, if_neg (by rw [h k (Nat.le_refl _) (by omega)]; simp)]
   exact first_at (k + 1) n i (by omega) (by omega) (fun j a b => h j (by omega) b) hi
theorem first_zero {f : Nat → Nat} : ∀ (k n : Nat), (first f k n).2 = 0 → ∀ j, k ≤ j → j < k + n → f j = 0
 | _, 0, _, j, h1, h2 => by omega
 | k, n + 1, h, j, h1, h2 => by
  by_cases e : f k = 0
  ·rw [first, if_neg (by simp [e])] at h
   by_cases ek : j = k
   ·rw [ek]; exact e
   ·exact first_zero (k + 1) n h j (by omega) (by omega)
  ·rw [first, if_pos e] at h
   exact absurd h e
def cmpS (a b : Bs) : Int := if lt a b = true then -1 else if lt b a = true then 1 else 0
def cmpI (a b : Int) : Int := if a < b then -1 else if b < a then 1 else 0
def cmpK : List KV → List KV → Int
 | p :: l, q :: m => if cmpS p.1 q.1 ≠ 0 then cmpS p.1 q.1 else if cmpS p.2 q.2 ≠ 0 then cmpS p.2 q.2 else cmpK l m
 | [], [] => 0
 | [], _ :: _ => -1
 | _ :: _, [] => 1
def cmpR (x y : Reg) : Int :=
 if cmpI x.b y.b ≠ 0 then cmpI x.b y.b else if cmpI y.e x.e ≠ 0 then cmpI y.e x.e else if cmpS x.nm y.nm ≠ 0 then cmpS x.nm y.nm else cmpK x.ks y.ks

def prF (l : List KV) (i : Nat) : Nat :=
 match l[i]? with
 | none => 0
 | some p => if okName p.1 = false then 4 else if 0 < i ∧ (l[i - 1]?).any (fun q => !lt q.1 p.1) = true then 6 else vErr p.2
def prErr (l : List KV) : Nat := if 8 < l.length then 2 else (first (prF l) 0 l.length).2

def atF (l : List (Bs × Bool)) (i : Nat) : Nat :=
 match l[i]? with
 | none => 0
 | some a => if okName a.1 = false then 4 else if (l.take i).any (fun b => b.1 == a.1) = true then 5 else 0
def atErr (l : List (Bs × Bool)) : Nat × Nat := if l.length = 0 then (0, 15) else if 8 < l.length then (0, 2) else first (atF l) 0 l.length

def vlErr (a : Bs × Bool) (v : Bs) : Nat := if a.2 = true then (Feat.parse v).2 else vErr v
def tvF (ats : List (Bs × Bool)) (t : List Bs) (k : Nat) : Nat :=
 match ats[k]?, t[k]? with
 | some a, some v => vlErr a v
 | _, _ => 0
def tkF (ats : List (Bs × Bool)) (l : List (List Bs)) (i : Nat) : Nat :=
 match l[i]? with
 | none => 0
 | some t => if t.length ≠ ats.length then 15 else (first (tvF ats t) 0 t.length).2
def tkErr (ats : List (Bs × Bool)) (l : List (List Bs)) : Nat × Nat := if 4096 < l.length then (0, 2) else first (tkF ats l) 0 l.length

def endB (l : List Txt) (i : Nat) : Int := if i = 0 then 0 else match l[i - 1]? with | none => 0 | some t => t.e
def txF (n : Nat) (l : List Txt) (i : Nat) : Nat :=
 match l[i]? with
 | none => 0
 | some t =>
  if okName t.nm = false then 4
  else if (l.take i).any (fun u => u.nm == t.nm) = true then 5
  else if t.b ≠ endB l i ∨ t.e ≤ t.b ∨ (n : Int) < t.e ∨ (i + 1 = l.length ∧ t.e ≠ n) then 8
  else prErr t.ks
def txErr (n : Nat) (l : List Txt) : Nat × Nat :=
 if 64 < l.length then (0, 2) else if (l.length == 0) != (n == 0) then (0, 15) else first (txF n l) 0 l.length

def findT (l : List Txt) (nm : Bs) : Int := match l.findIdx? (fun t => t.nm == nm) with | none => -1 | some i => i
def textAt (l : List Txt) (pos : Int) : Int := match l.findIdx? (fun t => decide (t.b ≤ pos) && decide (pos < t.e)) with | none => -1 | some i => i
def within (l : List Txt) (b e : Int) : Bool := l.any fun t => decide (t.b ≤ b) && decide (b < e) && decide (e ≤ t.e)

def crossR (y x : Reg) : Bool :=
 (((y.nm == x.nm && decide (y.b < x.e)) && decide (x.b < y.e)) && !(decide (y.b ≤ x.b) && decide (x.e ≤ y.e))) && !(decide (x.b ≤ y.b) && decide (y.e ≤ x.e))
def coverR (x y : Reg) : Bool := decide (y.b ≤ x.b) && decide (x.b < y.e)
def rgF (ts : List Txt) (l : List Reg) (i : Nat) : Nat :=
 match l[i]? with
 | none => 0
 | some x =>
  if okName x.nm = false then 4
  else if within ts x.b x.e = false then 8
  else if prErr x.ks ≠ 0 then prErr x.ks
  else if 0 < i ∧ (l[i - 1]?).any (fun y => decide (0 < cmpR y x)) = true then 6
  else if (l.take i).any (fun y => crossR y x) = true then 13
  else if 40 < ((l.take (i + 1)).filter (coverR x)).length then 2
  else 0
def rgErr (ts : List Txt) (l : List Reg) : Nat × Nat := if 1024 < l.length then (0, 2) else first (rgF ts l) 0 l.length

def par (l : List Nod) (k : Int) : Int := if 0 ≤ k then (match l[k.toNat]? with | none => -1 | some x => x.p) else -1
def anc (l : List Nod) (p : Int) : Nat → Int → Bool
 | 0, k => k == p
 | f + 1, k => if k < 0 then k == p else if k = p then true else anc l p f (par l k)
def dep (l : List Nod) : Nat → Int → Nat
 | 0, _ => 0
 | f + 1, k => if k < 0 then 0 else dep l f (par l k) + 1
def sibE (p : Int) : List Nod → Option Int
 | [] => none
 | x :: l => match sibE p l with | some e => some e | none => if x.p = p then some x.e else none
def ndF (ts : List Txt) (l : List Nod) (i : Nat) : Nat :=
 match l[i]? with
 | none => 0
 | some x =>
  if okName x.lb = false then 4
  else if within ts x.b x.e = false then 8
  else if anc l x.p i ((i : Int) - 1) = false then 6
  else if 0 ≤ x.p ∧ (l[x.p.toNat]?).any (fun q => decide (x.b < q.b) || decide (q.e < x.e)) = true then 8
  else if (sibE x.p (l.take i)).any (fun e => decide (x.b < e)) = true then 8
  else if 40 < dep l (i + 1) i then 2
  else 0
def ndErr (ts : List Txt) (l : List Nod) : Nat × Nat := if 2048 < l.length then (0, 2) else first (ndF ts l) 0 l.length

def bare (h : List Int) (r : List Bs) : Bool := h.all (fun x => x == -1) && r.all (fun s => s.isEmpty)
def nrm (h : List Int) : List Int := h.map fun x : Int => if 0 ≤ x ∧ x < (h.length : Int) then x else -1
def cyc (h : List Int) (i : Nat) : Bool := Dep.cyc (nrm h) i
def hdF (ts : List Txt) (h : List Int) (r : List Bs) (i : Nat) : Nat :=
 match h[i]?, r[i]? with
 | some x, some s =>
  if x ≠ -1 ∧ (x < 0 ∨ (h.length : Int) ≤ x ∨ textAt ts x ≠ textAt ts i) then 8
  else if s.isEmpty = false ∧ okName s = false then 4
  else if cyc h i = true then 12
  else 0
 | _, _ => 0
def hdErr (n : Nat) (ts : List Txt) (h : List Int) (r : List Bs) : Nat × Nat :=
 if h.length ≠ r.length ∨ (h.length ≠ 0 ∧ h.length ≠ n) then (0, 15) else if 0 < h.length ∧ bare h r = true then (0, 14) else first (hdF ts h r) 0 h.length

def check (c : C) : Nat × Nat × Nat :=
 if (atErr c.attrs).2 ≠ 0 then (1, atErr c.attrs)
 else if (tkErr c.attrs c.toks).2 ≠ 0 then (2, tkErr c.attrs c.toks)
 else if (txErr c.toks.length c.texts).2 ≠ 0 then (3, txErr c.toks.length c.texts)
 else if (rgErr c.texts c.regs).2 ≠ 0 then (4, rgErr c.texts c.regs)
 else if (ndErr c.texts c.nods).2 ≠ 0 then (5, ndErr c.texts c.nods)
 else if (hdErr c.toks.length c.texts c.heads c.rels).2 ≠ 0 then (6, hdErr c.toks.length c.texts c.heads c.rels)
 else (0, 0, 0)
def valid (c : C) : Bool := (check c).2.2 == 0

def mvT (n : Int) (t : Txt) : Txt := { t with b := t.b + n, e := t.e + n }
def mvR (n : Int) (x : Reg) : Reg := { x with b := x.b + n, e := x.e + n }
def mvN (n m : Int) (x : Nod) : Nod := { x with b := x.b + n, e := x.e + n, p := if 0 ≤ x.p then x.p + m else x.p }
def mvH (n : Int) (x : Int) : Int := if 0 ≤ x then x + n else x
def allH (c : C) : List Int := if 0 < c.heads.length then c.heads else List.replicate c.toks.length (-1)
def allL (c : C) : List Bs := if 0 < c.heads.length then c.rels else List.replicate c.toks.length []
def inR (b e : Int) (x : Reg) : Bool := decide (b ≤ x.b) && decide (x.e ≤ e)
def inN (b e : Int) (x : Nod) : Bool := decide (b ≤ x.b) && decide (x.e ≤ e)
def cutL {α : Type} (b e : Int) (l : List α) : List α := (l.drop b.toNat).take (e - b).toNat
def doc (c : C) (t : Txt) : C where
 attrs := c.attrs
 toks := cutL t.b t.e c.toks
 texts := [mvT (-t.b) t]
 regs := (c.regs.filter (inR t.b t.e)).map (mvR (-t.b))
 nods := (c.nods.filter (inN t.b t.e)).map (mvN (-t.b) (-((c.nods.filter fun x => decide (x.b < t.b)).length : Int)))
 heads := if bare (cutL t.b t.e c.heads) (cutL t.b t.e c.rels) = true then [] else (cutL t.b t.e c.heads).map (mvH (-t.b))
 rels := if bare (cutL t.b t.e c.heads) (cutL t.b t.e c.rels) = true then [] else cutL t.b t.e c.rels
def ext (c : C) (i : Int) : C × Nat :=
 if valid c = false then (nil, 1)
 else if i < 0 ∨ (c.texts.length : Int) ≤ i then (nil, 8)
 else match c.texts[i.toNat]? with | none => (nil, 8) | some t => (doc c t, 0)
end Go.Proofs.YtgkdaebiefhgdaaGreatDoor.Cor
