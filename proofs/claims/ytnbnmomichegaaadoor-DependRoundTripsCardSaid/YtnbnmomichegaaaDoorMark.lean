/-
  Plain law of chapter 4, no program: names, escapes, tags. No conditions.
-/
import Derived.Test.YtnbnmomichegaaaDoorFeat
namespace Go.Proofs.YtnbnmomichegaaaDoor.Tagp
open Utf
open Feat (Bs lt lt_irrefl lt_trans lt_tri lt_asymm)

/-- A byte that begins a name; one that goes on. -/
def beg (c : UInt8) : Bool := (decide (65 ≤ c.toNat) && decide (c.toNat ≤ 90) || decide (97 ≤ c.toNat) && decide (c.toNat ≤ 122)) || decide (c.toNat = 95)
def dig (c : UInt8) : Bool := decide (48 ≤ c.toNat) && decide (c.toNat ≤ 57)
def gon (c : UInt8) : Bool := (beg c || dig c) || decide (c.toNat = 45)
def okName (s : Bs) : Bool := decide (1 ≤ s.length) && decide (s.length ≤ 32) && s.head?.any beg && s.all gon

/-- The escaped form. -/
def escB (c : UInt8) : Bs :=
  if c = 38 then [38, 97, 109, 112, 59] else if c = 60 then [38, 108, 116, 59] else if c = 62 then [38, 103, 116, 59] else if c = 34 then [38, 113, 117, 111, 116, 59] else [c]
def esc (s : Bs) : Bs := s.flatMap escB
theorem esc_append (s t : Bs) : esc (s ++ t) = esc s ++ esc t := by simp [esc]

/-- The digits of a number escape: at most seven; their number. -/
def digs (s : Bs) : Bs := ((s.drop 2).take 7).takeWhile dig
def val (l : Bs) : Nat := l.foldl (fun n c => 10 * n + (c.toNat - 48)) 0
/-- The escape with which a text begins: its code point and its length; length 0: none. -/
def esc1 (s : Bs) : Nat × Nat :=
  if [38, 97, 109, 112, 59].isPrefixOf s then (38, 5)
  else if [38, 108, 116, 59].isPrefixOf s then (60, 4)
  else if [38, 103, 116, 59].isPrefixOf s then (62, 4)
  else if [38, 113, 117, 111, 116, 59].isPrefixOf s then (34, 6)
  else if [38, 35].isPrefixOf s then
    let i := 2 + (digs s).length
    let n := val (digs s)
    if i = 2 ∨ s[i]? ≠ some 59 ∨ (s[2]? = some 48 ∧ 3 < i) ∨ (55296 ≤ n ∧ n ≤ 57343) ∨ 1114111 < n then (0, 0) else (n, i + 1)
  else (0, 0)

/-- A code point's bytes. -/
def bytesOf (b : ByteArray) : Bs := b.data.toList
def enc (n : Nat) : Bs := bytesOf (Utf8.encode (n : Int))
theorem bytesOf_back (b : ByteArray) : Value.string b = Value.string ⟨(bytesOf b).toArray⟩ := by unfold bytesOf; rw [Array.toArray_toList]
theorem bytesOf_len (b : ByteArray) : (bytesOf b).length = b.size := by unfold bytesOf; rw [Array.length_toList]; rfl
theorem enc_38 : enc 38 = [38] := by decide
theorem enc_60 : enc 60 = [60] := by decide
theorem enc_62 : enc 62 = [62] := by decide
theorem enc_34 : enc 34 = [34] := by decide

/-- What a text stands for from place i on, after k bytes that are done with; or the place where no escape begins. -/
def un : Bs → Nat → Nat → Except Nat Bs
  | [], _, _ => .ok []
  | _ :: r, k + 1, i => un r k (i + 1)
  | c :: r, 0, i =>
    if c = 38 then
      if (esc1 (c :: r)).2 = 0 then .error i else (un r ((esc1 (c :: r)).2 - 1) (i + 1)).map (enc (esc1 (c :: r)).1 ++ ·)
    else (un r 0 (i + 1)).map (c :: ·)
def unesc (s : Bs) : Bs × Nat × Nat :=
  match un s 0 0 with
  | .ok v => (v, 0, 0)
  | .error i => ([], i, 3)

theorem un_skip : ∀ (s : Bs) (k i : Nat), k ≤ s.length → un s k i = un (s.drop k) 0 (i + k)
  | s, 0, i, _ => by simp
  | [], k + 1, i, h => by simp at h
  | c :: r, k + 1, i, h => by
    rw [un, List.drop_succ_cons, un_skip r k (i + 1) (by simpa using h)]
    congr 1
    omega
theorem map_map {α β γ ε : Type} (x : Except ε α) (f : α → β) (g : β → γ) : (x.map f).map g = x.map fun a => g (f a) := by cases x <;> rfl

theorem prefix_len {p s : Bs} (h : p.isPrefixOf s = true) : p.length ≤ s.length := (List.isPrefixOf_iff_prefix.1 h).length_le
theorem esc1_len (s : Bs) : (esc1 s).2 ≤ s.length := by
  unfold esc1
  split
  · exact prefix_len (by assumption)
  · split
    · exact prefix_len (by assumption)
    · split
      · exact prefix_len (by assumption)
      · split
        · exact prefix_len (by assumption)
        · split
          · simp only
            split
            · simp
            · rename_i h
              simp only [not_or] at h
              have h2 : s[2 + (digs s).length]? = some 59 := by simpa using h.2.1
              have := (List.getElem?_eq_some_iff.1 h2).1
              simp only
              omega
          · simp

theorem un_at (s : Bs) (i : Nat) (hi : i < s.length) (h : s[i] ≠ 38) : un (s.drop i) 0 i = (un (s.drop (i + 1)) 0 (i + 1)).map (s[i] :: ·) := by
  rw [List.drop_eq_getElem_cons hi, un, if_neg h]
theorem un_esc (s : Bs) (i : Nat) (hi : i < s.length) (h : s[i] = 38) (hn : (esc1 (s.drop i)).2 ≠ 0) :
    un (s.drop i) 0 i = (un (s.drop (i + (esc1 (s.drop i)).2)) 0 (i + (esc1 (s.drop i)).2)).map (enc (esc1 (s.drop i)).1 ++ ·) := by
  have hl := esc1_len (s.drop i)
  have e := List.drop_eq_getElem_cons hi
  rw [List.length_drop] at hl
  have e1 : i + 1 + ((esc1 (s.drop i)).2 - 1) = i + (esc1 (s.drop i)).2 := by omega
  conv => lhs; rw [e, un, if_pos h]
  rw [← e, if_neg hn, un_skip _ _ _ (by rw [List.length_drop]; omega), List.drop_drop, e1]
theorem un_bad (s : Bs) (i : Nat) (hi : i < s.length) (h : s[i] = 38) (hn : (esc1 (s.drop i)).2 = 0) : un (s.drop i) 0 i = .error i := by
  have e := List.drop_eq_getElem_cons hi
  rw [e, un, if_pos h, ← e, if_pos hn]

/-! Pairs and tags. -/
abbrev KV := Bs × Bs
def hasK (l : List KV) (n : Bs) : Bool := l.any fun p => p.1 == n
def insP (p : KV) : List KV → List KV
  | [] => [p]
  | q :: r => if lt p.1 q.1 = true then p :: q :: r else q :: insP p r
def sortP (l : List KV) : List KV := l.foldl (fun m p => insP p m) []

def chkKeys : List KV → List KV → Nat
  | _, [] => 0
  | b, p :: r => if okName p.1 = false then 4 else if hasK b p.1 = true then 5 else if vErr p.2 ≠ 0 then vErr p.2 else chkKeys (b ++ [p]) r
def chk (close : Bool) (name : Bs) (keys : List KV) : Nat :=
  if okName name = false then 4 else if (close = true ∧ 0 < keys.length) ∨ 8 < keys.length then 15 else chkKeys [] keys
def keyT (p : KV) : Bs := [32] ++ p.1 ++ [61, 34] ++ esc p.2 ++ [34]
def fmtT (close : Bool) (name : Bs) (keys : List KV) : Bs × Nat :=
  if chk close name keys ≠ 0 then ([], chk close name keys)
  else if close = true then ([60, 47] ++ name ++ [62], 0)
  else ([60] ++ name ++ (sortP keys).flatMap keyT ++ [62], 0)

/-! Reading a tag: at a place of the text; a fault is a place and a number. -/
abbrev R (α : Type) := Except (Nat × Nat) α
def run (p : UInt8 → Bool) (s : Bs) (i : Nat) : Nat := i + ((s.drop i).takeWhile p).length
def eatP (s : Bs) (c : UInt8) (i : Nat) : R Nat := if s[i]? = some c then .ok (i + 1) else .error (i, 3)
def nameP (s : Bs) (i : Nat) : R (Bs × Nat) :=
  if s[i]?.any beg = true then
    if 32 < run gon s i - i then .error (i, 2) else .ok ((s.drop i).take (run gon s i - i), run gon s i)
  else .error (i, 3)
def plainCh (c : UInt8) : Bool := c != 34 && c != 60 && c != 62
def valueP (s : Bs) (i : Nat) : R (Bs × Nat) :=
  match eatP s 34 (run plainCh s i) with
  | .error e => .error e
  | .ok j =>
    match unesc ((s.drop i).take (run plainCh s i - i)) with
    | (v, at', e) => if e ≠ 0 then .error (i + at', e) else if vErr v ≠ 0 then .error (i, vErr v) else .ok (v, j)
def keyP (s : Bs) (before : List KV) (i : Nat) : R (KV × Nat) :=
  match nameP s i with
  | .error e => .error e
  | .ok (n, j) =>
    if hasK before n = true then .error (i, 5)
    else if before.length = 8 then .error (i, 2)
    else match eatP s 61 j with
    | .error e => .error e
    | .ok j => match eatP s 34 j with
      | .error e => .error e
      | .ok j => match valueP s j with
        | .error e => .error e
        | .ok (v, j) => .ok ((n, v), j)
def keysP (s : Bs) : Nat → List KV → Nat → R (List KV × Nat)
  | 0, acc, i => .ok (acc, i)
  | k + 1, acc, i =>
    if s[i]? = some 32 then
      match keyP s acc (run (· == 32) s i) with
      | .error e => .error e
      | .ok (p, j) => keysP s k (acc ++ [p]) j
    else .ok (acc, i)
def tagP (s : Bs) : R (Bool × Bs × List KV) :=
  match eatP s 60 0 with
  | .error e => .error e
  | .ok _ =>
    let cl := s[1]? == some 47
    match nameP s (if cl = true then 2 else 1) with
    | .error e => .error e
    | .ok (n, i) =>
      match (if cl = true then .ok ([], i) else keysP s 9 [] i) with
      | .error e => .error e
      | .ok (l, i) =>
        match eatP s 62 i with
        | .error e => .error e
        | .ok i => if i < s.length then .error (i, 3) else .ok (cl, n, sortP l)
end Go.Proofs.YtnbnmomichegaaaDoor.Tagp
