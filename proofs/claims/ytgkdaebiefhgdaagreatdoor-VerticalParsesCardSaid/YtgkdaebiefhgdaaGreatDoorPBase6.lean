/-
 Chapter 6: words for memory, UTF-8, names, values, features, heads: the texts of chapters 4, 5 and 9 that it needs, one behind the other. No conditions.
-/
import GoSem.Core.Utf8
import Derived.WalkKit
import Derived.Lib.Hide
import Derived.Deep.Draws
import Derived.ProofKit
import Derived.Below
import Derived.ChangeSame
import Derived.Maps.AppendAt
import Derived.Deep.AppendLies
import Derived.RegionTactic
import Derived.OwnWalk
import Derived.Test.YtgkdaebiefhgdaaGreatDoorProg
import Derived.Laws.OwnMore
import GoSem.Op.String
import Derived.RangeFuncNested
import Derived.RangeFuncLeaves
import Derived.Shelf.Abstract
import Derived.RangeFuncBound
import Derived.RangeFuncCalls
import Derived.Shelf.RegionOpen
import Derived.OwnWalkIn
import Derived.TacticsInMore
import Derived.LoopNIn
import Derived.LoopIn
import Derived.Lib.OthersKept
import Derived.WalkSpells
import Derived.WalkLawsBesides
import Derived.BigQuiet
import Derived.Deep.QuietTactic
import Derived.Laws.IdiomStrings
import Derived.Lib.AppendStr
import Derived.Laws.BytesArg
import Derived.Laws.Concat
import Derived.Laws.CopyOwn
import Derived.Deep.RegionLaw
namespace Go.Proofs.YtgkdaebiefhgdaaGreatDoor.Utf
open Go
theorem get_eq (s : ByteArray) (i : Nat) (h : i < s.size) : s.get! i = s.data.toList[i]'(by simpa using h) := by
 simp [ByteArray.get!, getElem!_pos, h]

def dec (l : List UInt8) : Nat × Nat := Utf8.decode ⟨l.toArray⟩ 0

def dec4 (b0 : Nat) (b1 b2 b3 : Option Nat) : Nat × Nat :=
 let c (o : Option Nat) : Bool := o.any (· / 64 == 2)
 let v (o : Option Nat) : Nat := (o.getD 0) % 64
 if b0 < 0x80 then (b0, 1)
 else if b0 / 32 == 6 && c b1 then
  if b0 % 32 * 64 + v b1 ≥ 0x80 then (b0 % 32 * 64 + v b1, 2) else (Utf8.runeError, 1)
 else if b0 / 16 == 14 && c b1 && c b2 then
  if b0 % 16 * 4096 + v b1 * 64 + v b2 ≥ 0x800 && Utf8.valid ((b0 % 16 * 4096 + v b1 * 64 + v b2 : Nat) : Int) then (b0 % 16 * 4096 + v b1 * 64 + v b2, 3) else (Utf8.runeError, 1)
 else if b0 / 8 == 30 && c b1 && c b2 && c b3 then
  if b0 % 8 * 262144 + v b1 * 4096 + v b2 * 64 + v b3 ≥ 0x10000 && Utf8.valid ((b0 % 8 * 262144 + v b1 * 4096 + v b2 * 64 + v b3 : Nat) : Int) then (b0 % 8 * 262144 + v b1 * 4096 + v b2 * 64 + v b3, 4) else (Utf8.runeError, 1)
 else (Utf8.runeError, 1)

def byte (l : List UInt8) (k : Nat) : Option Nat := (l[k]?).map UInt8.toNat

theorem decode_eq (s : ByteArray) (p : Nat) (h : p < s.size) :
  Utf8.decode s p = dec4 (s.data.toList[p]'(by simpa using h)).toNat (byte s.data.toList (p + 1)) (byte s.data.toList (p + 2)) (byte s.data.toList (p + 3)) := by
 have hl : s.data.toList.length = s.size := by simp
 have hy : ∀ k, k < s.size → byte s.data.toList k = some (s.get! k).toNat := by
  intro k hk
  have hk' : k < s.data.toList.length := by omega
  rw [get_eq _ _ hk]
  unfold byte
  rw [List.getElem?_eq_getElem hk']; rfl
 have hn : ∀ k, ¬ k < s.size → byte s.data.toList k = none := by
  intro k hk
  unfold byte
  rw [List.getElem?_eq_none (by omega)]; rfl
 have h0 : (s.data.toList[p]'(by simpa using h)).toNat = (s.get! (p + 0)).toNat := by
  rw [get_eq _ _ (by simpa using h)]; rfl
 rw [h0]
 unfold Utf8.decode dec4
 by_cases h1 : p + 1 < s.size
 ·by_cases h2 : p + 2 < s.size
  ·by_cases h3 : p + 3 < s.size
   ·rw [hy _ h1, hy _ h2, hy _ h3]; simp [h1, h2, h3]
   ·rw [hy _ h1, hy _ h2, hn _ h3]; simp [h1, h2, h3]
  ·rw [hy _ h1, hn _ h2, hn _ (by omega)]; simp [h1, h2]
 ·rw [hn _ h1, hn _ (show ¬ p + 2 < s.size by omega), hn _ (show ¬ p + 3 < s.size by omega)]; simp [h1]

theorem dec_cons (b : UInt8) (l : List UInt8) : dec (b :: l) = dec4 b.toNat (byte l 0) (byte l 1) (byte l 2) := by
 unfold dec
 rw [decode_eq _ _ (by show 0 < (b :: l).toArray.size; simp)]
 simp [byte]

theorem decode_drop (s : ByteArray) (p : Nat) (h : p < s.size) : Utf8.decode s p = dec (s.data.toList.drop p) := by
 have hp : p < s.data.toList.length := by simpa using h
 rw [decode_eq s p h, List.drop_eq_getElem_cons hp, dec_cons]
 simp [byte, List.getElem?_drop, Nat.add_comm, Nat.add_left_comm]

def okU (u : Nat × Nat) : Bool := u.1 != 0xFFFD || u.2 == 3

theorem dec4_valid (b0 : Nat) (o1 o2 o3 : Option Nat) (hb : ¬ b0 < 128) (h : okU (dec4 b0 o1 o2 o3) = true) :
  128 ≤ (dec4 b0 o1 o2 o3).1 ∧
  ((∃ v1, o1 = some v1 ∧ v1 / 64 = 2 ∧ (dec4 b0 o1 o2 o3).2 = 2 ∧ ∀ p2 p3, dec4 b0 o1 p2 p3 = dec4 b0 o1 o2 o3) ∨
   (∃ v1 v2, o1 = some v1 ∧ v1 / 64 = 2 ∧ o2 = some v2 ∧ v2 / 64 = 2 ∧ (dec4 b0 o1 o2 o3).2 = 3 ∧ ∀ p3, dec4 b0 o1 o2 p3 = dec4 b0 o1 o2 o3) ∨
   (∃ v1 v2 v3, o1 = some v1 ∧ v1 / 64 = 2 ∧ o2 = some v2 ∧ v2 / 64 = 2 ∧ o3 = some v3 ∧ v3 / 64 = 2 ∧ (dec4 b0 o1 o2 o3).2 = 4)) := by
 have e1 : okU (Utf8.runeError, 1) = false := by decide
 have key : ∀ o : Option Nat, o.any (· / 64 == 2) = true → ∃ v, o = some v ∧ v / 64 = 2 := by
  intro o ho; cases o with
  | none => simp at ho
  | some v => exact ⟨v, rfl, by simpa using ho⟩
 by_cases c1 : b0 / 32 == 6 && o1.any (· / 64 == 2)
 ·have hx : dec4 b0 o1 o2 o3 = if b0 % 32 * 64 + (o1.getD 0) % 64 ≥ 0x80 then (b0 % 32 * 64 + (o1.getD 0) % 64, 2) else (Utf8.runeError, 1) := by
   unfold dec4; rw [if_neg hb, if_pos c1]
  have hy : ∀ p2 p3, dec4 b0 o1 p2 p3 = dec4 b0 o1 o2 o3 := by
   intro p2 p3; rw [hx]; unfold dec4; rw [if_neg hb, if_pos c1]
  rw [hx] at h hy ⊢
  split at h
  ·rename_i hge
   rw [if_pos hge] at hy ⊢
   simp only [Bool.and_eq_true] at c1
   obtain ⟨v, hv1, hv2⟩ := key o1 c1.2
   exact ⟨hge, .inl ⟨v, hv1, hv2, rfl, hy⟩⟩
  ·rw [e1] at h; cases h
 ·by_cases c2 : b0 / 16 == 14 && o1.any (· / 64 == 2) && o2.any (· / 64 == 2)
  ·have hx : ∀ p3, dec4 b0 o1 o2 p3 = if b0 % 16 * 4096 + (o1.getD 0) % 64 * 64 + (o2.getD 0) % 64 ≥ 0x800 && Utf8.valid ((b0 % 16 * 4096 + (o1.getD 0) % 64 * 64 + (o2.getD 0) % 64 : Nat) : Int) then (b0 % 16 * 4096 + (o1.getD 0) % 64 * 64 + (o2.getD 0) % 64, 3) else (Utf8.runeError, 1) := by
    intro p3; unfold dec4; rw [if_neg hb, if_neg c1, if_pos c2]
   have hy : ∀ p3, dec4 b0 o1 o2 p3 = dec4 b0 o1 o2 o3 := by
    intro p3; rw [hx, hx]
   rw [hx] at h hy ⊢
   split at h
   ·rename_i hge
    rw [if_pos hge] at hy ⊢
    simp only [Bool.and_eq_true] at c2
    obtain ⟨v, hv1, hv2⟩ := key o1 c2.1.2
    obtain ⟨v', hv1', hv2'⟩ := key o2 c2.2
    simp only [Bool.and_eq_true, decide_eq_true_eq] at hge
    exact ⟨by omega, .inr (.inl ⟨v, v', hv1, hv2, hv1', hv2', rfl, hy⟩)⟩
   ·rw [e1] at h; cases h
  ·by_cases c3 : b0 / 8 == 30 && o1.any (· / 64 == 2) && o2.any (· / 64 == 2) && o3.any (· / 64 == 2)
   ·have hx : dec4 b0 o1 o2 o3 = if b0 % 8 * 262144 + (o1.getD 0) % 64 * 4096 + (o2.getD 0) % 64 * 64 + (o3.getD 0) % 64 ≥ 0x10000 && Utf8.valid ((b0 % 8 * 262144 + (o1.getD 0) % 64 * 4096 + (o2.getD 0) % 64 * 64 + (o3.getD 0) % 64 : Nat) : Int) then (b0 % 8 * 262144 + (o1.getD 0) % 64 * 4096 + (o2.getD 0) % 64 * 64 + (o3.getD 0) % 64, 4) else (Utf8.runeError, 1) := by
     unfold dec4; rw [if_neg hb, if_neg c1, if_neg c2, if_pos c3]
    rw [hx] at h ⊢
    split at h
    ·rename_i hge
     rw [if_pos hge]
     simp only [Bool.and_eq_true] at c3
     obtain ⟨v, hv1, hv2⟩ := key o1 c3.1.1.2
     obtain ⟨v', hv1', hv2'⟩ := key o2 c3.1.2
     obtain ⟨v'', hv1'', hv2''⟩ := key o3 c3.2
     simp only [Bool.and_eq_true, decide_eq_true_eq] at hge
     exact ⟨by omega, .inr (.inr ⟨v, v', v'', hv1, hv2, hv1', hv2', hv1'', hv2'', rfl⟩)⟩
    ·rw [e1] at h; cases h
   ·have hx : dec4 b0 o1 o2 o3 = (Utf8.runeError, 1) := by
     unfold dec4; rw [if_neg hb, if_neg c1, if_neg c2, if_neg c3]
    rw [hx, e1] at h; cases h

theorem byte_some {l : List UInt8} {k v : Nat} (h : byte l k = some v) : ∃ hk : k < l.length, (l[k]'hk).toNat = v := by
 unfold byte at h
 cases hl : l[k]? with
 | none => rw [hl] at h; cases h
 | some c =>
  obtain ⟨hk, hc⟩ := List.getElem?_eq_some_iff.1 hl
  rw [hl] at h
  exact ⟨hk, by rw [hc]; simpa using h⟩

theorem dec_valid (b : UInt8) (l : List UInt8) (h : okU (dec (b :: l)) = true) :
  (b.toNat < 128 ∧ dec (b :: l) = (b.toNat, 1)) ∨
  (128 ≤ b.toNat ∧ ∃ (x : List UInt8) (m : List UInt8), l = x ++ m ∧ 1 ≤ x.length ∧ (∀ c ∈ x, 128 ≤ c.toNat) ∧ 128 ≤ (dec (b :: l)).1 ∧
   (dec (b :: l)).2 = 1 + x.length ∧ ∀ m', dec (b :: (x ++ m')) = dec (b :: l)) := by
 by_cases hb : b.toNat < 128
 ·left; refine ⟨hb, ?_⟩; rw [dec_cons]; unfold dec4; simp [hb]
 ·right
  refine ⟨by omega, ?_⟩
  rw [dec_cons] at h ⊢
  obtain ⟨h1, h2⟩ := dec4_valid _ _ _ _ hb h
  rcases h2 with ⟨v1, e1, f1, hw, hd⟩ | ⟨v1, v2, e1, f1, e2, f2, hw, hd⟩ | ⟨v1, v2, v3, e1, f1, e2, f2, e3, f3, hw⟩
  ·obtain ⟨hk, hv⟩ := byte_some e1
   match l, hk, hv with
   | c1 :: t, _, hv =>
    refine ⟨[c1], t, rfl, by simp, ?_, h1, by simpa using hw, ?_⟩
    ·intro c hc; simp at hc; subst hc; simp at hv; omega
    ·intro m'
     rw [dec_cons, ← hd (byte (c1 :: m') 1) (byte (c1 :: m') 2)]
     rfl
  ·obtain ⟨hk, hv⟩ := byte_some e1
   obtain ⟨hk2, hv2⟩ := byte_some e2
   match l, hk, hv, hk2, hv2 with
   | c1 :: c2 :: t, _, hv, _, hv2 =>
    refine ⟨[c1, c2], t, rfl, by simp, ?_, h1, by simpa using hw, ?_⟩
    ·intro c hc; simp at hc hv hv2; rcases hc with rfl | rfl <;> omega
    ·intro m'
     rw [dec_cons, ← hd (byte (c1 :: c2 :: m') 2)]
     rfl
  ·obtain ⟨hk, hv⟩ := byte_some e1
   obtain ⟨hk2, hv2⟩ := byte_some e2
   obtain ⟨hk3, hv3⟩ := byte_some e3
   match l, hk, hv, hk2, hv2, hk3, hv3 with
   | c1 :: c2 :: c3 :: t, _, hv, _, hv2, _, hv3 =>
    refine ⟨[c1, c2, c3], t, rfl, by simp, ?_, h1, by simpa using hw, ?_⟩
    ·intro c hc; simp at hc hv hv2 hv3; rcases hc with rfl | rfl | rfl <;> omega
    ·intro m'
     rw [dec_cons]
     rfl

theorem dec_width (b : UInt8) (l : List UInt8) : 1 ≤ (dec (b :: l)).2 ∧ (dec (b :: l)).2 ≤ l.length + 1 := by
 by_cases h : okU (dec (b :: l)) = true
 ·rcases dec_valid b l h with ⟨_, e⟩ | ⟨_, x, m, rfl, hx, _, _, hw, _⟩
  ·rw [e]; simp
  ·rw [hw]; simp; omega
 ·have : (dec (b :: l)).2 = 1 ∨ okU (dec (b :: l)) = true := by
   by_cases hb : b.toNat < 128
   ·left; rw [dec_cons]; unfold dec4; simp [hb]
   ·rw [dec_cons]
    unfold dec4
    simp only [hb, if_false]
    repeat' split
    all_goals first | (left; rfl) | (right; simp [okU]; done) | (right; unfold okU; simp; omega) | (rename_i hge; right; simp only [ge_iff_le, Bool.and_eq_true, decide_eq_true_eq] at hge; unfold okU; simp; omega)
  rcases this with h1 | h1
  ·rw [h1]; simp
  ·exact absurd h1 h

def okF : Nat → List UInt8 → Bool
 | 0, _ => true
 | _ + 1, [] => true
 | n + 1, b :: l => okU (dec (b :: l)) && okF n ((b :: l).drop (dec (b :: l)).2)
def ok (l : List UInt8) : Bool := okF l.length l

theorem okF_enough : ∀ (n : Nat) (l : List UInt8), l.length ≤ n → okF n l = ok l := by
 intro n
 induction n using Nat.strongRecOn with
 | _ n ih =>
  intro l hl
  unfold ok
  match n, l, hl with
  | 0, [], _ => rfl
  | 0, _ :: _, h => simp at h
  | n + 1, [], _ => rfl
  | n + 1, b :: l, h =>
   have hw := dec_width b l
   simp only [List.length_cons, okF]
   have h1 : ((b :: l).drop (dec (b :: l)).2).length ≤ l.length := by simp; omega
   have h2 : l.length ≤ n := by simpa using h
   rw [ih n (by omega) _ (by omega)]
   by_cases hn : l.length < n + 1
   ·rw [ih l.length hn _ h1]
   ·omega

theorem ok_cons (b : UInt8) (l : List UInt8) : ok (b :: l) = (okU (dec (b :: l)) && ok ((b :: l).drop (dec (b :: l)).2)) := by
 have hw := dec_width b l
 show okF (l.length + 1) (b :: l) = _
 rw [okF, okF_enough _ _ (by simp; omega)]
theorem ok_ind {C : List UInt8 → Prop} (h0 : C [])
  (h1 : ∀ b l, b.toNat < 128 → ok l = true → C l → C (b :: l))
  (h2 : ∀ b x m, 128 ≤ b.toNat → 1 ≤ x.length → (∀ c ∈ x, 128 ≤ c.toNat) → (∀ m', okU (dec (b :: (x ++ m'))) = true ∧ 128 ≤ (dec (b :: (x ++ m'))).1 ∧ (dec (b :: (x ++ m'))).2 = 1 + x.length) → ok m = true → C m → C (b :: (x ++ m)))
  (l : List UInt8) (h : ok l = true) : C l := by
 obtain ⟨n, hn⟩ : ∃ n, l.length = n := ⟨_, rfl⟩
 induction n using Nat.strongRecOn generalizing l with
 | _ n ih =>
  cases l with
  | nil => exact h0
  | cons b l =>
   have hu := ok_cons b l
   rw [h] at hu
   have hu := (Bool.and_eq_true _ _).mp hu.symm
   rcases dec_valid b l hu.1 with ⟨ha, e⟩ | ⟨hb, x, m, rfl, hx, hc, hr, hw, hd⟩
   ·have h' : ok l = true := by have := hu.2; rw [e] at this; simpa using this
    exact h1 b l ha h' (ih l.length (by simp at hn; omega) l h' rfl)
   ·have h' : ok m = true := by
     have := hu.2; rw [hw] at this
     rw [Nat.add_comm, List.drop_succ_cons, List.drop_left] at this
     exact this
    refine h2 b x m hb hx hc (fun m' => ?_) h' (ih m.length (by simp at hn; omega) m h' rfl)
    rw [hd m']; exact ⟨hu.1, hr, hw⟩

def unF : Nat → Nat → List UInt8 → List (Nat × Nat × Nat)
 | 0, _, _ => []
 | _ + 1, _, [] => []
 | n + 1, p, b :: l => ((dec (b :: l)).1, p, (dec (b :: l)).2) :: unF n (p + (dec (b :: l)).2) ((b :: l).drop (dec (b :: l)).2)
def un (p : Nat) (l : List UInt8) : List (Nat × Nat × Nat) := unF l.length p l

theorem unF_enough : ∀ (n p : Nat) (l : List UInt8), l.length ≤ n → unF n p l = un p l := by
 intro n
 induction n using Nat.strongRecOn with
 | _ n ih =>
  intro p l hl
  unfold un
  match n, l, hl with
  | 0, [], _ => rfl
  | 0, _ :: _, h => simp at h
  | n + 1, [], _ => rfl
  | n + 1, b :: l, h =>
   have hw := dec_width b l
   simp only [List.length_cons, unF]
   have h1 : ((b :: l).drop (dec (b :: l)).2).length ≤ l.length := by simp; omega
   have h2 : l.length ≤ n := by simpa using h
   rw [ih n (by omega) _ _ (by omega)]
   by_cases hn : l.length < n + 1
   ·rw [ih l.length hn _ _ h1]
   ·omega
theorem un_nil (p : Nat) : un p [] = [] := rfl
theorem un_cons (p : Nat) (b : UInt8) (l : List UInt8) : un p (b :: l) = ((dec (b :: l)).1, p, (dec (b :: l)).2) :: un (p + (dec (b :: l)).2) ((b :: l).drop (dec (b :: l)).2) := by
 have hw := dec_width b l
 show unF (l.length + 1) p (b :: l) = _
 rw [unF, unF_enough _ _ _ (by simp; omega)]

def okT (u : Nat × Nat × Nat) : Bool := u.1 != 0xFFFD || u.2.2 == 3

theorem un_ind {C : Nat → List UInt8 → Prop} (h0 : ∀ p, C p [])
  (h1 : ∀ p b l, C (p + (dec (b :: l)).2) ((b :: l).drop (dec (b :: l)).2) → C p (b :: l)) (p : Nat) (l : List UInt8) : C p l := by
 obtain ⟨n, hn⟩ : ∃ n, l.length = n := ⟨_, rfl⟩
 induction n using Nat.strongRecOn generalizing l p with
 | _ n ih =>
  cases l with
  | nil => exact h0 p
  | cons b l =>
   have hw := dec_width b l
   exact h1 p b l (ih _ (by simp at hn ⊢; omega) _ _ rfl)

theorem un_ok (p : Nat) (l : List UInt8) : (un p l).all okT = ok l := by
 refine un_ind (C := fun p l => (un p l).all okT = ok l) (fun _ => rfl) ?_ p l
 intro p b l h
 rw [un_cons, ok_cons, List.all_cons, h]; rfl

def ctlT (r : Nat) : Bool := decide (r ≤ 31) || r == 127
def ctl (l : List UInt8) : Bool := (un 0 l).any fun u => ctlT u.1
def ctlB (l : List UInt8) : Bool := l.any fun c => ctlT c.toNat

theorem un_any_p (f : Nat → Bool) (p q : Nat) (l : List UInt8) : ((un p l).any fun u => f u.1) = ((un q l).any fun u => f u.1) := by
 have := un_ind (C := fun p l => ∀ q, ((un p l).any fun u => f u.1) = ((un q l).any fun u => f u.1)) (fun _ _ => rfl) (by
  intro p b l h q
  rw [un_cons, un_cons, List.any_cons, List.any_cons, h (q + (dec (b :: l)).2)]) p l
 exact this q
theorem ctl_cons (b : UInt8) (l : List UInt8) : ctl (b :: l) = (ctlT (dec (b :: l)).1 || ctl ((b :: l).drop (dec (b :: l)).2)) := by
 unfold ctl
 rw [un_cons, List.any_cons, un_any_p ctlT _ 0]

theorem ctl_eq (l : List UInt8) (h : ok l = true) : ctl l = ctlB l := by
 refine ok_ind (C := fun l => ctl l = ctlB l) rfl ?_ ?_ l h
 ·intro b l hb _ ih
  have e : dec (b :: l) = (b.toNat, 1) := by rw [dec_cons]; unfold dec4; simp [hb]
  rw [ctl_cons, e]
  show (ctlT b.toNat || ctl l) = _
  rw [ih]; rfl
 ·intro b x m hb _ hx hd _ ih
  obtain ⟨_, h2, h3⟩ := hd m
  rw [ctl_cons, h3, Nat.add_comm, List.drop_succ_cons, List.drop_left, ih]
  have n1 : ctlT (dec (b :: (x ++ m))).1 = false := by unfold ctlT; simp; omega
  have n2 : ctlB (b :: (x ++ m)) = ctlB m := by
   unfold ctlB
   rw [List.any_cons, List.any_append]
   have : ctlT b.toNat = false := by unfold ctlT; simp; omega
   have hx' : (x.any fun c => ctlT c.toNat) = false := by
    rw [List.any_eq_false]; intro c hc; have := hx c hc; unfold ctlT; simp; omega
   rw [this, hx']; rfl
  rw [n1, n2]; rfl

def vErr (l : List UInt8) : Nat := if 120 < l.length then 2 else if ok l then (if ctlB l then 14 else 0) else 7

theorem vErr_zero (l : List UInt8) : vErr l = 0 ↔ l.length ≤ 120 ∧ ok l = true ∧ ctlB l = false := by
 unfold vErr
 by_cases h1 : 120 < l.length
 ·simp [h1]; omega
 ·cases h2 : ok l <;> cases h3 : ctlB l <;> simp [h1] <;> omega
end Go.Proofs.YtgkdaebiefhgdaaGreatDoor.Utf
namespace Go.Proofs.YtgkdaebiefhgdaaGreatDoor
open Go.RowKit
abbrev str (l : List UInt8) : Value := .string ⟨l.toArray⟩
theorem ret_bool {a b : Bool} (h : a = b) : Ending.returned (.bool a) = .returned (.bool b) := by rw [h]
theorem ret_int {k : IntKind} {a b : Int} (h : a = b) : Ending.returned (.int k a) = .returned (.int k b) := by rw [h]

def Blk (w : World) (g : Nat) (t : TypeId) (cs : Array Value) : Prop := w.heap[g]? = some (.cells cs t (0, 0))
theorem Blk.lt {w : World} {g : Nat} {t : TypeId} {cs : Array Value} (h : Blk w g t cs) : g < w.heap.size := (Array.getElem?_eq_some_iff.1 h).1
theorem Blk.cell {w : World} {g : Nat} {t : TypeId} {cs : Array Value} (h : Blk w g t cs) (i : Nat) : w.cell? ⟨g, i, none⟩ = cs[i]? := by
 unfold Blk at h; simp [World.cell?, h]
theorem Blk.free {w : World} {g : Nat} {t : TypeId} {cs : Array Value} (h : Blk w g t cs) (i : Nat) : w.frozen? ⟨g, i, none⟩ = false := by
 unfold Blk at h; simp [World.frozen?, h]

theorem Blk.set_ {w : World} {g : Nat} {t : TypeId} {cs : Array Value} (h : Blk w g t cs) (i : Nat) (u : Value) : Blk (w.setCell ⟨g, i, none⟩ u) g t (cs.setIfInBounds i u) := by
 unfold Blk at h ⊢
 simp [World.setCell, Array.getElem?_modify, h]
theorem Blk.new (w : World) (t : TypeId) (cs : Array Value) : Blk (w.alloc (.cells cs t)) w.heap.size t cs := heap_alloc_new w _
theorem Blk.alloc {w : World} {g : Nat} {t : TypeId} {cs : Array Value} (h : Blk w g t cs) (o : Obj) : Blk (w.alloc o) g t cs := (Below.heap_alloc w o g h.lt).trans h
theorem Blk.four {w : World} {g : Nat} {t : TypeId} {x y z : Value} (h : Blk w g t #[x, y, z]) (v r a e : Value) :
  Blk ((((w.setCell ⟨g, 2, none⟩ v).setCell ⟨g, 0, none⟩ r).setCell ⟨g, 1, none⟩ a).setCell ⟨g, 2, none⟩ e) g t #[r, a, e] :=
 (((h.set_ 2 v).set_ 0 r).set_ 1 a).set_ 2 e
theorem below_three (w : World) (g : Nat) (r a e : Value) :
  Below g w (((w.setCell ⟨g, 0, none⟩ r).setCell ⟨g, 1, none⟩ a).setCell ⟨g, 2, none⟩ e) :=
 (((Below.refl _ _).setCell (p := ⟨g, 0, none⟩) (Nat.le_refl _) _).setCell (p := ⟨g, 1, none⟩) (Nat.le_refl _) _).setCell (p := ⟨g, 2, none⟩) (Nat.le_refl _) _
theorem below_one (w : World) (g : Nat) (v : Value) : Below g w (w.setCell ⟨g, 2, none⟩ v) := (Below.refl _ _).setCell (p := ⟨g, 2, none⟩) (Nat.le_refl _) _
theorem set_three {w : World} (g k : Nat) (r a e : Value) (h : k ≠ g) :
  (((w.setCell ⟨g, 0, none⟩ r).setCell ⟨g, 1, none⟩ a).setCell ⟨g, 2, none⟩ e).heap[k]? = w.heap[k]? :=
 ((Below.heap_setCell _ _ _ _ h).trans (Below.heap_setCell _ _ _ _ h)).trans (Below.heap_setCell _ _ _ _ h)
theorem setCell_block {w : World} {p : Addr} {u : Value} {k : Nat} (h : k ≠ p.block) : (w.setCell p u).heap[k]? = w.heap[k]? := Below.heap_setCell w p u k h
theorem iterPos_of {w : World} {k p : Nat} {s : ByteArray} (h : w.heap[k]? = some (.stringIter s p)) : w.iterPos k = p := by unfold World.iterPos; rw [h]

def Sl (w : World) (B : Nat) (sz : Nat) (A : Option Addr) (n : Nat) (xs : List Value) : Prop :=
 xs.length = n * sz ∧ (0 < xs.length → ∃ g o, A = some ⟨g, o, none⟩ ∧ g < B ∧ ∀ j u, xs[j]? = some u → w.cell? ⟨g, o + j, none⟩ = some u)

def strs (l : List (List UInt8)) : List Value := l.map str

theorem Sl.len {w : World} {B n : Nat} {A : Option Addr} {l : List (List UInt8)} (h : Sl w B 1 A n (strs l)) : l.length = n := by
 simpa [strs] using h.1
theorem Sl.at_ {w : World} {B n k : Nat} {A : Option Addr} {l : List (List UInt8)} (h : Sl w B 1 A n (strs l)) (hk : k < n) :
  ∃ g o, ∃ hk : k < l.length, A = some ⟨g, o, none⟩ ∧ g < B ∧ w.cell? ⟨g, o + k, none⟩ = some (str l[k]) := by
 have hl := h.len
 obtain ⟨h1, h2⟩ := h
 obtain ⟨g, o, e, hb, hc⟩ := h2 (by simp [strs]; omega)
 exact ⟨g, o, by omega, e, hb, hc k _ (by simp [strs, List.getElem?_map])⟩
theorem news_new (w : World) (t : TypeId) (cs : List Value) : ∀ j u, cs[j]? = some u → (w.alloc (.cells cs.toArray t)).cell? ((⟨w.heap.size, 0, none⟩ : Addr).add j) = some u := by
 intro j u hj
 have : (⟨w.heap.size, 0, none⟩ : Addr).add j = ⟨w.heap.size, j, none⟩ := by unfold Addr.add; split <;> simp_all
 rw [this]
 exact ((Blk.new w t cs.toArray).cell j).trans (by simpa using hj)
theorem grown_block {w w' : World} {row : Option Nat} (h : w.grownBy w' row) {k : Nat} {o : Obj} (hk : w.heap[k]? = some o) (hne : some k ≠ row) : w'.heap[k]? = some o :=
 (h.block k (Array.getElem?_eq_some_iff.1 hk).1 hne).trans hk
theorem alloc_block {w : World} {k : Nat} {o : Obj} (o' : Obj) (hk : w.heap[k]? = some o) : (w.alloc o').heap[k]? = some o :=
 (Below.heap_alloc _ _ _ (Array.getElem?_eq_some_iff.1 hk).1).trans hk
theorem own_same {w w' : World} {base : Nat} {e : TypeId} {sz n : Nat} {v : Value} {xs : List Value} (h : w.ownsRow base e sz v n xs)
  (hk : ∀ g, v.ownBlock = some g → w'.heap[g]? = w.heap[g]?) : w'.ownsRow base e sz v n xs := by
 refine ⟨h.1, ?_⟩
 rcases h.2 with ⟨rfl, rfl⟩ | ⟨g, cap, cur, rfl, h1, h2, h3⟩
 ·exact .inl ⟨rfl, rfl⟩
 ·exact .inr ⟨g, cap, cur, rfl, h1, (hk g rfl).trans h2, h3⟩
theorem own_form {w : World} {base : Nat} {e : TypeId} {sz n : Nat} {v : Value} {xs : List Value} (h : w.ownsRow base e sz v n xs) (hn : 0 < n) :
  ∃ g cap, v = .slice (some ⟨g, 0, none⟩) n cap ∧ base ≤ g ∧ g < w.heap.size ∧ n ≤ cap := by
 rcases h.2 with ⟨_, rfl⟩ | ⟨g, cap, cur, rfl, h1, h2, h3, _⟩
 ·omega
 ·exact ⟨g, cap, rfl, h1, (Array.getElem?_eq_some_iff.1 h2).1, h3⟩
def SameW (v : Value) (w : World) (e : Ending) (w' : World) : Prop := e = .returned v ∧ w = w'
def Drawn (v : Value) (w : World) (e : Ending) (w' : World) : Prop := e = .returned v ∧ ∃ q, w' = w.drewN q
end Go.Proofs.YtgkdaebiefhgdaaGreatDoor
namespace Go.Proofs.YtgkdaebiefhgdaaGreatDoor
open Go.ChangeShapes Go.WideShapes Go.ChangeAt Go.RowKit
theorem all_stays {H : Type} {enc : TypeId × Value → H} {P : Program} (hl : laidOutB P = true) {W W' : World} (hb : Below W.heap.size W W') (sp : Nat → Bool) :
  ∀ {ts : List TypeId} {vs : List Value} {ds : List (DataW H)} {ps : List MemPlace}, (ts.all fun t => P.readableRec t && decide (t < P.types.size)) = true →
   DataW.TrodAll enc P W 0 (fun _ => true) true ts vs ds ps → (∀ x ∈ ps, x.block < W.heap.size) → (∀ x ∈ ps, sp x.block = true) → DataW.TrodAll enc P W' 0 sp true ts vs ds ps
 | [], _, _, _, _, h, _, _ => by
  obtain ⟨rfl, rfl, rfl⟩ := trodAll_nil h
  exact h
 | t :: ts, _, _, _, ht, h, h1, h2 => by
  obtain ⟨v, vs, d, ds, a, b, rfl, rfl, rfl, hv, hr⟩ := trodAll_cons h
  simp only [List.all_cons, Bool.and_eq_true, decide_eq_true_eq] at ht
  refine ⟨a, b, ?_, all_stays hl hb sp ht.2 hr (fun x hx => h1 x (by simp [hx])) (fun x hx => h2 x (by simp [hx])), rfl⟩
  exact WideElems.Trod_stays hl ht.1.1 ht.1.2 hv (fun x hx => hb.same (h1 x (by simp [hx]))) (fun x hx => h2 x (by simp [hx]))

theorem post_true {H : Type} {enc : TypeId × Value → H} {P : Program} {f : Func} {s : ChangeSpec} {fresh handsOn : Bool} {W W' : World} {args : Array Value} {ds : List (DataW H)} {before : List MemPlace} {t : TypeId}
  (hl : laidOutB P = true) (hts : (f.params.toList.all fun t => P.readableRec t && decide (t < P.types.size)) = true) (hsv : s.vars = []) (hW : DataW.Whole enc P f.params.toList s.vars false W args.toList ds [] before)
  (hs : s.fn H (ds ++ []) = { results := [.lit (.bool true)], args := ds }) (hr : f.resultTypes = #[t]) (ht : P.underlying t = some .bool) (hb : Below W.heap.size W W') : s.post enc P f false fresh handsOn false W args (.bool true) W' := by
 have hWk := hW
 obtain ⟨p, q, hA, hV, rfl, hz, hn⟩ := hW
 have hlt : ∀ x ∈ p ++ q, x.block < W.heap.size := fun x hx => hWk.lt x hx
 rw [hsv] at hV
 obtain ⟨_, rfl⟩ := trodVars_none hV
 refine ⟨ds, [], p ++ [], [], p, [], hWk, ?_, ?_, ?_, (hb.frame _), fun h => by cases h⟩
 ·rw [hs, hr]
  exact trodAll_mk1 (shut_bool ht _)
 ·rw [hs]
  exact all_stays hl hb _ hts hA (fun x hx => hlt x (by simp [hx])) (fun x hx => by simpa using hlt x (by simp [hx]))
 ·rw [hsv, hs]
  exact hV
end Go.Proofs.YtgkdaebiefhgdaaGreatDoor
namespace Go.Proofs.YtgkdaebiefhgdaaGreatDoor
open Go.RowKit
section
variable {P : Program} (w : World)
def Src (w : World) (A : Option Addr) (news : List Value) : Prop := 0 < news.length → ∃ ad, A = some ad ∧ ∀ j u, news[j]? = some u → w.cell? (ad.add j) = some u
theorem Src.nil (A : Option Addr) : Src w A [] := fun h => absurd h (by simp)

theorem run_app (base : Nat) (t ty e : TypeId) (i : TypeInfo) (z : Value) (size bytes : Nat) (ht : P.underlying t = some (.slice e)) (hi : P.info? e = some i) (hz : i.zero = some z)
  (hsize : i.size = size) (hby : i.bytes = bytes) (hzs : z.cells.size = size) (hsz : 0 < size)
  (v : Value) (n : Nat) (xs : List Value) (hown : w.ownsRow base e size v n xs)
  (A : Option Addr) (m c : Nat) (news : List Value) (hl : news.length = m * size) (hs : Src w A news) (h1 : ∀ u ∈ news, u.oneCell' = true)
  (h63 : n + m ≤ maxLen) (hbytes : (n + m) * bytes ≤ 140737488355328) (hbase : base ≤ w.heap.size) :
  ∃ v' w', (Builtin.append_ #[t, t] ty #[v, .slice A m c]).run P w = .ok v' w' ∧ w'.ownsRow base e size v' (n + m) (xs ++ news) ∧ w.grownBy w' v.ownBlock ∧
   (v'.ownBlock = v.ownBlock ∨ v'.ownBlock = some w.heap.size) := by
 cases A with
 | some ad =>
  obtain ⟨v', w', h, ho, hg, _, hb⟩ := run_append_own_at (P := P) w base t ty e i z size bytes ht hi hz hsize hby hzs hsz v n xs hown ad m c news hl (fun j u hj => by
   obtain ⟨ad', e', hc⟩ := hs (by have := (List.getElem?_eq_some_iff.1 hj).1; omega)
   cases e'; exact hc j u hj) h1 h63 hbytes hbase
  exact ⟨v', w', h, ho, hg, hb⟩
 | none =>
  have hm : m = 0 := by
   rcases Nat.eq_zero_or_pos m with h | h
   ·exact h
   ·obtain ⟨_, e', _⟩ := hs (by rw [hl]; exact Nat.mul_pos h hsz)
    cases e'
  subst hm
  have hnil : news = [] := List.eq_nil_of_length_eq_zero (by simpa using hl)
  subst hnil
  refine ⟨v, w, ?_, by simpa using hown, World.grownBy.refl w _, .inl rfl⟩
  rcases hown.2 with ⟨rfl, rfl⟩ | ⟨g, cap, cur, rfl, _, _, hnc, _⟩
  ·simp [Builtin.append_, run_underlying ht, sizeOf, typeInfo, hi, Builtin.lenOf, Builtin.firstCells]
  ·simp [Builtin.append_, run_underlying ht, sizeOf, typeInfo, hi, Builtin.lenOf, Builtin.firstCells, hnc, storeCells]

theorem wp_app {o : Oper} {a : Act} {K : Act → World → Prop} {Q : Exit → Act → World → Prop} (s x : Operand) (t : TypeId)
  (ho : o.op = .call { callee := .builtin .append, args := #[s, x], argTypes := #[t, t] })
  (base : Nat) (e : TypeId) (i : TypeInfo) (z : Value) (size bytes : Nat) (ht : P.underlying t = some (.slice e)) (hi : P.info? e = some i) (hz : i.zero = some z)
  (hsize : i.size = size) (hby : i.bytes = bytes) (hzs : z.cells.size = size) (hsz : 0 < size)
  (v : Value) (n : Nat) (xs : List Value) (hv : a.eval s = v) (hown : w.ownsRow base e size v n xs)
  (A : Option Addr) (m c : Nat) (news : List Value) (hx : a.eval x = .slice A m c) (hl : news.length = m * size) (hs : Src w A news) (h1 : ∀ u ∈ news, u.oneCell' = true)
  (h63 : n + m ≤ maxLen) (hbytes : (n + m) * bytes ≤ 140737488355328) (hbase : base ≤ w.heap.size)
  (h : ∀ v' w', w'.ownsRow base e size v' (n + m) (xs ++ news) → w.grownBy w' v.ownBlock → (v'.ownBlock = v.ownBlock ∨ v'.ownBlock = some w.heap.size) → K (a.put o.dst v') w') : o.wp P a w K Q := by
 obtain ⟨v', w', hrun, h2, h3, h4⟩ := run_app (P := P) w base t o.type e i z size bytes ht hi hz hsize hby hzs hsz v n xs hown A m c news hl hs h1 h63 hbytes hbase
 unfold Oper.wp execOp
 simp only [ho, resolve, invoke, builtin, Sem.run_bind, Sem.run_pure, Result.andThen_ok, List.map_toArray, List.map_cons, List.map_nil, hv, hx, hrun]
 exact h v' w' h2 h3 h4

theorem wpList_app {ops : Array Oper} {rest : List Oper} {o : Oper} {a : Act} {Q : Exit → Act → World → Prop} (hgd : o.guard = none) (s x : Operand) (t : TypeId)
  (ho : o.op = .call { callee := .builtin .append, args := #[s, x], argTypes := #[t, t] })
  (base : Nat) (e : TypeId) (i : TypeInfo) (z : Value) (size bytes : Nat) (ht : P.underlying t = some (.slice e)) (hi : P.info? e = some i) (hz : i.zero = some z)
  (hsize : i.size = size) (hby : i.bytes = bytes) (hzs : z.cells.size = size) (hsz : 0 < size)
  (v : Value) (n : Nat) (xs : List Value) (hv : a.eval s = v) (hown : w.ownsRow base e size v n xs)
  (A : Option Addr) (m c : Nat) (news : List Value) (hx : a.eval x = .slice A m c) (hl : news.length = m * size) (hs : Src w A news) (h1 : ∀ u ∈ news, u.oneCell' = true)
  (h63 : n + m ≤ maxLen) (hbytes : (n + m) * bytes ≤ 140737488355328) (hbase : base ≤ w.heap.size)
  (h : ∀ v' w', w'.ownsRow base e size v' (n + m) (xs ++ news) → w.grownBy w' v.ownBlock → (v'.ownBlock = v.ownBlock ∨ v'.ownBlock = some w.heap.size) → wpList P ops Q rest (a.put o.dst v') w') : wpList P ops Q (o :: rest) a w :=
 wpList_plain hgd fun _ hK => wp_app w s x t ho base e i z size bytes ht hi hz hsize hby hzs hsz v n xs hv hown A m c news hx hl hs h1 h63 hbytes hbase fun v' w' h2 h3 h4 => hK _ _ (h v' w' h2 h3 h4)

theorem step_app {ops : Array Oper} {o : Oper} {a : Act} {K : Act → World → Prop} {Q : Exit → Act → World → Prop} {E : Prop} (hgd : o.guard = none) (s x : Operand) (t : TypeId)
  (ho : o.op = .call { callee := .builtin .append, args := #[s, x], argTypes := #[t, t] })
  (base : Nat) (e : TypeId) (i : TypeInfo) (z : Value) (size bytes : Nat) (ht : P.underlying t = some (.slice e)) (hi : P.info? e = some i) (hz : i.zero = some z)
  (hsize : i.size = size) (hby : i.bytes = bytes) (hzs : z.cells.size = size) (hsz : 0 < size)
  (v : Value) (n : Nat) (xs : List Value) (hv : a.eval s = v) (hown : w.ownsRow base e size v n xs)
  (A : Option Addr) (m c : Nat) (news : List Value) (hx : a.eval x = .slice A m c) (hl : news.length = m * size) (hs : Src w A news) (h1 : ∀ u ∈ news, u.oneCell' = true)
  (h63 : n + m ≤ maxLen) (hbytes : (n + m) * bytes ≤ 140737488355328) (hbase : base ≤ w.heap.size)
  (h : ∀ v' w', w'.ownsRow base e size v' (n + m) (xs ++ news) → w.grownBy w' v.ownBlock → (v'.ownBlock = v.ownBlock ∨ v'.ownBlock = some w.heap.size) → K (a.put o.dst v') w') :
  if Region.wanted o (yielded ops a.tmps) = true then Oper.wp P o a w K Q else E := by
 have hw : Region.wanted o (yielded ops a.tmps) = true := by simp [Region.wanted, hgd]
 rw [if_pos hw]
 exact wp_app w s x t ho base e i z size bytes ht hi hz hsize hby hzs hsz v n xs hv hown A m c news hx hl hs h1 h63 hbytes hbase h

def cutAt (A : Option Addr) (k cap size : Nat) : Option Addr := if cap = k then A else A.map (·.add (k * size))
theorem slice_from {P : Program} (t e : TypeId) (i : TypeInfo) (size : Nat) (ht : P.underlying t = some (.slice e)) (hi : P.info? e = some i) (hsize : i.size = size)
  (A : Option Addr) (len cap k : Nat) (hk : k ≤ len) (w : World) :
  (Instr.slice t (.slice A len cap) (some (.int .i64 (k : Int))) none none).run P w = .ok (.slice (cutAt A k cap size) (len - k) (cap - k)) w := by
 have he : P.elem t = e := by simp [Program.elem, ht]
 have h := run_slice_l (P := P) (w := w) t A len cap (by rw [he]; exact ht) .i64 (k : Int) (by omega) (by omega)
 rw [h, he]
 simp [sizeOf, typeInfo, hi, sliced, cutAt, hsize, Result.andThen]
theorem slice_to {P : Program} (t e : TypeId) (i : TypeInfo) (ht : P.underlying t = some (.slice e)) (hi : P.info? e = some i)
  (A : Option Addr) (len cap k : Nat) (hk : k ≤ cap) (w : World) :
  (Instr.slice t (.slice A len cap) none (some (.int .i64 (k : Int))) none).run P w = .ok (.slice A k cap) w := by
 have he : P.elem t = e := by simp [Program.elem, ht]
 have h := run_slice_h (P := P) (w := w) t A len cap (by rw [he]; exact ht) .i64 (k : Int) (by omega) (by omega)
 rw [h, he]
 cases A <;> simp [sizeOf, typeInfo, hi, sliced, Result.andThen, Addr.add]
theorem cutAt_in {g o k cap size : Nat} (h : k < cap) : cutAt (some ⟨g, o, none⟩) k cap size = some ⟨g, o + k * size, none⟩ := by
 unfold cutAt
 rw [if_neg (by omega)]
 simp [Addr.add]
end
end Go.Proofs.YtgkdaebiefhgdaaGreatDoor
namespace Go.Proofs.YtgkdaebiefhgdaaGreatDoor
open Go.RowKit
def ints (l : List Int) : List Value := l.map (Value.int .i64)
theorem ints_set (l : List Int) (i : Nat) (x : Int) : ints (l.set i x) = (ints l).set i (.int .i64 x) := by simp [ints]
theorem ints_replicate (n : Nat) (x : Int) : ints (List.replicate n x) = List.replicate n (.int .i64 x) := by simp [ints]
theorem ints_at {l : List Int} {i : Nat} (h : i < l.length) : (ints l).toArray[i]? = some (.int .i64 l[i]) := by simp [ints, h]

theorem Sl.grown {w w' : World} {B g sz n : Nat} {A : Option Addr} {xs : List Value} (h : Sl w B sz A n xs) (hB : B ≤ w.heap.size) (hg : w.grownBy w' (some g)) (hne : ∀ ga o, A = some ⟨ga, o, none⟩ → ga ≠ g) : Sl w' B sz A n xs := by
 refine ⟨h.1, fun hp => ?_⟩
 obtain ⟨ga, o, e, hl, hc⟩ := h.2 hp
 exact ⟨ga, o, e, hl, fun j u hj => (World.cell?_of_block (hg.block ga (Nat.lt_of_lt_of_le hl hB) (fun h => hne ga o e (by cases h; rfl)))).trans (hc j u hj)⟩
theorem Sl.up {w : World} {B B' sz n : Nat} {A : Option Addr} {xs : List Value} (h : Sl w B sz A n xs) (hB : B ≤ B') : Sl w B' sz A n xs := by
 refine ⟨h.1, fun hp => ?_⟩
 obtain ⟨ga, o, e, hl, hc⟩ := h.2 hp
 exact ⟨ga, o, e, Nat.lt_of_lt_of_le hl hB, hc⟩
theorem Sl.under {w w' : World} {B sz n : Nat} {A : Option Addr} {xs : List Value} (h : Sl w B sz A n xs) (hb : Below B w w') : Sl w' B sz A n xs := by
 refine ⟨h.1, fun hp => ?_⟩
 obtain ⟨g, o, e, hg, hc⟩ := h.2 hp
 exact ⟨g, o, e, hg, fun j u hj => (World.cell?_of_block (hb.block g hg)).trans (hc j u hj)⟩
theorem Sl.ilen {w : World} {B n : Nat} {A : Option Addr} {l : List Int} (h : Sl w B 1 A n (ints l)) : l.length = n := by simpa [ints] using h.1
theorem Sl.int {w : World} {B n k : Nat} {A : Option Addr} {l : List Int} (h : Sl w B 1 A n (ints l)) (hk : k < n) :
  ∃ g o, ∃ hk : k < l.length, A = some ⟨g, o, none⟩ ∧ g < B ∧ w.cell? ⟨g, o + k, none⟩ = some (.int .i64 l[k]) := by
 have hl := h.ilen
 obtain ⟨h1, h2⟩ := h
 obtain ⟨g, o, e, hb, hc⟩ := h2 (by simp [ints]; omega)
 exact ⟨g, o, by omega, e, hb, hc k _ (by simp [ints, List.getElem?_map])⟩
theorem grown_alloc {w : World} {row : Option Nat} (o : Obj) : w.grownBy (w.alloc o) row := ⟨rfl, rfl, rfl, (Nat.le_of_lt (by rw [World.size_alloc]; omega)), fun k hk _ => Below.heap_alloc w o k hk⟩
theorem Blk.grown {w w' : World} {g k : Nat} {t : TypeId} {cs : Array Value} (h : Blk w k t cs) (hg : w.grownBy w' (some g)) (hk : k ≠ g) : Blk w' k t cs := (hg.block k h.lt (fun e => hk (by cases e; rfl))).trans h
theorem Blk.below {w w' : World} {k : Nat} {t : TypeId} {cs : Array Value} (h : Blk w k t cs) (hb : Below w.heap.size w w') : Blk w' k t cs := (hb.block k h.lt).trans h
theorem Blk.under {w w' : World} {k B : Nat} {t : TypeId} {cs : Array Value} (h : Blk w k t cs) (hb : Below B w w') (hk : k < B) : Blk w' k t cs := (hb.block k hk).trans h
theorem Blk.other {w : World} {g : Nat} {t : TypeId} {cs : Array Value} (h : Blk w g t cs) {p : Addr} (hp : p.block ≠ g) (u : Value) : Blk (w.setCell p u) g t cs := (setCell_block (fun e => hp e.symm)).trans h
theorem Blk.seti {w : World} {g : Nat} {t : TypeId} {l : List Int} (h : Blk w g t (ints l).toArray) (i : Nat) (x : Int) : Blk (w.setCell ⟨g, i, none⟩ (.int .i64 x)) g t (ints (l.set i x)).toArray := by
 have := h.set_ i (.int .i64 x)
 rw [ints_set]
 simpa using this
theorem Blk.iat {w : World} {g : Nat} {t : TypeId} {l : List Int} (h : Blk w g t (ints l).toArray) {i : Nat} (hi : i < l.length) : w.cell? ⟨g, i, none⟩ = some (.int .i64 l[i]) := (h.cell i).trans (ints_at hi)
theorem below_drewN {B : Nat} {a w : World} (h : Below B a w) (n : Nat) : Below B a (w.drewN n) := ⟨h.os, h.tape, h.output, h.size, h.block⟩
theorem own_base {w : World} {base base' sz n : Nat} {e : TypeId} {v : Value} {xs : List Value} (h : w.ownsRow base e sz v n xs) (hb : base' ≤ base) : w.ownsRow base' e sz v n xs := by
 refine ⟨h.1, ?_⟩
 rcases h.2 with k | ⟨g, cap, cur, rfl, hg, k⟩
 ·exact .inl k
 ·exact .inr ⟨g, cap, cur, rfl, Nat.le_trans hb hg, k⟩
theorem own_sl {w : World} {base sz n c : Nat} {A : Option Addr} {e : TypeId} {xs : List Value} (h : w.ownsRow base e sz (.slice A n c) n xs) : Sl w w.heap.size sz A n xs := by
 refine ⟨h.1, fun hp => ?_⟩
 rcases h.2 with ⟨hv, hn⟩ | ⟨g, cap, cur, hv, hg, hb, _⟩
 ·have := h.1; rw [hn] at this; simp at this; rw [this] at hp; simp at hp
 ·cases hv
  refine ⟨g, 0, rfl, (Array.getElem?_eq_some_iff.1 hb).1, fun j u hj => ?_⟩
  have ea : (⟨g, 0, none⟩ : Addr).add j = ⟨g, 0 + j, none⟩ := by unfold Addr.add; split <;> simp_all
  rw [← ea]
  exact h.cells rfl j u hj
theorem own_slc {w : World} {base sz n : Nat} {v : Value} {e : TypeId} {xs : List Value} (h : w.ownsRow base e sz v n xs) : ∃ A c, v = .slice A n c ∧ n ≤ c ∧ (∀ ga o, A = some ⟨ga, o, none⟩ → base ≤ ga) := by
 rcases h.2 with ⟨hv, hn⟩ | ⟨g, cap, cur, hv, hg, hb, hc, _⟩
 ·exact ⟨none, 0, by rw [hn]; exact hv, by omega, fun _ _ e => by cases e⟩
 ·exact ⟨_, _, hv, hc, fun ga o e => by cases e; exact hg⟩
theorem own_below {w w' : World} {base sz n : Nat} {e : TypeId} {v : Value} {xs : List Value} (h : w.ownsRow base e sz v n xs) (hb : Below w.heap.size w w') : w'.ownsRow base e sz v n xs :=
 own_same h (fun g hg => hb.block g (h.lt g hg).2)
theorem own_cut {w : World} {base sz n c k : Nat} {A : Option Addr} {e : TypeId} {xs : List Value} (h : w.ownsRow base e sz (.slice A n c) n xs) (hk : k ≤ n) : w.ownsRow base e sz (.slice A k c) k (xs.take (k * sz)) := by
 have hle : k * sz ≤ n * sz := Nat.mul_le_mul_right sz hk
 refine ⟨by rw [List.length_take, h.1]; omega, ?_⟩
 rcases h.2 with ⟨hv, hn⟩ | ⟨g, cap, cur, hv, hg, hb, hc, hm, hsz, ht⟩
 ·cases hv; exact .inl ⟨by rw [show k = 0 by omega], by omega⟩
 ·cases hv
  exact .inr ⟨g, _, cur, rfl, hg, hb, by omega, hm, hsz, by rw [← ht, List.take_take]; congr 1; omega⟩
theorem info_int : (Tryz.prog.info? 3).map (fun i => (i.zero, i.size, i.bytes)) = some (some (.int .i64 0), 1, 8) := by kernel_rfl
end Go.Proofs.YtgkdaebiefhgdaaGreatDoor
namespace Go.Proofs.YtgkdaebiefhgdaaGreatDoor.Feat
open Go Utf
abbrev Bs := List UInt8
def lt (a b : Bs) : Bool := Op.bytesLess a b

theorem lt_irrefl : ∀ a : Bs, lt a a = false
 | [] => rfl
 | c :: a => by
  have := lt_irrefl a
  unfold lt at this ⊢
  simp only [Op.bytesLess, this]
  simp
theorem lt_trans : ∀ {a b c : Bs}, lt a b = true → lt b c = true → lt a c = true
 | a, b, [], _, h => by cases b <;> simp [lt, Op.bytesLess] at h
 | a, [], c :: z, h, _ => by cases a <;> simp [lt, Op.bytesLess] at h
 | [], b :: y, c :: z, _, _ => rfl
 | a :: x, b :: y, c :: z, h, k => by
  have ih := @lt_trans x y z
  unfold lt at h k ih ⊢
  simp only [Op.bytesLess, Bool.or_eq_true, Bool.and_eq_true, decide_eq_true_eq, beq_iff_eq] at h k ⊢
  rcases h with h | ⟨rfl, h⟩ <;> rcases k with k | ⟨rfl, k⟩
  ·left; exact UInt8.lt_trans h k
  ·left; exact h
  ·left; exact k
  ·right; exact ⟨rfl, ih h k⟩
theorem lt_tri : ∀ a b : Bs, lt a b = true ∨ a = b ∨ lt b a = true
 | [], [] => .inr (.inl rfl)
 | [], _ :: _ => .inl rfl
 | _ :: _, [] => .inr (.inr rfl)
 | a :: x, b :: y => by
  have ih := lt_tri x y
  unfold lt at ih ⊢
  simp only [Op.bytesLess, Bool.or_eq_true, Bool.and_eq_true, decide_eq_true_eq, beq_iff_eq]
  rcases (by
   rcases Nat.lt_trichotomy a.toNat b.toNat with h | h | h
   ·exact .inl (UInt8.lt_iff_toNat_lt.2 h)
   ·exact .inr (.inl (UInt8.toNat_inj.1 h))
   ·exact .inr (.inr (UInt8.lt_iff_toNat_lt.2 h)) : a < b ∨ a = b ∨ b < a) with h | rfl | h
  ·exact .inl (.inl h)
  ·rcases ih with h | rfl | h
   ·exact .inl (.inr ⟨rfl, h⟩)
   ·exact .inr (.inl rfl)
   ·exact .inr (.inr (.inr ⟨rfl, h⟩))
  ·exact .inr (.inr (.inl h))
theorem lt_asymm {a b : Bs} (h : lt a b = true) : lt b a = false := by
 cases k : lt b a with
 | false => rfl
 | true => have := lt_trans h k; rw [lt_irrefl] at this; cases this

def asc : List Bs → Bool
 | [] => true
 | [_] => true
 | x :: y :: r => lt x y && asc (y :: r)
def Asc (l : List Bs) : Prop := l.Pairwise fun a b => lt a b = true
theorem asc_iff : ∀ l : List Bs, asc l = true ↔ Asc l
 | [] => by simp [asc, Asc]
 | [x] => by simp [asc, Asc]
 | x :: y :: r => by
  have ih := asc_iff (y :: r)
  simp only [asc, Bool.and_eq_true, ih]
  unfold Asc at ih ⊢
  rw [List.pairwise_cons (a := x)]
  constructor
  ·rintro ⟨h, k⟩
   refine ⟨fun z hz => ?_, k⟩
   rcases List.mem_cons.1 hz with rfl | hz
   ·exact h
   ·exact lt_trans h ((List.pairwise_cons.1 k).1 z hz)
  ·rintro ⟨h, k⟩
   exact ⟨h y (by simp), k⟩

def text (l : List Bs) : Bs := 124 :: l.flatMap fun f => f ++ [124]

def scan : Bs → Bs → Option (List Bs)
 | _, [] => some []
 | cur, c :: r => if c = 124 then (if cur = [] then none else (scan [] r).map (cur :: ·)) else scan (cur ++ [c]) r

def parse (s : Bs) : List Bs × Nat :=
 if vErr s ≠ 0 then ([], vErr s)
 else if s.head? = some 124 ∧ s.getLast? = some 124 then
  match scan [] s.tail with
  | none => ([], 3)
  | some l => if asc l then (l, 0) else ([], 6)
 else ([], 3)

def has (s f : Bs) : Bool := (parse s).2 == 0 && (parse s).1.elem f
def both (a b : Bs) (k : List Bs → List Bs → Bs × Nat) : Bs × Nat :=
 if (parse a).2 ≠ 0 then ([], (parse a).2) else if (parse b).2 ≠ 0 then ([], (parse b).2) else k (parse a).1 (parse b).1
end Go.Proofs.YtgkdaebiefhgdaaGreatDoor.Feat
namespace Go.Proofs.YtgkdaebiefhgdaaGreatDoor.Tagp
open Utf
open Feat (Bs lt lt_irrefl lt_trans lt_tri lt_asymm)
def beg (c : UInt8) : Bool := (decide (65 ≤ c.toNat) && decide (c.toNat ≤ 90) || decide (97 ≤ c.toNat) && decide (c.toNat ≤ 122)) || decide (c.toNat = 95)
def dig (c : UInt8) : Bool := decide (48 ≤ c.toNat) && decide (c.toNat ≤ 57)
def gon (c : UInt8) : Bool := (beg c || dig c) || decide (c.toNat = 45)
def okName (s : Bs) : Bool := decide (1 ≤ s.length) && decide (s.length ≤ 32) && s.head?.any beg && s.all gon

def escB (c : UInt8) : Bs :=
 if c = 38 then [38, 97, 109, 112, 59] else if c = 60 then [38, 108, 116, 59] else if c = 62 then [38, 103, 116, 59] else if c = 34 then [38, 113, 117, 111, 116, 59] else [c]
def esc (s : Bs) : Bs := s.flatMap escB
def digs (s : Bs) : Bs := ((s.drop 2).take 7).takeWhile dig
def val (l : Bs) : Nat := l.foldl (fun n c => 10 * n + (c.toNat - 48)) 0
def esc1 (s : Bs) : Nat × Nat :=
 if [38, 97, 109, 112, 59].isPrefixOf s then (38, 5)
 else if [38, 108, 116, 59].isPrefixOf s then (60, 4)
 else if [38, 103, 116, 59].isPrefixOf s then (62, 4)
 else if [38, 113, 117, 111, 116, 59].isPrefixOf s then (34, 6)
 else if [38, 35].isPrefixOf s then
  let i := 2 + (digs s).length
  let n := val (digs s)
  if i = 2 ∨ s[i]? ≠ some 59 ∨ (s[2]? = some 48 ∧ 3 < i) ∨ (55296 ≤ n ∧ n ≤ 57343) ∨ 1114111 < n then (0, 0) else (n, i + 1)
 else (0, 0)

def bytesOf (b : ByteArray) : Bs := b.data.toList
def enc (n : Nat) : Bs := bytesOf (Utf8.encode (n : Int))
theorem bytesOf_back (b : ByteArray) : Value.string b = Value.string ⟨(bytesOf b).toArray⟩ := by unfold bytesOf; rw [Array.toArray_toList]
theorem bytesOf_len (b : ByteArray) : (bytesOf b).length = b.size := by unfold bytesOf; rw [Array.length_toList]; rfl
theorem enc_38 : enc 38 = [38] := by decide
theorem enc_60 : enc 60 = [60] := by decide
theorem enc_62 : enc 62 = [62] := by decide
theorem enc_34 : enc 34 = [34] := by decide

def un : Bs → Nat → Nat → Except Nat Bs
 | [], _, _ => .ok []
 | _ :: r, k + 1, i => un r k (i + 1)
 | c :: r, 0, i =>
  if c = 38 then
   if (esc1 (c :: r)).2 = 0 then .error i else (un r ((esc1 (c :: r)).2 - 1) (i + 1)).map (enc (esc1 (c :: r)).1 ++ ·)
  else (un r 0 (i + 1)).map (c :: ·)
def unesc (s : Bs) : Bs × Nat × Nat :=
 match un s 0 0 with
 | .ok v => (v, 0, 0)
 | .error i => ([], i, 3)

theorem un_skip : ∀ (s : Bs) (k i : Nat), k ≤ s.length → un s k i = un (s.drop k) 0 (i + k)
 | s, 0, i, _ => by simp
 | [], k + 1, i, h => by simp at h
 | c :: r, k + 1, i, h => by
  rw [un, List.drop_succ_cons, un_skip r k (i + 1) (by simpa using h)]
  congr 1
  omega
theorem map_map {α β γ ε : Type} (x : Except ε α) (f : α → β) (g : β → γ) : (x.map f).map g = x.map fun a => g (f a) := by cases x <;> rfl

theorem prefix_len {p s : Bs} (h : p.isPrefixOf s = true) : p.length ≤ s.length := (List.isPrefixOf_iff_prefix.1 h).length_le
theorem esc1_len (s : Bs) : (esc1 s).2 ≤ s.length := by
 unfold esc1
 split
 ·exact prefix_len (by assumption)
 ·split
  ·exact prefix_len (by assumption)
  ·split
   ·exact prefix_len (by assumption)
   ·split
    ·exact prefix_len (by assumption)
    ·split
     ·simp only
      split
      ·simp
      ·rename_i h
       simp only [not_or] at h
       have h2 : s[2 + (digs s).length]? = some 59 := by simpa using h.2.1
       have := (List.getElem?_eq_some_iff.1 h2).1
       simp only
       omega
     ·simp

theorem un_at (s : Bs) (i : Nat) (hi : i < s.length) (h : s[i] ≠ 38) : un (s.drop i) 0 i = (un (s.drop (i + 1)) 0 (i + 1)).map (s[i] :: ·) := by
 rw [List.drop_eq_getElem_cons hi, un, if_neg h]
theorem un_esc (s : Bs) (i : Nat) (hi : i < s.length) (h : s[i] = 38) (hn : (esc1 (s.drop i)).2 ≠ 0) :
  un (s.drop i) 0 i = (un (s.drop (i + (esc1 (s.drop i)).2)) 0 (i + (esc1 (s.drop i)).2)).map (enc (esc1 (s.drop i)).1 ++ ·) := by
 have hl := esc1_len (s.drop i)
 have e := List.drop_eq_getElem_cons hi
 rw [List.length_drop] at hl
 have e1 : i + 1 + ((esc1 (s.drop i)).2 - 1) = i + (esc1 (s.drop i)).2 := by omega
 conv => lhs; rw [e, un, if_pos h]
 rw [← e, if_neg hn, un_skip _ _ _ (by rw [List.length_drop]; omega), List.drop_drop, e1]
theorem un_bad (s : Bs) (i : Nat) (hi : i < s.length) (h : s[i] = 38) (hn : (esc1 (s.drop i)).2 = 0) : un (s.drop i) 0 i = .error i := by
 have e := List.drop_eq_getElem_cons hi
 rw [e, un, if_pos h, ← e, if_pos hn]

abbrev KV := Bs × Bs
def hasK (l : List KV) (n : Bs) : Bool := l.any fun p => p.1 == n
def insP (p : KV) : List KV → List KV
 | [] => [p]
 | q :: r => if lt p.1 q.1 = true then p :: q :: r else q :: insP p r
def sortP (l : List KV) : List KV := l.foldl (fun m p => insP p m) []

def chkKeys : List KV → List KV → Nat
 | _, [] => 0
 | b, p :: r => if okName p.1 = false then 4 else if hasK b p.1 = true then 5 else if vErr p.2 ≠ 0 then vErr p.2 else chkKeys (b ++ [p]) r
def chk (close : Bool) (name : Bs) (keys : List KV) : Nat :=
 if okName name = false then 4 else if (close = true ∧ 0 < keys.length) ∨ 8 < keys.length then 15 else chkKeys [] keys
def keyT (p : KV) : Bs := [32] ++ p.1 ++ [61, 34] ++ esc p.2 ++ [34]
def fmtT (close : Bool) (name : Bs) (keys : List KV) : Bs × Nat :=
 if chk close name keys ≠ 0 then ([], chk close name keys)
 else if close = true then ([60, 47] ++ name ++ [62], 0)
 else ([60] ++ name ++ (sortP keys).flatMap keyT ++ [62], 0)

abbrev R (α : Type) := Except (Nat × Nat) α
def run (p : UInt8 → Bool) (s : Bs) (i : Nat) : Nat := i + ((s.drop i).takeWhile p).length
def eatP (s : Bs) (c : UInt8) (i : Nat) : R Nat := if s[i]? = some c then .ok (i + 1) else .error (i, 3)
def nameP (s : Bs) (i : Nat) : R (Bs × Nat) :=
 if s[i]?.any beg = true then
  if 32 < run gon s i - i then .error (i, 2) else .ok ((s.drop i).take (run gon s i - i), run gon s i)
 else .error (i, 3)
def plainCh (c : UInt8) : Bool := c != 34 && c != 60 && c != 62
def valueP (s : Bs) (i : Nat) : R (Bs × Nat) :=
 match eatP s 34 (run plainCh s i) with
 | .error e => .error e
 | .ok j =>
  match unesc ((s.drop i).take (run plainCh s i - i)) with
  | (v, at', e) => if e ≠ 0 then .error (i + at', e) else if vErr v ≠ 0 then .error (i, vErr v) else .ok (v, j)
def keyP (s : Bs) (before : List KV) (i : Nat) : R (KV × Nat) :=
 match nameP s i with
 | .error e => .error e
 | .ok (n, j) =>
  if hasK before n = true then .error (i, 5)
  else if before.length = 8 then .error (i, 2)
  else match eatP s 61 j with
  | .error e => .error e
  | .ok j => match eatP s 34 j with
   | .error e => .error e
   | .ok j => match valueP s j with
    | .error e => .error e
    | .ok (v, j) => .ok ((n, v), j)
def keysP (s : Bs) : Nat → List KV → Nat → R (List KV × Nat)
 | 0, acc, i => .ok (acc, i)
 | k + 1, acc, i =>
  if s[i]? = some 32 then
   match keyP s acc (run (· == 32) s i) with
   | .error e => .error e
   | .ok (p, j) => keysP s k (acc ++ [p]) j
  else .ok (acc, i)
def tagP (s : Bs) : R (Bool × Bs × List KV) :=
 match eatP s 60 0 with
 | .error e => .error e
 | .ok _ =>
  let cl := s[1]? == some 47
  match nameP s (if cl = true then 2 else 1) with
  | .error e => .error e
  | .ok (n, i) =>
   match (if cl = true then .ok ([], i) else keysP s 9 [] i) with
   | .error e => .error e
   | .ok (l, i) =>
    match eatP s 62 i with
    | .error e => .error e
    | .ok i => if i < s.length then .error (i, 3) else .ok (cl, n, sortP l)
end Go.Proofs.YtgkdaebiefhgdaaGreatDoor.Tagp
namespace Go.Proofs.YtgkdaebiefhgdaaGreatDoor
namespace Dep
abbrev Hs := List Int
def nx (h : Hs) (i : Int) : Int := if 0 ≤ i then h.getD i.toNat (-1) else -1
def up (h : Hs) : Nat → Int → Int
 | 0, i => i
 | k + 1, i => up h k (nx h i)
def Ok (h : Hs) : Prop := ∀ x ∈ h, -1 ≤ x ∧ x < h.length
def bad (n : Nat) (x : Int) : Bool := decide (x < -1) || decide ((n : Int) ≤ x)

theorem up_succ (h : Hs) (k : Nat) (i : Int) : up h (k + 1) i = nx h (up h k i) := by
 induction k generalizing i with
 | zero => rfl
 | succ k ih => rw [up, ih]; rfl
theorem up_add (h : Hs) (k m : Nat) (i : Int) : up h (k + m) i = up h m (up h k i) := by
 induction k generalizing i with
 | zero => simp [up]
 | succ k ih => rw [show k + 1 + m = (k + m) + 1 by omega, up, ih]; rfl
theorem nx_neg {h : Hs} {i : Int} (hi : i < 0) : nx h i = -1 := by unfold nx; rw [if_neg (by omega)]
theorem nx_at {h : Hs} {i : Nat} (hi : i < h.length) : nx h (i : Nat) = h[i] := by unfold nx; rw [if_pos (by omega)]; simp [hi]
theorem nx_ok {h : Hs} (ho : Ok h) (i : Int) : -1 ≤ nx h i ∧ nx h i < h.length := by
 unfold nx
 split
 ·by_cases hl : i.toNat < h.length
  ·rw [List.getD_eq_getElem?_getD, List.getElem?_eq_getElem hl]; exact ho _ (List.getElem_mem hl)
  ·rw [List.getD_eq_getElem?_getD, List.getElem?_eq_none (by omega)]; simp; omega
 ·omega
theorem up_neg {h : Hs} {i : Int} (hi : i < 0) (k : Nat) : up h k i < 0 := by
 cases k with
 | zero => exact hi
 | succ k => 
  have : ∀ k, up h k (-1) = -1 := by intro k; induction k with
   | zero => rfl
   | succ k ih => rw [up, nx_neg (by omega), ih]
  rw [up, nx_neg hi, this]; omega
theorem up_neg_le {h : Hs} {i : Int} {k m : Nat} (hk : up h k i < 0) (hm : k ≤ m) : up h m i < 0 := by
 rw [show m = k + (m - k) by omega, up_add]; exact up_neg hk _

def Cyc (h : Hs) (i : Int) : Prop := 0 ≤ i ∧ ∃ k, up h (k + 1) i = i
theorem cyc_mul {h : Hs} {i : Int} {p : Nat} (hp : up h p i = i) (t : Nat) : up h (p * t) i = i := by
 induction t with
 | zero => rfl
 | succ t ih => rw [Nat.mul_succ, up_add, ih, hp]
theorem cyc_step {h : Hs} {i : Int} (hc : Cyc h i) (m : Nat) : Cyc h (up h m i) := by
 obtain ⟨h0, k, hk⟩ := hc
 have hb : ∀ m, up h (k + 1) (up h m i) = up h m i := by intro m; rw [← up_add, Nat.add_comm, up_add, hk]
 refine ⟨?_, k, hb m⟩
 by_cases hn : up h m i < 0
 ·exfalso
  have h1 := up_neg_le hn (show m ≤ (k + 1) * (m + 1) by rw [Nat.mul_add]; have := Nat.le_mul_of_pos_left m (show 0 < k + 1 by omega); omega)
  rw [cyc_mul hk] at h1; omega
 ·omega

theorem nodup_bound : ∀ (n : Nat) (l : List Nat), l.Nodup → (∀ x ∈ l, x < n) → l.length ≤ n
 | 0, l, _, h => by
  cases l with
  | nil => simp
  | cons a l => have := h a (by simp); omega
 | n + 1, l, hd, h => by
  have h1 := nodup_bound n (l.filter (· ≠ n)) (hd.filter _) (by
   intro x hx
   simp only [List.mem_filter, decide_eq_true_eq] at hx
   have := h x hx.1; omega)
  have h2 : l.length ≤ (l.filter (· ≠ n)).length + 1 := by
   clear h h1
   induction l with
   | nil => simp
   | cons a l ih =>
    rw [List.nodup_cons] at hd
    by_cases e : a = n
    ·have hf : l.filter (· ≠ n) = l := by
      rw [List.filter_eq_self]; intro x hx; simp only [decide_eq_true_eq]; rintro rfl; exact hd.1 (e ▸ hx)
     rw [List.filter_cons_of_neg (by simp [e]), hf]; simp
    ·have := ih hd.2
     rw [List.filter_cons_of_pos (by simp [e])]; simp only [List.length_cons]; omega
  omega

theorem way_bound {h : Hs} (ho : Ok h) {i : Int} (h2 : i < h.length) {k : Nat} (hp : ∀ m, m < k → 0 ≤ up h m i) (hd : ∀ a b, a < b → b < k → up h a i ≠ up h b i) : k ≤ h.length := by
 have hok : ∀ m, m < k → up h m i < h.length := by
  intro m hm
  cases m with
  | zero => exact h2
  | succ m => rw [up_succ]; exact (nx_ok ho _).2
 have := nodup_bound h.length ((List.range k).map fun m => (up h m i).toNat) (by
  rw [List.Nodup, List.pairwise_map]
  refine List.Pairwise.imp_of_mem ?_ (List.pairwise_lt_range (n := k))
  intro a b ha hb hab e
  rw [List.mem_range] at ha hb
  have h1 := hp a ha
  have h2 := hp b hb
  exact hd a b hab hb (by omega)) (by
  intro x hx
  rw [List.mem_map] at hx
  obtain ⟨m, hm, rfl⟩ := hx
  rw [List.mem_range] at hm
  have h1 := hp m hm
  have h2 := hok m hm
  omega)
 simpa using this

theorem ex_least {p : Nat → Prop} {n : Nat} (hn : p n) : ∃ m, m ≤ n ∧ p m ∧ ∀ k, k < m → ¬ p k := by
 induction n using Nat.strongRecOn with
 | _ n ih =>
  by_cases hm : ∃ m, m < n ∧ p m
  ·obtain ⟨m, hlt, hp⟩ := hm
   obtain ⟨k, h1, h2, h3⟩ := ih m hlt hp
   exact ⟨k, by omega, h2, h3⟩
  ·exact ⟨n, Nat.le_refl _, hn, fun k hk hp => hm ⟨k, hk, hp⟩⟩

theorem period_le {h : Hs} (ho : Ok h) {i : Int} (hl : i < h.length) (hc : Cyc h i) : ∃ k, k < h.length ∧ up h (k + 1) i = i ∧ ∀ m, m < k → up h (m + 1) i ≠ i := by
 obtain ⟨h0, k, hk⟩ := hc
 obtain ⟨m, _, hm, hlt⟩ := ex_least (p := fun k => up h (k + 1) i = i) hk
 have hpos : ∀ j, 0 ≤ up h j i := fun j => (cyc_step ⟨h0, k, hk⟩ j).1
 refine ⟨m, way_bound ho hl (k := m + 1) (fun j _ => hpos j) ?_, hm, hlt⟩
 intro a b hab hb e
 -- then up (m+1-(b-a)) i = i, or so
 have h1 : up h (m + 1 - b) (up h b i) = i := by rw [← up_add, show b + (m + 1 - b) = m + 1 by omega]; exact hm
 rw [← e, ← up_add] at h1
 exact hlt (a + (m + 1 - b) - 1) (by omega) (by rw [show a + (m + 1 - b) - 1 + 1 = a + (m + 1 - b) by omega]; exact h1)

def cyc (h : Hs) (i : Nat) : Bool := (List.range h.length).any fun k => up h (k + 1) i == i
theorem cyc_iff {h : Hs} (ho : Ok h) {i : Nat} (hl : i < h.length) : cyc h i = true ↔ Cyc h i := by
 unfold cyc
 rw [List.any_eq_true]
 constructor
 ·rintro ⟨k, _, hk⟩; exact ⟨by omega, k, by simpa using hk⟩
 ·intro hc
  obtain ⟨k, h1, h2, _⟩ := period_le ho (by omega) hc
  exact ⟨k, by simpa using h1, by simpa using h2⟩

def fst (p : Nat → Bool) : Nat → Option Nat
 | 0 => none
 | n + 1 => match fst p n with | some i => some i | none => if p n then some n else none
def chk (h : Hs) : Nat × Nat :=
 if 4096 < h.length then (0, 2) else
 match fst (fun i => bad h.length (h.getD i 0)) h.length with
 | some i => (i, 8)
 | none => match fst (cyc h) h.length with
  | some i => (i, 12)
  | none => (0, 0)

structure Good (h : Hs) : Prop where
 len : h.length ≤ 4096
 ok : Ok h
 none : ∀ i : Nat, i < h.length → ¬ Cyc h i
def wayF (h : Hs) : Nat → Int → List Int
 | 0, _ => []
 | f + 1, i => if i < 0 then [] else i :: wayF h f (nx h i)
def way (h : Hs) (i : Int) : List Int := wayF h (h.length + 1) i
end Dep
end Go.Proofs.YtgkdaebiefhgdaaGreatDoor
namespace Go.Proofs.YtgkdaebiefhgdaaGreatDoor
namespace Dep
def R (h : Hs) (i : Nat) (x : Int) : Prop := ∃ j, j < i ∧ ∃ k, up h k (j : Nat) = x
theorem R_succ {h : Hs} {i : Nat} {x : Int} : R h (i + 1) x ↔ R h i x ∨ ∃ k, up h k (i : Nat) = x := by
 constructor
 ·rintro ⟨j, hj, k, e⟩
  by_cases hi : j = i
  ·subst hi; exact .inr ⟨k, e⟩
  ·exact .inl ⟨j, by omega, k, e⟩
 ·rintro (⟨j, hj, k, e⟩ | ⟨k, e⟩)
  ·exact ⟨j, by omega, k, e⟩
  ·exact ⟨i, by omega, k, e⟩
theorem R_up {h : Hs} {i : Nat} {x : Int} (hr : R h i x) (m : Nat) : R h i (up h m x) := by
 obtain ⟨j, hj, k, rfl⟩ := hr
 exact ⟨j, hj, k + m, up_add h k m _⟩
def Lst (S : Int → Prop) (v : Int) : Prop := (v = -1 ∧ ∀ x, ¬ S x) ∨ (0 ≤ v ∧ S v ∧ ∀ x, S x → v ≤ x)
theorem Lst.congr {S T : Int → Prop} {v : Int} (h : Lst S v) (e : ∀ x, S x ↔ T x) : Lst T v := by
 rcases h with ⟨h1, h2⟩ | ⟨h1, h2, h3⟩
 ·exact .inl ⟨h1, fun x hx => h2 x ((e x).2 hx)⟩
 ·exact .inr ⟨h1, (e v).1 h2, fun x hx => h3 x ((e x).2 hx)⟩
theorem Lst.add {S : Int → Prop} {v x : Int} (h : Lst S v) (h0 : 0 ≤ x) : Lst (fun y => S y ∨ y = x) (if v < 0 ∨ x < v then x else v) := by
 rcases h with ⟨h1, h2⟩ | ⟨h1, h2, h3⟩
 ·rw [if_pos (by omega)]
  exact .inr ⟨h0, .inr rfl, fun y hy => by rcases hy with hy | rfl; exact absurd hy (h2 y); exact Int.le_refl _⟩
 ·by_cases hx : x < v
  ·rw [if_pos (.inr hx)]
   exact .inr ⟨h0, .inr rfl, fun y hy => by rcases hy with hy | rfl; have := h3 y hy; omega; exact Int.le_refl _⟩
  ·rw [if_neg (by omega)]
   exact .inr ⟨h1, .inl h2, fun y hy => by rcases hy with hy | rfl; exact h3 y hy; omega⟩
structure Inv (h : Hs) (i : Nat) (seen : List Int) (least : Int) : Prop where
 len : seen.length = h.length
 bnd : ∀ x (hx : x < seen.length), 0 ≤ seen[x] ∧ seen[x] ≤ i
 zero : ∀ x (hx : x < seen.length), seen[x] = 0 ↔ ¬ R h i x
 lst : Lst (fun x => Cyc h x ∧ R h i x) least
structure Inn (h : Hs) (i k : Nat) (seen0 seen : List Int) : Prop where
 len : seen.length = seen0.length
 pos : ∀ m, m < k → 0 ≤ up h m (i : Nat)
 dis : ∀ a b, a < b → b < k → up h a (i : Nat) ≠ up h b (i : Nat)
 val : ∀ x (hx : x < seen.length), ((∃ m, m < k ∧ up h m (i : Nat) = x) ∧ seen[x] = i + 1) ∨ ((¬ ∃ m, m < k ∧ up h m (i : Nat) = x) ∧ seen[x] = seen0[x]'(by omega))
theorem inn_start (h : Hs) (i : Nat) (seen : List Int) : Inn h i 0 seen seen :=
 ⟨rfl, fun m hm => by omega, fun a b _ hb => by omega, fun x hx => .inr ⟨by rintro ⟨m, hm, _⟩; omega, rfl⟩⟩
theorem inn_step {h : Hs} {i k at_ : Nat} {seen0 seen : List Int} (hn : Inn h i k seen0 seen) (ha : up h k (i : Nat) = (at_ : Nat)) (hl : at_ < seen.length) (hz : seen[at_] = 0) :
  Inn h i (k + 1) seen0 (seen.set at_ (i + 1)) := by
 have hno : ¬ ∃ m, m < k ∧ up h m (i : Nat) = (at_ : Nat) := by
  rcases hn.val at_ hl with ⟨_, e⟩ | ⟨e, _⟩
  ·omega
  ·exact e
 refine ⟨by simp [hn.len], fun m hm => ?_, fun a b hab hb => ?_, fun x hx => ?_⟩
 ·by_cases e : m = k
  ·rw [e, ha]; omega
  ·exact hn.pos m (by omega)
 ·by_cases e : b = k
  ·subst e; intro e; exact hno ⟨a, hab, by rw [e, ha]⟩
  ·exact hn.dis a b hab (by omega)
 ·have hx' : x < seen.length := by simpa using hx
  by_cases e : at_ = x
  ·subst e; exact .inl ⟨⟨k, by omega, ha⟩, by simp⟩
  ·rw [List.getElem_set_ne e]
   rcases hn.val x hx' with ⟨⟨m, hm, hm2⟩, h2⟩ | ⟨h1, h2⟩
   ·exact .inl ⟨⟨m, by omega, hm2⟩, h2⟩
   ·refine .inr ⟨?_, h2⟩
    rintro ⟨m, hm, hm2⟩
    by_cases em : m = k
    ·subst em; omega
    ·exact h1 ⟨m, by omega, hm2⟩
theorem inn_le {h : Hs} (ho : Ok h) {i k : Nat} {seen0 seen : List Int} (hn : Inn h i k seen0 seen) (hi : i < h.length) : k ≤ h.length := way_bound ho (by omega) hn.pos hn.dis

theorem inv_next {h : Hs} {i k : Nat} {seen0 seen : List Int} {least v : Int} (hv : Inv h i seen0 least) (hn : Inn h i k seen0 seen)
  (hall : ∀ m, 0 ≤ up h m (i : Nat) → (∃ m', m' < k ∧ up h m' (i : Nat) = up h m (i : Nat)) ∨ R h i (up h m (i : Nat)))
  (hl : Lst (fun x => Cyc h x ∧ R h (i + 1) x) v) : Inv h (i + 1) seen v := by
 refine ⟨by rw [hn.len, hv.len], fun x hx => ?_, fun x hx => ?_, hl⟩
 ·rcases hn.val x hx with ⟨_, e⟩ | ⟨_, e⟩
  ·omega
  ·have := hv.bnd x (by have := hn.len; omega); omega
 ·have hx0 : x < seen0.length := by have := hn.len; omega
  have hz := hv.zero x hx0
  rw [R_succ]
  rcases hn.val x hx with ⟨⟨m, hm, hm2⟩, e⟩ | ⟨e1, e⟩
  ·constructor
   ·omega
   ·intro hc; exact absurd (.inr ⟨m, hm2⟩) hc
  ·rw [e, hz]
   constructor
   ·intro hr hc
    rcases hc with hc | ⟨m, hm⟩
    ·exact hr hc
    ·rcases hall m (by omega) with ⟨m', h1, h2⟩ | h1
     ·exact e1 ⟨m', h1, by omega⟩
     ·rw [hm] at h1; exact hr h1
   ·exact fun hc hr => hc (.inl hr)
theorem inn_neg {h : Hs} {i k : Nat} {seen0 seen : List Int} {least : Int} (hv : Inv h i seen0 least) (hn : Inn h i k seen0 seen) (hneg : up h k (i : Nat) < 0) : Inv h (i + 1) seen least := by
 refine inv_next hv hn (fun m hm => .inl ⟨m, ?_, rfl⟩) (hv.lst.congr fun x => ?_)
 ·by_cases e : k ≤ m
  ·have := up_neg_le hneg e; omega
  ·omega
 ·rw [R_succ]
  constructor
  ·rintro ⟨h1, h2⟩; exact ⟨h1, .inl h2⟩
  ·rintro ⟨h1, h2 | ⟨m, hm⟩⟩
   ·exact ⟨h1, h2⟩
   ·exfalso
    have h3 := (cyc_step h1 k).1
    rw [← hm, ← up_add, Nat.add_comm, up_add] at h3
    have := up_neg (h := h) hneg m
    omega
theorem cyc_far {h : Hs} {x : Int} {i m : Nat} (hc : Cyc h x) (hm : up h m (i : Nat) = x) (k : Nat) : ∃ t, x = up h t (up h k (i : Nat)) := by
 obtain ⟨h0, p, hp⟩ := hc
 refine ⟨m + (p + 1) * k - k, ?_⟩
 have hle : k ≤ (p + 1) * k := Nat.le_mul_of_pos_left k (by omega)
 rw [← up_add, show k + (m + (p + 1) * k - k) = m + (p + 1) * k by omega, up_add, hm, cyc_mul hp]
theorem inn_old {h : Hs} {i k at_ : Nat} {seen0 seen : List Int} {least : Int} (hv : Inv h i seen0 least) (hn : Inn h i k seen0 seen) (ha : up h k (i : Nat) = (at_ : Nat)) (hl : at_ < seen.length)
  (h0 : seen[at_] ≠ 0) (h1 : seen[at_] ≠ i + 1) : Inv h (i + 1) seen least := by
 have hr : R h i (at_ : Nat) := by
  rcases hn.val at_ hl with ⟨_, e⟩ | ⟨_, e⟩
  ·exact absurd e h1
  ·rw [e] at h0
   exact Classical.byContradiction fun hc => h0 ((hv.zero at_ (by have := hn.len; omega)).2 hc)
 refine inv_next hv hn (fun m hm => ?_) (hv.lst.congr fun x => ?_)
 ·by_cases e : k ≤ m
  ·right
   rw [show m = k + (m - k) by omega, up_add, ha]
   exact R_up hr _
  ·exact .inl ⟨m, by omega, rfl⟩
 ·rw [R_succ]
  constructor
  ·rintro ⟨h1, h2⟩; exact ⟨h1, .inl h2⟩
  ·rintro ⟨h1, h2 | ⟨m, hm⟩⟩
   ·exact ⟨h1, h2⟩
   ·obtain ⟨t, ht⟩ := cyc_far h1 hm k
    rw [ha] at ht
    exact ⟨h1, by rw [ht]; exact R_up hr t⟩
theorem inn_on {h : Hs} {i k at_ : Nat} {seen0 seen : List Int} {least : Int} (hv : Inv h i seen0 least) (hn : Inn h i k seen0 seen) (ha : up h k (i : Nat) = (at_ : Nat)) (hl : at_ < seen.length)
  (h1 : seen[at_] = i + 1) : ∃ m0, m0 < k ∧ up h m0 (i : Nat) = (at_ : Nat) ∧ up h (k - m0) (at_ : Nat) = (at_ : Nat) := by
 rcases hn.val at_ hl with ⟨⟨m, hm, hm2⟩, _⟩ | ⟨_, e⟩
 ·refine ⟨m, hm, hm2, ?_⟩
  rw [← hm2, ← up_add, show m + (k - m) = k by omega, ha, hm2]
 ·have := hv.bnd at_ (by have := hn.len; omega)
  omega
end Dep
end Go.Proofs.YtgkdaebiefhgdaaGreatDoor
namespace Go.Proofs.YtgkdaebiefhgdaaGreatDoor
open Go.RowKit
def From (p : Nat → Prop) (W W' : World) : Prop := W.heap.size ≤ W'.heap.size ∧ ∀ k, p k → k < W.heap.size → W'.heap[k]? = W.heap[k]?
def beyond (keep : Nat → Prop) (B : Nat) (k : Nat) : Prop := B ≤ k ∨ keep k
theorem From.refl (p : Nat → Prop) (W : World) : From p W W := ⟨Nat.le_refl _, fun _ _ _ => rfl⟩
theorem From.trans {p : Nat → Prop} {a b c : World} (h : From p a b) (k : From p b c) : From p a c :=
 ⟨Nat.le_trans h.1 k.1, fun i hb hi => (k.2 i hb (Nat.lt_of_lt_of_le hi h.1)).trans (h.2 i hb hi)⟩
theorem From.mono {p p' : Nat → Prop} {a b : World} (h : From p a b) (hp : ∀ k, p' k → p k) : From p' a b := ⟨h.1, fun i hb hi => h.2 i (hp i hb) hi⟩
theorem From.alloc (p : Nat → Prop) (W : World) (o : Obj) : From p W (W.alloc o) := ⟨by simp, fun k _ hk => Below.heap_alloc W o k hk⟩
theorem From.putObj {p : Nat → Prop} {l : Nat} (W : World) (o : Obj) (h : ¬ p l) : From p W (W.putObj l o) := ⟨by simp, fun k hb _ => World.putObj_heap_other (by rintro rfl; exact h hb)⟩
theorem From.setCell {p : Nat → Prop} (W : World) (q : Addr) (v : Value) (h : ¬ p q.block) : From p W (W.setCell q v) :=
 ⟨by simp [World.setCell], fun k hb _ => Below.heap_setCell _ _ _ _ (by rintro rfl; exact h hb)⟩
theorem below_putObj {B l : Nat} (W : World) (o : Obj) (h : B ≤ l) : Below B W (W.putObj l o) :=
 ⟨rfl, rfl, rfl, by simp, fun k hk => World.putObj_heap_other (by omega)⟩

def outPost {α : Type} (B : Nat → Prop) (I : List α → World → Prop) (Ix : Code → List α → World → Prop) (xs : List α) (W : World) : Exit → Act → World → Prop
 | .normal, _, W' => From B W W' ∧ I xs W'
 | .ret, _, W' => From B W W' ∧ Ix .ret xs W'
 | .exit id, _, W' => From B W W' ∧ Ix (.exit id) xs W'
 | .goto t, _, W' => From B W W' ∧ Ix (.goto t) xs W'
 | .panic _, _, _ => False
 | .outgrown, _, _ => False

def Gives {α : Type} (keep : Nat → Prop) (m : Nat) (P : Program) (g : Nat) (lb : Array Value) (encs : α → Array Value) (Nx : List α → α → Prop) (S Sp : List α → Prop) (w : World) : Prop :=
 ∀ (l : Nat) (J Jx : List α → World → Prop) (W : World), Below w.heap.size w W → l < W.heap.size →
  (∀ s W1 W2, J s W1 → Below W.heap.size W1 W2 → J s W2) → (∀ s W1 W2, Jx s W1 → Below W.heap.size W1 W2 → Jx s W2) →
  (∀ pre x W1, J pre W1 → Nx pre x → W.heap.size ≤ W1.heap.size → YieldAt Fence.wide (m - 1) P l (encs x) W1 fun e W' =>
   (e = .returned (.bool true) ∧ J (pre ++ [x]) W' ∧ From (beyond keep W.heap.size) W1 W') ∨ (e = .returned (.bool false) ∧ Jx (pre ++ [x]) W')) →
  J [] W →
  CallsIn Fence.wide m P g (#[.func (.yield l) #[] #[]] ++ lb) W fun e W' => (∃ v, e = .returned v) ∧ ((∃ xs, S xs ∧ J xs W') ∨ (∃ pre, Sp pre ∧ Jx pre W'))

theorem range_law {α : Type} {n : Nat} {P : Program} {g : Operand} {ps : Array Tmp} {assign body : Code} {Q : Exit → Act → World → Prop} {a : Act} {w : World}
  (h1 : 1 ≤ n) {gf : Nat} {lb : Array Value} (hg : a.eval g = .func (.func gf) #[] lb) (eg : ∀ args w, (callFunc gf args).run P w = .ok (.enter gf args) w)
  {encs : α → Array Value} {Nx : List α → α → Prop} {S Sp : List α → Prop} {keep : Nat → Prop} (hkeep : ∀ k, keep k → k < w.heap.size) (hseq : Gives keep (n - 1) P gf lb encs Nx S Sp w) (hps : ∀ x, (encs x).size = ps.size)
  (I : List α → World → Prop) (Ix : Code → List α → World → Prop)
  (hI : ∀ s W1 W2, I s W1 → Below w.heap.size W1 W2 → I s W2) (hIx : ∀ c s W1 W2, Ix c s W1 → Below w.heap.size W1 W2 → Ix c s W2) (h0 : I [] w)
  (Ax : α → Act → World → Prop) (hAx : ∀ x a' W l o o', Ax x a' W → W.heap[l]? = some (.loop o) → Ax x a' (W.putObj l o'))
  (hassign : ∀ (l : Nat) (pre : List α) (x : α) (W : World) (K : Act → World → Prop), I pre W → w.heap.size ≤ W.heap.size → (∀ a' W', From (beyond keep w.heap.size) W W' → I pre W' → Ax x a' W' → K a' W') →
   assign.wpIn (Fence.wide.inRound l) (n - 1 - 1) P (Exit.then K (fun _ _ _ => False)) { tmps := (ps.zip (encs x)).foldl (fun t (p, v) => t.setIfInBounds p v) a.tmps, defers := [] } W)
  (hbody : ∀ (l : Nat) (pre : List α) (x : α) (a' : Act) (W : World), I pre W → Ax x a' W → Nx pre x → w.heap.size ≤ W.heap.size → body.wpIn (Fence.wide.inRound l) (n - 1 - 1) P (outPost (beyond keep w.heap.size) I Ix (pre ++ [x]) W) a' W)
  (hdone : ∀ (D : Nat) (xs : List α) (W : World), w.heap.size ≤ D → S xs → I xs W → W.heap[D]? = some (.deferred (some [])) → Q .normal { a with defers := { target := .collected D, args := #[] } :: a.defers } W)
  (hstop : ∀ (D : Nat) (c : Code) (pre : List α) (W : World), w.heap.size ≤ D → Sp pre → Ix c pre W → W.heap[D]? = some (.deferred (some [])) → c.wpIn Fence.wide n P Q { a with defers := { target := .collected D, args := #[] } :: a.defers } W) :
  (Code.rangeFunc g ps assign body).wpIn Fence.wide n P Q a w := by
 refine wpIn_rangeFunc (F := Fence.wide) ?_
 intro fn hfn
 -- the record of the loop, in its three states
 have hnk : ∀ B, w.heap.size + 1 < B → ¬ beyond keep B (w.heap.size + 1) := by
  rintro B hB (h | h)
  ·omega
  ·have := hkeep _ h; omega
 have hbb : ∀ B, w.heap.size ≤ B → ∀ k, beyond keep B k → beyond keep w.heap.size k := by
  rintro B hB k (h | h)
  ·exact .inl (by omega)
  ·exact .inr h
 let rec0 : LoopState → Option Code → Loop := fun st pe => { state := st, pending := pe, fn, tmps := a.tmps, params := ps, assign, body, defers := w.heap.size }
 obtain ⟨rc, hrc⟩ : ∃ rc, rec0 = rc := ⟨_, rfl⟩
 obtain ⟨W1, hW1⟩ : ∃ W1, (w.alloc (.deferred (some []))).alloc (.loop (rc .ready none)) = W1 := ⟨_, rfl⟩
 have hz1 : W1.heap.size = w.heap.size + 2 := by rw [← hW1]; simp
 have hL1 : W1.heap[w.heap.size + 1]? = some (.loop (rc .ready none)) := by
  have := World.alloc_heap_new (w.alloc (.deferred (some []))) (.loop (rc .ready none))
  rw [World.size_alloc] at this; rw [← hW1]; exact this
 have hK1 : W1.heap[w.heap.size]? = some (.deferred (some [])) := by
  rw [← hW1]; exact (Below.heap_alloc _ _ _ (by simp)).trans (World.alloc_heap_new w _)
 have hbw : Below w.heap.size w W1 := by
  rw [← hW1]; exact ((Below.refl _ w).alloc (Nat.le_refl _) _).alloc (by simp) _
 refine ⟨w.heap.size + 1, [{ target := .collected w.heap.size, args := #[] }], W1, { target := .fn (.func gf) lb, args := #[.func (.yield (w.heap.size + 1)) #[] #[]] }, W1, gf,
  #[.func (.yield (w.heap.size + 1)) #[] #[]] ++ lb, W1, ?_, ?_, fun _ _ => trivial, ?_, fun _ => h1, ?_⟩
 ·rw [← hW1, ← hrc]; exact run_enterLoop_outer _ _ _ _ _
 ·simp only [resolve, hg]; simp [go_sem]
 ·simp [invoke, go_sem, eg]
 ·refine (hseq (w.heap.size + 1)
   (fun pre W => I pre W ∧ W.heap[w.heap.size + 1]? = some (.loop (rc .ready none)) ∧ W.heap[w.heap.size]? = some (.deferred (some [])))
   (fun pre W => ∃ c, Ix c pre W ∧ W.heap[w.heap.size + 1]? = some (.loop (rc .done (some c))) ∧ W.heap[w.heap.size]? = some (.deferred (some [])))
   W1 hbw (by omega)
   (fun s A C hs hb => ⟨hI s A C hs.1 (hb.mono (by omega)), (hb.block _ (by omega)).trans hs.2.1, (hb.block _ (by omega)).trans hs.2.2⟩)
   (fun s A C hs hb => by
    obtain ⟨c, hc, hl, hk⟩ := hs
    exact ⟨c, hIx c s A C hc (hb.mono (by omega)), (hb.block _ (by omega)).trans hl, (hb.block _ (by omega)).trans hk⟩)
   ?_ ⟨hI _ _ _ h0 hbw, hL1, hK1⟩).mono ?_
  ·rintro pre x W ⟨hi, hl, hk⟩ hlen hzW
   have hy := run_yield (P := P) (args := encs x) hl (by rw [← hrc]; simp [rec0, hps])
   rw [← hrc] at hy
   refine ⟨fn, _, assign, body, hy, roundIn_of_wpIn hfn (hassign _ pre x W _ hi (by omega) ?_)⟩
   intro a' Wa hfa hia hax
   have hla := (hfa.2 (w.heap.size + 1) (.inl (by omega)) (by omega)).trans hl
   have hka := (hfa.2 w.heap.size (.inl (by omega)) (by omega)).trans hk
   have hza := hfa.1
   refine ⟨_, run_beginRound hla (by rw [← hrc]), ?_⟩
   obtain ⟨Wb, hWb⟩ : ∃ Wb, Wa.putObj (w.heap.size + 1) (.loop { rc .ready none with state := .busy }) = Wb := ⟨_, rfl⟩
   have hzb : Wb.heap.size = Wa.heap.size := by rw [← hWb]; simp
   have hlb : Wb.heap[w.heap.size + 1]? = some (.loop { rc .ready none with state := .busy }) := by rw [← hWb]; exact World.putObj_heap_same (by omega)
   have hkb : Wb.heap[w.heap.size]? = some (.deferred (some [])) := by rw [← hWb]; exact (World.putObj_heap_other (by omega)).trans hka
   have hib : I pre Wb := by rw [← hWb]; exact hI _ _ _ hia (below_putObj _ _ (by omega))
   have haxb : Ax x a' Wb := by rw [← hWb]; exact hAx _ _ _ _ _ _ hax hla
   have hfb : From (beyond keep W1.heap.size) W Wb := by rw [← hWb]; exact (hfa.mono (hbb _ (by omega))).trans (From.putObj _ _ (hnk _ (by omega)))
   rw [hWb]
   refine wpIn_mono (hbody _ pre x a' Wb hib haxb hlen (by omega)) ?_
   have fin : ∀ (jump : Option Code) (W3 : World), From (beyond keep w.heap.size) Wb W3 →
     (Instr.endRound (w.heap.size + 1) jump).run P W3 = .ok (.bool jump.isNone) (W3.putObj (w.heap.size + 1) (.loop (rc (if jump.isNone then .ready else .done) jump))) ∧
     (W3.putObj (w.heap.size + 1) (.loop (rc (if jump.isNone then .ready else .done) jump))).heap[w.heap.size + 1]? = some (.loop (rc (if jump.isNone then .ready else .done) jump)) ∧
     (W3.putObj (w.heap.size + 1) (.loop (rc (if jump.isNone then .ready else .done) jump))).heap[w.heap.size]? = some (.deferred (some [])) := fun jump W3 h3 => by
    have hl3 := (h3.2 (w.heap.size + 1) (.inl (by omega)) (by omega)).trans hlb
    have hk3 := (h3.2 w.heap.size (.inl (by omega)) (by omega)).trans hkb
    have hz3 := h3.1
    have := run_endRound (P := P) jump hl3
    rw [← hrc] at this ⊢
    exact ⟨this, World.putObj_heap_same (by omega), (World.putObj_heap_other (by omega)).trans hk3⟩
   rintro e a3 W3 hp
   cases e with
   | normal =>
    obtain ⟨h3, hi3⟩ := hp
    obtain ⟨hr, hl4, hk4⟩ := fin none W3 h3
    exact ⟨_, _, hr, .inl ⟨rfl, ⟨hI _ _ _ hi3 (below_putObj _ _ (by omega)), hl4, hk4⟩, (hfb.trans (h3.mono (hbb _ (by omega)))).trans (From.putObj _ _ (hnk _ (by omega)))⟩⟩
   | ret =>
    obtain ⟨h3, hi3⟩ := hp
    obtain ⟨hr, hl4, hk4⟩ := fin (some .ret) W3 h3
    exact ⟨_, _, hr, .inr ⟨rfl, .ret, hIx _ _ _ _ hi3 (below_putObj _ _ (by omega)), hl4, hk4⟩⟩
   | exit id =>
    obtain ⟨h3, hi3⟩ := hp
    obtain ⟨hr, hl4, hk4⟩ := fin (some (.exit id)) W3 h3
    exact ⟨_, _, hr, .inr ⟨rfl, .exit id, hIx _ _ _ _ hi3 (below_putObj _ _ (by omega)), hl4, hk4⟩⟩
   | goto t =>
    obtain ⟨h3, hi3⟩ := hp
    obtain ⟨hr, hl4, hk4⟩ := fin (some (.goto t)) W3 h3
    exact ⟨_, _, hr, .inr ⟨rfl, .goto t, hIx _ _ _ _ hi3 (below_putObj _ _ (by omega)), hl4, hk4⟩⟩
   | panic ch => exact hp.elim
   | outgrown => exact hp.elim
  ·rintro e W2 ⟨⟨v, rfl⟩, (⟨xs, hS, hi, hl, hk⟩ | ⟨pre, hSp, c, hi, hl, hk⟩)⟩
   ·have := run_endLoop (P := P) hl (by rw [← hrc]; simp [rec0])
    rw [← hrc] at this
    exact ⟨none, _, this, hdone _ xs _ (Nat.le_refl _) hS (hI _ _ _ hi (below_putObj _ _ (by omega))) ((World.putObj_heap_other (by omega)).trans hk)⟩
   ·have := run_endLoop (P := P) hl (by rw [← hrc]; simp [rec0])
    rw [← hrc] at this
    exact ⟨some c, _, this, hstop _ c pre _ (Nat.le_refl _) hSp (hIx _ _ _ _ hi (below_putObj _ _ (by omega))) ((World.putObj_heap_other (by omega)).trans hk)⟩
end Go.Proofs.YtgkdaebiefhgdaaGreatDoor
namespace Go.Proofs.YtgkdaebiefhgdaaGreatDoor
open Go.RowKit Go.Shelf Utf
attribute [local go_sem] Oper.semAt_some
abbrev U := Nat × Nat × Nat
abbrev uv (r : Int) (a z : Int) : Array Value := #[.int .i32 r, .int .i64 a, .int .i64 z]
abbrev encU (x : U) : Array Value := #[.agg (uv x.1 x.2.1 x.2.2)]

set_option maxRecDepth 100000 in
set_option maxHeartbeats 1000000 in
theorem units1_gives (m : Nat) (hm : 1 ≤ m) (l : List UInt8) (hl : l.length ≤ 9223372036854775807) (b0 : Nat) (w : World) (hb0 : b0 < w.heap.size) (hc0 : w.cell? ⟨b0, 0, none⟩ = some (str l)) :
  Gives (· = b0) m Tryz.prog 170 #[.pointer (some ⟨b0, 0, none⟩)] encU (fun pre x => ∃ post, un 0 l = pre ++ x :: post) (fun xs => xs = un 0 l) (fun pre => pre <+: un 0 l) w := by
 intro lp J Jx W hW hlp hJ hJx hY h0
 have hzW := hW.size
 have hs : W.cell? ⟨b0, 0, none⟩ = some (str l) := (hW.cell (p := ⟨b0, 0, none⟩) hb0).trans hc0
 have hs2 : ((W.alloc (.cells (uv 0 (-1) 0) 200))).cell? ⟨b0, 0, none⟩ = some (str l) := (World.cell?_alloc_lt _ _ _ (by show b0 < _; omega)).trans hs
 refine callsIn_of_wp Tryz.func170 rfl trivial ?_ rfl
 simp only [Tryz.ntmps170, List.size_toArray, List.length_cons, List.length_nil, Nat.reduceAdd, Nat.reduceSub, Array.replicate_succ, Array.replicate_zero, List.push_toArray, List.append_toArray, List.nil_append, List.cons_append]
 gi_wp2
 gi_loopw [] (fun wr => ∃ pos : Nat, pos ≤ l.length ∧ wr.heap[W.heap.size + 1]? = some (.stringIter ⟨l.toArray⟩ pos) ∧ wr.cell? ⟨b0, 0, none⟩ = some (str l) ∧
   ((pos = 0 ∧ Blk wr W.heap.size 200 (uv 0 (-1) 0) ∧ J [] wr) ∨
    (∃ pre r a, a < pos ∧ Blk wr W.heap.size 200 (uv (r : Nat) (a : Nat) 0) ∧ Hid (un 0 l = pre ++ (r, a, pos - a) :: un pos (l.drop pos)) ∧ J pre wr)))
  (fun wr => l.length - wr.iterPos (W.heap.size + 1))
 case atStart =>
  refine ⟨0, Nat.zero_le _, ?_, ?_, .inl ⟨rfl, ?_, ?_⟩⟩
  ·have := World.iter_heap (W.alloc (.cells (uv 0 (-1) 0) 200)) ⟨l.toArray⟩ 0
   rw [World.size_alloc] at this; exact this
  ·exact (World.cell?_alloc_lt _ _ _ (by simp; omega)).trans hs2
  ·exact (Blk.new _ _ _).alloc _
  ·exact hJ _ _ _ h0 (((Below.refl _ _).alloc (Nat.le_refl _) _).alloc (by simp) _)
 case round =>
  obtain ⟨pos, hpos, hit, hcs, hcase⟩ := hrel
  have hzr : W.heap.size + 1 < wr.heap.size := (Array.getElem?_eq_some_iff.1 hit).1
  by_cases hp : pos < l.length
  ·have hd := decode_drop ⟨l.toArray⟩ pos (by show pos < l.toArray.size; simpa using hp)
   obtain ⟨b, t, hbt⟩ : ∃ b t, l.drop pos = b :: t := ⟨_, _, List.drop_eq_getElem_cons hp⟩
   have hw := dec_width b t
   obtain ⟨r', hr'⟩ : ∃ r', (dec (b :: t)).1 = r' := ⟨_, rfl⟩
   obtain ⟨n', hn'⟩ : ∃ n', (dec (b :: t)).2 = n' := ⟨_, rfl⟩
   have hlen : t.length + 1 = l.length - pos := by have := congrArg List.length hbt; simp at this; omega
   rw [hn'] at hw
   have hdd : Utf8.decode ⟨l.toArray⟩ pos = (r', n') := by rw [hd, hbt, ← hr', ← hn']
   have hnx : ∀ ty, (Instr.next (.pointer (some ⟨W.heap.size + 1, 0, none⟩)) true ty).run Tryz.prog wr = .ok (.tuple #[.bool true, .int .i64 pos, .int .i32 r']) (wr.iterAt (W.heap.size + 1) ⟨l.toArray⟩ (pos + n')) := by
    intro ty
    have := Lib.run_next_any_at (P := Tryz.prog) wr (W.heap.size + 1) ⟨l.toArray⟩ pos ty hit (by show pos < l.toArray.size; simpa using hp)
    rw [hdd] at this; exact this
   obtain ⟨wi, hwi⟩ : ∃ wi, wr.iterAt (W.heap.size + 1) ⟨l.toArray⟩ (pos + n') = wi := ⟨_, rfl⟩
   have hiti : wi.heap[W.heap.size + 1]? = some (.stringIter ⟨l.toArray⟩ (pos + n')) := by rw [← hwi]; exact Lib.iterAt_heap _ _ _ _ _ hit
   have hbi : Below W.heap.size wr wi := by rw [← hwi]; exact Lib.below_iterAt (Below.refl _ _) (by omega) _ _
   have huni : un pos (l.drop pos) = (r', pos, n') :: un (pos + n') (l.drop (pos + n')) := by
    rw [hbt, un_cons, hr', hn', ← hbt, List.drop_drop]
   rw [hwi] at hnx
   rcases hcase with ⟨rfl, hu, hj⟩ | ⟨pre, r, a, hap, hu, hun, hj⟩
   ·have hui : Blk wi W.heap.size 200 (uv 0 (-1) 0) := by rw [← hwi]; exact (Lib.iterAt_other _ _ _ _ _ (by omega)).trans hu
    have c0 := hui.cell 0
    have c1 := hui.cell 1
    have c2 := hui.cell 2
    have f0 := hui.free 0
    have f1 := hui.free 1
    have f2 := hui.free 2
    simp only [List.getElem?_toArray, List.getElem?_cons_zero, List.getElem?_cons_succ] at c0 c1 c2
    have hji := hJ _ _ _ hj hbi
    clear hd hbt hr' hn' hdd hwi hu
    gi_wp2
    refine ⟨fun _ h => (by cases h), ?_⟩
    gi_wp2
    go_roundw
    case rel =>
     refine ⟨0 + n', by omega, ?_, ?_, .inr ⟨[], r', 0, by omega, hui.four _ _ _ _, ?_, ?_⟩⟩
     ·exact (set_three _ _ _ _ _ (by omega)).trans ((Below.heap_setCell _ _ _ _ (by simp)).trans hiti)
     ·exact (((below_one _ _ _).trans (below_three _ _ _ _ _)).cell (p := ⟨b0, 0, none⟩) (by simp; omega)).trans ((hbi.cell (p := ⟨b0, 0, none⟩) (by simp; omega)).trans hcs)
     ·show _ = _; simpa using huni
     ·exact hJ _ _ _ hji ((below_one _ _ _).trans (below_three _ _ _ _ _))
    case measure =>
     rw [iterPos_of ((set_three _ _ _ _ _ (by omega)).trans ((Below.heap_setCell _ _ _ _ (by simp)).trans hiti)), iterPos_of hit]
     omega
   ·have hui : Blk wi W.heap.size 200 (uv r a 0) := by rw [← hwi]; exact (Lib.iterAt_other _ _ _ _ _ (by omega)).trans hu
    obtain ⟨z, hz⟩ : ∃ z : Nat, pos = a + z := ⟨pos - a, by omega⟩
    have hz' : pos - a = z := by omega
    have hzi : ((pos : Nat) : Int) - (a : Nat) = (z : Nat) := by omega
    rw [hz'] at hun
    obtain ⟨fn, tmps, assign, body, hy, hR⟩ := hY pre (r, a, z) (wi.setCell ⟨W.heap.size, 2, none⟩ (.int .i64 z)) (hJ _ _ _ (hJ _ _ _ hj hbi) (below_one _ _ _)) ⟨_, hun.out⟩ (by have := hbi.size; simp [World.setCell]; omega)
    have c0 := hui.cell 0
    have c1 := hui.cell 1
    have c2 := hui.cell 2
    have f0 := hui.free 0
    have f1 := hui.free 1
    have f2 := hui.free 2
    simp only [List.getElem?_toArray, List.getElem?_cons_zero, List.getElem?_cons_succ] at c0 c1 c2
    clear hd hbt hr' hn' hdd hwi hu hj hz hz'
    gi_wp2
    refine hR.mono ?_
    rintro e W' (⟨rfl, hj', hk'⟩ | ⟨rfl, hjx'⟩)
    ·have hzi' : W.heap.size + 1 < wi.heap.size := by have := hbi.size; omega
     have hub : Blk W' W.heap.size 200 (uv r a z) := (hk'.2 _ (.inl (Nat.le_refl _)) (by simp [World.setCell]; omega)).trans (hui.set_ 2 (.int .i64 z))
     have hib : W'.heap[W.heap.size + 1]? = some (.stringIter ⟨l.toArray⟩ (pos + n')) := (hk'.2 _ (.inl (by omega)) (by simp [World.setCell]; omega)).trans ((Below.heap_setCell _ _ _ _ (by simp)).trans hiti)
     have hsb : W'.cell? ⟨b0, 0, none⟩ = some (str l) :=
      (World.cell?_of_block (hk'.2 b0 (.inr rfl) (by simp [World.setCell]; omega))).trans (((below_one _ _ _).cell (p := ⟨b0, 0, none⟩) (by simp; omega)).trans ((hbi.cell (p := ⟨b0, 0, none⟩) (by simp; omega)).trans hcs))
     have c0 := hub.cell 0
     have c1 := hub.cell 1
     have c2 := hub.cell 2
     have f0 := hub.free 0
     have f1 := hub.free 1
     have f2 := hub.free 2
     simp only [List.getElem?_toArray, List.getElem?_cons_zero, List.getElem?_cons_succ] at c0 c1 c2
     gi_wp2
     go_roundw
     case rel =>
      refine ⟨pos + n', by omega, (set_three _ _ _ _ _ (by omega)).trans hib, ((below_three _ _ _ _ _).cell (p := ⟨b0, 0, none⟩) (by simp; omega)).trans hsb, .inr ⟨pre ++ [(r, a, z)], r', pos, by omega, (((hub.set_ 0 _).set_ 1 _).set_ 2 _), ?_, hJ _ _ _ hj' (below_three _ _ _ _ _)⟩⟩
      show _ = _
      rw [hun.out, huni, show pos + n' - pos = n' by omega]; simp
     case measure =>
      rw [iterPos_of ((set_three _ _ _ _ _ (by omega)).trans hib), iterPos_of hit]
      omega
    ·gi_wp2
     refine bodyPost_ret (results_none rfl _ _ _) rfl ?_
     exact ⟨⟨_, rfl⟩, .inr ⟨pre ++ [(r, a, z)], ⟨un pos (l.drop pos), by rw [hun.out]; simp⟩, hjx'⟩⟩
  ·have hpe : pos = l.length := by omega
   have hnx : ∀ ty, (Instr.next (.pointer (some ⟨W.heap.size + 1, 0, none⟩)) true ty).run Tryz.prog wr = .ok (.tuple #[.bool false]) wr := by
    intro ty
    exact Lib.run_next_end_at (P := Tryz.prog) wr (W.heap.size + 1) ⟨l.toArray⟩ pos ty hit (by show ¬ pos < l.toArray.size; simpa using hp)
   have hlr : l.drop pos = [] := List.drop_eq_nil_of_le (by omega)
   rcases hcase with ⟨rfl, hu, hj⟩ | ⟨pre, r, a, hap, hu, hun, hj⟩
   ·have hnil : l = [] := List.eq_nil_of_length_eq_zero hpe.symm
    subst hnil
    have c0 := hu.cell 0
    have c1 := hu.cell 1
    have c2 := hu.cell 2
    have f0 := hu.free 0
    have f1 := hu.free 1
    have f2 := hu.free 2
    simp only [List.getElem?_toArray, List.getElem?_cons_zero, List.getElem?_cons_succ] at c0 c1 c2
    clear hu hpe
    gi_wp2
    go_end0
    exact ⟨⟨_, rfl⟩, .inl ⟨[], rfl, hJ _ _ _ hj (below_one _ _ _)⟩⟩
   ·obtain ⟨z, hz⟩ : ∃ z : Nat, pos = a + z := ⟨pos - a, by omega⟩
    have hz' : pos - a = z := by omega
    have hzi : ((pos : Nat) : Int) - (a : Nat) = (z : Nat) := by omega
    have hzi2 : ((l.length : Nat) : Int) - (a : Nat) = (z : Nat) := by omega
    rw [hz', hlr, un_nil] at hun
    obtain ⟨fn, tmps, assign, body, hy, hR⟩ := hY pre (r, a, z) (wr.setCell ⟨W.heap.size, 2, none⟩ (.int .i64 z)) (hJ _ _ _ hj (below_one _ _ _)) ⟨_, hun.out⟩ (by simp [World.setCell]; omega)
    have c0 := hu.cell 0
    have c1 := hu.cell 1
    have c2 := hu.cell 2
    have f0 := hu.free 0
    have f1 := hu.free 1
    have f2 := hu.free 2
    simp only [List.getElem?_toArray, List.getElem?_cons_zero, List.getElem?_cons_succ] at c0 c1 c2
    clear hu hj hz hz' hpe
    gi_wp2
    refine hR.mono ?_
    rintro e W' (⟨rfl, hj', hk'⟩ | ⟨rfl, hjx'⟩)
    ·gi_wp2
     go_end0
     exact ⟨⟨_, rfl⟩, .inl ⟨_, hun.out.symm, hj'⟩⟩
    ·gi_wp2
     go_end0
     exact ⟨⟨_, rfl⟩, .inr ⟨_, ⟨[], by rw [hun.out]; simp⟩, hjx'⟩⟩
theorem uvalid_any (r a z : Nat) (w : World) :
  Calls Tryz.prog 168 #[.agg (uv r a z)] w fun e w' => e = .returned (.bool (okT (r, a, z))) ∧ w.alloc (.cells (uv r a z) 200) = w' := by
 by_cases h : r = 65533
 ·subst h
  go_enter Tryz.func168, Tryz.ntmps168
  go_wp2
  go_ret
  exact ⟨ret_bool (by unfold okT; rw [Bool.eq_iff_iff]; simp; omega), rfl⟩
 ·have h1 : ((r : Int) != 65533) = true := by rw [bne_iff_ne]; omega
  go_enter Tryz.func168, Tryz.ntmps168
  go_wp2
  go_ret
  exact ⟨ret_bool (by unfold okT; simp [h]), rfl⟩

theorem units_any (l : List UInt8) (w : World) :
  Calls Tryz.prog 167 #[str l] w fun e w' => e = .returned (.func (.func 170) #[] #[.pointer (some ⟨w.heap.size, 0, none⟩)]) ∧ w.alloc (.cells #[str l] 9) = w' := by
 go_enter Tryz.func167, Tryz.ntmps167
 go_wp2
 go_ret
 exact ⟨rfl, rfl⟩

set_option maxRecDepth 100000 in
set_option maxHeartbeats 1000000 in
theorem valid_in (l : List UInt8) (hl : l.length ≤ 9223372036854775807) (w : World) :
  CallsIn Fence.wide 5 Tryz.prog 160 #[str l] w fun e W' => e = .returned (.bool (ok l)) ∧ Below w.heap.size w W' := by
 refine callsIn_of_wp_marks Tryz.func160 rfl trivial ?_ rfl
 simp only [Tryz.ntmps160, List.size_toArray, List.length_cons, List.length_nil, Nat.reduceAdd, Nat.reduceSub, Array.replicate_succ, Array.replicate_zero, List.push_toArray, List.append_toArray, List.nil_append, List.cons_append]
 gi_wp2_with (refine ⟨trivial, ?_⟩; gi_at_call 167; refine (callsIn_wide.2 (units_any l _)).mono ?_; rintro e w' ⟨rfl, rfl⟩)
 have hB0 : Below w.heap.size w ((w.alloc (.cells #[.bool false] 4)).alloc (.cells #[str l] 9)) := ((Below.refl _ w).alloc (Nat.le_refl _) _).alloc (by simp) _
 have hb1 : Blk ((w.alloc (.cells #[.bool false] 4)).alloc (.cells #[str l] 9)) w.heap.size 4 #[.bool false] := (Blk.new _ _ _).alloc _
 have hb2 : Blk ((w.alloc (.cells #[.bool false] 4)).alloc (.cells #[str l] 9)) (w.heap.size + 1) 9 #[str l] := by
  have := Blk.new (w.alloc (.cells #[.bool false] 4)) 9 #[str l]
  rwa [World.size_alloc] at this
 obtain ⟨W0, hW0⟩ : ∃ W0, (w.alloc (.cells #[.bool false] 4)).alloc (.cells #[str l] 9) = W0 := ⟨_, rfl⟩
 have hz0 : W0.heap.size = w.heap.size + 2 := by rw [← hW0]; simp
 simp only [hW0] at hB0 hb1 hb2 ⊢
 refine range_law (n := 5) (encs := encU) (ps := #[6]) (by omega) (gf := 170) (lb := #[.pointer (some ⟨w.heap.size + 1, 0, none⟩)]) rfl (enters_of Tryz.func170 (by kernel_rfl) rfl)
  (keep := (· = w.heap.size + 1)) (by rintro k rfl; omega) (units1_gives 4 (by omega) l hl (w.heap.size + 1) W0 (by omega) (hb2.cell 0)) (fun _ => rfl)
  (fun pre W => Hid (pre.all okT = true) ∧ Below w.heap.size w W ∧ Blk W w.heap.size 4 #[.bool false])
  (fun c pre W => c = .ret ∧ Hid (pre.all okT = false) ∧ Below w.heap.size w W ∧ Blk W w.heap.size 4 #[.bool false])
  (fun s A C hs hb => ⟨hs.1, hs.2.1.trans (hb.mono (by omega)), (hb.block _ (by omega)).trans hs.2.2⟩)
  (fun c s A C hs hb => ⟨hs.1, hs.2.1, hs.2.2.1.trans (hb.mono (by omega)), (hb.block _ (by omega)).trans hs.2.2.2⟩)
  ⟨rfl, hB0, hb1⟩
  (fun x a' W => ∃ g, Blk W g 200 (uv x.1 x.2.1 x.2.2) ∧ a' = { tmps := #[str l, undef, .pointer (some ⟨w.heap.size, 0, none⟩), .pointer (some ⟨g, 0, none⟩), str l, .func (.func 170) #[] #[.pointer (some ⟨w.heap.size + 1, 0, none⟩)], .agg (uv x.1 x.2.1 x.2.2), undef, undef, undef], defers := [] })
  ?hAx ?assign ?body ?done ?stop
 case hAx =>
  rintro x a' W lp o o' ⟨g, hg, rfl⟩ hlp
  refine ⟨g, (World.putObj_heap_other ?_).trans hg, rfl⟩
  rintro rfl
  unfold Blk at hg
  rw [hlp] at hg; cases hg
 case assign =>
  rintro lp pre x W K ⟨h1, h2, h3⟩ hz hK
  gi_wp2
  exact hK _ _ (From.alloc _ _ _) ⟨h1, h2.alloc h2.size _, h3.alloc _⟩ ⟨W.heap.size, Blk.new _ _ _, rfl⟩
 case body =>
  rintro lp pre ⟨r, a, z⟩ a' W ⟨h1, h2, h3⟩ ⟨g, hg, rfl⟩ hnx hz
  have c0 := hg.cell 0
  have c1 := hg.cell 1
  have c2 := hg.cell 2
  have r0 := (h3.alloc (.cells (uv r a z) 200)).cell 0
  have rf := (h3.alloc (.cells (uv r a z) 200)).free 0
  simp only [List.getElem?_toArray, List.getElem?_cons_zero, List.getElem?_cons_succ] at c0 c1 c2 r0
  have hz2 := h2.size
  cases hk : okT (r, a, z) with
  | true =>
   gi_wp2_with (refine ⟨trivial, ?_⟩; gi_at_call 168; refine (CallsIn.inRound lp (callsIn_wide.2 (uvalid_any _ _ _ _))).mono ?_; rintro e w' ⟨rfl, rfl⟩)
   refine ⟨From.alloc _ _ _, ?_, h2.alloc h2.size _, h3.alloc _⟩
   show _ = _
   rw [List.all_append, h1.out]; simp [hk]
  | false =>
   gi_wp2_with (refine ⟨trivial, ?_⟩; gi_at_call 168; refine (CallsIn.inRound lp (callsIn_wide.2 (uvalid_any _ _ _ _))).mono ?_; rintro e w' ⟨rfl, rfl⟩)
   refine ⟨(From.alloc _ _ _).trans (From.setCell _ _ _ ?_), rfl, ?_, (h2.alloc h2.size _).setCell (p := ⟨w.heap.size, 0, none⟩) (Nat.le_refl _) _, (h3.alloc _).set_ 0 _⟩
   ·rintro (h | h) <;> simp at h; omega
   ·show _ = _
    rw [List.all_append]; simp [hk]
 case done =>
  rintro D xs W hD rfl ⟨h1, h2, h3⟩ hK
  have r0 := h3.cell 0
  have rf := h3.free 0
  simp only [List.getElem?_toArray, List.getElem?_cons_zero] at r0
  gi_wp2
  have hne : D ≠ w.heap.size := by omega
  have hK' : (W.setCell ⟨w.heap.size, 0, none⟩ (.bool true)).heap[D]? = some (.deferred (some [])) := (Below.heap_setCell _ _ _ _ hne).trans hK
  have hc : ((W.setCell ⟨w.heap.size, 0, none⟩ (.bool true)).putObj D (.deferred none)).cell? ⟨w.heap.size, 0, none⟩ = some (.bool true) :=
   (World.cell?_of_block (World.putObj_heap_other hne.symm)).trans ((h3.set_ 0 _).cell 0)
  refine ⟨by simp, .inl ⟨_, _, rfl, run_takeDeferred hK', .bool true, ?_, ret_bool (by rw [← un_ok 0 l, h1.out]), ?_⟩⟩
  ·simp [results, Tryz.f160, go_sem, hc]
  ·exact (h2.setCell (p := ⟨w.heap.size, 0, none⟩) (Nat.le_refl _) _).trans (below_putObj _ _ (by omega))
 case stop =>
  rintro D c pre W hD hpre ⟨rfl, h1, h2, h3⟩ hK
  gi_wp2
  have hne : D ≠ w.heap.size := by omega
  have hc : (W.putObj D (.deferred none)).cell? ⟨w.heap.size, 0, none⟩ = some (.bool false) :=
   (World.cell?_of_block (World.putObj_heap_other hne.symm)).trans (h3.cell 0)
  refine ⟨by simp, .inl ⟨_, _, rfl, run_takeDeferred hK, .bool false, ?_, ret_bool ?_, ?_⟩⟩
  ·simp [results, Tryz.f160, go_sem, hc]
  ·obtain ⟨post, hp⟩ := hpre
   rw [← un_ok 0 l, ← hp, List.all_append, h1.out]; rfl
  ·exact h2.trans (below_putObj _ _ (by omega))

theorem valid_any (l : List UInt8) (hl : l.length ≤ 9223372036854775807) (w : World) :
  Calls Tryz.prog 160 #[str l] w fun e W' => e = .returned (.bool (ok l)) ∧ Below w.heap.size w W' := callsIn_wide.1 (valid_in l hl w)
end Go.Proofs.YtgkdaebiefhgdaaGreatDoor
namespace Go.Proofs.YtgkdaebiefhgdaaGreatDoor
open Go.RowKit Utf
def Kept (v : Value) (w : World) (e : Ending) (w' : World) : Prop := e = .returned v ∧ Below w.heap.size w w'

theorem vErr_long {l : List UInt8} (h : 120 < l.length) : vErr l = 2 := by unfold vErr; rw [if_pos h]
theorem vErr_enc {l : List UInt8} (h : ¬ 120 < l.length) (k : ok l = false) : vErr l = 7 := by unfold vErr; rw [if_neg h, k]; rfl
theorem vErr_ctl {l : List UInt8} (h : ¬ 120 < l.length) (k : ok l = true) : vErr l = if ctlB l then 14 else 0 := by unfold vErr; rw [if_neg h, k]; rfl
theorem ctlT_int (r : Nat) : ctlT r = (decide ((r : Int) ≤ 31) || (r : Int) == 127) := by
 unfold ctlT
 rw [Bool.eq_iff_iff]; simp; omega

set_option maxHeartbeats 1000000 in
theorem value_any (l : List UInt8) (hl : l.length ≤ 9223372036854775807) (w : World) :
  Calls Tryz.prog 143 #[str l] w (Kept (.int .i64 (vErr l : Nat)) w) := by
 by_cases h1 : 120 < l.length
 ·have e : (vErr l : Int) = 2 := by rw [vErr_long h1]; rfl
  have E := Lib.hid e
  clear e
  go_enter Tryz.func143, Tryz.ntmps143
  go_wp2
  go_ret
  exact ⟨ret_int E.out.symm, Below.refl _ _⟩
 ·cases h2 : ok l with
  | false =>
   have E := Lib.hid (vErr_enc h1 h2)
   go_enter Tryz.func143, Tryz.ntmps143
   go_wp2_with (go_at_call 160; refine (valid_any l hl _).mono ?_; rintro e w1 ⟨rfl, hb⟩)
   go_ret
   exact ⟨ret_int (by rw [E.out]; rfl), hb⟩
  | true =>
   have E := Lib.hid (vErr_ctl h1 h2)
   have C := Lib.hid (ctl_eq l h2)
   go_enter Tryz.func143, Tryz.ntmps143
   go_wp2_with (go_at_call 160; refine (valid_any l hl _).mono ?_; rintro e w1 ⟨rfl, hb⟩)
   go_loopw [] (fun wr => ∃ pos : Nat, pos ≤ l.length ∧ wr = w1.iter ⟨l.toArray⟩ pos ∧ Hid (ctl l = ctl (l.drop pos))) (fun wr => l.length - wr.iterPos w1.heap.size)
   case atStart => exact ⟨0, Nat.zero_le _, rfl, rfl⟩
   case round =>
    obtain ⟨pos, hpos, rfl, hc⟩ := hrel
    have hbi : Below w.heap.size w (w1.iter ⟨l.toArray⟩ pos) := hb.alloc hb.size _
    by_cases hp : pos < l.length
    ·have hd := decode_drop ⟨l.toArray⟩ pos (by show pos < l.toArray.size; simpa using hp)
     obtain ⟨b, t, hbt⟩ : ∃ b t, l.drop pos = b :: t := ⟨_, _, List.drop_eq_getElem_cons hp⟩
     have hw := dec_width b t
     obtain ⟨r', hr'⟩ : ∃ r', (dec (b :: t)).1 = r' := ⟨_, rfl⟩
     obtain ⟨n', hn'⟩ : ∃ n', (dec (b :: t)).2 = n' := ⟨_, rfl⟩
     have hlen : t.length + 1 = l.length - pos := by have := congrArg List.length hbt; simp at this; omega
     rw [hn'] at hw
     have hdd : Utf8.decode ⟨l.toArray⟩ pos = (r', n') := by rw [hd, hbt, ← hr', ← hn']
     have hnx : ∀ ty, (Instr.next (.pointer (some ⟨w1.heap.size, 0, none⟩)) true ty).run Tryz.prog (w1.iter ⟨l.toArray⟩ pos) = .ok (.tuple #[.bool true, .int .i64 pos, .int .i32 r']) (w1.iter ⟨l.toArray⟩ (pos + n')) := by
      intro ty
      have := run_next_any (P := Tryz.prog) w1 ⟨l.toArray⟩ pos ty (by show pos < l.toArray.size; simpa using hp)
      rw [hdd] at this; exact this
     have hcn : ctl (l.drop pos) = (ctlT r' || ctl (l.drop (pos + n'))) := by rw [hbt, ctl_cons, hr', hn', ← hbt, List.drop_drop]
     have CN := Lib.hid hcn
     have hbi2 : Below w.heap.size w (w1.iter ⟨l.toArray⟩ (pos + n')) := hb.alloc hb.size _
     have T := Lib.hid (ctlT_int r')
     clear hd hbt hr' hn' hdd hcn
     by_cases c1 : (r' : Int) ≤ 31
     ·go_wp2
      go_ret
      exact ⟨ret_int (by rw [E.out, ← C.out, hc.out, CN.out, T.out, decide_eq_true c1]; rfl), hbi2⟩
     ·by_cases c2 : ((r' : Int) == 127) = true
      ·go_wp2
       go_ret
       exact ⟨ret_int (by rw [E.out, ← C.out, hc.out, CN.out, T.out, c2]; simp), hbi2⟩
      ·have c2 : ((r' : Int) == 127) = false := by simpa using c2
       go_wp2
       go_roundw
       case rel => exact ⟨pos + n', by omega, rfl, by show _ = _; rw [hc.out, CN.out, T.out, c2, decide_eq_false c1]; rfl⟩
       case measure => simp [World.iterPos_iter]; omega
    ·have hnx : ∀ ty, (Instr.next (.pointer (some ⟨w1.heap.size, 0, none⟩)) true ty).run Tryz.prog (w1.iter ⟨l.toArray⟩ pos) = .ok (.tuple #[.bool false]) (w1.iter ⟨l.toArray⟩ pos) := by
      intro ty
      exact run_next_end (P := Tryz.prog) w1 ⟨l.toArray⟩ pos ty (by show ¬ pos < l.toArray.size; simpa using hp)
     go_wp2
     go_ret
     exact ⟨ret_int (by rw [E.out, ← C.out, hc.out, List.drop_eq_nil_of_le (by omega)]; rfl), hbi⟩
end Go.Proofs.YtgkdaebiefhgdaaGreatDoor
namespace Go.Proofs.YtgkdaebiefhgdaaGreatDoor
open Go.RowKit Utf
theorem info_unit : (Tryz.prog.info? 126).map (fun i => (i.zero, i.size, i.bytes)) = some (some (.agg #[.int .i32 0, .int .i64 0, .int .i64 0, .bool false]), 4, 32) := by kernel_rfl

def cu (o : Bool) (u : Nat × Nat × Nat) : List Value := [.int .i32 u.1, .int .i64 u.2.1, .int .i64 u.2.2, .bool o]
def cus (l : List (Nat × Nat × Nat)) : List Value := l.flatMap (cu false)
theorem cus_len (l : List (Nat × Nat × Nat)) : (cus l).length = l.length * 4 := by
 unfold cus; induction l with
 | nil => rfl
 | cons u l ih => rw [List.flatMap_cons, List.length_append, ih]; simp [cu]; omega
theorem cus_snoc (l : List (Nat × Nat × Nat)) (u : Nat × Nat × Nat) : cus (l ++ [u]) = cus l ++ cu false u := by unfold cus; rw [List.flatMap_append]; simp

def mid (us : List (Nat × Nat × Nat)) (k : Nat) : List Value := (us.take k).flatMap (fun u => cu (okT u) u) ++ cus (us.drop k)
theorem marked_len (us : List (Nat × Nat × Nat)) : (us.flatMap (fun u => cu (okT u) u)).length = us.length * 4 := by
 induction us with
 | nil => rfl
 | cons u l ih => rw [List.flatMap_cons, List.length_append, ih]; simp [cu]; omega
theorem mid_split (us : List (Nat × Nat × Nat)) (k : Nat) (hk : k < us.length) :
  mid us k = (us.take k).flatMap (fun u => cu (okT u) u) ++ (cu false us[k] ++ cus (us.drop (k + 1))) := by
 unfold mid
 rw [List.drop_eq_getElem_cons hk]
 unfold cus
 rw [List.flatMap_cons]
theorem mid_at (us : List (Nat × Nat × Nat)) (k : Nat) (hk : k < us.length) :
  (mid us k)[k * 4]? = some (.int .i32 us[k].1) ∧ (mid us k)[k * 4 + 2]? = some (.int .i64 us[k].2.2) ∧ (mid us k)[k * 4 + 3]? = some (.bool false) := by
 have hl : ((us.take k).flatMap (fun u => cu (okT u) u)).length = k * 4 := by rw [marked_len]; simp; omega
 rw [mid_split us k hk]
 refine ⟨?_, ?_, ?_⟩
 ·rw [List.getElem?_append_right (by omega), hl, show k * 4 - k * 4 = 0 by omega]; rfl
 ·rw [List.getElem?_append_right (by omega), hl, show k * 4 + 2 - k * 4 = 2 by omega]; rfl
 ·rw [List.getElem?_append_right (by omega), hl, show k * 4 + 3 - k * 4 = 3 by omega]; rfl
theorem mid_set (us : List (Nat × Nat × Nat)) (k : Nat) (hk : k < us.length) : (mid us k).set (k * 4 + 3) (.bool (okT us[k])) = mid us (k + 1) := by
 have hl : ((us.take k).flatMap (fun u => cu (okT u) u)).length = k * 4 := by rw [marked_len]; simp; omega
 rw [mid_split us k hk, List.set_append_right _ _ (by omega), hl, show k * 4 + 3 - k * 4 = 3 by omega]
 unfold mid
 rw [List.take_succ_eq_append_getElem hk, List.flatMap_append]
 simp [cu]
theorem okT_cases (u : Nat × Nat × Nat) : (u.1 ≠ 65533 → okT u = true) ∧ (u.1 = 65533 → okT u = ((u.2.2 : Int) == 3)) := by
 refine ⟨fun h => by unfold okT; simp [h], fun h => ?_⟩
 unfold okT; rw [Bool.eq_iff_iff]; simp [h]; omega

set_option maxRecDepth 100000 in
set_option maxHeartbeats 1000000 in
theorem refUnits_any (l : List UInt8) (hl : l.length ≤ 2097152) (w : World) :
  Calls Tryz.prog 73 #[str l] w fun e w' => ∃ v, e = .returned v ∧ w'.ownsRow (w.heap.size + 1) 126 4 v (un 0 l).length ((un 0 l).flatMap fun u => cu (okT u) u) ∧ Below w.heap.size w w' := by
 obtain ⟨i0, hi0, hz0, hz1, hz2⟩ := info_parts info_unit
 go_enter Tryz.func73, Tryz.ntmps73
 go_wp2
 go_loopw [3] (fun v wr => ∃ pos : Nat, pos ≤ l.length ∧ wr.heap[w.heap.size]? = some (.stringIter ⟨l.toArray⟩ pos) ∧ Below w.heap.size w wr ∧
   ((pos = 0 ∧ v = .slice none 0 0) ∨ (∃ pre r a, a < pos ∧ pre.length < pos ∧ Hid (un 0 l = pre ++ (r, a, pos - a) :: un pos (l.drop pos)) ∧
    wr.ownsRow (w.heap.size + 1) 126 4 v (pre.length + 1) (cus pre ++ cu false (r, a, 0)))))
  (fun _ wr => l.length - wr.iterPos w.heap.size)
 case atStart =>
  exact ⟨0, Nat.zero_le _, World.iter_heap _ _ _, (Below.refl _ _).alloc (Nat.le_refl _) _, .inl ⟨rfl, rfl⟩⟩
 case round =>
  obtain ⟨pos, hpos, hit, hB, hcase⟩ := hrel
  have hzr : w.heap.size < wr.heap.size := (Array.getElem?_eq_some_iff.1 hit).1
  by_cases hp : pos < l.length
  ·have hd := decode_drop ⟨l.toArray⟩ pos (by show pos < l.toArray.size; simpa using hp)
   obtain ⟨b, t, hbt⟩ : ∃ b t, l.drop pos = b :: t := ⟨_, _, List.drop_eq_getElem_cons hp⟩
   have hw := dec_width b t
   obtain ⟨r', hr'⟩ : ∃ r', (dec (b :: t)).1 = r' := ⟨_, rfl⟩
   obtain ⟨n', hn'⟩ : ∃ n', (dec (b :: t)).2 = n' := ⟨_, rfl⟩
   have hlen : t.length + 1 = l.length - pos := by have := congrArg List.length hbt; simp at this; omega
   rw [hn'] at hw
   have hdd : Utf8.decode ⟨l.toArray⟩ pos = (r', n') := by rw [hd, hbt, ← hr', ← hn']
   have hnx : ∀ ty, (Instr.next (.pointer (some ⟨w.heap.size, 0, none⟩)) true ty).run Tryz.prog wr = .ok (.tuple #[.bool true, .int .i64 pos, .int .i32 r']) (wr.iterAt w.heap.size ⟨l.toArray⟩ (pos + n')) := by
    intro ty
    have := Lib.run_next_any_at (P := Tryz.prog) wr w.heap.size ⟨l.toArray⟩ pos ty hit (by show pos < l.toArray.size; simpa using hp)
    rw [hdd] at this; exact this
   obtain ⟨wi, hwi⟩ : ∃ wi, wr.iterAt w.heap.size ⟨l.toArray⟩ (pos + n') = wi := ⟨_, rfl⟩
   have hiti : wi.heap[w.heap.size]? = some (.stringIter ⟨l.toArray⟩ (pos + n')) := by rw [← hwi]; exact Lib.iterAt_heap _ _ _ _ _ hit
   have hBi : Below w.heap.size w wi := by rw [← hwi]; exact Lib.below_iterAt hB (Nat.le_refl _) _ _
   have hzi : wi.heap.size = wr.heap.size := by rw [← hwi]; exact Lib.iterAt_size _ _ _ _
   have huni : un pos (l.drop pos) = (r', pos, n') :: un (pos + n') (l.drop (pos + n')) := by
    rw [hbt, un_cons, hr', hn', ← hbt, List.drop_drop]
   have HU := Lib.hid huni
   have HZ := Lib.hid hzi
   rw [hwi] at hnx
   have HW := Lib.hid hwi
   rcases hcase with ⟨rfl, rfl⟩ | ⟨pre, r, a, hap, hpl, hun, hown⟩
   ·clear hd hbt hr' hn' hdd hwi huni hzi
    go_wp2_with (at_builtin; refine wpList_append_own_at _ rfl (.tmp 31) (.tmp 35) _ rfl (w.heap.size + 1) 126 i0 _ 4 32 Tryz.underlying123 hi0 hz0 hz1 hz2 rfl (by decide) (.slice none 0 0) 0 [] rfl (World.ownsRow_nil _ _ _ _) ⟨wi.heap.size, 0, none⟩ 1 1 (cu false (r', 0, 0)) rfl rfl ?c1 ?c2 ?c3 ?c4 ?c5 ?_)
    case c1 => exact news_new _ _ (cu false (r', 0, 0))
    case c2 => intro u hu; simp [cu] at hu; rcases hu with rfl | rfl | rfl | rfl <;> rfl
    case c3 => simp [maxLen]
    case c4 => omega
    case c5 => have := HZ.out; simp; omega
    intro v' w1 hown1 hg1 _ _
    have hit1 := grown_block hg1 (alloc_block (.cells (cu false (r', 0, 0)).toArray 126) hiti) (by simp [Value.ownBlock])
    have hB1 : Below w.heap.size w w1 := (hBi.alloc hBi.size _).grown hg1 (by have := hBi.size; simp; omega) (by simp [Value.ownBlock])
    go_wp2
    go_roundw
    case rel => exact ⟨0 + n', by omega, hit1, hB1, .inr ⟨[], r', 0, by omega, by simp; omega, by show _ = _; simpa using HU.out, hown1⟩⟩
    case measure => rw [iterPos_of hit1, iterPos_of hit]; omega
   ·have hu := hun.out
    clear hd hbt hr' hn' hdd hwi huni hzi hu
    obtain ⟨z, hz⟩ : ∃ z : Nat, pos = a + z := ⟨pos - a, by omega⟩
    have hz' : pos - a = z := by omega
    have hzi : ((pos : Nat) : Int) - (a : Nat) = (z : Nat) := by omega
    rw [hz'] at hun
    obtain ⟨p, hpp⟩ : ∃ p, pre.length = p := ⟨_, rfl⟩
    rw [hpp] at hown hpl
    have HP := Lib.hid hpp
    clear hpp hz hz'
    have howni : wi.ownsRow (w.heap.size + 1) 126 4 u3 (p + 1) (cus pre ++ cu false (r, a, 0)) :=
     own_same hown (fun g hg => by rw [← HW.out]; exact Lib.iterAt_other _ _ _ _ _ (by have := (hown.lt g hg).1; omega))
    obtain ⟨g, cap, rfl, hg1, hg2, hcap⟩ := own_form howni (by omega)
    have hcl : (cus pre).length = p * 4 := by rw [cus_len, HP.out]
    have c1 : wi.cell? ⟨g, p * 4 + 1, none⟩ = some (.int .i64 a) := by
     rw [howni.cellAt _ (by omega), List.getElem?_append_right (by omega), hcl]
     simp [cu]
    have c2 : wi.cell? ⟨g, p * 4 + 2, none⟩ = some (.int .i64 0) := by
     rw [howni.cellAt _ (by omega), List.getElem?_append_right (by omega), hcl]
     simp [cu]
    have f2 : wi.frozen? ⟨g, p * 4 + 2, none⟩ = false := howni.frozenAt _
    have hst := howni.stored (p * 4 + 2) (.int .i64 z)
    have hset : (cus pre ++ cu false (r, a, 0)).set (p * 4 + 2) (.int .i64 z) = cus (pre ++ [(r, a, z)]) := by
     rw [List.set_append_right _ _ (by omega), hcl, show p * 4 + 2 - p * 4 = 2 by omega, cus_snoc]; rfl
    rw [hset] at hst
    have hos := hst.1.alloc (.cells (cu false (r', pos, 0)).toArray 126)
    have hzs : (wi.setCell ⟨g, p * 4 + 2, none⟩ (.int .i64 z)).heap.size = wi.heap.size := by simp [World.setCell]
    have hits := alloc_block (.cells (cu false (r', pos, 0)).toArray 126) ((Below.heap_setCell wi ⟨g, p * 4 + 2, none⟩ (.int .i64 z) w.heap.size (by show w.heap.size ≠ g; omega)).trans hiti)
    have hBs := (hBi.setCell (p := ⟨g, p * 4 + 2, none⟩) (by show w.heap.size ≤ g; omega) (.int .i64 z)).alloc (by rw [hzs]; exact hBi.size) (.cells (cu false (r', pos, 0)).toArray 126)
    have HS := Lib.hid hset
    have HZS := Lib.hid hzs
    clear hown hset hzs hst hcl
    go_wp2_with (at_builtin; refine wpList_append_own_at _ rfl (.tmp 31) (.tmp 35) _ rfl (w.heap.size + 1) 126 i0 _ 4 32 Tryz.underlying123 hi0 hz0 hz1 hz2 rfl (by decide) (.slice (some ⟨g, 0, none⟩) (p + 1) cap) (p + 1) (cus (pre ++ [(r, a, z)])) rfl hos ⟨wi.heap.size, 0, none⟩ 1 1 (cu false (r', pos, 0)) rfl rfl ?d1 ?d2 ?d3 ?d4 ?d5 ?_)
    case d1 => rw [← HZS.out]; exact news_new _ _ (cu false (r', pos, 0))
    case d2 => intro u hu; simp [cu] at hu; rcases hu with rfl | rfl | rfl | rfl <;> rfl
    case d3 => simp [maxLen]; omega
    case d4 => omega
    case d5 => rw [World.size_alloc, HZS.out]; have := hBi.size; omega
    intro v' w1 hown1 hgr1 _ _
    have hit1 := grown_block hgr1 hits (by simp [Value.ownBlock]; omega)
    have hB1 : Below w.heap.size w w1 := hBs.grown hgr1 hBs.size (by intro k hk; simp [Value.ownBlock] at hk; omega)
    have HP2 : Hid ((pre ++ [(r, a, z)]).length = p + 1) := by show _ = _; rw [List.length_append, HP.out]; rfl
    clear hos hits hBs hgr1
    go_wp2
    go_roundw
    case rel =>
     refine ⟨pos + n', by omega, hit1, hB1, .inr ⟨pre ++ [(r, a, z)], r', pos, by omega, by rw [HP2.out]; omega, ?_, by rw [HP2.out]; exact hown1⟩⟩
     show _ = _
     rw [hun.out, HU.out, show pos + n' - pos = n' by omega]; simp
    case measure => rw [iterPos_of hit1, iterPos_of hit]; omega
  ·have hpe : pos = l.length := by omega
   have hnx : ∀ ty, (Instr.next (.pointer (some ⟨w.heap.size, 0, none⟩)) true ty).run Tryz.prog wr = .ok (.tuple #[.bool false]) wr := by
    intro ty
    exact Lib.run_next_end_at (P := Tryz.prog) wr w.heap.size ⟨l.toArray⟩ pos ty hit (by show ¬ pos < l.toArray.size; simpa using hp)
   have hlr : l.drop pos = [] := List.drop_eq_nil_of_le (by omega)
   rcases hcase with ⟨rfl, rfl⟩ | ⟨pre, r, a, hap, hpl, hun, hown⟩
   ·have hnil : l = [] := List.eq_nil_of_length_eq_zero hpe.symm
    subst hnil
    clear hpe hlr
    go_wp2
    go_loopw [58] (fun i wx => i = .int .i64 0 ∧ wx = wr) (fun _ _ => 0)
    case atStart => exact ⟨rfl, rfl⟩
    case round =>
     obtain ⟨rfl, rfl⟩ := hrel
     go_wp2
     go_ret
     exact ⟨_, rfl, World.ownsRow_nil _ _ _ _, hB⟩
   ·obtain ⟨z, hz⟩ : ∃ z : Nat, pos = a + z := ⟨pos - a, by omega⟩
    have hz' : pos - a = z := by omega
    have hzi : ((l.length : Nat) : Int) - (a : Nat) = (z : Nat) := by omega
    rw [hz', hlr, un_nil] at hun
    obtain ⟨p, hpp⟩ : ∃ p, pre.length = p := ⟨_, rfl⟩
    rw [hpp] at hown hpl
    have hcl : (cus pre).length = p * 4 := by rw [cus_len, hpp]
    have HP := Lib.hid hpp
    clear hpp hz hz' hlr
    obtain ⟨g, cap, rfl, hg1, hg2, hcap⟩ := own_form hown (by omega)
    have c1 : wr.cell? ⟨g, p * 4 + 1, none⟩ = some (.int .i64 a) := by
     rw [hown.cellAt _ (by omega), List.getElem?_append_right (by omega), hcl]
     simp [cu]
    have c2 : wr.cell? ⟨g, p * 4 + 2, none⟩ = some (.int .i64 0) := by
     rw [hown.cellAt _ (by omega), List.getElem?_append_right (by omega), hcl]
     simp [cu]
    have f2 : wr.frozen? ⟨g, p * 4 + 2, none⟩ = false := hown.frozenAt _
    have hst := hown.stored (p * 4 + 2) (.int .i64 z)
    have hset : (cus pre ++ cu false (r, a, 0)).set (p * 4 + 2) (.int .i64 z) = cus (pre ++ [(r, a, z)]) := by
     rw [List.set_append_right _ _ (by omega), hcl, show p * 4 + 2 - p * 4 = 2 by omega, cus_snoc]; rfl
    rw [hset] at hst
    have hos := hst.1
    have hBs := hB.setCell (p := ⟨g, p * 4 + 2, none⟩) (by show w.heap.size ≤ g; omega) (.int .i64 z)
    obtain ⟨us, hus⟩ : ∃ us, pre ++ [(r, a, z)] = us := ⟨_, rfl⟩
    have hul : us.length = p + 1 := by rw [← hus, List.length_append, HP.out]; rfl
    have hun2 : un 0 l = us := by rw [hun.out, hus]
    rw [hus] at hos
    have HU2 := Lib.hid hun2
    have HL := Lib.hid hul
    have hpl2 : p ≤ 2097152 := by omega
    clear hset hst hcl hown hpe hus hun hun2 hul HP
    go_wp2
    go_loopw [58] (fun i wx => ∃ k : Nat, k ≤ p + 1 ∧ i = .int .i64 k ∧ Below w.heap.size w wx ∧ wx.ownsRow (w.heap.size + 1) 126 4 (.slice (some ⟨g, 0, none⟩) (p + 1) cap) (p + 1) (mid us k)) (fun i _ => p + 1 - (intOf i).toNat)
    case atStart => exact ⟨0, by omega, rfl, hBs, hos⟩
    case round =>
     obtain ⟨k, hk, rfl, hBk, hok⟩ := hrel
     by_cases hlt : k < p + 1
     ·have hku : k < us.length := by rw [HL.out]; exact hlt
      obtain ⟨m1, m2, m3⟩ := mid_at us k hku
      obtain ⟨o1, o2⟩ := okT_cases us[k]
      have hst2 := hok.stored (k * 4 + 3) (.bool (okT us[k]))
      rw [mid_set us k hku] at hst2
      obtain ⟨x, hx⟩ : ∃ x, us[k] = x := ⟨_, rfl⟩
      rw [hx] at m1 m2 o1 o2 hst2
      have c0 : wr.cell? ⟨g, k * 4, none⟩ = some (.int .i32 x.1) := (hok.cellAt _ (by omega)).trans m1
      have c2' : wr.cell? ⟨g, k * 4 + 2, none⟩ = some (.int .i64 x.2.2) := (hok.cellAt _ (by omega)).trans m2
      have c3 : wr.cell? ⟨g, k * 4 + 3, none⟩ = some (.bool false) := (hok.cellAt _ (by omega)).trans m3
      have f3 : wr.frozen? ⟨g, k * 4 + 3, none⟩ = false := hok.frozenAt _
      have hBk2 := hBk.setCell (p := ⟨g, k * 4 + 3, none⟩) (by show w.heap.size ≤ g; omega) (.bool (okT x))
      have hosk := hst2.1
      have hcapk : k < p + 1 := hlt
      clear c1 c2 f2 hok hst2 hx m1 m2 m3 hBk
      by_cases h5 : x.1 = 65533
      ·have e5 : ((x.1 : Int) != 65533) = false := by rw [h5]; rfl
       rw [o2 h5] at hosk hBk2
       clear o1 o2 h5
       go_wp2
       go_roundw
       case rel => exact ⟨k + 1, by omega, by go_num, hBk2, hosk⟩
       case measure => simp [intOf]; omega
      ·have e5 : ((x.1 : Int) != 65533) = true := by rw [bne_iff_ne]; omega
       rw [o1 h5] at hosk hBk2
       clear o1 o2 h5
       go_wp2
       go_roundw
       case rel => exact ⟨k + 1, by omega, by go_num, hBk2, hosk⟩
       case measure => simp [intOf]; omega
     ·go_wp2
      go_ret
      refine ⟨_, rfl, ?_, hBk⟩
      rw [HU2.out, HL.out]
      unfold mid at hok
      rw [List.take_of_length_le (by rw [HL.out]; omega), List.drop_eq_nil_of_le (by rw [HL.out]; omega)] at hok
      simpa [cus] using hok
end Go.Proofs.YtgkdaebiefhgdaaGreatDoor
namespace Go.Proofs.YtgkdaebiefhgdaaGreatDoor
open Go.RowKit
theorem bytes_of {P : Program} (w : World) (src dst e : TypeId) (l : List UInt8) (hs : P.underlying src = some .string) (hd : P.underlying dst = some (.slice e)) (he : P.underlying e = some (.int .u8)) :
  ∃ c W2, (convert src dst (str l)).run P w = .ok (.slice (some ⟨w.heap.size, 0, none⟩) l.length c) W2 ∧ Below w.heap.size w W2 ∧ w.heap.size < W2.heap.size ∧
   ∀ k (hk : k < l.length), W2.cell? ⟨w.heap.size, k, none⟩ = some (.int .u8 (l[k].toNat : Nat)) := by
 have hz : (ByteArray.mk l.toArray).size = l.length := by show l.toArray.size = _; simp
 have h := run_bytes_of_string (P := P) w src dst e ⟨l.toArray⟩ hs hd he
 rw [hz] at h
 refine ⟨_, _, h, ((Below.refl _ w).drew).alloc (by simp) _, by simp, ?_⟩
 intro k hk
 have hc := World.cell?_alloc_mark w.drew (bytesRow ⟨l.toArray⟩ (grownCap w l.length 0 e)) e ((bytesRow ⟨l.toArray⟩ (grownCap w l.length 0 e)).size, (bytesRow ⟨l.toArray⟩ (grownCap w l.length 0 e)).size + 1) k
 refine hc.trans ?_
 rw [bytesRow_at _ _ _ (by show k < l.toArray.size; simpa using hk)]
 simp
end Go.Proofs.YtgkdaebiefhgdaaGreatDoor
namespace Go.Proofs.YtgkdaebiefhgdaaGreatDoor
open Go.RowKit Utf
theorem marked_at (us : List (Nat × Nat × Nat)) (k : Nat) (hk : k < us.length) (j : Nat) (hj : j < 4) :
  (us.flatMap (fun u => cu (okT u) u))[k * 4 + j]? = (cu (okT us[k]) us[k])[j]? := by
 have hl : ((us.take k).flatMap (fun u => cu (okT u) u)).length = k * 4 := by rw [marked_len]; simp; omega
 have e : us.flatMap (fun u => cu (okT u) u) = (us.take k).flatMap (fun u => cu (okT u) u) ++ (cu (okT us[k]) us[k] ++ (us.drop (k + 1)).flatMap (fun u => cu (okT u) u)) := by
  conv => lhs; rw [← List.take_append_drop k us]
  rw [List.flatMap_append, List.drop_eq_getElem_cons hk, List.flatMap_cons]
 rw [e, List.getElem?_append_right (by omega), hl, show k * 4 + j - k * 4 = j by omega, List.getElem?_append_left (by simp [cu]; omega)]
theorem un_len : ∀ (p : Nat) (l : List UInt8), (un p l).length ≤ l.length := by
 intro p l
 refine un_ind (C := fun p l => (un p l).length ≤ l.length) (fun _ => by simp [un_nil]) ?_ p l
 intro p b l h
 have hw := dec_width b l
 rw [un_cons]
 simp only [List.length_cons, List.length_drop] at h ⊢
 omega

set_option maxRecDepth 100000 in
set_option maxHeartbeats 1000000 in
theorem refValid_any (l : List UInt8) (hl : l.length ≤ 2097152) (w : World) :
  Calls Tryz.prog 151 #[str l] w (Kept (.bool (ok l)) w) := by
 have hun := un_len 0 l
 obtain ⟨us, hus⟩ : ∃ us, un 0 l = us := ⟨_, rfl⟩
 have hok : us.all okT = ok l := by rw [← hus]; exact un_ok 0 l
 have HO := Lib.hid hok
 have HUS := Lib.hid hus
 rw [hus] at hun
 clear hok hus
 go_enter Tryz.func151, Tryz.ntmps151
 go_wp2_with fail
 refine (refUnits_any l hl _).mono ?_
 rintro e w1 ⟨v, rfl, hown, hb⟩
 rw [HUS.out] at hown
 obtain ⟨n, hn⟩ : ∃ n, us.length = n := ⟨_, rfl⟩
 rw [hn] at hown hun
 have HN := Lib.hid hn
 clear hn
 rcases Nat.eq_zero_or_pos n with rfl | hpos
 ·have hnil : us = [] := List.eq_nil_of_length_eq_zero HN.out
  subst hnil
  rcases hown.2 with ⟨rfl, _⟩ | ⟨g, cap, cur, rfl, _⟩
  all_goals
   go_wp2
   go_loopw [8] (fun i wx => i = .int .i64 0 ∧ wx = w1) (fun _ _ => 0)
   case atStart => exact ⟨rfl, rfl⟩
   case round =>
    obtain ⟨rfl, rfl⟩ := hrel
    go_wp2
    go_ret
    exact ⟨ret_bool (by rw [← HO.out]; rfl), hb⟩
 ·obtain ⟨g, cap, rfl, hg1, hg2, hcap⟩ := own_form hown hpos
  go_wp2
  go_loopw [8] (fun i wx => ∃ k : Nat, k ≤ n ∧ i = .int .i64 k ∧ Below w.heap.size w wx ∧ Below w1.heap.size w1 wx ∧ Hid ((us.take k).all okT = true)) (fun i _ => n - (intOf i).toNat)
  case atStart => exact ⟨0, by omega, rfl, hb, Below.refl _ _, rfl⟩
  case round =>
   obtain ⟨k, hk, rfl, hB, hB1, hall⟩ := hrel
   by_cases hlt : k < n
   ·have hku : k < us.length := by rw [HN.out]; exact hlt
    have m0 := marked_at us k hku 0 (by omega)
    have m1 := marked_at us k hku 1 (by omega)
    have m2 := marked_at us k hku 2 (by omega)
    have m3 := marked_at us k hku 3 (by omega)
    have hts : (us.take (k + 1)).all okT = ((us.take k).all okT && okT us[k]) := by rw [List.take_succ_eq_append_getElem hku, List.all_append]; simp
    have hin : us.all okT = true → okT us[k] = true := fun h => List.all_eq_true.1 h _ (List.getElem_mem hku)
    obtain ⟨x, hx⟩ : ∃ x, us[k] = x := ⟨_, rfl⟩
    rw [hx] at m0 m1 m2 m3 hts hin
    have c0 : wr.cell? ⟨g, k * 4, none⟩ = some (.int .i32 x.1) := (hB1.cell (p := ⟨g, k * 4, none⟩) hg2).trans ((hown.cellAt _ (by omega)).trans m0)
    have c1 : wr.cell? ⟨g, k * 4 + 1, none⟩ = some (.int .i64 x.2.1) := (hB1.cell (p := ⟨g, k * 4 + 1, none⟩) hg2).trans ((hown.cellAt _ (by omega)).trans m1)
    have c2 : wr.cell? ⟨g, k * 4 + 2, none⟩ = some (.int .i64 x.2.2) := (hB1.cell (p := ⟨g, k * 4 + 2, none⟩) hg2).trans ((hown.cellAt _ (by omega)).trans m2)
    have c3 : wr.cell? ⟨g, k * 4 + 3, none⟩ = some (.bool (okT x)) := (hB1.cell (p := ⟨g, k * 4 + 3, none⟩) hg2).trans ((hown.cellAt _ (by omega)).trans m3)
    have HT := Lib.hid hts
    have HI := Lib.hid hin
    have hzB := hB.size
    have hzB1 := hB1.size
    clear m0 m1 m2 m3 hts hin hx
    cases ho : okT x with
    | true =>
     rw [ho] at c3
     go_wp2
     go_roundw
     case rel => exact ⟨k + 1, by omega, by go_num, hB.alloc hB.size _, hB1.alloc hB1.size _, by show _ = _; rw [HT.out, hall.out, ho]; rfl⟩
     case measure => simp [intOf]; omega
    | false =>
     rw [ho] at c3
     go_wp2
     go_ret
     refine ⟨ret_bool ?_, hB.alloc hB.size _⟩
     cases hk : ok l with
     | false => rfl
     | true => have := HI.out (by rw [HO.out]; exact hk); rw [ho] at this; cases this
   ·go_wp2
    go_ret
    refine ⟨ret_bool ?_, hB⟩
    rw [← HO.out, ← hall.out, List.take_of_length_le (by rw [HN.out]; omega)]

theorem ctlB_cons (c : UInt8) (l : List UInt8) : ctlB (c :: l) = (ctlT c.toNat || ctlB l) := rfl
theorem ctlT_byte (c : UInt8) : ctlT c.toNat = (decide ((c.toNat : Int) < 32) || ((c.toNat : Nat) : Int) == 127) := by
 unfold ctlT
 rw [Bool.eq_iff_iff]; simp; omega

set_option maxHeartbeats 1000000 in
theorem refValue_any (l : List UInt8) (hl : l.length ≤ 9223372036854775807) (w : World) :
  Calls Tryz.prog 116 #[str l] w (Kept (.int .i64 (vErr l : Nat)) w) := by
 by_cases h1 : 120 < l.length
 ·have E := Lib.hid (show (vErr l : Int) = 2 by rw [vErr_long h1]; rfl)
  go_enter Tryz.func116, Tryz.ntmps116
  go_wp2
  go_ret
  exact ⟨ret_int E.out.symm, Below.refl _ _⟩
 ·cases h2 : ok l with
  | false =>
   have E := Lib.hid (vErr_enc h1 h2)
   go_enter Tryz.func116, Tryz.ntmps116
   go_wp2_with (go_at_call 151; refine (refValid_any l (by omega) _).mono ?_; rintro e w1 ⟨rfl, hb⟩)
   go_ret
   exact ⟨ret_int (by rw [E.out]; rfl), hb⟩
  | true =>
   have E := Lib.hid (vErr_ctl h1 h2)
   go_enter Tryz.func116, Tryz.ntmps116
   go_wp2_with fail
   refine (refValid_any l (by omega) _).mono ?_
   rintro e w1 ⟨rfl, hb⟩
   obtain ⟨c, W2, hcv, hb2, hz2, hcell⟩ := bytes_of (P := Tryz.prog) w1 9 79 5 l Tryz.underlying9 Tryz.underlying79 Tryz.underlying5
   have hB : Below w.heap.size w W2 := hb.trans (hb2.mono hb.size)
   go_wp2
   go_loop [14] (fun i => ∃ k : Nat, k ≤ l.length ∧ i = .int .i64 k ∧ Hid (ctlB l = ctlB (l.drop k))) (fun i => l.length - (intOf i).toNat)
   case atStart => exact ⟨0, by omega, rfl, rfl⟩
   case round =>
    obtain ⟨k, hk, rfl, hc⟩ := hrel
    by_cases hlt : k < l.length
    ·have c0 := hcell k hlt
     have T := Lib.hid (ctlT_byte l[k])
     have hd : ctlB (l.drop k) = (ctlT l[k].toNat || ctlB (l.drop (k + 1))) := by rw [List.drop_eq_getElem_cons hlt, ctlB_cons]
     have HD := Lib.hid hd
     clear hcell hd hcv
     obtain ⟨x, hx⟩ : ∃ x, l[k].toNat = x := ⟨_, rfl⟩
     rw [hx] at c0 T HD
     clear hx
     by_cases c1 : (x : Int) < 32
     ·go_wp2
      go_ret
      exact ⟨ret_int (by rw [E.out, hc.out, HD.out, T.out, decide_eq_true c1]; rfl), hB⟩
     ·by_cases c2 : ((x : Int) == 127) = true
      ·go_wp2
       go_ret
       exact ⟨ret_int (by rw [E.out, hc.out, HD.out, T.out, c2]; simp), hB⟩
      ·have c2 : ((x : Int) == 127) = false := by simpa using c2
       go_wp2
       go_round
       case rel => exact ⟨k + 1, by omega, by go_num, by show _ = _; rw [hc.out, HD.out, T.out, c2, decide_eq_false c1]; rfl⟩
       case measure => simp [intOf]; omega
    ·go_wp2
     go_ret
     exact ⟨ret_int (by rw [E.out, hc.out, List.drop_eq_nil_of_le (by omega)]; rfl), hB⟩
end Go.Proofs.YtgkdaebiefhgdaaGreatDoor
namespace Go.Proofs.YtgkdaebiefhgdaaGreatDoor
open Go.RowKit Utf
theorem byte_mk (l : List UInt8) (i : Nat) (h : i < (ByteArray.mk l.toArray).size) : (ByteArray.mk l.toArray)[i]'h = l[i]'(by have : i < l.toArray.size := h; simpa using this) := rfl
theorem add_str {P : Program} (w : World) (a b : List UInt8) (h : a.length + b.length ≤ 9223372036854775807) : (Op.stringOp .add ⟨a.toArray⟩ ⟨b.toArray⟩).run P w = .ok (str (a ++ b)) w := by
 rw [run_string_add_sum w _ _ (by show a.toArray.size + b.toArray.size ≤ _; simpa using h), ByteArray.mk_append_mk]

theorem ba_size (l : List UInt8) : (ByteArray.mk l.toArray).size = l.length := by show l.toArray.size = _; simp
theorem str_from {P : Program} (t : TypeId) (ht : P.underlying t = some .string) (l : List UInt8) (k : Nat) (hk : k ≤ l.length) (w : World) :
  (Instr.slice t (str l) (some (.int .i64 (k : Int))) none none).run P w = .ok (str (l.drop k)) w := by
 rw [run_slice_string_l w t ⟨l.toArray⟩ ht .i64 (k : Int) (by omega) (by rw [ba_size]; omega), ByteArray.extract_mk, ba_size, Int.toNat_natCast, List.take_of_length_le (by simp)]
theorem str_mid {P : Program} (t : TypeId) (ht : P.underlying t = some .string) (l : List UInt8) (j k : Nat) (hj : j ≤ k) (hk : k ≤ l.length) (w : World) :
  (Instr.slice t (str l) (some (.int .i64 (j : Int))) (some (.int .i64 (k : Int))) none).run P w = .ok (str ((l.drop j).take (k - j))) w := by
 rw [run_slice_string w t ⟨l.toArray⟩ .i64 .i64 (j : Int) (k : Int) ht (by omega) (by omega) (by rw [ba_size]; omega), ByteArray.extract_mk, Int.toNat_natCast, Int.toNat_natCast]
end Go.Proofs.YtgkdaebiefhgdaaGreatDoor
namespace Go.Proofs.YtgkdaebiefhgdaaGreatDoor
open Go.RowKit Utf Tagp
open Feat (Bs)
attribute [local go_sem] byte_mk ByteArray.extract_mk
theorem beg_int (c : UInt8) : beg c = ((decide (65 ≤ (c.toNat : Int)) && decide ((c.toNat : Int) ≤ 90) || decide (97 ≤ (c.toNat : Int)) && decide ((c.toNat : Int) ≤ 122)) || (c.toNat : Int) == 95) := by
 unfold beg
 rw [Bool.eq_iff_iff]
 simp only [Bool.or_eq_true, Bool.and_eq_true, decide_eq_true_eq, beq_iff_eq]
 omega
theorem bool_of {a b : Bool} (h : a = true ↔ b = true) : a = b := Bool.eq_iff_iff.2 h
theorem beg_iff (c : UInt8) : beg c = true ↔ (65 ≤ (c.toNat : Int) ∧ (c.toNat : Int) ≤ 90 ∨ 97 ≤ (c.toNat : Int) ∧ (c.toNat : Int) ≤ 122) ∨ (c.toNat : Int) = 95 := by
 rw [beg_int]
 simp only [Bool.or_eq_true, Bool.and_eq_true, decide_eq_true_eq, beq_iff_eq]
theorem begins_any (c : UInt8) (w : World) : Calls Tryz.prog 149 #[.int .u8 (c.toNat : Nat)] w (SameW (.bool (beg c)) w) := by
 go_enter Tryz.func149, Tryz.ntmps149
 go_wp2
 all_goals go_ret
 all_goals refine ⟨ret_bool (bool_of ((beg_iff c).trans ?_).symm), rfl⟩
 all_goals simp
 all_goals omega
theorem first_any (c : UInt8) (w : World) : Calls Tryz.prog 106 #[.int .u8 (c.toNat : Nat)] w (SameW (.bool (beg c)) w) := by
 go_enter Tryz.func106, Tryz.ntmps106
 go_wp2
 all_goals go_ret
 all_goals refine ⟨ret_bool (bool_of ((beg_iff c).trans ?_).symm), rfl⟩
 all_goals simp
 all_goals omega
theorem gon_iff (c : UInt8) (b : Bool) (h : beg c = b) : gon c = true ↔ (b = true ∨ 48 ≤ (c.toNat : Int) ∧ (c.toNat : Int) ≤ 57) ∨ (c.toNat : Int) = 45 := by
 subst h
 unfold gon dig
 cases beg c
 ·simp only [Bool.or_eq_true, Bool.and_eq_true, decide_eq_true_eq, Bool.false_eq_true, false_or]
  omega
 ·simp
theorem goesOn_any (c : UInt8) (w : World) : Calls Tryz.prog 150 #[.int .u8 (c.toNat : Nat)] w (SameW (.bool (gon c)) w) := by
 have hg := gon_iff c _ rfl
 obtain ⟨b, hb⟩ : ∃ b, beg c = b := ⟨_, rfl⟩
 have hx := begins_any c w
 rw [hb] at hg hx
 have HG := Lib.hid hg
 clear hg hb
 go_enter Tryz.func150, Tryz.ntmps150
 go_wp2_with fail
 refine hx.mono ?_
 rintro e w1 ⟨rfl, rfl⟩
 cases b
 all_goals go_wp2
 all_goals go_ret
 all_goals refine ⟨ret_bool (bool_of (HG.out.trans ?_).symm), rfl⟩
 all_goals simp
 all_goals omega
theorem next_any (c : UInt8) (w : World) : Calls Tryz.prog 107 #[.int .u8 (c.toNat : Nat)] w (SameW (.bool (gon c)) w) := by
 have hg := gon_iff c _ rfl
 obtain ⟨b, hb⟩ : ∃ b, beg c = b := ⟨_, rfl⟩
 have hx := first_any c w
 rw [hb] at hg hx
 have HG := Lib.hid hg
 clear hg hb
 go_enter Tryz.func107, Tryz.ntmps107
 go_wp2_with fail
 refine hx.mono ?_
 rintro e w1 ⟨rfl, rfl⟩
 cases b
 all_goals go_wp2
 all_goals go_ret
 all_goals refine ⟨ret_bool (bool_of (HG.out.trans ?_).symm), rfl⟩
 all_goals simp
 all_goals omega

theorem okName_no {s : Bs} (h : s.length = 0 ∨ 32 < s.length) : okName s = false := by
 unfold okName
 rcases h with h | h
 ·simp [h]
 ·simp; intros; omega
theorem okName_head {s : Bs} (h0 : 0 < s.length) (h : beg s[0] = false) : okName s = false := by
 unfold okName
 match s, h0, h with
 | c :: r, _, h => simp at h; simp [h]
theorem okName_yes {s : Bs} (h0 : 0 < s.length) (h1 : s.length ≤ 32) (h : beg s[0] = true) : okName s = s.all gon := by
 unfold okName
 match s, h0, h1, h with
 | c :: r, _, h1, h => simp at h h1; simp [h]; intros; omega
theorem all_drop {s : Bs} {k : Nat} (hk : k < s.length) : (s.drop k).all gon = (gon s[k] && (s.drop (k + 1)).all gon) := by rw [List.drop_eq_getElem_cons hk]; rfl
theorem gon_beg {c : UInt8} (h : beg c = true) : gon c = true := by unfold gon; simp [h]

set_option maxHeartbeats 800000 in
theorem validName_any (s : Bs) (hs : s.length ≤ 9223372036854775807) (w : World) : Calls Tryz.prog 101 #[str s] w (SameW (.bool (okName s)) w) := by
 by_cases h0 : s.length = 0 ∨ 32 < s.length
 ·have HE := Lib.hid (okName_no h0)
  by_cases h1 : s.length = 0
  ·have d1 : decide ((s.length : Int) < 1) = true := by rw [decide_eq_true_iff]; omega
   clear h0 h1
   go_enter Tryz.func101, Tryz.ntmps101
   go_wp2
   go_ret
   exact ⟨ret_bool HE.out.symm, rfl⟩
  ·have d1 : decide ((s.length : Int) < 1) = false := by rw [decide_eq_false_iff_not]; omega
   have d2 : decide ((32 : Int) < (s.length : Int)) = true := by rw [decide_eq_true_iff]; omega
   clear h0 h1
   go_enter Tryz.func101, Tryz.ntmps101
   go_wp2
   go_ret
   exact ⟨ret_bool HE.out.symm, rfl⟩
 ·have d1 : decide ((s.length : Int) < 1) = false := by rw [decide_eq_false_iff_not]; omega
  have d2 : decide ((32 : Int) < (s.length : Int)) = false := by rw [decide_eq_false_iff_not]; omega
  have hp : 0 < s.length := by omega
  cases hb : beg s[0] with
  | false =>
   have HE := Lib.hid (okName_head hp hb)
   have HB := Lib.hid hb
   clear h0 hb
   go_enter Tryz.func101, Tryz.ntmps101
   go_wp2_with fail
   refine (begins_any s[0] w).mono ?_
   rintro e w1 ⟨rfl, rfl⟩
   rw [HB.out]
   go_wp2
   go_ret
   exact ⟨ret_bool HE.out.symm, rfl⟩
  | true =>
   have HE := Lib.hid (okName_yes hp (by omega) hb)
   have HB := Lib.hid hb
   clear h0 hb
   go_enter Tryz.func101, Tryz.ntmps101
   go_wp2_with fail
   refine (begins_any s[0] w).mono ?_
   rintro e w1 ⟨rfl, rfl⟩
   rw [HB.out]
   go_wp2
   go_loop [20] (fun i => ∃ k : Nat, k ≤ s.length ∧ i = .int .i64 k ∧ Hid (s.all gon = (s.drop k).all gon)) (fun i => s.length - (intOf i).toNat)
   case atStart => exact ⟨0, by omega, rfl, rfl⟩
   case round =>
    obtain ⟨k, hk, rfl, hno⟩ := hrel
    by_cases hlt : k < s.length
    ·have hst := Lib.hid (all_drop hlt)
     cases hg : gon s[k] with
     | true =>
      have HG := Lib.hid hg
      clear hg
      go_wp2_with fail
      refine (goesOn_any s[k] w).mono ?_
      rintro e w1 ⟨rfl, rfl⟩
      rw [HG.out]
      go_wp2
      go_round
      case rel => exact ⟨k + 1, by omega, by go_num, by show _ = _; rw [hno.out, hst.out, HG.out]; rfl⟩
      case measure => simp [intOf]; omega
     | false =>
      have HG := Lib.hid hg
      clear hg
      go_wp2_with fail
      refine (goesOn_any s[k] w).mono ?_
      rintro e w1 ⟨rfl, rfl⟩
      rw [HG.out]
      go_wp2
      go_ret
      exact ⟨ret_bool (by rw [HE.out, hno.out, hst.out, HG.out]; rfl), rfl⟩
    ·have hd : Hid (s.drop k = []) := List.drop_eq_nil_of_le (by omega)
     go_wp2
     go_ret
     exact ⟨ret_bool (by rw [HE.out, hno.out, hd.out]; rfl), rfl⟩

set_option maxHeartbeats 800000 in
theorem refValidName_any (s : Bs) (hs : s.length ≤ 9223372036854775807) (w : World) : Calls Tryz.prog 66 #[str s] w (SameW (.bool (okName s)) w) := by
 by_cases h0 : s.length = 0 ∨ 32 < s.length
 ·have HE := Lib.hid (okName_no h0)
  by_cases h1 : s.length = 0
  ·have d1 : decide ((s.length : Int) < 1) = true := by rw [decide_eq_true_iff]; omega
   clear h0 h1
   go_enter Tryz.func66, Tryz.ntmps66
   go_wp2
   go_ret
   exact ⟨ret_bool HE.out.symm, rfl⟩
  ·have d1 : decide ((s.length : Int) < 1) = false := by rw [decide_eq_false_iff_not]; omega
   have d2 : decide ((32 : Int) < (s.length : Int)) = true := by rw [decide_eq_true_iff]; omega
   clear h0 h1
   go_enter Tryz.func66, Tryz.ntmps66
   go_wp2
   go_ret
   exact ⟨ret_bool HE.out.symm, rfl⟩
 ·have d1 : decide ((s.length : Int) < 1) = false := by rw [decide_eq_false_iff_not]; omega
  have d2 : decide ((32 : Int) < (s.length : Int)) = false := by rw [decide_eq_false_iff_not]; omega
  have hp : 0 < s.length := by omega
  cases hb : beg s[0] with
  | false =>
   have HE := Lib.hid (okName_head hp hb)
   have HB := Lib.hid hb
   clear h0 hb
   go_enter Tryz.func66, Tryz.ntmps66
   go_wp2_with fail
   refine (first_any s[0] w).mono ?_
   rintro e w1 ⟨rfl, rfl⟩
   rw [HB.out]
   go_wp2
   go_ret
   exact ⟨ret_bool HE.out.symm, rfl⟩
  | true =>
   have HE := Lib.hid (okName_yes hp (by omega) hb)
   have HB := Lib.hid hb
   clear h0 hb
   go_enter Tryz.func66, Tryz.ntmps66
   go_wp2_with fail
   refine (first_any s[0] w).mono ?_
   rintro e w1 ⟨rfl, rfl⟩
   rw [HB.out]
   go_wp2
   go_loop [3] (fun i => ∃ k : Nat, k ≤ s.length ∧ i = .int .i64 k ∧ Hid (s.all gon = (s.drop k).all gon)) (fun i => s.length - (intOf i).toNat)
   case atStart => exact ⟨1, by omega, rfl, by show _ = _; have h1 := all_drop hp; rw [List.drop_zero] at h1; rw [h1, gon_beg HB.out]; rfl⟩
   case round =>
    obtain ⟨k, hk, rfl, hno⟩ := hrel
    by_cases hlt : k < s.length
    ·have hst := Lib.hid (all_drop hlt)
     cases hg : gon s[k] with
     | true =>
      have HG := Lib.hid hg
      clear hg
      go_wp2_with fail
      refine (next_any s[k] w).mono ?_
      rintro e w1 ⟨rfl, rfl⟩
      rw [HG.out]
      go_wp2
      go_round
      case rel => exact ⟨k + 1, by omega, by go_num, by show _ = _; rw [hno.out, hst.out, HG.out]; rfl⟩
      case measure => simp [intOf]; omega
     | false =>
      have HG := Lib.hid hg
      clear hg
      go_wp2_with fail
      refine (next_any s[k] w).mono ?_
      rintro e w1 ⟨rfl, rfl⟩
      rw [HG.out]
      go_wp2
      go_ret
      exact ⟨ret_bool (by rw [HE.out, hno.out, hst.out, HG.out]; rfl), rfl⟩
    ·have hd : Hid (s.drop k = []) := List.drop_eq_nil_of_le (by omega)
     go_wp2
     go_ret
     exact ⟨ret_bool (by rw [HE.out, hno.out, hd.out]; rfl), rfl⟩
end Go.Proofs.YtgkdaebiefhgdaaGreatDoor
namespace Go.Proofs.YtgkdaebiefhgdaaGreatDoor
open Go.RowKit Utf Feat
theorem info_string : (Tryz.prog.info? 9).map (fun i => (i.zero, i.size, i.bytes)) = some (some (.string ⟨#[]⟩), 1, 16) := by kernel_rfl

theorem strs_snoc (l : List Bs) (x : Bs) : strs (l ++ [x]) = strs l ++ [str x] := by simp [strs]

attribute [local go_sem] byte_mk ByteArray.extract_mk
theorem own_str {w : World} {base : Nat} {e : TypeId} {g n cap : Nat} {l : List Bs} (h : w.ownsRow base e 1 (.slice (some ⟨g, 0, none⟩) n cap) n (strs l)) (k : Nat) (hk : k < l.length) :
  w.cell? ⟨g, k, none⟩ = some (str l[k]) := by
 have hl : l.length = n * 1 := by simpa [strs] using h.1
 rw [h.cellAt k (by omega)]
 simp [strs]

def Listed (l : List Bs) (n : Nat) (w : World) (e : Ending) (w' : World) : Prop :=
 ∃ v, e = .returned (.tuple #[v, .int .i64 (n : Nat)]) ∧ w'.ownsRow w.heap.size 9 1 v l.length (strs l) ∧ Below w.heap.size w w'

theorem listed_nil {l : Bs} {n : Nat} {w w' : World} (h : parse l = ([], n)) (k : Int) (hk : k = n) (hb : Below w.heap.size w w') :
  Listed (parse l).1 (parse l).2 w (.returned (.tuple #[.slice none 0 0, .int .i64 k])) w' := by
 rw [h, hk]; exact ⟨_, rfl, World.ownsRow_nil _ _ _ _, hb⟩

theorem parse_vErr {s : Bs} (h : vErr s ≠ 0) : parse s = ([], vErr s) := by unfold parse; rw [if_pos h]
theorem parse_bar : parse [124] = ([], 0) := by decide
theorem parse_ends {s : Bs} (h : vErr s = 0) (k : ¬ (s.head? = some 124 ∧ s.getLast? = some 124)) : parse s = ([], 3) := by
 unfold parse; rw [if_neg (by simpa using h), if_neg k]
theorem parse_scan {s : Bs} (h : vErr s = 0) (k : s.head? = some 124 ∧ s.getLast? = some 124) :
  parse s = match scan [] s.tail with | none => ([], 3) | some l => if asc l then (l, 0) else ([], 6) := by
 unfold parse; rw [if_neg (by simpa using h), if_pos k]; try rfl

theorem take_step (s : Bs) (f i : Nat) (h : f ≤ i) (hi : i < s.length) : (s.drop f).take (i + 1 - f) = (s.drop f).take (i - f) ++ [s[i]] := by
 rw [show i + 1 - f = (i - f) + 1 by omega, List.take_succ_eq_append_getElem (by simp; omega)]
 simp [List.getElem_drop, show f + (i - f) = i by omega]

theorem scan_other (s : Bs) (f i : Nat) (h : f ≤ i) (hi : i < s.length) (hc : s[i] ≠ 124) :
  scan ((s.drop f).take (i - f)) (s.drop i) = scan ((s.drop f).take (i + 1 - f)) (s.drop (i + 1)) := by
 rw [take_step s f i h hi, List.drop_eq_getElem_cons hi, scan, if_neg hc]
theorem scan_empty (s : Bs) (i : Nat) (hi : i < s.length) (hc : s[i] = 124) : scan ((s.drop i).take (i - i)) (s.drop i) = none := by
 rw [Nat.sub_self, List.take_zero, List.drop_eq_getElem_cons hi, scan, if_pos hc, if_pos rfl]
theorem scan_bar (s : Bs) (f i : Nat) (h : f < i) (hi : i < s.length) (hc : s[i] = 124) :
  scan ((s.drop f).take (i - f)) (s.drop i) = (scan ((s.drop (i + 1)).take (i + 1 - (i + 1))) (s.drop (i + 1))).map (((s.drop f).take (i - f)) :: ·) := by
 rw [List.drop_eq_getElem_cons hi, scan, if_pos hc, if_neg, Nat.sub_self, List.take_zero]
 intro e
 have := congrArg List.length e
 simp at this; omega

theorem asc_step (l : List Bs) (k : Nat) (h1 : 1 ≤ k) (hk : k < l.length) : asc (l.take (k + 1)) = (asc (l.take k) && lt (l[k - 1]'(by omega)) l[k]) := by
 induction l generalizing k with
 | nil => simp at hk
 | cons x l ih =>
  match l, k, h1, hk with
  | [], _, _, hk => simp at hk; omega
  | y :: r, 1, _, _ => simp [asc]
  | y :: r, k + 2, _, hk =>
   have := ih (k + 1) (by omega) (by simpa using hk)
   simp only [List.take_succ_cons, asc] at this ⊢
   rw [this]
   simp [Bool.and_assoc]
theorem asc_no (l : List Bs) (k : Nat) (h1 : 1 ≤ k) (hk : k < l.length) (h : lt (l[k - 1]'(by omega)) l[k] = false) : asc l = false := by
 cases ha : asc l with
 | false => rfl
 | true =>
  have := (asc_iff l).1 ha
  unfold Asc at this
  rw [List.pairwise_iff_getElem] at this
  have := this (k - 1) k (by omega) hk (by omega)
  rw [h] at this; cases this
theorem asc_one (l : List Bs) (h : l.length ≤ 1) : asc l = true := by
 match l, h with
 | [], _ => rfl
 | [_], _ => rfl

set_option maxRecDepth 100000 in
set_option maxHeartbeats 2000000 in
theorem parse_any (s : Bs) (hs : s.length ≤ 9223372036854775807) (w : World) :
  Calls Tryz.prog 144 #[str s] w (Listed (parse s).1 (parse s).2 w) := by
 obtain ⟨i0, hi0, hz0, hz1, hz2⟩ := info_parts info_string
 by_cases h0 : vErr s = 0
 ·obtain ⟨hlen, _, _⟩ := (vErr_zero s).1 h0
  have E : Hid ((vErr s : Int) = 0) := by show _ = _; rw [h0]; rfl
  by_cases hbar : s = [124]
  ·subst hbar
   go_enter Tryz.func144, Tryz.ntmps144
   go_wp2_with fail
   refine (value_any _ hs _).mono ?_
   rintro e w1 ⟨rfl, hb⟩
   rw [E.out]
   go_wp2
   go_ret2
   exact listed_nil parse_bar _ rfl hb
  ·have hbar2 : (s == [124]) = false := by simpa using hbar
   by_cases h2 : s.length < 2
   ·have hp := parse_ends (s := s) h0 (by
     match s, h2, hbar with
     | [], _, _ => simp
     | [c], _, hb => simp at hb; simp [hb])
    go_enter Tryz.func144, Tryz.ntmps144
    go_wp2_with fail
    refine (value_any _ hs _).mono ?_
    rintro e w1 ⟨rfl, hb⟩
    rw [E.out]
    have HP := Lib.hid hp
    clear hp h0 hlen
    go_wp2
    go_ret2
    exact listed_nil HP.out _ rfl hb
   ·have hn0 : 0 < s.length := by omega
    have hn1 : s.length - 1 < s.length := by omega
    have ends : (s.head? = some 124 ∧ s.getLast? = some 124) ↔ (s[0] = 124 ∧ s[s.length - 1] = 124) := by
     rw [List.head?_eq_getElem?, List.getLast?_eq_getElem?, List.getElem?_eq_getElem hn0, List.getElem?_eq_getElem hn1]
     simp
    by_cases hends : s[0] = 124 ∧ s[s.length - 1] = 124
    ·have hp := parse_scan (s := s) h0 (ends.2 hends)
     have b0 : ((s[0].toNat : Int) != 124) = false := by rw [hends.1]; rfl
     have b1 : ((s[s.length - 1].toNat : Int) != 124) = false := by rw [hends.2]; rfl
     have HP := Lib.hid hp
     clear hp h0 ends hends
     go_enter Tryz.func144, Tryz.ntmps144
     go_wp2_with fail
     refine (value_any _ hs _).mono ?_
     rintro e w1 ⟨rfl, hb⟩
     rw [E.out]
     go_wp2
     clear b0 b1 hbar hbar2
     go_loopw [5, 6, 7] (fun v fr iv wr => ∃ (i f : Nat) (acc : List Bs), iv = .int .i64 i ∧ fr = .int .i64 f ∧ 1 ≤ f ∧ f ≤ i ∧ i ≤ s.length ∧ acc.length < f ∧ wr.ownsRow w.heap.size 9 1 v acc.length (strs acc) ∧ Below w.heap.size w wr ∧
       Hid (scan [] s.tail = (scan ((s.drop f).take (i - f)) (s.drop i)).map (acc ++ ·)))
      (fun _ _ iv _ => s.length - (intOf iv).toNat)
     case atStart => exact ⟨1, 1, [], rfl, rfl, by omega, by omega, by omega, by simp, World.ownsRow_nil _ _ _ _, hb, by show _ = _; rw [← List.drop_one]; simp⟩
     case round =>
      obtain ⟨i, f, acc, rfl, rfl, hf1, hfi, hi, hacc, hown, hB, hsc⟩ := hrel
      by_cases hlt : i < s.length
      ·by_cases hc : s[i] = 124
       ·have bc : ((s[i].toNat : Int) != 124) = false := by rw [hc]; rfl
        by_cases hif : i = f
        ·subst hif
         have he := scan_empty s i hlt hc
         have HE := Lib.hid he
         clear he hc
         go_wp2
         go_ret2
         refine listed_nil ?_ _ rfl hB
         rw [HP.out, hsc.out, HE.out]; rfl
        ·have hif' : ((i : Int) == f) = false := by rw [beq_eq_false_iff_ne]; omega
         have he := scan_bar s f i (by omega) hlt hc
         have HE := Lib.hid he
         have hoa := hown.alloc (.cells #[str ((s.drop f).take (i - f))] 9)
         have hBa := hB.alloc hB.size (.cells #[str ((s.drop f).take (i - f))] 9)
         clear he hc hif
         go_wp2_with (at_builtin; refine wpList_append_own _ rfl (.tmp 45) (.tmp 50) _ rfl w.heap.size 9 i0 _ 1 16 Tryz.underlying28 hi0 hz0 hz1 hz2 rfl (by decide) _ _ _ rfl hoa ⟨wr.heap.size, 0, none⟩ 1 1 [str ((s.drop f).take (i - f))] rfl rfl ?c1 ?c2 ?c3 ?c4 ?c5 ?_)
         case c1 => exact news_new _ _ [_]
         case c2 => intro u hu; simp at hu; subst hu; rfl
         case c3 => simp [maxLen]; omega
         case c4 => omega
         case c5 => exact hBa.size
         intro v' w2 hown2 hg2 _
         have hB2 : Below w.heap.size w w2 := hBa.grown hg2 hBa.size (fun k hk => (hown.lt k hk).1)
         rw [← strs_snoc] at hown2
         clear hoa hBa hg2 hown
         go_wp2
         go_roundw
         case rel =>
          refine ⟨i + 1, i + 1, acc ++ [(s.drop f).take (i - f)], by go_num, by go_num, by omega, by omega, by omega, by simp; omega, by simpa using hown2, hB2, ?_⟩
          show _ = _
          rw [hsc.out, HE.out]
          cases scan ((s.drop (i + 1)).take (i + 1 - (i + 1))) (s.drop (i + 1)) <;> simp
         case measure => simp [intOf]; omega
       ·have bc : ((s[i].toNat : Int) != 124) = true := by
         rw [bne_iff_ne]; intro h; exact hc (UInt8.toNat_inj.1 (by show _ = 124; omega))
        have he := scan_other s f i hfi hlt hc
        have HE := Lib.hid he
        clear he hc
        go_wp2
        go_roundw
        case rel => exact ⟨i + 1, f, acc, by go_num, rfl, hf1, by omega, by omega, hacc, hown, hB, by show _ = _; rw [hsc.out, HE.out]⟩
        case measure => simp [intOf]; omega
      ·have hie : i = s.length := by omega
       have hfin : scan [] s.tail = some acc := by
        rw [hsc.out, List.drop_eq_nil_of_le (by omega : s.length ≤ i)]; simp [scan]
       have HF := Lib.hid hfin
       clear hfin hsc hie
       obtain ⟨wo, rfl⟩ : ∃ wo : World, wo = wr := ⟨_, rfl⟩
       have hlen2 : acc.length ≤ 120 := by omega
       have hpar : parse s = if asc acc then (acc, 0) else ([], 6) := by rw [HP.out, HF.out]
       have HPA := Lib.hid hpar
       clear hpar
       have hfm := own_form hown
       rcases hown.2 with ⟨rfl, hn⟩ | ⟨g, cap, _, rfl, _⟩
       ·have hnil : acc = [] := List.eq_nil_of_length_eq_zero hn
        subst hnil
        clear hfm hn
        go_wp2
        go_loopw [8] (fun iv wr => iv = .int .i64 1 ∧ wr = wo) (fun _ _ => 0)
        case atStart => exact ⟨rfl, rfl⟩
        case round =>
         obtain ⟨rfl, rfl⟩ := hrel
         go_wp2
         go_ret2
         refine listed_nil ?_ _ rfl hB
         rw [HPA.out]; rfl
       ·clear hfm
        go_wp2
        go_loopw [8] (fun iv wr => ∃ k q : Nat, 1 ≤ k ∧ (k ≤ acc.length ∨ k = 1) ∧ iv = .int .i64 k ∧ wr = wo.drewN q ∧ Hid (asc (acc.take k) = true)) (fun iv _ => acc.length - (intOf iv).toNat)
        case atStart => exact ⟨1, 0, by omega, .inr rfl, rfl, rfl, asc_one _ (by simp; omega)⟩
        case round =>
         obtain ⟨k, q, hk1, hk, rfl, rfl, hasc⟩ := hrel
         by_cases hlt : k < acc.length
         ·have hk1' : k - 1 < acc.length := by omega
          have c1 : wo.cell? ⟨g, k - 1, none⟩ = some (str acc[k - 1]) := own_str hown _ hk1'
          have c2 : wo.cell? ⟨g, k, none⟩ = some (str acc[k]) := own_str hown _ hlt
          have hstep := Lib.hid (asc_step acc k hk1 hlt)
          have hno := Lib.hid (asc_no acc k hk1 hlt)
          have hki : (k : Int) - 1 = ((k - 1 : Nat) : Int) := by omega
          cases hcmp : Op.bytesLess acc[k - 1] acc[k] with
          | true =>
           go_wp2
           go_quiet (fail)
           go_wp2
           go_roundw
           case rel => exact ⟨k + 1, _, by omega, .inl (by omega), by go_num, rfl, by show _ = _; rw [hstep.out, hasc.out]; exact hcmp⟩
           case measure => simp [intOf]; omega
          | false =>
           go_wp2
           go_quiet (fail)
           go_wp2
           go_ret2
           refine listed_nil ?_ _ rfl (by first | exact below_drewN hB _ | exact below_drewN (below_drewN hB _) _)
           rw [HPA.out, hno.out hcmp]; rfl
         ·go_wp2
          go_ret2
          have ha : asc acc = true := by
           rw [← hasc.out]
           rcases hk with h | h
           ·rw [List.take_of_length_le (by omega)]
           ·rw [asc_one acc (by omega), asc_one _ (by simp; omega)]
          rw [HPA.out, ha]
          exact ⟨_, rfl, own_same hown (fun _ _ => rfl), below_drewN hB _⟩
    ·have hp := parse_ends (s := s) h0 (fun h => hends (ends.1 h))
     have HP := Lib.hid hp
     clear hp h0 ends
     by_cases b0 : s[0] = 124
     ·have b0' : ((s[0].toNat : Int) != 124) = false := by rw [b0]; rfl
      have b1' : ((s[s.length - 1].toNat : Int) != 124) = true := by
       rw [bne_iff_ne]; intro h; exact hends ⟨b0, UInt8.toNat_inj.1 (by show _ = 124; omega)⟩
      clear b0 hends
      go_enter Tryz.func144, Tryz.ntmps144
      go_wp2_with fail
      refine (value_any _ hs _).mono ?_
      rintro e w1 ⟨rfl, hb⟩
      rw [E.out]
      go_wp2
      go_ret2
      exact listed_nil HP.out _ rfl hb
     ·have b0' : ((s[0].toNat : Int) != 124) = true := by
       rw [bne_iff_ne]; intro h; exact b0 (UInt8.toNat_inj.1 (by show _ = 124; omega))
      clear b0 hends
      go_enter Tryz.func144, Tryz.ntmps144
      go_wp2_with fail
      refine (value_any _ hs _).mono ?_
      rintro e w1 ⟨rfl, hb⟩
      rw [E.out]
      go_wp2
      go_ret2
      exact listed_nil HP.out _ rfl hb
 ·have e0 : ((vErr s : Int) != 0) = true := by rw [bne_iff_ne]; omega
  have HP := Lib.hid (parse_vErr h0)
  clear h0
  go_enter Tryz.func144, Tryz.ntmps144
  go_wp2_with (go_at_call 143; refine (value_any _ hs _).mono ?_; rintro e w1 ⟨rfl, hb⟩)
  go_ret2
  exact listed_nil HP.out _ rfl hb
end Go.Proofs.YtgkdaebiefhgdaaGreatDoor
namespace Go.Proofs.YtgkdaebiefhgdaaGreatDoor
open Go.RowKit Utf Feat
attribute [local go_sem] byte_mk ByteArray.extract_mk
set_option maxRecDepth 100000 in
set_option maxHeartbeats 2000000 in
theorem refParse_any (s : Bs) (hs : s.length ≤ 9223372036854775807) (w : World) :
  Calls Tryz.prog 115 #[str s] w (Listed (parse s).1 (parse s).2 w) := by
 obtain ⟨i0, hi0, hz0, hz1, hz2⟩ := info_parts info_string
 by_cases h0 : vErr s = 0
 ·obtain ⟨hlen, _, _⟩ := (vErr_zero s).1 h0
  have E : Hid ((vErr s : Int) = 0) := by show _ = _; rw [h0]; rfl
  by_cases h2 : s.length = 0
  ·have hp := parse_ends (s := s) h0 (by
    match s, h2 with
    | [], _ => simp)
   have h2' : ((s.length : Int) == 0) = true := by rw [beq_iff_eq]; omega
   go_enter Tryz.func115, Tryz.ntmps115
   go_wp2_with fail
   refine (refValue_any _ hs _).mono ?_
   rintro e w1 ⟨rfl, hb⟩
   rw [E.out]
   have HP := Lib.hid hp
   clear hp h0 hlen h2
   go_wp2
   go_ret2
   exact listed_nil HP.out _ rfl hb
  ·have h2' : ((s.length : Int) == 0) = false := by rw [beq_eq_false_iff_ne]; omega
   have hn0 : 0 < s.length := by omega
   have hn1 : s.length - 1 < s.length := by omega
   have ends : (s.head? = some 124 ∧ s.getLast? = some 124) ↔ (s[0] = 124 ∧ s[s.length - 1] = 124) := by
    rw [List.head?_eq_getElem?, List.getLast?_eq_getElem?, List.getElem?_eq_getElem hn0, List.getElem?_eq_getElem hn1]
    simp
   by_cases hends : s[0] = 124 ∧ s[s.length - 1] = 124
   ·have hp := parse_scan (s := s) h0 (ends.2 hends)
    have b0 : ((s[0].toNat : Int) != 124) = false := by rw [hends.1]; rfl
    have b1 : ((s[s.length - 1].toNat : Int) != 124) = false := by rw [hends.2]; rfl
    have HP := Lib.hid hp
    clear hp h0 ends hends
    go_enter Tryz.func115, Tryz.ntmps115
    go_wp2_with fail
    refine (refValue_any _ hs _).mono ?_
    rintro e w1 ⟨rfl, hb⟩
    rw [E.out]
    go_wp2
    clear b0 b1 h2
    go_loopw [6, 7, 8] (fun v fr iv wr => ∃ (i f : Nat) (acc : List Bs), iv = .int .i64 i ∧ fr = .int .i64 f ∧ 1 ≤ f ∧ f ≤ i ∧ i ≤ s.length ∧ acc.length < f ∧ wr.ownsRow w.heap.size 9 1 v acc.length (strs acc) ∧ Below w.heap.size w wr ∧
      Hid (scan [] s.tail = (scan ((s.drop f).take (i - f)) (s.drop i)).map (acc ++ ·)))
     (fun _ _ iv _ => s.length - (intOf iv).toNat)
    case atStart => exact ⟨1, 1, [], rfl, rfl, by omega, by omega, by omega, by simp, World.ownsRow_nil _ _ _ _, hb, by show _ = _; rw [← List.drop_one]; simp⟩
    case round =>
     obtain ⟨i, f, acc, rfl, rfl, hf1, hfi, hi, hacc, hown, hB, hsc⟩ := hrel
     by_cases hlt : i < s.length
     ·by_cases hc : s[i] = 124
      ·have bc : ((s[i].toNat : Int) != 124) = false := by rw [hc]; rfl
       by_cases hif : i = f
       ·subst hif
        have he := scan_empty s i hlt hc
        have HE := Lib.hid he
        clear he hc
        go_wp2
        go_ret2
        refine listed_nil ?_ _ rfl hB
        rw [HP.out, hsc.out, HE.out]; rfl
       ·have hif' : ((i : Int) == f) = false := by rw [beq_eq_false_iff_ne]; omega
        have he := scan_bar s f i (by omega) hlt hc
        have HE := Lib.hid he
        have hoa := hown.alloc (.cells #[str ((s.drop f).take (i - f))] 9)
        have hBa := hB.alloc hB.size (.cells #[str ((s.drop f).take (i - f))] 9)
        clear he hc hif
        go_wp2_with (at_builtin; refine wpList_append_own _ rfl (.tmp 43) (.tmp 48) _ rfl w.heap.size 9 i0 _ 1 16 Tryz.underlying28 hi0 hz0 hz1 hz2 rfl (by decide) _ _ _ rfl hoa ⟨wr.heap.size, 0, none⟩ 1 1 [str ((s.drop f).take (i - f))] rfl rfl ?c1 ?c2 ?c3 ?c4 ?c5 ?_)
        case c1 => exact news_new _ _ [_]
        case c2 => intro u hu; simp at hu; subst hu; rfl
        case c3 => simp [maxLen]; omega
        case c4 => omega
        case c5 => exact hBa.size
        intro v' w2 hown2 hg2 _
        have hB2 : Below w.heap.size w w2 := hBa.grown hg2 hBa.size (fun k hk => (hown.lt k hk).1)
        rw [← strs_snoc] at hown2
        clear hoa hBa hg2 hown
        go_wp2
        go_roundw
        case rel =>
         refine ⟨i + 1, i + 1, acc ++ [(s.drop f).take (i - f)], by go_num, by go_num, by omega, by omega, by omega, by simp; omega, by simpa using hown2, hB2, ?_⟩
         show _ = _
         rw [hsc.out, HE.out]
         cases scan ((s.drop (i + 1)).take (i + 1 - (i + 1))) (s.drop (i + 1)) <;> simp
        case measure => simp [intOf]; omega
      ·have bc : ((s[i].toNat : Int) != 124) = true := by
        rw [bne_iff_ne]; intro h; exact hc (UInt8.toNat_inj.1 (by show _ = 124; omega))
       have he := scan_other s f i hfi hlt hc
       have HE := Lib.hid he
       clear he hc
       go_wp2
       go_roundw
       case rel => exact ⟨i + 1, f, acc, by go_num, rfl, hf1, by omega, by omega, hacc, hown, hB, by show _ = _; rw [hsc.out, HE.out]⟩
       case measure => simp [intOf]; omega
     ·have hie : i = s.length := by omega
      have hfin : scan [] s.tail = some acc := by
       rw [hsc.out, List.drop_eq_nil_of_le (by omega : s.length ≤ i)]; simp [scan]
      have HF := Lib.hid hfin
      clear hfin hsc hie
      obtain ⟨wo, rfl⟩ : ∃ wo : World, wo = wr := ⟨_, rfl⟩
      have hlen2 : acc.length ≤ 120 := by omega
      have hpar : parse s = if asc acc then (acc, 0) else ([], 6) := by rw [HP.out, HF.out]
      have HPA := Lib.hid hpar
      clear hpar
      have hfm := own_form hown
      rcases hown.2 with ⟨rfl, hn⟩ | ⟨g, cap, _, rfl, _⟩
      ·have hnil : acc = [] := List.eq_nil_of_length_eq_zero hn
       subst hnil
       clear hfm hn
       go_wp2
       go_loopw [9] (fun iv wr => iv = .int .i64 1 ∧ wr = wo) (fun _ _ => 0)
       case atStart => exact ⟨rfl, rfl⟩
       case round =>
        obtain ⟨rfl, rfl⟩ := hrel
        go_wp2
        go_ret2
        refine listed_nil ?_ _ rfl hB
        rw [HPA.out]; rfl
      ·clear hfm
       go_wp2
       go_loopw [9] (fun iv wr => ∃ k q : Nat, 1 ≤ k ∧ (k ≤ acc.length ∨ k = 1) ∧ iv = .int .i64 k ∧ wr = wo.drewN q ∧ Hid (asc (acc.take k) = true)) (fun iv _ => acc.length - (intOf iv).toNat)
       case atStart => exact ⟨1, 0, by omega, .inr rfl, rfl, rfl, asc_one _ (by simp; omega)⟩
       case round =>
        obtain ⟨k, q, hk1, hk, rfl, rfl, hasc⟩ := hrel
        by_cases hlt : k < acc.length
        ·have hk1' : k - 1 < acc.length := by omega
         have c1 : wo.cell? ⟨g, k - 1, none⟩ = some (str acc[k - 1]) := own_str hown _ hk1'
         have c2 : wo.cell? ⟨g, k, none⟩ = some (str acc[k]) := own_str hown _ hlt
         have hstep := Lib.hid (asc_step acc k hk1 hlt)
         have hno := Lib.hid (asc_no acc k hk1 hlt)
         have hki : (k : Int) - 1 = ((k - 1 : Nat) : Int) := by omega
         cases hcmp : Op.bytesLess acc[k - 1] acc[k] with
         | true =>
          go_wp2
          go_quiet (fail)
          go_wp2
          go_roundw
          case rel => exact ⟨k + 1, _, by omega, .inl (by omega), by go_num, rfl, by show _ = _; rw [hstep.out, hasc.out]; exact hcmp⟩
          case measure => simp [intOf]; omega
         | false =>
          go_wp2
          go_quiet (fail)
          go_wp2
          go_ret2
          refine listed_nil ?_ _ rfl (by first | exact below_drewN hB _ | exact below_drewN (below_drewN hB _) _)
          rw [HPA.out, hno.out hcmp]; rfl
        ·go_wp2
         go_ret2
         have ha : asc acc = true := by
          rw [← hasc.out]
          rcases hk with h | h
          ·rw [List.take_of_length_le (by omega)]
          ·rw [asc_one acc (by omega), asc_one _ (by simp; omega)]
         rw [HPA.out, ha]
         exact ⟨_, rfl, own_same hown (fun _ _ => rfl), below_drewN hB _⟩
   ·have hp := parse_ends (s := s) h0 (fun h => hends (ends.1 h))
    have HP := Lib.hid hp
    clear hp h0 ends
    by_cases b0 : s[0] = 124
    ·have b0' : ((s[0].toNat : Int) != 124) = false := by rw [b0]; rfl
     have b1' : ((s[s.length - 1].toNat : Int) != 124) = true := by
      rw [bne_iff_ne]; intro h; exact hends ⟨b0, UInt8.toNat_inj.1 (by show _ = 124; omega)⟩
     clear b0 hends
     go_enter Tryz.func115, Tryz.ntmps115
     go_wp2_with fail
     refine (refValue_any _ hs _).mono ?_
     rintro e w1 ⟨rfl, hb⟩
     rw [E.out]
     go_wp2
     go_ret2
     exact listed_nil HP.out _ rfl hb
    ·have b0' : ((s[0].toNat : Int) != 124) = true := by
      rw [bne_iff_ne]; intro h; exact b0 (UInt8.toNat_inj.1 (by show _ = 124; omega))
     clear b0 hends
     go_enter Tryz.func115, Tryz.ntmps115
     go_wp2_with fail
     refine (refValue_any _ hs _).mono ?_
     rintro e w1 ⟨rfl, hb⟩
     rw [E.out]
     go_wp2
     go_ret2
     exact listed_nil HP.out _ rfl hb
 ·have e0 : ((vErr s : Int) != 0) = true := by rw [bne_iff_ne]; omega
  have HP := Lib.hid (parse_vErr h0)
  clear h0
  go_enter Tryz.func115, Tryz.ntmps115
  go_wp2_with (go_at_call 116; refine (refValue_any _ hs _).mono ?_; rintro e w1 ⟨rfl, hb⟩)
  go_ret2
  exact listed_nil HP.out _ rfl hb
end Go.Proofs.YtgkdaebiefhgdaaGreatDoor
namespace Go.Proofs.YtgkdaebiefhgdaaGreatDoor
open Go.RowKit
theorem run_copy_sz {P : Program} (w : World) (dT sT ty elem : TypeId) (g o dLen dCap : Nat) (a : Addr) (sLen sCap sz : Nat) (cur : Array Value) (t : TypeId) (cs : List Value)
  (hu : P.underlying dT = some (.slice elem)) (hs : (P.info? elem).map (·.size) = some sz)
  (hg : w.heap[g]? = some (.cells cur t (0, 0))) (hn : cs.length = Nat.min sLen dLen * sz)
  (hsrc : ∀ j v, cs[j]? = some v → w.cell? (a.add j) = some v) (hfit : o + cs.length ≤ cur.size) (h1 : ∀ v ∈ cs, v.oneCell' = true) :
  (Builtin.copy_ #[dT, sT] ty #[.slice (some ⟨g, o, none⟩) dLen dCap, .slice (some a) sLen sCap]).run P w =
   .ok (goInt (Nat.min sLen dLen)) (w.setRow g (cur.toList.take o ++ cs ++ cur.toList.drop (o + cs.length)).toArray) := by
 have hl := run_loadCells_list (P := P) w a cs hsrc
 have hst := run_storeCells_at P g o t cs 0 cur w hg (by simpa using hfit) h1
 cases hq : P.info? elem with
 | none => simp [hq] at hs
 | some i =>
  have hi : i.size = sz := by simpa [hq] using hs
  rw [hn] at hl
  simp [Builtin.copy_, run_underlying hu, Builtin.lenOf, Builtin.firstCells, sizeOf, typeInfo, hq, hi, hl, hst]
theorem run_copy_none_sz {P : Program} (w : World) (dT sT ty elem : TypeId) (d a : Option Addr) (dLen dCap sLen sCap sz : Nat) (hu : P.underlying dT = some (.slice elem)) (hs : (P.info? elem).map (·.size) = some sz) (hn : Nat.min sLen dLen = 0) :
  (Builtin.copy_ #[dT, sT] ty #[.slice d dLen dCap, .slice a sLen sCap]).run P w = .ok (goInt 0) w := by
 cases hq : P.info? elem with
 | none => simp [hq] at hs
 | some i =>
  have hl : ∀ (x : Addr), (loadCells x 0).run P w = .ok #[] w := fun x => by simpa using run_loadCells_list (P := P) w x [] (by simp)
  cases d <;> cases a <;> simp [Builtin.copy_, run_underlying hu, Builtin.lenOf, Builtin.firstCells, sizeOf, typeInfo, hq, hn, storeCells, hl]

theorem grown_setRow {w : World} {g : Nat} (cs : Array Value) : w.grownBy (w.setRow g cs) (some g) :=
 ⟨rfl, rfl, rfl, by simp [World.setRow], fun k _ hk => setRow_other w g k cs (fun e => hk (by rw [e]))⟩

theorem step_copy_sz {P : Program} {ops : Array Oper} {o : Oper} {a : Act} {w : World} {K : Act → World → Prop} {Q : Exit → Act → World → Prop} {E : Prop} (hgd : o.guard = none) (d s : Operand) (dT sT : TypeId)
  (ho : o.op = .call { callee := .builtin .copy, args := #[d, s], argTypes := #[dT, sT] }) (elem : TypeId) (hu : P.underlying dT = some (.slice elem)) (sz : Nat) (hz : 0 < sz) (hsz : (P.info? elem).map (·.size) = some sz)
  (dp sp : Option Addr) (dLen dCap sLen sCap : Nat) (hd : a.eval d = .slice dp dLen dCap) (hs : a.eval s = .slice sp sLen sCap)
  (g off : Nat) (cur : List Value) (t : TypeId) (hg : w.heap[g]? = some (.cells cur.toArray t (0, 0))) (cs : List Value) (hn : cs.length = Nat.min sLen dLen * sz)
  (hpos : 0 < cs.length → dp = some ⟨g, off, none⟩ ∧ ∃ ad, sp = some ad ∧ ∀ j v, cs[j]? = some v → w.cell? (ad.add j) = some v)
  (hfit : off + cs.length ≤ cur.length) (h1 : ∀ v ∈ cs, v.oneCell' = true)
  (h : ∀ w', RowKit.Hid (w'.heap[g]? = some (.cells (splice cur off cs).toArray t (0, 0))) → w.grownBy w' (some g) → K (a.put o.dst (goInt (Nat.min sLen dLen))) w') :
  if Region.wanted o (yielded ops a.tmps) = true then Oper.wp P o a w K Q else E := by
 have hw : Region.wanted o (yielded ops a.tmps) = true := by simp [Region.wanted, hgd]
 rw [if_pos hw]
 by_cases h0 : cs.length = 0
 ·obtain rfl : cs = [] := List.eq_nil_of_length_eq_zero h0
  have hm : Nat.min sLen dLen = 0 := by
   rcases Nat.eq_zero_or_pos (Nat.min sLen dLen) with e | e
   ·exact e
   ·have := Nat.mul_pos e hz; simp at hn; omega
  have hrun := run_copy_none_sz (P := P) w dT sT o.type elem dp sp dLen dCap sLen sCap sz hu hsz hm
  unfold Oper.wp
  simp only [execOp, ho, resolve, invoke, builtin, Sem.run_bind, Sem.run_pure, Result.andThen_ok, List.map_toArray, List.map_cons, List.map_nil, hd, hs, hrun]
  have := h w (show _ = _ by simpa [splice] using hg) (World.grownBy.refl w _)
  rw [hm] at this
  exact this
 ·obtain ⟨rfl, ad, rfl, hsrc⟩ := hpos (by omega)
  have hrun := run_copy_sz (P := P) w dT sT o.type elem g off dLen dCap ad sLen sCap sz cur.toArray t cs hu hsz hg hn hsrc (by simpa using hfit) h1
  unfold Oper.wp
  simp only [execOp, ho, resolve, invoke, builtin, Sem.run_bind, Sem.run_pure, Result.andThen_ok, List.map_toArray, List.map_cons, List.map_nil, hd, hs, hrun]
  exact h _ (show _ = _ by simpa [splice] using setRow_heap w g _ _ t _ hg) (grown_setRow _)
end Go.Proofs.YtgkdaebiefhgdaaGreatDoor
