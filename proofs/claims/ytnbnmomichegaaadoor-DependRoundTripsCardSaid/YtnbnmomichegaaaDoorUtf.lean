/-
  Plain text, no program in it: which byte strings are UTF-8, what their units are, and which are values. No conditions.
-/
import GoSem.Core.Utf8
namespace Go.Proofs.YtnbnmomichegaaaDoor.Utf
open Go

theorem get_eq (s : ByteArray) (i : Nat) (h : i < s.size) : s.get! i = s.data.toList[i]'(by simpa using h) := by
  simp [ByteArray.get!, getElem!_pos, h]

/-- The code point and the width of the unit with which a text begins. -/
def dec (l : List UInt8) : Nat × Nat := Utf8.decode ⟨l.toArray⟩ 0

/-- The same, by the first four bytes. -/
def dec4 (b0 : Nat) (b1 b2 b3 : Option Nat) : Nat × Nat :=
  let c (o : Option Nat) : Bool := o.any (· / 64 == 2)
  let v (o : Option Nat) : Nat := (o.getD 0) % 64
  if b0 < 0x80 then (b0, 1)
  else if b0 / 32 == 6 && c b1 then
    if b0 % 32 * 64 + v b1 ≥ 0x80 then (b0 % 32 * 64 + v b1, 2) else (Utf8.runeError, 1)
  else if b0 / 16 == 14 && c b1 && c b2 then
    if b0 % 16 * 4096 + v b1 * 64 + v b2 ≥ 0x800 && Utf8.valid ((b0 % 16 * 4096 + v b1 * 64 + v b2 : Nat) : Int) then (b0 % 16 * 4096 + v b1 * 64 + v b2, 3) else (Utf8.runeError, 1)
  else if b0 / 8 == 30 && c b1 && c b2 && c b3 then
    if b0 % 8 * 262144 + v b1 * 4096 + v b2 * 64 + v b3 ≥ 0x10000 && Utf8.valid ((b0 % 8 * 262144 + v b1 * 4096 + v b2 * 64 + v b3 : Nat) : Int) then (b0 % 8 * 262144 + v b1 * 4096 + v b2 * 64 + v b3, 4) else (Utf8.runeError, 1)
  else (Utf8.runeError, 1)

def byte (l : List UInt8) (k : Nat) : Option Nat := (l[k]?).map UInt8.toNat

theorem decode_eq (s : ByteArray) (p : Nat) (h : p < s.size) :
    Utf8.decode s p = dec4 (s.data.toList[p]'(by simpa using h)).toNat (byte s.data.toList (p + 1)) (byte s.data.toList (p + 2)) (byte s.data.toList (p + 3)) := by
  have hl : s.data.toList.length = s.size := by simp
  have hy : ∀ k, k < s.size → byte s.data.toList k = some (s.get! k).toNat := by
    intro k hk
    have hk' : k < s.data.toList.length := by omega
    rw [get_eq _ _ hk]
    unfold byte
    rw [List.getElem?_eq_getElem hk']; rfl
  have hn : ∀ k, ¬ k < s.size → byte s.data.toList k = none := by
    intro k hk
    unfold byte
    rw [List.getElem?_eq_none (by omega)]; rfl
  have h0 : (s.data.toList[p]'(by simpa using h)).toNat = (s.get! (p + 0)).toNat := by
    rw [get_eq _ _ (by simpa using h)]; rfl
  rw [h0]
  unfold Utf8.decode dec4
  by_cases h1 : p + 1 < s.size
  · by_cases h2 : p + 2 < s.size
    · by_cases h3 : p + 3 < s.size
      · rw [hy _ h1, hy _ h2, hy _ h3]; simp [h1, h2, h3]
      · rw [hy _ h1, hy _ h2, hn _ h3]; simp [h1, h2, h3]
    · rw [hy _ h1, hn _ h2, hn _ (by omega)]; simp [h1, h2]
  · rw [hn _ h1, hn _ (show ¬ p + 2 < s.size by omega), hn _ (show ¬ p + 3 < s.size by omega)]; simp [h1]

theorem dec_cons (b : UInt8) (l : List UInt8) : dec (b :: l) = dec4 b.toNat (byte l 0) (byte l 1) (byte l 2) := by
  unfold dec
  rw [decode_eq _ _ (by show 0 < (b :: l).toArray.size; simp)]
  simp [byte]

theorem decode_drop (s : ByteArray) (p : Nat) (h : p < s.size) : Utf8.decode s p = dec (s.data.toList.drop p) := by
  have hp : p < s.data.toList.length := by simpa using h
  rw [decode_eq s p h, List.drop_eq_getElem_cons hp, dec_cons]
  simp [byte, List.getElem?_drop, Nat.add_comm, Nat.add_left_comm]

/-- A unit is valid if it is not a lone byte that stands for 0xFFFD. -/
def okU (u : Nat × Nat) : Bool := u.1 != 0xFFFD || u.2 == 3

theorem dec4_valid (b0 : Nat) (o1 o2 o3 : Option Nat) (hb : ¬ b0 < 128) (h : okU (dec4 b0 o1 o2 o3) = true) :
    128 ≤ (dec4 b0 o1 o2 o3).1 ∧
    ((∃ v1, o1 = some v1 ∧ v1 / 64 = 2 ∧ (dec4 b0 o1 o2 o3).2 = 2 ∧ ∀ p2 p3, dec4 b0 o1 p2 p3 = dec4 b0 o1 o2 o3) ∨
     (∃ v1 v2, o1 = some v1 ∧ v1 / 64 = 2 ∧ o2 = some v2 ∧ v2 / 64 = 2 ∧ (dec4 b0 o1 o2 o3).2 = 3 ∧ ∀ p3, dec4 b0 o1 o2 p3 = dec4 b0 o1 o2 o3) ∨
     (∃ v1 v2 v3, o1 = some v1 ∧ v1 / 64 = 2 ∧ o2 = some v2 ∧ v2 / 64 = 2 ∧ o3 = some v3 ∧ v3 / 64 = 2 ∧ (dec4 b0 o1 o2 o3).2 = 4)) := by
  have e1 : okU (Utf8.runeError, 1) = false := by decide
  have key : ∀ o : Option Nat, o.any (· / 64 == 2) = true → ∃ v, o = some v ∧ v / 64 = 2 := by
    intro o ho; cases o with
    | none => simp at ho
    | some v => exact ⟨v, rfl, by simpa using ho⟩
  by_cases c1 : b0 / 32 == 6 && o1.any (· / 64 == 2)
  · have hx : dec4 b0 o1 o2 o3 = if b0 % 32 * 64 + (o1.getD 0) % 64 ≥ 0x80 then (b0 % 32 * 64 + (o1.getD 0) % 64, 2) else (Utf8.runeError, 1) := by
      unfold dec4; rw [if_neg hb, if_pos c1]
    have hy : ∀ p2 p3, dec4 b0 o1 p2 p3 = dec4 b0 o1 o2 o3 := by
      intro p2 p3; rw [hx]; unfold dec4; rw [if_neg hb, if_pos c1]
    rw [hx] at h hy ⊢
    split at h
    · rename_i hge
      rw [if_pos hge] at hy ⊢
      simp only [Bool.and_eq_true] at c1
      obtain ⟨v, hv1, hv2⟩ := key o1 c1.2
      exact ⟨hge, .inl ⟨v, hv1, hv2, rfl, hy⟩⟩
    · rw [e1] at h; cases h
  · by_cases c2 : b0 / 16 == 14 && o1.any (· / 64 == 2) && o2.any (· / 64 == 2)
    · have hx : ∀ p3, dec4 b0 o1 o2 p3 = if b0 % 16 * 4096 + (o1.getD 0) % 64 * 64 + (o2.getD 0) % 64 ≥ 0x800 && Utf8.valid ((b0 % 16 * 4096 + (o1.getD 0) % 64 * 64 + (o2.getD 0) % 64 : Nat) : Int) then (b0 % 16 * 4096 + (o1.getD 0) % 64 * 64 + (o2.getD 0) % 64, 3) else (Utf8.runeError, 1) := by
        intro p3; unfold dec4; rw [if_neg hb, if_neg c1, if_pos c2]
      have hy : ∀ p3, dec4 b0 o1 o2 p3 = dec4 b0 o1 o2 o3 := by
        intro p3; rw [hx, hx]
      rw [hx] at h hy ⊢
      split at h
      · rename_i hge
        rw [if_pos hge] at hy ⊢
        simp only [Bool.and_eq_true] at c2
        obtain ⟨v, hv1, hv2⟩ := key o1 c2.1.2
        obtain ⟨v', hv1', hv2'⟩ := key o2 c2.2
        simp only [Bool.and_eq_true, decide_eq_true_eq] at hge
        exact ⟨by omega, .inr (.inl ⟨v, v', hv1, hv2, hv1', hv2', rfl, hy⟩)⟩
      · rw [e1] at h; cases h
    · by_cases c3 : b0 / 8 == 30 && o1.any (· / 64 == 2) && o2.any (· / 64 == 2) && o3.any (· / 64 == 2)
      · have hx : dec4 b0 o1 o2 o3 = if b0 % 8 * 262144 + (o1.getD 0) % 64 * 4096 + (o2.getD 0) % 64 * 64 + (o3.getD 0) % 64 ≥ 0x10000 && Utf8.valid ((b0 % 8 * 262144 + (o1.getD 0) % 64 * 4096 + (o2.getD 0) % 64 * 64 + (o3.getD 0) % 64 : Nat) : Int) then (b0 % 8 * 262144 + (o1.getD 0) % 64 * 4096 + (o2.getD 0) % 64 * 64 + (o3.getD 0) % 64, 4) else (Utf8.runeError, 1) := by
          unfold dec4; rw [if_neg hb, if_neg c1, if_neg c2, if_pos c3]
        rw [hx] at h ⊢
        split at h
        · rename_i hge
          rw [if_pos hge]
          simp only [Bool.and_eq_true] at c3
          obtain ⟨v, hv1, hv2⟩ := key o1 c3.1.1.2
          obtain ⟨v', hv1', hv2'⟩ := key o2 c3.1.2
          obtain ⟨v'', hv1'', hv2''⟩ := key o3 c3.2
          simp only [Bool.and_eq_true, decide_eq_true_eq] at hge
          exact ⟨by omega, .inr (.inr ⟨v, v', v'', hv1, hv2, hv1', hv2', hv1'', hv2'', rfl⟩)⟩
        · rw [e1] at h; cases h
      · have hx : dec4 b0 o1 o2 o3 = (Utf8.runeError, 1) := by
          unfold dec4; rw [if_neg hb, if_neg c1, if_neg c2, if_neg c3]
        rw [hx, e1] at h; cases h

theorem byte_some {l : List UInt8} {k v : Nat} (h : byte l k = some v) : ∃ hk : k < l.length, (l[k]'hk).toNat = v := by
  unfold byte at h
  cases hl : l[k]? with
  | none => rw [hl] at h; cases h
  | some c =>
    obtain ⟨hk, hc⟩ := List.getElem?_eq_some_iff.1 hl
    rw [hl] at h
    exact ⟨hk, by rw [hc]; simpa using h⟩

/-- What a valid unit is made of. -/
theorem dec_valid (b : UInt8) (l : List UInt8) (h : okU (dec (b :: l)) = true) :
    (b.toNat < 128 ∧ dec (b :: l) = (b.toNat, 1)) ∨
    (128 ≤ b.toNat ∧ ∃ (x : List UInt8) (m : List UInt8), l = x ++ m ∧ 1 ≤ x.length ∧ (∀ c ∈ x, 128 ≤ c.toNat) ∧ 128 ≤ (dec (b :: l)).1 ∧
      (dec (b :: l)).2 = 1 + x.length ∧ ∀ m', dec (b :: (x ++ m')) = dec (b :: l)) := by
  by_cases hb : b.toNat < 128
  · left; refine ⟨hb, ?_⟩; rw [dec_cons]; unfold dec4; simp [hb]
  · right
    refine ⟨by omega, ?_⟩
    rw [dec_cons] at h ⊢
    obtain ⟨h1, h2⟩ := dec4_valid _ _ _ _ hb h
    rcases h2 with ⟨v1, e1, f1, hw, hd⟩ | ⟨v1, v2, e1, f1, e2, f2, hw, hd⟩ | ⟨v1, v2, v3, e1, f1, e2, f2, e3, f3, hw⟩
    · obtain ⟨hk, hv⟩ := byte_some e1
      match l, hk, hv with
      | c1 :: t, _, hv =>
        refine ⟨[c1], t, rfl, by simp, ?_, h1, by simpa using hw, ?_⟩
        · intro c hc; simp at hc; subst hc; simp at hv; omega
        · intro m'
          rw [dec_cons, ← hd (byte (c1 :: m') 1) (byte (c1 :: m') 2)]
          rfl
    · obtain ⟨hk, hv⟩ := byte_some e1
      obtain ⟨hk2, hv2⟩ := byte_some e2
      match l, hk, hv, hk2, hv2 with
      | c1 :: c2 :: t, _, hv, _, hv2 =>
        refine ⟨[c1, c2], t, rfl, by simp, ?_, h1, by simpa using hw, ?_⟩
        · intro c hc; simp at hc hv hv2; rcases hc with rfl | rfl <;> omega
        · intro m'
          rw [dec_cons, ← hd (byte (c1 :: c2 :: m') 2)]
          rfl
    · obtain ⟨hk, hv⟩ := byte_some e1
      obtain ⟨hk2, hv2⟩ := byte_some e2
      obtain ⟨hk3, hv3⟩ := byte_some e3
      match l, hk, hv, hk2, hv2, hk3, hv3 with
      | c1 :: c2 :: c3 :: t, _, hv, _, hv2, _, hv3 =>
        refine ⟨[c1, c2, c3], t, rfl, by simp, ?_, h1, by simpa using hw, ?_⟩
        · intro c hc; simp at hc hv hv2 hv3; rcases hc with rfl | rfl | rfl <;> omega
        · intro m'
          rw [dec_cons]
          rfl

theorem dec_width (b : UInt8) (l : List UInt8) : 1 ≤ (dec (b :: l)).2 ∧ (dec (b :: l)).2 ≤ l.length + 1 := by
  by_cases h : okU (dec (b :: l)) = true
  · rcases dec_valid b l h with ⟨_, e⟩ | ⟨_, x, m, rfl, hx, _, _, hw, _⟩
    · rw [e]; simp
    · rw [hw]; simp; omega
  · have : (dec (b :: l)).2 = 1 ∨ okU (dec (b :: l)) = true := by
      by_cases hb : b.toNat < 128
      · left; rw [dec_cons]; unfold dec4; simp [hb]
      · rw [dec_cons]
        unfold dec4
        simp only [hb, if_false]
        repeat' split
        all_goals first | (left; rfl) | (right; simp [okU]; done) | (right; unfold okU; simp; omega) | (rename_i hge; right; simp only [ge_iff_le, Bool.and_eq_true, decide_eq_true_eq] at hge; unfold okU; simp; omega)
    rcases this with h1 | h1
    · rw [h1]; simp
    · exact absurd h1 h

/-- Does the text consist of valid units? (By fuel: its length is enough.) -/
def okF : Nat → List UInt8 → Bool
  | 0, _ => true
  | _ + 1, [] => true
  | n + 1, b :: l => okU (dec (b :: l)) && okF n ((b :: l).drop (dec (b :: l)).2)
def ok (l : List UInt8) : Bool := okF l.length l

theorem okF_enough : ∀ (n : Nat) (l : List UInt8), l.length ≤ n → okF n l = ok l := by
  intro n
  induction n using Nat.strongRecOn with
  | _ n ih =>
    intro l hl
    unfold ok
    match n, l, hl with
    | 0, [], _ => rfl
    | 0, _ :: _, h => simp at h
    | n + 1, [], _ => rfl
    | n + 1, b :: l, h =>
      have hw := dec_width b l
      simp only [List.length_cons, okF]
      have h1 : ((b :: l).drop (dec (b :: l)).2).length ≤ l.length := by simp; omega
      have h2 : l.length ≤ n := by simpa using h
      rw [ih n (by omega) _ (by omega)]
      by_cases hn : l.length < n + 1
      · rw [ih l.length hn _ h1]
      · omega

theorem ok_nil : ok [] = true := rfl
theorem ok_cons (b : UInt8) (l : List UInt8) : ok (b :: l) = (okU (dec (b :: l)) && ok ((b :: l).drop (dec (b :: l)).2)) := by
  have hw := dec_width b l
  show okF (l.length + 1) (b :: l) = _
  rw [okF, okF_enough _ _ (by simp; omega)]
theorem ok_ascii (b : UInt8) (l : List UInt8) (h : b.toNat < 128) : ok (b :: l) = ok l := by
  have e : dec (b :: l) = (b.toNat, 1) := by rw [dec_cons]; unfold dec4; simp [h]
  rw [ok_cons, e]
  have : okU (b.toNat, 1) = true := by unfold okU; simp; omega
  rw [this]; rfl

/-- Induction over the valid units of a text. -/
theorem ok_ind {C : List UInt8 → Prop} (h0 : C [])
    (h1 : ∀ b l, b.toNat < 128 → ok l = true → C l → C (b :: l))
    (h2 : ∀ b x m, 128 ≤ b.toNat → 1 ≤ x.length → (∀ c ∈ x, 128 ≤ c.toNat) → (∀ m', okU (dec (b :: (x ++ m'))) = true ∧ 128 ≤ (dec (b :: (x ++ m'))).1 ∧ (dec (b :: (x ++ m'))).2 = 1 + x.length) → ok m = true → C m → C (b :: (x ++ m)))
    (l : List UInt8) (h : ok l = true) : C l := by
  obtain ⟨n, hn⟩ : ∃ n, l.length = n := ⟨_, rfl⟩
  induction n using Nat.strongRecOn generalizing l with
  | _ n ih =>
    cases l with
    | nil => exact h0
    | cons b l =>
      have hu := ok_cons b l
      rw [h] at hu
      have hu := (Bool.and_eq_true _ _).mp hu.symm
      rcases dec_valid b l hu.1 with ⟨ha, e⟩ | ⟨hb, x, m, rfl, hx, hc, hr, hw, hd⟩
      · have h' : ok l = true := by have := hu.2; rw [e] at this; simpa using this
        exact h1 b l ha h' (ih l.length (by simp at hn; omega) l h' rfl)
      · have h' : ok m = true := by
          have := hu.2; rw [hw] at this
          rw [Nat.add_comm, List.drop_succ_cons, List.drop_left] at this
          exact this
        refine h2 b x m hb hx hc (fun m' => ?_) h' (ih m.length (by simp at hn; omega) m h' rfl)
        rw [hd m']; exact ⟨hu.1, hr, hw⟩

theorem ok_unit {b : UInt8} {x m : List UInt8} (h : ∀ m', okU (dec (b :: (x ++ m'))) = true ∧ 128 ≤ (dec (b :: (x ++ m'))).1 ∧ (dec (b :: (x ++ m'))).2 = 1 + x.length) : ok (b :: (x ++ m)) = ok m := by
  obtain ⟨h1, _, h3⟩ := h m
  rw [ok_cons, h1, h3, Nat.add_comm, List.drop_succ_cons, List.drop_left]; rfl

theorem ok_append (a b : List UInt8) (ha : ok a = true) (hb : ok b = true) : ok (a ++ b) = true := by
  refine ok_ind (C := fun a => ok (a ++ b) = true) (by simpa using hb) ?_ ?_ a ha
  · intro c l hc _ h
    rw [List.cons_append, ok_ascii _ _ hc]; exact h
  · intro c x m _ _ _ hd _ h
    rw [List.cons_append, List.append_assoc, ok_unit hd]; exact h

/-- Before an ASCII byte a text may be cut. -/
theorem ok_cut (a : List UInt8) (c : UInt8) (b : List UInt8) (hc : c.toNat < 128) (h : ok (a ++ c :: b) = true) : ok a = true ∧ ok b = true := by
  refine ok_ind (C := fun l => ∀ a, l = a ++ c :: b → ok a = true ∧ ok b = true) ?_ ?_ ?_ _ h a rfl
  · intro a ha; simp at ha
  · intro d l hd hl ih a ha
    cases a with
    | nil => simp at ha; obtain ⟨rfl, rfl⟩ := ha; exact ⟨rfl, hl⟩
    | cons e a =>
      simp at ha; obtain ⟨rfl, rfl⟩ := ha
      obtain ⟨i1, i2⟩ := ih a rfl
      exact ⟨by rw [ok_ascii _ _ hd]; exact i1, i2⟩
  · intro d x m hd hx hxs hdec hm ih a ha
    cases a with
    | nil => simp at ha; obtain ⟨rfl, _⟩ := ha; omega
    | cons e a =>
      simp at ha
      obtain ⟨rfl, ha⟩ := ha
      rcases List.append_eq_append_iff.1 ha with ⟨y, rfl, hy⟩ | ⟨y, rfl, hy⟩
      · obtain ⟨i1, i2⟩ := ih y hy
        exact ⟨by rw [ok_unit hdec]; exact i1, i2⟩
      · cases y with
        | nil =>
          simp at hy
          obtain ⟨i1, i2⟩ := ih [] (by simpa using hy.symm)
          refine ⟨?_, i2⟩
          have := ok_unit (m := []) hdec
          simp at this hdec ⊢
          rw [this]; rfl
        | cons z y =>
          simp at hy
          obtain ⟨rfl, _⟩ := hy
          have := hxs c (by simp); omega

/-- Of a valid text with a valid beginning the rest is valid. -/
theorem ok_rest (a b : List UInt8) (ha : ok a = true) : ok (a ++ b) = ok b := by
  refine ok_ind (C := fun a => ok (a ++ b) = ok b) rfl ?_ ?_ a ha
  · intro c l hc _ h; rw [List.cons_append, ok_ascii _ _ hc]; exact h
  · intro c x m _ _ _ hd _ h; rw [List.cons_append, List.append_assoc, ok_unit hd]; exact h

/-- The units: code point, offset, width. -/
def unF : Nat → Nat → List UInt8 → List (Nat × Nat × Nat)
  | 0, _, _ => []
  | _ + 1, _, [] => []
  | n + 1, p, b :: l => ((dec (b :: l)).1, p, (dec (b :: l)).2) :: unF n (p + (dec (b :: l)).2) ((b :: l).drop (dec (b :: l)).2)
def un (p : Nat) (l : List UInt8) : List (Nat × Nat × Nat) := unF l.length p l

theorem unF_enough : ∀ (n p : Nat) (l : List UInt8), l.length ≤ n → unF n p l = un p l := by
  intro n
  induction n using Nat.strongRecOn with
  | _ n ih =>
    intro p l hl
    unfold un
    match n, l, hl with
    | 0, [], _ => rfl
    | 0, _ :: _, h => simp at h
    | n + 1, [], _ => rfl
    | n + 1, b :: l, h =>
      have hw := dec_width b l
      simp only [List.length_cons, unF]
      have h1 : ((b :: l).drop (dec (b :: l)).2).length ≤ l.length := by simp; omega
      have h2 : l.length ≤ n := by simpa using h
      rw [ih n (by omega) _ _ (by omega)]
      by_cases hn : l.length < n + 1
      · rw [ih l.length hn _ _ h1]
      · omega
theorem un_nil (p : Nat) : un p [] = [] := rfl
theorem un_cons (p : Nat) (b : UInt8) (l : List UInt8) : un p (b :: l) = ((dec (b :: l)).1, p, (dec (b :: l)).2) :: un (p + (dec (b :: l)).2) ((b :: l).drop (dec (b :: l)).2) := by
  have hw := dec_width b l
  show unF (l.length + 1) p (b :: l) = _
  rw [unF, unF_enough _ _ _ (by simp; omega)]

/-- The test of one unit (code point, offset, width). -/
def okT (u : Nat × Nat × Nat) : Bool := u.1 != 0xFFFD || u.2.2 == 3

theorem un_ind {C : Nat → List UInt8 → Prop} (h0 : ∀ p, C p [])
    (h1 : ∀ p b l, C (p + (dec (b :: l)).2) ((b :: l).drop (dec (b :: l)).2) → C p (b :: l)) (p : Nat) (l : List UInt8) : C p l := by
  obtain ⟨n, hn⟩ : ∃ n, l.length = n := ⟨_, rfl⟩
  induction n using Nat.strongRecOn generalizing l p with
  | _ n ih =>
    cases l with
    | nil => exact h0 p
    | cons b l =>
      have hw := dec_width b l
      exact h1 p b l (ih _ (by simp at hn ⊢; omega) _ _ rfl)

theorem un_ok (p : Nat) (l : List UInt8) : (un p l).all okT = ok l := by
  refine un_ind (C := fun p l => (un p l).all okT = ok l) (fun _ => rfl) ?_ p l
  intro p b l h
  rw [un_cons, ok_cons, List.all_cons, h]; rfl

/-- A control character among the code points; among the bytes. -/
def ctlT (r : Nat) : Bool := decide (r ≤ 31) || r == 127
def ctl (l : List UInt8) : Bool := (un 0 l).any fun u => ctlT u.1
def ctlB (l : List UInt8) : Bool := l.any fun c => ctlT c.toNat

theorem un_any_p (f : Nat → Bool) (p q : Nat) (l : List UInt8) : ((un p l).any fun u => f u.1) = ((un q l).any fun u => f u.1) := by
  have := un_ind (C := fun p l => ∀ q, ((un p l).any fun u => f u.1) = ((un q l).any fun u => f u.1)) (fun _ _ => rfl) (by
    intro p b l h q
    rw [un_cons, un_cons, List.any_cons, List.any_cons, h (q + (dec (b :: l)).2)]) p l
  exact this q
theorem ctl_cons (b : UInt8) (l : List UInt8) : ctl (b :: l) = (ctlT (dec (b :: l)).1 || ctl ((b :: l).drop (dec (b :: l)).2)) := by
  unfold ctl
  rw [un_cons, List.any_cons, un_any_p ctlT _ 0]

theorem ctl_eq (l : List UInt8) (h : ok l = true) : ctl l = ctlB l := by
  refine ok_ind (C := fun l => ctl l = ctlB l) rfl ?_ ?_ l h
  · intro b l hb _ ih
    have e : dec (b :: l) = (b.toNat, 1) := by rw [dec_cons]; unfold dec4; simp [hb]
    rw [ctl_cons, e]
    show (ctlT b.toNat || ctl l) = _
    rw [ih]; rfl
  · intro b x m hb _ hx hd _ ih
    obtain ⟨_, h2, h3⟩ := hd m
    rw [ctl_cons, h3, Nat.add_comm, List.drop_succ_cons, List.drop_left, ih]
    have n1 : ctlT (dec (b :: (x ++ m))).1 = false := by unfold ctlT; simp; omega
    have n2 : ctlB (b :: (x ++ m)) = ctlB m := by
      unfold ctlB
      rw [List.any_cons, List.any_append]
      have : ctlT b.toNat = false := by unfold ctlT; simp; omega
      have hx' : (x.any fun c => ctlT c.toNat) = false := by
        rw [List.any_eq_false]; intro c hc; have := hx c hc; unfold ctlT; simp; omega
      rw [this, hx']; rfl
    rw [n1, n2]; rfl

/-- The error of a value: 0, 2 (too long), 7 (encoding), 14 (a control character). -/
def vErr (l : List UInt8) : Nat := if 120 < l.length then 2 else if ok l then (if ctlB l then 14 else 0) else 7

theorem vErr_zero (l : List UInt8) : vErr l = 0 ↔ l.length ≤ 120 ∧ ok l = true ∧ ctlB l = false := by
  unfold vErr
  by_cases h1 : 120 < l.length
  · simp [h1]; omega
  · cases h2 : ok l <;> cases h3 : ctlB l <;> simp [h1] <;> omega
end Go.Proofs.YtnbnmomichegaaaDoor.Utf
