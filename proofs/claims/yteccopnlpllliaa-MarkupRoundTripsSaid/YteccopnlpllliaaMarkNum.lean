/-
  Plain law of chapter 4: which numbers may stand in an escape. No conditions.
-/
import Derived.Test.YteccopnlpllliaaMarkOne
namespace Go.Proofs.Yteccopnlpllliaa
open Go.RowKit Utf Tagp
open Feat (Bs)

/-- The digits of a number; none of 0. -/
def dgsF : Nat → Nat → Bs
  | 0, _ => []
  | f + 1, k => if k = 0 then [] else dgsF f (k / 10) ++ [UInt8.ofNat (48 + k % 10)]
def dgs (k : Nat) : Bs := dgsF k k
theorem dgsF_fuel : ∀ (f g k : Nat), k ≤ f → k ≤ g → dgsF f k = dgsF g k
  | 0, 0, _, _, _ => rfl
  | 0, g + 1, k, h, _ => by obtain rfl : k = 0 := by omega
                            simp [dgsF]
  | f + 1, 0, k, _, h => by obtain rfl : k = 0 := by omega
                            simp [dgsF]
  | f + 1, g + 1, k, h1, h2 => by
    unfold dgsF
    by_cases hk : k = 0
    · rw [if_pos hk, if_pos hk]
    · rw [if_neg hk, if_neg hk, dgsF_fuel f g (k / 10) (by omega) (by omega)]
theorem dgs_zero : dgs 0 = [] := rfl
theorem dgs_step (k : Nat) (hk : 0 < k) : dgs k = dgs (k / 10) ++ [UInt8.ofNat (48 + k % 10)] := by
  unfold dgs
  obtain ⟨j, rfl⟩ : ∃ j, k = j + 1 := ⟨k - 1, by omega⟩
  conv => lhs; unfold dgsF
  rw [if_neg (by omega), dgsF_fuel j ((j + 1) / 10) ((j + 1) / 10) (by omega) (by omega)]
theorem dig_of (m : Nat) (h : m < 10) : dig (UInt8.ofNat (48 + m)) = true ∧ (UInt8.ofNat (48 + m)).toNat - 48 = m := by
  match m, h with
  | 0, _ => decide
  | 1, _ => decide
  | 2, _ => decide
  | 3, _ => decide
  | 4, _ => decide
  | 5, _ => decide
  | 6, _ => decide
  | 7, _ => decide
  | 8, _ => decide
  | 9, _ => decide
theorem dgs_all (k : Nat) : ∀ c ∈ dgs k, dig c = true := by
  induction k using Nat.strongRecOn with
  | _ k ih =>
    rcases Nat.eq_zero_or_pos k with h | h
    · subst h; simp [dgs_zero]
    · rw [dgs_step k h]
      intro c hc
      rcases List.mem_append.1 hc with e | e
      · exact ih (k / 10) (by omega) c e
      · rw [List.mem_singleton.1 e]; exact (dig_of _ (Nat.mod_lt _ (by omega))).1
theorem dgs_val (k : Nat) : val (dgs k) = k := by
  induction k using Nat.strongRecOn with
  | _ k ih =>
    rcases Nat.eq_zero_or_pos k with h | h
    · subst h; rfl
    · rw [dgs_step k h, val_snoc, ih (k / 10) (by omega), (dig_of _ (by omega)).2]
      omega
theorem dgs_pos (k : Nat) (h : 0 < k) : 0 < (dgs k).length ∧ (dgs k)[0]? ≠ some 48 := by
  induction k using Nat.strongRecOn with
  | _ k ih =>
    rw [dgs_step k h]
    rcases Nat.eq_zero_or_pos (k / 10) with e | e
    · rw [e, dgs_zero]
      refine ⟨by simp, ?_⟩
      have hk : k < 10 := by omega
      have h2 := (dig_of (k % 10) (by omega)).2
      intro hc
      rw [List.nil_append, List.getElem?_cons_zero] at hc
      rw [Option.some.inj hc] at h2
      have : (48 : UInt8).toNat = 48 := rfl
      omega
    · have := ih (k / 10) (by omega) e
      refine ⟨by simp, ?_⟩
      rw [List.getElem?_append_left this.1]
      exact this.2
theorem dgs_len (k f : Nat) (h : k < 10 ^ f) : (dgs k).length ≤ f := by
  induction f generalizing k with
  | zero => obtain rfl : k = 0 := by simpa using h
            simp [dgs_zero]
  | succ f ih =>
    rcases Nat.eq_zero_or_pos k with e | e
    · subst e; simp [dgs_zero]
    · rw [dgs_step k e]
      have := ih (k / 10) (by rw [Nat.pow_succ] at h; omega)
      simp; omega

/-- The digits as a text: of 0 too. -/
def decT (n : Nat) : Bs := if n = 0 then [48] else dgs n
theorem decT_all (n : Nat) : ∀ c ∈ decT n, dig c = true := by
  unfold decT
  split
  · intro c hc; simp at hc; subst hc; decide
  · exact dgs_all n
theorem decT_val (n : Nat) : val (decT n) = n := by
  unfold decT
  split
  · rename_i h; rw [h]; rfl
  · exact dgs_val n
theorem decT_pos (n : Nat) : 0 < (decT n).length ∧ ((decT n)[0]? = some 48 → n = 0) := by
  unfold decT
  split
  · rename_i h; exact ⟨by simp, fun _ => h⟩
  · rename_i h
    have := dgs_pos n (by omega)
    exact ⟨this.1, fun e => absurd e this.2⟩

theorem tw_all {p : UInt8 → Bool} {c : UInt8} (hc : p c = false) (r : Bs) : ∀ l : Bs, (∀ x ∈ l, p x = true) → (l ++ c :: r).takeWhile p = l
  | [], _ => by simp [hc]
  | x :: l, h => by
    rw [List.cons_append, List.takeWhile_cons, if_pos (h x (by simp)), tw_all hc r l (fun y hy => h y (by simp [hy]))]
theorem tw_every {p : UInt8 → Bool} : ∀ l : Bs, (∀ x ∈ l, p x = true) → l.takeWhile p = l
  | [], _ => rfl
  | x :: l, h => by rw [List.takeWhile_cons, if_pos (h x (by simp)), tw_every l (fun y hy => h y (by simp [hy]))]
/-- The escape that a number's text makes. -/
theorem esc1_digits (Z r : Bs) (hall : ∀ c ∈ Z, dig c = true) (hpos : 0 < Z.length) : esc1 (38 :: 35 :: (Z ++ 59 :: r)) =
    if 7 < Z.length ∨ (Z[0]? = some 48 ∧ 1 < Z.length) ∨ (55296 ≤ val Z ∧ val Z ≤ 57343) ∨ 1114111 < val Z then (0, 0) else (val Z, Z.length + 3) := by
  have hn := esc1_num (s := 38 :: 35 :: (Z ++ 59 :: r)) (by simp [List.isPrefixOf]) (by simp [List.isPrefixOf]) (by simp [List.isPrefixOf]) (by simp [List.isPrefixOf]) (by simp [List.isPrefixOf])
  rw [hn]
  by_cases h7 : 7 < Z.length
  · have hd : digs (38 :: 35 :: (Z ++ 59 :: r)) = Z.take 7 := by
      unfold digs
      simp only [List.drop_succ_cons, List.drop_zero]
      rw [List.take_append_of_le_length (by omega)]
      exact tw_every _ (fun x hx => hall x (List.mem_of_mem_take hx))
    have hl : (digs (38 :: 35 :: (Z ++ 59 :: r))).length = 7 := by rw [hd, List.length_take]; omega
    rw [hl]
    refine (if_pos (.inr (.inl ?_))).trans (if_pos (.inl h7)).symm
    show (38 :: 35 :: (Z ++ 59 :: r))[9]? ≠ some 59
    rw [show (38 :: 35 :: (Z ++ 59 :: r))[9]? = (Z ++ 59 :: r)[7]? from rfl, List.getElem?_append_left h7, List.getElem?_eq_getElem h7]
    intro e
    have := hall Z[7] (List.getElem_mem h7)
    rw [Option.some.inj e] at this
    revert this; decide
  · have hd : digs (38 :: 35 :: (Z ++ 59 :: r)) = Z := by
      unfold digs
      simp only [List.drop_succ_cons, List.drop_zero]
      by_cases h6 : Z.length = 7
      · rw [List.take_append_of_le_length (by omega), List.take_of_length_le (by omega)]
        exact tw_every _ hall
      · rw [List.take_append, List.take_of_length_le (by omega)]
        obtain ⟨m, hm⟩ : ∃ m, 7 - Z.length = m + 1 := ⟨6 - Z.length, by omega⟩
        rw [hm, List.take_succ_cons]
        exact tw_all (by decide) _ Z hall
    have h59 : (38 :: 35 :: (Z ++ 59 :: r))[2 + Z.length]? = some 59 := by
      rw [show 2 + Z.length = Z.length + 1 + 1 by omega, List.getElem?_cons_succ, List.getElem?_cons_succ, List.getElem?_append_right (Nat.le_refl _)]
      simp
    have h48 : (38 :: 35 :: (Z ++ 59 :: r))[2]? = Z[0]? := by
      show (Z ++ 59 :: r)[0]? = _
      rw [List.getElem?_append_left hpos]
    rw [hd, h59, h48]
    have e3 : 2 + Z.length + 1 = Z.length + 3 := by omega
    rw [e3]
    by_cases hC : (Z[0]? = some 48 ∧ 1 < Z.length) ∨ (55296 ≤ val Z ∧ val Z ≤ 57343) ∨ 1114111 < val Z
    · refine (if_pos ?_).trans (if_pos (.inr hC)).symm
      rcases hC with h | h | h
      · exact .inr (.inr (.inl ⟨h.1, by omega⟩))
      · exact .inr (.inr (.inr (.inl h)))
      · exact .inr (.inr (.inr (.inr h)))
    · refine (if_neg ?_).trans (if_neg (fun h => h.elim h7 hC)).symm
      rintro (h | h | h | h | h)
      · omega
      · exact h rfl
      · exact hC (.inl ⟨h.1, by omega⟩)
      · exact hC (.inr (.inl h))
      · exact hC (.inr (.inr h))
theorem unesc_num (Z : Bs) (hall : ∀ c ∈ Z, dig c = true) (hpos : 0 < Z.length) : unesc (97 :: 38 :: 35 :: (Z ++ [59, 98])) =
    if 7 < Z.length ∨ (Z[0]? = some 48 ∧ 1 < Z.length) ∨ (55296 ≤ val Z ∧ val Z ≤ 57343) ∨ 1114111 < val Z then ([], 1, 3) else (97 :: (enc (val Z) ++ [98]), 0, 0) := by
  have h := esc1_digits Z [98] hall hpos
  unfold unesc
  rw [Tagp.un, if_neg (by decide), Tagp.un, if_pos rfl]
  by_cases hC : 7 < Z.length ∨ (Z[0]? = some 48 ∧ 1 < Z.length) ∨ (55296 ≤ val Z ∧ val Z ≤ 57343) ∨ 1114111 < val Z
  · rw [if_pos hC] at h ⊢
    rw [h]
    rfl
  · rw [if_neg hC] at h ⊢
    rw [h]
    simp only
    rw [if_neg (by omega), un_skip _ _ _ (by simp)]
    have hdr : (35 :: (Z ++ [59, 98])).drop (Z.length + 3 - 1) = [98] := by
      rw [show Z.length + 3 - 1 = (Z.length + 1) + 1 by omega, List.drop_succ_cons, List.drop_append]
      simp
    rw [hdr]
    rfl
end Go.Proofs.Yteccopnlpllliaa
