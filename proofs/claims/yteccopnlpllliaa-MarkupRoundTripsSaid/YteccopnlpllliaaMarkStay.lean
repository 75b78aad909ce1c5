/-
  Plain law of chapter 4: a fault in front of the end of a text stays, whatever follows behind a further '>'. No conditions.
-/
import Derived.Test.YteccopnlpllliaaMarkParse
namespace Go.Proofs.Yteccopnlpllliaa
open Go.RowKit Utf Tagp
open Feat (Bs)

theorem tw_stop {p : UInt8 → Bool} {c : UInt8} (hc : p c = false) (r : Bs) : ∀ l : Bs, (l ++ c :: r).takeWhile p = l.takeWhile p
  | [] => by simp [hc]
  | x :: l => by
    cases hx : p x with
    | true => simp only [List.cons_append, List.takeWhile_cons, hx, if_true, tw_stop hc r l]
    | false => simp [hx]
theorem run_more {p : UInt8 → Bool} (hp : p 62 = false) (s tail : Bs) (i : Nat) (hi : i ≤ s.length) : run p (s ++ 62 :: tail) i = run p s i := by
  unfold run
  rw [List.drop_append_of_le_length hi, tw_stop hp]
theorem at_in (s tail : Bs) (i : Nat) (hi : i < s.length) : (s ++ 62 :: tail)[i]? = s[i]? := List.getElem?_append_left hi
theorem at_end (s tail : Bs) : (s ++ 62 :: tail)[s.length]? = some 62 := by rw [List.getElem?_append_right (Nat.le_refl _)]; simp
theorem cut_more (s tail : Bs) (i k : Nat) (h : i + k ≤ s.length) : ((s ++ 62 :: tail).drop i).take k = (s.drop i).take k := by
  rw [List.drop_append_of_le_length (by omega), List.take_append_of_le_length (by rw [List.length_drop]; omega)]

/-- The reading of s and that of s with more behind it. -/
def Stay {α : Type} (s : Bs) (r r' : R α) : Prop := match r with | .ok a => r' = .ok a | .error p => p.1 < s.length → r' = .error p
theorem eat_stay (s tail : Bs) (c : UInt8) (i : Nat) (hi : i ≤ s.length) : Stay s (eatP s c i) (eatP (s ++ 62 :: tail) c i) := by
  unfold eatP
  by_cases hl : i < s.length
  · rw [at_in s tail i hl]
    split
    · rfl
    · intro _; rfl
  · rw [List.getElem?_eq_none (by omega), if_neg (by simp)]
    intro h
    exact absurd h hl
theorem name_stay (s tail : Bs) (i : Nat) (hi : i ≤ s.length) : Stay s (nameP s i) (nameP (s ++ 62 :: tail) i) := by
  have hr := run_more (p := gon) (by decide) s tail i hi
  have hge := run_ge gon s i
  have hle := run_le gon s i hi
  unfold nameP
  rw [hr, cut_more s tail i _ (by omega)]
  by_cases hl : i < s.length
  · rw [at_in s tail i hl]
    split
    · split
      · intro _; rfl
      · rfl
    · intro _; rfl
  · rw [List.getElem?_eq_none (by omega), if_neg (by simp)]
    intro h
    exact absurd h hl
theorem value_stay (s tail : Bs) (i : Nat) (hi : i ≤ s.length) : Stay s (valueP s i) (valueP (s ++ 62 :: tail) i) := by
  have hr := run_more (p := plainCh) (by decide) s tail i hi
  have hge := run_ge plainCh s i
  have hle := run_le plainCh s i hi
  have he := eat_stay s tail 34 (run plainCh s i) hle
  unfold valueP
  rw [hr, cut_more s tail i _ (by omega)]
  cases hE : eatP s 34 (run plainCh s i) with
  | error p =>
    rw [hE] at he
    intro h
    rw [he h]
  | ok j =>
    rw [hE] at he
    rw [show eatP (s ++ 62 :: tail) 34 (run plainCh s i) = .ok j from he]
    simp only
    split
    · intro _; rfl
    · split
      · intro _; rfl
      · rfl
theorem key_stay (s tail : Bs) (l : List KV) (i : Nat) (hi : i ≤ s.length) : Stay s (keyP s l i) (keyP (s ++ 62 :: tail) l i) := by
  have hn := name_stay s tail i hi
  unfold keyP
  cases hN : nameP s i with
  | error p => rw [hN] at hn; intro h; rw [hn h]
  | ok q =>
    obtain ⟨n, j⟩ := q
    rw [hN] at hn
    rw [show nameP (s ++ 62 :: tail) i = .ok (n, j) from hn]
    have hj := (nameP_le hi hN).1
    simp only
    split
    · intro _; rfl
    · split
      · intro _; rfl
      · have h1 := eat_stay s tail 61 j hj
        cases hE : eatP s 61 j with
        | error p => rw [hE] at h1; intro h; rw [h1 h]
        | ok J =>
          rw [hE] at h1
          rw [show eatP (s ++ 62 :: tail) 61 j = .ok J from h1]
          simp only
          have hJ := (eatP_le hE).1
          have h2 := eat_stay s tail 34 J hJ
          cases hE2 : eatP s 34 J with
          | error p => rw [hE2] at h2; intro h; rw [h2 h]
          | ok K =>
            rw [hE2] at h2
            rw [show eatP (s ++ 62 :: tail) 34 J = .ok K from h2]
            simp only
            have hK := (eatP_le hE2).1
            have h3 := value_stay s tail K hK
            cases hV : valueP s K with
            | error p => rw [hV] at h3; intro h; rw [h3 h]
            | ok q =>
              obtain ⟨v, L⟩ := q
              rw [hV] at h3
              rw [show valueP (s ++ 62 :: tail) K = .ok (v, L) from h3]
              rfl
theorem keys_stay (s tail : Bs) : ∀ (k : Nat) (l : List KV) (i : Nat), i ≤ s.length → Stay s (keysP s k l i) (keysP (s ++ 62 :: tail) k l i)
  | 0, l, i, _ => rfl
  | k + 1, l, i, hi => by
    rw [keysP, keysP]
    by_cases h32 : s[i]? = some 32
    · have hl : i < s.length := (List.getElem?_eq_some_iff.1 h32).1
      rw [if_pos h32, if_pos (by rw [at_in s tail i hl]; exact h32), run_more (p := (· == 32)) (by decide) s tail i hi]
      have hle := run_le (· == 32) s i hi
      have h1 := key_stay s tail l _ hle
      cases hK : keyP s l (run (· == 32) s i) with
      | error p => rw [hK] at h1; intro h; rw [h1 h]
      | ok q =>
        obtain ⟨p, j⟩ := q
        rw [hK] at h1
        rw [show keyP (s ++ 62 :: tail) l (run (· == 32) s i) = .ok (p, j) from h1]
        exact keys_stay s tail k _ j (keyP_le hK)
    · have h2 : (s ++ 62 :: tail)[i]? ≠ some 32 := by
        by_cases hl : i < s.length
        · rw [at_in s tail i hl]; exact h32
        · obtain rfl : i = s.length := by omega
          rw [at_end]; simp
      rw [if_neg h32, if_neg h2]
      rfl
theorem keysP_le {s : Bs} : ∀ (k : Nat) (l : List KV) (i : Nat) (m : List KV) (j : Nat), i ≤ s.length → keysP s k l i = .ok (m, j) → j ≤ s.length
  | 0, l, i, m, j, hi, h => by cases h; exact hi
  | k + 1, l, i, m, j, hi, h => by
    rw [keysP] at h
    split at h
    · split at h
      · cases h
      · rename_i hK
        exact keysP_le k _ _ m j (keyP_le hK) h
    · cases h; exact hi

theorem tag_stay (s tail : Bs) {p : Nat × Nat} (h : tagP s = .error p) (hp : p.1 < s.length) : tagP (s ++ 62 :: tail) = .error p := by
  have h0 : 0 < s.length := by omega
  have h1 := eat_stay s tail 60 0 (Nat.zero_le _)
  unfold tagP at h ⊢
  cases hE : eatP s 60 0 with
  | error q =>
    rw [hE] at h h1
    cases h
    rw [h1 hp]
  | ok j =>
    rw [hE] at h h1
    rw [show eatP (s ++ 62 :: tail) 60 0 = .ok j from h1]
    have hj := eatP_le hE
    simp only at h ⊢
    have hcl : ((s ++ 62 :: tail)[1]? == some 47) = (s[1]? == some 47) := by
      by_cases hl : 1 < s.length
      · rw [at_in s tail 1 hl]
      · have e : s.length = 1 := by omega
        have h5 := at_end s tail
        rw [e] at h5
        rw [h5, show s[1]? = none from List.getElem?_eq_none (by omega)]
        rfl
    rw [hcl]
    obtain ⟨cl, hc⟩ : ∃ cl, (s[1]? == some 47) = cl := ⟨_, rfl⟩
    rw [hc] at h ⊢
    have h2 : (if cl = true then 2 else 1) ≤ s.length := by
      cases cl with
      | true =>
        have := (List.getElem?_eq_some_iff.1 (eq_of_beq hc)).1
        simp; omega
      | false => simp; omega
    have hn := name_stay s tail _ h2
    cases hN : nameP s (if cl = true then 2 else 1) with
    | error q =>
      rw [hN] at h hn
      cases h
      rw [hn hp]
    | ok q =>
      obtain ⟨n, i⟩ := q
      rw [hN] at h hn
      rw [show nameP (s ++ 62 :: tail) (if cl = true then 2 else 1) = .ok (n, i) from hn]
      have hi := (nameP_le h2 hN).1
      simp only at h ⊢
      have hk : Stay s (if cl = true then .ok ([], i) else keysP s 9 [] i) (if cl = true then .ok ([], i) else keysP (s ++ 62 :: tail) 9 [] i) := by
        cases cl with
        | true => rfl
        | false => exact keys_stay s tail 9 [] i hi
      cases hK : (if cl = true then .ok ([], i) else keysP s 9 [] i : R (List KV × Nat)) with
      | error q =>
        rw [hK] at h hk
        cases h
        rw [hk hp]
      | ok q =>
        obtain ⟨l, a⟩ := q
        have ha : a ≤ s.length := by
          cases cl with
          | true => cases hK; exact hi
          | false => exact keysP_le 9 [] i l a hi hK
        rw [hK] at h hk
        rw [show (if cl = true then .ok ([], i) else keysP (s ++ 62 :: tail) 9 [] i) = .ok (l, a) from hk]
        simp only at h ⊢
        have h4 := eat_stay s tail 62 a ha
        cases hE4 : eatP s 62 a with
        | error q =>
          rw [hE4] at h h4
          cases h
          rw [h4 hp]
        | ok b =>
          rw [hE4] at h h4
          rw [show eatP (s ++ 62 :: tail) 62 a = .ok b from h4]
          simp only at h ⊢
          split at h
          · rename_i hb
            rw [if_pos (by rw [List.length_append]; omega)]
            exact h
          · cases h
theorem parse_stay (s tail : Bs) (h : (parseP s).2.2 ≠ 0) (hp : (parseP s).2.1 < s.length) : parseP (s ++ 62 :: tail) = parseP s := by
  unfold parseP at h hp ⊢
  cases hT : tagP s with
  | ok t => rw [hT] at h; exact absurd rfl h
  | error p =>
    rw [hT] at hp
    rw [tag_stay s tail hT hp]
end Go.Proofs.Yteccopnlpllliaa
