/-
  Plain law of chapter 4: at a unit's place both parts of a value are values; two values joined. No conditions.
-/
import Derived.Test.YteccopnlpllliaaUtf
namespace Go.Proofs.Yteccopnlpllliaa.Utf
open Go

theorem un_place (l : List UInt8) (h : ok l = true) : ∀ (p : Nat) (pre : List (Nat × Nat × Nat)) (r a z : Nat) (post : List (Nat × Nat × Nat)), un p l = pre ++ (r, a, z) :: post → p ≤ a ∧ a - p ≤ l.length ∧ ok (l.take (a - p)) = true ∧ ok (l.drop (a - p)) = true := by
  refine ok_ind (C := fun l => ∀ (p : Nat) (pre : List (Nat × Nat × Nat)) (r a z : Nat) (post : List (Nat × Nat × Nat)), un p l = pre ++ (r, a, z) :: post → p ≤ a ∧ a - p ≤ l.length ∧ ok (l.take (a - p)) = true ∧ ok (l.drop (a - p)) = true) ?_ ?_ ?_ l h
  · intro p pre r a z post e
    rw [un_nil] at e
    cases pre <;> cases e
  · intro b l hb hl ih p pre r a z post e
    have hd : dec (b :: l) = (b.toNat, 1) := by
      rcases dec_valid b l (by
        have := ok_ascii b l hb
        rw [hl] at this
        have h2 := ok_cons b l
        rw [this] at h2
        exact ((Bool.and_eq_true _ _).mp h2.symm).1) with ⟨_, e⟩ | ⟨h2, _⟩
      · exact e
      · omega
    rw [un_cons, hd] at e
    simp only [List.drop_succ_cons, List.drop_zero] at e
    cases pre with
    | nil =>
      simp only [List.nil_append, List.cons.injEq, Prod.mk.injEq] at e
      obtain ⟨⟨_, rfl, _⟩, _⟩ := e
      refine ⟨Nat.le_refl _, by omega, ?_, ?_⟩
      · rw [Nat.sub_self]; rfl
      · rw [Nat.sub_self, List.drop_zero, ok_ascii b l hb]; exact hl
    | cons u pre =>
      simp only [List.cons_append, List.cons.injEq] at e
      obtain ⟨h1, h2, h3, h4⟩ := ih (p + 1) pre r a z post e.2
      have e1 : a - p = (a - (p + 1)) + 1 := by omega
      refine ⟨by omega, by simp; omega, ?_, ?_⟩
      · rw [e1, List.take_succ_cons, ok_ascii _ _ hb]; exact h3
      · rw [e1, List.drop_succ_cons]; exact h4
  · intro b x m hb hx hxs hdec hm ih p pre r a z post e
    obtain ⟨d1, d2, d3⟩ := hdec m
    rw [un_cons, d3] at e
    have hdr : (b :: (x ++ m)).drop (1 + x.length) = m := by rw [Nat.add_comm, List.drop_succ_cons, List.drop_left]
    rw [hdr] at e
    cases pre with
    | nil =>
      simp only [List.nil_append, List.cons.injEq, Prod.mk.injEq] at e
      obtain ⟨⟨_, rfl, _⟩, _⟩ := e
      refine ⟨Nat.le_refl _, by omega, ?_, ?_⟩
      · rw [Nat.sub_self]; rfl
      · rw [Nat.sub_self, List.drop_zero, ok_unit hdec]; exact hm
    | cons u pre =>
      simp only [List.cons_append, List.cons.injEq] at e
      obtain ⟨h1, h2, h3, h4⟩ := ih (p + (1 + x.length)) pre r a z post e.2
      have e1 : a - p = (x.length + (a - (p + (1 + x.length)))) + 1 := by omega
      refine ⟨by omega, by simp; omega, ?_, ?_⟩
      · rw [e1, List.take_succ_cons, List.take_length_add_append, ok_unit hdec]; exact h3
      · rw [e1, List.drop_succ_cons, List.drop_length_add_append]; exact h4
theorem ctlB_take (l : List UInt8) (k : Nat) (h : ctlB l = false) : ctlB (l.take k) = false ∧ ctlB (l.drop k) = false := by
  unfold ctlB at h ⊢
  have : (l.take k ++ l.drop k).any (fun c => ctlT c.toNat) = false := by rw [List.take_append_drop]; exact h
  rw [List.any_append, Bool.or_eq_false_iff] at this
  exact this
theorem val_place {l : List UInt8} (h : vErr l = 0) {pre : List (Nat × Nat × Nat)} {r a z : Nat} {post : List (Nat × Nat × Nat)} (e : un 0 l = pre ++ (r, a, z) :: post) : a ≤ l.length ∧ vErr (l.take a) = 0 ∧ vErr (l.drop a) = 0 := by
  obtain ⟨h1, h2, h3⟩ := (vErr_zero l).1 h
  obtain ⟨_, k1, k2, k3⟩ := un_place l h2 0 pre r a z post e
  rw [Nat.sub_zero] at k1 k2 k3
  obtain ⟨c1, c2⟩ := ctlB_take l a h3
  exact ⟨k1, (vErr_zero _).2 ⟨by rw [List.length_take]; omega, k2, c1⟩, (vErr_zero _).2 ⟨by rw [List.length_drop]; omega, k3, c2⟩⟩
theorem val_join {s t : List UInt8} (hs : vErr s = 0) (ht : vErr t = 0) : vErr (s ++ t) = if 120 < s.length + t.length then 2 else 0 := by
  obtain ⟨a1, a2, a3⟩ := (vErr_zero s).1 hs
  obtain ⟨b1, b2, b3⟩ := (vErr_zero t).1 ht
  split
  · rename_i h
    unfold vErr
    rw [if_pos (by rw [List.length_append]; exact h)]
  · rename_i h
    refine (vErr_zero _).2 ⟨by rw [List.length_append]; omega, ok_append s t a2 b2, ?_⟩
    unfold ctlB at a3 b3 ⊢
    rw [List.any_append, a3, b3]; rfl
end Go.Proofs.Yteccopnlpllliaa.Utf
