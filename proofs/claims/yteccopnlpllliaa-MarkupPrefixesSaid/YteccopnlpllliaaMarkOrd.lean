/-
  Plain law of chapter 4, no program: a pair's place in a list that ascends by names. No conditions.
-/
import Derived.Test.YteccopnlpllliaaMark
namespace Go.Proofs.Yteccopnlpllliaa.Tagp
open Utf
open Feat (Bs lt lt_irrefl lt_trans lt_tri lt_asymm)

/-- The list ascends, weakly, by names. -/
def Up (l : List KV) : Prop := l.Pairwise fun a b => lt b.1 a.1 = false
theorem lt_of_lt_le {a b c : Bs} (h : lt a b = true) (k : lt c b = false) : lt a c = true := by
  rcases lt_tri b c with e | e | e
  · exact lt_trans h e
  · rw [← e]; exact h
  · rw [e] at k; cases k
theorem lt_of_le_lt {a b c : Bs} (k : lt b a = false) (h : lt b c = true) : lt a c = true := by
  rcases lt_tri a b with e | e | e
  · exact lt_trans e h
  · rw [e]; exact h
  · rw [e] at k; cases k
theorem mem_insP {p x : KV} : ∀ {l : List KV}, x ∈ insP p l → x = p ∨ x ∈ l
  | [], h => by simp [insP] at h; exact .inl h
  | q :: r, h => by
    unfold insP at h
    split at h
    · simpa using h
    · rcases List.mem_cons.1 h with e | e
      · exact .inr (by rw [e]; exact List.mem_cons_self)
      · rcases mem_insP e with e | e
        · exact .inl e
        · exact .inr (List.mem_cons_of_mem _ e)
theorem insP_up (p : KV) : ∀ (l : List KV), Up l → Up (insP p l)
  | [], _ => by simp [insP, Up]
  | q :: r, h => by
    have h' := List.pairwise_cons.1 h
    unfold insP
    split
    · rename_i hlt
      refine List.pairwise_cons.2 ⟨fun x hx => ?_, h⟩
      rcases List.mem_cons.1 hx with e | e
      · rw [e]; exact lt_asymm hlt
      · exact lt_asymm (lt_of_lt_le hlt (h'.1 x e))
    · rename_i hlt
      refine List.pairwise_cons.2 ⟨fun x hx => ?_, insP_up p r h'.2⟩
      rcases mem_insP hx with e | e
      · rw [e]; simpa using hlt
      · exact h'.1 x e
theorem sortP_snoc (l : List KV) (p : KV) : sortP (l ++ [p]) = insP p (sortP l) := by simp [sortP]
theorem sortP_take (l : List KV) (k : Nat) (hk : k < l.length) : sortP (l.take (k + 1)) = insP l[k] (sortP (l.take k)) := by
  rw [List.take_succ_eq_append_getElem hk, sortP_snoc]
theorem foldl_up : ∀ (l m : List KV), Up m → Up (l.foldl (fun m p => insP p m) m)
  | [], _, h => h
  | p :: r, m, h => foldl_up r _ (insP_up p m h)
theorem sortP_up (l : List KV) : Up (sortP l) := foldl_up l [] (by simp [Up])
theorem insP_len (p : KV) : ∀ (l : List KV), (insP p l).length = l.length + 1
  | [] => rfl
  | q :: r => by unfold insP; split <;> simp [insP_len p r]
theorem foldl_len : ∀ (l m : List KV), (l.foldl (fun m p => insP p m) m).length = m.length + l.length
  | [], _ => rfl
  | p :: r, m => by simp only [List.foldl_cons, foldl_len r, insP_len, List.length_cons]; omega
theorem sortP_len (l : List KV) : (sortP l).length = l.length := by unfold sortP; rw [foldl_len]; simp
/-- The place from the left. -/
theorem insP_place (p : KV) : ∀ (l : List KV) (i : Nat), i ≤ l.length → (∀ j (hj : j < l.length), j < i → lt p.1 l[j].1 = false) → (∀ hi : i < l.length, lt p.1 l[i].1 = true) →
    insP p l = l.take i ++ p :: l.drop i
  | [], i, h, _, _ => by have : i = 0 := by simpa using h
                         subst this; rfl
  | q :: r, 0, _, _, h => by
    have := h (by simp)
    simp only [List.getElem_cons_zero] at this
    unfold insP
    rw [if_pos this]
    simp
  | q :: r, i + 1, h, hlo, hhi => by
    have := hlo 0 (by simp) (by omega)
    simp only [List.getElem_cons_zero] at this
    unfold insP
    rw [if_neg (by rw [this]; simp), insP_place p r i (by simpa using h) (fun j hj hji => hlo (j + 1) (by simpa using hj) (by omega)) (fun hi => hhi (by simpa using hi))]
    simp
/-- The place from the right, in a list that ascends. -/
theorem insP_right (p : KV) (l : List KV) (hl : Up l) (i : Nat) (hi : i ≤ l.length) (hhi : ∀ j (hj : j < l.length), i ≤ j → lt p.1 l[j].1 = true) (hlo : ∀ (h0 : 0 < i), lt p.1 (l[i - 1]'(by omega)).1 = false) :
    insP p l = l.take i ++ p :: l.drop i := by
  refine insP_place p l i hi (fun j hj hji => ?_) (fun h => hhi i h (Nat.le_refl _))
  have h0 := hlo (by omega)
  by_cases e : j = i - 1
  · subst e; exact h0
  · unfold Up at hl
    rw [List.pairwise_iff_getElem] at hl
    have h2 := hl j (i - 1) hj (by omega) (by omega)
    cases hh : lt p.1 l[j].1 with
    | false => rfl
    | true => rw [lt_of_lt_le hh h2] at h0; cases h0
end Go.Proofs.Yteccopnlpllliaa.Tagp
