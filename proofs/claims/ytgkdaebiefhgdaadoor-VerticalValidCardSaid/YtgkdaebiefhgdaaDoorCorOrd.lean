/-
  Plain: the order of regions is total, and only equal regions are equal in it. No conditions.
-/
import Derived.Test.YtgkdaebiefhgdaaDoorCorCmp
namespace Go.Proofs.YtgkdaebiefhgdaaDoor
open Feat (Bs lt lt_irrefl lt_trans lt_asymm lt_tri)
open Tagp (KV)
open Cor (cmpI cmpS cmpK cmpR)

structure Ordd {α : Type} (f : α → α → Int) : Prop where
  val : ∀ a b, f a b = -1 ∨ f a b = 0 ∨ f a b = 1
  anti : ∀ a b, f b a = - f a b
  zero : ∀ a b, f a b = 0 ↔ a = b
  tr : ∀ a b c, f a b ≤ 0 → f b c ≤ 0 → f a c ≤ 0
def lex (x y : Int) : Int := if x ≠ 0 then x else y
theorem lex_zero {y : Int} : lex 0 y = y := by unfold lex; simp
theorem lex_ne {x y : Int} (h : x ≠ 0) : lex x y = x := by unfold lex; rw [if_pos h]
theorem lex_assoc (a b c : Int) : lex a (lex b c) = lex (lex a b) c := by
  by_cases h : a = 0
  · subst h; rw [lex_zero, lex_zero]
  · rw [lex_ne h, lex_ne h, lex_ne h]
theorem Ordd.flip {α : Type} {f : α → α → Int} (h : Ordd f) : Ordd fun a b => f b a :=
  ⟨fun a b => h.val b a, fun a b => h.anti b a, fun a b => (h.zero b a).trans eq_comm, fun a b c h1 h2 => h.tr c b a h2 h1⟩
theorem Ordd.pull {α β : Type} {f : α → α → Int} (h : Ordd f) (g : β → α) (hg : ∀ a b, g a = g b → a = b) : Ordd fun a b => f (g a) (g b) :=
  ⟨fun a b => h.val _ _, fun a b => h.anti _ _, fun a b => (h.zero _ _).trans ⟨hg a b, fun e => by rw [e]⟩, fun a b c => h.tr _ _ _⟩
/-- One step of a lexical comparison, over what follows. -/
theorem lex_tr {x y z u v t : Int} (_ : (z = -1 ∨ z = 0 ∨ z = 1)) (hx : x = -1 ∨ x = 0 ∨ x = 1) (hy : y = -1 ∨ y = 0 ∨ y = 1) (h1 : lex x u ≤ 0) (h2 : lex y v ≤ 0) (ht : x ≤ 0 → y ≤ 0 → z ≤ 0)
    (hxz : x = 0 → z = y) (hyz : y = 0 → z = x) (hs : x = -1 → y = -1 → z ≠ 0) (hr : x = 0 → y = 0 → u ≤ 0 → v ≤ 0 → t ≤ 0) : lex z t ≤ 0 := by
  rcases hx with e | e | e
  · rw [e, lex_ne (by decide)] at h1
    rcases hy with e2 | e2 | e2
    · have := hs e e2
      have := ht (by omega) (by omega)
      rw [lex_ne (by omega)]; omega
    · have := hyz e2
      rw [this, e, lex_ne (by decide)]; omega
    · rw [e2, lex_ne (by decide)] at h2; omega
  · rw [e, lex_zero] at h1
    rcases hy with e2 | e2 | e2
    · have := hxz e
      rw [this, e2, lex_ne (by decide)]; omega
    · have := hxz e
      rw [e2, lex_zero] at h2
      rw [this, e2, lex_zero]; exact hr e e2 h1 h2
    · rw [e2, lex_ne (by decide)] at h2; omega
  · rw [e, lex_ne (by decide)] at h1; omega
theorem Ordd.facts {α : Type} {f : α → α → Int} (h : Ordd f) (a b c : α) : (f a b = 0 → f a c = f b c) ∧ (f b c = 0 → f a c = f a b) ∧ (f a b = -1 → f b c = -1 → f a c ≠ 0) := by
  refine ⟨fun e => by rw [(h.zero a b).1 e], fun e => by rw [(h.zero b c).1 e], fun e1 e2 e3 => ?_⟩
  have := (h.zero a c).1 e3
  subst this
  rw [h.anti a b, e1] at e2; omega
theorem Ordd.both {α β : Type} {f : α → α → Int} {g : β → β → Int} (hf : Ordd f) (hg : Ordd g) : Ordd fun (a b : α × β) => lex (f a.1 b.1) (g a.2 b.2) := by
  refine ⟨fun a b => ?_, fun a b => ?_, fun a b => ?_, fun a b c h1 h2 => ?_⟩
  · rcases hf.val a.1 b.1 with e | e | e
    · rw [e, lex_ne (by decide)]; simp
    · rw [e, lex_zero]; exact hg.val _ _
    · rw [e, lex_ne (by decide)]; simp
  · rw [hf.anti a.1 b.1, hg.anti a.2 b.2]
    by_cases e : f a.1 b.1 = 0
    · rw [e, lex_zero]; show lex 0 _ = _; rw [lex_zero]
    · rw [lex_ne e, lex_ne (by omega)]
  · by_cases e : f a.1 b.1 = 0
    · rw [e, lex_zero, hg.zero]
      have := (hf.zero _ _).1 e
      constructor
      · intro h; exact Prod.ext this h
      · rintro rfl; rfl
    · rw [lex_ne e]
      constructor
      · intro h; exact absurd h e
      · rintro rfl; exact (hf.zero _ _).2 rfl
  · obtain ⟨k1, k2, k3⟩ := hf.facts a.1 b.1 c.1
    exact lex_tr (hf.val _ _) (hf.val _ _) (hf.val _ _) h1 h2 (hf.tr _ _ _) k1 k2 k3 fun _ _ => hg.tr _ _ _
theorem ord_I : Ordd cmpI := by
  refine ⟨fun a b => ?_, fun a b => ?_, fun a b => cmpI_zero, fun a b c h1 h2 => ?_⟩
  · unfold cmpI; split
    · simp
    · split <;> simp
  · unfold cmpI; split <;> split <;> (try split) <;> omega
  · unfold cmpI at *
    split at h1 <;> split at h2 <;> (try split at h1) <;> (try split at h2) <;> (try omega) <;> (split <;> (try split) <;> omega)
theorem ord_S : Ordd cmpS := by
  have hv : ∀ a b, cmpS a b = -1 ∨ cmpS a b = 0 ∨ cmpS a b = 1 := by
    intro a b
    rcases lt_tri a b with h | h | h
    · exact .inl (cmpS_lt h)
    · subst h; exact .inr (.inl (cmpS_eq a))
    · exact .inr (.inr (cmpS_gt h))
  have hn : ∀ a b, cmpS a b = -1 → lt a b = true := by
    intro a b h
    rcases lt_tri a b with k | k | k
    · exact k
    · subst k; rw [cmpS_eq] at h; cases h
    · rw [cmpS_gt k] at h; cases h
  refine ⟨hv, fun a b => ?_, fun a b => cmpS_zero, fun a b c h1 h2 => ?_⟩
  · rcases lt_tri a b with h | h | h
    · rw [cmpS_lt h, cmpS_gt h]; rfl
    · subst h; rw [cmpS_eq]; rfl
    · rw [cmpS_lt h, cmpS_gt h]
  · rcases hv a b with e | e | e
    · rcases hv b c with e2 | e2 | e2
      · rw [cmpS_lt (lt_trans (hn _ _ e) (hn _ _ e2))]; omega
      · rw [← cmpS_zero.1 e2, e]; omega
      · omega
    · rw [cmpS_zero.1 e]; exact h2
    · omega
def cmpP (p q : KV) : Int := lex (cmpS p.1 q.1) (cmpS p.2 q.2)
theorem ord_P : Ordd cmpP := ord_S.both ord_S
theorem cmpK_cons (p q : KV) (l m : List KV) : cmpK (p :: l) (q :: m) = lex (cmpP p q) (cmpK l m) := by
  unfold cmpP
  rw [← lex_assoc]; rfl
theorem ord_K : Ordd cmpK := by
  have hv : ∀ a b, cmpK a b = -1 ∨ cmpK a b = 0 ∨ cmpK a b = 1 := by
    intro a
    induction a with
    | nil => intro b; cases b <;> simp [cmpK]
    | cons p l ih =>
      intro b
      cases b with
      | nil => simp [cmpK]
      | cons q m =>
        rw [cmpK_cons]
        rcases ord_P.val p q with e | e | e
        · rw [e, lex_ne (by decide)]; simp
        · rw [e, lex_zero]; exact ih m
        · rw [e, lex_ne (by decide)]; simp
  refine ⟨hv, ?_, ?_, ?_⟩
  · intro a
    induction a with
    | nil => intro b; cases b <;> simp [cmpK]
    | cons p l ih =>
      intro b
      cases b with
      | nil => simp [cmpK]
      | cons q m =>
        rw [cmpK_cons, cmpK_cons, ord_P.anti p q, ih m]
        by_cases e : cmpP p q = 0
        · rw [e, lex_zero]; show lex 0 _ = _; rw [lex_zero]
        · rw [lex_ne e, lex_ne (by omega)]
  · intro a
    induction a with
    | nil => intro b; cases b <;> simp [cmpK]
    | cons p l ih =>
      intro b
      cases b with
      | nil => simp [cmpK]
      | cons q m =>
        rw [cmpK_cons]
        by_cases e : cmpP p q = 0
        · rw [e, lex_zero, ih m, (ord_P.zero p q).1 e]; simp
        · rw [lex_ne e]
          constructor
          · intro h; exact absurd h e
          · intro h; injection h with h1 _; exact absurd ((ord_P.zero p q).2 h1) e
  · intro a
    induction a with
    | nil => intro b c h1 h2; cases c <;> simp [cmpK]
    | cons p l ih =>
      intro b c h1 h2
      cases b with
      | nil => simp [cmpK] at h1
      | cons q m =>
        cases c with
        | nil => simp [cmpK] at h2
        | cons r n =>
          rw [cmpK_cons] at h1 h2 ⊢
          obtain ⟨k1, k2, k3⟩ := ord_P.facts p q r
          exact lex_tr (ord_P.val _ _) (ord_P.val _ _) (ord_P.val _ _) h1 h2 (ord_P.tr _ _ _) k1 k2 k3 fun _ _ => ih m n
theorem ord_R : Ordd cmpR := by
  have h := (ord_I.both (ord_I.flip.both (ord_S.both ord_K))).pull (fun x : Cor.Reg => (x.b, x.e, x.nm, x.ks)) (fun a b h => by
    obtain ⟨n, b1, e, k⟩ := a
    obtain ⟨n', b', e', k'⟩ := b
    simp only [Prod.mk.injEq] at h
    obtain ⟨rfl, rfl, rfl, rfl⟩ := h
    rfl)
  exact h
end Go.Proofs.YtgkdaebiefhgdaaDoor
