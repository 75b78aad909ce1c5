/-
 Several texts of this seat, one behind the other: CorOrd, CorSortP. No conditions but those of each.
-/
import Derived.Test.YtgkdaebiefhgdaaGreatDoorPCorCmp
import Derived.Test.YtgkdaebiefhgdaaGreatDoorPCorOwn
import Derived.Test.YtgkdaebiefhgdaaGreatDoorPBase6
namespace Go.Proofs.YtgkdaebiefhgdaaGreatDoor
open Feat (Bs lt lt_irrefl lt_trans lt_asymm lt_tri)
open Tagp (KV)
open Cor (cmpI cmpS cmpK cmpR)
structure Ordd {α : Type} (f : α → α → Int) : Prop where
 val : ∀ a b, f a b = -1 ∨ f a b = 0 ∨ f a b = 1
 anti : ∀ a b, f b a = - f a b
 zero : ∀ a b, f a b = 0 ↔ a = b
 tr : ∀ a b c, f a b ≤ 0 → f b c ≤ 0 → f a c ≤ 0
def lex (x y : Int) : Int := if x ≠ 0 then x else y
theorem lex_zero {y : Int} : lex 0 y = y := by unfold lex; simp
theorem lex_ne {x y : Int} (h : x ≠ 0) : lex x y = x := by unfold lex; rw [if_pos h]
theorem lex_assoc (a b c : Int) : lex a (lex b c) = lex (lex a b) c := by
 by_cases h : a = 0
 ·subst h; rw [lex_zero, lex_zero]
 ·rw [lex_ne h, lex_ne h, lex_ne h]
theorem Ordd.flip {α : Type} {f : α → α → Int} (h : Ordd f) : Ordd fun a b => f b a :=
 ⟨fun a b => h.val b a, fun a b => h.anti b a, fun a b => (h.zero b a).trans eq_comm, fun a b c h1 h2 => h.tr c b a h2 h1⟩
theorem Ordd.pull {α β : Type} {f : α → α → Int} (h : Ordd f) (g : β → α) (hg : ∀ a b, g a = g b → a = b) : Ordd fun a b => f (g a) (g b) :=
 ⟨fun a b => h.val _ _, fun a b => h.anti _ _, fun a b => (h.zero _ _).trans ⟨hg a b, fun e => by rw [e]⟩, fun a b c => h.tr _ _ _⟩
theorem lex_tr {x y z u v t : Int} (_ : (z = -1 ∨ z = 0 ∨ z = 1)) (hx : x = -1 ∨ x = 0 ∨ x = 1) (hy : y = -1 ∨ y = 0 ∨ y = 1) (h1 : lex x u ≤ 0) (h2 : lex y v ≤ 0) (ht : x ≤ 0 → y ≤ 0 → z ≤ 0)
  (hxz : x = 0 → z = y) (hyz : y = 0 → z = x) (hs : x = -1 → y = -1 → z ≠ 0) (hr : x = 0 → y = 0 → u ≤ 0 → v ≤ 0 → t ≤ 0) : lex z t ≤ 0 := by
 rcases hx with e | e | e
 ·rw [e, lex_ne (by decide)] at h1
  rcases hy with e2 | e2 | e2
  ·have := hs e e2
   have := ht (by omega) (by omega)
   rw [lex_ne (by omega)]; omega
  ·have := hyz e2
   rw [this, e, lex_ne (by decide)]; omega
  ·rw [e2, lex_ne (by decide)] at h2; omega
 ·rw [e, lex_zero] at h1
  rcases hy with e2 | e2 | e2
  ·have := hxz e
   rw [this, e2, lex_ne (by decide)]; omega
  ·have := hxz e
   rw [e2, lex_zero] at h2
   rw [this, e2, lex_zero]; exact hr e e2 h1 h2
  ·rw [e2, lex_ne (by decide)] at h2; omega
 ·rw [e, lex_ne (by decide)] at h1; omega
theorem Ordd.facts {α : Type} {f : α → α → Int} (h : Ordd f) (a b c : α) : (f a b = 0 → f a c = f b c) ∧ (f b c = 0 → f a c = f a b) ∧ (f a b = -1 → f b c = -1 → f a c ≠ 0) := by
 refine ⟨fun e => by rw [(h.zero a b).1 e], fun e => by rw [(h.zero b c).1 e], fun e1 e2 e3 => ?_⟩
 have := (h.zero a c).1 e3
 subst this
 rw [h.anti a b, e1] at e2; omega
theorem Ordd.both {α β : Type} {f : α → α → Int} {g : β → β → Int} (hf : Ordd f) (hg : Ordd g) : Ordd fun (a b : α × β) => lex (f a.1 b.1) (g a.2 b.2) := by
 refine ⟨fun a b => ?_, fun a b => ?_, fun a b => ?_, fun a b c h1 h2 => ?_⟩
 ·rcases hf.val a.1 b.1 with e | e | e
  ·rw [e, lex_ne (by decide)]; simp
  ·rw [e, lex_zero]; exact hg.val _ _
  ·rw [e, lex_ne (by decide)]; simp
 ·rw [hf.anti a.1 b.1, hg.anti a.2 b.2]
  by_cases e : f a.1 b.1 = 0
  ·rw [e, lex_zero]; show lex 0 _ = _; rw [lex_zero]
  ·rw [lex_ne e, lex_ne (by omega)]
 ·by_cases e : f a.1 b.1 = 0
  ·rw [e, lex_zero, hg.zero]
   have := (hf.zero _ _).1 e
   constructor
   ·intro h; exact Prod.ext this h
   ·rintro rfl; rfl
  ·rw [lex_ne e]
   constructor
   ·intro h; exact absurd h e
   ·rintro rfl; exact (hf.zero _ _).2 rfl
 ·obtain ⟨k1, k2, k3⟩ := hf.facts a.1 b.1 c.1
  exact lex_tr (hf.val _ _) (hf.val _ _) (hf.val _ _) h1 h2 (hf.tr _ _ _) k1 k2 k3 fun _ _ => hg.tr _ _ _
theorem ord_I : Ordd cmpI := by
 refine ⟨fun a b => ?_, fun a b => ?_, fun a b => cmpI_zero, fun a b c h1 h2 => ?_⟩
 ·unfold cmpI; split
  ·simp
  ·split <;> simp
 ·unfold cmpI; split <;> split <;> (try split) <;> omega
 ·unfold cmpI at *
  split at h1 <;> split at h2 <;> (try split at h1) <;> (try split at h2) <;> (try omega) <;> (split <;> (try split) <;> omega)
theorem ord_S : Ordd cmpS := by
 have hv : ∀ a b, cmpS a b = -1 ∨ cmpS a b = 0 ∨ cmpS a b = 1 := by
  intro a b
  rcases lt_tri a b with h | h | h
  ·exact .inl (cmpS_lt h)
  ·subst h; exact .inr (.inl (cmpS_eq a))
  ·exact .inr (.inr (cmpS_gt h))
 have hn : ∀ a b, cmpS a b = -1 → lt a b = true := by
  intro a b h
  rcases lt_tri a b with k | k | k
  ·exact k
  ·subst k; rw [cmpS_eq] at h; cases h
  ·rw [cmpS_gt k] at h; cases h
 refine ⟨hv, fun a b => ?_, fun a b => cmpS_zero, fun a b c h1 h2 => ?_⟩
 ·rcases lt_tri a b with h | h | h
  ·rw [cmpS_lt h, cmpS_gt h]; rfl
  ·subst h; rw [cmpS_eq]; rfl
  ·rw [cmpS_lt h, cmpS_gt h]
 ·rcases hv a b with e | e | e
  ·rcases hv b c with e2 | e2 | e2
   ·rw [cmpS_lt (lt_trans (hn _ _ e) (hn _ _ e2))]; omega
   ·rw [← cmpS_zero.1 e2, e]; omega
   ·omega
  ·rw [cmpS_zero.1 e]; exact h2
  ·omega
def cmpP (p q : KV) : Int := lex (cmpS p.1 q.1) (cmpS p.2 q.2)
theorem ord_P : Ordd cmpP := ord_S.both ord_S
theorem cmpK_cons (p q : KV) (l m : List KV) : cmpK (p :: l) (q :: m) = lex (cmpP p q) (cmpK l m) := by
 unfold cmpP
 rw [← lex_assoc]; rfl
theorem ord_K : Ordd cmpK := by
 have hv : ∀ a b, cmpK a b = -1 ∨ cmpK a b = 0 ∨ cmpK a b = 1 := by
  intro a
  induction a with
  | nil => intro b; cases b <;> simp [cmpK]
  | cons p l ih =>
   intro b
   cases b with
   | nil => simp [cmpK]
   | cons q m =>
    rw [cmpK_cons]
    rcases ord_P.val p q with e | e | e
    ·rw [e, lex_ne (by decide)]; simp
    ·rw [e, lex_zero]; exact ih m
    ·rw [e, lex_ne (by decide)]; simp
 refine ⟨hv, ?_, ?_, ?_⟩
 ·intro a
  induction a with
  | nil => intro b; cases b <;> simp [cmpK]
  | cons p l ih =>
   intro b
   cases b with
   | nil => simp [cmpK]
   | cons q m =>
    rw [cmpK_cons, cmpK_cons, ord_P.anti p q, ih m]
    by_cases e : cmpP p q = 0
    ·rw [e, lex_zero]; show lex 0 _ = _; rw [lex_zero]
    ·rw [lex_ne e, lex_ne (by omega)]
 ·intro a
  induction a with
  | nil => intro b; cases b <;> simp [cmpK]
  | cons p l ih =>
   intro b
   cases b with
   | nil => simp [cmpK]
   | cons q m =>
    rw [cmpK_cons]
    by_cases e : cmpP p q = 0
    ·rw [e, lex_zero, ih m, (ord_P.zero p q).1 e]; simp
    ·rw [lex_ne e]
     constructor
     ·intro h; exact absurd h e
     ·intro h; injection h with h1 _; exact absurd ((ord_P.zero p q).2 h1) e
 ·intro a
  induction a with
  | nil => intro b c h1 h2; cases c <;> simp [cmpK]
  | cons p l ih =>
   intro b c h1 h2
   cases b with
   | nil => simp [cmpK] at h1
   | cons q m =>
    cases c with
    | nil => simp [cmpK] at h2
    | cons r n =>
     rw [cmpK_cons] at h1 h2 ⊢
     obtain ⟨k1, k2, k3⟩ := ord_P.facts p q r
     exact lex_tr (ord_P.val _ _) (ord_P.val _ _) (ord_P.val _ _) h1 h2 (ord_P.tr _ _ _) k1 k2 k3 fun _ _ => ih m n
theorem ord_R : Ordd cmpR := by
 have h := (ord_I.both (ord_I.flip.both (ord_S.both ord_K))).pull (fun x : Cor.Reg => (x.b, x.e, x.nm, x.ks)) (fun a b h => by
  obtain ⟨n, b1, e, k⟩ := a
  obtain ⟨n', b', e', k'⟩ := b
  simp only [Prod.mk.injEq] at h
  obtain ⟨rfl, rfl, rfl, rfl⟩ := h
  rfl)
 exact h
end Go.Proofs.YtgkdaebiefhgdaaGreatDoor
namespace Go.Proofs.YtgkdaebiefhgdaaGreatDoor
set_option linter.unusedSimpArgs false
set_option linter.unusedVariables false
open Go.RowKit
open Feat (Bs)
open Tagp (KV)
open Cor (cmpR)
def spot (x : Cor.Reg) (m : List Cor.Reg) : Nat → Nat
 | 0 => 0
 | i + 1 => match m[i]? with
  | none => i + 1
  | some y => if cmpR x y < 0 then spot x m i else i + 1
theorem spot_le (x : Cor.Reg) (m : List Cor.Reg) : ∀ i, spot x m i ≤ i
 | 0 => Nat.le_refl _
 | i + 1 => by
  unfold spot
  split
  ·exact Nat.le_refl _
  ·split
   ·exact Nat.le_succ_of_le (spot_le x m i)
   ·exact Nat.le_refl _
theorem spot_down {x : Cor.Reg} {m : List Cor.Reg} {i : Nat} (h : i < m.length) (hc : cmpR x m[i] < 0) : spot x m (i + 1) = spot x m i := by
 rw [spot, List.getElem?_eq_getElem h]; simp only []; rw [if_pos hc]
theorem spot_stay {x : Cor.Reg} {m : List Cor.Reg} {i : Nat} (h : i < m.length) (hc : ¬ cmpR x m[i] < 0) : spot x m (i + 1) = i + 1 := by
 rw [spot, List.getElem?_eq_getElem h]; simp only []; rw [if_neg hc]
def insT (x : Cor.Reg) (m : List Cor.Reg) : List Cor.Reg := m.take (spot x m m.length) ++ x :: m.drop (spot x m m.length)
def sortT (l : List Cor.Reg) : List Cor.Reg := l.foldl (fun m x => insT x m) []
theorem sortT_take (l : List Cor.Reg) (k : Nat) (h : k < l.length) : sortT (l.take (k + 1)) = insT l[k] (sortT (l.take k)) := by
 rw [List.take_succ_eq_append_getElem h]; unfold sortT; rw [List.foldl_append]; rfl
theorem set_four (cur : List Value) (a : Nat) (v0 v1 v2 v3 : Value) (h : a + 4 ≤ cur.length) : (((cur.set a v0).set (a + 1) v1).set (a + 2) v2).set (a + 3) v3 = cur.take a ++ ([v0, v1, v2, v3] ++ cur.drop (a + 4)) := by
 obtain ⟨b, c0, c1, c2, c3, r, e, hb⟩ : ∃ b c0 c1 c2 c3 r, cur = b ++ c0 :: c1 :: c2 :: c3 :: r ∧ b.length = a := by
  refine ⟨cur.take a, cur[a], cur[a + 1], cur[a + 2], cur[a + 3], cur.drop (a + 4), ?_, by rw [List.length_take]; omega⟩
  rw [← List.drop_eq_getElem_cons, ← List.drop_eq_getElem_cons, ← List.drop_eq_getElem_cons, ← List.drop_eq_getElem_cons, List.take_append_drop]
 subst e hb
 rw [List.set_append_right _ _ (Nat.le_refl _), List.set_append_right _ _ (by omega), List.set_append_right _ _ (by omega), List.set_append_right _ _ (by omega), List.take_left' rfl, List.drop_append]
 simp [show b.length + 1 - b.length = 1 by omega, show b.length + 2 - b.length = 2 by omega, show b.length + 3 - b.length = 3 by omega, show b.length + 4 - b.length = 4 by omega, show b.drop (b.length + 4) = [] from List.drop_eq_nil_of_le (by omega)]
theorem flat_len4 (L : List TH) : (L.flatMap txV).length = L.length * 4 := flat_len txV_len L
theorem shifted_txt (cur : List Value) (L : List TH) (p z : TH) (i : Nat) (hi : i ≤ L.length) (hc : cur.take ((L.length + 1) * 4) = (L ++ [z]).flatMap txV) :
  (((((splice cur ((i + 1) * 4) ((L.drop i).flatMap txV)).set (i * 4) (str p.1.nm)).set (i * 4 + 1) (.int .i64 p.1.b)).set (i * 4 + 2) (.int .i64 p.1.e)).set (i * 4 + 3) p.2.v).take ((L.length + 1) * 4) = (L.take i ++ p :: L.drop i).flatMap txV := by
 have hlen : (L.length + 1) * 4 ≤ cur.length := by
  have := congrArg List.length hc
  rw [flat_len4, List.length_take] at this
  simp only [List.length_append, List.length_cons, List.length_nil] at this
  omega
 have h1 : cur.take (i * 4) = (L.take i).flatMap txV := by
  have : (cur.take ((L.length + 1) * 4)).take (i * 4) = cur.take (i * 4) := by rw [List.take_take]; congr 1; omega
  rw [← this, hc]
  conv => lhs; rw [show L ++ [z] = L.take i ++ (L.drop i ++ [z]) by rw [← List.append_assoc, List.take_append_drop]]
  rw [List.flatMap_append]
  exact List.take_left' (by rw [flat_len4, List.length_take]; omega)
 have hd : ((L.drop i).flatMap txV).length = (L.length - i) * 4 := by rw [flat_len4, List.length_drop]
 have hsl := length_splice cur ((i + 1) * 4) ((L.drop i).flatMap txV) (by omega)
 have hs1 : (splice cur ((i + 1) * 4) ((L.drop i).flatMap txV)).take (i * 4) = (L.take i).flatMap txV := by
  unfold splice
  rw [List.take_append_of_le_length (by rw [List.length_take]; omega), List.take_take, show min (i * 4) ((i + 1) * 4) = i * 4 by omega, h1]
 have hs2 : (splice cur ((i + 1) * 4) ((L.drop i).flatMap txV)).drop (i * 4 + 4) = (L.drop i).flatMap txV ++ cur.drop ((i + 1) * 4 + ((L.drop i).flatMap txV).length) := by
  unfold splice
  rw [show i * 4 + 4 = (i + 1) * 4 by omega, List.drop_left' (by rw [List.length_take]; omega)]
 rw [set_four _ _ _ _ _ _ (by rw [hsl]; omega), hs1, hs2]
 rw [show (L.take i).flatMap txV ++ ([str p.1.nm, .int .i64 p.1.b, .int .i64 p.1.e, p.2.v] ++ ((L.drop i).flatMap txV ++ cur.drop ((i + 1) * 4 + ((L.drop i).flatMap txV).length))) = (L.take i ++ p :: L.drop i).flatMap txV ++ cur.drop ((i + 1) * 4 + ((L.drop i).flatMap txV).length) by simp [txV]]
 refine List.take_left' ?_
 rw [flat_len4]
 simp
 omega
theorem own_after_txt {w : World} {base g cap i : Nat} {cur : List Value} {L : List TH} {p z : TH} {E : TypeId} (hb : base ≤ g) (hB : Blk w g E (splice cur ((i + 1) * 4) ((L.drop i).flatMap txV)).toArray)
  (hi : i ≤ L.length) (hk : (i + 1) * 4 + ((L.drop i).flatMap txV).length ≤ cur.length) (ht : cur.take ((L.length + 1) * 4) = (L ++ [z]).flatMap txV) (hs : cur.length = cap * 4 ∧ cap ≤ maxLen ∧ L.length + 1 ≤ cap) :
  ((((w.setCell ⟨g, i * 4, none⟩ (str p.1.nm)).setCell ⟨g, i * 4 + 1, none⟩ (.int .i64 p.1.b)).setCell ⟨g, i * 4 + 2, none⟩ (.int .i64 p.1.e)).setCell ⟨g, i * 4 + 3, none⟩ p.2.v).ownsRow base E 4 (.slice (some ⟨g, 0, none⟩) (L.length + 1) cap) (L.length + 1) ((L.take i ++ p :: L.drop i).flatMap txV) := by
 have hl := length_splice cur ((i + 1) * 4) ((L.drop i).flatMap txV) hk
 have hln : (L.take i ++ p :: L.drop i).length = L.length + 1 := by simp; omega
 refine ⟨by rw [flat_len4, hln], .inr ⟨g, cap, _, rfl, hb, (((hB.set_ _ (str p.1.nm)).set_ _ (.int .i64 p.1.b)).set_ _ (.int .i64 p.1.e)).set_ _ p.2.v, by omega, hs.2.1, by simp [hl, hs.1], ?_⟩⟩
 rw [← shifted_txt cur L p z i hi ht]
 simp
theorem after_cells {w : World} {g cap i : Nat} {cur : List Value} {L : List TH} {E : TypeId} (hB : Blk w g E (splice cur ((i + 1) * 4) ((L.drop i).flatMap txV)).toArray)
  (hi : i ≤ L.length) (hk : (i + 1) * 4 + ((L.drop i).flatMap txV).length ≤ cur.length) (hs : cur.length = cap * 4 ∧ cap ≤ maxLen ∧ L.length + 1 ≤ cap) (j : Nat) (hj : j < 4) : (∃ old, w.cell? ⟨g, i * 4 + j, none⟩ = some old) ∧ w.frozen? ⟨g, i * 4 + j, none⟩ = false := by
 have hl := length_splice cur ((i + 1) * 4) ((L.drop i).flatMap txV) hk
 exact ⟨⟨_, (hB.cell _).trans (by rw [List.getElem?_toArray]; exact List.getElem?_eq_getElem (by omega))⟩, hB.free _⟩
theorem txV_one7 (L : List TH) : ∀ u ∈ L.flatMap txV, u.oneCell' = true := by
 intro u hu
 rw [List.mem_flatMap] at hu
 obtain ⟨p, _, hp⟩ := hu
 unfold txV at hp
 simp at hp
 rcases hp with rfl | rfl | rfl | rfl <;> rfl
abbrev zeroT : TH := (⟨[], 0, 0, []⟩, ⟨none, 0, 0⟩)
theorem news_four {w : World} {t : TypeId} {a b c d : Value} {k : Nat} (h : w.heap.size = k) : ∀ j u, [a, b, c, d][j]? = some u → (w.alloc (.cells #[a, b, c, d] t)).cell? ((⟨k, 0, none⟩ : Addr).add j) = some u := by
 subst h
 exact news_new w t [a, b, c, d]
theorem own_four {w : World} {base : Nat} {e : TypeId} {g n cap : Nat} {L : List TH} (h : w.ownsRow base e 4 (.slice (some ⟨g, 0, none⟩) n cap) n (L.flatMap txV)) (k : Nat) (hk : k < L.length) :
  w.cell? ⟨g, k * 4, none⟩ = some (str L[k].1.nm) ∧ w.cell? ⟨g, k * 4 + 1, none⟩ = some (.int .i64 L[k].1.b) ∧ w.cell? ⟨g, k * 4 + 2, none⟩ = some (.int .i64 L[k].1.e) ∧ w.cell? ⟨g, k * 4 + 3, none⟩ = some (.slice L[k].2.A L[k].2.n L[k].2.c) := by
 have hl : L.length * 4 = n * 4 := by rw [← flat_len4]; exact h.1
 have q := fun j hj => flat_at txV_len L k hk j hj
 refine ⟨?_, ?_, ?_, ?_⟩
 ·rw [h.cellAt (k * 4) (by omega)]; exact q 0 (by omega)
 ·rw [h.cellAt (k * 4 + 1) (by omega)]; exact q 1 (by omega)
 ·rw [h.cellAt (k * 4 + 2) (by omega)]; exact q 2 (by omega)
 ·rw [h.cellAt (k * 4 + 3) (by omega)]; exact q 3 (by omega)
theorem ins_at {M : List TH} {x : Cor.Reg} {i : Nat} {y : TH} (hy : y.1 = x) (h : spot x (M.map Prod.fst) M.length = i) : (M.take i ++ y :: M.drop i).map Prod.fst = insT x (M.map Prod.fst) := by
 unfold insT
 rw [List.length_map, h]
 simp [hy]
theorem ins_mem {M : List TH} {i : Nat} {y z : TH} (h : z ∈ M.take i ++ y :: M.drop i) : z ∈ M ∨ z = y := by
 rcases List.mem_append.1 h with h | h
 ·exact .inl (List.mem_of_mem_take h)
 ·rcases List.mem_cons.1 h with h | h
  ·exact .inr h
  ·exact .inl (List.mem_of_mem_drop h)
theorem off4 {w : World} {g : Nat} {t : TypeId} {cs : Array Value} (h : Blk w g t cs) (a b c d : Nat) (v0 v1 v2 v3 : Value) :
  Off t w ((((w.setCell ⟨g, a, none⟩ v0).setCell ⟨g, b, none⟩ v1).setCell ⟨g, c, none⟩ v2).setCell ⟨g, d, none⟩ v3) := by
 have h1 := h.set_ a v0
 have h2 := h1.set_ b v1
 have h3 := h2.set_ c v2
 exact (((Off.set_ h a v0).trans (Off.set_ h1 b v1)).trans (Off.set_ h2 c v2)).trans (Off.set_ h3 d v3)
theorem below4 {B g : Nat} {w w' : World} (h : Below B w w') (hg : B ≤ g) (a b c d : Nat) (v0 v1 v2 v3 : Value) :
  Below B w ((((w'.setCell ⟨g, a, none⟩ v0).setCell ⟨g, b, none⟩ v1).setCell ⟨g, c, none⟩ v2).setCell ⟨g, d, none⟩ v3) :=
 (((h.setCell (p := ⟨g, a, none⟩) hg _).setCell (p := ⟨g, b, none⟩) hg _).setCell (p := ⟨g, c, none⟩) hg _).setCell (p := ⟨g, d, none⟩) hg _
theorem size_reg : (Tryz.prog.info? 69).map (·.size) = some 4 := by kernel_rfl
end Go.Proofs.YtgkdaebiefhgdaaGreatDoor
