/-
 Plain: a valid corpus that is not heavy has a short text. No conditions.
-/
import Derived.Test.YtgkdaebiefhgdaaGreatDoorJVertWt
namespace Go.Proofs.YtgkdaebiefhgdaaGreatDoor
set_option linter.unusedSimpArgs false
set_option linter.unusedVariables false
open Utf
open Feat (Bs)
open Tagp (KV okName)
open Cor (Txt Reg C prErr)
open Vert (bodyV fmtErr writeV)
theorem sum_bd {α : Type} {f : α → Nat} {k : Nat} : ∀ {l : List α}, (∀ x ∈ l, f x ≤ k) → (l.map f).sum ≤ l.length * k
 | [], _ => by simp
 | a :: l, h => by
  have ih := sum_bd (f := f) (k := k) (l := l) fun x hx => h x (by simp [hx])
  have := h a (by simp)
  rw [List.map_cons, List.sum_cons, List.length_cons, Nat.succ_mul]
  omega
theorem pr_bd {l : List KV} (h : prErr l = 0) : wtK l ≤ 1224 := by
 have h8 := prErr_le h
 unfold Cor.prErr at h
 rw [if_neg (by omega)] at h
 have hz := Cor.first_zero 0 l.length h
 rw [wtK_eq]
 refine Nat.le_trans (sum_bd (k := 153) fun p hp => ?_) (Nat.mul_le_mul_right 153 h8)
 obtain ⟨k, hk, rfl⟩ := List.getElem_of_mem hp
 have := hz k (Nat.zero_le _) (by omega)
 unfold Cor.prF at this
 rw [List.getElem?_eq_getElem hk] at this
 dsimp only at this
 by_cases h1 : okName l[k].1 = false
 ·rw [if_pos h1] at this; cases this
 rw [if_neg h1] at this
 have h1 := okName_le32 (by simpa using h1)
 by_cases h2 : 0 < k ∧ (l[k - 1]?).any (fun q => !Feat.lt q.1 l[k].1) = true
 ·rw [if_pos h2] at this; cases this
 rw [if_neg h2] at this
 have := vErr_l120 this
 omega
theorem at_bd {l : List (Bs × Bool)} (h : (Cor.atErr l).2 = 0) : ∀ a ∈ l, a.1.length ≤ 32 := fun a ha => by
 unfold Cor.atErr at h
 by_cases e : l.length = 0
 ·rw [if_pos e] at h; cases h
 rw [if_neg e] at h
 by_cases e2 : 8 < l.length
 ·rw [if_pos e2] at h; cases h
 rw [if_neg e2] at h
 have hz := Cor.first_zero 0 l.length h
 obtain ⟨k, hk, rfl⟩ := List.getElem_of_mem ha
 have := hz k (Nat.zero_le _) (by omega)
 unfold Cor.atF at this
 rw [List.getElem?_eq_getElem hk] at this
 dsimp only at this
 by_cases h1 : okName l[k].1 = false
 ·rw [if_pos h1] at this; cases this
 exact okName_le32 (by simpa using h1)
theorem wt_bd {c : C} (v : Vd c) : wtC c ≤ 1000000000 := by
 have hc := core_of_vd v
 have a1 := v.atl
 have h0 := v.hdl
 have t1 := v.tkl.1
 have x1 := v.txl
 have r1 := v.rgl
 have n1 := v.ndl
 have b1 := sum_bd (f := fun a : Bs × Bool => a.1.length) (k := 32) (at_bd v.a)
 have b2 := sum_bd (f := wtT) (k := 1000) (l := c.toks) fun t ht => by
  have h := sum_bd (f := fun v : Bs => 1 + v.length) (k := 121) (l := t) fun u hu => by
   have := vd_val v t ht u hu
   show 1 + u.length ≤ 121
   omega
  have h2 := v.tkl.2 t ht
  have h3 : t.length * 121 ≤ 8 * 121 := Nat.mul_le_mul_right _ (by omega)
  unfold wtT
  omega
 have b3 := sum_bd (f := wtX) (k := 2000) (l := c.texts) fun t ht => by
  have h := hc.x.one t ht
  have h1 := okName_le32 h.1
  have h2 := pr_bd h.2
  unfold wtX
  omega
 have b4 := sum_bd (f := wtR) (k := 2000) (l := c.regs) fun t ht => by
  have h := hc.r.one t ht
  have h1 := okName_le32 h.1
  have h2 := pr_bd h.2.2
  unfold wtR
  omega
 have b5 := sum_bd (f := fun x : Cor.Nod => 1 + x.lb.length) (k := 33) (l := c.nods) fun t ht => by
  have h := hc.n.one t ht
  have h1 := okName_le32 h.1
  show 1 + t.lb.length ≤ 33
  omega
 have b6 := sum_bd (f := fun s : Bs => 1 + s.length) (k := 33) (l := c.rels) fun s hs => by
  have hm : s ∈ (full c).rels := by
   show s ∈ Cor.allL c
   unfold Cor.allL
   have : 0 < c.rels.length := List.length_pos_of_mem hs
   rw [if_pos (by omega)]
   exact hs
  have h := hc.h.rel s hm
  show 1 + s.length ≤ 33
  cases e : s.isEmpty with
  | true =>
   have : s = [] := by simpa using e
   subst this
   decide
  | false =>
   have := okName_le32 (h e)
   omega
 have m1 : c.attrs.length * 32 ≤ 8 * 32 := Nat.mul_le_mul_right _ a1
 have m2 : c.toks.length * 1000 ≤ 4096 * 1000 := Nat.mul_le_mul_right _ t1
 have m3 : c.texts.length * 2000 ≤ 64 * 2000 := Nat.mul_le_mul_right _ x1
 have m4 : c.regs.length * 2000 ≤ 1024 * 2000 := Nat.mul_le_mul_right _ r1
 have m5 : c.nods.length * 33 ≤ 2048 * 33 := Nat.mul_le_mul_right _ n1
 have m6 : c.rels.length * 33 ≤ 4096 * 33 := Nat.mul_le_mul_right _ (by omega)
 unfold wtC
 omega
theorem light_len {c : C} (v : Vd c) (h : LightC c) : (bodyV c).length ≤ 100000 := by
 obtain ⟨h1, h2, h3, s, ⟨⟨q, hq⟩, hs1, hs2⟩, h5⟩ := h
 have hw := wt_bd v
 have hb := body_wt v
 have : wtC c ≤ 5000 := by omega
 omega
theorem write_join {a b : C} (va : Vd a) (vb : Vd b) (la : LightC a) (lb : LightC b) :
  ((writeV a).2 ≠ 0 ∧ (writeV (Cor.join a b)).2 ≠ 0) ∨ ((writeV a).2 = 0 ∧ (writeV b).2 ≠ 0 ∧ (writeV (Cor.join a b)).2 ≠ 0) ∨
   (writeV a = (bodyV a, 0) ∧ writeV b = (bodyV b, 0) ∧ writeV (Cor.join a b) = (bodyV a ++ bodyV b, 0) ∧ fmtErr (Cor.join a b) = 0 ∧ (bodyV a).length ≤ 100000 ∧ (bodyV b).length ≤ 100000) := by
 have h1 := light_len va la
 have h2 := light_len vb lb
 have e := body_join va vb
 have hl : (bodyV (Cor.join a b)).length ≤ 200000 := by rw [e, List.length_append]; omega
 have fj := fmt_join a b
 have key : ∀ c : C, (bodyV c).length ≤ 200000 → writeV c = if fmtErr c ≠ 0 then ([], fmtErr c) else (bodyV c, 0) := fun c hc => by
  unfold writeV
  by_cases e : fmtErr c ≠ 0
  ·rw [if_pos e, if_pos e]
  ·rw [if_neg e, if_neg e, if_neg (by omega)]
 rw [key a (by omega), key b (by omega), key _ hl]
 by_cases ea : fmtErr a ≠ 0
 ·left
  have : fmtErr (Cor.join a b) ≠ 0 := fun h => ea (fj.1 h).1
  rw [if_pos ea, if_pos this]
  exact ⟨ea, this⟩
 ·rw [if_neg ea]
  by_cases eb : fmtErr b ≠ 0
  ·right; left
   have : fmtErr (Cor.join a b) ≠ 0 := fun h => eb (fj.1 h).2
   rw [if_pos eb, if_pos this]
   exact ⟨rfl, eb, this⟩
  ·right; right
   have : fmtErr (Cor.join a b) = 0 := fj.2 ⟨by omega, by omega⟩
   rw [if_neg eb, if_neg (by omega), e]
   exact ⟨rfl, rfl, rfl, this, h1, h2⟩
end Go.Proofs.YtgkdaebiefhgdaaGreatDoor
