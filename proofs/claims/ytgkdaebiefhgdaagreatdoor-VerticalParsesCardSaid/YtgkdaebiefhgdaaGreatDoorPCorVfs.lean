/-
 Several texts of this seat, one behind the other: CorVF, CorVal2. No conditions but those of each.
-/
import Derived.Test.YtgkdaebiefhgdaaGreatDoorPCorPl
import Derived.Test.YtgkdaebiefhgdaaGreatDoorPCorVal
namespace Go.Proofs.YtgkdaebiefhgdaaGreatDoor
open Cor (C Nod Txt atErr tkErr txErr rgErr ndErr hdErr check valid within prErr par anc sibE ParOk)
structure Vd (c : C) : Prop where
 a : (atErr c.attrs).2 = 0
 t : (tkErr c.attrs c.toks).2 = 0
 x : (txErr c.toks.length c.texts).2 = 0
 r : (rgErr c.texts c.regs).2 = 0
 n : (ndErr c.texts c.nods).2 = 0
 h : (hdErr c.toks.length c.texts c.heads c.rels).2 = 0
theorem prErr_le {l : List Tagp.KV} (h : prErr l = 0) : l.length ≤ 8 := by
 unfold prErr at h
 by_cases e : 8 < l.length
 ·rw [if_pos e] at h; cases h
 ·omega
theorem sib_at {c : C} : ∀ (k : Nat) (_ : k ≤ c.nods.length) (p : Int) (a : Nat) (_ : a < k) (ha : a < c.nods.length), c.nods[a].p = p → ∃ s, ∃ hs : s < c.nods.length, a ≤ s ∧ s < k ∧ sibE p (c.nods.take k) = some c.nods[s].e
 | 0, _, p, a, h, _, _ => by omega
 | k + 1, hk, p, a, hak, ha, e => by
  rw [Cor.sibE_take (show k < c.nods.length by omega)]
  by_cases e2 : c.nods[k].p = p
  ·rw [if_pos e2]; exact ⟨k, by omega, by omega, by omega, rfl⟩
  ·rw [if_neg e2]
   have : a ≠ k := by rintro rfl; exact e2 e
   obtain ⟨s, hs, h1, h2, h3⟩ := sib_at k (by omega) p a (by omega) ha e
   exact ⟨s, hs, h1, by omega, h3⟩
section
variable {c : C} (v : Vd c)
include v
theorem Vd.txs : TextsOk c.texts c.toks.length := (texts_ok v.x).1
theorem Vd.txl : c.texts.length ≤ 64 := (texts_ok v.x).2
theorem Vd.tx : ∀ t ∈ c.texts, 0 ≤ t.b ∧ t.b < t.e ∧ t.e ≤ c.toks.length ∧ t.ks.length ≤ 8 := by
 intro t ht
 have h1 := v.txs.pos t ht
 have h2 := v.txs.top t ht
 have h := v.x
 have hl := v.txl
 unfold txErr at h
 rw [if_neg (by omega)] at h
 by_cases e2 : ((c.texts.length == 0) != (c.toks.length == 0)) = true
 ·rw [if_pos e2] at h; cases h
 rw [if_neg e2] at h
 obtain ⟨k, hk, rfl⟩ := List.getElem_of_mem ht
 have := txF_ok hk (Cor.first_zero 0 _ h k (Nat.zero_le _) (by omega))
 exact ⟨h1, this.2.2.2.1, h2, prErr_le this.2.2.2.2.2.2⟩
theorem Vd.wi {b e : Int} (h : within c.texts b e = true) : 0 ≤ b ∧ b < e ∧ e ≤ c.toks.length := by
 have h1 := Cor.within_pos v.txs.pos h
 have h2 := Cor.within_lt h
 unfold within at h
 rw [List.any_eq_true] at h
 obtain ⟨t, ht, h3⟩ := h
 have h4 := v.txs.top t ht
 simp only [Bool.and_eq_true, decide_eq_true_eq] at h3
 omega
theorem Vd.rgl : c.regs.length ≤ 1024 := by
 have h := v.r
 unfold rgErr at h
 by_cases e : 1024 < c.regs.length
 ·rw [if_pos e] at h; cases h
 ·omega
theorem Vd.rz : ∀ k, k < c.regs.length → Cor.rgF c.texts c.regs k = 0 := by
 have h := v.r
 have hl := v.rgl
 unfold rgErr at h
 rw [if_neg (by omega)] at h
 exact fun k hk => Cor.first_zero 0 _ h k (Nat.zero_le _) (by omega)
theorem Vd.rg : ∀ x ∈ c.regs, within c.texts x.b x.e = true ∧ 0 ≤ x.b ∧ x.b < x.e ∧ x.e ≤ c.toks.length ∧ x.ks.length ≤ 8 := by
 intro x hx
 obtain ⟨k, hk, rfl⟩ := List.getElem_of_mem hx
 have := Cor.rgF_ok hk (v.rz k hk)
 have h2 := v.wi this.2.1
 exact ⟨this.2.1, h2.1, h2.2.1, h2.2.2, prErr_le this.2.2.1⟩
theorem Vd.ndl : c.nods.length ≤ 2048 := by
 have h := v.n
 unfold ndErr at h
 by_cases e : 2048 < c.nods.length
 ·rw [if_pos e] at h; cases h
 ·omega
theorem Vd.nz : ∀ k, k < c.nods.length → Cor.ndF c.texts c.nods k = 0 := by
 have h := v.n
 have hl := v.ndl
 unfold ndErr at h
 rw [if_neg (by omega)] at h
 exact fun k hk => Cor.first_zero 0 _ h k (Nat.zero_le _) (by omega)
theorem Vd.pok : ParOk c.nods c.nods.length := Cor.parOk_of (Nat.le_refl _) v.nz
theorem Vd.nd : ∀ k (hk : k < c.nods.length), within c.texts c.nods[k].b c.nods[k].e = true ∧ 0 ≤ c.nods[k].b ∧ c.nods[k].b < c.nods[k].e ∧ c.nods[k].e ≤ c.toks.length ∧ -1 ≤ c.nods[k].p ∧ c.nods[k].p < k := by
 intro k hk
 have := Cor.ndF_ok hk (v.nz k hk)
 have h2 := v.wi this.2.1
 have h3 := v.pok k hk hk
 exact ⟨this.2.1, h2.1, h2.2.1, h2.2.2, h3.1, h3.2⟩
theorem Vd.hdl : c.heads.length = c.rels.length ∧ (c.heads.length = 0 ∨ c.heads.length = c.toks.length) := by
 have h := v.h
 unfold hdErr at h
 by_cases e : c.heads.length ≠ c.rels.length ∨ (c.heads.length ≠ 0 ∧ c.heads.length ≠ c.toks.length)
 ·rw [if_pos e] at h; cases h
 ·omega
theorem Vd.bare : 0 < c.heads.length → Cor.bare c.heads c.rels = false := by
 intro hp
 have h := v.h
 unfold hdErr at h
 have := v.hdl
 rw [if_neg (by omega)] at h
 cases hb : Cor.bare c.heads c.rels with
 | false => rfl
 | true => rw [if_pos ⟨hp, hb⟩] at h; cases h
theorem Vd.hz : ∀ k, k < c.heads.length → Cor.hdF c.texts c.heads c.rels k = 0 := by
 intro k hk
 have h := v.h
 unfold hdErr at h
 have hl := v.hdl
 rw [if_neg (by omega), if_neg (by
  rintro ⟨a, b⟩
  rw [v.bare a] at b; cases b)] at h
 exact Cor.first_zero 0 _ h k (Nat.zero_le _) (by omega)
theorem Vd.hd {i : Nat} (hi : i < c.texts.length) {k : Nat} (hk : k < c.heads.length) (h : hits c.texts[i] k = true) : c.heads[k] = -1 ∨ (c.texts[i].b ≤ c.heads[k] ∧ c.heads[k] < c.texts[i].e) := by
 have hz := v.hz k hk
 have hl := v.hdl
 rw [hdF_at hk (by omega)] at hz
 have ht := v.tx _ (List.getElem_mem hi)
 have hq := out_iff (x := c.heads[k]) v.txs hi h
 by_cases e : c.heads[k] = -1
 ·exact .inl e
 ·right
  rw [show c.toks.length = c.heads.length by omega] at hq
  refine Classical.byContradiction fun hc => ?_
  rw [if_pos ⟨e, hq.2 (by omega)⟩] at hz
  cases hz
theorem Vd.up (j : Nat) (hj : j < c.nods.length) : ∀ (f : Nat) (k : Nat) (hk : k < c.nods.length) (p : Int), c.nods[k].b ≤ c.nods[j].b → c.nods[j].e ≤ c.nods[k].e → k ≤ j → p ≠ k → k ≤ f → anc c.nods p f (k : Nat) = true →
  ∃ a, ∃ ha : a < c.nods.length, a ≤ j ∧ c.nods[a].p = p ∧ c.nods[a].b ≤ c.nods[j].b ∧ c.nods[j].e ≤ c.nods[a].e
 | 0, k, hk, p, h1, h2, hkj, hne, hf, h => by
  unfold anc at h; simp at h; omega
 | f + 1, k, hk, p, h1, h2, hkj, hne, hf, h => by
  rw [Cor.anc_step f (by omega) (by omega), Cor.par_at hk] at h
  by_cases e : c.nods[k].p = p
  ·exact ⟨k, hk, hkj, e, h1, h2⟩
  ·have hp := v.pok k hk hk
   by_cases e0 : c.nods[k].p < 0
   ·rw [Cor.anc_end f (.inl e0)] at h
    simp at h; omega
   ·have hq := (Cor.ndF_ok hk (v.nz k hk)).2.2.2.1 (by omega)
    have hlt : c.nods[k].p.toNat < c.nods.length := by omega
    rw [List.getElem?_eq_getElem hlt] at hq
    simp only [Option.any_some, Bool.or_eq_false_iff, decide_eq_false_iff_not] at hq
    have e2 : c.nods[k].p = (c.nods[k].p.toNat : Nat) := by omega
    refine Vd.up j hj f c.nods[k].p.toNat hlt p (by omega) (by omega) (by omega) (by omega) (by omega) ?_
    rw [← e2]; exact h
theorem Vd.mono {u : Int} (hu : ∀ t ∈ c.texts, t.e ≤ u ∨ u ≤ t.b) : ∀ (j : Nat) (hj : j < c.nods.length) (i : Nat) (_ : i ≤ j), u ≤ (c.nods[i]'(by omega)).b → u ≤ c.nods[j].b
 | 0, hj, i, hi, h => by
  have : i = 0 := by omega
  subst this; exact h
 | j + 1, hj, i, hi, h => by
  by_cases e : i = j + 1
  ·subst e; exact h
  ·have hj0 : u ≤ (c.nods[j]'(by omega)).b := Vd.mono hu j (by omega) i (by omega) h
   have hok := Cor.ndF_ok hj (v.nz (j + 1) hj)
   have ew : (((j + 1 : Nat) : Int) - 1) = (j : Nat) := by omega
   rw [ew] at hok
   by_cases ep : c.nods[j + 1].p = (j : Nat)
   ·have h4 := hok.2.2.2.1 (by omega)
    have e2 : c.nods[j + 1].p.toNat = j := by omega
    rw [e2, List.getElem?_eq_getElem (show j < c.nods.length by omega)] at h4
    simp only [Option.any_some, Bool.or_eq_false_iff, decide_eq_false_iff_not] at h4
    omega
   ·obtain ⟨a, ha, haj, hap, hab, hae⟩ := v.up j (by omega) (j + 1) j (by omega) c.nods[j + 1].p (Int.le_refl _) (Int.le_refl _) (Nat.le_refl _) (by omega) (by omega) hok.2.2.1
    have hj2 := v.nd j (by omega)
    have haw := (v.nd a ha).1
    have hau : u ≤ c.nods[a].b := by
     unfold within at haw
     rw [List.any_eq_true] at haw
     obtain ⟨t, ht, h3⟩ := haw
     simp only [Bool.and_eq_true, decide_eq_true_eq] at h3
     rcases hu t ht with h5 | h5 <;> omega
    obtain ⟨s, hs, has, hsj, hse⟩ := sib_at (c := c) (j + 1) (by omega) c.nods[j + 1].p a (by omega) ha hap
    have h5 := hok.2.2.2.2.1
    rw [hse] at h5
    simp only [Option.any_some, decide_eq_false_iff_not] at h5
    have hsu : u ≤ c.nods[s].b := Vd.mono hu s hs a has hau
    have := v.nd s hs
    omega
end
end Go.Proofs.YtgkdaebiefhgdaaGreatDoor
namespace Go.Proofs.YtgkdaebiefhgdaaGreatDoor
open Go.RowKit Utf
open Feat (Bs)
end Go.Proofs.YtgkdaebiefhgdaaGreatDoor
