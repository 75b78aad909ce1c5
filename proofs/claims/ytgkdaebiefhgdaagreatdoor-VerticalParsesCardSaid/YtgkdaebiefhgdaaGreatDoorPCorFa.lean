/-
 Several texts of this seat, one behind the other: CorFull, CorApp. No conditions but those of each.
-/
import Derived.Test.YtgkdaebiefhgdaaGreatDoorPCorVfs
import Derived.Test.YtgkdaebiefhgdaaGreatDoorPCorSrt
namespace Go.Proofs.YtgkdaebiefhgdaaGreatDoor
set_option linter.unusedSimpArgs false
set_option linter.unusedVariables false
open Cor (C Nod Txt Reg atErr tkErr txErr rgErr ndErr hdErr check valid within prErr par anc sibE dep ParOk allH allL bare mvT mvR mvN mvH cmpR crossR coverR)
open Tagp (okName)
open Feat (Bs)
def Chain : Int → List Txt → Int → Prop
 | u, [], n => u = n
 | u, t :: l, n => t.b = u ∧ t.b < t.e ∧ Chain t.e l n
def pe (u : Int) (l : List Txt) (k : Nat) : Int := ((u :: l.map Txt.e)[k]?).getD 0
structure TxC (n : Nat) (l : List Txt) : Prop where
 len : l.length ≤ 64
 row : Chain 0 l n
 one : ∀ t ∈ l, okName t.nm = true ∧ prErr t.ks = 0
 dis : l.Pairwise (fun t u => t.nm ≠ u.nm)
structure RgC (ts : List Txt) (l : List Reg) : Prop where
 len : l.length ≤ 1024
 one : ∀ x ∈ l, okName x.nm = true ∧ within ts x.b x.e = true ∧ prErr x.ks = 0
 pw : l.Pairwise (fun y x => cmpR y x ≤ 0 ∧ crossR y x = false)
 cov : ∀ k (hk : k < l.length), ((l.take (k + 1)).filter (coverR l[k])).length ≤ 40
structure NdC (ts : List Txt) (l : List Nod) : Prop where
 len : l.length ≤ 2048
 one : ∀ x ∈ l, okName x.lb = true ∧ within ts x.b x.e = true
 anc : ∀ k (hk : k < l.length), anc l l[k].p k ((k : Int) - 1) = true
 par : ∀ k (hk : k < l.length), 0 ≤ l[k].p → (l[l[k].p.toNat]?).any (fun q => decide (l[k].b < q.b) || decide (q.e < l[k].e)) = false
 sib : ∀ k (hk : k < l.length), (sibE l[k].p (l.take k)).any (fun e => decide (l[k].b < e)) = false
 dep : ∀ k (hk : k < l.length), dep l (k + 1) k ≤ 40
theorem NdC.pok {ts : List Txt} {l : List Nod} (h : NdC ts l) : ParOk l l.length := by
 have : ∀ k, k ≤ l.length → ParOk l k := by
  intro k
  induction k with
  | zero => intro _ j hj; omega
  | succ k ih => intro hk; exact Cor.parOk_step (ih (by omega)) (by omega) (h.anc k (by omega))
 exact this _ (Nat.le_refl _)

structure HdC (n : Nat) (ts : List Txt) (h : List Int) (r : List Bs) : Prop where
 hl : h.length = n
 rl : r.length = n
 one : ∀ k (hk : k < h.length), h[k] = -1 ∨ ∃ t ∈ ts, t.b ≤ (k : Int) ∧ (k : Int) < t.e ∧ t.b ≤ h[k] ∧ h[k] < t.e
 rel : ∀ s ∈ r, s.isEmpty = false → okName s = true
 acy : ∀ k : Nat, k < h.length → ¬ Dep.Cyc h (k : Nat)
theorem HdC.ok {n : Nat} {ts : List Txt} {h : List Int} {r : List Bs} (c : HdC n ts h r) (hb : ∀ t ∈ ts, 0 ≤ t.b ∧ t.e ≤ n) : Dep.Ok h := by
 intro x hx
 obtain ⟨k, hk, rfl⟩ := List.getElem_of_mem hx
 have := c.hl
 rcases c.one k hk with e | ⟨t, ht, a⟩
 ·omega
 ·have := hb t ht; omega
structure Core (c : C) : Prop where
 a : (atErr c.attrs).2 = 0
 t : (tkErr c.attrs c.toks).2 = 0
 x : TxC c.toks.length c.texts
 r : RgC c.texts c.regs
 n : NdC c.texts c.nods
 h : HdC c.toks.length c.texts c.heads c.rels
end Go.Proofs.YtgkdaebiefhgdaaGreatDoor
namespace Go.Proofs.YtgkdaebiefhgdaaGreatDoor
set_option linter.unusedSimpArgs false
set_option linter.unusedVariables false
open Cor (C Nod Txt Reg atErr tkErr txErr rgErr ndErr hdErr check valid within prErr par anc sibE dep ParOk allH allL bare mvT mvR mvN mvH cmpR cmpI crossR coverR)
open Tagp (okName)
open Feat (Bs)
section
variable {l m : List Nod} {n : Int}
end
end Go.Proofs.YtgkdaebiefhgdaaGreatDoor
