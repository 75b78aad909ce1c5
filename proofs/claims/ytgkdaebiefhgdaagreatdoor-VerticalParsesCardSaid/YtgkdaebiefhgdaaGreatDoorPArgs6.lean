/-
 A law's arguments of chapter 6: a corpus, a region, a list of regions, as they read in memory. No conditions.
-/
import Derived.Test.YtgkdaebiefhgdaaGreatDoorRows
import Derived.Test.YtgkdaebiefhgdaaGreatDoorPBase6
import Derived.Test.YtgkdaebiefhgdaaGreatDoorPCorMem
import Derived.Test.YtgkdaebiefhgdaaGreatDoorProg
import Derived.OpenShut
import Derived.Lib.Hide
import Derived.Deep.Slices
import Derived.Deep.Fields
import Derived.ChangeSame
import Derived.Lib.SmallJoins
namespace Go.Proofs.YtgkdaebiefhgdaaGreatDoor
open Go.ChangeShapes Go.WideShapes Go.ChangeAt Go.RowKit Go.Joins Go.Deep
open Feat (Bs)
section
variable {H : Type} {enc : TypeId × Value → H} {P : Program} {w : World} {base : Nat} {spare : Nat → Bool} {held : Bool}
theorem open_flds {t e : TypeId} {fs : Array Field} {fuel : Nat} {cs : List Value} {x : DataW H × List MemPlace} (ht : P.underlying t = some (.slice e)) (he : P.underlying e = some (.struct fs))
  (hone : oneCellFields P fs = true) (hC : P.cellsOf e = fs.size) (h : DataW.trod enc P w base spare held fuel t cs = some x) :
  cs = [.slice none 0 0] ∨
  ∃ (a : Addr) (len cap : Nat), cs = [.slice (some a) len cap] ∧ len ≤ cap ∧ cap ≤ maxLen ∧
   ∀ i, i < len → ∃ (n : Nat), ∀ (j : Nat) (f : Field), fs[j]? = some f → ∃ (v : Value) (y : DataW H × List MemPlace), w.cell? (a.add (i * fs.size + j)) = some v ∧ DataW.trod enc P w base spare held n f.type [v] = some y := by
 rcases open_slice ht h with h0 | ⟨a, len, cap, m, n, D, Pl, hcs, hb, hl, hm, hmm, hx, hi⟩
 ·exact .inl h0.1
 ·refine .inr ⟨a, len, cap, hcs, hl, hm, fun i him => ?_⟩
  obtain ⟨cs', hc, ht'⟩ := hi i (by rw [hmm]; split <;> omega)
  rw [hC] at hc
  obtain ⟨ys, n', hn', hy, hlen, hyl, hf⟩ := DataW.trod_struct he ht'
  obtain ⟨_, hcl, hat⟩ := World.cells?_some hc
  refine ⟨n', fun j f hj => ?_⟩
  obtain ⟨ho, hk⟩ := hone_of hone j f hj
  have hjl : j < fs.size := (Array.getElem?_eq_some_iff.1 hj).1
  have hcell := hat j hjl
  have hv : cs'[j]? = some (cs'[j]'(by omega)) := List.getElem?_eq_getElem (by omega)
  have h1 := hf j f hj
  rw [ho, hk] at h1
  have hone' : (cs'.drop j).take 1 = [cs'[j]'(by omega)] := by
   rw [List.drop_eq_getElem_cons (by omega)]
   rfl
  rw [hone'] at h1
  have hys : ys[j]? = some (ys[j]'(by omega)) := List.getElem?_eq_getElem (by omega)
  refine ⟨_, _, ?_, h1.trans hys⟩
  rw [← Go.Deep.add_add, hcell, hv]
end
theorem sl_mk {α : Type} {f : α → List Value} {z : Nat} (hz : 0 < z) (hf : ∀ x, (f x).length = z) {w : World} {a : Addr} {len : Nat} (S : Nat → α)
  (hc : ∀ i, i < len → ∀ j u, (f (S i))[j]? = some u → w.cell? (a.add (i * z + j)) = some u) : Sl w w.heap.size z (some a) len (((List.range len).map S).flatMap f) := by
 have hlen : (((List.range len).map S).flatMap f).length = len * z := by rw [flat_len hf]; simp
 refine ⟨hlen, fun hp => ?_⟩
 have hl : 0 < len := by
  rcases Nat.eq_zero_or_pos len with e | e
  ·rw [hlen, e, Nat.zero_mul] at hp; omega
  ·exact e
 have h0 := hc 0 hl 0 ((f (S 0))[0]'(by rw [hf]; exact hz)) (List.getElem?_eq_getElem _)
 obtain ⟨g, o, s⟩ := a
 have hs : s = none := by
  cases s with
  | none => rfl
  | some k =>
   simp only [World.cell?, Addr.add] at h0
   split at h0
   ·simp at h0
   ·cases h0
 subst hs
 have hg : g < w.heap.size := by
  by_cases hg : g < w.heap.size
  ·exact hg
  ·have h1 : w.heap[g]? = none := Array.getElem?_eq_none (by omega)
   simp [World.cell?, Addr.add, h1] at h0
 refine ⟨g, o, rfl, hg, fun j u hj => ?_⟩
 have EA : Hid ((⟨g, o, none⟩ : Addr).add j = ⟨g, o + j, none⟩) := by show _ = _; unfold Addr.add; split <;> simp_all
 have hj' : j < len * z := by have := (List.getElem?_eq_some_iff.1 hj).1; rw [hlen] at this; exact this
 have hq : j / z < len := Nat.div_lt_of_lt_mul (by rw [Nat.mul_comm]; exact hj')
 have e : j = j / z * z + j % z := by rw [Nat.mul_comm]; exact (Nat.div_add_mod j z).symm
 have hk : j / z < ((List.range len).map S).length := by simpa using hq
 have h2 := flat_at hf ((List.range len).map S) (j / z) hk (j % z) (Nat.mod_lt _ hz)
 rw [← e, hj] at h2
 simp only [List.getElem_map, List.getElem_range] at h2
 have h3 := hc (j / z) hq (j % z) u h2.symm
 rw [← e] at h3
 rw [EA.out] at h3
 exact h3

section
variable {H : Type} {enc : TypeId × Value → H} {w : World} {base : Nat} {spare : Nat → Bool} {held : Bool}
theorem rows_arg {α : Type} {f : α → List Value} {z : Nat} (hz : 0 < z) (hf : ∀ x, (f x).length = z) {Q : α → Prop} {t e : TypeId} {fs : Array Field} {fuel : Nat} {cs : List Value} {x : DataW H × List MemPlace} (ht : Tryz.prog.underlying t = some (.slice e)) (he : Tryz.prog.underlying e = some (.struct fs))
  (hone : oneCellFields Tryz.prog fs = true) (hC : Tryz.prog.cellsOf e = fs.size) (hs : fs.size = z)
  (each : ∀ (c : Nat → Value) (n : Nat), (∀ j f, fs[j]? = some f → ∃ y, DataW.trod enc Tryz.prog w base spare held n f.type [c j] = some y) → ∃ a : α, (∀ j, j < z → (f a)[j]? = some (c j)) ∧ Q a)
  (h : DataW.trod enc Tryz.prog w base spare held fuel t cs = some x) : ∃ h : Hd, ∃ l : List α, cs = [h.v] ∧ Fit h ∧ Sl w w.heap.size z h.A h.n (l.flatMap f) ∧ ∀ a ∈ l, Q a := by
 rcases open_flds ht he hone hC h with h0 | ⟨a, len, cap, hcs, hl, hm, hi⟩
 ·exact ⟨⟨none, 0, 0⟩, [], h0, ⟨Nat.le_refl _, Nat.zero_le _⟩, ⟨by simp, fun h => by cases h⟩, fun a ha => by cases ha⟩
 ·have h1 : ∀ i, i < len → ∃ x : α, (∀ j u, (f x)[j]? = some u → w.cell? (a.add (i * z + j)) = some u) ∧ Q x := by
   intro i hil
   obtain ⟨n, hn⟩ := hi i hil
   have hcell : ∀ j, j < z → ∃ v, w.cell? (a.add (i * z + j)) = some v ∧ ∀ f, fs[j]? = some f → ∃ y, DataW.trod enc Tryz.prog w base spare held n f.type [v] = some y := by
    intro j hj
    obtain ⟨v, y, h2, h3⟩ := hn j (fs[j]'(by omega)) (Array.getElem?_eq_getElem _)
    rw [hs] at h2
    refine ⟨v, h2, fun f hf => ?_⟩
    rw [Array.getElem?_eq_getElem (by omega)] at hf
    cases hf
    exact ⟨y, h3⟩
   obtain ⟨c, hc⟩ := Go.Deep.choose_lt hcell
   obtain ⟨x, hx, hq⟩ := each c n (fun j f hj => (hc j (by have := (Array.getElem?_eq_some_iff.1 hj).1; omega)).2 f hj)
   refine ⟨x, fun j u hu => ?_, hq⟩
   have hj : j < z := by have := (List.getElem?_eq_some_iff.1 hu).1; rw [hf] at this; exact this
   rw [hx j hj] at hu
   cases hu
   exact (hc j hj).1
  rcases Nat.eq_zero_or_pos len with e0 | hp
  ·subst e0
   exact ⟨⟨some a, 0, cap⟩, [], hcs, ⟨Nat.zero_le _, Nat.zero_le _⟩, ⟨by simp, fun h => by cases h⟩, fun a ha => by cases ha⟩
  ·have h1' : ∀ i, ∃ x : α, i < len → ((∀ j u, (f x)[j]? = some u → w.cell? (a.add (i * z + j)) = some u) ∧ Q x) := by
    intro i
    by_cases hi : i < len
    ·obtain ⟨x, hx⟩ := h1 i hi; exact ⟨x, fun _ => hx⟩
    ·obtain ⟨x, hx⟩ := h1 0 hp; exact ⟨x, fun h => absurd h hi⟩
   have hS := fun i => (h1' i).choose_spec
   generalize hSd : (fun i => (h1' i).choose) = S at hS
   have hS' : ∀ i, i < len → ((∀ j u, (f (S i))[j]? = some u → w.cell? (a.add (i * z + j)) = some u) ∧ Q (S i)) := by
    intro i; rw [← hSd]; exact (h1' i).choose_spec
   refine ⟨⟨some a, len, cap⟩, (List.range len).map S, hcs, ⟨hl, by unfold maxLen at hm; show len ≤ _; omega⟩, sl_mk hz hf S fun i hi => (hS' i hi).1, fun x hx => ?_⟩
   rw [List.mem_map] at hx
   obtain ⟨i, hi, rfl⟩ := hx
   exact (hS' i (by simpa using hi)).2
theorem str_one {n : Nat} {v : Value} {y : DataW H × List MemPlace} (h : DataW.trod enc Tryz.prog w base spare held n 9 [v] = some y) : ∃ s : Bs, v = str s ∧ Len s := by
 obtain ⟨b, e, _, hs⟩ := DataW.trod_string Tryz.underlying9 h
 simp at e
 refine ⟨b.data.toList, by rw [e], ?_⟩
 have : b.size ≤ maxLen := hs
 unfold maxLen at this
 have e2 : b.data.toList.length = b.size := by rw [Array.length_toList]; rfl
 unfold Len; omega
theorem bool_one {n : Nat} {v : Value} {y : DataW H × List MemPlace} (h : DataW.trod enc Tryz.prog w base spare held n 4 [v] = some y) : ∃ x : Bool, v = .bool x := by
 obtain ⟨b, e, _⟩ := DataW.trod_bool Tryz.underlying4 h
 simp at e
 exact ⟨b, e⟩
theorem attrs_arg {n : Nat} {cs : List Value} {x : DataW H × List MemPlace} (h : DataW.trod enc Tryz.prog w base spare held n 22 cs = some x) : ∃ h : Hd, ∃ l : List At, cs = [h.v] ∧ Atts w w.heap.size h l := by
 obtain ⟨hd, l, e, hf, hs, hq⟩ := rows_arg (f := atV) (z := 2) (by omega) atV_len (Q := fun p => Len p.1) Tryz.underlying22 Tryz.underlying73 (by kernel_rfl) (by kernel_rfl) rfl (fun c n hc => by
  obtain ⟨_, h0⟩ := hc 0 _ rfl
  obtain ⟨_, h1⟩ := hc 1 _ rfl
  obtain ⟨s0, e0, l0⟩ := str_one h0
  obtain ⟨s1, e1⟩ := bool_one h1
  exact ⟨(s0, s1), fun j hj => by
   match j, hj with
   | 0, _ => show some _ = some _; rw [e0]
   | 1, _ => show some _ = some _; rw [e1], l0⟩) h
 exact ⟨hd, l, e, hf, hs, hq⟩
end
set_option maxRecDepth 100000 in
theorem str_arg {H : Type} {enc : TypeId × Value → H} {W : World} {base b : Nat} {sp : Nat → Bool} {held : Bool} {v : Value} {d : DataW H} {ps : List MemPlace} (hval : Value.okWide Tryz.prog W .any base 9 v) (h : DataW.Trod enc Tryz.prog W b sp held 9 v d ps) :
  ∃ l : Bs, v = str l ∧ Len l := by
 obtain ⟨⟨⟨l⟩⟩, rfl, _, _, hs⟩ := Go.ChangeMaps.open_string Tryz.underlying9 hval h
 refine ⟨l, rfl, ?_⟩
 have h1 : l.length ≤ maxLen := hs
 unfold maxLen at h1
 unfold Len; omega
theorem ownKnobs : ownKnob Tryz.prog.godebug = none := by kernel_rfl
theorem laidOut : laidOutB Tryz.prog = true := by kernel_rfl
end Go.Proofs.YtgkdaebiefhgdaaGreatDoor
