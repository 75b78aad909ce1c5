/-
 A law's arguments of chapter 6: a corpus, a region, a list of regions, as they read in memory. No conditions.
-/
import Derived.Test.YtgkdaebiefhgdaaGreatDoorRows
import Derived.Test.YtgkdaebiefhgdaaGreatDoorJBase6
import Derived.Test.YtgkdaebiefhgdaaGreatDoorJCorMem
import Derived.Test.YtgkdaebiefhgdaaGreatDoorProg
import Derived.OpenShut
import Derived.Lib.Hide
import Derived.Deep.Slices
import Derived.Deep.Fields
import Derived.ChangeSame
import Derived.Lib.SmallJoins
namespace Go.Proofs.YtgkdaebiefhgdaaGreatDoor
open Go.ChangeShapes Go.WideShapes Go.ChangeAt Go.RowKit Go.Joins Go.Deep
open Feat (Bs)
section
variable {H : Type} {enc : TypeId × Value → H} {P : Program} {w : World} {base : Nat} {spare : Nat → Bool} {held : Bool}
theorem open_flds {t e : TypeId} {fs : Array Field} {fuel : Nat} {cs : List Value} {x : DataW H × List MemPlace} (ht : P.underlying t = some (.slice e)) (he : P.underlying e = some (.struct fs))
  (hone : oneCellFields P fs = true) (hC : P.cellsOf e = fs.size) (h : DataW.trod enc P w base spare held fuel t cs = some x) :
  cs = [.slice none 0 0] ∨
  ∃ (a : Addr) (len cap : Nat), cs = [.slice (some a) len cap] ∧ len ≤ cap ∧ cap ≤ maxLen ∧
   ∀ i, i < len → ∃ (n : Nat), ∀ (j : Nat) (f : Field), fs[j]? = some f → ∃ (v : Value) (y : DataW H × List MemPlace), w.cell? (a.add (i * fs.size + j)) = some v ∧ DataW.trod enc P w base spare held n f.type [v] = some y := by
 rcases open_slice ht h with h0 | ⟨a, len, cap, m, n, D, Pl, hcs, hb, hl, hm, hmm, hx, hi⟩
 ·exact .inl h0.1
 ·refine .inr ⟨a, len, cap, hcs, hl, hm, fun i him => ?_⟩
  obtain ⟨cs', hc, ht'⟩ := hi i (by rw [hmm]; split <;> omega)
  rw [hC] at hc
  obtain ⟨ys, n', hn', hy, hlen, hyl, hf⟩ := DataW.trod_struct he ht'
  obtain ⟨_, hcl, hat⟩ := World.cells?_some hc
  refine ⟨n', fun j f hj => ?_⟩
  obtain ⟨ho, hk⟩ := hone_of hone j f hj
  have hjl : j < fs.size := (Array.getElem?_eq_some_iff.1 hj).1
  have hcell := hat j hjl
  have hv : cs'[j]? = some (cs'[j]'(by omega)) := List.getElem?_eq_getElem (by omega)
  have h1 := hf j f hj
  rw [ho, hk] at h1
  have hone' : (cs'.drop j).take 1 = [cs'[j]'(by omega)] := by
   rw [List.drop_eq_getElem_cons (by omega)]
   rfl
  rw [hone'] at h1
  have hys : ys[j]? = some (ys[j]'(by omega)) := List.getElem?_eq_getElem (by omega)
  refine ⟨_, _, ?_, h1.trans hys⟩
  rw [← Go.Deep.add_add, hcell, hv]
theorem open_agg7 {r : Reach} {b0 : Nat} {t : TypeId} {f0 f1 f2 f3 f4 f5 f6 : Field} {v : Value} {d : DataW H} {p : List MemPlace} (hs : P.underlying t = some (.struct #[f0, f1, f2, f3, f4, f5, f6])) (hone : oneCellFields P #[f0, f1, f2, f3, f4, f5, f6] = true) (hC : P.cellsOf t = 7)
  (hv : Value.okWide P w r b0 t v) (h : DataW.Trod enc P w base spare held t v d p) :
  ∃ (v0 v1 v2 v3 v4 v5 v6 : Value) (y0 y1 y2 y3 y4 y5 y6 : DataW H × List MemPlace) (n : Nat), v = .agg #[v0, v1, v2, v3, v4, v5, v6] ∧
   DataW.trod enc P w base spare held n f0.type [v0] = some y0 ∧ DataW.trod enc P w base spare held n f1.type [v1] = some y1 ∧ DataW.trod enc P w base spare held n f2.type [v2] = some y2 ∧ DataW.trod enc P w base spare held n f3.type [v3] = some y3 ∧ DataW.trod enc P w base spare held n f4.type [v4] = some y4 ∧ DataW.trod enc P w base spare held n f5.type [v5] = some y5 ∧ DataW.trod enc P w base spare held n f6.type [v6] = some y6 := by
 obtain ⟨cs, rfl, hsz⟩ := okWide_struct hs hv
 obtain ⟨l⟩ := cs
 match l, hsz.trans hC with
 | [c0, c1, c2, c3, c4, c5, c6], _ =>
  obtain ⟨fuel, hf⟩ := h
  obtain ⟨xs, n, _, hx, _, hlen, hg⟩ := DataW.trod_struct hs hf
  obtain ⟨o0, k0⟩ := hone_of hone 0 f0 rfl
  obtain ⟨o1, k1⟩ := hone_of hone 1 f1 rfl
  obtain ⟨o2, k2⟩ := hone_of hone 2 f2 rfl
  obtain ⟨o3, k3⟩ := hone_of hone 3 f3 rfl
  obtain ⟨o4, k4⟩ := hone_of hone 4 f4 rfl
  obtain ⟨o5, k5⟩ := hone_of hone 5 f5 rfl
  obtain ⟨o6, k6⟩ := hone_of hone 6 f6 rfl
  match xs, hlen with
  | [y0, y1, y2, y3, y4, y5, y6], _ =>
   exact ⟨c0, c1, c2, c3, c4, c5, c6, y0, y1, y2, y3, y4, y5, y6, n, rfl, by simpa [Value.cells, o0, k0] using hg 0 f0 rfl, by simpa [Value.cells, o1, k1] using hg 1 f1 rfl, by simpa [Value.cells, o2, k2] using hg 2 f2 rfl, by simpa [Value.cells, o3, k3] using hg 3 f3 rfl, by simpa [Value.cells, o4, k4] using hg 4 f4 rfl, by simpa [Value.cells, o5, k5] using hg 5 f5 rfl, by simpa [Value.cells, o6, k6] using hg 6 f6 rfl⟩
end
theorem sl_mk {α : Type} {f : α → List Value} {z : Nat} (hz : 0 < z) (hf : ∀ x, (f x).length = z) {w : World} {a : Addr} {len : Nat} (S : Nat → α)
  (hc : ∀ i, i < len → ∀ j u, (f (S i))[j]? = some u → w.cell? (a.add (i * z + j)) = some u) : Sl w w.heap.size z (some a) len (((List.range len).map S).flatMap f) := by
 have hlen : (((List.range len).map S).flatMap f).length = len * z := by rw [flat_len hf]; simp
 refine ⟨hlen, fun hp => ?_⟩
 have hl : 0 < len := by
  rcases Nat.eq_zero_or_pos len with e | e
  ·rw [hlen, e, Nat.zero_mul] at hp; omega
  ·exact e
 have h0 := hc 0 hl 0 ((f (S 0))[0]'(by rw [hf]; exact hz)) (List.getElem?_eq_getElem _)
 obtain ⟨g, o, s⟩ := a
 have hs : s = none := by
  cases s with
  | none => rfl
  | some k =>
   simp only [World.cell?, Addr.add] at h0
   split at h0
   ·simp at h0
   ·cases h0
 subst hs
 have hg : g < w.heap.size := by
  by_cases hg : g < w.heap.size
  ·exact hg
  ·have h1 : w.heap[g]? = none := Array.getElem?_eq_none (by omega)
   simp [World.cell?, Addr.add, h1] at h0
 refine ⟨g, o, rfl, hg, fun j u hj => ?_⟩
 have EA : Hid ((⟨g, o, none⟩ : Addr).add j = ⟨g, o + j, none⟩) := by show _ = _; unfold Addr.add; split <;> simp_all
 have hj' : j < len * z := by have := (List.getElem?_eq_some_iff.1 hj).1; rw [hlen] at this; exact this
 have hq : j / z < len := Nat.div_lt_of_lt_mul (by rw [Nat.mul_comm]; exact hj')
 have e : j = j / z * z + j % z := by rw [Nat.mul_comm]; exact (Nat.div_add_mod j z).symm
 have hk : j / z < ((List.range len).map S).length := by simpa using hq
 have h2 := flat_at hf ((List.range len).map S) (j / z) hk (j % z) (Nat.mod_lt _ hz)
 rw [← e, hj] at h2
 simp only [List.getElem_map, List.getElem_range] at h2
 have h3 := hc (j / z) hq (j % z) u h2.symm
 rw [← e] at h3
 rw [EA.out] at h3
 exact h3

section
variable {H : Type} {enc : TypeId × Value → H} {w : World} {base : Nat} {spare : Nat → Bool} {held : Bool}
theorem rows_arg {α : Type} {f : α → List Value} {z : Nat} (hz : 0 < z) (hf : ∀ x, (f x).length = z) {Q : α → Prop} {t e : TypeId} {fs : Array Field} {fuel : Nat} {cs : List Value} {x : DataW H × List MemPlace} (ht : Tryz.prog.underlying t = some (.slice e)) (he : Tryz.prog.underlying e = some (.struct fs))
  (hone : oneCellFields Tryz.prog fs = true) (hC : Tryz.prog.cellsOf e = fs.size) (hs : fs.size = z)
  (each : ∀ (c : Nat → Value) (n : Nat), (∀ j f, fs[j]? = some f → ∃ y, DataW.trod enc Tryz.prog w base spare held n f.type [c j] = some y) → ∃ a : α, (∀ j, j < z → (f a)[j]? = some (c j)) ∧ Q a)
  (h : DataW.trod enc Tryz.prog w base spare held fuel t cs = some x) : ∃ h : Hd, ∃ l : List α, cs = [h.v] ∧ Fit h ∧ Sl w w.heap.size z h.A h.n (l.flatMap f) ∧ ∀ a ∈ l, Q a := by
 rcases open_flds ht he hone hC h with h0 | ⟨a, len, cap, hcs, hl, hm, hi⟩
 ·exact ⟨⟨none, 0, 0⟩, [], h0, ⟨Nat.le_refl _, Nat.zero_le _⟩, ⟨by simp, fun h => by cases h⟩, fun a ha => by cases ha⟩
 ·have h1 : ∀ i, i < len → ∃ x : α, (∀ j u, (f x)[j]? = some u → w.cell? (a.add (i * z + j)) = some u) ∧ Q x := by
   intro i hil
   obtain ⟨n, hn⟩ := hi i hil
   have hcell : ∀ j, j < z → ∃ v, w.cell? (a.add (i * z + j)) = some v ∧ ∀ f, fs[j]? = some f → ∃ y, DataW.trod enc Tryz.prog w base spare held n f.type [v] = some y := by
    intro j hj
    obtain ⟨v, y, h2, h3⟩ := hn j (fs[j]'(by omega)) (Array.getElem?_eq_getElem _)
    rw [hs] at h2
    refine ⟨v, h2, fun f hf => ?_⟩
    rw [Array.getElem?_eq_getElem (by omega)] at hf
    cases hf
    exact ⟨y, h3⟩
   obtain ⟨c, hc⟩ := Go.Deep.choose_lt hcell
   obtain ⟨x, hx, hq⟩ := each c n (fun j f hj => (hc j (by have := (Array.getElem?_eq_some_iff.1 hj).1; omega)).2 f hj)
   refine ⟨x, fun j u hu => ?_, hq⟩
   have hj : j < z := by have := (List.getElem?_eq_some_iff.1 hu).1; rw [hf] at this; exact this
   rw [hx j hj] at hu
   cases hu
   exact (hc j hj).1
  rcases Nat.eq_zero_or_pos len with e0 | hp
  ·subst e0
   exact ⟨⟨some a, 0, cap⟩, [], hcs, ⟨Nat.zero_le _, Nat.zero_le _⟩, ⟨by simp, fun h => by cases h⟩, fun a ha => by cases ha⟩
  ·have h1' : ∀ i, ∃ x : α, i < len → ((∀ j u, (f x)[j]? = some u → w.cell? (a.add (i * z + j)) = some u) ∧ Q x) := by
    intro i
    by_cases hi : i < len
    ·obtain ⟨x, hx⟩ := h1 i hi; exact ⟨x, fun _ => hx⟩
    ·obtain ⟨x, hx⟩ := h1 0 hp; exact ⟨x, fun h => absurd h hi⟩
   have hS := fun i => (h1' i).choose_spec
   generalize hSd : (fun i => (h1' i).choose) = S at hS
   have hS' : ∀ i, i < len → ((∀ j u, (f (S i))[j]? = some u → w.cell? (a.add (i * z + j)) = some u) ∧ Q (S i)) := by
    intro i; rw [← hSd]; exact (h1' i).choose_spec
   refine ⟨⟨some a, len, cap⟩, (List.range len).map S, hcs, ⟨hl, by unfold maxLen at hm; show len ≤ _; omega⟩, sl_mk hz hf S fun i hi => (hS' i hi).1, fun x hx => ?_⟩
   rw [List.mem_map] at hx
   obtain ⟨i, hi, rfl⟩ := hx
   exact (hS' i (by simpa using hi)).2
theorem row1_arg {α : Type} {f : α → Value} {Q : α → Prop} {t e : TypeId} {fuel : Nat} {cs : List Value} {x : DataW H × List MemPlace} (ht : Tryz.prog.underlying t = some (.slice e)) (hC : Tryz.prog.cellsOf e = 1)
  (each : ∀ (v : Value) (n : Nat) y, DataW.trod enc Tryz.prog w base spare held n e [v] = some y → ∃ a : α, f a = v ∧ Q a)
  (h : DataW.trod enc Tryz.prog w base spare held fuel t cs = some x) : ∃ h : Hd, ∃ l : List α, cs = [h.v] ∧ Fit h ∧ Sl w w.heap.size 1 h.A h.n (l.map f) ∧ ∀ a ∈ l, Q a := by
 have hmf : ∀ l : List α, l.map f = l.flatMap fun a => [f a] := by
  intro l; induction l with
  | nil => rfl
  | cons a l ih => rw [List.map_cons, ih]; rfl
 rcases open_slice1 ht hC h with h0 | ⟨a, len, cap, m, n, V, D, Pl, hcs, hb, hl, hm, hmm, hx, hi⟩
 ·exact ⟨⟨none, 0, 0⟩, [], h0.1, ⟨Nat.le_refl _, Nat.zero_le _⟩, ⟨by simp, fun h => by cases h⟩, fun a ha => by cases ha⟩
 ·have h1 : ∀ i, i < len → ∃ x : α, w.cell? (a.add i) = some (f x) ∧ Q x := by
   intro i hil
   obtain ⟨h2, h3⟩ := hi i (by rw [hmm]; split <;> omega)
   obtain ⟨x, hx, hq⟩ := each _ _ _ h3
   exact ⟨x, by rw [hx]; exact h2, hq⟩
  rcases Nat.eq_zero_or_pos len with e0 | hp
  ·subst e0
   exact ⟨⟨some a, 0, cap⟩, [], hcs, ⟨Nat.zero_le _, Nat.zero_le _⟩, ⟨by simp, fun h => by cases h⟩, fun a ha => by cases ha⟩
  ·have h1' : ∀ i, ∃ x : α, i < len → (w.cell? (a.add i) = some (f x) ∧ Q x) := by
    intro i
    by_cases hi : i < len
    ·obtain ⟨x, hx⟩ := h1 i hi; exact ⟨x, fun _ => hx⟩
    ·obtain ⟨x, hx⟩ := h1 0 hp; exact ⟨x, fun h => absurd h hi⟩
   generalize hSd : (fun i => (h1' i).choose) = S
   have hS' : ∀ i, i < len → (w.cell? (a.add i) = some (f (S i)) ∧ Q (S i)) := by
    intro i; rw [← hSd]; exact (h1' i).choose_spec
   refine ⟨⟨some a, len, cap⟩, (List.range len).map S, hcs, ⟨hl, by unfold maxLen at hm; show len ≤ _; omega⟩, ?_, fun x hx => ?_⟩
   ·rw [hmf]
    refine sl_mk (Nat.succ_pos 0) (fun _ => rfl) S fun i hi j u hu => ?_
    match j, hu with
    | 0, hu =>
     simp at hu
     rw [Nat.mul_one, Nat.add_zero, ← hu]
     exact (hS' i hi).1
   ·rw [List.mem_map] at hx
    obtain ⟨i, hi, rfl⟩ := hx
    exact (hS' i (by simpa using hi)).2

theorem str_one {n : Nat} {v : Value} {y : DataW H × List MemPlace} (h : DataW.trod enc Tryz.prog w base spare held n 9 [v] = some y) : ∃ s : Bs, v = str s ∧ Len s := by
 obtain ⟨b, e, _, hs⟩ := DataW.trod_string Tryz.underlying9 h
 simp at e
 refine ⟨b.data.toList, by rw [e], ?_⟩
 have : b.size ≤ maxLen := hs
 unfold maxLen at this
 have e2 : b.data.toList.length = b.size := by rw [Array.length_toList]; rfl
 unfold Len; omega
theorem int_one {n : Nat} {v : Value} {y : DataW H × List MemPlace} (h : DataW.trod enc Tryz.prog w base spare held n 3 [v] = some y) : ∃ x : Int, v = .int .i64 x ∧ Rng x := by
 obtain ⟨b, e, _, hs⟩ := DataW.trod_int Tryz.underlying3 h
 simp at e
 refine ⟨b, e, ?_⟩
 have h1 : IntKind.i64.min ≤ b ∧ b ≤ IntKind.i64.max := by simpa [Lit.wf] using hs
 have e1 : IntKind.i64.min = -9223372036854775808 := by decide
 have e2 : IntKind.i64.max = 9223372036854775807 := by decide
 rw [e1, e2] at h1
 exact h1
theorem bool_one {n : Nat} {v : Value} {y : DataW H × List MemPlace} (h : DataW.trod enc Tryz.prog w base spare held n 4 [v] = some y) : ∃ x : Bool, v = .bool x := by
 obtain ⟨b, e, _⟩ := DataW.trod_bool Tryz.underlying4 h
 simp at e
 exact ⟨b, e⟩
theorem pairs_arg {n : Nat} {cs : List Value} {x : DataW H × List MemPlace} (h : DataW.trod enc Tryz.prog w base spare held n 64 cs = some x) : ∃ h : Hd, ∃ l : List Tagp.KV, cs = [h.v] ∧ Keys w w.heap.size h l := by
 obtain ⟨hd, l, e, hf, hs, hq⟩ := rows_arg (f := prV) (z := 2) (by omega) prV_len (Q := fun p => Len p.1 ∧ Len p.2) Tryz.underlying64 Tryz.underlying84 (by kernel_rfl) (by kernel_rfl) rfl (fun c n hc => by
  obtain ⟨_, h0⟩ := hc 0 _ rfl
  obtain ⟨_, h1⟩ := hc 1 _ rfl
  obtain ⟨s0, e0, l0⟩ := str_one h0
  obtain ⟨s1, e1, l1⟩ := str_one h1
  exact ⟨(s0, s1), fun j hj => by
   match j, hj with
   | 0, _ => show some _ = some _; rw [e0]
   | 1, _ => show some _ = some _; rw [e1], l0, l1⟩) h
 exact ⟨hd, l, e, hf, hs, hq⟩
theorem attrs_arg {n : Nat} {cs : List Value} {x : DataW H × List MemPlace} (h : DataW.trod enc Tryz.prog w base spare held n 22 cs = some x) : ∃ h : Hd, ∃ l : List At, cs = [h.v] ∧ Atts w w.heap.size h l := by
 obtain ⟨hd, l, e, hf, hs, hq⟩ := rows_arg (f := atV) (z := 2) (by omega) atV_len (Q := fun p => Len p.1) Tryz.underlying22 Tryz.underlying73 (by kernel_rfl) (by kernel_rfl) rfl (fun c n hc => by
  obtain ⟨_, h0⟩ := hc 0 _ rfl
  obtain ⟨_, h1⟩ := hc 1 _ rfl
  obtain ⟨s0, e0, l0⟩ := str_one h0
  obtain ⟨s1, e1⟩ := bool_one h1
  exact ⟨(s0, s1), fun j hj => by
   match j, hj with
   | 0, _ => show some _ = some _; rw [e0]
   | 1, _ => show some _ = some _; rw [e1], l0⟩) h
 exact ⟨hd, l, e, hf, hs, hq⟩
theorem tx_arg (T : TypeId) (S : TypeId) (f0 f1 f2 f3 : Field) (hS : Tryz.prog.underlying S = some (.slice T)) (hT : Tryz.prog.underlying T = some (.struct #[f0, f1, f2, f3])) (hone : oneCellFields Tryz.prog #[f0, f1, f2, f3] = true) (hC : Tryz.prog.cellsOf T = 4)
  (t0 : f0.type = 9) (t1 : f1.type = 3) (t2 : f2.type = 3) (t3 : f3.type = 64) {n : Nat} {cs : List Value} {x : DataW H × List MemPlace} (h : DataW.trod enc Tryz.prog w base spare held n S cs = some x) : ∃ h : Hd, ∃ l : List Cor.Txt, cs = [h.v] ∧ Txts w w.heap.size h l := by
 obtain ⟨hd, l, e, hf, hs, hq⟩ := rows_arg (f := txV) (z := 4) (by omega) txV_len (Q := fun p => TxOk w w.heap.size p) hS hT hone hC rfl (fun c n hc => by
  obtain ⟨_, h0⟩ := hc 0 f0 rfl
  obtain ⟨_, h1⟩ := hc 1 f1 rfl
  obtain ⟨_, h2⟩ := hc 2 f2 rfl
  obtain ⟨_, h3⟩ := hc 3 f3 rfl
  rw [t0] at h0; rw [t1] at h1; rw [t2] at h2; rw [t3] at h3
  obtain ⟨s0, e0, l0⟩ := str_one h0
  obtain ⟨s1, e1, l1⟩ := int_one h1
  obtain ⟨s2, e2, l2⟩ := int_one h2
  obtain ⟨hk, ks, e3, l3⟩ := pairs_arg h3
  simp at e3
  exact ⟨(⟨s0, s1, s2, ks⟩, hk), fun j hj => by
   match j, hj with
   | 0, _ => show some _ = some _; rw [e0]
   | 1, _ => show some _ = some _; rw [e1]
   | 2, _ => show some _ = some _; rw [e2]
   | 3, _ => show some _ = some _; rw [e3], l0, l1, l2, l3⟩) h
 exact ⟨hd, l.map Prod.fst, e, l, rfl, hf, hs, hq⟩
theorem nodes_arg {n : Nat} {cs : List Value} {x : DataW H × List MemPlace} (h : DataW.trod enc Tryz.prog w base spare held n 26 cs = some x) : ∃ h : Hd, ∃ l : List Cor.Nod, cs = [h.v] ∧ Nods w w.heap.size h l := by
 obtain ⟨hd, l, e, hf, hs, hq⟩ := rows_arg (f := ndV) (z := 4) (by omega) ndV_len (Q := fun x => Len x.lb ∧ Rng x.b ∧ Rng x.e ∧ Rng x.p) Tryz.underlying26 Tryz.underlying71 (by kernel_rfl) (by kernel_rfl) rfl (fun c n hc => by
  obtain ⟨_, h0⟩ := hc 0 _ rfl
  obtain ⟨_, h1⟩ := hc 1 _ rfl
  obtain ⟨_, h2⟩ := hc 2 _ rfl
  obtain ⟨_, h3⟩ := hc 3 _ rfl
  obtain ⟨s0, e0, l0⟩ := str_one h0
  obtain ⟨s1, e1, l1⟩ := int_one h1
  obtain ⟨s2, e2, l2⟩ := int_one h2
  obtain ⟨s3, e3, l3⟩ := int_one h3
  exact ⟨⟨s0, s1, s2, s3⟩, fun j hj => by
   match j, hj with
   | 0, _ => show some _ = some _; rw [e0]
   | 1, _ => show some _ = some _; rw [e1]
   | 2, _ => show some _ = some _; rw [e2]
   | 3, _ => show some _ = some _; rw [e3], l0, l1, l2, l3⟩) h
 exact ⟨hd, l, e, hf, hs, hq⟩
theorem words_arg {n : Nat} {cs : List Value} {x : DataW H × List MemPlace} (h : DataW.trod enc Tryz.prog w base spare held n 28 cs = some x) : ∃ h : Hd, ∃ l : List Bs, cs = [h.v] ∧ Words w w.heap.size h l := by
 obtain ⟨hd, l, e, hf, hs, hq⟩ := row1_arg (f := str) (Q := Len) Tryz.underlying28 (by kernel_rfl) (fun v n y h => by
  obtain ⟨s, e, l⟩ := str_one h
  exact ⟨s, e.symm, l⟩) h
 exact ⟨hd, l, e, hf, hs, hq⟩
theorem nums_arg {n : Nat} {cs : List Value} {x : DataW H × List MemPlace} (h : DataW.trod enc Tryz.prog w base spare held n 27 cs = some x) : ∃ h : Hd, ∃ l : List Int, cs = [h.v] ∧ Nums w w.heap.size h l := by
 obtain ⟨hd, l, e, hf, hs, hq⟩ := row1_arg (f := fun x : Int => Value.int .i64 x) (Q := Rng) Tryz.underlying27 (by kernel_rfl) (fun v n y h => by
  obtain ⟨s, e, l⟩ := int_one h
  exact ⟨s, e.symm, l⟩) h
 exact ⟨hd, l, e, hf, hs, hq⟩
theorem toks_arg {n : Nat} {cs : List Value} {x : DataW H × List MemPlace} (h : DataW.trod enc Tryz.prog w base spare held n 23 cs = some x) : ∃ h : Hd, ∃ l : List (List Bs), cs = [h.v] ∧ Toks w w.heap.size h l := by
 obtain ⟨hd, l, e, hf, hs, hq⟩ := row1_arg (f := fun x : KH => x.2.v) (Q := fun x => Words w w.heap.size x.2 x.1) Tryz.underlying23 (by kernel_rfl) (fun v n y h => by
  obtain ⟨hk, s, e, l⟩ := words_arg h
  simp at e
  exact ⟨(s, hk), e.symm, l⟩) h
 exact ⟨hd, l.map Prod.fst, e, l, rfl, hf, by
  have : l.flatMap tkV = l.map fun x : KH => x.2.v := by
   clear hs hq
   induction l with
   | nil => rfl
   | cons a l ih => rw [List.flatMap_cons, ih]; rfl
  rw [this]; exact hs, hq⟩
end
set_option maxRecDepth 100000 in
theorem corpus_arg {H : Type} {enc : TypeId × Value → H} {W : World} {base : Nat} {v : Value} {d : DataW H} {ps : List MemPlace} (hval : Value.okWide Tryz.prog W .any base 30 v) (h : DataW.Trod enc Tryz.prog W 0 (fun _ => true) true 30 v d ps) :
  ∃ (K : CH) (c : Cor.C), v = K.v ∧ Reads W W.heap.size K c := by
 obtain ⟨v0, v1, v2, v3, v4, v5, v6, y0, y1, y2, y3, y4, y5, y6, n, rfl, h0, h1, h2, h3, h4, h5, h6⟩ := open_agg7 Tryz.underlying30 (by kernel_rfl) (by kernel_rfl) hval h
 obtain ⟨k0, l0, e0, r0⟩ := attrs_arg h0
 obtain ⟨k1, l1, e1, r1⟩ := toks_arg h1
 obtain ⟨k2, l2, e2, r2⟩ := tx_arg 66 _ _ _ _ _ Tryz.underlying24 Tryz.underlying66 (by kernel_rfl) (by kernel_rfl) rfl rfl rfl rfl h2
 obtain ⟨k3, l3, e3, r3⟩ := tx_arg 69 _ _ _ _ _ Tryz.underlying25 Tryz.underlying69 (by kernel_rfl) (by kernel_rfl) rfl rfl rfl rfl h3
 obtain ⟨k4, l4, e4, r4⟩ := nodes_arg h4
 obtain ⟨k5, l5, e5, r5⟩ := nums_arg h5
 obtain ⟨k6, l6, e6, r6⟩ := words_arg h6
 simp at e0 e1 e2 e3 e4 e5 e6
 subst e0 e1 e2 e3 e4 e5 e6
 exact ⟨⟨k0, k1, k2, k3, k4, k5, k6⟩, ⟨l0, l1, l2, l3, l4, l5, l6⟩, rfl, r0, r1, r2, r3, r4, r5, r6⟩
theorem ownKnobs : ownKnob Tryz.prog.godebug = none := by kernel_rfl
theorem laidOut : laidOutB Tryz.prog = true := by kernel_rfl
end Go.Proofs.YtgkdaebiefhgdaaGreatDoor
