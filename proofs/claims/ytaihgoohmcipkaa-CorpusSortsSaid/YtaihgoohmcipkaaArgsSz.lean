/-
  A list of regions as an argument, with the sizes that the row's form bears: the list and each list of keys take at most 2^47 bytes. No conditions.
-/
import Derived.Test.YtaihgoohmcipkaaArgs6
import Derived.SizedLaws
namespace Go.Proofs.Ytaihgoohmcipkaa
set_option linter.unusedSimpArgs false
set_option linter.unusedVariables false
open Go.ChangeShapes Go.WideShapes Go.ChangeAt Go.RowKit Go.Joins Go.Deep
open Feat (Bs)

section
variable {H : Type} {enc : TypeId × Value → H} {P : Program} {w : World} {base : Nat} {spare : Nat → Bool} {held : Bool}
/-- All that is reached in d takes at most the form's reach. -/
def Light (P : Program) (t : TypeId) (d : DataW H) : Prop := ∀ n ∈ d.weights P t, n ≤ reachBytes
theorem weights_all {e : TypeId} : ∀ {l : List (DataW H)} {d : DataW H}, d ∈ l → ∀ n ∈ d.weights P e, n ∈ DataW.weightsAll P e l
  | [], _, h, _, _ => by cases h
  | x :: l, d, h, n, hn => by
    simp only [DataW.weightsAll, List.mem_append]
    rcases List.mem_cons.1 h with rfl | h
    · exact .inl hn
    · exact .inr (weights_all h n hn)
theorem Light.elem {t e : TypeId} {l r : List (DataW H)} {d : DataW H} (hu : P.underlying t = some (.slice e)) (h : Light P t (.slice l r)) (hd : d ∈ l) : Light P e d := fun n hn =>
  h n (by simp only [DataW.weights, hu, List.mem_cons, List.mem_append]; exact .inr (.inl (weights_all hd n hn)))
theorem Light.size {t e : TypeId} {l r : List (DataW H)} (hu : P.underlying t = some (.slice e)) (h : Light P t (.slice l r)) : l.length * P.bytesOf e ≤ reachBytes := by
  have := h ((l.length + r.length) * P.bytesOf e) (by simp [DataW.weights, hu])
  exact Nat.le_trans (Nat.mul_le_mul_right _ (Nat.le_add_right _ _)) this
theorem Light.part {t : TypeId} {fs : Array Field} {l : List (DataW H)} {j : Nat} {f : Field} {d : DataW H} (hu : P.underlying t = some (.struct fs)) (h : Light P t (.agg l)) (hj : fs[j]? = some f) (hd : l[j]? = some d) : Light P f.type d := fun n hn =>
  h n (by simp only [DataW.weights, hu]; exact DataW.weights_mem_each (j := j) (by simpa using ⟨f, hj, rfl⟩) hd n hn)
theorem open_fldsL {t e : TypeId} {fs : Array Field} {fuel : Nat} {cs : List Value} {x : DataW H × List MemPlace} (ht : P.underlying t = some (.slice e)) (he : P.underlying e = some (.struct fs))
    (hone : oneCellFields P fs = true) (hC : P.cellsOf e = fs.size) (hL : Light P t x.1) (h : DataW.trod enc P w base spare held fuel t cs = some x) :
    cs = [.slice none 0 0] ∨
    ∃ (a : Addr) (len cap : Nat), cs = [.slice (some a) len cap] ∧ len ≤ cap ∧ cap ≤ maxLen ∧ len * P.bytesOf e ≤ reachBytes ∧
      ∀ i, i < len → ∃ (n : Nat), ∀ (j : Nat) (f : Field), fs[j]? = some f → ∃ (v : Value) (y : DataW H × List MemPlace), w.cell? (a.add (i * fs.size + j)) = some v ∧ DataW.trod enc P w base spare held n f.type [v] = some y ∧ Light P f.type y.1 := by
  rcases open_slice ht h with h0 | ⟨a, len, cap, m, n, D, Pl, hcs, hb, hl, hm, hmm, hx, hi⟩
  · exact .inl h0.1
  · subst hx
    have hsz := hL.size ht
    simp only [List.length_map, List.length_range] at hsz
    refine .inr ⟨a, len, cap, hcs, hl, hm, hsz, fun i him => ?_⟩
    obtain ⟨cs', hc, ht'⟩ := hi i (by rw [hmm]; split <;> omega)
    rw [hC] at hc
    have hLi : Light P e (D i) := hL.elem ht (List.mem_map.2 ⟨i, by simpa using him, rfl⟩)
    obtain ⟨ys, n', hn', hy, hlen, hyl, hf⟩ := DataW.trod_struct he ht'
    have hLy : Light P e (.agg (ys.map (·.1))) := by
      have e9 : D i = .agg (ys.map (·.1)) := congrArg Prod.fst hy
      rw [← e9]; exact hLi
    obtain ⟨_, hcl, hat⟩ := World.cells?_some hc
    refine ⟨n', fun j f hj => ?_⟩
    obtain ⟨ho, hk⟩ := hone_of hone j f hj
    have hjl : j < fs.size := (Array.getElem?_eq_some_iff.1 hj).1
    have hcell := hat j hjl
    have hv : cs'[j]? = some (cs'[j]'(by omega)) := List.getElem?_eq_getElem (by omega)
    have h1 := hf j f hj
    rw [ho, hk] at h1
    have hone' : (cs'.drop j).take 1 = [cs'[j]'(by omega)] := by
      rw [List.drop_eq_getElem_cons (by omega)]
      rfl
    rw [hone'] at h1
    have hys : ys[j]? = some (ys[j]'(by omega)) := List.getElem?_eq_getElem (by omega)
    refine ⟨_, _, ?_, h1.trans hys, hLy.part he hj (by rw [List.getElem?_map, hys]; rfl)⟩
    rw [← Go.Deep.add_add, hcell, hv]
theorem rows_argL {α : Type} {f : α → List Value} {z bz : Nat} (hz : 0 < z) (hf : ∀ x, (f x).length = z) {Q : α → Prop} {t e : TypeId} {fs : Array Field} {fuel : Nat} {cs : List Value} {x : DataW H × List MemPlace} (ht : Try.prog.underlying t = some (.slice e)) (he : Try.prog.underlying e = some (.struct fs))
    (hone : oneCellFields Try.prog fs = true) (hC : Try.prog.cellsOf e = fs.size) (hs : fs.size = z) (hbz : Try.prog.bytesOf e = bz) (hL : Light Try.prog t x.1)
    (each : ∀ (c : Nat → Value) (n : Nat), (∀ j f, fs[j]? = some f → ∃ y, DataW.trod enc Try.prog w base spare held n f.type [c j] = some y ∧ Light Try.prog f.type y.1) → ∃ a : α, (∀ j, j < z → (f a)[j]? = some (c j)) ∧ Q a)
    (h : DataW.trod enc Try.prog w base spare held fuel t cs = some x) : ∃ h : Hd, ∃ l : List α, cs = [h.v] ∧ Fit h ∧ Sl w w.heap.size z h.A h.n (l.flatMap f) ∧ (∀ a ∈ l, Q a) ∧ h.n * bz ≤ reachBytes := by
  rcases open_fldsL ht he hone hC hL h with h0 | ⟨a, len, cap, hcs, hl, hm, hby, hi⟩
  · exact ⟨⟨none, 0, 0⟩, [], h0, ⟨Nat.le_refl _, Nat.zero_le _⟩, ⟨by simp, fun h => by cases h⟩, (fun a ha => by cases ha), by simp⟩
  · rw [hbz] at hby
    have h1 : ∀ i, i < len → ∃ x : α, (∀ j u, (f x)[j]? = some u → w.cell? (a.add (i * z + j)) = some u) ∧ Q x := by
      intro i hil
      obtain ⟨n, hn⟩ := hi i hil
      have hcell : ∀ j, j < z → ∃ v, w.cell? (a.add (i * z + j)) = some v ∧ ∀ f, fs[j]? = some f → ∃ y, DataW.trod enc Try.prog w base spare held n f.type [v] = some y ∧ Light Try.prog f.type y.1 := by
        intro j hj
        obtain ⟨v, y, h2, h3⟩ := hn j (fs[j]'(by omega)) (Array.getElem?_eq_getElem _)
        rw [hs] at h2
        refine ⟨v, h2, fun f hf => ?_⟩
        rw [Array.getElem?_eq_getElem (by omega)] at hf
        cases hf
        exact ⟨y, h3⟩
      obtain ⟨c, hc⟩ := Go.Deep.choose_lt hcell
      obtain ⟨x, hx, hq⟩ := each c n (fun j f hj => (hc j (by have := (Array.getElem?_eq_some_iff.1 hj).1; omega)).2 f hj)
      refine ⟨x, fun j u hu => ?_, hq⟩
      have hj : j < z := by have := (List.getElem?_eq_some_iff.1 hu).1; rw [hf] at this; exact this
      rw [hx j hj] at hu
      cases hu
      exact (hc j hj).1
    rcases Nat.eq_zero_or_pos len with e0 | hp
    · subst e0
      exact ⟨⟨some a, 0, cap⟩, [], hcs, ⟨Nat.zero_le _, Nat.zero_le _⟩, ⟨by simp, fun h => by cases h⟩, (fun a ha => by cases ha), by simp⟩
    · have h1' : ∀ i, ∃ x : α, i < len → ((∀ j u, (f x)[j]? = some u → w.cell? (a.add (i * z + j)) = some u) ∧ Q x) := by
        intro i
        by_cases hi : i < len
        · obtain ⟨x, hx⟩ := h1 i hi; exact ⟨x, fun _ => hx⟩
        · obtain ⟨x, hx⟩ := h1 0 hp; exact ⟨x, fun h => absurd h hi⟩
      generalize hSd : (fun i => (h1' i).choose) = S
      have hS' : ∀ i, i < len → ((∀ j u, (f (S i))[j]? = some u → w.cell? (a.add (i * z + j)) = some u) ∧ Q (S i)) := by
        intro i; rw [← hSd]; exact (h1' i).choose_spec
      refine ⟨⟨some a, len, cap⟩, (List.range len).map S, hcs, ⟨hl, by unfold maxLen at hm; show len ≤ _; omega⟩, sl_mk hz hf S fun i hi => (hS' i hi).1, fun x hx => ?_, hby⟩
      rw [List.mem_map] at hx
      obtain ⟨i, hi, rfl⟩ := hx
      exact (hS' i (by simpa using hi)).2
theorem pairs_argL {n : Nat} {cs : List Value} {x : DataW H × List MemPlace} (hL : Light Try.prog 37 x.1) (h : DataW.trod enc Try.prog w base spare held n 37 cs = some x) : ∃ h : Hd, ∃ l : List Tagp.KV, cs = [h.v] ∧ Keys w w.heap.size h l ∧ h.n * 32 ≤ reachBytes := by
  obtain ⟨hd, l, e, hf, hs, hq, hb⟩ := rows_argL (f := prV) (z := 2) (by omega) prV_len (Q := fun p => Len p.1 ∧ Len p.2) Try.underlying37 Try.underlying70 (by kernel_rfl) (by kernel_rfl) rfl (by kernel_rfl) hL (fun c n hc => by
    obtain ⟨_, h0, _⟩ := hc 0 _ rfl
    obtain ⟨_, h1, _⟩ := hc 1 _ rfl
    obtain ⟨s0, e0, l0⟩ := str_one h0
    obtain ⟨s1, e1, l1⟩ := str_one h1
    exact ⟨(s0, s1), fun j hj => by
      match j, hj with
      | 0, _ => show some _ = some _; rw [e0]
      | 1, _ => show some _ = some _; rw [e1], l0, l1⟩) h
  exact ⟨hd, l, e, ⟨hf, hs, hq⟩, hb⟩
end
set_option maxRecDepth 100000 in
theorem regions_argL {H : Type} {enc : TypeId × Value → H} {W : World} {base : Nat} {v : Value} {d : DataW H} {ps : List MemPlace} (hval : Value.okWide Try.prog W .any base 25 v) (hL : Light Try.prog 25 d) (h : DataW.Trod enc Try.prog W 0 (fun _ => true) true 25 v d ps) :
    ∃ (k : Hd) (L : List TH), v = k.v ∧ Fit k ∧ Sl W W.heap.size 4 k.A k.n (L.flatMap txV) ∧ (∀ x ∈ L, TxOk W W.heap.size x ∧ x.2.n * 32 ≤ reachBytes) ∧ k.n * 56 ≤ reachBytes := by
  obtain ⟨fuel, hf⟩ := h
  obtain ⟨a0, n0, c0, rfl⟩ := Go.WideShapes.okWide_slice Try.underlying25 hval
  obtain ⟨hd, l, e, hfi, hs, hq, hb⟩ := rows_argL (f := txV) (z := 4) (by omega) txV_len (Q := fun p => TxOk W W.heap.size p ∧ p.2.n * 32 ≤ reachBytes) Try.underlying25 Try.underlying39 (by kernel_rfl) (by kernel_rfl) rfl (by kernel_rfl) hL (fun c n hc => by
    obtain ⟨_, h0, _⟩ := hc 0 _ rfl
    obtain ⟨_, h1, _⟩ := hc 1 _ rfl
    obtain ⟨_, h2, _⟩ := hc 2 _ rfl
    obtain ⟨_, h3, q3⟩ := hc 3 _ rfl
    obtain ⟨s0, e0, l0⟩ := str_one h0
    obtain ⟨s1, e1, l1⟩ := int_one h1
    obtain ⟨s2, e2, l2⟩ := int_one h2
    obtain ⟨hk, ks, e3, l3, b3⟩ := pairs_argL q3 h3
    simp at e3
    exact ⟨(⟨s0, s1, s2, ks⟩, hk), fun j hj => by
      match j, hj with
      | 0, _ => show some _ = some _; rw [e0]
      | 1, _ => show some _ = some _; rw [e1]
      | 2, _ => show some _ = some _; rw [e2]
      | 3, _ => show some _ = some _; rw [e3], ⟨l0, l1, l2, l3⟩, b3⟩) hf
  simp [Value.cells] at e
  exact ⟨hd, l, by simp [e], hfi, hs, hq, hb⟩
end Go.Proofs.Ytaihgoohmcipkaa
