/-
  Rows of the reference's Concat: two lists one behind the other, the elements of the second one moved in place. No conditions.
-/
import Derived.Test.YtaihgoohmcipkaaCorOwnR
import Derived.Test.YtaihgoohmcipkaaCorConc
namespace Go.Proofs.Ytaihgoohmcipkaa
set_option linter.unusedSimpArgs false
set_option linter.unusedVariables false
open Go.RowKit
open Feat (Bs)
open Tagp (KV)

theorem take_set {α : Type} (l : List α) (j m : Nat) (x : α) : (l.set j x).take m = (l.take m).set j x := by
  rw [List.take_set]
/-- A cell of a row of the call's own is set. -/
theorem own_set {w : World} {B z n c g : Nat} {E : TypeId} {xs : List Value} (h : w.ownsRow B E z (.slice (some ⟨g, 0, none⟩) n c) n xs) (j : Nat) (u : Value) : (w.setCell ⟨g, j, none⟩ u).ownsRow B E z (.slice (some ⟨g, 0, none⟩) n c) n (xs.set j u) := by
  refine ⟨by rw [List.length_set]; exact h.1, ?_⟩
  rcases h.2 with ⟨hv, _⟩ | ⟨g', cap, cur, hv, hb, hblk, hc, hm, hsz, htk⟩
  · cases hv
  · cases hv
    refine .inr ⟨g, c, cur.setIfInBounds j u, rfl, hb, Blk.set_ (show Blk w g E cur from hblk) j u, hc, hm, by simpa using hsz, ?_⟩
    rw [Array.toList_setIfInBounds, take_set, htk]
theorem flat_set {α : Type} {f : α → List Value} {z : Nat} (hf : ∀ a, (f a).length = z) : ∀ (L : List α) (i : Nat) (hi : i < L.length) (j : Nat) (u : Value) (y : α), j < z → (f L[i]).set j u = f y → (L.flatMap f).set (i * z + j) u = (L.set i y).flatMap f
  | a :: L, 0, _, j, u, y, hj, h => by
    rw [List.flatMap_cons, Nat.zero_mul, Nat.zero_add, List.set_append_left _ _ (by rw [hf]; exact hj), List.set_cons_zero, List.flatMap_cons]
    rw [show (f a).set j u = f y from h]
  | a :: L, i + 1, hi, j, u, y, hj, h => by
    rw [List.flatMap_cons, List.set_append_right _ _ (by rw [hf, Nat.succ_mul]; omega), hf, Nat.succ_mul, show i * z + z + j - z = i * z + j by omega, List.set_cons_succ, List.flatMap_cons]
    rw [flat_set hf L i (by simpa using hi) j u y hj h]
/-- The cells of a row of the call's own. -/
theorem own_cellz {α : Type} {f : α → List Value} {z : Nat} (hf : ∀ a, (f a).length = z) {w : World} {B n c g : Nat} {E : TypeId} {L : List α} (h : w.ownsRow B E z (.slice (some ⟨g, 0, none⟩) n c) n (L.flatMap f)) (k : Nat) (hk : k < L.length) (j : Nat) (hj : j < z) :
    w.cell? ⟨g, k * z + j, none⟩ = (f L[k])[j]? ∧ w.frozen? ⟨g, k * z + j, none⟩ = false := by
  have hl : L.length * z = n * z := by rw [← flat_len hf]; exact h.1
  have hlt : k * z + j < n * z := by
    rw [← hl]
    calc k * z + j < k * z + z := by omega
      _ = (k + 1) * z := by rw [Nat.succ_mul]
      _ ≤ L.length * z := Nat.mul_le_mul_right _ hk
  refine ⟨?_, ?_⟩
  · rw [h.cellAt (k * z + j) hlt]; exact flat_at hf L k hk j hj
  · rcases h.2 with ⟨hv, _⟩ | ⟨g', cap, cur, hv, hb, hblk, _⟩
    · cases hv
    · cases hv; exact Blk.free (show Blk w g E cur from hblk) _
theorem row_block {w : World} {B z n c g : Nat} {E : TypeId} {xs : List Value} (h : w.ownsRow B E z (.slice (some ⟨g, 0, none⟩) n c) n xs) : ∃ cur, Blk w g E cur ∧ B ≤ g := by
  rcases h.2 with ⟨hv, _⟩ | ⟨g', cap, cur, hv, hb, hblk, _⟩
  · cases hv
  · cases hv; exact ⟨cur, hblk, hb⟩
/-- Moved as far as i. -/
def moved {α : Type} (l m : List α) (f : α → α) (k : Nat) : List α := l ++ ((m.take k).map f ++ m.drop k)
theorem moved_zero {α : Type} (l m : List α) (f : α → α) : moved l m f 0 = l ++ m := by unfold moved; simp
theorem moved_all {α : Type} (l m : List α) (f : α → α) : moved l m f m.length = l ++ m.map f := by unfold moved; simp
theorem moved_len {α : Type} (l m : List α) (f : α → α) (k : Nat) (hk : k ≤ m.length) : (moved l m f k).length = l.length + m.length := by unfold moved; simp; omega
theorem moved_at {α : Type} (l m : List α) (f : α → α) (k : Nat) (hk : k < m.length) : (moved l m f k)[l.length + k]? = some m[k] := by
  unfold moved
  rw [List.getElem?_append_right (by omega), List.getElem?_append_right (by simp; omega)]
  simp
  rw [show k + (k - min k m.length) = k by omega, List.getElem?_eq_getElem hk]
theorem moved_set {α : Type} (l m : List α) (f : α → α) (k : Nat) (hk : k < m.length) : (moved l m f k).set (l.length + k) (f m[k]) = moved l m f (k + 1) := by
  unfold moved
  rw [List.set_append_right _ _ (by omega), List.set_append_right _ _ (by simp; omega), List.take_succ_eq_append_getElem hk, List.map_append, List.append_assoc]
  congr 2
  rw [show l.length + k - l.length - ((m.take k).map f).length = 0 by simp; omega, List.drop_eq_getElem_cons hk]
  rfl
section
variable {w0 w w1 : World} {B g : Nat} {H : CH} {c : Cor.C}
theorem OwnR.setT (h : OwnR w0 w B g H c) (f : Off 28 w w1) {L : List KH} (hW : ∀ x ∈ L, Words w0 w0.heap.size x.2 x.1) {A : Option Addr} {n k : Nat} (o : w1.ownsRow B 28 1 (.slice A n k) n (L.flatMap tkV)) :
    OwnR w0 (w1.setCell ⟨g, 1, none⟩ (.slice A n k)) B g { H with t := ⟨A, n, k⟩ } { c with toks := L.map Prod.fst } := by
  have b1 := h.blk.off f (by decide)
  have f2 := Off.set_ b1 1 (.slice A n k)
  exact ⟨b1.set_ 1 _, (h.a.off f (by decide)).off f2 (by decide), ⟨L, rfl, own_off o f2 (by decide), hW⟩, (h.x.off f (by decide)).off f2 (by decide), (h.r.off f (by decide)).off f2 (by decide), (h.n.off f (by decide)).off f2 (by decide)⟩
theorem OwnR.setX (h : OwnR w0 w B g H c) (f : Off 64 w w1) {L : List TH} (hW : ∀ x ∈ L, TxOk w0 w0.heap.size x) {A : Option Addr} {n k : Nat} (o : w1.ownsRow B 64 4 (.slice A n k) n (L.flatMap txV)) :
    OwnR w0 (w1.setCell ⟨g, 2, none⟩ (.slice A n k)) B g { H with x := ⟨A, n, k⟩ } { c with texts := L.map Prod.fst } := by
  have b1 := h.blk.off f (by decide)
  have f2 := Off.set_ b1 2 (.slice A n k)
  exact ⟨b1.set_ 2 _, (h.a.off f (by decide)).off f2 (by decide), (h.t.off f (by decide)).off f2 (by decide), ⟨L, rfl, own_off o f2 (by decide), hW⟩, (h.r.off f (by decide)).off f2 (by decide), (h.n.off f (by decide)).off f2 (by decide)⟩
theorem OwnR.setR (h : OwnR w0 w B g H c) (f : Off 39 w w1) {L : List TH} (hW : ∀ x ∈ L, TxOk w0 w0.heap.size x) {A : Option Addr} {n k : Nat} (o : w1.ownsRow B 39 4 (.slice A n k) n (L.flatMap txV)) :
    OwnR w0 (w1.setCell ⟨g, 3, none⟩ (.slice A n k)) B g { H with r := ⟨A, n, k⟩ } { c with regs := L.map Prod.fst } := by
  have b1 := h.blk.off f (by decide)
  have f2 := Off.set_ b1 3 (.slice A n k)
  exact ⟨b1.set_ 3 _, (h.a.off f (by decide)).off f2 (by decide), (h.t.off f (by decide)).off f2 (by decide), (h.x.off f (by decide)).off f2 (by decide), ⟨L, rfl, own_off o f2 (by decide), hW⟩, (h.n.off f (by decide)).off f2 (by decide)⟩
theorem OwnR.setN (h : OwnR w0 w B g H c) (f : Off 74 w w1) {L : List Cor.Nod} (hW : ∀ x ∈ L, Len x.lb ∧ Rng x.b ∧ Rng x.e ∧ Rng x.p) {A : Option Addr} {n k : Nat} (o : w1.ownsRow B 74 4 (.slice A n k) n (L.flatMap ndV)) :
    OwnR w0 (w1.setCell ⟨g, 4, none⟩ (.slice A n k)) B g { H with n := ⟨A, n, k⟩ } { c with nods := L } := by
  have b1 := h.blk.off f (by decide)
  have f2 := Off.set_ b1 4 (.slice A n k)
  exact ⟨b1.set_ 4 _, (h.a.off f (by decide)).off f2 (by decide), (h.t.off f (by decide)).off f2 (by decide), (h.x.off f (by decide)).off f2 (by decide), (h.r.off f (by decide)).off f2 (by decide), ⟨own_off o f2 (by decide), hW⟩⟩
/-- An element of a row is moved in place. -/
theorem OwnR.atX (h : OwnR w0 w B g H c) {f : Off 64 w w1} {L : List TH} (hW : ∀ x ∈ L, TxOk w0 w0.heap.size x) (o : w1.ownsRow B 64 4 H.x.v H.x.n (L.flatMap txV)) : OwnR w0 w1 B g H { c with texts := L.map Prod.fst } :=
  ⟨h.blk.off f (by decide), h.a.off f (by decide), h.t.off f (by decide), ⟨L, rfl, o, hW⟩, h.r.off f (by decide), h.n.off f (by decide)⟩
theorem OwnR.atR (h : OwnR w0 w B g H c) {f : Off 39 w w1} {L : List TH} (hW : ∀ x ∈ L, TxOk w0 w0.heap.size x) (o : w1.ownsRow B 39 4 H.r.v H.r.n (L.flatMap txV)) : OwnR w0 w1 B g H { c with regs := L.map Prod.fst } :=
  ⟨h.blk.off f (by decide), h.a.off f (by decide), h.t.off f (by decide), h.x.off f (by decide), ⟨L, rfl, o, hW⟩, h.n.off f (by decide)⟩
theorem OwnR.atN (h : OwnR w0 w B g H c) {f : Off 74 w w1} {L : List Cor.Nod} (hW : ∀ x ∈ L, Len x.lb ∧ Rng x.b ∧ Rng x.e ∧ Rng x.p) (o : w1.ownsRow B 74 4 H.n.v H.n.n (L.flatMap ndV)) : OwnR w0 w1 B g H { c with nods := L } :=
  ⟨h.blk.off f (by decide), h.a.off f (by decide), h.t.off f (by decide), h.x.off f (by decide), h.r.off f (by decide), ⟨o, hW⟩⟩
end
end Go.Proofs.Ytaihgoohmcipkaa
