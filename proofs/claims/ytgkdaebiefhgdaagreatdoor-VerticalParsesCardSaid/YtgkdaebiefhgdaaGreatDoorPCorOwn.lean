/-
 A corpus of the call's own: its block and its rows, each of a type of its own, so that what is written into one leaves the others. No conditions.
-/
import Derived.Test.YtgkdaebiefhgdaaGreatDoorPCorMem
import Derived.Maps.AppendAt
namespace Go.Proofs.YtgkdaebiefhgdaaGreatDoor
open Go.RowKit
open Feat (Bs)
open Tagp (KV)
structure Off (R : TypeId) (w w1 : World) : Prop where
 size : w.heap.size ≤ w1.heap.size
 keep : ∀ (k : Nat) (cs : Array Value) (t : TypeId), w.heap[k]? = some (Obj.cells cs t (0, 0)) → t ≠ R → w1.heap[k]? = w.heap[k]?
theorem Off.trans {R : TypeId} {a b c : World} (h : Off R a b) (k : Off R b c) : Off R a c :=
 ⟨Nat.le_trans h.size k.size, fun i cs t hi ht => by
  have h1 := h.keep i cs t hi ht
  exact (k.keep i cs t (h1.trans hi) ht).trans h1⟩
theorem Off.below {R : TypeId} {w w1 : World} (h : Below w.heap.size w w1) : Off R w w1 :=
 ⟨h.size, fun k _ _ hk _ => h.block k (Array.getElem?_eq_some_iff.1 hk).1⟩
theorem Off.alloc {R : TypeId} (w : World) (o : Obj) : Off R w (w.alloc o) := Off.below ((Below.refl _ _).alloc (Nat.le_refl _) o)
theorem Off.drew {R : TypeId} (w : World) : Off R w w.drew := ⟨Nat.le_refl _, fun _ _ _ _ _ => rfl⟩
theorem Off.drewN {R : TypeId} (w : World) (n : Nat) : Off R w (w.drewN n) := ⟨Nat.le_refl _, fun _ _ _ _ _ => rfl⟩
theorem Off.set_ {w : World} {g : Nat} {t : TypeId} {cs : Array Value} (h : Blk w g t cs) (i : Nat) (u : Value) : Off t w (w.setCell ⟨g, i, none⟩ u) :=
 ⟨by simp [World.setCell], fun k cs' t' hk ht => setCell_block (by
  rintro rfl
  unfold Blk at h
  rw [h] at hk; cases hk; exact ht rfl)⟩
theorem Off.grown {w w1 : World} {b s n : Nat} {e : TypeId} {v : Value} {xs : List Value} (h : w.ownsRow b e s v n xs) (hg : w.grownBy w1 v.ownBlock) : Off e w w1 :=
 ⟨hg.size, fun k cs t hk ht => hg.block k (Array.getElem?_eq_some_iff.1 hk).1 (by
  intro he
  rcases h.2 with ⟨rfl, _⟩ | ⟨g, cap, cur, rfl, _, hb, _⟩
  ·simp [Value.ownBlock] at he
  ·simp [Value.ownBlock] at he
   subst he
   rw [hb] at hk; cases hk; exact ht rfl)⟩
theorem own_off {w w1 : World} {b s n : Nat} {e R : TypeId} {v : Value} {xs : List Value} (h : w.ownsRow b e s v n xs) (hf : Off R w w1) (hne : e ≠ R) : w1.ownsRow b e s v n xs := by
 refine ⟨h.1, ?_⟩
 rcases h.2 with hn | ⟨g, cap, cur, rfl, hb, hgg, rest⟩
 ·exact .inl hn
 ·exact .inr ⟨g, cap, cur, rfl, hb, (hf.keep g _ _ hgg hne).trans hgg, rest⟩
theorem Blk.off {w w1 : World} {g : Nat} {t R : TypeId} {cs : Array Value} (h : Blk w g t cs) (hf : Off R w w1) (hne : t ≠ R) : Blk w1 g t cs := (hf.keep g _ _ h hne).trans h
theorem own_nil0 (w : World) (b s : Nat) (e : TypeId) : w.ownsRow b e s (.slice none 0 0) 0 [] := ⟨by simp, .inl ⟨rfl, rfl⟩⟩
theorem own_fit {w : World} {b s n c : Nat} {e : TypeId} {A : Option Addr} {xs : List Value} (h : w.ownsRow b e s (.slice A n c) n xs) : Fit ⟨A, n, c⟩ := by
 rcases h.2 with ⟨hv, hn⟩ | ⟨g, cap, cur, hv, _, _, hc, hm, _⟩
 ·cases hv; exact ⟨Nat.le_refl _, Nat.zero_le _⟩
 ·cases hv; unfold maxLen at hm; exact ⟨hc, by show n ≤ _; omega⟩

section
variable (w : World) (B : Nat)
def OwnW (h : Hd) (s : List Bs) : Prop := w.ownsRow B 9 1 h.v h.n (strs s) ∧ ∀ x ∈ s, Len x
def OwnT (x : TH) : Prop := Len x.1.nm ∧ Rng x.1.b ∧ Rng x.1.e ∧ w.ownsRow B 84 2 x.2.v x.2.n (x.1.ks.flatMap prV) ∧ ∀ p ∈ x.1.ks, Len p.1 ∧ Len p.2
def OA (h : Hd) (l : List At) : Prop := w.ownsRow B 73 2 h.v h.n (l.flatMap atV) ∧ ∀ a ∈ l, Len a.1
def OT (h : Hd) (l : List (List Bs)) : Prop := ∃ L : List KH, L.map Prod.fst = l ∧ w.ownsRow B 28 1 h.v h.n (L.flatMap tkV) ∧ ∀ x ∈ L, OwnW w B x.2 x.1
def OX (E : TypeId) (h : Hd) (l : List Cor.Txt) : Prop := ∃ L : List TH, L.map Prod.fst = l ∧ w.ownsRow B E 4 h.v h.n (L.flatMap txV) ∧ ∀ x ∈ L, OwnT w B x
def ON (h : Hd) (l : List Cor.Nod) : Prop := w.ownsRow B 71 4 h.v h.n (l.flatMap ndV) ∧ ∀ x ∈ l, Len x.lb ∧ Rng x.b ∧ Rng x.e ∧ Rng x.p
def OI (h : Hd) (l : List Int) : Prop := w.ownsRow B 3 1 h.v h.n (ints l) ∧ ∀ x ∈ l, Rng x
end
section
variable {w w1 : World} {B : Nat} {R : TypeId}
theorem OwnW.off {h : Hd} {s : List Bs} (k : OwnW w B h s) (f : Off R w w1) (n1 : 9 ≠ R) : OwnW w1 B h s := ⟨own_off k.1 f n1, k.2⟩
theorem OwnT.off {x : TH} (k : OwnT w B x) (f : Off R w w1) (n1 : 84 ≠ R) : OwnT w1 B x := ⟨k.1, k.2.1, k.2.2.1, own_off k.2.2.2.1 f n1, k.2.2.2.2⟩
theorem OA.off {h : Hd} {l : List At} (k : OA w B h l) (f : Off R w w1) (n1 : 73 ≠ R) : OA w1 B h l := ⟨own_off k.1 f n1, k.2⟩
theorem OT.off {h : Hd} {l : List (List Bs)} (k : OT w B h l) (f : Off R w w1) (n1 : 28 ≠ R) (n2 : 9 ≠ R) : OT w1 B h l := by
 obtain ⟨L, e, o, hx⟩ := k; exact ⟨L, e, own_off o f n1, fun x h => (hx x h).off f n2⟩
theorem OX.off {E : TypeId} {h : Hd} {l : List Cor.Txt} (k : OX w B E h l) (f : Off R w w1) (n1 : E ≠ R) (n2 : 84 ≠ R) : OX w1 B E h l := by
 obtain ⟨L, e, o, hx⟩ := k; exact ⟨L, e, own_off o f n1, fun x h => (hx x h).off f n2⟩
theorem ON.off {h : Hd} {l : List Cor.Nod} (k : ON w B h l) (f : Off R w w1) (n1 : 71 ≠ R) : ON w1 B h l := ⟨own_off k.1 f n1, k.2⟩
theorem OI.off {h : Hd} {l : List Int} (k : OI w B h l) (f : Off R w w1) (n1 : 3 ≠ R) : OI w1 B h l := ⟨own_off k.1 f n1, k.2⟩
theorem OwnW.reads {h : Hd} {s : List Bs} (k : OwnW w B h s) : Words w w.heap.size h s := ⟨own_fit k.1, own_sl k.1, k.2⟩
theorem OwnT.reads {x : TH} (k : OwnT w B x) : TxOk w w.heap.size x := ⟨k.1, k.2.1, k.2.2.1, own_fit k.2.2.2.1, own_sl k.2.2.2.1, k.2.2.2.2⟩
theorem OA.reads {h : Hd} {l : List At} (k : OA w B h l) : Atts w w.heap.size h l := ⟨own_fit k.1, own_sl k.1, k.2⟩
theorem OT.reads {h : Hd} {l : List (List Bs)} (k : OT w B h l) : Toks w w.heap.size h l := by
 obtain ⟨L, e, o, hx⟩ := k; exact ⟨L, e, own_fit o, own_sl o, fun x h => (hx x h).reads⟩
theorem OX.reads {E : TypeId} {h : Hd} {l : List Cor.Txt} (k : OX w B E h l) : Txts w w.heap.size h l := by
 obtain ⟨L, e, o, hx⟩ := k; exact ⟨L, e, own_fit o, own_sl o, fun x h => (hx x h).reads⟩
theorem ON.reads {h : Hd} {l : List Cor.Nod} (k : ON w B h l) : Nods w w.heap.size h l := ⟨own_fit k.1, own_sl k.1, k.2⟩
theorem OI.reads {h : Hd} {l : List Int} (k : OI w B h l) : Nums w w.heap.size h l := ⟨own_fit k.1, own_sl k.1, k.2⟩
end
structure OwnC (w : World) (B g : Nat) (H : CH) (c : Cor.C) : Prop where
 blk : Blk w g 30 H.cs
 a : OA w B H.a c.attrs
 t : OT w B H.t c.toks
 x : OX w B 66 H.x c.texts
 r : OX w B 69 H.r c.regs
 n : ON w B H.n c.nods
section
variable {w w1 : World} {B g : Nat} {H : CH} {c : Cor.C}
theorem OwnC.off {R : TypeId} (h : OwnC w B g H c) (f : Off R w w1) (k : 30 ≠ R ∧ 73 ≠ R ∧ 28 ≠ R ∧ 9 ≠ R ∧ 66 ≠ R ∧ 69 ≠ R ∧ 84 ≠ R ∧ 71 ≠ R) : OwnC w1 B g H c :=
 ⟨h.blk.off f k.1, h.a.off f k.2.1, h.t.off f k.2.2.1 k.2.2.2.1, h.x.off f k.2.2.2.2.1 k.2.2.2.2.2.2.1, h.r.off f k.2.2.2.2.2.1 k.2.2.2.2.2.2.1, h.n.off f k.2.2.2.2.2.2.2⟩
theorem OwnC.below (h : OwnC w B g H c) (hb : Below w.heap.size w w1) : OwnC w1 B g H c :=
 h.off (R := 4294967295) (Off.below hb) (by decide)
theorem OwnC.alloc (h : OwnC w B g H c) (o : Obj) : OwnC (w.alloc o) B g H c := h.below ((Below.refl _ _).alloc (Nat.le_refl _) o)
theorem OwnC.drew (h : OwnC w B g H c) : OwnC w.drew B g H c := h.off (R := 4294967295) (Off.drew w) (by decide)
theorem OwnC.drewN (h : OwnC w B g H c) (n : Nat) : OwnC (w.drewN n) B g H c := h.off (R := 4294967295) (Off.drewN w n) (by decide)
theorem own_rest {b s n : Nat} {e : TypeId} {v : Value} {xs : List Value} {cs : Array Value} (hb : Blk w g 30 cs) (hk : ∀ k, k < w.heap.size → k ≠ g → w1.heap[k]? = w.heap[k]?) (h : w.ownsRow b e s v n xs) (hne : e ≠ 30) : w1.ownsRow b e s v n xs := by
 refine ⟨h.1, ?_⟩
 rcases h.2 with hn | ⟨k, cap, cur, rfl, hb', hgg, rest⟩
 ·exact .inl hn
 ·refine .inr ⟨k, cap, cur, rfl, hb', (hk k (Array.getElem?_eq_some_iff.1 hgg).1 ?_).trans hgg, rest⟩
  rintro rfl
  unfold Blk at hb
  rw [hgg] at hb; cases hb; exact hne rfl
theorem OwnC.rest (h : OwnC w B g H c) (hk : ∀ k, k < w.heap.size → k ≠ g → w1.heap[k]? = w.heap[k]?) : OA w1 B H.a c.attrs ∧ OT w1 B H.t c.toks ∧ OX w1 B 66 H.x c.texts ∧ OX w1 B 69 H.r c.regs ∧ ON w1 B H.n c.nods := by
 obtain ⟨hb, ha, ⟨Lt, et, ot, wt⟩, ⟨Lx, ex, ox, wx⟩, ⟨Lr, er, orr, wr⟩, hn⟩ := h
 exact ⟨⟨own_rest hb hk ha.1 (by decide), ha.2⟩, ⟨Lt, et, own_rest hb hk ot (by decide), fun x hx => ⟨own_rest hb hk (wt x hx).1 (by decide), (wt x hx).2⟩⟩,
  ⟨Lx, ex, own_rest hb hk ox (by decide), fun x hx => ⟨(wx x hx).1, (wx x hx).2.1, (wx x hx).2.2.1, own_rest hb hk (wx x hx).2.2.2.1 (by decide), (wx x hx).2.2.2.2⟩⟩,
  ⟨Lr, er, own_rest hb hk orr (by decide), fun x hx => ⟨(wr x hx).1, (wr x hx).2.1, (wr x hx).2.2.1, own_rest hb hk (wr x hx).2.2.2.1 (by decide), (wr x hx).2.2.2.2⟩⟩,
  ⟨own_rest hb hk hn.1 (by decide), hn.2⟩⟩
end
end Go.Proofs.YtgkdaebiefhgdaaGreatDoor
