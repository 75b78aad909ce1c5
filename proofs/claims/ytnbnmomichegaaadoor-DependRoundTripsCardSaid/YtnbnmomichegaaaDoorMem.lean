/-
  Whatever the program: words for memory: a block known whole, a slice that reads as a list. No conditions.
-/
import Derived.WalkKit
import Derived.Lib.Hide
import Derived.Deep.Draws
namespace Go.Proofs.YtnbnmomichegaaaDoor
open Go.RowKit

abbrev str (l : List UInt8) : Value := .string ⟨l.toArray⟩
theorem ret_bool {a b : Bool} (h : a = b) : Ending.returned (.bool a) = .returned (.bool b) := by rw [h]
theorem ret_int {k : IntKind} {a b : Int} (h : a = b) : Ending.returned (.int k a) = .returned (.int k b) := by rw [h]

/-- Block g is known whole. -/
def Blk (w : World) (g : Nat) (t : TypeId) (cs : Array Value) : Prop := w.heap[g]? = some (.cells cs t (0, 0))
theorem Blk.lt {w : World} {g : Nat} {t : TypeId} {cs : Array Value} (h : Blk w g t cs) : g < w.heap.size := (Array.getElem?_eq_some_iff.1 h).1
theorem Blk.cell {w : World} {g : Nat} {t : TypeId} {cs : Array Value} (h : Blk w g t cs) (i : Nat) : w.cell? ⟨g, i, none⟩ = cs[i]? := by
  unfold Blk at h; simp [World.cell?, h]
theorem Blk.free {w : World} {g : Nat} {t : TypeId} {cs : Array Value} (h : Blk w g t cs) (i : Nat) : w.frozen? ⟨g, i, none⟩ = false := by
  unfold Blk at h; simp [World.frozen?, h]

theorem Blk.set_ {w : World} {g : Nat} {t : TypeId} {cs : Array Value} (h : Blk w g t cs) (i : Nat) (u : Value) : Blk (w.setCell ⟨g, i, none⟩ u) g t (cs.setIfInBounds i u) := by
  unfold Blk at h ⊢
  simp [World.setCell, Array.getElem?_modify, h]
theorem Blk.new (w : World) (t : TypeId) (cs : Array Value) : Blk (w.alloc (.cells cs t)) w.heap.size t cs := heap_alloc_new w _
theorem Blk.alloc {w : World} {g : Nat} {t : TypeId} {cs : Array Value} (h : Blk w g t cs) (o : Obj) : Blk (w.alloc o) g t cs := (Below.heap_alloc w o g h.lt).trans h
/-- What the four stores of a round leave. -/
theorem Blk.four {w : World} {g : Nat} {t : TypeId} {x y z : Value} (h : Blk w g t #[x, y, z]) (v r a e : Value) :
    Blk ((((w.setCell ⟨g, 2, none⟩ v).setCell ⟨g, 0, none⟩ r).setCell ⟨g, 1, none⟩ a).setCell ⟨g, 2, none⟩ e) g t #[r, a, e] :=
  (((h.set_ 2 v).set_ 0 r).set_ 1 a).set_ 2 e
theorem below_three (w : World) (g : Nat) (r a e : Value) :
    Below g w (((w.setCell ⟨g, 0, none⟩ r).setCell ⟨g, 1, none⟩ a).setCell ⟨g, 2, none⟩ e) :=
  (((Below.refl _ _).setCell (p := ⟨g, 0, none⟩) (Nat.le_refl _) _).setCell (p := ⟨g, 1, none⟩) (Nat.le_refl _) _).setCell (p := ⟨g, 2, none⟩) (Nat.le_refl _) _
theorem below_one (w : World) (g : Nat) (v : Value) : Below g w (w.setCell ⟨g, 2, none⟩ v) := (Below.refl _ _).setCell (p := ⟨g, 2, none⟩) (Nat.le_refl _) _
theorem set_three {w : World} (g k : Nat) (r a e : Value) (h : k ≠ g) :
    (((w.setCell ⟨g, 0, none⟩ r).setCell ⟨g, 1, none⟩ a).setCell ⟨g, 2, none⟩ e).heap[k]? = w.heap[k]? :=
  ((Below.heap_setCell _ _ _ _ h).trans (Below.heap_setCell _ _ _ _ h)).trans (Below.heap_setCell _ _ _ _ h)
theorem setCell_block {w : World} {p : Addr} {u : Value} {k : Nat} (h : k ≠ p.block) : (w.setCell p u).heap[k]? = w.heap[k]? := Below.heap_setCell w p u k h
theorem iterPos_of {w : World} {k p : Nat} {s : ByteArray} (h : w.heap[k]? = some (.stringIter s p)) : w.iterPos k = p := by unfold World.iterPos; rw [h]

/-- In w the slice (A, n) has the cells xs, sz of them for each element, all below block B. -/
def Sl (w : World) (B : Nat) (sz : Nat) (A : Option Addr) (n : Nat) (xs : List Value) : Prop :=
  xs.length = n * sz ∧ (0 < xs.length → ∃ g o, A = some ⟨g, o, none⟩ ∧ g < B ∧ ∀ j u, xs[j]? = some u → w.cell? ⟨g, o + j, none⟩ = some u)

def strs (l : List (List UInt8)) : List Value := l.map str

theorem Sl.len {w : World} {B n : Nat} {A : Option Addr} {l : List (List UInt8)} (h : Sl w B 1 A n (strs l)) : l.length = n := by
  simpa [strs] using h.1
theorem Sl.at_ {w : World} {B n k : Nat} {A : Option Addr} {l : List (List UInt8)} (h : Sl w B 1 A n (strs l)) (hk : k < n) :
    ∃ g o, ∃ hk : k < l.length, A = some ⟨g, o, none⟩ ∧ g < B ∧ w.cell? ⟨g, o + k, none⟩ = some (str l[k]) := by
  have hl := h.len
  obtain ⟨h1, h2⟩ := h
  obtain ⟨g, o, e, hb, hc⟩ := h2 (by simp [strs]; omega)
  exact ⟨g, o, by omega, e, hb, hc k _ (by simp [strs, List.getElem?_map])⟩
theorem news_new (w : World) (t : TypeId) (cs : List Value) : ∀ j u, cs[j]? = some u → (w.alloc (.cells cs.toArray t)).cell? ((⟨w.heap.size, 0, none⟩ : Addr).add j) = some u := by
  intro j u hj
  have : (⟨w.heap.size, 0, none⟩ : Addr).add j = ⟨w.heap.size, j, none⟩ := by unfold Addr.add; split <;> simp_all
  rw [this]
  exact ((Blk.new w t cs.toArray).cell j).trans (by simpa using hj)
theorem grown_block {w w' : World} {row : Option Nat} (h : w.grownBy w' row) {k : Nat} {o : Obj} (hk : w.heap[k]? = some o) (hne : some k ≠ row) : w'.heap[k]? = some o :=
  (h.block k (Array.getElem?_eq_some_iff.1 hk).1 hne).trans hk
theorem alloc_block {w : World} {k : Nat} {o : Obj} (o' : Obj) (hk : w.heap[k]? = some o) : (w.alloc o').heap[k]? = some o :=
  (Below.heap_alloc _ _ _ (Array.getElem?_eq_some_iff.1 hk).1).trans hk
theorem own_same {w w' : World} {base : Nat} {e : TypeId} {sz n : Nat} {v : Value} {xs : List Value} (h : w.ownsRow base e sz v n xs)
    (hk : ∀ g, v.ownBlock = some g → w'.heap[g]? = w.heap[g]?) : w'.ownsRow base e sz v n xs := by
  refine ⟨h.1, ?_⟩
  rcases h.2 with ⟨rfl, rfl⟩ | ⟨g, cap, cur, rfl, h1, h2, h3⟩
  · exact .inl ⟨rfl, rfl⟩
  · exact .inr ⟨g, cap, cur, rfl, h1, (hk g rfl).trans h2, h3⟩
theorem own_form {w : World} {base : Nat} {e : TypeId} {sz n : Nat} {v : Value} {xs : List Value} (h : w.ownsRow base e sz v n xs) (hn : 0 < n) :
    ∃ g cap, v = .slice (some ⟨g, 0, none⟩) n cap ∧ base ≤ g ∧ g < w.heap.size ∧ n ≤ cap := by
  rcases h.2 with ⟨_, rfl⟩ | ⟨g, cap, cur, rfl, h1, h2, h3, _⟩
  · omega
  · exact ⟨g, cap, rfl, h1, (Array.getElem?_eq_some_iff.1 h2).1, h3⟩
/-- The call has changed nothing. -/
def SameW (v : Value) (w : World) (e : Ending) (w' : World) : Prop := e = .returned v ∧ w = w'
/-- The call has only read, in an open order. -/
def Drawn (v : Value) (w : World) (e : Ending) (w' : World) : Prop := e = .returned v ∧ ∃ q, w' = w.drewN q
end Go.Proofs.YtnbnmomichegaaaDoor
