/-
  Whatever the program: a slice that reads as a list of ints; rows of the call's own. No conditions.
-/
import Derived.Test.YtnbnmomichegaaaDoorProg
import Derived.Test.YtnbnmomichegaaaDoorAppend
import Derived.Laws.OwnMore
namespace Go.Proofs.YtnbnmomichegaaaDoor
open Go.RowKit

def ints (l : List Int) : List Value := l.map (Value.int .i64)
theorem ints_len (l : List Int) : (ints l).length = l.length := by simp [ints]
theorem ints_one (l : List Int) : ∀ u ∈ ints l, u.oneCell' = true := by
  intro u hu; unfold ints at hu; rw [List.mem_map] at hu; obtain ⟨x, _, rfl⟩ := hu; rfl
theorem ints_append (l m : List Int) : ints (l ++ m) = ints l ++ ints m := by simp [ints]
theorem ints_set (l : List Int) (i : Nat) (x : Int) : ints (l.set i x) = (ints l).set i (.int .i64 x) := by simp [ints]
theorem ints_take (l : List Int) (i : Nat) : ints (l.take i) = (ints l).take i := by simp [ints]
theorem ints_replicate (n : Nat) (x : Int) : ints (List.replicate n x) = List.replicate n (.int .i64 x) := by simp [ints]
theorem ints_at {l : List Int} {i : Nat} (h : i < l.length) : (ints l).toArray[i]? = some (.int .i64 l[i]) := by simp [ints, h]

theorem Sl.grown {w w' : World} {B g sz n : Nat} {A : Option Addr} {xs : List Value} (h : Sl w B sz A n xs) (hB : B ≤ w.heap.size) (hg : w.grownBy w' (some g)) (hne : ∀ ga o, A = some ⟨ga, o, none⟩ → ga ≠ g) : Sl w' B sz A n xs := by
  refine ⟨h.1, fun hp => ?_⟩
  obtain ⟨ga, o, e, hl, hc⟩ := h.2 hp
  exact ⟨ga, o, e, hl, fun j u hj => (World.cell?_of_block (hg.block ga (Nat.lt_of_lt_of_le hl hB) (fun h => hne ga o e (by cases h; rfl)))).trans (hc j u hj)⟩
theorem Sl.up {w : World} {B B' sz n : Nat} {A : Option Addr} {xs : List Value} (h : Sl w B sz A n xs) (hB : B ≤ B') : Sl w B' sz A n xs := by
  refine ⟨h.1, fun hp => ?_⟩
  obtain ⟨ga, o, e, hl, hc⟩ := h.2 hp
  exact ⟨ga, o, e, Nat.lt_of_lt_of_le hl hB, hc⟩
theorem Sl.under {w w' : World} {B sz n : Nat} {A : Option Addr} {xs : List Value} (h : Sl w B sz A n xs) (hb : Below B w w') : Sl w' B sz A n xs := by
  refine ⟨h.1, fun hp => ?_⟩
  obtain ⟨g, o, e, hg, hc⟩ := h.2 hp
  exact ⟨g, o, e, hg, fun j u hj => (World.cell?_of_block (hb.block g hg)).trans (hc j u hj)⟩
theorem Sl.ilen {w : World} {B n : Nat} {A : Option Addr} {l : List Int} (h : Sl w B 1 A n (ints l)) : l.length = n := by simpa [ints] using h.1
theorem Sl.int {w : World} {B n k : Nat} {A : Option Addr} {l : List Int} (h : Sl w B 1 A n (ints l)) (hk : k < n) :
    ∃ g o, ∃ hk : k < l.length, A = some ⟨g, o, none⟩ ∧ g < B ∧ w.cell? ⟨g, o + k, none⟩ = some (.int .i64 l[k]) := by
  have hl := h.ilen
  obtain ⟨h1, h2⟩ := h
  obtain ⟨g, o, e, hb, hc⟩ := h2 (by simp [ints]; omega)
  exact ⟨g, o, by omega, e, hb, hc k _ (by simp [ints, List.getElem?_map])⟩
theorem grown_alloc {w : World} {row : Option Nat} (o : Obj) : w.grownBy (w.alloc o) row := ⟨rfl, rfl, rfl, (Nat.le_of_lt (by rw [World.size_alloc]; omega)), fun k hk _ => Below.heap_alloc w o k hk⟩
theorem Blk.grown {w w' : World} {g k : Nat} {t : TypeId} {cs : Array Value} (h : Blk w k t cs) (hg : w.grownBy w' (some g)) (hk : k ≠ g) : Blk w' k t cs := (hg.block k h.lt (fun e => hk (by cases e; rfl))).trans h
theorem Blk.below {w w' : World} {k : Nat} {t : TypeId} {cs : Array Value} (h : Blk w k t cs) (hb : Below w.heap.size w w') : Blk w' k t cs := (hb.block k h.lt).trans h
theorem Blk.under {w w' : World} {k B : Nat} {t : TypeId} {cs : Array Value} (h : Blk w k t cs) (hb : Below B w w') (hk : k < B) : Blk w' k t cs := (hb.block k hk).trans h
theorem Blk.other {w : World} {g : Nat} {t : TypeId} {cs : Array Value} (h : Blk w g t cs) {p : Addr} (hp : p.block ≠ g) (u : Value) : Blk (w.setCell p u) g t cs := (setCell_block (fun e => hp e.symm)).trans h
theorem Blk.seti {w : World} {g : Nat} {t : TypeId} {l : List Int} (h : Blk w g t (ints l).toArray) (i : Nat) (x : Int) : Blk (w.setCell ⟨g, i, none⟩ (.int .i64 x)) g t (ints (l.set i x)).toArray := by
  have := h.set_ i (.int .i64 x)
  rw [ints_set]
  simpa using this
theorem Blk.iat {w : World} {g : Nat} {t : TypeId} {l : List Int} (h : Blk w g t (ints l).toArray) {i : Nat} (hi : i < l.length) : w.cell? ⟨g, i, none⟩ = some (.int .i64 l[i]) := (h.cell i).trans (ints_at hi)
theorem below_drewN {B : Nat} {a w : World} (h : Below B a w) (n : Nat) : Below B a (w.drewN n) := ⟨h.os, h.tape, h.output, h.size, h.block⟩
theorem own_base {w : World} {base base' sz n : Nat} {e : TypeId} {v : Value} {xs : List Value} (h : w.ownsRow base e sz v n xs) (hb : base' ≤ base) : w.ownsRow base' e sz v n xs := by
  refine ⟨h.1, ?_⟩
  rcases h.2 with k | ⟨g, cap, cur, rfl, hg, k⟩
  · exact .inl k
  · exact .inr ⟨g, cap, cur, rfl, Nat.le_trans hb hg, k⟩
theorem own_sl {w : World} {base sz n c : Nat} {A : Option Addr} {e : TypeId} {xs : List Value} (h : w.ownsRow base e sz (.slice A n c) n xs) : Sl w w.heap.size sz A n xs := by
  refine ⟨h.1, fun hp => ?_⟩
  rcases h.2 with ⟨hv, hn⟩ | ⟨g, cap, cur, hv, hg, hb, _⟩
  · have := h.1; rw [hn] at this; simp at this; rw [this] at hp; simp at hp
  · cases hv
    refine ⟨g, 0, rfl, (Array.getElem?_eq_some_iff.1 hb).1, fun j u hj => ?_⟩
    have ea : (⟨g, 0, none⟩ : Addr).add j = ⟨g, 0 + j, none⟩ := by unfold Addr.add; split <;> simp_all
    rw [← ea]
    exact h.cells rfl j u hj
theorem own_slc {w : World} {base sz n : Nat} {v : Value} {e : TypeId} {xs : List Value} (h : w.ownsRow base e sz v n xs) : ∃ A c, v = .slice A n c ∧ n ≤ c ∧ (∀ ga o, A = some ⟨ga, o, none⟩ → base ≤ ga) := by
  rcases h.2 with ⟨hv, hn⟩ | ⟨g, cap, cur, hv, hg, hb, hc, _⟩
  · exact ⟨none, 0, by rw [hn]; exact hv, by omega, fun _ _ e => by cases e⟩
  · exact ⟨_, _, hv, hc, fun ga o e => by cases e; exact hg⟩
theorem own_below {w w' : World} {base sz n : Nat} {e : TypeId} {v : Value} {xs : List Value} (h : w.ownsRow base e sz v n xs) (hb : Below w.heap.size w w') : w'.ownsRow base e sz v n xs :=
  own_same h (fun g hg => hb.block g (h.lt g hg).2)
/-- A row of n elements made by make: its block whole. -/
theorem made_blk {w : World} {base n g : Nat} {e : TypeId} {xs : List Value} (h : w.ownsRow base e 1 (.slice (some ⟨g, 0, none⟩) n n) n xs) : Blk w g e xs.toArray := by
  rcases h.2 with ⟨hv, _⟩ | ⟨g', cap, cur, hv, _, hb, _, _, hsz, ht⟩
  · cases hv
  · cases hv
    have : cur.toList = xs := by rw [← ht, List.take_of_length_le (by simp; omega)]
    unfold Blk; rw [hb, ← this]
/-- A block that is known whole is a row of the call's own. -/
theorem blk_own {w : World} {base g : Nat} {e : TypeId} {xs : List Value} (h : Blk w g e xs.toArray) (hb : base ≤ g) (hm : xs.length ≤ maxLen) : w.ownsRow base e 1 (.slice (some ⟨g, 0, none⟩) xs.length xs.length) xs.length xs :=
  ⟨by simp, .inr ⟨g, xs.length, xs.toArray, rfl, hb, h, Nat.le_refl _, hm, by simp, by simp⟩⟩
theorem own_int {w : World} {base g n cap : Nat} {e : TypeId} {l : List Int} (h : w.ownsRow base e 1 (.slice (some ⟨g, 0, none⟩) n cap) n (ints l)) (k : Nat) (hk : k < l.length) : w.cell? ⟨g, k, none⟩ = some (.int .i64 l[k]) := by
  have hl : l.length = n * 1 := by simpa [ints] using h.1
  rw [h.cellAt k (by omega)]
  simp [ints]
/-- A row of the call's own cut to its first k elements. -/
theorem own_cut {w : World} {base sz n c k : Nat} {A : Option Addr} {e : TypeId} {xs : List Value} (h : w.ownsRow base e sz (.slice A n c) n xs) (hk : k ≤ n) : w.ownsRow base e sz (.slice A k c) k (xs.take (k * sz)) := by
  have hle : k * sz ≤ n * sz := Nat.mul_le_mul_right sz hk
  refine ⟨by rw [List.length_take, h.1]; omega, ?_⟩
  rcases h.2 with ⟨hv, hn⟩ | ⟨g, cap, cur, hv, hg, hb, hc, hm, hsz, ht⟩
  · cases hv; exact .inl ⟨by rw [show k = 0 by omega], by omega⟩
  · cases hv
    exact .inr ⟨g, _, cur, rfl, hg, hb, by omega, hm, hsz, by rw [← ht, List.take_take]; congr 1; omega⟩
/-- What is true of the slots of a call that hands back one thing and only makes memory. -/
def Gave (v : Value) (w : World) (e : Ending) (w' : World) : Prop := e = .returned v ∧ Below w.heap.size w w'
theorem info_int : (Tryd.prog.info? 3).map (fun i => (i.zero, i.size, i.bytes)) = some (some (.int .i64 0), 1, 8) := by kernel_rfl
end Go.Proofs.YtnbnmomichegaaaDoor
