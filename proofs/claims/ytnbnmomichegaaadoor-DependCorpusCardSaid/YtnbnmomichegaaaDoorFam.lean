/-
  Whatever the program: a family of rows of the call's own, no two in one block; make in a region. Conditions: those of the hypotheses.
-/
import Derived.Test.YtnbnmomichegaaaDoorBase6
import Derived.Deep.RegionLaw
namespace Go.Proofs.YtnbnmomichegaaaDoor
open Go.RowKit

def nats (l : List Nat) : List Value := l.map fun x => Value.int .i64 (x : Nat)
theorem nats_len (l : List Nat) : (nats l).length = l.length := by simp [nats]
theorem nats_one (l : List Nat) : ∀ u ∈ nats l, u.oneCell' = true := by
  intro u hu; unfold nats at hu; rw [List.mem_map] at hu; obtain ⟨x, _, rfl⟩ := hu; rfl
theorem nats_append (l m : List Nat) : nats (l ++ m) = nats l ++ nats m := by simp [nats]
theorem nats_take (l : List Nat) (i : Nat) : nats (l.take i) = (nats l).take i := by simp [nats]
theorem nats_replicate (n x : Nat) : nats (List.replicate n x) = List.replicate n (.int .i64 (x : Nat)) := by simp [nats]
theorem nats_at {l : List Nat} {i : Nat} (h : i < l.length) : (nats l).toArray[i]? = some (.int .i64 (l[i] : Nat)) := by simp [nats, h]
theorem Blk.setn {w : World} {g : Nat} {t : TypeId} {l : List Nat} (h : Blk w g t (nats l).toArray) (i x : Nat) : Blk (w.setCell ⟨g, i, none⟩ (.int .i64 (x : Nat))) g t (nats (l.set i x)).toArray := by
  have := h.set_ i (.int .i64 (x : Nat))
  have e : nats (l.set i x) = (nats l).set i (.int .i64 (x : Nat)) := by simp [nats]
  rw [e]
  simpa using this
theorem Blk.nat {w : World} {g : Nat} {t : TypeId} {l : List Nat} (h : Blk w g t (nats l).toArray) {i : Nat} (hi : i < l.length) : w.cell? ⟨g, i, none⟩ = some (.int .i64 (l[i] : Nat)) := (h.cell i).trans (nats_at hi)
theorem own_nat {w : World} {base g n cap : Nat} {e : TypeId} {l : List Nat} (h : w.ownsRow base e 1 (.slice (some ⟨g, 0, none⟩) n cap) n (nats l)) (k : Nat) (hk : k < l.length) : w.cell? ⟨g, k, none⟩ = some (.int .i64 (l[k] : Nat)) := by
  have hl : l.length = n * 1 := by simpa [nats] using h.1
  rw [h.cellAt k (by omega)]
  simp [nats, List.getElem?_eq_getElem hk]

theorem addr_add (g o j : Nat) : (⟨g, o, none⟩ : Addr).add j = ⟨g, o + j, none⟩ := by unfold Addr.add; split <;> simp_all
/-- A source that a slice lays out. -/
theorem Sl.src {w w' : World} {B n : Nat} {A : Option Addr} {xs : List Value} (h : Sl w B 1 A n xs) (hh : ∀ g, g < B → w'.heap[g]? = w.heap[g]?) : Src w' A xs := by
  intro hp
  obtain ⟨g, o, e, hg, hc⟩ := h.2 hp
  exact ⟨_, e, fun j u hj => by rw [addr_add, ← hc j u hj]; exact World.cell?_of_block (hh g hg)⟩

theorem news_one {W : World} {t : TypeId} {x : Value} {k : Nat} (hk : W.heap.size = k) : ∀ j u, [x][j]? = some u → (W.alloc (.cells #[x] t)).cell? ((⟨k, 0, none⟩ : Addr).add j) = some u := by
  subst hk; exact news_new W t [x]
def upd {α : Type} (f : Nat → α) (x : Nat) (v : α) : Nat → α := fun y => if y = x then v else f y
theorem upd_self {α : Type} (f : Nat → α) (x : Nat) (v : α) : upd f x v x = v := if_pos rfl
theorem upd_ne {α : Type} (f : Nat → α) {x y : Nat} (v : α) (h : y ≠ x) : upd f x v y = f y := if_neg h

/-- Rows 0 .. N - 1 of the call's own, no two in one block. -/
structure Fam (w : World) (base : Nat) (e : TypeId) (N : Nat) (v : Nat → Value) (l : Nat → List Nat) : Prop where
  own : ∀ x, x < N → w.ownsRow base e 1 (v x) (l x).length (nats (l x))
  ne : ∀ x y, x < N → y < N → x ≠ y → ∀ b, (v x).ownBlock = some b → (v y).ownBlock ≠ some b
/-- Block g holds none of the rows. -/
def OffF (g N : Nat) (v : Nat → Value) : Prop := ∀ x, x < N → (v x).ownBlock ≠ some g

theorem Fam.start (w : World) (base : Nat) (e : TypeId) (N : Nat) : Fam w base e N (fun _ => .slice none 0 0) (fun _ => []) :=
  ⟨fun _ _ => World.ownsRow_nil _ _ _ _, fun _ _ _ _ _ b hb => by simp [Value.ownBlock] at hb⟩
theorem OffF.start (g N : Nat) : OffF g N (fun _ => .slice none 0 0) := fun _ _ h => by simp [Value.ownBlock] at h
theorem Fam.alloc {w : World} {base : Nat} {e : TypeId} {N : Nat} {v : Nat → Value} {l : Nat → List Nat} (h : Fam w base e N v l) (o : Obj) : Fam (w.alloc o) base e N v l :=
  ⟨fun x hx => (h.own x hx).alloc o, h.ne⟩
theorem Fam.heap {w w' : World} {base : Nat} {e : TypeId} {N : Nat} {v : Nat → Value} {l : Nat → List Nat} (h : Fam w base e N v l) (hh : ∀ g, g < w.heap.size → OffF g N v ∨ w'.heap[g]? = w.heap[g]?) : Fam w' base e N v l :=
  ⟨fun x hx => own_same (h.own x hx) fun g hg => by
    rcases hh g ((h.own x hx).lt g hg).2 with h1 | h1
    · exact absurd hg (h1 x hx)
    · exact h1, h.ne⟩
theorem Fam.set {w : World} {base : Nat} {e : TypeId} {N : Nat} {v : Nat → Value} {l : Nat → List Nat} (h : Fam w base e N v l) {p : Addr} (hp : OffF p.block N v) (u : Value) : Fam (w.setCell p u) base e N v l :=
  h.heap fun g _ => by
    by_cases e : g = p.block
    · subst e; exact .inl hp
    · exact .inr (Below.heap_setCell _ _ _ _ e)
theorem Fam.below {w w' : World} {base : Nat} {e : TypeId} {N : Nat} {v : Nat → Value} {l : Nat → List Nat} (h : Fam w base e N v l) (hb : Below w.heap.size w w') : Fam w' base e N v l := h.heap fun g hg => .inr (hb.block g hg)
/-- Row x has grown; the others are as they were. -/
theorem Fam.grow {w w' : World} {base : Nat} {e : TypeId} {N x : Nat} {v : Nat → Value} {l : Nat → List Nat} (h : Fam w base e N v l) {v' : Value} {l' : List Nat} (own' : w'.ownsRow base e 1 v' l'.length (nats l')) (gr : w.grownBy w' (v x).ownBlock) (hx : x < N)
    (hb : v'.ownBlock = (v x).ownBlock ∨ ∃ b, v'.ownBlock = some b ∧ w.heap.size ≤ b) : Fam w' base e N (upd v x v') (upd l x l') := by
  refine ⟨fun y hy => ?_, fun y z hy hz hyz b hyb => ?_⟩
  · by_cases ey : y = x
    · subst ey; rw [upd_self, upd_self]; exact own'
    · rw [upd_ne _ _ ey, upd_ne _ _ ey]
      refine own_same (h.own y hy) fun g hg => gr.block g ((h.own y hy).lt g hg).2 fun e => ?_
      exact h.ne y x hy hx ey g hg e.symm
  · by_cases ey : y = x
    · subst ey
      rw [upd_self] at hyb
      rw [upd_ne _ _ (fun e => hyz e.symm)]
      rcases hb with hb | ⟨b', hb, hlt⟩
      · rw [hb] at hyb; exact h.ne y z hy hz hyz b hyb
      · rw [hb] at hyb
        cases hyb
        intro hzb
        have := ((h.own z hz).lt b hzb).2
        omega
    · rw [upd_ne _ _ ey] at hyb
      by_cases ez : z = x
      · subst ez
        rw [upd_self]
        rcases hb with hb | ⟨b', hb, hlt⟩
        · rw [hb]; exact h.ne y z hy hz hyz b hyb
        · rw [hb]
          intro e
          cases e
          have := ((h.own y hy).lt b hyb).2
          omega
      · rw [upd_ne _ _ ez]; exact h.ne y z hy hz hyz b hyb
theorem OffF.grow {w : World} {g N x : Nat} {v : Nat → Value} (h : OffF g N v) (hg : g < w.heap.size) {v' : Value} (hx : x < N) (hb : v'.ownBlock = (v x).ownBlock ∨ ∃ b, v'.ownBlock = some b ∧ w.heap.size ≤ b) : OffF g N (upd v x v') := by
  intro y hy
  by_cases ey : y = x
  · subst ey
    rw [upd_self]
    rcases hb with hb | ⟨b, hb, hlt⟩
    · rw [hb]; exact h y hx
    · rw [hb]; intro e; cases e; omega
  · rw [upd_ne _ _ ey]; exact h y hy
theorem Blk.gr {w w' : World} {g : Nat} {t : TypeId} {cs : Array Value} {v : Value} (h : Blk w g t cs) (gr : w.grownBy w' v.ownBlock) (hg : v.ownBlock ≠ some g) : Blk w' g t cs := (gr.block g h.lt (fun e => hg e.symm)).trans h
/-- The values of the first n rows, as a block holds them. -/
def vals (n : Nat) (v : Nat → Value) : Array Value := ((List.range n).map v).toArray
theorem vals_at {n x : Nat} {v : Nat → Value} (hx : x < n) : (vals n v)[x]? = some (v x) := by simp [vals, hx]
theorem vals_set {n x : Nat} {v : Nat → Value} {v' : Value} : (vals n v).setIfInBounds x v' = vals n (upd v x v') := by
  unfold vals
  rw [List.setIfInBounds_toArray]
  congr 1
  apply List.ext_getElem
  · simp
  · intro i h1 h2
    simp only [List.length_set, List.length_map, List.length_range] at h1
    by_cases e : x = i
    · subst e; simp [upd_self]
    · rw [List.getElem_set_ne e]; simp [upd_ne _ _ (fun h => e h.symm)]
theorem vals_same {n x : Nat} {v : Nat → Value} {v' : Value} (hx : n ≤ x) : vals n (upd v x v') = vals n v := by
  unfold vals
  congr 1
  apply List.map_congr_left
  intro i hi
  rw [List.mem_range] at hi
  exact upd_ne _ _ (by omega)

/-- One element was put behind row x. -/
theorem Fam.push {w w2 : World} {base : Nat} {e : TypeId} {N x k np : Nat} {v : Nat → Value} {l : Nat → List Nat} {vx v2 : Value} (h : Fam w base e N v l) (o : Obj) (hx : x < N) (hv : v x = vx) (hnp : np = (l x).length)
    (own2 : w2.ownsRow base e 1 v2 (np + 1) (nats (l x) ++ [.int .i64 (k : Nat)])) (gr2 : (w.alloc o).grownBy w2 vx.ownBlock) (hob : v2.ownBlock = vx.ownBlock ∨ v2.ownBlock = some (w.heap.size + 1)) :
    Fam w2 base e N (upd v x v2) (upd l x (l x ++ [k])) := by
  subst hnp; subst hv
  refine (h.alloc o).grow ?_ gr2 hx ?_
  · have : nats (l x ++ [k]) = nats (l x) ++ [.int .i64 (k : Nat)] := by simp [nats]
    rw [this, List.length_append]
    exact own2
  · exact hob.imp id fun e => ⟨_, e, by simp⟩
theorem OffF.push {w : World} {g N x : Nat} {v : Nat → Value} {vx v2 : Value} (h : OffF g N v) (hg : g < w.heap.size) (hx : x < N) (hv : v x = vx) (hob : v2.ownBlock = vx.ownBlock ∨ v2.ownBlock = some (w.heap.size + 1)) : OffF g N (upd v x v2) := by
  subst hv
  exact h.grow (w := w) hg hx (hob.imp id fun e => ⟨_, e, by omega⟩)
theorem Blk.push {w w2 : World} {g N x : Nat} {t : TypeId} {cs : Array Value} {v : Nat → Value} {vx : Value} (hb : Blk w g t cs) (h : OffF g N v) (hx : x < N) (hv : v x = vx) (o : Obj) (gr2 : (w.alloc o).grownBy w2 vx.ownBlock) : Blk w2 g t cs := by
  subst hv
  exact (hb.alloc o).gr gr2 (h x hx)
theorem Below.push {W w w2 : World} {vx : Value} (hb : Below W.heap.size W w) (o : Obj) (gr2 : (w.alloc o).grownBy w2 vx.ownBlock) (hlt : ∀ g, vx.ownBlock = some g → W.heap.size ≤ g) : Below W.heap.size W w2 :=
  (hb.alloc hb.size o).grown gr2 (hb.alloc hb.size o).size hlt

section
variable {P : Program} (w : World)
theorem step_make {ops : Array Oper} {o : Oper} {a : Act} {K : Act → World → Prop} {Q : Exit → Act → World → Prop} {E : Prop} (hgd : o.guard = none) (l c : Operand) (t : TypeId) (ho : o.op = Op.makeSlice t l c)
    (base : Nat) (e : TypeId) (i : TypeInfo) (z : Value) (size : Nat) (h1 : P.underlying t = some (.slice e)) (h2 : P.info? e = some i) (h3 : i.zero = some z) (h4 : i.size = size)
    (n : Nat) (hl : a.eval l = .int .i64 (n : Int)) (hc : a.eval c = .int .i64 (n : Int)) (b2 : i.bytes * n ≤ 281474976710656) (b3 : n ≤ maxLen) (b4 : base ≤ w.heap.size)
    (h : ∀ w', w'.ownsRow base e size (.slice (some ⟨w.heap.size, 0, none⟩) n n) n (madeCells z.cells (n * size)).toList → w.grownBy w' none → K (a.put o.dst (.slice (some ⟨w.heap.size, 0, none⟩) n n)) w') :
    if Region.wanted o (yielded ops a.tmps) = true then Oper.wp P o a w K Q else E := by
  have hw : Region.wanted o (yielded ops a.tmps) = true := by simp [Region.wanted, hgd]
  rw [if_pos hw]
  obtain ⟨w', hrun, r1, r2⟩ := run_make_full (P := P) w base t e i z size h1 h2 h3 h4 .i64 .i64 n b2 b3 b4
  unfold Oper.wp
  simp [execOp, ho, hl, hc, hrun, Result.andThen]
  exact h w' r1 r2
end
end Go.Proofs.YtnbnmomichegaaaDoor
