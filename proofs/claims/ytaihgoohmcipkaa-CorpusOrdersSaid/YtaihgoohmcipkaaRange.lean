/-
  Whatever the program: a range over a function whose iterator keeps state in blocks of its own. Conditions: those of the hypotheses.
-/
import Derived.RangeFuncNested
import Derived.RangeFuncLeaves
import Derived.Shelf.Abstract
import Derived.WalkKit
namespace Go.Proofs.Ytaihgoohmcipkaa
open Go.RowKit

/-- Every block of W that p names is in W' as it was. -/
def From (p : Nat → Prop) (W W' : World) : Prop := W.heap.size ≤ W'.heap.size ∧ ∀ k, p k → k < W.heap.size → W'.heap[k]? = W.heap[k]?
/-- From block B on, and the blocks of 'keep'. -/
def beyond (keep : Nat → Prop) (B : Nat) (k : Nat) : Prop := B ≤ k ∨ keep k
theorem From.refl (p : Nat → Prop) (W : World) : From p W W := ⟨Nat.le_refl _, fun _ _ _ => rfl⟩
theorem From.trans {p : Nat → Prop} {a b c : World} (h : From p a b) (k : From p b c) : From p a c :=
  ⟨Nat.le_trans h.1 k.1, fun i hb hi => (k.2 i hb (Nat.lt_of_lt_of_le hi h.1)).trans (h.2 i hb hi)⟩
theorem From.mono {p p' : Nat → Prop} {a b : World} (h : From p a b) (hp : ∀ k, p' k → p k) : From p' a b := ⟨h.1, fun i hb hi => h.2 i (hp i hb) hi⟩
theorem From.alloc (p : Nat → Prop) (W : World) (o : Obj) : From p W (W.alloc o) := ⟨by simp, fun k _ hk => Below.heap_alloc W o k hk⟩
theorem From.putObj {p : Nat → Prop} {l : Nat} (W : World) (o : Obj) (h : ¬ p l) : From p W (W.putObj l o) := ⟨by simp, fun k hb _ => World.putObj_heap_other (by rintro rfl; exact h hb)⟩
theorem From.setCell {p : Nat → Prop} (W : World) (q : Addr) (v : Value) (h : ¬ p q.block) : From p W (W.setCell q v) :=
  ⟨by simp [World.setCell], fun k hb _ => Below.heap_setCell _ _ _ _ (by rintro rfl; exact h hb)⟩
theorem From.of_below {p : Nat → Prop} {W W' : World} (h : Below W.heap.size W W') : From p W W' := ⟨h.size, fun k _ hk => h.block k hk⟩
theorem below_putObj {B l : Nat} (W : World) (o : Obj) (h : B ≤ l) : Below B W (W.putObj l o) :=
  ⟨rfl, rfl, rfl, by simp, fun k hk => World.putObj_heap_other (by omega)⟩

/-- How the body of a round may be left. -/
def outPost {α : Type} (B : Nat → Prop) (I : List α → World → Prop) (Ix : Code → List α → World → Prop) (xs : List α) (W : World) : Exit → Act → World → Prop
  | .normal, _, W' => From B W W' ∧ I xs W'
  | .ret, _, W' => From B W W' ∧ Ix .ret xs W'
  | .exit id, _, W' => From B W W' ∧ Ix (.exit id) xs W'
  | .goto t, _, W' => From B W W' ∧ Ix (.goto t) xs W'
  | .panic _, _, _ => False
  | .outgrown, _, _ => False

/-- What is asked of an iterator that may keep state in blocks of its own. -/
def Gives {α : Type} (keep : Nat → Prop) (m : Nat) (P : Program) (g : Nat) (lb : Array Value) (encs : α → Array Value) (Nx : List α → α → Prop) (S Sp : List α → Prop) (w : World) : Prop :=
  ∀ (l : Nat) (J Jx : List α → World → Prop) (W : World), Below w.heap.size w W → l < W.heap.size →
    (∀ s W1 W2, J s W1 → Below W.heap.size W1 W2 → J s W2) → (∀ s W1 W2, Jx s W1 → Below W.heap.size W1 W2 → Jx s W2) →
    (∀ pre x W1, J pre W1 → Nx pre x → W.heap.size ≤ W1.heap.size → YieldAt Fence.wide (m - 1) P l (encs x) W1 fun e W' =>
      (e = .returned (.bool true) ∧ J (pre ++ [x]) W' ∧ From (beyond keep W.heap.size) W1 W') ∨ (e = .returned (.bool false) ∧ Jx (pre ++ [x]) W')) →
    J [] W →
    CallsIn Fence.wide m P g (#[.func (.yield l) #[] #[]] ++ lb) W fun e W' => (∃ v, e = .returned v) ∧ ((∃ xs, S xs ∧ J xs W') ∨ (∃ pre, Sp pre ∧ Jx pre W'))

theorem range_law {α : Type} {n : Nat} {P : Program} {g : Operand} {ps : Array Tmp} {assign body : Code} {Q : Exit → Act → World → Prop} {a : Act} {w : World}
    (h1 : 1 ≤ n) {gf : Nat} {lb : Array Value} (hg : a.eval g = .func (.func gf) #[] lb) (eg : ∀ args w, (callFunc gf args).run P w = .ok (.enter gf args) w)
    {encs : α → Array Value} {Nx : List α → α → Prop} {S Sp : List α → Prop} {keep : Nat → Prop} (hkeep : ∀ k, keep k → k < w.heap.size) (hseq : Gives keep (n - 1) P gf lb encs Nx S Sp w) (hps : ∀ x, (encs x).size = ps.size)
    (I : List α → World → Prop) (Ix : Code → List α → World → Prop)
    (hI : ∀ s W1 W2, I s W1 → Below w.heap.size W1 W2 → I s W2) (hIx : ∀ c s W1 W2, Ix c s W1 → Below w.heap.size W1 W2 → Ix c s W2) (h0 : I [] w)
    (Ax : α → Act → World → Prop) (hAx : ∀ x a' W l o o', Ax x a' W → W.heap[l]? = some (.loop o) → Ax x a' (W.putObj l o'))
    (hassign : ∀ (l : Nat) (pre : List α) (x : α) (W : World) (K : Act → World → Prop), I pre W → w.heap.size ≤ W.heap.size → (∀ a' W', From (beyond keep w.heap.size) W W' → I pre W' → Ax x a' W' → K a' W') →
      assign.wpIn (Fence.wide.inRound l) (n - 1 - 1) P (Exit.then K (fun _ _ _ => False)) { tmps := (ps.zip (encs x)).foldl (fun t (p, v) => t.setIfInBounds p v) a.tmps, defers := [] } W)
    (hbody : ∀ (l : Nat) (pre : List α) (x : α) (a' : Act) (W : World), I pre W → Ax x a' W → Nx pre x → w.heap.size ≤ W.heap.size → body.wpIn (Fence.wide.inRound l) (n - 1 - 1) P (outPost (beyond keep w.heap.size) I Ix (pre ++ [x]) W) a' W)
    (hdone : ∀ (D : Nat) (xs : List α) (W : World), w.heap.size ≤ D → S xs → I xs W → W.heap[D]? = some (.deferred (some [])) → Q .normal { a with defers := { target := .collected D, args := #[] } :: a.defers } W)
    (hstop : ∀ (D : Nat) (c : Code) (pre : List α) (W : World), w.heap.size ≤ D → Sp pre → Ix c pre W → W.heap[D]? = some (.deferred (some [])) → c.wpIn Fence.wide n P Q { a with defers := { target := .collected D, args := #[] } :: a.defers } W) :
    (Code.rangeFunc g ps assign body).wpIn Fence.wide n P Q a w := by
  refine wpIn_rangeFunc (F := Fence.wide) ?_
  intro fn hfn
  -- the record of the loop, in its three states
  have hnk : ∀ B, w.heap.size + 1 < B → ¬ beyond keep B (w.heap.size + 1) := by
    rintro B hB (h | h)
    · omega
    · have := hkeep _ h; omega
  have hbb : ∀ B, w.heap.size ≤ B → ∀ k, beyond keep B k → beyond keep w.heap.size k := by
    rintro B hB k (h | h)
    · exact .inl (by omega)
    · exact .inr h
  let rec0 : LoopState → Option Code → Loop := fun st pe => { state := st, pending := pe, fn, tmps := a.tmps, params := ps, assign, body, defers := w.heap.size }
  obtain ⟨rc, hrc⟩ : ∃ rc, rec0 = rc := ⟨_, rfl⟩
  obtain ⟨W1, hW1⟩ : ∃ W1, (w.alloc (.deferred (some []))).alloc (.loop (rc .ready none)) = W1 := ⟨_, rfl⟩
  have hz1 : W1.heap.size = w.heap.size + 2 := by rw [← hW1]; simp
  have hL1 : W1.heap[w.heap.size + 1]? = some (.loop (rc .ready none)) := by
    have := World.alloc_heap_new (w.alloc (.deferred (some []))) (.loop (rc .ready none))
    rw [World.size_alloc] at this; rw [← hW1]; exact this
  have hK1 : W1.heap[w.heap.size]? = some (.deferred (some [])) := by
    rw [← hW1]; exact (Below.heap_alloc _ _ _ (by simp)).trans (World.alloc_heap_new w _)
  have hbw : Below w.heap.size w W1 := by
    rw [← hW1]; exact ((Below.refl _ w).alloc (Nat.le_refl _) _).alloc (by simp) _
  refine ⟨w.heap.size + 1, [{ target := .collected w.heap.size, args := #[] }], W1, { target := .fn (.func gf) lb, args := #[.func (.yield (w.heap.size + 1)) #[] #[]] }, W1, gf,
    #[.func (.yield (w.heap.size + 1)) #[] #[]] ++ lb, W1, ?_, ?_, fun _ _ => trivial, ?_, fun _ => h1, ?_⟩
  · rw [← hW1, ← hrc]; exact run_enterLoop_outer _ _ _ _ _
  · simp only [resolve, hg]; simp [go_sem]
  · simp [invoke, go_sem, eg]
  · refine (hseq (w.heap.size + 1)
      (fun pre W => I pre W ∧ W.heap[w.heap.size + 1]? = some (.loop (rc .ready none)) ∧ W.heap[w.heap.size]? = some (.deferred (some [])))
      (fun pre W => ∃ c, Ix c pre W ∧ W.heap[w.heap.size + 1]? = some (.loop (rc .done (some c))) ∧ W.heap[w.heap.size]? = some (.deferred (some [])))
      W1 hbw (by omega)
      (fun s A C hs hb => ⟨hI s A C hs.1 (hb.mono (by omega)), (hb.block _ (by omega)).trans hs.2.1, (hb.block _ (by omega)).trans hs.2.2⟩)
      (fun s A C hs hb => by
        obtain ⟨c, hc, hl, hk⟩ := hs
        exact ⟨c, hIx c s A C hc (hb.mono (by omega)), (hb.block _ (by omega)).trans hl, (hb.block _ (by omega)).trans hk⟩)
      ?_ ⟨hI _ _ _ h0 hbw, hL1, hK1⟩).mono ?_
    · rintro pre x W ⟨hi, hl, hk⟩ hlen hzW
      have hy := run_yield (P := P) (args := encs x) hl (by rw [← hrc]; simp [rec0, hps])
      rw [← hrc] at hy
      refine ⟨fn, _, assign, body, hy, roundIn_of_wpIn hfn (hassign _ pre x W _ hi (by omega) ?_)⟩
      intro a' Wa hfa hia hax
      have hla := (hfa.2 (w.heap.size + 1) (.inl (by omega)) (by omega)).trans hl
      have hka := (hfa.2 w.heap.size (.inl (by omega)) (by omega)).trans hk
      have hza := hfa.1
      refine ⟨_, run_beginRound hla (by rw [← hrc]), ?_⟩
      obtain ⟨Wb, hWb⟩ : ∃ Wb, Wa.putObj (w.heap.size + 1) (.loop { rc .ready none with state := .busy }) = Wb := ⟨_, rfl⟩
      have hzb : Wb.heap.size = Wa.heap.size := by rw [← hWb]; simp
      have hlb : Wb.heap[w.heap.size + 1]? = some (.loop { rc .ready none with state := .busy }) := by rw [← hWb]; exact World.putObj_heap_same (by omega)
      have hkb : Wb.heap[w.heap.size]? = some (.deferred (some [])) := by rw [← hWb]; exact (World.putObj_heap_other (by omega)).trans hka
      have hib : I pre Wb := by rw [← hWb]; exact hI _ _ _ hia (below_putObj _ _ (by omega))
      have haxb : Ax x a' Wb := by rw [← hWb]; exact hAx _ _ _ _ _ _ hax hla
      have hfb : From (beyond keep W1.heap.size) W Wb := by rw [← hWb]; exact (hfa.mono (hbb _ (by omega))).trans (From.putObj _ _ (hnk _ (by omega)))
      rw [hWb]
      refine wpIn_mono (hbody _ pre x a' Wb hib haxb hlen (by omega)) ?_
      have fin : ∀ (jump : Option Code) (W3 : World), From (beyond keep w.heap.size) Wb W3 →
          (Instr.endRound (w.heap.size + 1) jump).run P W3 = .ok (.bool jump.isNone) (W3.putObj (w.heap.size + 1) (.loop (rc (if jump.isNone then .ready else .done) jump))) ∧
          (W3.putObj (w.heap.size + 1) (.loop (rc (if jump.isNone then .ready else .done) jump))).heap[w.heap.size + 1]? = some (.loop (rc (if jump.isNone then .ready else .done) jump)) ∧
          (W3.putObj (w.heap.size + 1) (.loop (rc (if jump.isNone then .ready else .done) jump))).heap[w.heap.size]? = some (.deferred (some [])) := fun jump W3 h3 => by
        have hl3 := (h3.2 (w.heap.size + 1) (.inl (by omega)) (by omega)).trans hlb
        have hk3 := (h3.2 w.heap.size (.inl (by omega)) (by omega)).trans hkb
        have hz3 := h3.1
        have := run_endRound (P := P) jump hl3
        rw [← hrc] at this ⊢
        exact ⟨this, World.putObj_heap_same (by omega), (World.putObj_heap_other (by omega)).trans hk3⟩
      rintro e a3 W3 hp
      cases e with
      | normal =>
        obtain ⟨h3, hi3⟩ := hp
        obtain ⟨hr, hl4, hk4⟩ := fin none W3 h3
        exact ⟨_, _, hr, .inl ⟨rfl, ⟨hI _ _ _ hi3 (below_putObj _ _ (by omega)), hl4, hk4⟩, (hfb.trans (h3.mono (hbb _ (by omega)))).trans (From.putObj _ _ (hnk _ (by omega)))⟩⟩
      | ret =>
        obtain ⟨h3, hi3⟩ := hp
        obtain ⟨hr, hl4, hk4⟩ := fin (some .ret) W3 h3
        exact ⟨_, _, hr, .inr ⟨rfl, .ret, hIx _ _ _ _ hi3 (below_putObj _ _ (by omega)), hl4, hk4⟩⟩
      | exit id =>
        obtain ⟨h3, hi3⟩ := hp
        obtain ⟨hr, hl4, hk4⟩ := fin (some (.exit id)) W3 h3
        exact ⟨_, _, hr, .inr ⟨rfl, .exit id, hIx _ _ _ _ hi3 (below_putObj _ _ (by omega)), hl4, hk4⟩⟩
      | goto t =>
        obtain ⟨h3, hi3⟩ := hp
        obtain ⟨hr, hl4, hk4⟩ := fin (some (.goto t)) W3 h3
        exact ⟨_, _, hr, .inr ⟨rfl, .goto t, hIx _ _ _ _ hi3 (below_putObj _ _ (by omega)), hl4, hk4⟩⟩
      | panic ch => exact hp.elim
      | outgrown => exact hp.elim
    · rintro e W2 ⟨⟨v, rfl⟩, (⟨xs, hS, hi, hl, hk⟩ | ⟨pre, hSp, c, hi, hl, hk⟩)⟩
      · have := run_endLoop (P := P) hl (by rw [← hrc]; simp [rec0])
        rw [← hrc] at this
        exact ⟨none, _, this, hdone _ xs _ (Nat.le_refl _) hS (hI _ _ _ hi (below_putObj _ _ (by omega))) ((World.putObj_heap_other (by omega)).trans hk)⟩
      · have := run_endLoop (P := P) hl (by rw [← hrc]; simp [rec0])
        rw [← hrc] at this
        exact ⟨some c, _, this, hstop _ c pre _ (Nat.le_refl _) hSp (hIx _ _ _ _ hi (below_putObj _ _ (by omega))) ((World.putObj_heap_other (by omega)).trans hk)⟩
end Go.Proofs.Ytaihgoohmcipkaa
