/-
  The contract of codepoint.At: where it finds a unit, the unit's place is that of a unit of the text. Condition: the text's length is an int.
-/
import Derived.Test.YteccopnlpllliaaMarkParse
import Derived.BigRegionIn
namespace Go.Proofs.Yteccopnlpllliaa
open Go.RowKit Go.Shelf Utf
attribute [local go_sem] Oper.semAt_some

/-- What At hands back. -/
def Found (l : List UInt8) (w : World) (e : Ending) (w' : World) : Prop :=
  ∃ (r : Int) (a : Nat) (z : Int) (b : Bool), e = .returned (.tuple #[.int .i32 r, .int .i64 (a : Nat), .int .i64 z, .bool b]) ∧ (b = true → ∃ pre r z post, un 0 l = pre ++ (r, a, z) :: post) ∧ Below w.heap.size w w'

/-- The four results and the number. -/
def AtB (w W : World) (v : Int) (r a z : Int) (b : Bool) : Prop :=
  Below w.heap.size w W ∧ Blk W w.heap.size 3 #[.int .i64 v] ∧ Blk W (w.heap.size + 1) 21 #[.int .i32 r] ∧ Blk W (w.heap.size + 2) 3 #[.int .i64 a] ∧ Blk W (w.heap.size + 3) 3 #[.int .i64 z] ∧ Blk W (w.heap.size + 4) 4 #[.bool b]
theorem AtB.over {w A C : World} {v r a z : Int} {b : Bool} (h : AtB w A v r a z b) (hb : Below (w.heap.size + 5) A C) : AtB w C v r a z b :=
  ⟨h.1.trans (hb.mono (by omega)), (hb.block _ (by omega)).trans h.2.1, (hb.block _ (by omega)).trans h.2.2.1, (hb.block _ (by omega)).trans h.2.2.2.1, (hb.block _ (by omega)).trans h.2.2.2.2.1, (hb.block _ (by omega)).trans h.2.2.2.2.2⟩

theorem AtB.sets {w W : World} {v r a z : Int} {b : Bool} (h : AtB w W v r a z b) (r' a' z' : Int) (b' : Bool) : AtB w ((((W.setCell ⟨w.heap.size + 1, 0, none⟩ (.int .i32 r')).setCell ⟨w.heap.size + 2, 0, none⟩ (.int .i64 a')).setCell ⟨w.heap.size + 3, 0, none⟩ (.int .i64 z')).setCell ⟨w.heap.size + 4, 0, none⟩ (.bool b')) v r' a' z' b' := by
  obtain ⟨hB, h0, h1, h2, h3, h4⟩ := h
  refine ⟨(((hB.setCell (p := ⟨w.heap.size + 1, 0, none⟩) (Nat.le_add_right _ _) _).setCell (p := ⟨w.heap.size + 2, 0, none⟩) (Nat.le_add_right _ _) _).setCell (p := ⟨w.heap.size + 3, 0, none⟩) (Nat.le_add_right _ _) _).setCell (p := ⟨w.heap.size + 4, 0, none⟩) (Nat.le_add_right _ _) _, ?_, ?_, ?_, ?_, ?_⟩
  · exact (((h0.other (by show w.heap.size + 1 ≠ w.heap.size; omega) _).other (by show w.heap.size + 2 ≠ w.heap.size; omega) _).other (by show w.heap.size + 3 ≠ w.heap.size; omega) _).other (by show w.heap.size + 4 ≠ w.heap.size; omega) _
  · exact (((h1.set_ 0 _).other (by show w.heap.size + 2 ≠ w.heap.size + 1; omega) _).other (by show w.heap.size + 3 ≠ w.heap.size + 1; omega) _).other (by show w.heap.size + 4 ≠ w.heap.size + 1; omega) _
  · exact (((h2.other (by show w.heap.size + 1 ≠ w.heap.size + 2; omega) _).set_ 0 _).other (by show w.heap.size + 3 ≠ w.heap.size + 2; omega) _).other (by show w.heap.size + 4 ≠ w.heap.size + 2; omega) _
  · exact (((h3.other (by show w.heap.size + 1 ≠ w.heap.size + 3; omega) _).other (by show w.heap.size + 2 ≠ w.heap.size + 3; omega) _).set_ 0 _).other (by show w.heap.size + 4 ≠ w.heap.size + 3; omega) _
  · exact (((h4.other (by show w.heap.size + 1 ≠ w.heap.size + 4; omega) _).other (by show w.heap.size + 2 ≠ w.heap.size + 4; omega) _).other (by show w.heap.size + 3 ≠ w.heap.size + 4; omega) _).set_ 0 _
theorem from_sets {p : Nat → Prop} (b : Nat) (W : World) (r' a' z' : Int) (b' : Bool) (h1 : ¬ p (b + 1)) (h2 : ¬ p (b + 2)) (h3 : ¬ p (b + 3)) (h4 : ¬ p (b + 4)) : From p W ((((W.setCell ⟨b + 1, 0, none⟩ (.int .i32 r')).setCell ⟨b + 2, 0, none⟩ (.int .i64 a')).setCell ⟨b + 3, 0, none⟩ (.int .i64 z')).setCell ⟨b + 4, 0, none⟩ (.bool b')) :=
  (((From.setCell _ _ _ h1).trans (From.setCell _ _ _ h2)).trans (From.setCell _ _ _ h3)).trans (From.setCell _ _ _ h4)
theorem AtB.step {w W : World} {v r a z : Int} {b : Bool} (h : AtB w W v r a z b) (v' : Int) : AtB w (W.setCell ⟨w.heap.size, 0, none⟩ (.int .i64 v')) v' r a z b :=
  ⟨h.1.setCell (p := ⟨w.heap.size, 0, none⟩) (Nat.le_refl _) _, h.2.1.set_ 0 _, h.2.2.1.other (by show w.heap.size ≠ w.heap.size + 1; omega) _, h.2.2.2.1.other (by show w.heap.size ≠ w.heap.size + 2; omega) _, h.2.2.2.2.1.other (by show w.heap.size ≠ w.heap.size + 3; omega) _, h.2.2.2.2.2.other (by show w.heap.size ≠ w.heap.size + 4; omega) _⟩
theorem at_start (w : World) (l : List UInt8) (i : Int) : AtB w ((((((w.alloc (.cells #[.int .i64 i] 3)).alloc (.cells #[.int .i32 0] 21)).alloc (.cells #[.int .i64 0] 3)).alloc (.cells #[.int .i64 0] 3)).alloc (.cells #[.bool false] 4)).alloc (.cells #[str l] 9)) i 0 0 0 false ∧ Blk ((((((w.alloc (.cells #[.int .i64 i] 3)).alloc (.cells #[.int .i32 0] 21)).alloc (.cells #[.int .i64 0] 3)).alloc (.cells #[.int .i64 0] 3)).alloc (.cells #[.bool false] 4)).alloc (.cells #[str l] 9)) (w.heap.size + 5) 9 #[str l] ∧ ((((((w.alloc (.cells #[.int .i64 i] 3)).alloc (.cells #[.int .i32 0] 21)).alloc (.cells #[.int .i64 0] 3)).alloc (.cells #[.int .i64 0] 3)).alloc (.cells #[.bool false] 4)).alloc (.cells #[str l] 9)).heap.size = w.heap.size + 6 := by
  have e1 : (w.alloc (.cells #[.int .i64 i] 3)).heap.size = w.heap.size + 1 := by simp
  have e2 : ((w.alloc (.cells #[.int .i64 i] 3)).alloc (.cells #[.int .i32 0] 21)).heap.size = w.heap.size + 2 := by simp
  have e3 : (((w.alloc (.cells #[.int .i64 i] 3)).alloc (.cells #[.int .i32 0] 21)).alloc (.cells #[.int .i64 0] 3)).heap.size = w.heap.size + 3 := by simp
  have e4 : ((((w.alloc (.cells #[.int .i64 i] 3)).alloc (.cells #[.int .i32 0] 21)).alloc (.cells #[.int .i64 0] 3)).alloc (.cells #[.int .i64 0] 3)).heap.size = w.heap.size + 4 := by simp
  have e5 : (((((w.alloc (.cells #[.int .i64 i] 3)).alloc (.cells #[.int .i32 0] 21)).alloc (.cells #[.int .i64 0] 3)).alloc (.cells #[.int .i64 0] 3)).alloc (.cells #[.bool false] 4)).heap.size = w.heap.size + 5 := by simp
  have n0 := Blk.new w 3 #[.int .i64 i]
  have n1 := Blk.new (w.alloc (.cells #[.int .i64 i] 3)) 21 #[.int .i32 0]
  have n2 := Blk.new ((w.alloc (.cells #[.int .i64 i] 3)).alloc (.cells #[.int .i32 0] 21)) 3 #[.int .i64 0]
  have n3 := Blk.new (((w.alloc (.cells #[.int .i64 i] 3)).alloc (.cells #[.int .i32 0] 21)).alloc (.cells #[.int .i64 0] 3)) 3 #[.int .i64 0]
  have n4 := Blk.new ((((w.alloc (.cells #[.int .i64 i] 3)).alloc (.cells #[.int .i32 0] 21)).alloc (.cells #[.int .i64 0] 3)).alloc (.cells #[.int .i64 0] 3)) 4 #[.bool false]
  have n5 := Blk.new (((((w.alloc (.cells #[.int .i64 i] 3)).alloc (.cells #[.int .i32 0] 21)).alloc (.cells #[.int .i64 0] 3)).alloc (.cells #[.int .i64 0] 3)).alloc (.cells #[.bool false] 4)) 9 #[str l]
  rw [e1] at n1
  rw [e2] at n2
  rw [e3] at n3
  rw [e4] at n4
  rw [e5] at n5
  refine ⟨⟨((((((Below.refl _ w).alloc (Nat.le_refl _) _).alloc (by omega) _).alloc (by omega) _).alloc (by omega) _).alloc (by omega) _).alloc (by omega) _, ((((n0.alloc _).alloc _).alloc _).alloc _).alloc _, (((n1.alloc _).alloc _).alloc _).alloc _, ((n2.alloc _).alloc _).alloc _, (n3.alloc _).alloc _, n4.alloc _⟩, n5, by simp⟩

theorem AtB.drew {w W : World} {v r a z : Int} {b : Bool} (h : AtB w W v r a z b) : AtB w W.drew v r a z b := ⟨h.1.drew, h.2.1, h.2.2.1, h.2.2.2.1, h.2.2.2.2.1, h.2.2.2.2.2⟩
theorem from_drew {p : Nat → Prop} {a b : World} (h : From p a b) : From p a b.drew := ⟨h.1, h.2⟩
/-- One statement for all the ends of a region: it is found at the first of them. -/
theorem ends_once {p q : Prop} (h : p → q) (k : p) : q := h k

set_option maxRecDepth 100000 in
set_option maxHeartbeats 20000000 in
theorem at_in (l : List UInt8) (hl : l.length ≤ 9223372036854775807) (i : Int) (w : World) :
    CallsIn Fence.wide 5 Try.prog 31 #[str l, .int .i64 i] w (Found l w) := by
  refine callsIn_of_wp_marks Try.func31 rfl trivial ?_ rfl
  simp only [Try.ntmps31, List.size_toArray, List.length_cons, List.length_nil, Nat.reduceAdd, Nat.reduceSub, Array.replicate_succ, Array.replicate_zero, List.push_toArray, List.append_toArray, List.nil_append, List.cons_append]
  gi_wp2_with (refine ⟨trivial, ?_⟩; gi_at_call 48; refine (callsIn_wide.2 (units_any l _)).mono ?_; rintro e w' ⟨rfl, rfl⟩)
  obtain ⟨hA0, hb2, hz0⟩ := at_start w l i
  obtain ⟨W0, hW0⟩ : ∃ W0, ((((((w.alloc (.cells #[.int .i64 i] 3)).alloc (.cells #[.int .i32 0] 21)).alloc (.cells #[.int .i64 0] 3)).alloc (.cells #[.int .i64 0] 3)).alloc (.cells #[.bool false] 4)).alloc (.cells #[str l] 9)) = W0 := ⟨_, rfl⟩
  simp only [hW0] at hA0 hb2 hz0 ⊢
  refine range_law (n := 5) (encs := encU) (ps := #[11]) (by omega) (gf := 57) (lb := #[.pointer (some ⟨w.heap.size + 5, 0, none⟩)]) rfl (enters_of Try.func57 (by kernel_rfl) rfl)
    (keep := (· = w.heap.size + 5)) (by rintro k rfl; omega) (units1_gives 4 (by omega) l hl (w.heap.size + 5) W0 (by omega) (hb2.cell 0)) (fun _ => rfl)
    (fun pre W => ∃ v, AtB w W v 0 0 0 false)
    (fun c pre W => c = .ret ∧ ∃ pre' r z v a zi, pre = pre' ++ [(r, a, z)] ∧ AtB w W v (r : Nat) (a : Nat) zi true)
    (fun s A C hs hb => by obtain ⟨v, hs⟩ := hs; exact ⟨v, hs.over (hb.mono (by omega))⟩)
    (fun c s A C hs hb => by obtain ⟨hc, pre', r, z, v, a, zi, hp, hs⟩ := hs; exact ⟨hc, pre', r, z, v, a, zi, hp, hs.over (hb.mono (by omega))⟩)
    ⟨i, hA0⟩
    (fun x a' W => ∃ g, w.heap.size + 6 ≤ g ∧ Blk W g 75 (uv x.1 x.2.1 x.2.2) ∧ a' = { tmps := #[str l, .int .i64 i, undef, .pointer (some ⟨w.heap.size, 0, none⟩), .pointer (some ⟨w.heap.size + 1, 0, none⟩), .pointer (some ⟨w.heap.size + 2, 0, none⟩), .pointer (some ⟨w.heap.size + 3, 0, none⟩), .pointer (some ⟨w.heap.size + 4, 0, none⟩), .pointer (some ⟨g, 0, none⟩), str l, .func (.func 57) #[] #[.pointer (some ⟨w.heap.size + 5, 0, none⟩)], .agg (uv x.1 x.2.1 x.2.2), undef, undef, undef, undef, undef, undef, undef, undef, undef, undef], defers := [] })
    ?hAx ?assign ?body ?done ?stop
  case hAx =>
    rintro x a' W lp o o' ⟨g, hge, hg, rfl⟩ hlp
    refine ⟨g, hge, (World.putObj_heap_other ?_).trans hg, rfl⟩
    rintro rfl
    unfold Blk at hg
    rw [hlp] at hg; cases hg
  case assign =>
    rintro lp pre x W K ⟨v, h⟩ hz hK
    gi_wp2
    exact hK _ _ (From.alloc _ _ _) ⟨v, h.over ((Below.refl _ _).alloc (by omega) _)⟩ ⟨W.heap.size, by omega, Blk.new _ _ _, rfl⟩
  case body =>
    rintro lp pre ⟨r, a, z⟩ a' W ⟨v, h⟩ ⟨g, hge, hg, rfl⟩ hnx hz
    have n1 : g ≠ w.heap.size + 1 := by omega
    have n2 : g ≠ w.heap.size + 2 := by omega
    have n3 : g ≠ w.heap.size + 3 := by omega
    have n4 : g ≠ w.heap.size + 4 := by omega
    have m1 : w.heap.size + 1 ≠ g := by omega
    have m2 : w.heap.size + 2 ≠ g := by omega
    have m3 : w.heap.size + 3 ≠ g := by omega
    have m4 : w.heap.size + 4 ≠ g := by omega
    have c0 := hg.cell 0
    have c1 := hg.cell 1
    have c2 := hg.cell 2
    have i0 := h.2.1.cell 0
    have i1 := h.2.1.free 0
    have r0 := h.2.2.1.cell 0
    have r1 := h.2.2.1.free 0
    have s0 := h.2.2.2.1.cell 0
    have s1 := h.2.2.2.1.free 0
    have t0 := h.2.2.2.2.1.cell 0
    have t1 := h.2.2.2.2.1.free 0
    have u0 := h.2.2.2.2.2.cell 0
    have u1 := h.2.2.2.2.2.free 0
    simp only [List.getElem?_toArray, List.getElem?_cons_zero, List.getElem?_cons_succ] at c0 c1 c2 i0 r0 s0 t0 u0
    have hz2 := h.1.size
    by_cases hv : v = 0
    · subst hv
      have HFR := Lib.hid (from_sets (p := beyond (· = w.heap.size + 5) (w.heap.size + 6)) w.heap.size W (r : Nat) (a : Nat) (z : Nat) true (by rintro (h | h) <;> omega) (by rintro (h | h) <;> omega) (by rintro (h | h) <;> omega) (by rintro (h | h) <;> omega))
      have HAT := Lib.hid (h.sets (r : Nat) (a : Nat) (z : Nat) true)
      clear h hg hnx hz hz2 hge
      gi_wp2
      clear i0 i1
      refine ends_once (p := ?Zend) ?zmain ?zpf
      case zmain =>
        intro HX
        have HH := Lib.hid HX
        clear HX
        gi_region
        all_goals exact HH.out
      case zpf =>
        gi_wp2
        refine ⟨?_, rfl, pre, r, z, _, a, _, rfl, AtB.drew HAT.out⟩
        rw [hz0]
        exact from_drew HFR.out
    · have hv2 : (v == 0) = false := by rw [beq_eq_false_iff_ne]; exact hv
      gi_wp2
      refine ⟨From.setCell _ _ _ ?_, _, h.step _⟩
      rintro (h | h)
      · have h' : w.heap.size + 6 ≤ w.heap.size := h
        omega
      · have h' : w.heap.size = w.heap.size + 5 := h
        omega
  case done =>
    rintro D xs W hD rfl ⟨v, h⟩ hK
    have r0 := h.2.2.1.cell 0
    have r1 := h.2.2.1.free 0
    have s0 := h.2.2.2.1.cell 0
    have s1 := h.2.2.2.1.free 0
    have t0 := h.2.2.2.2.1.cell 0
    have t1 := h.2.2.2.2.1.free 0
    have u0 := h.2.2.2.2.2.cell 0
    have u1 := h.2.2.2.2.2.free 0
    simp only [List.getElem?_toArray, List.getElem?_cons_zero] at r0 s0 t0 u0
    gi_wp2
    have hs := h.sets 0 0 0 false
    have hk4 : ((((W.setCell ⟨w.heap.size + 1, 0, none⟩ (.int .i32 0)).setCell ⟨w.heap.size + 2, 0, none⟩ (.int .i64 0)).setCell ⟨w.heap.size + 3, 0, none⟩ (.int .i64 0)).setCell ⟨w.heap.size + 4, 0, none⟩ (.bool false)).heap[D]? = some (.deferred (some [])) :=
      (((Below.heap_setCell _ _ _ _ (by show D ≠ w.heap.size + 4; omega)).trans (Below.heap_setCell _ _ _ _ (by show D ≠ w.heap.size + 3; omega))).trans ((Below.heap_setCell _ _ _ _ (by show D ≠ w.heap.size + 2; omega)).trans (Below.heap_setCell _ _ _ _ (by show D ≠ w.heap.size + 1; omega)))).trans hK
    have hp := hs.over (below_putObj (B := w.heap.size + 5) _ (.deferred none) (l := D) (by omega))
    have c1 := hp.2.2.1.cell 0
    have c2 := hp.2.2.2.1.cell 0
    have c3 := hp.2.2.2.2.1.cell 0
    have c4 := hp.2.2.2.2.2.cell 0
    simp only [List.getElem?_toArray, List.getElem?_cons_zero] at c1 c2 c3 c4
    refine ⟨by simp, .inl ⟨_, _, rfl, run_takeDeferred hk4, .tuple #[.int .i32 0, .int .i64 0, .int .i64 0, .bool false], ?_, 0, 0, 0, false, rfl, by simp, hp.1⟩⟩
    simp [results, Try.f31, go_sem, c1, c2, c3, c4]
  case stop =>
    rintro D c pre W hD hpre ⟨rfl, pre', r, z, v, a, zi, rfl, h⟩ hK
    gi_wp2
    have hp := h.over (below_putObj (B := w.heap.size + 5) _ (.deferred none) (l := D) (by omega))
    have c1 := hp.2.2.1.cell 0
    have c2 := hp.2.2.2.1.cell 0
    have c3 := hp.2.2.2.2.1.cell 0
    have c4 := hp.2.2.2.2.2.cell 0
    simp only [List.getElem?_toArray, List.getElem?_cons_zero] at c1 c2 c3 c4
    obtain ⟨post, hpost⟩ := hpre
    refine ⟨by simp, .inl ⟨_, _, rfl, run_takeDeferred hK, .tuple #[.int .i32 (r : Nat), .int .i64 (a : Nat), .int .i64 zi, .bool true], ?_, r, a, zi, true, rfl, fun _ => ⟨pre', r, z, post, ?_⟩, hp.1⟩⟩
    · simp [results, Try.f31, go_sem, c1, c2, c3, c4]
    · rw [← hpost]; simp

theorem at_any (l : List UInt8) (hl : l.length ≤ 9223372036854775807) (i : Int) (w : World) : Calls Try.prog 31 #[str l, .int .i64 i] w (Found l w) := callsIn_wide.1 (at_in l hl i w)
end Go.Proofs.Yteccopnlpllliaa
