/-
  The contracts of codepoint.Position and the reference's: line and column of a byte's offset. Conditions: the offset lies within the text; the text has at most 2097152 bytes.
-/
import Derived.Test.YtnbnmomichegaaaDoorRefUnits9
import Derived.Test.YtnbnmomichegaaaDoorBase6
namespace Go.Proofs.YtnbnmomichegaaaDoor
open Go.RowKit Utf

namespace Pos
def stepP (p : Nat × Nat) (u : Nat × Nat × Nat) : Nat × Nat := if u.1 = 10 then (p.1 + 1, 1) else (p.1, p.2 + 1)
/-- Line and column of offset k. -/
def posOf (l : List UInt8) (k : Nat) : Nat × Nat := ((un 0 l).takeWhile fun u => decide (u.2.1 < k)).foldl stepP (1, 1)
theorem tw_stop {p : Nat × Nat × Nat → Bool} {pre rest : List (Nat × Nat × Nat)} (h1 : ∀ u ∈ pre, p u = true) (h2 : rest = [] ∨ ∃ u t, rest = u :: t ∧ p u = false) : (pre ++ rest).takeWhile p = pre := by
  induction pre with
  | nil =>
    rcases h2 with rfl | ⟨u, t, rfl, hu⟩
    · rfl
    · simp [hu]
  | cons u l ih =>
    rw [List.cons_append, List.takeWhile_cons, h1 u (by simp), if_pos rfl, ih (fun v hv => h1 v (by simp [hv]))]
theorem posOf_stop {l : List UInt8} {k : Nat} {pre rest : List (Nat × Nat × Nat)} (hu : un 0 l = pre ++ rest) (h1 : ∀ u ∈ pre, u.2.1 < k) (h2 : rest = [] ∨ ∃ u t, rest = u :: t ∧ k ≤ u.2.1) : posOf l k = pre.foldl stepP (1, 1) := by
  unfold posOf
  rw [hu, tw_stop (fun u hu => by simpa using h1 u hu)]
  rcases h2 with h | ⟨u, t, h, hk⟩
  · exact .inl h
  · exact .inr ⟨u, t, h, by simpa using hk⟩
theorem foldl_snoc (pre : List (Nat × Nat × Nat)) (u : Nat × Nat × Nat) (p q : Nat × Nat) (h : p = pre.foldl stepP q) : (pre ++ [u]).foldl stepP q = stepP p u := by rw [List.foldl_append, ← h]; rfl
end Pos
open Pos

theorem size_pos : (Tryd.prog.info? 30).map (·.size) = some (#[Value.int .i64 0, .int .i64 0] : Array Value).size := by kernel_rfl
/-- What Position hands back. -/
def Posd (p : Nat × Nat) (w : World) (e : Ending) (w' : World) : Prop := e = .returned (.agg #[.int .i64 (p.1 : Nat), .int .i64 (p.2 : Nat)]) ∧ Below w.heap.size w w'

set_option maxRecDepth 100000 in
set_option maxHeartbeats 1000000 in
theorem position_any (l : List UInt8) (k : Nat) (hl : l.length ≤ 2097152) (w : World) :
    Calls Tryd.prog 23 #[str l, .int .i64 (k : Nat)] w (Posd (posOf l k) w) := by
  go_enter Tryd.func23, Tryd.ntmps23
  go_wp2
  go_loopw [6] (fun _ wr => ∃ (pos : Nat) (pre : List (Nat × Nat × Nat)) (ln co : Nat), pos ≤ l.length ∧ wr.heap[w.heap.size + 1 + 1]? = some (.stringIter ⟨l.toArray⟩ pos) ∧ Blk wr w.heap.size 30 #[.int .i64 0, .int .i64 0] ∧ Blk wr (w.heap.size + 1) 30 #[.int .i64 (ln : Nat), .int .i64 (co : Nat)] ∧ Below w.heap.size w wr ∧ ln ≤ pos + 1 ∧ co ≤ pos + 1 ∧
    Hid (un 0 l = pre ++ un pos (l.drop pos)) ∧ Hid (∀ u ∈ pre, u.2.1 < k) ∧ Hid ((ln, co) = pre.foldl stepP (1, 1))) (fun _ wr => l.length - wr.iterPos (w.heap.size + 1 + 1))
  case atStart =>
    have b1 := Blk.new w 30 #[.int .i64 0, .int .i64 0]
    have b2 := Blk.new (w.alloc (.cells #[.int .i64 0, .int .i64 0] 30)) 30 #[.int .i64 1, .int .i64 1]
    rw [World.size_alloc] at b2
    have hi := World.iter_heap ((w.alloc (.cells #[.int .i64 0, .int .i64 0] 30)).alloc (.cells #[.int .i64 1, .int .i64 1] 30)) ⟨l.toArray⟩ 0
    rw [World.size_alloc, World.size_alloc] at hi
    exact ⟨0, [], 1, 1, Nat.zero_le _, hi, (b1.alloc _).alloc _, b2.alloc _, (((Below.refl _ _).alloc (Nat.le_refl _) _).alloc (by simp) _).alloc (by simp; omega) _, by omega, by omega, rfl, (fun u hu => by simp at hu), rfl⟩
  case round =>
    obtain ⟨pos, pre, ln, co, hpos, hit, hb4, hb5, hB, hln, hco, hun, hlt, hst⟩ := hrel
    have hzr : w.heap.size + 1 + 1 < wr.heap.size := (Array.getElem?_eq_some_iff.1 hit).1
    have d0 := hb5.cell 0
    have d1 := hb5.cell 1
    have f0 := hb5.free 0
    have f1 := hb5.free 1
    have r0 := hb4.cell 0
    have r1 := hb4.cell 1
    have q0 := hb4.free 0
    have q1 := hb4.free 1
    simp only [List.getElem?_toArray, List.getElem?_cons_zero, List.getElem?_cons_succ] at d0 d1 r0 r1
    by_cases hp : pos < l.length
    · have hd := decode_drop ⟨l.toArray⟩ pos (by show pos < l.toArray.size; simpa using hp)
      obtain ⟨b, t, hbt⟩ : ∃ b t, l.drop pos = b :: t := ⟨_, _, List.drop_eq_getElem_cons hp⟩
      have hw := dec_width b t
      obtain ⟨r', hr'⟩ : ∃ r', (dec (b :: t)).1 = r' := ⟨_, rfl⟩
      obtain ⟨n', hn'⟩ : ∃ n', (dec (b :: t)).2 = n' := ⟨_, rfl⟩
      have hlen : t.length + 1 = l.length - pos := by have := congrArg List.length hbt; simp at this; omega
      rw [hn'] at hw
      have hdd : Utf8.decode ⟨l.toArray⟩ pos = (r', n') := by rw [hd, hbt, ← hr', ← hn']
      have hnx : ∀ ty, (Instr.next (.pointer (some ⟨w.heap.size + 1 + 1, 0, none⟩)) true ty).run Tryd.prog wr = .ok (.tuple #[.bool true, .int .i64 pos, .int .i32 r']) (wr.iterAt (w.heap.size + 1 + 1) ⟨l.toArray⟩ (pos + n')) := by
        intro ty
        have := Lib.run_next_any_at (P := Tryd.prog) wr (w.heap.size + 1 + 1) ⟨l.toArray⟩ pos ty hit (by show pos < l.toArray.size; simpa using hp)
        rw [hdd] at this; exact this
      obtain ⟨wi, hwi⟩ : ∃ wi, wr.iterAt (w.heap.size + 1 + 1) ⟨l.toArray⟩ (pos + n') = wi := ⟨_, rfl⟩
      have hiti : wi.heap[w.heap.size + 1 + 1]? = some (.stringIter ⟨l.toArray⟩ (pos + n')) := by rw [← hwi]; exact Lib.iterAt_heap _ _ _ _ _ hit
      have hBi : Below w.heap.size w wi := by rw [← hwi]; exact Lib.below_iterAt hB (by omega) _ _
      have hb4i : Blk wi w.heap.size 30 #[.int .i64 0, .int .i64 0] := by rw [← hwi]; exact (Lib.iterAt_other _ _ _ _ _ (by omega)).trans hb4
      have hb5i : Blk wi (w.heap.size + 1) 30 #[.int .i64 (ln : Nat), .int .i64 (co : Nat)] := by rw [← hwi]; exact (Lib.iterAt_other _ _ _ _ _ (by omega)).trans hb5
      have huni : un pos (l.drop pos) = (r', pos, n') :: un (pos + n') (l.drop (pos + n')) := by
        rw [hbt, un_cons, hr', hn', ← hbt, List.drop_drop]
      have HU := Lib.hid huni
      rw [hwi] at hnx
      clear hd hbt hr' hn' hdd hwi huni d0 d1 f0 f1 r0 r1 q0 q1
      have d0 := hb5i.cell 0
      have d1 := hb5i.cell 1
      have f0 := hb5i.free 0
      have f1 := hb5i.free 1
      have r0 := hb4i.cell 0
      have r1 := hb4i.cell 1
      have q0 := hb4i.free 0
      have q1 := hb4i.free 1
      simp only [List.getElem?_toArray, List.getElem?_cons_zero, List.getElem?_cons_succ] at d0 d1 r0 r1
      by_cases hge : k ≤ pos
      · have HR : Hid (posOf l k = (ln, co)) := by
          show _ = _
          rw [hst.out]
          exact posOf_stop hun.out hlt.out (.inr ⟨_, _, HU.out, hge⟩)
        go_wp2
        have hb6 := (hb4i.set_ 0 (.int .i64 (ln : Nat))).set_ 1 (.int .i64 (co : Nat))
        refine bodyPost_ret (results_cell_row rfl _ _ _ _ _ _ _ rfl hb6 Tryd.underlying30 rfl size_pos) rfl ?_
        rw [HR.out]
        exact ⟨rfl, (hBi.setCell (p := ⟨w.heap.size, 0, none⟩) (Nat.le_refl _) _).setCell (p := ⟨w.heap.size, 1, none⟩) (Nat.le_refl _) _⟩
      · have HUN : Hid (un 0 l = (pre ++ [(r', pos, n')]) ++ un (pos + n') (l.drop (pos + n'))) := by show _ = _; rw [hun.out, HU.out]; simp
        have HLT : Hid (∀ u ∈ pre ++ [(r', pos, n')], u.2.1 < k) := fun u hu => by
          rcases List.mem_append.1 hu with h1 | h1
          · exact hlt.out u h1
          · simp at h1; subst h1; show pos < k; omega
        have HST := Lib.hid (foldl_snoc pre (r', pos, n') _ _ hst.out)
        by_cases h10 : r' = 10
        · have e10 : ((r' : Int) == 10) = true := by rw [h10]; rfl
          have HS2 : Hid ((ln + 1, 1) = (pre ++ [(r', pos, n')]).foldl stepP (1, 1)) := by show _ = _; rw [HST.out]; unfold stepP; rw [if_pos h10]
          have hb6 := (hb5i.set_ 0 (.int .i64 ((ln : Int) + 1))).set_ 1 (.int .i64 1)
          have hb7 := (hb4i.other (p := ⟨w.heap.size + 1, 0, none⟩) (by show w.heap.size + 1 ≠ w.heap.size; omega) (.int .i64 ((ln : Int) + 1))).other (p := ⟨w.heap.size + 1, 1, none⟩) (by show w.heap.size + 1 ≠ w.heap.size; omega) (.int .i64 1)
          have hB6 := (hBi.setCell (p := ⟨w.heap.size + 1, 0, none⟩) (by show _ ≤ w.heap.size + 1; omega) (.int .i64 ((ln : Int) + 1))).setCell (p := ⟨w.heap.size + 1, 1, none⟩) (by show _ ≤ w.heap.size + 1; omega) (.int .i64 1)
          have hit6 := (Below.heap_setCell (wi.setCell ⟨w.heap.size + 1, 0, none⟩ (.int .i64 ((ln : Int) + 1))) ⟨w.heap.size + 1, 1, none⟩ (.int .i64 1) (w.heap.size + 1 + 1) (by show w.heap.size + 1 + 1 ≠ w.heap.size + 1; omega)).trans ((Below.heap_setCell wi ⟨w.heap.size + 1, 0, none⟩ (.int .i64 ((ln : Int) + 1)) (w.heap.size + 1 + 1) (by show w.heap.size + 1 + 1 ≠ w.heap.size + 1; omega)).trans hiti)
          clear h10
          go_wp2
          go_roundw
          case rel => exact ⟨pos + n', _, ln + 1, 1, by omega, hit6, hb7, hb6, hB6, by omega, by omega, HUN, HLT, HS2⟩
          case measure => rw [iterPos_of hit6, iterPos_of hit]; omega
        · have e10 : ((r' : Int) == 10) = false := by rw [beq_eq_false_iff_ne]; omega
          have HS2 : Hid ((ln, co + 1) = (pre ++ [(r', pos, n')]).foldl stepP (1, 1)) := by show _ = _; rw [HST.out]; unfold stepP; rw [if_neg h10]
          have hb6 := hb5i.set_ 1 (.int .i64 ((co : Int) + 1))
          have hb7 := hb4i.other (p := ⟨w.heap.size + 1, 1, none⟩) (by show w.heap.size + 1 ≠ w.heap.size; omega) (.int .i64 ((co : Int) + 1))
          have hB6 := hBi.setCell (p := ⟨w.heap.size + 1, 1, none⟩) (by show _ ≤ w.heap.size + 1; omega) (.int .i64 ((co : Int) + 1))
          have hit6 := (Below.heap_setCell wi ⟨w.heap.size + 1, 1, none⟩ (.int .i64 ((co : Int) + 1)) (w.heap.size + 1 + 1) (by show w.heap.size + 1 + 1 ≠ w.heap.size + 1; omega)).trans hiti
          clear h10
          go_wp2
          go_roundw
          case rel => exact ⟨pos + n', _, ln, co + 1, by omega, hit6, hb7, hb6, hB6, by omega, by omega, HUN, HLT, HS2⟩
          case measure => rw [iterPos_of hit6, iterPos_of hit]; omega
    · have hnx : ∀ ty, (Instr.next (.pointer (some ⟨w.heap.size + 1 + 1, 0, none⟩)) true ty).run Tryd.prog wr = .ok (.tuple #[.bool false]) wr := by
        intro ty
        exact Lib.run_next_end_at (P := Tryd.prog) wr (w.heap.size + 1 + 1) ⟨l.toArray⟩ pos ty hit (by show ¬ pos < l.toArray.size; simpa using hp)
      have HR : Hid (posOf l k = (ln, co)) := by
        show _ = _
        rw [hst.out]
        exact posOf_stop hun.out hlt.out (.inl (by rw [List.drop_eq_nil_of_le (by omega)]; rfl))
      go_wp2
      have hb6 := (hb4.set_ 0 (.int .i64 (ln : Nat))).set_ 1 (.int .i64 (co : Nat))
      refine bodyPost_ret (results_cell_row rfl _ _ _ _ _ _ _ rfl hb6 Tryd.underlying30 rfl size_pos) rfl ?_
      rw [HR.out]
      exact ⟨rfl, (hB.setCell (p := ⟨w.heap.size, 0, none⟩) (Nat.le_refl _) _).setCell (p := ⟨w.heap.size, 1, none⟩) (Nat.le_refl _) _⟩

theorem cus_at {us : List (Nat × Nat × Nat)} {j : Nat} (hj : j < us.length) :
    (us.flatMap fun u => cu (okT u) u)[j * 4]? = some (.int .i32 us[j].1) ∧ (us.flatMap fun u => cu (okT u) u)[j * 4 + 1]? = some (.int .i64 us[j].2.1) ∧ (us.flatMap fun u => cu (okT u) u)[j * 4 + 2]? = some (.int .i64 us[j].2.2) ∧ (us.flatMap fun u => cu (okT u) u)[j * 4 + 3]? = some (.bool (okT us[j])) := by
  induction us generalizing j with
  | nil => simp at hj
  | cons u l ih =>
    cases j with
    | zero => exact ⟨rfl, rfl, rfl, rfl⟩
    | succ j =>
      have := ih (j := j) (by simpa using hj)
      rw [List.flatMap_cons]
      have hl : (cu (okT u) u).length = 4 := rfl
      refine ⟨?_, ?_, ?_, ?_⟩
      · rw [List.getElem?_append_right (by omega), hl, show (j + 1) * 4 - 4 = j * 4 by omega]; exact this.1
      · rw [List.getElem?_append_right (by omega), hl, show (j + 1) * 4 + 1 - 4 = j * 4 + 1 by omega]; exact this.2.1
      · rw [List.getElem?_append_right (by omega), hl, show (j + 1) * 4 + 2 - 4 = j * 4 + 2 by omega]; exact this.2.2.1
      · rw [List.getElem?_append_right (by omega), hl, show (j + 1) * 4 + 3 - 4 = j * 4 + 3 by omega]; exact this.2.2.2

theorem un_len_le (l : List UInt8) : (un 0 l).length ≤ l.length := by
  have key : ∀ (n p : Nat) (l : List UInt8), l.length ≤ n → (un p l).length ≤ l.length := by
    intro n
    induction n with
    | zero => intro p l h; rw [List.eq_nil_of_length_eq_zero (show l.length = 0 by omega), un_nil]; simp
    | succ n ih =>
      intro p l h
      cases l with
      | nil => rw [un_nil]; simp
      | cons b t =>
        rw [un_cons]
        have hw := dec_width b t
        have := ih (p + (dec (b :: t)).2) ((b :: t).drop (dec (b :: t)).2) (by simp at h ⊢; omega)
        simp at this ⊢; omega
  exact key _ 0 l (Nat.le_refl _)

end Go.Proofs.YtnbnmomichegaaaDoor
