/-
 Several texts of this seat, one behind the other: RefUnits9, DepPos, DepCut. No conditions but those of each.
-/
import Derived.Test.YtgkdaebiefhgdaaGreatDoorPBase6
import Derived.Lib.OthersKept
import Derived.Maps.AppendAt
import Derived.Shelf.Strings.Search1
import Derived.Shelf.Strings.Search2
import Derived.Shelf.LaysM
import Derived.Lib.IndexLaws
namespace Go.Proofs.YtgkdaebiefhgdaaGreatDoor
open Go.RowKit Utf
end Go.Proofs.YtgkdaebiefhgdaaGreatDoor
namespace Go.Proofs.YtgkdaebiefhgdaaGreatDoor
open Go.RowKit Utf
namespace Pos
def stepP (p : Nat × Nat) (u : Nat × Nat × Nat) : Nat × Nat := if u.1 = 10 then (p.1 + 1, 1) else (p.1, p.2 + 1)
def posOf (l : List UInt8) (k : Nat) : Nat × Nat := ((un 0 l).takeWhile fun u => decide (u.2.1 < k)).foldl stepP (1, 1)
theorem tw_stop {p : Nat × Nat × Nat → Bool} {pre rest : List (Nat × Nat × Nat)} (h1 : ∀ u ∈ pre, p u = true) (h2 : rest = [] ∨ ∃ u t, rest = u :: t ∧ p u = false) : (pre ++ rest).takeWhile p = pre := by
 induction pre with
 | nil =>
  rcases h2 with rfl | ⟨u, t, rfl, hu⟩
  ·rfl
  ·simp [hu]
 | cons u l ih =>
  rw [List.cons_append, List.takeWhile_cons, h1 u (by simp), if_pos rfl, ih (fun v hv => h1 v (by simp [hv]))]
theorem posOf_stop {l : List UInt8} {k : Nat} {pre rest : List (Nat × Nat × Nat)} (hu : un 0 l = pre ++ rest) (h1 : ∀ u ∈ pre, u.2.1 < k) (h2 : rest = [] ∨ ∃ u t, rest = u :: t ∧ k ≤ u.2.1) : posOf l k = pre.foldl stepP (1, 1) := by
 unfold posOf
 rw [hu, tw_stop (fun u hu => by simpa using h1 u hu)]
 rcases h2 with h | ⟨u, t, h, hk⟩
 ·exact .inl h
 ·exact .inr ⟨u, t, h, by simpa using hk⟩
theorem foldl_snoc (pre : List (Nat × Nat × Nat)) (u : Nat × Nat × Nat) (p q : Nat × Nat) (h : p = pre.foldl stepP q) : (pre ++ [u]).foldl stepP q = stepP p u := by rw [List.foldl_append, ← h]; rfl
end Pos
open Pos
theorem size_pos : (Tryz.prog.info? 32).map (·.size) = some (#[Value.int .i64 0, .int .i64 0] : Array Value).size := by kernel_rfl
def Posd (p : Nat × Nat) (w : World) (e : Ending) (w' : World) : Prop := e = .returned (.agg #[.int .i64 (p.1 : Nat), .int .i64 (p.2 : Nat)]) ∧ Below w.heap.size w w'

set_option maxRecDepth 100000 in
set_option maxHeartbeats 1000000 in
theorem position_any (l : List UInt8) (k : Nat) (hl : l.length ≤ 2097152) (w : World) :
  Calls Tryz.prog 18 #[str l, .int .i64 (k : Nat)] w (Posd (posOf l k) w) := by
 go_enter Tryz.func18, Tryz.ntmps18
 go_wp2
 go_loopw [6] (fun _ wr => ∃ (pos : Nat) (pre : List (Nat × Nat × Nat)) (ln co : Nat), pos ≤ l.length ∧ wr.heap[w.heap.size + 1 + 1]? = some (.stringIter ⟨l.toArray⟩ pos) ∧ Blk wr w.heap.size 32 #[.int .i64 0, .int .i64 0] ∧ Blk wr (w.heap.size + 1) 32 #[.int .i64 (ln : Nat), .int .i64 (co : Nat)] ∧ Below w.heap.size w wr ∧ ln ≤ pos + 1 ∧ co ≤ pos + 1 ∧
  Hid (un 0 l = pre ++ un pos (l.drop pos)) ∧ Hid (∀ u ∈ pre, u.2.1 < k) ∧ Hid ((ln, co) = pre.foldl stepP (1, 1))) (fun _ wr => l.length - wr.iterPos (w.heap.size + 1 + 1))
 case atStart =>
  have b1 := Blk.new w 32 #[.int .i64 0, .int .i64 0]
  have b2 := Blk.new (w.alloc (.cells #[.int .i64 0, .int .i64 0] 32)) 32 #[.int .i64 1, .int .i64 1]
  rw [World.size_alloc] at b2
  have hi := World.iter_heap ((w.alloc (.cells #[.int .i64 0, .int .i64 0] 32)).alloc (.cells #[.int .i64 1, .int .i64 1] 32)) ⟨l.toArray⟩ 0
  rw [World.size_alloc, World.size_alloc] at hi
  exact ⟨0, [], 1, 1, Nat.zero_le _, hi, (b1.alloc _).alloc _, b2.alloc _, (((Below.refl _ _).alloc (Nat.le_refl _) _).alloc (by simp) _).alloc (by simp; omega) _, by omega, by omega, rfl, (fun u hu => by simp at hu), rfl⟩
 case round =>
  obtain ⟨pos, pre, ln, co, hpos, hit, hb4, hb5, hB, hln, hco, hun, hlt, hst⟩ := hrel
  have hzr : w.heap.size + 1 + 1 < wr.heap.size := (Array.getElem?_eq_some_iff.1 hit).1
  have d0 := hb5.cell 0
  have d1 := hb5.cell 1
  have f0 := hb5.free 0
  have f1 := hb5.free 1
  have r0 := hb4.cell 0
  have r1 := hb4.cell 1
  have q0 := hb4.free 0
  have q1 := hb4.free 1
  simp only [List.getElem?_toArray, List.getElem?_cons_zero, List.getElem?_cons_succ] at d0 d1 r0 r1
  by_cases hp : pos < l.length
  ·have hd := decode_drop ⟨l.toArray⟩ pos (by show pos < l.toArray.size; simpa using hp)
   obtain ⟨b, t, hbt⟩ : ∃ b t, l.drop pos = b :: t := ⟨_, _, List.drop_eq_getElem_cons hp⟩
   have hw := dec_width b t
   obtain ⟨r', hr'⟩ : ∃ r', (dec (b :: t)).1 = r' := ⟨_, rfl⟩
   obtain ⟨n', hn'⟩ : ∃ n', (dec (b :: t)).2 = n' := ⟨_, rfl⟩
   have hlen : t.length + 1 = l.length - pos := by have := congrArg List.length hbt; simp at this; omega
   rw [hn'] at hw
   have hdd : Utf8.decode ⟨l.toArray⟩ pos = (r', n') := by rw [hd, hbt, ← hr', ← hn']
   have hnx : ∀ ty, (Instr.next (.pointer (some ⟨w.heap.size + 1 + 1, 0, none⟩)) true ty).run Tryz.prog wr = .ok (.tuple #[.bool true, .int .i64 pos, .int .i32 r']) (wr.iterAt (w.heap.size + 1 + 1) ⟨l.toArray⟩ (pos + n')) := by
    intro ty
    have := Lib.run_next_any_at (P := Tryz.prog) wr (w.heap.size + 1 + 1) ⟨l.toArray⟩ pos ty hit (by show pos < l.toArray.size; simpa using hp)
    rw [hdd] at this; exact this
   obtain ⟨wi, hwi⟩ : ∃ wi, wr.iterAt (w.heap.size + 1 + 1) ⟨l.toArray⟩ (pos + n') = wi := ⟨_, rfl⟩
   have hiti : wi.heap[w.heap.size + 1 + 1]? = some (.stringIter ⟨l.toArray⟩ (pos + n')) := by rw [← hwi]; exact Lib.iterAt_heap _ _ _ _ _ hit
   have hBi : Below w.heap.size w wi := by rw [← hwi]; exact Lib.below_iterAt hB (by omega) _ _
   have hb4i : Blk wi w.heap.size 32 #[.int .i64 0, .int .i64 0] := by rw [← hwi]; exact (Lib.iterAt_other _ _ _ _ _ (by omega)).trans hb4
   have hb5i : Blk wi (w.heap.size + 1) 32 #[.int .i64 (ln : Nat), .int .i64 (co : Nat)] := by rw [← hwi]; exact (Lib.iterAt_other _ _ _ _ _ (by omega)).trans hb5
   have huni : un pos (l.drop pos) = (r', pos, n') :: un (pos + n') (l.drop (pos + n')) := by
    rw [hbt, un_cons, hr', hn', ← hbt, List.drop_drop]
   have HU := Lib.hid huni
   rw [hwi] at hnx
   clear hd hbt hr' hn' hdd hwi huni d0 d1 f0 f1 r0 r1 q0 q1
   have d0 := hb5i.cell 0
   have d1 := hb5i.cell 1
   have f0 := hb5i.free 0
   have f1 := hb5i.free 1
   have r0 := hb4i.cell 0
   have r1 := hb4i.cell 1
   have q0 := hb4i.free 0
   have q1 := hb4i.free 1
   simp only [List.getElem?_toArray, List.getElem?_cons_zero, List.getElem?_cons_succ] at d0 d1 r0 r1
   by_cases hge : k ≤ pos
   ·have HR : Hid (posOf l k = (ln, co)) := by
     show _ = _
     rw [hst.out]
     exact posOf_stop hun.out hlt.out (.inr ⟨_, _, HU.out, hge⟩)
    go_wp2
    have hb6 := (hb4i.set_ 0 (.int .i64 (ln : Nat))).set_ 1 (.int .i64 (co : Nat))
    refine bodyPost_ret (results_cell_row rfl _ _ _ _ _ _ _ rfl hb6 Tryz.underlying32 rfl size_pos) rfl ?_
    rw [HR.out]
    exact ⟨rfl, (hBi.setCell (p := ⟨w.heap.size, 0, none⟩) (Nat.le_refl _) _).setCell (p := ⟨w.heap.size, 1, none⟩) (Nat.le_refl _) _⟩
   ·have HUN : Hid (un 0 l = (pre ++ [(r', pos, n')]) ++ un (pos + n') (l.drop (pos + n'))) := by show _ = _; rw [hun.out, HU.out]; simp
    have HLT : Hid (∀ u ∈ pre ++ [(r', pos, n')], u.2.1 < k) := fun u hu => by
     rcases List.mem_append.1 hu with h1 | h1
     ·exact hlt.out u h1
     ·simp at h1; subst h1; show pos < k; omega
    have HST := Lib.hid (foldl_snoc pre (r', pos, n') _ _ hst.out)
    by_cases h10 : r' = 10
    ·have e10 : ((r' : Int) == 10) = true := by rw [h10]; rfl
     have HS2 : Hid ((ln + 1, 1) = (pre ++ [(r', pos, n')]).foldl stepP (1, 1)) := by show _ = _; rw [HST.out]; unfold stepP; rw [if_pos h10]
     have hb6 := (hb5i.set_ 0 (.int .i64 ((ln : Int) + 1))).set_ 1 (.int .i64 1)
     have hb7 := (hb4i.other (p := ⟨w.heap.size + 1, 0, none⟩) (by show w.heap.size + 1 ≠ w.heap.size; omega) (.int .i64 ((ln : Int) + 1))).other (p := ⟨w.heap.size + 1, 1, none⟩) (by show w.heap.size + 1 ≠ w.heap.size; omega) (.int .i64 1)
     have hB6 := (hBi.setCell (p := ⟨w.heap.size + 1, 0, none⟩) (by show _ ≤ w.heap.size + 1; omega) (.int .i64 ((ln : Int) + 1))).setCell (p := ⟨w.heap.size + 1, 1, none⟩) (by show _ ≤ w.heap.size + 1; omega) (.int .i64 1)
     have hit6 := (Below.heap_setCell (wi.setCell ⟨w.heap.size + 1, 0, none⟩ (.int .i64 ((ln : Int) + 1))) ⟨w.heap.size + 1, 1, none⟩ (.int .i64 1) (w.heap.size + 1 + 1) (by show w.heap.size + 1 + 1 ≠ w.heap.size + 1; omega)).trans ((Below.heap_setCell wi ⟨w.heap.size + 1, 0, none⟩ (.int .i64 ((ln : Int) + 1)) (w.heap.size + 1 + 1) (by show w.heap.size + 1 + 1 ≠ w.heap.size + 1; omega)).trans hiti)
     clear h10
     go_wp2
     go_roundw
     case rel => exact ⟨pos + n', _, ln + 1, 1, by omega, hit6, hb7, hb6, hB6, by omega, by omega, HUN, HLT, HS2⟩
     case measure => rw [iterPos_of hit6, iterPos_of hit]; omega
    ·have e10 : ((r' : Int) == 10) = false := by rw [beq_eq_false_iff_ne]; omega
     have HS2 : Hid ((ln, co + 1) = (pre ++ [(r', pos, n')]).foldl stepP (1, 1)) := by show _ = _; rw [HST.out]; unfold stepP; rw [if_neg h10]
     have hb6 := hb5i.set_ 1 (.int .i64 ((co : Int) + 1))
     have hb7 := hb4i.other (p := ⟨w.heap.size + 1, 1, none⟩) (by show w.heap.size + 1 ≠ w.heap.size; omega) (.int .i64 ((co : Int) + 1))
     have hB6 := hBi.setCell (p := ⟨w.heap.size + 1, 1, none⟩) (by show _ ≤ w.heap.size + 1; omega) (.int .i64 ((co : Int) + 1))
     have hit6 := (Below.heap_setCell wi ⟨w.heap.size + 1, 1, none⟩ (.int .i64 ((co : Int) + 1)) (w.heap.size + 1 + 1) (by show w.heap.size + 1 + 1 ≠ w.heap.size + 1; omega)).trans hiti
     clear h10
     go_wp2
     go_roundw
     case rel => exact ⟨pos + n', _, ln, co + 1, by omega, hit6, hb7, hb6, hB6, by omega, by omega, HUN, HLT, HS2⟩
     case measure => rw [iterPos_of hit6, iterPos_of hit]; omega
  ·have hnx : ∀ ty, (Instr.next (.pointer (some ⟨w.heap.size + 1 + 1, 0, none⟩)) true ty).run Tryz.prog wr = .ok (.tuple #[.bool false]) wr := by
    intro ty
    exact Lib.run_next_end_at (P := Tryz.prog) wr (w.heap.size + 1 + 1) ⟨l.toArray⟩ pos ty hit (by show ¬ pos < l.toArray.size; simpa using hp)
   have HR : Hid (posOf l k = (ln, co)) := by
    show _ = _
    rw [hst.out]
    exact posOf_stop hun.out hlt.out (.inl (by rw [List.drop_eq_nil_of_le (by omega)]; rfl))
   go_wp2
   have hb6 := (hb4.set_ 0 (.int .i64 (ln : Nat))).set_ 1 (.int .i64 (co : Nat))
   refine bodyPost_ret (results_cell_row rfl _ _ _ _ _ _ _ rfl hb6 Tryz.underlying32 rfl size_pos) rfl ?_
   rw [HR.out]
   exact ⟨rfl, (hB.setCell (p := ⟨w.heap.size, 0, none⟩) (Nat.le_refl _) _).setCell (p := ⟨w.heap.size, 1, none⟩) (Nat.le_refl _) _⟩

theorem cus_at {us : List (Nat × Nat × Nat)} {j : Nat} (hj : j < us.length) :
  (us.flatMap fun u => cu (okT u) u)[j * 4]? = some (.int .i32 us[j].1) ∧ (us.flatMap fun u => cu (okT u) u)[j * 4 + 1]? = some (.int .i64 us[j].2.1) ∧ (us.flatMap fun u => cu (okT u) u)[j * 4 + 2]? = some (.int .i64 us[j].2.2) ∧ (us.flatMap fun u => cu (okT u) u)[j * 4 + 3]? = some (.bool (okT us[j])) := by
 induction us generalizing j with
 | nil => simp at hj
 | cons u l ih =>
  cases j with
  | zero => exact ⟨rfl, rfl, rfl, rfl⟩
  | succ j =>
   have := ih (j := j) (by simpa using hj)
   rw [List.flatMap_cons]
   have hl : (cu (okT u) u).length = 4 := rfl
   refine ⟨?_, ?_, ?_, ?_⟩
   ·rw [List.getElem?_append_right (by omega), hl, show (j + 1) * 4 - 4 = j * 4 by omega]; exact this.1
   ·rw [List.getElem?_append_right (by omega), hl, show (j + 1) * 4 + 1 - 4 = j * 4 + 1 by omega]; exact this.2.1
   ·rw [List.getElem?_append_right (by omega), hl, show (j + 1) * 4 + 2 - 4 = j * 4 + 2 by omega]; exact this.2.2.1
   ·rw [List.getElem?_append_right (by omega), hl, show (j + 1) * 4 + 3 - 4 = j * 4 + 3 by omega]; exact this.2.2.2

theorem un_len_le (l : List UInt8) : (un 0 l).length ≤ l.length := by
 have key : ∀ (n p : Nat) (l : List UInt8), l.length ≤ n → (un p l).length ≤ l.length := by
  intro n
  induction n with
  | zero => intro p l h; rw [List.eq_nil_of_length_eq_zero (show l.length = 0 by omega), un_nil]; simp
  | succ n ih =>
   intro p l h
   cases l with
   | nil => rw [un_nil]; simp
   | cons b t =>
    rw [un_cons]
    have hw := dec_width b t
    have := ih (p + (dec (b :: t)).2) ((b :: t).drop (dec (b :: t)).2) (by simp at h ⊢; omega)
    simp at this ⊢; omega
 exact key _ 0 l (Nat.le_refl _)

set_option maxRecDepth 100000 in
set_option maxHeartbeats 1000000 in
theorem refPosition_any (l : List UInt8) (k : Nat) (hl : l.length ≤ 2097152) (hk : k ≤ l.length) (w : World) :
  Calls Tryz.prog 29 #[str l, .int .i64 (k : Nat)] w (Posd (posOf l k) w) := by
 have hul := un_len_le l
 go_enter Tryz.func29, Tryz.ntmps29
 go_wp2_with fail
 refine (refUnits_any l hl _).mono ?_
 rintro e w2 ⟨v, rfl, own, hb2⟩
 have b4 := ((Blk.new w 32 #[.int .i64 0, .int .i64 0]).alloc (.cells #[.int .i64 1, .int .i64 1] 32)).below hb2
 have b5' := Blk.new (w.alloc (.cells #[.int .i64 0, .int .i64 0] 32)) 32 #[.int .i64 1, .int .i64 1]
 have b5 := b5'.below hb2
 rw [World.size_alloc] at b5
 have hB2 : Below w.heap.size w w2 := (((Below.refl _ w).alloc (Nat.le_refl _) _).alloc (by simp) _).trans (hb2.mono (by simp; omega))
 have own1 := own_base own (show w.heap.size + 2 ≤ _ by simp)
 obtain ⟨A2, c2, rfl, -, -⟩ := own_slc own1
 obtain ⟨us, hus⟩ : ∃ us, un 0 l = us := ⟨_, rfl⟩
 rw [hus] at own1 hul ⊢
 have HUS := Lib.hid hus
 have OWN := Lib.hid own1
 clear own own1 hb2 b5' hus
 go_wp2
 go_loopw [17] (fun iv wr => ∃ (j ln co : Nat), j ≤ us.length ∧ iv = .int .i64 j ∧ Blk wr w.heap.size 32 #[.int .i64 0, .int .i64 0] ∧ Blk wr (w.heap.size + 1) 32 #[.int .i64 (ln : Nat), .int .i64 (co : Nat)] ∧ Below w.heap.size w wr ∧ ln ≤ j + 1 ∧ co ≤ j + 1 ∧
  Hid (∀ u ∈ us.take j, u.2.1 < k) ∧ Hid ((ln, co) = (us.take j).foldl stepP (1, 1)) ∧ Hid (wr.ownsRow (w.heap.size + 2) 126 4 (.slice A2 us.length c2) us.length (us.flatMap fun u => cu (okT u) u))) (fun iv _ => us.length - (intOf iv).toNat)
 case atStart => exact ⟨0, 1, 1, Nat.zero_le _, rfl, b4, b5, hB2, by omega, by omega, (fun u hu => by simp at hu), rfl, OWN⟩
 case round =>
  obtain ⟨j, ln, co, hj, rfl, hb4, hb5, hB, hln, hco, hlt, hst, hown⟩ := hrel
  obtain ⟨wo, rfl⟩ : ∃ wo : World, wo = wr := ⟨_, rfl⟩
  have hg5 := hb5.lt
  by_cases hjl : j < us.length
  ·obtain ⟨m0, m1, m2, m3⟩ := cus_at hjl
   obtain ⟨g, cap, eg, hgb, hgl, hcap⟩ := own_form hown.out (by omega)
   injection eg with e1 _ e3
   subst e1 e3
   have HTS : Hid (us.take (j + 1) = us.take j ++ [us[j]]) := List.take_succ_eq_append_getElem hjl
   have HDR : Hid (us.drop j = us[j] :: us.drop (j + 1)) := List.drop_eq_getElem_cons hjl
   obtain ⟨u, hu⟩ : ∃ u, us[j] = u := ⟨_, rfl⟩
   rw [hu] at m0 m1 m2 m3 HTS HDR
   have c0 := (hown.out.cellAt (j * 4) (by omega)).trans m0
   have c1 := (hown.out.cellAt (j * 4 + 1) (by omega)).trans m1
   have c2' := (hown.out.cellAt (j * 4 + 2) (by omega)).trans m2
   have c3 := (hown.out.cellAt (j * 4 + 3) (by omega)).trans m3
   have hst2 := Lib.hid (foldl_snoc (us.take j) u _ _ hst.out)
   have hown2 := Lib.hid (hown.out.alloc (.cells #[.int .i32 u.1, .int .i64 u.2.1, .int .i64 u.2.2, .bool (okT u)] 126))
   have hb4a := hb4.alloc (.cells #[.int .i32 u.1, .int .i64 u.2.1, .int .i64 u.2.2, .bool (okT u)] 126)
   have hb5a := hb5.alloc (.cells #[.int .i32 u.1, .int .i64 u.2.1, .int .i64 u.2.2, .bool (okT u)] 126)
   have hBa := hB.alloc hB.size (.cells #[.int .i32 u.1, .int .i64 u.2.1, .int .i64 u.2.2, .bool (okT u)] 126)
   obtain ⟨bo, hbo⟩ : ∃ bo, okT u = bo := ⟨_, rfl⟩
   rw [hbo] at c3 hown2 hb4a hb5a hBa
   clear m0 m1 m2 m3 hu hbo
   have d0 := hb5a.cell 0
   have d1 := hb5a.cell 1
   have f0 := hb5a.free 0
   have f1 := hb5a.free 1
   have r0 := hb4a.cell 0
   have r1 := hb4a.cell 1
   have q0 := hb4a.free 0
   have q1 := hb4a.free 1
   simp only [List.getElem?_toArray, List.getElem?_cons_zero, List.getElem?_cons_succ] at d0 d1 r0 r1
   by_cases hge : k ≤ u.2.1
   ·have HR : Hid (posOf l k = (ln, co)) := by
     show _ = _
     rw [hst.out]
     exact posOf_stop (rest := us.drop j) (by rw [HUS.out, List.take_append_drop]) hlt.out (.inr ⟨_, _, HDR.out, hge⟩)
    go_wp2
    have hb6 := (hb4a.set_ 0 (.int .i64 (ln : Nat))).set_ 1 (.int .i64 (co : Nat))
    refine bodyPost_ret (results_cell_row rfl _ _ _ _ _ _ _ rfl hb6 Tryz.underlying32 rfl size_pos) rfl ?_
    rw [HR.out]
    exact ⟨rfl, (hBa.setCell (p := ⟨w.heap.size, 0, none⟩) (Nat.le_refl _) _).setCell (p := ⟨w.heap.size, 1, none⟩) (Nat.le_refl _) _⟩
   ·have HLT : Hid (∀ v ∈ us.take (j + 1), v.2.1 < k) := fun v hv => by
     rw [HTS.out] at hv
     rcases List.mem_append.1 hv with h1 | h1
     ·exact hlt.out v h1
     ·simp at h1; subst h1; omega
    have hgn : g ≠ w.heap.size + 1 := by omega
    by_cases h10 : u.1 = 10
    ·have e10 : ((u.1 : Int) == 10) = true := by rw [h10]; rfl
     have HS2 : Hid ((ln + 1, 1) = (us.take (j + 1)).foldl stepP (1, 1)) := by show _ = _; rw [HTS.out, hst2.out]; unfold stepP; rw [if_pos h10]
     have x5 := ((hb5.set_ 1 (.int .i64 ((co : Int) + 1))).set_ 0 (.int .i64 ((ln : Int) + 1))).set_ 1 (.int .i64 1)
     have e0 := ((hb5.set_ 1 (.int .i64 ((co : Int) + 1))).alloc (.cells #[.int .i32 u.1, .int .i64 u.2.1, .int .i64 u.2.2, .bool bo] 126)).cell 0
     have g0 := ((hb5.set_ 1 (.int .i64 ((co : Int) + 1))).alloc (.cells #[.int .i32 u.1, .int .i64 u.2.1, .int .i64 u.2.2, .bool bo] 126)).free 0
     have e1 := (((hb5.set_ 1 (.int .i64 ((co : Int) + 1))).set_ 0 (.int .i64 ((ln : Int) + 1))).alloc (.cells #[.int .i32 u.1, .int .i64 u.2.1, .int .i64 u.2.2, .bool bo] 126)).cell 1
     have g1 := (((hb5.set_ 1 (.int .i64 ((co : Int) + 1))).set_ 0 (.int .i64 ((ln : Int) + 1))).alloc (.cells #[.int .i32 u.1, .int .i64 u.2.1, .int .i64 u.2.2, .bool bo] 126)).free 1
     simp only [List.setIfInBounds_toArray, List.set_cons_succ, List.set_cons_zero, List.getElem?_toArray, List.getElem?_cons_zero, List.getElem?_cons_succ] at e0 e1
     have n5 : w.heap.size + 1 ≠ w.heap.size := by omega
     have x4 := ((hb4.other (p := ⟨w.heap.size + 1, 1, none⟩) n5 (.int .i64 ((co : Int) + 1))).other (p := ⟨w.heap.size + 1, 0, none⟩) n5 (.int .i64 ((ln : Int) + 1))).other (p := ⟨w.heap.size + 1, 1, none⟩) n5 (.int .i64 1)
     have xB := ((hB.setCell (p := ⟨w.heap.size + 1, 1, none⟩) (by show _ ≤ w.heap.size + 1; omega) (.int .i64 ((co : Int) + 1))).setCell (p := ⟨w.heap.size + 1, 0, none⟩) (by show _ ≤ w.heap.size + 1; omega) (.int .i64 ((ln : Int) + 1))).setCell (p := ⟨w.heap.size + 1, 1, none⟩) (by show _ ≤ w.heap.size + 1; omega) (.int .i64 1)
     have xO := own_same hown.out (w' := ((wo.setCell ⟨w.heap.size + 1, 1, none⟩ (.int .i64 ((co : Int) + 1))).setCell ⟨w.heap.size + 1, 0, none⟩ (.int .i64 ((ln : Int) + 1))).setCell ⟨w.heap.size + 1, 1, none⟩ (.int .i64 1)) (fun g' hg' => by
      simp [Value.ownBlock] at hg'; subst hg'
      exact ((Below.heap_setCell _ _ _ _ hgn).trans (Below.heap_setCell _ _ _ _ hgn)).trans (Below.heap_setCell _ _ _ _ hgn))
     have XO := Lib.hid (xO.alloc (.cells #[.int .i32 u.1, .int .i64 u.2.1, .int .i64 u.2.2, .bool bo] 126))
     clear h10 xO
     go_wp2
     go_roundw
     case rel => exact ⟨j + 1, ln + 1, 1, by omega, by go_num, x4.alloc _, x5.alloc _, xB.alloc xB.size _, by omega, by omega, HLT, HS2, XO⟩
     case measure => simp [intOf]; omega
    ·have e10 : ((u.1 : Int) == 10) = false := by rw [beq_eq_false_iff_ne]; omega
     have HS2 : Hid ((ln, co + 1) = (us.take (j + 1)).foldl stepP (1, 1)) := by show _ = _; rw [HTS.out, hst2.out]; unfold stepP; rw [if_neg h10]
     have x5 := hb5.set_ 1 (.int .i64 ((co : Int) + 1))
     have n5 : w.heap.size + 1 ≠ w.heap.size := by omega
     have x4 := hb4.other (p := ⟨w.heap.size + 1, 1, none⟩) n5 (.int .i64 ((co : Int) + 1))
     have xB := hB.setCell (p := ⟨w.heap.size + 1, 1, none⟩) (by show _ ≤ w.heap.size + 1; omega) (.int .i64 ((co : Int) + 1))
     have xO := own_same hown.out (w' := wo.setCell ⟨w.heap.size + 1, 1, none⟩ (.int .i64 ((co : Int) + 1))) (fun g' hg' => by
      simp [Value.ownBlock] at hg'; subst hg'
      exact Below.heap_setCell _ _ _ _ hgn)
     have XO := Lib.hid (xO.alloc (.cells #[.int .i32 u.1, .int .i64 u.2.1, .int .i64 u.2.2, .bool bo] 126))
     clear h10 xO
     go_wp2
     go_roundw
     case rel => exact ⟨j + 1, ln, co + 1, by omega, by go_num, x4.alloc _, x5.alloc _, xB.alloc xB.size _, by omega, by omega, HLT, HS2, XO⟩
     case measure => simp [intOf]; omega
  ·have HR : Hid (posOf l k = (ln, co)) := by
    show _ = _
    rw [hst.out]
    exact posOf_stop (rest := us.drop j) (by rw [HUS.out, List.take_append_drop]) hlt.out (.inl (List.drop_eq_nil_of_le (by omega)))
   have d0 := hb5.cell 0
   have d1 := hb5.cell 1
   have r0 := hb4.cell 0
   have r1 := hb4.cell 1
   have q0 := hb4.free 0
   have q1 := hb4.free 1
   simp only [List.getElem?_toArray, List.getElem?_cons_zero, List.getElem?_cons_succ] at d0 d1 r0 r1
   go_wp2
   have hb6 := (hb4.set_ 0 (.int .i64 (ln : Nat))).set_ 1 (.int .i64 (co : Nat))
   refine bodyPost_ret (results_cell_row rfl _ _ _ _ _ _ _ rfl hb6 Tryz.underlying32 rfl size_pos) rfl ?_
   rw [HR.out]
   exact ⟨rfl, (hB.setCell (p := ⟨w.heap.size, 0, none⟩) (Nat.le_refl _) _).setCell (p := ⟨w.heap.size, 1, none⟩) (Nat.le_refl _) _⟩
end Go.Proofs.YtgkdaebiefhgdaaGreatDoor
namespace Go.Proofs.YtgkdaebiefhgdaaGreatDoor
open Go.RowKit Utf Go.Shelf
def cut_ren : Go.Shelf.Ren := ⟨fun | 219 => 94 | 217 => 137 | 225 => 138 | 224 => 139 | 267 => 140 | 266 => 155 | 314 => 156 | n => n, fun | 9 => 9 | 3 => 3 | 4 => 4 | 5 => 5 | 46 => 180 | 146 => 190 | 51 => 189 | n => n, fun | 1 => 0 | n => n⟩
theorem cut_lays : Go.Proofs.Lays.n219 Tryz.prog cut_ren := {
 mixed := by kernel_rfl
 f217 := Tryz.func137.trans (congrArg some (by kernel_rfl))
 f219 := Tryz.func94.trans (congrArg some (by kernel_rfl))
 f224 := Tryz.func139.trans (congrArg some (by kernel_rfl))
 f225 := Tryz.func138.trans (congrArg some (by kernel_rfl))
 f266 := Tryz.func155.trans (congrArg some (by kernel_rfl))
 f267 := Tryz.func140.trans (congrArg some (by kernel_rfl))
 f314 := Tryz.func156.trans (congrArg some (by kernel_rfl))
 t3 := Tryz.underlying3
 a3 := Tryz.isAgg3
 z3 := Tryz.sizeOf3
 v3 := Tryz.zeroValue3
 t4 := Tryz.underlying4
 a4 := Tryz.isAgg4
 z4 := Tryz.sizeOf4
 v4 := Tryz.zeroValue4
 t5 := Tryz.underlying5
 a5 := Tryz.isAgg5
 z5 := Tryz.sizeOf5
 v5 := Tryz.zeroValue5
 t9 := Tryz.underlying9
 a9 := Tryz.isAgg9
 z9 := Tryz.sizeOf9
 v9 := Tryz.zeroValue9
 t46 := Tryz.underlying180
 a46 := Tryz.isAgg180
 z46 := Tryz.sizeOf180
 v46 := Tryz.zeroValue180
 t51 := Tryz.underlying189
 a51 := Tryz.isAgg189
 z51 := Tryz.sizeOf189
 v51 := Tryz.zeroValue189
 t146 := Tryz.underlying190
 a146 := Tryz.isAgg190
 z146 := Tryz.sizeOf190
 v146 := Tryz.zeroValue190
 g1 := by kernel_rfl }
theorem index_one (l : List UInt8) (c : UInt8) (w : World) :
  Calls Tryz.prog 94 #[str l, .string ⟨#[c]⟩] w fun e w' => e = .returned (.int .i64 (Lib.indexByte l c)) ∧ w' = w := by
 have : Calls Tryz.prog 94 #[.string ⟨l.toArray⟩, .string ⟨#[c]⟩] w fun e w' => e = .returned (.int .i64 (Lib.indexByte (ByteArray.mk l.toArray).data.toList c)) ∧ w' = w := Any.stringslite_Index_one cut_lays ⟨l.toArray⟩ c w
 simpa using this

def ln (l : List UInt8) : List UInt8 := l.takeWhile fun c => c != 10
theorem ln_none {l : List UInt8} (h : ∀ k : Nat, l[k]? ≠ some 10) : ln l = l := by
 have key : ∀ l : List UInt8, (∀ c ∈ l, c ≠ 10) → ln l = l := by
  intro l
  induction l with
  | nil => intro _; rfl
  | cons c t ih =>
   intro hc
   have h1 : (c != 10) = true := by simpa using hc c (by simp)
   have := ih (fun d hd => hc d (by simp [hd]))
   unfold ln at this ⊢
   rw [List.takeWhile_cons, h1, if_pos rfl, this]
 refine key l fun c hc e => ?_
 obtain ⟨k, hk⟩ := List.getElem?_of_mem hc
 exact h k (by rw [hk, e])
theorem ln_some {l : List UInt8} {o : Nat} (h0 : l[o]? = some 10) (h : ∀ k : Nat, k < o → l[k]? ≠ some 10) : ln l = l.take o := by
 unfold ln
 induction l generalizing o with
 | nil => simp
 | cons c t ih =>
  cases o with
  | zero => simp at h0; simp [h0]
  | succ o =>
   have hc : (c != 10) = true := by have := h 0 (by omega); simpa using this
   rw [List.takeWhile_cons, hc, if_pos rfl, List.take_succ_cons, ih (o := o) (by simpa using h0) (fun k hk => by have := h (k + 1) (by omega); simpa using this)]

def Cutd (l : List UInt8) (w : World) (e : Ending) (w' : World) : Prop := ∃ r b, e = .returned (.tuple #[str (ln l), str r, .bool b]) ∧ ∃ q, w' = w.drewN q
theorem cutd_ret {l x r : List UInt8} {b : Bool} {w w' : World} {en : Ending} (h : ln l = x) (he : en = .returned (.tuple #[str x, str r, .bool b])) (hw : ∃ q, w' = w.drewN q) : Cutd l w en w' := by subst h; exact ⟨r, b, he, hw⟩
attribute [local go_sem] byte_mk ByteArray.extract_mk
set_option maxHeartbeats 1000000 in
theorem slCut_any (l : List UInt8) (hl : l.length ≤ 9223372036854775807) (w : World) :
  Calls Tryz.prog 56 #[str l, str [10]] w (Cutd l w) := by
 have hge := Lib.indexByte_ge l 10
 by_cases hi : Lib.indexByte l 10 = -1
 ·have HN := Lib.hid (ln_none (Lib.indexByte_none hi))
  have Hi := Lib.hid hi
  clear hi hge
  go_enter Tryz.func56, Tryz.ntmps56
  go_wp2_with fail
  refine (index_one l 10 _).mono ?_
  rintro e w' ⟨rfl, rfl⟩
  rw [Hi.out]
  go_wp2
  go_ret3
  exact cutd_ret (r := []) (b := false) HN.out rfl ⟨0, rfl⟩
 ·obtain ⟨o, ho⟩ : ∃ o : Nat, Lib.indexByte l 10 = o := ⟨(Lib.indexByte l 10).toNat, by omega⟩
  obtain ⟨h1, h2⟩ := Lib.indexByte_some ho
  have hol : o < l.length := (List.getElem?_eq_some_iff.1 h1).1
  have HN := Lib.hid (ln_some h1 h2)
  have Hi := Lib.hid ho
  clear hi hge ho h1 h2
  have hwo : IntKind.i64.wrap ((o : Int) + 1) = (o : Int) + 1 := IntWalk.i64_in _ (by omega)
  have h0 : (0 : Int) ≤ (o : Int) + 1 := by omega
  have ht : ((o : Int) + 1).toNat = o + 1 := by omega
  go_enter Tryz.func56, Tryz.ntmps56
  go_wp2_with fail
  refine (index_one l 10 _).mono ?_
  rintro e w' ⟨rfl, rfl⟩
  rw [Hi.out]
  go_wp2
  go_quiet (fail)
  clear hwo h0 ht
  go_wp2
  go_ret3
  exact cutd_ret (r := (l.drop (o + 1)).take (l.length - (o + 1))) (b := true) HN.out rfl ⟨_, rfl⟩
theorem cut_any (l : List UInt8) (hl : l.length ≤ 9223372036854775807) (w : World) :
  Calls Tryz.prog 22 #[str l, str [10]] w (Cutd l w) := by
 go_enter Tryz.func22, Tryz.ntmps22
 go_wp2_with fail
 refine (slCut_any l hl _).mono ?_
 rintro e w' ⟨r, b, rfl, q, rfl⟩
 go_wp2
 go_ret3
 exact ⟨r, b, rfl, q, rfl⟩
end Go.Proofs.YtgkdaebiefhgdaaGreatDoor
