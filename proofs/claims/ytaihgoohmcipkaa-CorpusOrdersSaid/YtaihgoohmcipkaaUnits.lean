/-
  The contract of codepoint.Valid: for every text it says whether all units are valid, and changes nothing that was there. Condition: the text's length is an int.
-/
import Derived.Test.YtaihgoohmcipkaaProg
import Derived.RangeFuncNested
import Derived.RangeFuncBound
import Derived.RangeFuncCalls
import Derived.RangeFuncLeaves
import Derived.Shelf.Abstract
import Derived.Shelf.RegionOpen
import Derived.WalkKit
import Derived.OwnWalkIn
import Derived.TacticsInMore
import Derived.LoopNIn
import Derived.LoopIn
import Derived.Lib.OthersKept
import Derived.Lib.Hide
import Derived.Test.YtaihgoohmcipkaaUtf
import Derived.Test.YtaihgoohmcipkaaRange
import Derived.Test.YtaihgoohmcipkaaMem
namespace Go.Proofs.Ytaihgoohmcipkaa
open Go.RowKit Go.Shelf Utf
attribute [local go_sem] Oper.semAt_some

abbrev U := Nat × Nat × Nat
abbrev uv (r : Int) (a z : Int) : Array Value := #[.int .i32 r, .int .i64 a, .int .i64 z]
abbrev encU (x : U) : Array Value := #[.agg (uv x.1 x.2.1 x.2.2)]

set_option maxRecDepth 100000 in
set_option maxHeartbeats 1000000 in
theorem units1_gives (m : Nat) (hm : 1 ≤ m) (l : List UInt8) (hl : l.length ≤ 9223372036854775807) (b0 : Nat) (w : World) (hb0 : b0 < w.heap.size) (hc0 : w.cell? ⟨b0, 0, none⟩ = some (str l)) :
    Gives (· = b0) m Try.prog 99 #[.pointer (some ⟨b0, 0, none⟩)] encU (fun pre x => ∃ post, un 0 l = pre ++ x :: post) (fun xs => xs = un 0 l) (fun pre => pre <+: un 0 l) w := by
  intro lp J Jx W hW hlp hJ hJx hY h0
  have hzW := hW.size
  have hs : W.cell? ⟨b0, 0, none⟩ = some (str l) := (hW.cell (p := ⟨b0, 0, none⟩) hb0).trans hc0
  have hs2 : ((W.alloc (.cells (uv 0 (-1) 0) 109))).cell? ⟨b0, 0, none⟩ = some (str l) := (World.cell?_alloc_lt _ _ _ (by show b0 < _; omega)).trans hs
  refine callsIn_of_wp Try.func99 rfl trivial ?_ rfl
  simp only [Try.ntmps99, List.size_toArray, List.length_cons, List.length_nil, Nat.reduceAdd, Nat.reduceSub, Array.replicate_succ, Array.replicate_zero, List.push_toArray, List.append_toArray, List.nil_append, List.cons_append]
  gi_wp2
  gi_loopw [] (fun wr => ∃ pos : Nat, pos ≤ l.length ∧ wr.heap[W.heap.size + 1]? = some (.stringIter ⟨l.toArray⟩ pos) ∧ wr.cell? ⟨b0, 0, none⟩ = some (str l) ∧
      ((pos = 0 ∧ Blk wr W.heap.size 109 (uv 0 (-1) 0) ∧ J [] wr) ∨
       (∃ pre r a, a < pos ∧ Blk wr W.heap.size 109 (uv (r : Nat) (a : Nat) 0) ∧ Hid (un 0 l = pre ++ (r, a, pos - a) :: un pos (l.drop pos)) ∧ J pre wr)))
    (fun wr => l.length - wr.iterPos (W.heap.size + 1))
  case atStart =>
    refine ⟨0, Nat.zero_le _, ?_, ?_, .inl ⟨rfl, ?_, ?_⟩⟩
    · have := World.iter_heap (W.alloc (.cells (uv 0 (-1) 0) 109)) ⟨l.toArray⟩ 0
      rw [World.size_alloc] at this; exact this
    · exact (World.cell?_alloc_lt _ _ _ (by simp; omega)).trans hs2
    · exact (Blk.new _ _ _).alloc _
    · exact hJ _ _ _ h0 (((Below.refl _ _).alloc (Nat.le_refl _) _).alloc (by simp) _)
  case round =>
    obtain ⟨pos, hpos, hit, hcs, hcase⟩ := hrel
    have hzr : W.heap.size + 1 < wr.heap.size := (Array.getElem?_eq_some_iff.1 hit).1
    by_cases hp : pos < l.length
    · have hd := decode_drop ⟨l.toArray⟩ pos (by show pos < l.toArray.size; simpa using hp)
      obtain ⟨b, t, hbt⟩ : ∃ b t, l.drop pos = b :: t := ⟨_, _, List.drop_eq_getElem_cons hp⟩
      have hw := dec_width b t
      obtain ⟨r', hr'⟩ : ∃ r', (dec (b :: t)).1 = r' := ⟨_, rfl⟩
      obtain ⟨n', hn'⟩ : ∃ n', (dec (b :: t)).2 = n' := ⟨_, rfl⟩
      have hlen : t.length + 1 = l.length - pos := by have := congrArg List.length hbt; simp at this; omega
      rw [hn'] at hw
      have hdd : Utf8.decode ⟨l.toArray⟩ pos = (r', n') := by rw [hd, hbt, ← hr', ← hn']
      have hnx : ∀ ty, (Instr.next (.pointer (some ⟨W.heap.size + 1, 0, none⟩)) true ty).run Try.prog wr = .ok (.tuple #[.bool true, .int .i64 pos, .int .i32 r']) (wr.iterAt (W.heap.size + 1) ⟨l.toArray⟩ (pos + n')) := by
        intro ty
        have := Lib.run_next_any_at (P := Try.prog) wr (W.heap.size + 1) ⟨l.toArray⟩ pos ty hit (by show pos < l.toArray.size; simpa using hp)
        rw [hdd] at this; exact this
      obtain ⟨wi, hwi⟩ : ∃ wi, wr.iterAt (W.heap.size + 1) ⟨l.toArray⟩ (pos + n') = wi := ⟨_, rfl⟩
      have hiti : wi.heap[W.heap.size + 1]? = some (.stringIter ⟨l.toArray⟩ (pos + n')) := by rw [← hwi]; exact Lib.iterAt_heap _ _ _ _ _ hit
      have hbi : Below W.heap.size wr wi := by rw [← hwi]; exact Lib.below_iterAt (Below.refl _ _) (by omega) _ _
      have huni : un pos (l.drop pos) = (r', pos, n') :: un (pos + n') (l.drop (pos + n')) := by
        rw [hbt, un_cons, hr', hn', ← hbt, List.drop_drop]
      rw [hwi] at hnx
      rcases hcase with ⟨rfl, hu, hj⟩ | ⟨pre, r, a, hap, hu, hun, hj⟩
      · have hui : Blk wi W.heap.size 109 (uv 0 (-1) 0) := by rw [← hwi]; exact (Lib.iterAt_other _ _ _ _ _ (by omega)).trans hu
        have c0 := hui.cell 0
        have c1 := hui.cell 1
        have c2 := hui.cell 2
        have f0 := hui.free 0
        have f1 := hui.free 1
        have f2 := hui.free 2
        simp only [List.getElem?_toArray, List.getElem?_cons_zero, List.getElem?_cons_succ] at c0 c1 c2
        have hji := hJ _ _ _ hj hbi
        clear hd hbt hr' hn' hdd hwi hu
        gi_wp2
        refine ⟨fun _ h => (by cases h), ?_⟩
        gi_wp2
        go_roundw
        case rel =>
          refine ⟨0 + n', by omega, ?_, ?_, .inr ⟨[], r', 0, by omega, hui.four _ _ _ _, ?_, ?_⟩⟩
          · exact (set_three _ _ _ _ _ (by omega)).trans ((Below.heap_setCell _ _ _ _ (by simp)).trans hiti)
          · exact (((below_one _ _ _).trans (below_three _ _ _ _ _)).cell (p := ⟨b0, 0, none⟩) (by simp; omega)).trans ((hbi.cell (p := ⟨b0, 0, none⟩) (by simp; omega)).trans hcs)
          · show _ = _; simpa using huni
          · exact hJ _ _ _ hji ((below_one _ _ _).trans (below_three _ _ _ _ _))
        case measure =>
          rw [iterPos_of ((set_three _ _ _ _ _ (by omega)).trans ((Below.heap_setCell _ _ _ _ (by simp)).trans hiti)), iterPos_of hit]
          omega
      · have hui : Blk wi W.heap.size 109 (uv r a 0) := by rw [← hwi]; exact (Lib.iterAt_other _ _ _ _ _ (by omega)).trans hu
        obtain ⟨z, hz⟩ : ∃ z : Nat, pos = a + z := ⟨pos - a, by omega⟩
        have hz' : pos - a = z := by omega
        have hzi : ((pos : Nat) : Int) - (a : Nat) = (z : Nat) := by omega
        rw [hz'] at hun
        obtain ⟨fn, tmps, assign, body, hy, hR⟩ := hY pre (r, a, z) (wi.setCell ⟨W.heap.size, 2, none⟩ (.int .i64 z)) (hJ _ _ _ (hJ _ _ _ hj hbi) (below_one _ _ _)) ⟨_, hun.out⟩ (by have := hbi.size; simp [World.setCell]; omega)
        have c0 := hui.cell 0
        have c1 := hui.cell 1
        have c2 := hui.cell 2
        have f0 := hui.free 0
        have f1 := hui.free 1
        have f2 := hui.free 2
        simp only [List.getElem?_toArray, List.getElem?_cons_zero, List.getElem?_cons_succ] at c0 c1 c2
        clear hd hbt hr' hn' hdd hwi hu hj hz hz'
        gi_wp2
        refine hR.mono ?_
        rintro e W' (⟨rfl, hj', hk'⟩ | ⟨rfl, hjx'⟩)
        · have hzi' : W.heap.size + 1 < wi.heap.size := by have := hbi.size; omega
          have hub : Blk W' W.heap.size 109 (uv r a z) := (hk'.2 _ (.inl (Nat.le_refl _)) (by simp [World.setCell]; omega)).trans (hui.set_ 2 (.int .i64 z))
          have hib : W'.heap[W.heap.size + 1]? = some (.stringIter ⟨l.toArray⟩ (pos + n')) := (hk'.2 _ (.inl (by omega)) (by simp [World.setCell]; omega)).trans ((Below.heap_setCell _ _ _ _ (by simp)).trans hiti)
          have hsb : W'.cell? ⟨b0, 0, none⟩ = some (str l) :=
            (World.cell?_of_block (hk'.2 b0 (.inr rfl) (by simp [World.setCell]; omega))).trans (((below_one _ _ _).cell (p := ⟨b0, 0, none⟩) (by simp; omega)).trans ((hbi.cell (p := ⟨b0, 0, none⟩) (by simp; omega)).trans hcs))
          have c0 := hub.cell 0
          have c1 := hub.cell 1
          have c2 := hub.cell 2
          have f0 := hub.free 0
          have f1 := hub.free 1
          have f2 := hub.free 2
          simp only [List.getElem?_toArray, List.getElem?_cons_zero, List.getElem?_cons_succ] at c0 c1 c2
          gi_wp2
          go_roundw
          case rel =>
            refine ⟨pos + n', by omega, (set_three _ _ _ _ _ (by omega)).trans hib, ((below_three _ _ _ _ _).cell (p := ⟨b0, 0, none⟩) (by simp; omega)).trans hsb, .inr ⟨pre ++ [(r, a, z)], r', pos, by omega, (((hub.set_ 0 _).set_ 1 _).set_ 2 _), ?_, hJ _ _ _ hj' (below_three _ _ _ _ _)⟩⟩
            show _ = _
            rw [hun.out, huni, show pos + n' - pos = n' by omega]; simp
          case measure =>
            rw [iterPos_of ((set_three _ _ _ _ _ (by omega)).trans hib), iterPos_of hit]
            omega
        · gi_wp2
          refine bodyPost_ret (results_none rfl _ _ _) rfl ?_
          exact ⟨⟨_, rfl⟩, .inr ⟨pre ++ [(r, a, z)], ⟨un pos (l.drop pos), by rw [hun.out]; simp⟩, hjx'⟩⟩
    · have hpe : pos = l.length := by omega
      have hnx : ∀ ty, (Instr.next (.pointer (some ⟨W.heap.size + 1, 0, none⟩)) true ty).run Try.prog wr = .ok (.tuple #[.bool false]) wr := by
        intro ty
        exact Lib.run_next_end_at (P := Try.prog) wr (W.heap.size + 1) ⟨l.toArray⟩ pos ty hit (by show ¬ pos < l.toArray.size; simpa using hp)
      have hlr : l.drop pos = [] := List.drop_eq_nil_of_le (by omega)
      rcases hcase with ⟨rfl, hu, hj⟩ | ⟨pre, r, a, hap, hu, hun, hj⟩
      · have hnil : l = [] := List.eq_nil_of_length_eq_zero hpe.symm
        subst hnil
        have c0 := hu.cell 0
        have c1 := hu.cell 1
        have c2 := hu.cell 2
        have f0 := hu.free 0
        have f1 := hu.free 1
        have f2 := hu.free 2
        simp only [List.getElem?_toArray, List.getElem?_cons_zero, List.getElem?_cons_succ] at c0 c1 c2
        clear hu hpe
        gi_wp2
        go_end0
        exact ⟨⟨_, rfl⟩, .inl ⟨[], rfl, hJ _ _ _ hj (below_one _ _ _)⟩⟩
      · obtain ⟨z, hz⟩ : ∃ z : Nat, pos = a + z := ⟨pos - a, by omega⟩
        have hz' : pos - a = z := by omega
        have hzi : ((pos : Nat) : Int) - (a : Nat) = (z : Nat) := by omega
        have hzi2 : ((l.length : Nat) : Int) - (a : Nat) = (z : Nat) := by omega
        rw [hz', hlr, un_nil] at hun
        obtain ⟨fn, tmps, assign, body, hy, hR⟩ := hY pre (r, a, z) (wr.setCell ⟨W.heap.size, 2, none⟩ (.int .i64 z)) (hJ _ _ _ hj (below_one _ _ _)) ⟨_, hun.out⟩ (by simp [World.setCell]; omega)
        have c0 := hu.cell 0
        have c1 := hu.cell 1
        have c2 := hu.cell 2
        have f0 := hu.free 0
        have f1 := hu.free 1
        have f2 := hu.free 2
        simp only [List.getElem?_toArray, List.getElem?_cons_zero, List.getElem?_cons_succ] at c0 c1 c2
        clear hu hj hz hz' hpe
        gi_wp2
        refine hR.mono ?_
        rintro e W' (⟨rfl, hj', hk'⟩ | ⟨rfl, hjx'⟩)
        · gi_wp2
          go_end0
          exact ⟨⟨_, rfl⟩, .inl ⟨_, hun.out.symm, hj'⟩⟩
        · gi_wp2
          go_end0
          exact ⟨⟨_, rfl⟩, .inr ⟨_, ⟨[], by rw [hun.out]; simp⟩, hjx'⟩⟩
/-- unit.valid -/
theorem uvalid_any (r a z : Nat) (w : World) :
    Calls Try.prog 97 #[.agg (uv r a z)] w fun e w' => e = .returned (.bool (okT (r, a, z))) ∧ w.alloc (.cells (uv r a z) 109) = w' := by
  by_cases h : r = 65533
  · subst h
    go_enter Try.func97, Try.ntmps97
    go_wp2
    go_ret
    exact ⟨ret_bool (by unfold okT; rw [Bool.eq_iff_iff]; simp; omega), rfl⟩
  · have h1 : ((r : Int) != 65533) = true := by rw [bne_iff_ne]; omega
    go_enter Try.func97, Try.ntmps97
    go_wp2
    go_ret
    exact ⟨ret_bool (by unfold okT; simp [h]), rfl⟩

theorem units_any (l : List UInt8) (w : World) :
    Calls Try.prog 96 #[str l] w fun e w' => e = .returned (.func (.func 99) #[] #[.pointer (some ⟨w.heap.size, 0, none⟩)]) ∧ w.alloc (.cells #[str l] 9) = w' := by
  go_enter Try.func96, Try.ntmps96
  go_wp2
  go_ret
  exact ⟨rfl, rfl⟩

theorem cell_one (w : World) (v : Value) (t : TypeId) : (w.alloc (.cells #[v] t)).cell? ⟨w.heap.size, 0, none⟩ = some v := (Blk.new w t #[v]).cell 0

set_option maxRecDepth 100000 in
set_option maxHeartbeats 1000000 in
theorem valid_in (l : List UInt8) (hl : l.length ≤ 9223372036854775807) (w : World) :
    CallsIn Fence.wide 5 Try.prog 94 #[str l] w fun e W' => e = .returned (.bool (ok l)) ∧ Below w.heap.size w W' := by
  refine callsIn_of_wp_marks Try.func94 rfl trivial ?_ rfl
  simp only [Try.ntmps94, List.size_toArray, List.length_cons, List.length_nil, Nat.reduceAdd, Nat.reduceSub, Array.replicate_succ, Array.replicate_zero, List.push_toArray, List.append_toArray, List.nil_append, List.cons_append]
  gi_wp2_with (refine ⟨trivial, ?_⟩; gi_at_call 96; refine (callsIn_wide.2 (units_any l _)).mono ?_; rintro e w' ⟨rfl, rfl⟩)
  have hB0 : Below w.heap.size w ((w.alloc (.cells #[.bool false] 4)).alloc (.cells #[str l] 9)) := ((Below.refl _ w).alloc (Nat.le_refl _) _).alloc (by simp) _
  have hb1 : Blk ((w.alloc (.cells #[.bool false] 4)).alloc (.cells #[str l] 9)) w.heap.size 4 #[.bool false] := (Blk.new _ _ _).alloc _
  have hb2 : Blk ((w.alloc (.cells #[.bool false] 4)).alloc (.cells #[str l] 9)) (w.heap.size + 1) 9 #[str l] := by
    have := Blk.new (w.alloc (.cells #[.bool false] 4)) 9 #[str l]
    rwa [World.size_alloc] at this
  obtain ⟨W0, hW0⟩ : ∃ W0, (w.alloc (.cells #[.bool false] 4)).alloc (.cells #[str l] 9) = W0 := ⟨_, rfl⟩
  have hz0 : W0.heap.size = w.heap.size + 2 := by rw [← hW0]; simp
  simp only [hW0] at hB0 hb1 hb2 ⊢
  refine range_law (n := 5) (encs := encU) (ps := #[6]) (by omega) (gf := 99) (lb := #[.pointer (some ⟨w.heap.size + 1, 0, none⟩)]) rfl (enters_of Try.func99 (by kernel_rfl) rfl)
    (keep := (· = w.heap.size + 1)) (by rintro k rfl; omega) (units1_gives 4 (by omega) l hl (w.heap.size + 1) W0 (by omega) (hb2.cell 0)) (fun _ => rfl)
    (fun pre W => Hid (pre.all okT = true) ∧ Below w.heap.size w W ∧ Blk W w.heap.size 4 #[.bool false])
    (fun c pre W => c = .ret ∧ Hid (pre.all okT = false) ∧ Below w.heap.size w W ∧ Blk W w.heap.size 4 #[.bool false])
    (fun s A C hs hb => ⟨hs.1, hs.2.1.trans (hb.mono (by omega)), (hb.block _ (by omega)).trans hs.2.2⟩)
    (fun c s A C hs hb => ⟨hs.1, hs.2.1, hs.2.2.1.trans (hb.mono (by omega)), (hb.block _ (by omega)).trans hs.2.2.2⟩)
    ⟨rfl, hB0, hb1⟩
    (fun x a' W => ∃ g, Blk W g 109 (uv x.1 x.2.1 x.2.2) ∧ a' = { tmps := #[str l, undef, .pointer (some ⟨w.heap.size, 0, none⟩), .pointer (some ⟨g, 0, none⟩), str l, .func (.func 99) #[] #[.pointer (some ⟨w.heap.size + 1, 0, none⟩)], .agg (uv x.1 x.2.1 x.2.2), undef, undef, undef], defers := [] })
    ?hAx ?assign ?body ?done ?stop
  case hAx =>
    rintro x a' W lp o o' ⟨g, hg, rfl⟩ hlp
    refine ⟨g, (World.putObj_heap_other ?_).trans hg, rfl⟩
    rintro rfl
    unfold Blk at hg
    rw [hlp] at hg; cases hg
  case assign =>
    rintro lp pre x W K ⟨h1, h2, h3⟩ hz hK
    gi_wp2
    exact hK _ _ (From.alloc _ _ _) ⟨h1, h2.alloc h2.size _, h3.alloc _⟩ ⟨W.heap.size, Blk.new _ _ _, rfl⟩
  case body =>
    rintro lp pre ⟨r, a, z⟩ a' W ⟨h1, h2, h3⟩ ⟨g, hg, rfl⟩ hnx hz
    have c0 := hg.cell 0
    have c1 := hg.cell 1
    have c2 := hg.cell 2
    have r0 := (h3.alloc (.cells (uv r a z) 109)).cell 0
    have rf := (h3.alloc (.cells (uv r a z) 109)).free 0
    simp only [List.getElem?_toArray, List.getElem?_cons_zero, List.getElem?_cons_succ] at c0 c1 c2 r0
    have hz2 := h2.size
    cases hk : okT (r, a, z) with
    | true =>
      gi_wp2_with (refine ⟨trivial, ?_⟩; gi_at_call 97; refine (CallsIn.inRound lp (callsIn_wide.2 (uvalid_any _ _ _ _))).mono ?_; rintro e w' ⟨rfl, rfl⟩)
      refine ⟨From.alloc _ _ _, ?_, h2.alloc h2.size _, h3.alloc _⟩
      show _ = _
      rw [List.all_append, h1.out]; simp [hk]
    | false =>
      gi_wp2_with (refine ⟨trivial, ?_⟩; gi_at_call 97; refine (CallsIn.inRound lp (callsIn_wide.2 (uvalid_any _ _ _ _))).mono ?_; rintro e w' ⟨rfl, rfl⟩)
      refine ⟨(From.alloc _ _ _).trans (From.setCell _ _ _ ?_), rfl, ?_, (h2.alloc h2.size _).setCell (p := ⟨w.heap.size, 0, none⟩) (Nat.le_refl _) _, (h3.alloc _).set_ 0 _⟩
      · rintro (h | h) <;> simp at h; omega
      · show _ = _
        rw [List.all_append]; simp [hk]
  case done =>
    rintro D xs W hD rfl ⟨h1, h2, h3⟩ hK
    have r0 := h3.cell 0
    have rf := h3.free 0
    simp only [List.getElem?_toArray, List.getElem?_cons_zero] at r0
    gi_wp2
    have hne : D ≠ w.heap.size := by omega
    have hK' : (W.setCell ⟨w.heap.size, 0, none⟩ (.bool true)).heap[D]? = some (.deferred (some [])) := (Below.heap_setCell _ _ _ _ hne).trans hK
    have hc : ((W.setCell ⟨w.heap.size, 0, none⟩ (.bool true)).putObj D (.deferred none)).cell? ⟨w.heap.size, 0, none⟩ = some (.bool true) :=
      (World.cell?_of_block (World.putObj_heap_other hne.symm)).trans ((h3.set_ 0 _).cell 0)
    refine ⟨by simp, .inl ⟨_, _, rfl, run_takeDeferred hK', .bool true, ?_, ret_bool (by rw [← un_ok 0 l, h1.out]), ?_⟩⟩
    · simp [results, Try.f94, go_sem, hc]
    · exact (h2.setCell (p := ⟨w.heap.size, 0, none⟩) (Nat.le_refl _) _).trans (below_putObj _ _ (by omega))
  case stop =>
    rintro D c pre W hD hpre ⟨rfl, h1, h2, h3⟩ hK
    gi_wp2
    have hne : D ≠ w.heap.size := by omega
    have hc : (W.putObj D (.deferred none)).cell? ⟨w.heap.size, 0, none⟩ = some (.bool false) :=
      (World.cell?_of_block (World.putObj_heap_other hne.symm)).trans (h3.cell 0)
    refine ⟨by simp, .inl ⟨_, _, rfl, run_takeDeferred hK, .bool false, ?_, ret_bool ?_, ?_⟩⟩
    · simp [results, Try.f94, go_sem, hc]
    · obtain ⟨post, hp⟩ := hpre
      rw [← un_ok 0 l, ← hp, List.all_append, h1.out]; rfl
    · exact h2.trans (below_putObj _ _ (by omega))

theorem valid_any (l : List UInt8) (hl : l.length ≤ 9223372036854775807) (w : World) :
    Calls Try.prog 94 #[str l] w fun e W' => e = .returned (.bool (ok l)) ∧ Below w.heap.size w W' := callsIn_wide.1 (valid_in l hl w)
end Go.Proofs.Ytaihgoohmcipkaa
