/-
  The contract of the reference's allHeads: the heads and relations of a valid corpus, or those of a corpus without. Condition: the corpus is valid.
-/
import Derived.Test.YtaihgoohmcipkaaCorHds
import Derived.Test.YtaihgoohmcipkaaCorNodW
namespace Go.Proofs.Ytaihgoohmcipkaa
set_option linter.unusedSimpArgs false
set_option linter.unusedVariables false
open Go.RowKit Utf
open Feat (Bs)

theorem made_strs (n : Nat) (hn : n ≤ 1048576) (W : World) :
    (Instr.makeSlice 28 (.int .i64 (n : Int)) (.int .i64 (n : Int))).run Try.prog W = .ok (.slice (some ⟨W.heap.size, 0, none⟩) n n) (W.alloc (.cells (strs (List.replicate n [])).toArray 9)) := by
  obtain ⟨i0, hi0, hz0, hz1, hz2⟩ := info_parts info_string
  have hr := run_make (P := Try.prog) W 28 9 i0 _ Try.underlying28 hi0 hz0 .i64 .i64 n n (by omega) (Int.le_refl _) (by rw [hz2]; omega) (by omega)
  rw [hr, hz1]
  simp only [Int.toNat_natCast, Nat.mul_one]
  have : madeCells (Value.cells (.string ⟨#[]⟩)) n = (strs (List.replicate n [])).toArray := by
    have e := toList_madeCells_one (.string ⟨#[]⟩) n
    unfold strs
    rw [List.map_replicate]
    show madeCells #[.string ⟨#[]⟩] n = (List.replicate n (Value.string ⟨#[]⟩)).toArray
    rw [← e]
  rw [this]
/-- Heads and relations handed back. -/
def Both (b : Cor.C) (w : World) (e : Ending) (w' : World) : Prop :=
  ∃ h l : Hd, e = .returned (.tuple #[h.v, l.v]) ∧ Nums w' w'.heap.size h (Cor.allH b) ∧ Words w' w'.heap.size l (Cor.allL b) ∧ Below w.heap.size w w'
theorem sl_ints {w : World} {g n : Nat} {l : List Int} (h : Blk w g 3 (ints l).toArray) (hl : l.length = n) (hn : n ≤ 9223372036854775807) (hr : ∀ x ∈ l, Rng x) : Nums w w.heap.size ⟨some ⟨g, 0, none⟩, n, n⟩ l :=
  ⟨⟨Nat.le_refl _, hn⟩, ⟨by rw [ints_len, hl]; simp, fun _ => ⟨g, 0, rfl, h.lt, fun j u hj => (h.cell (0 + j)).trans (by simpa using hj)⟩⟩, hr⟩
theorem sl_strs {w : World} {g n : Nat} {l : List Bs} (h : Blk w g 9 (strs l).toArray) (hl : l.length = n) (hn : n ≤ 9223372036854775807) (hr : ∀ x ∈ l, Len x) : Words w w.heap.size ⟨some ⟨g, 0, none⟩, n, n⟩ l :=
  ⟨⟨Nat.le_refl _, hn⟩, ⟨by unfold strs; simp [hl], fun _ => ⟨g, 0, rfl, h.lt, fun j u hj => (h.cell (0 + j)).trans (by simpa using hj)⟩⟩, hr⟩

set_option maxRecDepth 100000 in
set_option maxHeartbeats 4000000 in
theorem allHeads_any (H : CH) (b : Cor.C) (w : World) (hr : Reads w w.heap.size H b) (hv : Vd b) : Calls Try.prog 70 #[H.v] w (Both b w) := by
  obtain ⟨⟨Aa, na, ca⟩, ⟨At, nt, ct⟩, ⟨Ax, nx, cx⟩, ⟨Ar, nr, cr⟩, ⟨An, nn, cn⟩, ⟨Ah, nh, ch⟩, ⟨Al, nl, cl⟩⟩ := H
  show Calls Try.prog 70 #[.agg #[.slice Aa na ca, .slice At nt ct, .slice Ax nx cx, .slice Ar nr cr, .slice An nn cn, .slice Ah nh ch, .slice Al nl cl]] w _
  have hhr : Nums w w.heap.size ⟨Ah, nh, ch⟩ b.heads := hr.h
  have hlr : Words w w.heap.size ⟨Al, nl, cl⟩ b.rels := hr.l
  have hrt : b.toks.length = nt := hr.t.len
  have hnt : nt ≤ 4096 := by rw [← hrt]; exact hv.tkl.1
  have HHL : Hid (b.heads.length = nh) := hhr.len
  have hdl := hv.hdl
  have hnh : nh ≤ 4096 := by have := HHL.out; omega
  have hBA := (Below.refl w.heap.size w).alloc (Nat.le_refl _) (.cells #[.slice Aa na ca, .slice At nt ct, .slice Ax nx cx, .slice Ar nr cr, .slice An nn cn, .slice Ah nh ch, .slice Al nl cl] 30)
  have bx := Blk.new w 30 #[.slice Aa na ca, .slice At nt ct, .slice Ax nx cx, .slice Ar nr cr, .slice An nn cn, .slice Ah nh ch, .slice Al nl cl]
  by_cases hz : nh = 0
  · have e1 : b.heads = [] := List.eq_nil_of_length_eq_zero (by have := HHL.out; omega)
    have HA1 : Hid (Cor.allH b = List.replicate nt (-1)) := by show _ = _; unfold Cor.allH; rw [e1, if_neg (by simp), hrt]
    have HA2 : Hid (Cor.allL b = List.replicate nt []) := by show _ = _; unfold Cor.allL; rw [e1, if_neg (by simp), hrt]
    subst hz
    have hmk := made_ints nt (by omega)
    have hms := made_strs nt (by omega)
    have b1 := Blk.new (w.alloc (.cells #[.slice Aa na ca, .slice At nt ct, .slice Ax nx cx, .slice Ar nr cr, .slice An nn cn, .slice Ah 0 ch, .slice Al nl cl] 30)) 3 (ints (List.replicate nt 0)).toArray
    rw [World.size_alloc] at b1
    have hB2 := hBA.alloc hBA.size (.cells (ints (List.replicate nt 0)).toArray 3)
    have bx2 := bx.alloc (.cells (ints (List.replicate nt 0)).toArray 3)
    clear hdl e1 hrt hhr hlr bx hr hv
    go_enter Try.func70, Try.ntmps70
    go_wp2
    go_loopw [20] (fun iv wr => ∃ j : Nat, j ≤ nt ∧ iv = .int .i64 j ∧ Below w.heap.size w wr ∧ Blk wr w.heap.size 30 #[.slice Aa na ca, .slice At nt ct, .slice Ax nx cx, .slice Ar nr cr, .slice An nn cn, .slice Ah 0 ch, .slice Al nl cl] ∧ Blk wr (w.heap.size + 1) 3 (ints (List.replicate j (-1) ++ List.replicate (nt - j) 0)).toArray) (fun iv _ => nt - (intOf iv).toNat)
    case atStart => exact ⟨0, Nat.zero_le _, rfl, hB2, bx2, b1⟩
    case round =>
      obtain ⟨j, hj, rfl, hB, bX, bI⟩ := hrel
      by_cases hlt : j < nt
      · have c1 : wr.cell? ⟨w.heap.size + 1, j, none⟩ = some (.int .i64 0) := by
          rw [bI.cell j, List.getElem?_toArray]
          unfold ints
          rw [List.getElem?_map, List.getElem?_append_right (by simp), List.length_replicate, Nat.sub_self, List.getElem?_replicate, if_pos (by omega)]; rfl
        have c2 := bI.free j
        have hse : (List.replicate j (-1 : Int) ++ List.replicate (nt - j) 0).set j (-1) = List.replicate (j + 1) (-1) ++ List.replicate (nt - (j + 1)) 0 := by
          rw [List.set_append_right _ _ (by simp), List.length_replicate, Nat.sub_self, show nt - j = nt - (j + 1) + 1 by omega, List.replicate_succ, List.set_cons_zero, List.replicate_succ', List.append_assoc]; rfl
        have bn := bI.seti j (-1)
        rw [hse] at bn
        have hB3 := hB.setCell (p := ⟨w.heap.size + 1, j, none⟩) (by show w.heap.size ≤ w.heap.size + 1; omega) (.int .i64 (-1))
        have bX3 := Blk.other (p := ⟨w.heap.size + 1, j, none⟩) bX (by show w.heap.size + 1 ≠ w.heap.size; omega) (.int .i64 (-1))
        go_wp2
        go_roundw
        case rel => exact ⟨j + 1, by omega, by go_num, hB3, bX3, bn⟩
        case measure => simp [intOf]; omega
      · obtain rfl : nt = j := by omega
        rw [Nat.sub_self, List.replicate_zero, List.append_nil] at bI
        have q1 : _ = some (Value.slice At nt ct) := bX.cell 1
        have HI := Lib.hid bI
        have HB := Lib.hid hB
        clear bI hB bX
        go_upto_region 9 with (fail)
        go_region_held3 (fun W => W.cell? ⟨w.heap.size, 1, none⟩ = some (.slice At nt ct)) (first | go_keep) (fail)
        go_wp2
        go_ret2
        have bI : Blk (wr.alloc (.cells (strs (List.replicate nt [])).toArray 9)).drew (w.heap.size + 1) 3 (ints (List.replicate nt (-1))).toArray := HI.out.alloc _
        have bS : Blk (wr.alloc (.cells (strs (List.replicate nt [])).toArray 9)).drew wr.heap.size 9 (strs (List.replicate nt [])).toArray := Blk.new wr _ _
        refine ⟨⟨some ⟨w.heap.size + 1, 0, none⟩, nt, nt⟩, ⟨some ⟨wr.heap.size, 0, none⟩, nt, nt⟩, rfl, ?_, ?_, (HB.out.alloc HB.out.size _).drew⟩
        · rw [HA1.out]; exact sl_ints bI (by simp) (by omega) (fun x hx => by have := List.eq_of_mem_replicate hx; subst this; unfold Rng; omega)
        · rw [HA2.out]; exact sl_strs bS (by simp) (by omega) (fun x hx => by have := List.eq_of_mem_replicate hx; subst this; unfold Len; simp)
  · have HA1 : Hid (Cor.allH b = b.heads) := by show _ = _; unfold Cor.allH; rw [if_pos (by have : b.heads.length = nh := HHL.out; omega)]
    have HA2 : Hid (Cor.allL b = b.rels) := by show _ = _; unfold Cor.allL; rw [if_pos (by have : b.heads.length = nh := HHL.out; omega)]
    have hzd : decide ((0 : Int) < (nh : Int)) = true := by simp; omega
    have hzd2 : decide (0 < nh) = true := by simp; omega
    have q5 : _ = some (Value.slice Ah nh ch) := bx.cell 5
    have q6 : _ = some (Value.slice Al nl cl) := bx.cell 6
    clear hdl hrt hr hv
    go_enter Try.func70, Try.ntmps70
    go_upto_region 2 with (fail)
    go_quiet (fail)
    go_wp2
    go_ret2
    have hb9 := below_drewN hBA nq
    exact ⟨⟨Ah, nh, ch⟩, ⟨Al, nl, cl⟩, rfl, by rw [HA1.out]; exact (hhr.under hb9).up hb9.size, by rw [HA2.out]; exact (hlr.under hb9).up hb9.size, hb9⟩
end Go.Proofs.Ytaihgoohmcipkaa
