/-
  The contract of appendHeads: heads and relations are appended to those of a corpus of the caller's own. Conditions: the corpus appended is valid and lies below; the lengths are bounded.
-/
import Derived.Test.YtaihgoohmcipkaaCorCatP
import Derived.BigQuiet
import Derived.Deep.QuietTactic
import Derived.Deep.RegionLaw
import Derived.Deep.CutRange
import Derived.Deep.CutBlock
import Derived.Deep.RegionHeld3
namespace Go.Proofs.Ytaihgoohmcipkaa
set_option linter.unusedSimpArgs false
set_option linter.unusedVariables false
open Go.RowKit Utf
open Feat (Bs)

theorem allH_len {b : Cor.C} (v : Vd b) : (Cor.allH b).length = b.toks.length ∧ (Cor.allL b).length = b.toks.length := by
  have h := v.hdl
  unfold Cor.allH Cor.allL
  split
  · constructor <;> omega
  · simp
theorem allH_range {b : Cor.C} (v : Vd b) {j : Nat} (hj : j < b.heads.length) : -1 ≤ b.heads[j] ∧ b.heads[j] ≤ 4096 := by
  have hl := v.hdl
  have ht := v.tkl.1
  have hx := v.hz j hj
  unfold Cor.hdF at hx
  have hr : b.rels[j]? = some (b.rels[j]'(by omega)) := List.getElem?_eq_getElem _
  rw [List.getElem?_eq_getElem hj, hr] at hx
  simp only [] at hx
  by_cases h1 : b.heads[j] = -1
  · omega
  · split at hx
    · omega
    · rename_i h2
      refine ⟨?_, ?_⟩
      · refine Classical.byContradiction fun h => h2 ⟨h1, .inl (by omega)⟩
      · refine Classical.byContradiction fun h => h2 ⟨h1, .inr (.inl (by omega))⟩

set_option maxRecDepth 100000 in
set_option maxHeartbeats 16000000 in
theorem appendHeads_any (w0 wo w : World) (gd : Nat) (v0 v1 v2 v3 v4 : Value) (Eh El : Hd) (hs : List Int) (ls : List Bs) (H : CH) (b : Cor.C) (y : Nat) (hT : HeadT w0 wo w gd v0 v1 v2 v3 v4 Eh El hs ls) (hwd : w0.heap.size ≤ gd) (hwo : w0.heap.size ≤ wo.heap.size)
    (hr : Reads w0 w0.heap.size H b) (hv : Vd b) (hy : y ≤ 4096) (hl : hs.length ≤ 4096 ∧ ls.length ≤ 4096) :
    Calls Try.prog 69 #[.pointer (some ⟨gd, 0, none⟩), H.v, .int .i64 (y : Nat)] w (fun e w' => e = .returned (.tuple #[]) ∧ ∃ Eh El : Hd, HeadT w0 wo w' gd v0 v1 v2 v3 v4 Eh El (hs ++ (Cor.allH b).map (Cor.mvH (y : Nat))) (ls ++ Cor.allL b)) := by
  obtain ⟨⟨Aa, na, ca⟩, ⟨At, nt, ct⟩, ⟨Ax, nx, cx⟩, ⟨Ar, nr, cr⟩, ⟨An, nn, cn⟩, ⟨Ah, nh, ch⟩, ⟨Al, nl, cl⟩⟩ := H
  show Calls Try.prog 69 #[.pointer (some ⟨gd, 0, none⟩), .agg #[.slice Aa na ca, .slice At nt ct, .slice Ax nx cx, .slice Ar nr cr, .slice An nn cn, .slice Ah nh ch, .slice Al nl cl], .int .i64 (y : Nat)] w _
  have hgw : gd < w.heap.size := hT.blk.lt
  have hne : w.heap.size ≠ gd := by omega
  have HV := Lib.hid hv
  have hrt : b.toks.length = nt := hr.t.len
  have hhr : Nums w0 w0.heap.size ⟨Ah, nh, ch⟩ b.heads := hr.h
  have hlr : Words w0 w0.heap.size ⟨Al, nl, cl⟩ b.rels := hr.l
  have HHL := Lib.hid hhr.len
  have HLL := Lib.hid hlr.len
  have HAH : Hid ((Cor.allH b).length = nt) := (allH_len hv).1.trans hrt
  have HAL : Hid ((Cor.allL b).length = nt) := (allH_len hv).2.trans hrt
  have hnt : nt ≤ 4096 := by rw [← hrt]; exact hv.tkl.1
  have hdl := hv.hdl
  have BC := Lib.hid (fun (W : World) (h : OffG gd (w.alloc (.cells #[.slice Aa na ca, .slice At nt ct, .slice Ax nx cx, .slice Ar nr cr, .slice An nn cn, .slice Ah nh ch, .slice Al nl cl] 30)) W) => Blk.offG (Blk.new w 30 #[.slice Aa na ca, .slice At nt ct, .slice Ax nx cx, .slice Ar nr cr, .slice An nn cn, .slice Ah nh ch, .slice Al nl cl]) h hne)
  have T0 : Hid (HeadT w0 wo (w.alloc (.cells #[.slice Aa na ca, .slice At nt ct, .slice Ax nx cx, .slice Ar nr cr, .slice An nn cn, .slice Ah nh ch, .slice Al nl cl] 30)) gd v0 v1 v2 v3 v4 Eh El (hs ++ ((Cor.allH b).take 0).map (Cor.mvH (y : Nat))) (ls ++ (Cor.allL b).take 0)) := by
    show HeadT _ _ _ _ _ _ _ _ _ _ _ _ _
    rw [List.take_zero, List.take_zero, List.map_nil, List.append_nil, List.append_nil]
    exact hT.alloc _
  obtain ⟨i5, hi5, hz50, hz51, hz52⟩ := info_parts info_int
  obtain ⟨i1, hi1, hz10, hz11, hz12⟩ := info_parts info_string
  clear hT hr hv
  by_cases hz : nh = 0
  · have e1 : b.heads = [] := List.eq_nil_of_length_eq_zero (by have : b.heads.length = nh := HHL.out; omega)
    have HA1 : Hid (Cor.allH b = List.replicate nt (-1)) := by show _ = _; unfold Cor.allH; rw [e1, if_neg (by simp), hrt]
    have HA2 : Hid (Cor.allL b = List.replicate nt []) := by show _ = _; unfold Cor.allL; rw [e1, if_neg (by simp), hrt]
    subst hz
    clear hdl e1 hrt
    go_enter Try.func69, Try.ntmps69
    go_wp2
    go_loopw [12] (fun iv wr => ∃ j : Nat, j ≤ nt ∧ iv = .int .i64 j ∧ ∃ Eh El : Hd, OffG gd (w.alloc (.cells #[.slice Aa na ca, .slice At nt ct, .slice Ax nx cx, .slice Ar nr cr, .slice An nn cn, .slice Ah 0 ch, .slice Al nl cl] 30)) wr ∧ HeadT w0 wo wr gd v0 v1 v2 v3 v4 Eh El (hs ++ ((Cor.allH b).take j).map (Cor.mvH (y : Nat))) (ls ++ (Cor.allL b).take j)) (fun iv _ => nt - (intOf iv).toNat)
    case atStart => exact ⟨0, Nat.zero_le _, rfl, _, _, OffG.refl _ _, T0.out⟩
    case round =>
      obtain ⟨j, hj, rfl, ⟨EA, en, ec⟩, ⟨LA, ln, lc⟩, hG, hT⟩ := hrel
      by_cases hlt : j < nt
      · have q5 : _ = some (Value.slice Ah 0 ch) := (BC.out _ hG).cell 5
        have hen : en ≤ 8192 := by
          have h2 : (hs ++ ((Cor.allH b).take j).map (Cor.mvH (y : Nat))).length = en := by have := (own_sl hT.h.1).ilen; exact this
          rw [List.length_append, List.length_map, List.length_take] at h2
          have := HAH.out
          omega
        have hln : ln ≤ 8192 := by
          have h2 : (ls ++ (Cor.allL b).take j).length = ln := Sl.len (own_sl hT.l.1)
          rw [List.length_append, List.length_take] at h2
          have := HAL.out
          omega
        have HJ : Hid (((Cor.allH b).take (j + 1)).map (Cor.mvH (y : Nat)) = ((Cor.allH b).take j).map (Cor.mvH (y : Nat)) ++ [Cor.mvH (y : Nat) (-1)]) := by
          show _ = _
          rw [HA1.out, List.take_replicate, List.take_replicate, show min (j + 1) nt = min j nt + 1 by omega, List.replicate_succ', List.map_append]; rfl
        have HK : Hid ((Cor.allL b).take (j + 1) = (Cor.allL b).take j ++ [[]]) := by
          show _ = _
          rw [HA2.out, List.take_replicate, List.take_replicate, show min (j + 1) nt = min j nt + 1 by omega, List.replicate_succ']
        have HZ : Hid (Cor.mvH (y : Nat) (-1) = -1) := by show _ = _; unfold Cor.mvH; rw [if_neg (by omega)]
        have RZ : Hid (Rng (-1)) := by show Rng (-1); unfold Rng; omega
        have HLS : Hid (Len []) := by show Len []; unfold Len; simp
        obtain ⟨wq, rfl⟩ : ∃ wq : World, wq = wr := ⟨_, rfl⟩
        have HT := Lib.hid hT
        have HG := Lib.hid hG
        clear hT hG
        have bd : Blk wq gd 30 #[v0, v1, v2, v3, v4, .slice EA en ec, .slice LA ln lc] := HT.out.blk
        have y5 := bd.cell 5
        have z5 := bd.free 5
        have hoa := HT.out.h.1.alloc (.cells #[.int .i64 (-1)] 3)
        have hBW := HT.out.size
        go_upto_region 10 with (at_builtin; refine wpList_app _ rfl (.tmp 38) (.tmp 40) _ rfl wo.heap.size 3 i5 _ 1 8 Try.underlying27 hi5 hz50 hz51 hz52 rfl (by decide) (.slice EA en ec) en (ints (hs ++ ((Cor.allH b).take j).map (Cor.mvH (y : Nat)))) rfl hoa (some ⟨wq.heap.size, 0, none⟩) 1 1 [.int .i64 (-1)] rfl rfl (fun _ => ⟨_, rfl, news_new wq 3 [.int .i64 (-1)]⟩) (fun u hu => (by simp at hu; subst hu; rfl)) (by unfold maxLen; omega) (by omega) (HT.out.alloc (.cells #[.int .i64 (-1)] 3)).size ?_; intro v5 w5 own5 gr5 _; obtain ⟨A5, c5, rfl, -, -⟩ := own_slc own5; have b5 := (bd.alloc (.cells #[.int .i64 (-1)] 3)).off (Off.grown hoa gr5) (by decide); have w5y := b5.cell 5; have w5z := b5.free 5)
        have HT7 : HeadT w0 wo (w5.setCell ⟨gd, 5, none⟩ (.slice A5 (en + 1) c5)) gd v0 v1 v2 v3 v4 ⟨A5, en + 1, c5⟩ ⟨LA, ln, lc⟩ (hs ++ ((Cor.allH b).take j).map (Cor.mvH (y : Nat)) ++ [(-1)]) (ls ++ (Cor.allL b).take j) := (HT.out.alloc _).head hwd hwo RZ.out own5 gr5
        have HG7 : OffG gd (w.alloc (.cells #[.slice Aa na ca, .slice At nt ct, .slice Ax nx cx, .slice Ar nr cr, .slice An nn cn, .slice Ah 0 ch, .slice Al nl cl] 30)) (w5.setCell ⟨gd, 5, none⟩ (.slice A5 (en + 1) c5)) := ((HG.out.trans ((Off.alloc (R := 4294967295) wq (.cells #[.int .i64 (-1)] 3)).offG (by decide))).trans ((Off.grown hoa gr5).offG (by decide))).trans (OffG.set_ gd 5 _)
        clear own5 gr5 hoa b5 w5y w5z y5 z5 bd
        generalize (w5.setCell ⟨gd, 5, none⟩ (.slice A5 (en + 1) c5)) = w7 at HT7 HG7 ⊢
        have bd7 : Blk w7 gd 30 #[v0, v1, v2, v3, v4, .slice A5 (en + 1) c5, .slice LA ln lc] := HT7.blk
        have y6 := bd7.cell 6
        have z6 := bd7.free 6
        have hoa7 := HT7.l.1.alloc (.cells #[str []] 9)
        have hB7 := HT7.size
        go_wp2_with (at_builtin; refine wpList_app _ rfl (.tmp 48) (.tmp 50) _ rfl wo.heap.size 9 i1 _ 1 16 Try.underlying28 hi1 hz10 hz11 hz12 rfl (by decide) (.slice LA ln lc) ln (strs (ls ++ (Cor.allL b).take j)) rfl hoa7 (some ⟨w7.heap.size, 0, none⟩) 1 1 [str []] rfl rfl (fun _ => ⟨_, rfl, news_new w7 9 [str []]⟩) (fun u hu => (by simp at hu; subst hu; rfl)) (by unfold maxLen; omega) (by omega) (HT7.alloc (.cells #[str []] 9)).size ?_; intro v8 w8 own8 gr8 _; obtain ⟨A8, c8, rfl, -, -⟩ := own_slc own8; have b8 := (bd7.alloc (.cells #[str []] 9)).off (Off.grown hoa7 gr8) (by decide); have w8y := b8.cell 6; have w8z := b8.free 6)
        go_roundw
        case rel =>
          have T9 := (HT7.alloc (.cells #[str []] 9)).rel hwd hwo HLS.out own8 gr8
          have HG9 := ((HG7.trans ((Off.alloc (R := 4294967295) w7 (.cells #[str []] 9)).offG (by decide))).trans ((Off.grown hoa7 gr8).offG (by decide))).trans (OffG.set_ gd 6 (.slice A8 (ln + 1) c8))
          refine ⟨j + 1, by omega, by go_num, ⟨A5, en + 1, c5⟩, ⟨A8, ln + 1, c8⟩, HG9, ?_⟩
          rw [HJ.out, HK.out, HZ.out, ← List.append_assoc, ← List.append_assoc]
          exact T9
        case measure => simp [intOf]; omega
      · obtain rfl : nt = j := by omega
        have HT := Lib.hid hT
        clear hT hG
        go_wp2
        refine bodyPost_end (v := .tuple #[]) (results_none rfl _ _ _) rfl ?_
        have h9 := HT.out
        rw [List.take_of_length_le (by have := HAH.out; omega), List.take_of_length_le (by have := HAL.out; omega)] at h9
        exact ⟨rfl, _, _, h9⟩
  · have hnh : nh = nt := by
      have h1 : b.heads.length = nh := HHL.out
      omega
    have hnl : nl = nt := by
      have h1 : b.heads.length = nh := HHL.out
      have h2 : b.rels.length = nl := HLL.out
      omega
    obtain rfl : nt = nh := hnh.symm
    obtain rfl : nt = nl := hnl.symm
    have HA1 : Hid (Cor.allH b = b.heads) := by show _ = _; unfold Cor.allH; rw [if_pos (by have : b.heads.length = nt := HHL.out; omega)]
    have HA2 : Hid (Cor.allL b = b.rels) := by show _ = _; unfold Cor.allL; rw [if_pos (by have : b.heads.length = nt := HHL.out; omega)]
    have hzd : decide ((0 : Int) < (nt : Int)) = true := by simp; omega
    have hzd2 : decide (0 < nt) = true := by simp; omega
    clear hdl hrt hnh hnl
    go_enter Try.func69, Try.ntmps69
    go_wp2
    go_loopw [12] (fun iv wr => ∃ j : Nat, j ≤ nt ∧ iv = .int .i64 j ∧ ∃ Eh El : Hd, OffG gd (w.alloc (.cells #[.slice Aa na ca, .slice At nt ct, .slice Ax nx cx, .slice Ar nr cr, .slice An nn cn, .slice Ah nt ch, .slice Al nt cl] 30)) wr ∧ HeadT w0 wo wr gd v0 v1 v2 v3 v4 Eh El (hs ++ ((Cor.allH b).take j).map (Cor.mvH (y : Nat))) (ls ++ (Cor.allL b).take j)) (fun iv _ => nt - (intOf iv).toNat)
    case atStart => exact ⟨0, Nat.zero_le _, rfl, _, _, OffG.refl _ _, T0.out⟩
    case round =>
      obtain ⟨j, hj, rfl, ⟨EA, en, ec⟩, ⟨LA, ln, lc⟩, hG, hT⟩ := hrel
      by_cases hlt : j < nt
      · have q5 : _ = some (Value.slice Ah nt ch) := (BC.out _ hG).cell 5
        have q6 : _ = some (Value.slice Al nt cl) := (BC.out _ hG).cell 6
        have hen : en ≤ 8192 := by
          have h2 : (hs ++ ((Cor.allH b).take j).map (Cor.mvH (y : Nat))).length = en := by have := (own_sl hT.h.1).ilen; exact this
          rw [List.length_append, List.length_map, List.length_take] at h2
          have := HAH.out
          omega
        have hln : ln ≤ 8192 := by
          have h2 : (ls ++ (Cor.allL b).take j).length = ln := Sl.len (own_sl hT.l.1)
          rw [List.length_append, List.length_take] at h2
          have := HAL.out
          omega
        obtain ⟨gh, oh, hk2, e2, hg1, hrg, d0⟩ := hhr.at_ (k := j) (show j < nt from hlt)
        have e2 : Ah = some ⟨gh, oh, none⟩ := e2
        subst e2
        obtain ⟨gl, ol, hk3, e3, hg2, hls, d1⟩ := hlr.at_ (k := j) (show j < nt from hlt)
        have e3 : Al = some ⟨gl, ol, none⟩ := e3
        subst e3
        have hB := hT.below
        replace d0 := (hB.cell (p := ⟨gh, _, none⟩) hg1).trans d0
        replace d1 := (hB.cell (p := ⟨gl, _, none⟩) hg2).trans d1
        have hra := allH_range HV.out hk2
        obtain ⟨hd, hhd⟩ : ∃ x, b.heads[j] = x := ⟨_, rfl⟩
        obtain ⟨s, hs'⟩ : ∃ x, b.rels[j] = x := ⟨_, rfl⟩
        have HJ : Hid (((Cor.allH b).take (j + 1)).map (Cor.mvH (y : Nat)) = ((Cor.allH b).take j).map (Cor.mvH (y : Nat)) ++ [Cor.mvH (y : Nat) hd]) := by
          show _ = _
          rw [HA1.out, List.take_succ_eq_append_getElem hk2, hhd, List.map_append]; rfl
        have HK : Hid ((Cor.allL b).take (j + 1) = (Cor.allL b).take j ++ [s]) := by
          show _ = _
          rw [HA2.out, List.take_succ_eq_append_getElem hk3, hs']
        rw [hhd] at d0 hra
        rw [hs'] at d1 hls
        have HLS := Lib.hid hls
        have HT := Lib.hid hT
        have HG := Lib.hid hG
        clear hhd hs' hls hB hrg hT hG
        go_upto_region 6 with (fail)
        go_quiet (fail)
        have HT := Lib.hid (HT.out.bel (below_drewN (Below.refl _ _) nq))
        have HG := Lib.hid (HG.out.trans ((Off.drewN (R := 4294967295) wr nq).offG (by decide)))
        clear q5 q6 d0 d1
        generalize wr.drewN nq = wq at HT HG ⊢
        by_cases hhz : 0 ≤ hd
        · have HZ : Hid (Cor.mvH (y : Nat) hd = hd + (y : Nat)) := by show _ = _; unfold Cor.mvH; rw [if_pos hhz]
          have RZ : Hid (Rng (hd + (y : Nat))) := by show Rng _; unfold Rng; omega
          have dd : decide (0 ≤ hd) = true := by simpa using hhz
          have bd : Blk wq gd 30 #[v0, v1, v2, v3, v4, .slice EA en ec, .slice LA ln lc] := HT.out.blk
          have y5 := bd.cell 5
          have z5 := bd.free 5
          have hoa := HT.out.h.1.alloc (.cells #[.int .i64 (hd + (y : Nat))] 3)
          have hBW := HT.out.size
          go_upto_region 10 with (at_builtin; refine wpList_app _ rfl (.tmp 38) (.tmp 40) _ rfl wo.heap.size 3 i5 _ 1 8 Try.underlying27 hi5 hz50 hz51 hz52 rfl (by decide) (.slice EA en ec) en (ints (hs ++ ((Cor.allH b).take j).map (Cor.mvH (y : Nat)))) rfl hoa (some ⟨wq.heap.size, 0, none⟩) 1 1 [.int .i64 (hd + (y : Nat))] rfl rfl (fun _ => ⟨_, rfl, news_new wq 3 [.int .i64 (hd + (y : Nat))]⟩) (fun u hu => (by simp at hu; subst hu; rfl)) (by unfold maxLen; omega) (by omega) (HT.out.alloc (.cells #[.int .i64 (hd + (y : Nat))] 3)).size ?_; intro v5 w5 own5 gr5 _; obtain ⟨A5, c5, rfl, -, -⟩ := own_slc own5; have b5 := (bd.alloc (.cells #[.int .i64 (hd + (y : Nat))] 3)).off (Off.grown hoa gr5) (by decide); have w5y := b5.cell 5; have w5z := b5.free 5)
          have HT7 : HeadT w0 wo (w5.setCell ⟨gd, 5, none⟩ (.slice A5 (en + 1) c5)) gd v0 v1 v2 v3 v4 ⟨A5, en + 1, c5⟩ ⟨LA, ln, lc⟩ (hs ++ ((Cor.allH b).take j).map (Cor.mvH (y : Nat)) ++ [(hd + (y : Nat))]) (ls ++ (Cor.allL b).take j) := (HT.out.alloc _).head hwd hwo RZ.out own5 gr5
          have HG7 : OffG gd (w.alloc (.cells #[.slice Aa na ca, .slice At nt ct, .slice Ax nx cx, .slice Ar nr cr, .slice An nn cn, .slice (some ⟨gh, oh, none⟩) nt ch, .slice (some ⟨gl, ol, none⟩) nt cl] 30)) (w5.setCell ⟨gd, 5, none⟩ (.slice A5 (en + 1) c5)) := ((HG.out.trans ((Off.alloc (R := 4294967295) wq (.cells #[.int .i64 (hd + (y : Nat))] 3)).offG (by decide))).trans ((Off.grown hoa gr5).offG (by decide))).trans (OffG.set_ gd 5 _)
          clear own5 gr5 hoa b5 w5y w5z y5 z5 bd
          generalize (w5.setCell ⟨gd, 5, none⟩ (.slice A5 (en + 1) c5)) = w7 at HT7 HG7 ⊢
          have bd7 : Blk w7 gd 30 #[v0, v1, v2, v3, v4, .slice A5 (en + 1) c5, .slice LA ln lc] := HT7.blk
          have y6 := bd7.cell 6
          have z6 := bd7.free 6
          have hoa7 := HT7.l.1.alloc (.cells #[str s] 9)
          have hB7 := HT7.size
          go_wp2_with (at_builtin; refine wpList_app _ rfl (.tmp 48) (.tmp 50) _ rfl wo.heap.size 9 i1 _ 1 16 Try.underlying28 hi1 hz10 hz11 hz12 rfl (by decide) (.slice LA ln lc) ln (strs (ls ++ (Cor.allL b).take j)) rfl hoa7 (some ⟨w7.heap.size, 0, none⟩) 1 1 [str s] rfl rfl (fun _ => ⟨_, rfl, news_new w7 9 [str s]⟩) (fun u hu => (by simp at hu; subst hu; rfl)) (by unfold maxLen; omega) (by omega) (HT7.alloc (.cells #[str s] 9)).size ?_; intro v8 w8 own8 gr8 _; obtain ⟨A8, c8, rfl, -, -⟩ := own_slc own8; have b8 := (bd7.alloc (.cells #[str s] 9)).off (Off.grown hoa7 gr8) (by decide); have w8y := b8.cell 6; have w8z := b8.free 6)
          go_roundw
          case rel =>
            have T9 := (HT7.alloc (.cells #[str s] 9)).rel hwd hwo HLS.out own8 gr8
            have HG9 := ((HG7.trans ((Off.alloc (R := 4294967295) w7 (.cells #[str s] 9)).offG (by decide))).trans ((Off.grown hoa7 gr8).offG (by decide))).trans (OffG.set_ gd 6 (.slice A8 (ln + 1) c8))
            refine ⟨j + 1, by omega, by go_num, ⟨A5, en + 1, c5⟩, ⟨A8, ln + 1, c8⟩, HG9, ?_⟩
            rw [HJ.out, HK.out, HZ.out, ← List.append_assoc, ← List.append_assoc]
            exact T9
          case measure => simp [intOf]; omega
        · have HZ : Hid (Cor.mvH (y : Nat) hd = hd) := by show _ = _; unfold Cor.mvH; rw [if_neg hhz]
          have RZ : Hid (Rng hd) := by show Rng _; unfold Rng; omega
          have dd : decide (0 ≤ hd) = false := by simpa using hhz
          have bd : Blk wq gd 30 #[v0, v1, v2, v3, v4, .slice EA en ec, .slice LA ln lc] := HT.out.blk
          have y5 := bd.cell 5
          have z5 := bd.free 5
          have hoa := HT.out.h.1.alloc (.cells #[.int .i64 hd] 3)
          have hBW := HT.out.size
          go_upto_region 10 with (at_builtin; refine wpList_app _ rfl (.tmp 38) (.tmp 40) _ rfl wo.heap.size 3 i5 _ 1 8 Try.underlying27 hi5 hz50 hz51 hz52 rfl (by decide) (.slice EA en ec) en (ints (hs ++ ((Cor.allH b).take j).map (Cor.mvH (y : Nat)))) rfl hoa (some ⟨wq.heap.size, 0, none⟩) 1 1 [.int .i64 hd] rfl rfl (fun _ => ⟨_, rfl, news_new wq 3 [.int .i64 hd]⟩) (fun u hu => (by simp at hu; subst hu; rfl)) (by unfold maxLen; omega) (by omega) (HT.out.alloc (.cells #[.int .i64 hd] 3)).size ?_; intro v5 w5 own5 gr5 _; obtain ⟨A5, c5, rfl, -, -⟩ := own_slc own5; have b5 := (bd.alloc (.cells #[.int .i64 hd] 3)).off (Off.grown hoa gr5) (by decide); have w5y := b5.cell 5; have w5z := b5.free 5)
          have HT7 : HeadT w0 wo (w5.setCell ⟨gd, 5, none⟩ (.slice A5 (en + 1) c5)) gd v0 v1 v2 v3 v4 ⟨A5, en + 1, c5⟩ ⟨LA, ln, lc⟩ (hs ++ ((Cor.allH b).take j).map (Cor.mvH (y : Nat)) ++ [hd]) (ls ++ (Cor.allL b).take j) := (HT.out.alloc _).head hwd hwo RZ.out own5 gr5
          have HG7 : OffG gd (w.alloc (.cells #[.slice Aa na ca, .slice At nt ct, .slice Ax nx cx, .slice Ar nr cr, .slice An nn cn, .slice (some ⟨gh, oh, none⟩) nt ch, .slice (some ⟨gl, ol, none⟩) nt cl] 30)) (w5.setCell ⟨gd, 5, none⟩ (.slice A5 (en + 1) c5)) := ((HG.out.trans ((Off.alloc (R := 4294967295) wq (.cells #[.int .i64 hd] 3)).offG (by decide))).trans ((Off.grown hoa gr5).offG (by decide))).trans (OffG.set_ gd 5 _)
          clear own5 gr5 hoa b5 w5y w5z y5 z5 bd
          generalize (w5.setCell ⟨gd, 5, none⟩ (.slice A5 (en + 1) c5)) = w7 at HT7 HG7 ⊢
          have bd7 : Blk w7 gd 30 #[v0, v1, v2, v3, v4, .slice A5 (en + 1) c5, .slice LA ln lc] := HT7.blk
          have y6 := bd7.cell 6
          have z6 := bd7.free 6
          have hoa7 := HT7.l.1.alloc (.cells #[str s] 9)
          have hB7 := HT7.size
          go_wp2_with (at_builtin; refine wpList_app _ rfl (.tmp 48) (.tmp 50) _ rfl wo.heap.size 9 i1 _ 1 16 Try.underlying28 hi1 hz10 hz11 hz12 rfl (by decide) (.slice LA ln lc) ln (strs (ls ++ (Cor.allL b).take j)) rfl hoa7 (some ⟨w7.heap.size, 0, none⟩) 1 1 [str s] rfl rfl (fun _ => ⟨_, rfl, news_new w7 9 [str s]⟩) (fun u hu => (by simp at hu; subst hu; rfl)) (by unfold maxLen; omega) (by omega) (HT7.alloc (.cells #[str s] 9)).size ?_; intro v8 w8 own8 gr8 _; obtain ⟨A8, c8, rfl, -, -⟩ := own_slc own8; have b8 := (bd7.alloc (.cells #[str s] 9)).off (Off.grown hoa7 gr8) (by decide); have w8y := b8.cell 6; have w8z := b8.free 6)
          go_roundw
          case rel =>
            have T9 := (HT7.alloc (.cells #[str s] 9)).rel hwd hwo HLS.out own8 gr8
            have HG9 := ((HG7.trans ((Off.alloc (R := 4294967295) w7 (.cells #[str s] 9)).offG (by decide))).trans ((Off.grown hoa7 gr8).offG (by decide))).trans (OffG.set_ gd 6 (.slice A8 (ln + 1) c8))
            refine ⟨j + 1, by omega, by go_num, ⟨A5, en + 1, c5⟩, ⟨A8, ln + 1, c8⟩, HG9, ?_⟩
            rw [HJ.out, HK.out, HZ.out, ← List.append_assoc, ← List.append_assoc]
            exact T9
          case measure => simp [intOf]; omega
      · obtain rfl : nt = j := by omega
        have HT := Lib.hid hT
        clear hT hG
        go_wp2
        refine bodyPost_end (v := .tuple #[]) (results_none rfl _ _ _) rfl ?_
        have h9 := HT.out
        rw [List.take_of_length_le (by have := HAH.out; omega), List.take_of_length_le (by have := HAL.out; omega)] at h9
        exact ⟨rfl, _, _, h9⟩
end Go.Proofs.Ytaihgoohmcipkaa
