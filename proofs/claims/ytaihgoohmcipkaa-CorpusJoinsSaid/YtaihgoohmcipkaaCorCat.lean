/-
  The contract of appendCorpus: the tokens, texts, regions and nodes of a corpus are appended to a corpus of the caller's own. Conditions: the corpus appended is valid and lies below, both together hold to the limits.
-/
import Derived.Test.YtaihgoohmcipkaaCorCatP
import Derived.Test.YtaihgoohmcipkaaCorHold
import Derived.Test.YtaihgoohmcipkaaCorRegW
import Derived.BigQuiet
import Derived.Deep.QuietTactic
import Derived.Deep.RegionLaw
import Derived.Deep.CutRange
import Derived.Deep.CutBlock
import Derived.Deep.RegionHeld3
namespace Go.Proofs.Ytaihgoohmcipkaa
set_option linter.unusedSimpArgs false
set_option linter.unusedVariables false
open Go.RowKit Utf
open Feat (Bs)

set_option maxRecDepth 100000 in
set_option maxHeartbeats 160000000 in
theorem appendCorpus_any (w0 w : World) (gd : Nat) (H : CH) (b : Cor.C) (D : CH) (d : Cor.C) (hgd : w0.heap.size ≤ gd) (hB : Below w0.heap.size w0 w) (hO : OwnC w w0.heap.size gd D d) (hr : Reads w0 w0.heap.size H b) (hv : Vd b)
    (h1 : d.toks.length + b.toks.length ≤ 4096) (h2 : d.texts.length + b.texts.length ≤ 64) (h3 : d.regs.length + b.regs.length ≤ 1024) (h4 : d.nods.length + b.nods.length ≤ 2048) :
    Calls Try.prog 68 #[.pointer (some ⟨gd, 0, none⟩), H.v] w (fun e w' => e = .returned (.tuple #[]) ∧ CatR w0 w w' gd D.h D.l ⟨d.attrs, d.toks ++ b.toks, d.texts ++ b.texts.map (Cor.mvT (d.toks.length : Nat)), d.regs ++ b.regs.map (Cor.mvR (d.toks.length : Nat)), d.nods ++ b.nods.map (Cor.mvN (d.toks.length : Nat) (d.nods.length : Nat)), d.heads, d.rels⟩) := by
  obtain ⟨⟨Aa, na, ca⟩, ⟨At, nt, ct⟩, ⟨Ax, nx, cx⟩, ⟨Ar, nr, cr⟩, ⟨An, nn, cn⟩, ⟨Ah, nh, ch⟩, ⟨Al, nl, cl⟩⟩ := H
  obtain ⟨⟨Da0, na0, ca0⟩, ⟨Dt0, NT, ct0⟩, ⟨Dx0, nx0, cx0⟩, ⟨Dr0, nr0, cr0⟩, ⟨Dn0, NN, cn0⟩, Eh, El⟩ := D
  show Calls Try.prog 68 #[.pointer (some ⟨gd, 0, none⟩), .agg #[.slice Aa na ca, .slice At nt ct, .slice Ax nx cx, .slice Ar nr cr, .slice An nn cn, .slice Ah nh ch, .slice Al nl cl]] w _
  have hNT : d.toks.length = NT := hO.t.reads.len
  have hNN : d.nods.length = NN := hO.n.reads.len
  rw [hNT, hNN]
  rw [hNT] at h1
  rw [hNN] at h4
  have HV := Lib.hid hv
  have hgw : gd < w.heap.size := hO.blk.lt
  have hne : w.heap.size ≠ gd := by omega
  have HNT := Lib.hid hNT
  have HNN := Lib.hid hNN
  have y1 : _ = some (Value.slice Dt0 NT ct0) := (hO.alloc (.cells #[.slice Aa na ca, .slice At nt ct, .slice Ax nx cx, .slice Ar nr cr, .slice An nn cn, .slice Ah nh ch, .slice Al nl cl] 30)).blk.cell 1
  have y4 : _ = some (Value.slice Dn0 NN cn0) := (hO.alloc (.cells #[.slice Aa na ca, .slice At nt ct, .slice Ax nx cx, .slice Ar nr cr, .slice An nn cn, .slice Ah nh ch, .slice Al nl cl] 30)).blk.cell 4
  have E0 : Hid (CT w0 (w.alloc (.cells #[.slice Aa na ca, .slice At nt ct, .slice Ax nx cx, .slice Ar nr cr, .slice An nn cn, .slice Ah nh ch, .slice Al nl cl] 30)) (w.alloc (.cells #[.slice Aa na ca, .slice At nt ct, .slice Ax nx cx, .slice Ar nr cr, .slice An nn cn, .slice Ah nh ch, .slice Al nl cl] 30)) gd) := ⟨hB.alloc hB.size _, OffG.refl _ _⟩
  have O0 := Lib.hid (hO.alloc (.cells #[.slice Aa na ca, .slice At nt ct, .slice Ax nx cx, .slice Ar nr cr, .slice An nn cn, .slice Ah nh ch, .slice Al nl cl] 30))
  have BC := Lib.hid (fun (W : World) (h : OffG gd (w.alloc (.cells #[.slice Aa na ca, .slice At nt ct, .slice Ax nx cx, .slice Ar nr cr, .slice An nn cn, .slice Ah nh ch, .slice Al nl cl] 30)) W) => Blk.offG (Blk.new w 30 #[.slice Aa na ca, .slice At nt ct, .slice Ax nx cx, .slice Ar nr cr, .slice An nn cn, .slice Ah nh ch, .slice Al nl cl]) h hne)
  have HW1 : Hid (OffG gd w (w.alloc (.cells #[.slice Aa na ca, .slice At nt ct, .slice Ax nx cx, .slice Ar nr cr, .slice An nn cn, .slice Ah nh ch, .slice Al nl cl] 30))) := OffG.below ((Below.refl _ _).alloc (Nat.le_refl _) _)
  have hrt : Toks w0 w0.heap.size ⟨At, nt, ct⟩ b.toks := hr.t
  have hrx : Txts w0 w0.heap.size ⟨Ax, nx, cx⟩ b.texts := hr.x
  have hrr : Txts w0 w0.heap.size ⟨Ar, nr, cr⟩ b.regs := hr.r
  have hrn : Nods w0 w0.heap.size ⟨An, nn, cn⟩ b.nods := hr.n
  have HTL := Lib.hid hrt.len
  have HXL := Lib.hid hrx.len
  have HRL := Lib.hid hrr.len
  have HNL := Lib.hid hrn.len
  have hnt : nt ≤ 4096 := by have : b.toks.length = nt := HTL.out; omega
  have hnx : nx ≤ 64 := by have : b.texts.length = nx := HXL.out; omega
  have hnr : nr ≤ 1024 := by have : b.regs.length = nr := HRL.out; omega
  have hnn : nn ≤ 2048 := by have : b.nods.length = nn := HNL.out; omega
  have hNT4 : NT ≤ 4096 := by omega
  have hNN4 : NN ≤ 2048 := by omega
  obtain ⟨i1, hi1, hz10, hz11, hz12⟩ := info_parts info_string
  obtain ⟨i3, hi3, hz30, hz31, hz32⟩ := info_parts info_sls
  obtain ⟨i6, hi6, hz60, hz61, hz62⟩ := info_parts info_txt
  obtain ⟨i2, hi2, hz20, hz21, hz22⟩ := info_parts info_reg
  obtain ⟨i4, hi4, hz40, hz41, hz42⟩ := info_parts info_nod
  clear hO hr hv hB
  go_enter Try.func68, Try.ntmps68
  go_upto_region 1 with (fail)
  go_quiet (fail)
  have R0 : Hid (CatR w0 (w.alloc (.cells #[.slice Aa na ca, .slice At nt ct, .slice Ax nx cx, .slice Ar nr cr, .slice An nn cn, .slice Ah nh ch, .slice Al nl cl] 30)) ((w.alloc (.cells #[.slice Aa na ca, .slice At nt ct, .slice Ax nx cx, .slice Ar nr cr, .slice An nn cn, .slice Ah nh ch, .slice Al nl cl] 30)).drewN nq) gd Eh El d) := ⟨_, E0.out.drewN nq, O0.out.drewN nq, rfl, rfl⟩
  clear y1 y4 E0 O0
  generalize (w.alloc (.cells #[.slice Aa na ca, .slice At nt ct, .slice Ax nx cx, .slice Ar nr cr, .slice An nn cn, .slice Ah nh ch, .slice Al nl cl] 30)).drewN nq = wd at R0 ⊢
  obtain ⟨_, EX, -, -, -⟩ := R0.out
  have q1 : _ = some (Value.slice At nt ct) := (BC.out _ EX.keep).cell 1
  clear EX
  go_upto_block 0 with (fail)
  go_cut [] from 14 (fun wr => CatR w0 (w.alloc (.cells #[.slice Aa na ca, .slice At nt ct, .slice Ax nx cx, .slice Ar nr cr, .slice An nn cn, .slice Ah nh ch, .slice Al nl cl] 30)) wr gd Eh El ⟨d.attrs, d.toks ++ b.toks, d.texts, d.regs, d.nods, d.heads, d.rels⟩)
  case first =>
    -- <dev
    go_wp2
    go_loopw [27] (fun iv wr => ∃ j : Nat, j ≤ nt ∧ iv = .int .i64 j ∧ CatR w0 (w.alloc (.cells #[.slice Aa na ca, .slice At nt ct, .slice Ax nx cx, .slice Ar nr cr, .slice An nn cn, .slice Ah nh ch, .slice Al nl cl] 30)) wr gd Eh El ⟨d.attrs, d.toks ++ b.toks.take j, d.texts, d.regs, d.nods, d.heads, d.rels⟩) (fun iv _ => nt - (intOf iv).toNat)
    case atStart => exact ⟨0, Nat.zero_le _, rfl, by rw [List.take_zero, List.append_nil]; exact R0.out⟩
    case round =>
      obtain ⟨j, hj, rfl, hD⟩ := hrel
      obtain ⟨⟨⟨Da, nda, cda⟩, ⟨Dt, ndt, cdt⟩, ⟨Dx, ndx, cdx⟩, ⟨Dr, ndr, cdr⟩, ⟨Dn, ndn, cdn⟩, Dh, Dl⟩, E, O, hDh, hDl⟩ := hD
      subst hDh hDl
      by_cases hlt : j < nt
      · obtain ⟨ga, oa, ⟨Ak, nk, ck⟩, hk2, e2, hga, hw2, d0⟩ := hrt.at_ (k := j) hlt
        have e2 : At = some ⟨ga, oa, none⟩ := e2
        subst e2
        have hB := E.below
        replace d0 : wr.cell? ⟨ga, oa + j, none⟩ = some (.slice Ak nk ck) := (hB.cell (p := ⟨ga, _, none⟩) hga).trans d0
        obtain ⟨s, hs⟩ : ∃ s, b.toks[j] = s := ⟨_, rfl⟩
        rw [hs] at hw2
        have HJ : Hid (d.toks ++ b.toks.take (j + 1) = d.toks ++ b.toks.take j ++ [s]) := by
          show _ = _
          rw [List.take_succ_eq_append_getElem hk2, hs, List.append_assoc]
        have hsl8 : s.length ≤ 8 := by
          have := HV.out.tkl.2 s (by rw [← hs]; exact List.getElem_mem _)
          have := HV.out.atl
          omega
        have hnk : nk ≤ 8 := by have := hw2.len; simp at this; omega
        have hws := hw2.under hB
        have hfl : Hid ((strs s).length = nk * 1) := hw2.2.1.1
        have SRC := Lib.hid ((hws.under ((Below.refl _ _).drew)).src)
        have h1s := Lib.hid (strs_one6 s)
        have HWS := Lib.hid hw2.2.2
        obtain ⟨L, hL, ho, hW⟩ := O.t
        have hdl : ndt ≤ 4096 := by
          have h2 : L.length = ndt := (own_sl ho).flen tkV_len (by omega)
          have h3 : L.length = NT + min j b.toks.length := by
            rw [← List.length_map (f := Prod.fst), hL, List.length_append, List.length_take, HNT.out]
          have : b.toks.length = nt := HTL.out
          omega
        have hLL := Lib.hid hL
        have HO := Lib.hid ho
        have HW := Lib.hid hW
        have OO := Lib.hid O
        have EE := Lib.hid E
        have bd : Blk wr gd 30 #[.slice Da nda cda, .slice Dt ndt cdt, .slice Dx ndx cdx, .slice Dr ndr cdr, .slice Dn ndn cdn, .slice Dh.A Dh.n Dh.c, .slice Dl.A Dl.n Dl.c] := O.blk
        have y1 := bd.cell 1
        have hbD : Below wr.heap.size wr wr.drew := (Below.refl _ _).drew
        have HY := Lib.hid (fun (W : World) (hW : Below wr.heap.size wr W) => (bd.below hW).cell 1)
        have hB1 := hB.size
        clear hs hw2 hws hL ho hW O E hB
        go_wp2
        refine wp_region_m (fun W => W.cell? ⟨gd, 1, none⟩ = some (.slice Dt ndt cdt)) 11 (by as_aux_lemma => kernel_rfl) (y1) (fun hHeld => ?_)
        refine wpAnyM_take (i := 0) (v := ?_) rfl (by as_aux_lemma => kernel_rfl) (by as_aux_lemma => kernel_rfl) (by as_aux_lemma => kernel_rfl) (by as_aux_lemma => kernel_rfl) (fun _ _ _ h => h) (Or.inl ⟨by rfl, ?_⟩) (hHeld) ?_
        rotate_left
        · ((intro W hSw); (try dsimp only at hSw); go_simp; try (with_reducible rfl))
        simp only [Act.put, List.setIfInBounds_toArray, List.set_cons_zero, List.set_cons_succ]
        refine wpAnyM_take (i := 1) (v := ?_) rfl (by as_aux_lemma => kernel_rfl) (by as_aux_lemma => kernel_rfl) (by as_aux_lemma => kernel_rfl) (by as_aux_lemma => kernel_rfl) (fun _ _ _ h => h) (Or.inl ⟨by rfl, ?_⟩) (hHeld) ?_
        rotate_left
        · ((intro W hSw); (try dsimp only at hSw); go_simp; try (with_reducible rfl))
        simp only [Act.put, List.setIfInBounds_toArray, List.set_cons_zero, List.set_cons_succ]
        refine wpAnyM_take (i := 2) (v := ?_) rfl (by as_aux_lemma => kernel_rfl) (by as_aux_lemma => kernel_rfl) (by as_aux_lemma => kernel_rfl) (by as_aux_lemma => kernel_rfl) (fun _ _ _ h => h) (Or.inl ⟨by rfl, ?_⟩) (hHeld) ?_
        rotate_left
        · ((intro W hSw); (try dsimp only at hSw); go_simp; try (with_reducible rfl))
        simp only [Act.put, List.setIfInBounds_toArray, List.set_cons_zero, List.set_cons_succ]
        refine wpAnyM_take (i := 3) (v := ?_) rfl (by as_aux_lemma => kernel_rfl) (by as_aux_lemma => kernel_rfl) (by as_aux_lemma => kernel_rfl) (by as_aux_lemma => kernel_rfl) (fun _ _ _ h => h) (Or.inl ⟨by rfl, ?_⟩) (hHeld) ?_
        rotate_left
        · ((intro W hSw); (try dsimp only at hSw); go_simp; try (with_reducible rfl))
        simp only [Act.put, List.setIfInBounds_toArray, List.set_cons_zero, List.set_cons_succ]
        refine wpAnyM_take (i := 4) (v := ?_) rfl (by as_aux_lemma => kernel_rfl) (by as_aux_lemma => kernel_rfl) (by as_aux_lemma => kernel_rfl) (by as_aux_lemma => kernel_rfl) (fun _ _ _ h => h) (Or.inl ⟨by rfl, ?_⟩) (hHeld) ?_
        rotate_left
        · ((intro W hSw); (try dsimp only at hSw); go_simp; try (with_reducible rfl))
        simp only [Act.put, List.setIfInBounds_toArray, List.set_cons_zero, List.set_cons_succ]
        refine wpAnyM_take (i := 5) (v := ?_) rfl (by as_aux_lemma => kernel_rfl) (by as_aux_lemma => kernel_rfl) (by as_aux_lemma => kernel_rfl) (by as_aux_lemma => kernel_rfl) (fun _ _ _ h => h) (Or.inl ⟨by rfl, ?_⟩) (hHeld) ?_
        rotate_left
        · ((intro W hSw); (try dsimp only at hSw); go_simp; try (with_reducible rfl))
        simp only [Act.put, List.setIfInBounds_toArray, List.set_cons_zero, List.set_cons_succ]
        refine wpAnyM_one (i := 6) (by as_aux_lemma => kernel_rfl) rfl (fun K hK => ?_)
        refine step_app wr.drew (by rfl) (.const (.slice none 0 0)) (.tmp 36) _ (by rfl) w0.heap.size 9 i1 _ 1 16 Try.underlying28 hi1 hz10 hz11 hz12 (by rfl) (by decide) _ 0 [] (by rfl) (World.ownsRow_nil _ _ _ _) Ak nk ck (strs s) (by rfl) hfl.out SRC.out h1s.out (by unfold maxLen; omega) (by omega) hB1 ?_
        intro v5 w5 own5 gr5 _
        obtain ⟨A5, c5, rfl, -, -⟩ := own_slc own5
        have hb5 : Below wr.heap.size wr w5 := hbD.grown gr5 (Nat.le_refl _) (fun k hk => by cases hk)
        have y5 := HY.out w5 hb5
        have y5a := ((bd.below hb5).alloc (.cells #[.slice A5 nk c5] 28)).cell 1
        refine hK.out _ _ (fun _ => y5) ?_
        clear hK K
        try simp only [Act.put, List.setIfInBounds_toArray, List.set_cons_zero, List.set_cons_succ]
        refine wpAnyM_one (i := 7) (by as_aux_lemma => kernel_rfl) rfl (fun K hK => ?_)
        go_simp
        refine hK.out _ _ (fun _ => y5a) ?_
        clear hK K
        try simp only [Act.put, List.setIfInBounds_toArray, List.set_cons_zero, List.set_cons_succ]
        refine wpAnyM_one (i := 8) (by as_aux_lemma => kernel_rfl) rfl (fun K hK => ?_)
        refine step_app (w5.alloc (.cells #[.slice A5 nk c5] 28)) (by rfl) (.tmp 35) (.tmp 38) _ (by rfl) w0.heap.size 28 i3 _ 1 24 Try.underlying23 hi3 hz30 hz31 hz32 (by rfl) (by decide) (.slice Dt ndt cdt) ndt (L.flatMap tkV) (by rfl) ((own_below HO.out hb5).alloc _) (some ⟨w5.heap.size, 0, none⟩) 1 1 [.slice A5 nk c5] (by rfl) rfl (fun _ => ⟨_, rfl, news_new w5 28 [.slice A5 nk c5]⟩) (fun u hu => by simp at hu; subst hu; rfl) (by unfold maxLen; omega) (by omega) (Nat.le_trans hB1 (hb5.alloc hb5.size _).size) ?_
        intro v6 w6 own6 gr6 _
        obtain ⟨A6, c6, rfl, -, -⟩ := own_slc own6
        have b6 := (bd.below hb5).off ((Off.alloc w5 (.cells #[.slice A5 nk c5] 28)).trans (Off.grown ((own_below HO.out hb5).alloc (.cells #[.slice A5 nk c5] 28)) gr6)) (by decide)
        have y6 := b6.cell 1
        have z6 := b6.free 1
        refine hK.out _ _ (fun _ => y6) ?_
        clear hK K
        try simp only [Act.put, List.setIfInBounds_toArray, List.set_cons_zero, List.set_cons_succ]
        refine wpAnyM_one (i := 9) (by as_aux_lemma => kernel_rfl) rfl (fun K hK => ?_)
        go_simp
        refine hK.out _ _ (fun _ => y6) ?_
        clear hK K
        try simp only [Act.put, List.setIfInBounds_toArray, List.set_cons_zero, List.set_cons_succ]
        refine wpAnyM_one (i := 10) (by as_aux_lemma => kernel_rfl) rfl (fun K hK => ?_)
        go_simp
        refine hK.out _ _ (fun _ => y6) ?_
        clear hK K
        try simp only [Act.put, List.setIfInBounds_toArray, List.set_cons_zero, List.set_cons_succ]
        refine wpAnyM_one (i := 11) (by as_aux_lemma => kernel_rfl) rfl (fun K hK => ?_)
        go_simp
        refine hK.out _ _ (fun h => absurd rfl h) ?_
        clear hK K
        try simp only [Act.put, List.setIfInBounds_toArray, List.set_cons_zero, List.set_cons_succ]
        refine wpAnyM_done (by as_aux_lemma => kernel_rfl) (NoPanic.normal ?_) _
        go_wp2
        go_roundw
        case rel =>
          have o5 : w5.ownsRow w0.heap.size 9 1 (.slice A5 nk c5) nk (strs s) := by simpa using own5
          have O5 := (OO.out.below hb5).alloc (.cells #[.slice A5 nk c5] 28)
          have E5 := (EE.out.bel hb5).alloc (.cells #[.slice A5 nk c5] 28)
          have hoa := (own_below HO.out hb5).alloc (.cells #[.slice A5 nk c5] 28)
          have O6 := O5.tok (y := ⟨A5, nk, c5⟩) (s := s) hLL.out hoa (fun x hx => ⟨(own_below (HW.out x hx).1 hb5).alloc _, (HW.out x hx).2⟩) ⟨o5.alloc _, HWS.out⟩ own6 gr6
          have E6 := (E5.grown hoa gr6 (by decide)).setd hgd 1 (.slice A6 (ndt + 1) c6)
          refine ⟨j + 1, by omega, by go_num, ⟨⟨Da, nda, cda⟩, ⟨A6, ndt + 1, c6⟩, ⟨Dx, ndx, cdx⟩, ⟨Dr, ndr, cdr⟩, ⟨Dn, ndn, cdn⟩, Dh, Dl⟩, E6, ?_, rfl, rfl⟩
          rw [HJ.out]
          exact O6
        case measure => simp [intOf]; omega
      · obtain rfl : nt = j := by omega
        have HD : Hid (CatR w0 (w.alloc (.cells #[.slice Aa na ca, .slice At nt ct, .slice Ax nx cx, .slice Ar nr cr, .slice An nn cn, .slice Ah nh ch, .slice Al nl cl] 30)) wr gd Dh Dl ⟨d.attrs, d.toks ++ b.toks.take nt, d.texts, d.regs, d.nods, d.heads, d.rels⟩) := ⟨_, E, O, rfl, rfl⟩
        clear E O
        go_wp2
        go_meet
        case rel =>
          have h9 := HD.out
          rw [List.take_of_length_le (by have : b.toks.length = nt := HTL.out; omega)] at h9
          exact h9
    -- dev>
  case rest =>
    clear q1 R0 hrt
    have R1 := Lib.hid hcut
    clear hcut
    obtain ⟨_, EX, -, -, -⟩ := R1.out
    have q2 : _ = some (Value.slice Ax nx cx) := (BC.out _ EX.keep).cell 2
    clear EX
    go_upto_block 2 with (fail)
    go_cut [] from 14 (fun wr => CatR w0 (w.alloc (.cells #[.slice Aa na ca, .slice At nt ct, .slice Ax nx cx, .slice Ar nr cr, .slice An nn cn, .slice Ah nh ch, .slice Al nl cl] 30)) wr gd Eh El ⟨d.attrs, d.toks ++ b.toks, d.texts ++ b.texts.map (Cor.mvT (NT : Int)), d.regs, d.nods, d.heads, d.rels⟩)
    case first =>
      -- <dev
      go_wp2
      go_loopw [46] (fun iv wr => ∃ j : Nat, j ≤ nx ∧ iv = .int .i64 j ∧ CatR w0 (w.alloc (.cells #[.slice Aa na ca, .slice At nt ct, .slice Ax nx cx, .slice Ar nr cr, .slice An nn cn, .slice Ah nh ch, .slice Al nl cl] 30)) wr gd Eh El ⟨d.attrs, d.toks ++ b.toks, d.texts ++ (b.texts.take j).map (Cor.mvT (NT : Int)), d.regs, d.nods, d.heads, d.rels⟩) (fun iv _ => nx - (intOf iv).toNat)
      case atStart => exact ⟨0, Nat.zero_le _, rfl, by rw [List.take_zero, List.map_nil, List.append_nil]; exact R1.out⟩
      case round =>
        obtain ⟨j, hj, rfl, hD⟩ := hrel
        obtain ⟨⟨⟨Da, nda, cda⟩, ⟨Dt, ndt, cdt⟩, ⟨Dx, ndx, cdx⟩, ⟨Dr, ndr, cdr⟩, ⟨Dn, ndn, cdn⟩, Dh, Dl⟩, E, O, hDh, hDl⟩ := hD
        subst hDh hDl
        by_cases hlt : j < nx
        · obtain ⟨ga', oa', ⟨Ak, nk, ck⟩, hk2, e2, hga, hto, d0, d1, d2, d3⟩ := hrx.at_ (k := j) hlt
          have e2 : Ax = some ⟨ga', oa', none⟩ := e2
          subst e2
          have hB := E.below
          replace d0 := (hB.cell (p := ⟨ga', _, none⟩) hga).trans d0
          replace d1 := (hB.cell (p := ⟨ga', _, none⟩) hga).trans d1
          replace d2 := (hB.cell (p := ⟨ga', _, none⟩) hga).trans d2
          replace d3 := (hB.cell (p := ⟨ga', _, none⟩) hga).trans d3
          have hrx := HV.out.tx _ (List.getElem_mem hk2)
          obtain ⟨⟨rx, rb, re, rk⟩, hx⟩ : ∃ x, b.texts[j] = x := ⟨_, rfl⟩
          have HJ : Hid (d.texts ++ (b.texts.take (j + 1)).map (Cor.mvT (NT : Int)) = d.texts ++ (b.texts.take j).map (Cor.mvT (NT : Int)) ++ [⟨rx, rb + (NT : Int), re + (NT : Int), rk⟩]) := by
            show _ = _
            rw [List.take_succ_eq_append_getElem hk2, hx, List.map_append, List.append_assoc]; rfl
          rw [hx] at d0 d1 d2 hto hrx
          obtain ⟨hr2, hr3, hr4, hr5⟩ := hrx
          simp only [] at d0 d1 d2 hr2 hr3 hr4 hr5
          have hbt : b.toks.length ≤ 4096 := HV.out.tkl.1
          have EE := Lib.hid (E.alloc (.cells #[str rx, .int .i64 rb, .int .i64 re, .slice Ak nk ck] 64))
          have OO := Lib.hid (O.alloc (.cells #[str rx, .int .i64 rb, .int .i64 re, .slice Ak nk ck] 64))
          have gdw : gd < wr.heap.size := O.blk.lt
          have HTO2 := Lib.hid hto
          have HB := Lib.hid hB
          obtain ⟨L, hL, ho0, hW0⟩ := O.x
          have HNE := Lib.hid (fun (e : some wr.heap.size = (Value.slice Dx ndx cdx).ownBlock) => Nat.lt_irrefl _ (ho0.lt _ e.symm).2)
          have hdl : ndx ≤ 64 := by
            have h2 : L.length = ndx := (own_sl ho0).flen txV_len (by omega)
            have h3 : L.length = d.texts.length + min j b.texts.length := by
              rw [← List.length_map (f := Prod.fst), hL, List.length_append, List.length_map, List.length_take]
            omega
          have ho := ho0.alloc (.cells #[str rx, .int .i64 rb, .int .i64 re, .slice Ak nk ck] 64)
          have hW := fun y hy => (hW0 y hy).off (Off.alloc (R := 4294967295) wr (.cells #[str rx, .int .i64 rb, .int .i64 re, .slice Ak nk ck] 64)) (by decide)
          have hLL := Lib.hid hL
          have HO := Lib.hid ho
          have HW := Lib.hid hW
          have bd : Blk (wr.alloc (.cells #[str rx, .int .i64 rb, .int .i64 re, .slice Ak nk ck] 64)) gd 30 #[.slice Da nda cda, .slice Dt ndt cdt, .slice Dx ndx cdx, .slice Dr ndr cdr, .slice Dn ndn cdn, .slice Dh.A Dh.n Dh.c, .slice Dl.A Dl.n Dl.c] := OO.out.blk
          have bx := Blk.new wr 64 #[str rx, .int .i64 rb, .int .i64 re, .slice Ak nk ck]
          have y3 : (wr.alloc (.cells #[str rx, .int .i64 rb, .int .i64 re, .slice Ak nk ck] 64)).drew.cell? ⟨gd, 2, none⟩ = some (.slice Dx ndx cdx) := bd.cell 2
          have x0 : (wr.alloc (.cells #[str rx, .int .i64 rb, .int .i64 re, .slice Ak nk ck] 64)).drew.cell? ⟨wr.heap.size, 0, none⟩ = some (str rx) := bx.cell 0
          have x1 : (wr.alloc (.cells #[str rx, .int .i64 rb, .int .i64 re, .slice Ak nk ck] 64)).drew.cell? ⟨wr.heap.size, 1, none⟩ = some (.int .i64 rb) := bx.cell 1
          have x2 : (wr.alloc (.cells #[str rx, .int .i64 rb, .int .i64 re, .slice Ak nk ck] 64)).drew.cell? ⟨wr.heap.size, 2, none⟩ = some (.int .i64 re) := bx.cell 2
          have x3 : (wr.alloc (.cells #[str rx, .int .i64 rb, .int .i64 re, .slice Ak nk ck] 64)).drew.cell? ⟨wr.heap.size, 3, none⟩ = some (.slice Ak nk ck) := bx.cell 3
          have HS := Lib.hid (fun (W : World) (hW : Below (wr.alloc (.cells #[str rx, .int .i64 rb, .int .i64 re, .slice Ak nk ck] 64)).heap.size (wr.alloc (.cells #[str rx, .int .i64 rb, .int .i64 re, .slice Ak nk ck] 64)) W) => show (fun W => W.cell? ⟨gd, 2, none⟩ = some (.slice Dx ndx cdx) ∧ W.cell? ⟨wr.heap.size, 0, none⟩ = some (str rx) ∧ W.cell? ⟨wr.heap.size, 1, none⟩ = some (.int .i64 rb) ∧ W.cell? ⟨wr.heap.size, 2, none⟩ = some (.int .i64 re) ∧ W.cell? ⟨wr.heap.size, 3, none⟩ = some (.slice Ak nk ck)) W from
            ⟨(bd.below hW).cell 2, (bx.below hW).cell 0, (bx.below hW).cell 1, (bx.below hW).cell 2, (bx.below hW).cell 3⟩)
          have hbD : Below (wr.alloc (.cells #[str rx, .int .i64 rb, .int .i64 re, .slice Ak nk ck] 64)).heap.size (wr.alloc (.cells #[str rx, .int .i64 rb, .int .i64 re, .slice Ak nk ck] 64)) (wr.alloc (.cells #[str rx, .int .i64 rb, .int .i64 re, .slice Ak nk ck] 64)).drew := (Below.refl _ _).drew
          have hB9 := (HB.out.alloc HB.out.size (.cells #[str rx, .int .i64 rb, .int .i64 re, .slice Ak nk ck] 64)).drew
          have hkl : rk.length = nk := HTO2.out.2.2.2.len
          have CC := Lib.hid (copyText_any rx rb re (NT : Int) Ak nk ck rk (wr.alloc (.cells #[str rx, .int .i64 rb, .int .i64 re, .slice Ak nk ck] 64)).drew (by omega) ⟨by omega, by omega⟩ ⟨by omega, by omega⟩ ((HTO2.out.2.2.2.under hB9).up hB9.size))
          have hB9s := hB9.size
          have RB : Hid (Rng (rb + (NT : Int))) := ⟨by omega, by omega⟩
          have RE : Hid (Rng (re + (NT : Int))) := ⟨by omega, by omega⟩
          clear ho hW hL hkl hr5 ho0 hW0 hx hto E O hB
          go_upto_region 10 with (fail)
          refine wp_region_m (fun W => W.cell? ⟨gd, 2, none⟩ = some (.slice Dx ndx cdx) ∧ W.cell? ⟨wr.heap.size, 0, none⟩ = some (str rx) ∧ W.cell? ⟨wr.heap.size, 1, none⟩ = some (.int .i64 rb) ∧ W.cell? ⟨wr.heap.size, 2, none⟩ = some (.int .i64 re) ∧ W.cell? ⟨wr.heap.size, 3, none⟩ = some (.slice Ak nk ck)) 12 (by as_aux_lemma => kernel_rfl) (⟨y3, x0, x1, x2, x3⟩) (fun hHeld => ?_)
          refine wpAnyM_take (i := 0) (v := ?_) rfl (by as_aux_lemma => kernel_rfl) (by as_aux_lemma => kernel_rfl) (by as_aux_lemma => kernel_rfl) (by as_aux_lemma => kernel_rfl) (fun _ _ _ h => h) (Or.inl ⟨by rfl, ?_⟩) (hHeld) ?_
          rotate_left
          · ((intro W hSw); (try dsimp only at hSw); go_simp; try (with_reducible rfl))
          simp only [Act.put, List.setIfInBounds_toArray, List.set_cons_zero, List.set_cons_succ]
          refine wpAnyM_take (i := 1) (v := ?_) rfl (by as_aux_lemma => kernel_rfl) (by as_aux_lemma => kernel_rfl) (by as_aux_lemma => kernel_rfl) (by as_aux_lemma => kernel_rfl) (fun _ _ _ h => h) (Or.inl ⟨by rfl, ?_⟩) (hHeld) ?_
          rotate_left
          · ((intro W hSw); (try dsimp only at hSw); go_simp; try (with_reducible rfl))
          simp only [Act.put, List.setIfInBounds_toArray, List.set_cons_zero, List.set_cons_succ]
          refine wpAnyM_take (i := 2) (v := ?_) rfl (by as_aux_lemma => kernel_rfl) (by as_aux_lemma => kernel_rfl) (by as_aux_lemma => kernel_rfl) (by as_aux_lemma => kernel_rfl) (fun _ _ _ h => h) (Or.inl ⟨by rfl, ?_⟩) (hHeld) ?_
          rotate_left
          · ((intro W hSw); (try dsimp only at hSw); go_simp; try (with_reducible rfl))
          simp only [Act.put, List.setIfInBounds_toArray, List.set_cons_zero, List.set_cons_succ]
          refine wpAnyM_take (i := 3) (v := ?_) rfl (by as_aux_lemma => kernel_rfl) (by as_aux_lemma => kernel_rfl) (by as_aux_lemma => kernel_rfl) (by as_aux_lemma => kernel_rfl) (fun _ _ _ h => h) (Or.inl ⟨by rfl, ?_⟩) (hHeld) ?_
          rotate_left
          · ((intro W hSw); (try dsimp only at hSw); go_simp; try (with_reducible rfl))
          simp only [Act.put, List.setIfInBounds_toArray, List.set_cons_zero, List.set_cons_succ]
          refine wpAnyM_take (i := 4) (v := ?_) rfl (by as_aux_lemma => kernel_rfl) (by as_aux_lemma => kernel_rfl) (by as_aux_lemma => kernel_rfl) (by as_aux_lemma => kernel_rfl) (fun _ _ _ h => h) (Or.inl ⟨by rfl, ?_⟩) (hHeld) ?_
          rotate_left
          · ((intro W hSw); (try dsimp only at hSw); go_simp; try (with_reducible rfl))
          simp only [Act.put, List.setIfInBounds_toArray, List.set_cons_zero, List.set_cons_succ]
          refine wpAnyM_take (i := 5) (v := ?_) rfl (by as_aux_lemma => kernel_rfl) (by as_aux_lemma => kernel_rfl) (by as_aux_lemma => kernel_rfl) (by as_aux_lemma => kernel_rfl) (fun _ _ _ h => h) (Or.inl ⟨by rfl, ?_⟩) (hHeld) ?_
          rotate_left
          · ((intro W hSw); (try dsimp only at hSw); go_simp; try (with_reducible rfl))
          simp only [Act.put, List.setIfInBounds_toArray, List.set_cons_zero, List.set_cons_succ]
          refine wpAnyM_take (i := 6) (v := ?_) rfl (by as_aux_lemma => kernel_rfl) (by as_aux_lemma => kernel_rfl) (by as_aux_lemma => kernel_rfl) (by as_aux_lemma => kernel_rfl) (fun _ _ _ h => h) (Or.inl ⟨by rfl, ?_⟩) (hHeld) ?_
          rotate_left
          · ((intro W hSw); (try dsimp only at hSw); go_simp; try (with_reducible rfl))
          simp only [Act.put, List.setIfInBounds_toArray, List.set_cons_zero, List.set_cons_succ]
          refine wpAnyM_one (i := 7) (by as_aux_lemma => kernel_rfl) rfl (fun K hK => ?_)
          go_simp
          refine CC.out.mono ?_
          rintro e' w5 ⟨A5, c5, rfl, own5, hb5⟩
          have hb5a := hbD.trans (hb5.mono hbD.size)
          have HH5 := HS.out w5 hb5a
          have hoa := (own_below (own_drew6 HO.out) hb5).alloc (.cells #[str rx, .int .i64 (rb + (NT : Int)), .int .i64 (re + (NT : Int)), .slice A5 rk.length c5] 64)
          have H5a := HS.out (w5.alloc (.cells #[str rx, .int .i64 (rb + (NT : Int)), .int .i64 (re + (NT : Int)), .slice A5 rk.length c5] 64)) (hb5a.alloc hb5a.size _)
          go_simp
          refine hK.out _ _ (fun _ => HH5) ?_
          clear hK K
          try simp only [Act.put, List.setIfInBounds_toArray, List.set_cons_zero, List.set_cons_succ]
          refine wpAnyM_one (i := 8) (by as_aux_lemma => kernel_rfl) rfl (fun K hK => ?_)
          go_simp
          refine hK.out _ _ (fun _ => H5a) ?_
          clear hK K
          try simp only [Act.put, List.setIfInBounds_toArray, List.set_cons_zero, List.set_cons_succ]
          refine wpAnyM_one (i := 9) (by as_aux_lemma => kernel_rfl) rfl (fun K hK => ?_)
          refine step_app (w5.alloc (.cells #[str rx, .int .i64 (rb + (NT : Int)), .int .i64 (re + (NT : Int)), .slice A5 rk.length c5] 64)) (by rfl) (.tmp 54) (.tmp 58) _ (by rfl) w0.heap.size 64 i6 _ 4 56 Try.underlying24 hi6 hz60 hz61 hz62 (by rfl) (by decide) (.slice Dx ndx cdx) ndx (L.flatMap txV) (by rfl) hoa (some ⟨w5.heap.size, 0, none⟩) 1 1 (txV (⟨rx, rb + (NT : Int), re + (NT : Int), rk⟩, ⟨A5, rk.length, c5⟩)) (by rfl) rfl (fun _ => ⟨_, rfl, news_new w5 64 (txV (⟨rx, rb + (NT : Int), re + (NT : Int), rk⟩, ⟨A5, rk.length, c5⟩))⟩) (txV_one _) (by unfold maxLen; omega) (by omega) (Nat.le_trans hB9s (hb5a.alloc hb5a.size _).size) ?_
          intro v6 w6 own6 gr6 _
          obtain ⟨A6, c6, rfl, -, -⟩ := own_slc own6
          have b6 := (bd.below hb5a).off ((Off.alloc w5 (.cells #[str rx, .int .i64 (rb + (NT : Int)), .int .i64 (re + (NT : Int)), .slice A5 rk.length c5] 64)).trans (Off.grown hoa gr6)) (by decide)
          have y6 : w6.cell? ⟨gd, 2, none⟩ = some (.slice Dx ndx cdx) := b6.cell 2
          have z6 := b6.free 2
          have bx6 := grown_block gr6 ((bx.below hb5a).alloc (.cells #[str rx, .int .i64 (rb + (NT : Int)), .int .i64 (re + (NT : Int)), .slice A5 rk.length c5] 64)) HNE.out
          have bx6 : Blk w6 wr.heap.size 64 #[str rx, .int .i64 rb, .int .i64 re, .slice Ak nk ck] := bx6
          refine hK.out _ _ (fun _ => ⟨y6, bx6.cell 0, bx6.cell 1, bx6.cell 2, bx6.cell 3⟩) ?_
          clear hK K
          try simp only [Act.put, List.setIfInBounds_toArray, List.set_cons_zero, List.set_cons_succ]
          refine wpAnyM_one (i := 10) (by as_aux_lemma => kernel_rfl) rfl (fun K hK => ?_)
          go_simp
          refine hK.out _ _ (fun _ => ⟨y6, bx6.cell 0, bx6.cell 1, bx6.cell 2, bx6.cell 3⟩) ?_
          clear hK K
          try simp only [Act.put, List.setIfInBounds_toArray, List.set_cons_zero, List.set_cons_succ]
          refine wpAnyM_one (i := 11) (by as_aux_lemma => kernel_rfl) rfl (fun K hK => ?_)
          go_simp
          refine hK.out _ _ (fun _ => ⟨y6, bx6.cell 0, bx6.cell 1, bx6.cell 2, bx6.cell 3⟩) ?_
          clear hK K
          try simp only [Act.put, List.setIfInBounds_toArray, List.set_cons_zero, List.set_cons_succ]
          refine wpAnyM_one (i := 12) (by as_aux_lemma => kernel_rfl) rfl (fun K hK => ?_)
          go_simp
          refine hK.out _ _ (fun h => absurd rfl h) ?_
          clear hK K
          try simp only [Act.put, List.setIfInBounds_toArray, List.set_cons_zero, List.set_cons_succ]
          refine wpAnyM_done (by as_aux_lemma => kernel_rfl) (NoPanic.normal ?_) _
          go_wp2
          go_roundw
          case rel =>
            have O5 := ((OO.out.drew).below hb5).alloc (.cells #[str rx, .int .i64 (rb + (NT : Int)), .int .i64 (re + (NT : Int)), .slice A5 rk.length c5] 64)
            have E5 := ((EE.out.drew).bel hb5).alloc (.cells #[str rx, .int .i64 (rb + (NT : Int)), .int .i64 (re + (NT : Int)), .slice A5 rk.length c5] 64)
            have O6 := O5.txt (y := (⟨rx, rb + (NT : Int), re + (NT : Int), rk⟩, ⟨A5, rk.length, c5⟩)) hLL.out hoa (fun x hx => ⟨(HW.out x hx).1, (HW.out x hx).2.1, (HW.out x hx).2.2.1, (own_below (own_drew6 (HW.out x hx).2.2.2.1) hb5).alloc _, (HW.out x hx).2.2.2.2⟩) ⟨HTO2.out.1, RB.out, RE.out, (own_base own5 hB9s).alloc _, HTO2.out.2.2.2.2.2⟩ own6 gr6
            have E6 := (E5.grown hoa gr6 (by decide)).setd hgd 2 (.slice A6 (ndx + 1) c6)
            refine ⟨j + 1, by omega, by go_num, ⟨⟨Da, nda, cda⟩, ⟨Dt, ndt, cdt⟩, ⟨A6, ndx + 1, c6⟩, ⟨Dr, ndr, cdr⟩, ⟨Dn, ndn, cdn⟩, Dh, Dl⟩, E6, ?_, rfl, rfl⟩
            rw [HJ.out]
            exact O6
          case measure => simp [intOf]; omega
        · obtain rfl : nx = j := by omega
          have HD : Hid (CatR w0 (w.alloc (.cells #[.slice Aa na ca, .slice At nt ct, .slice Ax nx cx, .slice Ar nr cr, .slice An nn cn, .slice Ah nh ch, .slice Al nl cl] 30)) wr gd Dh Dl ⟨d.attrs, d.toks ++ b.toks, d.texts ++ (b.texts.take nx).map (Cor.mvT (NT : Int)), d.regs, d.nods, d.heads, d.rels⟩) := ⟨_, E, O, rfl, rfl⟩
          clear E O
          go_wp2
          go_meet
          case rel =>
            have h9 := HD.out
            rw [List.take_of_length_le (by have : b.texts.length = nx := HXL.out; omega)] at h9
            exact h9
      -- dev>
    case rest =>
      clear q2 R1 hrx
      have R2 := Lib.hid hcut
      clear hcut
      obtain ⟨_, EX, -, -, -⟩ := R2.out
      have q3 : _ = some (Value.slice Ar nr cr) := (BC.out _ EX.keep).cell 3
      clear EX
      go_upto_block 4 with (fail)
      go_cut [] from 14 (fun wr => CatR w0 (w.alloc (.cells #[.slice Aa na ca, .slice At nt ct, .slice Ax nx cx, .slice Ar nr cr, .slice An nn cn, .slice Ah nh ch, .slice Al nl cl] 30)) wr gd Eh El ⟨d.attrs, d.toks ++ b.toks, d.texts ++ b.texts.map (Cor.mvT (NT : Int)), d.regs ++ b.regs.map (Cor.mvR (NT : Int)), d.nods, d.heads, d.rels⟩)
      case first =>
        -- <dev
        go_wp2
        go_loopw [66] (fun iv wr => ∃ j : Nat, j ≤ nr ∧ iv = .int .i64 j ∧ CatR w0 (w.alloc (.cells #[.slice Aa na ca, .slice At nt ct, .slice Ax nx cx, .slice Ar nr cr, .slice An nn cn, .slice Ah nh ch, .slice Al nl cl] 30)) wr gd Eh El ⟨d.attrs, d.toks ++ b.toks, d.texts ++ b.texts.map (Cor.mvT (NT : Int)), d.regs ++ (b.regs.take j).map (Cor.mvR (NT : Int)), d.nods, d.heads, d.rels⟩) (fun iv _ => nr - (intOf iv).toNat)
        case atStart => exact ⟨0, Nat.zero_le _, rfl, by rw [List.take_zero, List.map_nil, List.append_nil]; exact R2.out⟩
        case round =>
          obtain ⟨j, hj, rfl, hD⟩ := hrel
          obtain ⟨⟨⟨Da, nda, cda⟩, ⟨Dt, ndt, cdt⟩, ⟨Dx, ndx, cdx⟩, ⟨Dr, ndr, cdr⟩, ⟨Dn, ndn, cdn⟩, Dh, Dl⟩, E, O, hDh, hDl⟩ := hD
          subst hDh hDl
          by_cases hlt : j < nr
          · obtain ⟨ga', oa', ⟨Ak, nk, ck⟩, hk2, e2, hga, hto, d0, d1, d2, d3⟩ := hrr.at_ (k := j) hlt
            have e2 : Ar = some ⟨ga', oa', none⟩ := e2
            subst e2
            have hB := E.below
            replace d0 := (hB.cell (p := ⟨ga', _, none⟩) hga).trans d0
            replace d1 := (hB.cell (p := ⟨ga', _, none⟩) hga).trans d1
            replace d2 := (hB.cell (p := ⟨ga', _, none⟩) hga).trans d2
            replace d3 := (hB.cell (p := ⟨ga', _, none⟩) hga).trans d3
            have hrx := HV.out.rg _ (List.getElem_mem hk2)
            obtain ⟨⟨rx, rb, re, rk⟩, hx⟩ : ∃ x, b.regs[j] = x := ⟨_, rfl⟩
            have HJ : Hid (d.regs ++ (b.regs.take (j + 1)).map (Cor.mvR (NT : Int)) = d.regs ++ (b.regs.take j).map (Cor.mvR (NT : Int)) ++ [⟨rx, rb + (NT : Int), re + (NT : Int), rk⟩]) := by
              show _ = _
              rw [List.take_succ_eq_append_getElem hk2, hx, List.map_append, List.append_assoc]; rfl
            rw [hx] at d0 d1 d2 hto hrx
            obtain ⟨_, hr2, hr3, hr4, hr5⟩ := hrx
            simp only [] at d0 d1 d2 hr2 hr3 hr4 hr5
            have hbt : b.toks.length ≤ 4096 := HV.out.tkl.1
            have EE := Lib.hid (E.alloc (.cells #[str rx, .int .i64 rb, .int .i64 re, .slice Ak nk ck] 39))
            have OO := Lib.hid (O.alloc (.cells #[str rx, .int .i64 rb, .int .i64 re, .slice Ak nk ck] 39))
            have gdw : gd < wr.heap.size := O.blk.lt
            have HTO2 := Lib.hid hto
            have HB := Lib.hid hB
            obtain ⟨L, hL, ho0, hW0⟩ := O.r
            have HNE := Lib.hid (fun (e : some wr.heap.size = (Value.slice Dr ndr cdr).ownBlock) => Nat.lt_irrefl _ (ho0.lt _ e.symm).2)
            have hdl : ndr ≤ 1024 := by
              have h2 : L.length = ndr := (own_sl ho0).flen txV_len (by omega)
              have h3 : L.length = d.regs.length + min j b.regs.length := by
                rw [← List.length_map (f := Prod.fst), hL, List.length_append, List.length_map, List.length_take]
              omega
            have ho := ho0.alloc (.cells #[str rx, .int .i64 rb, .int .i64 re, .slice Ak nk ck] 39)
            have hW := fun y hy => (hW0 y hy).off (Off.alloc (R := 4294967295) wr (.cells #[str rx, .int .i64 rb, .int .i64 re, .slice Ak nk ck] 39)) (by decide)
            have hLL := Lib.hid hL
            have HO := Lib.hid ho
            have HW := Lib.hid hW
            have bd : Blk (wr.alloc (.cells #[str rx, .int .i64 rb, .int .i64 re, .slice Ak nk ck] 39)) gd 30 #[.slice Da nda cda, .slice Dt ndt cdt, .slice Dx ndx cdx, .slice Dr ndr cdr, .slice Dn ndn cdn, .slice Dh.A Dh.n Dh.c, .slice Dl.A Dl.n Dl.c] := OO.out.blk
            have bx := Blk.new wr 39 #[str rx, .int .i64 rb, .int .i64 re, .slice Ak nk ck]
            have y3 : (wr.alloc (.cells #[str rx, .int .i64 rb, .int .i64 re, .slice Ak nk ck] 39)).drew.cell? ⟨gd, 3, none⟩ = some (.slice Dr ndr cdr) := bd.cell 3
            have x0 : (wr.alloc (.cells #[str rx, .int .i64 rb, .int .i64 re, .slice Ak nk ck] 39)).drew.cell? ⟨wr.heap.size, 0, none⟩ = some (str rx) := bx.cell 0
            have x1 : (wr.alloc (.cells #[str rx, .int .i64 rb, .int .i64 re, .slice Ak nk ck] 39)).drew.cell? ⟨wr.heap.size, 1, none⟩ = some (.int .i64 rb) := bx.cell 1
            have x2 : (wr.alloc (.cells #[str rx, .int .i64 rb, .int .i64 re, .slice Ak nk ck] 39)).drew.cell? ⟨wr.heap.size, 2, none⟩ = some (.int .i64 re) := bx.cell 2
            have x3 : (wr.alloc (.cells #[str rx, .int .i64 rb, .int .i64 re, .slice Ak nk ck] 39)).drew.cell? ⟨wr.heap.size, 3, none⟩ = some (.slice Ak nk ck) := bx.cell 3
            have HS := Lib.hid (fun (W : World) (hW : Below (wr.alloc (.cells #[str rx, .int .i64 rb, .int .i64 re, .slice Ak nk ck] 39)).heap.size (wr.alloc (.cells #[str rx, .int .i64 rb, .int .i64 re, .slice Ak nk ck] 39)) W) => show (fun W => W.cell? ⟨gd, 3, none⟩ = some (.slice Dr ndr cdr) ∧ W.cell? ⟨wr.heap.size, 0, none⟩ = some (str rx) ∧ W.cell? ⟨wr.heap.size, 1, none⟩ = some (.int .i64 rb) ∧ W.cell? ⟨wr.heap.size, 2, none⟩ = some (.int .i64 re) ∧ W.cell? ⟨wr.heap.size, 3, none⟩ = some (.slice Ak nk ck)) W from
              ⟨(bd.below hW).cell 3, (bx.below hW).cell 0, (bx.below hW).cell 1, (bx.below hW).cell 2, (bx.below hW).cell 3⟩)
            have hbD : Below (wr.alloc (.cells #[str rx, .int .i64 rb, .int .i64 re, .slice Ak nk ck] 39)).heap.size (wr.alloc (.cells #[str rx, .int .i64 rb, .int .i64 re, .slice Ak nk ck] 39)) (wr.alloc (.cells #[str rx, .int .i64 rb, .int .i64 re, .slice Ak nk ck] 39)).drew := (Below.refl _ _).drew
            have hB9 := (HB.out.alloc HB.out.size (.cells #[str rx, .int .i64 rb, .int .i64 re, .slice Ak nk ck] 39)).drew
            have hkl : rk.length = nk := HTO2.out.2.2.2.len
            have CC := Lib.hid (copyRegion_any rx rb re (NT : Int) Ak nk ck rk (wr.alloc (.cells #[str rx, .int .i64 rb, .int .i64 re, .slice Ak nk ck] 39)).drew (by omega) ⟨by omega, by omega⟩ ⟨by omega, by omega⟩ ((HTO2.out.2.2.2.under hB9).up hB9.size))
            have hB9s := hB9.size
            have RB : Hid (Rng (rb + (NT : Int))) := ⟨by omega, by omega⟩
            have RE : Hid (Rng (re + (NT : Int))) := ⟨by omega, by omega⟩
            clear ho hW hL hkl hr5 ho0 hW0 hx hto E O hB
            go_upto_region 15 with (fail)
            refine wp_region_m (fun W => W.cell? ⟨gd, 3, none⟩ = some (.slice Dr ndr cdr) ∧ W.cell? ⟨wr.heap.size, 0, none⟩ = some (str rx) ∧ W.cell? ⟨wr.heap.size, 1, none⟩ = some (.int .i64 rb) ∧ W.cell? ⟨wr.heap.size, 2, none⟩ = some (.int .i64 re) ∧ W.cell? ⟨wr.heap.size, 3, none⟩ = some (.slice Ak nk ck)) 12 (by as_aux_lemma => kernel_rfl) (⟨y3, x0, x1, x2, x3⟩) (fun hHeld => ?_)
            refine wpAnyM_take (i := 0) (v := ?_) rfl (by as_aux_lemma => kernel_rfl) (by as_aux_lemma => kernel_rfl) (by as_aux_lemma => kernel_rfl) (by as_aux_lemma => kernel_rfl) (fun _ _ _ h => h) (Or.inl ⟨by rfl, ?_⟩) (hHeld) ?_
            rotate_left
            · ((intro W hSw); (try dsimp only at hSw); go_simp; try (with_reducible rfl))
            simp only [Act.put, List.setIfInBounds_toArray, List.set_cons_zero, List.set_cons_succ]
            refine wpAnyM_take (i := 1) (v := ?_) rfl (by as_aux_lemma => kernel_rfl) (by as_aux_lemma => kernel_rfl) (by as_aux_lemma => kernel_rfl) (by as_aux_lemma => kernel_rfl) (fun _ _ _ h => h) (Or.inl ⟨by rfl, ?_⟩) (hHeld) ?_
            rotate_left
            · ((intro W hSw); (try dsimp only at hSw); go_simp; try (with_reducible rfl))
            simp only [Act.put, List.setIfInBounds_toArray, List.set_cons_zero, List.set_cons_succ]
            refine wpAnyM_take (i := 2) (v := ?_) rfl (by as_aux_lemma => kernel_rfl) (by as_aux_lemma => kernel_rfl) (by as_aux_lemma => kernel_rfl) (by as_aux_lemma => kernel_rfl) (fun _ _ _ h => h) (Or.inl ⟨by rfl, ?_⟩) (hHeld) ?_
            rotate_left
            · ((intro W hSw); (try dsimp only at hSw); go_simp; try (with_reducible rfl))
            simp only [Act.put, List.setIfInBounds_toArray, List.set_cons_zero, List.set_cons_succ]
            refine wpAnyM_take (i := 3) (v := ?_) rfl (by as_aux_lemma => kernel_rfl) (by as_aux_lemma => kernel_rfl) (by as_aux_lemma => kernel_rfl) (by as_aux_lemma => kernel_rfl) (fun _ _ _ h => h) (Or.inl ⟨by rfl, ?_⟩) (hHeld) ?_
            rotate_left
            · ((intro W hSw); (try dsimp only at hSw); go_simp; try (with_reducible rfl))
            simp only [Act.put, List.setIfInBounds_toArray, List.set_cons_zero, List.set_cons_succ]
            refine wpAnyM_take (i := 4) (v := ?_) rfl (by as_aux_lemma => kernel_rfl) (by as_aux_lemma => kernel_rfl) (by as_aux_lemma => kernel_rfl) (by as_aux_lemma => kernel_rfl) (fun _ _ _ h => h) (Or.inl ⟨by rfl, ?_⟩) (hHeld) ?_
            rotate_left
            · ((intro W hSw); (try dsimp only at hSw); go_simp; try (with_reducible rfl))
            simp only [Act.put, List.setIfInBounds_toArray, List.set_cons_zero, List.set_cons_succ]
            refine wpAnyM_take (i := 5) (v := ?_) rfl (by as_aux_lemma => kernel_rfl) (by as_aux_lemma => kernel_rfl) (by as_aux_lemma => kernel_rfl) (by as_aux_lemma => kernel_rfl) (fun _ _ _ h => h) (Or.inl ⟨by rfl, ?_⟩) (hHeld) ?_
            rotate_left
            · ((intro W hSw); (try dsimp only at hSw); go_simp; try (with_reducible rfl))
            simp only [Act.put, List.setIfInBounds_toArray, List.set_cons_zero, List.set_cons_succ]
            refine wpAnyM_take (i := 6) (v := ?_) rfl (by as_aux_lemma => kernel_rfl) (by as_aux_lemma => kernel_rfl) (by as_aux_lemma => kernel_rfl) (by as_aux_lemma => kernel_rfl) (fun _ _ _ h => h) (Or.inl ⟨by rfl, ?_⟩) (hHeld) ?_
            rotate_left
            · ((intro W hSw); (try dsimp only at hSw); go_simp; try (with_reducible rfl))
            simp only [Act.put, List.setIfInBounds_toArray, List.set_cons_zero, List.set_cons_succ]
            refine wpAnyM_one (i := 7) (by as_aux_lemma => kernel_rfl) rfl (fun K hK => ?_)
            go_simp
            refine CC.out.mono ?_
            rintro e' w5 ⟨A5, c5, rfl, own5, hb5⟩
            have hb5a := hbD.trans (hb5.mono hbD.size)
            have HH5 := HS.out w5 hb5a
            have hoa := (own_below (own_drew6 HO.out) hb5).alloc (.cells #[str rx, .int .i64 (rb + (NT : Int)), .int .i64 (re + (NT : Int)), .slice A5 rk.length c5] 39)
            have H5a := HS.out (w5.alloc (.cells #[str rx, .int .i64 (rb + (NT : Int)), .int .i64 (re + (NT : Int)), .slice A5 rk.length c5] 39)) (hb5a.alloc hb5a.size _)
            go_simp
            refine hK.out _ _ (fun _ => HH5) ?_
            clear hK K
            try simp only [Act.put, List.setIfInBounds_toArray, List.set_cons_zero, List.set_cons_succ]
            refine wpAnyM_one (i := 8) (by as_aux_lemma => kernel_rfl) rfl (fun K hK => ?_)
            go_simp
            refine hK.out _ _ (fun _ => H5a) ?_
            clear hK K
            try simp only [Act.put, List.setIfInBounds_toArray, List.set_cons_zero, List.set_cons_succ]
            refine wpAnyM_one (i := 9) (by as_aux_lemma => kernel_rfl) rfl (fun K hK => ?_)
            refine step_app (w5.alloc (.cells #[str rx, .int .i64 (rb + (NT : Int)), .int .i64 (re + (NT : Int)), .slice A5 rk.length c5] 39)) (by rfl) (.tmp 74) (.tmp 78) _ (by rfl) w0.heap.size 39 i2 _ 4 56 Try.underlying25 hi2 hz20 hz21 hz22 (by rfl) (by decide) (.slice Dr ndr cdr) ndr (L.flatMap txV) (by rfl) hoa (some ⟨w5.heap.size, 0, none⟩) 1 1 (txV (⟨rx, rb + (NT : Int), re + (NT : Int), rk⟩, ⟨A5, rk.length, c5⟩)) (by rfl) rfl (fun _ => ⟨_, rfl, news_new w5 39 (txV (⟨rx, rb + (NT : Int), re + (NT : Int), rk⟩, ⟨A5, rk.length, c5⟩))⟩) (txV_one _) (by unfold maxLen; omega) (by omega) (Nat.le_trans hB9s (hb5a.alloc hb5a.size _).size) ?_
            intro v6 w6 own6 gr6 _
            obtain ⟨A6, c6, rfl, -, -⟩ := own_slc own6
            have b6 := (bd.below hb5a).off ((Off.alloc w5 (.cells #[str rx, .int .i64 (rb + (NT : Int)), .int .i64 (re + (NT : Int)), .slice A5 rk.length c5] 39)).trans (Off.grown hoa gr6)) (by decide)
            have y6 : w6.cell? ⟨gd, 3, none⟩ = some (.slice Dr ndr cdr) := b6.cell 3
            have z6 := b6.free 3
            have bx6 := grown_block gr6 ((bx.below hb5a).alloc (.cells #[str rx, .int .i64 (rb + (NT : Int)), .int .i64 (re + (NT : Int)), .slice A5 rk.length c5] 39)) HNE.out
            have bx6 : Blk w6 wr.heap.size 39 #[str rx, .int .i64 rb, .int .i64 re, .slice Ak nk ck] := bx6
            refine hK.out _ _ (fun _ => ⟨y6, bx6.cell 0, bx6.cell 1, bx6.cell 2, bx6.cell 3⟩) ?_
            clear hK K
            try simp only [Act.put, List.setIfInBounds_toArray, List.set_cons_zero, List.set_cons_succ]
            refine wpAnyM_one (i := 10) (by as_aux_lemma => kernel_rfl) rfl (fun K hK => ?_)
            go_simp
            refine hK.out _ _ (fun _ => ⟨y6, bx6.cell 0, bx6.cell 1, bx6.cell 2, bx6.cell 3⟩) ?_
            clear hK K
            try simp only [Act.put, List.setIfInBounds_toArray, List.set_cons_zero, List.set_cons_succ]
            refine wpAnyM_one (i := 11) (by as_aux_lemma => kernel_rfl) rfl (fun K hK => ?_)
            go_simp
            refine hK.out _ _ (fun _ => ⟨y6, bx6.cell 0, bx6.cell 1, bx6.cell 2, bx6.cell 3⟩) ?_
            clear hK K
            try simp only [Act.put, List.setIfInBounds_toArray, List.set_cons_zero, List.set_cons_succ]
            refine wpAnyM_one (i := 12) (by as_aux_lemma => kernel_rfl) rfl (fun K hK => ?_)
            go_simp
            refine hK.out _ _ (fun h => absurd rfl h) ?_
            clear hK K
            try simp only [Act.put, List.setIfInBounds_toArray, List.set_cons_zero, List.set_cons_succ]
            refine wpAnyM_done (by as_aux_lemma => kernel_rfl) (NoPanic.normal ?_) _
            go_wp2
            go_roundw
            case rel =>
              have O5 := ((OO.out.drew).below hb5).alloc (.cells #[str rx, .int .i64 (rb + (NT : Int)), .int .i64 (re + (NT : Int)), .slice A5 rk.length c5] 39)
              have E5 := ((EE.out.drew).bel hb5).alloc (.cells #[str rx, .int .i64 (rb + (NT : Int)), .int .i64 (re + (NT : Int)), .slice A5 rk.length c5] 39)
              have O6 := O5.reg (y := (⟨rx, rb + (NT : Int), re + (NT : Int), rk⟩, ⟨A5, rk.length, c5⟩)) hLL.out hoa (fun x hx => ⟨(HW.out x hx).1, (HW.out x hx).2.1, (HW.out x hx).2.2.1, (own_below (own_drew6 (HW.out x hx).2.2.2.1) hb5).alloc _, (HW.out x hx).2.2.2.2⟩) ⟨HTO2.out.1, RB.out, RE.out, (own_base own5 hB9s).alloc _, HTO2.out.2.2.2.2.2⟩ own6 gr6
              have E6 := (E5.grown hoa gr6 (by decide)).setd hgd 3 (.slice A6 (ndr + 1) c6)
              refine ⟨j + 1, by omega, by go_num, ⟨⟨Da, nda, cda⟩, ⟨Dt, ndt, cdt⟩, ⟨Dx, ndx, cdx⟩, ⟨A6, ndr + 1, c6⟩, ⟨Dn, ndn, cdn⟩, Dh, Dl⟩, E6, ?_, rfl, rfl⟩
              rw [HJ.out]
              exact O6
            case measure => simp [intOf]; omega
          · obtain rfl : nr = j := by omega
            have HD : Hid (CatR w0 (w.alloc (.cells #[.slice Aa na ca, .slice At nt ct, .slice Ax nx cx, .slice Ar nr cr, .slice An nn cn, .slice Ah nh ch, .slice Al nl cl] 30)) wr gd Dh Dl ⟨d.attrs, d.toks ++ b.toks, d.texts ++ b.texts.map (Cor.mvT (NT : Int)), d.regs ++ (b.regs.take nr).map (Cor.mvR (NT : Int)), d.nods, d.heads, d.rels⟩) := ⟨_, E, O, rfl, rfl⟩
            clear E O
            go_wp2
            go_meet
            case rel =>
              have h9 := HD.out
              rw [List.take_of_length_le (by have : b.regs.length = nr := HRL.out; omega)] at h9
              exact h9
        -- dev>
      case rest =>
        clear q3 R2 hrr
        have R3 := Lib.hid hcut
        clear hcut
        obtain ⟨_, EX, -, -, -⟩ := R3.out
        have q4 : _ = some (Value.slice An nn cn) := (BC.out _ EX.keep).cell 4
        clear EX
        go_upto_block 6 with (fail)
        -- <dev
        go_wp2
        go_loopw [86] (fun iv wr => ∃ j : Nat, j ≤ nn ∧ iv = .int .i64 j ∧ CatR w0 (w.alloc (.cells #[.slice Aa na ca, .slice At nt ct, .slice Ax nx cx, .slice Ar nr cr, .slice An nn cn, .slice Ah nh ch, .slice Al nl cl] 30)) wr gd Eh El ⟨d.attrs, d.toks ++ b.toks, d.texts ++ b.texts.map (Cor.mvT (NT : Int)), d.regs ++ b.regs.map (Cor.mvR (NT : Int)), d.nods ++ (b.nods.take j).map (Cor.mvN (NT : Int) (NN : Int)), d.heads, d.rels⟩) (fun iv _ => nn - (intOf iv).toNat)
        case atStart => exact ⟨0, Nat.zero_le _, rfl, by rw [List.take_zero, List.map_nil, List.append_nil]; exact R3.out⟩
        case round =>
          obtain ⟨j, hj, rfl, hD⟩ := hrel
          obtain ⟨⟨⟨Da, nda, cda⟩, ⟨Dt, ndt, cdt⟩, ⟨Dx, ndx, cdx⟩, ⟨Dr, ndr, cdr⟩, ⟨Dn, ndn, cdn⟩, Dh, Dl⟩, E, O, hDh, hDl⟩ := hD
          subst hDh hDl
          by_cases hlt : j < nn
          · obtain ⟨ga', oa', hk2, e2, hga, hto, d0, d1, d2, d3⟩ := hrn.at_ (k := j) hlt
            have e2 : An = some ⟨ga', oa', none⟩ := e2
            subst e2
            have hB := E.below
            replace d0 := (hB.cell (p := ⟨ga', _, none⟩) hga).trans d0
            replace d1 := (hB.cell (p := ⟨ga', _, none⟩) hga).trans d1
            replace d2 := (hB.cell (p := ⟨ga', _, none⟩) hga).trans d2
            replace d3 := (hB.cell (p := ⟨ga', _, none⟩) hga).trans d3
            have hrx := (HV.out.nd j hk2).2
            obtain ⟨⟨rx, rb, re, rp⟩, hx⟩ : ∃ x, b.nods[j] = x := ⟨_, rfl⟩
            rw [hx] at d0 d1 d2 d3 hto hrx
            obtain ⟨hr1, hr2, hr3, hr4, hr5⟩ := hrx
            simp only [] at d0 d1 d2 d3 hr1 hr2 hr3 hr4 hr5
            obtain ⟨pz, hpz⟩ : ∃ z, (if 0 ≤ rp then rp + (NN : Int) else rp) = z := ⟨_, rfl⟩
            have HJ : Hid (d.nods ++ (b.nods.take (j + 1)).map (Cor.mvN (NT : Int) (NN : Int)) = d.nods ++ (b.nods.take j).map (Cor.mvN (NT : Int) (NN : Int)) ++ [⟨rx, rb + (NT : Int), re + (NT : Int), pz⟩]) := by
              show _ = _
              rw [List.take_succ_eq_append_getElem hk2, hx, List.map_append, List.append_assoc, ← hpz]; rfl
            have hbt : b.toks.length ≤ 4096 := HV.out.tkl.1
            have EE := Lib.hid (E.alloc (.cells #[str rx, .int .i64 rb, .int .i64 re, .int .i64 rp] 74))
            have OO := Lib.hid (O.alloc (.cells #[str rx, .int .i64 rb, .int .i64 re, .int .i64 rp] 74))
            have gdw : gd < wr.heap.size := O.blk.lt
            have HTO2 := Lib.hid hto
            have HB := Lib.hid hB
            have HNE := Lib.hid (fun (e : some wr.heap.size = (Value.slice Dn ndn cdn).ownBlock) => Nat.lt_irrefl _ (O.n.1.lt _ e.symm).2)
            have ho := OO.out.n.1
            have hdl : ndn ≤ 2048 := by
              have h2 : (d.nods ++ (b.nods.take j).map (Cor.mvN (NT : Int) (NN : Int))).length = ndn := (own_sl ho).flen ndV_len (by omega)
              rw [List.length_append, List.length_map, List.length_take] at h2
              have := HNN.out
              omega
            have HO := Lib.hid ho
            have hpr : Rng (rp + (NN : Int)) := ⟨by omega, by omega⟩
            have RP : Hid (Rng pz) := by
              show Rng pz
              rw [← hpz]; split
              · exact hpr
              · exact ⟨by omega, by omega⟩
            have bd : Blk (wr.alloc (.cells #[str rx, .int .i64 rb, .int .i64 re, .int .i64 rp] 74)) gd 30 #[.slice Da nda cda, .slice Dt ndt cdt, .slice Dx ndx cdx, .slice Dr ndr cdr, .slice Dn ndn cdn, .slice Dh.A Dh.n Dh.c, .slice Dl.A Dl.n Dl.c] := OO.out.blk
            have bx := Blk.new wr 74 #[str rx, .int .i64 rb, .int .i64 re, .int .i64 rp]
            have y3 : (wr.alloc (.cells #[str rx, .int .i64 rb, .int .i64 re, .int .i64 rp] 74)).drew.cell? ⟨gd, 4, none⟩ = some (.slice Dn ndn cdn) := bd.cell 4
            have x0 : (wr.alloc (.cells #[str rx, .int .i64 rb, .int .i64 re, .int .i64 rp] 74)).drew.cell? ⟨wr.heap.size, 0, none⟩ = some (str rx) := bx.cell 0
            have x1 : (wr.alloc (.cells #[str rx, .int .i64 rb, .int .i64 re, .int .i64 rp] 74)).drew.cell? ⟨wr.heap.size, 1, none⟩ = some (.int .i64 rb) := bx.cell 1
            have x2 : (wr.alloc (.cells #[str rx, .int .i64 rb, .int .i64 re, .int .i64 rp] 74)).drew.cell? ⟨wr.heap.size, 2, none⟩ = some (.int .i64 re) := bx.cell 2
            have x3 : (wr.alloc (.cells #[str rx, .int .i64 rb, .int .i64 re, .int .i64 rp] 74)).drew.cell? ⟨wr.heap.size, 3, none⟩ = some (.int .i64 rp) := bx.cell 3
            have HS := Lib.hid (fun (W : World) (hW : Below (wr.alloc (.cells #[str rx, .int .i64 rb, .int .i64 re, .int .i64 rp] 74)).heap.size (wr.alloc (.cells #[str rx, .int .i64 rb, .int .i64 re, .int .i64 rp] 74)) W) => show (fun W => W.cell? ⟨gd, 4, none⟩ = some (.slice Dn ndn cdn) ∧ W.cell? ⟨wr.heap.size, 0, none⟩ = some (str rx) ∧ W.cell? ⟨wr.heap.size, 1, none⟩ = some (.int .i64 rb) ∧ W.cell? ⟨wr.heap.size, 2, none⟩ = some (.int .i64 re) ∧ W.cell? ⟨wr.heap.size, 3, none⟩ = some (.int .i64 rp)) W from
              ⟨(bd.below hW).cell 4, (bx.below hW).cell 0, (bx.below hW).cell 1, (bx.below hW).cell 2, (bx.below hW).cell 3⟩)
            have hbD : Below (wr.alloc (.cells #[str rx, .int .i64 rb, .int .i64 re, .int .i64 rp] 74)).heap.size (wr.alloc (.cells #[str rx, .int .i64 rb, .int .i64 re, .int .i64 rp] 74)) (wr.alloc (.cells #[str rx, .int .i64 rb, .int .i64 re, .int .i64 rp] 74)).drew := (Below.refl _ _).drew
            have hB9 := (HB.out.alloc HB.out.size (.cells #[str rx, .int .i64 rb, .int .i64 re, .int .i64 rp] 74)).drew
            have cc := copyNode_any rx rb re rp (NT : Int) (NN : Int) (wr.alloc (.cells #[str rx, .int .i64 rb, .int .i64 re, .int .i64 rp] 74)).drew ⟨by omega, by omega⟩ ⟨by omega, by omega⟩ hpr
            rw [hpz] at cc
            have CC := Lib.hid cc
            have hB9s := hB9.size
            have RB : Hid (Rng (rb + (NT : Int))) := ⟨by omega, by omega⟩
            have RE : Hid (Rng (re + (NT : Int))) := ⟨by omega, by omega⟩
            clear ho cc hpz hpr hx hto E O hB
            go_upto_region 20 with (fail)
            refine wp_region_m (fun W => W.cell? ⟨gd, 4, none⟩ = some (.slice Dn ndn cdn) ∧ W.cell? ⟨wr.heap.size, 0, none⟩ = some (str rx) ∧ W.cell? ⟨wr.heap.size, 1, none⟩ = some (.int .i64 rb) ∧ W.cell? ⟨wr.heap.size, 2, none⟩ = some (.int .i64 re) ∧ W.cell? ⟨wr.heap.size, 3, none⟩ = some (.int .i64 rp)) 13 (by as_aux_lemma => kernel_rfl) (⟨y3, x0, x1, x2, x3⟩) (fun hHeld => ?_)
            refine wpAnyM_take (i := 0) (v := ?_) rfl (by as_aux_lemma => kernel_rfl) (by as_aux_lemma => kernel_rfl) (by as_aux_lemma => kernel_rfl) (by as_aux_lemma => kernel_rfl) (fun _ _ _ h => h) (Or.inl ⟨by rfl, ?_⟩) (hHeld) ?_
            rotate_left
            · ((intro W hSw); (try dsimp only at hSw); go_simp; try (with_reducible rfl))
            simp only [Act.put, List.setIfInBounds_toArray, List.set_cons_zero, List.set_cons_succ]
            refine wpAnyM_take (i := 1) (v := ?_) rfl (by as_aux_lemma => kernel_rfl) (by as_aux_lemma => kernel_rfl) (by as_aux_lemma => kernel_rfl) (by as_aux_lemma => kernel_rfl) (fun _ _ _ h => h) (Or.inl ⟨by rfl, ?_⟩) (hHeld) ?_
            rotate_left
            · ((intro W hSw); (try dsimp only at hSw); go_simp; try (with_reducible rfl))
            simp only [Act.put, List.setIfInBounds_toArray, List.set_cons_zero, List.set_cons_succ]
            refine wpAnyM_take (i := 2) (v := ?_) rfl (by as_aux_lemma => kernel_rfl) (by as_aux_lemma => kernel_rfl) (by as_aux_lemma => kernel_rfl) (by as_aux_lemma => kernel_rfl) (fun _ _ _ h => h) (Or.inl ⟨by rfl, ?_⟩) (hHeld) ?_
            rotate_left
            · ((intro W hSw); (try dsimp only at hSw); go_simp; try (with_reducible rfl))
            simp only [Act.put, List.setIfInBounds_toArray, List.set_cons_zero, List.set_cons_succ]
            refine wpAnyM_take (i := 3) (v := ?_) rfl (by as_aux_lemma => kernel_rfl) (by as_aux_lemma => kernel_rfl) (by as_aux_lemma => kernel_rfl) (by as_aux_lemma => kernel_rfl) (fun _ _ _ h => h) (Or.inl ⟨by rfl, ?_⟩) (hHeld) ?_
            rotate_left
            · ((intro W hSw); (try dsimp only at hSw); go_simp; try (with_reducible rfl))
            simp only [Act.put, List.setIfInBounds_toArray, List.set_cons_zero, List.set_cons_succ]
            refine wpAnyM_take (i := 4) (v := ?_) rfl (by as_aux_lemma => kernel_rfl) (by as_aux_lemma => kernel_rfl) (by as_aux_lemma => kernel_rfl) (by as_aux_lemma => kernel_rfl) (fun _ _ _ h => h) (Or.inl ⟨by rfl, ?_⟩) (hHeld) ?_
            rotate_left
            · ((intro W hSw); (try dsimp only at hSw); go_simp; try (with_reducible rfl))
            simp only [Act.put, List.setIfInBounds_toArray, List.set_cons_zero, List.set_cons_succ]
            refine wpAnyM_take (i := 5) (v := ?_) rfl (by as_aux_lemma => kernel_rfl) (by as_aux_lemma => kernel_rfl) (by as_aux_lemma => kernel_rfl) (by as_aux_lemma => kernel_rfl) (fun _ _ _ h => h) (Or.inl ⟨by rfl, ?_⟩) (hHeld) ?_
            rotate_left
            · ((intro W hSw); (try dsimp only at hSw); go_simp; try (with_reducible rfl))
            simp only [Act.put, List.setIfInBounds_toArray, List.set_cons_zero, List.set_cons_succ]
            refine wpAnyM_take (i := 6) (v := ?_) rfl (by as_aux_lemma => kernel_rfl) (by as_aux_lemma => kernel_rfl) (by as_aux_lemma => kernel_rfl) (by as_aux_lemma => kernel_rfl) (fun _ _ _ h => h) (Or.inl ⟨by rfl, ?_⟩) (hHeld) ?_
            rotate_left
            · ((intro W hSw); (try dsimp only at hSw); go_simp; try (with_reducible rfl))
            simp only [Act.put, List.setIfInBounds_toArray, List.set_cons_zero, List.set_cons_succ]
            refine wpAnyM_take (i := 7) (v := ?_) rfl (by as_aux_lemma => kernel_rfl) (by as_aux_lemma => kernel_rfl) (by as_aux_lemma => kernel_rfl) (by as_aux_lemma => kernel_rfl) (fun _ _ _ h => h) (Or.inl ⟨by rfl, ?_⟩) (hHeld) ?_
            rotate_left
            · ((intro W hSw); (try dsimp only at hSw); go_simp; try (with_reducible rfl))
            simp only [Act.put, List.setIfInBounds_toArray, List.set_cons_zero, List.set_cons_succ]
            refine wpAnyM_one (i := 8) (by as_aux_lemma => kernel_rfl) rfl (fun K hK => ?_)
            go_simp
            refine CC.out.mono ?_
            rintro e' w5 ⟨rfl, hb5⟩
            have hb5a := hbD.trans (hb5.mono hbD.size)
            have HH5 := HS.out w5 hb5a
            have hoa := (own_below (own_drew6 HO.out) hb5).alloc (.cells #[str rx, .int .i64 (rb + (NT : Int)), .int .i64 (re + (NT : Int)), .int .i64 pz] 74)
            have H5a := HS.out (w5.alloc (.cells #[str rx, .int .i64 (rb + (NT : Int)), .int .i64 (re + (NT : Int)), .int .i64 pz] 74)) (hb5a.alloc hb5a.size _)
            go_simp
            refine hK.out _ _ (fun _ => HH5) ?_
            clear hK K
            try simp only [Act.put, List.setIfInBounds_toArray, List.set_cons_zero, List.set_cons_succ]
            refine wpAnyM_one (i := 9) (by as_aux_lemma => kernel_rfl) rfl (fun K hK => ?_)
            go_simp
            refine hK.out _ _ (fun _ => H5a) ?_
            clear hK K
            try simp only [Act.put, List.setIfInBounds_toArray, List.set_cons_zero, List.set_cons_succ]
            refine wpAnyM_one (i := 10) (by as_aux_lemma => kernel_rfl) rfl (fun K hK => ?_)
            refine step_app (w5.alloc (.cells #[str rx, .int .i64 (rb + (NT : Int)), .int .i64 (re + (NT : Int)), .int .i64 pz] 74)) (by rfl) (.tmp 94) (.tmp 99) _ (by rfl) w0.heap.size 74 i4 _ 4 40 Try.underlying26 hi4 hz40 hz41 hz42 (by rfl) (by decide) (.slice Dn ndn cdn) ndn ((d.nods ++ (b.nods.take j).map (Cor.mvN (NT : Int) (NN : Int))).flatMap ndV) (by rfl) hoa (some ⟨w5.heap.size, 0, none⟩) 1 1 (ndV ⟨rx, rb + (NT : Int), re + (NT : Int), pz⟩) (by rfl) rfl (fun _ => ⟨_, rfl, news_new w5 74 (ndV ⟨rx, rb + (NT : Int), re + (NT : Int), pz⟩)⟩) (ndV_one6 _) (by unfold maxLen; omega) (by omega) (Nat.le_trans hB9s (hb5a.alloc hb5a.size _).size) ?_
            intro v6 w6 own6 gr6 _
            obtain ⟨A6, c6, rfl, -, -⟩ := own_slc own6
            have b6 := (bd.below hb5a).off ((Off.alloc w5 (.cells #[str rx, .int .i64 (rb + (NT : Int)), .int .i64 (re + (NT : Int)), .int .i64 pz] 74)).trans (Off.grown hoa gr6)) (by decide)
            have y6 : w6.cell? ⟨gd, 4, none⟩ = some (.slice Dn ndn cdn) := b6.cell 4
            have z6 := b6.free 4
            have bx6 := grown_block gr6 ((bx.below hb5a).alloc (.cells #[str rx, .int .i64 (rb + (NT : Int)), .int .i64 (re + (NT : Int)), .int .i64 pz] 74)) HNE.out
            have bx6 : Blk w6 wr.heap.size 74 #[str rx, .int .i64 rb, .int .i64 re, .int .i64 rp] := bx6
            refine hK.out _ _ (fun _ => ⟨y6, bx6.cell 0, bx6.cell 1, bx6.cell 2, bx6.cell 3⟩) ?_
            clear hK K
            try simp only [Act.put, List.setIfInBounds_toArray, List.set_cons_zero, List.set_cons_succ]
            refine wpAnyM_one (i := 11) (by as_aux_lemma => kernel_rfl) rfl (fun K hK => ?_)
            go_simp
            refine hK.out _ _ (fun _ => ⟨y6, bx6.cell 0, bx6.cell 1, bx6.cell 2, bx6.cell 3⟩) ?_
            clear hK K
            try simp only [Act.put, List.setIfInBounds_toArray, List.set_cons_zero, List.set_cons_succ]
            refine wpAnyM_one (i := 12) (by as_aux_lemma => kernel_rfl) rfl (fun K hK => ?_)
            go_simp
            refine hK.out _ _ (fun _ => ⟨y6, bx6.cell 0, bx6.cell 1, bx6.cell 2, bx6.cell 3⟩) ?_
            clear hK K
            try simp only [Act.put, List.setIfInBounds_toArray, List.set_cons_zero, List.set_cons_succ]
            refine wpAnyM_one (i := 13) (by as_aux_lemma => kernel_rfl) rfl (fun K hK => ?_)
            go_simp
            refine hK.out _ _ (fun h => absurd rfl h) ?_
            clear hK K
            try simp only [Act.put, List.setIfInBounds_toArray, List.set_cons_zero, List.set_cons_succ]
            refine wpAnyM_done (by as_aux_lemma => kernel_rfl) (NoPanic.normal ?_) _
            go_wp2
            go_roundw
            case rel =>
              have O5 := ((OO.out.drew).below hb5).alloc (.cells #[str rx, .int .i64 (rb + (NT : Int)), .int .i64 (re + (NT : Int)), .int .i64 pz] 74)
              have E5 := ((EE.out.drew).bel hb5).alloc (.cells #[str rx, .int .i64 (rb + (NT : Int)), .int .i64 (re + (NT : Int)), .int .i64 pz] 74)
              have O6 := O5.nod (y := ⟨rx, rb + (NT : Int), re + (NT : Int), pz⟩) ⟨HTO2.out.1, RB.out, RE.out, RP.out⟩ own6 gr6
              have E6 := (E5.grown hoa gr6 (by decide)).setd hgd 4 (.slice A6 (ndn + 1) c6)
              refine ⟨j + 1, by omega, by go_num, ⟨⟨Da, nda, cda⟩, ⟨Dt, ndt, cdt⟩, ⟨Dx, ndx, cdx⟩, ⟨Dr, ndr, cdr⟩, ⟨A6, ndn + 1, c6⟩, Dh, Dl⟩, E6, ?_, rfl, rfl⟩
              rw [HJ.out]
              exact O6
            case measure => simp [intOf]; omega
          · obtain rfl : nn = j := by omega
            have HD : Hid (CatR w0 (w.alloc (.cells #[.slice Aa na ca, .slice At nt ct, .slice Ax nx cx, .slice Ar nr cr, .slice An nn cn, .slice Ah nh ch, .slice Al nl cl] 30)) wr gd Dh Dl ⟨d.attrs, d.toks ++ b.toks, d.texts ++ b.texts.map (Cor.mvT (NT : Int)), d.regs ++ b.regs.map (Cor.mvR (NT : Int)), d.nods ++ (b.nods.take nn).map (Cor.mvN (NT : Int) (NN : Int)), d.heads, d.rels⟩) := ⟨_, E, O, rfl, rfl⟩
            clear E O
            go_wp2
            refine bodyPost_end (v := .tuple #[]) (results_none rfl _ _ _) rfl ?_
            have h9 := HD.out
            rw [List.take_of_length_le (by have : b.nods.length = nn := HNL.out; omega)] at h9
            obtain ⟨D9, E9, O9, e1, e2⟩ := h9
            exact ⟨rfl, D9, ⟨E9.below, HW1.out.trans E9.keep⟩, O9, e1, e2⟩
        -- dev>
end Go.Proofs.Ytaihgoohmcipkaa
