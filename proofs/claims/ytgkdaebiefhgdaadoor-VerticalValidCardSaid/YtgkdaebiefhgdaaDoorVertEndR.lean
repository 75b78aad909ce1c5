/-
  The contract of the reader's endRegion. No conditions but that the state is one of a reading.
-/
import Derived.Test.YtgkdaebiefhgdaaDoorVertMm
import Derived.Test.YtgkdaebiefhgdaaDoorVertPl
import Derived.Test.YtgkdaebiefhgdaaDoorCorSortP
import Derived.Test.YtgkdaebiefhgdaaDoorCorHold
import Derived.RegionTactic
import Derived.BigRegion
import Derived.Deep.RegionLaw
import Derived.Deep.CutRange
namespace Go.Proofs.YtgkdaebiefhgdaaDoor
set_option linter.unusedSimpArgs false
set_option linter.unusedVariables false
open Go.RowKit
open Feat (Bs)
open Tagp (KV)
open Vert (Rd lastOf)
attribute [local go_sem] byte_mk ByteArray.extract_mk

theorem info_regW : (Tryd.prog.info? 58).map (fun i => (i.zero, i.size, i.bytes)) = some (some (.agg #[.string ⟨#[]⟩, .int .i64 0, .int .i64 0, .slice none 0 0]), 4, 56) := by kernel_rfl

set_option maxRecDepth 100000 in
set_option maxHeartbeats 4000000 in
theorem endRegion_any (B g : Nat) (h : RdH) (ats : List At) (s : Rd) (cl : Bool) (nm : Bs) (KA : Option Addr) (Kn Kc : Nat) (w : World) (k : OwnR w B g h ats s) :
    Calls Tryd.prog 27 #[.pointer (some ⟨g, 0, none⟩), .agg #[.bool cl, str nm, .slice KA Kn Kc]] w (Steps B g ats w (Vert.endReg s nm)) := by
  obtain ⟨⟨Aa, na, ca⟩, ⟨At', nt, ct⟩, ⟨Ax, nx, cx⟩, ⟨Ar, nr, cr⟩, ⟨Ao, no, co⟩⟩ := h
  obtain ⟨toks, texts, regs, opn, tx⟩ := s
  have hBg : B ≤ w.heap.size := Nat.le_trans k.bg (Nat.le_of_lt k.blk.lt)
  have hB0 := (Below.refl B w).alloc hBg (.cells #[.bool cl, str nm, .slice KA Kn Kc] 68)
  have HL0 := Lib.hid ((Below.refl w.heap.size w).alloc (Nat.le_refl _) (.cells #[.bool cl, str nm, .slice KA Kn Kc] 68))
  have kb := k.alloc (.cells #[.bool cl, str nm, .slice KA Kn Kc] 68)
  have hT := Blk.new w 68 #[.bool cl, str nm, .slice KA Kn Kc]
  have c8 : _ = some (Value.bool tx) := kb.blk.cell 8
  have c7 : _ = some (Value.slice Ao no co) := kb.blk.cell 7
  have v1 : _ = some (str nm) := hT.cell 1
  have ho : opn.length = no := k.o.len
  have ko := k.ok.o
  dsimp only at ko
  have HB0 := Lib.hid hB0
  have HKB := Lib.hid kb
  have HT := Lib.hid hT
  have HK := Lib.hid k
  clear hB0 kb hT k
  cases tx with
  | false =>
    have HF : Hid (Vert.endReg ⟨toks, texts, regs, opn, false⟩ nm = .error 17) := by show _ = _; unfold Vert.endReg; rfl
    go_enter Tryd.func27, Tryd.ntmps27
    go_wp2
    go_ret
    rw [HF.out]
    exact Steps.err hBg HL0.out rfl
  | true =>
    have hw0 : IntKind.i64.wrap ((no : Int) - 1) = (no : Int) - 1 := IntWalk.i64_in _ (by omega)
    go_enter Tryd.func27, Tryd.ntmps27
    go_wp2_with fail
    go_loopw [5] (fun iv wr => ∃ (i : Nat), iv = .int .i64 ((i : Int) - 1) ∧ i ≤ no ∧ Hid (∀ j (_ : i ≤ j) (hj : j < opn.length), opn[j].nm ≠ nm) ∧ Below w.heap.size w wr ∧ Blk wr w.heap.size 68 #[.bool cl, str nm, .slice KA Kn Kc]) (fun iv _ => (intOf iv + 1).toNat)
    case atStart => exact ⟨no, rfl, Nat.le_refl _, fun j h1 h2 => by omega, (Below.refl _ _).alloc (Nat.le_refl _) _, HT.out⟩
    case round =>
      obtain ⟨i, rfl, hi, hne, hb, hT1⟩ := hrel
      have kr := HK.out.below hb
      have bB : Below B w wr := hb.mono hBg
      have HbL := Lib.hid hb
      have c7 : wr.cell? ⟨g, 7, none⟩ = some (Value.slice Ao no co) := kr.blk.cell 7
      have v1 : wr.cell? ⟨w.heap.size, 1, none⟩ = some (str nm) := hT1.cell 1
      by_cases hi0 : i = 0
      · subst hi0
        have HF : Hid (Vert.endReg ⟨toks, texts, regs, opn, true⟩ nm = .error 11) := by
          show _ = _; unfold Vert.endReg; dsimp only; rw [if_neg (by simp), lastOf_none (fun j hj => hne.out j (by omega) hj)]
        have e0 : ((0 : Nat) : Int) - 1 = -1 := rfl
        have HbB := Lib.hid bB
        clear kr bB
        rw [e0]
        go_wp2
        go_quiet (fail)
        go_wp2
        go_ret
        rw [HF.out]
        exact Steps.err hBg (below_drewN HbL.out _) rfl
      · obtain ⟨i, rfl⟩ : ∃ q, i = q + 1 := ⟨i - 1, by omega⟩
        obtain ⟨go_, oo, K2, hk, hAo, hTx, p0, p1, p2, p3⟩ := kr.o.at_ (i := i) (by show i < no; omega)
        dsimp only at hAo
        subst hAo
        obtain ⟨t, ht2⟩ : ∃ t, opn[i] = t := ⟨_, rfl⟩
        simp only [ht2] at p0 p1 p2 p3 hTx
        have e0 : ((i + 1 : Nat) : Int) - 1 = (i : Int) := by omega
        have hj0 : (0 : Int) ≤ (i : Int) := by omega
        have hj1 : (i : Int) < (no : Int) := by omega
        have HbB := Lib.hid bB
        have Hkr := Lib.hid kr
        rw [e0]
        clear kr bB
        by_cases hnm : t.nm = nm
        · have hlast : lastOf nm opn = some i := lastOf_at hk (by rw [ht2]; exact hnm) (fun j h1 hj => hne.out j (by omega) hj)
          have hsz := size_reg
          have hget : opn[i]? = some t := by rw [List.getElem?_eq_getElem hk, ht2]
          have htn : toks.length = nt := Hkr.out.t.reads.len
          have hq : (t.nm == nm) = true := by rw [beq_iff_eq]; exact hnm
          have c1 : wr.cell? ⟨g, 1, none⟩ = some (Value.slice At' nt ct) := Hkr.out.blk.cell 1
          by_cases hb8 : t.b = nt
          · have HF : Hid (Vert.endReg ⟨toks, texts, regs, opn, true⟩ nm = .error 8) := by
              show _ = _; unfold Vert.endReg; dsimp only; rw [if_neg (by simp), hlast]; dsimp only; rw [hget]; dsimp only; rw [if_pos (by rw [hb8, htn])]
            rw [hb8] at p1
            clear hb8
            go_wp2
            go_quiet (fail)
            generalize hwq : World.drewN wr _ = wq
            have r0 : wq.cell? ⟨go_, oo + i * 4, none⟩ = some (str t.nm) := by rw [← hwq]; exact p0
            have r1 : wq.cell? ⟨go_, oo + i * 4 + 1, none⟩ = some (.int .i64 (nt : Nat)) := by rw [← hwq]; exact p1
            have r2 : wq.cell? ⟨go_, oo + i * 4 + 2, none⟩ = some (.int .i64 t.e) := by rw [← hwq]; exact p2
            have r3 : wq.cell? ⟨go_, oo + i * 4 + 3, none⟩ = some (.slice K2.A K2.n K2.c) := by rw [← hwq]; exact p3
            have r7 : wq.cell? ⟨g, 7, none⟩ = some (Value.slice (some ⟨go_, oo, none⟩) no co) := by rw [← hwq]; exact c7
            have HLQ : Hid (Below w.heap.size w wq) := by rw [← hwq]; exact below_drewN HbL.out _
            have bq : Hid (Below B w wq) := by rw [← hwq]; exact below_drewN HbB.out _
            have kq : Hid (OwnR wq B g ⟨⟨Aa, na, ca⟩, ⟨At', nt, ct⟩, ⟨Ax, nx, cx⟩, ⟨Ar, nr, cr⟩, ⟨some ⟨go_, oo, none⟩, no, co⟩⟩ ats ⟨toks, texts, regs, opn, true⟩) := by rw [← hwq]; exact Hkr.out.drewN _
            have x1 : (wq.alloc (.cells #[str nm, .int .i64 (nt : Nat), .int .i64 t.e, .slice K2.A K2.n K2.c] 58)).cell? ⟨g, 1, none⟩ = some (Value.slice At' nt ct) := (kq.out.alloc _).blk.cell 1
            have y1 : _ = some (Value.int .i64 (nt : Nat)) := (Blk.new wq 58 #[str nm, .int .i64 (nt : Nat), .int .i64 t.e, .slice K2.A K2.n K2.c]).cell 1
            clear hwq p0 p1 p2 p3 c7 c1
            go_wp2
            go_quiet (fail)
            go_wp2
            go_ret
            rw [HF.out]
            exact Steps.err hBg (below_drewN (HLQ.out.alloc HLQ.out.size _) _) rfl
          · -- <tail
            have hb8f : (t.b == (nt : Int)) = false := by rw [beq_eq_false_iff_ne]; exact hb8
            have HF : Hid (Vert.endReg ⟨toks, texts, regs, opn, true⟩ nm = .ok ⟨toks, texts, regs ++ [{ t with e := (nt : Nat) }], opn.eraseIdx i, true⟩) := by
              show _ = _; unfold Vert.endReg; dsimp only; rw [if_neg (by simp), hlast]; dsimp only; rw [hget]; dsimp only; rw [if_neg (by rw [htn]; exact hb8), htn]
            clear hb8
            obtain ⟨i0, hi0, hz0, hz1, hz2⟩ := info_parts info_regW
            go_wp2
            go_quiet (fail)
            generalize hwq : World.drewN wr _ = wq
            have r0 : wq.cell? ⟨go_, oo + i * 4, none⟩ = some (str t.nm) := by rw [← hwq]; exact p0
            have r1 : wq.cell? ⟨go_, oo + i * 4 + 1, none⟩ = some (.int .i64 t.b) := by rw [← hwq]; exact p1
            have r2 : wq.cell? ⟨go_, oo + i * 4 + 2, none⟩ = some (.int .i64 t.e) := by rw [← hwq]; exact p2
            have r3 : wq.cell? ⟨go_, oo + i * 4 + 3, none⟩ = some (.slice K2.A K2.n K2.c) := by rw [← hwq]; exact p3
            have r7 : wq.cell? ⟨g, 7, none⟩ = some (Value.slice (some ⟨go_, oo, none⟩) no co) := by rw [← hwq]; exact c7
            have HLQ : Hid (Below w.heap.size w wq) := by rw [← hwq]; exact below_drewN HbL.out _
            have bq : Hid (Below B w wq) := by rw [← hwq]; exact below_drewN HbB.out _
            have kq : Hid (OwnR wq B g ⟨⟨Aa, na, ca⟩, ⟨At', nt, ct⟩, ⟨Ax, nx, cx⟩, ⟨Ar, nr, cr⟩, ⟨some ⟨go_, oo, none⟩, no, co⟩⟩ ats ⟨toks, texts, regs, opn, true⟩) := by rw [← hwq]; exact Hkr.out.drewN _
            have tq : Hid (OwnT wq B (t, K2)) := by rw [← hwq]; exact hTx.off (R := 4294967295) (Off.drewN _ _) (by decide)
            have hnm' : Hid (t.nm = nm) := hnm
            have HTE : Hid (∃ te, t.e = te) := ⟨_, rfl⟩
            obtain ⟨te, hte⟩ := HTE.out
            obtain ⟨tb, htb⟩ : ∃ tb, t.b = tb := ⟨_, rfl⟩
            rw [htb] at r1 hb8f
            rw [hte] at r2
            have HTB : Hid (t.b = tb) := htb
            have x1 : (wq.alloc (.cells #[str nm, .int .i64 tb, .int .i64 te, .slice K2.A K2.n K2.c] 58)).cell? ⟨g, 1, none⟩ = some (Value.slice At' nt ct) := (kq.out.alloc _).blk.cell 1
            have y1 : _ = some (Value.int .i64 tb) := (Blk.new wq 58 #[str nm, .int .i64 tb, .int .i64 te, .slice K2.A K2.n K2.c]).cell 1
            clear hwq p0 p1 p2 p3 c7 c1 htb hte hTx
            go_wp2
            go_quiet (fail)
            go_wp2
            generalize hwa : World.setCell (World.drewN _ _) _ _ = wa
            have hba : Below wq.heap.size wq wa := by rw [← hwa]; exact (below_drewN ((Below.refl _ _).alloc (Nat.le_refl _) _) _).setCell (p := ⟨wq.heap.size, 2, none⟩) (Nat.le_refl _) _
            have BXA : Hid (Blk wa wq.heap.size 58 #[str nm, .int .i64 tb, .int .i64 (nt : Nat), .slice K2.A K2.n K2.c]) := by
              rw [← hwa]
              exact Blk.set_ (cs := #[str nm, .int .i64 tb, .int .i64 te, .slice K2.A K2.n K2.c]) (Blk.new wq 58 _) 2 _
            have HKA := Lib.hid (kq.out.below hba)
            have TA : Hid (OwnT wa B (t, K2)) := tq.out.off (R := 4294967295) (Off.below hba) (by decide)
            have BA : Hid (Below B w wa) := bq.out.trans (hba.mono (Nat.le_trans kq.out.bg (Nat.le_of_lt kq.out.blk.lt)))
            obtain ⟨Lr, hLr, OWNA, hWr⟩ := HKA.out.r
            have HRlt : Hid (∀ b, (Value.slice Ar nr cr).ownBlock = some b → b < wq.heap.size) := fun b hb => by
              obtain ⟨L', _, o', _⟩ := kq.out.r
              exact (o'.lt b hb).2
            have hS12 := (⟨HKA.out.blk.cell 3, BXA.out.cell 0, BXA.out.cell 1, BXA.out.cell 2, BXA.out.cell 3⟩ : _ ∧ _ ∧ _ ∧ _ ∧ _)
            have HBA1 : Hid (Below wa.heap.size wa (wa.alloc (.cells #[str nm, .int .i64 tb, .int .i64 (nt : Nat), .slice K2.A K2.n K2.c] 58))) := (Below.refl _ _).alloc (Nat.le_refl _) _
            have KA1 := Lib.hid ((HKA.out.below HBA1.out).drew)
            have BX1 := BXA.out.below HBA1.out
            have hS12a := (⟨KA1.out.blk.cell 3, BX1.cell 0, BX1.cell 1, BX1.cell 2, BX1.cell 3⟩ : _ ∧ _ ∧ _ ∧ _ ∧ _)
            clear BX1
            have OWNR : Hid ((wa.alloc (.cells #[str nm, .int .i64 tb, .int .i64 (nt : Nat), .slice K2.A K2.n K2.c] 58)).drew.ownsRow B 58 4 (.slice Ar nr cr) nr (Lr.flatMap txV)) := own_off (own_below OWNA HBA1.out) (Off.drew (R := 4294967295) _) (by decide)
            have hrn : nr ≤ 1024 := by have := HKA.out.r.len; have h2 := HKA.out.ok.r; dsimp only at this h2; omega
            have hnt : nt ≤ 4096 := by have h2 := HKA.out.ok.t; dsimp only at h2; omega
            have hsza : B ≤ wa.heap.size := Nat.le_trans (Nat.le_trans kq.out.bg (Nat.le_of_lt kq.out.blk.lt)) hba.size
            clear hwa x1 y1 OWNA
            have HLr := Lib.hid hLr
            have HWr := Lib.hid hWr
            have Hba := Lib.hid hba
            clear hLr hWr hba r0 r1 r2 r3 r7
            refine wp_region_m (fun W => W.cell? ⟨g, 3, none⟩ = some (.slice Ar nr cr) ∧ W.cell? ⟨wq.heap.size, 0, none⟩ = some (str nm) ∧ W.cell? ⟨wq.heap.size, 1, none⟩ = some (.int .i64 tb) ∧ W.cell? ⟨wq.heap.size, 2, none⟩ = some (.int .i64 (nt : Nat)) ∧ W.cell? ⟨wq.heap.size, 3, none⟩ = some (.slice K2.A K2.n K2.c)) 12 (by as_aux_lemma => kernel_rfl) (hS12) (fun hHeld => ?_)
            refine wpAnyM_take (i := 0) (v := ?_) rfl (by as_aux_lemma => kernel_rfl) (by as_aux_lemma => kernel_rfl) (by as_aux_lemma => kernel_rfl) (by as_aux_lemma => kernel_rfl) (fun _ _ _ h => h) (Or.inl ⟨by rfl, ?_⟩) (hHeld) ?_
            rotate_left
            · ((intro W hSw); (try dsimp only at hSw); go_simp; try (with_reducible rfl))
            simp only [List.getElem_toArray, List.getElem_cons_zero, List.getElem_cons_succ, Act.put, List.setIfInBounds_toArray, List.set_cons_zero, List.set_cons_succ]
            refine wpAnyM_take (i := 1) (v := ?_) rfl (by as_aux_lemma => kernel_rfl) (by as_aux_lemma => kernel_rfl) (by as_aux_lemma => kernel_rfl) (by as_aux_lemma => kernel_rfl) (fun _ _ _ h => h) (Or.inl ⟨by rfl, ?_⟩) (hHeld) ?_
            rotate_left
            · ((intro W hSw); (try dsimp only at hSw); go_simp; try (with_reducible rfl))
            simp only [List.getElem_toArray, List.getElem_cons_zero, List.getElem_cons_succ, Act.put, List.setIfInBounds_toArray, List.set_cons_zero, List.set_cons_succ]
            refine wpAnyM_take (i := 2) (v := ?_) rfl (by as_aux_lemma => kernel_rfl) (by as_aux_lemma => kernel_rfl) (by as_aux_lemma => kernel_rfl) (by as_aux_lemma => kernel_rfl) (fun _ _ _ h => h) (Or.inl ⟨by rfl, ?_⟩) (hHeld) ?_
            rotate_left
            · ((intro W hSw); (try dsimp only at hSw); go_simp; try (with_reducible rfl))
            simp only [List.getElem_toArray, List.getElem_cons_zero, List.getElem_cons_succ, Act.put, List.setIfInBounds_toArray, List.set_cons_zero, List.set_cons_succ]
            refine wpAnyM_take (i := 3) (v := ?_) rfl (by as_aux_lemma => kernel_rfl) (by as_aux_lemma => kernel_rfl) (by as_aux_lemma => kernel_rfl) (by as_aux_lemma => kernel_rfl) (fun _ _ _ h => h) (Or.inl ⟨by rfl, ?_⟩) (hHeld) ?_
            rotate_left
            · ((intro W hSw); (try dsimp only at hSw); go_simp; try (with_reducible rfl))
            simp only [List.getElem_toArray, List.getElem_cons_zero, List.getElem_cons_succ, Act.put, List.setIfInBounds_toArray, List.set_cons_zero, List.set_cons_succ]
            refine wpAnyM_take (i := 4) (v := ?_) rfl (by as_aux_lemma => kernel_rfl) (by as_aux_lemma => kernel_rfl) (by as_aux_lemma => kernel_rfl) (by as_aux_lemma => kernel_rfl) (fun _ _ _ h => h) (Or.inl ⟨by rfl, ?_⟩) (hHeld) ?_
            rotate_left
            · ((intro W hSw); (try dsimp only at hSw); go_simp; try (with_reducible rfl))
            simp only [List.getElem_toArray, List.getElem_cons_zero, List.getElem_cons_succ, Act.put, List.setIfInBounds_toArray, List.set_cons_zero, List.set_cons_succ]
            refine wpAnyM_take (i := 5) (v := ?_) rfl (by as_aux_lemma => kernel_rfl) (by as_aux_lemma => kernel_rfl) (by as_aux_lemma => kernel_rfl) (by as_aux_lemma => kernel_rfl) (fun _ _ _ h => h) (Or.inl ⟨by rfl, ?_⟩) (hHeld) ?_
            rotate_left
            · ((intro W hSw); (try dsimp only at hSw); go_simp; try (with_reducible rfl))
            simp only [List.getElem_toArray, List.getElem_cons_zero, List.getElem_cons_succ, Act.put, List.setIfInBounds_toArray, List.set_cons_zero, List.set_cons_succ]
            refine wpAnyM_take (i := 6) (v := ?_) rfl (by as_aux_lemma => kernel_rfl) (by as_aux_lemma => kernel_rfl) (by as_aux_lemma => kernel_rfl) (by as_aux_lemma => kernel_rfl) (fun _ _ _ h => h) (Or.inl ⟨by rfl, ?_⟩) (hHeld) ?_
            rotate_left
            · ((intro W hSw); (try dsimp only at hSw); go_simp; try (with_reducible rfl))
            simp only [List.getElem_toArray, List.getElem_cons_zero, List.getElem_cons_succ, Act.put, List.setIfInBounds_toArray, List.set_cons_zero, List.set_cons_succ]
            refine wpAnyM_one (i := 7) (by as_aux_lemma => kernel_rfl) rfl (fun K hK => ?_)
            go_simp
            refine hK.out _ _ (fun _ => hS12a) ?_
            clear hK K
            try simp only [List.getElem_toArray, List.getElem_cons_zero, List.getElem_cons_succ, Act.put, List.setIfInBounds_toArray, List.set_cons_zero, List.set_cons_succ]
            refine wpAnyM_one (i := 8) (by as_aux_lemma => kernel_rfl) rfl (fun K hK => ?_)
            refine step_app _ rfl (.tmp 65) (.tmp 67) _ rfl B 58 i0 _ 4 56 Tryd.underlying25 hi0 hz0 hz1 hz2 rfl (by decide) (.slice Ar nr cr) nr (Lr.flatMap txV) (by rfl) OWNR.out (some ⟨wa.heap.size, 0, none⟩) 1 1 (txV (⟨nm, tb, (nt : Nat), t.ks⟩, K2)) (by rfl) rfl (fun _ => ⟨_, rfl, news_four rfl⟩) (txV_one7 [_]) (by unfold maxLen; omega) (by omega) (by simp; omega) ?_
            intro v3 w3 own3 gr3 ob3
            obtain ⟨A3, c3', rfl, -, -⟩ := own_slc own3
            have B3 := (KA1.out.blk.off (Off.grown OWNR.out gr3) (by decide))
            have BX3 : Blk w3 wq.heap.size 58 #[str nm, .int .i64 tb, .int .i64 (nt : Nat), .slice K2.A K2.n K2.c] := (gr3.block wq.heap.size (Nat.lt_of_lt_of_le BXA.out.lt (by simp)) (fun e => by have := (HRlt.out _ e.symm); omega)).trans (BXA.out.below HBA1.out.drew)
            have S12_ := (⟨B3.cell 3, BX3.cell 0, BX3.cell 1, BX3.cell 2, BX3.cell 3⟩ : _ ∧ _ ∧ _ ∧ _ ∧ _)
            have f3 := B3.free 3
            clear B3 BX3
            refine hK.out _ _ (fun _ => S12_) ?_
            clear hK K
            try simp only [List.getElem_toArray, List.getElem_cons_zero, List.getElem_cons_succ, Act.put, List.setIfInBounds_toArray, List.set_cons_zero, List.set_cons_succ]
            refine wpAnyM_one (i := 9) (by as_aux_lemma => kernel_rfl) rfl (fun K hK => ?_)
            go_simp
            refine hK.out _ _ (fun _ => S12_) ?_
            clear hK K
            try simp only [List.getElem_toArray, List.getElem_cons_zero, List.getElem_cons_succ, Act.put, List.setIfInBounds_toArray, List.set_cons_zero, List.set_cons_succ]
            refine wpAnyM_one (i := 10) (by as_aux_lemma => kernel_rfl) rfl (fun K hK => ?_)
            go_simp
            refine hK.out _ _ (fun _ => S12_) ?_
            clear hK K
            try simp only [List.getElem_toArray, List.getElem_cons_zero, List.getElem_cons_succ, Act.put, List.setIfInBounds_toArray, List.set_cons_zero, List.set_cons_succ]
            refine wpAnyM_one (i := 11) (by as_aux_lemma => kernel_rfl) rfl (fun K hK => ?_)
            go_simp
            refine hK.out _ _ (fun _ => S12_) ?_
            clear hK K
            try simp only [List.getElem_toArray, List.getElem_cons_zero, List.getElem_cons_succ, Act.put, List.setIfInBounds_toArray, List.set_cons_zero, List.set_cons_succ]
            refine wpAnyM_one (i := 12) (by as_aux_lemma => kernel_rfl) rfl (fun K hK => ?_)
            go_simp
            refine hK.out _ _ (fun h => absurd rfl h) ?_
            clear hK K
            try simp only [List.getElem_toArray, List.getElem_cons_zero, List.getElem_cons_succ, Act.put, List.setIfInBounds_toArray, List.set_cons_zero, List.set_cons_succ]
            refine wpAnyM_done (by as_aux_lemma => kernel_rfl) (NoPanic.normal ?_) _

            have f7_ : True := trivial
            have HY : OwnT (wa.alloc (.cells #[str nm, .int .i64 tb, .int .i64 (nt : Nat), .slice K2.A K2.n K2.c] 58)).drew B (⟨nm, tb, (nt : Nat), t.ks⟩, K2) :=
              ⟨by have := TA.out.1; rw [show (t, K2).1.nm = nm from hnm'.out] at this; exact this, by have := TA.out.2.1; rw [show (t, K2).1.b = tb from HTB.out] at this; exact this, ⟨by show _ ≤ ((nt : Nat) : Int); omega, by show ((nt : Nat) : Int) ≤ _; omega⟩,
                own_off (own_below TA.out.2.2.2.1 HBA1.out) (Off.drew (R := 4294967295) _) (by decide), TA.out.2.2.2.2⟩
            have HP := KA1.out.push_r (L := Lr) (y := (⟨nm, tb, (nt : Nat), t.ks⟩, K2)) HLr.out OWNR.out (fun z hz => ((HWr.out z hz).off (R := 4294967295) (Off.alloc wa _) (by decide)).off (R := 4294967295) (Off.drew _) (by decide)) HY own3 gr3 ob3 HKA.out.ok
            have B5 : Hid (Below B w (w3.setCell ⟨g, 3, none⟩ (.slice A3 (nr + 1) c3'))) := ((BA.out.trans (HBA1.out.drew.mono hsza)).grown gr3 (Nat.le_trans hsza (by simp)) (fun j hj => (OWNR.out.lt j hj).1)).setCell (p := ⟨g, 3, none⟩) HKA.out.bg _
            have HN5 : Hid (Only w (w3.setCell ⟨g, 3, none⟩ (.slice A3 (nr + 1) c3'))) := ((((Only.below HLQ.out).trans (Only.below Hba.out)).trans (Only.below HBA1.out.drew)).off (Off.grown OWNR.out gr3) (by decide)).off (Off.set_ (KA1.out.blk.off (Off.grown OWNR.out gr3) (by decide)) 3 _) (by decide)
            have hsz5 : B ≤ (w3.setCell ⟨g, 3, none⟩ (.slice A3 (nr + 1) c3')).heap.size := Nat.le_trans (Nat.le_trans hsza (Nat.le_trans (by simp) gr3.size)) (by simp [World.setCell])
            generalize hw5 : w3.setCell ⟨g, 3, none⟩ (.slice A3 (nr + 1) c3') = w5 at HP B5 HN5 hsz5 ⊢
            obtain ⟨P1, P2, P3, P4, P5, P6, P7⟩ := HP
            obtain ⟨Lo, hLo, HOO, hWo⟩ := P6
            replace HOO : w5.ownsRow B 58 4 (.slice (some ⟨go_, oo, none⟩) no co) no (Lo.flatMap txV) := HOO
            have hLol : Lo.length = no := by have := HOO.1; rw [flat_len4] at this; omega
            have hno40 : no ≤ 40 := by omega
            have hnc5 : no ≤ co := (own_fit HOO).1
            have OWNO0 := own_cut HOO (k := i) (by omega)
            rw [flat_take4] at OWNO0
            have HLN : Hid (((Lo.drop (i + 1)).flatMap txV).length = (no - (i + 1)) * 4) := by show _ = _; rw [flat_len4, List.length_drop, hLol]
            have SRC : Hid (Src w5.drew (cutAt (some ⟨go_, oo, none⟩) (i + 1) co 4) ((Lo.drop (i + 1)).flatMap txV)) := own_tail (own_off HOO (Off.drew (R := 4294967295) _) (by decide)) (by omega)
            have OWNO : Hid (w5.drew.ownsRow B 58 4 (.slice (some ⟨go_, oo, none⟩) i co) i ((Lo.take i).flatMap txV)) := own_off OWNO0 (Off.drew (R := 4294967295) _) (by decide)
            replace HOO := Lib.hid (own_off HOO (Off.drew (R := 4294967295) w5) (by decide))
            have hS13 : w5.drew.cell? ⟨g, 7, none⟩ = some (.slice (some ⟨go_, oo, none⟩) no co) := P1.cell 7
            have hs1 := fun W => slice_to (P := Tryd.prog) 25 58 i0 Tryd.underlying25 hi0 (some ⟨go_, oo, none⟩) no co i (by omega) W
            have hs2 := fun W => slice_from (P := Tryd.prog) 25 58 i0 4 Tryd.underlying25 hi0 hz1 (some ⟨go_, oo, none⟩) no co (i + 1) (by omega) W
            have ew : IntKind.i64.wrap ((i : Int) + 1) = (i : Int) + 1 := IntWalk.i64_in _ (by omega)
            have ec : ((i + 1 : Nat) : Int) = (i : Int) + 1 := by omega
            rw [ec] at hs2
            clear ec OWNO0
            have HLo := Lib.hid hLo
            have HWo := Lib.hid hWo
            replace P1 : Hid (Blk w5.drew g _ _) := P1
            have HP7 := Lib.hid P7
            clear hLo hWo hLol P7 hnm' HTE S12_ f3 hS12 hS12a hHeld gr3 own3 ob3 hw5 HY
            go_wp2
            refine wp_region_m (fun W => W.cell? ⟨g, 7, none⟩ = some (.slice (some ⟨go_, oo, none⟩) no co)) 17 (by as_aux_lemma => kernel_rfl) (hS13) (fun hHeld => ?_)
            refine wpAnyM_take (i := 0) (v := ?_) rfl (by as_aux_lemma => kernel_rfl) (by as_aux_lemma => kernel_rfl) (by as_aux_lemma => kernel_rfl) (by as_aux_lemma => kernel_rfl) (fun _ _ _ h => h) (Or.inl ⟨by rfl, ?_⟩) (hHeld) ?_
            rotate_left
            · ((intro W hSw); (try dsimp only at hSw); go_simp; try (with_reducible rfl))
            simp only [List.getElem_toArray, List.getElem_cons_zero, List.getElem_cons_succ, Act.put, List.setIfInBounds_toArray, List.set_cons_zero, List.set_cons_succ]
            refine wpAnyM_take (i := 1) (v := ?_) rfl (by as_aux_lemma => kernel_rfl) (by as_aux_lemma => kernel_rfl) (by as_aux_lemma => kernel_rfl) (by as_aux_lemma => kernel_rfl) (fun _ _ _ h => h) (Or.inl ⟨by rfl, ?_⟩) (hHeld) ?_
            rotate_left
            · ((intro W hSw); (try dsimp only at hSw); go_simp; try (with_reducible rfl))
            simp only [List.getElem_toArray, List.getElem_cons_zero, List.getElem_cons_succ, Act.put, List.setIfInBounds_toArray, List.set_cons_zero, List.set_cons_succ]
            refine wpAnyM_take (i := 2) (v := ?_) rfl (by as_aux_lemma => kernel_rfl) (by as_aux_lemma => kernel_rfl) (by as_aux_lemma => kernel_rfl) (by as_aux_lemma => kernel_rfl) (fun _ _ _ h => h) (Or.inl ⟨by rfl, ?_⟩) (hHeld) ?_
            rotate_left
            · ((intro W hSw); (try dsimp only at hSw); go_simp; try (with_reducible rfl))
            simp only [List.getElem_toArray, List.getElem_cons_zero, List.getElem_cons_succ, Act.put, List.setIfInBounds_toArray, List.set_cons_zero, List.set_cons_succ]
            refine wpAnyM_take (i := 3) (v := ?_) rfl (by as_aux_lemma => kernel_rfl) (by as_aux_lemma => kernel_rfl) (by as_aux_lemma => kernel_rfl) (by as_aux_lemma => kernel_rfl) (fun _ _ _ h => h) (Or.inl ⟨by rfl, ?_⟩) (hHeld) ?_
            rotate_left
            · ((intro W hSw); (try dsimp only at hSw); go_simp; try (with_reducible rfl))
            simp only [List.getElem_toArray, List.getElem_cons_zero, List.getElem_cons_succ, Act.put, List.setIfInBounds_toArray, List.set_cons_zero, List.set_cons_succ]
            refine wpAnyM_take (i := 4) (v := ?_) rfl (by as_aux_lemma => kernel_rfl) (by as_aux_lemma => kernel_rfl) (by as_aux_lemma => kernel_rfl) (by as_aux_lemma => kernel_rfl) (fun _ _ _ h => h) (Or.inl ⟨by rfl, ?_⟩) (hHeld) ?_
            rotate_left
            · ((intro W hSw); (try dsimp only at hSw); go_simp; try (with_reducible rfl))
            simp only [List.getElem_toArray, List.getElem_cons_zero, List.getElem_cons_succ, Act.put, List.setIfInBounds_toArray, List.set_cons_zero, List.set_cons_succ]
            refine wpAnyM_take (i := 5) (v := ?_) rfl (by as_aux_lemma => kernel_rfl) (by as_aux_lemma => kernel_rfl) (by as_aux_lemma => kernel_rfl) (by as_aux_lemma => kernel_rfl) (fun _ _ _ h => h) (Or.inl ⟨by rfl, ?_⟩) (hHeld) ?_
            rotate_left
            · ((intro W hSw); (try dsimp only at hSw); go_simp; try (with_reducible rfl))
            simp only [List.getElem_toArray, List.getElem_cons_zero, List.getElem_cons_succ, Act.put, List.setIfInBounds_toArray, List.set_cons_zero, List.set_cons_succ]
            refine wpAnyM_take (i := 6) (v := ?_) rfl (by as_aux_lemma => kernel_rfl) (by as_aux_lemma => kernel_rfl) (by as_aux_lemma => kernel_rfl) (by as_aux_lemma => kernel_rfl) (fun _ _ _ h => h) (Or.inl ⟨by rfl, ?_⟩) (hHeld) ?_
            rotate_left
            · ((intro W hSw); (try dsimp only at hSw); go_simp; try (with_reducible rfl))
            simp only [List.getElem_toArray, List.getElem_cons_zero, List.getElem_cons_succ, Act.put, List.setIfInBounds_toArray, List.set_cons_zero, List.set_cons_succ]
            refine wpAnyM_take (i := 7) (v := ?_) rfl (by as_aux_lemma => kernel_rfl) (by as_aux_lemma => kernel_rfl) (by as_aux_lemma => kernel_rfl) (by as_aux_lemma => kernel_rfl) (fun _ _ _ h => h) (Or.inl ⟨by rfl, ?_⟩) (hHeld) ?_
            rotate_left
            · ((intro W hSw); (try dsimp only at hSw); go_simp; try (with_reducible rfl))
            simp only [List.getElem_toArray, List.getElem_cons_zero, List.getElem_cons_succ, Act.put, List.setIfInBounds_toArray, List.set_cons_zero, List.set_cons_succ]
            refine wpAnyM_take (i := 8) (v := ?_) rfl (by as_aux_lemma => kernel_rfl) (by as_aux_lemma => kernel_rfl) (by as_aux_lemma => kernel_rfl) (by as_aux_lemma => kernel_rfl) (fun _ _ _ h => h) (Or.inl ⟨by rfl, ?_⟩) (hHeld) ?_
            rotate_left
            · ((intro W hSw); (try dsimp only at hSw); go_simp; try (with_reducible rfl))
            simp only [List.getElem_toArray, List.getElem_cons_zero, List.getElem_cons_succ, Act.put, List.setIfInBounds_toArray, List.set_cons_zero, List.set_cons_succ]
            refine wpAnyM_take (i := 9) (v := ?_) rfl (by as_aux_lemma => kernel_rfl) (by as_aux_lemma => kernel_rfl) (by as_aux_lemma => kernel_rfl) (by as_aux_lemma => kernel_rfl) (fun _ _ _ h => h) (Or.inl ⟨by rfl, ?_⟩) (hHeld) ?_
            rotate_left
            · ((intro W hSw); (try dsimp only at hSw); go_simp; try (with_reducible rfl))
            simp only [List.getElem_toArray, List.getElem_cons_zero, List.getElem_cons_succ, Act.put, List.setIfInBounds_toArray, List.set_cons_zero, List.set_cons_succ]
            refine wpAnyM_take (i := 10) (v := ?_) rfl (by as_aux_lemma => kernel_rfl) (by as_aux_lemma => kernel_rfl) (by as_aux_lemma => kernel_rfl) (by as_aux_lemma => kernel_rfl) (fun _ _ _ h => h) (Or.inl ⟨by rfl, ?_⟩) (hHeld) ?_
            rotate_left
            · ((intro W hSw); (try dsimp only at hSw); go_simp; try (with_reducible rfl))
            simp only [List.getElem_toArray, List.getElem_cons_zero, List.getElem_cons_succ, Act.put, List.setIfInBounds_toArray, List.set_cons_zero, List.set_cons_succ]
            refine wpAnyM_take (i := 11) (v := ?_) rfl (by as_aux_lemma => kernel_rfl) (by as_aux_lemma => kernel_rfl) (by as_aux_lemma => kernel_rfl) (by as_aux_lemma => kernel_rfl) (fun _ _ _ h => h) (Or.inl ⟨by rfl, ?_⟩) (hHeld) ?_
            rotate_left
            · ((intro W hSw); (try dsimp only at hSw); go_simp; try (with_reducible rfl))
            simp only [List.getElem_toArray, List.getElem_cons_zero, List.getElem_cons_succ, Act.put, List.setIfInBounds_toArray, List.set_cons_zero, List.set_cons_succ]
            refine wpAnyM_take (i := 12) (v := ?_) rfl (by as_aux_lemma => kernel_rfl) (by as_aux_lemma => kernel_rfl) (by as_aux_lemma => kernel_rfl) (by as_aux_lemma => kernel_rfl) (fun _ _ _ h => h) (Or.inl ⟨by rfl, ?_⟩) (hHeld) ?_
            rotate_left
            · ((intro W hSw); (try dsimp only at hSw); go_simp; try (with_reducible rfl))
            simp only [List.getElem_toArray, List.getElem_cons_zero, List.getElem_cons_succ, Act.put, List.setIfInBounds_toArray, List.set_cons_zero, List.set_cons_succ]
            refine wpAnyM_take (i := 13) (v := ?_) rfl (by as_aux_lemma => kernel_rfl) (by as_aux_lemma => kernel_rfl) (by as_aux_lemma => kernel_rfl) (by as_aux_lemma => kernel_rfl) (fun _ _ _ h => h) (Or.inl ⟨by rfl, ?_⟩) (hHeld) ?_
            rotate_left
            · ((intro W hSw); (try dsimp only at hSw); go_simp; try (with_reducible rfl))
            simp only [List.getElem_toArray, List.getElem_cons_zero, List.getElem_cons_succ, Act.put, List.setIfInBounds_toArray, List.set_cons_zero, List.set_cons_succ]
            refine wpAnyM_one (i := 14) (by as_aux_lemma => kernel_rfl) rfl (fun K hK => ?_)
            refine step_app _ rfl (.tmp 78) (.tmp 85) _ rfl B 58 i0 _ 4 56 Tryd.underlying25 hi0 hz0 hz1 hz2 rfl (by decide) (.slice (some ⟨go_, oo, none⟩) i co) i ((Lo.take i).flatMap txV) (by rfl) OWNO.out (cutAt (some ⟨go_, oo, none⟩) (i + 1) co 4) (no - (i + 1)) (co - (i + 1)) ((Lo.drop (i + 1)).flatMap txV) (by rfl) HLN.out SRC.out (txV_one7 _) (by unfold maxLen; omega) (by omega) hsz5 ?_
            intro v6 w6 own6 gr6 ob6
            obtain ⟨A6, c6', rfl, -, -⟩ := own_slc own6
            have B6 := (P1.out.off (Off.grown HOO.out gr6) (by decide))
            have S13_ : _ = some (Value.slice (some ⟨go_, oo, none⟩) no co) := B6.cell 7
            have f7 := B6.free 7
            clear B6
            refine hK.out _ _ (fun _ => S13_) ?_
            clear hK K
            try simp only [List.getElem_toArray, List.getElem_cons_zero, List.getElem_cons_succ, Act.put, List.setIfInBounds_toArray, List.set_cons_zero, List.set_cons_succ]
            refine wpAnyM_one (i := 15) (by as_aux_lemma => kernel_rfl) rfl (fun K hK => ?_)
            go_simp
            refine hK.out _ _ (fun _ => S13_) ?_
            clear hK K
            try simp only [List.getElem_toArray, List.getElem_cons_zero, List.getElem_cons_succ, Act.put, List.setIfInBounds_toArray, List.set_cons_zero, List.set_cons_succ]
            refine wpAnyM_one (i := 16) (by as_aux_lemma => kernel_rfl) rfl (fun K hK => ?_)
            go_simp
            refine hK.out _ _ (fun _ => S13_) ?_
            clear hK K
            try simp only [List.getElem_toArray, List.getElem_cons_zero, List.getElem_cons_succ, Act.put, List.setIfInBounds_toArray, List.set_cons_zero, List.set_cons_succ]
            refine wpAnyM_one (i := 17) (by as_aux_lemma => kernel_rfl) rfl (fun K hK => ?_)
            go_simp
            refine hK.out _ _ (fun h => absurd rfl h) ?_
            clear hK K
            try simp only [List.getElem_toArray, List.getElem_cons_zero, List.getElem_cons_succ, Act.put, List.setIfInBounds_toArray, List.set_cons_zero, List.set_cons_succ]
            refine wpAnyM_done (by as_aux_lemma => kernel_rfl) (NoPanic.normal ?_) _

            have HB6 : Hid (Below B w (w6.setCell ⟨g, 7, none⟩ (.slice A6 (i + (no - (i + 1))) c6'))) := (B5.out.drew.grown gr6 hsz5 (fun j hj => (OWNO.out.lt j hj).1)).setCell (p := ⟨g, 7, none⟩) HKA.out.bg _
            have HN6 : Hid (Only w (w6.setCell ⟨g, 7, none⟩ (.slice A6 (i + (no - (i + 1))) c6'))) := ((HN5.out.off (R := 4294967295) (Off.drew w5) (by decide)).off (Off.grown OWNO.out gr6) (by decide)).off (Off.set_ (P1.out.off (Off.grown HOO.out gr6) (by decide)) 7 _) (by decide)
            have HOK : Hid (RdOk ⟨toks, texts, regs ++ [{ t with e := (nt : Nat) }], opn.eraseIdx i, true⟩) := by
              have q := HKA.out.ok
              have qr := q.r
              have hil : i < opn.length := hk
              dsimp only at qr
              refine ⟨q.t, q.x, ?_, ?_, fun y hy => ?_, q.tx⟩
              · show (regs ++ [_]).length + (opn.eraseIdx i).length ≤ 1024
                rw [List.length_append, List.length_eraseIdx, if_pos hil, List.length_singleton]; omega
              · show (opn.eraseIdx i).length ≤ 40
                rw [List.length_eraseIdx, if_pos hil]; omega
              · rcases hy with hy | hy
                · rcases List.mem_append.1 hy with hy | hy
                  · exact q.ks y (.inl hy)
                  · simp at hy; subst hy; exact q.ks t (.inr (List.mem_of_getElem? hget))
                · exact q.ks y (.inr (List.mem_of_mem_eraseIdx hy))
            have HTR : Hid ((⟨nm, tb, (nt : Nat), t.ks⟩ : Cor.Reg) = { t with e := (nt : Nat) }) := by
              show _ = _
              rw [← HTB.out, ← hnm]
            go_wp2
            go_ret
            rw [HF.out]
            refine ⟨HB6.out, HN6.out, rfl, _, own_erase (wc := w5.drew) (x := ⟨toks, texts, regs ++ [⟨nm, tb, (nt : Nat), t.ks⟩], opn, true⟩) (i := i) P1.out HKA.out.bg (P2.off (R := 4294967295) (Off.drew _) (by decide)) (P3.off (R := 4294967295) (Off.drew _) (by decide) (by decide)) (P4.off (R := 4294967295) (Off.drew _) (by decide) (by decide)) (P5.off (R := 4294967295) (Off.drew _) (by decide) (by decide)) HLo.out HOO.out (fun z hz => (HWo.out z hz).off (R := 4294967295) (Off.drew _) (by decide)) HP7.out own6 gr6 ob6 rfl rfl ?_ rfl rfl HOK.out⟩
            show regs ++ [_] = regs ++ [_]
            rw [HTR.out]
            -- tail>
        · have hq : (t.nm == nm) = false := by rw [beq_eq_false_iff_ne]; exact hnm
          have hw1 : IntKind.i64.wrap ((i : Int) - 1) = (i : Int) - 1 := IntWalk.i64_in _ (by omega)
          go_wp2
          go_quiet (fail)
          go_wp2
          go_roundw
          case rel =>
            refine ⟨i, rfl, by omega, ?_, below_drewN hb _, hT1⟩
            show ∀ j (_ : i ≤ j) (hj : j < opn.length), opn[j].nm ≠ nm
            intro j h1 hj
            by_cases e : j = i
            · subst e; rw [ht2]; exact hnm
            · exact hne.out j (by omega) hj
          case measure => simp [intOf]
end Go.Proofs.YtgkdaebiefhgdaaDoor
