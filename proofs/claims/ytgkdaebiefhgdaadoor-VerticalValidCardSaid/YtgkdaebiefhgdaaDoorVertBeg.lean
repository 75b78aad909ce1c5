/-
  The contract of the reader's beginRegion. No conditions but that the state is one of a reading.
-/
import Derived.Test.YtgkdaebiefhgdaaDoorVertMm
import Derived.Test.YtgkdaebiefhgdaaDoorCorSortP
import Derived.RegionTactic
import Derived.Deep.RegionLaw
import Derived.BigRegion
import Derived.Deep.CutRange
import Derived.Test.YtgkdaebiefhgdaaDoorCorHold
namespace Go.Proofs.YtgkdaebiefhgdaaDoor
set_option linter.unusedSimpArgs false
open Go.RowKit
open Feat (Bs)
open Tagp (KV)
open Vert (Rd)
theorem info_regV : (Tryd.prog.info? 58).map (fun i => (i.zero, i.size, i.bytes)) = some (some (.agg #[.string ⟨#[]⟩, .int .i64 0, .int .i64 0, .slice none 0 0]), 4, 56) := by kernel_rfl
attribute [local go_sem] byte_mk ByteArray.extract_mk

set_option maxRecDepth 100000 in
set_option maxHeartbeats 4000000 in
theorem beginRegion_any (B g : Nat) (h : RdH) (ats : List At) (s : Rd) (cl : Bool) (nm : Bs) (KA : Option Addr) (Kn Kc : Nat) (ks : List KV) (w : World) (k : OwnR w B g h ats s)
    (hn : Len nm) (hK : w.ownsRow B 88 2 (.slice KA Kn Kc) Kn (ks.flatMap prV)) (hks : ∀ p ∈ ks, Len p.1 ∧ Len p.2) (hkl : ks.length ≤ 1048576) :
    Calls Tryd.prog 26 #[.pointer (some ⟨g, 0, none⟩), .agg #[.bool cl, str nm, .slice KA Kn Kc]] w (Steps B g ats w (Vert.beginReg s nm ks)) := by
  obtain ⟨⟨Aa, na, ca⟩, ⟨At', nt, ct⟩, ⟨Ax, nx, cx⟩, ⟨Ar, nr, cr⟩, ⟨Ao, no, co⟩⟩ := h
  obtain ⟨toks, texts, regs, opn, tx⟩ := s
  obtain ⟨i0, hi0, hz0, hz1, hz2⟩ := info_parts info_regV
  have hBg : B ≤ w.heap.size := Nat.le_trans k.bg (Nat.le_of_lt k.blk.lt)
  have hB0 := (Below.refl B w).alloc hBg (.cells #[.bool cl, str nm, .slice KA Kn Kc] 68)
  have HL0 := Lib.hid ((Below.refl w.heap.size w).alloc (Nat.le_refl _) (.cells #[.bool cl, str nm, .slice KA Kn Kc] 68))
  have kb := k.alloc (.cells #[.bool cl, str nm, .slice KA Kn Kc] 68)
  have hT := Blk.new w 68 #[.bool cl, str nm, .slice KA Kn Kc]
  have c8 : _ = some (Value.bool tx) := kb.blk.cell 8
  have c7 : _ = some (Value.slice Ao no co) := kb.blk.cell 7
  have f7 := kb.blk.free 7
  have c3 : _ = some (Value.slice Ar nr cr) := kb.blk.cell 3
  have c1 : _ = some (Value.slice At' nt ct) := kb.blk.cell 1
  have v1 : _ = some (str nm) := hT.cell 1
  have v2 : _ = some (Value.slice KA Kn Kc) := hT.cell 2
  have hr : regs.length = nr := k.r.len
  have ho : opn.length = no := k.o.len
  have ht : toks.length = nt := k.t.reads.len
  have kt := k.ok.t
  have kr := k.ok.r
  have ko := k.ok.o
  dsimp only at kt kr ko
  have HK := Lib.hid k
  have HKK := Lib.hid hK
  cases tx with
  | false =>
    have HF : Hid (Vert.beginReg ⟨toks, texts, regs, opn, false⟩ nm ks = .error 17) := by show _ = _; unfold Vert.beginReg; rfl
    have HB0 := Lib.hid hB0
    clear hB0 k hK kb hT
    go_enter Tryd.func26, Tryd.ntmps26
    go_wp2
    go_ret
    rw [HF.out]
    exact Steps.err hBg HL0.out rfl
  | true =>
    have r8 := hB0
    by_cases hlim : 1024 ≤ nr + no
    · have HF : Hid (Vert.beginReg ⟨toks, texts, regs, opn, true⟩ nm ks = .error 2) := by
        show _ = _; unfold Vert.beginReg; dsimp only; rw [if_neg (by simp), if_pos (.inl (by rw [hr, ho]; exact hlim))]
      have hw1 : IntKind.i64.wrap ((nr : Int) + (no : Int)) = (nr : Int) + (no : Int) := IntWalk.i64_in _ (by omega)
      have HB0 := Lib.hid hB0
      clear hB0 k hK r8 kb hT
      go_enter Tryd.func26, Tryd.ntmps26
      go_wp2
      go_quiet (fail)
      go_wp2
      go_ret
      rw [HF.out]
      exact Steps.err hBg (below_drewN HL0.out _) rfl
    · by_cases hdep : 40 ≤ no
      · have HF : Hid (Vert.beginReg ⟨toks, texts, regs, opn, true⟩ nm ks = .error 2) := by
          show _ = _; unfold Vert.beginReg; dsimp only; rw [if_neg (by simp), if_pos (.inr (by rw [ho]; exact hdep))]
        have hw1 : IntKind.i64.wrap ((nr : Int) + (no : Int)) = (nr : Int) + (no : Int) := IntWalk.i64_in _ (by omega)
        have HB0 := Lib.hid hB0
        clear hB0 k hK r8 kb hT
        go_enter Tryd.func26, Tryd.ntmps26
        go_wp2
        go_quiet (fail)
        go_wp2
        go_ret
        rw [HF.out]
        exact Steps.err hBg (below_drewN HL0.out _) rfl
      · have HF : Hid (Vert.beginReg ⟨toks, texts, regs, opn, true⟩ nm ks = .ok ⟨toks, texts, regs, opn ++ [⟨nm, toks.length, 0, ks⟩], true⟩) := by
          show _ = _; unfold Vert.beginReg; dsimp only; rw [if_neg (by simp), if_neg (by rw [hr, ho]; omega)]
        have hw1 : IntKind.i64.wrap ((nr : Int) + (no : Int)) = (nr : Int) + (no : Int) := IntWalk.i64_in _ (by omega)
        have HB0 := Lib.hid hB0
        have HKB := Lib.hid kb
        have HTT := Lib.hid hT
        clear hB0 k hK r8 kb hT
        go_enter Tryd.func26, Tryd.ntmps26
        go_wp2
        go_quiet (fail)
        go_wp2
        generalize hwq : (w.alloc (.cells #[.bool cl, str nm, .slice KA Kn Kc] 68)).drewN _ = wq
        have kq : OwnR wq B g ⟨⟨Aa, na, ca⟩, ⟨At', nt, ct⟩, ⟨Ax, nx, cx⟩, ⟨Ar, nr, cr⟩, ⟨Ao, no, co⟩⟩ ats ⟨toks, texts, regs, opn, true⟩ := by rw [← hwq]; exact HKB.out.drewN _
        have tq : Blk wq w.heap.size 68 #[.bool cl, str nm, .slice KA Kn Kc] := by rw [← hwq]; exact HTT.out
        have hkq : wq.ownsRow B 88 2 (.slice KA Kn Kc) Kn (ks.flatMap prV) := by rw [← hwq]; exact own_off (own_below HKK.out ((Below.refl _ _).alloc (Nat.le_refl _) _)) (Off.drewN _ _) (R := 4294967295) (by decide)
        have HLQ : Hid (Below w.heap.size w wq) := by rw [← hwq]; exact below_drewN HL0.out _
        have bq : Below B w wq := by rw [← hwq]; exact below_drewN HB0.out _
        clear hwq c8 c7 f7 c3 c1 v1 v2 HKB HTT HKK HB0
        obtain ⟨L, hL, hoL, hWL⟩ := kq.o
        have own0 : (wq.alloc (.cells #[str nm, .int .i64 (nt : Nat), .int .i64 0, .slice KA Kn Kc] 58)).drew.ownsRow B 58 4 (.slice Ao no co) no (L.flatMap txV) := own_off (own_below hoL ((Below.refl _ _).alloc (Nat.le_refl _) _)) (Off.drew (R := 4294967295) _) (by decide)
        have c7 : wq.cell? ⟨g, 7, none⟩ = some (Value.slice Ao no co) := kq.blk.cell 7
        have d7 : ∀ o, (wq.alloc o).cell? ⟨g, 7, none⟩ = some (Value.slice Ao no co) := fun o => (kq.alloc o).blk.cell 7
        have c1 : wq.cell? ⟨g, 1, none⟩ = some (Value.slice At' nt ct) := kq.blk.cell 1
        have v1 : wq.cell? ⟨w.heap.size, 1, none⟩ = some (str nm) := tq.cell 1
        have v2 : wq.cell? ⟨w.heap.size, 2, none⟩ = some (Value.slice KA Kn Kc) := tq.cell 2
        have hszq : B ≤ wq.heap.size := Nat.le_trans hBg bq.size
        have KQ1 := Lib.hid (kq.alloc (.cells #[str nm, .int .i64 (nt : Nat), .int .i64 0, .slice KA Kn Kc] 58)).drew
        have HKQ := Lib.hid hkq
        have OWN0 := Lib.hid own0
        have HBg := Lib.hid kq.bg
        have HY : Hid (OwnT (wq.alloc (.cells #[str nm, .int .i64 (nt : Nat), .int .i64 0, .slice KA Kn Kc] 58)).drew B (⟨nm, (nt : Int), 0, ks⟩, ⟨KA, Kn, Kc⟩)) :=
          ⟨hn, ⟨by show _ ≤ (nt : Int); omega, by show (nt : Int) ≤ _; omega⟩, ⟨by show _ ≤ (0 : Int); omega, by show (0 : Int) ≤ _; omega⟩, own_off (own_below HKQ.out ((Below.refl _ _).alloc (Nat.le_refl _) _)) (Off.drew (R := 4294967295) _) (by decide), hks⟩
        have HOK : Hid (RdOk ⟨toks, texts, regs, opn ++ [⟨nm, (nt : Int), 0, ks⟩], true⟩) :=
          ⟨kt, kq.ok.x, by simp; omega, by simp; omega, fun y hy => by
            rcases hy with hy | hy
            · exact kq.ok.ks y (.inl hy)
            · rcases List.mem_append.1 hy with hy | hy
              · exact kq.ok.ks y (.inr hy)
              · simp at hy; subst hy; exact hkl, kq.ok.tx⟩
        have B1 := Lib.hid ((bq.alloc hszq (.cells #[str nm, .int .i64 (nt : Nat), .int .i64 0, .slice KA Kn Kc] 58)).drew)
        have HWL : Hid (∀ z ∈ L, OwnT (wq.alloc (.cells #[str nm, .int .i64 (nt : Nat), .int .i64 0, .slice KA Kn Kc] 58)).drew B z) := fun z hz => ((hWL z hz).off (R := 4294967295) (Off.alloc wq _) (by decide)).off (R := 4294967295) (Off.drew _) (by decide)
        -- <tail
        have hno39 : no ≤ 39 := by omega
        have hnt4 : nt ≤ 4096 := by omega
        have TQ1 : Hid (Blk (wq.alloc (.cells #[str nm, .int .i64 (nt : Nat), .int .i64 0, .slice KA Kn Kc] 58)).drew w.heap.size 68 #[.bool cl, str nm, .slice KA Kn Kc]) := (tq.alloc _).off (R := 4294967295) (Off.drew _) (by decide)
        have hS6 := (⟨kq.blk.cell 7, kq.blk.cell 1, tq.cell 1, tq.cell 2⟩ : _ ∧ _ ∧ _ ∧ _)
        have hS6a := (⟨KQ1.out.blk.cell 7, KQ1.out.blk.cell 1, TQ1.out.cell 1, TQ1.out.cell 2⟩ : _ ∧ _ ∧ _ ∧ _)
        have HLn := Lib.hid hL
        clear kq hkq tq hoL c7 d7 c1 v1 v2 own0 hWL hL
        refine wp_region_m (fun W => W.cell? ⟨g, 7, none⟩ = some (.slice Ao no co) ∧ W.cell? ⟨g, 1, none⟩ = some (.slice At' nt ct) ∧ W.cell? ⟨w.heap.size, 1, none⟩ = some (str nm) ∧ W.cell? ⟨w.heap.size, 2, none⟩ = some (.slice KA Kn Kc)) 20 (by as_aux_lemma => kernel_rfl) (hS6) (fun hHeld => ?_)
        refine wpAnyM_take (i := 0) (v := ?_) rfl (by as_aux_lemma => kernel_rfl) (by as_aux_lemma => kernel_rfl) (by as_aux_lemma => kernel_rfl) (by as_aux_lemma => kernel_rfl) (fun _ _ _ h => h) (Or.inl ⟨by rfl, ?_⟩) (hHeld) ?_
        rotate_left
        · ((intro W hSw); (try dsimp only at hSw); go_simp; try (with_reducible rfl))
        simp only [List.getElem_toArray, List.getElem_cons_zero, List.getElem_cons_succ, Act.put, List.setIfInBounds_toArray, List.set_cons_zero, List.set_cons_succ]
        refine wpAnyM_take (i := 1) (v := ?_) rfl (by as_aux_lemma => kernel_rfl) (by as_aux_lemma => kernel_rfl) (by as_aux_lemma => kernel_rfl) (by as_aux_lemma => kernel_rfl) (fun _ _ _ h => h) (Or.inl ⟨by rfl, ?_⟩) (hHeld) ?_
        rotate_left
        · ((intro W hSw); (try dsimp only at hSw); go_simp; try (with_reducible rfl))
        simp only [List.getElem_toArray, List.getElem_cons_zero, List.getElem_cons_succ, Act.put, List.setIfInBounds_toArray, List.set_cons_zero, List.set_cons_succ]
        refine wpAnyM_take (i := 2) (v := ?_) rfl (by as_aux_lemma => kernel_rfl) (by as_aux_lemma => kernel_rfl) (by as_aux_lemma => kernel_rfl) (by as_aux_lemma => kernel_rfl) (fun _ _ _ h => h) (Or.inl ⟨by rfl, ?_⟩) (hHeld) ?_
        rotate_left
        · ((intro W hSw); (try dsimp only at hSw); go_simp; try (with_reducible rfl))
        simp only [List.getElem_toArray, List.getElem_cons_zero, List.getElem_cons_succ, Act.put, List.setIfInBounds_toArray, List.set_cons_zero, List.set_cons_succ]
        refine wpAnyM_take (i := 3) (v := ?_) rfl (by as_aux_lemma => kernel_rfl) (by as_aux_lemma => kernel_rfl) (by as_aux_lemma => kernel_rfl) (by as_aux_lemma => kernel_rfl) (fun _ _ _ h => h) (Or.inl ⟨by rfl, ?_⟩) (hHeld) ?_
        rotate_left
        · ((intro W hSw); (try dsimp only at hSw); go_simp; try (with_reducible rfl))
        simp only [List.getElem_toArray, List.getElem_cons_zero, List.getElem_cons_succ, Act.put, List.setIfInBounds_toArray, List.set_cons_zero, List.set_cons_succ]
        refine wpAnyM_take (i := 4) (v := ?_) rfl (by as_aux_lemma => kernel_rfl) (by as_aux_lemma => kernel_rfl) (by as_aux_lemma => kernel_rfl) (by as_aux_lemma => kernel_rfl) (fun _ _ _ h => h) (Or.inl ⟨by rfl, ?_⟩) (hHeld) ?_
        rotate_left
        · ((intro W hSw); (try dsimp only at hSw); go_simp; try (with_reducible rfl))
        simp only [List.getElem_toArray, List.getElem_cons_zero, List.getElem_cons_succ, Act.put, List.setIfInBounds_toArray, List.set_cons_zero, List.set_cons_succ]
        refine wpAnyM_take (i := 5) (v := ?_) rfl (by as_aux_lemma => kernel_rfl) (by as_aux_lemma => kernel_rfl) (by as_aux_lemma => kernel_rfl) (by as_aux_lemma => kernel_rfl) (fun _ _ _ h => h) (Or.inl ⟨by rfl, ?_⟩) (hHeld) ?_
        rotate_left
        · ((intro W hSw); (try dsimp only at hSw); go_simp; try (with_reducible rfl))
        simp only [List.getElem_toArray, List.getElem_cons_zero, List.getElem_cons_succ, Act.put, List.setIfInBounds_toArray, List.set_cons_zero, List.set_cons_succ]
        refine wpAnyM_take (i := 6) (v := ?_) rfl (by as_aux_lemma => kernel_rfl) (by as_aux_lemma => kernel_rfl) (by as_aux_lemma => kernel_rfl) (by as_aux_lemma => kernel_rfl) (fun _ _ _ h => h) (Or.inl ⟨by rfl, ?_⟩) (hHeld) ?_
        rotate_left
        · ((intro W hSw); (try dsimp only at hSw); go_simp; try (with_reducible rfl))
        simp only [List.getElem_toArray, List.getElem_cons_zero, List.getElem_cons_succ, Act.put, List.setIfInBounds_toArray, List.set_cons_zero, List.set_cons_succ]
        refine wpAnyM_take (i := 7) (v := ?_) rfl (by as_aux_lemma => kernel_rfl) (by as_aux_lemma => kernel_rfl) (by as_aux_lemma => kernel_rfl) (by as_aux_lemma => kernel_rfl) (fun _ _ _ h => h) (Or.inl ⟨by rfl, ?_⟩) (hHeld) ?_
        rotate_left
        · ((intro W hSw); (try dsimp only at hSw); go_simp; try (with_reducible rfl))
        simp only [List.getElem_toArray, List.getElem_cons_zero, List.getElem_cons_succ, Act.put, List.setIfInBounds_toArray, List.set_cons_zero, List.set_cons_succ]
        refine wpAnyM_take (i := 8) (v := ?_) rfl (by as_aux_lemma => kernel_rfl) (by as_aux_lemma => kernel_rfl) (by as_aux_lemma => kernel_rfl) (by as_aux_lemma => kernel_rfl) (fun _ _ _ h => h) (Or.inl ⟨by rfl, ?_⟩) (hHeld) ?_
        rotate_left
        · ((intro W hSw); (try dsimp only at hSw); go_simp; try (with_reducible rfl))
        simp only [List.getElem_toArray, List.getElem_cons_zero, List.getElem_cons_succ, Act.put, List.setIfInBounds_toArray, List.set_cons_zero, List.set_cons_succ]
        refine wpAnyM_take (i := 9) (v := ?_) rfl (by as_aux_lemma => kernel_rfl) (by as_aux_lemma => kernel_rfl) (by as_aux_lemma => kernel_rfl) (by as_aux_lemma => kernel_rfl) (fun _ _ _ h => h) (Or.inl ⟨by rfl, ?_⟩) (hHeld) ?_
        rotate_left
        · ((intro W hSw); (try dsimp only at hSw); go_simp; try (with_reducible rfl))
        simp only [List.getElem_toArray, List.getElem_cons_zero, List.getElem_cons_succ, Act.put, List.setIfInBounds_toArray, List.set_cons_zero, List.set_cons_succ]
        refine wpAnyM_take (i := 10) (v := ?_) rfl (by as_aux_lemma => kernel_rfl) (by as_aux_lemma => kernel_rfl) (by as_aux_lemma => kernel_rfl) (by as_aux_lemma => kernel_rfl) (fun _ _ _ h => h) (Or.inl ⟨by rfl, ?_⟩) (hHeld) ?_
        rotate_left
        · ((intro W hSw); (try dsimp only at hSw); go_simp; try (with_reducible rfl))
        simp only [List.getElem_toArray, List.getElem_cons_zero, List.getElem_cons_succ, Act.put, List.setIfInBounds_toArray, List.set_cons_zero, List.set_cons_succ]
        refine wpAnyM_take (i := 11) (v := ?_) rfl (by as_aux_lemma => kernel_rfl) (by as_aux_lemma => kernel_rfl) (by as_aux_lemma => kernel_rfl) (by as_aux_lemma => kernel_rfl) (fun _ _ _ h => h) (Or.inl ⟨by rfl, ?_⟩) (hHeld) ?_
        rotate_left
        · ((intro W hSw); (try dsimp only at hSw); go_simp; try (with_reducible rfl))
        simp only [List.getElem_toArray, List.getElem_cons_zero, List.getElem_cons_succ, Act.put, List.setIfInBounds_toArray, List.set_cons_zero, List.set_cons_succ]
        refine wpAnyM_take (i := 12) (v := ?_) rfl (by as_aux_lemma => kernel_rfl) (by as_aux_lemma => kernel_rfl) (by as_aux_lemma => kernel_rfl) (by as_aux_lemma => kernel_rfl) (fun _ _ _ h => h) (Or.inl ⟨by rfl, ?_⟩) (hHeld) ?_
        rotate_left
        · ((intro W hSw); (try dsimp only at hSw); go_simp; try (with_reducible rfl))
        simp only [List.getElem_toArray, List.getElem_cons_zero, List.getElem_cons_succ, Act.put, List.setIfInBounds_toArray, List.set_cons_zero, List.set_cons_succ]
        refine wpAnyM_take (i := 13) (v := ?_) rfl (by as_aux_lemma => kernel_rfl) (by as_aux_lemma => kernel_rfl) (by as_aux_lemma => kernel_rfl) (by as_aux_lemma => kernel_rfl) (fun _ _ _ h => h) (Or.inl ⟨by rfl, ?_⟩) (hHeld) ?_
        rotate_left
        · ((intro W hSw); (try dsimp only at hSw); go_simp; try (with_reducible rfl))
        simp only [List.getElem_toArray, List.getElem_cons_zero, List.getElem_cons_succ, Act.put, List.setIfInBounds_toArray, List.set_cons_zero, List.set_cons_succ]
        refine wpAnyM_take (i := 14) (v := ?_) rfl (by as_aux_lemma => kernel_rfl) (by as_aux_lemma => kernel_rfl) (by as_aux_lemma => kernel_rfl) (by as_aux_lemma => kernel_rfl) (fun _ _ _ h => h) (Or.inl ⟨by rfl, ?_⟩) (hHeld) ?_
        rotate_left
        · ((intro W hSw); (try dsimp only at hSw); go_simp; try (with_reducible rfl))
        simp only [List.getElem_toArray, List.getElem_cons_zero, List.getElem_cons_succ, Act.put, List.setIfInBounds_toArray, List.set_cons_zero, List.set_cons_succ]
        refine wpAnyM_take (i := 15) (v := ?_) rfl (by as_aux_lemma => kernel_rfl) (by as_aux_lemma => kernel_rfl) (by as_aux_lemma => kernel_rfl) (by as_aux_lemma => kernel_rfl) (fun _ _ _ h => h) (Or.inl ⟨by rfl, ?_⟩) (hHeld) ?_
        rotate_left
        · ((intro W hSw); (try dsimp only at hSw); go_simp; try (with_reducible rfl))
        simp only [List.getElem_toArray, List.getElem_cons_zero, List.getElem_cons_succ, Act.put, List.setIfInBounds_toArray, List.set_cons_zero, List.set_cons_succ]
        refine wpAnyM_one (i := 16) (by as_aux_lemma => kernel_rfl) rfl (fun K hK => ?_)
        go_simp
        refine hK.out _ _ (fun _ => hS6a) ?_
        clear hK K
        try simp only [List.getElem_toArray, List.getElem_cons_zero, List.getElem_cons_succ, Act.put, List.setIfInBounds_toArray, List.set_cons_zero, List.set_cons_succ]
        refine wpAnyM_one (i := 17) (by as_aux_lemma => kernel_rfl) rfl (fun K hK => ?_)
        refine step_app _ rfl (.tmp 35) (.tmp 47) _ rfl B 58 i0 _ 4 56 Tryd.underlying25 hi0 hz0 hz1 hz2 rfl (by decide) (.slice Ao no co) no (L.flatMap txV) (by rfl) OWN0.out (some ⟨wq.heap.size, 0, none⟩) 1 1 (txV (⟨nm, (nt : Int), 0, ks⟩, ⟨KA, Kn, Kc⟩)) (by rfl) rfl (fun _ => ⟨_, rfl, news_four rfl⟩) (txV_one7 [_]) (by unfold maxLen; omega) (by omega) (by simp; omega) ?_
        intro v3 w3 own3 gr3 ob3
        obtain ⟨A3, c3', rfl, -, -⟩ := own_slc own3
        have B3 := (KQ1.out.blk.off (Off.grown OWN0.out gr3) (by decide))
        have T3 : Blk w3 w.heap.size 68 #[.bool cl, str nm, .slice KA Kn Kc] := TQ1.out.off (Off.grown OWN0.out gr3) (by decide)
        have S6_ := (⟨B3.cell 7, B3.cell 1, T3.cell 1, T3.cell 2⟩ : _ ∧ _ ∧ _ ∧ _)
        have f7 := B3.free 7
        clear B3 T3
        refine hK.out _ _ (fun _ => S6_) ?_
        clear hK K
        try simp only [List.getElem_toArray, List.getElem_cons_zero, List.getElem_cons_succ, Act.put, List.setIfInBounds_toArray, List.set_cons_zero, List.set_cons_succ]
        refine wpAnyM_one (i := 18) (by as_aux_lemma => kernel_rfl) rfl (fun K hK => ?_)
        go_simp
        refine hK.out _ _ (fun _ => S6_) ?_
        clear hK K
        try simp only [List.getElem_toArray, List.getElem_cons_zero, List.getElem_cons_succ, Act.put, List.setIfInBounds_toArray, List.set_cons_zero, List.set_cons_succ]
        refine wpAnyM_one (i := 19) (by as_aux_lemma => kernel_rfl) rfl (fun K hK => ?_)
        go_simp
        refine hK.out _ _ (fun _ => S6_) ?_
        clear hK K
        try simp only [List.getElem_toArray, List.getElem_cons_zero, List.getElem_cons_succ, Act.put, List.setIfInBounds_toArray, List.set_cons_zero, List.set_cons_succ]
        refine wpAnyM_one (i := 20) (by as_aux_lemma => kernel_rfl) rfl (fun K hK => ?_)
        go_simp
        refine hK.out _ _ (fun h => absurd rfl h) ?_
        clear hK K
        try simp only [List.getElem_toArray, List.getElem_cons_zero, List.getElem_cons_succ, Act.put, List.setIfInBounds_toArray, List.set_cons_zero, List.set_cons_succ]
        refine wpAnyM_done (by as_aux_lemma => kernel_rfl) (NoPanic.normal ?_) _

        have B6 : Hid (Below B w (w3.setCell ⟨g, 7, none⟩ (.slice A3 (no + 1) c3'))) := (B1.out.grown gr3 (Nat.le_trans hszq (by simp)) (fun j hj => (OWN0.out.lt j hj).1)).setCell (p := ⟨g, 7, none⟩) HBg.out _
        have N6 : Hid (Only w (w3.setCell ⟨g, 7, none⟩ (.slice A3 (no + 1) c3'))) := ((((Only.below HLQ.out).off (R := 4294967295) (Off.alloc wq _) (by decide)).off (R := 4294967295) (Off.drew _) (by decide)).off (Off.grown OWN0.out gr3) (by decide)).off (Off.set_ (KQ1.out.blk.off (Off.grown OWN0.out gr3) (by decide)) 7 _) (by decide)
        have P6 := Lib.hid (KQ1.out.push_o (L := L) (y := (⟨nm, (nt : Int), 0, ks⟩, ⟨KA, Kn, Kc⟩)) HLn.out OWN0.out HWL.out HY.out own3 gr3 ob3 HOK.out)
        clear own3 gr3 ob3 hHeld S6_ hS6 hS6a f7
        go_wp2
        go_ret
        rw [HF.out, ht]
        exact ⟨B6.out, N6.out, rfl, _, P6.out⟩
end Go.Proofs.YtgkdaebiefhgdaaDoor
