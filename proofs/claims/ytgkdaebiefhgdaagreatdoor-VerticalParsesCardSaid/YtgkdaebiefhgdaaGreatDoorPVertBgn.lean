/-
 Several texts of this seat, one behind the other: VertBeg, VertBeT, VertEndT, VertEndR. No conditions but those of each.
-/
import Derived.Test.YtgkdaebiefhgdaaGreatDoorPVertMm
import Derived.Test.YtgkdaebiefhgdaaGreatDoorPCorSrt
import Derived.RegionTactic
import Derived.Deep.RegionLaw
import Derived.BigRegion
import Derived.Deep.CutRange
import Derived.Test.YtgkdaebiefhgdaaGreatDoorPCorHold
import Derived.Test.YtgkdaebiefhgdaaGreatDoorPCorAtx
import Derived.Test.YtgkdaebiefhgdaaGreatDoorPMarkAll
import Derived.Test.YtgkdaebiefhgdaaGreatDoorPVertPl
namespace Go.Proofs.YtgkdaebiefhgdaaGreatDoor
set_option linter.unusedSimpArgs false
open Go.RowKit
open Feat (Bs)
open Tagp (KV)
open Vert (Rd)
theorem info_regV : (Tryz.prog.info? 69).map (fun i => (i.zero, i.size, i.bytes)) = some (some (.agg #[.string ⟨#[]⟩, .int .i64 0, .int .i64 0, .slice none 0 0]), 4, 56) := by kernel_rfl
attribute [local go_sem] byte_mk ByteArray.extract_mk
set_option maxRecDepth 100000 in
set_option maxHeartbeats 4000000 in
theorem beginRegion_any (B g : Nat) (h : RdH) (ats : List At) (s : Rd) (cl : Bool) (nm : Bs) (KA : Option Addr) (Kn Kc : Nat) (ks : List KV) (w : World) (k : OwnR w B g h ats s)
  (hn : Len nm) (hK : w.ownsRow B 84 2 (.slice KA Kn Kc) Kn (ks.flatMap prV)) (hks : ∀ p ∈ ks, Len p.1 ∧ Len p.2) (hkl : ks.length ≤ 1048576) :
  Calls Tryz.prog 60 #[.pointer (some ⟨g, 0, none⟩), .agg #[.bool cl, str nm, .slice KA Kn Kc]] w (Steps B g ats w (Vert.beginReg s nm ks)) := by
 obtain ⟨⟨Aa, na, ca⟩, ⟨At', nt, ct⟩, ⟨Ax, nx, cx⟩, ⟨Ar, nr, cr⟩, ⟨Ao, no, co⟩⟩ := h
 obtain ⟨toks, texts, regs, opn, tx⟩ := s
 obtain ⟨i0, hi0, hz0, hz1, hz2⟩ := info_parts info_regV
 have hBg : B ≤ w.heap.size := Nat.le_trans k.bg (Nat.le_of_lt k.blk.lt)
 have hB0 := (Below.refl B w).alloc hBg (.cells #[.bool cl, str nm, .slice KA Kn Kc] 106)
 have HL0 := Lib.hid ((Below.refl w.heap.size w).alloc (Nat.le_refl _) (.cells #[.bool cl, str nm, .slice KA Kn Kc] 106))
 have kb := k.alloc (.cells #[.bool cl, str nm, .slice KA Kn Kc] 106)
 have hT := Blk.new w 106 #[.bool cl, str nm, .slice KA Kn Kc]
 have c8 : _ = some (Value.bool tx) := kb.blk.cell 8
 have c7 : _ = some (Value.slice Ao no co) := kb.blk.cell 7
 have f7 := kb.blk.free 7
 have c3 : _ = some (Value.slice Ar nr cr) := kb.blk.cell 3
 have c1 : _ = some (Value.slice At' nt ct) := kb.blk.cell 1
 have v1 : _ = some (str nm) := hT.cell 1
 have v2 : _ = some (Value.slice KA Kn Kc) := hT.cell 2
 have hr : regs.length = nr := k.r.len
 have ho : opn.length = no := k.o.len
 have ht : toks.length = nt := k.t.reads.len
 have kt := k.ok.t
 have kr := k.ok.r
 have ko := k.ok.o
 dsimp only at kt kr ko
 have HK := Lib.hid k
 have HKK := Lib.hid hK
 cases tx with
 | false =>
  have HF : Hid (Vert.beginReg ⟨toks, texts, regs, opn, false⟩ nm ks = .error 17) := by show _ = _; unfold Vert.beginReg; rfl
  have HB0 := Lib.hid hB0
  clear hB0 k hK kb hT
  go_enter Tryz.func60, Tryz.ntmps60
  go_wp2
  go_ret
  rw [HF.out]
  exact Steps.err hBg HL0.out rfl
 | true =>
  have r8 := hB0
  by_cases hlim : 1024 ≤ nr + no
  ·have HF : Hid (Vert.beginReg ⟨toks, texts, regs, opn, true⟩ nm ks = .error 2) := by
    show _ = _; unfold Vert.beginReg; dsimp only; rw [if_neg (by simp), if_pos (.inl (by rw [hr, ho]; exact hlim))]
   have hw1 : IntKind.i64.wrap ((nr : Int) + (no : Int)) = (nr : Int) + (no : Int) := IntWalk.i64_in _ (by omega)
   have HB0 := Lib.hid hB0
   clear hB0 k hK r8 kb hT
   go_enter Tryz.func60, Tryz.ntmps60
   go_wp2
   go_quiet (fail)
   go_wp2
   go_ret
   rw [HF.out]
   exact Steps.err hBg (below_drewN HL0.out _) rfl
  ·by_cases hdep : 40 ≤ no
   ·have HF : Hid (Vert.beginReg ⟨toks, texts, regs, opn, true⟩ nm ks = .error 2) := by
     show _ = _; unfold Vert.beginReg; dsimp only; rw [if_neg (by simp), if_pos (.inr (by rw [ho]; exact hdep))]
    have hw1 : IntKind.i64.wrap ((nr : Int) + (no : Int)) = (nr : Int) + (no : Int) := IntWalk.i64_in _ (by omega)
    have HB0 := Lib.hid hB0
    clear hB0 k hK r8 kb hT
    go_enter Tryz.func60, Tryz.ntmps60
    go_wp2
    go_quiet (fail)
    go_wp2
    go_ret
    rw [HF.out]
    exact Steps.err hBg (below_drewN HL0.out _) rfl
   ·have HF : Hid (Vert.beginReg ⟨toks, texts, regs, opn, true⟩ nm ks = .ok ⟨toks, texts, regs, opn ++ [⟨nm, toks.length, 0, ks⟩], true⟩) := by
     show _ = _; unfold Vert.beginReg; dsimp only; rw [if_neg (by simp), if_neg (by rw [hr, ho]; omega)]
    have hw1 : IntKind.i64.wrap ((nr : Int) + (no : Int)) = (nr : Int) + (no : Int) := IntWalk.i64_in _ (by omega)
    have HB0 := Lib.hid hB0
    have HKB := Lib.hid kb
    have HTT := Lib.hid hT
    clear hB0 k hK r8 kb hT
    go_enter Tryz.func60, Tryz.ntmps60
    go_wp2
    go_quiet (fail)
    go_wp2
    generalize hwq : (w.alloc (.cells #[.bool cl, str nm, .slice KA Kn Kc] 106)).drewN _ = wq
    have kq : OwnR wq B g ⟨⟨Aa, na, ca⟩, ⟨At', nt, ct⟩, ⟨Ax, nx, cx⟩, ⟨Ar, nr, cr⟩, ⟨Ao, no, co⟩⟩ ats ⟨toks, texts, regs, opn, true⟩ := by rw [← hwq]; exact HKB.out.drewN _
    have tq : Blk wq w.heap.size 106 #[.bool cl, str nm, .slice KA Kn Kc] := by rw [← hwq]; exact HTT.out
    have hkq : wq.ownsRow B 84 2 (.slice KA Kn Kc) Kn (ks.flatMap prV) := by rw [← hwq]; exact own_off (own_below HKK.out ((Below.refl _ _).alloc (Nat.le_refl _) _)) (Off.drewN _ _) (R := 4294967295) (by decide)
    have HLQ : Hid (Below w.heap.size w wq) := by rw [← hwq]; exact below_drewN HL0.out _
    have bq : Below B w wq := by rw [← hwq]; exact below_drewN HB0.out _
    clear hwq c8 c7 f7 c3 c1 v1 v2 HKB HTT HKK HB0
    obtain ⟨L, hL, hoL, hWL⟩ := kq.o
    have own0 : (wq.alloc (.cells #[str nm, .int .i64 (nt : Nat), .int .i64 0, .slice KA Kn Kc] 69)).drew.ownsRow B 69 4 (.slice Ao no co) no (L.flatMap txV) := own_off (own_below hoL ((Below.refl _ _).alloc (Nat.le_refl _) _)) (Off.drew (R := 4294967295) _) (by decide)
    have c7 : wq.cell? ⟨g, 7, none⟩ = some (Value.slice Ao no co) := kq.blk.cell 7
    have d7 : ∀ o, (wq.alloc o).cell? ⟨g, 7, none⟩ = some (Value.slice Ao no co) := fun o => (kq.alloc o).blk.cell 7
    have c1 : wq.cell? ⟨g, 1, none⟩ = some (Value.slice At' nt ct) := kq.blk.cell 1
    have v1 : wq.cell? ⟨w.heap.size, 1, none⟩ = some (str nm) := tq.cell 1
    have v2 : wq.cell? ⟨w.heap.size, 2, none⟩ = some (Value.slice KA Kn Kc) := tq.cell 2
    have hszq : B ≤ wq.heap.size := Nat.le_trans hBg bq.size
    have KQ1 := Lib.hid (kq.alloc (.cells #[str nm, .int .i64 (nt : Nat), .int .i64 0, .slice KA Kn Kc] 69)).drew
    have HKQ := Lib.hid hkq
    have OWN0 := Lib.hid own0
    have HBg := Lib.hid kq.bg
    have HY : Hid (OwnT (wq.alloc (.cells #[str nm, .int .i64 (nt : Nat), .int .i64 0, .slice KA Kn Kc] 69)).drew B (⟨nm, (nt : Int), 0, ks⟩, ⟨KA, Kn, Kc⟩)) :=
     ⟨hn, ⟨by show _ ≤ (nt : Int); omega, by show (nt : Int) ≤ _; omega⟩, ⟨by show _ ≤ (0 : Int); omega, by show (0 : Int) ≤ _; omega⟩, own_off (own_below HKQ.out ((Below.refl _ _).alloc (Nat.le_refl _) _)) (Off.drew (R := 4294967295) _) (by decide), hks⟩
    have HOK : Hid (RdOk ⟨toks, texts, regs, opn ++ [⟨nm, (nt : Int), 0, ks⟩], true⟩) :=
     ⟨kt, kq.ok.x, by simp; omega, by simp; omega, fun y hy => by
      rcases hy with hy | hy
      ·exact kq.ok.ks y (.inl hy)
      ·rcases List.mem_append.1 hy with hy | hy
       ·exact kq.ok.ks y (.inr hy)
       ·simp at hy; subst hy; exact hkl, kq.ok.tx⟩
    have B1 := Lib.hid ((bq.alloc hszq (.cells #[str nm, .int .i64 (nt : Nat), .int .i64 0, .slice KA Kn Kc] 69)).drew)
    have HWL : Hid (∀ z ∈ L, OwnT (wq.alloc (.cells #[str nm, .int .i64 (nt : Nat), .int .i64 0, .slice KA Kn Kc] 69)).drew B z) := fun z hz => ((hWL z hz).off (R := 4294967295) (Off.alloc wq _) (by decide)).off (R := 4294967295) (Off.drew _) (by decide)
    -- <tail
    have hno39 : no ≤ 39 := by omega
    have hnt4 : nt ≤ 4096 := by omega
    have TQ1 : Hid (Blk (wq.alloc (.cells #[str nm, .int .i64 (nt : Nat), .int .i64 0, .slice KA Kn Kc] 69)).drew w.heap.size 106 #[.bool cl, str nm, .slice KA Kn Kc]) := (tq.alloc _).off (R := 4294967295) (Off.drew _) (by decide)
    have hS6 := (⟨kq.blk.cell 7, kq.blk.cell 1, tq.cell 1, tq.cell 2⟩ : _ ∧ _ ∧ _ ∧ _)
    have hS6a := (⟨KQ1.out.blk.cell 7, KQ1.out.blk.cell 1, TQ1.out.cell 1, TQ1.out.cell 2⟩ : _ ∧ _ ∧ _ ∧ _)
    have HLn := Lib.hid hL
    clear kq hkq tq hoL c7 d7 c1 v1 v2 own0 hWL hL
    refine wp_region_m (fun W => W.cell? ⟨g, 7, none⟩ = some (.slice Ao no co) ∧ W.cell? ⟨g, 1, none⟩ = some (.slice At' nt ct) ∧ W.cell? ⟨w.heap.size, 1, none⟩ = some (str nm) ∧ W.cell? ⟨w.heap.size, 2, none⟩ = some (.slice KA Kn Kc)) 20 (by as_aux_lemma => kernel_rfl) (hS6) (fun hHeld => ?_)
    refine wpAnyM_take (i := 0) (v := ?_) rfl (by as_aux_lemma => kernel_rfl) (by as_aux_lemma => kernel_rfl) (by as_aux_lemma => kernel_rfl) (by as_aux_lemma => kernel_rfl) (fun _ _ _ h => h) (Or.inl ⟨by rfl, ?_⟩) (hHeld) ?_
    rotate_left
    ·((intro W hSw); (try dsimp only at hSw); go_simp; try (with_reducible rfl))
    simp only [List.getElem_toArray, List.getElem_cons_zero, List.getElem_cons_succ, Act.put, List.setIfInBounds_toArray, List.set_cons_zero, List.set_cons_succ]
    refine wpAnyM_take (i := 1) (v := ?_) rfl (by as_aux_lemma => kernel_rfl) (by as_aux_lemma => kernel_rfl) (by as_aux_lemma => kernel_rfl) (by as_aux_lemma => kernel_rfl) (fun _ _ _ h => h) (Or.inl ⟨by rfl, ?_⟩) (hHeld) ?_
    rotate_left
    ·((intro W hSw); (try dsimp only at hSw); go_simp; try (with_reducible rfl))
    simp only [List.getElem_toArray, List.getElem_cons_zero, List.getElem_cons_succ, Act.put, List.setIfInBounds_toArray, List.set_cons_zero, List.set_cons_succ]
    refine wpAnyM_take (i := 2) (v := ?_) rfl (by as_aux_lemma => kernel_rfl) (by as_aux_lemma => kernel_rfl) (by as_aux_lemma => kernel_rfl) (by as_aux_lemma => kernel_rfl) (fun _ _ _ h => h) (Or.inl ⟨by rfl, ?_⟩) (hHeld) ?_
    rotate_left
    ·((intro W hSw); (try dsimp only at hSw); go_simp; try (with_reducible rfl))
    simp only [List.getElem_toArray, List.getElem_cons_zero, List.getElem_cons_succ, Act.put, List.setIfInBounds_toArray, List.set_cons_zero, List.set_cons_succ]
    refine wpAnyM_take (i := 3) (v := ?_) rfl (by as_aux_lemma => kernel_rfl) (by as_aux_lemma => kernel_rfl) (by as_aux_lemma => kernel_rfl) (by as_aux_lemma => kernel_rfl) (fun _ _ _ h => h) (Or.inl ⟨by rfl, ?_⟩) (hHeld) ?_
    rotate_left
    ·((intro W hSw); (try dsimp only at hSw); go_simp; try (with_reducible rfl))
    simp only [List.getElem_toArray, List.getElem_cons_zero, List.getElem_cons_succ, Act.put, List.setIfInBounds_toArray, List.set_cons_zero, List.set_cons_succ]
    refine wpAnyM_take (i := 4) (v := ?_) rfl (by as_aux_lemma => kernel_rfl) (by as_aux_lemma => kernel_rfl) (by as_aux_lemma => kernel_rfl) (by as_aux_lemma => kernel_rfl) (fun _ _ _ h => h) (Or.inl ⟨by rfl, ?_⟩) (hHeld) ?_
    rotate_left
    ·((intro W hSw); (try dsimp only at hSw); go_simp; try (with_reducible rfl))
    simp only [List.getElem_toArray, List.getElem_cons_zero, List.getElem_cons_succ, Act.put, List.setIfInBounds_toArray, List.set_cons_zero, List.set_cons_succ]
    refine wpAnyM_take (i := 5) (v := ?_) rfl (by as_aux_lemma => kernel_rfl) (by as_aux_lemma => kernel_rfl) (by as_aux_lemma => kernel_rfl) (by as_aux_lemma => kernel_rfl) (fun _ _ _ h => h) (Or.inl ⟨by rfl, ?_⟩) (hHeld) ?_
    rotate_left
    ·((intro W hSw); (try dsimp only at hSw); go_simp; try (with_reducible rfl))
    simp only [List.getElem_toArray, List.getElem_cons_zero, List.getElem_cons_succ, Act.put, List.setIfInBounds_toArray, List.set_cons_zero, List.set_cons_succ]
    refine wpAnyM_take (i := 6) (v := ?_) rfl (by as_aux_lemma => kernel_rfl) (by as_aux_lemma => kernel_rfl) (by as_aux_lemma => kernel_rfl) (by as_aux_lemma => kernel_rfl) (fun _ _ _ h => h) (Or.inl ⟨by rfl, ?_⟩) (hHeld) ?_
    rotate_left
    ·((intro W hSw); (try dsimp only at hSw); go_simp; try (with_reducible rfl))
    simp only [List.getElem_toArray, List.getElem_cons_zero, List.getElem_cons_succ, Act.put, List.setIfInBounds_toArray, List.set_cons_zero, List.set_cons_succ]
    refine wpAnyM_take (i := 7) (v := ?_) rfl (by as_aux_lemma => kernel_rfl) (by as_aux_lemma => kernel_rfl) (by as_aux_lemma => kernel_rfl) (by as_aux_lemma => kernel_rfl) (fun _ _ _ h => h) (Or.inl ⟨by rfl, ?_⟩) (hHeld) ?_
    rotate_left
    ·((intro W hSw); (try dsimp only at hSw); go_simp; try (with_reducible rfl))
    simp only [List.getElem_toArray, List.getElem_cons_zero, List.getElem_cons_succ, Act.put, List.setIfInBounds_toArray, List.set_cons_zero, List.set_cons_succ]
    refine wpAnyM_take (i := 8) (v := ?_) rfl (by as_aux_lemma => kernel_rfl) (by as_aux_lemma => kernel_rfl) (by as_aux_lemma => kernel_rfl) (by as_aux_lemma => kernel_rfl) (fun _ _ _ h => h) (Or.inl ⟨by rfl, ?_⟩) (hHeld) ?_
    rotate_left
    ·((intro W hSw); (try dsimp only at hSw); go_simp; try (with_reducible rfl))
    simp only [List.getElem_toArray, List.getElem_cons_zero, List.getElem_cons_succ, Act.put, List.setIfInBounds_toArray, List.set_cons_zero, List.set_cons_succ]
    refine wpAnyM_take (i := 9) (v := ?_) rfl (by as_aux_lemma => kernel_rfl) (by as_aux_lemma => kernel_rfl) (by as_aux_lemma => kernel_rfl) (by as_aux_lemma => kernel_rfl) (fun _ _ _ h => h) (Or.inl ⟨by rfl, ?_⟩) (hHeld) ?_
    rotate_left
    ·((intro W hSw); (try dsimp only at hSw); go_simp; try (with_reducible rfl))
    simp only [List.getElem_toArray, List.getElem_cons_zero, List.getElem_cons_succ, Act.put, List.setIfInBounds_toArray, List.set_cons_zero, List.set_cons_succ]
    refine wpAnyM_take (i := 10) (v := ?_) rfl (by as_aux_lemma => kernel_rfl) (by as_aux_lemma => kernel_rfl) (by as_aux_lemma => kernel_rfl) (by as_aux_lemma => kernel_rfl) (fun _ _ _ h => h) (Or.inl ⟨by rfl, ?_⟩) (hHeld) ?_
    rotate_left
    ·((intro W hSw); (try dsimp only at hSw); go_simp; try (with_reducible rfl))
    simp only [List.getElem_toArray, List.getElem_cons_zero, List.getElem_cons_succ, Act.put, List.setIfInBounds_toArray, List.set_cons_zero, List.set_cons_succ]
    refine wpAnyM_take (i := 11) (v := ?_) rfl (by as_aux_lemma => kernel_rfl) (by as_aux_lemma => kernel_rfl) (by as_aux_lemma => kernel_rfl) (by as_aux_lemma => kernel_rfl) (fun _ _ _ h => h) (Or.inl ⟨by rfl, ?_⟩) (hHeld) ?_
    rotate_left
    ·((intro W hSw); (try dsimp only at hSw); go_simp; try (with_reducible rfl))
    simp only [List.getElem_toArray, List.getElem_cons_zero, List.getElem_cons_succ, Act.put, List.setIfInBounds_toArray, List.set_cons_zero, List.set_cons_succ]
    refine wpAnyM_take (i := 12) (v := ?_) rfl (by as_aux_lemma => kernel_rfl) (by as_aux_lemma => kernel_rfl) (by as_aux_lemma => kernel_rfl) (by as_aux_lemma => kernel_rfl) (fun _ _ _ h => h) (Or.inl ⟨by rfl, ?_⟩) (hHeld) ?_
    rotate_left
    ·((intro W hSw); (try dsimp only at hSw); go_simp; try (with_reducible rfl))
    simp only [List.getElem_toArray, List.getElem_cons_zero, List.getElem_cons_succ, Act.put, List.setIfInBounds_toArray, List.set_cons_zero, List.set_cons_succ]
    refine wpAnyM_take (i := 13) (v := ?_) rfl (by as_aux_lemma => kernel_rfl) (by as_aux_lemma => kernel_rfl) (by as_aux_lemma => kernel_rfl) (by as_aux_lemma => kernel_rfl) (fun _ _ _ h => h) (Or.inl ⟨by rfl, ?_⟩) (hHeld) ?_
    rotate_left
    ·((intro W hSw); (try dsimp only at hSw); go_simp; try (with_reducible rfl))
    simp only [List.getElem_toArray, List.getElem_cons_zero, List.getElem_cons_succ, Act.put, List.setIfInBounds_toArray, List.set_cons_zero, List.set_cons_succ]
    refine wpAnyM_take (i := 14) (v := ?_) rfl (by as_aux_lemma => kernel_rfl) (by as_aux_lemma => kernel_rfl) (by as_aux_lemma => kernel_rfl) (by as_aux_lemma => kernel_rfl) (fun _ _ _ h => h) (Or.inl ⟨by rfl, ?_⟩) (hHeld) ?_
    rotate_left
    ·((intro W hSw); (try dsimp only at hSw); go_simp; try (with_reducible rfl))
    simp only [List.getElem_toArray, List.getElem_cons_zero, List.getElem_cons_succ, Act.put, List.setIfInBounds_toArray, List.set_cons_zero, List.set_cons_succ]
    refine wpAnyM_take (i := 15) (v := ?_) rfl (by as_aux_lemma => kernel_rfl) (by as_aux_lemma => kernel_rfl) (by as_aux_lemma => kernel_rfl) (by as_aux_lemma => kernel_rfl) (fun _ _ _ h => h) (Or.inl ⟨by rfl, ?_⟩) (hHeld) ?_
    rotate_left
    ·((intro W hSw); (try dsimp only at hSw); go_simp; try (with_reducible rfl))
    simp only [List.getElem_toArray, List.getElem_cons_zero, List.getElem_cons_succ, Act.put, List.setIfInBounds_toArray, List.set_cons_zero, List.set_cons_succ]
    refine wpAnyM_one (i := 16) (by as_aux_lemma => kernel_rfl) rfl (fun K hK => ?_)
    go_simp
    refine hK.out _ _ (fun _ => hS6a) ?_
    clear hK K
    try simp only [List.getElem_toArray, List.getElem_cons_zero, List.getElem_cons_succ, Act.put, List.setIfInBounds_toArray, List.set_cons_zero, List.set_cons_succ]
    refine wpAnyM_one (i := 17) (by as_aux_lemma => kernel_rfl) rfl (fun K hK => ?_)
    refine step_app _ rfl (.tmp 35) (.tmp 47) _ rfl B 69 i0 _ 4 56 Tryz.underlying25 hi0 hz0 hz1 hz2 rfl (by decide) (.slice Ao no co) no (L.flatMap txV) (by rfl) OWN0.out (some ⟨wq.heap.size, 0, none⟩) 1 1 (txV (⟨nm, (nt : Int), 0, ks⟩, ⟨KA, Kn, Kc⟩)) (by rfl) rfl (fun _ => ⟨_, rfl, news_four rfl⟩) (txV_one7 [_]) (by unfold maxLen; omega) (by omega) (by simp; omega) ?_
    intro v3 w3 own3 gr3 ob3
    obtain ⟨A3, c3', rfl, -, -⟩ := own_slc own3
    have B3 := (KQ1.out.blk.off (Off.grown OWN0.out gr3) (by decide))
    have T3 : Blk w3 w.heap.size 106 #[.bool cl, str nm, .slice KA Kn Kc] := TQ1.out.off (Off.grown OWN0.out gr3) (by decide)
    have S6_ := (⟨B3.cell 7, B3.cell 1, T3.cell 1, T3.cell 2⟩ : _ ∧ _ ∧ _ ∧ _)
    have f7 := B3.free 7
    clear B3 T3
    refine hK.out _ _ (fun _ => S6_) ?_
    clear hK K
    try simp only [List.getElem_toArray, List.getElem_cons_zero, List.getElem_cons_succ, Act.put, List.setIfInBounds_toArray, List.set_cons_zero, List.set_cons_succ]
    refine wpAnyM_one (i := 18) (by as_aux_lemma => kernel_rfl) rfl (fun K hK => ?_)
    go_simp
    refine hK.out _ _ (fun _ => S6_) ?_
    clear hK K
    try simp only [List.getElem_toArray, List.getElem_cons_zero, List.getElem_cons_succ, Act.put, List.setIfInBounds_toArray, List.set_cons_zero, List.set_cons_succ]
    refine wpAnyM_one (i := 19) (by as_aux_lemma => kernel_rfl) rfl (fun K hK => ?_)
    go_simp
    refine hK.out _ _ (fun _ => S6_) ?_
    clear hK K
    try simp only [List.getElem_toArray, List.getElem_cons_zero, List.getElem_cons_succ, Act.put, List.setIfInBounds_toArray, List.set_cons_zero, List.set_cons_succ]
    refine wpAnyM_one (i := 20) (by as_aux_lemma => kernel_rfl) rfl (fun K hK => ?_)
    go_simp
    refine hK.out _ _ (fun h => absurd rfl h) ?_
    clear hK K
    try simp only [List.getElem_toArray, List.getElem_cons_zero, List.getElem_cons_succ, Act.put, List.setIfInBounds_toArray, List.set_cons_zero, List.set_cons_succ]
    refine wpAnyM_done (by as_aux_lemma => kernel_rfl) (NoPanic.normal ?_) _

    have B6 : Hid (Below B w (w3.setCell ⟨g, 7, none⟩ (.slice A3 (no + 1) c3'))) := (B1.out.grown gr3 (Nat.le_trans hszq (by simp)) (fun j hj => (OWN0.out.lt j hj).1)).setCell (p := ⟨g, 7, none⟩) HBg.out _
    have N6 : Hid (Only w (w3.setCell ⟨g, 7, none⟩ (.slice A3 (no + 1) c3'))) := ((((Only.below HLQ.out).off (R := 4294967295) (Off.alloc wq _) (by decide)).off (R := 4294967295) (Off.drew _) (by decide)).off (Off.grown OWN0.out gr3) (by decide)).off (Off.set_ (KQ1.out.blk.off (Off.grown OWN0.out gr3) (by decide)) 7 _) (by decide)
    have P6 := Lib.hid (KQ1.out.push_o (L := L) (y := (⟨nm, (nt : Int), 0, ks⟩, ⟨KA, Kn, Kc⟩)) HLn.out OWN0.out HWL.out HY.out own3 gr3 ob3 HOK.out)
    clear own3 gr3 ob3 hHeld S6_ hS6 hS6a f7
    go_wp2
    go_ret
    rw [HF.out, ht]
    exact ⟨B6.out, N6.out, rfl, _, P6.out⟩
end Go.Proofs.YtgkdaebiefhgdaaGreatDoor
namespace Go.Proofs.YtgkdaebiefhgdaaGreatDoor
set_option linter.unusedSimpArgs false
set_option linter.unusedVariables false
open Go.RowKit
open Feat (Bs)
open Tagp (KV okName)
open Vert (Rd isId)
open Cor (findT)
attribute [local go_sem] byte_mk ByteArray.extract_mk
theorem info_textV : (Tryz.prog.info? 66).map (fun i => (i.zero, i.size, i.bytes)) = some (some (.agg #[.string ⟨#[]⟩, .int .i64 0, .int .i64 0, .slice none 0 0]), 4, 56) := by kernel_rfl
def Found (l : List KV) (fo : Bool) (tn : Bs) : Prop :=
 match (l.filter isId).getLast? with
 | none => fo = false ∧ tn = []
 | some p => fo = true ∧ tn = p.2
theorem found_id {l : List KV} {p : KV} (h : isId p = true) : Found (l ++ [p]) true p.2 := by
 unfold Found
 rw [List.filter_append, List.filter_cons, if_pos h, List.filter_nil, List.getLast?_append]
 exact ⟨rfl, rfl⟩
theorem found_no {l : List KV} {p : KV} {fo : Bool} {tn : Bs} (h : isId p = false) (k : Found l fo tn) : Found (l ++ [p]) fo tn := by
 unfold Found at k ⊢
 rw [List.filter_append, List.filter_cons, if_neg (by rw [h]; decide), List.filter_nil, List.append_nil]
 exact k
theorem meta_id {l : List KV} {p : KV} (h : isId p = true) : ((l ++ [p]).filter fun p => !isId p) = l.filter fun p => !isId p := by
 rw [List.filter_append, List.filter_cons, if_neg (by rw [h]; decide), List.filter_nil, List.append_nil]
theorem meta_no {l : List KV} {p : KV} (h : isId p = false) : ((l ++ [p]).filter fun p => !isId p) = (l.filter fun p => !isId p) ++ [p] := by
 rw [List.filter_append, List.filter_cons, if_pos (by rw [h]; decide), List.filter_nil]
theorem meta_le (l : List KV) (j : Nat) : ((l.take j).filter fun p => !isId p).length ≤ l.length := by
 refine Nat.le_trans (List.length_filter_le _ _) ?_
 rw [List.length_take]; omega
theorem flat_pair (l : List KV) : (l.flatMap prV).length = l.length * 2 := flat_len prV_len l

set_option maxRecDepth 100000 in
set_option maxHeartbeats 4000000 in
theorem beginText_any (B g : Nat) (h : RdH) (ats : List At) (s : Rd) (cl : Bool) (nm : Bs) (KA : Option Addr) (Kn Kc : Nat) (ks : List KV) (w : World) (k : OwnR w B g h ats s)
  (hK : w.ownsRow B 84 2 (.slice KA Kn Kc) Kn (ks.flatMap prV)) (hks : ∀ p ∈ ks, Len p.1 ∧ Len p.2) (hkl : ks.length ≤ 1048576) :
  Calls Tryz.prog 62 #[.pointer (some ⟨g, 0, none⟩), .agg #[.bool cl, str nm, .slice KA Kn Kc]] w (Steps B g ats w (Vert.beginText s ks)) := by
 obtain ⟨⟨Aa, na, ca⟩, ⟨At', nt, ct⟩, ⟨Ax, nx, cx⟩, ⟨Ar, nr, cr⟩, ⟨Ao, no, co⟩⟩ := h
 obtain ⟨toks, texts, regs, opn, tx⟩ := s
 obtain ⟨i0, hi0, hz0, hz1, hz2⟩ := info_parts info_pairM
 obtain ⟨i1, hi1, hy0, hy1, hy2⟩ := info_parts info_textV
 have hBg : B ≤ w.heap.size := Nat.le_trans k.bg (Nat.le_of_lt k.blk.lt)
 have hg0 : g < w.heap.size := k.blk.lt
 have hB0 := (Below.refl w.heap.size w).alloc (Nat.le_refl _) (.cells #[.bool cl, str nm, .slice KA Kn Kc] 106)
 have kb := k.below hB0
 have hT := Blk.new w 106 #[.bool cl, str nm, .slice KA Kn Kc]
 have c8 : _ = some (Value.bool tx) := kb.blk.cell 8
 have c2 : _ = some (Value.slice Ax nx cx) := kb.blk.cell 2
 have c1 : _ = some (Value.slice At' nt ct) := kb.blk.cell 1
 have v2 : _ = some (Value.slice KA Kn Kc) := hT.cell 2
 have hx : texts.length = nx := k.x.len
 have ht : toks.length = nt := k.t.reads.len
 have kt := k.ok.t
 have kx := k.ok.x
 dsimp only at kt kx
 have hKl : ks.length = Kn := by have h1 := hK.1; rw [flat_pair] at h1; omega
 have HKS : Hid (Keys w w.heap.size ⟨KA, Kn, Kc⟩ ks) := ⟨own_fit hK, own_sl hK, hks⟩
 have HB0 := Lib.hid hB0
 have HK := Lib.hid k
 have HT := Lib.hid hT
 clear hB0 k kb hT hK
 cases tx with
 | true =>
  have HF : Hid (Vert.beginText ⟨toks, texts, regs, opn, true⟩ ks = .error 17) := by show _ = _; unfold Vert.beginText; rfl
  go_enter Tryz.func62, Tryz.ntmps62
  go_wp2
  go_ret
  rw [HF.out]
  exact Steps.err hBg HB0.out rfl
 | false =>
  by_cases hmany : nx = 64
  ·have HF : Hid (Vert.beginText ⟨toks, texts, regs, opn, false⟩ ks = .error 2) := by show _ = _; unfold Vert.beginText; dsimp only; rw [if_neg (by simp), if_pos (by rw [hx]; exact hmany)]
   have hm2 : ((nx : Int) == 64) = true := by rw [beq_iff_eq]; omega
   go_enter Tryz.func62, Tryz.ntmps62
   go_wp2
   go_ret
   rw [HF.out]
   exact Steps.err hBg HB0.out rfl
  ·have hm2 : ((nx : Int) == 64) = false := by rw [beq_eq_false_iff_ne]; omega
   have hx64 : texts.length ≠ 64 := by omega
   have hmv : nx ≤ 63 := by omega
   have hB1 : Hid (Below w.heap.size w ((w.alloc (.cells #[.bool cl, str nm, .slice KA Kn Kc] 106)).alloc (.cells #[str [], .int .i64 (nt : Nat), .int .i64 (-1), .slice none 0 0] 66))) := HB0.out.alloc HB0.out.size _
   have hX1 : Hid (Blk ((w.alloc (.cells #[.bool cl, str nm, .slice KA Kn Kc] 106)).alloc (.cells #[str [], .int .i64 (nt : Nat), .int .i64 (-1), .slice none 0 0] 66)) (w.heap.size + 1) 66 #[str [], .int .i64 (nt : Nat), .int .i64 (-1), .slice none 0 0]) := by
    have := Blk.new (w.alloc (.cells #[.bool cl, str nm, .slice KA Kn Kc] 106)) 66 #[str [], .int .i64 (nt : Nat), .int .i64 (-1), .slice none 0 0]
    rwa [World.size_alloc] at this
   have v2' : ∀ o, ((w.alloc (.cells #[.bool cl, str nm, .slice KA Kn Kc] 106)).alloc o).cell? ⟨w.heap.size, 2, none⟩ = some (Value.slice KA Kn Kc) := fun o => (HT.out.alloc o).cell 2
   go_enter Tryz.func62, Tryz.ntmps62
   go_wp2_with fail
   go_loopw [32, 6] (fun iv fv wr => ∃ (j : Nat) (fo : Bool) (tn : Bs) (MA : Option Addr) (Mn Mc : Nat), iv = .int .i64 j ∧ j ≤ Kn ∧ fv = .bool fo ∧ Hid (Found (ks.take j) fo tn) ∧ Blk wr (w.heap.size + 1) 66 #[str tn, .int .i64 (nt : Nat), .int .i64 (-1), .slice MA Mn Mc] ∧
     Hid (wr.ownsRow (w.heap.size + 2) 84 2 (.slice MA Mn Mc) Mn (((ks.take j).filter fun p => !isId p).flatMap prV)) ∧ Below w.heap.size w wr ∧ Hid (Len tn)) (fun iv _ _ => Kn - (intOf iv).toNat)
   case atStart => exact ⟨0, false, [], none, 0, 0, rfl, Nat.zero_le _, rfl, ⟨rfl, rfl⟩, hX1.out, World.ownsRow_nil _ _ _ _, hB1.out, Nat.zero_le _⟩
   case round =>
    obtain ⟨j, fo, tn, MA, Mn, Mc, rfl, hj, rfl, hfnd, hxb, hown, hb, hlt⟩ := hrel
    clear c8 c2 c1 v2 v2' hm2
    by_cases hjl : j < Kn
    ·obtain ⟨gk, ok, hk', hKA, hg, hpl, p0, p1⟩ := (HKS.out.under hb).at_ (k := j) hjl
     dsimp only at hKA
     subst hKA
     obtain ⟨p, hp⟩ : ∃ p, ks[j] = p := ⟨_, rfl⟩
     rw [hp] at p0 p1 hpl
     have HTK : Hid (ks.take (j + 1) = ks.take j ++ [p]) := by
      show _ = _
      rw [List.take_succ_eq_append_getElem hk', hp]
     have HPL := Lib.hid hpl
     have hj0 : (0 : Int) ≤ (j : Int) := by omega
     have hj1 : (j : Int) < (Kn : Int) := by omega
     have hw3 : IntKind.i64.wrap ((j : Int) + 1) = ((j + 1 : Nat) : Int) := by rw [IntWalk.i64_in _ (by omega)]; omega
     have hxa := hxb.alloc (.cells #[str p.1, str p.2] 84)
     have bA := hb.alloc hb.size (.cells #[str p.1, str p.2] 84)
     have y0 : _ = some (str tn) := hxa.cell 0
     have y3 : _ = some (Value.slice MA Mn Mc) := hxa.cell 3
     have f0 := hxa.free 0
     have f3 := hxa.free 3
     clear hp hpl
     by_cases hid : p.1 = [105, 100]
     ·have hI : Hid (isId p = true) := by show _ = _; unfold isId; rw [hid]; rfl
      have he : (p.1 == [105, 100]) = true := by rw [beq_iff_eq]; exact hid
      have HXA := Lib.hid hxa
      have HBA := Lib.hid bA
      clear hid hxb hxa bA hb
      go_wp2
      go_roundw
      case rel =>
       refine ⟨j + 1, true, p.2, MA, Mn, Mc, by go_num, by omega, rfl, ?_, HXA.out.set_ 0 _, ?_, HBA.out.setCell (p := ⟨w.heap.size + 1, 0, none⟩) (by show w.heap.size ≤ w.heap.size + 1; omega) _, HPL.out.2⟩
       ·show Found _ _ _; rw [HTK.out]; exact found_id hI.out
       ·show World.ownsRow _ _ _ _ _ _ _
        rw [HTK.out, meta_id hI.out]
        exact own_off (hown.out.alloc _) (Off.set_ HXA.out 0 _) (by decide)
      case measure => simp [intOf]; omega
     ·have hI : Hid (isId p = false) := by show _ = _; unfold isId; rw [beq_eq_false_iff_ne]; exact hid
      have he : (p.1 == [105, 100]) = false := by rw [beq_eq_false_iff_ne]; exact hid
      have hMn : Mn ≤ ks.length := by have h1 := hown.out.1; rw [flat_pair] at h1; have h2 := meta_le ks j; omega
      have hoa : Hid (World.ownsRow ((wr.alloc (.cells #[str p.1, str p.2] 84)).alloc (.cells #[str p.1, str p.2] 84)) (w.heap.size + 2) 84 2 (.slice MA Mn Mc) Mn (((ks.take j).filter fun p => !isId p).flatMap prV)) := (hown.out.alloc _).alloc _
      have hxa2 : Hid (Blk ((wr.alloc (.cells #[str p.1, str p.2] 84)).alloc (.cells #[str p.1, str p.2] 84)) (w.heap.size + 1) 66 #[str tn, .int .i64 (nt : Nat), .int .i64 (-1), .slice MA Mn Mc]) := hxa.alloc _
      have hba2 : Hid (Below w.heap.size w ((wr.alloc (.cells #[str p.1, str p.2] 84)).alloc (.cells #[str p.1, str p.2] 84))) := bA.alloc bA.size _
      have hsz2 : w.heap.size + 2 ≤ wr.heap.size := by have := hxb.lt; omega
      clear hid hxb hxa bA hb hown
      go_wp2_with (at_builtin; refine wpList_append_own_at _ rfl (.tmp 43) (.tmp 45) _ rfl (w.heap.size + 2) 84 i0 _ 2 32 Tryz.underlying64 hi0 hz0 hz1 hz2 rfl (by decide) _ _ _ rfl hoa.out ⟨_, 0, none⟩ 1 1 [str p.1, str p.2] rfl rfl ?pa1 ?pa2 ?pa3 ?pa4 ?pa5 ?_)
      case pa1 => exact news_two (by simp)
      case pa2 => first | rfl | (intro u hu; simp at hu; rcases hu with rfl | rfl <;> rfl)
      case pa3 => simp [maxLen]; omega
      case pa4 => omega
      case pa5 => simp; omega
      intro v6 w6 own6 gr6 _ hob6
      obtain ⟨A6, c6, rfl, -, -⟩ := own_slc own6
      have X6 := hxa2.out.off (Off.grown hoa.out gr6) (by decide)
      have x3 : _ = some (Value.slice MA Mn Mc) := X6.cell 3
      have g3 := X6.free 3
      have HX6 := Lib.hid X6
      have HB6 : Hid (Below w.heap.size w w6) := hba2.out.grown gr6 (by simp; omega) (fun q hq => by have := (hoa.out.lt _ hq).1; omega)
      have HO6 := Lib.hid own6
      clear own6 gr6 hob6 hoa hxa2 hba2 X6 y0 y3 f0 f3 p0 p1
      go_wp2
      go_roundw
      case rel =>
       refine ⟨j + 1, fo, tn, A6, Mn + 1, c6, by go_num, by omega, rfl, ?_, HX6.out.set_ 3 _, ?_, HB6.out.setCell (p := ⟨w.heap.size + 1, 3, none⟩) (by show w.heap.size ≤ w.heap.size + 1; omega) _, hlt⟩
       ·show Found _ _ _; rw [HTK.out]; exact found_no hI.out hfnd.out
       ·show World.ownsRow _ _ _ _ _ _ _
        rw [HTK.out, meta_no hI.out, List.flatMap_append, List.flatMap_cons, List.flatMap_nil, List.append_nil]
        exact own_off HO6.out (Off.set_ HX6.out 3 _) (by decide)
      case measure => simp [intOf]; omega
    ·obtain rfl : j = Kn := by omega
     have hfk := hfnd.out
     rw [List.take_of_length_le (by omega)] at hfk
     have HOW := hown.out
     rw [List.take_of_length_le (by omega)] at HOW
     have HOWN := Lib.hid HOW
     have y0 : wr.cell? ⟨w.heap.size + 1, 0, none⟩ = some (str tn) := hxb.cell 0
     clear hfnd hown HOW
     cases fo with
     | false =>
      have HF : Hid (Vert.beginText ⟨toks, texts, regs, opn, false⟩ ks = .error 11) := by
       show _ = _
       unfold Vert.beginText Found at *
       dsimp only
       rw [if_neg (by simp), if_neg hx64]
       cases hf : (ks.filter isId).getLast? with
       | none => rfl
       | some p => rw [hf] at hfk; cases hfk.1
      have HBB := Lib.hid hb
      clear hb hxb
      go_wp2
      go_ret
      rw [HF.out]
      exact Steps.err hBg HBB.out rfl
     | true =>
      have hp : ∃ p, (ks.filter isId).getLast? = some p ∧ tn = p.2 := by
       unfold Found at hfk
       cases hf : (ks.filter isId).getLast? with
       | none => rw [hf] at hfk; cases hfk.1
       | some p => rw [hf] at hfk; exact ⟨p, rfl, hfk.2⟩
      obtain ⟨p, hlast, htn⟩ := hp
      have HLS := Lib.hid hlast
      have HTN := Lib.hid htn
      have HVN := Lib.hid (validName_any tn hlt.out wr)
      have HBB := Lib.hid hb
      have HXB := Lib.hid hxb
      clear hb hxb hfk hlast htn
      by_cases hok : okName tn = true
      ·have kr := HK.out.below HBB.out
       have HKD := Lib.hid kr.drew
       have hkx : Txts wr.drew wr.drew.heap.size ⟨Ax, nx, cx⟩ texts := HKD.out.x.reads
       have q0 : wr.cell? ⟨g, 0, none⟩ = some (Value.slice Aa na ca) := kr.blk.cell 0
       have q1 : wr.cell? ⟨g, 1, none⟩ = some (Value.slice At' nt ct) := kr.blk.cell 1
       have q2 : wr.cell? ⟨g, 2, none⟩ = some (Value.slice Ax nx cx) := kr.blk.cell 2
       have q3 : wr.cell? ⟨g, 3, none⟩ = some (Value.slice Ar nr cr) := kr.blk.cell 3
       have q4 : wr.cell? ⟨g, 4, none⟩ = some (Value.slice none 0 0) := kr.blk.cell 4
       have q5 : wr.cell? ⟨g, 5, none⟩ = some (Value.slice none 0 0) := kr.blk.cell 5
       have q6 : wr.cell? ⟨g, 6, none⟩ = some (Value.slice none 0 0) := kr.blk.cell 6
       have HFT := Lib.hid (findText_any ⟨⟨Aa, na, ca⟩, ⟨At', nt, ct⟩, ⟨Ax, nx, cx⟩, ⟨Ar, nr, cr⟩, ⟨none, 0, 0⟩, ⟨none, 0, 0⟩, ⟨none, 0, 0⟩⟩ texts tn wr.drew hkx)
       have HXD : Hid (Blk wr.drew (w.heap.size + 1) 66 #[str tn, .int .i64 (nt : Nat), .int .i64 (-1), .slice MA Mn Mc]) := HXB.out.off (R := 4294967295) (Off.drew _) (by decide)
       clear kr hkx
       go_wp2_with fail
       refine HVN.out.mono ?_
       rintro en wv ⟨rfl, rfl⟩
       rw [hok]
       clear HVN
       obtain ⟨ft, hft⟩ : ∃ x, findT texts tn = x := ⟨_, rfl⟩
       rw [hft] at HFT
       have HFD := Lib.hid hft
       clear hft
       by_cases hdup : 0 ≤ ft
       ·have HF : Hid (Vert.beginText ⟨toks, texts, regs, opn, false⟩ ks = .error 5) := by
         show _ = _
         unfold Vert.beginText
         dsimp only
         rw [if_neg (by simp), if_neg hx64, HLS.out]
         dsimp only
         rw [← HTN.out, hok, if_neg (by simp), if_pos (by rw [HFD.out]; exact hdup)]
        go_wp2
        go_region_held3 (fun W => W.cell? ⟨g, 0, none⟩ = some (.slice Aa na ca) ∧ W.cell? ⟨g, 1, none⟩ = some (.slice At' nt ct) ∧ W.cell? ⟨g, 2, none⟩ = some (.slice Ax nx cx) ∧ W.cell? ⟨g, 3, none⟩ = some (.slice Ar nr cr) ∧ W.cell? ⟨g, 4, none⟩ = some (.slice none 0 0) ∧ W.cell? ⟨g, 5, none⟩ = some (.slice none 0 0) ∧ W.cell? ⟨g, 6, none⟩ = some (.slice none 0 0) ∧ W.cell? ⟨w.heap.size + 1, 0, none⟩ = some (str tn)) (first | go_keep | exact ⟨x0, x1, x2, x3, x4, x5, x6, x7⟩) (first | (go_at_call 52; refine HFT.out.mono ?_; rintro en w5 ⟨rfl, hb5⟩; have K5 := HKD.out.below hb5; have x0 := K5.blk.cell 0; have x1 := K5.blk.cell 1; have x2 := K5.blk.cell 2; have x3 := K5.blk.cell 3; have x4 := K5.blk.cell 4; have x5 := K5.blk.cell 5; have x6 := K5.blk.cell 6; have x7 := (HXD.out.below hb5).cell 0))
        go_wp2
        go_ret
        rw [HF.out]
        exact Steps.err hBg (HBB.out.drew.trans (hb5.mono HBB.out.size)) rfl
       ·have HF : Hid (Vert.beginText ⟨toks, texts, regs, opn, false⟩ ks = .ok ⟨toks, texts ++ [⟨tn, (nt : Nat), -1, ks.filter fun p => !isId p⟩], regs, opn, true⟩) := by
         show _ = _
         unfold Vert.beginText
         dsimp only
         rw [if_neg (by simp), if_neg hx64, HLS.out]
         dsimp only
         rw [← HTN.out, hok, if_neg (by simp), if_neg (by rw [HFD.out]; exact hdup), ht]
        go_wp2
        go_region_held3 (fun W => W.cell? ⟨g, 0, none⟩ = some (.slice Aa na ca) ∧ W.cell? ⟨g, 1, none⟩ = some (.slice At' nt ct) ∧ W.cell? ⟨g, 2, none⟩ = some (.slice Ax nx cx) ∧ W.cell? ⟨g, 3, none⟩ = some (.slice Ar nr cr) ∧ W.cell? ⟨g, 4, none⟩ = some (.slice none 0 0) ∧ W.cell? ⟨g, 5, none⟩ = some (.slice none 0 0) ∧ W.cell? ⟨g, 6, none⟩ = some (.slice none 0 0) ∧ W.cell? ⟨w.heap.size + 1, 0, none⟩ = some (str tn)) (first | go_keep | exact ⟨x0, x1, x2, x3, x4, x5, x6, x7⟩) (first | (go_at_call 52; refine HFT.out.mono ?_; rintro en w5 ⟨rfl, hb5⟩; have K5 := HKD.out.below hb5; have x0 := K5.blk.cell 0; have x1 := K5.blk.cell 1; have x2 := K5.blk.cell 2; have x3 := K5.blk.cell 3; have x4 := K5.blk.cell 4; have x5 := K5.blk.cell 5; have x6 := K5.blk.cell 6; have x7 := (HXD.out.below hb5).cell 0))
        have HKA := Lib.hid K5
        have BXA : Hid (Blk w5 (w.heap.size + 1) 66 #[str tn, .int .i64 (nt : Nat), .int .i64 (-1), .slice MA Mn Mc]) := HXD.out.below hb5
        have BA : Hid (Below w.heap.size w w5) := HBB.out.drew.trans (hb5.mono HBB.out.size)
        have HMO : Hid (w5.ownsRow B 84 2 (.slice MA Mn Mc) Mn ((ks.filter fun p => !isId p).flatMap prV)) := own_base (own_below (own_off HOWN.out (Off.drew (R := 4294967295) _) (by decide)) hb5) (by omega)
        clear K5 hb5 x0 x1 x2 x3 x4 x5 x6 x7 q0 q1 q2 q3 q4 q5 q6 y0
        generalize w5 = wa at HKA BXA BA HMO ⊢
        go_wp2
        obtain ⟨Lx, hLx, OWNA, hWx⟩ := HKA.out.x
        have HXlt : Hid (∀ b, (Value.slice Ax nx cx).ownBlock = some b → b < w.heap.size) := fun b hb => by
         obtain ⟨L', _, o', _⟩ := HK.out.x
         exact (o'.lt b hb).2
        have hS20 := (⟨HKA.out.blk.cell 2, BXA.out.cell 0, BXA.out.cell 1, BXA.out.cell 2, BXA.out.cell 3⟩ : _ ∧ _ ∧ _ ∧ _ ∧ _)
        have HBA1 : Hid (Below wa.heap.size wa (wa.alloc (.cells #[str tn, .int .i64 (nt : Nat), .int .i64 (-1), .slice MA Mn Mc] 66))) := (Below.refl _ _).alloc (Nat.le_refl _) _
        have KA1 := Lib.hid ((HKA.out.below HBA1.out).drew)
        have BX1 := BXA.out.below HBA1.out
        have hS20a := (⟨KA1.out.blk.cell 2, BX1.cell 0, BX1.cell 1, BX1.cell 2, BX1.cell 3⟩ : _ ∧ _ ∧ _ ∧ _ ∧ _)
        clear BX1
        have OWNX : Hid ((wa.alloc (.cells #[str tn, .int .i64 (nt : Nat), .int .i64 (-1), .slice MA Mn Mc] 66)).drew.ownsRow B 66 4 (.slice Ax nx cx) nx (Lx.flatMap txV)) := own_off (own_below OWNA HBA1.out) (Off.drew (R := 4294967295) _) (by decide)
        have hsza : B ≤ wa.heap.size := Nat.le_trans hBg BA.out.size
        have hnt : nt ≤ 4096 := by omega
        have hszb : w.heap.size ≤ wa.heap.size := BA.out.size
        have HLx := Lib.hid hLx
        have HWx := Lib.hid hWx
        clear hLx hWx OWNA
        refine wp_region_m (fun W => W.cell? ⟨g, 2, none⟩ = some (.slice Ax nx cx) ∧ W.cell? ⟨w.heap.size + 1, 0, none⟩ = some (str tn) ∧ W.cell? ⟨w.heap.size + 1, 1, none⟩ = some (.int .i64 (nt : Nat)) ∧ W.cell? ⟨w.heap.size + 1, 2, none⟩ = some (.int .i64 (-1)) ∧ W.cell? ⟨w.heap.size + 1, 3, none⟩ = some (.slice MA Mn Mc)) 12 (by as_aux_lemma => kernel_rfl) (hS20) (fun hHeld => ?_)
        refine wpAnyM_take (i := 0) (v := ?_) rfl (by as_aux_lemma => kernel_rfl) (by as_aux_lemma => kernel_rfl) (by as_aux_lemma => kernel_rfl) (by as_aux_lemma => kernel_rfl) (fun _ _ _ h => h) (Or.inl ⟨by rfl, ?_⟩) (hHeld) ?_
        rotate_left
        ·((intro W hSw); (try dsimp only at hSw); go_simp; try (with_reducible rfl))
        simp only [List.getElem_toArray, List.getElem_cons_zero, List.getElem_cons_succ, Act.put, List.setIfInBounds_toArray, List.set_cons_zero, List.set_cons_succ]
        refine wpAnyM_take (i := 1) (v := ?_) rfl (by as_aux_lemma => kernel_rfl) (by as_aux_lemma => kernel_rfl) (by as_aux_lemma => kernel_rfl) (by as_aux_lemma => kernel_rfl) (fun _ _ _ h => h) (Or.inl ⟨by rfl, ?_⟩) (hHeld) ?_
        rotate_left
        ·((intro W hSw); (try dsimp only at hSw); go_simp; try (with_reducible rfl))
        simp only [List.getElem_toArray, List.getElem_cons_zero, List.getElem_cons_succ, Act.put, List.setIfInBounds_toArray, List.set_cons_zero, List.set_cons_succ]
        refine wpAnyM_take (i := 2) (v := ?_) rfl (by as_aux_lemma => kernel_rfl) (by as_aux_lemma => kernel_rfl) (by as_aux_lemma => kernel_rfl) (by as_aux_lemma => kernel_rfl) (fun _ _ _ h => h) (Or.inl ⟨by rfl, ?_⟩) (hHeld) ?_
        rotate_left
        ·((intro W hSw); (try dsimp only at hSw); go_simp; try (with_reducible rfl))
        simp only [List.getElem_toArray, List.getElem_cons_zero, List.getElem_cons_succ, Act.put, List.setIfInBounds_toArray, List.set_cons_zero, List.set_cons_succ]
        refine wpAnyM_take (i := 3) (v := ?_) rfl (by as_aux_lemma => kernel_rfl) (by as_aux_lemma => kernel_rfl) (by as_aux_lemma => kernel_rfl) (by as_aux_lemma => kernel_rfl) (fun _ _ _ h => h) (Or.inl ⟨by rfl, ?_⟩) (hHeld) ?_
        rotate_left
        ·((intro W hSw); (try dsimp only at hSw); go_simp; try (with_reducible rfl))
        simp only [List.getElem_toArray, List.getElem_cons_zero, List.getElem_cons_succ, Act.put, List.setIfInBounds_toArray, List.set_cons_zero, List.set_cons_succ]
        refine wpAnyM_take (i := 4) (v := ?_) rfl (by as_aux_lemma => kernel_rfl) (by as_aux_lemma => kernel_rfl) (by as_aux_lemma => kernel_rfl) (by as_aux_lemma => kernel_rfl) (fun _ _ _ h => h) (Or.inl ⟨by rfl, ?_⟩) (hHeld) ?_
        rotate_left
        ·((intro W hSw); (try dsimp only at hSw); go_simp; try (with_reducible rfl))
        simp only [List.getElem_toArray, List.getElem_cons_zero, List.getElem_cons_succ, Act.put, List.setIfInBounds_toArray, List.set_cons_zero, List.set_cons_succ]
        refine wpAnyM_take (i := 5) (v := ?_) rfl (by as_aux_lemma => kernel_rfl) (by as_aux_lemma => kernel_rfl) (by as_aux_lemma => kernel_rfl) (by as_aux_lemma => kernel_rfl) (fun _ _ _ h => h) (Or.inl ⟨by rfl, ?_⟩) (hHeld) ?_
        rotate_left
        ·((intro W hSw); (try dsimp only at hSw); go_simp; try (with_reducible rfl))
        simp only [List.getElem_toArray, List.getElem_cons_zero, List.getElem_cons_succ, Act.put, List.setIfInBounds_toArray, List.set_cons_zero, List.set_cons_succ]
        refine wpAnyM_take (i := 6) (v := ?_) rfl (by as_aux_lemma => kernel_rfl) (by as_aux_lemma => kernel_rfl) (by as_aux_lemma => kernel_rfl) (by as_aux_lemma => kernel_rfl) (fun _ _ _ h => h) (Or.inl ⟨by rfl, ?_⟩) (hHeld) ?_
        rotate_left
        ·((intro W hSw); (try dsimp only at hSw); go_simp; try (with_reducible rfl))
        simp only [List.getElem_toArray, List.getElem_cons_zero, List.getElem_cons_succ, Act.put, List.setIfInBounds_toArray, List.set_cons_zero, List.set_cons_succ]
        refine wpAnyM_one (i := 7) (by as_aux_lemma => kernel_rfl) rfl (fun K hK => ?_)
        go_simp
        refine hK.out _ _ (fun _ => hS20a) ?_
        clear hK K
        try simp only [List.getElem_toArray, List.getElem_cons_zero, List.getElem_cons_succ, Act.put, List.setIfInBounds_toArray, List.set_cons_zero, List.set_cons_succ]
        refine wpAnyM_one (i := 8) (by as_aux_lemma => kernel_rfl) rfl (fun K hK => ?_)
        refine step_app _ rfl (.tmp 71) (.tmp 73) _ rfl B 66 i1 _ 4 56 Tryz.underlying24 hi1 hy0 hy1 hy2 rfl (by decide) (.slice Ax nx cx) nx (Lx.flatMap txV) (by rfl) OWNX.out (some ⟨wa.heap.size, 0, none⟩) 1 1 (txV (⟨tn, (nt : Nat), -1, ks.filter fun p => !Vert.isId p⟩, ⟨MA, Mn, Mc⟩)) (by rfl) rfl (fun _ => ⟨_, rfl, news_four rfl⟩) (txV_one7 [_]) (by unfold maxLen; omega) (by omega) (by simp; omega) ?_
        intro v3 w3 own3 gr3 ob3
        obtain ⟨A3, c3', rfl, -, -⟩ := own_slc own3
        have B3 := (KA1.out.blk.off (Off.grown OWNX.out gr3) (by decide))
        have BX3 : Blk w3 (w.heap.size + 1) 66 #[str tn, .int .i64 (nt : Nat), .int .i64 (-1), .slice MA Mn Mc] := (gr3.block (w.heap.size + 1) (Nat.lt_of_lt_of_le BXA.out.lt (by simp)) (fun e => by have := HXlt.out _ e.symm; omega)).trans (BXA.out.below HBA1.out.drew)
        have S20_ := (⟨B3.cell 2, BX3.cell 0, BX3.cell 1, BX3.cell 2, BX3.cell 3⟩ : _ ∧ _ ∧ _ ∧ _ ∧ _)
        have f2 := B3.free 2
        clear B3 BX3
        refine hK.out _ _ (fun _ => S20_) ?_
        clear hK K
        try simp only [List.getElem_toArray, List.getElem_cons_zero, List.getElem_cons_succ, Act.put, List.setIfInBounds_toArray, List.set_cons_zero, List.set_cons_succ]
        refine wpAnyM_one (i := 9) (by as_aux_lemma => kernel_rfl) rfl (fun K hK => ?_)
        go_simp
        refine hK.out _ _ (fun _ => S20_) ?_
        clear hK K
        try simp only [List.getElem_toArray, List.getElem_cons_zero, List.getElem_cons_succ, Act.put, List.setIfInBounds_toArray, List.set_cons_zero, List.set_cons_succ]
        refine wpAnyM_one (i := 10) (by as_aux_lemma => kernel_rfl) rfl (fun K hK => ?_)
        go_simp
        refine hK.out _ _ (fun _ => S20_) ?_
        clear hK K
        try simp only [List.getElem_toArray, List.getElem_cons_zero, List.getElem_cons_succ, Act.put, List.setIfInBounds_toArray, List.set_cons_zero, List.set_cons_succ]
        refine wpAnyM_one (i := 11) (by as_aux_lemma => kernel_rfl) rfl (fun K hK => ?_)
        go_simp
        refine hK.out _ _ (fun _ => S20_) ?_
        clear hK K
        try simp only [List.getElem_toArray, List.getElem_cons_zero, List.getElem_cons_succ, Act.put, List.setIfInBounds_toArray, List.set_cons_zero, List.set_cons_succ]
        refine wpAnyM_one (i := 12) (by as_aux_lemma => kernel_rfl) rfl (fun K hK => ?_)
        go_simp
        refine hK.out _ _ (fun h => absurd rfl h) ?_
        clear hK K
        try simp only [List.getElem_toArray, List.getElem_cons_zero, List.getElem_cons_succ, Act.put, List.setIfInBounds_toArray, List.set_cons_zero, List.set_cons_succ]
        refine wpAnyM_done (by as_aux_lemma => kernel_rfl) (NoPanic.normal ?_) _

        have HY : OwnT (wa.alloc (.cells #[str tn, .int .i64 (nt : Nat), .int .i64 (-1), .slice MA Mn Mc] 66)).drew B (⟨tn, (nt : Nat), -1, ks.filter fun p => !isId p⟩, ⟨MA, Mn, Mc⟩) :=
         ⟨hlt.out, ⟨by show _ ≤ ((nt : Nat) : Int); omega, by show ((nt : Nat) : Int) ≤ _; omega⟩, ⟨by show _ ≤ (-1 : Int); omega, by show (-1 : Int) ≤ _; omega⟩, own_off (own_below HMO.out HBA1.out) (Off.drew (R := 4294967295) _) (by decide), fun p hp => hks p (List.mem_filter.1 hp).1⟩
        have HOK : RdOk ⟨toks, texts ++ [⟨tn, (nt : Nat), -1, ks.filter fun p => !isId p⟩], regs, opn, true⟩ := by
         have q := HKA.out.ok
         exact ⟨q.t, by show (texts ++ [_]).length ≤ 64; rw [List.length_append, List.length_singleton]; omega, q.r, q.o, q.ks, fun _ => by simp⟩
        have HP := KA1.out.push_x (L := Lx) (y := (⟨tn, (nt : Nat), -1, ks.filter fun p => !isId p⟩, ⟨MA, Mn, Mc⟩)) HLx.out OWNX.out (fun z hz => ((HWx.out z hz).off (R := 4294967295) (Off.alloc wa _) (by decide)).off (R := 4294967295) (Off.drew _) (by decide)) HY own3 gr3 HOK
        have B5 : Hid (Below B w ((w3.setCell ⟨g, 2, none⟩ (.slice A3 (nx + 1) c3')).setCell ⟨g, 8, none⟩ (.bool true))) := ((((BA.out.mono hBg).trans (HBA1.out.drew.mono hsza)).grown gr3 (Nat.le_trans hsza (by simp)) (fun j hj => (OWNX.out.lt j hj).1)).setCell (p := ⟨g, 2, none⟩) HKA.out.bg _).setCell (p := ⟨g, 8, none⟩) HKA.out.bg _
        have KB3 := (KA1.out.blk.off (Off.grown OWNX.out gr3) (by decide)).set_ 2 (.slice A3 (nx + 1) c3')
        have e8 : _ = some (Value.bool false) := KB3.cell 8
        have HN : Hid (Only w ((w3.setCell ⟨g, 2, none⟩ (.slice A3 (nx + 1) c3')).setCell ⟨g, 8, none⟩ (.bool true))) := ((((Only.below BA.out).trans (Only.below HBA1.out.drew)).off (Off.grown OWNX.out gr3) (by decide)).off (Off.set_ (KA1.out.blk.off (Off.grown OWNX.out gr3) (by decide)) 2 _) (by decide)).off (Off.set_ KB3 8 _) (by decide)
        have f8 := KB3.free 8
        have HPP := Lib.hid HP
        clear HP KB3 own3 gr3 ob3 HY hS20 hS20a hHeld S20_ f2
        go_wp2
        go_ret
        rw [HF.out]
        exact ⟨B5.out, HN.out, rfl, _, HPP.out⟩
      ·have hok2 : okName tn = false := by simpa using hok
       have HF : Hid (Vert.beginText ⟨toks, texts, regs, opn, false⟩ ks = .error 4) := by
        show _ = _
        unfold Vert.beginText
        dsimp only
        rw [if_neg (by simp), if_neg hx64, HLS.out]
        dsimp only
        rw [← HTN.out, if_pos hok2]
       go_wp2_with fail
       refine HVN.out.mono ?_
       rintro en wv ⟨rfl, rfl⟩
       rw [hok2]
       clear HVN
       go_wp2
       go_ret
       rw [HF.out]
       exact Steps.err hBg HBB.out rfl
end Go.Proofs.YtgkdaebiefhgdaaGreatDoor
namespace Go.Proofs.YtgkdaebiefhgdaaGreatDoor
set_option linter.unusedSimpArgs false
set_option linter.unusedVariables false
open Go.RowKit
open Feat (Bs)
open Tagp (KV)
open Vert (Rd)
theorem take_setV {α : Type} (l : List α) (j m : Nat) (x : α) : (l.set j x).take m = (l.take m).set j x := by
 rw [List.take_set]
theorem own_setV {w : World} {B z n c g : Nat} {E : TypeId} {xs : List Value} (h : w.ownsRow B E z (.slice (some ⟨g, 0, none⟩) n c) n xs) (j : Nat) (u : Value) : (w.setCell ⟨g, j, none⟩ u).ownsRow B E z (.slice (some ⟨g, 0, none⟩) n c) n (xs.set j u) := by
 refine ⟨by rw [List.length_set]; exact h.1, ?_⟩
 rcases h.2 with ⟨hv, _⟩ | ⟨g', cap, cur, hv, hb, hblk, hc, hm, hsz, htk⟩
 ·cases hv
 ·cases hv
  refine .inr ⟨g, c, cur.setIfInBounds j u, rfl, hb, Blk.set_ (show Blk w g E cur from hblk) j u, hc, hm, by simpa using hsz, ?_⟩
  rw [Array.toList_setIfInBounds, take_setV, htk]
theorem flat_setV {α : Type} {f : α → List Value} {z : Nat} (hf : ∀ a, (f a).length = z) : ∀ (L : List α) (i : Nat) (hi : i < L.length) (j : Nat) (u : Value) (y : α), j < z → (f L[i]).set j u = f y → (L.flatMap f).set (i * z + j) u = (L.set i y).flatMap f
 | a :: L, 0, _, j, u, y, hj, h => by
  rw [List.flatMap_cons, Nat.zero_mul, Nat.zero_add, List.set_append_left _ _ (by rw [hf]; exact hj), List.set_cons_zero, List.flatMap_cons]
  rw [show (f a).set j u = f y from h]
 | a :: L, i + 1, hi, j, u, y, hj, h => by
  rw [List.flatMap_cons, List.set_append_right _ _ (by rw [hf, Nat.succ_mul]; omega), hf, Nat.succ_mul, show i * z + z + j - z = i * z + j by omega, List.set_cons_succ, List.flatMap_cons]
  rw [flat_setV hf L i (by simpa using hi) j u y hj h]

theorem OX.block {w : World} {B : Nat} {E : TypeId} {A : Option Addr} {n c : Nat} {l : List Cor.Txt} (k : OX w B E ⟨A, n, c⟩ l) (hn : 0 < n) : ∃ gx, A = some ⟨gx, 0, none⟩ ∧ B ≤ gx ∧ gx < w.heap.size ∧ ∃ cs, Blk w gx E cs := by
 obtain ⟨L, _, o, _⟩ := k
 rcases o.2 with ⟨hv, h0⟩ | ⟨g', cap, cur, hv, hb, hblk, _⟩
 ·cases hv; exact absurd hn (by decide)
 ·cases hv; exact ⟨g', rfl, hb, (Array.getElem?_eq_some_iff.1 hblk).1, cur, hblk⟩
theorem OwnR.end_t {w : World} {B g gx nx cx m : Nat} {h : RdH} {ats : List At} {s : Rd} (k : OwnR w B g h ats s) (hx : h.x = ⟨some ⟨gx, 0, none⟩, nx, cx⟩) (hn : 0 < nx) {t : Cor.Txt} (ht : s.texts.getLast? = some t) (hm : m ≤ 4096) :
  OwnR ((w.setCell ⟨gx, (nx - 1) * 4 + 2, none⟩ (.int .i64 (m : Nat))).setCell ⟨g, 8, none⟩ (.bool false)) B g h ats { s with texts := s.texts.dropLast ++ [{ t with e := (m : Nat) }], tx := false } := by
 obtain ⟨ha, htk, hxx, hr, ho⟩ := h
 cases hx
 obtain ⟨L, hL, hoL, hW⟩ := k.x
 have hlen : L.length = nx := by have h1 : s.texts.length = nx := k.x.len; rw [← h1, ← hL, List.length_map]
 have hi : nx - 1 < L.length := by omega
 obtain ⟨cs, hb⟩ : ∃ cs, Blk w gx 66 cs := by
  rcases hoL.2 with ⟨hv, h0⟩ | ⟨g', cap, cur, hv, _, hblk, _⟩
  ·cases hv
  ·cases hv; exact ⟨cur, hblk⟩
 have f1 := Off.set_ hb ((nx - 1) * 4 + 2) (.int .i64 (m : Nat))
 have b1 := k.blk.off f1 (by decide)
 have f2 := Off.set_ b1 8 (.bool false)
 have hset := own_setV hoL ((nx - 1) * 4 + 2) (.int .i64 (m : Nat))
 have hy : L[nx - 1].1 = t := by
  rw [← hL, List.getLast?_map, List.getLast?_eq_getElem?, hlen, List.getElem?_eq_getElem hi] at ht
  simpa using ht
 rw [flat_setV txV_len L (nx - 1) hi 2 (.int .i64 (m : Nat)) ({ L[nx - 1].1 with e := (m : Nat) }, L[nx - 1].2) (by omega) rfl] at hset
 have hW1 : ∀ z ∈ L, OwnT ((w.setCell ⟨gx, (nx - 1) * 4 + 2, none⟩ (.int .i64 (m : Nat))).setCell ⟨g, 8, none⟩ (.bool false)) B z := fun z hz => ((hW z hz).off f1 (by decide)).off f2 (by decide)
 have hm1 : L.set (nx - 1) ({ L[nx - 1].1 with e := (m : Nat) }, L[nx - 1].2) = L.dropLast ++ [({ L[nx - 1].1 with e := (m : Nat) }, L[nx - 1].2)] := by
  rw [List.set_eq_take_append_cons_drop, if_pos hi, List.drop_eq_nil_of_le (by omega), List.dropLast_eq_take, hlen]
 refine ⟨b1.set_ 8 _, k.bg, (k.a.off f1 (by decide)).off f2 (by decide), (k.t.off f1 (by decide) (by decide)).off f2 (by decide) (by decide),
  ⟨L.set (nx - 1) ({ L[nx - 1].1 with e := (m : Nat) }, L[nx - 1].2), ?_, own_off hset f2 (by decide), fun z hz => ?_⟩, (k.r.off f1 (by decide) (by decide)).off f2 (by decide) (by decide), (k.o.off f1 (by decide) (by decide)).off f2 (by decide) (by decide), k.dis, ?_⟩
 ·rw [hm1, hy, List.map_append, ← hL, List.map_dropLast]; rfl
 ·rw [hm1] at hz
  rcases List.mem_append.1 hz with hz | hz
  ·exact hW1 z ((List.dropLast_subset _ hz))
  ·simp only [List.mem_singleton] at hz
   subst hz
   have q := hW1 _ (List.getElem_mem hi)
   exact ⟨q.1, q.2.1, ⟨by show _ ≤ ((m : Nat) : Int); omega, by show ((m : Nat) : Int) ≤ _; omega⟩, q.2.2.2.1, q.2.2.2.2⟩
 ·exact ⟨k.ok.t, by have := k.ok.x; simp; omega, k.ok.r, k.ok.o, k.ok.ks, by simp⟩
attribute [local go_sem] byte_mk ByteArray.extract_mk
set_option maxRecDepth 100000 in
set_option maxHeartbeats 4000000 in
theorem endText_any (B g : Nat) (h : RdH) (ats : List At) (s : Rd) (v : Array Value) (w : World) (k : OwnR w B g h ats s) :
  Calls Tryz.prog 63 #[.pointer (some ⟨g, 0, none⟩), .agg v] w (Steps B g ats w (Vert.endText s)) := by
 obtain ⟨⟨Aa, na, ca⟩, ⟨At', nt, ct⟩, ⟨Ax, nx, cx⟩, ⟨Ar, nr, cr⟩, ⟨Ao, no, co⟩⟩ := h
 obtain ⟨toks, texts, regs, opn, tx⟩ := s
 have hBg : B ≤ w.heap.size := Nat.le_trans k.bg (Nat.le_of_lt k.blk.lt)
 have hB0 := (Below.refl B w).alloc hBg (.cells v 106)
 have HL0 := Lib.hid ((Below.refl w.heap.size w).alloc (Nat.le_refl _) (.cells v 106))
 have kb := k.alloc (.cells v 106)
 have c8 : _ = some (Value.bool tx) := kb.blk.cell 8
 have f8 := kb.blk.free 8
 have c7 : _ = some (Value.slice Ao no co) := kb.blk.cell 7
 have c2 : _ = some (Value.slice Ax nx cx) := kb.blk.cell 2
 have c1 : _ = some (Value.slice At' nt ct) := kb.blk.cell 1
 have ho : opn.length = no := k.o.len
 have hx : texts.length = nx := k.x.len
 have ht : toks.length = nt := k.t.reads.len
 have kt := k.ok.t
 have kx := k.ok.x
 have ktx := k.ok.tx
 dsimp only at kt kx ktx
 cases tx with
 | false =>
  have HF : Hid (Vert.endText ⟨toks, texts, regs, opn, false⟩ = .error 17) := by show _ = _; unfold Vert.endText; rfl
  have HB0 := Lib.hid hB0
  clear hB0 k kb
  go_enter Tryz.func63, Tryz.ntmps63
  go_wp2
  go_ret
  rw [HF.out]
  exact Steps.err hBg HL0.out rfl
 | true =>
  by_cases h0 : 0 < no
  ·have HF : Hid (Vert.endText ⟨toks, texts, regs, opn, true⟩ = .error 6) := by
    show _ = _; unfold Vert.endText; dsimp only; rw [if_neg (by simp), if_pos (by intro e; subst e; simp at ho; omega)]
   have HB0 := Lib.hid hB0
   clear hB0 k kb
   go_enter Tryz.func63, Tryz.ntmps63
   go_wp2
   go_ret
   rw [HF.out]
   exact Steps.err hBg HL0.out rfl
  ·obtain rfl : no = 0 := by omega
   obtain rfl : opn = [] := List.eq_nil_of_length_eq_zero (by omega)
   have hne : texts ≠ [] := ktx rfl
   have hnx : 0 < nx := by rw [← hx]; exact List.length_pos_iff.2 hne
   obtain ⟨gx, rfl, hgB, hgw, -⟩ := kb.x.block hnx
   obtain ⟨g', o', H, hk, hA, -, hTx, -, p1, -, -⟩ := kb.x.reads.at_ (k := nx - 1) (by show nx - 1 < nx; omega)
   cases hA
   obtain ⟨t, ht2⟩ : ∃ t, texts[nx - 1] = t := ⟨_, rfl⟩
   have hlast : texts.getLast? = some t := by rw [List.getLast?_eq_getElem?, hx, List.getElem?_eq_getElem hk, ht2]
   simp only [ht2, Nat.zero_add] at p1 hTx
   have hw1 : IntKind.i64.wrap ((nx : Int) - 1) = ((nx - 1 : Nat) : Int) := by rw [IntWalk.i64_in _ (by omega)]; omega
   have hi0 : (0 : Int) ≤ ((nx - 1 : Nat) : Int) := by omega
   have hi1 : ((nx - 1 : Nat) : Int) < (nx : Int) := by omega
   have HB0 := Lib.hid hB0
   have HKB := Lib.hid kb
   have HL := Lib.hid hlast
   clear hB0 k kb hlast
   by_cases hb : t.b = nt
   ·have HF : Hid (Vert.endText ⟨toks, texts, regs, [], true⟩ = .error 8) := by
     show _ = _; unfold Vert.endText; dsimp only; rw [if_neg (by simp), if_neg (by simp), HL.out]; dsimp only; rw [if_pos (by rw [hb, ht])]
    rw [hb] at p1
    go_enter Tryz.func63, Tryz.ntmps63
    go_wp2
    go_quiet (fail)
    go_wp2
    go_quiet (fail)
    go_wp2
    go_ret
    rw [HF.out]
    exact Steps.err hBg (below_drewN (below_drewN HL0.out _) _) rfl
   ·have hb2 : (t.b == (nt : Int)) = false := by rw [beq_eq_false_iff_ne]; exact hb
    have HF : Hid (Vert.endText ⟨toks, texts, regs, [], true⟩ = .ok ⟨toks, texts.dropLast ++ [{ t with e := (nt : Nat) }], regs, [], false⟩) := by
     show _ = _; unfold Vert.endText; dsimp only; rw [if_neg (by simp), if_neg (by simp), HL.out]; dsimp only; rw [if_neg (by rw [ht]; exact hb), ht]
    go_enter Tryz.func63, Tryz.ntmps63
    go_wp2
    go_quiet (fail)
    go_wp2
    go_quiet (fail)
    generalize hwq : World.drewN _ _ = wq
    have kq : OwnR wq B g ⟨⟨Aa, na, ca⟩, ⟨At', nt, ct⟩, ⟨some ⟨gx, 0, none⟩, nx, cx⟩, ⟨Ar, nr, cr⟩, ⟨Ao, 0, co⟩⟩ ats ⟨toks, texts, regs, [], true⟩ := by rw [← hwq]; first | exact HKB.out.drewN _ | exact (HKB.out.drewN _).drewN _
    have HLQ : Hid (Below w.heap.size w wq) := by rw [← hwq]; first | exact below_drewN HL0.out _ | exact below_drewN (below_drewN HL0.out _) _
    have bq : Below B w wq := by rw [← hwq]; first | exact below_drewN HB0.out _ | exact below_drewN (below_drewN HB0.out _) _
    clear hwq c8 f8 c7 c2 c1 p1
    obtain ⟨gx', hgx', -, -, cs, hbx⟩ := kq.x.block hnx
    cases hgx'
    have c1 : wq.cell? ⟨g, 1, none⟩ = some (Value.slice At' nt ct) := kq.blk.cell 1
    have fx : wq.frozen? ⟨gx, (nx - 1) * 4 + 2, none⟩ = false := hbx.free _
    obtain ⟨ue, lx⟩ : ∃ u, wq.cell? ⟨gx, (nx - 1) * 4 + 2, none⟩ = some u := by
     obtain ⟨g'', o'', H'', hk'', hA'', -, -, -, -, p2, -⟩ := kq.x.reads.at_ (k := nx - 1) (by show nx - 1 < nx; omega)
     cases hA''
     simp only [Nat.zero_add] at p2
     exact ⟨_, p2⟩
    have E1 := kq.end_t rfl hnx HL.out (m := nt) (by omega)
    have b1 := (kq.blk.off (Off.set_ hbx ((nx - 1) * 4 + 2) (.int .i64 (nt : Nat))) (by decide))
    have c8 : _ = some (Value.bool true) := b1.cell 8
    have f8 := b1.free 8
    have HE1 := Lib.hid E1
    have HON : Hid (Only w ((wq.setCell ⟨gx, (nx - 1) * 4 + 2, none⟩ (.int .i64 (nt : Nat))).setCell ⟨g, 8, none⟩ (.bool false))) := ((Only.below HLQ.out).off (Off.set_ hbx _ _) (by decide)).off (Off.set_ b1 8 _) (by decide)
    have BQ := Lib.hid bq
    have HBg := Lib.hid kq.bg
    clear E1 bq kq b1 hbx
    go_wp2
    go_ret
    rw [HF.out]
    exact ⟨(BQ.out.setCell (p := ⟨gx, (nx - 1) * 4 + 2, none⟩) hgB _).setCell (p := ⟨g, 8, none⟩) HBg.out _, HON.out, rfl, _, HE1.out⟩
end Go.Proofs.YtgkdaebiefhgdaaGreatDoor
namespace Go.Proofs.YtgkdaebiefhgdaaGreatDoor
set_option linter.unusedSimpArgs false
set_option linter.unusedVariables false
open Go.RowKit
open Feat (Bs)
open Tagp (KV)
open Vert (Rd lastOf)
attribute [local go_sem] byte_mk ByteArray.extract_mk
theorem info_regW : (Tryz.prog.info? 69).map (fun i => (i.zero, i.size, i.bytes)) = some (some (.agg #[.string ⟨#[]⟩, .int .i64 0, .int .i64 0, .slice none 0 0]), 4, 56) := by kernel_rfl

set_option maxRecDepth 100000 in
set_option maxHeartbeats 4000000 in
theorem endRegion_any (B g : Nat) (h : RdH) (ats : List At) (s : Rd) (cl : Bool) (nm : Bs) (KA : Option Addr) (Kn Kc : Nat) (w : World) (k : OwnR w B g h ats s) :
  Calls Tryz.prog 61 #[.pointer (some ⟨g, 0, none⟩), .agg #[.bool cl, str nm, .slice KA Kn Kc]] w (Steps B g ats w (Vert.endReg s nm)) := by
 obtain ⟨⟨Aa, na, ca⟩, ⟨At', nt, ct⟩, ⟨Ax, nx, cx⟩, ⟨Ar, nr, cr⟩, ⟨Ao, no, co⟩⟩ := h
 obtain ⟨toks, texts, regs, opn, tx⟩ := s
 have hBg : B ≤ w.heap.size := Nat.le_trans k.bg (Nat.le_of_lt k.blk.lt)
 have hB0 := (Below.refl B w).alloc hBg (.cells #[.bool cl, str nm, .slice KA Kn Kc] 106)
 have HL0 := Lib.hid ((Below.refl w.heap.size w).alloc (Nat.le_refl _) (.cells #[.bool cl, str nm, .slice KA Kn Kc] 106))
 have kb := k.alloc (.cells #[.bool cl, str nm, .slice KA Kn Kc] 106)
 have hT := Blk.new w 106 #[.bool cl, str nm, .slice KA Kn Kc]
 have c8 : _ = some (Value.bool tx) := kb.blk.cell 8
 have c7 : _ = some (Value.slice Ao no co) := kb.blk.cell 7
 have v1 : _ = some (str nm) := hT.cell 1
 have ho : opn.length = no := k.o.len
 have ko := k.ok.o
 dsimp only at ko
 have HB0 := Lib.hid hB0
 have HKB := Lib.hid kb
 have HT := Lib.hid hT
 have HK := Lib.hid k
 clear hB0 kb hT k
 cases tx with
 | false =>
  have HF : Hid (Vert.endReg ⟨toks, texts, regs, opn, false⟩ nm = .error 17) := by show _ = _; unfold Vert.endReg; rfl
  go_enter Tryz.func61, Tryz.ntmps61
  go_wp2
  go_ret
  rw [HF.out]
  exact Steps.err hBg HL0.out rfl
 | true =>
  have hw0 : IntKind.i64.wrap ((no : Int) - 1) = (no : Int) - 1 := IntWalk.i64_in _ (by omega)
  go_enter Tryz.func61, Tryz.ntmps61
  go_wp2_with fail
  go_loopw [5] (fun iv wr => ∃ (i : Nat), iv = .int .i64 ((i : Int) - 1) ∧ i ≤ no ∧ Hid (∀ j (_ : i ≤ j) (hj : j < opn.length), opn[j].nm ≠ nm) ∧ Below w.heap.size w wr ∧ Blk wr w.heap.size 106 #[.bool cl, str nm, .slice KA Kn Kc]) (fun iv _ => (intOf iv + 1).toNat)
  case atStart => exact ⟨no, rfl, Nat.le_refl _, fun j h1 h2 => by omega, (Below.refl _ _).alloc (Nat.le_refl _) _, HT.out⟩
  case round =>
   obtain ⟨i, rfl, hi, hne, hb, hT1⟩ := hrel
   have kr := HK.out.below hb
   have bB : Below B w wr := hb.mono hBg
   have HbL := Lib.hid hb
   have c7 : wr.cell? ⟨g, 7, none⟩ = some (Value.slice Ao no co) := kr.blk.cell 7
   have v1 : wr.cell? ⟨w.heap.size, 1, none⟩ = some (str nm) := hT1.cell 1
   by_cases hi0 : i = 0
   ·subst hi0
    have HF : Hid (Vert.endReg ⟨toks, texts, regs, opn, true⟩ nm = .error 11) := by
     show _ = _; unfold Vert.endReg; dsimp only; rw [if_neg (by simp), lastOf_none (fun j hj => hne.out j (by omega) hj)]
    have e0 : ((0 : Nat) : Int) - 1 = -1 := rfl
    have HbB := Lib.hid bB
    clear kr bB
    rw [e0]
    go_wp2
    go_quiet (fail)
    go_wp2
    go_ret
    rw [HF.out]
    exact Steps.err hBg (below_drewN HbL.out _) rfl
   ·obtain ⟨i, rfl⟩ : ∃ q, i = q + 1 := ⟨i - 1, by omega⟩
    obtain ⟨go_, oo, K2, hk, hAo, hTx, p0, p1, p2, p3⟩ := kr.o.at_ (i := i) (by show i < no; omega)
    dsimp only at hAo
    subst hAo
    obtain ⟨t, ht2⟩ : ∃ t, opn[i] = t := ⟨_, rfl⟩
    simp only [ht2] at p0 p1 p2 p3 hTx
    have e0 : ((i + 1 : Nat) : Int) - 1 = (i : Int) := by omega
    have hj0 : (0 : Int) ≤ (i : Int) := by omega
    have hj1 : (i : Int) < (no : Int) := by omega
    have HbB := Lib.hid bB
    have Hkr := Lib.hid kr
    rw [e0]
    clear kr bB
    by_cases hnm : t.nm = nm
    ·have hlast : lastOf nm opn = some i := lastOf_at hk (by rw [ht2]; exact hnm) (fun j h1 hj => hne.out j (by omega) hj)
     have hsz := size_reg
     have hget : opn[i]? = some t := by rw [List.getElem?_eq_getElem hk, ht2]
     have htn : toks.length = nt := Hkr.out.t.reads.len
     have hq : (t.nm == nm) = true := by rw [beq_iff_eq]; exact hnm
     have c1 : wr.cell? ⟨g, 1, none⟩ = some (Value.slice At' nt ct) := Hkr.out.blk.cell 1
     by_cases hb8 : t.b = nt
     ·have HF : Hid (Vert.endReg ⟨toks, texts, regs, opn, true⟩ nm = .error 8) := by
       show _ = _; unfold Vert.endReg; dsimp only; rw [if_neg (by simp), hlast]; dsimp only; rw [hget]; dsimp only; rw [if_pos (by rw [hb8, htn])]
      rw [hb8] at p1
      clear hb8
      go_wp2
      go_quiet (fail)
      generalize hwq : World.drewN wr _ = wq
      have r0 : wq.cell? ⟨go_, oo + i * 4, none⟩ = some (str t.nm) := by rw [← hwq]; exact p0
      have r1 : wq.cell? ⟨go_, oo + i * 4 + 1, none⟩ = some (.int .i64 (nt : Nat)) := by rw [← hwq]; exact p1
      have r2 : wq.cell? ⟨go_, oo + i * 4 + 2, none⟩ = some (.int .i64 t.e) := by rw [← hwq]; exact p2
      have r3 : wq.cell? ⟨go_, oo + i * 4 + 3, none⟩ = some (.slice K2.A K2.n K2.c) := by rw [← hwq]; exact p3
      have r7 : wq.cell? ⟨g, 7, none⟩ = some (Value.slice (some ⟨go_, oo, none⟩) no co) := by rw [← hwq]; exact c7
      have HLQ : Hid (Below w.heap.size w wq) := by rw [← hwq]; exact below_drewN HbL.out _
      have bq : Hid (Below B w wq) := by rw [← hwq]; exact below_drewN HbB.out _
      have kq : Hid (OwnR wq B g ⟨⟨Aa, na, ca⟩, ⟨At', nt, ct⟩, ⟨Ax, nx, cx⟩, ⟨Ar, nr, cr⟩, ⟨some ⟨go_, oo, none⟩, no, co⟩⟩ ats ⟨toks, texts, regs, opn, true⟩) := by rw [← hwq]; exact Hkr.out.drewN _
      have x1 : (wq.alloc (.cells #[str nm, .int .i64 (nt : Nat), .int .i64 t.e, .slice K2.A K2.n K2.c] 69)).cell? ⟨g, 1, none⟩ = some (Value.slice At' nt ct) := (kq.out.alloc _).blk.cell 1
      have y1 : _ = some (Value.int .i64 (nt : Nat)) := (Blk.new wq 69 #[str nm, .int .i64 (nt : Nat), .int .i64 t.e, .slice K2.A K2.n K2.c]).cell 1
      clear hwq p0 p1 p2 p3 c7 c1
      go_wp2
      go_quiet (fail)
      go_wp2
      go_ret
      rw [HF.out]
      exact Steps.err hBg (below_drewN (HLQ.out.alloc HLQ.out.size _) _) rfl
     ·
      have hb8f : (t.b == (nt : Int)) = false := by rw [beq_eq_false_iff_ne]; exact hb8
      have HF : Hid (Vert.endReg ⟨toks, texts, regs, opn, true⟩ nm = .ok ⟨toks, texts, regs ++ [{ t with e := (nt : Nat) }], opn.eraseIdx i, true⟩) := by
       show _ = _; unfold Vert.endReg; dsimp only; rw [if_neg (by simp), hlast]; dsimp only; rw [hget]; dsimp only; rw [if_neg (by rw [htn]; exact hb8), htn]
      clear hb8
      obtain ⟨i0, hi0, hz0, hz1, hz2⟩ := info_parts info_regW
      go_wp2
      go_quiet (fail)
      generalize hwq : World.drewN wr _ = wq
      have r0 : wq.cell? ⟨go_, oo + i * 4, none⟩ = some (str t.nm) := by rw [← hwq]; exact p0
      have r1 : wq.cell? ⟨go_, oo + i * 4 + 1, none⟩ = some (.int .i64 t.b) := by rw [← hwq]; exact p1
      have r2 : wq.cell? ⟨go_, oo + i * 4 + 2, none⟩ = some (.int .i64 t.e) := by rw [← hwq]; exact p2
      have r3 : wq.cell? ⟨go_, oo + i * 4 + 3, none⟩ = some (.slice K2.A K2.n K2.c) := by rw [← hwq]; exact p3
      have r7 : wq.cell? ⟨g, 7, none⟩ = some (Value.slice (some ⟨go_, oo, none⟩) no co) := by rw [← hwq]; exact c7
      have HLQ : Hid (Below w.heap.size w wq) := by rw [← hwq]; exact below_drewN HbL.out _
      have bq : Hid (Below B w wq) := by rw [← hwq]; exact below_drewN HbB.out _
      have kq : Hid (OwnR wq B g ⟨⟨Aa, na, ca⟩, ⟨At', nt, ct⟩, ⟨Ax, nx, cx⟩, ⟨Ar, nr, cr⟩, ⟨some ⟨go_, oo, none⟩, no, co⟩⟩ ats ⟨toks, texts, regs, opn, true⟩) := by rw [← hwq]; exact Hkr.out.drewN _
      have tq : Hid (OwnT wq B (t, K2)) := by rw [← hwq]; exact hTx.off (R := 4294967295) (Off.drewN _ _) (by decide)
      have hnm' : Hid (t.nm = nm) := hnm
      have HTE : Hid (∃ te, t.e = te) := ⟨_, rfl⟩
      obtain ⟨te, hte⟩ := HTE.out
      obtain ⟨tb, htb⟩ : ∃ tb, t.b = tb := ⟨_, rfl⟩
      rw [htb] at r1 hb8f
      rw [hte] at r2
      have HTB : Hid (t.b = tb) := htb
      have x1 : (wq.alloc (.cells #[str nm, .int .i64 tb, .int .i64 te, .slice K2.A K2.n K2.c] 69)).cell? ⟨g, 1, none⟩ = some (Value.slice At' nt ct) := (kq.out.alloc _).blk.cell 1
      have y1 : _ = some (Value.int .i64 tb) := (Blk.new wq 69 #[str nm, .int .i64 tb, .int .i64 te, .slice K2.A K2.n K2.c]).cell 1
      clear hwq p0 p1 p2 p3 c7 c1 htb hte hTx
      go_wp2
      go_quiet (fail)
      go_wp2
      generalize hwa : World.setCell (World.drewN _ _) _ _ = wa
      have hba : Below wq.heap.size wq wa := by rw [← hwa]; exact (below_drewN ((Below.refl _ _).alloc (Nat.le_refl _) _) _).setCell (p := ⟨wq.heap.size, 2, none⟩) (Nat.le_refl _) _
      have BXA : Hid (Blk wa wq.heap.size 69 #[str nm, .int .i64 tb, .int .i64 (nt : Nat), .slice K2.A K2.n K2.c]) := by
       rw [← hwa]
       exact Blk.set_ (cs := #[str nm, .int .i64 tb, .int .i64 te, .slice K2.A K2.n K2.c]) (Blk.new wq 69 _) 2 _
      have HKA := Lib.hid (kq.out.below hba)
      have TA : Hid (OwnT wa B (t, K2)) := tq.out.off (R := 4294967295) (Off.below hba) (by decide)
      have BA : Hid (Below B w wa) := bq.out.trans (hba.mono (Nat.le_trans kq.out.bg (Nat.le_of_lt kq.out.blk.lt)))
      obtain ⟨Lr, hLr, OWNA, hWr⟩ := HKA.out.r
      have HRlt : Hid (∀ b, (Value.slice Ar nr cr).ownBlock = some b → b < wq.heap.size) := fun b hb => by
       obtain ⟨L', _, o', _⟩ := kq.out.r
       exact (o'.lt b hb).2
      have hS12 := (⟨HKA.out.blk.cell 3, BXA.out.cell 0, BXA.out.cell 1, BXA.out.cell 2, BXA.out.cell 3⟩ : _ ∧ _ ∧ _ ∧ _ ∧ _)
      have HBA1 : Hid (Below wa.heap.size wa (wa.alloc (.cells #[str nm, .int .i64 tb, .int .i64 (nt : Nat), .slice K2.A K2.n K2.c] 69))) := (Below.refl _ _).alloc (Nat.le_refl _) _
      have KA1 := Lib.hid ((HKA.out.below HBA1.out).drew)
      have BX1 := BXA.out.below HBA1.out
      have hS12a := (⟨KA1.out.blk.cell 3, BX1.cell 0, BX1.cell 1, BX1.cell 2, BX1.cell 3⟩ : _ ∧ _ ∧ _ ∧ _ ∧ _)
      clear BX1
      have OWNR : Hid ((wa.alloc (.cells #[str nm, .int .i64 tb, .int .i64 (nt : Nat), .slice K2.A K2.n K2.c] 69)).drew.ownsRow B 69 4 (.slice Ar nr cr) nr (Lr.flatMap txV)) := own_off (own_below OWNA HBA1.out) (Off.drew (R := 4294967295) _) (by decide)
      have hrn : nr ≤ 1024 := by have := HKA.out.r.len; have h2 := HKA.out.ok.r; dsimp only at this h2; omega
      have hnt : nt ≤ 4096 := by have h2 := HKA.out.ok.t; dsimp only at h2; omega
      have hsza : B ≤ wa.heap.size := Nat.le_trans (Nat.le_trans kq.out.bg (Nat.le_of_lt kq.out.blk.lt)) hba.size
      clear hwa x1 y1 OWNA
      have HLr := Lib.hid hLr
      have HWr := Lib.hid hWr
      have Hba := Lib.hid hba
      clear hLr hWr hba r0 r1 r2 r3 r7
      refine wp_region_m (fun W => W.cell? ⟨g, 3, none⟩ = some (.slice Ar nr cr) ∧ W.cell? ⟨wq.heap.size, 0, none⟩ = some (str nm) ∧ W.cell? ⟨wq.heap.size, 1, none⟩ = some (.int .i64 tb) ∧ W.cell? ⟨wq.heap.size, 2, none⟩ = some (.int .i64 (nt : Nat)) ∧ W.cell? ⟨wq.heap.size, 3, none⟩ = some (.slice K2.A K2.n K2.c)) 12 (by as_aux_lemma => kernel_rfl) (hS12) (fun hHeld => ?_)
      refine wpAnyM_take (i := 0) (v := ?_) rfl (by as_aux_lemma => kernel_rfl) (by as_aux_lemma => kernel_rfl) (by as_aux_lemma => kernel_rfl) (by as_aux_lemma => kernel_rfl) (fun _ _ _ h => h) (Or.inl ⟨by rfl, ?_⟩) (hHeld) ?_
      rotate_left
      ·((intro W hSw); (try dsimp only at hSw); go_simp; try (with_reducible rfl))
      simp only [List.getElem_toArray, List.getElem_cons_zero, List.getElem_cons_succ, Act.put, List.setIfInBounds_toArray, List.set_cons_zero, List.set_cons_succ]
      refine wpAnyM_take (i := 1) (v := ?_) rfl (by as_aux_lemma => kernel_rfl) (by as_aux_lemma => kernel_rfl) (by as_aux_lemma => kernel_rfl) (by as_aux_lemma => kernel_rfl) (fun _ _ _ h => h) (Or.inl ⟨by rfl, ?_⟩) (hHeld) ?_
      rotate_left
      ·((intro W hSw); (try dsimp only at hSw); go_simp; try (with_reducible rfl))
      simp only [List.getElem_toArray, List.getElem_cons_zero, List.getElem_cons_succ, Act.put, List.setIfInBounds_toArray, List.set_cons_zero, List.set_cons_succ]
      refine wpAnyM_take (i := 2) (v := ?_) rfl (by as_aux_lemma => kernel_rfl) (by as_aux_lemma => kernel_rfl) (by as_aux_lemma => kernel_rfl) (by as_aux_lemma => kernel_rfl) (fun _ _ _ h => h) (Or.inl ⟨by rfl, ?_⟩) (hHeld) ?_
      rotate_left
      ·((intro W hSw); (try dsimp only at hSw); go_simp; try (with_reducible rfl))
      simp only [List.getElem_toArray, List.getElem_cons_zero, List.getElem_cons_succ, Act.put, List.setIfInBounds_toArray, List.set_cons_zero, List.set_cons_succ]
      refine wpAnyM_take (i := 3) (v := ?_) rfl (by as_aux_lemma => kernel_rfl) (by as_aux_lemma => kernel_rfl) (by as_aux_lemma => kernel_rfl) (by as_aux_lemma => kernel_rfl) (fun _ _ _ h => h) (Or.inl ⟨by rfl, ?_⟩) (hHeld) ?_
      rotate_left
      ·((intro W hSw); (try dsimp only at hSw); go_simp; try (with_reducible rfl))
      simp only [List.getElem_toArray, List.getElem_cons_zero, List.getElem_cons_succ, Act.put, List.setIfInBounds_toArray, List.set_cons_zero, List.set_cons_succ]
      refine wpAnyM_take (i := 4) (v := ?_) rfl (by as_aux_lemma => kernel_rfl) (by as_aux_lemma => kernel_rfl) (by as_aux_lemma => kernel_rfl) (by as_aux_lemma => kernel_rfl) (fun _ _ _ h => h) (Or.inl ⟨by rfl, ?_⟩) (hHeld) ?_
      rotate_left
      ·((intro W hSw); (try dsimp only at hSw); go_simp; try (with_reducible rfl))
      simp only [List.getElem_toArray, List.getElem_cons_zero, List.getElem_cons_succ, Act.put, List.setIfInBounds_toArray, List.set_cons_zero, List.set_cons_succ]
      refine wpAnyM_take (i := 5) (v := ?_) rfl (by as_aux_lemma => kernel_rfl) (by as_aux_lemma => kernel_rfl) (by as_aux_lemma => kernel_rfl) (by as_aux_lemma => kernel_rfl) (fun _ _ _ h => h) (Or.inl ⟨by rfl, ?_⟩) (hHeld) ?_
      rotate_left
      ·((intro W hSw); (try dsimp only at hSw); go_simp; try (with_reducible rfl))
      simp only [List.getElem_toArray, List.getElem_cons_zero, List.getElem_cons_succ, Act.put, List.setIfInBounds_toArray, List.set_cons_zero, List.set_cons_succ]
      refine wpAnyM_take (i := 6) (v := ?_) rfl (by as_aux_lemma => kernel_rfl) (by as_aux_lemma => kernel_rfl) (by as_aux_lemma => kernel_rfl) (by as_aux_lemma => kernel_rfl) (fun _ _ _ h => h) (Or.inl ⟨by rfl, ?_⟩) (hHeld) ?_
      rotate_left
      ·((intro W hSw); (try dsimp only at hSw); go_simp; try (with_reducible rfl))
      simp only [List.getElem_toArray, List.getElem_cons_zero, List.getElem_cons_succ, Act.put, List.setIfInBounds_toArray, List.set_cons_zero, List.set_cons_succ]
      refine wpAnyM_one (i := 7) (by as_aux_lemma => kernel_rfl) rfl (fun K hK => ?_)
      go_simp
      refine hK.out _ _ (fun _ => hS12a) ?_
      clear hK K
      try simp only [List.getElem_toArray, List.getElem_cons_zero, List.getElem_cons_succ, Act.put, List.setIfInBounds_toArray, List.set_cons_zero, List.set_cons_succ]
      refine wpAnyM_one (i := 8) (by as_aux_lemma => kernel_rfl) rfl (fun K hK => ?_)
      refine step_app _ rfl (.tmp 65) (.tmp 67) _ rfl B 69 i0 _ 4 56 Tryz.underlying25 hi0 hz0 hz1 hz2 rfl (by decide) (.slice Ar nr cr) nr (Lr.flatMap txV) (by rfl) OWNR.out (some ⟨wa.heap.size, 0, none⟩) 1 1 (txV (⟨nm, tb, (nt : Nat), t.ks⟩, K2)) (by rfl) rfl (fun _ => ⟨_, rfl, news_four rfl⟩) (txV_one7 [_]) (by unfold maxLen; omega) (by omega) (by simp; omega) ?_
      intro v3 w3 own3 gr3 ob3
      obtain ⟨A3, c3', rfl, -, -⟩ := own_slc own3
      have B3 := (KA1.out.blk.off (Off.grown OWNR.out gr3) (by decide))
      have BX3 : Blk w3 wq.heap.size 69 #[str nm, .int .i64 tb, .int .i64 (nt : Nat), .slice K2.A K2.n K2.c] := (gr3.block wq.heap.size (Nat.lt_of_lt_of_le BXA.out.lt (by simp)) (fun e => by have := (HRlt.out _ e.symm); omega)).trans (BXA.out.below HBA1.out.drew)
      have S12_ := (⟨B3.cell 3, BX3.cell 0, BX3.cell 1, BX3.cell 2, BX3.cell 3⟩ : _ ∧ _ ∧ _ ∧ _ ∧ _)
      have f3 := B3.free 3
      clear B3 BX3
      refine hK.out _ _ (fun _ => S12_) ?_
      clear hK K
      try simp only [List.getElem_toArray, List.getElem_cons_zero, List.getElem_cons_succ, Act.put, List.setIfInBounds_toArray, List.set_cons_zero, List.set_cons_succ]
      refine wpAnyM_one (i := 9) (by as_aux_lemma => kernel_rfl) rfl (fun K hK => ?_)
      go_simp
      refine hK.out _ _ (fun _ => S12_) ?_
      clear hK K
      try simp only [List.getElem_toArray, List.getElem_cons_zero, List.getElem_cons_succ, Act.put, List.setIfInBounds_toArray, List.set_cons_zero, List.set_cons_succ]
      refine wpAnyM_one (i := 10) (by as_aux_lemma => kernel_rfl) rfl (fun K hK => ?_)
      go_simp
      refine hK.out _ _ (fun _ => S12_) ?_
      clear hK K
      try simp only [List.getElem_toArray, List.getElem_cons_zero, List.getElem_cons_succ, Act.put, List.setIfInBounds_toArray, List.set_cons_zero, List.set_cons_succ]
      refine wpAnyM_one (i := 11) (by as_aux_lemma => kernel_rfl) rfl (fun K hK => ?_)
      go_simp
      refine hK.out _ _ (fun _ => S12_) ?_
      clear hK K
      try simp only [List.getElem_toArray, List.getElem_cons_zero, List.getElem_cons_succ, Act.put, List.setIfInBounds_toArray, List.set_cons_zero, List.set_cons_succ]
      refine wpAnyM_one (i := 12) (by as_aux_lemma => kernel_rfl) rfl (fun K hK => ?_)
      go_simp
      refine hK.out _ _ (fun h => absurd rfl h) ?_
      clear hK K
      try simp only [List.getElem_toArray, List.getElem_cons_zero, List.getElem_cons_succ, Act.put, List.setIfInBounds_toArray, List.set_cons_zero, List.set_cons_succ]
      refine wpAnyM_done (by as_aux_lemma => kernel_rfl) (NoPanic.normal ?_) _

      have f7_ : True := trivial
      have HY : OwnT (wa.alloc (.cells #[str nm, .int .i64 tb, .int .i64 (nt : Nat), .slice K2.A K2.n K2.c] 69)).drew B (⟨nm, tb, (nt : Nat), t.ks⟩, K2) :=
       ⟨by have := TA.out.1; rw [show (t, K2).1.nm = nm from hnm'.out] at this; exact this, by have := TA.out.2.1; rw [show (t, K2).1.b = tb from HTB.out] at this; exact this, ⟨by show _ ≤ ((nt : Nat) : Int); omega, by show ((nt : Nat) : Int) ≤ _; omega⟩,
        own_off (own_below TA.out.2.2.2.1 HBA1.out) (Off.drew (R := 4294967295) _) (by decide), TA.out.2.2.2.2⟩
      have HP := KA1.out.push_r (L := Lr) (y := (⟨nm, tb, (nt : Nat), t.ks⟩, K2)) HLr.out OWNR.out (fun z hz => ((HWr.out z hz).off (R := 4294967295) (Off.alloc wa _) (by decide)).off (R := 4294967295) (Off.drew _) (by decide)) HY own3 gr3 ob3 HKA.out.ok
      have B5 : Hid (Below B w (w3.setCell ⟨g, 3, none⟩ (.slice A3 (nr + 1) c3'))) := ((BA.out.trans (HBA1.out.drew.mono hsza)).grown gr3 (Nat.le_trans hsza (by simp)) (fun j hj => (OWNR.out.lt j hj).1)).setCell (p := ⟨g, 3, none⟩) HKA.out.bg _
      have HN5 : Hid (Only w (w3.setCell ⟨g, 3, none⟩ (.slice A3 (nr + 1) c3'))) := ((((Only.below HLQ.out).trans (Only.below Hba.out)).trans (Only.below HBA1.out.drew)).off (Off.grown OWNR.out gr3) (by decide)).off (Off.set_ (KA1.out.blk.off (Off.grown OWNR.out gr3) (by decide)) 3 _) (by decide)
      have hsz5 : B ≤ (w3.setCell ⟨g, 3, none⟩ (.slice A3 (nr + 1) c3')).heap.size := Nat.le_trans (Nat.le_trans hsza (Nat.le_trans (by simp) gr3.size)) (by simp [World.setCell])
      generalize hw5 : w3.setCell ⟨g, 3, none⟩ (.slice A3 (nr + 1) c3') = w5 at HP B5 HN5 hsz5 ⊢
      obtain ⟨P1, P2, P3, P4, P5, P6, P7⟩ := HP
      obtain ⟨Lo, hLo, HOO, hWo⟩ := P6
      replace HOO : w5.ownsRow B 69 4 (.slice (some ⟨go_, oo, none⟩) no co) no (Lo.flatMap txV) := HOO
      have hLol : Lo.length = no := by have := HOO.1; rw [flat_len4] at this; omega
      have hno40 : no ≤ 40 := by omega
      have hnc5 : no ≤ co := (own_fit HOO).1
      have OWNO0 := own_cut HOO (k := i) (by omega)
      rw [flat_take4] at OWNO0
      have HLN : Hid (((Lo.drop (i + 1)).flatMap txV).length = (no - (i + 1)) * 4) := by show _ = _; rw [flat_len4, List.length_drop, hLol]
      have SRC : Hid (Src w5.drew (cutAt (some ⟨go_, oo, none⟩) (i + 1) co 4) ((Lo.drop (i + 1)).flatMap txV)) := own_tail (own_off HOO (Off.drew (R := 4294967295) _) (by decide)) (by omega)
      have OWNO : Hid (w5.drew.ownsRow B 69 4 (.slice (some ⟨go_, oo, none⟩) i co) i ((Lo.take i).flatMap txV)) := own_off OWNO0 (Off.drew (R := 4294967295) _) (by decide)
      replace HOO := Lib.hid (own_off HOO (Off.drew (R := 4294967295) w5) (by decide))
      have hS13 : w5.drew.cell? ⟨g, 7, none⟩ = some (.slice (some ⟨go_, oo, none⟩) no co) := P1.cell 7
      have hs1 := fun W => slice_to (P := Tryz.prog) 25 69 i0 Tryz.underlying25 hi0 (some ⟨go_, oo, none⟩) no co i (by omega) W
      have hs2 := fun W => slice_from (P := Tryz.prog) 25 69 i0 4 Tryz.underlying25 hi0 hz1 (some ⟨go_, oo, none⟩) no co (i + 1) (by omega) W
      have ew : IntKind.i64.wrap ((i : Int) + 1) = (i : Int) + 1 := IntWalk.i64_in _ (by omega)
      have ec : ((i + 1 : Nat) : Int) = (i : Int) + 1 := by omega
      rw [ec] at hs2
      clear ec OWNO0
      have HLo := Lib.hid hLo
      have HWo := Lib.hid hWo
      replace P1 : Hid (Blk w5.drew g _ _) := P1
      have HP7 := Lib.hid P7
      clear hLo hWo hLol P7 hnm' HTE S12_ f3 hS12 hS12a hHeld gr3 own3 ob3 hw5 HY
      go_wp2
      refine wp_region_m (fun W => W.cell? ⟨g, 7, none⟩ = some (.slice (some ⟨go_, oo, none⟩) no co)) 17 (by as_aux_lemma => kernel_rfl) (hS13) (fun hHeld => ?_)
      refine wpAnyM_take (i := 0) (v := ?_) rfl (by as_aux_lemma => kernel_rfl) (by as_aux_lemma => kernel_rfl) (by as_aux_lemma => kernel_rfl) (by as_aux_lemma => kernel_rfl) (fun _ _ _ h => h) (Or.inl ⟨by rfl, ?_⟩) (hHeld) ?_
      rotate_left
      ·((intro W hSw); (try dsimp only at hSw); go_simp; try (with_reducible rfl))
      simp only [List.getElem_toArray, List.getElem_cons_zero, List.getElem_cons_succ, Act.put, List.setIfInBounds_toArray, List.set_cons_zero, List.set_cons_succ]
      refine wpAnyM_take (i := 1) (v := ?_) rfl (by as_aux_lemma => kernel_rfl) (by as_aux_lemma => kernel_rfl) (by as_aux_lemma => kernel_rfl) (by as_aux_lemma => kernel_rfl) (fun _ _ _ h => h) (Or.inl ⟨by rfl, ?_⟩) (hHeld) ?_
      rotate_left
      ·((intro W hSw); (try dsimp only at hSw); go_simp; try (with_reducible rfl))
      simp only [List.getElem_toArray, List.getElem_cons_zero, List.getElem_cons_succ, Act.put, List.setIfInBounds_toArray, List.set_cons_zero, List.set_cons_succ]
      refine wpAnyM_take (i := 2) (v := ?_) rfl (by as_aux_lemma => kernel_rfl) (by as_aux_lemma => kernel_rfl) (by as_aux_lemma => kernel_rfl) (by as_aux_lemma => kernel_rfl) (fun _ _ _ h => h) (Or.inl ⟨by rfl, ?_⟩) (hHeld) ?_
      rotate_left
      ·((intro W hSw); (try dsimp only at hSw); go_simp; try (with_reducible rfl))
      simp only [List.getElem_toArray, List.getElem_cons_zero, List.getElem_cons_succ, Act.put, List.setIfInBounds_toArray, List.set_cons_zero, List.set_cons_succ]
      refine wpAnyM_take (i := 3) (v := ?_) rfl (by as_aux_lemma => kernel_rfl) (by as_aux_lemma => kernel_rfl) (by as_aux_lemma => kernel_rfl) (by as_aux_lemma => kernel_rfl) (fun _ _ _ h => h) (Or.inl ⟨by rfl, ?_⟩) (hHeld) ?_
      rotate_left
      ·((intro W hSw); (try dsimp only at hSw); go_simp; try (with_reducible rfl))
      simp only [List.getElem_toArray, List.getElem_cons_zero, List.getElem_cons_succ, Act.put, List.setIfInBounds_toArray, List.set_cons_zero, List.set_cons_succ]
      refine wpAnyM_take (i := 4) (v := ?_) rfl (by as_aux_lemma => kernel_rfl) (by as_aux_lemma => kernel_rfl) (by as_aux_lemma => kernel_rfl) (by as_aux_lemma => kernel_rfl) (fun _ _ _ h => h) (Or.inl ⟨by rfl, ?_⟩) (hHeld) ?_
      rotate_left
      ·((intro W hSw); (try dsimp only at hSw); go_simp; try (with_reducible rfl))
      simp only [List.getElem_toArray, List.getElem_cons_zero, List.getElem_cons_succ, Act.put, List.setIfInBounds_toArray, List.set_cons_zero, List.set_cons_succ]
      refine wpAnyM_take (i := 5) (v := ?_) rfl (by as_aux_lemma => kernel_rfl) (by as_aux_lemma => kernel_rfl) (by as_aux_lemma => kernel_rfl) (by as_aux_lemma => kernel_rfl) (fun _ _ _ h => h) (Or.inl ⟨by rfl, ?_⟩) (hHeld) ?_
      rotate_left
      ·((intro W hSw); (try dsimp only at hSw); go_simp; try (with_reducible rfl))
      simp only [List.getElem_toArray, List.getElem_cons_zero, List.getElem_cons_succ, Act.put, List.setIfInBounds_toArray, List.set_cons_zero, List.set_cons_succ]
      refine wpAnyM_take (i := 6) (v := ?_) rfl (by as_aux_lemma => kernel_rfl) (by as_aux_lemma => kernel_rfl) (by as_aux_lemma => kernel_rfl) (by as_aux_lemma => kernel_rfl) (fun _ _ _ h => h) (Or.inl ⟨by rfl, ?_⟩) (hHeld) ?_
      rotate_left
      ·((intro W hSw); (try dsimp only at hSw); go_simp; try (with_reducible rfl))
      simp only [List.getElem_toArray, List.getElem_cons_zero, List.getElem_cons_succ, Act.put, List.setIfInBounds_toArray, List.set_cons_zero, List.set_cons_succ]
      refine wpAnyM_take (i := 7) (v := ?_) rfl (by as_aux_lemma => kernel_rfl) (by as_aux_lemma => kernel_rfl) (by as_aux_lemma => kernel_rfl) (by as_aux_lemma => kernel_rfl) (fun _ _ _ h => h) (Or.inl ⟨by rfl, ?_⟩) (hHeld) ?_
      rotate_left
      ·((intro W hSw); (try dsimp only at hSw); go_simp; try (with_reducible rfl))
      simp only [List.getElem_toArray, List.getElem_cons_zero, List.getElem_cons_succ, Act.put, List.setIfInBounds_toArray, List.set_cons_zero, List.set_cons_succ]
      refine wpAnyM_take (i := 8) (v := ?_) rfl (by as_aux_lemma => kernel_rfl) (by as_aux_lemma => kernel_rfl) (by as_aux_lemma => kernel_rfl) (by as_aux_lemma => kernel_rfl) (fun _ _ _ h => h) (Or.inl ⟨by rfl, ?_⟩) (hHeld) ?_
      rotate_left
      ·((intro W hSw); (try dsimp only at hSw); go_simp; try (with_reducible rfl))
      simp only [List.getElem_toArray, List.getElem_cons_zero, List.getElem_cons_succ, Act.put, List.setIfInBounds_toArray, List.set_cons_zero, List.set_cons_succ]
      refine wpAnyM_take (i := 9) (v := ?_) rfl (by as_aux_lemma => kernel_rfl) (by as_aux_lemma => kernel_rfl) (by as_aux_lemma => kernel_rfl) (by as_aux_lemma => kernel_rfl) (fun _ _ _ h => h) (Or.inl ⟨by rfl, ?_⟩) (hHeld) ?_
      rotate_left
      ·((intro W hSw); (try dsimp only at hSw); go_simp; try (with_reducible rfl))
      simp only [List.getElem_toArray, List.getElem_cons_zero, List.getElem_cons_succ, Act.put, List.setIfInBounds_toArray, List.set_cons_zero, List.set_cons_succ]
      refine wpAnyM_take (i := 10) (v := ?_) rfl (by as_aux_lemma => kernel_rfl) (by as_aux_lemma => kernel_rfl) (by as_aux_lemma => kernel_rfl) (by as_aux_lemma => kernel_rfl) (fun _ _ _ h => h) (Or.inl ⟨by rfl, ?_⟩) (hHeld) ?_
      rotate_left
      ·((intro W hSw); (try dsimp only at hSw); go_simp; try (with_reducible rfl))
      simp only [List.getElem_toArray, List.getElem_cons_zero, List.getElem_cons_succ, Act.put, List.setIfInBounds_toArray, List.set_cons_zero, List.set_cons_succ]
      refine wpAnyM_take (i := 11) (v := ?_) rfl (by as_aux_lemma => kernel_rfl) (by as_aux_lemma => kernel_rfl) (by as_aux_lemma => kernel_rfl) (by as_aux_lemma => kernel_rfl) (fun _ _ _ h => h) (Or.inl ⟨by rfl, ?_⟩) (hHeld) ?_
      rotate_left
      ·((intro W hSw); (try dsimp only at hSw); go_simp; try (with_reducible rfl))
      simp only [List.getElem_toArray, List.getElem_cons_zero, List.getElem_cons_succ, Act.put, List.setIfInBounds_toArray, List.set_cons_zero, List.set_cons_succ]
      refine wpAnyM_take (i := 12) (v := ?_) rfl (by as_aux_lemma => kernel_rfl) (by as_aux_lemma => kernel_rfl) (by as_aux_lemma => kernel_rfl) (by as_aux_lemma => kernel_rfl) (fun _ _ _ h => h) (Or.inl ⟨by rfl, ?_⟩) (hHeld) ?_
      rotate_left
      ·((intro W hSw); (try dsimp only at hSw); go_simp; try (with_reducible rfl))
      simp only [List.getElem_toArray, List.getElem_cons_zero, List.getElem_cons_succ, Act.put, List.setIfInBounds_toArray, List.set_cons_zero, List.set_cons_succ]
      refine wpAnyM_take (i := 13) (v := ?_) rfl (by as_aux_lemma => kernel_rfl) (by as_aux_lemma => kernel_rfl) (by as_aux_lemma => kernel_rfl) (by as_aux_lemma => kernel_rfl) (fun _ _ _ h => h) (Or.inl ⟨by rfl, ?_⟩) (hHeld) ?_
      rotate_left
      ·((intro W hSw); (try dsimp only at hSw); go_simp; try (with_reducible rfl))
      simp only [List.getElem_toArray, List.getElem_cons_zero, List.getElem_cons_succ, Act.put, List.setIfInBounds_toArray, List.set_cons_zero, List.set_cons_succ]
      refine wpAnyM_one (i := 14) (by as_aux_lemma => kernel_rfl) rfl (fun K hK => ?_)
      refine step_app _ rfl (.tmp 78) (.tmp 85) _ rfl B 69 i0 _ 4 56 Tryz.underlying25 hi0 hz0 hz1 hz2 rfl (by decide) (.slice (some ⟨go_, oo, none⟩) i co) i ((Lo.take i).flatMap txV) (by rfl) OWNO.out (cutAt (some ⟨go_, oo, none⟩) (i + 1) co 4) (no - (i + 1)) (co - (i + 1)) ((Lo.drop (i + 1)).flatMap txV) (by rfl) HLN.out SRC.out (txV_one7 _) (by unfold maxLen; omega) (by omega) hsz5 ?_
      intro v6 w6 own6 gr6 ob6
      obtain ⟨A6, c6', rfl, -, -⟩ := own_slc own6
      have B6 := (P1.out.off (Off.grown HOO.out gr6) (by decide))
      have S13_ : _ = some (Value.slice (some ⟨go_, oo, none⟩) no co) := B6.cell 7
      have f7 := B6.free 7
      clear B6
      refine hK.out _ _ (fun _ => S13_) ?_
      clear hK K
      try simp only [List.getElem_toArray, List.getElem_cons_zero, List.getElem_cons_succ, Act.put, List.setIfInBounds_toArray, List.set_cons_zero, List.set_cons_succ]
      refine wpAnyM_one (i := 15) (by as_aux_lemma => kernel_rfl) rfl (fun K hK => ?_)
      go_simp
      refine hK.out _ _ (fun _ => S13_) ?_
      clear hK K
      try simp only [List.getElem_toArray, List.getElem_cons_zero, List.getElem_cons_succ, Act.put, List.setIfInBounds_toArray, List.set_cons_zero, List.set_cons_succ]
      refine wpAnyM_one (i := 16) (by as_aux_lemma => kernel_rfl) rfl (fun K hK => ?_)
      go_simp
      refine hK.out _ _ (fun _ => S13_) ?_
      clear hK K
      try simp only [List.getElem_toArray, List.getElem_cons_zero, List.getElem_cons_succ, Act.put, List.setIfInBounds_toArray, List.set_cons_zero, List.set_cons_succ]
      refine wpAnyM_one (i := 17) (by as_aux_lemma => kernel_rfl) rfl (fun K hK => ?_)
      go_simp
      refine hK.out _ _ (fun h => absurd rfl h) ?_
      clear hK K
      try simp only [List.getElem_toArray, List.getElem_cons_zero, List.getElem_cons_succ, Act.put, List.setIfInBounds_toArray, List.set_cons_zero, List.set_cons_succ]
      refine wpAnyM_done (by as_aux_lemma => kernel_rfl) (NoPanic.normal ?_) _

      have HB6 : Hid (Below B w (w6.setCell ⟨g, 7, none⟩ (.slice A6 (i + (no - (i + 1))) c6'))) := (B5.out.drew.grown gr6 hsz5 (fun j hj => (OWNO.out.lt j hj).1)).setCell (p := ⟨g, 7, none⟩) HKA.out.bg _
      have HN6 : Hid (Only w (w6.setCell ⟨g, 7, none⟩ (.slice A6 (i + (no - (i + 1))) c6'))) := ((HN5.out.off (R := 4294967295) (Off.drew w5) (by decide)).off (Off.grown OWNO.out gr6) (by decide)).off (Off.set_ (P1.out.off (Off.grown HOO.out gr6) (by decide)) 7 _) (by decide)
      have HOK : Hid (RdOk ⟨toks, texts, regs ++ [{ t with e := (nt : Nat) }], opn.eraseIdx i, true⟩) := by
       have q := HKA.out.ok
       have qr := q.r
       have hil : i < opn.length := hk
       dsimp only at qr
       refine ⟨q.t, q.x, ?_, ?_, fun y hy => ?_, q.tx⟩
       ·show (regs ++ [_]).length + (opn.eraseIdx i).length ≤ 1024
        rw [List.length_append, List.length_eraseIdx, if_pos hil, List.length_singleton]; omega
       ·show (opn.eraseIdx i).length ≤ 40
        rw [List.length_eraseIdx, if_pos hil]; omega
       ·rcases hy with hy | hy
        ·rcases List.mem_append.1 hy with hy | hy
         ·exact q.ks y (.inl hy)
         ·simp at hy; subst hy; exact q.ks t (.inr (List.mem_of_getElem? hget))
        ·exact q.ks y (.inr (List.mem_of_mem_eraseIdx hy))
      have HTR : Hid ((⟨nm, tb, (nt : Nat), t.ks⟩ : Cor.Reg) = { t with e := (nt : Nat) }) := by
       show _ = _
       rw [← HTB.out, ← hnm]
      go_wp2
      go_ret
      rw [HF.out]
      refine ⟨HB6.out, HN6.out, rfl, _, own_erase (wc := w5.drew) (x := ⟨toks, texts, regs ++ [⟨nm, tb, (nt : Nat), t.ks⟩], opn, true⟩) (i := i) P1.out HKA.out.bg (P2.off (R := 4294967295) (Off.drew _) (by decide)) (P3.off (R := 4294967295) (Off.drew _) (by decide) (by decide)) (P4.off (R := 4294967295) (Off.drew _) (by decide) (by decide)) (P5.off (R := 4294967295) (Off.drew _) (by decide) (by decide)) HLo.out HOO.out (fun z hz => (HWo.out z hz).off (R := 4294967295) (Off.drew _) (by decide)) HP7.out own6 gr6 ob6 rfl rfl ?_ rfl rfl HOK.out⟩
      show regs ++ [_] = regs ++ [_]
      rw [HTR.out]
      -- tail>
    ·have hq : (t.nm == nm) = false := by rw [beq_eq_false_iff_ne]; exact hnm
     have hw1 : IntKind.i64.wrap ((i : Int) - 1) = (i : Int) - 1 := IntWalk.i64_in _ (by omega)
     go_wp2
     go_quiet (fail)
     go_wp2
     go_roundw
     case rel =>
      refine ⟨i, rfl, by omega, ?_, below_drewN hb _, hT1⟩
      show ∀ j (_ : i ≤ j) (hj : j < opn.length), opn[j].nm ≠ nm
      intro j h1 hj
      by_cases e : j = i
      ·subst e; rw [ht2]; exact hnm
      ·exact hne.out j (by omega) hj
     case measure => simp [intOf]
end Go.Proofs.YtgkdaebiefhgdaaGreatDoor
