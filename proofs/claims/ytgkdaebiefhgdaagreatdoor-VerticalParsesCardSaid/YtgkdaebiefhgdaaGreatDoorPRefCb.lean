/-
  Several texts of this seat, one behind the other: PRefClose, PRefBeg. No conditions but those of each.
-/
import Derived.Test.YtgkdaebiefhgdaaGreatDoorPRefEnd
import Derived.Test.YtgkdaebiefhgdaaGreatDoorPCorHold
import Derived.Test.YtgkdaebiefhgdaaGreatDoorPVertBgn
import Derived.Deep.CutBlock
import Derived.Deep.CutRange
/-! ## PRefClose -/
namespace Go.Proofs.YtgkdaebiefhgdaaGreatDoor
set_option linter.unusedSimpArgs false
set_option linter.unusedVariables false
open Go.RowKit
open Feat (Bs)
open Tagp (KV)
open Rf (lastI named)
attribute [local go_sem] byte_mk ByteArray.extract_mk
theorem lastI_none {p : Nat → Bool} {l : List Nat} {j : Nat} (hj : j < l.length) (h : lastI p (l.drop (j + 1)) = none) (hp : p l[j] = false) : lastI p (l.drop j) = none := by
 rw [List.drop_eq_getElem_cons hj]
 unfold lastI
 rw [h]
 dsimp only
 rw [if_neg (by rw [hp]; simp)]
theorem lastI_some {p : Nat → Bool} {l : List Nat} {j : Nat} (hj : j < l.length) (h : lastI p (l.drop (j + 1)) = none) (hp : p l[j] = true) : lastI p (l.drop j) = some 0 := by
 rw [List.drop_eq_getElem_cons hj]
 unfold lastI
 rw [h]
 dsimp only
 rw [if_pos hp]
theorem lastI_drop {p : Nat → Bool} : ∀ {l : List Nat} {j k : Nat}, lastI p (l.drop j) = some k → lastI p l = some (j + k)
 | l, 0, k, h => by rw [List.drop_zero] at h; rw [h]; simp
 | [], j + 1, k, h => by simp [lastI] at h
 | i :: l, j + 1, k, h => by
  rw [List.drop_succ_cons] at h
  have ih := lastI_drop h
  unfold lastI
  rw [ih]
  show some (j + k + 1) = some (j + 1 + k)
  congr 1; omega
section
variable {w : World} {B g : Nat} {h : RfH} {d : Bs} {ats : List At} {y : Rf}
theorem OwnF.end_r {gr nr cr i m : Nat} (k : OwnF w B g h d ats y) (hx : h.r = ⟨some ⟨gr, 0, none⟩, nr, cr⟩) (hi : i < y.regs.length) (hm : m ≤ 4096) :
  OwnF (w.setCell ⟨gr, i * 4 + 2, none⟩ (.int .i64 (m : Nat))) B g h d ats { y with regs := y.regs.set i { y.regs[i] with e := (m : Nat) } } ∧ Off 69 w (w.setCell ⟨gr, i * 4 + 2, none⟩ (.int .i64 (m : Nat))) ∧ B ≤ gr := by
 obtain ⟨ha, htk, hxx, hr, ho⟩ := h
 cases hx
 obtain ⟨⟨cs, hb⟩, hg, hX⟩ := OX.end_ (A := none) (i := i) k.r (by decide) hi hm
 have f1 := Off.set_ hb (i * 4 + 2) (.int .i64 (m : Nat))
 exact ⟨⟨k.blk.off f1 (by decide), k.bg, k.a.off f1 (by decide), k.t.off f1 (by decide) (by decide), k.x.off f1 (by decide) (by decide), hX, k.o.off f1 (by decide), ⟨k.ok.t, k.ok.x, by
  show (y.regs.set i _).length ≤ 1024
  rw [List.length_set]; exact k.ok.r, k.ok.o, fun z hz => by
   rcases List.mem_or_eq_of_mem_set hz with hz | hz
   ·exact k.ok.ks z hz
   ·subst hz; exact (show y.regs[i].ks.length ≤ 1048576 from k.ok.ks y.regs[i] (List.getElem_mem hi))⟩⟩, f1, hg⟩
theorem OwnF.put_o {w1 : World} (k : OwnF w B g h d ats y) (f : Off 3 w w1) {A' : Option Addr} {n' c' : Nat} {l : List Nat} (ko : OpenF w1 B ⟨A', n', c'⟩ l) (hok : RfOk { y with opn := l }) :
  OwnF (w1.setCell ⟨g, 8, none⟩ (.slice A' n' c')) B g { h with o := ⟨A', n', c'⟩ } d ats { y with opn := l } := by
 have b1 := k.blk.off f (by decide)
 have f2 := Off.set_ b1 8 (.slice A' n' c')
 exact ⟨b1.set_ 8 _, k.bg, (k.a.off f (by decide)).off f2 (by decide), (k.t.off f (by decide) (by decide)).off f2 (by decide) (by decide), (k.x.off f (by decide) (by decide)).off f2 (by decide) (by decide), (k.r.off f (by decide) (by decide)).off f2 (by decide) (by decide), ko.off f2 (by decide), hok⟩
end
set_option maxRecDepth 100000 in
set_option maxHeartbeats 8000000 in
theorem rclose_any (B g : Nat) (h : RfH) (d : Bs) (ats : List At) (y : Rf) (nm : Bs) (a : Nat) (w : World) (k : OwnF w B g h d ats y) (hoi : ∀ i ∈ y.opn, i < y.regs.length) :
  Calls Tryz.prog 70 #[.pointer (some ⟨g, 0, none⟩), str nm, .int .i64 (a : Nat)] w (StepF B g d ats w (y.fClose nm a)) := by
 have hBg := k.Bg
 obtain ⟨⟨Aa, na, ca⟩, ⟨At', nt, ct⟩, ⟨Ax, nx, cx⟩, ⟨Ar, nr, cr⟩, ⟨Ao, no, co⟩⟩ := h
 have ho : y.opn.length = no := k.o.len
 have hr : y.regs.length = nr := k.r.len
 have ht : y.toks.length = nt := k.t.reads.len
 have ko := k.ok.o
 have kr := k.ok.r
 have kt := k.ok.t
 have hw0 : IntKind.i64.wrap ((no : Int) - 1) = (no : Int) - 1 := IntWalk.i64_in _ (by omega)
 have c8 : w.cell? ⟨g, 8, none⟩ = some (Value.slice Ao no co) := k.blk.cell 8
 have HK := Lib.hid k
 have HOI := Lib.hid hoi
 clear k hoi
 go_enter Tryz.func70, Tryz.ntmps70
 go_wp2
 clear c8
 go_loopw [6] (fun iv wr => ∃ j : Nat, iv = .int .i64 ((j : Int) - 1) ∧ j ≤ no ∧ Hid (OwnF wr B g ⟨⟨Aa, na, ca⟩, ⟨At', nt, ct⟩, ⟨Ax, nx, cx⟩, ⟨Ar, nr, cr⟩, ⟨Ao, no, co⟩⟩ d ats y) ∧ Hid (Below B w wr) ∧ Hid (lastI (named nm y.regs) (y.opn.drop j) = none)) (fun iv _ => (intOf iv + 1).toNat)
 case atStart => exact ⟨no, rfl, Nat.le_refl _, HK, Below.refl _ _, by show _ = _; rw [List.drop_eq_nil_of_le (by omega)]; rfl⟩
 case round =>
  obtain ⟨j, rfl, hj, HK1, HB1, HL1⟩ := hrel
  clear HK
  rcases Nat.eq_zero_or_pos j with h0 | h0
  ·subst h0
   have e0 : ((0 : Nat) : Int) - 1 = -1 := rfl
   rw [e0]
   have HF : Hid (y.fClose nm a = y.fail a 11) := by
    show _ = _
    have := HL1.out
    rw [List.drop_zero] at this
    unfold Rf.fClose
    rw [this]
   have HC := Lib.hid (rfail_any a 11 wr HK1.out.blk)
   go_wp2_with fail
   refine HC.out.mono ?_
   rintro en w2 ⟨rfl, rfl⟩
   go_wp2
   go_end0
   rw [HF.out]
   exact ⟨rfl, failW_below HB1.out HK1.out.bg _ _ _, _, HK1.out.fail a 11⟩
  ·obtain ⟨j, rfl⟩ : ∃ q, j = q + 1 := ⟨j - 1, by omega⟩
   have e0 : ((j + 1 : Nat) : Int) - 1 = (j : Int) := by omega
   rw [e0]
   have hj2 : j < y.opn.length := by omega
   obtain ⟨i, hi⟩ : ∃ i, y.opn[j] = i := ⟨_, rfl⟩
   have hir : i < y.regs.length := by rw [← hi]; exact HOI.out _ (List.getElem_mem hj2)
   obtain ⟨go, e1, o1⟩ := HK1.out.o.cell hj2
   dsimp only at e1
   subst e1
   rw [hi] at o1
   obtain ⟨gr, e2, hgB, hgw, -⟩ := HK1.out.r.block (by omega)
   subst e2
   have c4 : wr.cell? ⟨g, 4, none⟩ = some (Value.slice (some ⟨gr, 0, none⟩) nr cr) := HK1.out.blk.cell 4
   have c8 : wr.cell? ⟨g, 8, none⟩ = some (Value.slice (some ⟨go, 0, none⟩) no co) := HK1.out.blk.cell 8
   obtain ⟨r, hrr⟩ : ∃ r, y.regs[i] = r := ⟨_, rfl⟩
   have hj0 : (0 : Int) ≤ (j : Int) := by omega
   have hj1 : (j : Int) < (no : Int) := by omega
   have hi0 : (0 : Int) ≤ (i : Int) := by omega
   have hi1 : (i : Int) < (nr : Int) := by omega
   have hwj : IntKind.i64.wrap ((j : Int) - 1) = (j : Int) - 1 := IntWalk.i64_in _ (by omega)
   have HI := Lib.hid hi
   have HRR := Lib.hid hrr
   have hnm : named nm y.regs i = decide (r.nm = nm) := by unfold named; rw [List.getElem?_eq_getElem hir, hrr]; rfl
   have HNM := Lib.hid hnm
   clear hi hrr hnm
   go_wp2
   go_quiet (fail)
   generalize hwq : World.drewN _ _ = wq
   have HKQ : Hid (OwnF wq B g ⟨⟨Aa, na, ca⟩, ⟨At', nt, ct⟩, ⟨Ax, nx, cx⟩, ⟨some ⟨gr, 0, none⟩, nr, cr⟩, ⟨some ⟨go, 0, none⟩, no, co⟩⟩ d ats y) := by rw [← hwq]; exact HK1.out.drewN _
   have HBQ : Hid (Below B w wq) := by rw [← hwq]; exact below_drewN HB1.out _
   clear hwq c4 c8 o1 HK1 HB1
   obtain ⟨g3, o3, H3, hk3, hA3, -, hok3, r0, r1, r2, r3⟩ := HKQ.out.r.reads.at_ (k := i) (by show i < nr; omega)
   cases hA3
   simp only [Nat.zero_add, HRR.out] at r0 r1 r2
   clear r3 hok3
   by_cases hn : r.nm = nm
   ·have he : (r.nm == nm) = true := by rw [beq_iff_eq]; exact hn
    have HF : Hid (y.fClose nm a = { (if r.b = (nt : Int) then Rf.fail { y with regs := y.regs.set i { r with e := (nt : Int) } } a 8 else { y with regs := y.regs.set i { r with e := (nt : Int) } }) with opn := y.opn.eraseIdx j }) := by
     show _ = _
     have h1 := lastI_some hj2 HL1.out (by rw [HI.out, HNM.out]; exact decide_eq_true hn)
     have h2 := lastI_drop h1
     rw [Nat.add_zero] at h2
     unfold Rf.fClose
     rw [h2]
     dsimp only
     rw [List.getElem?_eq_getElem hj2]
     dsimp only
     rw [HI.out, List.getElem?_eq_getElem hir, HRR.out]
     dsimp only
     rw [ht]
    have c2 : wq.cell? ⟨g, 2, none⟩ = some (Value.slice At' nt ct) := HKQ.out.blk.cell 2
    have fx : wq.frozen? ⟨gr, i * 4 + 2, none⟩ = false := by
     obtain ⟨gx', hgx', -, -, cs, hbx⟩ := HKQ.out.r.block (show 0 < nr by omega)
     cases hgx'
     exact hbx.free _
    obtain ⟨K1, f1, hgB2⟩ := HKQ.out.end_r rfl hir (m := nt) (by omega)
    rw [HRR.out] at K1
    have HK2 := Lib.hid K1
    have HB2 := Lib.hid (HBQ.out.setCell (p := ⟨gr, i * 4 + 2, none⟩) hgB2 (.int .i64 (nt : Nat)))
    have HJ2 := Lib.hid hj2
    clear hn K1 f1
    go_upto_region 6 with (fail)
    clear c2 fx r0 r1 r2
    generalize wq.setCell ⟨gr, i * 4 + 2, none⟩ (.int .i64 (nt : Nat)) = w2 at HK2 HB2 ⊢
    clear HKQ HBQ
    obtain ⟨p1, p2⟩ : w2.cell? ⟨gr, i * 4 + 1, none⟩ = some (.int .i64 r.b) ∧ w2.cell? ⟨gr, i * 4 + 2, none⟩ = some (.int .i64 (nt : Nat)) := by
     obtain ⟨g4, o4, H4, hk4, hA4, -, -, -, p1, p2, -⟩ := HK2.out.r.reads.at_ (k := i) (by show i < nr; omega)
     cases hA4
     simp only [Nat.zero_add, List.getElem_set_self] at p1 p2
     exact ⟨p1, p2⟩
    obtain ⟨y2, hy2⟩ : ∃ y2 : Rf, { y with regs := y.regs.set i { r with e := (nt : Int) } } = y2 := ⟨_, rfl⟩
    rw [hy2] at HF
    have HK2 : Hid (OwnF w2 B g ⟨⟨Aa, na, ca⟩, ⟨At', nt, ct⟩, ⟨Ax, nx, cx⟩, ⟨some ⟨gr, 0, none⟩, nr, cr⟩, ⟨some ⟨go, 0, none⟩, no, co⟩⟩ d ats y2) := by show OwnF _ _ _ _ _ _ _; rw [← hy2]; exact HK2.out
    have HOP : Hid (y2.opn = y.opn) := by show _ = _; rw [← hy2]
    clear hy2
    by_cases hb : r.b = (nt : Int)
    ·rw [if_pos hb] at HF
     rw [hb] at p1
     have he2 : ((nt : Int) == (nt : Int)) = true := by simp
     clear hb
     go_wp2
     go_quiet (fail)
     generalize hwq3 : World.drewN _ _ = w3
     have HK3 : Hid (OwnF w3 B g ⟨⟨Aa, na, ca⟩, ⟨At', nt, ct⟩, ⟨Ax, nx, cx⟩, ⟨some ⟨gr, 0, none⟩, nr, cr⟩, ⟨some ⟨go, 0, none⟩, no, co⟩⟩ d ats y2) := by rw [← hwq3]; exact HK2.out.drewN _
     have HB3 : Hid (Below B w w3) := by rw [← hwq3]; exact below_drewN HB2.out _
     clear hwq3 p1 p2 HK2 HB2
     have HC3 := Lib.hid (rfail_any a 8 w3 HK3.out.blk)
     go_wp2_with fail
     refine HC3.out.mono ?_
     rintro en w4 ⟨rfl, rfl⟩
     have HK4 := Lib.hid (HK3.out.fail a 8)
     have HB4 := Lib.hid (failW_below HB3.out HK3.out.bg y2 a 8)
     have HO4 : Hid ((y2.fail a 8).opn = y.opn) := (fail_same y2 a 8).2.2.2.1.trans HOP.out
     generalize failW w3 g y2 a 8 = w4 at HK4 HB4 ⊢
     generalize y2.fail a 8 = y4 at HK4 HO4 HF
     clear HK3 HB3 HC3
     go_upto_region 8 with (fail)
     obtain ⟨i0, hi0, hz0, hz1, hz2⟩ := info_parts info_intF
     have hcap : no ≤ co := HK4.out.o.cap
     have hSU : ∀ W, (Instr.slice 27 (.slice (some ⟨go, 0, none⟩) no co) none (some (.int .i64 (j : Nat))) (some (.int .i64 (j : Nat)))).run Tryz.prog W = .ok (.slice (some ⟨go, 0, none⟩) j j) W := fun W => slice_upto 27 3 i0 Tryz.underlying27 hi0 _ no co j (by omega) W
     have hSF : ∀ W, (Instr.slice 27 (.slice (some ⟨go, 0, none⟩) no co) (some (.int .i64 ((j + 1 : Nat) : Int))) none none).run Tryz.prog W = .ok (.slice (cutAt (some ⟨go, 0, none⟩) (j + 1) co 1) (no - (j + 1)) (co - (j + 1))) W := fun W => slice_from 27 3 i0 1 Tryz.underlying27 hi0 hz1 _ no co (j + 1) (by omega) W
     have hwj1 : IntKind.i64.wrap ((j : Int) + 1) = (j : Int) + 1 := IntWalk.i64_in _ (by omega)
     have ec : ((j + 1 : Nat) : Int) = (j : Int) + 1 := by omega
     rw [ec] at hSF
     clear ec
     have hS := HK4.out.drew.blk.cell 8
     have HK5 := Lib.hid HK4.out.drew
     have HB5 := Lib.hid HB4.out.drew
     have HSS : Hid (w4.drew.cell? ⟨g, 8, none⟩ = some (Value.slice (some ⟨go, 0, none⟩) no co)) := hS
     clear hS
     refine wp_region_m (fun W => W.cell? ⟨g, 8, none⟩ = some (Value.slice (some ⟨go, 0, none⟩) no co)) 18 (by as_aux_lemma => kernel_rfl) (HSS.out) (fun hHeld => ?_)
     generalize w4.drew = w5 at HK5 HB5 hHeld ⊢
     refine wpAnyM_take (i := 0) (v := ?_) rfl (by as_aux_lemma => kernel_rfl) (by as_aux_lemma => kernel_rfl) (by as_aux_lemma => kernel_rfl) (by as_aux_lemma => kernel_rfl) (fun _ _ _ h => h) (Or.inl ⟨by rfl, ?_⟩) (hHeld) ?_
     rotate_left
     ·((intro W hSw); (try dsimp only at hSw); go_simp; try (with_reducible rfl))
     simp only [List.getElem_toArray, List.getElem_cons_zero, List.getElem_cons_succ, Act.put, List.setIfInBounds_toArray, List.set_cons_zero, List.set_cons_succ]
     refine wpAnyM_take (i := 1) (v := ?_) rfl (by as_aux_lemma => kernel_rfl) (by as_aux_lemma => kernel_rfl) (by as_aux_lemma => kernel_rfl) (by as_aux_lemma => kernel_rfl) (fun _ _ _ h => h) (Or.inl ⟨by rfl, ?_⟩) (hHeld) ?_
     rotate_left
     ·((intro W hSw); (try dsimp only at hSw); go_simp; try (with_reducible rfl))
     simp only [List.getElem_toArray, List.getElem_cons_zero, List.getElem_cons_succ, Act.put, List.setIfInBounds_toArray, List.set_cons_zero, List.set_cons_succ]
     refine wpAnyM_take (i := 2) (v := ?_) rfl (by as_aux_lemma => kernel_rfl) (by as_aux_lemma => kernel_rfl) (by as_aux_lemma => kernel_rfl) (by as_aux_lemma => kernel_rfl) (fun _ _ _ h => h) (Or.inl ⟨by rfl, ?_⟩) (hHeld) ?_
     rotate_left
     ·((intro W hSw); (try dsimp only at hSw); go_simp; try (with_reducible rfl))
     simp only [List.getElem_toArray, List.getElem_cons_zero, List.getElem_cons_succ, Act.put, List.setIfInBounds_toArray, List.set_cons_zero, List.set_cons_succ]
     refine wpAnyM_take (i := 3) (v := ?_) rfl (by as_aux_lemma => kernel_rfl) (by as_aux_lemma => kernel_rfl) (by as_aux_lemma => kernel_rfl) (by as_aux_lemma => kernel_rfl) (fun _ _ _ h => h) (Or.inl ⟨by rfl, ?_⟩) (hHeld) ?_
     rotate_left
     ·((intro W hSw); (try dsimp only at hSw); go_simp; try (with_reducible rfl))
     simp only [List.getElem_toArray, List.getElem_cons_zero, List.getElem_cons_succ, Act.put, List.setIfInBounds_toArray, List.set_cons_zero, List.set_cons_succ]
     refine wpAnyM_take (i := 4) (v := ?_) rfl (by as_aux_lemma => kernel_rfl) (by as_aux_lemma => kernel_rfl) (by as_aux_lemma => kernel_rfl) (by as_aux_lemma => kernel_rfl) (fun _ _ _ h => h) (Or.inl ⟨by rfl, ?_⟩) (hHeld) ?_
     rotate_left
     ·((intro W hSw); (try dsimp only at hSw); go_simp; try (with_reducible rfl))
     simp only [List.getElem_toArray, List.getElem_cons_zero, List.getElem_cons_succ, Act.put, List.setIfInBounds_toArray, List.set_cons_zero, List.set_cons_succ]
     refine wpAnyM_take (i := 5) (v := ?_) rfl (by as_aux_lemma => kernel_rfl) (by as_aux_lemma => kernel_rfl) (by as_aux_lemma => kernel_rfl) (by as_aux_lemma => kernel_rfl) (fun _ _ _ h => h) (Or.inl ⟨by rfl, ?_⟩) (hHeld) ?_
     rotate_left
     ·((intro W hSw); (try dsimp only at hSw); go_simp; try (with_reducible rfl))
     simp only [List.getElem_toArray, List.getElem_cons_zero, List.getElem_cons_succ, Act.put, List.setIfInBounds_toArray, List.set_cons_zero, List.set_cons_succ]
     refine wpAnyM_take (i := 6) (v := ?_) rfl (by as_aux_lemma => kernel_rfl) (by as_aux_lemma => kernel_rfl) (by as_aux_lemma => kernel_rfl) (by as_aux_lemma => kernel_rfl) (fun _ _ _ h => h) (Or.inl ⟨by rfl, ?_⟩) (hHeld) ?_
     rotate_left
     ·((intro W hSw); (try dsimp only at hSw); go_simp; try (with_reducible rfl))
     simp only [List.getElem_toArray, List.getElem_cons_zero, List.getElem_cons_succ, Act.put, List.setIfInBounds_toArray, List.set_cons_zero, List.set_cons_succ]
     refine wpAnyM_take (i := 7) (v := ?_) rfl (by as_aux_lemma => kernel_rfl) (by as_aux_lemma => kernel_rfl) (by as_aux_lemma => kernel_rfl) (by as_aux_lemma => kernel_rfl) (fun _ _ _ h => h) (Or.inl ⟨by rfl, ?_⟩) (hHeld) ?_
     rotate_left
     ·((intro W hSw); (try dsimp only at hSw); go_simp; try (with_reducible rfl))
     simp only [List.getElem_toArray, List.getElem_cons_zero, List.getElem_cons_succ, Act.put, List.setIfInBounds_toArray, List.set_cons_zero, List.set_cons_succ]
     refine wpAnyM_take (i := 8) (v := ?_) rfl (by as_aux_lemma => kernel_rfl) (by as_aux_lemma => kernel_rfl) (by as_aux_lemma => kernel_rfl) (by as_aux_lemma => kernel_rfl) (fun _ _ _ h => h) (Or.inl ⟨by rfl, ?_⟩) (hHeld) ?_
     rotate_left
     ·((intro W hSw); (try dsimp only at hSw); go_simp; try (with_reducible rfl))
     simp only [List.getElem_toArray, List.getElem_cons_zero, List.getElem_cons_succ, Act.put, List.setIfInBounds_toArray, List.set_cons_zero, List.set_cons_succ]
     refine wpAnyM_take (i := 9) (v := ?_) rfl (by as_aux_lemma => kernel_rfl) (by as_aux_lemma => kernel_rfl) (by as_aux_lemma => kernel_rfl) (by as_aux_lemma => kernel_rfl) (fun _ _ _ h => h) (Or.inl ⟨by rfl, ?_⟩) (hHeld) ?_
     rotate_left
     ·((intro W hSw); (try dsimp only at hSw); go_simp; try (with_reducible rfl))
     simp only [List.getElem_toArray, List.getElem_cons_zero, List.getElem_cons_succ, Act.put, List.setIfInBounds_toArray, List.set_cons_zero, List.set_cons_succ]
     refine wpAnyM_take (i := 10) (v := ?_) rfl (by as_aux_lemma => kernel_rfl) (by as_aux_lemma => kernel_rfl) (by as_aux_lemma => kernel_rfl) (by as_aux_lemma => kernel_rfl) (fun _ _ _ h => h) (Or.inl ⟨by rfl, ?_⟩) (hHeld) ?_
     rotate_left
     ·((intro W hSw); (try dsimp only at hSw); go_simp; try (with_reducible rfl))
     simp only [List.getElem_toArray, List.getElem_cons_zero, List.getElem_cons_succ, Act.put, List.setIfInBounds_toArray, List.set_cons_zero, List.set_cons_succ]
     refine wpAnyM_take (i := 11) (v := ?_) rfl (by as_aux_lemma => kernel_rfl) (by as_aux_lemma => kernel_rfl) (by as_aux_lemma => kernel_rfl) (by as_aux_lemma => kernel_rfl) (fun _ _ _ h => h) (Or.inl ⟨by rfl, ?_⟩) (hHeld) ?_
     rotate_left
     ·((intro W hSw); (try dsimp only at hSw); go_simp; try (with_reducible rfl))
     simp only [List.getElem_toArray, List.getElem_cons_zero, List.getElem_cons_succ, Act.put, List.setIfInBounds_toArray, List.set_cons_zero, List.set_cons_succ]
     refine wpAnyM_take (i := 12) (v := ?_) rfl (by as_aux_lemma => kernel_rfl) (by as_aux_lemma => kernel_rfl) (by as_aux_lemma => kernel_rfl) (by as_aux_lemma => kernel_rfl) (fun _ _ _ h => h) (Or.inl ⟨by rfl, ?_⟩) (hHeld) ?_
     rotate_left
     ·((intro W hSw); (try dsimp only at hSw); go_simp; try (with_reducible rfl))
     simp only [List.getElem_toArray, List.getElem_cons_zero, List.getElem_cons_succ, Act.put, List.setIfInBounds_toArray, List.set_cons_zero, List.set_cons_succ]
     refine wpAnyM_take (i := 13) (v := ?_) rfl (by as_aux_lemma => kernel_rfl) (by as_aux_lemma => kernel_rfl) (by as_aux_lemma => kernel_rfl) (by as_aux_lemma => kernel_rfl) (fun _ _ _ h => h) (Or.inl ⟨by rfl, ?_⟩) (hHeld) ?_
     rotate_left
     ·((intro W hSw); (try dsimp only at hSw); go_simp; try (with_reducible rfl))
     simp only [List.getElem_toArray, List.getElem_cons_zero, List.getElem_cons_succ, Act.put, List.setIfInBounds_toArray, List.set_cons_zero, List.set_cons_succ]
     refine wpAnyM_take (i := 14) (v := ?_) rfl (by as_aux_lemma => kernel_rfl) (by as_aux_lemma => kernel_rfl) (by as_aux_lemma => kernel_rfl) (by as_aux_lemma => kernel_rfl) (fun _ _ _ h => h) (Or.inl ⟨by rfl, ?_⟩) (hHeld) ?_
     rotate_left
     ·((intro W hSw); (try dsimp only at hSw); go_simp; try (with_reducible rfl))
     simp only [List.getElem_toArray, List.getElem_cons_zero, List.getElem_cons_succ, Act.put, List.setIfInBounds_toArray, List.set_cons_zero, List.set_cons_succ]
     refine wpAnyM_one (i := 15) (by as_aux_lemma => kernel_rfl) rfl (fun K hK => ?_)
     refine step_shut (h := ⟨some ⟨go, 0, none⟩, no, co⟩) (l := y4.opn) rfl (.tmp 65) (.tmp 72) rfl HK5.out.o HK5.out.Bg (by show no ≤ _; omega) (i := j) (by rw [HO4.out]; exact HJ2.out) (by rfl) (by rfl) ?_
     intro A6 c6 w6 ko6 f6 b6
     have HO6 := Lib.hid ko6
     have b7 := HK5.out.blk.off f6 (by decide)
     have c8 : w6.cell? ⟨g, 8, none⟩ = some (Value.slice (some ⟨go, 0, none⟩) no co) := b7.cell 8
     have f8 := b7.free 8
     have HF6 := Lib.hid f6
     have HB6 := Lib.hid (HB5.out.trans b6)
     clear ko6 f6 b6 b7
     refine hK.out _ _ (fun _ => c8) ?_
     clear hK K
     try simp only [List.getElem_toArray, List.getElem_cons_zero, List.getElem_cons_succ, Act.put, List.setIfInBounds_toArray, List.set_cons_zero, List.set_cons_succ]
     refine wpAnyM_one (i := 16) (by as_aux_lemma => kernel_rfl) rfl (fun K hK => ?_)
     go_simp
     refine hK.out _ _ (fun _ => c8) ?_
     clear hK K
     try simp only [List.getElem_toArray, List.getElem_cons_zero, List.getElem_cons_succ, Act.put, List.setIfInBounds_toArray, List.set_cons_zero, List.set_cons_succ]
     refine wpAnyM_one (i := 17) (by as_aux_lemma => kernel_rfl) rfl (fun K hK => ?_)
     go_simp
     refine hK.out _ _ (fun _ => c8) ?_
     clear hK K
     try simp only [List.getElem_toArray, List.getElem_cons_zero, List.getElem_cons_succ, Act.put, List.setIfInBounds_toArray, List.set_cons_zero, List.set_cons_succ]
     refine wpAnyM_one (i := 18) (by as_aux_lemma => kernel_rfl) rfl (fun K hK => ?_)
     go_simp
     refine hK.out _ _ (fun h => absurd rfl h) ?_
     clear hK K
     try simp only [List.getElem_toArray, List.getElem_cons_zero, List.getElem_cons_succ, Act.put, List.setIfInBounds_toArray, List.set_cons_zero, List.set_cons_succ]
     refine wpAnyM_done (by as_aux_lemma => kernel_rfl) (NoPanic.normal ?_) _
     have hok : RfOk { y4 with opn := y4.opn.eraseIdx j } := ⟨HK5.out.ok.t, HK5.out.ok.x, HK5.out.ok.r, by
      have := List.length_eraseIdx_le y4.opn j
      have := HK5.out.ok.o
      show (y4.opn.eraseIdx j).length ≤ 40
      omega, HK5.out.ok.ks⟩
     have HK7 := Lib.hid (HK5.out.put_o HF6.out HO6.out hok)
     have HB7 := Lib.hid (HB6.out.setCell (p := ⟨g, 8, none⟩) HK5.out.bg (.slice A6 (no - 1) c6))
     clear hok c8 f8 hHeld
     go_wp2
     go_end0
     rw [HF.out, ← HO4.out]
     exact ⟨rfl, HB7.out, _, HK7.out⟩
    ·rw [if_neg hb] at HF
     have he2 : (r.b == (nt : Int)) = false := by rw [beq_eq_false_iff_ne]; exact hb
     clear hb
     go_wp2
     go_quiet (fail)
     generalize hwq3 : World.drewN _ _ = w4
     have HK4 : Hid (OwnF w4 B g ⟨⟨Aa, na, ca⟩, ⟨At', nt, ct⟩, ⟨Ax, nx, cx⟩, ⟨some ⟨gr, 0, none⟩, nr, cr⟩, ⟨some ⟨go, 0, none⟩, no, co⟩⟩ d ats y2) := by rw [← hwq3]; exact HK2.out.drewN _
     have HB4 : Hid (Below B w w4) := by rw [← hwq3]; exact below_drewN HB2.out _
     clear hwq3 p1 p2 HK2 HB2
     have HO4 := HOP
     generalize y2 = y4 at HK4 HO4 HF
     go_upto_region 8 with (fail)
     obtain ⟨i0, hi0, hz0, hz1, hz2⟩ := info_parts info_intF
     have hcap : no ≤ co := HK4.out.o.cap
     have hSU : ∀ W, (Instr.slice 27 (.slice (some ⟨go, 0, none⟩) no co) none (some (.int .i64 (j : Nat))) (some (.int .i64 (j : Nat)))).run Tryz.prog W = .ok (.slice (some ⟨go, 0, none⟩) j j) W := fun W => slice_upto 27 3 i0 Tryz.underlying27 hi0 _ no co j (by omega) W
     have hSF : ∀ W, (Instr.slice 27 (.slice (some ⟨go, 0, none⟩) no co) (some (.int .i64 ((j + 1 : Nat) : Int))) none none).run Tryz.prog W = .ok (.slice (cutAt (some ⟨go, 0, none⟩) (j + 1) co 1) (no - (j + 1)) (co - (j + 1))) W := fun W => slice_from 27 3 i0 1 Tryz.underlying27 hi0 hz1 _ no co (j + 1) (by omega) W
     have hwj1 : IntKind.i64.wrap ((j : Int) + 1) = (j : Int) + 1 := IntWalk.i64_in _ (by omega)
     have ec : ((j + 1 : Nat) : Int) = (j : Int) + 1 := by omega
     rw [ec] at hSF
     clear ec
     have hS := HK4.out.drew.blk.cell 8
     have HK5 := Lib.hid HK4.out.drew
     have HB5 := Lib.hid HB4.out.drew
     have HSS : Hid (w4.drew.cell? ⟨g, 8, none⟩ = some (Value.slice (some ⟨go, 0, none⟩) no co)) := hS
     clear hS
     refine wp_region_m (fun W => W.cell? ⟨g, 8, none⟩ = some (Value.slice (some ⟨go, 0, none⟩) no co)) 18 (by as_aux_lemma => kernel_rfl) (HSS.out) (fun hHeld => ?_)
     generalize w4.drew = w5 at HK5 HB5 hHeld ⊢
     refine wpAnyM_take (i := 0) (v := ?_) rfl (by as_aux_lemma => kernel_rfl) (by as_aux_lemma => kernel_rfl) (by as_aux_lemma => kernel_rfl) (by as_aux_lemma => kernel_rfl) (fun _ _ _ h => h) (Or.inl ⟨by rfl, ?_⟩) (hHeld) ?_
     rotate_left
     ·((intro W hSw); (try dsimp only at hSw); go_simp; try (with_reducible rfl))
     simp only [List.getElem_toArray, List.getElem_cons_zero, List.getElem_cons_succ, Act.put, List.setIfInBounds_toArray, List.set_cons_zero, List.set_cons_succ]
     refine wpAnyM_take (i := 1) (v := ?_) rfl (by as_aux_lemma => kernel_rfl) (by as_aux_lemma => kernel_rfl) (by as_aux_lemma => kernel_rfl) (by as_aux_lemma => kernel_rfl) (fun _ _ _ h => h) (Or.inl ⟨by rfl, ?_⟩) (hHeld) ?_
     rotate_left
     ·((intro W hSw); (try dsimp only at hSw); go_simp; try (with_reducible rfl))
     simp only [List.getElem_toArray, List.getElem_cons_zero, List.getElem_cons_succ, Act.put, List.setIfInBounds_toArray, List.set_cons_zero, List.set_cons_succ]
     refine wpAnyM_take (i := 2) (v := ?_) rfl (by as_aux_lemma => kernel_rfl) (by as_aux_lemma => kernel_rfl) (by as_aux_lemma => kernel_rfl) (by as_aux_lemma => kernel_rfl) (fun _ _ _ h => h) (Or.inl ⟨by rfl, ?_⟩) (hHeld) ?_
     rotate_left
     ·((intro W hSw); (try dsimp only at hSw); go_simp; try (with_reducible rfl))
     simp only [List.getElem_toArray, List.getElem_cons_zero, List.getElem_cons_succ, Act.put, List.setIfInBounds_toArray, List.set_cons_zero, List.set_cons_succ]
     refine wpAnyM_take (i := 3) (v := ?_) rfl (by as_aux_lemma => kernel_rfl) (by as_aux_lemma => kernel_rfl) (by as_aux_lemma => kernel_rfl) (by as_aux_lemma => kernel_rfl) (fun _ _ _ h => h) (Or.inl ⟨by rfl, ?_⟩) (hHeld) ?_
     rotate_left
     ·((intro W hSw); (try dsimp only at hSw); go_simp; try (with_reducible rfl))
     simp only [List.getElem_toArray, List.getElem_cons_zero, List.getElem_cons_succ, Act.put, List.setIfInBounds_toArray, List.set_cons_zero, List.set_cons_succ]
     refine wpAnyM_take (i := 4) (v := ?_) rfl (by as_aux_lemma => kernel_rfl) (by as_aux_lemma => kernel_rfl) (by as_aux_lemma => kernel_rfl) (by as_aux_lemma => kernel_rfl) (fun _ _ _ h => h) (Or.inl ⟨by rfl, ?_⟩) (hHeld) ?_
     rotate_left
     ·((intro W hSw); (try dsimp only at hSw); go_simp; try (with_reducible rfl))
     simp only [List.getElem_toArray, List.getElem_cons_zero, List.getElem_cons_succ, Act.put, List.setIfInBounds_toArray, List.set_cons_zero, List.set_cons_succ]
     refine wpAnyM_take (i := 5) (v := ?_) rfl (by as_aux_lemma => kernel_rfl) (by as_aux_lemma => kernel_rfl) (by as_aux_lemma => kernel_rfl) (by as_aux_lemma => kernel_rfl) (fun _ _ _ h => h) (Or.inl ⟨by rfl, ?_⟩) (hHeld) ?_
     rotate_left
     ·((intro W hSw); (try dsimp only at hSw); go_simp; try (with_reducible rfl))
     simp only [List.getElem_toArray, List.getElem_cons_zero, List.getElem_cons_succ, Act.put, List.setIfInBounds_toArray, List.set_cons_zero, List.set_cons_succ]
     refine wpAnyM_take (i := 6) (v := ?_) rfl (by as_aux_lemma => kernel_rfl) (by as_aux_lemma => kernel_rfl) (by as_aux_lemma => kernel_rfl) (by as_aux_lemma => kernel_rfl) (fun _ _ _ h => h) (Or.inl ⟨by rfl, ?_⟩) (hHeld) ?_
     rotate_left
     ·((intro W hSw); (try dsimp only at hSw); go_simp; try (with_reducible rfl))
     simp only [List.getElem_toArray, List.getElem_cons_zero, List.getElem_cons_succ, Act.put, List.setIfInBounds_toArray, List.set_cons_zero, List.set_cons_succ]
     refine wpAnyM_take (i := 7) (v := ?_) rfl (by as_aux_lemma => kernel_rfl) (by as_aux_lemma => kernel_rfl) (by as_aux_lemma => kernel_rfl) (by as_aux_lemma => kernel_rfl) (fun _ _ _ h => h) (Or.inl ⟨by rfl, ?_⟩) (hHeld) ?_
     rotate_left
     ·((intro W hSw); (try dsimp only at hSw); go_simp; try (with_reducible rfl))
     simp only [List.getElem_toArray, List.getElem_cons_zero, List.getElem_cons_succ, Act.put, List.setIfInBounds_toArray, List.set_cons_zero, List.set_cons_succ]
     refine wpAnyM_take (i := 8) (v := ?_) rfl (by as_aux_lemma => kernel_rfl) (by as_aux_lemma => kernel_rfl) (by as_aux_lemma => kernel_rfl) (by as_aux_lemma => kernel_rfl) (fun _ _ _ h => h) (Or.inl ⟨by rfl, ?_⟩) (hHeld) ?_
     rotate_left
     ·((intro W hSw); (try dsimp only at hSw); go_simp; try (with_reducible rfl))
     simp only [List.getElem_toArray, List.getElem_cons_zero, List.getElem_cons_succ, Act.put, List.setIfInBounds_toArray, List.set_cons_zero, List.set_cons_succ]
     refine wpAnyM_take (i := 9) (v := ?_) rfl (by as_aux_lemma => kernel_rfl) (by as_aux_lemma => kernel_rfl) (by as_aux_lemma => kernel_rfl) (by as_aux_lemma => kernel_rfl) (fun _ _ _ h => h) (Or.inl ⟨by rfl, ?_⟩) (hHeld) ?_
     rotate_left
     ·((intro W hSw); (try dsimp only at hSw); go_simp; try (with_reducible rfl))
     simp only [List.getElem_toArray, List.getElem_cons_zero, List.getElem_cons_succ, Act.put, List.setIfInBounds_toArray, List.set_cons_zero, List.set_cons_succ]
     refine wpAnyM_take (i := 10) (v := ?_) rfl (by as_aux_lemma => kernel_rfl) (by as_aux_lemma => kernel_rfl) (by as_aux_lemma => kernel_rfl) (by as_aux_lemma => kernel_rfl) (fun _ _ _ h => h) (Or.inl ⟨by rfl, ?_⟩) (hHeld) ?_
     rotate_left
     ·((intro W hSw); (try dsimp only at hSw); go_simp; try (with_reducible rfl))
     simp only [List.getElem_toArray, List.getElem_cons_zero, List.getElem_cons_succ, Act.put, List.setIfInBounds_toArray, List.set_cons_zero, List.set_cons_succ]
     refine wpAnyM_take (i := 11) (v := ?_) rfl (by as_aux_lemma => kernel_rfl) (by as_aux_lemma => kernel_rfl) (by as_aux_lemma => kernel_rfl) (by as_aux_lemma => kernel_rfl) (fun _ _ _ h => h) (Or.inl ⟨by rfl, ?_⟩) (hHeld) ?_
     rotate_left
     ·((intro W hSw); (try dsimp only at hSw); go_simp; try (with_reducible rfl))
     simp only [List.getElem_toArray, List.getElem_cons_zero, List.getElem_cons_succ, Act.put, List.setIfInBounds_toArray, List.set_cons_zero, List.set_cons_succ]
     refine wpAnyM_take (i := 12) (v := ?_) rfl (by as_aux_lemma => kernel_rfl) (by as_aux_lemma => kernel_rfl) (by as_aux_lemma => kernel_rfl) (by as_aux_lemma => kernel_rfl) (fun _ _ _ h => h) (Or.inl ⟨by rfl, ?_⟩) (hHeld) ?_
     rotate_left
     ·((intro W hSw); (try dsimp only at hSw); go_simp; try (with_reducible rfl))
     simp only [List.getElem_toArray, List.getElem_cons_zero, List.getElem_cons_succ, Act.put, List.setIfInBounds_toArray, List.set_cons_zero, List.set_cons_succ]
     refine wpAnyM_take (i := 13) (v := ?_) rfl (by as_aux_lemma => kernel_rfl) (by as_aux_lemma => kernel_rfl) (by as_aux_lemma => kernel_rfl) (by as_aux_lemma => kernel_rfl) (fun _ _ _ h => h) (Or.inl ⟨by rfl, ?_⟩) (hHeld) ?_
     rotate_left
     ·((intro W hSw); (try dsimp only at hSw); go_simp; try (with_reducible rfl))
     simp only [List.getElem_toArray, List.getElem_cons_zero, List.getElem_cons_succ, Act.put, List.setIfInBounds_toArray, List.set_cons_zero, List.set_cons_succ]
     refine wpAnyM_take (i := 14) (v := ?_) rfl (by as_aux_lemma => kernel_rfl) (by as_aux_lemma => kernel_rfl) (by as_aux_lemma => kernel_rfl) (by as_aux_lemma => kernel_rfl) (fun _ _ _ h => h) (Or.inl ⟨by rfl, ?_⟩) (hHeld) ?_
     rotate_left
     ·((intro W hSw); (try dsimp only at hSw); go_simp; try (with_reducible rfl))
     simp only [List.getElem_toArray, List.getElem_cons_zero, List.getElem_cons_succ, Act.put, List.setIfInBounds_toArray, List.set_cons_zero, List.set_cons_succ]
     refine wpAnyM_one (i := 15) (by as_aux_lemma => kernel_rfl) rfl (fun K hK => ?_)
     refine step_shut (h := ⟨some ⟨go, 0, none⟩, no, co⟩) (l := y4.opn) rfl (.tmp 65) (.tmp 72) rfl HK5.out.o HK5.out.Bg (by show no ≤ _; omega) (i := j) (by rw [HO4.out]; exact HJ2.out) (by rfl) (by rfl) ?_
     intro A6 c6 w6 ko6 f6 b6
     have HO6 := Lib.hid ko6
     have b7 := HK5.out.blk.off f6 (by decide)
     have c8 : w6.cell? ⟨g, 8, none⟩ = some (Value.slice (some ⟨go, 0, none⟩) no co) := b7.cell 8
     have f8 := b7.free 8
     have HF6 := Lib.hid f6
     have HB6 := Lib.hid (HB5.out.trans b6)
     clear ko6 f6 b6 b7
     refine hK.out _ _ (fun _ => c8) ?_
     clear hK K
     try simp only [List.getElem_toArray, List.getElem_cons_zero, List.getElem_cons_succ, Act.put, List.setIfInBounds_toArray, List.set_cons_zero, List.set_cons_succ]
     refine wpAnyM_one (i := 16) (by as_aux_lemma => kernel_rfl) rfl (fun K hK => ?_)
     go_simp
     refine hK.out _ _ (fun _ => c8) ?_
     clear hK K
     try simp only [List.getElem_toArray, List.getElem_cons_zero, List.getElem_cons_succ, Act.put, List.setIfInBounds_toArray, List.set_cons_zero, List.set_cons_succ]
     refine wpAnyM_one (i := 17) (by as_aux_lemma => kernel_rfl) rfl (fun K hK => ?_)
     go_simp
     refine hK.out _ _ (fun _ => c8) ?_
     clear hK K
     try simp only [List.getElem_toArray, List.getElem_cons_zero, List.getElem_cons_succ, Act.put, List.setIfInBounds_toArray, List.set_cons_zero, List.set_cons_succ]
     refine wpAnyM_one (i := 18) (by as_aux_lemma => kernel_rfl) rfl (fun K hK => ?_)
     go_simp
     refine hK.out _ _ (fun h => absurd rfl h) ?_
     clear hK K
     try simp only [List.getElem_toArray, List.getElem_cons_zero, List.getElem_cons_succ, Act.put, List.setIfInBounds_toArray, List.set_cons_zero, List.set_cons_succ]
     refine wpAnyM_done (by as_aux_lemma => kernel_rfl) (NoPanic.normal ?_) _
     have hok : RfOk { y4 with opn := y4.opn.eraseIdx j } := ⟨HK5.out.ok.t, HK5.out.ok.x, HK5.out.ok.r, by
      have := List.length_eraseIdx_le y4.opn j
      have := HK5.out.ok.o
      show (y4.opn.eraseIdx j).length ≤ 40
      omega, HK5.out.ok.ks⟩
     have HK7 := Lib.hid (HK5.out.put_o HF6.out HO6.out hok)
     have HB7 := Lib.hid (HB6.out.setCell (p := ⟨g, 8, none⟩) HK5.out.bg (.slice A6 (no - 1) c6))
     clear hok c8 f8 hHeld
     go_wp2
     go_end0
     rw [HF.out, ← HO4.out]
     exact ⟨rfl, HB7.out, _, HK7.out⟩
   ·have he : (r.nm == nm) = false := by rw [beq_eq_false_iff_ne]; exact hn
    have HLN : Hid (lastI (named nm y.regs) (y.opn.drop j) = none) := lastI_none hj2 HL1.out (by rw [HI.out, HNM.out]; exact decide_eq_false hn)
    clear hn r1 r2
    go_wp2
    go_roundw
    case rel => exact ⟨j, rfl, by omega, HKQ, HBQ, HLN⟩
    case measure => simp [intOf] <;> omega
end Go.Proofs.YtgkdaebiefhgdaaGreatDoor

/-! ## PRefBeg -/
namespace Go.Proofs.YtgkdaebiefhgdaaGreatDoor
set_option linter.unusedSimpArgs false
set_option linter.unusedVariables false
open Go.RowKit
open Feat (Bs)
open Tagp (KV okName)
open Vert (isId)
open Cor (findT)
attribute [local go_sem] byte_mk ByteArray.extract_mk
theorem found_ref {ks : List KV} {fo : Bool} {tn : Bs} (h : Found ks fo tn) : Rf.idOf ks = tn ∧ (ks.filter isId).isEmpty = !fo := by
 unfold Found at h
 unfold Rf.idOf
 cases hg : (ks.filter isId).getLast? with
 | none =>
  rw [hg] at h
  have : ks.filter isId = [] := List.getLast?_eq_none_iff.1 hg
  rw [this, h.1]
  exact ⟨h.2.symm, rfl⟩
 | some p =>
  rw [hg] at h
  rw [h.1]
  refine ⟨h.2.symm, ?_⟩
  cases hf : ks.filter isId with
  | nil => rw [hf] at hg; cases hg
  | cons _ _ => rfl
section
variable {w w1 : World} {B g : Nat} {h : RfH} {d : Bs} {ats : List At} {y : Rf}
theorem OwnF.push_x {L : List TH} (k : OwnF w B g h d ats y) (hL : L.map Prod.fst = y.texts) (ho : w.ownsRow B 66 4 h.x.v h.x.n (L.flatMap txV)) (hW : ∀ z ∈ L, OwnT w B z) {z : TH} (hz : OwnT w B z)
  {A' : Option Addr} {n' c' : Nat} (own' : w1.ownsRow B 66 4 (.slice A' n' c') n' (L.flatMap txV ++ txV z)) (gr : w.grownBy w1 h.x.v.ownBlock) (hok : y.texts.length < 64) :
  OwnF (w1.setCell ⟨g, 3, none⟩ (.slice A' n' c')) B g { h with x := ⟨A', n', c'⟩ } d ats { y with texts := y.texts ++ [z.1] } := by
 have f1 := Off.grown ho gr
 have b1 := k.blk.off f1 (by decide)
 have f2 := Off.set_ b1 3 (.slice A' n' c')
 exact ⟨b1.set_ 3 _, k.bg, (k.a.off f1 (by decide)).off f2 (by decide), (k.t.off f1 (by decide) (by decide)).off f2 (by decide) (by decide),
  ⟨L ++ [z], by simp [hL], by simpa using own_off own' f2 (by decide), fun u hu => by
   rcases List.mem_append.1 hu with hu | hu
   ·exact ((hW u hu).off f1 (by decide)).off f2 (by decide)
   ·simp at hu; subst hu; exact (hz.off f1 (by decide)).off f2 (by decide)⟩, (k.r.off f1 (by decide) (by decide)).off f2 (by decide) (by decide), (k.o.off f1 (by decide)).off f2 (by decide), ⟨k.ok.t, by show (y.texts ++ [_]).length ≤ 64; simp; omega, k.ok.r, k.ok.o, k.ok.ks⟩⟩
end
set_option maxRecDepth 100000 in
set_option maxHeartbeats 8000000 in
theorem rbegin_any (B g : Nat) (h : RfH) (d : Bs) (ats : List At) (y : Rf) (cl : Bool) (nm : Bs) (KA : Option Addr) (Kn Kc : Nat) (ks : List KV) (a : Nat) (w : World) (k : OwnF w B g h d ats y)
  (hK : w.ownsRow B 84 2 (.slice KA Kn Kc) Kn (ks.flatMap prV)) (hks : ∀ p ∈ ks, Len p.1 ∧ Len p.2) (hkl : ks.length ≤ 1048576) :
  Calls Tryz.prog 68 #[.pointer (some ⟨g, 0, none⟩), .agg #[.bool cl, str nm, .slice KA Kn Kc], .int .i64 (a : Nat)] w (StepF B g d ats w (y.fBegin ks a)) := by
 obtain ⟨⟨Aa, na, ca⟩, ⟨At', nt, ct⟩, ⟨Ax, nx, cx⟩, ⟨Ar, nr, cr⟩, ⟨Ao, no, co⟩⟩ := h
 obtain ⟨i0, hi0, hz0, hz1, hz2⟩ := info_parts info_pairM
 obtain ⟨i1, hi1, hy0, hy1, hy2⟩ := info_parts info_textV
 have hBg := k.Bg
 have hg0 : g < w.heap.size := k.blk.lt
 have hB0 := (Below.refl w.heap.size w).alloc (Nat.le_refl _) (.cells #[.bool cl, str nm, .slice KA Kn Kc] 89)
 have kb := k.below hB0
 have hT := Blk.new w 89 #[.bool cl, str nm, .slice KA Kn Kc]
 have c9 : _ = some (Value.bool y.tx) := kb.blk.cell 9
 have c3 : _ = some (Value.slice Ax nx cx) := kb.blk.cell 3
 have c2 : _ = some (Value.slice At' nt ct) := kb.blk.cell 2
 have v2 : _ = some (Value.slice KA Kn Kc) := hT.cell 2
 have hx : y.texts.length = nx := k.x.len
 have ht : y.toks.length = nt := k.t.reads.len
 have kt := k.ok.t
 have kx := k.ok.x
 have hKl : ks.length = Kn := by have h1 := hK.1; rw [flat_pair] at h1; omega
 have HKS : Hid (Keys w w.heap.size ⟨KA, Kn, Kc⟩ ks) := ⟨own_fit hK, own_sl hK, hks⟩
 have HB0 := Lib.hid hB0
 have HK := Lib.hid k
 have HK0 := Lib.hid kb
 have HT := Lib.hid hT
 clear hB0 k kb hT hK
 by_cases htx : y.tx = true
 ·have HF : Hid (y.fBegin ks a = y.fail a 17) := by show _ = _; unfold Rf.fBegin; rw [if_pos htx]
  have HC := Lib.hid (rfail_any a 17 (w.alloc (.cells #[.bool cl, str nm, .slice KA Kn Kc] 89)) HK0.out.blk)
  rw [htx] at c9
  clear htx
  go_enter Tryz.func68, Tryz.ntmps68
  go_wp2_with fail
  refine HC.out.mono ?_
  rintro en w1 ⟨rfl, rfl⟩
  go_wp2
  go_end0
  rw [HF.out]
  exact ⟨rfl, failW_below (HB0.out.mono hBg) HK.out.bg _ _ _, _, HK0.out.fail a 17⟩
 ·have htx0 : y.tx = false := by simpa using htx
  rw [htx0] at c9
  by_cases hmany : 64 ≤ nx
  ·have HF : Hid (y.fBegin ks a = y.fail a 2) := by show _ = _; unfold Rf.fBegin; rw [if_neg htx, if_pos (by omega)]
   have HC := Lib.hid (rfail_any a 2 (w.alloc (.cells #[.bool cl, str nm, .slice KA Kn Kc] 89)) HK0.out.blk)
   clear htx htx0
   go_enter Tryz.func68, Tryz.ntmps68
   go_wp2_with fail
   refine HC.out.mono ?_
   rintro en w1 ⟨rfl, rfl⟩
   go_wp2
   go_end0
   rw [HF.out]
   exact ⟨rfl, failW_below (HB0.out.mono hBg) HK.out.bg _ _ _, _, HK0.out.fail a 2⟩
  ·have HFB : Hid (y.fBegin ks a = { (if (ks.filter isId).isEmpty = true then y.fail a 11 else if okName (Rf.idOf ks) = false then y.fail a 4 else if 0 ≤ findT y.texts (Rf.idOf ks) then y.fail a 5 else y) with tx := true, texts := y.texts ++ [⟨Rf.idOf ks, (nt : Int), 0, ks.filter fun p => !isId p⟩] }) := by
    show _ = _
    unfold Rf.fBegin
    rw [if_neg htx, if_neg (by omega), ht]
   have hmv : nx ≤ 63 := by omega
   have hB1 : Hid (Below w.heap.size w ((w.alloc (.cells #[.bool cl, str nm, .slice KA Kn Kc] 89)).alloc (.cells #[str [], .int .i64 (nt : Nat), .int .i64 0, .slice none 0 0] 66))) := HB0.out.alloc HB0.out.size _
   have hX1 : Hid (Blk ((w.alloc (.cells #[.bool cl, str nm, .slice KA Kn Kc] 89)).alloc (.cells #[str [], .int .i64 (nt : Nat), .int .i64 0, .slice none 0 0] 66)) (w.heap.size + 1) 66 #[str [], .int .i64 (nt : Nat), .int .i64 0, .slice none 0 0]) := by
    have := Blk.new (w.alloc (.cells #[.bool cl, str nm, .slice KA Kn Kc] 89)) 66 #[str [], .int .i64 (nt : Nat), .int .i64 0, .slice none 0 0]
    rwa [World.size_alloc] at this
   have v2' : ∀ o, ((w.alloc (.cells #[.bool cl, str nm, .slice KA Kn Kc] 89)).alloc o).cell? ⟨w.heap.size, 2, none⟩ = some (Value.slice KA Kn Kc) := fun o => (HT.out.alloc o).cell 2
   clear htx htx0
   go_enter Tryz.func68, Tryz.ntmps68
   go_wp2_with fail
   go_loopw [37, 7] (fun iv fv wr => ∃ (j : Nat) (fo : Bool) (tn : Bs) (MA : Option Addr) (Mn Mc : Nat), iv = .int .i64 j ∧ j ≤ Kn ∧ fv = .bool fo ∧ Hid (Found (ks.take j) fo tn) ∧ Blk wr (w.heap.size + 1) 66 #[str tn, .int .i64 (nt : Nat), .int .i64 0, .slice MA Mn Mc] ∧
     Hid (wr.ownsRow (w.heap.size + 2) 84 2 (.slice MA Mn Mc) Mn (((ks.take j).filter fun p => !isId p).flatMap prV)) ∧ Below w.heap.size w wr ∧ Hid (Len tn)) (fun iv _ _ => Kn - (intOf iv).toNat)
   case atStart => exact ⟨0, false, [], none, 0, 0, rfl, Nat.zero_le _, rfl, ⟨rfl, rfl⟩, hX1.out, World.ownsRow_nil _ _ _ _, hB1.out, Nat.zero_le _⟩
   case round =>
    obtain ⟨j, fo, tn, MA, Mn, Mc, rfl, hj, rfl, hfnd, hxb, hown, hb, hlt⟩ := hrel
    clear c9 c3 c2 v2 v2'
    by_cases hjl : j < Kn
    ·obtain ⟨gk, ok, hk', hKA, hg, hpl, p0, p1⟩ := (HKS.out.under hb).at_ (k := j) hjl
     dsimp only at hKA
     subst hKA
     obtain ⟨p, hp⟩ : ∃ p, ks[j] = p := ⟨_, rfl⟩
     rw [hp] at p0 p1 hpl
     have HTK : Hid (ks.take (j + 1) = ks.take j ++ [p]) := by
      show _ = _
      rw [List.take_succ_eq_append_getElem hk', hp]
     have HPL := Lib.hid hpl
     have hj0 : (0 : Int) ≤ (j : Int) := by omega
     have hj1 : (j : Int) < (Kn : Int) := by omega
     have hw3 : IntKind.i64.wrap ((j : Int) + 1) = ((j + 1 : Nat) : Int) := by rw [IntWalk.i64_in _ (by omega)]; omega
     have hxa := hxb.alloc (.cells #[str p.1, str p.2] 84)
     have bA := hb.alloc hb.size (.cells #[str p.1, str p.2] 84)
     have y0 : _ = some (str tn) := hxa.cell 0
     have y3 : _ = some (Value.slice MA Mn Mc) := hxa.cell 3
     have f0 := hxa.free 0
     have f3 := hxa.free 3
     clear hp hpl
     by_cases hid : p.1 = [105, 100]
     ·have hI : Hid (isId p = true) := by show _ = _; unfold isId; rw [hid]; rfl
      have he : (p.1 == [105, 100]) = true := by rw [beq_iff_eq]; exact hid
      have HXA := Lib.hid hxa
      have HBA := Lib.hid bA
      clear hid hxb hxa bA hb
      go_wp2
      go_roundw
      case rel =>
       refine ⟨j + 1, true, p.2, MA, Mn, Mc, by go_num, by omega, rfl, ?_, HXA.out.set_ 0 _, ?_, HBA.out.setCell (p := ⟨w.heap.size + 1, 0, none⟩) (by show w.heap.size ≤ w.heap.size + 1; omega) _, HPL.out.2⟩
       ·show Found _ _ _; rw [HTK.out]; exact found_id hI.out
       ·show World.ownsRow _ _ _ _ _ _ _
        rw [HTK.out, meta_id hI.out]
        exact own_off (hown.out.alloc _) (Off.set_ HXA.out 0 _) (by decide)
      case measure => simp [intOf]; omega
     ·have hI : Hid (isId p = false) := by show _ = _; unfold isId; rw [beq_eq_false_iff_ne]; exact hid
      have he : (p.1 == [105, 100]) = false := by rw [beq_eq_false_iff_ne]; exact hid
      have hMn : Mn ≤ ks.length := by have h1 := hown.out.1; rw [flat_pair] at h1; have h2 := meta_le ks j; omega
      have hoa : Hid (World.ownsRow ((wr.alloc (.cells #[str p.1, str p.2] 84)).alloc (.cells #[str p.1, str p.2] 84)) (w.heap.size + 2) 84 2 (.slice MA Mn Mc) Mn (((ks.take j).filter fun p => !isId p).flatMap prV)) := (hown.out.alloc _).alloc _
      have hxa2 : Hid (Blk ((wr.alloc (.cells #[str p.1, str p.2] 84)).alloc (.cells #[str p.1, str p.2] 84)) (w.heap.size + 1) 66 #[str tn, .int .i64 (nt : Nat), .int .i64 0, .slice MA Mn Mc]) := hxa.alloc _
      have hba2 : Hid (Below w.heap.size w ((wr.alloc (.cells #[str p.1, str p.2] 84)).alloc (.cells #[str p.1, str p.2] 84))) := bA.alloc bA.size _
      have hsz2 : w.heap.size + 2 ≤ wr.heap.size := by have := hxb.lt; omega
      clear hid hxb hxa bA hb hown
      go_wp2_with (at_builtin; refine wpList_append_own_at _ rfl (.tmp 48) (.tmp 50) _ rfl (w.heap.size + 2) 84 i0 _ 2 32 Tryz.underlying64 hi0 hz0 hz1 hz2 rfl (by decide) _ _ _ rfl hoa.out ⟨_, 0, none⟩ 1 1 [str p.1, str p.2] rfl rfl ?pa1 ?pa2 ?pa3 ?pa4 ?pa5 ?_)
      case pa1 => exact news_two (by simp)
      case pa2 => first | rfl | (intro u hu; simp at hu; rcases hu with rfl | rfl <;> rfl)
      case pa3 => simp [maxLen]; omega
      case pa4 => omega
      case pa5 => simp; omega
      intro v6 w6 own6 gr6 _ hob6
      obtain ⟨A6, c6, rfl, -, -⟩ := own_slc own6
      have X6 := hxa2.out.off (Off.grown hoa.out gr6) (by decide)
      have x3 : _ = some (Value.slice MA Mn Mc) := X6.cell 3
      have g3 := X6.free 3
      have HX6 := Lib.hid X6
      have HB6 : Hid (Below w.heap.size w w6) := hba2.out.grown gr6 (by simp; omega) (fun q hq => by have := (hoa.out.lt _ hq).1; omega)
      have HO6 := Lib.hid own6
      clear own6 gr6 hob6 hoa hxa2 hba2 X6 y0 y3 f0 f3 p0 p1
      go_wp2
      go_roundw
      case rel =>
       refine ⟨j + 1, fo, tn, A6, Mn + 1, c6, by go_num, by omega, rfl, ?_, HX6.out.set_ 3 _, ?_, HB6.out.setCell (p := ⟨w.heap.size + 1, 3, none⟩) (by show w.heap.size ≤ w.heap.size + 1; omega) _, hlt⟩
       ·show Found _ _ _; rw [HTK.out]; exact found_no hI.out hfnd.out
       ·show World.ownsRow _ _ _ _ _ _ _
        rw [HTK.out, meta_no hI.out, List.flatMap_append, List.flatMap_cons, List.flatMap_nil, List.append_nil]
        exact own_off HO6.out (Off.set_ HX6.out 3 _) (by decide)
      case measure => simp [intOf]; omega
    ·obtain rfl : j = Kn := by omega
     have hfk := hfnd.out
     rw [List.take_of_length_le (by omega)] at hfk
     have HOW := hown.out
     rw [List.take_of_length_le (by omega)] at HOW
     obtain ⟨hid1, hid2⟩ := found_ref hfk
     rw [hid1, hid2] at HFB
     have HOWN := Lib.hid HOW
     have HBB := Lib.hid hb
     have HXB := Lib.hid hxb
     have HKR := Lib.hid (HK.out.below hb)
     clear hfnd hown HOW hfk hid1 hid2 hb hxb
     obtain ⟨wo, rfl⟩ : ∃ wo : World, wo = wr := ⟨_, rfl⟩
     obtain ⟨Z, hZ⟩ : ∃ Z, (if (!fo) = true then y.fail a 11 else if okName tn = false then y.fail a 4 else if 0 ≤ findT y.texts tn then y.fail a 5 else y) = Z := ⟨_, rfl⟩
     rw [hZ] at HFB
     have HZ := Lib.hid hZ
     clear hZ
     go_upto_block 2 with (fail)
     go_cut [7] from 54 (fun _ W => Hid (OwnF W B g ⟨⟨Aa, na, ca⟩, ⟨At', nt, ct⟩, ⟨Ax, nx, cx⟩, ⟨Ar, nr, cr⟩, ⟨Ao, no, co⟩⟩ d ats Z) ∧ Hid (Below B w W) ∧ Hid (Blk W (w.heap.size + 1) 66 #[str tn, .int .i64 (nt : Nat), .int .i64 0, .slice MA Mn Mc]) ∧ Hid (W.ownsRow B 84 2 (.slice MA Mn Mc) Mn ((ks.filter fun p => !isId p).flatMap prV)))
     case first =>
      have y0 : wo.cell? ⟨w.heap.size + 1, 0, none⟩ = some (str tn) := HXB.out.cell 0
      cases fo with
      | false =>
       have HZ1 : Hid (y.fail a 11 = Z) := by have := HZ.out; rw [if_pos (show (!false) = true from rfl)] at this; exact this
       have HC := Lib.hid (rfail_any a 11 wo HKR.out.blk)
       go_wp2_with fail
       refine HC.out.mono ?_
       rintro en w5 ⟨rfl, rfl⟩
       have HO := Lib.hid (failW_off HKR.out.blk y a 11)
       go_wp2
       go_meet
       case rel => exact ⟨(by show OwnF _ _ _ _ _ _ _; rw [← HZ1.out]; exact HKR.out.fail a 11), failW_below (HBB.out.mono hBg) HK.out.bg _ _ _, HXB.out.off HO.out (by decide), own_base (own_off HOWN.out HO.out (by decide)) (by omega)⟩
      | true =>
       have HVN := Lib.hid (refValidName_any tn hlt.out wo)
       by_cases hok : okName tn = true
       ·have HKD := Lib.hid HKR.out.drew
        have hkx : Txts wo.drew wo.drew.heap.size ⟨Ax, nx, cx⟩ y.texts := HKD.out.x.reads
        have q1 : wo.cell? ⟨g, 1, none⟩ = some (Value.slice Aa na ca) := HKR.out.blk.cell 1
        have q2 : wo.cell? ⟨g, 2, none⟩ = some (Value.slice At' nt ct) := HKR.out.blk.cell 2
        have q3 : wo.cell? ⟨g, 3, none⟩ = some (Value.slice Ax nx cx) := HKR.out.blk.cell 3
        have q4 : wo.cell? ⟨g, 4, none⟩ = some (Value.slice Ar nr cr) := HKR.out.blk.cell 4
        have q5 : wo.cell? ⟨g, 5, none⟩ = some (Value.slice none 0 0) := HKR.out.blk.cell 5
        have q6 : wo.cell? ⟨g, 6, none⟩ = some (Value.slice none 0 0) := HKR.out.blk.cell 6
        have q7 : wo.cell? ⟨g, 7, none⟩ = some (Value.slice none 0 0) := HKR.out.blk.cell 7
        have HFT := Lib.hid (refFindText_any ⟨⟨Aa, na, ca⟩, ⟨At', nt, ct⟩, ⟨Ax, nx, cx⟩, ⟨Ar, nr, cr⟩, ⟨none, 0, 0⟩, ⟨none, 0, 0⟩, ⟨none, 0, 0⟩⟩ y.texts tn wo.drew hkx)
        have HXD : Hid (Blk wo.drew (w.heap.size + 1) 66 #[str tn, .int .i64 (nt : Nat), .int .i64 0, .slice MA Mn Mc]) := HXB.out.off (R := 4294967295) (Off.drew _) (by decide)
        have HOD : Hid (wo.drew.ownsRow (w.heap.size + 2) 84 2 (.slice MA Mn Mc) Mn ((ks.filter fun p => !isId p).flatMap prV)) := own_off HOWN.out (Off.drew (R := 4294967295) _) (by decide)
        have HBD := Lib.hid (HBB.out.drew)
        clear hkx
        obtain ⟨ft, hft⟩ : ∃ x, findT y.texts tn = x := ⟨_, rfl⟩
        rw [hft] at HFT
        have HFD := Lib.hid hft
        have HOK := Lib.hid hok
        clear hft hok
        go_wp2_with fail
        refine HVN.out.mono ?_
        rintro en wv ⟨rfl, rfl⟩
        rw [HOK.out]
        clear HVN
        go_wp2_with fail
        go_region_held3 (fun W => W.cell? ⟨g, 1, none⟩ = some (.slice Aa na ca) ∧ W.cell? ⟨g, 2, none⟩ = some (.slice At' nt ct) ∧ W.cell? ⟨g, 3, none⟩ = some (.slice Ax nx cx) ∧ W.cell? ⟨g, 4, none⟩ = some (.slice Ar nr cr) ∧ W.cell? ⟨g, 5, none⟩ = some (.slice none 0 0) ∧ W.cell? ⟨g, 6, none⟩ = some (.slice none 0 0) ∧ W.cell? ⟨g, 7, none⟩ = some (.slice none 0 0) ∧ W.cell? ⟨w.heap.size + 1, 0, none⟩ = some (str tn)) (first | go_keep | exact ⟨x0, x1, x2, x3, x4, x5, x6, x7⟩) (first | (go_at_call 113; refine HFT.out.mono ?_; rintro en w5 ⟨rfl, hb5⟩; have K5 := HKD.out.below hb5; have x0 := K5.blk.cell 1; have x1 := K5.blk.cell 2; have x2 := K5.blk.cell 3; have x3 := K5.blk.cell 4; have x4 := K5.blk.cell 5; have x5 := K5.blk.cell 6; have x6 := K5.blk.cell 7; have x7 := (HXD.out.below hb5).cell 0))
        have HKA := Lib.hid K5
        have HXA := Lib.hid (HXD.out.below hb5)
        have HOA := Lib.hid (own_below HOD.out hb5)
        have HBA := Lib.hid (HBD.out.trans (hb5.mono HBD.out.size))
        clear K5 hb5 x0 x1 x2 x3 x4 x5 x6 x7 q1 q2 q3 q4 q5 q6 q7 y0
        by_cases hdup : 0 ≤ ft
        ·have HZ1 : Hid (y.fail a 5 = Z) := by have := HZ.out; rw [if_neg (by simp), if_neg (by rw [HOK.out]; simp), if_pos (by rw [HFD.out]; exact hdup)] at this; exact this
         have HC := Lib.hid (rfail_any a 5 w5 HKA.out.blk)
         go_wp2_with fail
         refine HC.out.mono ?_
         rintro en w6 ⟨rfl, rfl⟩
         have HO := Lib.hid (failW_off HKA.out.blk y a 5)
         go_wp2
         go_meet
         case rel => exact ⟨(by show OwnF _ _ _ _ _ _ _; rw [← HZ1.out]; exact HKA.out.fail a 5), failW_below (HBA.out.mono hBg) HK.out.bg _ _ _, HXA.out.off HO.out (by decide), own_base (own_off HOA.out HO.out (by decide)) (by omega)⟩
        ·have HZ1 : Hid (y = Z) := by have := HZ.out; rw [if_neg (by simp), if_neg (by rw [HOK.out]; simp), if_neg (by rw [HFD.out]; exact hdup)] at this; exact this
         have hdb : decide ((0 : Int) ≤ ft) = false := by rw [decide_eq_false_iff_not]; exact hdup
         go_wp2
         go_meet
         case rel => exact ⟨(by show OwnF _ _ _ _ _ _ _; rw [← HZ1.out]; exact HKA.out), HBA.out.mono hBg, HXA.out, own_base HOA.out (by omega)⟩
       ·have hok2 : okName tn = false := by simpa using hok
        have HZ1 : Hid (y.fail a 4 = Z) := by have := HZ.out; rw [if_neg (by simp), if_pos hok2] at this; exact this
        have HOK := Lib.hid hok2
        have HC := Lib.hid (rfail_any a 4 wo HKR.out.blk)
        clear hok hok2
        go_wp2_with fail
        refine HVN.out.mono ?_
        rintro en wv ⟨rfl, rfl⟩
        rw [HOK.out]
        clear HVN
        go_wp2_with fail
        refine HC.out.mono ?_
        rintro en w6 ⟨rfl, rfl⟩
        have HO := Lib.hid (failW_off HKR.out.blk y a 4)
        go_wp2
        go_meet
        case rel => exact ⟨(by show OwnF _ _ _ _ _ _ _; rw [← HZ1.out]; exact HKR.out.fail a 4), failW_below (HBB.out.mono hBg) HK.out.bg _ _ _, HXB.out.off HO.out (by decide), own_base (own_off HOWN.out HO.out (by decide)) (by omega)⟩
     case rest =>
      obtain ⟨HKA, HBA, HXA, HOA⟩ := hcut
      clear HXB HKR HOWN HBB
      obtain ⟨wa, rfl⟩ : ∃ wa : World, wa = wc := ⟨_, rfl⟩
      have HTZ : Hid (Z.texts = y.texts) := by
       show _ = _
       rw [← HZ.out]
       split
       ·exact (fail_same y a 11).2.1
       ·split
        ·exact (fail_same y a 4).2.1
        ·split
         ·exact (fail_same y a 5).2.1
         ·rfl
      have e9 : wa.cell? ⟨g, 9, none⟩ = some (.bool Z.tx) := HKA.out.blk.cell 9
      have f9 := HKA.out.blk.free 9
      have HKB := Lib.hid (HKA.out.flag true)
      have HBB := Lib.hid (HBA.out.setCell (p := ⟨g, 9, none⟩) HK.out.bg (.bool true))
      have HO9 := Lib.hid (Off.set_ HKA.out.blk 9 (.bool true))
      have HXB : Hid (Blk (wa.setCell ⟨g, 9, none⟩ (.bool true)) (w.heap.size + 1) 66 #[str tn, .int .i64 (nt : Nat), .int .i64 0, .slice MA Mn Mc]) := HXA.out.off HO9.out (by decide)
      have HOB : Hid ((wa.setCell ⟨g, 9, none⟩ (.bool true)).ownsRow B 84 2 (.slice MA Mn Mc) Mn ((ks.filter fun p => !isId p).flatMap prV)) := own_off HOA.out HO9.out (by decide)
      have hszW : w.heap.size ≤ (wa.setCell ⟨g, 9, none⟩ (.bool true)).heap.size := HBB.out.size
      go_upto_region 21 with (fail)
      generalize wa.setCell ⟨g, 9, none⟩ (.bool true) = wb at HKB HBB HXB HOB hszW ⊢
      clear e9 f9 HKA HBA HO9 HXA HOA
      obtain ⟨Lx, hLx, OWNA, hWx⟩ := HKB.out.x
      have HXlt : Hid (∀ b, (Value.slice Ax nx cx).ownBlock = some b → b ≠ w.heap.size + 1) := fun b hb e => by
       subst e
       obtain ⟨L', _, o', _⟩ := HK.out.x
       have := (o'.lt _ hb).2
       omega
      have hS20 := (⟨HKB.out.drew.blk.cell 3, HXB.out.cell 0, HXB.out.cell 1, HXB.out.cell 2, HXB.out.cell 3⟩ : wb.drew.cell? ⟨g, 3, none⟩ = some (Value.slice Ax nx cx) ∧ wb.drew.cell? ⟨w.heap.size + 1, 0, none⟩ = some (str tn) ∧ wb.drew.cell? ⟨w.heap.size + 1, 1, none⟩ = some (.int .i64 (nt : Nat)) ∧ wb.drew.cell? ⟨w.heap.size + 1, 2, none⟩ = some (.int .i64 0) ∧ wb.drew.cell? ⟨w.heap.size + 1, 3, none⟩ = some (.slice MA Mn Mc))
      have HBA1 : Hid (Below wb.heap.size wb (wb.alloc (.cells #[str tn, .int .i64 (nt : Nat), .int .i64 0, .slice MA Mn Mc] 66))) := (Below.refl _ _).alloc (Nat.le_refl _) _
      have KA1 := Lib.hid ((HKB.out.below HBA1.out).drew)
      have HXB1 : Hid (Blk (wb.alloc (.cells #[str tn, .int .i64 (nt : Nat), .int .i64 0, .slice MA Mn Mc] 66)).drew (w.heap.size + 1) 66 #[str tn, .int .i64 (nt : Nat), .int .i64 0, .slice MA Mn Mc]) := (HXB.out.below HBA1.out).off (R := 4294967295) (Off.drew _) (by decide)
      have hS20a := (⟨KA1.out.blk.cell 3, HXB1.out.cell 0, HXB1.out.cell 1, HXB1.out.cell 2, HXB1.out.cell 3⟩ : (wb.alloc (.cells #[str tn, .int .i64 (nt : Nat), .int .i64 0, .slice MA Mn Mc] 66)).drew.cell? ⟨g, 3, none⟩ = some (Value.slice Ax nx cx) ∧ (wb.alloc (.cells #[str tn, .int .i64 (nt : Nat), .int .i64 0, .slice MA Mn Mc] 66)).drew.cell? ⟨w.heap.size + 1, 0, none⟩ = some (str tn) ∧ (wb.alloc (.cells #[str tn, .int .i64 (nt : Nat), .int .i64 0, .slice MA Mn Mc] 66)).drew.cell? ⟨w.heap.size + 1, 1, none⟩ = some (.int .i64 (nt : Nat)) ∧ (wb.alloc (.cells #[str tn, .int .i64 (nt : Nat), .int .i64 0, .slice MA Mn Mc] 66)).drew.cell? ⟨w.heap.size + 1, 2, none⟩ = some (.int .i64 0) ∧ (wb.alloc (.cells #[str tn, .int .i64 (nt : Nat), .int .i64 0, .slice MA Mn Mc] 66)).drew.cell? ⟨w.heap.size + 1, 3, none⟩ = some (.slice MA Mn Mc))
      have OWNX : Hid ((wb.alloc (.cells #[str tn, .int .i64 (nt : Nat), .int .i64 0, .slice MA Mn Mc] 66)).drew.ownsRow B 66 4 (.slice Ax nx cx) nx (Lx.flatMap txV)) := own_off (own_below OWNA HBA1.out) (Off.drew (R := 4294967295) _) (by decide)
      have hsza : B ≤ wb.heap.size := Nat.le_trans hBg hszW
      have hnt : nt ≤ 4096 := by omega
      have HLx := Lib.hid hLx
      have HWx := Lib.hid hWx
      clear hLx hWx OWNA
      refine wp_region_m (fun W => W.cell? ⟨g, 3, none⟩ = some (Value.slice Ax nx cx) ∧ W.cell? ⟨w.heap.size + 1, 0, none⟩ = some (str tn) ∧ W.cell? ⟨w.heap.size + 1, 1, none⟩ = some (.int .i64 (nt : Nat)) ∧ W.cell? ⟨w.heap.size + 1, 2, none⟩ = some (.int .i64 0) ∧ W.cell? ⟨w.heap.size + 1, 3, none⟩ = some (.slice MA Mn Mc)) 12 (by as_aux_lemma => kernel_rfl) (hS20) (fun hHeld => ?_)
      refine wpAnyM_take (i := 0) (v := ?_) rfl (by as_aux_lemma => kernel_rfl) (by as_aux_lemma => kernel_rfl) (by as_aux_lemma => kernel_rfl) (by as_aux_lemma => kernel_rfl) (fun _ _ _ h => h) (Or.inl ⟨by rfl, ?_⟩) (hHeld) ?_
      rotate_left
      ·((intro W hSw); (try dsimp only at hSw); go_simp; try (with_reducible rfl))
      simp only [List.getElem_toArray, List.getElem_cons_zero, List.getElem_cons_succ, Act.put, List.setIfInBounds_toArray, List.set_cons_zero, List.set_cons_succ]
      refine wpAnyM_take (i := 1) (v := ?_) rfl (by as_aux_lemma => kernel_rfl) (by as_aux_lemma => kernel_rfl) (by as_aux_lemma => kernel_rfl) (by as_aux_lemma => kernel_rfl) (fun _ _ _ h => h) (Or.inl ⟨by rfl, ?_⟩) (hHeld) ?_
      rotate_left
      ·((intro W hSw); (try dsimp only at hSw); go_simp; try (with_reducible rfl))
      simp only [List.getElem_toArray, List.getElem_cons_zero, List.getElem_cons_succ, Act.put, List.setIfInBounds_toArray, List.set_cons_zero, List.set_cons_succ]
      refine wpAnyM_take (i := 2) (v := ?_) rfl (by as_aux_lemma => kernel_rfl) (by as_aux_lemma => kernel_rfl) (by as_aux_lemma => kernel_rfl) (by as_aux_lemma => kernel_rfl) (fun _ _ _ h => h) (Or.inl ⟨by rfl, ?_⟩) (hHeld) ?_
      rotate_left
      ·((intro W hSw); (try dsimp only at hSw); go_simp; try (with_reducible rfl))
      simp only [List.getElem_toArray, List.getElem_cons_zero, List.getElem_cons_succ, Act.put, List.setIfInBounds_toArray, List.set_cons_zero, List.set_cons_succ]
      refine wpAnyM_take (i := 3) (v := ?_) rfl (by as_aux_lemma => kernel_rfl) (by as_aux_lemma => kernel_rfl) (by as_aux_lemma => kernel_rfl) (by as_aux_lemma => kernel_rfl) (fun _ _ _ h => h) (Or.inl ⟨by rfl, ?_⟩) (hHeld) ?_
      rotate_left
      ·((intro W hSw); (try dsimp only at hSw); go_simp; try (with_reducible rfl))
      simp only [List.getElem_toArray, List.getElem_cons_zero, List.getElem_cons_succ, Act.put, List.setIfInBounds_toArray, List.set_cons_zero, List.set_cons_succ]
      refine wpAnyM_take (i := 4) (v := ?_) rfl (by as_aux_lemma => kernel_rfl) (by as_aux_lemma => kernel_rfl) (by as_aux_lemma => kernel_rfl) (by as_aux_lemma => kernel_rfl) (fun _ _ _ h => h) (Or.inl ⟨by rfl, ?_⟩) (hHeld) ?_
      rotate_left
      ·((intro W hSw); (try dsimp only at hSw); go_simp; try (with_reducible rfl))
      simp only [List.getElem_toArray, List.getElem_cons_zero, List.getElem_cons_succ, Act.put, List.setIfInBounds_toArray, List.set_cons_zero, List.set_cons_succ]
      refine wpAnyM_take (i := 5) (v := ?_) rfl (by as_aux_lemma => kernel_rfl) (by as_aux_lemma => kernel_rfl) (by as_aux_lemma => kernel_rfl) (by as_aux_lemma => kernel_rfl) (fun _ _ _ h => h) (Or.inl ⟨by rfl, ?_⟩) (hHeld) ?_
      rotate_left
      ·((intro W hSw); (try dsimp only at hSw); go_simp; try (with_reducible rfl))
      simp only [List.getElem_toArray, List.getElem_cons_zero, List.getElem_cons_succ, Act.put, List.setIfInBounds_toArray, List.set_cons_zero, List.set_cons_succ]
      refine wpAnyM_take (i := 6) (v := ?_) rfl (by as_aux_lemma => kernel_rfl) (by as_aux_lemma => kernel_rfl) (by as_aux_lemma => kernel_rfl) (by as_aux_lemma => kernel_rfl) (fun _ _ _ h => h) (Or.inl ⟨by rfl, ?_⟩) (hHeld) ?_
      rotate_left
      ·((intro W hSw); (try dsimp only at hSw); go_simp; try (with_reducible rfl))
      simp only [List.getElem_toArray, List.getElem_cons_zero, List.getElem_cons_succ, Act.put, List.setIfInBounds_toArray, List.set_cons_zero, List.set_cons_succ]
      refine wpAnyM_one (i := 7) (by as_aux_lemma => kernel_rfl) rfl (fun K hK => ?_)
      go_simp
      refine hK.out _ _ (fun _ => hS20a) ?_
      clear hK K
      try simp only [List.getElem_toArray, List.getElem_cons_zero, List.getElem_cons_succ, Act.put, List.setIfInBounds_toArray, List.set_cons_zero, List.set_cons_succ]
      refine wpAnyM_one (i := 8) (by as_aux_lemma => kernel_rfl) rfl (fun K hK => ?_)
      refine step_app _ rfl (.tmp 88) (.tmp 90) _ rfl B 66 i1 _ 4 56 Tryz.underlying24 hi1 hy0 hy1 hy2 rfl (by decide) (.slice Ax nx cx) nx (Lx.flatMap txV) (by rfl) OWNX.out (some ⟨wb.heap.size, 0, none⟩) 1 1 (txV (⟨tn, (nt : Nat), 0, ks.filter fun p => !Vert.isId p⟩, ⟨MA, Mn, Mc⟩)) (by rfl) rfl (fun _ => ⟨_, rfl, news_four rfl⟩) (txV_one7 [_]) (by unfold maxLen; omega) (by omega) (by simp; omega) ?_
      intro v3 w3 own3 gr3 ob3
      obtain ⟨A3, c3', rfl, -, -⟩ := own_slc own3
      have B3 := (KA1.out.blk.off (Off.grown OWNX.out gr3) (by decide))
      have BX3 : Blk w3 (w.heap.size + 1) 66 #[str tn, .int .i64 (nt : Nat), .int .i64 0, .slice MA Mn Mc] := (gr3.block (w.heap.size + 1) HXB1.out.lt (fun e => HXlt.out _ e.symm rfl)).trans HXB1.out
      have S20_ : w3.cell? ⟨g, 3, none⟩ = some (Value.slice Ax nx cx) ∧ w3.cell? ⟨w.heap.size + 1, 0, none⟩ = some (str tn) ∧ w3.cell? ⟨w.heap.size + 1, 1, none⟩ = some (.int .i64 (nt : Nat)) ∧ w3.cell? ⟨w.heap.size + 1, 2, none⟩ = some (.int .i64 0) ∧ w3.cell? ⟨w.heap.size + 1, 3, none⟩ = some (.slice MA Mn Mc) := ⟨B3.cell 3, BX3.cell 0, BX3.cell 1, BX3.cell 2, BX3.cell 3⟩
      have f3 := B3.free 3
      clear B3 BX3
      refine hK.out _ _ (fun _ => S20_) ?_
      clear hK K
      try simp only [List.getElem_toArray, List.getElem_cons_zero, List.getElem_cons_succ, Act.put, List.setIfInBounds_toArray, List.set_cons_zero, List.set_cons_succ]
      refine wpAnyM_one (i := 9) (by as_aux_lemma => kernel_rfl) rfl (fun K hK => ?_)
      go_simp
      refine hK.out _ _ (fun _ => S20_) ?_
      clear hK K
      try simp only [List.getElem_toArray, List.getElem_cons_zero, List.getElem_cons_succ, Act.put, List.setIfInBounds_toArray, List.set_cons_zero, List.set_cons_succ]
      refine wpAnyM_one (i := 10) (by as_aux_lemma => kernel_rfl) rfl (fun K hK => ?_)
      go_simp
      refine hK.out _ _ (fun _ => S20_) ?_
      clear hK K
      try simp only [List.getElem_toArray, List.getElem_cons_zero, List.getElem_cons_succ, Act.put, List.setIfInBounds_toArray, List.set_cons_zero, List.set_cons_succ]
      refine wpAnyM_one (i := 11) (by as_aux_lemma => kernel_rfl) rfl (fun K hK => ?_)
      go_simp
      refine hK.out _ _ (fun _ => S20_) ?_
      clear hK K
      try simp only [List.getElem_toArray, List.getElem_cons_zero, List.getElem_cons_succ, Act.put, List.setIfInBounds_toArray, List.set_cons_zero, List.set_cons_succ]
      refine wpAnyM_one (i := 12) (by as_aux_lemma => kernel_rfl) rfl (fun K hK => ?_)
      go_simp
      refine hK.out _ _ (fun h => absurd rfl h) ?_
      clear hK K
      try simp only [List.getElem_toArray, List.getElem_cons_zero, List.getElem_cons_succ, Act.put, List.setIfInBounds_toArray, List.set_cons_zero, List.set_cons_succ]
      refine wpAnyM_done (by as_aux_lemma => kernel_rfl) (NoPanic.normal ?_) _
      have HY : OwnT (wb.alloc (.cells #[str tn, .int .i64 (nt : Nat), .int .i64 0, .slice MA Mn Mc] 66)).drew B (⟨tn, (nt : Nat), 0, ks.filter fun p => !isId p⟩, ⟨MA, Mn, Mc⟩) :=
       ⟨hlt.out, ⟨by show _ ≤ ((nt : Nat) : Int); omega, by show ((nt : Nat) : Int) ≤ _; omega⟩, ⟨by show _ ≤ (0 : Int); omega, by show (0 : Int) ≤ _; omega⟩, own_off (own_below HOB.out HBA1.out) (Off.drew (R := 4294967295) _) (by decide), fun p hp => hks p (List.mem_filter.1 hp).1⟩
      have HPP := Lib.hid (KA1.out.push_x (L := Lx) (z := (⟨tn, (nt : Nat), 0, ks.filter fun p => !isId p⟩, ⟨MA, Mn, Mc⟩)) HLx.out OWNX.out (fun z hz => ((HWx.out z hz).off (R := 4294967295) (Off.alloc wb _) (by decide)).off (R := 4294967295) (Off.drew _) (by decide)) HY own3 gr3 (by show Z.texts.length < 64; rw [HTZ.out]; omega))
      have B5 : Hid (Below B w (w3.setCell ⟨g, 3, none⟩ (.slice A3 (nx + 1) c3'))) := (((HBB.out.trans (HBA1.out.drew.mono hsza)).grown gr3 (Nat.le_trans hsza (by simp)) (fun j hj => (OWNX.out.lt j hj).1))).setCell (p := ⟨g, 3, none⟩) HK.out.bg _
      clear own3 gr3 ob3 HY hS20 hS20a hHeld S20_ f3
      go_wp2
      go_end0
      rw [HFB.out, ← HTZ.out]
      exact ⟨rfl, B5.out, _, HPP.out⟩
end Go.Proofs.YtgkdaebiefhgdaaGreatDoor
