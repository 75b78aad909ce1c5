/-
 The contract of the reference's reader: a tag line. Conditions: the state is one of a reading, the line lies in the text.
-/
import Derived.Test.YtgkdaebiefhgdaaGreatDoorPRefCb
import Derived.Test.YtgkdaebiefhgdaaGreatDoorPMarkRefParse
import Derived.Test.YtgkdaebiefhgdaaGreatDoorPVertLn
import Derived.Deep.CutBlock
namespace Go.Proofs.YtgkdaebiefhgdaaGreatDoor
set_option linter.unusedSimpArgs false
set_option linter.unusedVariables false
open Go.RowKit Utf
open Feat (Bs)
open Tagp (KV okName)
open Vert (tagOf)
attribute [local go_sem] byte_mk ByteArray.extract_mk
section
variable {w w1 : World} {B g : Nat} {h : RfH} {d : Bs} {ats : List At} {y : Rf}
theorem OwnF.push_r {L : List TH} (k : OwnF w B g h d ats y) (hL : L.map Prod.fst = y.regs) (ho : w.ownsRow B 69 4 h.r.v h.r.n (L.flatMap txV)) (hW : ∀ z ∈ L, OwnT w B z) {z : TH} (hz : OwnT w B z)
  {A' : Option Addr} {n' c' : Nat} (own' : w1.ownsRow B 69 4 (.slice A' n' c') n' (L.flatMap txV ++ txV z)) (gr : w.grownBy w1 h.r.v.ownBlock) (hok : RfOk { y with regs := y.regs ++ [z.1] }) :
  OwnF (w1.setCell ⟨g, 4, none⟩ (.slice A' n' c')) B g { h with r := ⟨A', n', c'⟩ } d ats { y with regs := y.regs ++ [z.1] } := by
 have f1 := Off.grown ho gr
 have b1 := k.blk.off f1 (by decide)
 have f2 := Off.set_ b1 4 (.slice A' n' c')
 exact ⟨b1.set_ 4 _, k.bg, (k.a.off f1 (by decide)).off f2 (by decide), (k.t.off f1 (by decide) (by decide)).off f2 (by decide) (by decide), (k.x.off f1 (by decide) (by decide)).off f2 (by decide) (by decide),
  ⟨L ++ [z], by simp [hL], by simpa using own_off own' f2 (by decide), fun u hu => by
   rcases List.mem_append.1 hu with hu | hu
   ·exact ((hW u hu).off f1 (by decide)).off f2 (by decide)
   ·simp at hu; subst hu; exact (hz.off f1 (by decide)).off f2 (by decide)⟩, (k.o.off f1 (by decide)).off f2 (by decide), hok⟩
end
set_option maxRecDepth 100000 in
set_option maxHeartbeats 8000000 in
theorem rtag7_any (B g : Nat) (h : RfH) (d : Bs) (ats : List At) (y : Rf) (pre s post : Bs) (a b : Nat) (w : World) (k : OwnF w B g h d ats y) (hxx : y.tx = true → y.texts ≠ []) (hoi : ∀ i ∈ y.opn, i < y.regs.length) (hd : d = pre ++ (s ++ post)) (ha : pre.length = a) (hb : a + s.length = b) (hdl : d.length ≤ 1048576) :
  Calls Tryz.prog 26 #[.pointer (some ⟨g, 0, none⟩), .int .i64 (a : Nat), .int .i64 (b : Nat)] w (StepF B g d ats w (y.fTag a s)) := by
 obtain ⟨⟨Aa, na, ca⟩, ⟨At', nt, ct⟩, ⟨Ax, nx, cx⟩, ⟨Ar, nr, cr⟩, ⟨Ao, no, co⟩⟩ := h
 have hBg := k.Bg
 have hr : y.regs.length = nr := k.r.len
 have ho : y.opn.length = no := k.o.len
 have ht : y.toks.length = nt := k.t.reads.len
 have kt := k.ok.t
 have kr := k.ok.r
 have ko := k.ok.o
 have hbd : b ≤ d.length := by rw [hd]; simp; omega
 have hSL : ∀ W, (Instr.slice 9 (str d) (some (.int .i64 ((a : Nat) : Int))) (some (.int .i64 ((b : Nat) : Int))) none).run Tryz.prog W = .ok (str s) W := fun W => by
  rw [str_mid 9 (by kernel_rfl) d a b (by omega) hbd W]
  have : (d.drop a).take (b - a) = s := by
   rw [hd, List.drop_append, List.drop_eq_nil_of_le (by omega), List.nil_append, show a - pre.length = 0 by omega, List.drop_zero, List.take_append_of_le_length (by omega), List.take_of_length_le (by omega)]
  rw [this]
 have c0 : w.cell? ⟨g, 0, none⟩ = some (str d) := k.blk.cell 0
 have HK := Lib.hid k
 have HXX := Lib.hid hxx
 have HOI := Lib.hid hoi
 have HPT := Lib.hid (refParseTag_any s w (by omega))
 have hgk := tagOf_keys s
 have hnl := tagOf_name s
 obtain ⟨cl, nm, ks, at_, er, hto⟩ : ∃ cl nm ks at_ er, tagOf s = ((cl, nm, ks), at_, er) := ⟨_, _, _, _, _, rfl⟩
 have hat := tagOf_at s
 unfold Parsed at HPT
 rw [show parseP s = ((cl, nm, ks), at_, er) from hto] at HPT
 rw [hto] at hgk hnl hat
 dsimp only at HPT hgk hnl hat
 have HTO := Lib.hid hto
 have HGK := Lib.hid hgk
 obtain ⟨kn, hkn⟩ : ∃ kn, ks.length = kn := ⟨_, rfl⟩
 rw [hkn] at HPT
 have hk8 : kn ≤ 8 := by have := HGK.out.1; omega
 have HFT : Hid (y.fTag a s = if er ≠ 0 then y.fail (a + at_) er else y.fTagOk cl nm ks a) := by show _ = _; unfold Rf.fTag; rw [HTO.out]
 clear hto hgk k hxx hd hoi
 go_enter Tryz.func26, Tryz.ntmps26
 go_wp2_with fail
 refine HPT.out.mono ?_
 rintro en w2 ⟨v, rfl, own2, hb2⟩
 obtain ⟨A2, c2, rfl, -, -⟩ := own_slc own2
 have hsz2 : w.heap.size ≤ w2.heap.size := hb2.size
 have HBW : Hid (Below w.heap.size w (w2.alloc (.cells #[.bool cl, str nm, .slice A2 kn c2] 89))) := hb2.alloc hsz2 _
 have hb3 : Below w2.heap.size w2 (w2.alloc (.cells #[.bool cl, str nm, .slice A2 kn c2] 89)) := (Below.refl _ _).alloc (Nat.le_refl _) _
 have HKW := Lib.hid (HK.out.below HBW.out)
 have HTW := Lib.hid (Blk.new w2 89 #[.bool cl, str nm, .slice A2 kn c2])
 have HOW : Hid ((w2.alloc (.cells #[.bool cl, str nm, .slice A2 kn c2] 89)).ownsRow B 84 2 (.slice A2 kn c2) kn (ks.flatMap prV)) := own_below (own_base own2 (by omega)) hb3
 clear own2 hb2 hb3 HPT c0
 go_upto_block 0 with (fail)
 have HBB : Hid (Below B w (w2.alloc (.cells #[.bool cl, str nm, .slice A2 kn c2] 89))) := HBW.out.mono hBg
 obtain ⟨gt, hgt⟩ : ∃ gt, w2.heap.size = gt := ⟨_, rfl⟩
 rw [hgt] at HTW hsz2 ⊢
 clear hgt
 generalize w2.alloc (.cells #[.bool cl, str nm, .slice A2 kn c2] 89) = w3 at HBW HKW HTW HOW HBB ⊢
 have t0 : w3.cell? ⟨gt, 0, none⟩ = some (.bool cl) := HTW.out.cell 0
 have t1 : w3.cell? ⟨gt, 1, none⟩ = some (str nm) := HTW.out.cell 1
 have t2 : w3.cell? ⟨gt, 2, none⟩ = some (.slice A2 kn c2) := HTW.out.cell 2
 by_cases he : er = 0
 ·subst he
  rw [if_neg (by simp)] at HFT
  by_cases hnt : nm = [116, 101, 120, 116]
  ·have hq : (nm == [116, 101, 120, 116]) = true := by rw [beq_iff_eq]; exact hnt
   cases cl with
   | false =>
    have HR : Hid (y.fTag a s = y.fBegin ks a) := by show _ = _; rw [HFT.out]; unfold Rf.fTagOk; rw [if_pos (show nm = Vert.text from hnt), if_neg (by simp)]
    have HC := Lib.hid (rbegin_any B g ⟨⟨Aa, na, ca⟩, ⟨At', nt, ct⟩, ⟨Ax, nx, cx⟩, ⟨Ar, nr, cr⟩, ⟨Ao, no, co⟩⟩ d ats y false nm A2 kn c2 ks a w3 HKW.out HOW.out (fun p hp => goodK_len HGK.out p hp) (by omega))
    clear hnt
    go_wp2_with fail
    refine HC.out.mono ?_
    rintro en w4 ⟨rfl, hb4, h4, hk4⟩
    have HB4 := Lib.hid (HBB.out.trans hb4)
    have HK4 := Lib.hid hk4
    clear hb4 hk4 t0 t1 t2
    go_wp2
    go_end0
    rw [HR.out]
    exact ⟨rfl, HB4.out, _, HK4.out⟩
   | true =>
    have HR : Hid (y.fTag a s = y.fEnd a) := by show _ = _; rw [HFT.out]; unfold Rf.fTagOk; rw [if_pos (show nm = Vert.text from hnt), if_pos rfl]
    have HC := Lib.hid (rend_any B g ⟨⟨Aa, na, ca⟩, ⟨At', nt, ct⟩, ⟨Ax, nx, cx⟩, ⟨Ar, nr, cr⟩, ⟨Ao, no, co⟩⟩ d ats y a w3 HKW.out HXX.out)
    clear hnt
    go_wp2_with fail
    refine HC.out.mono ?_
    rintro en w4 ⟨rfl, hb4, h4, hk4⟩
    have HB4 := Lib.hid (HBB.out.trans hb4)
    have HK4 := Lib.hid hk4
    clear hb4 hk4 t0 t1 t2
    go_wp2
    go_end0
    rw [HR.out]
    exact ⟨rfl, HB4.out, _, HK4.out⟩
  ·have hq : (nm == [116, 101, 120, 116]) = false := by rw [beq_eq_false_iff_ne]; exact hnt
   have c9 : w3.cell? ⟨g, 9, none⟩ = some (.bool y.tx) := HKW.out.blk.cell 9
   by_cases htx : y.tx = false
   ·have HR : Hid (y.fTag a s = y.fail a 17) := by show _ = _; rw [HFT.out]; unfold Rf.fTagOk; rw [if_neg (show ¬ nm = Vert.text from hnt), if_pos htx]
    have HC := Lib.hid (rfail_any a 17 w3 HKW.out.blk)
    rw [htx] at c9
    clear hnt htx
    go_wp2_with fail
    refine HC.out.mono ?_
    rintro en w4 ⟨rfl, rfl⟩
    go_wp2
    go_end0
    rw [HR.out]
    exact ⟨rfl, failW_below HBB.out HK.out.bg _ _ _, _, HKW.out.fail a 17⟩
   ·have htx1 : y.tx = true := by simpa using htx
    rw [htx1] at c9
    cases cl with
    | true =>
     have HR : Hid (y.fTag a s = y.fClose nm a) := by show _ = _; rw [HFT.out]; unfold Rf.fTagOk; rw [if_neg (show ¬ nm = Vert.text from hnt), if_neg htx, if_neg (by simp)]
     have HC := Lib.hid (rclose_any B g ⟨⟨Aa, na, ca⟩, ⟨At', nt, ct⟩, ⟨Ax, nx, cx⟩, ⟨Ar, nr, cr⟩, ⟨Ao, no, co⟩⟩ d ats y nm a w3 HKW.out HOI.out)
     clear hnt htx htx1
     go_wp2_with fail
     refine HC.out.mono ?_
     rintro en w4 ⟨rfl, hb4, h4, hk4⟩
     have HB4 := Lib.hid (HBB.out.trans hb4)
     have HK4 := Lib.hid hk4
     clear hb4 hk4 t0 t1 t2 c9
     go_wp2
     go_end0
     rw [HR.out]
     exact ⟨rfl, HB4.out, _, HK4.out⟩
    | false =>
     have HFO : Hid (y.fTag a s = if 1024 ≤ nr ∨ 40 ≤ no then y.fail a 2 else { y with opn := y.opn ++ [nr], regs := y.regs ++ [⟨nm, (nt : Int), 0, ks⟩] }) := by show _ = _; rw [HFT.out]; unfold Rf.fTagOk; rw [if_neg (show ¬ nm = Vert.text from hnt), if_neg htx, if_pos rfl, hr, ho, ht]
     have c4 : w3.cell? ⟨g, 4, none⟩ = some (Value.slice Ar nr cr) := HKW.out.blk.cell 4
     have c8 : w3.cell? ⟨g, 8, none⟩ = some (Value.slice Ao no co) := HKW.out.blk.cell 8
     clear hnt htx htx1
     by_cases h1 : 1024 ≤ nr
     ·rw [if_pos (.inl h1)] at HFO
      have HC := Lib.hid (rfail_any a 2 w3 HKW.out.blk)
      go_wp2_with fail
      refine HC.out.mono ?_
      rintro en w4 ⟨rfl, rfl⟩
      go_wp2
      go_end0
      rw [HFO.out]
      exact ⟨rfl, failW_below HBB.out HK.out.bg _ _ _, _, HKW.out.fail a 2⟩
     ·by_cases h2 : 40 ≤ no
      ·rw [if_pos (.inr h2)] at HFO
       have HC := Lib.hid (rfail_any a 2 w3 HKW.out.blk)
       go_wp2_with fail
       refine HC.out.mono ?_
       rintro en w4 ⟨rfl, rfl⟩
       go_wp2
       go_end0
       rw [HFO.out]
       exact ⟨rfl, failW_below HBB.out HK.out.bg _ _ _, _, HKW.out.fail a 2⟩
      ·rw [if_neg (by omega)] at HFO
       obtain ⟨i0, hi0, hz0, hz1, hz2⟩ := info_parts info_regV
       go_upto_region 13 with (fail)
       clear t0 c9
       have hS1 : w3.drew.cell? ⟨g, 4, none⟩ = some (Value.slice Ar nr cr) ∧ w3.drew.cell? ⟨g, 8, none⟩ = some (Value.slice Ao no co) := ⟨c4, c8⟩
       have HKA := Lib.hid (HKW.out.drew.alloc (.cells #[.int .i64 (nr : Nat)] 3))
       have HBA := Lib.hid (HBB.out.drew.alloc HKW.out.drew.Bg (.cells #[.int .i64 (nr : Nat)] 3))
       have HTA := Lib.hid ((HTW.out.off (R := 4294967295) (Off.drew w3) (by decide)).alloc (.cells #[.int .i64 (nr : Nat)] 3))
       have HOA : Hid ((w3.drew.alloc (.cells #[.int .i64 (nr : Nat)] 3)).ownsRow B 84 2 (.slice A2 kn c2) kn (ks.flatMap prV)) := own_below (own_off HOW.out (Off.drew (R := 4294967295) _) (by decide)) ((Below.refl _ _).alloc (Nat.le_refl _) _)
       have hS1a : (w3.drew.alloc (.cells #[.int .i64 (nr : Nat)] 3)).cell? ⟨g, 4, none⟩ = some (Value.slice Ar nr cr) ∧ (w3.drew.alloc (.cells #[.int .i64 (nr : Nat)] 3)).cell? ⟨g, 8, none⟩ = some (Value.slice Ao no co) := ⟨HKA.out.blk.cell 4, HKA.out.blk.cell 8⟩
       have hnew : (w3.drew.alloc (.cells #[.int .i64 (nr : Nat)] 3)).cell? ((⟨w3.drew.heap.size, 0, none⟩ : Addr).add 0) = some (.int .i64 (nr : Nat)) := (Blk.new w3.drew 3 #[.int .i64 (nr : Nat)]).cell 0
       have HNEW := Lib.hid hnew
       clear hnew c4 c8 t1 t2
       refine wp_region_m (fun W => W.cell? ⟨g, 4, none⟩ = some (Value.slice Ar nr cr) ∧ W.cell? ⟨g, 8, none⟩ = some (Value.slice Ao no co)) 15 (by as_aux_lemma => kernel_rfl) (hS1) (fun hHeld => ?_)
       generalize w3.drew = wd at HKA HBA HTA HOA HNEW hS1 hS1a hHeld ⊢
       refine wpAnyM_take (i := 0) (v := ?_) rfl (by as_aux_lemma => kernel_rfl) (by as_aux_lemma => kernel_rfl) (by as_aux_lemma => kernel_rfl) (by as_aux_lemma => kernel_rfl) (fun _ _ _ h => h) (Or.inl ⟨by rfl, ?_⟩) (hHeld) ?_
       rotate_left
       ·((intro W hSw); (try dsimp only at hSw); go_simp; try (with_reducible rfl))
       simp only [List.getElem_toArray, List.getElem_cons_zero, List.getElem_cons_succ, Act.put, List.setIfInBounds_toArray, List.set_cons_zero, List.set_cons_succ]
       refine wpAnyM_take (i := 1) (v := ?_) rfl (by as_aux_lemma => kernel_rfl) (by as_aux_lemma => kernel_rfl) (by as_aux_lemma => kernel_rfl) (by as_aux_lemma => kernel_rfl) (fun _ _ _ h => h) (Or.inl ⟨by rfl, ?_⟩) (hHeld) ?_
       rotate_left
       ·((intro W hSw); (try dsimp only at hSw); go_simp; try (with_reducible rfl))
       simp only [List.getElem_toArray, List.getElem_cons_zero, List.getElem_cons_succ, Act.put, List.setIfInBounds_toArray, List.set_cons_zero, List.set_cons_succ]
       refine wpAnyM_take (i := 2) (v := ?_) rfl (by as_aux_lemma => kernel_rfl) (by as_aux_lemma => kernel_rfl) (by as_aux_lemma => kernel_rfl) (by as_aux_lemma => kernel_rfl) (fun _ _ _ h => h) (Or.inl ⟨by rfl, ?_⟩) (hHeld) ?_
       rotate_left
       ·((intro W hSw); (try dsimp only at hSw); go_simp; try (with_reducible rfl))
       simp only [List.getElem_toArray, List.getElem_cons_zero, List.getElem_cons_succ, Act.put, List.setIfInBounds_toArray, List.set_cons_zero, List.set_cons_succ]
       refine wpAnyM_take (i := 3) (v := ?_) rfl (by as_aux_lemma => kernel_rfl) (by as_aux_lemma => kernel_rfl) (by as_aux_lemma => kernel_rfl) (by as_aux_lemma => kernel_rfl) (fun _ _ _ h => h) (Or.inl ⟨by rfl, ?_⟩) (hHeld) ?_
       rotate_left
       ·((intro W hSw); (try dsimp only at hSw); go_simp; try (with_reducible rfl))
       simp only [List.getElem_toArray, List.getElem_cons_zero, List.getElem_cons_succ, Act.put, List.setIfInBounds_toArray, List.set_cons_zero, List.set_cons_succ]
       refine wpAnyM_take (i := 4) (v := ?_) rfl (by as_aux_lemma => kernel_rfl) (by as_aux_lemma => kernel_rfl) (by as_aux_lemma => kernel_rfl) (by as_aux_lemma => kernel_rfl) (fun _ _ _ h => h) (Or.inl ⟨by rfl, ?_⟩) (hHeld) ?_
       rotate_left
       ·((intro W hSw); (try dsimp only at hSw); go_simp; try (with_reducible rfl))
       simp only [List.getElem_toArray, List.getElem_cons_zero, List.getElem_cons_succ, Act.put, List.setIfInBounds_toArray, List.set_cons_zero, List.set_cons_succ]
       refine wpAnyM_take (i := 5) (v := ?_) rfl (by as_aux_lemma => kernel_rfl) (by as_aux_lemma => kernel_rfl) (by as_aux_lemma => kernel_rfl) (by as_aux_lemma => kernel_rfl) (fun _ _ _ h => h) (Or.inl ⟨by rfl, ?_⟩) (hHeld) ?_
       rotate_left
       ·((intro W hSw); (try dsimp only at hSw); go_simp; try (with_reducible rfl))
       simp only [List.getElem_toArray, List.getElem_cons_zero, List.getElem_cons_succ, Act.put, List.setIfInBounds_toArray, List.set_cons_zero, List.set_cons_succ]
       refine wpAnyM_take (i := 6) (v := ?_) rfl (by as_aux_lemma => kernel_rfl) (by as_aux_lemma => kernel_rfl) (by as_aux_lemma => kernel_rfl) (by as_aux_lemma => kernel_rfl) (fun _ _ _ h => h) (Or.inl ⟨by rfl, ?_⟩) (hHeld) ?_
       rotate_left
       ·((intro W hSw); (try dsimp only at hSw); go_simp; try (with_reducible rfl))
       simp only [List.getElem_toArray, List.getElem_cons_zero, List.getElem_cons_succ, Act.put, List.setIfInBounds_toArray, List.set_cons_zero, List.set_cons_succ]
       refine wpAnyM_take (i := 7) (v := ?_) rfl (by as_aux_lemma => kernel_rfl) (by as_aux_lemma => kernel_rfl) (by as_aux_lemma => kernel_rfl) (by as_aux_lemma => kernel_rfl) (fun _ _ _ h => h) (Or.inl ⟨by rfl, ?_⟩) (hHeld) ?_
       rotate_left
       ·((intro W hSw); (try dsimp only at hSw); go_simp; try (with_reducible rfl))
       simp only [List.getElem_toArray, List.getElem_cons_zero, List.getElem_cons_succ, Act.put, List.setIfInBounds_toArray, List.set_cons_zero, List.set_cons_succ]
       refine wpAnyM_take (i := 8) (v := ?_) rfl (by as_aux_lemma => kernel_rfl) (by as_aux_lemma => kernel_rfl) (by as_aux_lemma => kernel_rfl) (by as_aux_lemma => kernel_rfl) (fun _ _ _ h => h) (Or.inl ⟨by rfl, ?_⟩) (hHeld) ?_
       rotate_left
       ·((intro W hSw); (try dsimp only at hSw); go_simp; try (with_reducible rfl))
       simp only [List.getElem_toArray, List.getElem_cons_zero, List.getElem_cons_succ, Act.put, List.setIfInBounds_toArray, List.set_cons_zero, List.set_cons_succ]
       refine wpAnyM_take (i := 9) (v := ?_) rfl (by as_aux_lemma => kernel_rfl) (by as_aux_lemma => kernel_rfl) (by as_aux_lemma => kernel_rfl) (by as_aux_lemma => kernel_rfl) (fun _ _ _ h => h) (Or.inl ⟨by rfl, ?_⟩) (hHeld) ?_
       rotate_left
       ·((intro W hSw); (try dsimp only at hSw); go_simp; try (with_reducible rfl))
       simp only [List.getElem_toArray, List.getElem_cons_zero, List.getElem_cons_succ, Act.put, List.setIfInBounds_toArray, List.set_cons_zero, List.set_cons_succ]
       refine wpAnyM_take (i := 10) (v := ?_) rfl (by as_aux_lemma => kernel_rfl) (by as_aux_lemma => kernel_rfl) (by as_aux_lemma => kernel_rfl) (by as_aux_lemma => kernel_rfl) (fun _ _ _ h => h) (Or.inl ⟨by rfl, ?_⟩) (hHeld) ?_
       rotate_left
       ·((intro W hSw); (try dsimp only at hSw); go_simp; try (with_reducible rfl))
       simp only [List.getElem_toArray, List.getElem_cons_zero, List.getElem_cons_succ, Act.put, List.setIfInBounds_toArray, List.set_cons_zero, List.set_cons_succ]
       refine wpAnyM_one (i := 11) (by as_aux_lemma => kernel_rfl) rfl (fun K hK => ?_)
       go_simp
       refine hK.out _ _ (fun _ => hS1a) ?_
       clear hK K
       try simp only [List.getElem_toArray, List.getElem_cons_zero, List.getElem_cons_succ, Act.put, List.setIfInBounds_toArray, List.set_cons_zero, List.set_cons_succ]
       refine wpAnyM_one (i := 12) (by as_aux_lemma => kernel_rfl) rfl (fun K hK => ?_)
       refine step_open (h := ⟨Ao, no, co⟩) (l := y.opn) rfl (.tmp 90) (.tmp 97) rfl HKA.out.o HKA.out.Bg (by rfl) (by show no ≤ _; omega) ⟨wd.heap.size, 0, none⟩ nr (by rfl) HNEW.out ?_
       intro A6 c6 w6 ko6 f6 b6
       have HO6 := Lib.hid ko6
       have b7 := HKA.out.blk.off f6 (by decide)
       have hS6 : w6.cell? ⟨g, 4, none⟩ = some (Value.slice Ar nr cr) ∧ w6.cell? ⟨g, 8, none⟩ = some (Value.slice Ao no co) := ⟨b7.cell 4, b7.cell 8⟩
       have f8 := b7.free 8
       have HF6 := Lib.hid f6
       have HB6 := Lib.hid (HBA.out.trans b6)
       have HT6 := Lib.hid (HTA.out.off f6 (by decide))
       have HW6 := Lib.hid (own_off HOA.out f6 (by decide))
       clear ko6 f6 b6 b7
       refine hK.out _ _ (fun _ => hS6) ?_
       clear hK K
       try simp only [List.getElem_toArray, List.getElem_cons_zero, List.getElem_cons_succ, Act.put, List.setIfInBounds_toArray, List.set_cons_zero, List.set_cons_succ]
       refine wpAnyM_one (i := 13) (by as_aux_lemma => kernel_rfl) rfl (fun K hK => ?_)
       go_simp
       refine hK.out _ _ (fun _ => hS6) ?_
       clear hK K
       try simp only [List.getElem_toArray, List.getElem_cons_zero, List.getElem_cons_succ, Act.put, List.setIfInBounds_toArray, List.set_cons_zero, List.set_cons_succ]
       refine wpAnyM_one (i := 14) (by as_aux_lemma => kernel_rfl) rfl (fun K hK => ?_)
       go_simp
       refine hK.out _ _ (fun _ => hS6) ?_
       clear hK K
       try simp only [List.getElem_toArray, List.getElem_cons_zero, List.getElem_cons_succ, Act.put, List.setIfInBounds_toArray, List.set_cons_zero, List.set_cons_succ]
       refine wpAnyM_one (i := 15) (by as_aux_lemma => kernel_rfl) rfl (fun K hK => ?_)
       go_simp
       refine hK.out _ _ (fun h => absurd rfl h) ?_
       clear hK K
       try simp only [List.getElem_toArray, List.getElem_cons_zero, List.getElem_cons_succ, Act.put, List.setIfInBounds_toArray, List.set_cons_zero, List.set_cons_succ]
       refine wpAnyM_done (by as_aux_lemma => kernel_rfl) (NoPanic.normal ?_) _
       have HB7 := Lib.hid (HB6.out.setCell (p := ⟨g, 8, none⟩) HK.out.bg (.slice A6 (no + 1) c6))
       have hof8 := Off.set_ (HKA.out.blk.off HF6.out (by decide)) 8 (.slice A6 (no + 1) c6)
       have HT7 := Lib.hid (HT6.out.off hof8 (by decide))
       have HW7 := Lib.hid (own_off HW6.out hof8 (by decide))
       have HKO := Lib.hid (HKA.out.put_o HF6.out HO6.out (⟨HKA.out.ok.t, HKA.out.ok.x, HKA.out.ok.r, by show (y.opn ++ [nr]).length ≤ 40; simp; omega, HKA.out.ok.ks⟩ : RfOk { y with opn := y.opn ++ [nr] }))
       clear hHeld hS1 hS1a hS6 f8 hof8 HF6 HO6 HB6 HT6 HW6 HKA HBA HTA HOA HNEW
       generalize w6.setCell ⟨g, 8, none⟩ (.slice A6 (no + 1) c6) = w7 at HB7 HT7 HW7 HKO ⊢
       go_wp2
       go_upto_region 14 with (fail)
       obtain ⟨L, hL, hoL, hWL⟩ := HKO.out.r
       have hS2 : w7.drew.cell? ⟨g, 4, none⟩ = some (Value.slice Ar nr cr) ∧ w7.drew.cell? ⟨g, 2, none⟩ = some (Value.slice At' nt ct) ∧ w7.drew.cell? ⟨gt, 1, none⟩ = some (str nm) ∧ w7.drew.cell? ⟨gt, 2, none⟩ = some (.slice A2 kn c2) := ⟨HKO.out.drew.blk.cell 4, HKO.out.drew.blk.cell 2, HT7.out.cell 1, HT7.out.cell 2⟩
       have hba : Below w7.heap.size w7 (w7.alloc (.cells #[str nm, .int .i64 (nt : Nat), .int .i64 0, .slice A2 kn c2] 69)).drew := ((Below.refl _ _).alloc (Nat.le_refl _) _).drew
       have HKB := Lib.hid (HKO.out.below hba)
       have HTB := Lib.hid (HT7.out.below hba)
       have HBB2 := Lib.hid (HB7.out.trans (hba.mono HKO.out.Bg))
       have hS2a : (w7.alloc (.cells #[str nm, .int .i64 (nt : Nat), .int .i64 0, .slice A2 kn c2] 69)).drew.cell? ⟨g, 4, none⟩ = some (Value.slice Ar nr cr) ∧ (w7.alloc (.cells #[str nm, .int .i64 (nt : Nat), .int .i64 0, .slice A2 kn c2] 69)).drew.cell? ⟨g, 2, none⟩ = some (Value.slice At' nt ct) ∧ (w7.alloc (.cells #[str nm, .int .i64 (nt : Nat), .int .i64 0, .slice A2 kn c2] 69)).drew.cell? ⟨gt, 1, none⟩ = some (str nm) ∧ (w7.alloc (.cells #[str nm, .int .i64 (nt : Nat), .int .i64 0, .slice A2 kn c2] 69)).drew.cell? ⟨gt, 2, none⟩ = some (.slice A2 kn c2) := ⟨HKB.out.blk.cell 4, HKB.out.blk.cell 2, HTB.out.cell 1, HTB.out.cell 2⟩
       have OWN0 : Hid ((w7.alloc (.cells #[str nm, .int .i64 (nt : Nat), .int .i64 0, .slice A2 kn c2] 69)).drew.ownsRow B 69 4 (.slice Ar nr cr) nr (L.flatMap txV)) := own_below hoL hba
       have HY : Hid (OwnT (w7.alloc (.cells #[str nm, .int .i64 (nt : Nat), .int .i64 0, .slice A2 kn c2] 69)).drew B (⟨nm, (nt : Int), 0, ks⟩, ⟨A2, kn, c2⟩)) :=
        ⟨by show nm.length ≤ _; omega, ⟨by show _ ≤ (nt : Int); omega, by show (nt : Int) ≤ _; omega⟩, ⟨by show _ ≤ (0 : Int); omega, by show (0 : Int) ≤ _; omega⟩, own_below HW7.out hba, fun p hp => goodK_len HGK.out p hp⟩
       have HWL : Hid (∀ z ∈ L, OwnT (w7.alloc (.cells #[str nm, .int .i64 (nt : Nat), .int .i64 0, .slice A2 kn c2] 69)).drew B z) := fun z hz => (hWL z hz).off (R := 4294967295) (Off.below hba) (by decide)
       have hszq : B ≤ w7.heap.size := HKO.out.Bg
       have HLn := Lib.hid hL
       clear hba hL hoL hWL
       refine wp_region_m (fun W => W.cell? ⟨g, 4, none⟩ = some (Value.slice Ar nr cr) ∧ W.cell? ⟨g, 2, none⟩ = some (Value.slice At' nt ct) ∧ W.cell? ⟨gt, 1, none⟩ = some (str nm) ∧ W.cell? ⟨gt, 2, none⟩ = some (.slice A2 kn c2)) 22 (by as_aux_lemma => kernel_rfl) (hS2) (fun hHeld => ?_)
       refine wpAnyM_take (i := 0) (v := ?_) rfl (by as_aux_lemma => kernel_rfl) (by as_aux_lemma => kernel_rfl) (by as_aux_lemma => kernel_rfl) (by as_aux_lemma => kernel_rfl) (fun _ _ _ h => h) (Or.inl ⟨by rfl, ?_⟩) (hHeld) ?_
       rotate_left
       ·((intro W hSw); (try dsimp only at hSw); go_simp; try (with_reducible rfl))
       simp only [List.getElem_toArray, List.getElem_cons_zero, List.getElem_cons_succ, Act.put, List.setIfInBounds_toArray, List.set_cons_zero, List.set_cons_succ]
       refine wpAnyM_take (i := 1) (v := ?_) rfl (by as_aux_lemma => kernel_rfl) (by as_aux_lemma => kernel_rfl) (by as_aux_lemma => kernel_rfl) (by as_aux_lemma => kernel_rfl) (fun _ _ _ h => h) (Or.inl ⟨by rfl, ?_⟩) (hHeld) ?_
       rotate_left
       ·((intro W hSw); (try dsimp only at hSw); go_simp; try (with_reducible rfl))
       simp only [List.getElem_toArray, List.getElem_cons_zero, List.getElem_cons_succ, Act.put, List.setIfInBounds_toArray, List.set_cons_zero, List.set_cons_succ]
       refine wpAnyM_take (i := 2) (v := ?_) rfl (by as_aux_lemma => kernel_rfl) (by as_aux_lemma => kernel_rfl) (by as_aux_lemma => kernel_rfl) (by as_aux_lemma => kernel_rfl) (fun _ _ _ h => h) (Or.inl ⟨by rfl, ?_⟩) (hHeld) ?_
       rotate_left
       ·((intro W hSw); (try dsimp only at hSw); go_simp; try (with_reducible rfl))
       simp only [List.getElem_toArray, List.getElem_cons_zero, List.getElem_cons_succ, Act.put, List.setIfInBounds_toArray, List.set_cons_zero, List.set_cons_succ]
       refine wpAnyM_take (i := 3) (v := ?_) rfl (by as_aux_lemma => kernel_rfl) (by as_aux_lemma => kernel_rfl) (by as_aux_lemma => kernel_rfl) (by as_aux_lemma => kernel_rfl) (fun _ _ _ h => h) (Or.inl ⟨by rfl, ?_⟩) (hHeld) ?_
       rotate_left
       ·((intro W hSw); (try dsimp only at hSw); go_simp; try (with_reducible rfl))
       simp only [List.getElem_toArray, List.getElem_cons_zero, List.getElem_cons_succ, Act.put, List.setIfInBounds_toArray, List.set_cons_zero, List.set_cons_succ]
       refine wpAnyM_take (i := 4) (v := ?_) rfl (by as_aux_lemma => kernel_rfl) (by as_aux_lemma => kernel_rfl) (by as_aux_lemma => kernel_rfl) (by as_aux_lemma => kernel_rfl) (fun _ _ _ h => h) (Or.inl ⟨by rfl, ?_⟩) (hHeld) ?_
       rotate_left
       ·((intro W hSw); (try dsimp only at hSw); go_simp; try (with_reducible rfl))
       simp only [List.getElem_toArray, List.getElem_cons_zero, List.getElem_cons_succ, Act.put, List.setIfInBounds_toArray, List.set_cons_zero, List.set_cons_succ]
       refine wpAnyM_take (i := 5) (v := ?_) rfl (by as_aux_lemma => kernel_rfl) (by as_aux_lemma => kernel_rfl) (by as_aux_lemma => kernel_rfl) (by as_aux_lemma => kernel_rfl) (fun _ _ _ h => h) (Or.inl ⟨by rfl, ?_⟩) (hHeld) ?_
       rotate_left
       ·((intro W hSw); (try dsimp only at hSw); go_simp; try (with_reducible rfl))
       simp only [List.getElem_toArray, List.getElem_cons_zero, List.getElem_cons_succ, Act.put, List.setIfInBounds_toArray, List.set_cons_zero, List.set_cons_succ]
       refine wpAnyM_take (i := 6) (v := ?_) rfl (by as_aux_lemma => kernel_rfl) (by as_aux_lemma => kernel_rfl) (by as_aux_lemma => kernel_rfl) (by as_aux_lemma => kernel_rfl) (fun _ _ _ h => h) (Or.inl ⟨by rfl, ?_⟩) (hHeld) ?_
       rotate_left
       ·((intro W hSw); (try dsimp only at hSw); go_simp; try (with_reducible rfl))
       simp only [List.getElem_toArray, List.getElem_cons_zero, List.getElem_cons_succ, Act.put, List.setIfInBounds_toArray, List.set_cons_zero, List.set_cons_succ]
       refine wpAnyM_take (i := 7) (v := ?_) rfl (by as_aux_lemma => kernel_rfl) (by as_aux_lemma => kernel_rfl) (by as_aux_lemma => kernel_rfl) (by as_aux_lemma => kernel_rfl) (fun _ _ _ h => h) (Or.inl ⟨by rfl, ?_⟩) (hHeld) ?_
       rotate_left
       ·((intro W hSw); (try dsimp only at hSw); go_simp; try (with_reducible rfl))
       simp only [List.getElem_toArray, List.getElem_cons_zero, List.getElem_cons_succ, Act.put, List.setIfInBounds_toArray, List.set_cons_zero, List.set_cons_succ]
       refine wpAnyM_take (i := 8) (v := ?_) rfl (by as_aux_lemma => kernel_rfl) (by as_aux_lemma => kernel_rfl) (by as_aux_lemma => kernel_rfl) (by as_aux_lemma => kernel_rfl) (fun _ _ _ h => h) (Or.inl ⟨by rfl, ?_⟩) (hHeld) ?_
       rotate_left
       ·((intro W hSw); (try dsimp only at hSw); go_simp; try (with_reducible rfl))
       simp only [List.getElem_toArray, List.getElem_cons_zero, List.getElem_cons_succ, Act.put, List.setIfInBounds_toArray, List.set_cons_zero, List.set_cons_succ]
       refine wpAnyM_take (i := 9) (v := ?_) rfl (by as_aux_lemma => kernel_rfl) (by as_aux_lemma => kernel_rfl) (by as_aux_lemma => kernel_rfl) (by as_aux_lemma => kernel_rfl) (fun _ _ _ h => h) (Or.inl ⟨by rfl, ?_⟩) (hHeld) ?_
       rotate_left
       ·((intro W hSw); (try dsimp only at hSw); go_simp; try (with_reducible rfl))
       simp only [List.getElem_toArray, List.getElem_cons_zero, List.getElem_cons_succ, Act.put, List.setIfInBounds_toArray, List.set_cons_zero, List.set_cons_succ]
       refine wpAnyM_take (i := 10) (v := ?_) rfl (by as_aux_lemma => kernel_rfl) (by as_aux_lemma => kernel_rfl) (by as_aux_lemma => kernel_rfl) (by as_aux_lemma => kernel_rfl) (fun _ _ _ h => h) (Or.inl ⟨by rfl, ?_⟩) (hHeld) ?_
       rotate_left
       ·((intro W hSw); (try dsimp only at hSw); go_simp; try (with_reducible rfl))
       simp only [List.getElem_toArray, List.getElem_cons_zero, List.getElem_cons_succ, Act.put, List.setIfInBounds_toArray, List.set_cons_zero, List.set_cons_succ]
       refine wpAnyM_take (i := 11) (v := ?_) rfl (by as_aux_lemma => kernel_rfl) (by as_aux_lemma => kernel_rfl) (by as_aux_lemma => kernel_rfl) (by as_aux_lemma => kernel_rfl) (fun _ _ _ h => h) (Or.inl ⟨by rfl, ?_⟩) (hHeld) ?_
       rotate_left
       ·((intro W hSw); (try dsimp only at hSw); go_simp; try (with_reducible rfl))
       simp only [List.getElem_toArray, List.getElem_cons_zero, List.getElem_cons_succ, Act.put, List.setIfInBounds_toArray, List.set_cons_zero, List.set_cons_succ]
       refine wpAnyM_take (i := 12) (v := ?_) rfl (by as_aux_lemma => kernel_rfl) (by as_aux_lemma => kernel_rfl) (by as_aux_lemma => kernel_rfl) (by as_aux_lemma => kernel_rfl) (fun _ _ _ h => h) (Or.inl ⟨by rfl, ?_⟩) (hHeld) ?_
       rotate_left
       ·((intro W hSw); (try dsimp only at hSw); go_simp; try (with_reducible rfl))
       simp only [List.getElem_toArray, List.getElem_cons_zero, List.getElem_cons_succ, Act.put, List.setIfInBounds_toArray, List.set_cons_zero, List.set_cons_succ]
       refine wpAnyM_take (i := 13) (v := ?_) rfl (by as_aux_lemma => kernel_rfl) (by as_aux_lemma => kernel_rfl) (by as_aux_lemma => kernel_rfl) (by as_aux_lemma => kernel_rfl) (fun _ _ _ h => h) (Or.inl ⟨by rfl, ?_⟩) (hHeld) ?_
       rotate_left
       ·((intro W hSw); (try dsimp only at hSw); go_simp; try (with_reducible rfl))
       simp only [List.getElem_toArray, List.getElem_cons_zero, List.getElem_cons_succ, Act.put, List.setIfInBounds_toArray, List.set_cons_zero, List.set_cons_succ]
       refine wpAnyM_take (i := 14) (v := ?_) rfl (by as_aux_lemma => kernel_rfl) (by as_aux_lemma => kernel_rfl) (by as_aux_lemma => kernel_rfl) (by as_aux_lemma => kernel_rfl) (fun _ _ _ h => h) (Or.inl ⟨by rfl, ?_⟩) (hHeld) ?_
       rotate_left
       ·((intro W hSw); (try dsimp only at hSw); go_simp; try (with_reducible rfl))
       simp only [List.getElem_toArray, List.getElem_cons_zero, List.getElem_cons_succ, Act.put, List.setIfInBounds_toArray, List.set_cons_zero, List.set_cons_succ]
       refine wpAnyM_take (i := 15) (v := ?_) rfl (by as_aux_lemma => kernel_rfl) (by as_aux_lemma => kernel_rfl) (by as_aux_lemma => kernel_rfl) (by as_aux_lemma => kernel_rfl) (fun _ _ _ h => h) (Or.inl ⟨by rfl, ?_⟩) (hHeld) ?_
       rotate_left
       ·((intro W hSw); (try dsimp only at hSw); go_simp; try (with_reducible rfl))
       simp only [List.getElem_toArray, List.getElem_cons_zero, List.getElem_cons_succ, Act.put, List.setIfInBounds_toArray, List.set_cons_zero, List.set_cons_succ]
       refine wpAnyM_take (i := 16) (v := ?_) rfl (by as_aux_lemma => kernel_rfl) (by as_aux_lemma => kernel_rfl) (by as_aux_lemma => kernel_rfl) (by as_aux_lemma => kernel_rfl) (fun _ _ _ h => h) (Or.inl ⟨by rfl, ?_⟩) (hHeld) ?_
       rotate_left
       ·((intro W hSw); (try dsimp only at hSw); go_simp; try (with_reducible rfl))
       simp only [List.getElem_toArray, List.getElem_cons_zero, List.getElem_cons_succ, Act.put, List.setIfInBounds_toArray, List.set_cons_zero, List.set_cons_succ]
       refine wpAnyM_one (i := 17) (by as_aux_lemma => kernel_rfl) rfl (fun K hK => ?_)
       go_simp
       refine hK.out _ _ (fun _ => hS2a) ?_
       clear hK K
       try simp only [List.getElem_toArray, List.getElem_cons_zero, List.getElem_cons_succ, Act.put, List.setIfInBounds_toArray, List.set_cons_zero, List.set_cons_succ]
       refine wpAnyM_one (i := 18) (by as_aux_lemma => kernel_rfl) rfl (fun K hK => ?_)
       refine step_app _ rfl (.tmp 106) (.tmp 118) _ rfl B 69 i0 _ 4 56 Tryz.underlying25 hi0 hz0 hz1 hz2 rfl (by decide) (.slice Ar nr cr) nr (L.flatMap txV) (by rfl) OWN0.out (some ⟨w7.heap.size, 0, none⟩) 1 1 (txV (⟨nm, (nt : Int), 0, ks⟩, ⟨A2, kn, c2⟩)) (by rfl) rfl (fun _ => ⟨_, rfl, news_four rfl⟩) (txV_one7 [_]) (by unfold maxLen; omega) (by omega) (by simp; omega) ?_
       intro v8 w8 own8 gr8 ob8
       obtain ⟨A8, c8', rfl, -, -⟩ := own_slc own8
       have B8 := (HKB.out.blk.off (Off.grown OWN0.out gr8) (by decide))
       have T8 : Blk w8 gt 89 #[.bool false, str nm, .slice A2 kn c2] := HTB.out.off (Off.grown OWN0.out gr8) (by decide)
       have hS8 : w8.cell? ⟨g, 4, none⟩ = some (Value.slice Ar nr cr) ∧ w8.cell? ⟨g, 2, none⟩ = some (Value.slice At' nt ct) ∧ w8.cell? ⟨gt, 1, none⟩ = some (str nm) ∧ w8.cell? ⟨gt, 2, none⟩ = some (.slice A2 kn c2) := ⟨B8.cell 4, B8.cell 2, T8.cell 1, T8.cell 2⟩
       have f4 := B8.free 4
       clear B8 T8
       refine hK.out _ _ (fun _ => hS8) ?_
       clear hK K
       try simp only [List.getElem_toArray, List.getElem_cons_zero, List.getElem_cons_succ, Act.put, List.setIfInBounds_toArray, List.set_cons_zero, List.set_cons_succ]
       refine wpAnyM_one (i := 19) (by as_aux_lemma => kernel_rfl) rfl (fun K hK => ?_)
       go_simp
       refine hK.out _ _ (fun _ => hS8) ?_
       clear hK K
       try simp only [List.getElem_toArray, List.getElem_cons_zero, List.getElem_cons_succ, Act.put, List.setIfInBounds_toArray, List.set_cons_zero, List.set_cons_succ]
       refine wpAnyM_one (i := 20) (by as_aux_lemma => kernel_rfl) rfl (fun K hK => ?_)
       go_simp
       refine hK.out _ _ (fun _ => hS8) ?_
       clear hK K
       try simp only [List.getElem_toArray, List.getElem_cons_zero, List.getElem_cons_succ, Act.put, List.setIfInBounds_toArray, List.set_cons_zero, List.set_cons_succ]
       refine wpAnyM_one (i := 21) (by as_aux_lemma => kernel_rfl) rfl (fun K hK => ?_)
       go_simp
       refine hK.out _ _ (fun _ => hS8) ?_
       clear hK K
       try simp only [List.getElem_toArray, List.getElem_cons_zero, List.getElem_cons_succ, Act.put, List.setIfInBounds_toArray, List.set_cons_zero, List.set_cons_succ]
       refine wpAnyM_one (i := 22) (by as_aux_lemma => kernel_rfl) rfl (fun K hK => ?_)
       go_simp
       refine hK.out _ _ (fun h => absurd rfl h) ?_
       clear hK K
       try simp only [List.getElem_toArray, List.getElem_cons_zero, List.getElem_cons_succ, Act.put, List.setIfInBounds_toArray, List.set_cons_zero, List.set_cons_succ]
       refine wpAnyM_done (by as_aux_lemma => kernel_rfl) (NoPanic.normal ?_) _
       have HB9 := Lib.hid ((HBB2.out.grown gr8 (Nat.le_trans hszq (by simp)) (fun j hj => (OWN0.out.lt j hj).1)).setCell (p := ⟨g, 4, none⟩) HK.out.bg (.slice A8 (nr + 1) c8'))
       have HK9 := Lib.hid (HKB.out.push_r (L := L) (z := (⟨nm, (nt : Int), 0, ks⟩, ⟨A2, kn, c2⟩)) HLn.out OWN0.out HWL.out HY.out own8 gr8 ⟨HKB.out.ok.t, HKB.out.ok.x, by show (y.regs ++ [_]).length ≤ 1024; rw [List.length_append, List.length_singleton]; omega, HKB.out.ok.o, fun z hz => by
        rcases List.mem_append.1 hz with hz | hz
        ·exact HKB.out.ok.ks z hz
        ·simp only [List.mem_singleton] at hz
         subst hz
         show ks.length ≤ 1048576
         omega⟩)
       clear own8 gr8 ob8 hHeld hS8 hS2 hS2a f4
       go_wp2
       go_end0
       rw [HFO.out]
       exact ⟨rfl, HB9.out, _, HK9.out⟩
 ·rw [if_pos he] at HFT
  have e0 : ((er : Int) == 0) = false := by rw [beq_eq_false_iff_ne]; omega
  have hw1 : IntKind.i64.wrap ((a : Int) + (at_ : Int)) = ((a + at_ : Nat) : Int) := by rw [IntWalk.i64_in _ (by omega)]; omega
  have HC := Lib.hid (rfail_any (a + at_) er w3 HKW.out.blk)
  clear he
  go_wp2_with fail
  refine HC.out.mono ?_
  rintro en w4 ⟨rfl, rfl⟩
  go_wp2
  go_end0
  rw [HFT.out]
  exact ⟨rfl, failW_below HBB.out HK.out.bg _ _ _, _, HKW.out.fail (a + at_) er⟩
end Go.Proofs.YtgkdaebiefhgdaaGreatDoor
