/-
 The contract of the reference's reader: end of a text. No conditions but that the state is one of a reading.
-/
import Derived.Test.YtgkdaebiefhgdaaGreatDoorPRefMem
import Derived.BigRegion
namespace Go.Proofs.YtgkdaebiefhgdaaGreatDoor
set_option linter.unusedSimpArgs false
set_option linter.unusedVariables false
open Go.RowKit
open Feat (Bs)
open Tagp (KV)
attribute [local go_sem] byte_mk ByteArray.extract_mk
def StepF (B g : Nat) (d : Bs) (ats : List At) (w : World) (z : Rf) (e : Ending) (w' : World) : Prop :=
 e = .returned (.tuple #[]) ∧ Below B w w' ∧ ∃ h, OwnF w' B g h d ats z
section
variable {w : World} {B g : Nat} {h : RfH} {d : Bs} {ats : List At} {y : Rf}
theorem OX.end_ {E : TypeId} {A : Option Addr} {nx cx gx i m : Nat} {l : List Cor.Txt} (k : OX w B E ⟨some ⟨gx, 0, none⟩, nx, cx⟩ l) (hE : 84 ≠ E) (hi : i < l.length) (hm : m ≤ 4096) :
  (∃ cs, Blk w gx E cs) ∧ B ≤ gx ∧ OX (w.setCell ⟨gx, i * 4 + 2, none⟩ (.int .i64 (m : Nat))) B E ⟨some ⟨gx, 0, none⟩, nx, cx⟩ (l.set i { l[i] with e := (m : Nat) }) := by
 obtain ⟨L, hL, hoL, hW⟩ := k
 have hlen : L.length = l.length := by rw [← hL, List.length_map]
 have hi2 : i < L.length := by omega
 obtain ⟨cs, hb, hg⟩ : ∃ cs, Blk w gx E cs ∧ B ≤ gx := by
  rcases hoL.2 with ⟨hv, h0⟩ | ⟨g', cap, cur, hv, hg, hblk, _⟩
  ·cases hv
  ·cases hv; exact ⟨cur, hblk, hg⟩
 refine ⟨⟨cs, hb⟩, hg, ?_⟩
 have f1 := Off.set_ hb (i * 4 + 2) (.int .i64 (m : Nat))
 have hset := own_setV hoL (i * 4 + 2) (.int .i64 (m : Nat))
 rw [flat_setV txV_len L i hi2 2 (.int .i64 (m : Nat)) ({ L[i].1 with e := (m : Nat) }, L[i].2) (by omega) rfl] at hset
 have hy : L[i].1 = l[i] := by simp only [← hL, List.getElem_map]
 refine ⟨L.set i ({ L[i].1 with e := (m : Nat) }, L[i].2), ?_, hset, fun z hz => ?_⟩
 ·rw [List.map_set, hL, hy]
 ·rcases List.mem_or_eq_of_mem_set hz with hz | hz
  ·exact (hW z hz).off f1 hE
  ·subst hz
   have q := (hW _ (List.getElem_mem hi2)).off f1 hE
   exact ⟨q.1, q.2.1, ⟨by show _ ≤ ((m : Nat) : Int); omega, by show ((m : Nat) : Int) ≤ _; omega⟩, q.2.2.2.1, q.2.2.2.2⟩
theorem last_set {α : Type} {l : List α} {t : α} (h : l.getLast? = some t) (f : α → α) : ∃ hi : l.length - 1 < l.length, l[l.length - 1] = t ∧ l.set (l.length - 1) (f t) = l.dropLast ++ [f t] := by
 have hne : l ≠ [] := by intro e; subst e; cases h
 have hp := List.length_pos_iff.2 hne
 refine ⟨by omega, ?_, ?_⟩
 ·rw [List.getLast?_eq_getElem?, List.getElem?_eq_getElem (by omega)] at h
  injection h
 ·rw [List.set_eq_take_append_cons_drop, if_pos (by omega), List.drop_eq_nil_of_le (by omega), List.dropLast_eq_take]
theorem OwnF.end_t {gx nx cx m : Nat} (k : OwnF w B g h d ats y) (hx : h.x = ⟨some ⟨gx, 0, none⟩, nx, cx⟩) {t : Cor.Txt} (ht : y.texts.getLast? = some t) (hm : m ≤ 4096) :
  OwnF (w.setCell ⟨gx, (nx - 1) * 4 + 2, none⟩ (.int .i64 (m : Nat))) B g h d ats { y with texts := y.texts.dropLast ++ [{ t with e := (m : Nat) }] } ∧ Off 66 w (w.setCell ⟨gx, (nx - 1) * 4 + 2, none⟩ (.int .i64 (m : Nat))) ∧ B ≤ gx := by
 obtain ⟨ha, htk, hxx, hr, ho⟩ := h
 cases hx
 obtain ⟨hi, e1, e2⟩ := last_set ht fun t => { t with e := (m : Nat) }
 have hlen : y.texts.length = nx := k.x.len
 obtain ⟨⟨cs, hb⟩, hg, hX⟩ := OX.end_ (A := none) (i := y.texts.length - 1) k.x (by decide) hi hm
 rw [e1, e2, hlen] at hX
 have f1 := Off.set_ hb ((nx - 1) * 4 + 2) (.int .i64 (m : Nat))
 exact ⟨⟨k.blk.off f1 (by decide), k.bg, k.a.off f1 (by decide), k.t.off f1 (by decide) (by decide), hX, k.r.off f1 (by decide) (by decide), k.o.off f1 (by decide), ⟨k.ok.t, by
  have := k.ok.x
  show (y.texts.dropLast ++ [_]).length ≤ 64
  rw [← e2, List.length_set]; exact this, k.ok.r, k.ok.o, k.ok.ks⟩⟩, f1, hg⟩
theorem OwnF.flag (k : OwnF w B g h d ats y) (b : Bool) : OwnF (w.setCell ⟨g, 9, none⟩ (.bool b)) B g h d ats { y with tx := b } :=
 k.cells (Off.set_ k.blk 9 _) (k.blk.set_ 9 _) rfl rfl rfl rfl ⟨k.ok.t, k.ok.x, k.ok.r, k.ok.o, k.ok.ks⟩
end
set_option maxRecDepth 100000 in
set_option maxHeartbeats 4000000 in
theorem rend_any (B g : Nat) (h : RfH) (d : Bs) (ats : List At) (y : Rf) (a : Nat) (w : World) (k : OwnF w B g h d ats y) (hxx : y.tx = true → y.texts ≠ []) :
  Calls Tryz.prog 69 #[.pointer (some ⟨g, 0, none⟩), .int .i64 (a : Nat)] w (StepF B g d ats w (y.fEnd a)) := by
 have hBg := k.Bg
 have c9 : w.cell? ⟨g, 9, none⟩ = some (.bool y.tx) := k.blk.cell 9
 by_cases htx : y.tx = false
 ·have HF : Hid (y.fEnd a = y.fail a 17) := by show _ = _; unfold Rf.fEnd; rw [if_pos htx]
  have HC := Lib.hid (rfail_any a 17 w k.blk)
  have HK := Lib.hid k
  rw [htx] at c9
  clear k htx
  go_enter Tryz.func69, Tryz.ntmps69
  go_wp2_with fail
  refine HC.out.mono ?_
  rintro en w1 ⟨rfl, rfl⟩
  go_wp2
  go_end0
  rw [HF.out]
  exact ⟨rfl, failW_below (Below.refl _ _) HK.out.bg _ _ _, _, HK.out.fail a 17⟩
 ·have htx1 : y.tx = true := by simpa using htx
  have hne := hxx htx1
  rw [htx1] at c9
  obtain ⟨⟨Aa, na, ca⟩, ⟨At', nt, ct⟩, ⟨Ax, nx, cx⟩, ⟨Ar, nr, cr⟩, ⟨Ao, no, co⟩⟩ := h
  have hx : y.texts.length = nx := k.x.len
  have ht : y.toks.length = nt := k.t.reads.len
  have ho : y.opn.length = no := k.o.len
  have kt := k.ok.t
  have kx := k.ok.x
  have ko := k.ok.o
  have hnx : 0 < nx := by rw [← hx]; exact List.length_pos_iff.2 hne
  obtain ⟨gx, rfl, hgB, hgw, -⟩ := k.x.block hnx
  obtain ⟨t, hlast⟩ : ∃ t, y.texts.getLast? = some t := by
   cases h : y.texts.getLast? with
   | none => exact absurd (List.getLast?_eq_none_iff.1 h) hne
   | some t => exact ⟨t, rfl⟩
  have HFE : Hid (y.fEnd a = { (if t.b = (y.toks.length : Int) then (if 0 < y.opn.length then Rf.fail { y with texts := y.texts.dropLast ++ [{ t with e := (y.toks.length : Int) }] } a 6 else { y with texts := y.texts.dropLast ++ [{ t with e := (y.toks.length : Int) }] }).fail a 8 else (if 0 < y.opn.length then Rf.fail { y with texts := y.texts.dropLast ++ [{ t with e := (y.toks.length : Int) }] } a 6 else { y with texts := y.texts.dropLast ++ [{ t with e := (y.toks.length : Int) }] })) with tx := false }) := by
   show _ = _
   unfold Rf.fEnd
   rw [if_neg htx, hlast]
  have c3 : w.cell? ⟨g, 3, none⟩ = some (Value.slice (some ⟨gx, 0, none⟩) nx cx) := k.blk.cell 3
  have hw1 : IntKind.i64.wrap ((nx : Int) - 1) = ((nx - 1 : Nat) : Int) := by rw [IntWalk.i64_in _ (by omega)]; omega
  have hi0 : (0 : Int) ≤ ((nx - 1 : Nat) : Int) := by omega
  have hi1 : ((nx - 1 : Nat) : Int) < (nx : Int) := by omega
  have HK := Lib.hid k
  have HL := Lib.hid hlast
  have HTX := Lib.hid htx1
  clear k htx htx1 hne hlast
  go_enter Tryz.func69, Tryz.ntmps69
  go_wp2
  go_quiet (fail)
  generalize hwq : World.drewN _ _ = wq
  have HKQ : Hid (OwnF wq B g ⟨⟨Aa, na, ca⟩, ⟨At', nt, ct⟩, ⟨some ⟨gx, 0, none⟩, nx, cx⟩, ⟨Ar, nr, cr⟩, ⟨Ao, no, co⟩⟩ d ats y) := by rw [← hwq]; exact HK.out.drewN _
  have HBQ : Hid (Below B w wq) := by rw [← hwq]; exact below_drewN (Below.refl _ _) _
  clear hwq c9 c3
  obtain ⟨K1, f1, hgB⟩ := HKQ.out.end_t rfl HL.out (m := nt) (by omega)
  obtain ⟨ue, lx⟩ : ∃ u, wq.cell? ⟨gx, (nx - 1) * 4 + 2, none⟩ = some u := by
   obtain ⟨g2, o2, H2, hk2, hA2, -, -, -, -, p2, -⟩ := HKQ.out.x.reads.at_ (k := nx - 1) (by show nx - 1 < nx; omega)
   cases hA2
   simp only [Nat.zero_add] at p2
   exact ⟨_, p2⟩
  have fx : wq.frozen? ⟨gx, (nx - 1) * 4 + 2, none⟩ = false := by
   obtain ⟨gx', hgx', -, -, cs, hbx⟩ := HKQ.out.x.block hnx
   cases hgx'
   exact hbx.free _
  have c2 : wq.cell? ⟨g, 2, none⟩ = some (Value.slice At' nt ct) := HKQ.out.blk.cell 2
  have hb1 : Below B w (wq.setCell ⟨gx, (nx - 1) * 4 + 2, none⟩ (.int .i64 (nt : Nat))) := HBQ.out.setCell (p := ⟨gx, (nx - 1) * 4 + 2, none⟩) hgB _
  have HK1 := Lib.hid K1
  have HB1 := Lib.hid hb1
  clear K1 f1 hb1
  have c8 : (wq.setCell ⟨gx, (nx - 1) * 4 + 2, none⟩ (.int .i64 (nt : Nat))).cell? ⟨g, 8, none⟩ = some (Value.slice Ao no co) := HK1.out.blk.cell 8
  go_upto_region 4 with (fail)
  clear lx fx c2
  generalize wq.setCell ⟨gx, (nx - 1) * 4 + 2, none⟩ (.int .i64 (nt : Nat)) = w1 at HK1 HB1 c8 ⊢
  clear HKQ HBQ
  rw [ht, ho] at HFE
  obtain ⟨y1, hy1⟩ : ∃ y1 : Rf, { y with texts := y.texts.dropLast ++ [{ t with e := (nt : Int) }] } = y1 := ⟨_, rfl⟩
  have hty : y1.texts = y.texts.dropLast ++ [{ t with e := (nt : Int) }] := by rw [← hy1]
  have HK1 : Hid (OwnF w1 B g ⟨⟨Aa, na, ca⟩, ⟨At', nt, ct⟩, ⟨some ⟨gx, 0, none⟩, nx, cx⟩, ⟨Ar, nr, cr⟩, ⟨Ao, no, co⟩⟩ d ats y1) := by show OwnF _ _ _ _ _ _ _; rw [← hy1]; exact HK1.out
  rw [hy1] at HFE
  have HTY : Hid (y1.texts = y.texts.dropLast ++ [{ t with e := (nt : Int) }]) := hty
  clear hy1 hty
  by_cases h0 : 0 < no
  ·have h0i : (0 : Int) < (no : Int) := by omega
   rw [if_pos h0] at HFE
   have HC := Lib.hid (rfail_any a 6 w1 HK1.out.blk)
   go_wp2_with fail
   refine HC.out.mono ?_
   rintro en w2 ⟨rfl, rfl⟩
   have HK2 := Lib.hid (HK1.out.fail a 6)
   have HB2 := Lib.hid (failW_below HB1.out HK1.out.bg y1 a 6)
   have HT2 : Hid ((y1.fail a 6).texts = y.texts.dropLast ++ [{ t with e := (nt : Int) }]) := (fail_same y1 a 6).2.1.trans HTY.out
   generalize failW w1 g y1 a 6 = w2 at HK2 HB2 ⊢
   generalize y1.fail a 6 = y2 at HK2 HT2 HFE
   clear HK1 HB1 c8 HC HTY
   obtain ⟨p1, p2⟩ : w2.cell? ⟨gx, (nx - 1) * 4 + 1, none⟩ = some (.int .i64 t.b) ∧ w2.cell? ⟨gx, (nx - 1) * 4 + 2, none⟩ = some (.int .i64 (nt : Nat)) := by
    obtain ⟨g2, o2, H2, hk2, hA2, -, -, -, p1, p2, -⟩ := HK2.out.x.reads.at_ (k := nx - 1) (by show nx - 1 < nx; omega)
    cases hA2
    have hlt : y2.texts[nx - 1] = { t with e := (nt : Int) } := by
     have h1 := HT2.out
     have hl := congrArg List.length h1
     simp only [List.length_append, List.length_cons, List.length_nil, List.length_dropLast] at hl
     simp only [h1]
     rw [List.getElem_append_right (by rw [List.length_dropLast]; omega)]
     simp
    rw [hlt] at p1 p2
    simp only [Nat.zero_add] at p1 p2
    exact ⟨p1, p2⟩
   by_cases hb : t.b = (nt : Int)
   ·rw [if_pos hb] at HFE
    rw [hb] at p1
    have he : ((nt : Int) == (nt : Int)) = true := by simp
    clear hb
    go_wp2
    go_quiet (fail)
    generalize hwq3 : World.drewN _ _ = w3
    have HK3 : Hid (OwnF w3 B g ⟨⟨Aa, na, ca⟩, ⟨At', nt, ct⟩, ⟨some ⟨gx, 0, none⟩, nx, cx⟩, ⟨Ar, nr, cr⟩, ⟨Ao, no, co⟩⟩ d ats y2) := by rw [← hwq3]; exact HK2.out.drewN _
    have HB3 : Hid (Below B w w3) := by rw [← hwq3]; exact below_drewN HB2.out _
    clear hwq3 p1 p2 HK2 HB2
    have HC3 := Lib.hid (rfail_any a 8 w3 HK3.out.blk)
    go_wp2_with fail
    refine HC3.out.mono ?_
    rintro en w4 ⟨rfl, rfl⟩
    have HK4 := Lib.hid (HK3.out.fail a 8)
    have HB4 := Lib.hid (failW_below HB3.out HK3.out.bg y2 a 8)
    generalize failW w3 g y2 a 8 = w4 at HK4 HB4 ⊢
    have c9 : w4.cell? ⟨g, 9, none⟩ = some (.bool (y2.fail a 8).tx) := HK4.out.blk.cell 9
    have f9 := HK4.out.blk.free 9
    go_wp2
    go_end0
    rw [HFE.out]
    exact ⟨rfl, HB4.out.setCell (p := ⟨g, 9, none⟩) HK4.out.bg _, _, HK4.out.flag false⟩
   ·rw [if_neg hb] at HFE
    have he : (t.b == (nt : Int)) = false := by rw [beq_eq_false_iff_ne]; exact hb
    clear hb
    go_wp2
    go_quiet (fail)
    generalize hwq3 : World.drewN _ _ = w3
    have HK3 : Hid (OwnF w3 B g ⟨⟨Aa, na, ca⟩, ⟨At', nt, ct⟩, ⟨some ⟨gx, 0, none⟩, nx, cx⟩, ⟨Ar, nr, cr⟩, ⟨Ao, no, co⟩⟩ d ats y2) := by rw [← hwq3]; exact HK2.out.drewN _
    have HB3 : Hid (Below B w w3) := by rw [← hwq3]; exact below_drewN HB2.out _
    clear hwq3 p1 p2 HK2 HB2
    have c9 : w3.cell? ⟨g, 9, none⟩ = some (.bool y2.tx) := HK3.out.blk.cell 9
    have f9 := HK3.out.blk.free 9
    go_wp2
    go_end0
    rw [HFE.out]
    exact ⟨rfl, HB3.out.setCell (p := ⟨g, 9, none⟩) HK3.out.bg _, _, HK3.out.flag false⟩
  ·have h0i : ¬ (0 : Int) < (no : Int) := by omega
   rw [if_neg h0] at HFE
   have HK2 := HK1
   have HB2 := HB1
   have HT2 := HTY
   generalize y1 = y2 at HK2 HT2 HFE
   clear HK1 HB1 HTY
   have h0b : decide ((0 : Int) < (no : Int)) = false := by rw [decide_eq_false_iff_not]; exact h0i
   obtain ⟨w2, rfl⟩ : ∃ w2 : World, w2 = w1 := ⟨_, rfl⟩
   obtain ⟨p1, p2⟩ : w2.cell? ⟨gx, (nx - 1) * 4 + 1, none⟩ = some (.int .i64 t.b) ∧ w2.cell? ⟨gx, (nx - 1) * 4 + 2, none⟩ = some (.int .i64 (nt : Nat)) := by
    obtain ⟨g2, o2, H2, hk2, hA2, -, -, -, p1, p2, -⟩ := HK2.out.x.reads.at_ (k := nx - 1) (by show nx - 1 < nx; omega)
    cases hA2
    have hlt : y2.texts[nx - 1] = { t with e := (nt : Int) } := by
     have h1 := HT2.out
     have hl := congrArg List.length h1
     simp only [List.length_append, List.length_cons, List.length_nil, List.length_dropLast] at hl
     simp only [h1]
     rw [List.getElem_append_right (by rw [List.length_dropLast]; omega)]
     simp
    rw [hlt] at p1 p2
    simp only [Nat.zero_add] at p1 p2
    exact ⟨p1, p2⟩
   by_cases hb : t.b = (nt : Int)
   ·rw [if_pos hb] at HFE
    rw [hb] at p1
    have he : ((nt : Int) == (nt : Int)) = true := by simp
    clear hb
    go_wp2
    go_quiet (fail)
    generalize hwq3 : World.drewN _ _ = w3
    have HK3 : Hid (OwnF w3 B g ⟨⟨Aa, na, ca⟩, ⟨At', nt, ct⟩, ⟨some ⟨gx, 0, none⟩, nx, cx⟩, ⟨Ar, nr, cr⟩, ⟨Ao, no, co⟩⟩ d ats y2) := by rw [← hwq3]; exact HK2.out.drewN _
    have HB3 : Hid (Below B w w3) := by rw [← hwq3]; exact below_drewN HB2.out _
    clear hwq3 p1 p2 HK2 HB2
    have HC3 := Lib.hid (rfail_any a 8 w3 HK3.out.blk)
    go_wp2_with fail
    refine HC3.out.mono ?_
    rintro en w4 ⟨rfl, rfl⟩
    have HK4 := Lib.hid (HK3.out.fail a 8)
    have HB4 := Lib.hid (failW_below HB3.out HK3.out.bg y2 a 8)
    generalize failW w3 g y2 a 8 = w4 at HK4 HB4 ⊢
    have c9 : w4.cell? ⟨g, 9, none⟩ = some (.bool (y2.fail a 8).tx) := HK4.out.blk.cell 9
    have f9 := HK4.out.blk.free 9
    go_wp2
    go_end0
    rw [HFE.out]
    exact ⟨rfl, HB4.out.setCell (p := ⟨g, 9, none⟩) HK4.out.bg _, _, HK4.out.flag false⟩
   ·rw [if_neg hb] at HFE
    have he : (t.b == (nt : Int)) = false := by rw [beq_eq_false_iff_ne]; exact hb
    clear hb
    go_wp2
    go_quiet (fail)
    generalize hwq3 : World.drewN _ _ = w3
    have HK3 : Hid (OwnF w3 B g ⟨⟨Aa, na, ca⟩, ⟨At', nt, ct⟩, ⟨some ⟨gx, 0, none⟩, nx, cx⟩, ⟨Ar, nr, cr⟩, ⟨Ao, no, co⟩⟩ d ats y2) := by rw [← hwq3]; exact HK2.out.drewN _
    have HB3 : Hid (Below B w w3) := by rw [← hwq3]; exact below_drewN HB2.out _
    clear hwq3 p1 p2 HK2 HB2
    have c9 : w3.cell? ⟨g, 9, none⟩ = some (.bool y2.tx) := HK3.out.blk.cell 9
    have f9 := HK3.out.blk.free 9
    go_wp2
    go_end0
    rw [HFE.out]
    exact ⟨rfl, HB3.out.setCell (p := ⟨g, 9, none⟩) HK3.out.bg _, _, HK3.out.flag false⟩
end Go.Proofs.YtgkdaebiefhgdaaGreatDoor
