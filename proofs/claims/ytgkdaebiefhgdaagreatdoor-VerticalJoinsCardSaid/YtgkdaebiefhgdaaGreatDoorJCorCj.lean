/-
 Several texts of this seat, one behind the other: CorOwnD, CorCatP, CorCat, CorHds, CorConc. No conditions but those of each.
-/
import Derived.Test.YtgkdaebiefhgdaaGreatDoorJCorExP
import Derived.Test.YtgkdaebiefhgdaaGreatDoorJCorHold
import Derived.Test.YtgkdaebiefhgdaaGreatDoorJCorRegW
import Derived.BigQuiet
import Derived.Deep.QuietTactic
import Derived.Deep.RegionLaw
import Derived.Deep.CutRange
import Derived.Deep.CutBlock
import Derived.Deep.RegionHeld3
import Derived.Test.YtgkdaebiefhgdaaGreatDoorJCorEq
namespace Go.Proofs.YtgkdaebiefhgdaaGreatDoor
set_option linter.unusedSimpArgs false
set_option linter.unusedVariables false
open Go.RowKit
open Feat (Bs)
def OwnD (w : World) (D : CH) (d : Cor.C) : Prop :=
 ∃ B B2 : Nat, OA w B D.a d.attrs ∧ OT w B D.t d.toks ∧ OX w B 66 D.x d.texts ∧ OX w B 69 D.r d.regs ∧ ON w B D.n d.nods ∧ OI w B2 D.h d.heads ∧ OwnW w B2 D.l d.rels
theorem OwnD.reads {w : World} {D : CH} {d : Cor.C} (h : OwnD w D d) : Reads w w.heap.size D d := by
 obtain ⟨B, B2, h1, h2, h3, h4, h5, h6, h7⟩ := h
 exact ⟨h1.reads, h2.reads, h3.reads, h4.reads, h5.reads, h6.reads, h7.reads⟩
theorem OwnD.off {w w1 : World} {D : CH} {d : Cor.C} (h : OwnD w D d) (hf : Off 30 w w1) : OwnD w1 D d := by
 obtain ⟨B, B2, h1, h2, h3, h4, h5, h6, h7⟩ := h
 exact ⟨B, B2, h1.off hf (by decide), h2.off hf (by decide) (by decide), h3.off hf (by decide) (by decide), h4.off hf (by decide) (by decide), h5.off hf (by decide), h6.off hf (by decide), h7.off hf (by decide)⟩
theorem ownD_nil (w : World) : OwnD w nilH Cor.nil :=
 ⟨0, 0, ⟨own_nil0 _ _ _ _, fun _ h => by cases h⟩, ⟨[], rfl, own_nil0 _ _ _ _, fun _ h => by cases h⟩, ⟨[], rfl, own_nil0 _ _ _ _, fun _ h => by cases h⟩, ⟨[], rfl, own_nil0 _ _ _ _, fun _ h => by cases h⟩, ⟨own_nil0 _ _ _ _, fun _ h => by cases h⟩, ⟨own_nil0 _ _ _ _, fun _ h => by cases h⟩, ⟨own_nil0 _ _ _ _, fun _ h => by cases h⟩⟩
def MadeO (r : Cor.C × Nat) (w : World) (e : Ending) (w' : World) : Prop :=
 ∃ H : CH, e = .returned (.tuple #[H.v, .int .i64 (r.2 : Nat)]) ∧ OwnD w' H r.1 ∧ Below w.heap.size w w'
theorem MadeO.made {r : Cor.C × Nat} {w : World} {e : Ending} {w' : World} (h : MadeO r w e w') : Made r w e w' := by
 obtain ⟨H, he, ho, hb⟩ := h
 exact ⟨H, he, ho.reads, hb⟩
theorem made_ofO {w w1 wr : World} {B gd : Nat} {D : CH} {d : Cor.C} {r : Cor.C × Nat} (hr : r = (d, 0)) (h1 : OwnC wr B gd D d) (h2 : OI wr B D.h d.heads) (h3 : OwnW wr B D.l d.rels) (hf : Off 30 wr w1) (hb : Below w.heap.size w w1) :
  MadeO r w (.returned (.tuple #[D.v, .int .i64 0])) w1 := by
 subst hr
 exact ⟨D, rfl, OwnD.off ⟨B, B, h1.a, h1.t, h1.x, h1.r, h1.n, h2, h3⟩ hf, hb⟩
theorem made_partsO {w w1 wr : World} {B B2 : Nat} {D : CH} {d : Cor.C} {r : Cor.C × Nat} (hr : r = (d, 0)) (h1 : OA wr B D.a d.attrs ∧ OT wr B D.t d.toks ∧ OX wr B 66 D.x d.texts ∧ OX wr B 69 D.r d.regs ∧ ON wr B D.n d.nods) (h2 : OI wr B2 D.h d.heads) (h3 : OwnW wr B2 D.l d.rels) (hf : Off 30 wr w1) (hb : Below w.heap.size w w1) :
  MadeO r w (.returned (.tuple #[D.v, .int .i64 0])) w1 := by
 subst hr
 exact ⟨D, rfl, OwnD.off ⟨B, B2, h1.1, h1.2.1, h1.2.2.1, h1.2.2.2.1, h1.2.2.2.2, h2, h3⟩ hf, hb⟩
end Go.Proofs.YtgkdaebiefhgdaaGreatDoor
namespace Go.Proofs.YtgkdaebiefhgdaaGreatDoor
set_option linter.unusedSimpArgs false
set_option linter.unusedVariables false
open Go.RowKit
open Feat (Bs)
open Tagp (KV)
structure OffG (g : Nat) (w w1 : World) : Prop where
 size : w.heap.size ≤ w1.heap.size
 keep : ∀ (k : Nat) (cs : Array Value), w.heap[k]? = some (Obj.cells cs 30 (0, 0)) → k ≠ g → w1.heap[k]? = w.heap[k]?
theorem OffG.refl (g : Nat) (w : World) : OffG g w w := ⟨Nat.le_refl _, fun _ _ _ _ => rfl⟩
theorem OffG.trans {g : Nat} {a b c : World} (h : OffG g a b) (k : OffG g b c) : OffG g a c :=
 ⟨Nat.le_trans h.size k.size, fun i cs hi hg => by
  have h1 := h.keep i cs hi hg
  exact (k.keep i cs (h1.trans hi) hg).trans h1⟩
theorem Off.offG {R : TypeId} {g : Nat} {w w1 : World} (h : Off R w w1) (n : 30 ≠ R) : OffG g w w1 := ⟨h.size, fun k cs hk _ => h.keep k cs _ hk n⟩
theorem OffG.below {g : Nat} {w w1 : World} (h : Below w.heap.size w w1) : OffG g w w1 := (Off.below (R := 4294967295) h).offG (by decide)
theorem OffG.set_ {w : World} (g i : Nat) (v : Value) : OffG g w (w.setCell ⟨g, i, none⟩ v) := ⟨by simp [World.setCell], fun k cs _ hk => setCell_block (by show k ≠ g; exact hk)⟩
theorem Blk.offG {g k : Nat} {w w1 : World} {cs : Array Value} (h : Blk w k 30 cs) (f : OffG g w w1) (hk : k ≠ g) : Blk w1 k 30 cs := (f.keep k cs h hk).trans h

structure CT (w0 w1 wr : World) (gd : Nat) : Prop where
 below : Below w0.heap.size w0 wr
 keep : OffG gd w1 wr
section
variable {w0 w1 wr w' : World} {gd : Nat}
theorem CT.bel (h : CT w0 w1 wr gd) (hb : Below wr.heap.size wr w') : CT w0 w1 w' gd := ⟨h.below.trans (hb.mono h.below.size), h.keep.trans (OffG.below hb)⟩
theorem CT.drewN (h : CT w0 w1 wr gd) (n : Nat) : CT w0 w1 (wr.drewN n) gd := ⟨below_drewN h.below n, h.keep.trans ((Off.drewN (R := 4294967295) wr n).offG (by decide))⟩
theorem CT.drew (h : CT w0 w1 wr gd) : CT w0 w1 wr.drew gd := h.drewN 1
theorem CT.alloc (h : CT w0 w1 wr gd) (o : Obj) : CT w0 w1 (wr.alloc o) gd := h.bel ((Below.refl _ _).alloc (Nat.le_refl _) o)
theorem CT.grown {e : TypeId} {s n : Nat} {v : Value} {xs : List Value} (h : CT w0 w1 wr gd) (ho : wr.ownsRow w0.heap.size e s v n xs) (gr : wr.grownBy w' v.ownBlock) (n1 : 30 ≠ e) : CT w0 w1 w' gd :=
 ⟨h.below.grown gr h.below.size (fun k hk => (ho.lt k hk).1), h.keep.trans ((Off.grown ho gr).offG n1)⟩
theorem CT.setd (h : CT w0 w1 wr gd) (hg : w0.heap.size ≤ gd) (i : Nat) (v : Value) : CT w0 w1 (wr.setCell ⟨gd, i, none⟩ v) gd :=
 ⟨h.below.setCell (p := ⟨gd, i, none⟩) hg _, h.keep.trans (OffG.set_ gd i v)⟩
end
def CatR (w0 w1 wr : World) (gd : Nat) (Dh Dl : Hd) (d : Cor.C) : Prop := ∃ D : CH, CT w0 w1 wr gd ∧ OwnC wr w0.heap.size gd D d ∧ D.h = Dh ∧ D.l = Dl
end Go.Proofs.YtgkdaebiefhgdaaGreatDoor
namespace Go.Proofs.YtgkdaebiefhgdaaGreatDoor
set_option linter.unusedSimpArgs false
set_option linter.unusedVariables false
open Go.RowKit Utf
open Feat (Bs)
set_option maxRecDepth 100000 in
set_option maxHeartbeats 160000000 in
theorem appendCorpus_any (w0 w : World) (gd : Nat) (H : CH) (b : Cor.C) (D : CH) (d : Cor.C) (hgd : w0.heap.size ≤ gd) (hB : Below w0.heap.size w0 w) (hO : OwnC w w0.heap.size gd D d) (hr : Reads w0 w0.heap.size H b) (hv : Vd b)
  (h1 : d.toks.length + b.toks.length ≤ 4096) (h2 : d.texts.length + b.texts.length ≤ 64) (h3 : d.regs.length + b.regs.length ≤ 1024) (h4 : d.nods.length + b.nods.length ≤ 2048) :
  Calls Tryz.prog 53 #[.pointer (some ⟨gd, 0, none⟩), H.v] w (fun e w' => e = .returned (.tuple #[]) ∧ CatR w0 w w' gd D.h D.l ⟨d.attrs, d.toks ++ b.toks, d.texts ++ b.texts.map (Cor.mvT (d.toks.length : Nat)), d.regs ++ b.regs.map (Cor.mvR (d.toks.length : Nat)), d.nods ++ b.nods.map (Cor.mvN (d.toks.length : Nat) (d.nods.length : Nat)), d.heads, d.rels⟩) := by
 obtain ⟨⟨Aa, na, ca⟩, ⟨At, nt, ct⟩, ⟨Ax, nx, cx⟩, ⟨Ar, nr, cr⟩, ⟨An, nn, cn⟩, ⟨Ah, nh, ch⟩, ⟨Al, nl, cl⟩⟩ := H
 obtain ⟨⟨Da0, na0, ca0⟩, ⟨Dt0, NT, ct0⟩, ⟨Dx0, nx0, cx0⟩, ⟨Dr0, nr0, cr0⟩, ⟨Dn0, NN, cn0⟩, Eh, El⟩ := D
 show Calls Tryz.prog 53 #[.pointer (some ⟨gd, 0, none⟩), .agg #[.slice Aa na ca, .slice At nt ct, .slice Ax nx cx, .slice Ar nr cr, .slice An nn cn, .slice Ah nh ch, .slice Al nl cl]] w _
 have hNT : d.toks.length = NT := hO.t.reads.len
 have hNN : d.nods.length = NN := hO.n.reads.len
 rw [hNT, hNN]
 rw [hNT] at h1
 rw [hNN] at h4
 have HV := Lib.hid hv
 have hgw : gd < w.heap.size := hO.blk.lt
 have hne : w.heap.size ≠ gd := by omega
 have HNT := Lib.hid hNT
 have HNN := Lib.hid hNN
 have y1 : _ = some (Value.slice Dt0 NT ct0) := (hO.alloc (.cells #[.slice Aa na ca, .slice At nt ct, .slice Ax nx cx, .slice Ar nr cr, .slice An nn cn, .slice Ah nh ch, .slice Al nl cl] 30)).blk.cell 1
 have y4 : _ = some (Value.slice Dn0 NN cn0) := (hO.alloc (.cells #[.slice Aa na ca, .slice At nt ct, .slice Ax nx cx, .slice Ar nr cr, .slice An nn cn, .slice Ah nh ch, .slice Al nl cl] 30)).blk.cell 4
 have E0 : Hid (CT w0 (w.alloc (.cells #[.slice Aa na ca, .slice At nt ct, .slice Ax nx cx, .slice Ar nr cr, .slice An nn cn, .slice Ah nh ch, .slice Al nl cl] 30)) (w.alloc (.cells #[.slice Aa na ca, .slice At nt ct, .slice Ax nx cx, .slice Ar nr cr, .slice An nn cn, .slice Ah nh ch, .slice Al nl cl] 30)) gd) := ⟨hB.alloc hB.size _, OffG.refl _ _⟩
 have O0 := Lib.hid (hO.alloc (.cells #[.slice Aa na ca, .slice At nt ct, .slice Ax nx cx, .slice Ar nr cr, .slice An nn cn, .slice Ah nh ch, .slice Al nl cl] 30))
 have BC := Lib.hid (fun (W : World) (h : OffG gd (w.alloc (.cells #[.slice Aa na ca, .slice At nt ct, .slice Ax nx cx, .slice Ar nr cr, .slice An nn cn, .slice Ah nh ch, .slice Al nl cl] 30)) W) => Blk.offG (Blk.new w 30 #[.slice Aa na ca, .slice At nt ct, .slice Ax nx cx, .slice Ar nr cr, .slice An nn cn, .slice Ah nh ch, .slice Al nl cl]) h hne)
 have HW1 : Hid (OffG gd w (w.alloc (.cells #[.slice Aa na ca, .slice At nt ct, .slice Ax nx cx, .slice Ar nr cr, .slice An nn cn, .slice Ah nh ch, .slice Al nl cl] 30))) := OffG.below ((Below.refl _ _).alloc (Nat.le_refl _) _)
 have hrt : Toks w0 w0.heap.size ⟨At, nt, ct⟩ b.toks := hr.t
 have hrx : Txts w0 w0.heap.size ⟨Ax, nx, cx⟩ b.texts := hr.x
 have hrr : Txts w0 w0.heap.size ⟨Ar, nr, cr⟩ b.regs := hr.r
 have hrn : Nods w0 w0.heap.size ⟨An, nn, cn⟩ b.nods := hr.n
 have HTL := Lib.hid hrt.len
 have HXL := Lib.hid hrx.len
 have HRL := Lib.hid hrr.len
 have HNL := Lib.hid hrn.len
 have hnt : nt ≤ 4096 := by have : b.toks.length = nt := HTL.out; omega
 have hnx : nx ≤ 64 := by have : b.texts.length = nx := HXL.out; omega
 have hnr : nr ≤ 1024 := by have : b.regs.length = nr := HRL.out; omega
 have hnn : nn ≤ 2048 := by have : b.nods.length = nn := HNL.out; omega
 have hNT4 : NT ≤ 4096 := by omega
 have hNN4 : NN ≤ 2048 := by omega
 obtain ⟨i1, hi1, hz10, hz11, hz12⟩ := info_parts info_string
 obtain ⟨i3, hi3, hz30, hz31, hz32⟩ := info_parts info_sls
 obtain ⟨i6, hi6, hz60, hz61, hz62⟩ := info_parts info_txt
 obtain ⟨i2, hi2, hz20, hz21, hz22⟩ := info_parts info_reg
 obtain ⟨i4, hi4, hz40, hz41, hz42⟩ := info_parts info_nod
 clear hO hr hv hB
 go_enter Tryz.func53, Tryz.ntmps53
 go_upto_region 1 with (fail)
 go_quiet (fail)
 have R0 : Hid (CatR w0 (w.alloc (.cells #[.slice Aa na ca, .slice At nt ct, .slice Ax nx cx, .slice Ar nr cr, .slice An nn cn, .slice Ah nh ch, .slice Al nl cl] 30)) ((w.alloc (.cells #[.slice Aa na ca, .slice At nt ct, .slice Ax nx cx, .slice Ar nr cr, .slice An nn cn, .slice Ah nh ch, .slice Al nl cl] 30)).drewN nq) gd Eh El d) := ⟨_, E0.out.drewN nq, O0.out.drewN nq, rfl, rfl⟩
 clear y1 y4 E0 O0
 generalize (w.alloc (.cells #[.slice Aa na ca, .slice At nt ct, .slice Ax nx cx, .slice Ar nr cr, .slice An nn cn, .slice Ah nh ch, .slice Al nl cl] 30)).drewN nq = wd at R0 ⊢
 obtain ⟨_, EX, -, -, -⟩ := R0.out
 have q1 : _ = some (Value.slice At nt ct) := (BC.out _ EX.keep).cell 1
 clear EX
 go_upto_block 0 with (fail)
 go_cut [] from 14 (fun wr => CatR w0 (w.alloc (.cells #[.slice Aa na ca, .slice At nt ct, .slice Ax nx cx, .slice Ar nr cr, .slice An nn cn, .slice Ah nh ch, .slice Al nl cl] 30)) wr gd Eh El ⟨d.attrs, d.toks ++ b.toks, d.texts, d.regs, d.nods, d.heads, d.rels⟩)
 case first =>
  -- <dev
  go_wp2
  go_loopw [27] (fun iv wr => ∃ j : Nat, j ≤ nt ∧ iv = .int .i64 j ∧ CatR w0 (w.alloc (.cells #[.slice Aa na ca, .slice At nt ct, .slice Ax nx cx, .slice Ar nr cr, .slice An nn cn, .slice Ah nh ch, .slice Al nl cl] 30)) wr gd Eh El ⟨d.attrs, d.toks ++ b.toks.take j, d.texts, d.regs, d.nods, d.heads, d.rels⟩) (fun iv _ => nt - (intOf iv).toNat)
  case atStart => exact ⟨0, Nat.zero_le _, rfl, by rw [List.take_zero, List.append_nil]; exact R0.out⟩
  case round =>
   obtain ⟨j, hj, rfl, hD⟩ := hrel
   obtain ⟨⟨⟨Da, nda, cda⟩, ⟨Dt, ndt, cdt⟩, ⟨Dx, ndx, cdx⟩, ⟨Dr, ndr, cdr⟩, ⟨Dn, ndn, cdn⟩, Dh, Dl⟩, E, O, hDh, hDl⟩ := hD
   subst hDh hDl
   by_cases hlt : j < nt
   ·obtain ⟨ga, oa, ⟨Ak, nk, ck⟩, hk2, e2, hga, hw2, d0⟩ := hrt.at_ (k := j) hlt
    have e2 : At = some ⟨ga, oa, none⟩ := e2
    subst e2
    have hB := E.below
    replace d0 : wr.cell? ⟨ga, oa + j, none⟩ = some (.slice Ak nk ck) := (hB.cell (p := ⟨ga, _, none⟩) hga).trans d0
    obtain ⟨s, hs⟩ : ∃ s, b.toks[j] = s := ⟨_, rfl⟩
    rw [hs] at hw2
    have HJ : Hid (d.toks ++ b.toks.take (j + 1) = d.toks ++ b.toks.take j ++ [s]) := by
     show _ = _
     rw [List.take_succ_eq_append_getElem hk2, hs, List.append_assoc]
    have hsl8 : s.length ≤ 8 := by
     have := HV.out.tkl.2 s (by rw [← hs]; exact List.getElem_mem _)
     have := HV.out.atl
     omega
    have hnk : nk ≤ 8 := by have := hw2.len; simp at this; omega
    have hws := hw2.under hB
    have hfl : Hid ((strs s).length = nk * 1) := hw2.2.1.1
    have SRC := Lib.hid ((hws.under ((Below.refl _ _).drew)).src)
    have h1s := Lib.hid (strs_one6 s)
    have HWS := Lib.hid hw2.2.2
    obtain ⟨L, hL, ho, hW⟩ := O.t
    have hdl : ndt ≤ 4096 := by
     have h2 : L.length = ndt := (own_sl ho).flen tkV_len (by omega)
     have h3 : L.length = NT + min j b.toks.length := by
      rw [← List.length_map (f := Prod.fst), hL, List.length_append, List.length_take, HNT.out]
     have : b.toks.length = nt := HTL.out
     omega
    have hLL := Lib.hid hL
    have HO := Lib.hid ho
    have HW := Lib.hid hW
    have OO := Lib.hid O
    have EE := Lib.hid E
    have bd : Blk wr gd 30 #[.slice Da nda cda, .slice Dt ndt cdt, .slice Dx ndx cdx, .slice Dr ndr cdr, .slice Dn ndn cdn, .slice Dh.A Dh.n Dh.c, .slice Dl.A Dl.n Dl.c] := O.blk
    have y1 := bd.cell 1
    have hbD : Below wr.heap.size wr wr.drew := (Below.refl _ _).drew
    have HY := Lib.hid (fun (W : World) (hW : Below wr.heap.size wr W) => (bd.below hW).cell 1)
    have hB1 := hB.size
    clear hs hw2 hws hL ho hW O E hB
    go_wp2
    refine wp_region_m (fun W => W.cell? ⟨gd, 1, none⟩ = some (.slice Dt ndt cdt)) 11 (by as_aux_lemma => kernel_rfl) (y1) (fun hHeld => ?_)
    refine wpAnyM_take (i := 0) (v := ?_) rfl (by as_aux_lemma => kernel_rfl) (by as_aux_lemma => kernel_rfl) (by as_aux_lemma => kernel_rfl) (by as_aux_lemma => kernel_rfl) (fun _ _ _ h => h) (Or.inl ⟨by rfl, ?_⟩) (hHeld) ?_
    rotate_left
    ·((intro W hSw); (try dsimp only at hSw); go_simp; try (with_reducible rfl))
    simp only [Act.put, List.setIfInBounds_toArray, List.set_cons_zero, List.set_cons_succ]
    refine wpAnyM_take (i := 1) (v := ?_) rfl (by as_aux_lemma => kernel_rfl) (by as_aux_lemma => kernel_rfl) (by as_aux_lemma => kernel_rfl) (by as_aux_lemma => kernel_rfl) (fun _ _ _ h => h) (Or.inl ⟨by rfl, ?_⟩) (hHeld) ?_
    rotate_left
    ·((intro W hSw); (try dsimp only at hSw); go_simp; try (with_reducible rfl))
    simp only [Act.put, List.setIfInBounds_toArray, List.set_cons_zero, List.set_cons_succ]
    refine wpAnyM_take (i := 2) (v := ?_) rfl (by as_aux_lemma => kernel_rfl) (by as_aux_lemma => kernel_rfl) (by as_aux_lemma => kernel_rfl) (by as_aux_lemma => kernel_rfl) (fun _ _ _ h => h) (Or.inl ⟨by rfl, ?_⟩) (hHeld) ?_
    rotate_left
    ·((intro W hSw); (try dsimp only at hSw); go_simp; try (with_reducible rfl))
    simp only [Act.put, List.setIfInBounds_toArray, List.set_cons_zero, List.set_cons_succ]
    refine wpAnyM_take (i := 3) (v := ?_) rfl (by as_aux_lemma => kernel_rfl) (by as_aux_lemma => kernel_rfl) (by as_aux_lemma => kernel_rfl) (by as_aux_lemma => kernel_rfl) (fun _ _ _ h => h) (Or.inl ⟨by rfl, ?_⟩) (hHeld) ?_
    rotate_left
    ·((intro W hSw); (try dsimp only at hSw); go_simp; try (with_reducible rfl))
    simp only [Act.put, List.setIfInBounds_toArray, List.set_cons_zero, List.set_cons_succ]
    refine wpAnyM_take (i := 4) (v := ?_) rfl (by as_aux_lemma => kernel_rfl) (by as_aux_lemma => kernel_rfl) (by as_aux_lemma => kernel_rfl) (by as_aux_lemma => kernel_rfl) (fun _ _ _ h => h) (Or.inl ⟨by rfl, ?_⟩) (hHeld) ?_
    rotate_left
    ·((intro W hSw); (try dsimp only at hSw); go_simp; try (with_reducible rfl))
    simp only [Act.put, List.setIfInBounds_toArray, List.set_cons_zero, List.set_cons_succ]
    refine wpAnyM_take (i := 5) (v := ?_) rfl (by as_aux_lemma => kernel_rfl) (by as_aux_lemma => kernel_rfl) (by as_aux_lemma => kernel_rfl) (by as_aux_lemma => kernel_rfl) (fun _ _ _ h => h) (Or.inl ⟨by rfl, ?_⟩) (hHeld) ?_
    rotate_left
    ·((intro W hSw); (try dsimp only at hSw); go_simp; try (with_reducible rfl))
    simp only [Act.put, List.setIfInBounds_toArray, List.set_cons_zero, List.set_cons_succ]
    refine wpAnyM_one (i := 6) (by as_aux_lemma => kernel_rfl) rfl (fun K hK => ?_)
    refine step_app wr.drew (by rfl) (.const (.slice none 0 0)) (.tmp 36) _ (by rfl) w0.heap.size 9 i1 _ 1 16 Tryz.underlying28 hi1 hz10 hz11 hz12 (by rfl) (by decide) _ 0 [] (by rfl) (World.ownsRow_nil _ _ _ _) Ak nk ck (strs s) (by rfl) hfl.out SRC.out h1s.out (by unfold maxLen; omega) (by omega) hB1 ?_
    intro v5 w5 own5 gr5 _
    obtain ⟨A5, c5, rfl, -, -⟩ := own_slc own5
    have hb5 : Below wr.heap.size wr w5 := hbD.grown gr5 (Nat.le_refl _) (fun k hk => by cases hk)
    have y5 := HY.out w5 hb5
    have y5a := ((bd.below hb5).alloc (.cells #[.slice A5 nk c5] 28)).cell 1
    refine hK.out _ _ (fun _ => y5) ?_
    clear hK K
    try simp only [Act.put, List.setIfInBounds_toArray, List.set_cons_zero, List.set_cons_succ]
    refine wpAnyM_one (i := 7) (by as_aux_lemma => kernel_rfl) rfl (fun K hK => ?_)
    go_simp
    refine hK.out _ _ (fun _ => y5a) ?_
    clear hK K
    try simp only [Act.put, List.setIfInBounds_toArray, List.set_cons_zero, List.set_cons_succ]
    refine wpAnyM_one (i := 8) (by as_aux_lemma => kernel_rfl) rfl (fun K hK => ?_)
    refine step_app (w5.alloc (.cells #[.slice A5 nk c5] 28)) (by rfl) (.tmp 35) (.tmp 38) _ (by rfl) w0.heap.size 28 i3 _ 1 24 Tryz.underlying23 hi3 hz30 hz31 hz32 (by rfl) (by decide) (.slice Dt ndt cdt) ndt (L.flatMap tkV) (by rfl) ((own_below HO.out hb5).alloc _) (some ⟨w5.heap.size, 0, none⟩) 1 1 [.slice A5 nk c5] (by rfl) rfl (fun _ => ⟨_, rfl, news_new w5 28 [.slice A5 nk c5]⟩) (fun u hu => by simp at hu; subst hu; rfl) (by unfold maxLen; omega) (by omega) (Nat.le_trans hB1 (hb5.alloc hb5.size _).size) ?_
    intro v6 w6 own6 gr6 _
    obtain ⟨A6, c6, rfl, -, -⟩ := own_slc own6
    have b6 := (bd.below hb5).off ((Off.alloc w5 (.cells #[.slice A5 nk c5] 28)).trans (Off.grown ((own_below HO.out hb5).alloc (.cells #[.slice A5 nk c5] 28)) gr6)) (by decide)
    have y6 := b6.cell 1
    have z6 := b6.free 1
    refine hK.out _ _ (fun _ => y6) ?_
    clear hK K
    try simp only [Act.put, List.setIfInBounds_toArray, List.set_cons_zero, List.set_cons_succ]
    refine wpAnyM_one (i := 9) (by as_aux_lemma => kernel_rfl) rfl (fun K hK => ?_)
    go_simp
    refine hK.out _ _ (fun _ => y6) ?_
    clear hK K
    try simp only [Act.put, List.setIfInBounds_toArray, List.set_cons_zero, List.set_cons_succ]
    refine wpAnyM_one (i := 10) (by as_aux_lemma => kernel_rfl) rfl (fun K hK => ?_)
    go_simp
    refine hK.out _ _ (fun _ => y6) ?_
    clear hK K
    try simp only [Act.put, List.setIfInBounds_toArray, List.set_cons_zero, List.set_cons_succ]
    refine wpAnyM_one (i := 11) (by as_aux_lemma => kernel_rfl) rfl (fun K hK => ?_)
    go_simp
    refine hK.out _ _ (fun h => absurd rfl h) ?_
    clear hK K
    try simp only [Act.put, List.setIfInBounds_toArray, List.set_cons_zero, List.set_cons_succ]
    refine wpAnyM_done (by as_aux_lemma => kernel_rfl) (NoPanic.normal ?_) _
    go_wp2
    go_roundw
    case rel =>
     have o5 : w5.ownsRow w0.heap.size 9 1 (.slice A5 nk c5) nk (strs s) := by simpa using own5
     have O5 := (OO.out.below hb5).alloc (.cells #[.slice A5 nk c5] 28)
     have E5 := (EE.out.bel hb5).alloc (.cells #[.slice A5 nk c5] 28)
     have hoa := (own_below HO.out hb5).alloc (.cells #[.slice A5 nk c5] 28)
     have O6 := O5.tok (y := ⟨A5, nk, c5⟩) (s := s) hLL.out hoa (fun x hx => ⟨(own_below (HW.out x hx).1 hb5).alloc _, (HW.out x hx).2⟩) ⟨o5.alloc _, HWS.out⟩ own6 gr6
     have E6 := (E5.grown hoa gr6 (by decide)).setd hgd 1 (.slice A6 (ndt + 1) c6)
     refine ⟨j + 1, by omega, by go_num, ⟨⟨Da, nda, cda⟩, ⟨A6, ndt + 1, c6⟩, ⟨Dx, ndx, cdx⟩, ⟨Dr, ndr, cdr⟩, ⟨Dn, ndn, cdn⟩, Dh, Dl⟩, E6, ?_, rfl, rfl⟩
     rw [HJ.out]
     exact O6
    case measure => simp [intOf]; omega
   ·obtain rfl : nt = j := by omega
    have HD : Hid (CatR w0 (w.alloc (.cells #[.slice Aa na ca, .slice At nt ct, .slice Ax nx cx, .slice Ar nr cr, .slice An nn cn, .slice Ah nh ch, .slice Al nl cl] 30)) wr gd Dh Dl ⟨d.attrs, d.toks ++ b.toks.take nt, d.texts, d.regs, d.nods, d.heads, d.rels⟩) := ⟨_, E, O, rfl, rfl⟩
    clear E O
    go_wp2
    go_meet
    case rel =>
     have h9 := HD.out
     rw [List.take_of_length_le (by have : b.toks.length = nt := HTL.out; omega)] at h9
     exact h9
  -- dev>
 case rest =>
  clear q1 R0 hrt
  have R1 := Lib.hid hcut
  clear hcut
  obtain ⟨_, EX, -, -, -⟩ := R1.out
  have q2 : _ = some (Value.slice Ax nx cx) := (BC.out _ EX.keep).cell 2
  clear EX
  go_upto_block 2 with (fail)
  go_cut [] from 14 (fun wr => CatR w0 (w.alloc (.cells #[.slice Aa na ca, .slice At nt ct, .slice Ax nx cx, .slice Ar nr cr, .slice An nn cn, .slice Ah nh ch, .slice Al nl cl] 30)) wr gd Eh El ⟨d.attrs, d.toks ++ b.toks, d.texts ++ b.texts.map (Cor.mvT (NT : Int)), d.regs, d.nods, d.heads, d.rels⟩)
  case first =>
   -- <dev
   go_wp2
   go_loopw [46] (fun iv wr => ∃ j : Nat, j ≤ nx ∧ iv = .int .i64 j ∧ CatR w0 (w.alloc (.cells #[.slice Aa na ca, .slice At nt ct, .slice Ax nx cx, .slice Ar nr cr, .slice An nn cn, .slice Ah nh ch, .slice Al nl cl] 30)) wr gd Eh El ⟨d.attrs, d.toks ++ b.toks, d.texts ++ (b.texts.take j).map (Cor.mvT (NT : Int)), d.regs, d.nods, d.heads, d.rels⟩) (fun iv _ => nx - (intOf iv).toNat)
   case atStart => exact ⟨0, Nat.zero_le _, rfl, by rw [List.take_zero, List.map_nil, List.append_nil]; exact R1.out⟩
   case round =>
    obtain ⟨j, hj, rfl, hD⟩ := hrel
    obtain ⟨⟨⟨Da, nda, cda⟩, ⟨Dt, ndt, cdt⟩, ⟨Dx, ndx, cdx⟩, ⟨Dr, ndr, cdr⟩, ⟨Dn, ndn, cdn⟩, Dh, Dl⟩, E, O, hDh, hDl⟩ := hD
    subst hDh hDl
    by_cases hlt : j < nx
    ·obtain ⟨ga', oa', ⟨Ak, nk, ck⟩, hk2, e2, hga, hto, d0, d1, d2, d3⟩ := hrx.at_ (k := j) hlt
     have e2 : Ax = some ⟨ga', oa', none⟩ := e2
     subst e2
     have hB := E.below
     replace d0 := (hB.cell (p := ⟨ga', _, none⟩) hga).trans d0
     replace d1 := (hB.cell (p := ⟨ga', _, none⟩) hga).trans d1
     replace d2 := (hB.cell (p := ⟨ga', _, none⟩) hga).trans d2
     replace d3 := (hB.cell (p := ⟨ga', _, none⟩) hga).trans d3
     have hrx := HV.out.tx _ (List.getElem_mem hk2)
     obtain ⟨⟨rx, rb, re, rk⟩, hx⟩ : ∃ x, b.texts[j] = x := ⟨_, rfl⟩
     have HJ : Hid (d.texts ++ (b.texts.take (j + 1)).map (Cor.mvT (NT : Int)) = d.texts ++ (b.texts.take j).map (Cor.mvT (NT : Int)) ++ [⟨rx, rb + (NT : Int), re + (NT : Int), rk⟩]) := by
      show _ = _
      rw [List.take_succ_eq_append_getElem hk2, hx, List.map_append, List.append_assoc]; rfl
     rw [hx] at d0 d1 d2 hto hrx
     obtain ⟨hr2, hr3, hr4, hr5⟩ := hrx
     simp only [] at d0 d1 d2 hr2 hr3 hr4 hr5
     have hbt : b.toks.length ≤ 4096 := HV.out.tkl.1
     have EE := Lib.hid (E.alloc (.cells #[str rx, .int .i64 rb, .int .i64 re, .slice Ak nk ck] 66))
     have OO := Lib.hid (O.alloc (.cells #[str rx, .int .i64 rb, .int .i64 re, .slice Ak nk ck] 66))
     have gdw : gd < wr.heap.size := O.blk.lt
     have HTO2 := Lib.hid hto
     have HB := Lib.hid hB
     obtain ⟨L, hL, ho0, hW0⟩ := O.x
     have HNE := Lib.hid (fun (e : some wr.heap.size = (Value.slice Dx ndx cdx).ownBlock) => Nat.lt_irrefl _ (ho0.lt _ e.symm).2)
     have hdl : ndx ≤ 64 := by
      have h2 : L.length = ndx := (own_sl ho0).flen txV_len (by omega)
      have h3 : L.length = d.texts.length + min j b.texts.length := by
       rw [← List.length_map (f := Prod.fst), hL, List.length_append, List.length_map, List.length_take]
      omega
     have ho := ho0.alloc (.cells #[str rx, .int .i64 rb, .int .i64 re, .slice Ak nk ck] 66)
     have hW := fun y hy => (hW0 y hy).off (Off.alloc (R := 4294967295) wr (.cells #[str rx, .int .i64 rb, .int .i64 re, .slice Ak nk ck] 66)) (by decide)
     have hLL := Lib.hid hL
     have HO := Lib.hid ho
     have HW := Lib.hid hW
     have bd : Blk (wr.alloc (.cells #[str rx, .int .i64 rb, .int .i64 re, .slice Ak nk ck] 66)) gd 30 #[.slice Da nda cda, .slice Dt ndt cdt, .slice Dx ndx cdx, .slice Dr ndr cdr, .slice Dn ndn cdn, .slice Dh.A Dh.n Dh.c, .slice Dl.A Dl.n Dl.c] := OO.out.blk
     have bx := Blk.new wr 66 #[str rx, .int .i64 rb, .int .i64 re, .slice Ak nk ck]
     have y3 : (wr.alloc (.cells #[str rx, .int .i64 rb, .int .i64 re, .slice Ak nk ck] 66)).drew.cell? ⟨gd, 2, none⟩ = some (.slice Dx ndx cdx) := bd.cell 2
     have x0 : (wr.alloc (.cells #[str rx, .int .i64 rb, .int .i64 re, .slice Ak nk ck] 66)).drew.cell? ⟨wr.heap.size, 0, none⟩ = some (str rx) := bx.cell 0
     have x1 : (wr.alloc (.cells #[str rx, .int .i64 rb, .int .i64 re, .slice Ak nk ck] 66)).drew.cell? ⟨wr.heap.size, 1, none⟩ = some (.int .i64 rb) := bx.cell 1
     have x2 : (wr.alloc (.cells #[str rx, .int .i64 rb, .int .i64 re, .slice Ak nk ck] 66)).drew.cell? ⟨wr.heap.size, 2, none⟩ = some (.int .i64 re) := bx.cell 2
     have x3 : (wr.alloc (.cells #[str rx, .int .i64 rb, .int .i64 re, .slice Ak nk ck] 66)).drew.cell? ⟨wr.heap.size, 3, none⟩ = some (.slice Ak nk ck) := bx.cell 3
     have HS := Lib.hid (fun (W : World) (hW : Below (wr.alloc (.cells #[str rx, .int .i64 rb, .int .i64 re, .slice Ak nk ck] 66)).heap.size (wr.alloc (.cells #[str rx, .int .i64 rb, .int .i64 re, .slice Ak nk ck] 66)) W) => show (fun W => W.cell? ⟨gd, 2, none⟩ = some (.slice Dx ndx cdx) ∧ W.cell? ⟨wr.heap.size, 0, none⟩ = some (str rx) ∧ W.cell? ⟨wr.heap.size, 1, none⟩ = some (.int .i64 rb) ∧ W.cell? ⟨wr.heap.size, 2, none⟩ = some (.int .i64 re) ∧ W.cell? ⟨wr.heap.size, 3, none⟩ = some (.slice Ak nk ck)) W from
      ⟨(bd.below hW).cell 2, (bx.below hW).cell 0, (bx.below hW).cell 1, (bx.below hW).cell 2, (bx.below hW).cell 3⟩)
     have hbD : Below (wr.alloc (.cells #[str rx, .int .i64 rb, .int .i64 re, .slice Ak nk ck] 66)).heap.size (wr.alloc (.cells #[str rx, .int .i64 rb, .int .i64 re, .slice Ak nk ck] 66)) (wr.alloc (.cells #[str rx, .int .i64 rb, .int .i64 re, .slice Ak nk ck] 66)).drew := (Below.refl _ _).drew
     have hB9 := (HB.out.alloc HB.out.size (.cells #[str rx, .int .i64 rb, .int .i64 re, .slice Ak nk ck] 66)).drew
     have hkl : rk.length = nk := HTO2.out.2.2.2.len
     have CC := Lib.hid (copyText_any rx rb re (NT : Int) Ak nk ck rk (wr.alloc (.cells #[str rx, .int .i64 rb, .int .i64 re, .slice Ak nk ck] 66)).drew (by omega) ⟨by omega, by omega⟩ ⟨by omega, by omega⟩ ((HTO2.out.2.2.2.under hB9).up hB9.size))
     have hB9s := hB9.size
     have RB : Hid (Rng (rb + (NT : Int))) := ⟨by omega, by omega⟩
     have RE : Hid (Rng (re + (NT : Int))) := ⟨by omega, by omega⟩
     clear ho hW hL hkl hr5 ho0 hW0 hx hto E O hB
     go_upto_region 10 with (fail)
     refine wp_region_m (fun W => W.cell? ⟨gd, 2, none⟩ = some (.slice Dx ndx cdx) ∧ W.cell? ⟨wr.heap.size, 0, none⟩ = some (str rx) ∧ W.cell? ⟨wr.heap.size, 1, none⟩ = some (.int .i64 rb) ∧ W.cell? ⟨wr.heap.size, 2, none⟩ = some (.int .i64 re) ∧ W.cell? ⟨wr.heap.size, 3, none⟩ = some (.slice Ak nk ck)) 12 (by as_aux_lemma => kernel_rfl) (⟨y3, x0, x1, x2, x3⟩) (fun hHeld => ?_)
     refine wpAnyM_take (i := 0) (v := ?_) rfl (by as_aux_lemma => kernel_rfl) (by as_aux_lemma => kernel_rfl) (by as_aux_lemma => kernel_rfl) (by as_aux_lemma => kernel_rfl) (fun _ _ _ h => h) (Or.inl ⟨by rfl, ?_⟩) (hHeld) ?_
     rotate_left
     ·((intro W hSw); (try dsimp only at hSw); go_simp; try (with_reducible rfl))
     simp only [Act.put, List.setIfInBounds_toArray, List.set_cons_zero, List.set_cons_succ]
     refine wpAnyM_take (i := 1) (v := ?_) rfl (by as_aux_lemma => kernel_rfl) (by as_aux_lemma => kernel_rfl) (by as_aux_lemma => kernel_rfl) (by as_aux_lemma => kernel_rfl) (fun _ _ _ h => h) (Or.inl ⟨by rfl, ?_⟩) (hHeld) ?_
     rotate_left
     ·((intro W hSw); (try dsimp only at hSw); go_simp; try (with_reducible rfl))
     simp only [Act.put, List.setIfInBounds_toArray, List.set_cons_zero, List.set_cons_succ]
     refine wpAnyM_take (i := 2) (v := ?_) rfl (by as_aux_lemma => kernel_rfl) (by as_aux_lemma => kernel_rfl) (by as_aux_lemma => kernel_rfl) (by as_aux_lemma => kernel_rfl) (fun _ _ _ h => h) (Or.inl ⟨by rfl, ?_⟩) (hHeld) ?_
     rotate_left
     ·((intro W hSw); (try dsimp only at hSw); go_simp; try (with_reducible rfl))
     simp only [Act.put, List.setIfInBounds_toArray, List.set_cons_zero, List.set_cons_succ]
     refine wpAnyM_take (i := 3) (v := ?_) rfl (by as_aux_lemma => kernel_rfl) (by as_aux_lemma => kernel_rfl) (by as_aux_lemma => kernel_rfl) (by as_aux_lemma => kernel_rfl) (fun _ _ _ h => h) (Or.inl ⟨by rfl, ?_⟩) (hHeld) ?_
     rotate_left
     ·((intro W hSw); (try dsimp only at hSw); go_simp; try (with_reducible rfl))
     simp only [Act.put, List.setIfInBounds_toArray, List.set_cons_zero, List.set_cons_succ]
     refine wpAnyM_take (i := 4) (v := ?_) rfl (by as_aux_lemma => kernel_rfl) (by as_aux_lemma => kernel_rfl) (by as_aux_lemma => kernel_rfl) (by as_aux_lemma => kernel_rfl) (fun _ _ _ h => h) (Or.inl ⟨by rfl, ?_⟩) (hHeld) ?_
     rotate_left
     ·((intro W hSw); (try dsimp only at hSw); go_simp; try (with_reducible rfl))
     simp only [Act.put, List.setIfInBounds_toArray, List.set_cons_zero, List.set_cons_succ]
     refine wpAnyM_take (i := 5) (v := ?_) rfl (by as_aux_lemma => kernel_rfl) (by as_aux_lemma => kernel_rfl) (by as_aux_lemma => kernel_rfl) (by as_aux_lemma => kernel_rfl) (fun _ _ _ h => h) (Or.inl ⟨by rfl, ?_⟩) (hHeld) ?_
     rotate_left
     ·((intro W hSw); (try dsimp only at hSw); go_simp; try (with_reducible rfl))
     simp only [Act.put, List.setIfInBounds_toArray, List.set_cons_zero, List.set_cons_succ]
     refine wpAnyM_take (i := 6) (v := ?_) rfl (by as_aux_lemma => kernel_rfl) (by as_aux_lemma => kernel_rfl) (by as_aux_lemma => kernel_rfl) (by as_aux_lemma => kernel_rfl) (fun _ _ _ h => h) (Or.inl ⟨by rfl, ?_⟩) (hHeld) ?_
     rotate_left
     ·((intro W hSw); (try dsimp only at hSw); go_simp; try (with_reducible rfl))
     simp only [Act.put, List.setIfInBounds_toArray, List.set_cons_zero, List.set_cons_succ]
     refine wpAnyM_one (i := 7) (by as_aux_lemma => kernel_rfl) rfl (fun K hK => ?_)
     go_simp
     refine CC.out.mono ?_
     rintro e' w5 ⟨A5, c5, rfl, own5, hb5⟩
     have hb5a := hbD.trans (hb5.mono hbD.size)
     have HH5 := HS.out w5 hb5a
     have hoa := (own_below (own_drew6 HO.out) hb5).alloc (.cells #[str rx, .int .i64 (rb + (NT : Int)), .int .i64 (re + (NT : Int)), .slice A5 rk.length c5] 66)
     have H5a := HS.out (w5.alloc (.cells #[str rx, .int .i64 (rb + (NT : Int)), .int .i64 (re + (NT : Int)), .slice A5 rk.length c5] 66)) (hb5a.alloc hb5a.size _)
     go_simp
     refine hK.out _ _ (fun _ => HH5) ?_
     clear hK K
     try simp only [Act.put, List.setIfInBounds_toArray, List.set_cons_zero, List.set_cons_succ]
     refine wpAnyM_one (i := 8) (by as_aux_lemma => kernel_rfl) rfl (fun K hK => ?_)
     go_simp
     refine hK.out _ _ (fun _ => H5a) ?_
     clear hK K
     try simp only [Act.put, List.setIfInBounds_toArray, List.set_cons_zero, List.set_cons_succ]
     refine wpAnyM_one (i := 9) (by as_aux_lemma => kernel_rfl) rfl (fun K hK => ?_)
     refine step_app (w5.alloc (.cells #[str rx, .int .i64 (rb + (NT : Int)), .int .i64 (re + (NT : Int)), .slice A5 rk.length c5] 66)) (by rfl) (.tmp 54) (.tmp 58) _ (by rfl) w0.heap.size 66 i6 _ 4 56 Tryz.underlying24 hi6 hz60 hz61 hz62 (by rfl) (by decide) (.slice Dx ndx cdx) ndx (L.flatMap txV) (by rfl) hoa (some ⟨w5.heap.size, 0, none⟩) 1 1 (txV (⟨rx, rb + (NT : Int), re + (NT : Int), rk⟩, ⟨A5, rk.length, c5⟩)) (by rfl) rfl (fun _ => ⟨_, rfl, news_new w5 66 (txV (⟨rx, rb + (NT : Int), re + (NT : Int), rk⟩, ⟨A5, rk.length, c5⟩))⟩) (txV_one _) (by unfold maxLen; omega) (by omega) (Nat.le_trans hB9s (hb5a.alloc hb5a.size _).size) ?_
     intro v6 w6 own6 gr6 _
     obtain ⟨A6, c6, rfl, -, -⟩ := own_slc own6
     have b6 := (bd.below hb5a).off ((Off.alloc w5 (.cells #[str rx, .int .i64 (rb + (NT : Int)), .int .i64 (re + (NT : Int)), .slice A5 rk.length c5] 66)).trans (Off.grown hoa gr6)) (by decide)
     have y6 : w6.cell? ⟨gd, 2, none⟩ = some (.slice Dx ndx cdx) := b6.cell 2
     have z6 := b6.free 2
     have bx6 := grown_block gr6 ((bx.below hb5a).alloc (.cells #[str rx, .int .i64 (rb + (NT : Int)), .int .i64 (re + (NT : Int)), .slice A5 rk.length c5] 66)) HNE.out
     have bx6 : Blk w6 wr.heap.size 66 #[str rx, .int .i64 rb, .int .i64 re, .slice Ak nk ck] := bx6
     refine hK.out _ _ (fun _ => ⟨y6, bx6.cell 0, bx6.cell 1, bx6.cell 2, bx6.cell 3⟩) ?_
     clear hK K
     try simp only [Act.put, List.setIfInBounds_toArray, List.set_cons_zero, List.set_cons_succ]
     refine wpAnyM_one (i := 10) (by as_aux_lemma => kernel_rfl) rfl (fun K hK => ?_)
     go_simp
     refine hK.out _ _ (fun _ => ⟨y6, bx6.cell 0, bx6.cell 1, bx6.cell 2, bx6.cell 3⟩) ?_
     clear hK K
     try simp only [Act.put, List.setIfInBounds_toArray, List.set_cons_zero, List.set_cons_succ]
     refine wpAnyM_one (i := 11) (by as_aux_lemma => kernel_rfl) rfl (fun K hK => ?_)
     go_simp
     refine hK.out _ _ (fun _ => ⟨y6, bx6.cell 0, bx6.cell 1, bx6.cell 2, bx6.cell 3⟩) ?_
     clear hK K
     try simp only [Act.put, List.setIfInBounds_toArray, List.set_cons_zero, List.set_cons_succ]
     refine wpAnyM_one (i := 12) (by as_aux_lemma => kernel_rfl) rfl (fun K hK => ?_)
     go_simp
     refine hK.out _ _ (fun h => absurd rfl h) ?_
     clear hK K
     try simp only [Act.put, List.setIfInBounds_toArray, List.set_cons_zero, List.set_cons_succ]
     refine wpAnyM_done (by as_aux_lemma => kernel_rfl) (NoPanic.normal ?_) _
     go_wp2
     go_roundw
     case rel =>
      have O5 := ((OO.out.drew).below hb5).alloc (.cells #[str rx, .int .i64 (rb + (NT : Int)), .int .i64 (re + (NT : Int)), .slice A5 rk.length c5] 66)
      have E5 := ((EE.out.drew).bel hb5).alloc (.cells #[str rx, .int .i64 (rb + (NT : Int)), .int .i64 (re + (NT : Int)), .slice A5 rk.length c5] 66)
      have O6 := O5.txt (y := (⟨rx, rb + (NT : Int), re + (NT : Int), rk⟩, ⟨A5, rk.length, c5⟩)) hLL.out hoa (fun x hx => ⟨(HW.out x hx).1, (HW.out x hx).2.1, (HW.out x hx).2.2.1, (own_below (own_drew6 (HW.out x hx).2.2.2.1) hb5).alloc _, (HW.out x hx).2.2.2.2⟩) ⟨HTO2.out.1, RB.out, RE.out, (own_base own5 hB9s).alloc _, HTO2.out.2.2.2.2.2⟩ own6 gr6
      have E6 := (E5.grown hoa gr6 (by decide)).setd hgd 2 (.slice A6 (ndx + 1) c6)
      refine ⟨j + 1, by omega, by go_num, ⟨⟨Da, nda, cda⟩, ⟨Dt, ndt, cdt⟩, ⟨A6, ndx + 1, c6⟩, ⟨Dr, ndr, cdr⟩, ⟨Dn, ndn, cdn⟩, Dh, Dl⟩, E6, ?_, rfl, rfl⟩
      rw [HJ.out]
      exact O6
     case measure => simp [intOf]; omega
    ·obtain rfl : nx = j := by omega
     have HD : Hid (CatR w0 (w.alloc (.cells #[.slice Aa na ca, .slice At nt ct, .slice Ax nx cx, .slice Ar nr cr, .slice An nn cn, .slice Ah nh ch, .slice Al nl cl] 30)) wr gd Dh Dl ⟨d.attrs, d.toks ++ b.toks, d.texts ++ (b.texts.take nx).map (Cor.mvT (NT : Int)), d.regs, d.nods, d.heads, d.rels⟩) := ⟨_, E, O, rfl, rfl⟩
     clear E O
     go_wp2
     go_meet
     case rel =>
      have h9 := HD.out
      rw [List.take_of_length_le (by have : b.texts.length = nx := HXL.out; omega)] at h9
      exact h9
   -- dev>
  case rest =>
   clear q2 R1 hrx
   have R2 := Lib.hid hcut
   clear hcut
   obtain ⟨_, EX, -, -, -⟩ := R2.out
   have q3 : _ = some (Value.slice Ar nr cr) := (BC.out _ EX.keep).cell 3
   clear EX
   go_upto_block 4 with (fail)
   go_cut [] from 14 (fun wr => CatR w0 (w.alloc (.cells #[.slice Aa na ca, .slice At nt ct, .slice Ax nx cx, .slice Ar nr cr, .slice An nn cn, .slice Ah nh ch, .slice Al nl cl] 30)) wr gd Eh El ⟨d.attrs, d.toks ++ b.toks, d.texts ++ b.texts.map (Cor.mvT (NT : Int)), d.regs ++ b.regs.map (Cor.mvR (NT : Int)), d.nods, d.heads, d.rels⟩)
   case first =>
    -- <dev
    go_wp2
    go_loopw [66] (fun iv wr => ∃ j : Nat, j ≤ nr ∧ iv = .int .i64 j ∧ CatR w0 (w.alloc (.cells #[.slice Aa na ca, .slice At nt ct, .slice Ax nx cx, .slice Ar nr cr, .slice An nn cn, .slice Ah nh ch, .slice Al nl cl] 30)) wr gd Eh El ⟨d.attrs, d.toks ++ b.toks, d.texts ++ b.texts.map (Cor.mvT (NT : Int)), d.regs ++ (b.regs.take j).map (Cor.mvR (NT : Int)), d.nods, d.heads, d.rels⟩) (fun iv _ => nr - (intOf iv).toNat)
    case atStart => exact ⟨0, Nat.zero_le _, rfl, by rw [List.take_zero, List.map_nil, List.append_nil]; exact R2.out⟩
    case round =>
     obtain ⟨j, hj, rfl, hD⟩ := hrel
     obtain ⟨⟨⟨Da, nda, cda⟩, ⟨Dt, ndt, cdt⟩, ⟨Dx, ndx, cdx⟩, ⟨Dr, ndr, cdr⟩, ⟨Dn, ndn, cdn⟩, Dh, Dl⟩, E, O, hDh, hDl⟩ := hD
     subst hDh hDl
     by_cases hlt : j < nr
     ·obtain ⟨ga', oa', ⟨Ak, nk, ck⟩, hk2, e2, hga, hto, d0, d1, d2, d3⟩ := hrr.at_ (k := j) hlt
      have e2 : Ar = some ⟨ga', oa', none⟩ := e2
      subst e2
      have hB := E.below
      replace d0 := (hB.cell (p := ⟨ga', _, none⟩) hga).trans d0
      replace d1 := (hB.cell (p := ⟨ga', _, none⟩) hga).trans d1
      replace d2 := (hB.cell (p := ⟨ga', _, none⟩) hga).trans d2
      replace d3 := (hB.cell (p := ⟨ga', _, none⟩) hga).trans d3
      have hrx := HV.out.rg _ (List.getElem_mem hk2)
      obtain ⟨⟨rx, rb, re, rk⟩, hx⟩ : ∃ x, b.regs[j] = x := ⟨_, rfl⟩
      have HJ : Hid (d.regs ++ (b.regs.take (j + 1)).map (Cor.mvR (NT : Int)) = d.regs ++ (b.regs.take j).map (Cor.mvR (NT : Int)) ++ [⟨rx, rb + (NT : Int), re + (NT : Int), rk⟩]) := by
       show _ = _
       rw [List.take_succ_eq_append_getElem hk2, hx, List.map_append, List.append_assoc]; rfl
      rw [hx] at d0 d1 d2 hto hrx
      obtain ⟨_, hr2, hr3, hr4, hr5⟩ := hrx
      simp only [] at d0 d1 d2 hr2 hr3 hr4 hr5
      have hbt : b.toks.length ≤ 4096 := HV.out.tkl.1
      have EE := Lib.hid (E.alloc (.cells #[str rx, .int .i64 rb, .int .i64 re, .slice Ak nk ck] 69))
      have OO := Lib.hid (O.alloc (.cells #[str rx, .int .i64 rb, .int .i64 re, .slice Ak nk ck] 69))
      have gdw : gd < wr.heap.size := O.blk.lt
      have HTO2 := Lib.hid hto
      have HB := Lib.hid hB
      obtain ⟨L, hL, ho0, hW0⟩ := O.r
      have HNE := Lib.hid (fun (e : some wr.heap.size = (Value.slice Dr ndr cdr).ownBlock) => Nat.lt_irrefl _ (ho0.lt _ e.symm).2)
      have hdl : ndr ≤ 1024 := by
       have h2 : L.length = ndr := (own_sl ho0).flen txV_len (by omega)
       have h3 : L.length = d.regs.length + min j b.regs.length := by
        rw [← List.length_map (f := Prod.fst), hL, List.length_append, List.length_map, List.length_take]
       omega
      have ho := ho0.alloc (.cells #[str rx, .int .i64 rb, .int .i64 re, .slice Ak nk ck] 69)
      have hW := fun y hy => (hW0 y hy).off (Off.alloc (R := 4294967295) wr (.cells #[str rx, .int .i64 rb, .int .i64 re, .slice Ak nk ck] 69)) (by decide)
      have hLL := Lib.hid hL
      have HO := Lib.hid ho
      have HW := Lib.hid hW
      have bd : Blk (wr.alloc (.cells #[str rx, .int .i64 rb, .int .i64 re, .slice Ak nk ck] 69)) gd 30 #[.slice Da nda cda, .slice Dt ndt cdt, .slice Dx ndx cdx, .slice Dr ndr cdr, .slice Dn ndn cdn, .slice Dh.A Dh.n Dh.c, .slice Dl.A Dl.n Dl.c] := OO.out.blk
      have bx := Blk.new wr 69 #[str rx, .int .i64 rb, .int .i64 re, .slice Ak nk ck]
      have y3 : (wr.alloc (.cells #[str rx, .int .i64 rb, .int .i64 re, .slice Ak nk ck] 69)).drew.cell? ⟨gd, 3, none⟩ = some (.slice Dr ndr cdr) := bd.cell 3
      have x0 : (wr.alloc (.cells #[str rx, .int .i64 rb, .int .i64 re, .slice Ak nk ck] 69)).drew.cell? ⟨wr.heap.size, 0, none⟩ = some (str rx) := bx.cell 0
      have x1 : (wr.alloc (.cells #[str rx, .int .i64 rb, .int .i64 re, .slice Ak nk ck] 69)).drew.cell? ⟨wr.heap.size, 1, none⟩ = some (.int .i64 rb) := bx.cell 1
      have x2 : (wr.alloc (.cells #[str rx, .int .i64 rb, .int .i64 re, .slice Ak nk ck] 69)).drew.cell? ⟨wr.heap.size, 2, none⟩ = some (.int .i64 re) := bx.cell 2
      have x3 : (wr.alloc (.cells #[str rx, .int .i64 rb, .int .i64 re, .slice Ak nk ck] 69)).drew.cell? ⟨wr.heap.size, 3, none⟩ = some (.slice Ak nk ck) := bx.cell 3
      have HS := Lib.hid (fun (W : World) (hW : Below (wr.alloc (.cells #[str rx, .int .i64 rb, .int .i64 re, .slice Ak nk ck] 69)).heap.size (wr.alloc (.cells #[str rx, .int .i64 rb, .int .i64 re, .slice Ak nk ck] 69)) W) => show (fun W => W.cell? ⟨gd, 3, none⟩ = some (.slice Dr ndr cdr) ∧ W.cell? ⟨wr.heap.size, 0, none⟩ = some (str rx) ∧ W.cell? ⟨wr.heap.size, 1, none⟩ = some (.int .i64 rb) ∧ W.cell? ⟨wr.heap.size, 2, none⟩ = some (.int .i64 re) ∧ W.cell? ⟨wr.heap.size, 3, none⟩ = some (.slice Ak nk ck)) W from
       ⟨(bd.below hW).cell 3, (bx.below hW).cell 0, (bx.below hW).cell 1, (bx.below hW).cell 2, (bx.below hW).cell 3⟩)
      have hbD : Below (wr.alloc (.cells #[str rx, .int .i64 rb, .int .i64 re, .slice Ak nk ck] 69)).heap.size (wr.alloc (.cells #[str rx, .int .i64 rb, .int .i64 re, .slice Ak nk ck] 69)) (wr.alloc (.cells #[str rx, .int .i64 rb, .int .i64 re, .slice Ak nk ck] 69)).drew := (Below.refl _ _).drew
      have hB9 := (HB.out.alloc HB.out.size (.cells #[str rx, .int .i64 rb, .int .i64 re, .slice Ak nk ck] 69)).drew
      have hkl : rk.length = nk := HTO2.out.2.2.2.len
      have CC := Lib.hid (copyRegion_any rx rb re (NT : Int) Ak nk ck rk (wr.alloc (.cells #[str rx, .int .i64 rb, .int .i64 re, .slice Ak nk ck] 69)).drew (by omega) ⟨by omega, by omega⟩ ⟨by omega, by omega⟩ ((HTO2.out.2.2.2.under hB9).up hB9.size))
      have hB9s := hB9.size
      have RB : Hid (Rng (rb + (NT : Int))) := ⟨by omega, by omega⟩
      have RE : Hid (Rng (re + (NT : Int))) := ⟨by omega, by omega⟩
      clear ho hW hL hkl hr5 ho0 hW0 hx hto E O hB
      go_upto_region 15 with (fail)
      refine wp_region_m (fun W => W.cell? ⟨gd, 3, none⟩ = some (.slice Dr ndr cdr) ∧ W.cell? ⟨wr.heap.size, 0, none⟩ = some (str rx) ∧ W.cell? ⟨wr.heap.size, 1, none⟩ = some (.int .i64 rb) ∧ W.cell? ⟨wr.heap.size, 2, none⟩ = some (.int .i64 re) ∧ W.cell? ⟨wr.heap.size, 3, none⟩ = some (.slice Ak nk ck)) 12 (by as_aux_lemma => kernel_rfl) (⟨y3, x0, x1, x2, x3⟩) (fun hHeld => ?_)
      refine wpAnyM_take (i := 0) (v := ?_) rfl (by as_aux_lemma => kernel_rfl) (by as_aux_lemma => kernel_rfl) (by as_aux_lemma => kernel_rfl) (by as_aux_lemma => kernel_rfl) (fun _ _ _ h => h) (Or.inl ⟨by rfl, ?_⟩) (hHeld) ?_
      rotate_left
      ·((intro W hSw); (try dsimp only at hSw); go_simp; try (with_reducible rfl))
      simp only [Act.put, List.setIfInBounds_toArray, List.set_cons_zero, List.set_cons_succ]
      refine wpAnyM_take (i := 1) (v := ?_) rfl (by as_aux_lemma => kernel_rfl) (by as_aux_lemma => kernel_rfl) (by as_aux_lemma => kernel_rfl) (by as_aux_lemma => kernel_rfl) (fun _ _ _ h => h) (Or.inl ⟨by rfl, ?_⟩) (hHeld) ?_
      rotate_left
      ·((intro W hSw); (try dsimp only at hSw); go_simp; try (with_reducible rfl))
      simp only [Act.put, List.setIfInBounds_toArray, List.set_cons_zero, List.set_cons_succ]
      refine wpAnyM_take (i := 2) (v := ?_) rfl (by as_aux_lemma => kernel_rfl) (by as_aux_lemma => kernel_rfl) (by as_aux_lemma => kernel_rfl) (by as_aux_lemma => kernel_rfl) (fun _ _ _ h => h) (Or.inl ⟨by rfl, ?_⟩) (hHeld) ?_
      rotate_left
      ·((intro W hSw); (try dsimp only at hSw); go_simp; try (with_reducible rfl))
      simp only [Act.put, List.setIfInBounds_toArray, List.set_cons_zero, List.set_cons_succ]
      refine wpAnyM_take (i := 3) (v := ?_) rfl (by as_aux_lemma => kernel_rfl) (by as_aux_lemma => kernel_rfl) (by as_aux_lemma => kernel_rfl) (by as_aux_lemma => kernel_rfl) (fun _ _ _ h => h) (Or.inl ⟨by rfl, ?_⟩) (hHeld) ?_
      rotate_left
      ·((intro W hSw); (try dsimp only at hSw); go_simp; try (with_reducible rfl))
      simp only [Act.put, List.setIfInBounds_toArray, List.set_cons_zero, List.set_cons_succ]
      refine wpAnyM_take (i := 4) (v := ?_) rfl (by as_aux_lemma => kernel_rfl) (by as_aux_lemma => kernel_rfl) (by as_aux_lemma => kernel_rfl) (by as_aux_lemma => kernel_rfl) (fun _ _ _ h => h) (Or.inl ⟨by rfl, ?_⟩) (hHeld) ?_
      rotate_left
      ·((intro W hSw); (try dsimp only at hSw); go_simp; try (with_reducible rfl))
      simp only [Act.put, List.setIfInBounds_toArray, List.set_cons_zero, List.set_cons_succ]
      refine wpAnyM_take (i := 5) (v := ?_) rfl (by as_aux_lemma => kernel_rfl) (by as_aux_lemma => kernel_rfl) (by as_aux_lemma => kernel_rfl) (by as_aux_lemma => kernel_rfl) (fun _ _ _ h => h) (Or.inl ⟨by rfl, ?_⟩) (hHeld) ?_
      rotate_left
      ·((intro W hSw); (try dsimp only at hSw); go_simp; try (with_reducible rfl))
      simp only [Act.put, List.setIfInBounds_toArray, List.set_cons_zero, List.set_cons_succ]
      refine wpAnyM_take (i := 6) (v := ?_) rfl (by as_aux_lemma => kernel_rfl) (by as_aux_lemma => kernel_rfl) (by as_aux_lemma => kernel_rfl) (by as_aux_lemma => kernel_rfl) (fun _ _ _ h => h) (Or.inl ⟨by rfl, ?_⟩) (hHeld) ?_
      rotate_left
      ·((intro W hSw); (try dsimp only at hSw); go_simp; try (with_reducible rfl))
      simp only [Act.put, List.setIfInBounds_toArray, List.set_cons_zero, List.set_cons_succ]
      refine wpAnyM_one (i := 7) (by as_aux_lemma => kernel_rfl) rfl (fun K hK => ?_)
      go_simp
      refine CC.out.mono ?_
      rintro e' w5 ⟨A5, c5, rfl, own5, hb5⟩
      have hb5a := hbD.trans (hb5.mono hbD.size)
      have HH5 := HS.out w5 hb5a
      have hoa := (own_below (own_drew6 HO.out) hb5).alloc (.cells #[str rx, .int .i64 (rb + (NT : Int)), .int .i64 (re + (NT : Int)), .slice A5 rk.length c5] 69)
      have H5a := HS.out (w5.alloc (.cells #[str rx, .int .i64 (rb + (NT : Int)), .int .i64 (re + (NT : Int)), .slice A5 rk.length c5] 69)) (hb5a.alloc hb5a.size _)
      go_simp
      refine hK.out _ _ (fun _ => HH5) ?_
      clear hK K
      try simp only [Act.put, List.setIfInBounds_toArray, List.set_cons_zero, List.set_cons_succ]
      refine wpAnyM_one (i := 8) (by as_aux_lemma => kernel_rfl) rfl (fun K hK => ?_)
      go_simp
      refine hK.out _ _ (fun _ => H5a) ?_
      clear hK K
      try simp only [Act.put, List.setIfInBounds_toArray, List.set_cons_zero, List.set_cons_succ]
      refine wpAnyM_one (i := 9) (by as_aux_lemma => kernel_rfl) rfl (fun K hK => ?_)
      refine step_app (w5.alloc (.cells #[str rx, .int .i64 (rb + (NT : Int)), .int .i64 (re + (NT : Int)), .slice A5 rk.length c5] 69)) (by rfl) (.tmp 74) (.tmp 78) _ (by rfl) w0.heap.size 69 i2 _ 4 56 Tryz.underlying25 hi2 hz20 hz21 hz22 (by rfl) (by decide) (.slice Dr ndr cdr) ndr (L.flatMap txV) (by rfl) hoa (some ⟨w5.heap.size, 0, none⟩) 1 1 (txV (⟨rx, rb + (NT : Int), re + (NT : Int), rk⟩, ⟨A5, rk.length, c5⟩)) (by rfl) rfl (fun _ => ⟨_, rfl, news_new w5 69 (txV (⟨rx, rb + (NT : Int), re + (NT : Int), rk⟩, ⟨A5, rk.length, c5⟩))⟩) (txV_one _) (by unfold maxLen; omega) (by omega) (Nat.le_trans hB9s (hb5a.alloc hb5a.size _).size) ?_
      intro v6 w6 own6 gr6 _
      obtain ⟨A6, c6, rfl, -, -⟩ := own_slc own6
      have b6 := (bd.below hb5a).off ((Off.alloc w5 (.cells #[str rx, .int .i64 (rb + (NT : Int)), .int .i64 (re + (NT : Int)), .slice A5 rk.length c5] 69)).trans (Off.grown hoa gr6)) (by decide)
      have y6 : w6.cell? ⟨gd, 3, none⟩ = some (.slice Dr ndr cdr) := b6.cell 3
      have z6 := b6.free 3
      have bx6 := grown_block gr6 ((bx.below hb5a).alloc (.cells #[str rx, .int .i64 (rb + (NT : Int)), .int .i64 (re + (NT : Int)), .slice A5 rk.length c5] 69)) HNE.out
      have bx6 : Blk w6 wr.heap.size 69 #[str rx, .int .i64 rb, .int .i64 re, .slice Ak nk ck] := bx6
      refine hK.out _ _ (fun _ => ⟨y6, bx6.cell 0, bx6.cell 1, bx6.cell 2, bx6.cell 3⟩) ?_
      clear hK K
      try simp only [Act.put, List.setIfInBounds_toArray, List.set_cons_zero, List.set_cons_succ]
      refine wpAnyM_one (i := 10) (by as_aux_lemma => kernel_rfl) rfl (fun K hK => ?_)
      go_simp
      refine hK.out _ _ (fun _ => ⟨y6, bx6.cell 0, bx6.cell 1, bx6.cell 2, bx6.cell 3⟩) ?_
      clear hK K
      try simp only [Act.put, List.setIfInBounds_toArray, List.set_cons_zero, List.set_cons_succ]
      refine wpAnyM_one (i := 11) (by as_aux_lemma => kernel_rfl) rfl (fun K hK => ?_)
      go_simp
      refine hK.out _ _ (fun _ => ⟨y6, bx6.cell 0, bx6.cell 1, bx6.cell 2, bx6.cell 3⟩) ?_
      clear hK K
      try simp only [Act.put, List.setIfInBounds_toArray, List.set_cons_zero, List.set_cons_succ]
      refine wpAnyM_one (i := 12) (by as_aux_lemma => kernel_rfl) rfl (fun K hK => ?_)
      go_simp
      refine hK.out _ _ (fun h => absurd rfl h) ?_
      clear hK K
      try simp only [Act.put, List.setIfInBounds_toArray, List.set_cons_zero, List.set_cons_succ]
      refine wpAnyM_done (by as_aux_lemma => kernel_rfl) (NoPanic.normal ?_) _
      go_wp2
      go_roundw
      case rel =>
       have O5 := ((OO.out.drew).below hb5).alloc (.cells #[str rx, .int .i64 (rb + (NT : Int)), .int .i64 (re + (NT : Int)), .slice A5 rk.length c5] 69)
       have E5 := ((EE.out.drew).bel hb5).alloc (.cells #[str rx, .int .i64 (rb + (NT : Int)), .int .i64 (re + (NT : Int)), .slice A5 rk.length c5] 69)
       have O6 := O5.reg (y := (⟨rx, rb + (NT : Int), re + (NT : Int), rk⟩, ⟨A5, rk.length, c5⟩)) hLL.out hoa (fun x hx => ⟨(HW.out x hx).1, (HW.out x hx).2.1, (HW.out x hx).2.2.1, (own_below (own_drew6 (HW.out x hx).2.2.2.1) hb5).alloc _, (HW.out x hx).2.2.2.2⟩) ⟨HTO2.out.1, RB.out, RE.out, (own_base own5 hB9s).alloc _, HTO2.out.2.2.2.2.2⟩ own6 gr6
       have E6 := (E5.grown hoa gr6 (by decide)).setd hgd 3 (.slice A6 (ndr + 1) c6)
       refine ⟨j + 1, by omega, by go_num, ⟨⟨Da, nda, cda⟩, ⟨Dt, ndt, cdt⟩, ⟨Dx, ndx, cdx⟩, ⟨A6, ndr + 1, c6⟩, ⟨Dn, ndn, cdn⟩, Dh, Dl⟩, E6, ?_, rfl, rfl⟩
       rw [HJ.out]
       exact O6
      case measure => simp [intOf]; omega
     ·obtain rfl : nr = j := by omega
      have HD : Hid (CatR w0 (w.alloc (.cells #[.slice Aa na ca, .slice At nt ct, .slice Ax nx cx, .slice Ar nr cr, .slice An nn cn, .slice Ah nh ch, .slice Al nl cl] 30)) wr gd Dh Dl ⟨d.attrs, d.toks ++ b.toks, d.texts ++ b.texts.map (Cor.mvT (NT : Int)), d.regs ++ (b.regs.take nr).map (Cor.mvR (NT : Int)), d.nods, d.heads, d.rels⟩) := ⟨_, E, O, rfl, rfl⟩
      clear E O
      go_wp2
      go_meet
      case rel =>
       have h9 := HD.out
       rw [List.take_of_length_le (by have : b.regs.length = nr := HRL.out; omega)] at h9
       exact h9
    -- dev>
   case rest =>
    clear q3 R2 hrr
    have R3 := Lib.hid hcut
    clear hcut
    obtain ⟨_, EX, -, -, -⟩ := R3.out
    have q4 : _ = some (Value.slice An nn cn) := (BC.out _ EX.keep).cell 4
    clear EX
    go_upto_block 6 with (fail)
    -- <dev
    go_wp2
    go_loopw [86] (fun iv wr => ∃ j : Nat, j ≤ nn ∧ iv = .int .i64 j ∧ CatR w0 (w.alloc (.cells #[.slice Aa na ca, .slice At nt ct, .slice Ax nx cx, .slice Ar nr cr, .slice An nn cn, .slice Ah nh ch, .slice Al nl cl] 30)) wr gd Eh El ⟨d.attrs, d.toks ++ b.toks, d.texts ++ b.texts.map (Cor.mvT (NT : Int)), d.regs ++ b.regs.map (Cor.mvR (NT : Int)), d.nods ++ (b.nods.take j).map (Cor.mvN (NT : Int) (NN : Int)), d.heads, d.rels⟩) (fun iv _ => nn - (intOf iv).toNat)
    case atStart => exact ⟨0, Nat.zero_le _, rfl, by rw [List.take_zero, List.map_nil, List.append_nil]; exact R3.out⟩
    case round =>
     obtain ⟨j, hj, rfl, hD⟩ := hrel
     obtain ⟨⟨⟨Da, nda, cda⟩, ⟨Dt, ndt, cdt⟩, ⟨Dx, ndx, cdx⟩, ⟨Dr, ndr, cdr⟩, ⟨Dn, ndn, cdn⟩, Dh, Dl⟩, E, O, hDh, hDl⟩ := hD
     subst hDh hDl
     by_cases hlt : j < nn
     ·obtain ⟨ga', oa', hk2, e2, hga, hto, d0, d1, d2, d3⟩ := hrn.at_ (k := j) hlt
      have e2 : An = some ⟨ga', oa', none⟩ := e2
      subst e2
      have hB := E.below
      replace d0 := (hB.cell (p := ⟨ga', _, none⟩) hga).trans d0
      replace d1 := (hB.cell (p := ⟨ga', _, none⟩) hga).trans d1
      replace d2 := (hB.cell (p := ⟨ga', _, none⟩) hga).trans d2
      replace d3 := (hB.cell (p := ⟨ga', _, none⟩) hga).trans d3
      have hrx := (HV.out.nd j hk2).2
      obtain ⟨⟨rx, rb, re, rp⟩, hx⟩ : ∃ x, b.nods[j] = x := ⟨_, rfl⟩
      rw [hx] at d0 d1 d2 d3 hto hrx
      obtain ⟨hr1, hr2, hr3, hr4, hr5⟩ := hrx
      simp only [] at d0 d1 d2 d3 hr1 hr2 hr3 hr4 hr5
      obtain ⟨pz, hpz⟩ : ∃ z, (if 0 ≤ rp then rp + (NN : Int) else rp) = z := ⟨_, rfl⟩
      have HJ : Hid (d.nods ++ (b.nods.take (j + 1)).map (Cor.mvN (NT : Int) (NN : Int)) = d.nods ++ (b.nods.take j).map (Cor.mvN (NT : Int) (NN : Int)) ++ [⟨rx, rb + (NT : Int), re + (NT : Int), pz⟩]) := by
       show _ = _
       rw [List.take_succ_eq_append_getElem hk2, hx, List.map_append, List.append_assoc, ← hpz]; rfl
      have hbt : b.toks.length ≤ 4096 := HV.out.tkl.1
      have EE := Lib.hid (E.alloc (.cells #[str rx, .int .i64 rb, .int .i64 re, .int .i64 rp] 71))
      have OO := Lib.hid (O.alloc (.cells #[str rx, .int .i64 rb, .int .i64 re, .int .i64 rp] 71))
      have gdw : gd < wr.heap.size := O.blk.lt
      have HTO2 := Lib.hid hto
      have HB := Lib.hid hB
      have HNE := Lib.hid (fun (e : some wr.heap.size = (Value.slice Dn ndn cdn).ownBlock) => Nat.lt_irrefl _ (O.n.1.lt _ e.symm).2)
      have ho := OO.out.n.1
      have hdl : ndn ≤ 2048 := by
       have h2 : (d.nods ++ (b.nods.take j).map (Cor.mvN (NT : Int) (NN : Int))).length = ndn := (own_sl ho).flen ndV_len (by omega)
       rw [List.length_append, List.length_map, List.length_take] at h2
       have := HNN.out
       omega
      have HO := Lib.hid ho
      have hpr : Rng (rp + (NN : Int)) := ⟨by omega, by omega⟩
      have RP : Hid (Rng pz) := by
       show Rng pz
       rw [← hpz]; split
       ·exact hpr
       ·exact ⟨by omega, by omega⟩
      have bd : Blk (wr.alloc (.cells #[str rx, .int .i64 rb, .int .i64 re, .int .i64 rp] 71)) gd 30 #[.slice Da nda cda, .slice Dt ndt cdt, .slice Dx ndx cdx, .slice Dr ndr cdr, .slice Dn ndn cdn, .slice Dh.A Dh.n Dh.c, .slice Dl.A Dl.n Dl.c] := OO.out.blk
      have bx := Blk.new wr 71 #[str rx, .int .i64 rb, .int .i64 re, .int .i64 rp]
      have y3 : (wr.alloc (.cells #[str rx, .int .i64 rb, .int .i64 re, .int .i64 rp] 71)).drew.cell? ⟨gd, 4, none⟩ = some (.slice Dn ndn cdn) := bd.cell 4
      have x0 : (wr.alloc (.cells #[str rx, .int .i64 rb, .int .i64 re, .int .i64 rp] 71)).drew.cell? ⟨wr.heap.size, 0, none⟩ = some (str rx) := bx.cell 0
      have x1 : (wr.alloc (.cells #[str rx, .int .i64 rb, .int .i64 re, .int .i64 rp] 71)).drew.cell? ⟨wr.heap.size, 1, none⟩ = some (.int .i64 rb) := bx.cell 1
      have x2 : (wr.alloc (.cells #[str rx, .int .i64 rb, .int .i64 re, .int .i64 rp] 71)).drew.cell? ⟨wr.heap.size, 2, none⟩ = some (.int .i64 re) := bx.cell 2
      have x3 : (wr.alloc (.cells #[str rx, .int .i64 rb, .int .i64 re, .int .i64 rp] 71)).drew.cell? ⟨wr.heap.size, 3, none⟩ = some (.int .i64 rp) := bx.cell 3
      have HS := Lib.hid (fun (W : World) (hW : Below (wr.alloc (.cells #[str rx, .int .i64 rb, .int .i64 re, .int .i64 rp] 71)).heap.size (wr.alloc (.cells #[str rx, .int .i64 rb, .int .i64 re, .int .i64 rp] 71)) W) => show (fun W => W.cell? ⟨gd, 4, none⟩ = some (.slice Dn ndn cdn) ∧ W.cell? ⟨wr.heap.size, 0, none⟩ = some (str rx) ∧ W.cell? ⟨wr.heap.size, 1, none⟩ = some (.int .i64 rb) ∧ W.cell? ⟨wr.heap.size, 2, none⟩ = some (.int .i64 re) ∧ W.cell? ⟨wr.heap.size, 3, none⟩ = some (.int .i64 rp)) W from
       ⟨(bd.below hW).cell 4, (bx.below hW).cell 0, (bx.below hW).cell 1, (bx.below hW).cell 2, (bx.below hW).cell 3⟩)
      have hbD : Below (wr.alloc (.cells #[str rx, .int .i64 rb, .int .i64 re, .int .i64 rp] 71)).heap.size (wr.alloc (.cells #[str rx, .int .i64 rb, .int .i64 re, .int .i64 rp] 71)) (wr.alloc (.cells #[str rx, .int .i64 rb, .int .i64 re, .int .i64 rp] 71)).drew := (Below.refl _ _).drew
      have hB9 := (HB.out.alloc HB.out.size (.cells #[str rx, .int .i64 rb, .int .i64 re, .int .i64 rp] 71)).drew
      have cc := copyNode_any rx rb re rp (NT : Int) (NN : Int) (wr.alloc (.cells #[str rx, .int .i64 rb, .int .i64 re, .int .i64 rp] 71)).drew ⟨by omega, by omega⟩ ⟨by omega, by omega⟩ hpr
      rw [hpz] at cc
      have CC := Lib.hid cc
      have hB9s := hB9.size
      have RB : Hid (Rng (rb + (NT : Int))) := ⟨by omega, by omega⟩
      have RE : Hid (Rng (re + (NT : Int))) := ⟨by omega, by omega⟩
      clear ho cc hpz hpr hx hto E O hB
      go_upto_region 20 with (fail)
      refine wp_region_m (fun W => W.cell? ⟨gd, 4, none⟩ = some (.slice Dn ndn cdn) ∧ W.cell? ⟨wr.heap.size, 0, none⟩ = some (str rx) ∧ W.cell? ⟨wr.heap.size, 1, none⟩ = some (.int .i64 rb) ∧ W.cell? ⟨wr.heap.size, 2, none⟩ = some (.int .i64 re) ∧ W.cell? ⟨wr.heap.size, 3, none⟩ = some (.int .i64 rp)) 13 (by as_aux_lemma => kernel_rfl) (⟨y3, x0, x1, x2, x3⟩) (fun hHeld => ?_)
      refine wpAnyM_take (i := 0) (v := ?_) rfl (by as_aux_lemma => kernel_rfl) (by as_aux_lemma => kernel_rfl) (by as_aux_lemma => kernel_rfl) (by as_aux_lemma => kernel_rfl) (fun _ _ _ h => h) (Or.inl ⟨by rfl, ?_⟩) (hHeld) ?_
      rotate_left
      ·((intro W hSw); (try dsimp only at hSw); go_simp; try (with_reducible rfl))
      simp only [Act.put, List.setIfInBounds_toArray, List.set_cons_zero, List.set_cons_succ]
      refine wpAnyM_take (i := 1) (v := ?_) rfl (by as_aux_lemma => kernel_rfl) (by as_aux_lemma => kernel_rfl) (by as_aux_lemma => kernel_rfl) (by as_aux_lemma => kernel_rfl) (fun _ _ _ h => h) (Or.inl ⟨by rfl, ?_⟩) (hHeld) ?_
      rotate_left
      ·((intro W hSw); (try dsimp only at hSw); go_simp; try (with_reducible rfl))
      simp only [Act.put, List.setIfInBounds_toArray, List.set_cons_zero, List.set_cons_succ]
      refine wpAnyM_take (i := 2) (v := ?_) rfl (by as_aux_lemma => kernel_rfl) (by as_aux_lemma => kernel_rfl) (by as_aux_lemma => kernel_rfl) (by as_aux_lemma => kernel_rfl) (fun _ _ _ h => h) (Or.inl ⟨by rfl, ?_⟩) (hHeld) ?_
      rotate_left
      ·((intro W hSw); (try dsimp only at hSw); go_simp; try (with_reducible rfl))
      simp only [Act.put, List.setIfInBounds_toArray, List.set_cons_zero, List.set_cons_succ]
      refine wpAnyM_take (i := 3) (v := ?_) rfl (by as_aux_lemma => kernel_rfl) (by as_aux_lemma => kernel_rfl) (by as_aux_lemma => kernel_rfl) (by as_aux_lemma => kernel_rfl) (fun _ _ _ h => h) (Or.inl ⟨by rfl, ?_⟩) (hHeld) ?_
      rotate_left
      ·((intro W hSw); (try dsimp only at hSw); go_simp; try (with_reducible rfl))
      simp only [Act.put, List.setIfInBounds_toArray, List.set_cons_zero, List.set_cons_succ]
      refine wpAnyM_take (i := 4) (v := ?_) rfl (by as_aux_lemma => kernel_rfl) (by as_aux_lemma => kernel_rfl) (by as_aux_lemma => kernel_rfl) (by as_aux_lemma => kernel_rfl) (fun _ _ _ h => h) (Or.inl ⟨by rfl, ?_⟩) (hHeld) ?_
      rotate_left
      ·((intro W hSw); (try dsimp only at hSw); go_simp; try (with_reducible rfl))
      simp only [Act.put, List.setIfInBounds_toArray, List.set_cons_zero, List.set_cons_succ]
      refine wpAnyM_take (i := 5) (v := ?_) rfl (by as_aux_lemma => kernel_rfl) (by as_aux_lemma => kernel_rfl) (by as_aux_lemma => kernel_rfl) (by as_aux_lemma => kernel_rfl) (fun _ _ _ h => h) (Or.inl ⟨by rfl, ?_⟩) (hHeld) ?_
      rotate_left
      ·((intro W hSw); (try dsimp only at hSw); go_simp; try (with_reducible rfl))
      simp only [Act.put, List.setIfInBounds_toArray, List.set_cons_zero, List.set_cons_succ]
      refine wpAnyM_take (i := 6) (v := ?_) rfl (by as_aux_lemma => kernel_rfl) (by as_aux_lemma => kernel_rfl) (by as_aux_lemma => kernel_rfl) (by as_aux_lemma => kernel_rfl) (fun _ _ _ h => h) (Or.inl ⟨by rfl, ?_⟩) (hHeld) ?_
      rotate_left
      ·((intro W hSw); (try dsimp only at hSw); go_simp; try (with_reducible rfl))
      simp only [Act.put, List.setIfInBounds_toArray, List.set_cons_zero, List.set_cons_succ]
      refine wpAnyM_take (i := 7) (v := ?_) rfl (by as_aux_lemma => kernel_rfl) (by as_aux_lemma => kernel_rfl) (by as_aux_lemma => kernel_rfl) (by as_aux_lemma => kernel_rfl) (fun _ _ _ h => h) (Or.inl ⟨by rfl, ?_⟩) (hHeld) ?_
      rotate_left
      ·((intro W hSw); (try dsimp only at hSw); go_simp; try (with_reducible rfl))
      simp only [Act.put, List.setIfInBounds_toArray, List.set_cons_zero, List.set_cons_succ]
      refine wpAnyM_one (i := 8) (by as_aux_lemma => kernel_rfl) rfl (fun K hK => ?_)
      go_simp
      refine CC.out.mono ?_
      rintro e' w5 ⟨rfl, hb5⟩
      have hb5a := hbD.trans (hb5.mono hbD.size)
      have HH5 := HS.out w5 hb5a
      have hoa := (own_below (own_drew6 HO.out) hb5).alloc (.cells #[str rx, .int .i64 (rb + (NT : Int)), .int .i64 (re + (NT : Int)), .int .i64 pz] 71)
      have H5a := HS.out (w5.alloc (.cells #[str rx, .int .i64 (rb + (NT : Int)), .int .i64 (re + (NT : Int)), .int .i64 pz] 71)) (hb5a.alloc hb5a.size _)
      go_simp
      refine hK.out _ _ (fun _ => HH5) ?_
      clear hK K
      try simp only [Act.put, List.setIfInBounds_toArray, List.set_cons_zero, List.set_cons_succ]
      refine wpAnyM_one (i := 9) (by as_aux_lemma => kernel_rfl) rfl (fun K hK => ?_)
      go_simp
      refine hK.out _ _ (fun _ => H5a) ?_
      clear hK K
      try simp only [Act.put, List.setIfInBounds_toArray, List.set_cons_zero, List.set_cons_succ]
      refine wpAnyM_one (i := 10) (by as_aux_lemma => kernel_rfl) rfl (fun K hK => ?_)
      refine step_app (w5.alloc (.cells #[str rx, .int .i64 (rb + (NT : Int)), .int .i64 (re + (NT : Int)), .int .i64 pz] 71)) (by rfl) (.tmp 94) (.tmp 99) _ (by rfl) w0.heap.size 71 i4 _ 4 40 Tryz.underlying26 hi4 hz40 hz41 hz42 (by rfl) (by decide) (.slice Dn ndn cdn) ndn ((d.nods ++ (b.nods.take j).map (Cor.mvN (NT : Int) (NN : Int))).flatMap ndV) (by rfl) hoa (some ⟨w5.heap.size, 0, none⟩) 1 1 (ndV ⟨rx, rb + (NT : Int), re + (NT : Int), pz⟩) (by rfl) rfl (fun _ => ⟨_, rfl, news_new w5 71 (ndV ⟨rx, rb + (NT : Int), re + (NT : Int), pz⟩)⟩) (ndV_one6 _) (by unfold maxLen; omega) (by omega) (Nat.le_trans hB9s (hb5a.alloc hb5a.size _).size) ?_
      intro v6 w6 own6 gr6 _
      obtain ⟨A6, c6, rfl, -, -⟩ := own_slc own6
      have b6 := (bd.below hb5a).off ((Off.alloc w5 (.cells #[str rx, .int .i64 (rb + (NT : Int)), .int .i64 (re + (NT : Int)), .int .i64 pz] 71)).trans (Off.grown hoa gr6)) (by decide)
      have y6 : w6.cell? ⟨gd, 4, none⟩ = some (.slice Dn ndn cdn) := b6.cell 4
      have z6 := b6.free 4
      have bx6 := grown_block gr6 ((bx.below hb5a).alloc (.cells #[str rx, .int .i64 (rb + (NT : Int)), .int .i64 (re + (NT : Int)), .int .i64 pz] 71)) HNE.out
      have bx6 : Blk w6 wr.heap.size 71 #[str rx, .int .i64 rb, .int .i64 re, .int .i64 rp] := bx6
      refine hK.out _ _ (fun _ => ⟨y6, bx6.cell 0, bx6.cell 1, bx6.cell 2, bx6.cell 3⟩) ?_
      clear hK K
      try simp only [Act.put, List.setIfInBounds_toArray, List.set_cons_zero, List.set_cons_succ]
      refine wpAnyM_one (i := 11) (by as_aux_lemma => kernel_rfl) rfl (fun K hK => ?_)
      go_simp
      refine hK.out _ _ (fun _ => ⟨y6, bx6.cell 0, bx6.cell 1, bx6.cell 2, bx6.cell 3⟩) ?_
      clear hK K
      try simp only [Act.put, List.setIfInBounds_toArray, List.set_cons_zero, List.set_cons_succ]
      refine wpAnyM_one (i := 12) (by as_aux_lemma => kernel_rfl) rfl (fun K hK => ?_)
      go_simp
      refine hK.out _ _ (fun _ => ⟨y6, bx6.cell 0, bx6.cell 1, bx6.cell 2, bx6.cell 3⟩) ?_
      clear hK K
      try simp only [Act.put, List.setIfInBounds_toArray, List.set_cons_zero, List.set_cons_succ]
      refine wpAnyM_one (i := 13) (by as_aux_lemma => kernel_rfl) rfl (fun K hK => ?_)
      go_simp
      refine hK.out _ _ (fun h => absurd rfl h) ?_
      clear hK K
      try simp only [Act.put, List.setIfInBounds_toArray, List.set_cons_zero, List.set_cons_succ]
      refine wpAnyM_done (by as_aux_lemma => kernel_rfl) (NoPanic.normal ?_) _
      go_wp2
      go_roundw
      case rel =>
       have O5 := ((OO.out.drew).below hb5).alloc (.cells #[str rx, .int .i64 (rb + (NT : Int)), .int .i64 (re + (NT : Int)), .int .i64 pz] 71)
       have E5 := ((EE.out.drew).bel hb5).alloc (.cells #[str rx, .int .i64 (rb + (NT : Int)), .int .i64 (re + (NT : Int)), .int .i64 pz] 71)
       have O6 := O5.nod (y := ⟨rx, rb + (NT : Int), re + (NT : Int), pz⟩) ⟨HTO2.out.1, RB.out, RE.out, RP.out⟩ own6 gr6
       have E6 := (E5.grown hoa gr6 (by decide)).setd hgd 4 (.slice A6 (ndn + 1) c6)
       refine ⟨j + 1, by omega, by go_num, ⟨⟨Da, nda, cda⟩, ⟨Dt, ndt, cdt⟩, ⟨Dx, ndx, cdx⟩, ⟨Dr, ndr, cdr⟩, ⟨A6, ndn + 1, c6⟩, Dh, Dl⟩, E6, ?_, rfl, rfl⟩
       rw [HJ.out]
       exact O6
      case measure => simp [intOf]; omega
     ·obtain rfl : nn = j := by omega
      have HD : Hid (CatR w0 (w.alloc (.cells #[.slice Aa na ca, .slice At nt ct, .slice Ax nx cx, .slice Ar nr cr, .slice An nn cn, .slice Ah nh ch, .slice Al nl cl] 30)) wr gd Dh Dl ⟨d.attrs, d.toks ++ b.toks, d.texts ++ b.texts.map (Cor.mvT (NT : Int)), d.regs ++ b.regs.map (Cor.mvR (NT : Int)), d.nods ++ (b.nods.take nn).map (Cor.mvN (NT : Int) (NN : Int)), d.heads, d.rels⟩) := ⟨_, E, O, rfl, rfl⟩
      clear E O
      go_wp2
      refine bodyPost_end (v := .tuple #[]) (results_none rfl _ _ _) rfl ?_
      have h9 := HD.out
      rw [List.take_of_length_le (by have : b.nods.length = nn := HNL.out; omega)] at h9
      obtain ⟨D9, E9, O9, e1, e2⟩ := h9
      exact ⟨rfl, D9, ⟨E9.below, HW1.out.trans E9.keep⟩, O9, e1, e2⟩
    -- dev>
end Go.Proofs.YtgkdaebiefhgdaaGreatDoor
namespace Go.Proofs.YtgkdaebiefhgdaaGreatDoor
set_option linter.unusedSimpArgs false
set_option linter.unusedVariables false
open Go.RowKit Utf
open Feat (Bs)
theorem allH_len {b : Cor.C} (v : Vd b) : (Cor.allH b).length = b.toks.length ∧ (Cor.allL b).length = b.toks.length := by
 have h := v.hdl
 unfold Cor.allH Cor.allL
 split
 ·constructor <;> omega
 ·simp
theorem allH_range {b : Cor.C} (v : Vd b) {j : Nat} (hj : j < b.heads.length) : -1 ≤ b.heads[j] ∧ b.heads[j] ≤ 4096 := by
 have hl := v.hdl
 have ht := v.tkl.1
 have hx := v.hz j hj
 unfold Cor.hdF at hx
 have hr : b.rels[j]? = some (b.rels[j]'(by omega)) := List.getElem?_eq_getElem _
 rw [List.getElem?_eq_getElem hj, hr] at hx
 simp only [] at hx
 by_cases h1 : b.heads[j] = -1
 ·omega
 ·split at hx
  ·omega
  ·rename_i h2
   refine ⟨?_, ?_⟩
   ·refine Classical.byContradiction fun h => h2 ⟨h1, .inl (by omega)⟩
   ·refine Classical.byContradiction fun h => h2 ⟨h1, .inr (.inl (by omega))⟩

set_option maxRecDepth 100000 in
set_option maxHeartbeats 16000000 in
theorem appendHeads_any (w0 wo w : World) (gd : Nat) (v0 v1 v2 v3 v4 : Value) (Eh El : Hd) (hs : List Int) (ls : List Bs) (H : CH) (b : Cor.C) (y : Nat) (hT : HeadT w0 wo w gd v0 v1 v2 v3 v4 Eh El hs ls) (hwd : w0.heap.size ≤ gd) (hwo : w0.heap.size ≤ wo.heap.size)
  (hr : Reads w0 w0.heap.size H b) (hv : Vd b) (hy : y ≤ 4096) (hl : hs.length ≤ 4096 ∧ ls.length ≤ 4096) :
  Calls Tryz.prog 54 #[.pointer (some ⟨gd, 0, none⟩), H.v, .int .i64 (y : Nat)] w (fun e w' => e = .returned (.tuple #[]) ∧ ∃ Eh El : Hd, HeadT w0 wo w' gd v0 v1 v2 v3 v4 Eh El (hs ++ (Cor.allH b).map (Cor.mvH (y : Nat))) (ls ++ Cor.allL b)) := by
 obtain ⟨⟨Aa, na, ca⟩, ⟨At, nt, ct⟩, ⟨Ax, nx, cx⟩, ⟨Ar, nr, cr⟩, ⟨An, nn, cn⟩, ⟨Ah, nh, ch⟩, ⟨Al, nl, cl⟩⟩ := H
 show Calls Tryz.prog 54 #[.pointer (some ⟨gd, 0, none⟩), .agg #[.slice Aa na ca, .slice At nt ct, .slice Ax nx cx, .slice Ar nr cr, .slice An nn cn, .slice Ah nh ch, .slice Al nl cl], .int .i64 (y : Nat)] w _
 have hgw : gd < w.heap.size := hT.blk.lt
 have hne : w.heap.size ≠ gd := by omega
 have HV := Lib.hid hv
 have hrt : b.toks.length = nt := hr.t.len
 have hhr : Nums w0 w0.heap.size ⟨Ah, nh, ch⟩ b.heads := hr.h
 have hlr : Words w0 w0.heap.size ⟨Al, nl, cl⟩ b.rels := hr.l
 have HHL := Lib.hid hhr.len
 have HLL := Lib.hid hlr.len
 have HAH : Hid ((Cor.allH b).length = nt) := (allH_len hv).1.trans hrt
 have HAL : Hid ((Cor.allL b).length = nt) := (allH_len hv).2.trans hrt
 have hnt : nt ≤ 4096 := by rw [← hrt]; exact hv.tkl.1
 have hdl := hv.hdl
 have BC := Lib.hid (fun (W : World) (h : OffG gd (w.alloc (.cells #[.slice Aa na ca, .slice At nt ct, .slice Ax nx cx, .slice Ar nr cr, .slice An nn cn, .slice Ah nh ch, .slice Al nl cl] 30)) W) => Blk.offG (Blk.new w 30 #[.slice Aa na ca, .slice At nt ct, .slice Ax nx cx, .slice Ar nr cr, .slice An nn cn, .slice Ah nh ch, .slice Al nl cl]) h hne)
 have T0 : Hid (HeadT w0 wo (w.alloc (.cells #[.slice Aa na ca, .slice At nt ct, .slice Ax nx cx, .slice Ar nr cr, .slice An nn cn, .slice Ah nh ch, .slice Al nl cl] 30)) gd v0 v1 v2 v3 v4 Eh El (hs ++ ((Cor.allH b).take 0).map (Cor.mvH (y : Nat))) (ls ++ (Cor.allL b).take 0)) := by
  show HeadT _ _ _ _ _ _ _ _ _ _ _ _ _
  rw [List.take_zero, List.take_zero, List.map_nil, List.append_nil, List.append_nil]
  exact hT.alloc _
 obtain ⟨i5, hi5, hz50, hz51, hz52⟩ := info_parts info_int
 obtain ⟨i1, hi1, hz10, hz11, hz12⟩ := info_parts info_string
 clear hT hr hv
 by_cases hz : nh = 0
 ·have e1 : b.heads = [] := List.eq_nil_of_length_eq_zero (by have : b.heads.length = nh := HHL.out; omega)
  have HA1 : Hid (Cor.allH b = List.replicate nt (-1)) := by show _ = _; unfold Cor.allH; rw [e1, if_neg (by simp), hrt]
  have HA2 : Hid (Cor.allL b = List.replicate nt []) := by show _ = _; unfold Cor.allL; rw [e1, if_neg (by simp), hrt]
  subst hz
  clear hdl e1 hrt
  go_enter Tryz.func54, Tryz.ntmps54
  go_wp2
  go_loopw [12] (fun iv wr => ∃ j : Nat, j ≤ nt ∧ iv = .int .i64 j ∧ ∃ Eh El : Hd, OffG gd (w.alloc (.cells #[.slice Aa na ca, .slice At nt ct, .slice Ax nx cx, .slice Ar nr cr, .slice An nn cn, .slice Ah 0 ch, .slice Al nl cl] 30)) wr ∧ HeadT w0 wo wr gd v0 v1 v2 v3 v4 Eh El (hs ++ ((Cor.allH b).take j).map (Cor.mvH (y : Nat))) (ls ++ (Cor.allL b).take j)) (fun iv _ => nt - (intOf iv).toNat)
  case atStart => exact ⟨0, Nat.zero_le _, rfl, _, _, OffG.refl _ _, T0.out⟩
  case round =>
   obtain ⟨j, hj, rfl, ⟨EA, en, ec⟩, ⟨LA, ln, lc⟩, hG, hT⟩ := hrel
   by_cases hlt : j < nt
   ·have q5 : _ = some (Value.slice Ah 0 ch) := (BC.out _ hG).cell 5
    have hen : en ≤ 8192 := by
     have h2 : (hs ++ ((Cor.allH b).take j).map (Cor.mvH (y : Nat))).length = en := by have := (own_sl hT.h.1).ilen; exact this
     rw [List.length_append, List.length_map, List.length_take] at h2
     have := HAH.out
     omega
    have hln : ln ≤ 8192 := by
     have h2 : (ls ++ (Cor.allL b).take j).length = ln := Sl.len (own_sl hT.l.1)
     rw [List.length_append, List.length_take] at h2
     have := HAL.out
     omega
    have HJ : Hid (((Cor.allH b).take (j + 1)).map (Cor.mvH (y : Nat)) = ((Cor.allH b).take j).map (Cor.mvH (y : Nat)) ++ [Cor.mvH (y : Nat) (-1)]) := by
     show _ = _
     rw [HA1.out, List.take_replicate, List.take_replicate, show min (j + 1) nt = min j nt + 1 by omega, List.replicate_succ', List.map_append]; rfl
    have HK : Hid ((Cor.allL b).take (j + 1) = (Cor.allL b).take j ++ [[]]) := by
     show _ = _
     rw [HA2.out, List.take_replicate, List.take_replicate, show min (j + 1) nt = min j nt + 1 by omega, List.replicate_succ']
    have HZ : Hid (Cor.mvH (y : Nat) (-1) = -1) := by show _ = _; unfold Cor.mvH; rw [if_neg (by omega)]
    have RZ : Hid (Rng (-1)) := by show Rng (-1); unfold Rng; omega
    have HLS : Hid (Len []) := by show Len []; unfold Len; simp
    obtain ⟨wq, rfl⟩ : ∃ wq : World, wq = wr := ⟨_, rfl⟩
    have HT := Lib.hid hT
    have HG := Lib.hid hG
    clear hT hG
    have bd : Blk wq gd 30 #[v0, v1, v2, v3, v4, .slice EA en ec, .slice LA ln lc] := HT.out.blk
    have y5 := bd.cell 5
    have z5 := bd.free 5
    have hoa := HT.out.h.1.alloc (.cells #[.int .i64 (-1)] 3)
    have hBW := HT.out.size
    go_upto_region 10 with (at_builtin; refine wpList_app _ rfl (.tmp 38) (.tmp 40) _ rfl wo.heap.size 3 i5 _ 1 8 Tryz.underlying27 hi5 hz50 hz51 hz52 rfl (by decide) (.slice EA en ec) en (ints (hs ++ ((Cor.allH b).take j).map (Cor.mvH (y : Nat)))) rfl hoa (some ⟨wq.heap.size, 0, none⟩) 1 1 [.int .i64 (-1)] rfl rfl (fun _ => ⟨_, rfl, news_new wq 3 [.int .i64 (-1)]⟩) (fun u hu => (by simp at hu; subst hu; rfl)) (by unfold maxLen; omega) (by omega) (HT.out.alloc (.cells #[.int .i64 (-1)] 3)).size ?_; intro v5 w5 own5 gr5 _; obtain ⟨A5, c5, rfl, -, -⟩ := own_slc own5; have b5 := (bd.alloc (.cells #[.int .i64 (-1)] 3)).off (Off.grown hoa gr5) (by decide); have w5y := b5.cell 5; have w5z := b5.free 5)
    have HT7 : HeadT w0 wo (w5.setCell ⟨gd, 5, none⟩ (.slice A5 (en + 1) c5)) gd v0 v1 v2 v3 v4 ⟨A5, en + 1, c5⟩ ⟨LA, ln, lc⟩ (hs ++ ((Cor.allH b).take j).map (Cor.mvH (y : Nat)) ++ [(-1)]) (ls ++ (Cor.allL b).take j) := (HT.out.alloc _).head hwd hwo RZ.out own5 gr5
    have HG7 : OffG gd (w.alloc (.cells #[.slice Aa na ca, .slice At nt ct, .slice Ax nx cx, .slice Ar nr cr, .slice An nn cn, .slice Ah 0 ch, .slice Al nl cl] 30)) (w5.setCell ⟨gd, 5, none⟩ (.slice A5 (en + 1) c5)) := ((HG.out.trans ((Off.alloc (R := 4294967295) wq (.cells #[.int .i64 (-1)] 3)).offG (by decide))).trans ((Off.grown hoa gr5).offG (by decide))).trans (OffG.set_ gd 5 _)
    clear own5 gr5 hoa b5 w5y w5z y5 z5 bd
    generalize (w5.setCell ⟨gd, 5, none⟩ (.slice A5 (en + 1) c5)) = w7 at HT7 HG7 ⊢
    have bd7 : Blk w7 gd 30 #[v0, v1, v2, v3, v4, .slice A5 (en + 1) c5, .slice LA ln lc] := HT7.blk
    have y6 := bd7.cell 6
    have z6 := bd7.free 6
    have hoa7 := HT7.l.1.alloc (.cells #[str []] 9)
    have hB7 := HT7.size
    go_wp2_with (at_builtin; refine wpList_app _ rfl (.tmp 48) (.tmp 50) _ rfl wo.heap.size 9 i1 _ 1 16 Tryz.underlying28 hi1 hz10 hz11 hz12 rfl (by decide) (.slice LA ln lc) ln (strs (ls ++ (Cor.allL b).take j)) rfl hoa7 (some ⟨w7.heap.size, 0, none⟩) 1 1 [str []] rfl rfl (fun _ => ⟨_, rfl, news_new w7 9 [str []]⟩) (fun u hu => (by simp at hu; subst hu; rfl)) (by unfold maxLen; omega) (by omega) (HT7.alloc (.cells #[str []] 9)).size ?_; intro v8 w8 own8 gr8 _; obtain ⟨A8, c8, rfl, -, -⟩ := own_slc own8; have b8 := (bd7.alloc (.cells #[str []] 9)).off (Off.grown hoa7 gr8) (by decide); have w8y := b8.cell 6; have w8z := b8.free 6)
    go_roundw
    case rel =>
     have T9 := (HT7.alloc (.cells #[str []] 9)).rel hwd hwo HLS.out own8 gr8
     have HG9 := ((HG7.trans ((Off.alloc (R := 4294967295) w7 (.cells #[str []] 9)).offG (by decide))).trans ((Off.grown hoa7 gr8).offG (by decide))).trans (OffG.set_ gd 6 (.slice A8 (ln + 1) c8))
     refine ⟨j + 1, by omega, by go_num, ⟨A5, en + 1, c5⟩, ⟨A8, ln + 1, c8⟩, HG9, ?_⟩
     rw [HJ.out, HK.out, HZ.out, ← List.append_assoc, ← List.append_assoc]
     exact T9
    case measure => simp [intOf]; omega
   ·obtain rfl : nt = j := by omega
    have HT := Lib.hid hT
    clear hT hG
    go_wp2
    refine bodyPost_end (v := .tuple #[]) (results_none rfl _ _ _) rfl ?_
    have h9 := HT.out
    rw [List.take_of_length_le (by have := HAH.out; omega), List.take_of_length_le (by have := HAL.out; omega)] at h9
    exact ⟨rfl, _, _, h9⟩
 ·have hnh : nh = nt := by
   have h1 : b.heads.length = nh := HHL.out
   omega
  have hnl : nl = nt := by
   have h1 : b.heads.length = nh := HHL.out
   have h2 : b.rels.length = nl := HLL.out
   omega
  obtain rfl : nt = nh := hnh.symm
  obtain rfl : nt = nl := hnl.symm
  have HA1 : Hid (Cor.allH b = b.heads) := by show _ = _; unfold Cor.allH; rw [if_pos (by have : b.heads.length = nt := HHL.out; omega)]
  have HA2 : Hid (Cor.allL b = b.rels) := by show _ = _; unfold Cor.allL; rw [if_pos (by have : b.heads.length = nt := HHL.out; omega)]
  have hzd : decide ((0 : Int) < (nt : Int)) = true := by simp; omega
  have hzd2 : decide (0 < nt) = true := by simp; omega
  clear hdl hrt hnh hnl
  go_enter Tryz.func54, Tryz.ntmps54
  go_wp2
  go_loopw [12] (fun iv wr => ∃ j : Nat, j ≤ nt ∧ iv = .int .i64 j ∧ ∃ Eh El : Hd, OffG gd (w.alloc (.cells #[.slice Aa na ca, .slice At nt ct, .slice Ax nx cx, .slice Ar nr cr, .slice An nn cn, .slice Ah nt ch, .slice Al nt cl] 30)) wr ∧ HeadT w0 wo wr gd v0 v1 v2 v3 v4 Eh El (hs ++ ((Cor.allH b).take j).map (Cor.mvH (y : Nat))) (ls ++ (Cor.allL b).take j)) (fun iv _ => nt - (intOf iv).toNat)
  case atStart => exact ⟨0, Nat.zero_le _, rfl, _, _, OffG.refl _ _, T0.out⟩
  case round =>
   obtain ⟨j, hj, rfl, ⟨EA, en, ec⟩, ⟨LA, ln, lc⟩, hG, hT⟩ := hrel
   by_cases hlt : j < nt
   ·have q5 : _ = some (Value.slice Ah nt ch) := (BC.out _ hG).cell 5
    have q6 : _ = some (Value.slice Al nt cl) := (BC.out _ hG).cell 6
    have hen : en ≤ 8192 := by
     have h2 : (hs ++ ((Cor.allH b).take j).map (Cor.mvH (y : Nat))).length = en := by have := (own_sl hT.h.1).ilen; exact this
     rw [List.length_append, List.length_map, List.length_take] at h2
     have := HAH.out
     omega
    have hln : ln ≤ 8192 := by
     have h2 : (ls ++ (Cor.allL b).take j).length = ln := Sl.len (own_sl hT.l.1)
     rw [List.length_append, List.length_take] at h2
     have := HAL.out
     omega
    obtain ⟨gh, oh, hk2, e2, hg1, hrg, d0⟩ := hhr.at_ (k := j) (show j < nt from hlt)
    have e2 : Ah = some ⟨gh, oh, none⟩ := e2
    subst e2
    obtain ⟨gl, ol, hk3, e3, hg2, hls, d1⟩ := hlr.at_ (k := j) (show j < nt from hlt)
    have e3 : Al = some ⟨gl, ol, none⟩ := e3
    subst e3
    have hB := hT.below
    replace d0 := (hB.cell (p := ⟨gh, _, none⟩) hg1).trans d0
    replace d1 := (hB.cell (p := ⟨gl, _, none⟩) hg2).trans d1
    have hra := allH_range HV.out hk2
    obtain ⟨hd, hhd⟩ : ∃ x, b.heads[j] = x := ⟨_, rfl⟩
    obtain ⟨s, hs'⟩ : ∃ x, b.rels[j] = x := ⟨_, rfl⟩
    have HJ : Hid (((Cor.allH b).take (j + 1)).map (Cor.mvH (y : Nat)) = ((Cor.allH b).take j).map (Cor.mvH (y : Nat)) ++ [Cor.mvH (y : Nat) hd]) := by
     show _ = _
     rw [HA1.out, List.take_succ_eq_append_getElem hk2, hhd, List.map_append]; rfl
    have HK : Hid ((Cor.allL b).take (j + 1) = (Cor.allL b).take j ++ [s]) := by
     show _ = _
     rw [HA2.out, List.take_succ_eq_append_getElem hk3, hs']
    rw [hhd] at d0 hra
    rw [hs'] at d1 hls
    have HLS := Lib.hid hls
    have HT := Lib.hid hT
    have HG := Lib.hid hG
    clear hhd hs' hls hB hrg hT hG
    go_upto_region 6 with (fail)
    go_quiet (fail)
    have HT := Lib.hid (HT.out.bel (below_drewN (Below.refl _ _) nq))
    have HG := Lib.hid (HG.out.trans ((Off.drewN (R := 4294967295) wr nq).offG (by decide)))
    clear q5 q6 d0 d1
    generalize wr.drewN nq = wq at HT HG ⊢
    by_cases hhz : 0 ≤ hd
    ·have HZ : Hid (Cor.mvH (y : Nat) hd = hd + (y : Nat)) := by show _ = _; unfold Cor.mvH; rw [if_pos hhz]
     have RZ : Hid (Rng (hd + (y : Nat))) := by show Rng _; unfold Rng; omega
     have dd : decide (0 ≤ hd) = true := by simpa using hhz
     have bd : Blk wq gd 30 #[v0, v1, v2, v3, v4, .slice EA en ec, .slice LA ln lc] := HT.out.blk
     have y5 := bd.cell 5
     have z5 := bd.free 5
     have hoa := HT.out.h.1.alloc (.cells #[.int .i64 (hd + (y : Nat))] 3)
     have hBW := HT.out.size
     go_upto_region 10 with (at_builtin; refine wpList_app _ rfl (.tmp 38) (.tmp 40) _ rfl wo.heap.size 3 i5 _ 1 8 Tryz.underlying27 hi5 hz50 hz51 hz52 rfl (by decide) (.slice EA en ec) en (ints (hs ++ ((Cor.allH b).take j).map (Cor.mvH (y : Nat)))) rfl hoa (some ⟨wq.heap.size, 0, none⟩) 1 1 [.int .i64 (hd + (y : Nat))] rfl rfl (fun _ => ⟨_, rfl, news_new wq 3 [.int .i64 (hd + (y : Nat))]⟩) (fun u hu => (by simp at hu; subst hu; rfl)) (by unfold maxLen; omega) (by omega) (HT.out.alloc (.cells #[.int .i64 (hd + (y : Nat))] 3)).size ?_; intro v5 w5 own5 gr5 _; obtain ⟨A5, c5, rfl, -, -⟩ := own_slc own5; have b5 := (bd.alloc (.cells #[.int .i64 (hd + (y : Nat))] 3)).off (Off.grown hoa gr5) (by decide); have w5y := b5.cell 5; have w5z := b5.free 5)
     have HT7 : HeadT w0 wo (w5.setCell ⟨gd, 5, none⟩ (.slice A5 (en + 1) c5)) gd v0 v1 v2 v3 v4 ⟨A5, en + 1, c5⟩ ⟨LA, ln, lc⟩ (hs ++ ((Cor.allH b).take j).map (Cor.mvH (y : Nat)) ++ [(hd + (y : Nat))]) (ls ++ (Cor.allL b).take j) := (HT.out.alloc _).head hwd hwo RZ.out own5 gr5
     have HG7 : OffG gd (w.alloc (.cells #[.slice Aa na ca, .slice At nt ct, .slice Ax nx cx, .slice Ar nr cr, .slice An nn cn, .slice (some ⟨gh, oh, none⟩) nt ch, .slice (some ⟨gl, ol, none⟩) nt cl] 30)) (w5.setCell ⟨gd, 5, none⟩ (.slice A5 (en + 1) c5)) := ((HG.out.trans ((Off.alloc (R := 4294967295) wq (.cells #[.int .i64 (hd + (y : Nat))] 3)).offG (by decide))).trans ((Off.grown hoa gr5).offG (by decide))).trans (OffG.set_ gd 5 _)
     clear own5 gr5 hoa b5 w5y w5z y5 z5 bd
     generalize (w5.setCell ⟨gd, 5, none⟩ (.slice A5 (en + 1) c5)) = w7 at HT7 HG7 ⊢
     have bd7 : Blk w7 gd 30 #[v0, v1, v2, v3, v4, .slice A5 (en + 1) c5, .slice LA ln lc] := HT7.blk
     have y6 := bd7.cell 6
     have z6 := bd7.free 6
     have hoa7 := HT7.l.1.alloc (.cells #[str s] 9)
     have hB7 := HT7.size
     go_wp2_with (at_builtin; refine wpList_app _ rfl (.tmp 48) (.tmp 50) _ rfl wo.heap.size 9 i1 _ 1 16 Tryz.underlying28 hi1 hz10 hz11 hz12 rfl (by decide) (.slice LA ln lc) ln (strs (ls ++ (Cor.allL b).take j)) rfl hoa7 (some ⟨w7.heap.size, 0, none⟩) 1 1 [str s] rfl rfl (fun _ => ⟨_, rfl, news_new w7 9 [str s]⟩) (fun u hu => (by simp at hu; subst hu; rfl)) (by unfold maxLen; omega) (by omega) (HT7.alloc (.cells #[str s] 9)).size ?_; intro v8 w8 own8 gr8 _; obtain ⟨A8, c8, rfl, -, -⟩ := own_slc own8; have b8 := (bd7.alloc (.cells #[str s] 9)).off (Off.grown hoa7 gr8) (by decide); have w8y := b8.cell 6; have w8z := b8.free 6)
     go_roundw
     case rel =>
      have T9 := (HT7.alloc (.cells #[str s] 9)).rel hwd hwo HLS.out own8 gr8
      have HG9 := ((HG7.trans ((Off.alloc (R := 4294967295) w7 (.cells #[str s] 9)).offG (by decide))).trans ((Off.grown hoa7 gr8).offG (by decide))).trans (OffG.set_ gd 6 (.slice A8 (ln + 1) c8))
      refine ⟨j + 1, by omega, by go_num, ⟨A5, en + 1, c5⟩, ⟨A8, ln + 1, c8⟩, HG9, ?_⟩
      rw [HJ.out, HK.out, HZ.out, ← List.append_assoc, ← List.append_assoc]
      exact T9
     case measure => simp [intOf]; omega
    ·have HZ : Hid (Cor.mvH (y : Nat) hd = hd) := by show _ = _; unfold Cor.mvH; rw [if_neg hhz]
     have RZ : Hid (Rng hd) := by show Rng _; unfold Rng; omega
     have dd : decide (0 ≤ hd) = false := by simpa using hhz
     have bd : Blk wq gd 30 #[v0, v1, v2, v3, v4, .slice EA en ec, .slice LA ln lc] := HT.out.blk
     have y5 := bd.cell 5
     have z5 := bd.free 5
     have hoa := HT.out.h.1.alloc (.cells #[.int .i64 hd] 3)
     have hBW := HT.out.size
     go_upto_region 10 with (at_builtin; refine wpList_app _ rfl (.tmp 38) (.tmp 40) _ rfl wo.heap.size 3 i5 _ 1 8 Tryz.underlying27 hi5 hz50 hz51 hz52 rfl (by decide) (.slice EA en ec) en (ints (hs ++ ((Cor.allH b).take j).map (Cor.mvH (y : Nat)))) rfl hoa (some ⟨wq.heap.size, 0, none⟩) 1 1 [.int .i64 hd] rfl rfl (fun _ => ⟨_, rfl, news_new wq 3 [.int .i64 hd]⟩) (fun u hu => (by simp at hu; subst hu; rfl)) (by unfold maxLen; omega) (by omega) (HT.out.alloc (.cells #[.int .i64 hd] 3)).size ?_; intro v5 w5 own5 gr5 _; obtain ⟨A5, c5, rfl, -, -⟩ := own_slc own5; have b5 := (bd.alloc (.cells #[.int .i64 hd] 3)).off (Off.grown hoa gr5) (by decide); have w5y := b5.cell 5; have w5z := b5.free 5)
     have HT7 : HeadT w0 wo (w5.setCell ⟨gd, 5, none⟩ (.slice A5 (en + 1) c5)) gd v0 v1 v2 v3 v4 ⟨A5, en + 1, c5⟩ ⟨LA, ln, lc⟩ (hs ++ ((Cor.allH b).take j).map (Cor.mvH (y : Nat)) ++ [hd]) (ls ++ (Cor.allL b).take j) := (HT.out.alloc _).head hwd hwo RZ.out own5 gr5
     have HG7 : OffG gd (w.alloc (.cells #[.slice Aa na ca, .slice At nt ct, .slice Ax nx cx, .slice Ar nr cr, .slice An nn cn, .slice (some ⟨gh, oh, none⟩) nt ch, .slice (some ⟨gl, ol, none⟩) nt cl] 30)) (w5.setCell ⟨gd, 5, none⟩ (.slice A5 (en + 1) c5)) := ((HG.out.trans ((Off.alloc (R := 4294967295) wq (.cells #[.int .i64 hd] 3)).offG (by decide))).trans ((Off.grown hoa gr5).offG (by decide))).trans (OffG.set_ gd 5 _)
     clear own5 gr5 hoa b5 w5y w5z y5 z5 bd
     generalize (w5.setCell ⟨gd, 5, none⟩ (.slice A5 (en + 1) c5)) = w7 at HT7 HG7 ⊢
     have bd7 : Blk w7 gd 30 #[v0, v1, v2, v3, v4, .slice A5 (en + 1) c5, .slice LA ln lc] := HT7.blk
     have y6 := bd7.cell 6
     have z6 := bd7.free 6
     have hoa7 := HT7.l.1.alloc (.cells #[str s] 9)
     have hB7 := HT7.size
     go_wp2_with (at_builtin; refine wpList_app _ rfl (.tmp 48) (.tmp 50) _ rfl wo.heap.size 9 i1 _ 1 16 Tryz.underlying28 hi1 hz10 hz11 hz12 rfl (by decide) (.slice LA ln lc) ln (strs (ls ++ (Cor.allL b).take j)) rfl hoa7 (some ⟨w7.heap.size, 0, none⟩) 1 1 [str s] rfl rfl (fun _ => ⟨_, rfl, news_new w7 9 [str s]⟩) (fun u hu => (by simp at hu; subst hu; rfl)) (by unfold maxLen; omega) (by omega) (HT7.alloc (.cells #[str s] 9)).size ?_; intro v8 w8 own8 gr8 _; obtain ⟨A8, c8, rfl, -, -⟩ := own_slc own8; have b8 := (bd7.alloc (.cells #[str s] 9)).off (Off.grown hoa7 gr8) (by decide); have w8y := b8.cell 6; have w8z := b8.free 6)
     go_roundw
     case rel =>
      have T9 := (HT7.alloc (.cells #[str s] 9)).rel hwd hwo HLS.out own8 gr8
      have HG9 := ((HG7.trans ((Off.alloc (R := 4294967295) w7 (.cells #[str s] 9)).offG (by decide))).trans ((Off.grown hoa7 gr8).offG (by decide))).trans (OffG.set_ gd 6 (.slice A8 (ln + 1) c8))
      refine ⟨j + 1, by omega, by go_num, ⟨A5, en + 1, c5⟩, ⟨A8, ln + 1, c8⟩, HG9, ?_⟩
      rw [HJ.out, HK.out, HZ.out, ← List.append_assoc, ← List.append_assoc]
      exact T9
     case measure => simp [intOf]; omega
   ·obtain rfl : nt = j := by omega
    have HT := Lib.hid hT
    clear hT hG
    go_wp2
    refine bodyPost_end (v := .tuple #[]) (results_none rfl _ _ _) rfl ?_
    have h9 := HT.out
    rw [List.take_of_length_le (by have := HAH.out; omega), List.take_of_length_le (by have := HAL.out; omega)] at h9
    exact ⟨rfl, _, _, h9⟩
end Go.Proofs.YtgkdaebiefhgdaaGreatDoor
namespace Go.Proofs.YtgkdaebiefhgdaaGreatDoor
set_option linter.unusedSimpArgs false
set_option linter.unusedVariables false
open Go.RowKit Utf
open Feat (Bs)
structure Box3 (w wr : World) (H K : CH) : Prop where
 below : Below w.heap.size w wr
 a : Blk wr w.heap.size 30 H.cs
 b : Blk wr (w.heap.size + 1) 30 K.cs
 r : Blk wr (w.heap.size + 2) 30 nilH.cs
section
variable {w wr w' : World} {H K : CH}
theorem Box3.bel (h : Box3 w wr H K) (hb : Below wr.heap.size wr w') : Box3 w w' H K := ⟨h.below.trans (hb.mono h.below.size), h.a.below hb, h.b.below hb, h.r.below hb⟩
theorem Box3.offG {gd : Nat} (h : Box3 w wr H K) (f : OffG gd wr w') (hg : w.heap.size + 2 < gd) (hb : Below w.heap.size w w') : Box3 w w' H K := ⟨hb, h.a.offG f (by omega), h.b.offG f (by omega), h.r.offG f (by omega)⟩
theorem Box3.keep {gd : Nat} (h : Box3 w wr H K) (hk : ∀ k, k < wr.heap.size → k ≠ gd → w'.heap[k]? = wr.heap[k]?) (hg : w.heap.size + 2 < gd) (hb : Below w.heap.size w w') : Box3 w w' H K :=
 ⟨hb, (hk _ h.a.lt (by omega)).trans h.a, (hk _ h.b.lt (by omega)).trans h.b, (hk _ h.r.lt (by omega)).trans h.r⟩
theorem box3_new (w : World) (H K : CH) : Box3 w (((w.alloc (.cells H.cs 30)).alloc (.cells K.cs 30)).alloc (.cells nilH.cs 30)) H K := by
 refine ⟨(((Below.refl _ _).alloc (Nat.le_refl _) _).alloc (by simp) _).alloc (by simp; omega) _, ((Blk.new w _ _).alloc _).alloc _, ?_, ?_⟩
 ·have h := (Blk.new (w.alloc (.cells H.cs 30)) 30 K.cs).alloc (.cells nilH.cs 30)
  rw [World.size_alloc] at h; exact h
 ·have h := Blk.new ((w.alloc (.cells H.cs 30)).alloc (.cells K.cs 30)) 30 nilH.cs
  rw [World.size_alloc, World.size_alloc] at h; exact h
end
theorem mvT_zero (l : List Cor.Txt) : l.map (Cor.mvT ((0 : Nat) : Int)) = l := by
 rw [show Cor.mvT ((0 : Nat) : Int) = id by funext x; unfold Cor.mvT; simp]; simp
theorem mvR_zero (l : List Cor.Reg) : l.map (Cor.mvR ((0 : Nat) : Int)) = l := by
 rw [show Cor.mvR ((0 : Nat) : Int) = id by funext x; unfold Cor.mvR; simp]; simp
theorem mvN_zero (l : List Cor.Nod) : l.map (Cor.mvN ((0 : Nat) : Int) ((0 : Nat) : Int)) = l := by
 rw [show Cor.mvN ((0 : Nat) : Int) ((0 : Nat) : Int) = id by funext x; unfold Cor.mvN; simp]; simp
theorem mvH_zero (l : List Int) : l.map (Cor.mvH ((0 : Nat) : Int)) = l := by
 rw [show Cor.mvH ((0 : Nat) : Int) = id by funext x; unfold Cor.mvH; simp]; simp

set_option maxRecDepth 100000 in
set_option maxHeartbeats 16000000 in
theorem concat_own (H K : CH) (a b : Cor.C) (w : World) (ha : Reads w w.heap.size H a) (hb : Reads w w.heap.size K b) : Calls Tryz.prog 20 #[H.v, K.v] w (MadeO (Cor.cat a b) w) := by
 obtain ⟨⟨Aa, na, ca⟩, ⟨At, nt, ct⟩, ⟨Ax, nx, cx⟩, ⟨Ar, nr, cr⟩, ⟨An, nn, cn⟩, ⟨Ah, nh, ch⟩, ⟨Al, nl, cl⟩⟩ := H
 obtain ⟨⟨Ba, ma, da⟩, ⟨Bt, mt, dt⟩, ⟨Bx, mx, dx⟩, ⟨Br, mr, dr⟩, ⟨Bn, mn, dn⟩, ⟨Bh, mh, dh⟩, ⟨Bl, ml, dl⟩⟩ := K
 show Calls Tryz.prog 20 #[.agg #[.slice Aa na ca, .slice At nt ct, .slice Ax nx cx, .slice Ar nr cr, .slice An nn cn, .slice Ah nh ch, .slice Al nl cl], .agg #[.slice Ba ma da, .slice Bt mt dt, .slice Bx mx dx, .slice Br mr dr, .slice Bn mn dn, .slice Bh mh dh, .slice Bl ml dl]] w _
 have E0 : Box3 w (((w.alloc (.cells #[.slice Aa na ca, .slice At nt ct, .slice Ax nx cx, .slice Ar nr cr, .slice An nn cn, .slice Ah nh ch, .slice Al nl cl] 30)).alloc (.cells #[.slice Ba ma da, .slice Bt mt dt, .slice Bx mx dx, .slice Br mr dr, .slice Bn mn dn, .slice Bh mh dh, .slice Bl ml dl] 30)).alloc (.cells #[.slice none 0 0, .slice none 0 0, .slice none 0 0, .slice none 0 0, .slice none 0 0, .slice none 0 0, .slice none 0 0] 30)) ⟨⟨Aa, na, ca⟩, ⟨At, nt, ct⟩, ⟨Ax, nx, cx⟩, ⟨Ar, nr, cr⟩, ⟨An, nn, cn⟩, ⟨Ah, nh, ch⟩, ⟨Al, nl, cl⟩⟩ ⟨⟨Ba, ma, da⟩, ⟨Bt, mt, dt⟩, ⟨Bx, mx, dx⟩, ⟨Br, mr, dr⟩, ⟨Bn, mn, dn⟩, ⟨Bh, mh, dh⟩, ⟨Bl, ml, dl⟩⟩ := box3_new w ⟨⟨Aa, na, ca⟩, ⟨At, nt, ct⟩, ⟨Ax, nx, cx⟩, ⟨Ar, nr, cr⟩, ⟨An, nn, cn⟩, ⟨Ah, nh, ch⟩, ⟨Al, nl, cl⟩⟩ ⟨⟨Ba, ma, da⟩, ⟨Bt, mt, dt⟩, ⟨Bx, mx, dx⟩, ⟨Br, mr, dr⟩, ⟨Bn, mn, dn⟩, ⟨Bh, mh, dh⟩, ⟨Bl, ml, dl⟩⟩
 have KA := Lib.hid ha
 have KB := Lib.hid hb
 have ra := (ha.under E0.below).up E0.below.size
 clear ha hb
 go_enter Tryz.func20, Tryz.ntmps20
 go_wp2_with fail
 refine (corValid_any ⟨⟨Aa, na, ca⟩, ⟨At, nt, ct⟩, ⟨Ax, nx, cx⟩, ⟨Ar, nr, cr⟩, ⟨An, nn, cn⟩, ⟨Ah, nh, ch⟩, ⟨Al, nl, cl⟩⟩ a _ ra).mono ?_
 rintro e' w1 ⟨rfl, hb1⟩
 have E1 := E0.bel hb1
 clear E0 ra hb1
 obtain ⟨va, hva⟩ : ∃ v, Cor.valid a = v := ⟨_, rfl⟩
 have HVA := Lib.hid hva
 rw [hva]
 clear hva
 cases va with
 | false =>
  have v0 : _ = some (Value.slice none 0 0) := E1.r.cell 0
  have z0 := E1.r.free 0
  have v1 : _ = some (Value.slice none 0 0) := E1.r.cell 1
  have z1 := E1.r.free 1
  have v2 : _ = some (Value.slice none 0 0) := E1.r.cell 2
  have z2 := E1.r.free 2
  have v3 : _ = some (Value.slice none 0 0) := E1.r.cell 3
  have z3 := E1.r.free 3
  have v4 : _ = some (Value.slice none 0 0) := E1.r.cell 4
  have z4 := E1.r.free 4
  have v5 : _ = some (Value.slice none 0 0) := E1.r.cell 5
  have z5 := E1.r.free 5
  have v6 : _ = some (Value.slice none 0 0) := E1.r.cell 6
  have z6 := E1.r.free 6
  have HE : Hid (Cor.cat a b = (Cor.nil, 1)) := by
   show _ = _
   unfold Cor.cat; rw [if_pos (.inl HVA.out)]
  go_wp2
  refine bodyPost_ret (v := .tuple #[nilH.v, .int .i64 1]) (by simp [results, Tryz.f20, go_sem, v0, v1, v2, v3, v4, v5, v6, nilH]) rfl ⟨nilH, by rw [HE.out]; rfl, by rw [HE.out]; exact ownD_nil _, ?_⟩
  exact below7 E1.below (by omega) _ _ _ _ _ _ _
 | true =>
  have vda := Lib.hid (vd_iff.1 HVA.out)
  have p0 : _ = some (Value.slice Ba ma da) := E1.b.cell 0
  have p1 : _ = some (Value.slice Bt mt dt) := E1.b.cell 1
  have p2 : _ = some (Value.slice Bx mx dx) := E1.b.cell 2
  have p3 : _ = some (Value.slice Br mr dr) := E1.b.cell 3
  have p4 : _ = some (Value.slice Bn mn dn) := E1.b.cell 4
  have p5 : _ = some (Value.slice Bh mh dh) := E1.b.cell 5
  have p6 : _ = some (Value.slice Bl ml dl) := E1.b.cell 6
  go_wp2_with fail
  refine (corValid_any ⟨⟨Ba, ma, da⟩, ⟨Bt, mt, dt⟩, ⟨Bx, mx, dx⟩, ⟨Br, mr, dr⟩, ⟨Bn, mn, dn⟩, ⟨Bh, mh, dh⟩, ⟨Bl, ml, dl⟩⟩ b _ ((KB.out.under E1.below).up E1.below.size)).mono ?_
  rintro e' w2 ⟨rfl, hb2⟩
  have E2 := E1.bel hb2
  clear E1 hb2 p0 p1 p2 p3 p4 p5 p6
  obtain ⟨vb, hvb⟩ : ∃ v, Cor.valid b = v := ⟨_, rfl⟩
  have HVB := Lib.hid hvb
  rw [hvb]
  clear hvb
  cases vb with
  | false =>
   have v0 : _ = some (Value.slice none 0 0) := E2.r.cell 0
   have z0 := E2.r.free 0
   have v1 : _ = some (Value.slice none 0 0) := E2.r.cell 1
   have z1 := E2.r.free 1
   have v2 : _ = some (Value.slice none 0 0) := E2.r.cell 2
   have z2 := E2.r.free 2
   have v3 : _ = some (Value.slice none 0 0) := E2.r.cell 3
   have z3 := E2.r.free 3
   have v4 : _ = some (Value.slice none 0 0) := E2.r.cell 4
   have z4 := E2.r.free 4
   have v5 : _ = some (Value.slice none 0 0) := E2.r.cell 5
   have z5 := E2.r.free 5
   have v6 : _ = some (Value.slice none 0 0) := E2.r.cell 6
   have z6 := E2.r.free 6
   have HE : Hid (Cor.cat a b = (Cor.nil, 1)) := by
    show _ = _
    unfold Cor.cat; rw [if_pos (.inr HVB.out)]
   go_wp2
   refine bodyPost_ret (v := .tuple #[nilH.v, .int .i64 1]) (by simp [results, Tryz.f20, go_sem, v0, v1, v2, v3, v4, v5, v6, nilH]) rfl ⟨nilH, by rw [HE.out]; rfl, by rw [HE.out]; exact ownD_nil _, ?_⟩
   exact below7 E2.below (by omega) _ _ _ _ _ _ _
  | true =>
   have vdb := Lib.hid (vd_iff.1 HVB.out)
   have q0 : _ = some (Value.slice Aa na ca) := E2.a.cell 0
   have p0 : _ = some (Value.slice Ba ma da) := E2.b.cell 0
   go_wp2_with fail
   refine (eqL_attr_any Aa na ca Ba ma da a.attrs b.attrs _ ((KA.out.a.under E2.below).up E2.below.size) ((KB.out.a.under E2.below).up E2.below.size)).mono ?_
   rintro e' w3 ⟨rfl, nq, hw3⟩
   have E3 : Box3 w w3 ⟨⟨Aa, na, ca⟩, ⟨At, nt, ct⟩, ⟨Ax, nx, cx⟩, ⟨Ar, nr, cr⟩, ⟨An, nn, cn⟩, ⟨Ah, nh, ch⟩, ⟨Al, nl, cl⟩⟩ ⟨⟨Ba, ma, da⟩, ⟨Bt, mt, dt⟩, ⟨Bx, mx, dx⟩, ⟨Br, mr, dr⟩, ⟨Bn, mn, dn⟩, ⟨Bh, mh, dh⟩, ⟨Bl, ml, dl⟩⟩ := by rw [hw3]; exact E2.bel (below_drewN (Below.refl _ _) nq)
   clear E2 q0 p0 hw3 w2
   obtain ⟨sb, hsb⟩ : ∃ v, same a.attrs b.attrs = v := ⟨_, rfl⟩
   have HSB := Lib.hid hsb
   rw [hsb]
   clear hsb
   cases sb with
   | false =>
    have v0 : _ = some (Value.slice none 0 0) := E3.r.cell 0
    have z0 := E3.r.free 0
    have v1 : _ = some (Value.slice none 0 0) := E3.r.cell 1
    have z1 := E3.r.free 1
    have v2 : _ = some (Value.slice none 0 0) := E3.r.cell 2
    have z2 := E3.r.free 2
    have v3 : _ = some (Value.slice none 0 0) := E3.r.cell 3
    have z3 := E3.r.free 3
    have v4 : _ = some (Value.slice none 0 0) := E3.r.cell 4
    have z4 := E3.r.free 4
    have v5 : _ = some (Value.slice none 0 0) := E3.r.cell 5
    have z5 := E3.r.free 5
    have v6 : _ = some (Value.slice none 0 0) := E3.r.cell 6
    have z6 := E3.r.free 6
    have HE : Hid (Cor.cat a b = (Cor.nil, 17)) := by
     show _ = _
     unfold Cor.cat; rw [if_neg (by rw [HVA.out, HVB.out]; simp), if_pos (fun h => by have := same_t h; rw [HSB.out] at this; cases this)]
    go_wp2
    refine bodyPost_ret (v := .tuple #[nilH.v, .int .i64 17]) (by simp [results, Tryz.f20, go_sem, v0, v1, v2, v3, v4, v5, v6, nilH]) rfl ⟨nilH, by rw [HE.out]; rfl, by rw [HE.out]; exact ownD_nil _, ?_⟩
    exact below7 E3.below (by omega) _ _ _ _ _ _ _
   | true =>
    have HAT : Hid (a.attrs = b.attrs) := same_iff.1 HSB.out
    have hta := vda.out.tkl.1
    have htb := vdb.out.tkl.1
    have hxa := vda.out.txl
    have hxb := vdb.out.txl
    have hra := vda.out.rgl
    have hrb := vdb.out.rgl
    have hna := vda.out.ndl
    have hnb := vdb.out.ndl
    have l1 : a.toks.length = nt := KA.out.t.len
    have l2 : b.toks.length = mt := KB.out.t.len
    have l3 : a.texts.length = nx := KA.out.x.len
    have l4 : b.texts.length = mx := KB.out.x.len
    have l5 : a.regs.length = nr := KA.out.r.len
    have l6 : b.regs.length = mr := KB.out.r.len
    have l7 : a.nods.length = nn := KA.out.n.len
    have l8 : b.nods.length = mn := KB.out.n.len
    rw [l1] at hta
    rw [l2] at htb
    rw [l3] at hxa
    rw [l4] at hxb
    rw [l5] at hra
    rw [l6] at hrb
    rw [l7] at hna
    rw [l8] at hnb
    have L1 := Lib.hid l1
    have L2 := Lib.hid l2
    have L3 := Lib.hid l3
    have L4 := Lib.hid l4
    have L5 := Lib.hid l5
    have L6 := Lib.hid l6
    have L7 := Lib.hid l7
    have L8 := Lib.hid l8
    clear l1 l2 l3 l4 l5 l6 l7 l8
    have p2 : _ = some (Value.slice Bx mx dx) := E3.b.cell 2
    have hrx : Txts w w.heap.size ⟨Bx, mx, dx⟩ b.texts := KB.out.x
    go_wp2
    clear p2
    go_loopw [28] (fun iv wr => ∃ j : Nat, j ≤ mx ∧ iv = .int .i64 j ∧ Hid (∀ i (hi : i < b.texts.length), i < j → ¬ 0 ≤ Cor.findT a.texts b.texts[i].nm) ∧ Below w3.heap.size w3 wr) (fun iv _ => mx - (intOf iv).toNat)
    case atStart => exact ⟨0, Nat.zero_le _, rfl, fun _ _ h => absurd h (Nat.not_lt_zero _), Below.refl _ _⟩
    case round =>
     obtain ⟨j, hj, rfl, HN, hBr⟩ := hrel
     have E4 := E3.bel hBr
     by_cases hlt : j < mx
     ·obtain ⟨g, o, ⟨Ak, nk, ck⟩, hk2, e2, hg, hto, d0, d1, d2, d3⟩ := hrx.at_ (k := j) hlt
      have e2 : Bx = some ⟨g, o, none⟩ := e2
      subst e2
      have hB := E4.below
      replace d0 := (hB.cell (p := ⟨g, _, none⟩) hg).trans d0
      replace d1 := (hB.cell (p := ⟨g, _, none⟩) hg).trans d1
      replace d2 := (hB.cell (p := ⟨g, _, none⟩) hg).trans d2
      replace d3 := (hB.cell (p := ⟨g, _, none⟩) hg).trans d3
      obtain ⟨⟨x, tb, te, tk⟩, hx⟩ : ∃ x, b.texts[j] = x := ⟨_, rfl⟩
      rw [hx] at d0 d1 d2
      simp only [] at d0 d1 d2
      have HX := Lib.hid hx
      have lx := E4.a.lt
      have q0 : _ = some (Value.slice Aa na ca) := E4.a.cell 0
      have q1 : _ = some (Value.slice At nt ct) := E4.a.cell 1
      have q2 : _ = some (Value.slice Ax nx cx) := E4.a.cell 2
      have q3 : _ = some (Value.slice Ar nr cr) := E4.a.cell 3
      have q4 : _ = some (Value.slice An nn cn) := E4.a.cell 4
      have q5 : _ = some (Value.slice Ah nh ch) := E4.a.cell 5
      have q6 : _ = some (Value.slice Al nl cl) := E4.a.cell 6
      obtain ⟨fi, hfi⟩ : ∃ v, Cor.findT a.texts x = v := ⟨_, rfl⟩
      have HF := Lib.hid hfi
      have FC := Lib.hid (fun (W : World) (hW : Below w.heap.size w W) => findText_any ⟨⟨Aa, na, ca⟩, ⟨At, nt, ct⟩, ⟨Ax, nx, cx⟩, ⟨Ar, nr, cr⟩, ⟨An, nn, cn⟩, ⟨Ah, nh, ch⟩, ⟨Al, nl, cl⟩⟩ a.texts x W ((KA.out.x.under hW).up hW.size))
      rw [hfi] at FC
      have E5 := E4.bel ((Below.refl _ _).alloc (Nat.le_refl _) (.cells #[str x, .int .i64 tb, .int .i64 te, .slice Ak nk ck] 66))
      have hBS := Lib.hid hBr.size
      have hBR := Lib.hid hBr
      clear hx hfi hto E4 hB hBr
      go_wp2_with fail
      refine (FC.out _ E5.below).mono ?_
      rintro e' w5 ⟨rfl, hb5⟩
      have E6 := E5.bel hb5
      have hBn := Lib.hid ((hBR.out.alloc hBS.out (.cells #[str x, .int .i64 tb, .int .i64 te, .slice Ak nk ck] 66)).trans (hb5.mono (Nat.le_trans hBS.out (by simp))))
      clear E5 hb5 d0 d1 d2 d3 lx q0 q1 q2 q3 q4 q5 q6
      by_cases hf : 0 ≤ fi
      ·have df : decide (0 ≤ fi) = true := by simpa using hf
       have v0 : _ = some (Value.slice none 0 0) := E6.r.cell 0
       have z0 := E6.r.free 0
       have v1 : _ = some (Value.slice none 0 0) := E6.r.cell 1
       have z1 := E6.r.free 1
       have v2 : _ = some (Value.slice none 0 0) := E6.r.cell 2
       have z2 := E6.r.free 2
       have v3 : _ = some (Value.slice none 0 0) := E6.r.cell 3
       have z3 := E6.r.free 3
       have v4 : _ = some (Value.slice none 0 0) := E6.r.cell 4
       have z4 := E6.r.free 4
       have v5 : _ = some (Value.slice none 0 0) := E6.r.cell 5
       have z5 := E6.r.free 5
       have v6 : _ = some (Value.slice none 0 0) := E6.r.cell 6
       have z6 := E6.r.free 6
       have HE : Hid (Cor.cat a b = (Cor.nil, 5)) := by
        show _ = _
        unfold Cor.cat; rw [if_neg (by rw [HVA.out, HVB.out]; simp), if_neg (by rw [HAT.out]; simp), if_pos (List.any_eq_true.2 ⟨b.texts[j], List.getElem_mem hk2, by rw [HX.out]; simp only []; rw [HF.out]; simpa using hf⟩)]
       clear hf
       go_wp2
       refine bodyPost_ret (v := .tuple #[nilH.v, .int .i64 5]) (by simp [results, Tryz.f20, go_sem, v0, v1, v2, v3, v4, v5, v6, nilH]) rfl ⟨nilH, by rw [HE.out]; rfl, by rw [HE.out]; exact ownD_nil _, ?_⟩
       exact below7 E6.below (by omega) _ _ _ _ _ _ _
      ·have df : decide (0 ≤ fi) = false := by simpa using hf
       clear E6
       go_wp2
       go_roundw
       case rel =>
        refine ⟨j + 1, by omega, by go_num, fun i hi hij => ?_, hBn.out⟩
        rcases (show i < j ∨ i = j by omega) with h | h
        ·have := HN.out i hi h; omega
        ·subst h; rw [HX.out]; show ¬ 0 ≤ Cor.findT a.texts x; rw [HF.out]; omega
       case measure => simp [intOf]; omega
     ·obtain rfl : mx = j := by omega
      have HNF : Hid (b.texts.any (fun t => decide (0 ≤ Cor.findT a.texts t.nm)) = false) := by
       show _ = _
       rw [List.any_eq_false]
       intro t ht
       obtain ⟨i, hi, rfl⟩ := List.getElem_of_mem ht
       have := HN.out i hi (by have := L4.out; omega)
       simpa using this
      clear E3 hBr HN
      have q1 : _ = some (Value.slice At nt ct) := E4.a.cell 1
      have q2 : _ = some (Value.slice Ax nx cx) := E4.a.cell 2
      have q3 : _ = some (Value.slice Ar nr cr) := E4.a.cell 3
      have q4 : _ = some (Value.slice An nn cn) := E4.a.cell 4
      have p1 : _ = some (Value.slice Bt mt dt) := E4.b.cell 1
      have p2 : _ = some (Value.slice Bx mx dx) := E4.b.cell 2
      have p3 : _ = some (Value.slice Br mr dr) := E4.b.cell 3
      have p4 : _ = some (Value.slice Bn mn dn) := E4.b.cell 4
      by_cases hl : nt + mt ≤ 4096 ∧ nx + mx ≤ 64 ∧ nr + mr ≤ 1024 ∧ nn + mn ≤ 2048
      ·obtain ⟨hl1, hl2, hl3, hl4⟩ := hl
       have HCT : Hid (Cor.cat a b = (Cor.join a b, 0)) := by
        show _ = _
        unfold Cor.cat; rw [if_neg (by rw [HVA.out, HVB.out]; simp), if_neg (by rw [HAT.out]; simp), if_neg (by rw [HNF.out]; simp), if_neg (by rw [L1.out, L2.out, L3.out, L4.out, L5.out, L6.out, L7.out, L8.out]; omega)]
       obtain ⟨i0, hi0, hz0, hz1, hz2⟩ := info_parts info_att6
       have hraA : Atts w w.heap.size ⟨Aa, na, ca⟩ a.attrs := KA.out.a
       have hna8 : na ≤ 8 := by have := vda.out.atl; have := hraA.len; simp at this; omega
       have SRC := Lib.hid ((hraA.under E4.below).src)
       have hfl : Hid ((a.attrs.flatMap atV).length = na * 2) := hraA.2.1.1
       have h1a := Lib.hid (atV_one a.attrs)
       have q0 : _ = some (Value.slice Aa na ca) := E4.a.cell 0
       have hwz := E4.below.size
       go_upto_region 14 with (at_builtin; refine wpList_app _ rfl (.const (.slice none 0 0)) (.tmp 79) _ rfl w.heap.size 73 i0 _ 2 24 Tryz.underlying22 hi0 hz0 hz1 hz2 rfl (by decide) _ 0 [] rfl (World.ownsRow_nil _ _ _ _) Aa na ca (a.attrs.flatMap atV) rfl hfl.out SRC.out h1a.out (by unfold maxLen; omega) (by omega) hwz ?_; intro v5 w5 own5 gr5 _; obtain ⟨A5, c5, rfl, -, -⟩ := own_slc own5)
       clear q0 q1 q2 q3 q4 p1 p2 p3 p4
       have o5 : w5.ownsRow w.heap.size 73 2 (.slice A5 na c5) na (a.attrs.flatMap atV) := by simpa using own5
       have hb5 : Below wr.heap.size wr w5 := (Below.refl _ _).grown gr5 (Nat.le_refl _) (fun k hk => by cases hk)
       have E5 := E4.bel hb5
       have E6 := E5.bel ((Below.refl _ _).alloc (Nat.le_refl _) (.cells #[.slice A5 na c5, .slice none 0 0, .slice none 0 0, .slice none 0 0, .slice none 0 0, .slice none 0 0, .slice none 0 0] 30))
       have hgd2 : w.heap.size + 2 < w5.heap.size := E5.r.lt
       have bD := Blk.new w5 30 #[.slice A5 na c5, .slice none 0 0, .slice none 0 0, .slice none 0 0, .slice none 0 0, .slice none 0 0, .slice none 0 0]
       have O1 : OwnC (w5.alloc (.cells #[.slice A5 na c5, .slice none 0 0, .slice none 0 0, .slice none 0 0, .slice none 0 0, .slice none 0 0, .slice none 0 0] 30)) w.heap.size w5.heap.size ⟨⟨A5, na, c5⟩, ⟨none, 0, 0⟩, ⟨none, 0, 0⟩, ⟨none, 0, 0⟩, ⟨none, 0, 0⟩, ⟨none, 0, 0⟩, ⟨none, 0, 0⟩⟩ ⟨a.attrs, [], [], [], [], [], []⟩ :=
        ⟨bD, ⟨o5.alloc _, hraA.2.2⟩, ⟨[], rfl, own_nil0 _ _ _ _, fun _ h => by cases h⟩, ⟨[], rfl, own_nil0 _ _ _ _, fun _ h => by cases h⟩, ⟨[], rfl, own_nil0 _ _ _ _, fun _ h => by cases h⟩, ⟨own_nil0 _ _ _ _, fun _ h => by cases h⟩⟩
       have C1 := Lib.hid (appendCorpus_any w _ w5.heap.size ⟨⟨Aa, na, ca⟩, ⟨At, nt, ct⟩, ⟨Ax, nx, cx⟩, ⟨Ar, nr, cr⟩, ⟨An, nn, cn⟩, ⟨Ah, nh, ch⟩, ⟨Al, nl, cl⟩⟩ a ⟨⟨A5, na, c5⟩, ⟨none, 0, 0⟩, ⟨none, 0, 0⟩, ⟨none, 0, 0⟩, ⟨none, 0, 0⟩, ⟨none, 0, 0⟩, ⟨none, 0, 0⟩⟩ ⟨a.attrs, [], [], [], [], [], []⟩ (by omega) E6.below O1 KA.out vda.out (by rw [L1.out]; simp; omega) (by rw [L3.out]; simp; omega) (by rw [L5.out]; simp; omega) (by rw [L7.out]; simp; omega))
       have q0 : _ = some (Value.slice Aa na ca) := E6.a.cell 0
       have q1 : _ = some (Value.slice At nt ct) := E6.a.cell 1
       have q2 : _ = some (Value.slice Ax nx cx) := E6.a.cell 2
       have q3 : _ = some (Value.slice Ar nr cr) := E6.a.cell 3
       have q4 : _ = some (Value.slice An nn cn) := E6.a.cell 4
       have q5 : _ = some (Value.slice Ah nh ch) := E6.a.cell 5
       have q6 : _ = some (Value.slice Al nl cl) := E6.a.cell 6
       have hgw : w5.heap.size < ((w5.alloc (.cells #[.slice A5 na c5, .slice none 0 0, .slice none 0 0, .slice none 0 0, .slice none 0 0, .slice none 0 0, .slice none 0 0] 30))).heap.size := bD.lt
       clear o5 own5 gr5 hb5 E4 E5 O1 SRC
       generalize hwd : (w5.alloc (.cells #[.slice A5 na c5, .slice none 0 0, .slice none 0 0, .slice none 0 0, .slice none 0 0, .slice none 0 0, .slice none 0 0] 30)) = wd at *
       generalize hgdd : w5.heap.size = gd at *
       clear hwd hgdd bD
       go_wp2_with fail
       refine C1.out.mono ?_
       rintro e' w6 ⟨rfl, ⟨⟨Ga, n0, c0⟩, ⟨Gt, n1, c1⟩, ⟨Gx, n2, c2⟩, ⟨Gr, n3, c3⟩, ⟨Gn, n4, c4⟩, Gh, Gl⟩, E7, O7, h7, h8⟩
       obtain rfl : Gh = ⟨none, 0, 0⟩ := h7
       obtain rfl : Gl = ⟨none, 0, 0⟩ := h8
       have X7 := E6.offG E7.keep hgd2 E7.below
       simp only [List.nil_append, List.length_nil, mvT_zero, mvR_zero, mvN_zero] at O7
       clear q0 q1 q2 q3 q4 q5 q6 C1 E6
       have p0 : _ = some (Value.slice Ba ma da) := X7.b.cell 0
       have p1 : _ = some (Value.slice Bt mt dt) := X7.b.cell 1
       have p2 : _ = some (Value.slice Bx mx dx) := X7.b.cell 2
       have p3 : _ = some (Value.slice Br mr dr) := X7.b.cell 3
       have p4 : _ = some (Value.slice Bn mn dn) := X7.b.cell 4
       have p5 : _ = some (Value.slice Bh mh dh) := X7.b.cell 5
       have p6 : _ = some (Value.slice Bl ml dl) := X7.b.cell 6
       have C2 := Lib.hid (appendCorpus_any w w6 gd ⟨⟨Ba, ma, da⟩, ⟨Bt, mt, dt⟩, ⟨Bx, mx, dx⟩, ⟨Br, mr, dr⟩, ⟨Bn, mn, dn⟩, ⟨Bh, mh, dh⟩, ⟨Bl, ml, dl⟩⟩ b _ _ (by omega) E7.below O7 KB.out vdb.out (by simp only []; rw [L1.out, L2.out]; omega) (by simp only []; rw [L3.out, L4.out]; omega) (by simp only []; rw [L5.out, L6.out]; omega) (by simp only []; rw [L7.out, L8.out]; omega))
       clear E7 O7
       go_wp2_with fail
       refine C2.out.mono ?_
       rintro e' w7 ⟨rfl, ⟨⟨Da, nda, cda⟩, ⟨Dt, ndt, cdt⟩, ⟨Dx, ndx, cdx⟩, ⟨Dr, ndr, cdr⟩, ⟨Dn, ndn, cdn⟩, Dh, Dl⟩, E8, O8, h7, h8⟩
       obtain rfl : Dh = ⟨none, 0, 0⟩ := h7
       obtain rfl : Dl = ⟨none, 0, 0⟩ := h8
       have X8 := Lib.hid (X7.offG E8.keep hgd2 E8.below)
       have O9 := Lib.hid O8
       clear p0 p1 p2 p3 p4 p5 p6 C2 X7 E8 O8
       have q5 : _ = some (Value.slice Ah nh ch) := X8.out.a.cell 5
       have p5 : _ = some (Value.slice Bh mh dh) := X8.out.b.cell 5
       have f1 : a.heads.length = nh := KA.out.h.len
       have f2 : b.heads.length = mh := KB.out.h.len
       have f3 := vda.out.hdl
       have f4 := vdb.out.hdl
       have f5 : nh ≤ 4096 := by have := L1.out; omega
       have f6 : mh ≤ 4096 := by have := L2.out; omega
       by_cases hz : nh + mh = 0
       ·obtain ⟨rfl, rfl⟩ : nh = 0 ∧ mh = 0 := by omega
        have HJ : Hid (Cor.cat a b = (⟨a.attrs, a.toks ++ b.toks, a.texts ++ b.texts.map (Cor.mvT (a.toks.length : Nat)), a.regs ++ b.regs.map (Cor.mvR (a.toks.length : Nat)), a.nods ++ b.nods.map (Cor.mvN (a.toks.length : Nat) (a.nods.length : Nat)), [], []⟩, 0)) := by
         show _ = _
         rw [HCT.out]; unfold Cor.join; rw [if_pos (by omega), if_pos (by omega)]
        have bd : Blk w7 gd 30 #[.slice Da nda cda, .slice Dt ndt cdt, .slice Dx ndx cdx, .slice Dr ndr cdr, .slice Dn ndn cdn, .slice none 0 0, .slice none 0 0] := O9.out.blk
        clear f1 f2 f3 f4
        have y0 : _ = some (Value.slice Da nda cda) := bd.cell 0
        have y1 : _ = some (Value.slice Dt ndt cdt) := bd.cell 1
        have y2 : _ = some (Value.slice Dx ndx cdx) := bd.cell 2
        have y3 : _ = some (Value.slice Dr ndr cdr) := bd.cell 3
        have y4 : _ = some (Value.slice Dn ndn cdn) := bd.cell 4
        have y5 : _ = some (Value.slice none 0 0) := bd.cell 5
        have y6 : _ = some (Value.slice none 0 0) := bd.cell 6
        have v0 : _ = some (Value.slice none 0 0) := X8.out.r.cell 0
        have z0 := X8.out.r.free 0
        have v1 : _ = some (Value.slice none 0 0) := X8.out.r.cell 1
        have z1 := X8.out.r.free 1
        have v2 : _ = some (Value.slice none 0 0) := X8.out.r.cell 2
        have z2 := X8.out.r.free 2
        have v3 : _ = some (Value.slice none 0 0) := X8.out.r.cell 3
        have z3 := X8.out.r.free 3
        have v4 : _ = some (Value.slice none 0 0) := X8.out.r.cell 4
        have z4 := X8.out.r.free 4
        have v5 : _ = some (Value.slice none 0 0) := X8.out.r.cell 5
        have z5 := X8.out.r.free 5
        have v6 : _ = some (Value.slice none 0 0) := X8.out.r.cell 6
        have z6 := X8.out.r.free 6
        go_wp2
        refine bodyPost_ret (v := .tuple #[.agg #[.slice Da nda cda, .slice Dt ndt cdt, .slice Dx ndx cdx, .slice Dr ndr cdr, .slice Dn ndn cdn, .slice none 0 0, .slice none 0 0], .int .i64 0]) (by simp [results, Tryz.f20, go_sem, v0, v1, v2, v3, v4, v5, v6]) rfl ?_
        exact made_ofO (D := ⟨⟨Da, nda, cda⟩, ⟨Dt, ndt, cdt⟩, ⟨Dx, ndx, cdx⟩, ⟨Dr, ndr, cdr⟩, ⟨Dn, ndn, cdn⟩, ⟨none, 0, 0⟩, ⟨none, 0, 0⟩⟩) HJ.out O9.out ⟨own_nil0 _ _ _ _, fun _ h => by cases h⟩ ⟨own_nil0 _ _ _ _, fun _ h => by cases h⟩ (off7 X8.out.r _ _ _ _ _ _ _) (below7 X8.out.below (by omega) _ _ _ _ _ _ _)
       ·have HJ : Hid (Cor.cat a b = (⟨a.attrs, a.toks ++ b.toks, a.texts ++ b.texts.map (Cor.mvT (a.toks.length : Nat)), a.regs ++ b.regs.map (Cor.mvR (a.toks.length : Nat)), a.nods ++ b.nods.map (Cor.mvN (a.toks.length : Nat) (a.nods.length : Nat)), Cor.allH a ++ (Cor.allH b).map (Cor.mvH (a.toks.length : Nat)), Cor.allL a ++ Cor.allL b⟩, 0)) := by
         show _ = _
         rw [HCT.out]; unfold Cor.join; rw [if_neg (by omega), if_neg (by omega)]
        have dz : decide ((0 : Int) < (nh : Int) + (mh : Int)) = true := by simp; omega
        have dz2 : decide (0 < nh + mh) = true := by simp; omega
        have T0 : HeadT w w7 w7 gd (.slice Da nda cda) (.slice Dt ndt cdt) (.slice Dx ndx cdx) (.slice Dr ndr cdr) (.slice Dn ndn cdn) ⟨none, 0, 0⟩ ⟨none, 0, 0⟩ [] [] :=
         ⟨X8.out.below, fun _ _ _ => rfl, Nat.le_refl _, O9.out.blk, ⟨own_nil0 _ _ _ _, fun _ h => by cases h⟩, ⟨own_nil0 _ _ _ _, fun _ h => by cases h⟩⟩
        have C3 := Lib.hid (appendHeads_any w w7 w7 gd _ _ _ _ _ _ _ [] [] ⟨⟨Aa, na, ca⟩, ⟨At, nt, ct⟩, ⟨Ax, nx, cx⟩, ⟨Ar, nr, cr⟩, ⟨An, nn, cn⟩, ⟨Ah, nh, ch⟩, ⟨Al, nl, cl⟩⟩ a 0 T0 (by omega) X8.out.below.size KA.out vda.out (by omega) (by simp))
        have HLA := Lib.hid (allH_len vda.out)
        clear f1 f2 f3 f4 T0 hz
        clear q5
        have q0 : _ = some (Value.slice Aa na ca) := X8.out.a.cell 0
        have q1 : _ = some (Value.slice At nt ct) := X8.out.a.cell 1
        have q2 : _ = some (Value.slice Ax nx cx) := X8.out.a.cell 2
        have q3 : _ = some (Value.slice Ar nr cr) := X8.out.a.cell 3
        have q4 : _ = some (Value.slice An nn cn) := X8.out.a.cell 4
        have q5 : _ = some (Value.slice Ah nh ch) := X8.out.a.cell 5
        have q6 : _ = some (Value.slice Al nl cl) := X8.out.a.cell 6
        go_wp2_with fail
        refine C3.out.mono ?_
        rintro e' w8 ⟨rfl, Eh8, El8, T8⟩
        simp only [List.nil_append, mvH_zero] at T8
        have X9 := X8.out.keep T8.keep hgd2 T8.below
        clear q0 q1 q2 q3 q4 q5 q6 p5 C3 dz dz2
        have q1 : _ = some (Value.slice At nt ct) := X9.a.cell 1
        have p0 : _ = some (Value.slice Ba ma da) := X9.b.cell 0
        have p1 : _ = some (Value.slice Bt mt dt) := X9.b.cell 1
        have p2 : _ = some (Value.slice Bx mx dx) := X9.b.cell 2
        have p3 : _ = some (Value.slice Br mr dr) := X9.b.cell 3
        have p4 : _ = some (Value.slice Bn mn dn) := X9.b.cell 4
        have p5 : _ = some (Value.slice Bh mh dh) := X9.b.cell 5
        have p6 : _ = some (Value.slice Bl ml dl) := X9.b.cell 6
        have C4 := Lib.hid (appendHeads_any w w7 w8 gd _ _ _ _ _ _ _ _ _ ⟨⟨Ba, ma, da⟩, ⟨Bt, mt, dt⟩, ⟨Bx, mx, dx⟩, ⟨Br, mr, dr⟩, ⟨Bn, mn, dn⟩, ⟨Bh, mh, dh⟩, ⟨Bl, ml, dl⟩⟩ b nt T8 (by omega) X8.out.below.size KB.out vdb.out (by omega) (by rw [HLA.out.1, HLA.out.2, L1.out]; omega))
        clear T8
        go_wp2_with fail
        refine C4.out.mono ?_
        rintro e' w9 ⟨rfl, ⟨EA, en, ec⟩, ⟨LA, ln, lc⟩, T9⟩
        have X10 := X8.out.keep T9.keep hgd2 T9.below
        have bd : Blk w9 gd 30 #[.slice Da nda cda, .slice Dt ndt cdt, .slice Dx ndx cdx, .slice Dr ndr cdr, .slice Dn ndn cdn, .slice EA en ec, .slice LA ln lc] := T9.blk
        have T10 := Lib.hid T9
        have XR := Lib.hid X10
        clear q1 p0 p1 p2 p3 p4 p5 p6 C4 X9
        have y0 : _ = some (Value.slice Da nda cda) := bd.cell 0
        have y1 : _ = some (Value.slice Dt ndt cdt) := bd.cell 1
        have y2 : _ = some (Value.slice Dx ndx cdx) := bd.cell 2
        have y3 : _ = some (Value.slice Dr ndr cdr) := bd.cell 3
        have y4 : _ = some (Value.slice Dn ndn cdn) := bd.cell 4
        have y5 : _ = some (Value.slice EA en ec) := bd.cell 5
        have y6 : _ = some (Value.slice LA ln lc) := bd.cell 6
        have v0 : _ = some (Value.slice none 0 0) := XR.out.r.cell 0
        have z0 := XR.out.r.free 0
        have v1 : _ = some (Value.slice none 0 0) := XR.out.r.cell 1
        have z1 := XR.out.r.free 1
        have v2 : _ = some (Value.slice none 0 0) := XR.out.r.cell 2
        have z2 := XR.out.r.free 2
        have v3 : _ = some (Value.slice none 0 0) := XR.out.r.cell 3
        have z3 := XR.out.r.free 3
        have v4 : _ = some (Value.slice none 0 0) := XR.out.r.cell 4
        have z4 := XR.out.r.free 4
        have v5 : _ = some (Value.slice none 0 0) := XR.out.r.cell 5
        have z5 := XR.out.r.free 5
        have v6 : _ = some (Value.slice none 0 0) := XR.out.r.cell 6
        have z6 := XR.out.r.free 6
        clear T9 X10
        go_wp2
        refine bodyPost_ret (v := .tuple #[.agg #[.slice Da nda cda, .slice Dt ndt cdt, .slice Dx ndx cdx, .slice Dr ndr cdr, .slice Dn ndn cdn, .slice EA en ec, .slice LA ln lc], .int .i64 0]) (by simp [results, Tryz.f20, go_sem, v0, v1, v2, v3, v4, v5, v6]) rfl ?_
        have hrest := O9.out.rest T10.out.keep
        exact made_partsO (D := ⟨⟨Da, nda, cda⟩, ⟨Dt, ndt, cdt⟩, ⟨Dx, ndx, cdx⟩, ⟨Dr, ndr, cdr⟩, ⟨Dn, ndn, cdn⟩, ⟨EA, en, ec⟩, ⟨LA, ln, lc⟩⟩) (d := ⟨a.attrs, a.toks ++ b.toks, a.texts ++ b.texts.map (Cor.mvT (a.toks.length : Nat)), a.regs ++ b.regs.map (Cor.mvR (a.toks.length : Nat)), a.nods ++ b.nods.map (Cor.mvN (a.toks.length : Nat) (a.nods.length : Nat)), Cor.allH a ++ (Cor.allH b).map (Cor.mvH (a.toks.length : Nat)), Cor.allL a ++ Cor.allL b⟩) HJ.out hrest (by have h := T10.out.h; rw [← L1.out] at h; exact h) T10.out.l (off7 XR.out.r _ _ _ _ _ _ _) (below7 XR.out.below (by omega) _ _ _ _ _ _ _)
      ·rcases (show 4096 < nt + mt ∨ (nt + mt ≤ 4096 ∧ 64 < nx + mx) ∨ (nt + mt ≤ 4096 ∧ nx + mx ≤ 64 ∧ 1024 < nr + mr) ∨ (nt + mt ≤ 4096 ∧ nx + mx ≤ 64 ∧ nr + mr ≤ 1024 ∧ 2048 < nn + mn) by omega) with hl' | ⟨h1, hl'⟩ | ⟨h1, h2, hl'⟩ | ⟨h1, h2, h3, hl'⟩
       all_goals
        have v0 : _ = some (Value.slice none 0 0) := E4.r.cell 0
        have z0 := E4.r.free 0
        have v1 : _ = some (Value.slice none 0 0) := E4.r.cell 1
        have z1 := E4.r.free 1
        have v2 : _ = some (Value.slice none 0 0) := E4.r.cell 2
        have z2 := E4.r.free 2
        have v3 : _ = some (Value.slice none 0 0) := E4.r.cell 3
        have z3 := E4.r.free 3
        have v4 : _ = some (Value.slice none 0 0) := E4.r.cell 4
        have z4 := E4.r.free 4
        have v5 : _ = some (Value.slice none 0 0) := E4.r.cell 5
        have z5 := E4.r.free 5
        have v6 : _ = some (Value.slice none 0 0) := E4.r.cell 6
        have z6 := E4.r.free 6
        have HE : Hid (Cor.cat a b = (Cor.nil, 2)) := by
         show _ = _
         unfold Cor.cat; rw [if_neg (by rw [HVA.out, HVB.out]; simp), if_neg (by rw [HAT.out]; simp), if_neg (by rw [HNF.out]; simp), if_pos (by rw [L1.out, L2.out, L3.out, L4.out, L5.out, L6.out, L7.out, L8.out]; omega)]
        clear hl
        go_wp2
        refine bodyPost_ret (v := .tuple #[nilH.v, .int .i64 2]) (by simp [results, Tryz.f20, go_sem, v0, v1, v2, v3, v4, v5, v6, nilH]) rfl ⟨nilH, by rw [HE.out]; rfl, by rw [HE.out]; exact ownD_nil _, ?_⟩
        exact below7 E4.below (by omega) _ _ _ _ _ _ _
theorem concat_any (H K : CH) (a b : Cor.C) (w : World) (ha : Reads w w.heap.size H a) (hb : Reads w w.heap.size K b) : Calls Tryz.prog 20 #[H.v, K.v] w (Made (Cor.cat a b) w) :=
 (concat_own H K a b w ha hb).mono fun _ _ h => h.made
end Go.Proofs.YtgkdaebiefhgdaaGreatDoor
