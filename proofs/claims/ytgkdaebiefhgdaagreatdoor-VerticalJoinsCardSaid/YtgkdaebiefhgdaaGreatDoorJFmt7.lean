/-
 The contract of vertical.Format. Conditions: the corpus is valid and reads as it does, its text is not long.
-/
import Derived.Test.YtgkdaebiefhgdaaGreatDoorJWrAll
import Derived.Test.YtgkdaebiefhgdaaGreatDoorJCorVfs
import Derived.Test.YtgkdaebiefhgdaaGreatDoorJCorAtx
import Derived.RegionTactic
import Derived.BigRegion
import Derived.Deep.RegionLaw
import Derived.Deep.CutRange
namespace Go.Proofs.YtgkdaebiefhgdaaGreatDoor
set_option linter.unusedSimpArgs false
set_option linter.unusedVariables false
open Go.RowKit
open Feat (Bs)
open Tagp (KV fmtT esc)
open Vert (fmtErr writeV bodyV textText spanText posText closes opens tagText tokText idxP endTag)
attribute [local go_sem] byte_mk ByteArray.extract_mk
theorem info_slI : (Tryz.prog.info? 27).map (fun i => (i.zero, i.size, i.bytes)) = some (some (.slice none 0 0), 1, 24) := by kernel_rfl
def nilZ (n : Nat) : List BH := List.replicate n (⟨none, 0, 0⟩, [])
theorem nilZ_hdrs (n : Nat) : hdrs (nilZ n) = (List.replicate n (Value.slice none 0 0)).toArray := by simp [hdrs, nilZ]
theorem nilZ_tab (N : Nat) (p : Nat → Cor.Reg → Bool) (regs : List Cor.Reg) : Tab (nilZ (N + 1)) N (fun k => idxP (p k) regs 0) := ⟨by simp [nilZ], fun k h => by simp [nilZ, idxP]⟩
theorem nilZ_rws (w : World) (B : Nat) (m n : Nat) : Rws w B (nilZ m ++ nilZ n) := by
 have hall : ∀ z ∈ nilZ m ++ nilZ n, z = (⟨none, 0, 0⟩, []) := fun z hz => by
  rcases List.mem_append.1 hz with h | h <;> exact (List.mem_replicate.1 h).2
 refine ⟨fun z hz => ?_, fun i j hi hj hij k h1 => ?_⟩
 ·rw [hall z hz]; exact own_nil0 _ _ _ _
 ·rw [hall _ (List.getElem_mem hi)] at h1
  simp [Value.ownBlock] at h1
theorem make_rows (n : Nat) (hn : n ≤ 1048576) (W : World) : (Instr.makeSlice 78 (.int .i64 (n : Int)) (.int .i64 (n : Int))).run Tryz.prog W = .ok (.slice (some ⟨W.heap.size, 0, none⟩) n n) (W.alloc (.cells (hdrs (nilZ n)) 27)) := by
 obtain ⟨i0, hi0, hz0, hz1, hz2⟩ := info_parts info_slI
 have hr := run_make (P := Tryz.prog) W 78 27 i0 _ Tryz.underlying78 hi0 hz0 .i64 .i64 n n (by omega) (Int.le_refl _) (by rw [hz2]; omega) (by omega)
 rw [hr, hz1]
 simp only [Int.toNat_natCast, Nat.mul_one]
 have : madeCells (Value.cells (.slice none 0 0)) n = hdrs (nilZ n) := by
  rw [nilZ_hdrs]
  have e := toList_madeCells_one (.slice none 0 0) n
  show madeCells #[.slice none 0 0] n = (List.replicate n (Value.slice none 0 0)).toArray
  rw [← e]
 rw [this]
theorem fs_one {w w2 : World} {H : CH} {m n : Nat} (hb : Below w.heap.size w w2) (hc : Blk w2 w.heap.size 30 H.cs) : Fs w ((w2.alloc (.cells (hdrs (nilZ m)) 27)).alloc (.cells (hdrs (nilZ n)) 27)).drew w2.heap.size (w2.heap.size + 1) H (nilZ m) (nilZ n) := by
 have h1 := hb.size
 have b2 := Blk.new (w2.alloc (.cells (hdrs (nilZ m)) 27)) 27 (hdrs (nilZ n))
 rw [World.size_alloc] at b2
 exact ⟨((hb.alloc h1 _).alloc (by simp; omega) _).drew, ((hc.alloc _).alloc _).off (R := 4294967295) (Off.drew _) (by decide), ((Blk.new w2 _ _).alloc _).off (R := 4294967295) (Off.drew _) (by decide), b2.off (R := 4294967295) (Off.drew _) (by decide), h1, by omega, by omega, nilZ_rws _ _ _ _⟩
theorem fs_two {w w2 : World} {H : CH} {m n : Nat} (hb : Below w.heap.size w w2) (hc : Blk w2 w.heap.size 30 H.cs) : Fs w ((w2.alloc (.cells (hdrs (nilZ m)) 27)).alloc (.cells (hdrs (nilZ n)) 27)).drew (w2.heap.size + 1) w2.heap.size H (nilZ n) (nilZ m) := by
 have h1 := hb.size
 have b2 := Blk.new (w2.alloc (.cells (hdrs (nilZ m)) 27)) 27 (hdrs (nilZ n))
 rw [World.size_alloc] at b2
 exact ⟨((hb.alloc h1 _).alloc (by simp; omega) _).drew, ((hc.alloc _).alloc _).off (R := 4294967295) (Off.drew _) (by decide), b2.off (R := 4294967295) (Off.drew _) (by decide), ((Blk.new w2 _ _).alloc _).off (R := 4294967295) (Off.drew _) (by decide), by omega, h1, by omega, nilZ_rws _ _ _ _⟩
structure St (w0 w : World) (gb ge : Nat) (H : CH) (X Y : List BH) (gw : Nat) (L : Bs) (g0 : Nat) (tc : Array Value) : Prop where
 f : Fs w0 w gb ge H X Y
 o : OwnB w w0.heap.size gw L
 t : Blk w g0 66 tc
theorem St.wrote {w0 w w1 : World} {gb ge gw g0 : Nat} {H : CH} {X Y : List BH} {L M : Bs} {tc : Array Value} {e : Ending} (h : St w0 w gb ge H X Y gw L g0 tc) (k : Wrote w0.heap.size gw w M e w1) : St w0 w1 gb ge H X Y gw M g0 tc :=
 ⟨h.f.dry k.2.2.1 k.2.1, k.2.2.2, k.2.2.1.blk h.t (by decide) (by decide)⟩
theorem St.under {w0 w w1 : World} {gb ge gw g0 : Nat} {H : CH} {X Y : List BH} {L : Bs} {tc : Array Value} (h : St w0 w gb ge H X Y gw L g0 tc) (k : Below w.heap.size w w1) : St w0 w1 gb ge H X Y gw L g0 tc :=
 ⟨h.f.under k, h.o.below k, h.t.below k⟩
theorem body_split {c : Cor.C} {j : Nat} (hj : j < c.texts.length) : ((c.texts.take j).flatMap (textText c)).length + (textText c c.texts[j]).length ≤ (bodyV c).length := by
 unfold bodyV
 conv => rhs; rw [← List.take_append_drop (j + 1) c.texts, List.take_succ_eq_append_getElem hj]
 rw [List.flatMap_append, List.flatMap_append]
 simp only [List.flatMap_cons, List.flatMap_nil, List.append_nil, List.length_append]
 omega
theorem span_le {c : Cor.C} {b q n : Nat} (h : q ≤ n) : (spanText c b q).length ≤ (spanText c b n).length := by
 induction n with
 | zero =>
  have : q = 0 := by omega
  subst this; exact Nat.le_refl _
 | succ n ih =>
  by_cases e : q = n + 1
  ·subst e; exact Nat.le_refl _
  ·rw [Vert.spanText_succ, List.length_append]
   have := ih (by omega)
   omega
theorem closeL_closes (regs : List Cor.Reg) (k : Nat) : closeL regs (idxP (fun r => decide (r.e = (k : Int))) regs regs.length) = closes regs k := by
 unfold closeL closes
 refine Vert.flat_idx closeT _ _ regs ?_
 rw [List.map_reverse, Vert.idxP_all, ← List.map_reverse]
theorem own_one2F {w : World} {B g : Nat} {E : TypeId} {a b : Value} (h : Blk w g E #[a, b]) (hb : B ≤ g) : w.ownsRow B E 2 (.slice (some ⟨g, 0, none⟩) 1 1) 1 [a, b] :=
 ⟨rfl, .inr ⟨g, 1, #[a, b], rfl, hb, h, Nat.le_refl _, by decide, rfl, rfl⟩⟩
theorem Keys.srcF {w : World} {B : Nat} {A : Option Addr} {n c : Nat} {l : List KV} (h : Keys w B ⟨A, n, c⟩ l) : Src w A (l.flatMap prV) := by
 intro hp
 obtain ⟨g, o, e, _, hc⟩ := h.2.1.2 hp
 refine ⟨⟨g, o, none⟩, e, fun j u hj => ?_⟩
 have ea : (⟨g, o, none⟩ : Addr).add j = ⟨g, o + j, none⟩ := by unfold Addr.add; split <;> simp_all
 rw [ea]; exact hc j u hj
theorem prV_oneF (l : List KV) : ∀ u ∈ l.flatMap prV, u.oneCell' = true := by
 intro u hu
 rw [List.mem_flatMap] at hu
 obtain ⟨p, _, hp⟩ := hu
 unfold prV at hp
 simp at hp
 rcases hp with rfl | rfl <;> rfl
theorem info_pairF : (Tryz.prog.info? 84).map (fun i => (i.zero, i.size, i.bytes)) = some (some (.agg #[.string ⟨#[]⟩, .string ⟨#[]⟩]), 2, 32) := by kernel_rfl
def opensL (regs : List Cor.Reg) (l : List Nat) : Bs := l.flatMap fun k => match regs[k]? with | some x => tagText x.nm x.ks | none => []
theorem opensL_opens (regs : List Cor.Reg) (k : Nat) : opensL regs (idxP (fun r => decide (r.b = (k : Int))) regs regs.length) = opens regs k := by
 unfold opensL opens
 exact Vert.flat_idx (fun x => tagText x.nm x.ks) _ _ regs (Vert.idxP_all _ _)
theorem opensL_step {regs : List Cor.Reg} {l : List Nat} {r : Nat} {x : Cor.Reg} (hr : r < l.length) (hx : regs[l[r]]? = some x) : opensL regs (l.take (r + 1)) = opensL regs (l.take r) ++ tagText x.nm x.ks := by
 unfold opensL
 rw [List.take_succ_eq_append_getElem hr, List.flatMap_append, List.flatMap_cons, List.flatMap_nil, List.append_nil, hx]
theorem opensL_le (regs : List Cor.Reg) (l : List Nat) (r : Nat) : (opensL regs (l.take r)).length ≤ (opensL regs l).length := by
 unfold opensL
 conv => rhs; rw [← List.take_append_drop r l]
 rw [List.flatMap_append, List.length_append]
 omega
def Writ (c : Cor.C) (w : World) (e : Ending) (w' : World) : Prop := e = .returned (.tuple #[str (writeV c).1, .int .i64 ((writeV c).2 : Nat)]) ∧ Below w.heap.size w w'
theorem writ_ret {c : Cor.C} {w w' : World} {s : Bs} {k : Nat} (h : writeV c = (s, k)) (hb : Below w.heap.size w w') : Writ c w (.returned (.tuple #[str s, .int .i64 (k : Nat)])) w' := by
 unfold Writ; rw [h]; exact ⟨rfl, hb⟩

set_option maxRecDepth 100000 in
set_option maxHeartbeats 16000000 in
theorem vformat_any (H : CH) (c : Cor.C) (w : World) (hr : Reads w w.heap.size H c) (hv : Vd c) (hval : ∀ t ∈ c.toks, ∀ v ∈ t, v.length ≤ 1048576) (hsz : (bodyV c).length ≤ 1099511627776) :
  Calls Tryz.prog 15 #[H.v] w (Writ c w) := by
 obtain ⟨Ha, ⟨TA, tn, tc⟩, ⟨XA, xn, xc⟩, ⟨RA, rn, rc⟩, Hn, Hh, Hl⟩ := H
 show Calls Tryz.prog 15 #[.agg #[Ha.v, .slice TA tn tc, .slice XA xn xc, .slice RA rn rc, Hn.v, Hh.v, Hl.v]] w _
 have htl : c.toks.length = tn := hr.t.len
 have hxl : c.texts.length = xn := hr.x.len
 have hrl : c.regs.length = rn := hr.r.len
 have htk := hv.tkl
 have hxk := hv.txl
 have hrk := hv.rgl
 obtain ⟨i1, hi1, hy0, hy1, hy2⟩ := info_parts info_int
 obtain ⟨i0, hi0, hz0, hz1, hz2⟩ := info_parts info_u8
 have hb1 := (Below.refl w.heap.size w).alloc (Nat.le_refl _) (.cells #[Ha.v, .slice TA tn tc, .slice XA xn xc, .slice RA rn rc, Hn.v, Hh.v, Hl.v] 30)
 have HX1 : Hid (Blk (w.alloc (.cells #[Ha.v, .slice TA tn tc, .slice XA xn xc, .slice RA rn rc, Hn.v, Hh.v, Hl.v] 30)) w.heap.size 30 #[Ha.v, .slice TA tn tc, .slice XA xn xc, .slice RA rn rc, Hn.v, Hh.v, Hl.v]) := Blk.new w _ _
 have hc1 := HX1.out
 have c0 : _ = some Ha.v := hc1.cell 0
 have c1 : _ = some (Value.slice TA tn tc) := hc1.cell 1
 have c2 : _ = some (Value.slice XA xn xc) := hc1.cell 2
 have c3 : _ = some (Value.slice RA rn rc) := hc1.cell 3
 have c4 : _ = some Hn.v := hc1.cell 4
 have c5 : _ = some Hh.v := hc1.cell 5
 have c6 : _ = some Hl.v := hc1.cell 6
 have HCK := Lib.hid (vcheck_any ⟨Ha, ⟨TA, tn, tc⟩, ⟨XA, xn, xc⟩, ⟨RA, rn, rc⟩, Hn, Hh, Hl⟩ c (w.alloc (.cells #[Ha.v, .slice TA tn tc, .slice XA xn xc, .slice RA rn rc, Hn.v, Hh.v, Hl.v] 30)) ((hr.x.under hb1).up hb1.size) ((hr.r.under hb1).up hb1.size))
 have HB1 := Lib.hid hb1
 have HR := Lib.hid hr
 have HV := Lib.hid hv
 have HVAL := Lib.hid hval
 obtain ⟨fe, hfe⟩ : ∃ fe, fmtErr c = fe := ⟨_, rfl⟩
 rw [hfe] at HCK
 have HFE := Lib.hid hfe
 clear hb1 hc1 hr hv hfe hval
 by_cases hf0 : fe = 0
 ·subst hf0
  go_enter Tryz.func15, Tryz.ntmps15
  go_wp2_with fail
  refine HCK.out.mono ?_
  rintro en w2 ⟨rfl, hb2⟩
  have C2 := Lib.hid (HX1.out.below hb2)
  have HB2 : Hid (Below w.heap.size w w2) := HB1.out.trans (hb2.mono HB1.out.size)
  have q1 : w2.cell? ⟨w.heap.size, 1, none⟩ = some (Value.slice TA tn tc) := C2.out.cell 1
  have hw1 : IntKind.i64.wrap ((tn : Int) + 1) = (tn : Int) + 1 := IntWalk.i64_in _ (by omega)
  have hmk : ∀ W, (Instr.makeSlice 78 (.int .i64 ((tn : Int) + 1)) (.int .i64 ((tn : Int) + 1))).run Tryz.prog W = .ok (.slice (some ⟨W.heap.size, 0, none⟩) (tn + 1) (tn + 1)) (W.alloc (.cells (hdrs (nilZ (tn + 1))) 27)) := fun W => by
   have h := make_rows (tn + 1) (by omega) W
   rw [show ((tn + 1 : Nat) : Int) = (tn : Int) + 1 by omega] at h
   exact h
  clear hb2 c0 c1 c2 c3 c4 c5 c6
  go_wp2
  go_cut [5, 6] from 20 to 29 (fun bv ev wc => ∃ gb ge, bv = .slice (some ⟨gb, 0, none⟩) (tn + 1) (tn + 1) ∧ ev = .slice (some ⟨ge, 0, none⟩) (tn + 1) (tn + 1) ∧ Hid (Fs w wc gb ge ⟨Ha, ⟨TA, tn, tc⟩, ⟨XA, xn, xc⟩, ⟨RA, rn, rc⟩, Hn, Hh, Hl⟩ (nilZ (tn + 1)) (nilZ (tn + 1))))
  case first =>
   have d1 : ∀ o, (w2.alloc o).cell? ⟨w.heap.size, 1, none⟩ = some (Value.slice TA tn tc) := fun o => (C2.out.alloc o).cell 1
   have d2 : ∀ o, (w2.drew.alloc o).cell? ⟨w.heap.size, 1, none⟩ = some (Value.slice TA tn tc) := fun o => (C2.out.alloc o).cell 1
   go_region
   all_goals
    go_wp2
    go_meet
    case rel =>
     first
      | exact ⟨w2.heap.size, w2.heap.size + 1, rfl, rfl, fs_one HB2.out C2.out⟩
      | exact ⟨w2.heap.size + 1, w2.heap.size, rfl, rfl, fs_two HB2.out C2.out⟩
  case rest =>
   obtain ⟨gb, ge, rfl, rfl, hF⟩ := hcut
   have c3 : _ = some (Value.slice RA rn rc) := hF.out.cor.cell 3
   have HF0 := hF
   have HFR : Hid (fmtErr c = 0) := HFE.out
   clear hF
   go_wp2_with fail
   go_loopw [33] (fun iv wr => ∃ (j : Nat) (X Y : List BH), iv = .int .i64 j ∧ j ≤ rn ∧ Hid (Fs w wr gb ge ⟨Ha, ⟨TA, tn, tc⟩, ⟨XA, xn, xc⟩, ⟨RA, rn, rc⟩, Hn, Hh, Hl⟩ X Y) ∧ Hid (Tab X tn (fun k => idxP (fun r => decide (r.b = (k : Int))) c.regs j)) ∧ Hid (Tab Y tn (fun k => idxP (fun r => decide (r.e = (k : Int))) c.regs j))) (fun iv _ => rn - (intOf iv).toNat)
   case atStart => exact ⟨0, nilZ (tn + 1), nilZ (tn + 1), rfl, Nat.zero_le _, HF0, nilZ_tab _ (fun k r => decide (r.b = (k : Int))) _, nilZ_tab _ (fun k r => decide (r.e = (k : Int))) _⟩
   case round =>
    obtain ⟨j, X, Y, rfl, hj, hF, HTX, HTY⟩ := hrel
    clear c3
    by_cases hjn : j < rn
    ·obtain ⟨gr, orr, ⟨KA, kn, kc⟩, hk, hRA, hg, hok, p0, p1, p2, p3⟩ := (HR.out.r.under hF.out.below).at_ (k := j) hjn
     dsimp only at hRA p3
     subst hRA
     obtain ⟨x, hx⟩ : ∃ x, c.regs[j] = x := ⟨_, rfl⟩
     have hxr := HV.out.rg c.regs[j] (List.getElem_mem hk)
     rw [hx] at p0 p1 p2 hxr
     obtain ⟨-, hx1, hx2, hx3, -⟩ := hxr
     obtain ⟨b, hb⟩ : ∃ b : Nat, x.b = b := ⟨x.b.toNat, by omega⟩
     obtain ⟨e, he⟩ : ∃ e : Nat, x.e = e := ⟨x.e.toNat, by omega⟩
     rw [hb] at p1
     rw [he] at p2
     have hbt : b ≤ tn := by omega
     have het : e ≤ tn := by omega
     have HXB : Hid (∀ k : Nat, idxP (fun r => decide (r.b = (k : Int))) c.regs (j + 1) = idxP (fun r => decide (r.b = (k : Int))) c.regs j ++ (if k = b then [j] else [])) := fun k => by
      rw [Vert.idxP_succ hk, hx, hb]
      congr 1
      by_cases e2 : k = b
      ·subst e2; simp
      ·rw [if_neg e2, if_neg]; simp; omega
     have HXE : Hid (∀ k : Nat, idxP (fun r => decide (r.e = (k : Int))) c.regs (j + 1) = idxP (fun r => decide (r.e = (k : Int))) c.regs j ++ (if k = e then [j] else [])) := fun k => by
      rw [Vert.idxP_succ hk, hx, he]
      congr 1
      by_cases e2 : k = e
      ·subst e2; simp
      ·rw [if_neg e2, if_neg]; simp; omega
     have FZ : Hid (Fs w (wr.alloc (.cells #[str x.nm, .int .i64 (b : Nat), .int .i64 (e : Nat), .slice KA kn kc] 69)) gb ge ⟨Ha, ⟨TA, tn, tc⟩, ⟨XA, xn, xc⟩, ⟨some ⟨gr, orr, none⟩, rn, rc⟩, Hn, Hh, Hl⟩ X Y) := hF.out.alloc _
     have RG : Hid (Blk (wr.alloc (.cells #[str x.nm, .int .i64 (b : Nat), .int .i64 (e : Nat), .slice KA kn kc] 69)) wr.heap.size 69 #[str x.nm, .int .i64 (b : Nat), .int .i64 (e : Nat), .slice KA kn kc]) := Blk.new wr _ _
     have k1 : (wr.alloc (.cells #[str x.nm, .int .i64 (b : Nat), .int .i64 (e : Nat), .slice KA kn kc] 69)).cell? ⟨w.heap.size, 1, none⟩ = some (Value.slice TA tn tc) := FZ.out.cor.cell 1
     have t1 : ¬ (tn : Int) < (b : Int) := by omega
     have t2 : ¬ (tn : Int) < (e : Int) := by omega
     have t3 : ¬ (b : Int) < 0 := by omega
     have t4 : ¬ (e : Int) < 0 := by omega
     have t5 : (0 : Int) ≤ (b : Int) := by omega
     have t6 : (0 : Int) ≤ (e : Int) := by omega
     have t7 : (b : Int) < (tn : Int) + 1 := by omega
     have t8 : (e : Int) < (tn : Int) + 1 := by omega
     have hj0 : (0 : Int) ≤ (j : Int) := by omega
     have hj1 : (j : Int) < (rn : Int) := by omega
     have hw3 : IntKind.i64.wrap ((j : Int) + 1) = ((j + 1 : Nat) : Int) := by rw [IntWalk.i64_in _ (by omega)]; omega
     have HX12 : Hid (x.b = b ∧ x.e = e) := ⟨hb, he⟩
     clear hx hx1 hx2 hx3 hb he hok
     go_wp2
     generalize hw5 : wr.alloc (.cells #[str x.nm, .int .i64 (b : Nat), .int .i64 (e : Nat), .slice KA kn kc] 69) = w5 at FZ RG ⊢
     clear hw5 k1
     have hiz : b < X.length := (by have := HTX.out.1; omega)
     have HW5 : Hid (w.heap.size ≤ w5.heap.size) := FZ.out.below.size
     obtain ⟨⟨⟨RA1, rn1, rc1⟩, RL1⟩, hz1_⟩ : ∃ z, X[b] = z := ⟨_, rfl⟩
     have HCZ : Hid ((hdrs X)[b]? = some (.slice RA1 rn1 rc1)) := by show _ = _; rw [hdrs_at hiz, hz1_]
     have HZ1 := Lib.hid hz1_
     have FZA : Hid (Fs w (w5.alloc (.cells #[.int .i64 (j : Nat)] 3)).drew gb ge ⟨Ha, ⟨TA, tn, tc⟩, ⟨XA, xn, xc⟩, ⟨some ⟨gr, orr, none⟩, rn, rc⟩, Hn, Hh, Hl⟩ X Y) := (FZ.out.alloc _).drew
     have RGA := Lib.hid ((RG.out.alloc (.cells #[.int .i64 (j : Nat)] 3)).off (R := 4294967295) (Off.drew _) (by decide))
     have OWNI : Hid ((w5.alloc (.cells #[.int .i64 (j : Nat)] 3)).drew.ownsRow w.heap.size 3 1 (.slice RA1 rn1 rc1) rn1 (nints RL1)) := by
      have := FZA.out.rows.1 _ (List.mem_append_left _ (List.getElem_mem hiz))
      rw [hz1_] at this
      exact this
     have HRL1 : Hid (rn1 ≤ 1048576) := by
      have h1 := OWNI.out.1
      have h2 := (HTX).out.2 b hiz
      rw [hz1_] at h2
      dsimp only at h2
      rw [h2] at h1
      simp [nints] at h1
      have h3 := Vert.idxP_len (fun r => decide (r.b = ((b : Nat) : Int))) c.regs j
      show rn1 ≤ _
      omega
     have hSX := (⟨RG.out.cell 1, (FZ.out.bx.cell b).trans HCZ.out⟩ : _ ∧ _)
     have hSXa := (⟨RGA.out.cell 1, (FZA.out.bx.cell b).trans HCZ.out⟩ : _ ∧ _)
     have HIZ := Lib.hid hiz
     clear hz1_
     refine wp_region_m (fun W => W.cell? ⟨wr.heap.size, 1, none⟩ = some (.int .i64 (b : Nat)) ∧ W.cell? ⟨gb, b, none⟩ = some (.slice RA1 rn1 rc1)) 12 (by as_aux_lemma => kernel_rfl) (hSX) (fun hHeld => ?_)
     refine wpAnyM_take (i := 0) (v := ?_) rfl (by as_aux_lemma => kernel_rfl) (by as_aux_lemma => kernel_rfl) (by as_aux_lemma => kernel_rfl) (by as_aux_lemma => kernel_rfl) (fun _ _ _ h => h) (Or.inl ⟨by rfl, ?_⟩) (hHeld) ?_
     rotate_left
     ·((intro W hSw); (try dsimp only at hSw); go_simp; try (with_reducible rfl))
     simp only [List.getElem_toArray, List.getElem_cons_zero, List.getElem_cons_succ, Act.put, List.setIfInBounds_toArray, List.set_cons_zero, List.set_cons_succ]
     refine wpAnyM_take (i := 1) (v := ?_) rfl (by as_aux_lemma => kernel_rfl) (by as_aux_lemma => kernel_rfl) (by as_aux_lemma => kernel_rfl) (by as_aux_lemma => kernel_rfl) (fun _ _ _ h => h) (Or.inl ⟨by rfl, ?_⟩) (hHeld) ?_
     rotate_left
     ·((intro W hSw); (try dsimp only at hSw); go_simp; try (with_reducible rfl))
     simp only [List.getElem_toArray, List.getElem_cons_zero, List.getElem_cons_succ, Act.put, List.setIfInBounds_toArray, List.set_cons_zero, List.set_cons_succ]
     refine wpAnyM_take (i := 2) (v := ?_) rfl (by as_aux_lemma => kernel_rfl) (by as_aux_lemma => kernel_rfl) (by as_aux_lemma => kernel_rfl) (by as_aux_lemma => kernel_rfl) (fun _ _ _ h => h) (Or.inl ⟨by rfl, ?_⟩) (hHeld) ?_
     rotate_left
     ·((intro W hSw); (try dsimp only at hSw); go_simp; try (with_reducible rfl))
     simp only [List.getElem_toArray, List.getElem_cons_zero, List.getElem_cons_succ, Act.put, List.setIfInBounds_toArray, List.set_cons_zero, List.set_cons_succ]
     refine wpAnyM_take (i := 3) (v := ?_) rfl (by as_aux_lemma => kernel_rfl) (by as_aux_lemma => kernel_rfl) (by as_aux_lemma => kernel_rfl) (by as_aux_lemma => kernel_rfl) (fun _ _ _ h => h) (Or.inl ⟨by rfl, ?_⟩) (hHeld) ?_
     rotate_left
     ·((intro W hSw); (try dsimp only at hSw); go_simp; try (with_reducible rfl))
     simp only [List.getElem_toArray, List.getElem_cons_zero, List.getElem_cons_succ, Act.put, List.setIfInBounds_toArray, List.set_cons_zero, List.set_cons_succ]
     refine wpAnyM_take (i := 4) (v := ?_) rfl (by as_aux_lemma => kernel_rfl) (by as_aux_lemma => kernel_rfl) (by as_aux_lemma => kernel_rfl) (by as_aux_lemma => kernel_rfl) (fun _ _ _ h => h) (Or.inl ⟨by rfl, ?_⟩) (hHeld) ?_
     rotate_left
     ·((intro W hSw); (try dsimp only at hSw); go_simp; try (with_reducible rfl))
     simp only [List.getElem_toArray, List.getElem_cons_zero, List.getElem_cons_succ, Act.put, List.setIfInBounds_toArray, List.set_cons_zero, List.set_cons_succ]
     refine wpAnyM_take (i := 5) (v := ?_) rfl (by as_aux_lemma => kernel_rfl) (by as_aux_lemma => kernel_rfl) (by as_aux_lemma => kernel_rfl) (by as_aux_lemma => kernel_rfl) (fun _ _ _ h => h) (Or.inl ⟨by rfl, ?_⟩) (hHeld) ?_
     rotate_left
     ·((intro W hSw); (try dsimp only at hSw); go_simp; try (with_reducible rfl))
     simp only [List.getElem_toArray, List.getElem_cons_zero, List.getElem_cons_succ, Act.put, List.setIfInBounds_toArray, List.set_cons_zero, List.set_cons_succ]
     refine wpAnyM_take (i := 6) (v := ?_) rfl (by as_aux_lemma => kernel_rfl) (by as_aux_lemma => kernel_rfl) (by as_aux_lemma => kernel_rfl) (by as_aux_lemma => kernel_rfl) (fun _ _ _ h => h) (Or.inl ⟨by rfl, ?_⟩) (hHeld) ?_
     rotate_left
     ·((intro W hSw); (try dsimp only at hSw); go_simp; try (with_reducible rfl))
     simp only [List.getElem_toArray, List.getElem_cons_zero, List.getElem_cons_succ, Act.put, List.setIfInBounds_toArray, List.set_cons_zero, List.set_cons_succ]
     refine wpAnyM_take (i := 7) (v := ?_) rfl (by as_aux_lemma => kernel_rfl) (by as_aux_lemma => kernel_rfl) (by as_aux_lemma => kernel_rfl) (by as_aux_lemma => kernel_rfl) (fun _ _ _ h => h) (Or.inl ⟨by rfl, ?_⟩) (hHeld) ?_
     rotate_left
     ·((intro W hSw); (try dsimp only at hSw); go_simp; try (with_reducible rfl))
     simp only [List.getElem_toArray, List.getElem_cons_zero, List.getElem_cons_succ, Act.put, List.setIfInBounds_toArray, List.set_cons_zero, List.set_cons_succ]
     refine wpAnyM_take (i := 8) (v := ?_) rfl (by as_aux_lemma => kernel_rfl) (by as_aux_lemma => kernel_rfl) (by as_aux_lemma => kernel_rfl) (by as_aux_lemma => kernel_rfl) (fun _ _ _ h => h) (Or.inl ⟨by rfl, ?_⟩) (hHeld) ?_
     rotate_left
     ·((intro W hSw); (try dsimp only at hSw); go_simp; try (with_reducible rfl))
     simp only [List.getElem_toArray, List.getElem_cons_zero, List.getElem_cons_succ, Act.put, List.setIfInBounds_toArray, List.set_cons_zero, List.set_cons_succ]
     refine wpAnyM_one (i := 9) (by as_aux_lemma => kernel_rfl) rfl (fun K hK => ?_)
     go_simp
     refine hK.out _ _ (fun _ => hSXa) ?_
     clear hK K
     try simp only [List.getElem_toArray, List.getElem_cons_zero, List.getElem_cons_succ, Act.put, List.setIfInBounds_toArray, List.set_cons_zero, List.set_cons_succ]
     refine wpAnyM_one (i := 10) (by as_aux_lemma => kernel_rfl) rfl (fun K hK => ?_)
     refine step_app _ rfl (.tmp 69) (.tmp 71) _ rfl w.heap.size 3 i1 _ 1 8 Tryz.underlying27 hi1 hy0 hy1 hy2 rfl (by decide) (.slice RA1 rn1 rc1) rn1 (nints RL1) (by rfl) OWNI.out (some ⟨w5.heap.size, 0, none⟩) 1 1 [.int .i64 (j : Nat)] (by rfl) rfl (fun _ => ⟨_, rfl, news_oneF rfl⟩) (by intro u hu; simp at hu; subst hu; rfl) (by have := HRL1.out; unfold maxLen; omega) (by have := HRL1.out; omega) (by have := HW5.out; simp; omega) ?_
     intro v3 w3 own3 gr3 ob3
     obtain ⟨A3, c3, rfl, -, -⟩ := own_slc own3
     have f3 := Off.grown OWNI.out gr3
     have RG3 := RGA.out.off f3 (by decide)
     have FB3 := FZA.out.bx.off f3 (by decide)
     have SX_ := (⟨RG3.cell 1, (FB3.cell b).trans HCZ.out⟩ : _ ∧ _)
     have f0 := FB3.free b
     refine hK.out _ _ (fun _ => SX_) ?_
     clear hK K
     try simp only [List.getElem_toArray, List.getElem_cons_zero, List.getElem_cons_succ, Act.put, List.setIfInBounds_toArray, List.set_cons_zero, List.set_cons_succ]
     refine wpAnyM_one (i := 11) (by as_aux_lemma => kernel_rfl) rfl (fun K hK => ?_)
     go_simp
     refine hK.out _ _ (fun _ => SX_) ?_
     clear hK K
     try simp only [List.getElem_toArray, List.getElem_cons_zero, List.getElem_cons_succ, Act.put, List.setIfInBounds_toArray, List.set_cons_zero, List.set_cons_succ]
     refine wpAnyM_one (i := 12) (by as_aux_lemma => kernel_rfl) rfl (fun K hK => ?_)
     go_simp
     refine hK.out _ _ (fun h => absurd rfl h) ?_
     clear hK K
     try simp only [List.getElem_toArray, List.getElem_cons_zero, List.getElem_cons_succ, Act.put, List.setIfInBounds_toArray, List.set_cons_zero, List.set_cons_succ]
     refine wpAnyM_done (by as_aux_lemma => kernel_rfl) (NoPanic.normal ?_) _
     have FZ2 := Lib.hid (FZA.out.putX (i := b) (q := j) HIZ.out (by rw [HZ1.out]; simpa [nints] using own3) (by rw [HZ1.out]; exact gr3) (by rw [HZ1.out]; exact ob3))
     have RG2 := Lib.hid (RG3.off (Off.set_ FB3 b (.slice A3 (rn1 + 1) c3)) (by decide))
     have HT2 : Hid (Tab (X.set b (⟨A3, rn1 + 1, c3⟩, (X[b]'HIZ.out).2 ++ [j])) tn (fun k => idxP (fun r => decide (r.b = (k : Int))) c.regs (j + 1))) := HTX.out.put (by omega) (by show (X[b]'HIZ.out).2 ++ [j] = _; rw [HTX.out.2 b HIZ.out, HXB.out, if_pos rfl]) (fun k hk => by show idxP _ _ _ = idxP _ _ _; rw [HXB.out, if_neg hk, List.append_nil])
     clear hHeld SX_ hSX hSXa f3 RG3 FB3 f0 own3 gr3 ob3 FZA RGA OWNI HRL1 HCZ HZ1 HW5
     generalize w3.setCell ⟨gb, b, none⟩ (.slice A3 (rn1 + 1) c3) = w7 at FZ2 RG2 ⊢
     generalize X.set b (⟨A3, rn1 + 1, c3⟩, _) = X2 at FZ2 HT2
     clear HIZ hiz
     have HTX2 : Hid (Tab X2 tn (fun k => idxP (fun r => decide (r.b = (k : Int))) c.regs (j + 1))) := HT2
     clear FZ RG HT2
     have FZ := FZ2
     have RG := RG2
     clear FZ2 RG2
     go_wp2
     have hiz : e < Y.length := (by have := HTY.out.1; omega)
     have HW5 : Hid (w.heap.size ≤ w7.heap.size) := FZ.out.below.size
     obtain ⟨⟨⟨RA1, rn1, rc1⟩, RL1⟩, hz1_⟩ : ∃ z, Y[e] = z := ⟨_, rfl⟩
     have HCZ : Hid ((hdrs Y)[e]? = some (.slice RA1 rn1 rc1)) := by show _ = _; rw [hdrs_at hiz, hz1_]
     have HZ1 := Lib.hid hz1_
     have FZA : Hid (Fs w (w7.alloc (.cells #[.int .i64 (j : Nat)] 3)).drew gb ge ⟨Ha, ⟨TA, tn, tc⟩, ⟨XA, xn, xc⟩, ⟨some ⟨gr, orr, none⟩, rn, rc⟩, Hn, Hh, Hl⟩ X2 Y) := (FZ.out.alloc _).drew
     have RGA := Lib.hid ((RG.out.alloc (.cells #[.int .i64 (j : Nat)] 3)).off (R := 4294967295) (Off.drew _) (by decide))
     have OWNI : Hid ((w7.alloc (.cells #[.int .i64 (j : Nat)] 3)).drew.ownsRow w.heap.size 3 1 (.slice RA1 rn1 rc1) rn1 (nints RL1)) := by
      have := FZA.out.rows.1 _ (List.mem_append_right _ (List.getElem_mem hiz))
      rw [hz1_] at this
      exact this
     have HRL1 : Hid (rn1 ≤ 1048576) := by
      have h1 := OWNI.out.1
      have h2 := (HTY).out.2 e hiz
      rw [hz1_] at h2
      dsimp only at h2
      rw [h2] at h1
      simp [nints] at h1
      have h3 := Vert.idxP_len (fun r => decide (r.e = ((e : Nat) : Int))) c.regs j
      show rn1 ≤ _
      omega
     have hSX := (⟨RG.out.cell 2, (FZ.out.by_.cell e).trans HCZ.out⟩ : _ ∧ _)
     have hSXa := (⟨RGA.out.cell 2, (FZA.out.by_.cell e).trans HCZ.out⟩ : _ ∧ _)
     have HIZ := Lib.hid hiz
     clear hz1_
     refine wp_region_m (fun W => W.cell? ⟨wr.heap.size, 2, none⟩ = some (.int .i64 (e : Nat)) ∧ W.cell? ⟨ge, e, none⟩ = some (.slice RA1 rn1 rc1)) 12 (by as_aux_lemma => kernel_rfl) (hSX) (fun hHeld => ?_)
     refine wpAnyM_take (i := 0) (v := ?_) rfl (by as_aux_lemma => kernel_rfl) (by as_aux_lemma => kernel_rfl) (by as_aux_lemma => kernel_rfl) (by as_aux_lemma => kernel_rfl) (fun _ _ _ h => h) (Or.inl ⟨by rfl, ?_⟩) (hHeld) ?_
     rotate_left
     ·((intro W hSw); (try dsimp only at hSw); go_simp; try (with_reducible rfl))
     simp only [List.getElem_toArray, List.getElem_cons_zero, List.getElem_cons_succ, Act.put, List.setIfInBounds_toArray, List.set_cons_zero, List.set_cons_succ]
     refine wpAnyM_take (i := 1) (v := ?_) rfl (by as_aux_lemma => kernel_rfl) (by as_aux_lemma => kernel_rfl) (by as_aux_lemma => kernel_rfl) (by as_aux_lemma => kernel_rfl) (fun _ _ _ h => h) (Or.inl ⟨by rfl, ?_⟩) (hHeld) ?_
     rotate_left
     ·((intro W hSw); (try dsimp only at hSw); go_simp; try (with_reducible rfl))
     simp only [List.getElem_toArray, List.getElem_cons_zero, List.getElem_cons_succ, Act.put, List.setIfInBounds_toArray, List.set_cons_zero, List.set_cons_succ]
     refine wpAnyM_take (i := 2) (v := ?_) rfl (by as_aux_lemma => kernel_rfl) (by as_aux_lemma => kernel_rfl) (by as_aux_lemma => kernel_rfl) (by as_aux_lemma => kernel_rfl) (fun _ _ _ h => h) (Or.inl ⟨by rfl, ?_⟩) (hHeld) ?_
     rotate_left
     ·((intro W hSw); (try dsimp only at hSw); go_simp; try (with_reducible rfl))
     simp only [List.getElem_toArray, List.getElem_cons_zero, List.getElem_cons_succ, Act.put, List.setIfInBounds_toArray, List.set_cons_zero, List.set_cons_succ]
     refine wpAnyM_take (i := 3) (v := ?_) rfl (by as_aux_lemma => kernel_rfl) (by as_aux_lemma => kernel_rfl) (by as_aux_lemma => kernel_rfl) (by as_aux_lemma => kernel_rfl) (fun _ _ _ h => h) (Or.inl ⟨by rfl, ?_⟩) (hHeld) ?_
     rotate_left
     ·((intro W hSw); (try dsimp only at hSw); go_simp; try (with_reducible rfl))
     simp only [List.getElem_toArray, List.getElem_cons_zero, List.getElem_cons_succ, Act.put, List.setIfInBounds_toArray, List.set_cons_zero, List.set_cons_succ]
     refine wpAnyM_take (i := 4) (v := ?_) rfl (by as_aux_lemma => kernel_rfl) (by as_aux_lemma => kernel_rfl) (by as_aux_lemma => kernel_rfl) (by as_aux_lemma => kernel_rfl) (fun _ _ _ h => h) (Or.inl ⟨by rfl, ?_⟩) (hHeld) ?_
     rotate_left
     ·((intro W hSw); (try dsimp only at hSw); go_simp; try (with_reducible rfl))
     simp only [List.getElem_toArray, List.getElem_cons_zero, List.getElem_cons_succ, Act.put, List.setIfInBounds_toArray, List.set_cons_zero, List.set_cons_succ]
     refine wpAnyM_take (i := 5) (v := ?_) rfl (by as_aux_lemma => kernel_rfl) (by as_aux_lemma => kernel_rfl) (by as_aux_lemma => kernel_rfl) (by as_aux_lemma => kernel_rfl) (fun _ _ _ h => h) (Or.inl ⟨by rfl, ?_⟩) (hHeld) ?_
     rotate_left
     ·((intro W hSw); (try dsimp only at hSw); go_simp; try (with_reducible rfl))
     simp only [List.getElem_toArray, List.getElem_cons_zero, List.getElem_cons_succ, Act.put, List.setIfInBounds_toArray, List.set_cons_zero, List.set_cons_succ]
     refine wpAnyM_take (i := 6) (v := ?_) rfl (by as_aux_lemma => kernel_rfl) (by as_aux_lemma => kernel_rfl) (by as_aux_lemma => kernel_rfl) (by as_aux_lemma => kernel_rfl) (fun _ _ _ h => h) (Or.inl ⟨by rfl, ?_⟩) (hHeld) ?_
     rotate_left
     ·((intro W hSw); (try dsimp only at hSw); go_simp; try (with_reducible rfl))
     simp only [List.getElem_toArray, List.getElem_cons_zero, List.getElem_cons_succ, Act.put, List.setIfInBounds_toArray, List.set_cons_zero, List.set_cons_succ]
     refine wpAnyM_take (i := 7) (v := ?_) rfl (by as_aux_lemma => kernel_rfl) (by as_aux_lemma => kernel_rfl) (by as_aux_lemma => kernel_rfl) (by as_aux_lemma => kernel_rfl) (fun _ _ _ h => h) (Or.inl ⟨by rfl, ?_⟩) (hHeld) ?_
     rotate_left
     ·((intro W hSw); (try dsimp only at hSw); go_simp; try (with_reducible rfl))
     simp only [List.getElem_toArray, List.getElem_cons_zero, List.getElem_cons_succ, Act.put, List.setIfInBounds_toArray, List.set_cons_zero, List.set_cons_succ]
     refine wpAnyM_take (i := 8) (v := ?_) rfl (by as_aux_lemma => kernel_rfl) (by as_aux_lemma => kernel_rfl) (by as_aux_lemma => kernel_rfl) (by as_aux_lemma => kernel_rfl) (fun _ _ _ h => h) (Or.inl ⟨by rfl, ?_⟩) (hHeld) ?_
     rotate_left
     ·((intro W hSw); (try dsimp only at hSw); go_simp; try (with_reducible rfl))
     simp only [List.getElem_toArray, List.getElem_cons_zero, List.getElem_cons_succ, Act.put, List.setIfInBounds_toArray, List.set_cons_zero, List.set_cons_succ]
     refine wpAnyM_one (i := 9) (by as_aux_lemma => kernel_rfl) rfl (fun K hK => ?_)
     go_simp
     refine hK.out _ _ (fun _ => hSXa) ?_
     clear hK K
     try simp only [List.getElem_toArray, List.getElem_cons_zero, List.getElem_cons_succ, Act.put, List.setIfInBounds_toArray, List.set_cons_zero, List.set_cons_succ]
     refine wpAnyM_one (i := 10) (by as_aux_lemma => kernel_rfl) rfl (fun K hK => ?_)
     refine step_app _ rfl (.tmp 81) (.tmp 83) _ rfl w.heap.size 3 i1 _ 1 8 Tryz.underlying27 hi1 hy0 hy1 hy2 rfl (by decide) (.slice RA1 rn1 rc1) rn1 (nints RL1) (by rfl) OWNI.out (some ⟨w7.heap.size, 0, none⟩) 1 1 [.int .i64 (j : Nat)] (by rfl) rfl (fun _ => ⟨_, rfl, news_oneF rfl⟩) (by intro u hu; simp at hu; subst hu; rfl) (by have := HRL1.out; unfold maxLen; omega) (by have := HRL1.out; omega) (by have := HW5.out; simp; omega) ?_
     intro v3 w3 own3 gr3 ob3
     obtain ⟨A3, c3, rfl, -, -⟩ := own_slc own3
     have f3 := Off.grown OWNI.out gr3
     have RG3 := RGA.out.off f3 (by decide)
     have FB3 := FZA.out.by_.off f3 (by decide)
     have SX_ := (⟨RG3.cell 2, (FB3.cell e).trans HCZ.out⟩ : _ ∧ _)
     have f0 := FB3.free e
     refine hK.out _ _ (fun _ => SX_) ?_
     clear hK K
     try simp only [List.getElem_toArray, List.getElem_cons_zero, List.getElem_cons_succ, Act.put, List.setIfInBounds_toArray, List.set_cons_zero, List.set_cons_succ]
     refine wpAnyM_one (i := 11) (by as_aux_lemma => kernel_rfl) rfl (fun K hK => ?_)
     go_simp
     refine hK.out _ _ (fun _ => SX_) ?_
     clear hK K
     try simp only [List.getElem_toArray, List.getElem_cons_zero, List.getElem_cons_succ, Act.put, List.setIfInBounds_toArray, List.set_cons_zero, List.set_cons_succ]
     refine wpAnyM_one (i := 12) (by as_aux_lemma => kernel_rfl) rfl (fun K hK => ?_)
     go_simp
     refine hK.out _ _ (fun h => absurd rfl h) ?_
     clear hK K
     try simp only [List.getElem_toArray, List.getElem_cons_zero, List.getElem_cons_succ, Act.put, List.setIfInBounds_toArray, List.set_cons_zero, List.set_cons_succ]
     refine wpAnyM_done (by as_aux_lemma => kernel_rfl) (NoPanic.normal ?_) _
     have FZ2 := Lib.hid (FZA.out.putY (i := e) (q := j) HIZ.out (by rw [HZ1.out]; simpa [nints] using own3) (by rw [HZ1.out]; exact gr3) (by rw [HZ1.out]; exact ob3))
     have RG2 := Lib.hid (RG3.off (Off.set_ FB3 e (.slice A3 (rn1 + 1) c3)) (by decide))
     have HT2 : Hid (Tab (Y.set e (⟨A3, rn1 + 1, c3⟩, (Y[e]'HIZ.out).2 ++ [j])) tn (fun k => idxP (fun r => decide (r.e = (k : Int))) c.regs (j + 1))) := HTY.out.put (by omega) (by show (Y[e]'HIZ.out).2 ++ [j] = _; rw [HTY.out.2 e HIZ.out, HXE.out, if_pos rfl]) (fun k hk => by show idxP _ _ _ = idxP _ _ _; rw [HXE.out, if_neg hk, List.append_nil])
     clear hHeld SX_ hSX hSXa f3 RG3 FB3 f0 own3 gr3 ob3 FZA RGA OWNI HRL1 HCZ HZ1 HW5
     generalize w3.setCell ⟨ge, e, none⟩ (.slice A3 (rn1 + 1) c3) = w8 at FZ2 RG2 ⊢
     generalize Y.set e (⟨A3, rn1 + 1, c3⟩, _) = Y2 at FZ2 HT2
     clear HIZ hiz
     go_wp2
     go_roundw
     case rel => exact ⟨j + 1, X2, Y2, by go_num, by omega, FZ2, HTX2, HT2⟩
     case measure => (simp [intOf] <;> omega)
    ·obtain rfl : rn = j := by omega
     obtain ⟨wo, rfl⟩ : ∃ wo : World, wo = wr := ⟨_, rfl⟩
     have HTX : Hid (Tab X tn (fun k => idxP (fun r => decide (r.b = (k : Int))) c.regs c.regs.length)) := by rw [hrl]; exact HTX
     have HTY : Hid (Tab Y tn (fun k => idxP (fun r => decide (r.e = (k : Int))) c.regs c.regs.length)) := by rw [hrl]; exact HTY
     have HFW : Hid (Fs w (wo.alloc (.cells #[.slice none 0 0] 81)) gb ge ⟨Ha, ⟨TA, tn, tc⟩, ⟨XA, xn, xc⟩, ⟨RA, rn, rc⟩, Hn, Hh, Hl⟩ X Y) := hF.out.alloc _
     have HOW : Hid (OwnB (wo.alloc (.cells #[.slice none 0 0] 81)) w.heap.size wo.heap.size []) := ⟨none, 0, Blk.new wo _ _, own_nil0 _ _ _ _, hF.out.below.size⟩
     have k2 : (wo.alloc (.cells #[.slice none 0 0] 81)).cell? ⟨w.heap.size, 2, none⟩ = some (Value.slice XA xn xc) := HFW.out.cor.cell 2
     generalize hgw : wo.heap.size = gw at HFW HOW k2 ⊢
     go_wp2_with fail
     go_loopw [91] (fun iv wr => ∃ j : Nat, iv = .int .i64 j ∧ j ≤ xn ∧ Hid (Fs w wr gb ge ⟨Ha, ⟨TA, tn, tc⟩, ⟨XA, xn, xc⟩, ⟨RA, rn, rc⟩, Hn, Hh, Hl⟩ X Y) ∧ Hid (OwnB wr w.heap.size gw ((c.texts.take j).flatMap (textText c)))) (fun iv _ => xn - (intOf iv).toNat)
     case atStart => exact ⟨0, rfl, Nat.zero_le _, HFW, by show OwnB _ _ _ _; exact HOW.out⟩
     case round =>
      obtain ⟨j, rfl, hj, HF1, HO1⟩ := hrel
      clear k2
      by_cases hjn : j < xn
      ·obtain ⟨gx, ox, ⟨KA, kn, kc⟩, hk, hA, hg, hok, p0, p1, p2, p3⟩ := (HR.out.x.under HF1.out.below).at_ (k := j) hjn
       dsimp only at hA p3
       subst hA
       obtain ⟨t, ht⟩ : ∃ t, c.texts[j] = t := ⟨_, rfl⟩
       have htv := HV.out.tx c.texts[j] (List.getElem_mem hk)
       have HBS := Lib.hid (body_split (c := c) hk)
       rw [ht] at p0 p1 p2 htv hok HBS
       obtain ⟨hx1, hx2, hx3, hx4⟩ := htv
       obtain ⟨b, hb⟩ : ∃ b : Nat, t.b = b := ⟨t.b.toNat, by omega⟩
       obtain ⟨e, he⟩ : ∃ e : Nat, t.e = e := ⟨t.e.toNat, by omega⟩
       rw [hb] at p1
       rw [he] at p2
       have HKS : Hid (Keys wr w.heap.size ⟨KA, kn, kc⟩ t.ks) := hok.2.2.2
       have HNM : Hid (Len t.nm) := hok.1
       have hkn : kn ≤ 8 := by have := HKS.out.len; dsimp only at this; omega
       have HTT : Hid (textText c t = tagText Vert.text (([105, 100], t.nm) :: t.ks) ++ spanText c b (e - b) ++ closes c.regs e ++ endTag) := by
        show _ = _
        unfold textText
        rw [hb, he, show ((b : Int)).toNat = b by omega, show ((e : Int)).toNat = e by omega, show ((e : Int) - (b : Int)).toNat = e - b by omega]
       have hbe : b < e := by omega
       have het : e ≤ tn := by omega
       have HLE : Hid (((c.texts.take j).flatMap (textText c)).length + (tagText Vert.text (([105, 100], t.nm) :: t.ks)).length + (spanText c b (e - b)).length + (closes c.regs e).length + 8 ≤ 1099511627776) := by
        have h1 := HBS.out
        rw [HTT.out] at h1
        simp only [List.length_append, endTag, List.length_cons, List.length_nil] at h1
        show _ ≤ _
        omega
       have HST : Hid ((c.texts.take (j + 1)).flatMap (textText c) = (c.texts.take j).flatMap (textText c) ++ textText c t) := by
        show _ = _
        rw [List.take_succ_eq_append_getElem hk, List.flatMap_append, ht]; simp
       generalize hL0 : (c.texts.take j).flatMap (textText c) = L0 at HO1 HLE HST
       have hj0 : (0 : Int) ≤ (j : Int) := by omega
       have hj1 : (j : Int) < (xn : Int) := by omega
       have hw3 : IntKind.i64.wrap ((j : Int) + 1) = ((j + 1 : Nat) : Int) := by rw [IntWalk.i64_in _ (by omega)]; omega
       obtain ⟨wo2, rfl⟩ : ∃ wo2 : World, wo2 = wr := ⟨_, rfl⟩
       have S4 : Hid (St w (wo2.alloc (.cells #[str t.nm, .int .i64 (b : Nat), .int .i64 (e : Nat), .slice KA kn kc] 66)) gb ge ⟨Ha, ⟨TA, tn, tc⟩, ⟨some ⟨gx, ox, none⟩, xn, xc⟩, ⟨RA, rn, rc⟩, Hn, Hh, Hl⟩ X Y gw L0 wo2.heap.size #[str t.nm, .int .i64 (b : Nat), .int .i64 (e : Nat), .slice KA kn kc]) :=
        ⟨HF1.out.alloc _, HO1.out.below ((Below.refl _ _).alloc (Nat.le_refl _) _), Blk.new wo2 _ _⟩
       have hb25 : Below wo2.heap.size wo2 ((wo2.alloc (.cells #[str t.nm, .int .i64 (b : Nat), .int .i64 (e : Nat), .slice KA kn kc] 66)).alloc (.cells #[str [105, 100], str t.nm] 84)) := ((Below.refl _ _).alloc (Nat.le_refl _) _).alloc (by simp) _
       have hbw2 : w.heap.size ≤ wo2.heap.size := HF1.out.below.size
       have HK5 : Hid (Keys ((wo2.alloc (.cells #[str t.nm, .int .i64 (b : Nat), .int .i64 (e : Nat), .slice KA kn kc] 66)).alloc (.cells #[str [105, 100], str t.nm] 84)) w.heap.size ⟨KA, kn, kc⟩ t.ks) := HKS.out.under (hb25.mono hbw2)
       have own1_ := Blk.new (wo2.alloc (.cells #[str t.nm, .int .i64 (b : Nat), .int .i64 (e : Nat), .slice KA kn kc] 66)) 84 #[str [105, 100], str t.nm]
       rw [World.size_alloc] at own1_
       have own1 := own_one2F (E := 84) own1_ (Nat.le_refl _)
       have OWN1 := Lib.hid own1
       have HSR : Hid (Src ((wo2.alloc (.cells #[str t.nm, .int .i64 (b : Nat), .int .i64 (e : Nat), .slice KA kn kc] 66)).alloc (.cells #[str [105, 100], str t.nm] 84)) KA (t.ks.flatMap prV)) := HK5.out.srcF
       have HKL : Hid ((t.ks.flatMap prV).length = kn * 2) := by show _ = _; rw [flat_len prV_len]; have := HKS.out.len; dsimp only at this; omega
       have HK1 : Hid (∀ u ∈ t.ks.flatMap prV, u.oneCell' = true) := prV_oneF _
       obtain ⟨ip, hip, hp0, hp1, hp2⟩ := info_parts info_pairF
       clear own1_ own1 hb25
       clear ht hx1 hx2 hx3 hx4 hb he hok hL0
       go_wp2_with (at_builtin; refine wpList_app _ rfl (.tmp 98) (.tmp 100) _ rfl (wo2.heap.size + 1) 84 ip _ 2 32 Tryz.underlying64 hip hp0 hp1 hp2 rfl (by decide) (.slice (some ⟨wo2.heap.size + 1, 0, none⟩) 1 1) 1 [str [105, 100], str t.nm] rfl OWN1.out KA kn kc (t.ks.flatMap prV) rfl HKL.out HSR.out HK1.out (by unfold maxLen; omega) (by omega) (by simp) ?_)
       intro v6 w6 own6 gr6 _
       obtain ⟨A6, c6, rfl, -, -⟩ := own_slc own6
       have hb46 : Below (wo2.alloc (.cells #[str t.nm, .int .i64 (b : Nat), .int .i64 (e : Nat), .slice KA kn kc] 66)).heap.size (wo2.alloc (.cells #[str t.nm, .int .i64 (b : Nat), .int .i64 (e : Nat), .slice KA kn kc] 66)) w6 := ((Below.refl _ _).alloc (Nat.le_refl _) (.cells #[str [105, 100], str t.nm] 84)).grown gr6 (by simp) (fun k hk => by have := (OWN1.out.lt k hk).1; simpa using this)
       have S6 := Lib.hid (S4.out.under hb46)
       have HK6 : Hid (Keys w6 w6.heap.size ⟨A6, 1 + kn, c6⟩ (([105, 100], t.nm) :: t.ks)) := ⟨own_fit own6, own_sl own6, fun p hp => by
        rcases List.mem_cons.1 hp with e2 | e2
        ·subst e2; exact ⟨by show ([105, 100] : Bs).length ≤ _; simp, HNM.out⟩
        ·exact HKS.out.2.2 p e2⟩
       have HOP := Lib.hid (open_any w.heap.size gw Vert.text A6 (1 + kn) c6 (([105, 100], t.nm) :: t.ks) L0 w6 S6.out.o HK6.out (by show Vert.text.length ≤ _; decide) (by have := HLE.out; unfold tagText at this; rw [List.length_append] at this; omega))
       clear own6 gr6 hb46
       go_wp2_with fail
       refine HOP.out.mono ?_
       intro en w7 hW7
       obtain rfl := hW7.1
       have S7_ := S6.out.wrote hW7
       rw [show L0 ++ (fmtT false Vert.text (([105, 100], t.nm) :: t.ks)).1 ++ [10] = L0 ++ tagText Vert.text (([105, 100], t.nm) :: t.ks) by unfold tagText; rw [List.append_assoc]] at S7_
       have S7 := Lib.hid S7_
       obtain ⟨L1, hL1⟩ : ∃ L1, L0 ++ tagText Vert.text (([105, 100], t.nm) :: t.ks) = L1 := ⟨_, rfl⟩
       rw [hL1] at S7
       have HL1 := Lib.hid hL1
       have HL1l : Hid (L1.length + (spanText c b (e - b)).length + (closes c.regs e).length + 8 ≤ 1099511627776) := by
        show _ ≤ _
        have := HLE.out
        rw [← hL1, List.length_append]
        omega
       have t1 : w7.cell? ⟨wo2.heap.size, 1, none⟩ = some (.int .i64 (b : Nat)) := S7.out.t.cell 1
       have t2 : w7.cell? ⟨wo2.heap.size, 2, none⟩ = some (.int .i64 (e : Nat)) := S7.out.t.cell 2
       have hb0 : (0 : Int) ≤ (b : Int) := by omega
       have hmx : max (b : Int) 0 = (b : Int) := by omega
       clear hW7 S7_ hL1 S4 HK5 OWN1 HSR HKL HK1 HOP S6 HK6
       go_wp2_with fail
       go_loopw [12] (fun iv wr => ∃ q : Nat, iv = .int .i64 ((b + q : Nat) : Int) ∧ q ≤ e - b ∧ Hid (St w wr gb ge ⟨Ha, ⟨TA, tn, tc⟩, ⟨some ⟨gx, ox, none⟩, xn, xc⟩, ⟨RA, rn, rc⟩, Hn, Hh, Hl⟩ X Y gw (L1 ++ spanText c b q) wo2.heap.size #[str t.nm, .int .i64 (b : Nat), .int .i64 (e : Nat), .slice KA kn kc])) (fun iv _ => e - (intOf iv).toNat)
       case atStart => exact ⟨0, by first | rfl | (simp [hmx]) | (simp; omega), Nat.zero_le _, by show St _ _ _ _ _ _ _ _ _ _ _; rw [show spanText c b 0 = [] from rfl, List.append_nil]; exact S7.out⟩
       case round =>
        obtain ⟨q, rfl, hq, S8⟩ := hrel
        obtain ⟨w8, rfl⟩ : ∃ w8 : World, w8 = wr := ⟨_, rfl⟩
        clear t1 t2
        have t1 : w8.cell? ⟨wo2.heap.size, 1, none⟩ = some (.int .i64 (b : Nat)) := S8.out.t.cell 1
        have t2 : w8.cell? ⟨wo2.heap.size, 2, none⟩ = some (.int .i64 (e : Nat)) := S8.out.t.cell 2
        have k1 : w8.cell? ⟨w.heap.size, 1, none⟩ = some (.slice TA tn tc) := S8.out.f.cor.cell 1
        by_cases hqe : q < e - b
        ·obtain ⟨p, hp⟩ : ∃ p, b + q = p := ⟨_, rfl⟩
         rw [hp]
         have hpe : p < e := by omega
         have hp1 : (p : Int) < (e : Int) := by omega
         have hp2 : (p : Int) < (tn : Int) := by omega
         have hp3 : (0 : Int) ≤ (p : Int) := by omega
         have hp4 : (p : Int) < (tn : Int) + 1 := by omega
         have hw4 : IntKind.i64.wrap ((p : Int) + 1) = ((p + 1 : Nat) : Int) := by rw [IntWalk.i64_in _ (by omega)]; omega
         have hxp : p < X.length := by have := HTX.out.1; omega
         have hyp : p < Y.length := by have := HTY.out.1; omega
         obtain ⟨⟨⟨BA, bn, bc⟩, BL⟩, hxz⟩ : ∃ z, X[p] = z := ⟨_, rfl⟩
         obtain ⟨⟨⟨EA, en, ec⟩, EL⟩, hyz⟩ : ∃ z, Y[p] = z := ⟨_, rfl⟩
         have HXP : Hid ((hdrs X)[p]? = some (.slice BA bn bc)) := by show _ = _; rw [hdrs_at hxp, hxz]
         have HYP : Hid ((hdrs Y)[p]? = some (.slice EA en ec)) := by show _ = _; rw [hdrs_at hyp, hyz]
         have HBL : Hid (BL = idxP (fun r => decide (r.b = (p : Int))) c.regs c.regs.length) := by have := HTX.out.2 p hxp; rw [hxz] at this; exact this
         have HEL : Hid (EL = idxP (fun r => decide (r.e = (p : Int))) c.regs c.regs.length) := by have := HTY.out.2 p hyp; rw [hyz] at this; exact this
         have HBO : ∀ W, St w W gb ge ⟨Ha, ⟨TA, tn, tc⟩, ⟨some ⟨gx, ox, none⟩, xn, xc⟩, ⟨RA, rn, rc⟩, Hn, Hh, Hl⟩ X Y gw (L1 ++ spanText c b q) wo2.heap.size #[str t.nm, .int .i64 (b : Nat), .int .i64 (e : Nat), .slice KA kn kc] → True := fun _ _ => trivial
         have HXM : Hid (∀ (W : World) (L : Bs), St w W gb ge ⟨Ha, ⟨TA, tn, tc⟩, ⟨some ⟨gx, ox, none⟩, xn, xc⟩, ⟨RA, rn, rc⟩, Hn, Hh, Hl⟩ X Y gw (L) wo2.heap.size #[str t.nm, .int .i64 (b : Nat), .int .i64 (e : Nat), .slice KA kn kc] → W.ownsRow w.heap.size 3 1 (.slice BA bn bc) bn (nints BL)) := fun W L hS => by
          have := hS.f.rows.1 _ (List.mem_append_left _ (List.getElem_mem hxp)); rw [hxz] at this; exact this
         have HYM : Hid (∀ (W : World) (L : Bs), St w W gb ge ⟨Ha, ⟨TA, tn, tc⟩, ⟨some ⟨gx, ox, none⟩, xn, xc⟩, ⟨RA, rn, rc⟩, Hn, Hh, Hl⟩ X Y gw (L) wo2.heap.size #[str t.nm, .int .i64 (b : Nat), .int .i64 (e : Nat), .slice KA kn kc] → W.ownsRow w.heap.size 3 1 (.slice EA en ec) en (nints EL)) := fun W L hS => by
          have := hS.f.rows.1 _ (List.mem_append_right _ (List.getElem_mem hyp)); rw [hyz] at this; exact this
         have HSP : Hid (spanText c b (q + 1) = spanText c b q ++ posText c b p) := by show _ = _; rw [Vert.spanText_succ, hp]
         have HPT : Hid (posText c b p = (if p = b then [] else closes c.regs p) ++ opens c.regs p ++ tokText ((c.toks[p]?).getD [])) := rfl
         have HSL : Hid (L1.length + (spanText c b q).length + (posText c b p).length + (closes c.regs e).length + 8 ≤ 1099511627776) := by
          have h1 := HL1l.out
          have h2 := span_le (c := c) (b := b) (show q + 1 ≤ e - b by omega)
          rw [HSP.out, List.length_append] at h2
          show _ ≤ _
          omega
         have Hp := Lib.hid hp
         have hbnl : BL.length = bn := by have := (HXM.out _ _ S8.out).1; simpa [nints] using this
         have henl : EL.length = en := by have := (HYM.out _ _ S8.out).1; simpa [nints] using this
         have hbn : bn ≤ 1048576 := by rw [← hbnl, HBL.out]; have := Vert.idxP_len (fun r => decide (r.b = (p : Int))) c.regs c.regs.length; omega
         have hen : en ≤ 1048576 := by rw [← henl, HEL.out]; have := Vert.idxP_len (fun r => decide (r.e = (p : Int))) c.regs c.regs.length; omega
         have HBNL := Lib.hid hbnl
         clear hxz hyz HBO hp hbnl henl hxp hyp
         go_upto_if 122 with fail
         go_cut [] from 106 to 157 (fun wc => Hid (St w wc gb ge ⟨Ha, ⟨TA, tn, tc⟩, ⟨some ⟨gx, ox, none⟩, xn, xc⟩, ⟨RA, rn, rc⟩, Hn, Hh, Hl⟩ X Y gw (L1 ++ spanText c b q ++ (if p = b then [] else closes c.regs p)) wo2.heap.size #[str t.nm, .int .i64 (b : Nat), .int .i64 (e : Nat), .slice KA kn kc]))
         case first =>
          rcases Nat.eq_zero_or_pos q with h0 | h0
          ·have hpb : p = b := by have := Hp.out; omega
           have e0 : ¬ (b : Int) < (p : Int) := by omega
           have S9 : Hid (St w w8 gb ge ⟨Ha, ⟨TA, tn, tc⟩, ⟨some ⟨gx, ox, none⟩, xn, xc⟩, ⟨RA, rn, rc⟩, Hn, Hh, Hl⟩ X Y gw (L1 ++ spanText c b q ++ (if p = b then [] else closes c.regs p)) wo2.heap.size #[str t.nm, .int .i64 (b : Nat), .int .i64 (e : Nat), .slice KA kn kc]) := by show St _ _ _ _ _ _ _ _ _ _ _; rw [if_pos hpb, List.append_nil]; exact S8.out
           clear hpb
           go_wp2
           go_meet
           case rel => exact S9
          ·have hpb : ¬ p = b := by have := Hp.out; omega
           have e0 : (b : Int) < (p : Int) := by have := Hp.out; omega
           have SD : Hid (St w w8.drew gb ge ⟨Ha, ⟨TA, tn, tc⟩, ⟨some ⟨gx, ox, none⟩, xn, xc⟩, ⟨RA, rn, rc⟩, Hn, Hh, Hl⟩ X Y gw (L1 ++ spanText c b q) wo2.heap.size #[str t.nm, .int .i64 (b : Nat), .int .i64 (e : Nat), .slice KA kn kc]) := S8.out.under ((Below.refl _ _).drew)
           have HCA := Lib.hid (closeAll_any w.heap.size gw ⟨Ha, ⟨TA, tn, tc⟩, ⟨some ⟨gx, ox, none⟩, xn, xc⟩, ⟨RA, rn, rc⟩, Hn, Hh, Hl⟩ c.regs EA en ec EL (L1 ++ spanText c b q) w8.drew SD.out.o (HR.out.r.under SD.out.f.below) (HYM.out _ _ SD.out) (fun k hk => by rw [HEL.out] at hk; exact Vert.idxP_lt hk) (by
            have h1 := HSL.out
            rw [HPT.out, if_neg hpb] at h1
            rw [HEL.out, closeL_closes]
            simp only [List.length_append] at h1 ⊢
            omega) hen)
           have HCL : Hid (L1 ++ spanText c b q ++ closeL c.regs EL = L1 ++ spanText c b q ++ (if p = b then [] else closes c.regs p)) := by show _ = _; rw [HEL.out, closeL_closes, if_neg hpb]
           have y0 : w8.cell? ⟨w.heap.size, 0, none⟩ = some Ha.v := S8.out.f.cor.cell 0
           have y2 : w8.cell? ⟨w.heap.size, 2, none⟩ = some (.slice (some ⟨gx, ox, none⟩) xn xc) := S8.out.f.cor.cell 2
           have y3 : w8.cell? ⟨w.heap.size, 3, none⟩ = some (.slice RA rn rc) := S8.out.f.cor.cell 3
           have y4 : w8.cell? ⟨w.heap.size, 4, none⟩ = some Hn.v := S8.out.f.cor.cell 4
           have y5 : w8.cell? ⟨w.heap.size, 5, none⟩ = some Hh.v := S8.out.f.cor.cell 5
           have y6 : w8.cell? ⟨w.heap.size, 6, none⟩ = some Hl.v := S8.out.f.cor.cell 6
           have y7 : w8.cell? ⟨ge, p, none⟩ = some (.slice EA en ec) := (S8.out.f.by_.cell p).trans HYP.out
           clear hpb
           go_wp2
           go_region_held3 (fun W => W.cell? ⟨w.heap.size, 0, none⟩ = some Ha.v ∧ W.cell? ⟨w.heap.size, 1, none⟩ = some (.slice TA tn tc) ∧ W.cell? ⟨w.heap.size, 2, none⟩ = some (.slice (some ⟨gx, ox, none⟩) xn xc) ∧ W.cell? ⟨w.heap.size, 3, none⟩ = some (.slice RA rn rc) ∧ W.cell? ⟨w.heap.size, 4, none⟩ = some Hn.v ∧ W.cell? ⟨w.heap.size, 5, none⟩ = some Hh.v ∧ W.cell? ⟨w.heap.size, 6, none⟩ = some Hl.v ∧ W.cell? ⟨ge, p, none⟩ = some (.slice EA en ec)) (first | go_keep | exact ⟨x0, x1, x2, x3, x4, x5, x6, x7⟩) (first | (go_at_call 37; refine HCA.out.mono ?_; intro en9 w9 hW9; obtain rfl := hW9.1; have S9 := SD.out.wrote hW9; have x0 := S9.f.cor.cell 0; have x1 := S9.f.cor.cell 1; have x2 := S9.f.cor.cell 2; have x3 := S9.f.cor.cell 3; have x4 := S9.f.cor.cell 4; have x5 := S9.f.cor.cell 5; have x6 := S9.f.cor.cell 6; have x7 := (S9.f.by_.cell p).trans HYP.out))
           rw [HCL.out] at S9
           have S9 := Lib.hid S9
           go_wp2
           go_meet
           case rel => exact S9
         case rest =>
          have S10 := hcut
          obtain ⟨w10, rfl⟩ : ∃ w10 : World, w10 = wc := ⟨_, rfl⟩
          clear hcut t1 t2 k1
          obtain ⟨M1, hM1⟩ : ∃ M1, L1 ++ spanText c b q ++ (if p = b then [] else closes c.regs p) = M1 := ⟨_, rfl⟩
          rw [hM1] at S10
          have HM1 := Lib.hid hM1
          clear hM1
          have z1 : w10.cell? ⟨gb, p, none⟩ = some (.slice BA bn bc) := (S10.out.f.bx.cell p).trans HXP.out
          have HOPN : Hid (opensL c.regs BL = opens c.regs p) := by show _ = _; rw [HBL.out]; exact opensL_opens _ _
          have HSM : Hid (M1.length + (opens c.regs p).length + (tokText ((c.toks[p]?).getD [])).length ≤ 1099511627776) := by
           have h1 := HSL.out
           rw [HPT.out] at h1
           rw [← HM1.out]
           simp only [List.length_append] at h1 ⊢
           show _ ≤ _
           omega
          go_wp2_with fail
          go_loopw [134] (fun iv wr => ∃ r : Nat, iv = .int .i64 r ∧ r ≤ bn ∧ Hid (St w wr gb ge ⟨Ha, ⟨TA, tn, tc⟩, ⟨some ⟨gx, ox, none⟩, xn, xc⟩, ⟨RA, rn, rc⟩, Hn, Hh, Hl⟩ X Y gw (M1 ++ opensL c.regs (BL.take r)) wo2.heap.size #[str t.nm, .int .i64 (b : Nat), .int .i64 (e : Nat), .slice KA kn kc])) (fun iv _ => bn - (intOf iv).toNat)
          case atStart => exact ⟨0, rfl, Nat.zero_le _, by show St _ _ _ _ _ _ _ _ _ _ _; rw [show opensL c.regs (BL.take 0) = [] from rfl, List.append_nil]; exact S10.out⟩
          case round =>
           obtain ⟨r, rfl, hr, S11⟩ := hrel
           obtain ⟨w11, rfl⟩ : ∃ w11 : World, w11 = wr := ⟨_, rfl⟩
           clear z1
           by_cases hrb : r < bn
           ·have hrb2 : r < BL.length := by have := HBNL.out; omega
            obtain ⟨gq, rfl⟩ := own_fromI (HXM.out _ _ S11.out) (by omega)
            obtain ⟨k, hk⟩ : ∃ k, BL[r] = k := ⟨_, rfl⟩
            have hkr : k < c.regs.length := by
             have h1 : k ∈ BL := by rw [← hk]; exact List.getElem_mem hrb2
             rw [HBL.out] at h1
             exact Vert.idxP_lt h1
            have z2 : w11.cell? ⟨gq, r, none⟩ = some (.int .i64 (k : Nat)) := (own_cellI (HXM.out _ _ S11.out) hrb2).trans (by rw [hk])
            obtain ⟨gr, orr, ⟨KB, km, kd⟩, hk2, hRA, hgr, hok2, r0, -, -, r3⟩ := HR.out.r.at_ (k := k) (by show k < rn; omega)
            dsimp only at hRA r3
            subst hRA
            obtain ⟨x, hx⟩ : ∃ x, c.regs[k] = x := ⟨_, rfl⟩
            rw [hx] at r0 hok2
            have HC0 : Hid (∀ W, Below w.heap.size w W → W.cell? ⟨gr, orr + k * 4, none⟩ = some (str x.nm)) := fun W hW => (hW.cell (p := ⟨gr, orr + k * 4, none⟩) hgr).trans r0
            have HC3 : Hid (∀ W, Below w.heap.size w W → W.cell? ⟨gr, orr + k * 4 + 3, none⟩ = some (.slice KB km kd)) := fun W hW => (hW.cell (p := ⟨gr, orr + k * 4 + 3, none⟩) hgr).trans r3
            have HSTEP : Hid (opensL c.regs (BL.take (r + 1)) = opensL c.regs (BL.take r) ++ tagText x.nm x.ks) := opensL_step hrb2 (by rw [hk, List.getElem?_eq_getElem hkr, hx])
            have hol := opensL_le c.regs BL (r + 1)
            rw [HSTEP.out, HOPN.out, List.length_append] at hol
            have SD : Hid (St w w11.drew gb ge ⟨Ha, ⟨TA, tn, tc⟩, ⟨some ⟨gx, ox, none⟩, xn, xc⟩, ⟨some ⟨gr, orr, none⟩, rn, rc⟩, Hn, Hh, Hl⟩ X Y gw (M1 ++ opensL c.regs (BL.take r)) wo2.heap.size #[str t.nm, .int .i64 (b : Nat), .int .i64 (e : Nat), .slice KA kn kc]) := S11.out.under ((Below.refl _ _).drew)
            have HOP := Lib.hid (open_any w.heap.size gw x.nm KB km kd x.ks (M1 ++ opensL c.regs (BL.take r)) w11.drew SD.out.o ((hok2.2.2.2.under SD.out.f.below).up SD.out.f.below.size) hok2.1 (by
             have h1 := HSM.out
             unfold tagText at hol
             rw [List.length_append] at hol ⊢
             omega))
            have hq0 : (0 : Int) ≤ (k : Int) := by omega
            have hq1 : (k : Int) < (rn : Int) := by omega
            have hr0 : (0 : Int) ≤ (r : Int) := by omega
            have hr1 : (r : Int) < (bn : Int) := by omega
            have hw5 : IntKind.i64.wrap ((r : Int) + 1) = ((r + 1 : Nat) : Int) := by rw [IntWalk.i64_in _ (by omega)]; omega
            have y3 : w11.cell? ⟨w.heap.size, 3, none⟩ = some (.slice (some ⟨gr, orr, none⟩) rn rc) := S11.out.f.cor.cell 3
            have y4 : w11.cell? ⟨gr, orr + k * 4, none⟩ = some (str x.nm) := HC0.out _ S11.out.f.below
            have y5 : w11.cell? ⟨gr, orr + k * 4 + 3, none⟩ = some (.slice KB km kd) := HC3.out _ S11.out.f.below
            clear hk hx hok2 r0 r3 hol hkr
            go_wp2
            go_region_held3 (fun W => W.cell? ⟨w.heap.size, 3, none⟩ = some (.slice (some ⟨gr, orr, none⟩) rn rc) ∧ W.cell? ⟨gr, orr + k * 4, none⟩ = some (str x.nm) ∧ W.cell? ⟨gr, orr + k * 4 + 3, none⟩ = some (.slice KB km kd)) (first | go_keep | exact ⟨x0, x1, x2⟩) (first | (go_at_call 36; refine HOP.out.mono ?_; intro en9 w9 hW9; obtain rfl := hW9.1; have S9 := SD.out.wrote hW9; have x0 := S9.f.cor.cell 3; have x1 := HC0.out _ S9.f.below; have x2 := HC3.out _ S9.f.below))
            have S12 : Hid (St w w9 gb ge ⟨Ha, ⟨TA, tn, tc⟩, ⟨some ⟨gx, ox, none⟩, xn, xc⟩, ⟨some ⟨gr, orr, none⟩, rn, rc⟩, Hn, Hh, Hl⟩ X Y gw (M1 ++ opensL c.regs (BL.take (r + 1))) wo2.heap.size #[str t.nm, .int .i64 (b : Nat), .int .i64 (e : Nat), .slice KA kn kc]) := by
             show St _ _ _ _ _ _ _ _ _ _ _
             rw [HSTEP.out]
             unfold tagText
             rw [← List.append_assoc, ← List.append_assoc]
             exact S9
            clear x0 x1 x2 S9 hW9
            go_wp2
            go_roundw
            case rel => exact ⟨r + 1, by go_num, by omega, S12⟩
            case measure => (simp [intOf] <;> omega)
           ·obtain rfl : r = bn := by omega
            rw [List.take_of_length_le (by have := HBNL.out; omega), HOPN.out] at S11
            obtain ⟨gt, ot, ⟨VA, vn, vc⟩, hk2, hTA, hgt, hwd, r0⟩ := (HR.out.t.under S11.out.f.below).at_ (k := p) (by show p < tn; omega)
            dsimp only at hTA r0
            subst hTA
            obtain ⟨vs, hvs⟩ : ∃ vs, c.toks[p] = vs := ⟨_, rfl⟩
            rw [hvs] at hwd
            have HTKP : Hid ((c.toks[p]?).getD [] = vs) := by show _ = _; rw [List.getElem?_eq_getElem hk2, hvs]; rfl
            have hmem : vs ∈ c.toks := by rw [← hvs]; exact List.getElem_mem hk2
            have hvl := htk.2 vs hmem
            have hval := HVAL.out vs hmem
            have hatl := HV.out.atl
            have hvn : vs.length = vn := hwd.len
            have HWT := Lib.hid (wtoken_any w.heap.size gw VA vn vc vs (M1 ++ opens c.regs p) w11 S11.out.o (hwd.up S11.out.f.below.size) hval (by omega) (by
             have h1 := HSM.out
             rw [HTKP.out] at h1
             unfold tokText at h1
             simp only [List.length_append] at h1 ⊢
             omega))
            have y1 : w11.cell? ⟨w.heap.size, 1, none⟩ = some (.slice (some ⟨gt, ot, none⟩) tn tc) := S11.out.f.cor.cell 1
            have HEND : Hid (M1 ++ opens c.regs p ++ [9].intercalate (vs.map esc) ++ [10] = L1 ++ spanText c b (q + 1)) := by
             show _ = _
             rw [HSP.out, HPT.out, HTKP.out, ← HM1.out]
             unfold tokText
             simp only [List.append_assoc]
            clear hvs hwd hmem hval hvl hatl hvn
            go_wp2_with fail
            refine HWT.out.mono ?_
            intro en9 w9 hW9
            obtain rfl := hW9.1
            have S9 := S11.out.wrote hW9
            rw [HEND.out] at S9
            have S9 := Lib.hid S9
            have HQ1 : Hid (b + (q + 1) = p + 1) := by show _ = _; have := Hp.out; omega
            clear hW9
            go_wp2
            go_roundw
            case rel => exact ⟨q + 1, by rw [HQ1.out]; try go_num, by omega, S9⟩
            case measure => (simp [intOf] <;> omega)
        ·have hbq : b + q = e := by omega
         obtain rfl : q = e - b := by omega
         rw [hbq]
         have HBQ := Lib.hid hbq
         have e0 : ¬ (e : Int) < (e : Int) := by omega
         have e1 : (0 : Int) ≤ (e : Int) := by omega
         have e2 : (e : Int) ≤ (tn : Int) := by omega
         have e3 : (e : Int) < (tn : Int) + 1 := by omega
         have hye : e < Y.length := by have := HTY.out.1; omega
         obtain ⟨⟨⟨EA, en, ec⟩, EL⟩, hyz⟩ : ∃ z, Y[e] = z := ⟨_, rfl⟩
         have HYP : Hid ((hdrs Y)[e]? = some (.slice EA en ec)) := by show _ = _; rw [hdrs_at hye, hyz]
         have HEL : Hid (EL = idxP (fun r => decide (r.e = (e : Int))) c.regs c.regs.length) := by have := HTY.out.2 e hye; rw [hyz] at this; exact this
         have SD : Hid (St w w8.drew gb ge ⟨Ha, ⟨TA, tn, tc⟩, ⟨some ⟨gx, ox, none⟩, xn, xc⟩, ⟨RA, rn, rc⟩, Hn, Hh, Hl⟩ X Y gw (L1 ++ spanText c b (e - b)) wo2.heap.size #[str t.nm, .int .i64 (b : Nat), .int .i64 (e : Nat), .slice KA kn kc]) := S8.out.under ((Below.refl _ _).drew)
         have hym : w8.drew.ownsRow w.heap.size 3 1 (.slice EA en ec) en (nints EL) := by
          have := SD.out.f.rows.1 _ (List.mem_append_right _ (List.getElem_mem hye)); rw [hyz] at this; exact this
         have henl : EL.length = en := by have := hym.1; simpa [nints] using this
         have hen : en ≤ 1048576 := by rw [← henl, HEL.out]; have := Vert.idxP_len (fun r => decide (r.e = (e : Int))) c.regs c.regs.length; omega
         have HCLE : Hid (closeL c.regs EL = closes c.regs e) := by show _ = _; rw [HEL.out, closeL_closes]
         have HCA := Lib.hid (closeAll_any w.heap.size gw ⟨Ha, ⟨TA, tn, tc⟩, ⟨some ⟨gx, ox, none⟩, xn, xc⟩, ⟨RA, rn, rc⟩, Hn, Hh, Hl⟩ c.regs EA en ec EL (L1 ++ spanText c b (e - b)) w8.drew SD.out.o (HR.out.r.under SD.out.f.below) hym (fun k hk => by rw [HEL.out] at hk; exact Vert.idxP_lt hk) (by
          have h1 := HL1l.out
          rw [HCLE.out]
          simp only [List.length_append] at h1 ⊢
          omega) hen)
         have y0 : w8.cell? ⟨w.heap.size, 0, none⟩ = some Ha.v := S8.out.f.cor.cell 0
         have y2 : w8.cell? ⟨w.heap.size, 2, none⟩ = some (.slice (some ⟨gx, ox, none⟩) xn xc) := S8.out.f.cor.cell 2
         have y3 : w8.cell? ⟨w.heap.size, 3, none⟩ = some (.slice RA rn rc) := S8.out.f.cor.cell 3
         have y4 : w8.cell? ⟨w.heap.size, 4, none⟩ = some Hn.v := S8.out.f.cor.cell 4
         have y5 : w8.cell? ⟨w.heap.size, 5, none⟩ = some Hh.v := S8.out.f.cor.cell 5
         have y6 : w8.cell? ⟨w.heap.size, 6, none⟩ = some Hl.v := S8.out.f.cor.cell 6
         have y7 : w8.cell? ⟨ge, e, none⟩ = some (.slice EA en ec) := (S8.out.f.by_.cell e).trans HYP.out
         clear hyz hye hym henl hbq
         go_wp2
         go_region_held3 (fun W => W.cell? ⟨w.heap.size, 0, none⟩ = some Ha.v ∧ W.cell? ⟨w.heap.size, 1, none⟩ = some (.slice TA tn tc) ∧ W.cell? ⟨w.heap.size, 2, none⟩ = some (.slice (some ⟨gx, ox, none⟩) xn xc) ∧ W.cell? ⟨w.heap.size, 3, none⟩ = some (.slice RA rn rc) ∧ W.cell? ⟨w.heap.size, 4, none⟩ = some Hn.v ∧ W.cell? ⟨w.heap.size, 5, none⟩ = some Hh.v ∧ W.cell? ⟨w.heap.size, 6, none⟩ = some Hl.v ∧ W.cell? ⟨ge, e, none⟩ = some (.slice EA en ec) ∧ W.cell? ⟨wo2.heap.size, 2, none⟩ = some (.int .i64 (e : Nat))) (first | go_keep | exact ⟨x0, x1, x2, x3, x4, x5, x6, x7, x8⟩) (first | (go_at_call 37; refine HCA.out.mono ?_; intro en9 w9 hW9; obtain rfl := hW9.1; have S9 := SD.out.wrote hW9; have x0 := S9.f.cor.cell 0; have x1 := S9.f.cor.cell 1; have x2 := S9.f.cor.cell 2; have x3 := S9.f.cor.cell 3; have x4 := S9.f.cor.cell 4; have x5 := S9.f.cor.cell 5; have x6 := S9.f.cor.cell 6; have x7 := (S9.f.by_.cell e).trans HYP.out; have x8 : w9.cell? ⟨wo2.heap.size, 2, none⟩ = some (.int .i64 (e : Nat)) := S9.t.cell 2))
         rw [HCLE.out] at S9
         obtain ⟨M2, hM2⟩ : ∃ M2, L1 ++ spanText c b (e - b) ++ closes c.regs e = M2 := ⟨_, rfl⟩
         rw [hM2] at S9
         have hM2l : M2.length + 8 ≤ 1099511627776 := by have := HL1l.out; rw [← hM2]; simp only [List.length_append]; omega
         have S9 := Lib.hid S9
         obtain ⟨A1, c1, hbw, how, hBg⟩ := S9.out.o
         have q0 : w9.cell? ⟨gw, 0, none⟩ = some (.slice A1 M2.length c1) := hbw.cell 0
         have HBW := Lib.hid hbw
         have HOW9 := Lib.hid how
         have hs9 : w.heap.size ≤ w9.heap.size := S9.out.f.below.size
         have HFIN : Hid ((c.texts.take (j + 1)).flatMap (textText c) = M2 ++ endTag) := by show _ = _; rw [HST.out, HTT.out, ← hM2, ← HL1.out]; simp only [List.append_assoc]
         have hlt9 := how.lt
         clear hM2 x0 x1 x2 x3 x4 x5 x6 x7 x8 hW9 hbw how y0 y2 y3 y4 y5 y6 y7 t1 t2 k1
         go_wp2_with (at_builtin; refine wpList_app_str rfl (.tmp 177) (.const (.string ⟨#[60, 47, 116, 101, 120, 116, 62, 10]⟩)) rfl w.heap.size _ _ _ rfl HOW9.out endTag rfl (by show M2.length + 8 ≤ _; omega) hs9 ?_; intro v10 w10 own10 gr10; obtain ⟨A10, c10, rfl, -, -⟩ := own_slc own10; have f10 := Off.grown HOW9.out gr10; have b10 := HBW.out.off f10 (by decide); have q10 : _ = some (Value.slice A1 M2.length c1) := b10.cell 0; have z10 := b10.free 0)
         have D10 : Dry w9 (w10.setCell ⟨gw, 0, none⟩ (.slice A10 (M2.length + endTag.length) c10)) := ((Dry.refl w9).off f10 (.inr rfl)).off (Off.set_ b10 0 _) (.inl rfl)
         have B10 : Below w.heap.size w9 (w10.setCell ⟨gw, 0, none⟩ (.slice A10 (M2.length + endTag.length) c10)) := ((Below.refl _ _).grown gr10 hs9 (fun k hk => (hlt9 k hk).1)).setCell (p := ⟨gw, 0, none⟩) hBg _
         have F10 := Lib.hid (S9.out.f.dry D10 B10)
         have O10 : Hid (OwnB (w10.setCell ⟨gw, 0, none⟩ (.slice A10 (M2.length + endTag.length) c10)) w.heap.size gw ((c.texts.take (j + 1)).flatMap (textText c))) := by
          show OwnB _ _ _ _
          rw [HFIN.out]
          exact wrote_push HBW.out hBg HOW9.out own10 (by simp) f10
         have e8 : endTag.length = 8 := rfl
         rw [e8] at F10 O10
         clear D10 B10 own10 gr10 f10 b10
         go_roundw
         case rel => exact ⟨j + 1, by go_num, by omega, F10, O10⟩
         case measure => (simp [intOf] <;> omega)
      ·obtain rfl : xn = j := by omega
       have HBD : Hid ((c.texts.take xn).flatMap (textText c) = bodyV c) := by show _ = _; rw [List.take_of_length_le (by omega)]; rfl
       rw [HBD.out] at HO1
       obtain ⟨A1, c1, hbw, how, hBg⟩ := HO1.out
       have q0 : wr.cell? ⟨gw, 0, none⟩ = some (.slice A1 (bodyV c).length c1) := hbw.cell 0
       have hcv := back_run (n := (bodyV c).length) rfl how
       have HBB := Lib.hid HF1.out.below
       have HWV : Hid (∀ k, k = (bodyV c).length → writeV c = if 1048576 < k then ([], 2) else (bodyV c, 0)) := fun k hk => by
        subst hk
        unfold writeV
        rw [if_neg (by rw [HFR.out]; simp)]
       generalize hLb : (bodyV c).length = lb at q0 hcv hsz
       have HLB := Lib.hid hLb
       clear hLb hbw how HO1
       by_cases hbig : 1048576 < lb
       ·have HF : Hid (writeV c = ([], 2)) := by show _ = _; rw [HWV.out lb HLB.out.symm, if_pos hbig]
        have hb1 : (1048576 : Int) < (lb : Int) := by omega
        go_wp2
        go_ret2
        exact writ_ret HF.out HBB.out
       ·have HF : Hid (writeV c = (bodyV c, 0)) := by show _ = _; rw [HWV.out lb HLB.out.symm, if_neg hbig]
        have hb1 : ¬ (1048576 : Int) < (lb : Int) := by omega
        go_wp2
        go_ret2
        exact writ_ret HF.out HBB.out

 ·have HF : Hid (writeV c = ([], fe)) := by show _ = _; unfold writeV; rw [if_pos (by rw [HFE.out]; exact hf0), HFE.out]
  have e1 : ((fe : Int) != 0) = true := by rw [bne_iff_ne]; omega
  clear hf0
  go_enter Tryz.func15, Tryz.ntmps15
  go_wp2_with fail
  refine HCK.out.mono ?_
  rintro en w2 ⟨rfl, hb2⟩
  have HB2 : Hid (Below w.heap.size w w2) := HB1.out.trans (hb2.mono HB1.out.size)
  clear hb2 c0 c1 c2 c3 c4 c5 c6
  go_wp2
  go_ret2
  exact writ_ret HF.out HB2.out
end Go.Proofs.YtgkdaebiefhgdaaGreatDoor
