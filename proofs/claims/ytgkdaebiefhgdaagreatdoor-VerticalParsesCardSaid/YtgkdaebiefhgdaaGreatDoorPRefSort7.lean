/-
 The contract of corpora/corporaref06.SortRegions, with the row of the call's own and a property of the elements kept. Conditions: one region more takes at most 2^47 bytes.
-/
import Derived.Test.YtgkdaebiefhgdaaGreatDoorPCorSrt
import Derived.Test.YtgkdaebiefhgdaaGreatDoorPCorCp
import Derived.Test.YtgkdaebiefhgdaaGreatDoorPCorExP
import Derived.Test.YtgkdaebiefhgdaaGreatDoorPCorOwn
import Derived.Test.YtgkdaebiefhgdaaGreatDoorPCorRegW
import Derived.Deep.RegionHeld3
import Derived.Deep.RegionLaw
import Derived.BigQuiet
import Derived.Deep.QuietTactic
namespace Go.Proofs.YtgkdaebiefhgdaaGreatDoor
set_option linter.unusedSimpArgs false
set_option linter.unusedVariables false
open Go.RowKit Utf
open Feat (Bs)
open Cor (cmpR)
def SortedK (Pp : TH → Prop) (l : List Cor.Reg) (w : World) (e : Ending) (w' : World) : Prop :=
 ∃ (h : Hd) (M : List TH), e = .returned h.v ∧ M.map Prod.fst = sortT l ∧ w'.ownsRow w.heap.size 69 4 h.v h.n (M.flatMap txV) ∧ (∀ y ∈ M, Pp y) ∧ Below w.heap.size w w'
set_option maxRecDepth 100000 in
set_option maxHeartbeats 16000000 in
theorem refSortRegions_keep (Pp : TH → Prop) (A : Option Addr) (n c : Nat) (L : List TH) (w : World) (hn : (n + 1) * 56 ≤ 140737488355328) (hs : Sl w w.heap.size 4 A n (L.flatMap txV)) (ho : ∀ x ∈ L, TxOk w w.heap.size x ∧ Pp x) :
  Calls Tryz.prog 30 #[.slice A n c] w (SortedK Pp (L.map Prod.fst) w) := by
 have hl : L.length = n := hs.flen txV_len (by omega)
 obtain ⟨i0, hi0, hz0, hz1, hz2⟩ := info_parts info_reg
 go_enter Tryz.func30, Tryz.ntmps30
 go_wp2
 go_loopw [9, 3] (fun iv ov wo => ∃ (k : Nat) (A2 : Option Addr) (cap2 : Nat) (M : List TH), k ≤ n ∧ iv = .int .i64 k ∧ ov = .slice A2 k cap2 ∧ Below w.heap.size w wo ∧ wo.ownsRow w.heap.size 69 4 (.slice A2 k cap2) k (M.flatMap txV) ∧ M.map Prod.fst = sortT ((L.map Prod.fst).take k) ∧ ∀ y ∈ M, TxOk w w.heap.size y ∧ Pp y) (fun iv _ _ => n - (intOf iv).toNat)
 case atStart => exact ⟨0, none, 0, [], by omega, rfl, rfl, Below.refl _ _, World.ownsRow_nil _ _ _ _, rfl, fun y hy => by cases hy⟩
 case round =>
  obtain ⟨k, A2, cap2, M, hk', rfl, rfl, hB, hown, hM, hel⟩ := hrel
  obtain ⟨wo, rfl⟩ : ∃ wo : World, wo = wr := ⟨_, rfl⟩
  by_cases hlt : k < n
  ·obtain ⟨g, o, hkl, rfl, hg, hc⟩ := (hs.under hB).elem txV_len (by omega) hlt
   have hX : sortT ((L.map Prod.fst).take (k + 1)) = insT (L[k]).1 (sortT ((L.map Prod.fst).take k)) := by
    rw [sortT_take _ k (by simpa using hkl)]; simp
   obtain ⟨hto, hpp⟩ := ho _ (List.getElem_mem hkl)
   skip
   obtain ⟨⟨⟨x, b, e, ks⟩, ⟨Ak, nk, ck⟩⟩, hx⟩ : ∃ p, L[k] = p := ⟨_, rfl⟩
   rw [hx] at hto hpp hX hc
   have d0 : wo.cell? ⟨g, o + k * 4, none⟩ = some (str x) := hc 0 _ rfl
   have d1 : wo.cell? ⟨g, o + k * 4 + 1, none⟩ = some (.int .i64 b) := hc 1 _ rfl
   have d2 : wo.cell? ⟨g, o + k * 4 + 2, none⟩ = some (.int .i64 e) := hc 2 _ rfl
   have d3 : wo.cell? ⟨g, o + k * 4 + 3, none⟩ = some (.slice Ak nk ck) := hc 3 _ rfl
   have HX := Lib.hid hX
   have HTO := Lib.hid (And.intro hto hpp)
   skip
   have hml : M.length = k := by
    have h2 := (own_sl hown).flen txV_len (by omega)
    omega
   have hm4 : Hid (M.length = k) := hml
   have HM := Lib.hid hM
   have HEL := Lib.hid hel
   have HO := Lib.hid hown
   have hkx0 := (hto.2.2.2.under hB).up hB.size
   have hkx1 := (hkx0.under ((Below.refl _ _).alloc (Nat.le_refl _) (.cells #[str x, .int .i64 b, .int .i64 e, .slice Ak nk ck] 69))).up (((Below.refl _ _).alloc (Nat.le_refl _) (.cells #[str x, .int .i64 b, .int .i64 e, .slice Ak nk ck] 69)).size)
   have HKX := Lib.hid hkx1
   clear hX hto hpp hM hel hc hx hkx0 hkx1 hown
   go_wp2
   go_loopw [6] (fun iv wr => ∃ i : Nat, i ≤ k ∧ iv = .int .i64 i ∧ Hid (spot ⟨x, b, e, ks⟩ (M.map Prod.fst) M.length = spot ⟨x, b, e, ks⟩ (M.map Prod.fst) i) ∧ Below (wo.alloc (.cells #[str x, .int .i64 b, .int .i64 e, .slice Ak nk ck] 69)).heap.size (wo.alloc (.cells #[str x, .int .i64 b, .int .i64 e, .slice Ak nk ck] 69)) wr) (fun iv _ => (intOf iv).toNat)
   case atStart => exact ⟨k, Nat.le_refl _, rfl, by show _ = _; rw [hml], Below.refl _ _⟩
   case round =>
    obtain ⟨i, hi, rfl, HSP, hBx⟩ := hrel
    rcases Nat.eq_zero_or_pos i with h0 | h0
    ·have HZ : Hid (spot ⟨x, b, e, ks⟩ (M.map Prod.fst) M.length = i) := by show _ = _; rw [HSP.out, h0]; rfl
     have hd : decide ((0 : Int) < (i : Int)) = false := by simp [h0]
     have hd2 : decide (0 < i) = false := by simp [h0]
     clear h0 HSP d0 d1 d2 d3
     go_wp2
     go_quiet (fail)
     have hB0 := below_drewN hBx nq
     have hoW := own_below (HO.out.alloc (.cells #[str x, .int .i64 b, .int .i64 e, .slice Ak nk ck] 69)) hB0
     have hbW := (hB.alloc hB.size (.cells #[str x, .int .i64 b, .int .i64 e, .slice Ak nk ck] 69)).trans (hB0.mono (hB.alloc hB.size (.cells #[str x, .int .i64 b, .int .i64 e, .slice Ak nk ck] 69)).size)
     have hoa := hoW.alloc (.cells #[str [], .int .i64 0, .int .i64 0, .slice none 0 0] 69)
     have hba := hbW.alloc hbW.size (.cells #[str [], .int .i64 0, .int .i64 0, .slice none 0 0] 69)
     have hbp := ((Blk.new wo 69 #[str x, .int .i64 b, .int .i64 e, .slice Ak nk ck]).below hB0).alloc (.cells #[str [], .int .i64 0, .int .i64 0, .slice none 0 0] 69)
     have hwz : wo.heap.size < (wr.drewN nq).heap.size := ((Blk.new wo 69 #[str x, .int .i64 b, .int .i64 e, .slice Ak nk ck]).below hB0).lt
     have HNE := Lib.hid (fun e => Nat.lt_irrefl _ (HO.out.lt wo.heap.size e).2)
     have HIN := Lib.hid (fun (y : TH) (hy : y.1 = (⟨x, b, e, ks⟩ : Cor.Reg)) => show (M.take i ++ y :: M.drop i).map Prod.fst = sortT ((L.map Prod.fst).take (k + 1)) from (ins_at (M := M) (i := i) hy (HZ.out)).trans (by rw [HM.out, HX.out]))
     have hwz2 := hwz
     try simp at hwz2
     go_wp2_with (at_builtin; refine wpList_append_own_at _ rfl (.tmp 29) (.tmp 31) _ rfl w.heap.size 69 i0 _ 4 56 Tryz.underlying25 hi0 hz0 hz1 hz2 rfl (by decide) _ _ _ rfl hoa ⟨_, 0, none⟩ 1 1 [str [], .int .i64 0, .int .i64 0, .slice none 0 0] rfl rfl ?pa1 ?pa2 ?pa3 ?pa4 hba.size ?_)
     try (case pa1 => exact news_four (by simp))
     try (case pa2 => first | rfl | (intro u hu; simp at hu; rcases hu with rfl | rfl | rfl | rfl <;> rfl))
     try (case pa3 => simp [maxLen]; omega)
     try (case pa4 => omega)
     intro v2 w2 own2 gr2 _ hob2
     have hb2 : Below w.heap.size w w2 := hba.grown gr2 hba.size (fun k hk => (hoa.lt k hk).1)
     have hbp2 : Blk w2 wo.heap.size 69 #[str x, .int .i64 b, .int .i64 e, .slice Ak nk ck] := (gr2.block _ hbp.lt (fun e => HNE.out e.symm)).trans hbp
     have hob3 : ∀ b, v2.ownBlock = some b → b ≠ wo.heap.size := by
      intro b hb
      rcases hob2 with e | e
      ·rintro rfl; exact HNE.out (e.symm.trans hb)
      ·rw [e] at hb
       have := Option.some.inj hb
       try simp at this
       omega
     rw [show M.flatMap txV ++ [str [], .int .i64 0, .int .i64 0, .slice none 0 0] = (M ++ [zeroT]).flatMap txV by simp [txV]] at own2
     have F2 := Lib.hid (((Off.alloc (R := 69) wo (.cells #[str x, .int .i64 b, .int .i64 e, .slice Ak nk ck] 69)).trans (Off.below hB0)).trans ((Off.alloc _ (.cells #[str [], .int .i64 0, .int .i64 0, .slice none 0 0] 69)).trans (Off.grown hoa gr2)))
     clear hoa hba gr2 hbp hob2 hoW hbW hB0 hwz hwz2
     rcases own2.2 with ⟨_, h⟩ | ⟨g3, cap3, cur3, rfl, hbg3, hblk3, hcap3, hm3, hsz3, htk3⟩
     ·omega
     ·have hg3p : g3 ≠ wo.heap.size := hob3 g3 rfl
      have hs1 := fun W => slice_from (P := Tryz.prog) 25 69 i0 4 Tryz.underlying25 hi0 hz1 (some ⟨g3, 0, none⟩) (k + 1) cap3 (i + 1) (by omega) W
      have hs2 := fun W => slice_from (P := Tryz.prog) 25 69 i0 4 Tryz.underlying25 hi0 hz1 (some ⟨g3, 0, none⟩) (k + 1) cap3 i (by omega) W
      have ei : ((i + 1 : Nat) : Int) = (i : Int) + 1 := by omega
      have eA : cutAt (some ⟨g3, 0, none⟩) i cap3 4 = some ⟨g3, i * 4, none⟩ := by rw [cutAt_in (by omega)]; simp
      obtain ⟨A1, hA1⟩ : ∃ A1, cutAt (some ⟨g3, 0, none⟩) (i + 1) cap3 4 = A1 := ⟨_, rfl⟩
      simp only [ei, hA1] at hs1
      simp only [eA] at hs2
      have hwr : IntKind.i64.wrap ((i : Int) + 1) = (i : Int) + 1 := IntWalk.i64_in _ (by omega)
      have k1 : Hid (((M.drop i).flatMap txV).length = Nat.min (k + 1 - i) (k + 1 - (i + 1)) * 4) := by show ((M.drop i).flatMap txV).length = min (k + 1 - i) (k + 1 - (i + 1)) * 4; rw [flat_len4, List.length_drop]; omega
      have k2 : Hid (0 < ((M.drop i).flatMap txV).length → A1 = some ⟨g3, (i + 1) * 4, none⟩ ∧ ∃ ad, (some (⟨g3, i * 4, none⟩ : Addr)) = some ad ∧ ∀ j v, ((M.drop i).flatMap txV)[j]? = some v → w2.cell? (ad.add j) = some v) := by
       intro hp
       rw [flat_len4, List.length_drop] at hp
       refine ⟨by rw [← hA1, cutAt_in (by omega)]; simp, _, rfl, fun j v hj => ?_⟩
       have ea : (⟨g3, i * 4, none⟩ : Addr).add j = ⟨g3, i * 4 + j, none⟩ := by unfold Addr.add; split <;> simp_all
       have hjl : j < (M.length - i) * 4 := by
        have := (List.getElem?_eq_some_iff.1 hj).1; rw [flat_len4, List.length_drop] at this; exact this
       rw [ea, own2.cellAt (i * 4 + j) (by omega), ← hj]
       rw [show M ++ [zeroT] = M.take i ++ (M.drop i ++ [zeroT]) by rw [← List.append_assoc, List.take_append_drop], List.flatMap_append, List.getElem?_append_right (by rw [flat_len4, List.length_take]; omega), List.flatMap_append, List.getElem?_append_left (by rw [flat_len4, flat_len4, List.length_take, List.length_drop]; omega)]
       congr 1
       rw [flat_len4, List.length_take]
       omega
      have k3 : Hid ((i + 1) * 4 + ((M.drop i).flatMap txV).length ≤ cur3.toList.length) := by
       show _ ≤ _
       have hcl : cur3.toList.length = cur3.size := by simp
       rw [flat_len4, List.length_drop]; omega
      have k4 : Hid (w2.heap[g3]? = some (.cells cur3.toList.toArray 69 (0, 0))) := by show _ = _; rw [hblk3]
      have k5 : Hid (cur3.toList.take ((M.length + 1) * 4) = (M ++ [zeroT]).flatMap txV) := by show _ = _; rw [← htk3, hml]
      have k6 : Hid (cur3.toList.length = cap3 * 4 ∧ cap3 ≤ maxLen ∧ M.length + 1 ≤ cap3) := ⟨by simpa using hsz3, hm3, by omega⟩
      have OWN2 := Lib.hid (own_drew6 own2)
      have hb2d := hb2.drew
      clear ei eA hA1 hblk3 htk3 own2 hsz3 hm3
      go_wp2
      go_region_law ((refine step_copy_sz rfl (.tmp 36) (.tmp 39) _ _ rfl 69 Tryz.underlying25 4 (by decide) size_reg A1 (some ⟨g3, i * 4, none⟩) (k + 1 - (i + 1)) (cap3 - (i + 1)) (k + 1 - i) (cap3 - i) (by simp [Act.eval, Act.put]) (by simp [Act.eval, Act.put]) g3 ((i + 1) * 4) cur3.toList 69 k4.out ((M.drop i).flatMap txV) k1.out k2.out k3.out (txV_one7 _) ?_; intro w4 hg4 gr4))
      have hbp4 : Blk w4 wo.heap.size 69 #[str x, .int .i64 b, .int .i64 e, .slice Ak nk ck] := (gr4.block _ hbp2.lt (fun e => hg3p (Option.some.inj e).symm)).trans hbp2
      have hb4 : Below w.heap.size w w4 := hb2d.grown gr4 hb2d.size (fun k hk => by cases hk; exact hbg3)
      have F4 := Lib.hid ((F2.out.trans (Off.drew _)).trans (Off.grown OWN2.out gr4))
      have hg4b : Blk w4 g3 69 (splice cur3.toList ((i + 1) * 4) ((M.drop i).flatMap txV)).toArray := hg4.out
      have p0 := hbp4.cell 0
      have p1 := hbp4.cell 1
      have p2 := hbp4.cell 2
      have p3 := hbp4.cell 3
      obtain ⟨⟨old0, c0⟩, f0⟩ := after_cells hg4b (by omega) k3.out k6.out 0 (by omega)
      obtain ⟨⟨old1, c1⟩, f1⟩ := after_cells hg4b (by omega) k3.out k6.out 1 (by omega)
      obtain ⟨⟨old2, c2⟩, f2⟩ := after_cells hg4b (by omega) k3.out k6.out 2 (by omega)
      obtain ⟨⟨old3, c3⟩, f3⟩ := after_cells hg4b (by omega) k3.out k6.out 3 (by omega)
      simp only [Nat.add_zero] at c0 f0
      have own6 := own_after_txt (p := (⟨x, b, e, ks⟩, ⟨Ak, nk, ck⟩)) hbg3 hg4b (by omega) k3.out k5.out k6.out
      have HG := Lib.hid hg4b
      clear hg4b hg4 gr4
      go_wp2
      go_roundw
      case rel =>
       refine ⟨k + 1, some ⟨g3, 0, none⟩, cap3, M.take i ++ (⟨x, b, e, ks⟩, ⟨Ak, nk, ck⟩) :: M.drop i, by omega, by go_num, rfl, below4 hb4 hbg3 _ _ _ _ _ _ _ _, by rw [hml] at own6; exact own6, HIN.out _ rfl, fun y hy => ?_⟩
       rcases ins_mem hy with hy | rfl
       ·exact HEL.out y hy
       ·exact HTO.out
      case measure => simp [intOf]; omega
    ·have hym : M[i - 1] ∈ M := List.getElem_mem _
     have hko := Lib.hid (((HEL.out _ hym).1.under hB).up hB.size)
     obtain ⟨g2, cap9, e9, hbg2, hg2, hc9⟩ := own_form HO.out (by omega)
     obtain ⟨rfl, rfl⟩ : A2 = some ⟨g2, 0, none⟩ ∧ cap2 = cap9 := by cases e9; exact ⟨rfl, rfl⟩
     have hc4 := own_four HO.out (i - 1) (by omega)
     have HD := Lib.hid (fun (h : cmpR ⟨x, b, e, ks⟩ (M[i - 1]).1 < 0) => spot_down (x := ⟨x, b, e, ks⟩) (m := M.map Prod.fst) (i := i - 1) (by simp; omega) (by simpa using h))
     have HS' := Lib.hid (fun (h : ¬ cmpR ⟨x, b, e, ks⟩ (M[i - 1]).1 < 0) => spot_stay (x := ⟨x, b, e, ks⟩) (m := M.map Prod.fst) (i := i - 1) (by simp; omega) (by simpa using h))
     rw [show i - 1 + 1 = i by omega] at HD HS'
     obtain ⟨⟨⟨y, yb, ye, yk⟩, ⟨By, ny, cy⟩⟩, hy⟩ : ∃ p, M[i - 1] = p := ⟨_, rfl⟩
     rw [hy] at hko hc4 HD HS'
     simp only [] at hc4 HD HS'
     clear hym hy e9 hc9
     have hbD := hBx.drew
     have HBX := Lib.hid hBx
     have HS := Lib.hid (fun (W : World) (hW : Below (wo.alloc (.cells #[str x, .int .i64 b, .int .i64 e, .slice Ak nk ck] 69)).heap.size (wo.alloc (.cells #[str x, .int .i64 b, .int .i64 e, .slice Ak nk ck] 69)) W) => show W.cell? ⟨wo.heap.size, 0, none⟩ = some (str x) ∧ W.cell? ⟨wo.heap.size, 1, none⟩ = some (.int .i64 b) ∧ W.cell? ⟨wo.heap.size, 2, none⟩ = some (.int .i64 e) ∧ W.cell? ⟨wo.heap.size, 3, none⟩ = some (.slice Ak nk ck) ∧ W.cell? ⟨g2, (i - 1) * 4, none⟩ = some (str y) ∧ W.cell? ⟨g2, (i - 1) * 4 + 1, none⟩ = some (.int .i64 yb) ∧ W.cell? ⟨g2, (i - 1) * 4 + 2, none⟩ = some (.int .i64 ye) ∧ W.cell? ⟨g2, (i - 1) * 4 + 3, none⟩ = some (.slice By ny cy) from by
      have hq := (Blk.new wo 69 #[str x, .int .i64 b, .int .i64 e, .slice Ak nk ck]).below hW
      have hz := ((Below.refl wo.heap.size wo).alloc (Nat.le_refl _) (.cells #[str x, .int .i64 b, .int .i64 e, .slice Ak nk ck] 69)).trans (hW.mono (Nat.le_of_lt (by simp)))
      exact ⟨hq.cell 0, hq.cell 1, hq.cell 2, hq.cell 3, (hz.cell (p := ⟨g2, _, none⟩) hg2).trans hc4.1, (hz.cell (p := ⟨g2, _, none⟩) hg2).trans hc4.2.1, (hz.cell (p := ⟨g2, _, none⟩) hg2).trans hc4.2.2.1, (hz.cell (p := ⟨g2, _, none⟩) hg2).trans hc4.2.2.2⟩)
     have HCC := Lib.hid (fun (W : World) (hW0 : Below (wo.alloc (.cells #[str x, .int .i64 b, .int .i64 e, .slice Ak nk ck] 69)).heap.size (wo.alloc (.cells #[str x, .int .i64 b, .int .i64 e, .slice Ak nk ck] 69)) W) => (fun (hkx : Keys (wo.alloc (.cells #[str x, .int .i64 b, .int .i64 e, .slice Ak nk ck] 69)) (wo.alloc (.cells #[str x, .int .i64 b, .int .i64 e, .slice Ak nk ck] 69)).heap.size ⟨Ak, nk, ck⟩ ks) (hky : Keys (wo.alloc (.cells #[str x, .int .i64 b, .int .i64 e, .slice Ak nk ck] 69)) (wo.alloc (.cells #[str x, .int .i64 b, .int .i64 e, .slice Ak nk ck] 69)).heap.size ⟨By, ny, cy⟩ yk) => refCompareR_any ⟨y, yb, ye, yk⟩ ⟨x, b, e, ks⟩ By ny cy Ak nk ck W ((hky.under hW0).up hW0.size) ((hkx.under hW0).up hW0.size)) HKX.out ((hko.out.2.2.2.under ((Below.refl _ _).alloc (Nat.le_refl _) (.cells #[str x, .int .i64 b, .int .i64 e, .slice Ak nk ck] 69))).up (((Below.refl _ _).alloc (Nat.le_refl _) (.cells #[str x, .int .i64 b, .int .i64 e, .slice Ak nk ck] 69)).size)))
     simp only [ord_R.anti ⟨x, b, e, ks⟩ ⟨y, yb, ye, yk⟩] at HCC
     obtain ⟨cv, hcv⟩ : ∃ cv, cmpR ⟨x, b, e, ks⟩ ⟨y, yb, ye, yk⟩ = cv := ⟨_, rfl⟩
     rw [hcv] at HCC HD HS'
     have RNG : cv = -1 ∨ cv = 0 ∨ cv = 1 := by rw [← hcv]; exact ord_R.val _ _
     have X0 := HS.out wr.drew hbD
     have hd : decide ((0 : Int) < (i : Int)) = true := by simp; omega
     have hd2 : decide (0 < i) = true := by simp; omega
     have i1 : IntKind.i64.wrap ((i : Int) - 1) = ((i - 1 : Nat) : Int) := by rw [IntWalk.i64_in _ (by omega)]; omega
     have j2 : 0 ≤ (i : Int) - 1 := by omega
     have j3 : (i : Int) - 1 < k := by omega
     have j5 : i - 1 < k := by omega
     have j4 : ((i : Int) - 1).toNat = i - 1 := by omega
     clear hcv hc4 d0 d1 d2 d3 hko HKX
     by_cases hcl : cv < 0
     ·have dc : decide (cv < 0) = true := by simpa using hcl
      have HSQ : Hid (spot ⟨x, b, e, ks⟩ (M.map Prod.fst) M.length = spot ⟨x, b, e, ks⟩ (M.map Prod.fst) (i - 1)) := by show _ = _; rw [HSP.out, HD.out hcl]
      clear HSP HD HS' hcl RNG
      go_upto_region 6 with (fail)
      go_region_held3 (fun W => W.cell? ⟨wo.heap.size, 0, none⟩ = some (str x) ∧ W.cell? ⟨wo.heap.size, 1, none⟩ = some (.int .i64 b) ∧ W.cell? ⟨wo.heap.size, 2, none⟩ = some (.int .i64 e) ∧ W.cell? ⟨wo.heap.size, 3, none⟩ = some (.slice Ak nk ck) ∧ W.cell? ⟨g2, (i - 1) * 4, none⟩ = some (str y) ∧ W.cell? ⟨g2, (i - 1) * 4 + 1, none⟩ = some (.int .i64 yb) ∧ W.cell? ⟨g2, (i - 1) * 4 + 2, none⟩ = some (.int .i64 ye) ∧ W.cell? ⟨g2, (i - 1) * 4 + 3, none⟩ = some (.slice By ny cy)) (first | (with_reducible exact X0) | (with_reducible exact X5) | go_keep) (first | (go_at_call 74; refine (HCC.out _ hbD).mono ?_; rintro e' w5 ⟨rfl, hb5⟩; have hc5 := hbD.trans (hb5.mono hbD.size); have X5 := HS.out w5 hc5))
      go_wp2
      go_roundw
      case rel => exact ⟨i - 1, by omega, by go_num, HSQ, hc5⟩
      case measure => simp [intOf]; omega
     ·have dc : decide (cv < 0) = false := by simpa using hcl
      have HZ : Hid (spot ⟨x, b, e, ks⟩ (M.map Prod.fst) M.length = i) := by show _ = _; rw [HSP.out, HS'.out hcl]
      clear HSP HD HS' hcl RNG
      go_upto_region 6 with (fail)
      go_region_held3 (fun W => W.cell? ⟨wo.heap.size, 0, none⟩ = some (str x) ∧ W.cell? ⟨wo.heap.size, 1, none⟩ = some (.int .i64 b) ∧ W.cell? ⟨wo.heap.size, 2, none⟩ = some (.int .i64 e) ∧ W.cell? ⟨wo.heap.size, 3, none⟩ = some (.slice Ak nk ck) ∧ W.cell? ⟨g2, (i - 1) * 4, none⟩ = some (str y) ∧ W.cell? ⟨g2, (i - 1) * 4 + 1, none⟩ = some (.int .i64 yb) ∧ W.cell? ⟨g2, (i - 1) * 4 + 2, none⟩ = some (.int .i64 ye) ∧ W.cell? ⟨g2, (i - 1) * 4 + 3, none⟩ = some (.slice By ny cy)) (first | (with_reducible exact X0) | (with_reducible exact X5) | go_keep) (first | (go_at_call 74; refine (HCC.out _ hbD).mono ?_; rintro e' w5 ⟨rfl, hb5⟩; have hc5 := hbD.trans (hb5.mono hbD.size); have X5 := HS.out w5 hc5))
      have hB0 := hc5
      have hoW := own_below (HO.out.alloc (.cells #[str x, .int .i64 b, .int .i64 e, .slice Ak nk ck] 69)) hB0
      have hbW := (hB.alloc hB.size (.cells #[str x, .int .i64 b, .int .i64 e, .slice Ak nk ck] 69)).trans (hB0.mono (hB.alloc hB.size (.cells #[str x, .int .i64 b, .int .i64 e, .slice Ak nk ck] 69)).size)
      have hoa := hoW.alloc (.cells #[str [], .int .i64 0, .int .i64 0, .slice none 0 0] 69)
      have hba := hbW.alloc hbW.size (.cells #[str [], .int .i64 0, .int .i64 0, .slice none 0 0] 69)
      have hbp := ((Blk.new wo 69 #[str x, .int .i64 b, .int .i64 e, .slice Ak nk ck]).below hB0).alloc (.cells #[str [], .int .i64 0, .int .i64 0, .slice none 0 0] 69)
      have hwz : wo.heap.size < (w5).heap.size := ((Blk.new wo 69 #[str x, .int .i64 b, .int .i64 e, .slice Ak nk ck]).below hB0).lt
      have HNE := Lib.hid (fun e => Nat.lt_irrefl _ (HO.out.lt wo.heap.size e).2)
      have HIN := Lib.hid (fun (y : TH) (hy : y.1 = (⟨x, b, e, ks⟩ : Cor.Reg)) => show (M.take i ++ y :: M.drop i).map Prod.fst = sortT ((L.map Prod.fst).take (k + 1)) from (ins_at (M := M) (i := i) hy (HZ.out)).trans (by rw [HM.out, HX.out]))
      have hwz2 := hwz
      try simp at hwz2
      go_wp2_with (at_builtin; refine wpList_append_own_at _ rfl (.tmp 29) (.tmp 31) _ rfl w.heap.size 69 i0 _ 4 56 Tryz.underlying25 hi0 hz0 hz1 hz2 rfl (by decide) _ _ _ rfl hoa ⟨_, 0, none⟩ 1 1 [str [], .int .i64 0, .int .i64 0, .slice none 0 0] rfl rfl ?pb1 ?pb2 ?pb3 ?pb4 hba.size ?_)
      try (case pb1 => exact news_four (by simp))
      try (case pb2 => first | rfl | (intro u hu; simp at hu; rcases hu with rfl | rfl | rfl | rfl <;> rfl))
      try (case pb3 => simp [maxLen]; omega)
      try (case pb4 => omega)
      intro v2 w2 own2 gr2 _ hob2
      have hb2 : Below w.heap.size w w2 := hba.grown gr2 hba.size (fun k hk => (hoa.lt k hk).1)
      have hbp2 : Blk w2 wo.heap.size 69 #[str x, .int .i64 b, .int .i64 e, .slice Ak nk ck] := (gr2.block _ hbp.lt (fun e => HNE.out e.symm)).trans hbp
      have hob3 : ∀ b, v2.ownBlock = some b → b ≠ wo.heap.size := by
       intro b hb
       rcases hob2 with e | e
       ·rintro rfl; exact HNE.out (e.symm.trans hb)
       ·rw [e] at hb
        have := Option.some.inj hb
        try simp at this
        omega
      rw [show M.flatMap txV ++ [str [], .int .i64 0, .int .i64 0, .slice none 0 0] = (M ++ [zeroT]).flatMap txV by simp [txV]] at own2
      have F2 := Lib.hid (((Off.alloc (R := 69) wo (.cells #[str x, .int .i64 b, .int .i64 e, .slice Ak nk ck] 69)).trans (Off.below hB0)).trans ((Off.alloc _ (.cells #[str [], .int .i64 0, .int .i64 0, .slice none 0 0] 69)).trans (Off.grown hoa gr2)))
      clear hoa hba gr2 hbp hob2 hoW hbW hB0 hwz hwz2
      rcases own2.2 with ⟨_, h⟩ | ⟨g3, cap3, cur3, rfl, hbg3, hblk3, hcap3, hm3, hsz3, htk3⟩
      ·omega
      ·have hg3p : g3 ≠ wo.heap.size := hob3 g3 rfl
       have hs1 := fun W => slice_from (P := Tryz.prog) 25 69 i0 4 Tryz.underlying25 hi0 hz1 (some ⟨g3, 0, none⟩) (k + 1) cap3 (i + 1) (by omega) W
       have hs2 := fun W => slice_from (P := Tryz.prog) 25 69 i0 4 Tryz.underlying25 hi0 hz1 (some ⟨g3, 0, none⟩) (k + 1) cap3 i (by omega) W
       have ei : ((i + 1 : Nat) : Int) = (i : Int) + 1 := by omega
       have eA : cutAt (some ⟨g3, 0, none⟩) i cap3 4 = some ⟨g3, i * 4, none⟩ := by rw [cutAt_in (by omega)]; simp
       obtain ⟨A1, hA1⟩ : ∃ A1, cutAt (some ⟨g3, 0, none⟩) (i + 1) cap3 4 = A1 := ⟨_, rfl⟩
       simp only [ei, hA1] at hs1
       simp only [eA] at hs2
       have hwr : IntKind.i64.wrap ((i : Int) + 1) = (i : Int) + 1 := IntWalk.i64_in _ (by omega)
       have k1 : Hid (((M.drop i).flatMap txV).length = Nat.min (k + 1 - i) (k + 1 - (i + 1)) * 4) := by show ((M.drop i).flatMap txV).length = min (k + 1 - i) (k + 1 - (i + 1)) * 4; rw [flat_len4, List.length_drop]; omega
       have k2 : Hid (0 < ((M.drop i).flatMap txV).length → A1 = some ⟨g3, (i + 1) * 4, none⟩ ∧ ∃ ad, (some (⟨g3, i * 4, none⟩ : Addr)) = some ad ∧ ∀ j v, ((M.drop i).flatMap txV)[j]? = some v → w2.cell? (ad.add j) = some v) := by
        intro hp
        rw [flat_len4, List.length_drop] at hp
        refine ⟨by rw [← hA1, cutAt_in (by omega)]; simp, _, rfl, fun j v hj => ?_⟩
        have ea : (⟨g3, i * 4, none⟩ : Addr).add j = ⟨g3, i * 4 + j, none⟩ := by unfold Addr.add; split <;> simp_all
        have hjl : j < (M.length - i) * 4 := by
         have := (List.getElem?_eq_some_iff.1 hj).1; rw [flat_len4, List.length_drop] at this; exact this
        rw [ea, own2.cellAt (i * 4 + j) (by omega), ← hj]
        rw [show M ++ [zeroT] = M.take i ++ (M.drop i ++ [zeroT]) by rw [← List.append_assoc, List.take_append_drop], List.flatMap_append, List.getElem?_append_right (by rw [flat_len4, List.length_take]; omega), List.flatMap_append, List.getElem?_append_left (by rw [flat_len4, flat_len4, List.length_take, List.length_drop]; omega)]
        congr 1
        rw [flat_len4, List.length_take]
        omega
       have k3 : Hid ((i + 1) * 4 + ((M.drop i).flatMap txV).length ≤ cur3.toList.length) := by
        show _ ≤ _
        have hcl : cur3.toList.length = cur3.size := by simp
        rw [flat_len4, List.length_drop]; omega
       have k4 : Hid (w2.heap[g3]? = some (.cells cur3.toList.toArray 69 (0, 0))) := by show _ = _; rw [hblk3]
       have k5 : Hid (cur3.toList.take ((M.length + 1) * 4) = (M ++ [zeroT]).flatMap txV) := by show _ = _; rw [← htk3, hml]
       have k6 : Hid (cur3.toList.length = cap3 * 4 ∧ cap3 ≤ maxLen ∧ M.length + 1 ≤ cap3) := ⟨by simpa using hsz3, hm3, by omega⟩
       have OWN2 := Lib.hid (own_drew6 own2)
       have hb2d := hb2.drew
       clear ei eA hA1 hblk3 htk3 own2 hsz3 hm3
       go_wp2
       go_region_law ((refine step_copy_sz rfl (.tmp 36) (.tmp 39) _ _ rfl 69 Tryz.underlying25 4 (by decide) size_reg A1 (some ⟨g3, i * 4, none⟩) (k + 1 - (i + 1)) (cap3 - (i + 1)) (k + 1 - i) (cap3 - i) (by simp [Act.eval, Act.put]) (by simp [Act.eval, Act.put]) g3 ((i + 1) * 4) cur3.toList 69 k4.out ((M.drop i).flatMap txV) k1.out k2.out k3.out (txV_one7 _) ?_; intro w4 hg4 gr4))
       have hbp4 : Blk w4 wo.heap.size 69 #[str x, .int .i64 b, .int .i64 e, .slice Ak nk ck] := (gr4.block _ hbp2.lt (fun e => hg3p (Option.some.inj e).symm)).trans hbp2
       have hb4 : Below w.heap.size w w4 := hb2d.grown gr4 hb2d.size (fun k hk => by cases hk; exact hbg3)
       have F4 := Lib.hid ((F2.out.trans (Off.drew _)).trans (Off.grown OWN2.out gr4))
       have hg4b : Blk w4 g3 69 (splice cur3.toList ((i + 1) * 4) ((M.drop i).flatMap txV)).toArray := hg4.out
       have p0 := hbp4.cell 0
       have p1 := hbp4.cell 1
       have p2 := hbp4.cell 2
       have p3 := hbp4.cell 3
       obtain ⟨⟨old0, c0⟩, f0⟩ := after_cells hg4b (by omega) k3.out k6.out 0 (by omega)
       obtain ⟨⟨old1, c1⟩, f1⟩ := after_cells hg4b (by omega) k3.out k6.out 1 (by omega)
       obtain ⟨⟨old2, c2⟩, f2⟩ := after_cells hg4b (by omega) k3.out k6.out 2 (by omega)
       obtain ⟨⟨old3, c3⟩, f3⟩ := after_cells hg4b (by omega) k3.out k6.out 3 (by omega)
       simp only [Nat.add_zero] at c0 f0
       have own6 := own_after_txt (p := (⟨x, b, e, ks⟩, ⟨Ak, nk, ck⟩)) hbg3 hg4b (by omega) k3.out k5.out k6.out
       have HG := Lib.hid hg4b
       clear hg4b hg4 gr4
       go_wp2
       go_roundw
       case rel =>
        refine ⟨k + 1, some ⟨g3, 0, none⟩, cap3, M.take i ++ (⟨x, b, e, ks⟩, ⟨Ak, nk, ck⟩) :: M.drop i, by omega, by go_num, rfl, below4 hb4 hbg3 _ _ _ _ _ _ _ _, by rw [hml] at own6; exact own6, HIN.out _ rfl, fun y hy => ?_⟩
        rcases ins_mem hy with hy | rfl
        ·exact HEL.out y hy
        ·exact HTO.out
       case measure => simp [intOf]; omega
  ·obtain rfl : k = n := by omega
   have hf : Hid (sortT ((L.map Prod.fst).take k) = sortT (L.map Prod.fst)) := by show _ = _; rw [List.take_of_length_le (by simp; omega)]
   rw [hf.out] at hM
   go_wp2
   go_ret
   exact ⟨⟨A2, k, cap2⟩, M, rfl, hM, hown, fun y hy => (hel y hy).2, hB⟩
end Go.Proofs.YtgkdaebiefhgdaaGreatDoor
