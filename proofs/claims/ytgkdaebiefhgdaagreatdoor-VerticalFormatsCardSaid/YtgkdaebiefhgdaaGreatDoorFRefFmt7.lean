/-
  The contract of the reference's Format (chapter 7). Conditions: the corpus is valid and reads as it does.
-/
import Derived.Test.YtgkdaebiefhgdaaGreatDoorFRefFmt7a
import Derived.Test.YtgkdaebiefhgdaaGreatDoorFFmt7
namespace Go.Proofs.YtgkdaebiefhgdaaGreatDoor
set_option linter.unusedSimpArgs false
set_option linter.unusedVariables false
open Go.RowKit
open Feat (Bs)
open Tagp (KV fmtT esc)
open Vert (isId badT fmtErr writeV bodyV textText spanText posText closes closeText opens tagText tokText endTag)
attribute [local go_sem] byte_mk ByteArray.extract_mk
theorem write_err {c : Cor.C} {k : Nat} (h : fmtErr c = k) (hk : k ≠ 0) : writeV c = ([], k) := by
  unfold writeV; rw [if_pos (by omega), h]
theorem closeR_zero (regs : List Cor.Reg) (b : Int) : closeR regs b b = [] := by
  unfold closeR
  have : regs.filter (closeP b b) = [] := by
    rw [List.filter_eq_nil_iff]
    intro r _
    unfold closeP
    rw [decide_eq_false (by omega : ¬ b < b), Bool.and_false]; simp
  rw [this]; rfl
theorem closeR_closes {c : Cor.C} (hf : Fine c) {t : Cor.Txt} (ht : t ∈ c.texts) {b p : Nat} (hb : t.b = b) (h1 : b < p) : closeR c.regs b p = closes c.regs p := by
  unfold closeR closes
  congr 2
  refine List.filter_congr fun r hr => ?_
  unfold closeP
  have h := hf.one r hr
  have he := (hf.edge t ht r hr).1
  rw [Bool.eq_iff_iff]
  simp only [Bool.and_eq_true, decide_eq_true_eq]
  omega
/-- What the first regions open at a place; the first values of a token. -/
def opensT (regs : List Cor.Reg) (p r : Nat) : Bs := opens (regs.take r) p
theorem opensT_step {regs : List Cor.Reg} {p r : Nat} (h : r < regs.length) : opensT regs p (r + 1) = opensT regs p r ++ (if regs[r].b = (p : Int) then tagText regs[r].nm regs[r].ks else []) := by
  unfold opensT opens
  rw [List.take_succ_eq_append_getElem h, List.filter_append, List.flatMap_append]
  congr 1
  rw [List.filter_cons]
  by_cases e : regs[r].b = (p : Int)
  · rw [if_pos (by simpa using e), if_pos e]; simp
  · rw [if_neg (by simpa using e), if_neg e]; simp
theorem opensT_len {regs : List Cor.Reg} (hl : regs.length ≤ 1024) (p r : Nat) : (opensT regs p r).length ≤ 7168000 := by
  unfold opensT opens
  have h1 := sum_le (f := fun r : Cor.Reg => tagText r.nm r.ks) (k := 7000) (l := (regs.take r).filter fun r => decide (r.b = (p : Int))) fun r _ => tag_len _ _
  have h2 := List.length_filter_le (fun r : Cor.Reg => decide (r.b = (p : Int))) (regs.take r)
  rw [List.length_take] at h2
  have h3 : ((regs.take r).filter fun r => decide (r.b = (p : Int))).length * 7000 ≤ 1024 * 7000 := Nat.mul_le_mul_right _ (by omega)
  omega
def joinK (t : List Bs) (k : Nat) : Bs := [9].intercalate ((t.take k).map esc)
theorem inter_snoc : ∀ (l : List Bs) (x : Bs), l ≠ [] → ([9] : Bs).intercalate (l ++ [x]) = [9].intercalate l ++ [9] ++ x
  | [], _, h => absurd rfl h
  | [a], x, _ => by simp [List.intercalate, List.intersperse]
  | a :: b :: l, x, _ => by
    have ih := inter_snoc (b :: l) x (by simp)
    have e1 : ([9] : Bs).intercalate (a :: b :: l ++ [x]) = a ++ 9 :: [9].intercalate (b :: l ++ [x]) := by simp [List.intercalate, List.intersperse]
    have e2 : ([9] : Bs).intercalate (a :: b :: l) = a ++ 9 :: [9].intercalate (b :: l) := by simp [List.intercalate, List.intersperse]
    rw [e1, e2, ih]; simp
theorem joinK_step {t : List Bs} {k : Nat} (h : k < t.length) : joinK t (k + 1) = joinK t k ++ ((if k = 0 then [] else [9]) ++ esc t[k]) := by
  unfold joinK
  rw [List.take_succ_eq_append_getElem h, List.map_append]
  by_cases e : k = 0
  · subst e
    rw [if_pos rfl]; simp [List.intercalate]
  · rw [if_neg e]
    have := inter_snoc ((t.take k).map esc) (esc t[k]) (by
      intro h0
      have := congrArg List.length h0
      simp at this
      rcases this with h | h
      · exact e h
      · subst h; simp at h)
    show ([9] : Bs).intercalate (_ ++ [esc t[k]]) = _
    rw [this]; simp
theorem joinK_len {t : List Bs} (h8 : t.length ≤ 8) (h : ∀ v ∈ t, v.length ≤ 120) (k : Nat) : (joinK t k).length ≤ 6000 := by
  have h1 := tok_len (t := t.take k) (by rw [List.length_take]; omega) (fun v hv => h v (List.take_subset _ _ hv))
  unfold tokText at h1
  rw [List.length_append] at h1
  unfold joinK
  omega

set_option maxRecDepth 100000 in
set_option maxHeartbeats 32000000 in
theorem rformat_any (H : CH) (c : Cor.C) (w : World) (hr : Reads w w.heap.size H c) (hv : Vd c) : Calls Tryz.prog 16 #[H.v] w (Writ c w) := by
  obtain ⟨Ha, ⟨TA, tn, tc⟩, ⟨XA, xn, xc⟩, ⟨RA, rn, rc⟩, Hn, Hh, Hl⟩ := H
  show Calls Tryz.prog 16 #[.agg #[Ha.v, .slice TA tn tc, .slice XA xn xc, .slice RA rn rc, Hn.v, Hh.v, Hl.v]] w _
  have htl : c.toks.length = tn := hr.t.len
  have hxl : c.texts.length = xn := hr.x.len
  have hrl : c.regs.length = rn := hr.r.len
  have htk := hv.tkl.1
  have hxk := hv.txl
  have hrk := hv.rgl
  have HB1 := Lib.hid ((Below.refl w.heap.size w).alloc (Nat.le_refl _) (.cells #[Ha.v, .slice TA tn tc, .slice XA xn xc, .slice RA rn rc, Hn.v, Hh.v, Hl.v] 30))
  have HX1 := Lib.hid (Blk.new w 30 #[Ha.v, .slice TA tn tc, .slice XA xn xc, .slice RA rn rc, Hn.v, Hh.v, Hl.v])
  have c2 : _ = some (Value.slice XA xn xc) := HX1.out.cell 2
  have HR := Lib.hid hr
  have HV := Lib.hid hv
  clear hr hv
  go_enter Tryz.func16, Tryz.ntmps16
  go_wp2_with fail
  clear c2
  go_loopw [21] (fun iv wr => ∃ j : Nat, iv = .int .i64 j ∧ j ≤ xn ∧ Below w.heap.size w wr ∧ Blk wr w.heap.size 30 #[Ha.v, .slice TA tn tc, .slice XA xn xc, .slice RA rn rc, Hn.v, Hh.v, Hl.v] ∧ Hid (∀ i (hi : i < c.texts.length), i < j → badT c.texts[i] = false)) (fun iv _ => xn - (intOf iv).toNat)
  case atStart => exact ⟨0, rfl, Nat.zero_le _, HB1.out, HX1.out, fun i hi h => by omega⟩
  case round =>
    obtain ⟨j, rfl, hj, hb, hblk, hno⟩ := hrel
    obtain ⟨wo, rfl⟩ : ∃ wo : World, wo = wr := ⟨_, rfl⟩
    by_cases hjn : j < xn
    · obtain ⟨gx, ox, ⟨KA, kn, kc⟩, hk, hA, hg, hok, t0, t1, t2, t3⟩ := (HR.out.x.under hb).at_ (k := j) hjn
      dsimp only at hA t3
      subst hA
      obtain ⟨t, ht⟩ : ∃ t, c.texts[j] = t := ⟨_, rfl⟩
      rw [ht] at hok t0 t1 t2
      have hks : Keys wo w.heap.size ⟨KA, kn, kc⟩ t.ks := hok.2.2.2
      have hkl : t.ks.length = kn := hks.len
      have hkf : kn ≤ 9223372036854775807 := hks.1.2
      have HT := Lib.hid ht
      have hj0 : (0 : Int) ≤ (j : Int) := by omega
      have hj1 : (j : Int) < (xn : Int) := by omega
      have hw3 : IntKind.i64.wrap ((j : Int) + 1) = ((j + 1 : Nat) : Int) := by rw [IntWalk.i64_in _ (by omega)]; omega
      have HBA := Lib.hid (hb.alloc hb.size (.cells #[str t.nm, .int .i64 t.b, .int .i64 t.e, .slice KA kn kc] 66))
      have HBL := Lib.hid (hblk.alloc (.cells #[str t.nm, .int .i64 t.b, .int .i64 t.e, .slice KA kn kc] 66))
      have HTT := Lib.hid (Blk.new wo 66 #[str t.nm, .int .i64 t.b, .int .i64 t.e, .slice KA kn kc])
      have hzr : w.heap.size ≤ wo.heap.size := hb.size
      have HKS : Hid (Keys (wo.alloc (.cells #[str t.nm, .int .i64 t.b, .int .i64 t.e, .slice KA kn kc] 66)) w.heap.size ⟨KA, kn, kc⟩ t.ks) := hks.under ((Below.refl _ _).alloc hzr _)
      clear ht hok hb hblk hks
      go_wp2_with fail
      go_loopw [28] (fun iv wr => ∃ i : Nat, iv = .int .i64 i ∧ i ≤ kn ∧ Below w.heap.size w wr ∧ Below (wo.alloc (.cells #[str t.nm, .int .i64 t.b, .int .i64 t.e, .slice KA kn kc] 66)).heap.size (wo.alloc (.cells #[str t.nm, .int .i64 t.b, .int .i64 t.e, .slice KA kn kc] 66)) wr ∧ Hid (∀ q ∈ t.ks.take i, isId q = false)) (fun iv _ => kn - (intOf iv).toNat)
      case atStart => exact ⟨0, rfl, Nat.zero_le _, HBA.out, Below.refl _ _, fun q hq => by simp at hq⟩
      case round =>
        obtain ⟨i, rfl, hi, hbx, hby, hnk⟩ := hrel
        by_cases hik : i < kn
        · obtain ⟨gk, ok, hk', hKA, hgk, -, p0, p1⟩ := (HKS.out.under (hby.mono (by simp; omega))).at_ (k := i) hik
          dsimp only at hKA
          subst hKA
          obtain ⟨p, hp⟩ : ∃ p, t.ks[i] = p := ⟨_, rfl⟩
          rw [hp] at p0 p1
          have hi0 : (0 : Int) ≤ (i : Int) := by omega
          have hi1 : (i : Int) < (kn : Int) := by omega
          have hw4 : IntKind.i64.wrap ((i : Int) + 1) = ((i + 1 : Nat) : Int) := by rw [IntWalk.i64_in _ (by omega)]; omega
          have HPA : Hid (Below w.heap.size w (wr.alloc (.cells #[str p.1, str p.2] 84))) := hbx.alloc hbx.size _
          have HPB := Lib.hid (hby.alloc hby.size (.cells #[str p.1, str p.2] 84))
          by_cases hid : p.1 = [105, 100]
          · have hII : isId p = true := by unfold isId; rw [hid]; rfl
            have hany : t.ks.any isId = true := by rw [List.any_eq_true]; exact ⟨p, by rw [← hp]; exact List.getElem_mem hk', hII⟩
            have HF : Hid (fmtErr c = 4) := by
              show _ = _
              rw [fmtErr_at (j := j) (by omega) (by rw [HT.out]; unfold badT; rw [hany]; rfl) hno.out, HT.out, if_pos hany]
            have he : (p.1 == [105, 100]) = true := by rw [beq_iff_eq]; exact hid
            clear hid hp hbx hby
            go_wp2
            go_ret2
            exact writ_ret (write_err HF.out (by decide)) HPA.out
          · have hII : isId p = false := by unfold isId; rw [beq_eq_false_iff_ne]; exact hid
            have he : (p.1 == [105, 100]) = false := by rw [beq_eq_false_iff_ne]; exact hid
            have HNK : Hid (∀ q ∈ t.ks.take (i + 1), isId q = false) := fun q hq => by
              rw [List.take_succ_eq_append_getElem hk', hp] at hq
              rcases List.mem_append.1 hq with hq | hq
              · exact hnk.out q hq
              · simp at hq; subst hq; exact hII
            clear hid hp hbx hby
            go_wp2
            go_roundw
            case rel => exact ⟨i + 1, by go_num, by omega, HPA.out, HPB.out, HNK⟩
            case measure => (simp [intOf] <;> omega)
        · obtain rfl : i = kn := by omega
          have hany : t.ks.any isId = false := by
            rw [List.any_eq_false]
            intro q hq
            have := hnk.out q (by rw [List.take_of_length_le (by omega)]; exact hq)
            simp [this]
          have q3 : wr.cell? ⟨wo.heap.size, 3, none⟩ = some (Value.slice KA i kc) := (HTT.out.below hby).cell 3
          have HBX := Lib.hid hbx
          have HBLX := Lib.hid (HBL.out.below hby)
          clear hbx hby
          by_cases h8 : 8 ≤ i
          · have HF : Hid (fmtErr c = 2) := by
              show _ = _
              rw [fmtErr_at (j := j) (by omega) (by rw [HT.out]; unfold badT; rw [hany, decide_eq_true (by omega : 8 ≤ t.ks.length)]; rfl) hno.out, HT.out, if_neg (by rw [hany]; simp)]
            go_wp2
            go_ret2
            exact writ_ret (write_err HF.out (by decide)) HBX.out
          · have HNO : Hid (∀ q (hq : q < c.texts.length), q < j + 1 → badT c.texts[q] = false) := fun q hq hqj => by
              by_cases e : q = j
              · subst e
                rw [HT.out]; unfold badT; rw [hany, decide_eq_false (by omega : ¬ 8 ≤ t.ks.length)]; rfl
              · exact hno.out q hq (by omega)
            go_wp2
            go_roundw
            case rel => exact ⟨j + 1, by go_num, by omega, HBX.out, HBLX.out, HNO⟩
            case measure => (simp [intOf] <;> omega)
    · obtain rfl : j = xn := by omega
      have HNO : Hid (∀ q (hq : q < c.texts.length), badT c.texts[q] = false) := fun q hq => hno.out q hq (by omega)
      have c3 : wo.cell? ⟨w.heap.size, 3, none⟩ = some (Value.slice RA rn rc) := hblk.cell 3
      have HB := Lib.hid hb
      have HBL := Lib.hid hblk
      clear hb hblk hno
      go_wp2_with fail
      clear c3
      go_loopw [44] (fun iv wr => ∃ i : Nat, iv = .int .i64 i ∧ i ≤ rn ∧ Below w.heap.size w wr ∧ Blk wr w.heap.size 30 #[Ha.v, .slice TA tn tc, .slice XA j xc, .slice RA rn rc, Hn.v, Hh.v, Hl.v] ∧ Hid (∀ q ∈ c.regs.take i, (q.nm == Vert.text) = false)) (fun iv _ => rn - (intOf iv).toNat)
      case atStart => exact ⟨0, rfl, Nat.zero_le _, HB.out, HBL.out, fun q hq => by simp at hq⟩
      case round =>
        obtain ⟨i, rfl, hi, hbx, hblk, hnk⟩ := hrel
        by_cases hik : i < rn
        · obtain ⟨gk, ok, ⟨KA, kn, kc⟩, hk', hRA, hgk, -, p0, p1, p2, p3⟩ := (HR.out.r.under hbx).at_ (k := i) hik
          dsimp only at hRA p3
          subst hRA
          obtain ⟨p, hp⟩ : ∃ p, c.regs[i] = p := ⟨_, rfl⟩
          rw [hp] at p0 p1 p2
          have hi0 : (0 : Int) ≤ (i : Int) := by omega
          have hi1 : (i : Int) < (rn : Int) := by omega
          have hw4 : IntKind.i64.wrap ((i : Int) + 1) = ((i + 1 : Nat) : Int) := by rw [IntWalk.i64_in _ (by omega)]; omega
          have HPA : Hid (Below w.heap.size w (wr.alloc (.cells #[str p.nm, .int .i64 p.b, .int .i64 p.e, .slice KA kn kc] 69))) := hbx.alloc hbx.size _
          have HPB := Lib.hid (hblk.alloc (.cells #[str p.nm, .int .i64 p.b, .int .i64 p.e, .slice KA kn kc] 69))
          by_cases hid : p.nm = [116, 101, 120, 116]
          · have HF : Hid (fmtErr c = 4) := by
              show _ = _
              rw [fmtErr_none HNO.out, if_pos]
              rw [List.any_eq_true]
              exact ⟨p, by rw [← hp]; exact List.getElem_mem hk', by rw [beq_iff_eq]; exact hid⟩
            have he : (p.nm == [116, 101, 120, 116]) = true := by rw [beq_iff_eq]; exact hid
            clear hid hp hbx hblk
            go_wp2
            go_ret2
            exact writ_ret (write_err HF.out (by decide)) HPA.out
          · have he : (p.nm == [116, 101, 120, 116]) = false := by rw [beq_eq_false_iff_ne]; exact hid
            have HNK : Hid (∀ q ∈ c.regs.take (i + 1), (q.nm == Vert.text) = false) := fun q hq => by
              rw [List.take_succ_eq_append_getElem hk', hp] at hq
              rcases List.mem_append.1 hq with hq | hq
              · exact hnk.out q hq
              · simp only [List.mem_singleton] at hq; subst hq; exact he
            clear hid hp hbx hblk
            go_wp2
            go_roundw
            case rel => exact ⟨i + 1, by go_num, by omega, HPA.out, HPB.out, HNK⟩
            case measure => (simp [intOf] <;> omega)
        · obtain rfl : i = rn := by omega
          have HF : Hid (fmtErr c = 0) := by
            show _ = _
            rw [fmtErr_none HNO.out, if_neg]
            rw [Bool.not_eq_true, List.any_eq_false]
            intro q hq
            have := hnk.out q (by rw [List.take_of_length_le (by omega)]; exact hq)
            simp [this]
          have HBX := Lib.hid hbx
          have HCX := Lib.hid hblk
          have HFI := Lib.hid (fine_of HV.out HF.out)
          clear hbx hblk HB HBL HNO hnk HB1 HX1
          obtain ⟨w1, rfl⟩ : ∃ w1 : World, w1 = wr := ⟨_, rfl⟩
          have c2 : _ = some (Value.slice XA j xc) := HCX.out.cell 2
          obtain ⟨xm, rfl⟩ : ∃ xm, xm = j := ⟨_, rfl⟩
          obtain ⟨rm, rfl⟩ : ∃ rm, rm = i := ⟨_, rfl⟩
          go_wp2_with fail
          clear c2
          go_loopw [55, 10] (fun iv sv wr => ∃ j : Nat, iv = .int .i64 j ∧ j ≤ xm ∧ sv = str ((c.texts.take j).flatMap (textText c)) ∧ Below w.heap.size w wr ∧ Blk wr w.heap.size 30 #[Ha.v, .slice TA tn tc, .slice XA xm xc, .slice RA rm rc, Hn.v, Hh.v, Hl.v]) (fun iv _ _ => xm - (intOf iv).toNat)
          case atStart => exact ⟨0, rfl, Nat.zero_le _, rfl, HBX.out, HCX.out⟩
          case round =>
            clear HBX HCX
            obtain ⟨j, rfl, hj, rfl, hb, hblk⟩ := hrel
            obtain ⟨wo, rfl⟩ : ∃ wo : World, wo = wr := ⟨_, rfl⟩
            by_cases hjn : j < xm
            · obtain ⟨gx, ox, ⟨KA, kn, kc⟩, hk, hA, hg, hok, p0, p1, p2, p3⟩ := (HR.out.x.under hb).at_ (k := j) hjn
              dsimp only at hA p3
              subst hA
              obtain ⟨t, ht⟩ : ∃ t, c.texts[j] = t := ⟨_, rfl⟩
              have htv := HV.out.tx c.texts[j] (List.getElem_mem hk)
              have hbs := body_split (c := c) hk
              have hbl := body_len HV.out
              have htm : t ∈ c.texts := by rw [← ht]; exact List.getElem_mem hk
              have hst : (c.texts.take (j + 1)).flatMap (textText c) = (c.texts.take j).flatMap (textText c) ++ textText c t := by
                rw [List.take_succ_eq_append_getElem hk, List.flatMap_append, ht]; simp
              rw [ht] at p0 p1 p2 htv hok hbs
              obtain ⟨hx1, hx2, hx3, hx4⟩ := htv
              obtain ⟨b, hbq⟩ : ∃ b : Nat, t.b = b := ⟨t.b.toNat, by omega⟩
              obtain ⟨e, heq⟩ : ∃ e : Nat, t.e = e := ⟨t.e.toNat, by omega⟩
              rw [hbq] at p1
              rw [heq] at p2
              have HKS : Hid (Keys wo w.heap.size ⟨KA, kn, kc⟩ t.ks) := hok.2.2.2
              have HNM : Hid (Len t.nm) := hok.1
              have hkn : kn ≤ 8 := by have := HKS.out.len; dsimp only at this; omega
              have hbe : b < e := by omega
              have het : e ≤ tn := by omega
              have HTT : Hid (textText c t = tagText Vert.text (([105, 100], t.nm) :: t.ks) ++ spanText c b (e - b) ++ closes c.regs e ++ endTag) := by
                show _ = _
                unfold textText
                rw [hbq, heq, show ((b : Int)).toNat = b by omega, show ((e : Int)).toNat = e by omega, show ((e : Int) - (b : Int)).toNat = e - b by omega]
              have HCL : Hid (∀ p : Nat, b < p → closeR c.regs b p = closes c.regs p) := fun p hp => closeR_closes HFI.out htm hbq hp
              obtain ⟨L0, hL0⟩ : ∃ L0, (c.texts.take j).flatMap (textText c) = L0 := ⟨_, rfl⟩
              rw [hL0] at hst hbs ⊢
              have hl0 : L0.length ≤ 1099511627776 := by omega
              have HST := Lib.hid hst
              have hj0 : (0 : Int) ≤ (j : Int) := by omega
              have hj1 : (j : Int) < (xm : Int) := by omega
              have hw3 : IntKind.i64.wrap ((j : Int) + 1) = ((j + 1 : Nat) : Int) := by rw [IntWalk.i64_in _ (by omega)]; omega
              have HB2 := Lib.hid (hb.alloc hb.size (.cells #[str t.nm, .int .i64 (b : Nat), .int .i64 (e : Nat), .slice KA kn kc] 66))
              have HC2 := Lib.hid (hblk.alloc (.cells #[str t.nm, .int .i64 (b : Nat), .int .i64 (e : Nat), .slice KA kn kc] 66))
              have HT2 := Lib.hid (Blk.new wo 66 #[str t.nm, .int .i64 (b : Nat), .int .i64 (e : Nat), .slice KA kn kc])
              have hb25 : Below wo.heap.size wo ((wo.alloc (.cells #[str t.nm, .int .i64 (b : Nat), .int .i64 (e : Nat), .slice KA kn kc] 66)).alloc (.cells #[str [105, 100], str t.nm] 84)) := ((Below.refl _ _).alloc (Nat.le_refl _) _).alloc (by simp) _
              have hbw2 : w.heap.size ≤ wo.heap.size := hb.size
              have HK5 : Hid (Keys ((wo.alloc (.cells #[str t.nm, .int .i64 (b : Nat), .int .i64 (e : Nat), .slice KA kn kc] 66)).alloc (.cells #[str [105, 100], str t.nm] 84)) w.heap.size ⟨KA, kn, kc⟩ t.ks) := HKS.out.under (hb25.mono hbw2)
              have own1_ := Blk.new (wo.alloc (.cells #[str t.nm, .int .i64 (b : Nat), .int .i64 (e : Nat), .slice KA kn kc] 66)) 84 #[str [105, 100], str t.nm]
              rw [World.size_alloc] at own1_
              have own1 := own_one2F (E := 84) own1_ (Nat.le_refl _)
              have OWN1 := Lib.hid own1
              have HSR : Hid (Src ((wo.alloc (.cells #[str t.nm, .int .i64 (b : Nat), .int .i64 (e : Nat), .slice KA kn kc] 66)).alloc (.cells #[str [105, 100], str t.nm] 84)) KA (t.ks.flatMap prV)) := HK5.out.srcF
              have HKL : Hid ((t.ks.flatMap prV).length = kn * 2) := by show _ = _; rw [flat_len prV_len]; have := HKS.out.len; dsimp only at this; omega
              have HK1 : Hid (∀ u ∈ t.ks.flatMap prV, u.oneCell' = true) := prV_oneF _
              obtain ⟨ip, hip, hp0, hp1, hp2⟩ := info_parts info_pairF
              clear own1_ own1 hb25
              clear ht hx1 hx2 hx3 hx4 hbq heq hok hL0 hst htm hbs hbl hb hblk
              go_wp2_with (at_builtin; refine wpList_app _ rfl (.tmp 63) (.tmp 65) _ rfl (wo.heap.size + 1) 84 ip _ 2 32 Tryz.underlying64 hip hp0 hp1 hp2 rfl (by decide) (.slice (some ⟨wo.heap.size + 1, 0, none⟩) 1 1) 1 [str [105, 100], str t.nm] rfl OWN1.out KA kn kc (t.ks.flatMap prV) rfl HKL.out HSR.out HK1.out (by unfold maxLen; omega) (by omega) (by simp) ?_)
              intro v6 w6 own6 gr6 _
              obtain ⟨A6, c6, rfl, -, -⟩ := own_slc own6
              have hb46 : Below (wo.alloc (.cells #[str t.nm, .int .i64 (b : Nat), .int .i64 (e : Nat), .slice KA kn kc] 66)).heap.size (wo.alloc (.cells #[str t.nm, .int .i64 (b : Nat), .int .i64 (e : Nat), .slice KA kn kc] 66)) w6 := ((Below.refl _ _).alloc (Nat.le_refl _) (.cells #[str [105, 100], str t.nm] 84)).grown gr6 (by simp) (fun k hk => by have := (OWN1.out.lt k hk).1; simpa using this)
              have HK6 : Hid (Keys w6 w6.heap.size ⟨A6, 1 + kn, c6⟩ (([105, 100], t.nm) :: t.ks)) := ⟨own_fit own6, own_sl own6, fun p hp => by
                rcases List.mem_cons.1 hp with e2 | e2
                · subst e2; exact ⟨by show ([105, 100] : Bs).length ≤ _; simp, HNM.out⟩
                · exact HKS.out.2.2 p e2⟩
              have HOP := Lib.hid (rtag_any Vert.text A6 (1 + kn) c6 (([105, 100], t.nm) :: t.ks) w6 HK6.out (by show Vert.text.length ≤ _; decide))
              have HB6 := Lib.hid (HB2.out.trans (hb46.mono HB2.out.size))
              have HC6 := Lib.hid (HC2.out.below hb46)
              have HT6 := Lib.hid (HT2.out.below hb46)
              clear own6 gr6 hb46 HB2 HC2 HT2
              have htg := tag_len Vert.text (([105, 100], t.nm) :: t.ks)
              obtain ⟨TG, hTG⟩ : ∃ TG, tagText Vert.text (([105, 100], t.nm) :: t.ks) = TG := ⟨_, rfl⟩
              rw [hTG] at htg HOP HTT
              obtain ⟨L1, hL1⟩ : ∃ L1, L0 ++ TG = L1 := ⟨_, rfl⟩
              have ha1 : ∀ W, (Op.stringOp .add ⟨L0.toArray⟩ ⟨TG.toArray⟩).run Tryz.prog W = .ok (str L1) W := fun W => by rw [← hL1]; exact add_str W L0 TG (by omega)
              have hl1 : L1.length ≤ 1099511700000 := by rw [← hL1, List.length_append]; omega
              have HL1 := Lib.hid hL1
              clear hTG hL1 htg
              go_wp2_with fail
              refine HOP.out.mono ?_
              rintro en w7 ⟨rfl, hb7⟩
              have HB7 := Lib.hid (HB6.out.trans (hb7.mono HB6.out.size))
              have HC7 := Lib.hid (HC6.out.below hb7)
              have HT7 := Lib.hid (HT6.out.below hb7)
              have t1 : w7.cell? ⟨wo.heap.size, 1, none⟩ = some (.int .i64 (b : Nat)) := HT7.out.cell 1
              clear hb7 HB6 HC6 HT6 HK5 OWN1 HSR HKL HK1 HOP HK6
              go_wp2_with fail
              clear t1
              obtain ⟨gt, hgt⟩ : ∃ gt, wo.heap.size = gt := ⟨_, rfl⟩
              rw [hgt] at HT7 hbw2 ⊢
              clear hgt
              go_loopw [13, 10] (fun iv sv wr => ∃ q : Nat, iv = .int .i64 ((b + q : Nat) : Int) ∧ q ≤ e - b ∧ sv = str (L1 ++ spanText c b q) ∧ Below w.heap.size w wr ∧ Blk wr w.heap.size 30 #[Ha.v, .slice TA tn tc, .slice (some ⟨gx, ox, none⟩) xm xc, .slice RA rm rc, Hn.v, Hh.v, Hl.v] ∧ Blk wr gt 66 #[str t.nm, .int .i64 (b : Nat), .int .i64 (e : Nat), .slice KA kn kc]) (fun iv _ _ => e - (intOf iv).toNat)
              case atStart => exact ⟨0, rfl, Nat.zero_le _, by rw [show spanText c b 0 = [] from rfl, List.append_nil], HB7.out, HC7.out, HT7.out⟩
              case round =>
                clear HB7 HC7 HT7
                obtain ⟨q, rfl, hq, rfl, hb8, hc8, ht8⟩ := hrel
                obtain ⟨w8, rfl⟩ : ∃ w8 : World, w8 = wr := ⟨_, rfl⟩
                have hsl := span_len HV.out b q
                have hq4 : q * 10000000 ≤ 4096 * 10000000 := Nat.mul_le_mul_right _ (by omega)
                have HSQ : Hid (spanText c b (q + 1) = spanText c b q ++ posText c b (b + q)) := Vert.spanText_succ c b q
                obtain ⟨SP, hSP⟩ : ∃ SP, spanText c b q = SP := ⟨_, rfl⟩
                rw [hSP] at hsl HSQ ⊢
                have HSPE := Lib.hid hSP
                obtain ⟨M, hM⟩ : ∃ M, L1 ++ SP = M := ⟨_, rfl⟩
                have hml : M.length ≤ 1199511700000 := by rw [← hM, List.length_append]; omega
                rw [hM]
                have HM := Lib.hid hM
                clear hM hSP hsl
                have t2 : w8.cell? ⟨gt, 2, none⟩ = some (.int .i64 (e : Nat)) := ht8.cell 2
                by_cases hqe : q < e - b
                · obtain ⟨p, hp⟩ : ∃ p, b + q = p := ⟨_, rfl⟩
                  rw [hp]
                  rw [hp] at HSQ
                  have hpe : p < e := by omega
                  have hp1 : (p : Int) < (e : Int) := by omega
                  have hp2 : (p : Int) < (tn : Int) := by omega
                  have hp3 : (0 : Int) ≤ (p : Int) := by omega
                  have hw4 : IntKind.i64.wrap ((p : Int) + 1) = ((p + 1 : Nat) : Int) := by rw [IntWalk.i64_in _ (by omega)]; omega
                  have HPQ : Hid (b + q = p) := hp
                  have HCC := Lib.hid (rclosing_any ⟨Ha, ⟨TA, tn, tc⟩, ⟨some ⟨gx, ox, none⟩, xm, xc⟩, ⟨RA, rm, rc⟩, Hn, Hh, Hl⟩ c.regs t.nm b e p KA kn kc w8 ((HR.out.r.under hb8).up hb8.size) hrk (fun r hr => (okName_le32 (HFI.out.one r hr).1)))
                  have hcl := closeR_len (regs := c.regs) hrk (fun r hr => (okName_le32 (HFI.out.one r hr).1)) b p 0
                  rw [List.drop_zero] at hcl
                  have HPT : Hid (posText c b p = closeR c.regs b p ++ opens c.regs p ++ tokText ((c.toks[p]?).getD [])) := by
                    show _ = _
                    unfold posText
                    by_cases e0 : p = b
                    · rw [if_pos e0, e0, closeR_zero]
                    · rw [if_neg e0, HCL.out p (by have := HPQ.out; omega)]
                  obtain ⟨CL, hCL⟩ : ∃ CL, closeR c.regs b p = CL := ⟨_, rfl⟩
                  rw [hCL] at hcl HCC HPT
                  obtain ⟨M1, hM1⟩ : ∃ M1, M ++ CL = M1 := ⟨_, rfl⟩
                  have hm1 : M1.length ≤ 1199511800000 := by rw [← hM1, List.length_append]; omega
                  have ha2 : ∀ W, (Op.stringOp .add ⟨M.toArray⟩ ⟨CL.toArray⟩).run Tryz.prog W = .ok (str M1) W := fun W => by rw [← hM1]; exact add_str W M CL (by omega)
                  have HM1 := Lib.hid hM1
                  clear hCL hM1 hcl hp
                  have d0 := hc8.cell 0
                  have d1 := hc8.cell 1
                  have d2 := hc8.cell 2
                  have d3 := hc8.cell 3
                  have d4 := hc8.cell 4
                  have d5 := hc8.cell 5
                  have d6 := hc8.cell 6
                  have e0 := ht8.cell 0
                  have e1 := ht8.cell 1
                  have e2 := ht8.cell 2
                  have e3 := ht8.cell 3
                  have HB8 := Lib.hid hb8
                  have HC8 := Lib.hid hc8
                  have HT8 := Lib.hid ht8
                  clear hb8 hc8 ht8 t2
                  go_wp2_with fail
                  refine HCC.out.mono ?_
                  rintro en w9 ⟨rfl, hb9⟩
                  clear d0 d1 d2 d3 d4 d5 d6 e0 e1 e2 e3
                  have HB9 := Lib.hid (HB8.out.trans (hb9.mono HB8.out.size))
                  have HC9 := Lib.hid (HC8.out.below hb9)
                  have HT9 := Lib.hid (HT8.out.below hb9)
                  have c3 : w9.cell? ⟨w.heap.size, 3, none⟩ = some (Value.slice RA rm rc) := HC9.out.cell 3
                  clear hb9 HB8 HC8 HT8 HCC
                  go_wp2_with fail
                  clear c3
                  go_loopw [87, 10] (fun iv sv wr => ∃ r : Nat, iv = .int .i64 r ∧ r ≤ rm ∧ sv = str (M1 ++ opensT c.regs p r) ∧ Below w.heap.size w wr ∧ Blk wr w.heap.size 30 #[Ha.v, .slice TA tn tc, .slice (some ⟨gx, ox, none⟩) xm xc, .slice RA rm rc, Hn.v, Hh.v, Hl.v] ∧ Blk wr gt 66 #[str t.nm, .int .i64 (b : Nat), .int .i64 (e : Nat), .slice KA kn kc]) (fun iv _ _ => rm - (intOf iv).toNat)
                  case atStart => exact ⟨0, rfl, Nat.zero_le _, by rw [show opensT c.regs p 0 = [] from rfl, List.append_nil], HB9.out, HC9.out, HT9.out⟩
                  case round =>
                    clear HB9 HC9 HT9
                    obtain ⟨r, rfl, hrr, rfl, hb10, hc10, ht10⟩ := hrel
                    obtain ⟨w10, rfl⟩ : ∃ w10 : World, w10 = wr := ⟨_, rfl⟩
                    have hol := opensT_len hrk p r
                    by_cases hrn : r < rm
                    · have hr2 : r < c.regs.length := by omega
                      have HOS := Lib.hid (opensT_step (p := p) hr2)
                      obtain ⟨O, hO⟩ : ∃ O, opensT c.regs p r = O := ⟨_, rfl⟩
                      rw [hO] at hol HOS ⊢
                      obtain ⟨N, hN⟩ : ∃ N, M1 ++ O = N := ⟨_, rfl⟩
                      have hnl : N.length ≤ 1199521800000 := by rw [← hN, List.length_append]; omega
                      rw [hN]
                      have HN := Lib.hid hN
                      obtain ⟨gr, orr, ⟨QA, qn, qc⟩, hk3, hRA, hgr, hxo, r0, r1, r2, r3⟩ := (HR.out.r.under hb10).at_ (k := r) (by show r < rm; omega)
                      dsimp only at hRA r3
                      subst hRA
                      obtain ⟨x, hx⟩ : ∃ x, c.regs[r] = x := ⟨_, rfl⟩
                      rw [hx] at r0 r1 r2 HOS hxo
                      have hr0 : (0 : Int) ≤ (r : Int) := by omega
                      have hr1 : (r : Int) < (rm : Int) := by omega
                      have hw5 : IntKind.i64.wrap ((r : Int) + 1) = ((r + 1 : Nat) : Int) := by rw [IntWalk.i64_in _ (by omega)]; omega
                      have hba := hb10.alloc hb10.size (.cells #[str x.nm, .int .i64 x.b, .int .i64 x.e, .slice QA qn qc] 69)
                      have HBA := Lib.hid hba
                      have HCA := Lib.hid (hc10.alloc (.cells #[str x.nm, .int .i64 x.b, .int .i64 x.e, .slice QA qn qc] 69))
                      have HTA := Lib.hid (ht10.alloc (.cells #[str x.nm, .int .i64 x.b, .int .i64 x.e, .slice QA qn qc] 69))
                      have HRT := Lib.hid (rtag_any x.nm QA qn qc x.ks (w10.alloc (.cells #[str x.nm, .int .i64 x.b, .int .i64 x.e, .slice QA qn qc] 69)) ((hxo.2.2.2.under ((Below.refl _ _).alloc hb10.size _)).up hba.size) hxo.1)
                      have htg := tag_len x.nm x.ks
                      obtain ⟨TG2, hTG2⟩ : ∃ TG, tagText x.nm x.ks = TG := ⟨_, rfl⟩
                      rw [hTG2] at htg HRT HOS
                      obtain ⟨N2, hN2⟩ : ∃ N2, N ++ TG2 = N2 := ⟨_, rfl⟩
                      have ha3 : ∀ W, (Op.stringOp .add ⟨N.toArray⟩ ⟨TG2.toArray⟩).run Tryz.prog W = .ok (str N2) W := fun W => by rw [← hN2]; exact add_str W N TG2 (by omega)
                      have HN2 := Lib.hid hN2
                      clear hO hN hx hN2 hTG2 htg hxo hba hb10 hc10 ht10 hol
                      by_cases hxb : x.b = (p : Int)
                      · have HE : Hid (M1 ++ opensT c.regs p (r + 1) = N2) := by show _ = _; rw [HOS.out, if_pos hxb, ← List.append_assoc, HN.out, HN2.out]
                        have f1 : (x.b == (p : Int)) = true := by rw [beq_iff_eq]; exact hxb
                        clear hxb
                        go_wp2_with fail
                        refine HRT.out.mono ?_
                        rintro en w11 ⟨rfl, hb11⟩
                        have HB11 := Lib.hid (HBA.out.trans (hb11.mono HBA.out.size))
                        have HC11 := Lib.hid (HCA.out.below hb11)
                        have HT11 := Lib.hid (HTA.out.below hb11)
                        clear hb11
                        go_wp2
                        go_roundw
                        case rel => exact ⟨r + 1, by go_num, by omega, by rw [HE.out], HB11.out, HC11.out, HT11.out⟩
                        case measure => (simp [intOf] <;> omega)
                      · have HE : Hid (M1 ++ opensT c.regs p (r + 1) = N) := by show _ = _; rw [HOS.out, if_neg hxb, List.append_nil, HN.out]
                        have f1 : (x.b == (p : Int)) = false := by rw [beq_eq_false_iff_ne]; exact hxb
                        clear hxb
                        go_wp2
                        go_roundw
                        case rel => exact ⟨r + 1, by go_num, by omega, by rw [HE.out], HBA.out, HCA.out, HTA.out⟩
                        case measure => (simp [intOf] <;> omega)
                    · obtain rfl : r = rm := by omega
                      have hoe : opensT c.regs p r = opens c.regs p := by unfold opensT; rw [List.take_of_length_le (by omega)]
                      rw [hoe] at hol ⊢
                      obtain ⟨O, hO⟩ : ∃ O, opens c.regs p = O := ⟨_, rfl⟩
                      rw [hO] at hol HPT ⊢
                      obtain ⟨N, hN⟩ : ∃ N, M1 ++ O = N := ⟨_, rfl⟩
                      have hnl : N.length ≤ 1199521800000 := by rw [← hN, List.length_append]; omega
                      rw [hN]
                      have HN := Lib.hid hN
                      obtain ⟨gk, ok, ⟨VA, vn, vc⟩, hk4, hTA, hgk, hwd, v0⟩ := (HR.out.t.under hb10).at_ (k := p) (by show p < tn; omega)
                      dsimp only at hTA v0
                      subst hTA
                      have htl8 : c.toks[p].length ≤ 8 := by have := HV.out.tkl.2 _ (List.getElem_mem hk4); have := HV.out.atl; omega
                      have htv8 := vd_val HV.out _ (List.getElem_mem hk4)
                      have htg : (c.toks[p]?).getD [] = c.toks[p] := by rw [List.getElem?_eq_getElem hk4]; rfl
                      rw [htg] at HPT
                      obtain ⟨vs, hvs⟩ : ∃ vs, c.toks[p] = vs := ⟨_, rfl⟩
                      rw [hvs] at hwd htl8 htv8 HPT
                      have hvn : vs.length = vn := hwd.len
                      have hv8 : vn ≤ 8 := by omega
                      have HJL := Lib.hid (joinK_len htl8 htv8)
                      have HVL := Lib.hid htv8
                      have HB10 := Lib.hid hb10
                      have HC10 := Lib.hid hc10
                      have HT10 := Lib.hid ht10
                      have HWD : Hid (Words w10 w.heap.size ⟨VA, vn, vc⟩ vs) := hwd
                      have k1 : w10.cell? ⟨w.heap.size, 1, none⟩ = some (Value.slice (some ⟨gk, ok, none⟩) tn tc) := hc10.cell 1
                      clear hoe hO hN hvs hwd htg hb10 hc10 ht10 hol htl8 htv8
                      go_wp2_with fail
                      clear k1 v0
                      go_loopw [110, 10] (fun iv sv wr => ∃ k : Nat, iv = .int .i64 k ∧ k ≤ vn ∧ sv = str (N ++ joinK vs k) ∧ wr = w10) (fun iv _ _ => vn - (intOf iv).toNat)
                      case atStart => exact ⟨0, rfl, Nat.zero_le _, by rw [show joinK vs 0 = [] from rfl, List.append_nil], rfl⟩
                      case round =>
                        obtain ⟨k, rfl, hkv, rfl, rfl⟩ := hrel
                        have hjl := HJL.out k
                        by_cases hkn2 : k < vn
                        · have hk5 : k < vs.length := by omega
                          have HJS := Lib.hid (joinK_step hk5)
                          obtain ⟨gv, ov, hk6, hVA, hgv, -, u0⟩ := HWD.out.at_ (k := k) (by show k < vn; omega)
                          dsimp only at hVA
                          subst hVA
                          have hvl := HVL.out _ (List.getElem_mem hk5)
                          obtain ⟨y, hy⟩ : ∃ y, vs[k] = y := ⟨_, rfl⟩
                          rw [hy] at u0 HJS hvl
                          obtain ⟨J, hJ⟩ : ∃ J, joinK vs k = J := ⟨_, rfl⟩
                          rw [hJ] at hjl HJS ⊢
                          obtain ⟨N1, hN1⟩ : ∃ N1, N ++ J = N1 := ⟨_, rfl⟩
                          rw [hN1]
                          have hn1 : N1.length ≤ 1199521900000 := by rw [← hN1, List.length_append]; omega
                          have HN1 := Lib.hid hN1
                          have hk0 : (0 : Int) ≤ (k : Int) := by omega
                          have hk1 : (k : Int) < (vn : Int) := by omega
                          have hw6 : IntKind.i64.wrap ((k : Int) + 1) = ((k + 1 : Nat) : Int) := by rw [IntWalk.i64_in _ (by omega)]; omega
                          have HES := Lib.hid (refEscape_any y (by omega) wr)
                          have hel := esc_l6 y
                          obtain ⟨E, hE⟩ : ∃ E, esc y = E := ⟨_, rfl⟩
                          rw [hE] at HES hel HJS
                          obtain ⟨N3, hN3⟩ : ∃ N3, N1 ++ [9] = N3 := ⟨_, rfl⟩
                          have hn3 : N3.length ≤ 1199522000000 := by rw [← hN3, List.length_append]; simp; omega
                          have ha4 : ∀ W, (Op.stringOp .add ⟨N1.toArray⟩ ⟨#[9]⟩).run Tryz.prog W = .ok (str N3) W := fun W => by rw [← hN3]; exact add_str W N1 [9] (by simp; omega)
                          have HN3 := Lib.hid hN3
                          clear hJ hN1 hE hN3 hy hjl
                          by_cases h0 : k = 0
                          · obtain ⟨N4, hN4⟩ : ∃ N4, N1 ++ E = N4 := ⟨_, rfl⟩
                            have ha5 : ∀ W, (Op.stringOp .add ⟨N1.toArray⟩ ⟨E.toArray⟩).run Tryz.prog W = .ok (str N4) W := fun W => by rw [← hN4]; exact add_str W N1 E (by omega)
                            have HE : Hid (N ++ joinK vs (k + 1) = N4) := by show _ = _; rw [HJS.out, if_pos h0, List.nil_append, ← List.append_assoc, HN1.out, hN4]
                            have g1 : decide ((0 : Int) < (k : Int)) = false := by rw [decide_eq_false_iff_not]; omega
                            have g2 : decide (0 < k) = false := by rw [decide_eq_false_iff_not]; omega
                            clear hN4 h0
                            go_wp2_with fail
                            refine HES.out.mono ?_
                            rintro en w11 ⟨rfl, rfl⟩
                            go_wp2
                            go_roundw
                            case rel => exact ⟨k + 1, by go_num, by omega, by rw [HE.out], (by first | rfl | trivial)⟩
                            case measure => (simp [intOf] <;> omega)
                          · obtain ⟨N4, hN4⟩ : ∃ N4, N3 ++ E = N4 := ⟨_, rfl⟩
                            have ha5 : ∀ W, (Op.stringOp .add ⟨N3.toArray⟩ ⟨E.toArray⟩).run Tryz.prog W = .ok (str N4) W := fun W => by rw [← hN4]; exact add_str W N3 E (by omega)
                            have HE : Hid (N ++ joinK vs (k + 1) = N4) := by show _ = _; rw [HJS.out, if_neg h0, ← List.append_assoc, HN1.out, ← List.append_assoc, HN3.out, hN4]
                            have hkp : (0 : Int) < (k : Int) := by omega
                            have hkp2 : 0 < k := by omega
                            clear hN4 h0
                            go_wp2_with fail
                            refine HES.out.mono ?_
                            rintro en w11 ⟨rfl, rfl⟩
                            go_wp2
                            go_roundw
                            case rel => exact ⟨k + 1, by go_num, by omega, by rw [HE.out], (by first | rfl | trivial)⟩
                            case measure => (simp [intOf] <;> omega)
                        · obtain rfl : k = vn := by omega
                          have hje : joinK vs k = [9].intercalate (vs.map esc) := by unfold joinK; rw [List.take_of_length_le (by omega)]
                          have HTK : Hid (tokText vs = joinK vs k ++ [10]) := by show _ = _; unfold tokText; rw [hje]
                          obtain ⟨J, hJ⟩ : ∃ J, joinK vs k = J := ⟨_, rfl⟩
                          rw [hJ] at hjl HTK ⊢
                          obtain ⟨N1, hN1⟩ : ∃ N1, N ++ J = N1 := ⟨_, rfl⟩
                          rw [hN1]
                          have hn1 : N1.length ≤ 1199521900000 := by rw [← hN1, List.length_append]; omega
                          obtain ⟨N2, hN2⟩ : ∃ N2, N1 ++ [10] = N2 := ⟨_, rfl⟩
                          have ha4 : ∀ W, (Op.stringOp .add ⟨N1.toArray⟩ ⟨#[10]⟩).run Tryz.prog W = .ok (str N2) W := fun W => by rw [← hN2]; exact add_str W N1 [10] (by simp; omega)
                          have HE : Hid (L1 ++ spanText c b (q + 1) = N2) := by
                            show _ = _
                            rw [HSQ.out, HPT.out, HTK.out, ← hN2, ← hN1, ← HN.out, ← HM1.out, ← HM.out]
                            simp
                          have HQ : Hid (p + 1 = b + (q + 1)) := by have := HPQ.out; show _ = _; omega
                          clear hje hJ hN1 hN2 hjl
                          go_wp2
                          go_roundw
                          case rel => exact ⟨q + 1, by rw [← HQ.out]; go_num, by omega, by rw [HE.out], HB10.out, HC10.out, HT10.out⟩
                          case measure => (simp [intOf] <;> omega)
                · obtain rfl : q = e - b := by omega
                  have hbq : b + (e - b) = e := by omega
                  rw [hbq]
                  have HCC := Lib.hid (rclosing_any ⟨Ha, ⟨TA, tn, tc⟩, ⟨some ⟨gx, ox, none⟩, xm, xc⟩, ⟨RA, rm, rc⟩, Hn, Hh, Hl⟩ c.regs t.nm b e e KA kn kc w8 ((HR.out.r.under hb8).up hb8.size) hrk (fun r hr => (okName_le32 (HFI.out.one r hr).1)))
                  have hcl := closeR_len (regs := c.regs) hrk (fun r hr => (okName_le32 (HFI.out.one r hr).1)) b e 0
                  rw [List.drop_zero] at hcl
                  have hce : closeR c.regs b e = closes c.regs e := HCL.out e hbe
                  rw [hce] at hcl HCC
                  obtain ⟨CL, hCL⟩ : ∃ CL, closes c.regs e = CL := ⟨_, rfl⟩
                  rw [hCL] at hcl HCC HTT
                  obtain ⟨M1, hM1⟩ : ∃ M1, CL ++ endTag = M1 := ⟨_, rfl⟩
                  have hm1 : M1.length ≤ 50000 := by rw [← hM1, List.length_append]; have : endTag.length = 8 := rfl; omega
                  have ha2 : ∀ W, (Op.stringOp .add ⟨CL.toArray⟩ ⟨#[60, 47, 116, 101, 120, 116, 62, 10]⟩).run Tryz.prog W = .ok (str M1) W := fun W => by rw [← hM1]; exact add_str W CL endTag (by have : endTag.length = 8 := rfl; omega)
                  obtain ⟨M2, hM2⟩ : ∃ M2, M ++ M1 = M2 := ⟨_, rfl⟩
                  have ha3 : ∀ W, (Op.stringOp .add ⟨M.toArray⟩ ⟨M1.toArray⟩).run Tryz.prog W = .ok (str M2) W := fun W => by rw [← hM2]; exact add_str W M M1 (by omega)
                  have HE : Hid ((c.texts.take (j + 1)).flatMap (textText c) = M2) := by
                    show _ = _
                    rw [HST.out, HTT.out, ← hM2, ← HM.out, ← hM1, ← HL1.out, ← HSPE.out]
                    simp
                  clear hCL hM1 hM2 hcl hce hbq
                  have d0 := hc8.cell 0
                  have d1 := hc8.cell 1
                  have d2 := hc8.cell 2
                  have d3 := hc8.cell 3
                  have d4 := hc8.cell 4
                  have d5 := hc8.cell 5
                  have d6 := hc8.cell 6
                  have e0 := ht8.cell 0
                  have e1 := ht8.cell 1
                  have e3 := ht8.cell 3
                  have HB8 := Lib.hid hb8
                  have HC8 := Lib.hid hc8
                  clear hb8 hc8 ht8
                  go_wp2_with fail
                  refine HCC.out.mono ?_
                  rintro en w9 ⟨rfl, hb9⟩
                  have HB9 := Lib.hid (HB8.out.trans (hb9.mono HB8.out.size))
                  have HC9 := Lib.hid (HC8.out.below hb9)
                  clear hb9 d0 d1 d2 d3 d4 d5 d6 e0 e1 e3 t2
                  go_wp2
                  go_roundw
                  case rel => exact ⟨j + 1, by go_num, by omega, by rw [HE.out], HB9.out, HC9.out⟩
                  case measure => (simp [intOf] <;> omega)
            · obtain rfl : j = xm := by omega
              have hbe : (c.texts.take j).flatMap (textText c) = bodyV c := by unfold bodyV; rw [List.take_of_length_le (by omega)]
              have hbl := body_len HV.out
              have HF := HF.out
              rw [hbe]
              have HWR : writeV c = if 1048576 < (bodyV c).length then ([], 2) else (bodyV c, 0) := by unfold writeV; rw [if_neg (by omega)]
              obtain ⟨D, hD⟩ : ∃ D, bodyV c = D := ⟨_, rfl⟩
              rw [hD] at HWR hbl ⊢
              have HW := Lib.hid HWR
              have HB := Lib.hid hb
              clear HWR hbe hD hb hblk HF
              by_cases hd : 1048576 < D.length
              · go_wp2
                go_ret2
                exact writ_ret (by rw [HW.out, if_pos hd]) HB.out
              · go_wp2
                go_ret2
                exact writ_ret (by rw [HW.out, if_neg hd]) HB.out
end Go.Proofs.YtgkdaebiefhgdaaGreatDoor
