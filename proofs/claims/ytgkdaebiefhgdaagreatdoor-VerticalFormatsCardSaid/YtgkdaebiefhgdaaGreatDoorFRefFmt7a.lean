/-
  The contracts of the reference's tag and closing (chapter 7). Conditions: the arguments read as they do, the names are short.
-/
import Derived.Test.YtgkdaebiefhgdaaGreatDoorFMarkRefFmt
import Derived.Test.YtgkdaebiefhgdaaGreatDoorFVertRb
import Derived.Test.YtgkdaebiefhgdaaGreatDoorFWrAll
import Derived.Deep.CutRange
namespace Go.Proofs.YtgkdaebiefhgdaaGreatDoor
set_option linter.unusedSimpArgs false
set_option linter.unusedVariables false
open Go.RowKit
open Feat (Bs)
open Tagp (KV fmtT esc)
open Vert (closes closeText tagText tokText)
attribute [local go_sem] byte_mk ByteArray.extract_mk
set_option maxRecDepth 100000 in
set_option maxHeartbeats 4000000 in
theorem rtag_any (nm : Bs) (A : Option Addr) (n c : Nat) (ks : List KV) (w : World) (hk : Keys w w.heap.size ⟨A, n, c⟩ ks) (hnm : Len nm) :
    Calls Tryz.prog 39 #[.agg #[.bool false, str nm, .slice A n c]] w (Kept (str (tagText nm ks)) w) := by
  have hb1 := (Below.refl w.heap.size w).alloc (Nat.le_refl _) (.cells #[.bool false, str nm, .slice A n c] 89)
  have hx := Blk.new w 89 #[.bool false, str nm, .slice A n c]
  have t0 : _ = some (Value.bool false) := hx.cell 0
  have t1 : _ = some (str nm) := hx.cell 1
  have t2 : _ = some (Value.slice A n c) := hx.cell 2
  have HK : Keys (w.alloc (.cells #[.bool false, str nm, .slice A n c] 89)) (w.alloc (.cells #[.bool false, str nm, .slice A n c] 89)).heap.size ⟨A, n, c⟩ ks := (hk.under hb1).up hb1.size
  have HF := Lib.hid (refFormatTag_any false nm A n c ks _ HK.1.2 HK.1.1 hnm (fun j hj => HK.2.2 _ (List.getElem_mem hj)) HK.2.1)
  unfold Texted at HF
  have hl := tag_len nm ks
  obtain ⟨⟨S, e⟩, hS⟩ : ∃ p, fmtT false nm ks = p := ⟨_, rfl⟩
  rw [hS] at HF
  have ht : tagText nm ks = S ++ [10] := by unfold tagText; rw [hS]
  rw [ht, List.length_append] at hl
  obtain ⟨R, hR⟩ : ∃ R, S ++ [10] = R := ⟨_, rfl⟩
  have ha : ∀ W, (Op.stringOp .add ⟨S.toArray⟩ ⟨#[10]⟩).run Tryz.prog W = .ok (str R) W := fun W => by rw [← hR]; exact add_str W S [10] (by simp; omega)
  have HT : Hid (tagText nm ks = R) := ht.trans hR
  have HB := Lib.hid hb1
  clear hx HK hl hS ht hR hb1 hk
  dsimp only at HF
  go_enter Tryz.func39, Tryz.ntmps39
  go_wp2_with fail
  refine HF.out.mono ?_
  rintro en w2 ⟨rfl, hb2⟩
  clear t0 t1 t2
  go_wp2
  go_ret
  exact ⟨by rw [HT.out]; rfl, HB.out.trans (hb2.mono HB.out.size)⟩

/-- The closing tags at a place, of the regions that begin in a text. -/
def closeP (b p : Int) (r : Cor.Reg) : Bool := decide (r.e = p) && decide (b ≤ r.b) && decide (b < p)
def closeR (regs : List Cor.Reg) (b p : Int) : Bs := (regs.filter (closeP b p)).reverse.flatMap closeText
theorem closeR_step {regs : List Cor.Reg} {b p : Int} {k : Nat} (h : k < regs.length) : closeR (regs.drop k) b p = closeR (regs.drop (k + 1)) b p ++ (if closeP b p regs[k] = true then closeText regs[k] else []) := by
  unfold closeR
  rw [List.drop_eq_getElem_cons h, List.filter_cons]
  by_cases hc : closeP b p regs[k] = true
  · rw [if_pos hc, if_pos hc]; simp
  · rw [if_neg hc, if_neg hc]; simp
theorem closeR_len {regs : List Cor.Reg} (hl : regs.length ≤ 1024) (hn : ∀ r ∈ regs, r.nm.length ≤ 32) (b p : Int) (k : Nat) : (closeR (regs.drop k) b p).length ≤ 40960 := by
  unfold closeR
  have h1 := sum_le (f := closeText) (k := 40) (l := ((regs.drop k).filter (closeP b p)).reverse) fun r hr => by
    have hm := List.drop_subset _ _ (List.mem_filter.1 (List.mem_reverse.1 hr)).1
    have := hn r hm
    unfold closeText
    simp only [List.length_append, List.length_cons, List.length_nil]
    omega
  rw [List.length_reverse] at h1
  have h2 := List.length_filter_le (closeP b p) (regs.drop k)
  rw [List.length_drop] at h2
  have h3 : ((regs.drop k).filter (closeP b p)).length * 40 ≤ 1024 * 40 := Nat.mul_le_mul_right _ (by omega)
  omega

set_option maxRecDepth 100000 in
set_option maxHeartbeats 8000000 in
theorem rclosing_any (H : CH) (regs : List Cor.Reg) (tn : Bs) (tb te z : Int) (KA : Option Addr) (kn kc : Nat) (w : World) (hr : Txts w w.heap.size H.r regs) (hlen : regs.length ≤ 1024) (hnm : ∀ r ∈ regs, r.nm.length ≤ 32) :
    Calls Tryz.prog 40 #[H.v, .agg #[str tn, .int .i64 tb, .int .i64 te, .slice KA kn kc], .int .i64 z] w (Kept (str (closeR regs tb z)) w) := by
  obtain ⟨Ha, Ht, Hx, ⟨RA, rn, rc⟩, Hn, Hh, Hl⟩ := H
  show Calls Tryz.prog 40 #[.agg #[Ha.v, Ht.v, Hx.v, .slice RA rn rc, Hn.v, Hh.v, Hl.v], .agg #[str tn, .int .i64 tb, .int .i64 te, .slice KA kn kc], .int .i64 z] w _
  have hrl : regs.length = rn := hr.len
  have hw0 : IntKind.i64.wrap ((rn : Int) - 1) = (rn : Int) - 1 := IntWalk.i64_in _ (by omega)
  have hb1 := ((Below.refl w.heap.size w).alloc (Nat.le_refl _) (.cells #[Ha.v, Ht.v, Hx.v, .slice RA rn rc, Hn.v, Hh.v, Hl.v] 30)).alloc (by simp) (.cells #[str tn, .int .i64 tb, .int .i64 te, .slice KA kn kc] 66)
  have hC : Blk ((w.alloc (.cells #[Ha.v, Ht.v, Hx.v, .slice RA rn rc, Hn.v, Hh.v, Hl.v] 30)).alloc (.cells #[str tn, .int .i64 tb, .int .i64 te, .slice KA kn kc] 66)) w.heap.size 30 #[Ha.v, Ht.v, Hx.v, .slice RA rn rc, Hn.v, Hh.v, Hl.v] := (Blk.new w _ _).alloc _
  have hT := Blk.new (w.alloc (.cells #[Ha.v, Ht.v, Hx.v, .slice RA rn rc, Hn.v, Hh.v, Hl.v] 30)) 66 #[str tn, .int .i64 tb, .int .i64 te, .slice KA kn kc]
  rw [World.size_alloc] at hT
  have c3 : _ = some (Value.slice RA rn rc) := hC.cell 3
  have HB := Lib.hid hb1
  have HC := Lib.hid hC
  have HT := Lib.hid hT
  have HR := Lib.hid hr
  have HN := Lib.hid hnm
  clear hb1 hC hT hr hnm
  go_enter Tryz.func40, Tryz.ntmps40
  go_wp2
  clear c3
  go_loopw [8, 7] (fun iv sv wr => ∃ j : Nat, iv = .int .i64 ((j : Int) - 1) ∧ j ≤ rn ∧ sv = str (closeR (regs.drop j) tb z) ∧ Below w.heap.size w wr ∧ Blk wr w.heap.size 30 #[Ha.v, Ht.v, Hx.v, .slice RA rn rc, Hn.v, Hh.v, Hl.v] ∧ Blk wr (w.heap.size + 1) 66 #[str tn, .int .i64 tb, .int .i64 te, .slice KA kn kc]) (fun iv _ _ => (intOf iv + 1).toNat)
  case atStart => exact ⟨rn, rfl, Nat.le_refl _, by rw [List.drop_eq_nil_of_le (by omega)]; rfl, HB.out, HC.out, HT.out⟩
  case round =>
    obtain ⟨j, rfl, hj, rfl, hB, hC, hT⟩ := hrel
    rcases Nat.eq_zero_or_pos j with h0 | h0
    · subst h0
      have e0 : ((0 : Nat) : Int) - 1 = -1 := rfl
      rw [e0, List.drop_zero]
      have HB := Lib.hid hB
      clear hB hC hT
      go_wp2
      go_ret
      exact ⟨rfl, HB.out⟩
    · obtain ⟨j, rfl⟩ : ∃ q, j = q + 1 := ⟨j - 1, by omega⟩
      have e0 : ((j + 1 : Nat) : Int) - 1 = (j : Int) := by omega
      have hj2 : j < regs.length := by omega
      obtain ⟨gr, orr, ⟨QA, qn, qc⟩, hk2, hRA, hgr, -, r0, r1, r2, r3⟩ := (HR.out.under hB).at_ (k := j) (by show j < rn; omega)
      dsimp only at hRA r3
      subst hRA
      have HST := Lib.hid (closeR_step (b := tb) (p := z) hj2)
      have hxn := HN.out regs[j] (List.getElem_mem hj2)
      have hsl := closeR_len hlen HN.out tb z (j + 1)
      obtain ⟨x, hx⟩ : ∃ x, regs[j] = x := ⟨_, rfl⟩
      rw [hx] at r0 r1 r2 HST hxn
      obtain ⟨S, hS⟩ : ∃ S, closeR (regs.drop (j + 1)) tb z = S := ⟨_, rfl⟩
      rw [hS] at HST hsl ⊢
      rw [e0]
      have hj0 : (0 : Int) ≤ (j : Int) := by omega
      have hj1 : (j : Int) < (rn : Int) := by omega
      have hwj : IntKind.i64.wrap ((j : Int) - 1) = (j : Int) - 1 := IntWalk.i64_in _ (by omega)
      obtain ⟨P, hP⟩ : ∃ P, [60, 47] ++ x.nm = P := ⟨_, rfl⟩
      obtain ⟨R, hR⟩ : ∃ R, P ++ [62, 10] = R := ⟨_, rfl⟩
      obtain ⟨U, hU⟩ : ∃ U, S ++ R = U := ⟨_, rfl⟩
      have hPl : P.length = 2 + x.nm.length := by rw [← hP]; simp; omega
      have hRl : R.length = 2 + x.nm.length + 2 := by rw [← hR]; simp; omega
      have ha1 : ∀ W, (Op.stringOp .add ⟨#[60, 47]⟩ ⟨x.nm.toArray⟩).run Tryz.prog W = .ok (str P) W := fun W => by rw [← hP]; exact add_str W [60, 47] x.nm (by simp; omega)
      have ha2 : ∀ W, (Op.stringOp .add ⟨P.toArray⟩ ⟨#[62, 10]⟩).run Tryz.prog W = .ok (str R) W := fun W => by rw [← hR]; exact add_str W P [62, 10] (by simp; omega)
      have ha3 : ∀ W, (Op.stringOp .add ⟨S.toArray⟩ ⟨R.toArray⟩).run Tryz.prog W = .ok (str U) W := fun W => by rw [← hU]; exact add_str W S R (by omega)
      have HCT : Hid (closeText x = R) := by show _ = _; rw [← hR, ← hP]; unfold closeText; simp
      have HU := Lib.hid hU
      obtain ⟨wo, rfl⟩ : ∃ wo : World, wo = wr := ⟨_, rfl⟩
      have HBA := Lib.hid (hB.alloc hB.size (.cells #[str x.nm, .int .i64 x.b, .int .i64 x.e, .slice QA qn qc] 69))
      have HCA := Lib.hid (hC.alloc (.cells #[str x.nm, .int .i64 x.b, .int .i64 x.e, .slice QA qn qc] 69))
      have HTA := Lib.hid (hT.alloc (.cells #[str x.nm, .int .i64 x.b, .int .i64 x.e, .slice QA qn qc] 69))
      have c3 : _ = some (Value.slice (some ⟨gr, orr, none⟩) rn rc) := hC.cell 3
      have t1 : (wo.alloc (.cells #[str x.nm, .int .i64 x.b, .int .i64 x.e, .slice QA qn qc] 69)).cell? ⟨w.heap.size + 1, 1, none⟩ = some (.int .i64 tb) := HTA.out.cell 1
      have HSP : Hid (closeR (regs.drop j) tb z = S ++ (if closeP tb z x = true then R else [])) := by show _ = _; rw [HST.out, HCT.out]
      clear hP hR hU hPl hRl hx hS hsl hxn HST hB hC hT
      have key : closeP tb z x = (decide (x.e = z) && decide (tb ≤ x.b) && decide (tb < z)) := rfl
      by_cases h1 : x.e = z
      · have f1 : (x.e == z) = true := by rw [beq_iff_eq]; exact h1
        by_cases h2 : tb ≤ x.b
        · by_cases h3 : tb < z
          · have HE : Hid (closeR (regs.drop j) tb z = U) := by show _ = _; rw [HSP.out, key, decide_eq_true h1, decide_eq_true h2, decide_eq_true h3]; exact HU.out
            clear key h1
            go_wp2
            go_roundw
            case rel => exact ⟨j, rfl, by omega, by rw [HE.out], HBA.out, HCA.out, HTA.out⟩
            case measure => simp [intOf] <;> omega
          · have HE : Hid (closeR (regs.drop j) tb z = S) := by show _ = _; rw [HSP.out, key, decide_eq_false h3, Bool.and_false, if_neg (by simp), List.append_nil]
            clear key h1
            go_wp2
            go_roundw
            case rel => exact ⟨j, rfl, by omega, by rw [HE.out], HBA.out, HCA.out, HTA.out⟩
            case measure => simp [intOf] <;> omega
        · have HE : Hid (closeR (regs.drop j) tb z = S) := by show _ = _; rw [HSP.out, key, decide_eq_false h2, Bool.and_false, Bool.false_and, if_neg (by simp), List.append_nil]
          clear key h1
          go_wp2
          go_roundw
          case rel => exact ⟨j, rfl, by omega, by rw [HE.out], HBA.out, HCA.out, HTA.out⟩
          case measure => simp [intOf] <;> omega
      · have f1 : (x.e == z) = false := by rw [beq_eq_false_iff_ne]; exact h1
        have HE : Hid (closeR (regs.drop j) tb z = S) := by show _ = _; rw [HSP.out, key, decide_eq_false h1, Bool.false_and, Bool.false_and, if_neg (by simp), List.append_nil]
        clear key h1
        go_wp2
        go_roundw
        case rel => exact ⟨j, rfl, by omega, by rw [HE.out], HBA.out, HCA.out, HTA.out⟩
        case measure => simp [intOf] <;> omega
end Go.Proofs.YtgkdaebiefhgdaaGreatDoor
