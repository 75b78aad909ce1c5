/-
  The contract of the reference's FormatTag. Conditions: the lengths of names and values are ints; the list's length is an int and at most its capacity.
-/
import Derived.Test.YtgkdaebiefhgdaaGreatDoorFMarkRnd
import Derived.Test.YtgkdaebiefhgdaaGreatDoorFMarkRefSort
namespace Go.Proofs.YtgkdaebiefhgdaaGreatDoor
open Go.RowKit Utf Tagp
open Feat (Bs lt)
attribute [local go_sem] byte_mk ByteArray.extract_mk
theorem refEscape_is {s r : Bs} (hs : s.length ≤ 17592186044416) (hr : r = esc s) (w : World) : Calls Tryz.prog 41 #[str s] w fun e w' => e = .returned (str r) ∧ w' = w := by
  subst hr
  exact (refEscape_any s hs w).mono fun e w' h => ⟨h.1, h.2.symm⟩

set_option maxRecDepth 100000 in
set_option maxHeartbeats 1600000 in
theorem refFormatTag_any (cl : Bool) (nm : Bs) (A : Option Addr) (n c : Nat) (l : List KV) (w : World) (hn : n ≤ 9223372036854775807) (hnc : n ≤ c) (hnm : nm.length ≤ 9223372036854775807) (hsh : Short l) (h : Sl w w.heap.size 2 A n (prs l)) :
    Calls Tryz.prog 84 #[.agg #[.bool cl, str nm, .slice A n c]] w (Texted (fmtT cl nm l) w) := by
  have hl : l.length = n := by have := h.1; rw [prs_len] at this; omega
  obtain ⟨i0, hi0, hz0, hz1, hz2⟩ := info_parts info_pairM
  have hblk := Blk.new w 89 #[.bool cl, str nm, .slice A n c]
  have hB0 := (Below.refl w.heap.size w).alloc (Nat.le_refl _) (.cells #[.bool cl, str nm, .slice A n c] 89)
  have hbad : ∀ k, k ≠ 0 → chk cl nm l = k → fmtT cl nm l = ([], k) := by intro k hk he; unfold fmtT; rw [he, if_pos hk]
  have hgood : chk cl nm l = 0 → fmtT cl nm l = if cl = true then ([60, 47] ++ nm ++ [62], 0) else ([60] ++ nm ++ (sortP l).flatMap keyT ++ [62], 0) := by intro he; unfold fmtT; rw [if_neg (by rw [he]; simp)]
  have HBAD := Lib.hid hbad
  have HGOOD := Lib.hid hgood
  clear hbad hgood
  go_enter Tryz.func84, Tryz.ntmps84
  go_wp2_with fail
  refine (refValidName_any nm (by omega) _).mono ?_
  rintro e w1 ⟨rfl, rfl⟩
  cases hok : okName nm with
  | false =>
    have HF : Hid (chk cl nm l = 4) := by show _ = _; unfold chk; rw [if_pos hok]
    clear hok
    go_wp2
    go_ret2
    exact texted_ret (r := ([], 4)) (HBAD.out 4 (by simp) HF.out) hB0 rfl
  | true =>
    have hn32 := (okName_len hok).2
    have HC : Hid (chk cl nm l = if (cl = true ∧ 0 < l.length) ∨ 8 < l.length then 15 else chkKeys [] l) := by show _ = _; unfold chk; rw [if_neg (by rw [hok]; simp)]
    clear hok
    by_cases h15 : (cl = true ∧ 0 < l.length) ∨ 8 < l.length
    · have HF := Lib.hid (HC.out.trans (if_pos h15))
      cases cl with
      | true =>
        by_cases h0 : 0 < n
        · clear h15
          go_wp2
          go_ret2
          exact texted_ret (r := ([], 15)) (HBAD.out 15 (by simp) HF.out) hB0 rfl
        · omega
      | false =>
        have h8 : 8 < n := by simp at h15; omega
        clear h15
        go_wp2
        go_ret2
        exact texted_ret (r := ([], 15)) (HBAD.out 15 (by simp) HF.out) hB0 rfl
    · have HC2 := Lib.hid (HC.out.trans (if_neg h15))
      have h8 : ¬ 8 < n := by omega
      have h0 : cl = true → ¬ 0 < n := by intro e h; exact h15 (.inl ⟨e, by omega⟩)
      clear h15 HC
      cases cl with
      | true =>
        obtain rfl : n = 0 := by have := h0 rfl; omega
        obtain rfl : l = [] := List.eq_nil_of_length_eq_zero hl
        have HF : Hid (fmtT true nm [] = ([60, 47] ++ nm ++ [62], 0)) := by show _ = _; rw [HGOOD.out HC2.out, if_pos rfl]
        clear h0
        go_wp2
        go_loopw [33] (fun iv w1 => iv = .int .i64 0 ∧ Below w.heap.size w w1 ∧ Blk w1 w.heap.size 89 #[.bool true, str nm, .slice A 0 c]) (fun _ _ => 0)
        case atStart => exact ⟨rfl, hB0, hblk⟩
        case round =>
          obtain ⟨rfl, hB1, hblk1⟩ := hrel
          rename World => w1
          have d0 := hblk1.cell 0
          have d1 := hblk1.cell 1
          have d2 := hblk1.cell 2
          have r1 : (Op.stringOp .add ⟨#[60, 47]⟩ ⟨nm.toArray⟩).run Tryz.prog w1 = .ok (str ([60, 47] ++ nm)) w1 := add_str w1 [60, 47] nm (by simp; omega)
          obtain ⟨a1, ha1⟩ : ∃ a, a = [60, 47] ++ nm := ⟨_, rfl⟩
          have hl1 : a1.length = nm.length + 2 := by rw [ha1]; simp
          rw [← ha1] at r1
          have r2 : (Op.stringOp .add ⟨a1.toArray⟩ ⟨#[62]⟩).run Tryz.prog w1 = .ok (str (a1 ++ [62])) w1 := add_str w1 a1 [62] (by simp; omega)
          obtain ⟨a2, ha2⟩ : ∃ a, a = a1 ++ [62] := ⟨_, rfl⟩
          rw [← ha2] at r2
          have HT : Hid (a2 = [60, 47] ++ nm ++ [62]) := by show _ = _; rw [ha2, ha1]
          clear ha1 ha2
          go_wp2
          go_ret2
          exact texted_ret (r := (a2, 0)) (by rw [HF.out, HT.out]) hB1 rfl
      | false =>
        clear h0
        go_wp2
        go_loopw [33] (fun iv wr => ∃ k : Nat, k ≤ n ∧ iv = .int .i64 k ∧ Below w.heap.size w wr ∧ Blk wr w.heap.size 89 #[.bool false, str nm, .slice A n c] ∧ Hid (chkKeys [] l = chkKeys (l.take k) (l.drop k))) (fun iv _ => n - (intOf iv).toNat)
        case atStart => exact ⟨0, Nat.zero_le _, rfl, hB0, hblk, rfl⟩
        case round =>
          obtain ⟨k, hk, rfl, hB, hb, hkeys⟩ := hrel
          rename World => wo
          by_cases hlt : k < n
          · obtain ⟨g, o, hk', rfl, hg, c0, c1⟩ := sl_pair (h.under hB) hlt
            have hstep := Lib.hid (chkKeys_step l k hk')
            have hsp := hsh k hk'
            obtain ⟨p, hp⟩ : ∃ p, l[k] = p := ⟨_, rfl⟩
            rw [hp] at hstep c0 c1 hsp
            clear hp
            have HS := Lib.hid (hkeys.out.trans hstep.out)
            clear hkeys hstep
            have hBa := hB.alloc hB.size (.cells #[str p.1, str p.2] 84)
            have hba := hb.alloc (.cells #[str p.1, str p.2] 84)
            have hpa := Blk.new wo 84 #[str p.1, str p.2]
            have hlw : w.heap.size < wo.heap.size := Blk.lt hb
            go_wp2_with fail
            refine (refValidName_any p.1 (by omega) _).mono ?_
            rintro e w2 ⟨rfl, rfl⟩
            cases hok : okName p.1 with
            | false =>
              have HF : Hid (chk false nm l = 4) := by show _ = _; rw [HC2.out, HS.out, if_pos hok]
              clear hok
              go_wp2
              go_ret2
              exact texted_ret (r := ([], 4)) (HBAD.out 4 (by simp) HF.out) hBa rfl
            | true =>
              have HS2 := Lib.hid (HS.out.trans (if_neg (by rw [hok]; simp)))
              clear hok HS
              have hs1 := fun W => slice_to (P := Tryz.prog) 64 84 i0 Tryz.underlying64 hi0 (some ⟨g, o, none⟩) n c k (by omega) W
              have d2 := hba.cell 2
              go_wp2
              go_loopw [47] (fun iv wx => ∃ j : Nat, j ≤ k ∧ iv = .int .i64 j ∧ Below (wo.heap.size + 1) (wo.alloc (.cells #[str p.1, str p.2] 84)) wx ∧ Hid (hasK (l.take j) p.1 = false)) (fun iv _ => k - (intOf iv).toNat)
              case atStart => exact ⟨0, Nat.zero_le _, rfl, Below.refl _ _, rfl⟩
              case round =>
                obtain ⟨j, hj, rfl, hbx, hno⟩ := hrel
                have hBw := hBa.trans (Below.mono hbx (by omega))
                have hsz : wo.heap.size + 1 ≤ wr.heap.size := by have := hbx.size; simp at this; omega
                have hpx : Blk wr wo.heap.size 84 #[str p.1, str p.2] := (hbx.block _ (Nat.lt_succ_self _)).trans hpa
                have hbb : Blk wr w.heap.size 89 #[.bool false, str nm, .slice (some ⟨g, o, none⟩) n c] := (hbx.block _ (by omega)).trans hba
                have p0 := hpx.cell 0
                have p1 := hpx.cell 1
                by_cases hjk : j < k
                · obtain ⟨g', o', hj', hg', hgl', e0, e1⟩ := sl_pair (h.under hBw) (show j < n by omega)
                  cases hg'
                  have hst := Lib.hid (hasK_step (n := p.1) hj')
                  have p0a := fun O => (hpx.alloc O).cell 0
                  cases hx : (l[j].1 == p.1) with
                  | true =>
                    have hyes : hasK (l.take k) p.1 = true := by
                      unfold hasK
                      refine List.any_eq_true.2 ⟨l[j], ?_, hx⟩
                      rw [List.mem_take_iff_getElem]
                      exact ⟨j, by omega, rfl⟩
                    have HF : Hid (chk false nm l = 5) := by show _ = _; rw [HC2.out, HS2.out, if_pos hyes]
                    clear hyes
                    go_wp2
                    go_ret2
                    exact texted_ret (r := ([], 5)) (HBAD.out 5 (by simp) HF.out) (hBw.alloc hBw.size _) rfl
                  | false =>
                    go_wp2
                    go_roundw
                    case rel => exact ⟨j + 1, by omega, by go_num, hbx.alloc hsz _, by show _ = _; rw [hst.out, hno.out, hx]; rfl⟩
                    case measure => simp [intOf]; omega
                · obtain rfl : j = k := by omega
                  have HS3 := Lib.hid (HS2.out.trans (if_neg (by rw [hno.out]; simp)))
                  clear hno HS2
                  go_wp2_with fail
                  refine (refValue_any p.2 (by omega) _).mono ?_
                  rintro e w4 ⟨rfl, hb4⟩
                  have hB4 := hBw.trans (Below.mono hb4 hBw.size)
                  have hbt4 := hbb.below hb4
                  by_cases hv : vErr p.2 = 0
                  · have E : ((vErr p.2 : Int) != 0) = false := by rw [hv]; rfl
                    have HS4 := Lib.hid (HS3.out.trans (if_neg (by rw [hv]; simp)))
                    clear hv HS3
                    go_wp2
                    go_roundw
                    case rel => exact ⟨j + 1, by omega, by go_num, hB4, hbt4, HS4⟩
                    case measure => simp [intOf]; omega
                  · have E : ((vErr p.2 : Int) != 0) = true := by rw [bne_iff_ne]; omega
                    have HF : Hid (chk false nm l = vErr p.2) := by show _ = _; rw [HC2.out, HS3.out, if_pos hv]
                    have HX := Lib.hid (HBAD.out _ hv HF.out)
                    clear hv
                    go_wp2
                    go_ret2
                    exact texted_ret (r := ([], vErr p.2)) HX.out hB4 rfl
          · have hk : chk false nm l = 0 := by rw [HC2.out, hkeys.out, List.drop_eq_nil_of_le (by omega)]; rfl
            have HF := Lib.hid (HGOOD.out hk)
            obtain ⟨-, -, h8', hall⟩ := chk_ok hk
            have HA := Lib.hid hall
            clear hk hall hkeys
            have hB1 := hB
            have hblk1 := hb
            have d0 := hblk1.cell 0
            have d1 := hblk1.cell 1
            have d2 := hblk1.cell 2
            have r1 : (Op.stringOp .add ⟨#[60]⟩ ⟨nm.toArray⟩).run Tryz.prog wo = .ok (str ([60] ++ nm)) wo := add_str wo [60] nm (by simp; omega)
            obtain ⟨a1, ha1⟩ : ∃ a, a = [60] ++ nm := ⟨_, rfl⟩
            have hl1 : a1.length = nm.length + 1 := by rw [ha1]; simp
            rw [← ha1] at r1
            have HA1 := Lib.hid ha1
            clear ha1
            have hsl1 := (h.under hB).up hB.size
            go_wp2_with fail
            refine (sortPairs_any A n c l _ (by omega) hsl1).mono ?_
            rintro e w2 ⟨v, rfl, own2, hb2⟩
            obtain ⟨A2, c2, rfl, -⟩ := own_slc own2
            have hB2 := hB.trans (Below.mono hb2 hB.size)
            have hsl2 := own_sl own2
            obtain ⟨m, hm⟩ : ∃ m, m = sortP l := ⟨_, rfl⟩
            have HM := Lib.hid hm
            have hml : m.length = n := by rw [hm, sortP_len, hl]
            have hmn : (sortP l).length = n := by rw [sortP_len, hl]
            rw [hmn] at own2 hsl2
            rw [hmn]
            rw [← hm] at own2 hsl2
            clear hm hmn hsl1
            go_wp2
            go_loopw [77, 9] (fun iv ov wr => ∃ (k : Nat) (acc : Bs), k ≤ n ∧ iv = .int .i64 k ∧ ov = str acc ∧ Below w2.heap.size w2 wr ∧ acc.length ≤ 33 + 1000 * k ∧ Hid (acc = [60] ++ nm ++ (m.take k).flatMap keyT)) (fun iv _ _ => n - (intOf iv).toNat)
            case atStart => exact ⟨0, a1, Nat.zero_le _, rfl, rfl, Below.refl _ _, by omega, by show _ = _; rw [HA1.out]; simp⟩
            case round =>
              obtain ⟨k, acc, hk, rfl, rfl, hB, hlen, hacc⟩ := hrel
              by_cases hlt : k < n
              · obtain ⟨g, o, hk', rfl, hg, c0, c1⟩ := sl_pair (hsl2.under hB) hlt
                have hpk : okName m[k].1 = true ∧ vErr m[k].2 = 0 := HA.out _ (mem_sortP (by rw [← HM.out]; exact List.getElem_mem hk'))
                have hp1 := (okName_len hpk.1).2
                have hp2 := vErr_len hpk.2
                have hst : Hid ((m.take (k + 1)).flatMap keyT = (m.take k).flatMap keyT ++ keyT m[k]) := by show _ = _; rw [List.take_succ_eq_append_getElem hk', List.flatMap_append]; simp
                obtain ⟨p, hp⟩ : ∃ p, m[k] = p := ⟨_, rfl⟩
                rw [hp] at hst c0 c1 hp1 hp2
                clear hp hpk
                have hel := esc_len p.2
                have hBa := hB.alloc hB.size (.cells #[str p.1, str p.2] 84)
                obtain ⟨ep, hep⟩ : ∃ e, e = esc p.2 := ⟨_, rfl⟩
                have hexE := fun W => refEscape_is (s := p.2) (by omega) hep W
                rw [← hep] at hel
                obtain ⟨b1, hb1'⟩ : ∃ a, a = [32] ++ p.1 := ⟨_, rfl⟩
                have r3 : ∀ W, (Op.stringOp .add ⟨#[32]⟩ ⟨p.1.toArray⟩).run Tryz.prog W = .ok (str b1) W := fun W => by rw [hb1']; exact add_str W [32] p.1 (by simp; omega)
                have hb1l : b1.length = p.1.length + 1 := by rw [hb1']; simp
                obtain ⟨b2, hb2'⟩ : ∃ a, a = b1 ++ [61, 34] := ⟨_, rfl⟩
                have r4 : ∀ W, (Op.stringOp .add ⟨b1.toArray⟩ ⟨#[61, 34]⟩).run Tryz.prog W = .ok (str b2) W := fun W => by rw [hb2']; exact add_str W b1 [61, 34] (by simp; omega)
                have hb2l : b2.length = b1.length + 2 := by rw [hb2']; simp
                obtain ⟨b3, hb3'⟩ : ∃ a, a = b2 ++ ep := ⟨_, rfl⟩
                have r5 : ∀ W, (Op.stringOp .add ⟨b2.toArray⟩ ⟨ep.toArray⟩).run Tryz.prog W = .ok (str b3) W := fun W => by rw [hb3']; exact add_str W b2 ep (by omega)
                have hb3l : b3.length = b2.length + ep.length := by rw [hb3']; simp
                obtain ⟨b4, hb4'⟩ : ∃ a, a = b3 ++ [34] := ⟨_, rfl⟩
                have r6 : ∀ W, (Op.stringOp .add ⟨b3.toArray⟩ ⟨#[34]⟩).run Tryz.prog W = .ok (str b4) W := fun W => by rw [hb4']; exact add_str W b3 [34] (by simp; omega)
                have hb4l : b4.length = b3.length + 1 := by rw [hb4']; simp
                obtain ⟨b5, hb5'⟩ : ∃ a, a = acc ++ b4 := ⟨_, rfl⟩
                have r7 : ∀ W, (Op.stringOp .add ⟨acc.toArray⟩ ⟨b4.toArray⟩).run Tryz.prog W = .ok (str b5) W := fun W => by rw [hb5']; exact add_str W acc b4 (by omega)
                have hb5l : b5.length = acc.length + b4.length := by rw [hb5']; simp
                have HB : Hid (b5 = [60] ++ nm ++ (m.take (k + 1)).flatMap keyT) := by
                  show _ = _
                  rw [hst.out, hb5', hb4', hb3', hb2', hb1', hep, hacc.out]
                  simp [keyT]
                clear hep hb1' hb2' hb3' hb4' hb5' hst
                have hpa := Blk.new wr 84 #[str p.1, str p.2]
                go_wp2
                go_quiet (exact Calls.quiet_of_same (hexE _))
                go_wp2
                go_roundw
                case rel => exact ⟨k + 1, b5, by omega, by go_num, rfl, below_drewN hBa _, by omega, HB⟩
                case measure => simp [intOf]; omega
              · obtain rfl : k = n := by omega
                obtain ⟨b1, hb1'⟩ : ∃ a, a = acc ++ [62] := ⟨_, rfl⟩
                have r3 : (Op.stringOp .add ⟨acc.toArray⟩ ⟨#[62]⟩).run Tryz.prog wr = .ok (str b1) wr := by rw [hb1']; exact add_str wr acc [62] (by simp; omega)
                have HB : Hid (b1 = [60] ++ nm ++ (sortP l).flatMap keyT ++ [62]) := by
                  show _ = _
                  rw [hb1', hacc.out, List.take_of_length_le (by omega), HM.out]
                clear hb1'
                go_wp2
                go_ret2
                exact texted_ret (r := (b1, 0)) (by rw [HF.out, if_neg (by simp), HB.out]) (hB2.trans (Below.mono hB hB2.size)) rfl
end Go.Proofs.YtgkdaebiefhgdaaGreatDoor
