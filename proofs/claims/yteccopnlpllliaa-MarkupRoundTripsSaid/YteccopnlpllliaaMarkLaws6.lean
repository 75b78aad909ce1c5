/-
  Chapter 4's law MarkupRoundTrips returns true. Conditions: the lengths are ints; the list's length is at most its capacity.
-/
import Derived.Test.YteccopnlpllliaaMarkEqual
import Derived.Test.YteccopnlpllliaaMarkRound
namespace Go.Proofs.Yteccopnlpllliaa
open Go.RowKit Utf Tagp
open Feat (Bs lt)
attribute [local go_sem] byte_mk ByteArray.extract_mk

theorem fmt_fail {cl : Bool} {nm : Bs} {l : List KV} (h : chk cl nm l ≠ 0) : fmtT cl nm l = ([], chk cl nm l) := by unfold fmtT; rw [if_pos h]
theorem fmt_text {cl : Bool} {nm : Bs} {l : List KV} (h : chk cl nm l = 0) : fmtT cl nm l = (if cl = true then [60, 47] ++ nm ++ [62] else gapT nm 0 (sortP l), 0) := by
  unfold fmtT
  rw [if_neg (by rw [h]; simp)]
  split
  · rfl
  · unfold gapT
    split <;> simp
theorem parse_text {cl : Bool} {nm : Bs} {l : List KV} (h : chk cl nm l = 0) : parseP (if cl = true then [60, 47] ++ nm ++ [62] else gapT nm 0 (sortP l)) = ((cl, nm, sortP l), 0, 0) := by
  unfold parseP
  cases cl with
  | true =>
    have hn := (chk_ok h).1
    have hl := (chk_ok h).2.1 rfl
    subst hl
    rw [if_pos rfl, tagP_close hn]
    rfl
  | false => rw [if_neg (by simp), tagP_gap 0 h]
theorem parse_gap {nm : Bs} {l : List KV} (m : Nat) (h : chk false nm l = 0) : parseP (gapT nm m (sortP l)) = ((false, nm, sortP l), 0, 0) := by
  unfold parseP
  rw [tagP_gap m h]
theorem gap_len {nm : Bs} {l : List KV} (m : Nat) (h : chk false nm l = 0) : (gapT nm m (sortP l)).length ≤ 100000 + m := by
  obtain ⟨hn, _, h8, hall⟩ := chk_ok h
  have h1 := (okName_len hn).2
  have hk : ∀ ks : List KV, (∀ p ∈ ks, okName p.1 = true ∧ vErr p.2 = 0) → (ks.flatMap keyT).length ≤ 1000 * ks.length := by
    intro ks
    induction ks with
    | nil => intro _; simp
    | cons p ks ih =>
      intro h
      have hp := h p (by simp)
      have h2 := (okName_len hp.1).2
      have h3 := vErr_len hp.2
      have h4 := esc_len p.2
      have h5 := ih (fun q hq => h q (by simp [hq]))
      rw [List.flatMap_cons, List.length_append]
      simp only [keyT, List.length_append, List.length_cons, List.length_nil]
      omega
  have h6 := hk (sortP l) (fun p hp => hall p (mem_sortP hp))
  rw [sortP_len] at h6
  unfold gapT
  have h7 : (if sortP l = [] then ([] : Bs) else List.replicate m 32).length ≤ m := by split <;> simp
  simp only [List.length_append, List.length_cons, List.length_nil]
  omega
theorem text_len {cl : Bool} {nm : Bs} {l : List KV} (h : chk cl nm l = 0) : (if cl = true then [60, 47] ++ nm ++ [62] else gapT nm 0 (sortP l)).length ≤ 100000 := by
  cases cl with
  | true =>
    have := (okName_len (chk_ok h).1).2
    rw [if_pos rfl]
    simp
    omega
  | false =>
    rw [if_neg (by simp)]
    exact gap_len 0 h

set_option maxRecDepth 100000 in
set_option maxHeartbeats 1600000 in
theorem law_rounds (cl : Bool) (nm : Bs) (A : Option Addr) (n c : Nat) (l : List KV) (m : Int) (w : World) (hn : n ≤ 9223372036854775807) (hnc : n ≤ c) (hnm : nm.length ≤ 9223372036854775807) (hsh : Short l) (h : Sl w w.heap.size 2 A n (prs l)) :
    Calls Try.prog 12 #[.agg #[.bool cl, str nm, .slice A n c], .int .i64 m] w (Trues w) := by
  have hl : l.length = n := by have := h.1; rw [prs_len] at this; omega
  have hblk := Blk.new w 33 #[.bool cl, str nm, .slice A n c]
  have hB0 := (Below.refl w.heap.size w).alloc (Nat.le_refl _) (.cells #[.bool cl, str nm, .slice A n c] 33)
  have hF := fun W (hW : Below w.heap.size w W) => formatTag_any cl nm A n c l W hn hnc hnm hsh ((h.under hW).up hW.size)
  unfold Texted at hF
  go_enter Try.func12, Try.ntmps12
  go_wp2_with fail
  refine (large_any cl nm A n c l _ hn ((h.under hB0).up hB0.size)).mono ?_
  rintro e w1 ⟨b, rfl, hb1⟩
  have hB1 := hB0.trans (Below.mono hb1 hB0.size)
  have k1 := hblk.below hb1
  cases b with
  | true =>
    go_wp2
    go_ret
    exact ⟨rfl, hB1⟩
  | false =>
    by_cases hm1 : m < 0
    · go_wp2
      go_ret
      exact ⟨rfl, hB1⟩
    · by_cases hm2 : 20 < m
      · go_wp2
        go_ret
        exact ⟨rfl, hB1⟩
      · obtain ⟨M, rfl⟩ : ∃ M : Nat, m = M := ⟨m.toNat, by omega⟩
        have hM : M ≤ 20 := by omega
        have dm1 : decide ((M : Int) < 0) = false := by rw [decide_eq_false_iff_not]; omega
        have dm2 : decide ((20 : Int) < (M : Int)) = false := by rw [decide_eq_false_iff_not]; omega
        have a0 := k1.cell 0
        have a1 := k1.cell 1
        have a2 := k1.cell 2
        clear hm1 hm2
        by_cases hk : chk cl nm l = 0
        · rw [fmt_text hk] at hF
          have hPt := parse_text hk
          have hgap := fun (e : cl = false) => parse_gap M (e ▸ hk)
          have hgl := fun (e : cl = false) => gap_len M (e ▸ hk)
          have htl := text_len hk
          obtain ⟨hok, hcl, h8, -⟩ := chk_ok hk
          have hn32 := (okName_len hok).2
          have hsub : cl = false → (if cl = true then [60, 47] ++ nm ++ [62] else gapT nm 0 (sortP l)) = [60] ++ nm ++ ((if sortP l = [] then [] else List.replicate 0 32) ++ ((sortP l).flatMap keyT ++ [62])) := by
            intro e; subst e; rw [if_neg (by simp)]; simp [gapT]
          have hsub2 : ([60] ++ nm) ++ ((if sortP l = [] then [] else List.replicate M 32) ++ ((sortP l).flatMap keyT ++ [62])) = gapT nm M (sortP l) := by simp [gapT]
          obtain ⟨t, ht⟩ : ∃ t, (if cl = true then [60, 47] ++ nm ++ [62] else gapT nm 0 (sortP l)) = t := ⟨_, rfl⟩
          rw [ht] at hF hPt htl hsub
          simp only at hF
          have HCL := Lib.hid hcl
          have HG := Lib.hid hgap
          have HGL := Lib.hid hgl
          have HS := Lib.hid hsub
          have HS2 := Lib.hid hsub2
          clear ht hk hcl hgap hgl hsub hsub2 hok
          go_wp2_with fail
          refine (hF _ hB1).mono ?_
          rintro e w2 ⟨rfl, hb2⟩
          have hB2 := hB1.trans (Below.mono hb2 hB1.size)
          have k2 := k1.below hb2
          have b0 := k2.cell 0
          have b1 := k2.cell 1
          have b2 := k2.cell 2
          go_wp2_with fail
          refine (own_any cl nm A n c _).mono ?_
          rintro e w3 ⟨rfl, hb3⟩
          have hB3 := hB2.trans (Below.mono hb3 hB2.size)
          have k3 := k2.below hb3
          go_wp2_with fail
          have hB3a := hB3.alloc hB3.size (.cells #[.bool cl, str nm, .slice A n c] 36)
          have k7 := Blk.new w3 36 #[.bool cl, str nm, .slice A n c]
          refine (sortPairs_any A n c l _ (by omega) ((h.under hB3a).up hB3a.size)).mono ?_
          rintro e w4 ⟨v, rfl, own4, hb4⟩
          obtain ⟨A8, c8, rfl, -⟩ := own_slc own4
          have hB4 := hB3a.trans (Below.mono hb4 hB3a.size)
          have hkl : (sortP l).length = n := by rw [sortP_len, hl]
          obtain ⟨ks, hks⟩ : ∃ ks, sortP l = ks := ⟨_, rfl⟩
          rw [hks] at own4 hkl hPt HG HGL HS HS2
          rw [hkl] at own4
          rw [hks, hkl]
          have k74 := k7.below hb4
          have hlt7 : w3.heap.size < (w3.alloc (.cells #[.bool cl, str nm, .slice A n c] 36)).heap.size := by simp
          have own5 := own4.kept (row := some w3.heap.size) (w' := w4.setCell ⟨w3.heap.size, 2, none⟩ (.slice A8 n c8)) ⟨rfl, rfl, rfl, by simp, fun k _ hk => setCell_block (fun e => hk (by rw [e]))⟩ (.inr (fun e => by have := (own4.lt _ e).1; omega))
          have hsl5 := own_sl own5
          have k75 := k74.set_ 2 (.slice A8 n c8)
          have hB5 : Below w.heap.size w (w4.setCell ⟨w3.heap.size, 2, none⟩ (.slice A8 n c8)) := hB4.setCell (p := ⟨w3.heap.size, 2, none⟩) hB3.size _
          have x0 := k74.cell 2
          have x1 := k74.free 2
          have k25 := (((k3.alloc (.cells #[.bool cl, str nm, .slice A n c] 36)).below hb4).other (p := ⟨w3.heap.size, 2, none⟩) (by show w3.heap.size ≠ w.heap.size; have := k3.lt; omega) (.slice A8 n c8))
          clear hks k7 hb4 own4 own5
          go_wp2_with fail
          have hP := parseTag_any t (w4.setCell ⟨w3.heap.size, 2, none⟩ (.slice A8 n c8)) (by omega)
          unfold Parsed at hP
          rw [hPt] at hP
          simp only at hP
          refine hP.mono ?_
          rintro e w6 ⟨v, rfl, own6, hb6⟩
          obtain ⟨A9, c9, rfl, -⟩ := own_slc own6
          rw [hkl] at own6
          rw [hkl]
          have hB6 := hB5.trans (Below.mono hb6 hB5.size)
          have k26 := k25.below hb6
          have k76 := k75.below hb6
          have hB7 := hB6.alloc hB6.size (.cells #[.bool cl, str nm, .slice A9 n c9] 33)
          have hba : Below w6.heap.size w6 (w6.alloc (.cells #[.bool cl, str nm, .slice A9 n c9] 33)) := (Below.refl _ _).alloc (Nat.le_refl _) _
          have slP := ((own_sl own6).under hba).up hba.size
          have slU := ((((hsl5.under hb6).up hb6.size).under hba).up hba.size)
          have k77 := k76.alloc (.cells #[.bool cl, str nm, .slice A9 n c9] 33)
          have k27 := k26.alloc (.cells #[.bool cl, str nm, .slice A9 n c9] 33)
          have y0 := k77.cell 0
          have y1 := k77.cell 1
          have y2 := k77.cell 2
          have z0 := k76.cell 0
          have z1 := k76.cell 1
          have z2 := k76.cell 2
          clear hP own6 k74 k25 hsl5 x0 x1
          go_wp2_with fail
          refine (equal_any cl nm A9 A8 n c9 c8 ks _ hn slP slU).mono ?_
          rintro e w8 ⟨rfl, hb8⟩
          have hB8 := hB7.trans (Below.mono hb8 hB7.size)
          have k28 := k27.below hb8
          have k78 := k77.below hb8
          have slU8 := (slU.under hb8).up hb8.size
          have o0 := k78.cell 2
          have o1 := k28.cell 1
          by_cases h0 : 0 < n
          · cases cl with
            | true => exact absurd (HCL.out rfl) (by intro e; rw [e] at hl; simp at hl; omega)
            | false =>
              go_wp2
              go_loop [11, 12] (fun v iv => ∃ (i : Nat) (X : Bs), i ≤ M ∧ iv = .int .i64 i ∧ v = str X ∧ X.length = i ∧ Hid (X = List.replicate i 32)) (fun _ iv => M - (intOf iv).toNat)
              case atStart => exact ⟨0, [], Nat.zero_le _, rfl, rfl, rfl, rfl⟩
              case round =>
                obtain ⟨i, X, hi, rfl, rfl, hXl, hXe⟩ := hrel
                by_cases hlt : i < M
                · have r1 : (Op.stringOp .add ⟨X.toArray⟩ ⟨#[32]⟩).run Try.prog w8 = .ok (str (X ++ [32])) w8 := add_str w8 X [32] (by simp; omega)
                  obtain ⟨Y, hY⟩ : ∃ Y, X ++ [32] = Y := ⟨_, rfl⟩
                  have hYl : Y.length = i + 1 := by rw [← hY]; simp; omega
                  have HY : Hid (Y = List.replicate (i + 1) 32) := by show _ = _; rw [← hY, hXe.out, List.replicate_succ']
                  rw [hY] at r1
                  clear hY
                  go_wp2
                  go_round
                  case rel => exact ⟨i + 1, Y, by omega, by go_num, rfl, hYl, HY.out⟩
                  case measure => simp [intOf]; omega
                · obtain rfl : i = M := by omega
                  have hne : ks ≠ [] := by intro e; rw [e] at hkl; simp at hkl; omega
                  obtain ⟨N1, hN1⟩ : ∃ N1, nm.length + 1 = N1 := ⟨_, rfl⟩
                  obtain ⟨R, hR⟩ : ∃ R, ks.flatMap keyT ++ [62] = R := ⟨_, rfl⟩
                  obtain ⟨H, hH⟩ : ∃ H, [60] ++ nm = H := ⟨_, rfl⟩
                  have hHl : H.length = N1 := by rw [← hH, ← hN1]; simp
                  have ht : t = H ++ R := by rw [HS.out trivial, if_neg hne, hR, hH]; simp
                  have htl2 : t.length = N1 + R.length := by rw [ht, List.length_append, hHl]
                  have hs2 : H ++ X ++ R = gapT nm i ks := by rw [← HS2.out, if_neg hne, hR, hH, hXe.out]; simp
                  have c1 : t.take N1 = H := by rw [ht]; exact List.take_left' hHl
                  have c2 : (t.drop N1).take (t.length - N1) = R := by rw [htl2, ht, show N1 + R.length - N1 = R.length by omega, List.drop_left' hHl]; simp
                  have hni : (1 : Int) + (nm.length : Int) = (N1 : Int) := by omega
                  have i1 : (0 : Int) ≤ (N1 : Int) := by omega
                  have i2 : (N1 : Int) ≤ (t.length : Int) := by omega
                  have r1 := fun W => add_str (P := Try.prog) W H X (by omega)
                  obtain ⟨a1, ha1⟩ : ∃ a, H ++ X = a := ⟨_, rfl⟩
                  have hal : a1.length = N1 + i := by rw [← ha1, List.length_append, hHl, hXl]
                  rw [ha1] at hs2
                  simp only [ha1] at r1
                  have r2 := fun W => add_str (P := Try.prog) W a1 R (by omega)
                  obtain ⟨a2, ha2⟩ : ∃ a, a1 ++ R = a := ⟨_, rfl⟩
                  have ha2l : a2.length = a1.length + R.length := by rw [← ha2, List.length_append]
                  rw [ha2] at hs2
                  simp only [ha2] at r2
                  have hPg := HG.out trivial
                  rw [← hs2] at hPg
                  have hP := fun W => parseTag_any a2 W (by omega)
                  unfold Parsed at hP
                  rw [hPg] at hP
                  simp only [hkl] at hP
                  clear hPg hs2 ha1 ha2 ht hH hR hXe htl2 hHl hXl hal ha2l
                  go_wp2
                  have kz := Blk.new w8 33 #[.bool false, str [], .slice none 0 0]
                  have hz1 : Below w.heap.size w w8.drew := hB8.drew
                  have hz2 : Below w.heap.size w (w8.alloc (.cells #[.bool false, str [], .slice none 0 0] 33)).drew := (hB8.alloc hB8.size _).drew
                  go_region_law (first
                    | (go_simp; refine (hP ((w8.alloc (.cells #[.bool false, str [], .slice none 0 0] 33)).drew)).mono ?_; rintro e w9 ⟨v, rfl, own9, hb9⟩; obtain ⟨A7, c7, rfl, -⟩ := own_slc own9; have kz9 := Blk.below (w := (w8.alloc (.cells #[.bool false, str [], .slice none 0 0] 33)).drew) kz hb9; have z90 := kz9.cell 0; have z91 := kz9.cell 1; have z92 := kz9.cell 2; have z9f := fun k => kz9.free k; go_simp)
                    | (go_simp; refine (hP (w8.drew)).mono ?_; rintro e w9 ⟨v, rfl, own9, hb9⟩; obtain ⟨A7, c7, rfl, -⟩ := own_slc own9; go_simp))
                  · have hB9 := hz1.trans (Below.mono hb9 hz1.size)
                    have k79 := Blk.below (w := w8.drew) k78 hb9
                    have slU8d : Sl w8.drew w8.drew.heap.size 2 A8 n (prs ks) := slU8
                    have hbz : Below w9.heap.size w9 (w9.alloc (.cells #[.bool false, str nm, .slice A7 n c7] 33)) := (Below.refl _ _).alloc (Nat.le_refl _) _
                    have slP9 := ((own_sl own9).under hbz).up hbz.size
                    have slU9 := ((((slU8d.under hb9).up hb9.size).under hbz).up hbz.size)
                    have hB10 := hB9.alloc hB9.size (.cells #[.bool false, str nm, .slice A7 n c7] 33)
                    have v0 := k79.cell 0
                    have v1 := k79.cell 1
                    have v2 := k79.cell 2
                    have k7a := k79.alloc (.cells #[.bool false, str nm, .slice A7 n c7] 33)
                    have u0 := k7a.cell 0
                    have u1 := k7a.cell 1
                    have u2 := k7a.cell 2
                    go_wp2_with fail
                    refine (equal_any false nm A7 A8 n c7 c8 ks _ hn slP9 slU9).mono ?_
                    rintro e w10 ⟨rfl, hb10⟩
                    have hB11 := hB10.trans (Below.mono hb10 hB10.size)
                    go_wp2_with fail
                    refine (awake_any _).mono ?_
                    rintro e w11 ⟨rfl, hb11⟩
                    go_wp2
                    go_ret
                    exact ⟨rfl, hB11.trans (Below.mono hb11 hB11.size)⟩
                  · have hB9 := hz2.trans (Below.mono hb9 hz2.size)
                    have k78z : Blk (w8.alloc (.cells #[.bool false, str [], .slice none 0 0] 33)).drew w3.heap.size 36 #[.bool false, str nm, .slice A8 n c8] := k78.alloc _
                    have k79 := k78z.below hb9
                    have hlt3 := k78.lt
                    have hb8z : Below w8.heap.size w8 (w8.alloc (.cells #[.bool false, str [], .slice none 0 0] 33)).drew := ((Below.refl _ _).alloc (Nat.le_refl _) _).drew
                    have slU8d := ((slU8.under hb8z).up hb8z.size)
                    have slU9 := ((slU8d.under hb9).up hb9.size)
                    have hne9 : ∀ (W : World) (k : Nat) (u : Value), W.grownBy (W.setCell ⟨w8.heap.size, k, none⟩ u) (some w8.heap.size) := fun W k u => ⟨rfl, rfl, rfl, by simp, fun j _ hj => setCell_block (fun e => hj (by rw [e]))⟩
                    have hob : (Value.slice A7 n c7).ownBlock = none ∨ (Value.slice A7 n c7).ownBlock ≠ some w8.heap.size := .inr (fun e => by have h1 := (own9.lt _ e).1; have h2 := kz.lt; change _ < (w8.alloc _).drew.heap.size at h2; omega)
                    have own10 := ((own9.kept (hne9 _ 0 (.bool false)) hob).kept (hne9 _ 1 (str nm)) hob).kept (hne9 _ 2 (.slice A7 n c7)) hob
                    have kf := ((kz9.set_ 0 (.bool false)).set_ 1 (str nm)).set_ 2 (.slice A7 n c7)
                    have k80 := ((k79.other (p := ⟨w8.heap.size, 0, none⟩) (by show w8.heap.size ≠ w3.heap.size; omega) (.bool false)).other (p := ⟨w8.heap.size, 1, none⟩) (by show w8.heap.size ≠ w3.heap.size; omega) (str nm)).other (p := ⟨w8.heap.size, 2, none⟩) (by show w8.heap.size ≠ w3.heap.size; omega) (.slice A7 n c7)
                    have hB10 := ((hB9.setCell (p := ⟨w8.heap.size, 0, none⟩) hB8.size (.bool false)).setCell (p := ⟨w8.heap.size, 1, none⟩) hB8.size (str nm)).setCell (p := ⟨w8.heap.size, 2, none⟩) hB8.size (.slice A7 n c7)
                    have hB98 : Below w8.heap.size w8 (((w9.setCell ⟨w8.heap.size, 0, none⟩ (.bool false)).setCell ⟨w8.heap.size, 1, none⟩ (str nm)).setCell ⟨w8.heap.size, 2, none⟩ (.slice A7 n c7)) := (((hb8z.trans (Below.mono hb9 hb8z.size)).setCell (p := ⟨w8.heap.size, 0, none⟩) (Nat.le_refl _) (.bool false)).setCell (p := ⟨w8.heap.size, 1, none⟩) (Nat.le_refl _) (str nm)).setCell (p := ⟨w8.heap.size, 2, none⟩) (Nat.le_refl _) (.slice A7 n c7)
                    have slP10 := own_sl own10
                    have slU10 := ((slU8.under hB98).up hB98.size)
                    have v0 := k80.cell 0
                    have v1 := k80.cell 1
                    have v2 := k80.cell 2
                    have x0 := kf.cell 0
                    have x1 := kf.cell 1
                    have x2 := kf.cell 2
                    have vv0 := k79.cell 0
                    have vv1 := k79.cell 1
                    have vv2 := k79.cell 2
                    go_wp2_with fail
                    refine (equal_any false nm A7 A8 n c7 c8 ks _ hn slP10 slU10).mono ?_
                    rintro e w10 ⟨rfl, hb10⟩
                    have hB11 := hB10.trans (Below.mono hb10 hB10.size)
                    go_wp2_with fail
                    refine (awake_any _).mono ?_
                    rintro e w11 ⟨rfl, hb11⟩
                    go_wp2
                    go_ret
                    exact ⟨rfl, hB11.trans (Below.mono hb11 hB11.size)⟩
          · go_wp2_with fail
            refine (awake_any _).mono ?_
            rintro e w9 ⟨rfl, hb9⟩
            go_wp2
            go_ret
            exact ⟨rfl, hB8.trans (Below.mono hb9 hB8.size)⟩
        · rw [fmt_fail hk] at hF
          have q1 : ((chk cl nm l : Int) != 0) = true := by rw [bne_iff_ne]; omega
          simp only at hF
          clear hk
          go_wp2_with fail
          refine (hF _ hB1).mono ?_
          rintro e w2 ⟨rfl, hb2⟩
          have hB2 := hB1.trans (Below.mono hb2 hB1.size)
          go_wp2_with fail
          refine (awake_any _).mono ?_
          rintro e w3 ⟨rfl, hb3⟩
          go_wp2
          go_ret
          exact ⟨rfl, hB2.trans (Below.mono hb3 hB2.size)⟩
end Go.Proofs.Yteccopnlpllliaa
