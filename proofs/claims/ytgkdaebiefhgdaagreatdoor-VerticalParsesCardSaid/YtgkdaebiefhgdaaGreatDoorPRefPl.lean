/-
  Several texts of this seat, one behind the other: PRefPar7, PVertLaw3. No conditions but those of each.
-/
import Derived.Test.YtgkdaebiefhgdaaGreatDoorPRefTok
import Derived.Test.YtgkdaebiefhgdaaGreatDoorPRefTag
import Derived.Test.YtgkdaebiefhgdaaGreatDoorPRefSort7
import Derived.Test.YtgkdaebiefhgdaaGreatDoorPRefVert2
import Derived.Test.YtgkdaebiefhgdaaGreatDoorPVertPa
import Derived.Test.YtgkdaebiefhgdaaGreatDoorPCorAtx
import Derived.Test.YtgkdaebiefhgdaaGreatDoorPCorEqR
/-! ## PRefPar7 -/
namespace Go.Proofs.YtgkdaebiefhgdaaGreatDoor
set_option linter.unusedSimpArgs false
set_option linter.unusedVariables false
open Go.RowKit Utf
open Feat (Bs)
open Tagp (KV)
open Vert (lineOf readV)
attribute [local go_sem] byte_mk ByteArray.extract_mk
theorem results_parseF {w : World} {g : Nat} {a0 a1 a2 a3 a4 a5 a6 b0 b1 e : Value} (tmps : Array Value) (h4 : tmps.getD 4 undef = .pointer (some ⟨g, 0, none⟩)) (h5 : tmps.getD 5 undef = .pointer (some ⟨g + 1, 0, none⟩)) (h6 : tmps.getD 6 undef = e)
  (hc : Blk w g 30 #[a0, a1, a2, a3, a4, a5, a6]) (hp : Blk w (g + 1) 32 #[b0, b1]) :
  (results Tryz.f10 tmps).run Tryz.prog w = .ok (.tuple #[.agg #[a0, a1, a2, a3, a4, a5, a6], .agg #[b0, b1], e]) w := by
 have hp4 : tmps[4]?.getD undef = .pointer (some ⟨g, 0, none⟩) := by simpa using h4
 have hp5 : tmps[5]?.getD undef = .pointer (some ⟨g + 1, 0, none⟩) := by simpa using h5
 have hp6 : tmps[6]?.getD undef = e := by simpa using h6
 have c0 := hc.cell 0
 have c1 := hc.cell 1
 have c2 := hc.cell 2
 have c3 := hc.cell 3
 have c4 := hc.cell 4
 have c5 := hc.cell 5
 have c6 := hc.cell 6
 have d0 := hp.cell 0
 have d1 := hp.cell 1
 simp only [List.getElem?_toArray, List.getElem?_cons_zero, List.getElem?_cons_succ] at c0 c1 c2 c3 c4 c5 c6 d0 d1
 simp [results, Tryz.f10, hp4, hp5, hp6, asAddr, c0, c1, c2, c3, c4, c5, c6, d0, d1, go_sem]
set_option maxRecDepth 100000 in
set_option maxHeartbeats 16000000 in
theorem rparse7_any (A : Option Addr) (n c : Nat) (l : List At) (d : Bs) (w : World) (ha : Atts w w.heap.size ⟨A, n, c⟩ l) (hd : d.length ≤ 9223372036854775807) :
  Calls Tryz.prog 10 #[str d, .slice A n c] w (VRead d l w) := by
 have hb2 : Below w.heap.size w ((w.alloc (.cells #[.slice none 0 0, .slice none 0 0, .slice none 0 0, .slice none 0 0, .slice none 0 0, .slice none 0 0, .slice none 0 0] 30)).alloc (.cells #[.int .i64 0, .int .i64 0] 32)) := ((Below.refl _ _).alloc (Nat.le_refl _) _).alloc (by simp) _
 have HB2 := Lib.hid hb2
 have HC2 : Hid (Blk ((w.alloc (.cells #[.slice none 0 0, .slice none 0 0, .slice none 0 0, .slice none 0 0, .slice none 0 0, .slice none 0 0, .slice none 0 0] 30)).alloc (.cells #[.int .i64 0, .int .i64 0] 32)) w.heap.size 30 #[.slice none 0 0, .slice none 0 0, .slice none 0 0, .slice none 0 0, .slice none 0 0, .slice none 0 0, .slice none 0 0]) := (Blk.new w _ _).alloc _
 have hp2 := Blk.new (w.alloc (.cells #[.slice none 0 0, .slice none 0 0, .slice none 0 0, .slice none 0 0, .slice none 0 0, .slice none 0 0, .slice none 0 0] 30)) 32 #[.int .i64 0, .int .i64 0]
 rw [World.size_alloc] at hp2
 have HP2 := Lib.hid hp2
 have HA2 : Hid (Atts ((w.alloc (.cells #[.slice none 0 0, .slice none 0 0, .slice none 0 0, .slice none 0 0, .slice none 0 0, .slice none 0 0, .slice none 0 0] 30)).alloc (.cells #[.int .i64 0, .int .i64 0] 32)) w.heap.size ⟨A, n, c⟩ l) := ha.under hb2
 have HC := Lib.hid (refAttributes_any A n c l ((w.alloc (.cells #[.slice none 0 0, .slice none 0 0, .slice none 0 0, .slice none 0 0, .slice none 0 0, .slice none 0 0, .slice none 0 0] 30)).alloc (.cells #[.int .i64 0, .int .i64 0] 32)) (HA2.out.up hb2.size))
 have hln : l.length = n := ha.len
 have hnc := ha.fit
 clear hb2 hp2 ha
 by_cases hat : (Cor.atErr l).2 = 0
 ·have HD : Hid ((((Cor.atErr l).2 : Nat) : Int) = 0) := by show _ = _; rw [hat]; rfl
  obtain ⟨ae, hae⟩ : ∃ x, (Cor.atErr l).1 = x := ⟨_, rfl⟩
  rw [hat, hae] at HC
  by_cases hbig : 1048576 < d.length
  ·have HF : Hid (readV d l = (Cor.nil, none, 2)) := by show _ = _; unfold readV; rw [if_neg (by simp [hat]), if_pos hbig]
   have hbg : (1048576 : Int) < (d.length : Int) := by omega
   clear hat hae HD
   go_enter Tryz.func10, Tryz.ntmps10
   go_wp2_with fail
   refine HC.out.mono ?_
   rintro en w3 ⟨rfl, hb3⟩
   have C3 := HC2.out.below hb3
   have P3 := HP2.out.below hb3
   have B3 : Below w.heap.size w w3 := HB2.out.trans (hb3.mono HB2.out.size)
   have a0 : _ = some (Value.slice none 0 0) := C3.cell 0
   have z0 := C3.free 0
   have a1 : _ = some (Value.slice none 0 0) := C3.cell 1
   have z1 := C3.free 1
   have a2 : _ = some (Value.slice none 0 0) := C3.cell 2
   have z2 := C3.free 2
   have a3 : _ = some (Value.slice none 0 0) := C3.cell 3
   have z3 := C3.free 3
   have a4 : _ = some (Value.slice none 0 0) := C3.cell 4
   have z4 := C3.free 4
   have a5 : _ = some (Value.slice none 0 0) := C3.cell 5
   have z5 := C3.free 5
   have a6 : _ = some (Value.slice none 0 0) := C3.cell 6
   have z6 := C3.free 6
   have p0 : _ = some (Value.int .i64 0) := P3.cell 0
   have y0 := P3.free 0
   have p1 : _ = some (Value.int .i64 0) := P3.cell 1
   have y1 := P3.free 1
   have X7 : Hid (Blk _ w.heap.size 30 #[.slice none 0 0, .slice none 0 0, .slice none 0 0, .slice none 0 0, .slice none 0 0, .slice none 0 0, .slice none 0 0]) := other2V (g := w.heap.size + 1) (set7V C3 (.slice none 0 0) (.slice none 0 0) (.slice none 0 0) (.slice none 0 0) (.slice none 0 0) (.slice none 0 0) (.slice none 0 0)) (by omega) (.int .i64 0) (.int .i64 0)
   have Y7 : Hid (Blk _ (w.heap.size + 1) 32 #[.int .i64 0, .int .i64 0]) := set2V (other7V (g := w.heap.size) P3 (by omega) (.slice none 0 0) (.slice none 0 0) (.slice none 0 0) (.slice none 0 0) (.slice none 0 0) (.slice none 0 0) (.slice none 0 0)) (.int .i64 0) (.int .i64 0)
   have Z7 := Lib.hid (below2V (g := w.heap.size + 1) (below7V (g := w.heap.size) B3 (Nat.le_refl _) (.slice none 0 0) (.slice none 0 0) (.slice none 0 0) (.slice none 0 0) (.slice none 0 0) (.slice none 0 0) (.slice none 0 0)) (Nat.le_succ _) (.int .i64 0) (.int .i64 0))
   go_wp2
   refine bodyPost_ret (results_parseF _ rfl rfl rfl X7.out Y7.out) rfl ?_
   exact vread_nil HF.out rfl rfl Z7.out
  ·have hbg : ¬ (1048576 : Int) < (d.length : Int) := by omega
   have hdl : d.length ≤ 1048576 := by omega
   have hl8 : n ≤ 8 := by
    have h := hat
    unfold Cor.atErr at h
    split at h
    ·cases h
    ·split at h
     ·cases h
     ·omega
   obtain ⟨i0, hi0, hz0, hz1, hz2⟩ := info_parts info_att6
   have HAT := Lib.hid hat
   clear hat hae HD
   go_enter Tryz.func10, Tryz.ntmps10
   go_wp2_with fail
   refine HC.out.mono ?_
   rintro en w3 ⟨rfl, hb3⟩
   have C3 := HC2.out.below hb3
   have P3 := HP2.out.below hb3
   have B3 : Below w.heap.size w w3 := HB2.out.trans (hb3.mono HB2.out.size)
   have A3 := Lib.hid (HA2.out.under (hb3.mono HB2.out.size)).src
   have HFL : Hid ((l.flatMap atV).length = n * 2) := by show _ = _; rw [flat_len atV_len, hln]
   have H1 : Hid (∀ u ∈ l.flatMap atV, u.oneCell' = true) := atV_one l
   have HLEN : Hid (∀ a ∈ l, Len a.1) := HA2.out.2.2
   have HC3 := Lib.hid C3
   have HP3 := Lib.hid P3
   have HB3 := Lib.hid B3
   have hs3 : w.heap.size + 2 ≤ w3.heap.size := P3.lt
   clear C3 P3 B3 hb3 HC
   go_wp2_with (at_builtin; refine wpList_app _ rfl (.const (.slice none 0 0)) (.tmp 27) _ rfl (w.heap.size + 2) 73 i0 _ 2 24 Tryz.underlying22 hi0 hz0 hz1 hz2 rfl (by decide) _ 0 [] rfl (World.ownsRow_nil _ _ _ _) A n c (l.flatMap atV) rfl HFL.out A3.out H1.out (by unfold maxLen; omega) (by omega) hs3 ?_)
   intro v4 w4 own4 gr4 _
   obtain ⟨A4, c4, rfl, -, -⟩ := own_slc own4
   have hb34 : Below w3.heap.size w3 w4 := (Below.refl _ _).grown gr4 (Nat.le_refl _) (fun k hk => by cases hk)
   have o4 : w4.ownsRow (w.heap.size + 2) 73 2 (.slice A4 n c4) n (l.flatMap atV) := by simpa using own4
   have hs4 : w.heap.size + 2 ≤ w4.heap.size := Nat.le_trans hs3 hb34.size
   have HR4 : Hid (OwnF (w4.alloc (.cells #[str d, .slice A4 n c4, .slice none 0 0, .slice none 0 0, .slice none 0 0, .slice none 0 0, .slice none 0 0, .slice none 0 0, .slice none 0 0, .bool false, .int .i64 0, .int .i64 0] 60)) (w.heap.size + 2) w4.heap.size ⟨⟨A4, n, c4⟩, ⟨none, 0, 0⟩, ⟨none, 0, 0⟩, ⟨none, 0, 0⟩, ⟨none, 0, 0⟩⟩ d l Rf.start) :=
    ⟨Blk.new w4 _ _, hs4, ⟨own_below o4 ((Below.refl _ _).alloc (Nat.le_refl _) _), HLEN.out⟩, ⟨[], rfl, own_nil0 _ _ _ _, fun _ h => by cases h⟩, ⟨[], rfl, own_nil0 _ _ _ _, fun _ h => by cases h⟩, ⟨[], rfl, own_nil0 _ _ _ _, fun _ h => by cases h⟩, .inl (own_nil0 _ _ _ _), ⟨Nat.zero_le _, Nat.zero_le _, Nat.zero_le _, Nat.zero_le _, fun y hy => (by cases hy)⟩⟩
   have HC4 : Hid (Blk (w4.alloc (.cells #[str d, .slice A4 n c4, .slice none 0 0, .slice none 0 0, .slice none 0 0, .slice none 0 0, .slice none 0 0, .slice none 0 0, .slice none 0 0, .bool false, .int .i64 0, .int .i64 0] 60)) w.heap.size 30 #[.slice none 0 0, .slice none 0 0, .slice none 0 0, .slice none 0 0, .slice none 0 0, .slice none 0 0, .slice none 0 0]) := (HC3.out.below hb34).alloc _
   have HP4 : Hid (Blk (w4.alloc (.cells #[str d, .slice A4 n c4, .slice none 0 0, .slice none 0 0, .slice none 0 0, .slice none 0 0, .slice none 0 0, .slice none 0 0, .slice none 0 0, .bool false, .int .i64 0, .int .i64 0] 60)) (w.heap.size + 1) 32 #[.int .i64 0, .int .i64 0]) := (HP3.out.below hb34).alloc _
   have HB4 : Hid (Below w.heap.size w (w4.alloc (.cells #[str d, .slice A4 n c4, .slice none 0 0, .slice none 0 0, .slice none 0 0, .slice none 0 0, .slice none 0 0, .slice none 0 0, .slice none 0 0, .bool false, .int .i64 0, .int .i64 0] 60))) := (HB3.out.trans (hb34.mono HB3.out.size)).alloc (by omega) _
   clear own4 gr4 hb34 o4 HC3 HP3 HB3 A3 HFL H1
   obtain ⟨Zt, hZt⟩ : ∃ Zt, Rf.parse l (d.length + 1) 0 d Rf.start = Zt := ⟨_, rfl⟩
   have HZT := Lib.hid hZt
   clear hZt
   try simp only [Nat.zero_add]
   go_wp2
   go_loopw [10] (fun iv wr => ∃ (a f : Nat) (y : Rf) (h : RfH), iv = .int .i64 (a : Nat) ∧ a ≤ d.length + 1 ∧ Hid (d.length < f + a) ∧ Hid (Zt = Rf.parse l f a (d.drop a) y) ∧ Hid y.Good ∧ Hid (OwnF wr (w.heap.size + 2) w4.heap.size h d l y) ∧ Blk wr w.heap.size 30 #[.slice none 0 0, .slice none 0 0, .slice none 0 0, .slice none 0 0, .slice none 0 0, .slice none 0 0, .slice none 0 0] ∧ Blk wr (w.heap.size + 1) 32 #[.int .i64 0, .int .i64 0] ∧ Below w.heap.size w wr) (fun iv _ => d.length + 1 - (intOf iv).toNat)
   case atStart => exact ⟨0, d.length + 1, Rf.start, _, rfl, by omega, by show _ < _; omega, by show _ = _; rw [List.drop_zero]; exact HZT.out.symm, good_start, HR4, HC4.out, HP4.out, HB4.out⟩
   case round =>
    obtain ⟨a, f, y, h, rfl, ha, hfu, hpar, HGD, HO, hC, hP, hB⟩ := hrel
    have HCC := Lib.hid hC
    have HPP := Lib.hid hP
    have HBB := Lib.hid hB
    obtain ⟨wo, rfl⟩ : ∃ wo : World, wo = wr := ⟨_, rfl⟩
    have c11 : wo.cell? ⟨w4.heap.size, 11, none⟩ = some (.int .i64 (y.e : Nat)) := HO.out.blk.cell 11
    clear hC hP hB
    have hor : (a < d.length ∧ y.e = 0) ∨ (d.length ≤ a ∨ y.e ≠ 0) := by omega
    rcases hor with ⟨hal, hye⟩ | hstop
    ·rw [hye] at c11
     obtain ⟨f, rfl⟩ : ∃ k, f = k + 1 := ⟨f - 1, by have := hfu.out; omega⟩
     have HYE := Lib.hid hye
     have hi1 : (a : Int) < (d.length : Int) := by omega
     clear hye
     go_wp2
     clear c11
     go_loopw [11] (fun qv wr => ∃ Q : Nat, a ≤ Q ∧ Q ≤ d.length ∧ qv = .int .i64 (Q : Nat) ∧ Hid (∀ x, a ≤ x → x < Q → d[x]? ≠ some 10) ∧ wr = wo) (fun qv _ => d.length - (intOf qv).toNat)
     case atStart => exact ⟨a, Nat.le_refl _, by omega, rfl, fun x h1 h2 => absurd h2 (by omega), rfl⟩
     case round =>
      obtain ⟨Q, hQ1, hQ2, rfl, hno, rfl⟩ := hrel
      have hgo : (Q < d.length ∧ d[Q]? ≠ some 10) ∨ (Q = d.length ∨ d[Q]? = some 10) := by
       by_cases h1 : Q = d.length
       ·exact .inr (.inl h1)
       ·by_cases h2 : d[Q]? = some 10
        ·exact .inr (.inr h2)
        ·exact .inl ⟨by omega, h2⟩
      rcases hgo with ⟨hQl, hQ9⟩ | hend
      ·obtain ⟨cc, hcc⟩ : ∃ c, d[Q] = c := ⟨_, rfl⟩
       have hcn : cc ≠ 10 := fun e => hQ9 (by rw [List.getElem?_eq_getElem hQl, hcc, e])
       have hce : ((cc.toNat : Int) == 10) = false := by
        rw [beq_eq_false_iff_ne]
        intro e
        exact hcn (UInt8.toNat_inj.1 (by have : (10 : UInt8).toNat = 10 := rfl; omega))
       have HNO : Hid (∀ x, a ≤ x → x < Q + 1 → d[x]? ≠ some 10) := fun x h1 h2 => by
        by_cases e : x = Q
        ·subst e; exact hQ9
        ·exact hno.out x h1 (by omega)
       have hwQ : IntKind.i64.wrap ((Q : Int) + 1) = ((Q + 1 : Nat) : Int) := by rw [IntWalk.i64_in _ (by omega)]; omega
       have hQi : (Q : Int) < (d.length : Int) := by omega
       clear hQ9 hcn
       go_wp2
       go_roundw
       case rel => exact ⟨Q + 1, by omega, by omega, by go_num, HNO, (by first | rfl | trivial)⟩
       case measure => simp [intOf]; omega
      ·have hls := line_scan hQ1 hQ2 hno.out hend
       obtain ⟨s, hs⟩ : ∃ s, (d.drop a).take (Q - a) = s := ⟨_, rfl⟩
       rw [hs] at hls
       have hsl : s.length = Q - a := by rw [← hs, List.length_take, List.length_drop]; omega
       have HDD : Hid (d = d.take a ++ (s ++ d.drop Q)) := by
        show _ = _
        have e : d.drop a = s ++ d.drop Q := by
         rw [← hs]
         conv => lhs; rw [← List.take_append_drop (Q - a) (d.drop a)]
         rw [List.drop_drop, show a + (Q - a) = Q by omega]
        rw [← e, List.take_append_drop]
       have hSL : ∀ W, (Instr.slice 9 (str d) (some (.int .i64 ((a : Nat) : Int))) (some (.int .i64 ((Q : Nat) : Int))) none).run Tryz.prog W = .ok (str s) W := fun W => by
        rw [str_mid 9 (by kernel_rfl) d a Q hQ1 hQ2 W, hs]
       have HST : Hid (Zt = Rf.parse l f (Q + 1) (d.drop (Q + 1)) (Rf.fLine l y a s)) := by
        show _ = _
        rw [hpar.out, parse_at (by intro e; have := congrArg List.length e; simp at this; omega) HYE.out, hls, List.drop_drop, show a + s.length + 1 = Q + 1 by omega, show a + (s.length + 1) = Q + 1 by omega]
       have HFU : Hid (d.length < f + (Q + 1)) := by have := hfu.out; show _ < _; omega
       have HGN := Lib.hid (good_line (ats := l) HGD.out a s)
       have hwQ : IntKind.i64.wrap ((Q : Int) + 1) = ((Q + 1 : Nat) : Int) := by rw [IntWalk.i64_in _ (by omega)]; omega
       have hf10 : Q < d.length → ∃ hx : Q < d.length, d[Q] = 10 := fun hx => by
        rcases hend with h1 | h1
        ·omega
        ·exact List.getElem?_eq_some_iff.1 h1
       have hsa : ∀ hx : 0 < s.length, d[a] = s[0] := fun hx => by
        have h1 : d[a]? = s[0]? := by
         rw [← hs, List.getElem?_take, if_pos (by omega), List.getElem?_drop, Nat.add_zero]
        rw [List.getElem?_eq_getElem hal, List.getElem?_eq_getElem hx] at h1
        injection h1
       clear hls hs hend hno hpar hfu
       have hta : (d.take a).length = a := by rw [List.length_take]; omega
       by_cases hQl : Q < d.length
       ·obtain ⟨hQl2, hc10⟩ := hf10 hQl
        have hQi : (Q : Int) < (d.length : Int) := by omega
        have hce : (((10 : UInt8).toNat : Int) == 10) = true := rfl
        clear hf10
        by_cases hs0 : s.length = 0
        ·have hsn : s = [] := List.eq_nil_of_length_eq_zero hs0
         have hse : (s == []) = true := by rw [hsn]; rfl
         have HL : Hid (Rf.fLine l y a s = Rf.fTok l y a s) := by show _ = _; unfold Rf.fLine; rw [if_neg (by rw [hsn]; simp)]
         have HC := Lib.hid (rtoken_any (w.heap.size + 2) w4.heap.size h d l y (d.take a) s (d.drop Q) a Q wr HO.out HYE.out HDD.out hta (by omega) hdl (by omega))
         clear hs0 hsa
         go_wp2_with fail
         refine HC.out.mono ?_
         rintro en w5 ⟨rfl, hb5, h5, hk5⟩
         have HC5 : Hid (Blk w5 w.heap.size 30 #[.slice none 0 0, .slice none 0 0, .slice none 0 0, .slice none 0 0, .slice none 0 0, .slice none 0 0, .slice none 0 0]) := (hb5.block _ (by omega)).trans HCC.out
         have HP5 : Hid (Blk w5 (w.heap.size + 1) 32 #[.int .i64 0, .int .i64 0]) := (hb5.block _ (by omega)).trans HPP.out
         have HB5 := Lib.hid (HBB.out.trans (hb5.mono (Nat.le_add_right _ _)))
         have HK5 := Lib.hid hk5
         clear hb5 hk5
         go_wp2
         go_roundw
         case rel => exact ⟨Q + 1, f, _, h5, by go_num, by omega, HFU, HST, HGN, (by show OwnF _ _ _ _ _ _ _; rw [HL.out]; exact HK5.out), HC5.out, HP5.out, HB5.out⟩
         case measure => simp [intOf]; omega
        ·have hse : (s == []) = false := by rw [beq_eq_false_iff_ne]; intro e; rw [e] at hs0; simp at hs0
         have hd0 := hsa (by omega)
         obtain ⟨c0, hc0⟩ : ∃ c0, s[0]'(by omega) = c0 := ⟨_, rfl⟩
         have hhd : s.head? = some c0 := by rw [List.head?_eq_getElem?, List.getElem?_eq_getElem (by omega), hc0]
         rw [hc0] at hd0
         by_cases h60 : c0 = 60
         ·have hce0 : ((c0.toNat : Int) == 60) = true := by rw [h60]; rfl
          have HL : Hid (Rf.fLine l y a s = y.fTag a s) := by show _ = _; unfold Rf.fLine; rw [if_pos (by rw [hhd, h60])]
          have HC := Lib.hid (rtag7_any (w.heap.size + 2) w4.heap.size h d l y (d.take a) s (d.drop Q) a Q wr HO.out HGD.out.1 HGD.out.2 HDD.out hta (by omega) hdl)
          clear hs0 hsa hhd h60 hc0
          go_wp2_with fail
          refine HC.out.mono ?_
          rintro en w5 ⟨rfl, hb5, h5, hk5⟩
          have HC5 : Hid (Blk w5 w.heap.size 30 #[.slice none 0 0, .slice none 0 0, .slice none 0 0, .slice none 0 0, .slice none 0 0, .slice none 0 0, .slice none 0 0]) := (hb5.block _ (by omega)).trans HCC.out
          have HP5 : Hid (Blk w5 (w.heap.size + 1) 32 #[.int .i64 0, .int .i64 0]) := (hb5.block _ (by omega)).trans HPP.out
          have HB5 := Lib.hid (HBB.out.trans (hb5.mono (Nat.le_add_right _ _)))
          have HK5 := Lib.hid hk5
          clear hb5 hk5
          go_wp2
          go_roundw
          case rel => exact ⟨Q + 1, f, _, h5, by go_num, by omega, HFU, HST, HGN, (by show OwnF _ _ _ _ _ _ _; rw [HL.out]; exact HK5.out), HC5.out, HP5.out, HB5.out⟩
          case measure => simp [intOf]; omega
         ·have hce0 : ((c0.toNat : Int) == 60) = false := by
           rw [beq_eq_false_iff_ne]
           intro e
           exact h60 (UInt8.toNat_inj.1 (by have : (60 : UInt8).toNat = 60 := rfl; omega))
          have HL : Hid (Rf.fLine l y a s = Rf.fTok l y a s) := by show _ = _; unfold Rf.fLine; rw [if_neg (by rw [hhd]; intro e; injection e with e; exact h60 e)]
          have HC := Lib.hid (rtoken_any (w.heap.size + 2) w4.heap.size h d l y (d.take a) s (d.drop Q) a Q wr HO.out HYE.out HDD.out hta (by omega) hdl (by omega))
          clear hs0 hsa hhd h60 hc0
          go_wp2_with fail
          refine HC.out.mono ?_
          rintro en w5 ⟨rfl, hb5, h5, hk5⟩
          have HC5 : Hid (Blk w5 w.heap.size 30 #[.slice none 0 0, .slice none 0 0, .slice none 0 0, .slice none 0 0, .slice none 0 0, .slice none 0 0, .slice none 0 0]) := (hb5.block _ (by omega)).trans HCC.out
          have HP5 : Hid (Blk w5 (w.heap.size + 1) 32 #[.int .i64 0, .int .i64 0]) := (hb5.block _ (by omega)).trans HPP.out
          have HB5 := Lib.hid (HBB.out.trans (hb5.mono (Nat.le_add_right _ _)))
          have HK5 := Lib.hid hk5
          clear hb5 hk5
          go_wp2
          go_roundw
          case rel => exact ⟨Q + 1, f, _, h5, by go_num, by omega, HFU, HST, HGN, (by show OwnF _ _ _ _ _ _ _; rw [HL.out]; exact HK5.out), HC5.out, HP5.out, HB5.out⟩
          case measure => simp [intOf]; omega
       ·have hQi : ¬ (Q : Int) < (d.length : Int) := by omega
        clear hf10
        by_cases hs0 : s.length = 0
        ·have hsn : s = [] := List.eq_nil_of_length_eq_zero hs0
         have hse : (s == []) = true := by rw [hsn]; rfl
         have HL : Hid (Rf.fLine l y a s = Rf.fTok l y a s) := by show _ = _; unfold Rf.fLine; rw [if_neg (by rw [hsn]; simp)]
         have HC := Lib.hid (rtoken_any (w.heap.size + 2) w4.heap.size h d l y (d.take a) s (d.drop Q) a Q wr HO.out HYE.out HDD.out hta (by omega) hdl (by omega))
         clear hs0 hsa
         go_wp2_with fail
         refine HC.out.mono ?_
         rintro en w5 ⟨rfl, hb5, h5, hk5⟩
         have HC5 : Hid (Blk w5 w.heap.size 30 #[.slice none 0 0, .slice none 0 0, .slice none 0 0, .slice none 0 0, .slice none 0 0, .slice none 0 0, .slice none 0 0]) := (hb5.block _ (by omega)).trans HCC.out
         have HP5 : Hid (Blk w5 (w.heap.size + 1) 32 #[.int .i64 0, .int .i64 0]) := (hb5.block _ (by omega)).trans HPP.out
         have HB5 := Lib.hid (HBB.out.trans (hb5.mono (Nat.le_add_right _ _)))
         have HK5 := Lib.hid hk5
         clear hb5 hk5
         go_wp2
         go_roundw
         case rel => exact ⟨Q + 1, f, _, h5, by go_num, by omega, HFU, HST, HGN, (by show OwnF _ _ _ _ _ _ _; rw [HL.out]; exact HK5.out), HC5.out, HP5.out, HB5.out⟩
         case measure => simp [intOf]; omega
        ·have hse : (s == []) = false := by rw [beq_eq_false_iff_ne]; intro e; rw [e] at hs0; simp at hs0
         have hd0 := hsa (by omega)
         obtain ⟨c0, hc0⟩ : ∃ c0, s[0]'(by omega) = c0 := ⟨_, rfl⟩
         have hhd : s.head? = some c0 := by rw [List.head?_eq_getElem?, List.getElem?_eq_getElem (by omega), hc0]
         rw [hc0] at hd0
         by_cases h60 : c0 = 60
         ·have hce0 : ((c0.toNat : Int) == 60) = true := by rw [h60]; rfl
          have HL : Hid (Rf.fLine l y a s = y.fTag a s) := by show _ = _; unfold Rf.fLine; rw [if_pos (by rw [hhd, h60])]
          have HC := Lib.hid (rtag7_any (w.heap.size + 2) w4.heap.size h d l y (d.take a) s (d.drop Q) a Q wr HO.out HGD.out.1 HGD.out.2 HDD.out hta (by omega) hdl)
          clear hs0 hsa hhd h60 hc0
          go_wp2_with fail
          refine HC.out.mono ?_
          rintro en w5 ⟨rfl, hb5, h5, hk5⟩
          have HC5 : Hid (Blk w5 w.heap.size 30 #[.slice none 0 0, .slice none 0 0, .slice none 0 0, .slice none 0 0, .slice none 0 0, .slice none 0 0, .slice none 0 0]) := (hb5.block _ (by omega)).trans HCC.out
          have HP5 : Hid (Blk w5 (w.heap.size + 1) 32 #[.int .i64 0, .int .i64 0]) := (hb5.block _ (by omega)).trans HPP.out
          have HB5 := Lib.hid (HBB.out.trans (hb5.mono (Nat.le_add_right _ _)))
          have HK5 := Lib.hid hk5
          clear hb5 hk5
          go_wp2
          go_roundw
          case rel => exact ⟨Q + 1, f, _, h5, by go_num, by omega, HFU, HST, HGN, (by show OwnF _ _ _ _ _ _ _; rw [HL.out]; exact HK5.out), HC5.out, HP5.out, HB5.out⟩
          case measure => simp [intOf]; omega
         ·have hce0 : ((c0.toNat : Int) == 60) = false := by
           rw [beq_eq_false_iff_ne]
           intro e
           exact h60 (UInt8.toNat_inj.1 (by have : (60 : UInt8).toNat = 60 := rfl; omega))
          have HL : Hid (Rf.fLine l y a s = Rf.fTok l y a s) := by show _ = _; unfold Rf.fLine; rw [if_neg (by rw [hhd]; intro e; injection e with e; exact h60 e)]
          have HC := Lib.hid (rtoken_any (w.heap.size + 2) w4.heap.size h d l y (d.take a) s (d.drop Q) a Q wr HO.out HYE.out HDD.out hta (by omega) hdl (by omega))
          clear hs0 hsa hhd h60 hc0
          go_wp2_with fail
          refine HC.out.mono ?_
          rintro en w5 ⟨rfl, hb5, h5, hk5⟩
          have HC5 : Hid (Blk w5 w.heap.size 30 #[.slice none 0 0, .slice none 0 0, .slice none 0 0, .slice none 0 0, .slice none 0 0, .slice none 0 0, .slice none 0 0]) := (hb5.block _ (by omega)).trans HCC.out
          have HP5 : Hid (Blk w5 (w.heap.size + 1) 32 #[.int .i64 0, .int .i64 0]) := (hb5.block _ (by omega)).trans HPP.out
          have HB5 := Lib.hid (HBB.out.trans (hb5.mono (Nat.le_add_right _ _)))
          have HK5 := Lib.hid hk5
          clear hb5 hk5
          go_wp2
          go_roundw
          case rel => exact ⟨Q + 1, f, _, h5, by go_num, by omega, HFU, HST, HGN, (by show OwnF _ _ _ _ _ _ _; rw [HL.out]; exact HK5.out), HC5.out, HP5.out, HB5.out⟩
          case measure => simp [intOf]; omega
    ·have HZ : Hid (Zt = y) := by
      show _ = _
      rw [hpar.out]
      exact parse_end (hstop.elim (fun h1 => .inl (List.drop_eq_nil_of_le h1)) .inr)
     obtain ⟨hc, ht⟩ : True ∧ True := ⟨trivial, trivial⟩
     go_upto_region 16 with (fail)
     all_goals
      have hR := readV_ref (d := d) (ats := l) HAT.out hdl
      dsimp only at hR
      rw [HZT.out, HZ.out] at hR
      have c9 : wo.cell? ⟨w4.heap.size, 9, none⟩ = some (.bool y.tx) := HO.out.blk.cell 9
      have hg4 : w.heap.size + 2 ≤ w4.heap.size := HO.out.bg
      cases htx : y.tx with
      | true =>
       rw [if_pos htx] at hR
       rw [htx] at c9
       have HFZ := Lib.hid hR
       have HC := Lib.hid (rfail_any d.length 10 wo HO.out.blk)
       have HOZ := Lib.hid (HO.out.fail d.length 10)
       have HCZ : Hid (Blk (failW wo w4.heap.size y d.length 10) w.heap.size 30 #[.slice none 0 0, .slice none 0 0, .slice none 0 0, .slice none 0 0, .slice none 0 0, .slice none 0 0, .slice none 0 0]) := HCC.out.off (failW_off HO.out.blk y d.length 10) (by decide)
       have HPZ : Hid (Blk (failW wo w4.heap.size y d.length 10) (w.heap.size + 1) 32 #[.int .i64 0, .int .i64 0]) := HPP.out.off (failW_off HO.out.blk y d.length 10) (by decide)
       have HBZ := Lib.hid (failW_below (g := w4.heap.size) HBB.out (by omega) y d.length 10)
       clear hR hpar hfu hstop htx HO HCC HPP HBB HZ HZT HGD
       go_wp2_with fail
       refine HC.out.mono ?_
       rintro en w5 ⟨rfl, rfl⟩
       obtain ⟨wz, hwz⟩ : ∃ wz, failW wo w4.heap.size y d.length 10 = wz := ⟨_, rfl⟩
       obtain ⟨z, hz⟩ : ∃ z, y.fail d.length 10 = z := ⟨_, rfl⟩
       rw [hwz] at HOZ HCZ HPZ HBZ ⊢
       rw [hz] at HOZ HFZ
       clear hwz hz HC c9 c11
       have g11 : wz.cell? ⟨w4.heap.size, 11, none⟩ = some (.int .i64 (z.e : Nat)) := HOZ.out.blk.cell 11
       rcases HFZ.out with ⟨he, hat, hF⟩ | ⟨he, hF⟩
       ·have e1 : ((z.e : Int) != 0) = true := by rw [bne_iff_ne]; omega
        have HF := Lib.hid hF
        have hQ := HOZ.out.drew.blk
        have q0 : wz.drew.cell? ⟨w4.heap.size, 10, none⟩ = some (.int .i64 (z.at_ : Nat)) := hQ.cell 10
        have q1 : wz.drew.cell? ⟨w4.heap.size, 11, none⟩ = some (.int .i64 (z.e : Nat)) := hQ.cell 11
        have HFW := Lib.hid hQ
        have HCW : Hid (Blk wz.drew w.heap.size 30 #[.slice none 0 0, .slice none 0 0, .slice none 0 0, .slice none 0 0, .slice none 0 0, .slice none 0 0, .slice none 0 0]) := HCZ.out.off (R := 4294967295) (Off.drew _) (by decide)
        have HPW : Hid (Blk wz.drew (w.heap.size + 1) 32 #[.int .i64 0, .int .i64 0]) := HPZ.out.off (R := 4294967295) (Off.drew _) (by decide)
        have HBW := Lib.hid (HBZ.out.drew)
        have HPO := Lib.hid (refPosition_any d z.at_ (by omega) hat wz.drew)
        clear hF hQ he HCZ HPZ HBZ HOZ HFZ
        go_wp2
        go_region_held3 (fun W => W.cell? ⟨w4.heap.size, 10, none⟩ = some (.int .i64 (z.at_ : Nat)) ∧ W.cell? ⟨w4.heap.size, 11, none⟩ = some (.int .i64 (z.e : Nat))) (first | go_keep | exact ⟨q0, q1⟩ | exact ⟨x0, x1⟩ | exact ⟨s0, s1⟩ | exact ⟨t0, t1⟩) (first | (go_at_call 29; refine HPO.out.mono ?_; rintro en w6 ⟨rfl, hb6⟩; have F6 := HFW.out.below hb6; have C6 := HCW.out.below hb6; have P6 := HPW.out.below hb6; have B6 := HBW.out.trans (hb6.mono HBW.out.size); have x0 : _ = some (Value.int .i64 (z.at_ : Nat)) := F6.cell 10; have x1 : _ = some (Value.int .i64 (z.e : Nat)) := F6.cell 11; have a0 : _ = some (Value.slice none 0 0) := C6.cell 0; have z0 := C6.free 0; have a1 : _ = some (Value.slice none 0 0) := C6.cell 1; have z1 := C6.free 1; have a2 : _ = some (Value.slice none 0 0) := C6.cell 2; have z2 := C6.free 2; have a3 : _ = some (Value.slice none 0 0) := C6.cell 3; have z3 := C6.free 3; have a4 : _ = some (Value.slice none 0 0) := C6.cell 4; have z4 := C6.free 4; have a5 : _ = some (Value.slice none 0 0) := C6.cell 5; have z5 := C6.free 5; have a6 : _ = some (Value.slice none 0 0) := C6.cell 6; have z6 := C6.free 6; have p0 : _ = some (Value.int .i64 0) := P6.cell 0; have y0 := P6.free 0; have p1 : _ = some (Value.int .i64 0) := P6.cell 1; have y1 := P6.free 1; have F7 := other7V (g := w.heap.size) F6 (by omega) (.slice none 0 0) (.slice none 0 0) (.slice none 0 0) (.slice none 0 0) (.slice none 0 0) (.slice none 0 0) (.slice none 0 0); have P7 := other7V (g := w.heap.size) P6 (by omega) (.slice none 0 0) (.slice none 0 0) (.slice none 0 0) (.slice none 0 0) (.slice none 0 0) (.slice none 0 0) (.slice none 0 0); have s0 : _ = some (Value.int .i64 (z.at_ : Nat)) := F7.cell 10; have s1 : _ = some (Value.int .i64 (z.e : Nat)) := F7.cell 11; have r0 : _ = some (Value.int .i64 0) := P7.cell 0; have r1 : _ = some (Value.int .i64 0) := P7.cell 1; have k0 := P7.free 0; have k1 := P7.free 1; have F8 := other2V (g := w.heap.size + 1) F7 (by omega) (.int .i64 ((Pos.posOf d z.at_).1 : Nat)) (.int .i64 ((Pos.posOf d z.at_).2 : Nat)); have t0 : _ = some (Value.int .i64 (z.at_ : Nat)) := F8.cell 10; have t1 : _ = some (Value.int .i64 (z.e : Nat)) := F8.cell 11))
        have X7 : Hid (Blk _ w.heap.size 30 #[.slice none 0 0, .slice none 0 0, .slice none 0 0, .slice none 0 0, .slice none 0 0, .slice none 0 0, .slice none 0 0]) := other2V (g := w.heap.size + 1) (set7V C6 (.slice none 0 0) (.slice none 0 0) (.slice none 0 0) (.slice none 0 0) (.slice none 0 0) (.slice none 0 0) (.slice none 0 0)) (by omega) (.int .i64 ((Pos.posOf d z.at_).1 : Nat)) (.int .i64 ((Pos.posOf d z.at_).2 : Nat))
        have Y7 : Hid (Blk _ (w.heap.size + 1) 32 #[.int .i64 ((Pos.posOf d z.at_).1 : Nat), .int .i64 ((Pos.posOf d z.at_).2 : Nat)]) := set2V (other7V (g := w.heap.size) P6 (by omega) (.slice none 0 0) (.slice none 0 0) (.slice none 0 0) (.slice none 0 0) (.slice none 0 0) (.slice none 0 0) (.slice none 0 0)) (.int .i64 ((Pos.posOf d z.at_).1 : Nat)) (.int .i64 ((Pos.posOf d z.at_).2 : Nat))
        have Z7 := Lib.hid (below2V (g := w.heap.size + 1) (below7V (g := w.heap.size) B6 (Nat.le_refl _) (.slice none 0 0) (.slice none 0 0) (.slice none 0 0) (.slice none 0 0) (.slice none 0 0) (.slice none 0 0) (.slice none 0 0)) (Nat.le_succ _) (.int .i64 ((Pos.posOf d z.at_).1 : Nat)) (.int .i64 ((Pos.posOf d z.at_).2 : Nat)))
        go_wp2
        refine bodyPost_ret (results_parseF _ rfl rfl rfl X7.out Y7.out) rfl ?_
        exact vread_nil HF.out rfl rfl Z7.out
       ·have e1 : ((z.e : Int) != 0) = false := by rw [he]; rfl
        obtain ⟨⟨Aa, na, ca⟩, ⟨At', nt, ct⟩, ⟨Ax, nx, cx⟩, ⟨Ar, nr, cr⟩, ⟨Ao, no, co⟩⟩ := h
        have HF := Lib.hid hF
        obtain ⟨L, hL, oL, wL⟩ := HOZ.out.r
        have hnr : nr ≤ 1024 := by have h1 := HOZ.out.r.len; have h2 := HOZ.out.ok.r; dsimp only at h1 h2; omega
        have HSO := Lib.hid (refSortRegions_keep (OwnT wz (w.heap.size + 2)) Ar nr cr L wz (by omega) (own_sl oL) (fun y hy => ⟨(wL y hy).reads, wL y hy⟩))
        unfold SortedK at HSO
        rw [hL] at HSO
        have c4 : wz.cell? ⟨w4.heap.size, 4, none⟩ = some (.slice Ar nr cr) := HOZ.out.blk.cell 4
        have hszr : w4.heap.size < wz.heap.size := HOZ.out.blk.lt
        clear hF oL wL hL he HFZ
        go_wp2_with fail
        refine HSO.out.mono ?_
        rintro en w6 ⟨⟨As, ns, cs⟩, M, rfl, hM, oM, kM, hb6⟩
        have hs6 : OX w6 (w.heap.size + 2) 69 ⟨As, ns, cs⟩ (sortT z.regs) := ⟨M, hM, own_base oM (by omega), fun x hx => (kM x hx).off (R := 4294967295) (Off.below hb6) (by decide)⟩
        have KO6 := HOZ.out.below hb6
        have K6 := KO6.blk
        have d4 : _ = some (Value.slice Ar nr cr) := K6.cell 4
        have f4 := K6.free 4
        have K7 := K6.set_ 4 (.slice As ns cs)
        have C6 := HCZ.out.below hb6
        have P6 := HPZ.out.below hb6
        have C7 := C6.other (p := ⟨w4.heap.size, 4, none⟩) (by show w4.heap.size ≠ w.heap.size; omega) (.slice As ns cs)
        have P7 := P6.other (p := ⟨w4.heap.size, 4, none⟩) (by show w4.heap.size ≠ w.heap.size + 1; omega) (.slice As ns cs)
        have B7 : Hid (Below w.heap.size w (w6.setCell ⟨w4.heap.size, 4, none⟩ (.slice As ns cs))) := (HBZ.out.trans (hb6.mono HBZ.out.size)).setCell (p := ⟨w4.heap.size, 4, none⟩) (by show w.heap.size ≤ w4.heap.size; omega) _
        have F7 := Off.set_ K6 4 (.slice As ns cs)
        have b0 : _ = some (Value.slice Aa na ca) := K7.cell 1
        have b1 : _ = some (Value.slice At' nt ct) := K7.cell 2
        have b2 : _ = some (Value.slice Ax nx cx) := K7.cell 3
        have b3 : _ = some (Value.slice As ns cs) := K7.cell 4
        have b4 : _ = some (Value.slice none 0 0) := K7.cell 5
        have b5 : _ = some (Value.slice none 0 0) := K7.cell 6
        have b6 : _ = some (Value.slice none 0 0) := K7.cell 7
        have a0 : _ = some (Value.slice none 0 0) := C7.cell 0; have z0 := C7.free 0; have a1 : _ = some (Value.slice none 0 0) := C7.cell 1; have z1 := C7.free 1; have a2 : _ = some (Value.slice none 0 0) := C7.cell 2; have z2 := C7.free 2; have a3 : _ = some (Value.slice none 0 0) := C7.cell 3; have z3 := C7.free 3; have a4 : _ = some (Value.slice none 0 0) := C7.cell 4; have z4 := C7.free 4; have a5 : _ = some (Value.slice none 0 0) := C7.cell 5; have z5 := C7.free 5; have a6 : _ = some (Value.slice none 0 0) := C7.cell 6; have z6 := C7.free 6; have p0 : _ = some (Value.int .i64 0) := P7.cell 0; have y0 := P7.free 0; have p1 : _ = some (Value.int .i64 0) := P7.cell 1; have y1 := P7.free 1
        have RA := Lib.hid (KO6.a.off F7 (by decide))
        have RT := Lib.hid (KO6.t.off F7 (by decide) (by decide))
        have RX := Lib.hid (KO6.x.off F7 (by decide) (by decide))
        have RS := Lib.hid (hs6.off F7 (by decide) (by decide))
        have X7 : Hid (Blk _ w.heap.size 30 #[.slice Aa na ca, .slice At' nt ct, .slice Ax nx cx, .slice As ns cs, .slice none 0 0, .slice none 0 0, .slice none 0 0]) := other2V (g := w.heap.size + 1) (set7V C7 (.slice Aa na ca) (.slice At' nt ct) (.slice Ax nx cx) (.slice As ns cs) (.slice none 0 0) (.slice none 0 0) (.slice none 0 0)) (by omega) (.int .i64 0) (.int .i64 0)
        have P8 := other7V (g := w.heap.size) P7 (by omega) (.slice Aa na ca) (.slice At' nt ct) (.slice Ax nx cx) (.slice As ns cs) (.slice none 0 0) (.slice none 0 0) (.slice none 0 0)
        have Y7 : Hid (Blk _ (w.heap.size + 1) 32 #[.int .i64 0, .int .i64 0]) := set2V P8 (.int .i64 0) (.int .i64 0)
        have Z7 := Lib.hid (below2V (g := w.heap.size + 1) (below7V (g := w.heap.size) B7.out (Nat.le_refl _) (.slice Aa na ca) (.slice At' nt ct) (.slice Ax nx cx) (.slice As ns cs) (.slice none 0 0) (.slice none 0 0) (.slice none 0 0)) (Nat.le_succ _) (.int .i64 0) (.int .i64 0))
        have F8 := off7V C7 (.slice Aa na ca) (.slice At' nt ct) (.slice Ax nx cx) (.slice As ns cs) (.slice none 0 0) (.slice none 0 0) (.slice none 0 0)
        have F9 := off2V P8 (.int .i64 0) (.int .i64 0)
        have RA9 := Lib.hid ((RA.out.off F8 (by decide)).off F9 (by decide))
        have RT9 := Lib.hid ((RT.out.off F8 (by decide) (by decide)).off F9 (by decide) (by decide))
        have RX9 := Lib.hid ((RX.out.off F8 (by decide) (by decide)).off F9 (by decide) (by decide))
        have RS9 := Lib.hid ((RS.out.off F8 (by decide) (by decide)).off F9 (by decide) (by decide))
        clear K6 K7 C6 P6 C7 P7 F7 F8 F9 KO6 P8 hs6 hb6 HSO c4 g11 oM kM hM
        go_wp2
        refine bodyPost_ret (results_parseF _ rfl rfl rfl X7.out Y7.out) rfl ?_
        unfold VRead
        rw [HF.out]
        exact ⟨⟨⟨Aa, na, ca⟩, ⟨At', nt, ct⟩, ⟨Ax, nx, cx⟩, ⟨As, ns, cs⟩, ⟨none, 0, 0⟩, ⟨none, 0, 0⟩, ⟨none, 0, 0⟩⟩, rfl, ⟨RA9.out.reads, RT9.out.reads, RX9.out.reads, RS9.out.reads, (reads_nil _ _).n, (reads_nil _ _).h, (reads_nil _ _).l⟩, Z7.out⟩
      | false =>
       rw [if_neg (by rw [htx]; simp)] at hR
       rw [htx] at c9
       have HFZ := Lib.hid hR
       have HOZ := Lib.hid HO.out
       have HCZ := Lib.hid HCC.out
       have HPZ := Lib.hid HPP.out
       have HBZ := Lib.hid HBB.out
       clear hR hpar hfu hstop htx HO HCC HPP HBB HZ HZT HGD c11
       obtain ⟨wz, rfl⟩ : ∃ wz, wz = wo := ⟨_, rfl⟩
       obtain ⟨z, rfl⟩ : ∃ z, z = y := ⟨_, rfl⟩
       have g11 : wz.cell? ⟨w4.heap.size, 11, none⟩ = some (.int .i64 (z.e : Nat)) := HOZ.out.blk.cell 11
       rcases HFZ.out with ⟨he, hat, hF⟩ | ⟨he, hF⟩
       ·have e1 : ((z.e : Int) != 0) = true := by rw [bne_iff_ne]; omega
        have HF := Lib.hid hF
        have hQ := HOZ.out.drew.blk
        have q0 : wz.drew.cell? ⟨w4.heap.size, 10, none⟩ = some (.int .i64 (z.at_ : Nat)) := hQ.cell 10
        have q1 : wz.drew.cell? ⟨w4.heap.size, 11, none⟩ = some (.int .i64 (z.e : Nat)) := hQ.cell 11
        have HFW := Lib.hid hQ
        have HCW : Hid (Blk wz.drew w.heap.size 30 #[.slice none 0 0, .slice none 0 0, .slice none 0 0, .slice none 0 0, .slice none 0 0, .slice none 0 0, .slice none 0 0]) := HCZ.out.off (R := 4294967295) (Off.drew _) (by decide)
        have HPW : Hid (Blk wz.drew (w.heap.size + 1) 32 #[.int .i64 0, .int .i64 0]) := HPZ.out.off (R := 4294967295) (Off.drew _) (by decide)
        have HBW := Lib.hid (HBZ.out.drew)
        have HPO := Lib.hid (refPosition_any d z.at_ (by omega) hat wz.drew)
        clear hF hQ he HCZ HPZ HBZ HOZ HFZ
        go_wp2
        go_region_held3 (fun W => W.cell? ⟨w4.heap.size, 10, none⟩ = some (.int .i64 (z.at_ : Nat)) ∧ W.cell? ⟨w4.heap.size, 11, none⟩ = some (.int .i64 (z.e : Nat))) (first | go_keep | exact ⟨q0, q1⟩ | exact ⟨x0, x1⟩ | exact ⟨s0, s1⟩ | exact ⟨t0, t1⟩) (first | (go_at_call 29; refine HPO.out.mono ?_; rintro en w6 ⟨rfl, hb6⟩; have F6 := HFW.out.below hb6; have C6 := HCW.out.below hb6; have P6 := HPW.out.below hb6; have B6 := HBW.out.trans (hb6.mono HBW.out.size); have x0 : _ = some (Value.int .i64 (z.at_ : Nat)) := F6.cell 10; have x1 : _ = some (Value.int .i64 (z.e : Nat)) := F6.cell 11; have a0 : _ = some (Value.slice none 0 0) := C6.cell 0; have z0 := C6.free 0; have a1 : _ = some (Value.slice none 0 0) := C6.cell 1; have z1 := C6.free 1; have a2 : _ = some (Value.slice none 0 0) := C6.cell 2; have z2 := C6.free 2; have a3 : _ = some (Value.slice none 0 0) := C6.cell 3; have z3 := C6.free 3; have a4 : _ = some (Value.slice none 0 0) := C6.cell 4; have z4 := C6.free 4; have a5 : _ = some (Value.slice none 0 0) := C6.cell 5; have z5 := C6.free 5; have a6 : _ = some (Value.slice none 0 0) := C6.cell 6; have z6 := C6.free 6; have p0 : _ = some (Value.int .i64 0) := P6.cell 0; have y0 := P6.free 0; have p1 : _ = some (Value.int .i64 0) := P6.cell 1; have y1 := P6.free 1; have F7 := other7V (g := w.heap.size) F6 (by omega) (.slice none 0 0) (.slice none 0 0) (.slice none 0 0) (.slice none 0 0) (.slice none 0 0) (.slice none 0 0) (.slice none 0 0); have P7 := other7V (g := w.heap.size) P6 (by omega) (.slice none 0 0) (.slice none 0 0) (.slice none 0 0) (.slice none 0 0) (.slice none 0 0) (.slice none 0 0) (.slice none 0 0); have s0 : _ = some (Value.int .i64 (z.at_ : Nat)) := F7.cell 10; have s1 : _ = some (Value.int .i64 (z.e : Nat)) := F7.cell 11; have r0 : _ = some (Value.int .i64 0) := P7.cell 0; have r1 : _ = some (Value.int .i64 0) := P7.cell 1; have k0 := P7.free 0; have k1 := P7.free 1; have F8 := other2V (g := w.heap.size + 1) F7 (by omega) (.int .i64 ((Pos.posOf d z.at_).1 : Nat)) (.int .i64 ((Pos.posOf d z.at_).2 : Nat)); have t0 : _ = some (Value.int .i64 (z.at_ : Nat)) := F8.cell 10; have t1 : _ = some (Value.int .i64 (z.e : Nat)) := F8.cell 11))
        have X7 : Hid (Blk _ w.heap.size 30 #[.slice none 0 0, .slice none 0 0, .slice none 0 0, .slice none 0 0, .slice none 0 0, .slice none 0 0, .slice none 0 0]) := other2V (g := w.heap.size + 1) (set7V C6 (.slice none 0 0) (.slice none 0 0) (.slice none 0 0) (.slice none 0 0) (.slice none 0 0) (.slice none 0 0) (.slice none 0 0)) (by omega) (.int .i64 ((Pos.posOf d z.at_).1 : Nat)) (.int .i64 ((Pos.posOf d z.at_).2 : Nat))
        have Y7 : Hid (Blk _ (w.heap.size + 1) 32 #[.int .i64 ((Pos.posOf d z.at_).1 : Nat), .int .i64 ((Pos.posOf d z.at_).2 : Nat)]) := set2V (other7V (g := w.heap.size) P6 (by omega) (.slice none 0 0) (.slice none 0 0) (.slice none 0 0) (.slice none 0 0) (.slice none 0 0) (.slice none 0 0) (.slice none 0 0)) (.int .i64 ((Pos.posOf d z.at_).1 : Nat)) (.int .i64 ((Pos.posOf d z.at_).2 : Nat))
        have Z7 := Lib.hid (below2V (g := w.heap.size + 1) (below7V (g := w.heap.size) B6 (Nat.le_refl _) (.slice none 0 0) (.slice none 0 0) (.slice none 0 0) (.slice none 0 0) (.slice none 0 0) (.slice none 0 0) (.slice none 0 0)) (Nat.le_succ _) (.int .i64 ((Pos.posOf d z.at_).1 : Nat)) (.int .i64 ((Pos.posOf d z.at_).2 : Nat)))
        go_wp2
        refine bodyPost_ret (results_parseF _ rfl rfl rfl X7.out Y7.out) rfl ?_
        exact vread_nil HF.out rfl rfl Z7.out
       ·have e1 : ((z.e : Int) != 0) = false := by rw [he]; rfl
        obtain ⟨⟨Aa, na, ca⟩, ⟨At', nt, ct⟩, ⟨Ax, nx, cx⟩, ⟨Ar, nr, cr⟩, ⟨Ao, no, co⟩⟩ := h
        have HF := Lib.hid hF
        obtain ⟨L, hL, oL, wL⟩ := HOZ.out.r
        have hnr : nr ≤ 1024 := by have h1 := HOZ.out.r.len; have h2 := HOZ.out.ok.r; dsimp only at h1 h2; omega
        have HSO := Lib.hid (refSortRegions_keep (OwnT wz (w.heap.size + 2)) Ar nr cr L wz (by omega) (own_sl oL) (fun y hy => ⟨(wL y hy).reads, wL y hy⟩))
        unfold SortedK at HSO
        rw [hL] at HSO
        have c4 : wz.cell? ⟨w4.heap.size, 4, none⟩ = some (.slice Ar nr cr) := HOZ.out.blk.cell 4
        have hszr : w4.heap.size < wz.heap.size := HOZ.out.blk.lt
        clear hF oL wL hL he HFZ
        go_wp2_with fail
        refine HSO.out.mono ?_
        rintro en w6 ⟨⟨As, ns, cs⟩, M, rfl, hM, oM, kM, hb6⟩
        have hs6 : OX w6 (w.heap.size + 2) 69 ⟨As, ns, cs⟩ (sortT z.regs) := ⟨M, hM, own_base oM (by omega), fun x hx => (kM x hx).off (R := 4294967295) (Off.below hb6) (by decide)⟩
        have KO6 := HOZ.out.below hb6
        have K6 := KO6.blk
        have d4 : _ = some (Value.slice Ar nr cr) := K6.cell 4
        have f4 := K6.free 4
        have K7 := K6.set_ 4 (.slice As ns cs)
        have C6 := HCZ.out.below hb6
        have P6 := HPZ.out.below hb6
        have C7 := C6.other (p := ⟨w4.heap.size, 4, none⟩) (by show w4.heap.size ≠ w.heap.size; omega) (.slice As ns cs)
        have P7 := P6.other (p := ⟨w4.heap.size, 4, none⟩) (by show w4.heap.size ≠ w.heap.size + 1; omega) (.slice As ns cs)
        have B7 : Hid (Below w.heap.size w (w6.setCell ⟨w4.heap.size, 4, none⟩ (.slice As ns cs))) := (HBZ.out.trans (hb6.mono HBZ.out.size)).setCell (p := ⟨w4.heap.size, 4, none⟩) (by show w.heap.size ≤ w4.heap.size; omega) _
        have F7 := Off.set_ K6 4 (.slice As ns cs)
        have b0 : _ = some (Value.slice Aa na ca) := K7.cell 1
        have b1 : _ = some (Value.slice At' nt ct) := K7.cell 2
        have b2 : _ = some (Value.slice Ax nx cx) := K7.cell 3
        have b3 : _ = some (Value.slice As ns cs) := K7.cell 4
        have b4 : _ = some (Value.slice none 0 0) := K7.cell 5
        have b5 : _ = some (Value.slice none 0 0) := K7.cell 6
        have b6 : _ = some (Value.slice none 0 0) := K7.cell 7
        have a0 : _ = some (Value.slice none 0 0) := C7.cell 0; have z0 := C7.free 0; have a1 : _ = some (Value.slice none 0 0) := C7.cell 1; have z1 := C7.free 1; have a2 : _ = some (Value.slice none 0 0) := C7.cell 2; have z2 := C7.free 2; have a3 : _ = some (Value.slice none 0 0) := C7.cell 3; have z3 := C7.free 3; have a4 : _ = some (Value.slice none 0 0) := C7.cell 4; have z4 := C7.free 4; have a5 : _ = some (Value.slice none 0 0) := C7.cell 5; have z5 := C7.free 5; have a6 : _ = some (Value.slice none 0 0) := C7.cell 6; have z6 := C7.free 6; have p0 : _ = some (Value.int .i64 0) := P7.cell 0; have y0 := P7.free 0; have p1 : _ = some (Value.int .i64 0) := P7.cell 1; have y1 := P7.free 1
        have RA := Lib.hid (KO6.a.off F7 (by decide))
        have RT := Lib.hid (KO6.t.off F7 (by decide) (by decide))
        have RX := Lib.hid (KO6.x.off F7 (by decide) (by decide))
        have RS := Lib.hid (hs6.off F7 (by decide) (by decide))
        have X7 : Hid (Blk _ w.heap.size 30 #[.slice Aa na ca, .slice At' nt ct, .slice Ax nx cx, .slice As ns cs, .slice none 0 0, .slice none 0 0, .slice none 0 0]) := other2V (g := w.heap.size + 1) (set7V C7 (.slice Aa na ca) (.slice At' nt ct) (.slice Ax nx cx) (.slice As ns cs) (.slice none 0 0) (.slice none 0 0) (.slice none 0 0)) (by omega) (.int .i64 0) (.int .i64 0)
        have P8 := other7V (g := w.heap.size) P7 (by omega) (.slice Aa na ca) (.slice At' nt ct) (.slice Ax nx cx) (.slice As ns cs) (.slice none 0 0) (.slice none 0 0) (.slice none 0 0)
        have Y7 : Hid (Blk _ (w.heap.size + 1) 32 #[.int .i64 0, .int .i64 0]) := set2V P8 (.int .i64 0) (.int .i64 0)
        have Z7 := Lib.hid (below2V (g := w.heap.size + 1) (below7V (g := w.heap.size) B7.out (Nat.le_refl _) (.slice Aa na ca) (.slice At' nt ct) (.slice Ax nx cx) (.slice As ns cs) (.slice none 0 0) (.slice none 0 0) (.slice none 0 0)) (Nat.le_succ _) (.int .i64 0) (.int .i64 0))
        have F8 := off7V C7 (.slice Aa na ca) (.slice At' nt ct) (.slice Ax nx cx) (.slice As ns cs) (.slice none 0 0) (.slice none 0 0) (.slice none 0 0)
        have F9 := off2V P8 (.int .i64 0) (.int .i64 0)
        have RA9 := Lib.hid ((RA.out.off F8 (by decide)).off F9 (by decide))
        have RT9 := Lib.hid ((RT.out.off F8 (by decide) (by decide)).off F9 (by decide) (by decide))
        have RX9 := Lib.hid ((RX.out.off F8 (by decide) (by decide)).off F9 (by decide) (by decide))
        have RS9 := Lib.hid ((RS.out.off F8 (by decide) (by decide)).off F9 (by decide) (by decide))
        clear K6 K7 C6 P6 C7 P7 F7 F8 F9 KO6 P8 hs6 hb6 HSO c4 g11 oM kM hM
        go_wp2
        refine bodyPost_ret (results_parseF _ rfl rfl rfl X7.out Y7.out) rfl ?_
        unfold VRead
        rw [HF.out]
        exact ⟨⟨⟨Aa, na, ca⟩, ⟨At', nt, ct⟩, ⟨Ax, nx, cx⟩, ⟨As, ns, cs⟩, ⟨none, 0, 0⟩, ⟨none, 0, 0⟩, ⟨none, 0, 0⟩⟩, rfl, ⟨RA9.out.reads, RT9.out.reads, RX9.out.reads, RS9.out.reads, (reads_nil _ _).n, (reads_nil _ _).h, (reads_nil _ _).l⟩, Z7.out⟩
 ·have HF : Hid (readV d l = (Cor.nil, none, 1)) := by show _ = _; unfold readV; rw [if_pos hat]
  obtain ⟨ae, ak, hae, hak⟩ : ∃ x k, (Cor.atErr l).1 = x ∧ (Cor.atErr l).2 = k := ⟨_, _, rfl, rfl⟩
  rw [hae, hak] at HC
  have e0 : ((ak : Int) == 0) = false := by rw [beq_eq_false_iff_ne]; omega
  have e1 : ((ak : Int) != 0) = true := by rw [bne_iff_ne]; omega
  clear hat hae hak
  go_enter Tryz.func10, Tryz.ntmps10
  go_wp2_with fail
  refine HC.out.mono ?_
  rintro en w3 ⟨rfl, hb3⟩
  have C3 := HC2.out.below hb3
  have P3 := HP2.out.below hb3
  have B3 : Below w.heap.size w w3 := HB2.out.trans (hb3.mono HB2.out.size)
  have a0 : _ = some (Value.slice none 0 0) := C3.cell 0
  have z0 := C3.free 0
  have a1 : _ = some (Value.slice none 0 0) := C3.cell 1
  have z1 := C3.free 1
  have a2 : _ = some (Value.slice none 0 0) := C3.cell 2
  have z2 := C3.free 2
  have a3 : _ = some (Value.slice none 0 0) := C3.cell 3
  have z3 := C3.free 3
  have a4 : _ = some (Value.slice none 0 0) := C3.cell 4
  have z4 := C3.free 4
  have a5 : _ = some (Value.slice none 0 0) := C3.cell 5
  have z5 := C3.free 5
  have a6 : _ = some (Value.slice none 0 0) := C3.cell 6
  have z6 := C3.free 6
  have p0 : _ = some (Value.int .i64 0) := P3.cell 0
  have y0 := P3.free 0
  have p1 : _ = some (Value.int .i64 0) := P3.cell 1
  have y1 := P3.free 1
  have X7 : Hid (Blk _ w.heap.size 30 #[.slice none 0 0, .slice none 0 0, .slice none 0 0, .slice none 0 0, .slice none 0 0, .slice none 0 0, .slice none 0 0]) := other2V (g := w.heap.size + 1) (set7V C3 (.slice none 0 0) (.slice none 0 0) (.slice none 0 0) (.slice none 0 0) (.slice none 0 0) (.slice none 0 0) (.slice none 0 0)) (by omega) (.int .i64 0) (.int .i64 0)
  have Y7 : Hid (Blk _ (w.heap.size + 1) 32 #[.int .i64 0, .int .i64 0]) := set2V (other7V (g := w.heap.size) P3 (by omega) (.slice none 0 0) (.slice none 0 0) (.slice none 0 0) (.slice none 0 0) (.slice none 0 0) (.slice none 0 0) (.slice none 0 0)) (.int .i64 0) (.int .i64 0)
  have Z7 := Lib.hid (below2V (g := w.heap.size + 1) (below7V (g := w.heap.size) B3 (Nat.le_refl _) (.slice none 0 0) (.slice none 0 0) (.slice none 0 0) (.slice none 0 0) (.slice none 0 0) (.slice none 0 0) (.slice none 0 0)) (Nat.le_succ _) (.int .i64 0) (.int .i64 0))
  go_wp2
  refine bodyPost_ret (results_parseF _ rfl rfl rfl X7.out Y7.out) rfl ?_
  exact vread_nil HF.out rfl rfl Z7.out
end Go.Proofs.YtgkdaebiefhgdaaGreatDoor

/-! ## PVertLaw3 -/
namespace Go.Proofs.YtgkdaebiefhgdaaGreatDoor
set_option linter.unusedSimpArgs false
set_option linter.unusedVariables false
open Go.RowKit Utf
open Feat (Bs)
open Vert (bodyV writeV readV fmtErr)
attribute [local go_sem] byte_mk ByteArray.extract_mk
set_option maxRecDepth 100000 in
set_option maxHeartbeats 16000000 in
theorem law_vparses (A : Option Addr) (n c : Nat) (l : List At) (d : Bs) (m : Int) (w : World) (ha : Atts w w.heap.size ⟨A, n, c⟩ l) (hd : d.length ≤ 9223372036854775807) (hm : w.cell? ⟨0, 0, none⟩ = some (.int .i64 m)) : Calls Tryz.prog 3 #[str d, .slice A n c] w (Kept (.bool true) w) := by
 have hw0 : 0 < w.heap.size := by
  rcases Nat.eq_zero_or_pos w.heap.size with h | h
  ·have : w.heap[0]? = none := Array.getElem?_eq_none (by omega)
   simp [World.cell?, this] at hm
  ·exact h
 have hnn : n ≤ 9223372036854775807 := ha.fit.2
 by_cases h1 : 3000 < d.length
 ·go_enter Tryz.func3, Tryz.ntmps3
  go_wp2
  go_ret
  exact ⟨rfl, Below.refl _ _⟩
 by_cases hn12 : 12 < n
 ·go_enter Tryz.func3, Tryz.ntmps3
  go_wp2
  go_ret
  exact ⟨rfl, Below.refl _ _⟩
 have HV1 := Lib.hid (vparse_any A n c l d m w ha hd hm)
 have HAW : Hid (∀ W : World, Below w.heap.size w W → Calls Tryz.prog 12 #[] W (Kept (.bool true) W)) := fun W hW => vawake_any m W ((hW.cell (p := ⟨0, 0, none⟩) hw0).trans hm)
 unfold VRead at HV1
 obtain ⟨er, her⟩ : ∃ er, (readV d l).2.2 = er := ⟨_, rfl⟩
 obtain ⟨cc, hcc⟩ : ∃ cc, (readV d l).1 = cc := ⟨_, rfl⟩
 obtain ⟨px, py, hpp⟩ : ∃ px py, posR d (readV d l).2.1 = (px, py) := ⟨_, _, rfl⟩
 rw [her, hcc, hpp] at HV1
 dsimp only at HV1
 have HHE := Lib.hid her
 have HHC := Lib.hid hcc
 have HHP := Lib.hid hpp
 clear her hcc hpp
 go_enter Tryz.func3, Tryz.ntmps3
 go_wp2_with fail
 refine HV1.out.mono ?_
 rintro en w1 ⟨⟨⟨Pa, Pan, Pac⟩, ⟨Pt, Ptn, Ptc⟩, ⟨Px, Pxn, Pxc⟩, ⟨Pr, Prn, Prc⟩, ⟨Pn, Pnn, Pnc⟩, ⟨Ph, Phn, Phc⟩, ⟨Pl, Pln, Plc⟩⟩, rfl, hr1, hb1⟩
 have ha1 := ((Below.refl w1.heap.size w1).alloc (Nat.le_refl _) (.cells #[.slice Pa Pan Pac, .slice Pt Ptn Ptc, .slice Px Pxn Pxc, .slice Pr Prn Prc, .slice Pn Pnn Pnc, .slice Ph Phn Phc, .slice Pl Pln Plc] 30)).alloc (by simp) (.cells #[.int .i64 (px : Nat), .int .i64 (py : Nat)] 32)
 have hxa := hb1.trans (ha1.mono hb1.size)
 have RP := Lib.hid ((hr1.under ha1).up ha1.size)
 have HAT := Lib.hid ((ha.under hxa).up hxa.size)
 have BP : Blk ((w1.alloc (.cells #[.slice Pa Pan Pac, .slice Pt Ptn Ptc, .slice Px Pxn Pxc, .slice Pr Prn Prc, .slice Pn Pnn Pnc, .slice Ph Phn Phc, .slice Pl Pln Plc] 30)).alloc (.cells #[.int .i64 (px : Nat), .int .i64 (py : Nat)] 32)) w1.heap.size 30 #[.slice Pa Pan Pac, .slice Pt Ptn Ptc, .slice Px Pxn Pxc, .slice Pr Prn Prc, .slice Pn Pnn Pnc, .slice Ph Phn Phc, .slice Pl Pln Plc] := (Blk.new w1 _ _).alloc _
 have BX : Blk ((w1.alloc (.cells #[.slice Pa Pan Pac, .slice Pt Ptn Ptc, .slice Px Pxn Pxc, .slice Pr Prn Prc, .slice Pn Pnn Pnc, .slice Ph Phn Phc, .slice Pl Pln Plc] 30)).alloc (.cells #[.int .i64 (px : Nat), .int .i64 (py : Nat)] 32)) (w1.heap.size + 1) 32 #[.int .i64 (px : Nat), .int .i64 (py : Nat)] := by have h := Blk.new (w1.alloc (.cells #[.slice Pa Pan Pac, .slice Pt Ptn Ptc, .slice Px Pxn Pxc, .slice Pr Prn Prc, .slice Pn Pnn Pnc, .slice Ph Phn Phc, .slice Pl Pln Plc] 30)) 32 #[.int .i64 (px : Nat), .int .i64 (py : Nat)]; rw [World.size_alloc] at h; exact h
 have HB1 := Lib.hid hxa
 have hsz : w1.heap.size + 2 ≤ ((w1.alloc (.cells #[.slice Pa Pan Pac, .slice Pt Ptn Ptc, .slice Px Pxn Pxc, .slice Pr Prn Prc, .slice Pn Pnn Pnc, .slice Ph Phn Phc, .slice Pl Pln Plc] 30)).alloc (.cells #[.int .i64 (px : Nat), .int .i64 (py : Nat)] 32)).heap.size := BX.lt
 clear hr1 hb1 ha1 hxa HV1
 go_upto_region 4 with (fail)
 generalize ((w1.alloc (.cells #[.slice Pa Pan Pac, .slice Pt Ptn Ptc, .slice Px Pxn Pxc, .slice Pr Prn Prc, .slice Pn Pnn Pnc, .slice Ph Phn Phc, .slice Pl Pln Plc] 30)).alloc (.cells #[.int .i64 (px : Nat), .int .i64 (py : Nat)] 32)) = w2 at BP BX RP HAT HB1 hsz ⊢
 have HV2 := Lib.hid (rparse7_any A n c l d w2 HAT.out hd)
 unfold VRead at HV2
 rw [HHE.out, HHC.out, HHP.out] at HV2
 dsimp only at HV2
 go_wp2_with fail
 refine HV2.out.mono ?_
 rintro en w3 ⟨⟨⟨Qa, Qan, Qac⟩, ⟨Qt, Qtn, Qtc⟩, ⟨Qx, Qxn, Qxc⟩, ⟨Qr, Qrn, Qrc⟩, ⟨Qn, Qnn, Qnc⟩, ⟨Qh, Qhn, Qhc⟩, ⟨Ql, Qln, Qlc⟩⟩, rfl, hr3, hb3⟩
 have ha3 := ((Below.refl w3.heap.size w3).alloc (Nat.le_refl _) (.cells #[.slice Qa Qan Qac, .slice Qt Qtn Qtc, .slice Qx Qxn Qxc, .slice Qr Qrn Qrc, .slice Qn Qnn Qnc, .slice Qh Qhn Qhc, .slice Ql Qln Qlc] 30)).alloc (by simp) (.cells #[.int .i64 (px : Nat), .int .i64 (py : Nat)] 32)
 have hxa := hb3.trans (ha3.mono hb3.size)
 have RQ := (hr3.under ha3).up ha3.size
 have RP3 := (RP.out.under hxa).up hxa.size
 have BP3 := BP.below hxa
 have BX3 := BX.below hxa
 have BQ : Blk ((w3.alloc (.cells #[.slice Qa Qan Qac, .slice Qt Qtn Qtc, .slice Qx Qxn Qxc, .slice Qr Qrn Qrc, .slice Qn Qnn Qnc, .slice Qh Qhn Qhc, .slice Ql Qln Qlc] 30)).alloc (.cells #[.int .i64 (px : Nat), .int .i64 (py : Nat)] 32)) w3.heap.size 30 #[.slice Qa Qan Qac, .slice Qt Qtn Qtc, .slice Qx Qxn Qxc, .slice Qr Qrn Qrc, .slice Qn Qnn Qnc, .slice Qh Qhn Qhc, .slice Ql Qln Qlc] := (Blk.new w3 _ _).alloc _
 have BY : Blk ((w3.alloc (.cells #[.slice Qa Qan Qac, .slice Qt Qtn Qtc, .slice Qx Qxn Qxc, .slice Qr Qrn Qrc, .slice Qn Qnn Qnc, .slice Qh Qhn Qhc, .slice Ql Qln Qlc] 30)).alloc (.cells #[.int .i64 (px : Nat), .int .i64 (py : Nat)] 32)) (w3.heap.size + 1) 32 #[.int .i64 (px : Nat), .int .i64 (py : Nat)] := by have h := Blk.new (w3.alloc (.cells #[.slice Qa Qan Qac, .slice Qt Qtn Qtc, .slice Qx Qxn Qxc, .slice Qr Qrn Qrc, .slice Qn Qnn Qnc, .slice Qh Qhn Qhc, .slice Ql Qln Qlc] 30)) 32 #[.int .i64 (px : Nat), .int .i64 (py : Nat)]; rw [World.size_alloc] at h; exact h
 have HB3 := Lib.hid (HB1.out.trans (hxa.mono HB1.out.size))
 clear hr3 hb3 ha3 hxa HV2 RP BP BX HAT HB1
 go_upto_region 5 with (fail)
 generalize ((w3.alloc (.cells #[.slice Qa Qan Qac, .slice Qt Qtn Qtc, .slice Qx Qxn Qxc, .slice Qr Qrn Qrc, .slice Qn Qnn Qnc, .slice Qh Qhn Qhc, .slice Ql Qln Qlc] 30)).alloc (.cells #[.int .i64 (px : Nat), .int .i64 (py : Nat)] 32)) = w4 at BP3 BX3 BQ BY RQ RP3 HB3 ⊢
 have HEQ := Lib.hid (refEqual_any ⟨⟨Pa, Pan, Pac⟩, ⟨Pt, Ptn, Ptc⟩, ⟨Px, Pxn, Pxc⟩, ⟨Pr, Prn, Prc⟩, ⟨Pn, Pnn, Pnc⟩, ⟨Ph, Phn, Phc⟩, ⟨Pl, Pln, Plc⟩⟩ ⟨⟨Qa, Qan, Qac⟩, ⟨Qt, Qtn, Qtc⟩, ⟨Qx, Qxn, Qxc⟩, ⟨Qr, Qrn, Qrc⟩, ⟨Qn, Qnn, Qnc⟩, ⟨Qh, Qhn, Qhc⟩, ⟨Ql, Qln, Qlc⟩⟩ cc cc w4 RP3 RQ)
 rw [same_t rfl] at HEQ
 have q0 := BP3.cell 0
 have q1 := BP3.cell 1
 have q2 := BP3.cell 2
 have q3 := BP3.cell 3
 have q4 := BP3.cell 4
 have q5 := BP3.cell 5
 have q6 := BP3.cell 6
 have k0 := BQ.cell 0
 have k1 := BQ.cell 1
 have k2 := BQ.cell 2
 have k3 := BQ.cell 3
 have k4 := BQ.cell 4
 have k5 := BQ.cell 5
 have k6 := BQ.cell 6
 have x0 := BX3.cell 0
 have x1 := BX3.cell 1
 have y0 := BY.cell 0
 have y1 := BY.cell 1
 clear BP3 BX3 BQ BY RQ RP3 hsz
 go_wp2_with fail
 refine HEQ.out.mono ?_
 rintro en w5 ⟨rfl, hb5⟩
 clear q0 q1 q2 q3 q4 q5 q6 k0 k1 k2 k3 k4 k5 k6
 clear x0 x1 y0 y1
 have HB5 := Lib.hid (HB3.out.trans (hb5.mono HB3.out.size))
 have HA5 := Lib.hid (HAW.out w5 HB5.out)
 clear hb5
 go_wp2_with fail
 refine HA5.out.mono ?_
 rintro en w6 ⟨rfl, hb6⟩
 go_wp2
 go_ret
 exact ⟨rfl, HB5.out.trans (hb6.mono HB5.out.size)⟩
end Go.Proofs.YtgkdaebiefhgdaaGreatDoor
