/-
  The law VerticalEnds: it returns true. Conditions: the attributes read as they do, the text's length is an int, MaxLen's cell holds a number.
-/
import Derived.Test.YtgkdaebiefhgdaaDoorVertAwk
import Derived.Test.YtgkdaebiefhgdaaDoorCorEqR
namespace Go.Proofs.YtgkdaebiefhgdaaDoor
set_option linter.unusedSimpArgs false
set_option linter.unusedVariables false
open Go.RowKit
open Feat (Bs)
open Vert (readV)
attribute [local go_sem] byte_mk ByteArray.extract_mk

theorem posR_snoc {d : Bs} {l : List At} : posR (d ++ [10]) (readV d l).2.1 = posR d (readV d l).2.1 := by
  cases h : (readV d l).2.1 with
  | none => rfl
  | some k => exact posOf_snoc d k (readV_at h)

set_option maxRecDepth 100000 in
set_option maxHeartbeats 8000000 in
theorem law_vends (A : Option Addr) (n c : Nat) (l : List At) (d : Bs) (m : Int) (w : World) (ha : Atts w w.heap.size ⟨A, n, c⟩ l) (hd : d.length ≤ 9223372036854775807) (hm : w.cell? ⟨0, 0, none⟩ = some (.int .i64 m)) :
    Calls Tryd.prog 4 #[str d, .slice A n c] w (Kept (.bool true) w) := by
  have hw0 : 0 < w.heap.size := by
    rcases Nat.eq_zero_or_pos w.heap.size with h | h
    · have : w.heap[0]? = none := Array.getElem?_eq_none (by omega)
      simp [World.cell?, this] at hm
    · exact h
  have hnn : n ≤ 9223372036854775807 := ha.fit.2
  by_cases h1 : 3000 < d.length
  · go_enter Tryd.func4, Tryd.ntmps4
    go_wp2
    go_ret
    exact ⟨rfl, Below.refl _ _⟩
  · by_cases h2 : d = []
    · subst h2
      go_enter Tryd.func4, Tryd.ntmps4
      go_wp2
      go_ret
      exact ⟨rfl, Below.refl _ _⟩
    · have hd0 : 0 < d.length := List.length_pos_iff.2 h2
      have hz : ((d.length : Int) == 0) = false := by rw [beq_eq_false_iff_ne]; omega
      have hw1 : IntKind.i64.wrap ((d.length : Int) - 1) = ((d.length - 1 : Nat) : Int) := by rw [IntWalk.i64_in _ (by omega)]; omega
      have hlt : d.length - 1 < d.length := by omega
      obtain ⟨b, hb⟩ : ∃ b, d[d.length - 1] = b := ⟨_, rfl⟩
      have hi0 : (0 : Int) ≤ ((d.length - 1 : Nat) : Int) := by omega
      have hi1 : ((d.length - 1 : Nat) : Int) < (d.length : Int) := by omega
      have HLS : Hid (d.getLast? = some b) := by show _ = _; rw [List.getLast?_eq_getElem?, List.getElem?_eq_getElem hlt, hb]
      have H2 := Lib.hid h2
      clear h2
      by_cases hb10 : b = 10
      · have he : ((b.toNat : Int) == 10) = true := by rw [hb10]; rfl
        go_enter Tryd.func4, Tryd.ntmps4
        go_wp2
        go_ret
        exact ⟨rfl, Below.refl _ _⟩
      · have he : ((b.toNat : Int) == 10) = false := by
          rw [beq_eq_false_iff_ne]
          intro e
          exact hb10 (UInt8.toNat_inj.1 (by have : (10 : UInt8).toNat = 10 := rfl; omega))
        by_cases hn12 : 12 < n
        · go_enter Tryd.func4, Tryd.ntmps4
          go_wp2
          go_ret
          exact ⟨rfl, Below.refl _ _⟩
        · have HV : Hid (∀ W : World, Below w.heap.size w W → Calls Tryd.prog 5 #[str (d ++ [10]), .slice A n c] W (VRead (d ++ [10]) l W)) := fun W hW => vparse_any A n c l (d ++ [10]) m W ((ha.under hW).up hW.size) (by rw [List.length_append, List.length_singleton]; omega) ((hW.cell (p := ⟨0, 0, none⟩) hw0).trans hm)
          have HV1 := Lib.hid (vparse_any A n c l d m w ha hd hm)
          have HAW : Hid (∀ W : World, Below w.heap.size w W → Calls Tryd.prog 7 #[] W (Kept (.bool true) W)) := fun W hW => vawake_any m W ((hW.cell (p := ⟨0, 0, none⟩) hw0).trans hm)
          have HSN := readV_snoc (ats := l) (by omega) H2.out (by rw [HLS.out]; intro e; cases e; exact hb10 rfl)
          have HAD : ∀ W, (Op.stringOp .add ⟨d.toArray⟩ ⟨[10].toArray⟩).run Tryd.prog W = .ok (str (d ++ [10])) W := fun W => add_str W d [10] (by simp; omega)
          unfold VRead at HV1
          have HPS : Hid (posR (d ++ [10]) (readV d l).2.1 = posR d (readV d l).2.1) := posR_snoc
          by_cases h10 : (readV d l).2.2 = 10 ∧ (readV (d ++ [10]) l).2.2 = 10
          · obtain ⟨px, py, hp⟩ : ∃ px py, posR d (readV d l).2.1 = (px, py) := ⟨_, _, rfl⟩
            rw [h10.1, hp] at HV1
            dsimp only at HV1
            go_enter Tryd.func4, Tryd.ntmps4
            go_wp2_with fail
            refine HV1.out.mono ?_
            rintro en w1 ⟨⟨⟨Pa, Pan, Pac⟩, ⟨Pt, Ptn, Ptc⟩, ⟨Px, Pxn, Pxc⟩, ⟨Pr, Prn, Prc⟩, ⟨Pn, Pnn, Pnc⟩, ⟨Ph, Phn, Phc⟩, ⟨Pl, Pln, Plc⟩⟩, rfl, hr1, hb1⟩
            have hb12 : Below w1.heap.size w1 ((w1.alloc (.cells #[.slice Pa Pan Pac, .slice Pt Ptn Ptc, .slice Px Pxn Pxc, .slice Pr Prn Prc, .slice Pn Pnn Pnc, .slice Ph Phn Phc, .slice Pl Pln Plc] 30)).alloc (.cells #[.int .i64 (px : Nat), .int .i64 (py : Nat)] 32)) := ((Below.refl _ _).alloc (Nat.le_refl _) _).alloc (by simp) _
            have hB2 : Below w.heap.size w ((w1.alloc (.cells #[.slice Pa Pan Pac, .slice Pt Ptn Ptc, .slice Px Pxn Pxc, .slice Pr Prn Prc, .slice Pn Pnn Pnc, .slice Ph Phn Phc, .slice Pl Pln Plc] 30)).alloc (.cells #[.int .i64 (px : Nat), .int .i64 (py : Nat)] 32)) := hb1.trans (hb12.mono hb1.size)
            have HV2 := Lib.hid (HV.out ((w1.alloc (.cells #[.slice Pa Pan Pac, .slice Pt Ptn Ptc, .slice Px Pxn Pxc, .slice Pr Prn Prc, .slice Pn Pnn Pnc, .slice Ph Phn Phc, .slice Pl Pln Plc] 30)).alloc (.cells #[.int .i64 (px : Nat), .int .i64 (py : Nat)] 32)) hB2)
            unfold VRead at HV2
            obtain ⟨qx, qy, hq⟩ : ∃ qx qy, posR (d ++ [10]) (readV (d ++ [10]) l).2.1 = (qx, qy) := ⟨_, _, rfl⟩
            rw [h10.2, hq] at HV2
            dsimp only at HV2
            have HR2 : Hid (Reads ((w1.alloc (.cells #[.slice Pa Pan Pac, .slice Pt Ptn Ptc, .slice Px Pxn Pxc, .slice Pr Prn Prc, .slice Pn Pnn Pnc, .slice Ph Phn Phc, .slice Pl Pln Plc] 30)).alloc (.cells #[.int .i64 (px : Nat), .int .i64 (py : Nat)] 32)) w1.heap.size ⟨⟨Pa, Pan, Pac⟩, ⟨Pt, Ptn, Ptc⟩, ⟨Px, Pxn, Pxc⟩, ⟨Pr, Prn, Prc⟩, ⟨Pn, Pnn, Pnc⟩, ⟨Ph, Phn, Phc⟩, ⟨Pl, Pln, Plc⟩⟩ _) := hr1.under hb12
            have hp2 := Blk.new (w1.alloc (.cells #[.slice Pa Pan Pac, .slice Pt Ptn Ptc, .slice Px Pxn Pxc, .slice Pr Prn Prc, .slice Pn Pnn Pnc, .slice Ph Phn Phc, .slice Pl Pln Plc] 30)) 32 #[.int .i64 (px : Nat), .int .i64 (py : Nat)]
            rw [World.size_alloc] at hp2
            have HP2 := Lib.hid hp2
            have HC2 : Hid (Blk ((w1.alloc (.cells #[.slice Pa Pan Pac, .slice Pt Ptn Ptc, .slice Px Pxn Pxc, .slice Pr Prn Prc, .slice Pn Pnn Pnc, .slice Ph Phn Phc, .slice Pl Pln Plc] 30)).alloc (.cells #[.int .i64 (px : Nat), .int .i64 (py : Nat)] 32)) w1.heap.size 30 _) := (Blk.new w1 _ #[.slice Pa Pan Pac, .slice Pt Ptn Ptc, .slice Px Pxn Pxc, .slice Pr Prn Prc, .slice Pn Pnn Pnc, .slice Ph Phn Phc, .slice Pl Pln Plc]).alloc _
            have HB2 := Lib.hid hB2
            have hs12 := hb12.size
            clear hr1 hb1 hb12 hB2 hp2
            go_wp2_with fail
            refine HV2.out.mono ?_
            rintro en w3 ⟨⟨⟨Qa, Qan, Qac⟩, ⟨Qt, Qtn, Qtc⟩, ⟨Qx, Qxn, Qxc⟩, ⟨Qr, Qrn, Qrc⟩, ⟨Qn, Qnn, Qnc⟩, ⟨Qh, Qhn, Qhc⟩, ⟨Ql, Qln, Qlc⟩⟩, rfl, hr3, hb3⟩
            have hb34 : Below w3.heap.size w3 ((w3.alloc (.cells #[.slice Qa Qan Qac, .slice Qt Qtn Qtc, .slice Qx Qxn Qxc, .slice Qr Qrn Qrc, .slice Qn Qnn Qnc, .slice Qh Qhn Qhc, .slice Ql Qln Qlc] 30)).alloc (.cells #[.int .i64 (qx : Nat), .int .i64 (qy : Nat)] 32)) := ((Below.refl _ _).alloc (Nat.le_refl _) _).alloc (by simp) _
            have HB4 : Hid (Below w.heap.size w ((w3.alloc (.cells #[.slice Qa Qan Qac, .slice Qt Qtn Qtc, .slice Qx Qxn Qxc, .slice Qr Qrn Qrc, .slice Qn Qnn Qnc, .slice Qh Qhn Qhc, .slice Ql Qln Qlc] 30)).alloc (.cells #[.int .i64 (qx : Nat), .int .i64 (qy : Nat)] 32))) := HB2.out.trans ((hb3.trans (hb34.mono hb3.size)).mono HB2.out.size)
            have HA4 := Lib.hid (HAW.out _ HB4.out)
            clear hr3 hb3 hb34
            go_wp2_with fail
            refine HA4.out.mono ?_
            rintro en w5 ⟨rfl, hb5⟩
            go_wp2
            go_ret
            exact ⟨rfl, HB4.out.trans (hb5.mono HB4.out.size)⟩
          · have HEQ : Hid (readV (d ++ [10]) l = readV d l) := by
              rcases HSN with h | h
              · exact absurd h h10
              · exact h
            obtain ⟨px, py, hp⟩ : ∃ px py, posR d (readV d l).2.1 = (px, py) := ⟨_, _, rfl⟩
            obtain ⟨er, her⟩ : ∃ er, (readV d l).2.2 = er := ⟨_, rfl⟩
            obtain ⟨cc, hcc⟩ : ∃ cc, (readV d l).1 = cc := ⟨_, rfl⟩
            have h10b : ((er : Int) == 10) = false := by
              rw [beq_eq_false_iff_ne]
              intro e
              exact h10 ⟨by omega, by rw [HEQ.out]; omega⟩
            rw [hp, her, hcc] at HV1
            dsimp only at HV1
            have HPP := Lib.hid hp
            have HER := Lib.hid her
            have HC := Lib.hid hcc
            clear hp her hcc h10 HSN
            go_enter Tryd.func4, Tryd.ntmps4
            go_wp2_with fail
            refine HV1.out.mono ?_
            rintro en w1 ⟨⟨⟨Pa, Pan, Pac⟩, ⟨Pt, Ptn, Ptc⟩, ⟨Px, Pxn, Pxc⟩, ⟨Pr, Prn, Prc⟩, ⟨Pn, Pnn, Pnc⟩, ⟨Ph, Phn, Phc⟩, ⟨Pl, Pln, Plc⟩⟩, rfl, hr1, hb1⟩
            have hb12 : Below w1.heap.size w1 ((w1.alloc (.cells #[.slice Pa Pan Pac, .slice Pt Ptn Ptc, .slice Px Pxn Pxc, .slice Pr Prn Prc, .slice Pn Pnn Pnc, .slice Ph Phn Phc, .slice Pl Pln Plc] 30)).alloc (.cells #[.int .i64 (px : Nat), .int .i64 (py : Nat)] 32)) := ((Below.refl _ _).alloc (Nat.le_refl _) _).alloc (by simp) _
            have hB2 : Below w.heap.size w ((w1.alloc (.cells #[.slice Pa Pan Pac, .slice Pt Ptn Ptc, .slice Px Pxn Pxc, .slice Pr Prn Prc, .slice Pn Pnn Pnc, .slice Ph Phn Phc, .slice Pl Pln Plc] 30)).alloc (.cells #[.int .i64 (px : Nat), .int .i64 (py : Nat)] 32)) := hb1.trans (hb12.mono hb1.size)
            have HV2 := Lib.hid (HV.out ((w1.alloc (.cells #[.slice Pa Pan Pac, .slice Pt Ptn Ptc, .slice Px Pxn Pxc, .slice Pr Prn Prc, .slice Pn Pnn Pnc, .slice Ph Phn Phc, .slice Pl Pln Plc] 30)).alloc (.cells #[.int .i64 (px : Nat), .int .i64 (py : Nat)] 32)) hB2)
            unfold VRead at HV2
            rw [HEQ.out, HPS.out, HPP.out, HER.out, HC.out] at HV2
            dsimp only at HV2
            have HR2 : Hid (Reads ((w1.alloc (.cells #[.slice Pa Pan Pac, .slice Pt Ptn Ptc, .slice Px Pxn Pxc, .slice Pr Prn Prc, .slice Pn Pnn Pnc, .slice Ph Phn Phc, .slice Pl Pln Plc] 30)).alloc (.cells #[.int .i64 (px : Nat), .int .i64 (py : Nat)] 32)) w1.heap.size ⟨⟨Pa, Pan, Pac⟩, ⟨Pt, Ptn, Ptc⟩, ⟨Px, Pxn, Pxc⟩, ⟨Pr, Prn, Prc⟩, ⟨Pn, Pnn, Pnc⟩, ⟨Ph, Phn, Phc⟩, ⟨Pl, Pln, Plc⟩⟩ _) := hr1.under hb12
            have hp2 := Blk.new (w1.alloc (.cells #[.slice Pa Pan Pac, .slice Pt Ptn Ptc, .slice Px Pxn Pxc, .slice Pr Prn Prc, .slice Pn Pnn Pnc, .slice Ph Phn Phc, .slice Pl Pln Plc] 30)) 32 #[.int .i64 (px : Nat), .int .i64 (py : Nat)]
            rw [World.size_alloc] at hp2
            have HP2 := Lib.hid hp2
            have HC2 : Hid (Blk ((w1.alloc (.cells #[.slice Pa Pan Pac, .slice Pt Ptn Ptc, .slice Px Pxn Pxc, .slice Pr Prn Prc, .slice Pn Pnn Pnc, .slice Ph Phn Phc, .slice Pl Pln Plc] 30)).alloc (.cells #[.int .i64 (px : Nat), .int .i64 (py : Nat)] 32)) w1.heap.size 30 _) := (Blk.new w1 _ #[.slice Pa Pan Pac, .slice Pt Ptn Ptc, .slice Px Pxn Pxc, .slice Pr Prn Prc, .slice Pn Pnn Pnc, .slice Ph Phn Phc, .slice Pl Pln Plc]).alloc _
            have HB2 := Lib.hid hB2
            have hs12 := hb12.size
            clear hr1 hb1 hb12 hB2 hp2
            go_wp2_with fail
            refine HV2.out.mono ?_
            rintro en w3 ⟨⟨⟨Qa, Qan, Qac⟩, ⟨Qt, Qtn, Qtc⟩, ⟨Qx, Qxn, Qxc⟩, ⟨Qr, Qrn, Qrc⟩, ⟨Qn, Qnn, Qnc⟩, ⟨Qh, Qhn, Qhc⟩, ⟨Ql, Qln, Qlc⟩⟩, rfl, hr3, hb3⟩
            have hb34 : Below w3.heap.size w3 ((w3.alloc (.cells #[.slice Qa Qan Qac, .slice Qt Qtn Qtc, .slice Qx Qxn Qxc, .slice Qr Qrn Qrc, .slice Qn Qnn Qnc, .slice Qh Qhn Qhc, .slice Ql Qln Qlc] 30)).alloc (.cells #[.int .i64 (px : Nat), .int .i64 (py : Nat)] 32)) := ((Below.refl _ _).alloc (Nat.le_refl _) _).alloc (by simp) _
            have HB4 : Hid (Below w.heap.size w ((w3.alloc (.cells #[.slice Qa Qan Qac, .slice Qt Qtn Qtc, .slice Qx Qxn Qxc, .slice Qr Qrn Qrc, .slice Qn Qnn Qnc, .slice Qh Qhn Qhc, .slice Ql Qln Qlc] 30)).alloc (.cells #[.int .i64 (px : Nat), .int .i64 (py : Nat)] 32))) := HB2.out.trans ((hb3.trans (hb34.mono hb3.size)).mono HB2.out.size)
            have hr4 : Reads ((w3.alloc (.cells #[.slice Qa Qan Qac, .slice Qt Qtn Qtc, .slice Qx Qxn Qxc, .slice Qr Qrn Qrc, .slice Qn Qnn Qnc, .slice Qh Qhn Qhc, .slice Ql Qln Qlc] 30)).alloc (.cells #[.int .i64 (px : Nat), .int .i64 (py : Nat)] 32)) (World.heap ((w3.alloc (.cells #[.slice Qa Qan Qac, .slice Qt Qtn Qtc, .slice Qx Qxn Qxc, .slice Qr Qrn Qrc, .slice Qn Qnn Qnc, .slice Qh Qhn Qhc, .slice Ql Qln Qlc] 30)).alloc (.cells #[.int .i64 (px : Nat), .int .i64 (py : Nat)] 32))).size ⟨⟨Qa, Qan, Qac⟩, ⟨Qt, Qtn, Qtc⟩, ⟨Qx, Qxn, Qxc⟩, ⟨Qr, Qrn, Qrc⟩, ⟨Qn, Qnn, Qnc⟩, ⟨Qh, Qhn, Qhc⟩, ⟨Ql, Qln, Qlc⟩⟩ cc := (hr3.under hb34).up hb34.size
            have hb24 := hb3.trans (hb34.mono hb3.size)
            have hr42 : Reads ((w3.alloc (.cells #[.slice Qa Qan Qac, .slice Qt Qtn Qtc, .slice Qx Qxn Qxc, .slice Qr Qrn Qrc, .slice Qn Qnn Qnc, .slice Qh Qhn Qhc, .slice Ql Qln Qlc] 30)).alloc (.cells #[.int .i64 (px : Nat), .int .i64 (py : Nat)] 32)) (World.heap ((w3.alloc (.cells #[.slice Qa Qan Qac, .slice Qt Qtn Qtc, .slice Qx Qxn Qxc, .slice Qr Qrn Qrc, .slice Qn Qnn Qnc, .slice Qh Qhn Qhc, .slice Ql Qln Qlc] 30)).alloc (.cells #[.int .i64 (px : Nat), .int .i64 (py : Nat)] 32))).size ⟨⟨Pa, Pan, Pac⟩, ⟨Pt, Ptn, Ptc⟩, ⟨Px, Pxn, Pxc⟩, ⟨Pr, Prn, Prc⟩, ⟨Pn, Pnn, Pnc⟩, ⟨Ph, Phn, Phc⟩, ⟨Pl, Pln, Plc⟩⟩ cc := (HR2.out.under (hb24.mono hs12)).up (Nat.le_trans hs12 hb24.size)
            have hp4 := HP2.out.below hb24
            have hc4 := HC2.out.below hb24
            have hq4 := Blk.new (w3.alloc (.cells #[.slice Qa Qan Qac, .slice Qt Qtn Qtc, .slice Qx Qxn Qxc, .slice Qr Qrn Qrc, .slice Qn Qnn Qnc, .slice Qh Qhn Qhc, .slice Ql Qln Qlc] 30)) 32 #[.int .i64 (px : Nat), .int .i64 (py : Nat)]
            rw [World.size_alloc] at hq4
            have hd4 : Blk ((w3.alloc (.cells #[.slice Qa Qan Qac, .slice Qt Qtn Qtc, .slice Qx Qxn Qxc, .slice Qr Qrn Qrc, .slice Qn Qnn Qnc, .slice Qh Qhn Qhc, .slice Ql Qln Qlc] 30)).alloc (.cells #[.int .i64 (px : Nat), .int .i64 (py : Nat)] 32)) w3.heap.size 30 _ := (Blk.new w3 _ #[.slice Qa Qan Qac, .slice Qt Qtn Qtc, .slice Qx Qxn Qxc, .slice Qr Qrn Qrc, .slice Qn Qnn Qnc, .slice Qh Qhn Qhc, .slice Ql Qln Qlc]).alloc _
            have a0 : _ = some (Value.slice Pa Pan Pac) := hc4.cell 0
            have a1 : _ = some (Value.slice Pt Ptn Ptc) := hc4.cell 1
            have a2 : _ = some (Value.slice Px Pxn Pxc) := hc4.cell 2
            have a3 : _ = some (Value.slice Pr Prn Prc) := hc4.cell 3
            have a4 : _ = some (Value.slice Pn Pnn Pnc) := hc4.cell 4
            have a5 : _ = some (Value.slice Ph Phn Phc) := hc4.cell 5
            have a6 : _ = some (Value.slice Pl Pln Plc) := hc4.cell 6
            have b0 : _ = some (Value.slice Qa Qan Qac) := hd4.cell 0
            have b1 : _ = some (Value.slice Qt Qtn Qtc) := hd4.cell 1
            have b2 : _ = some (Value.slice Qx Qxn Qxc) := hd4.cell 2
            have b3 : _ = some (Value.slice Qr Qrn Qrc) := hd4.cell 3
            have b4 : _ = some (Value.slice Qn Qnn Qnc) := hd4.cell 4
            have b5 : _ = some (Value.slice Qh Qhn Qhc) := hd4.cell 5
            have b6 : _ = some (Value.slice Ql Qln Qlc) := hd4.cell 6
            have p0 : _ = some (Value.int .i64 (px : Nat)) := hp4.cell 0
            have p1 : _ = some (Value.int .i64 (py : Nat)) := hp4.cell 1
            have q0 : _ = some (Value.int .i64 (px : Nat)) := hq4.cell 0
            have q1 : _ = some (Value.int .i64 (py : Nat)) := hq4.cell 1
            have HQE := Lib.hid (refEqual_any ⟨⟨Pa, Pan, Pac⟩, ⟨Pt, Ptn, Ptc⟩, ⟨Px, Pxn, Pxc⟩, ⟨Pr, Prn, Prc⟩, ⟨Pn, Pnn, Pnc⟩, ⟨Ph, Phn, Phc⟩, ⟨Pl, Pln, Plc⟩⟩ ⟨⟨Qa, Qan, Qac⟩, ⟨Qt, Qtn, Qtc⟩, ⟨Qx, Qxn, Qxc⟩, ⟨Qr, Qrn, Qrc⟩, ⟨Qn, Qnn, Qnc⟩, ⟨Qh, Qhn, Qhc⟩, ⟨Ql, Qln, Qlc⟩⟩ cc cc ((w3.alloc (.cells #[.slice Qa Qan Qac, .slice Qt Qtn Qtc, .slice Qx Qxn Qxc, .slice Qr Qrn Qrc, .slice Qn Qnn Qnc, .slice Qh Qhn Qhc, .slice Ql Qln Qlc] 30)).alloc (.cells #[.int .i64 (px : Nat), .int .i64 (py : Nat)] 32)) hr42 hr4)
            rw [same_t rfl] at HQE
            have HA5 : Hid (∀ W, Below (World.heap ((w3.alloc (.cells #[.slice Qa Qan Qac, .slice Qt Qtn Qtc, .slice Qx Qxn Qxc, .slice Qr Qrn Qrc, .slice Qn Qnn Qnc, .slice Qh Qhn Qhc, .slice Ql Qln Qlc] 30)).alloc (.cells #[.int .i64 (px : Nat), .int .i64 (py : Nat)] 32))).size ((w3.alloc (.cells #[.slice Qa Qan Qac, .slice Qt Qtn Qtc, .slice Qx Qxn Qxc, .slice Qr Qrn Qrc, .slice Qn Qnn Qnc, .slice Qh Qhn Qhc, .slice Ql Qln Qlc] 30)).alloc (.cells #[.int .i64 (px : Nat), .int .i64 (py : Nat)] 32)) W → Calls Tryd.prog 7 #[] W (Kept (.bool true) W)) := fun W hW => HAW.out W (HB4.out.trans (hW.mono HB4.out.size))
            clear hr3 hb3 hb34 hr4 hr42 hb24 hp4 hc4 hq4 hd4
            go_wp2_with fail
            refine HQE.out.mono ?_
            rintro en w5 ⟨rfl, hb5⟩
            go_wp2_with fail
            refine (HA5.out w5 hb5).mono ?_
            rintro en w6 ⟨rfl, hb6⟩
            go_wp2
            go_ret
            exact ⟨rfl, HB4.out.trans ((hb5.trans (hb6.mono hb5.size)).mono HB4.out.size)⟩
end Go.Proofs.YtgkdaebiefhgdaaDoor
