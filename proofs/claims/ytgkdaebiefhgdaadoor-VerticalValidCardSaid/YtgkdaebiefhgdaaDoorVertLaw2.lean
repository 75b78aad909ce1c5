/-
  The law VerticalValid: it returns true. Conditions: the attributes read as they do, the text's length is an int, MaxLen's cell holds a number.
-/
import Derived.Test.YtgkdaebiefhgdaaDoorVertAwk
import Derived.Test.YtgkdaebiefhgdaaDoorVertVd
import Derived.Test.YtgkdaebiefhgdaaDoorCorVal
namespace Go.Proofs.YtgkdaebiefhgdaaDoor
set_option linter.unusedSimpArgs false
set_option linter.unusedVariables false
open Go.RowKit
open Feat (Bs)
open Vert (readV)
attribute [local go_sem] byte_mk ByteArray.extract_mk

theorem pos_ge (pre : List (Nat × Nat × Nat)) : ∀ (p : Nat × Nat), 1 ≤ p.1 → 1 ≤ (pre.foldl Pos.stepP p).1 := by
  induction pre with
  | nil => intro p h; exact h
  | cons u pre ih =>
    intro p h
    rw [List.foldl_cons]
    refine ih _ ?_
    unfold Pos.stepP
    split
    · exact Nat.succ_le_succ (Nat.zero_le _)
    · exact h
theorem posOf_ge (d : Bs) (k : Nat) : 1 ≤ (Pos.posOf d k).1 := pos_ge _ _ (Nat.le_refl _)
theorem check_ok {c : Cor.C} (h : Cor.valid c = true) : ∃ p i, Cor.check c = (p, i, 0) := by
  unfold Cor.valid at h
  obtain ⟨p, i, e, hc⟩ : ∃ p i e, Cor.check c = (p, i, e) := ⟨_, _, _, rfl⟩
  rw [hc] at h
  have : e = 0 := by simpa using h
  subst this
  exact ⟨p, i, hc⟩

set_option maxRecDepth 100000 in
set_option maxHeartbeats 8000000 in
theorem law_vvalid (A : Option Addr) (n c : Nat) (l : List At) (d : Bs) (m : Int) (w : World) (ha : Atts w w.heap.size ⟨A, n, c⟩ l) (hd : d.length ≤ 9223372036854775807) (hm : w.cell? ⟨0, 0, none⟩ = some (.int .i64 m)) :
    Calls Tryd.prog 3 #[str d, .slice A n c] w (Kept (.bool true) w) := by
  have hw0 : 0 < w.heap.size := by
    rcases Nat.eq_zero_or_pos w.heap.size with h | h
    · have : w.heap[0]? = none := Array.getElem?_eq_none (by omega)
      simp [World.cell?, this] at hm
    · exact h
  have hnn : n ≤ 9223372036854775807 := ha.fit.2
  by_cases h1 : 3000 < d.length
  · go_enter Tryd.func3, Tryd.ntmps3
    go_wp2
    go_ret
    exact ⟨rfl, Below.refl _ _⟩
  · by_cases hn12 : 12 < n
    · go_enter Tryd.func3, Tryd.ntmps3
      go_wp2
      go_ret
      exact ⟨rfl, Below.refl _ _⟩
    · have HV1 := Lib.hid (vparse_any A n c l d m w ha hd hm)
      have HAW : Hid (∀ W : World, Below w.heap.size w W → Calls Tryd.prog 7 #[] W (Kept (.bool true) W)) := fun W hW => vawake_any m W ((hW.cell (p := ⟨0, 0, none⟩) hw0).trans hm)
      unfold VRead at HV1
      obtain ⟨er, her⟩ : ∃ er, (readV d l).2.2 = er := ⟨_, rfl⟩
      obtain ⟨cc, hcc⟩ : ∃ cc, (readV d l).1 = cc := ⟨_, rfl⟩
      by_cases h0 : er = 0
      · subst h0
        obtain ⟨hv, hno, hhe, hpo⟩ := readV_valid her
        rw [her, hcc, hpo] at HV1
        rw [hcc] at hv hno hhe
        obtain ⟨p1, i1, hck⟩ := check_ok hv
        have HCK := Lib.hid hck
        have HNO := Lib.hid hno
        have HHE := Lib.hid hhe
        clear her hcc hpo hv hno hhe hck
        obtain ⟨px, hpx⟩ : ∃ px : Nat, px = 0 := ⟨_, rfl⟩
        obtain ⟨py, hpy⟩ : ∃ py : Nat, py = 0 := ⟨_, rfl⟩
        rw [show posR d none = (px, py) by rw [hpx, hpy]; rfl] at HV1
        dsimp only at HV1
        go_enter Tryd.func3, Tryd.ntmps3
        go_wp2_with fail
        refine HV1.out.mono ?_
        rintro en w1 ⟨⟨⟨Pa, Pan, Pac⟩, ⟨Pt, Ptn, Ptc⟩, ⟨Px, Pxn, Pxc⟩, ⟨Pr, Prn, Prc⟩, ⟨Pn, Pnn, Pnc⟩, ⟨Ph, Phn, Phc⟩, ⟨Pl, Pln, Plc⟩⟩, rfl, hr1, hb1⟩
        obtain rfl : Pnn = 0 := by have h1 : cc.nods.length = Pnn := hr1.n.len; rw [← h1, HNO.out]; rfl
        obtain rfl : Phn = 0 := by have h1 : cc.heads.length = Phn := hr1.h.len; rw [← h1, HHE.out]; rfl
        have hb12 : Below w1.heap.size w1 ((w1.alloc (.cells #[.slice Pa Pan Pac, .slice Pt Ptn Ptc, .slice Px Pxn Pxc, .slice Pr Prn Prc, .slice Pn 0 Pnc, .slice Ph 0 Phc, .slice Pl Pln Plc] 30)).alloc (.cells #[.int .i64 (px : Nat), .int .i64 (py : Nat)] 32)) := ((Below.refl _ _).alloc (Nat.le_refl _) _).alloc (by simp) _
        have HB2 : Hid (Below w.heap.size w ((w1.alloc (.cells #[.slice Pa Pan Pac, .slice Pt Ptn Ptc, .slice Px Pxn Pxc, .slice Pr Prn Prc, .slice Pn 0 Pnc, .slice Ph 0 Phc, .slice Pl Pln Plc] 30)).alloc (.cells #[.int .i64 (px : Nat), .int .i64 (py : Nat)] 32))) := hb1.trans (hb12.mono hb1.size)
        have HR2 : Hid (Reads ((w1.alloc (.cells #[.slice Pa Pan Pac, .slice Pt Ptn Ptc, .slice Px Pxn Pxc, .slice Pr Prn Prc, .slice Pn 0 Pnc, .slice Ph 0 Phc, .slice Pl Pln Plc] 30)).alloc (.cells #[.int .i64 (px : Nat), .int .i64 (py : Nat)] 32)) (World.heap ((w1.alloc (.cells #[.slice Pa Pan Pac, .slice Pt Ptn Ptc, .slice Px Pxn Pxc, .slice Pr Prn Prc, .slice Pn 0 Pnc, .slice Ph 0 Phc, .slice Pl Pln Plc] 30)).alloc (.cells #[.int .i64 (px : Nat), .int .i64 (py : Nat)] 32))).size ⟨⟨Pa, Pan, Pac⟩, ⟨Pt, Ptn, Ptc⟩, ⟨Px, Pxn, Pxc⟩, ⟨Pr, Prn, Prc⟩, ⟨Pn, 0, Pnc⟩, ⟨Ph, 0, Phc⟩, ⟨Pl, Pln, Plc⟩⟩ cc) := (hr1.under hb12).up hb12.size
        have hp2 := Blk.new (w1.alloc (.cells #[.slice Pa Pan Pac, .slice Pt Ptn Ptc, .slice Px Pxn Pxc, .slice Pr Prn Prc, .slice Pn 0 Pnc, .slice Ph 0 Phc, .slice Pl Pln Plc] 30)) 32 #[.int .i64 (px : Nat), .int .i64 (py : Nat)]
        rw [World.size_alloc] at hp2
        have hc2 : Blk ((w1.alloc (.cells #[.slice Pa Pan Pac, .slice Pt Ptn Ptc, .slice Px Pxn Pxc, .slice Pr Prn Prc, .slice Pn 0 Pnc, .slice Ph 0 Phc, .slice Pl Pln Plc] 30)).alloc (.cells #[.int .i64 (px : Nat), .int .i64 (py : Nat)] 32)) w1.heap.size 30 #[.slice Pa Pan Pac, .slice Pt Ptn Ptc, .slice Px Pxn Pxc, .slice Pr Prn Prc, .slice Pn 0 Pnc, .slice Ph 0 Phc, .slice Pl Pln Plc] := (Blk.new w1 _ _).alloc _
        subst hpx hpy
        have a0 : _ = some (Value.slice Pa Pan Pac) := hc2.cell 0
        have a1 : _ = some (Value.slice Pt Ptn Ptc) := hc2.cell 1
        have a2 : _ = some (Value.slice Px Pxn Pxc) := hc2.cell 2
        have a3 : _ = some (Value.slice Pr Prn Prc) := hc2.cell 3
        have a4 : _ = some (Value.slice Pn 0 Pnc) := hc2.cell 4
        have a5 : _ = some (Value.slice Ph 0 Phc) := hc2.cell 5
        have a6 : _ = some (Value.slice Pl Pln Plc) := hc2.cell 6
        have HV3 := Lib.hid (validate_any ⟨⟨Pa, Pan, Pac⟩, ⟨Pt, Ptn, Ptc⟩, ⟨Px, Pxn, Pxc⟩, ⟨Pr, Prn, Prc⟩, ⟨Pn, 0, Pnc⟩, ⟨Ph, 0, Phc⟩, ⟨Pl, Pln, Plc⟩⟩ cc ((w1.alloc (.cells #[.slice Pa Pan Pac, .slice Pt Ptn Ptc, .slice Px Pxn Pxc, .slice Pr Prn Prc, .slice Pn 0 Pnc, .slice Ph 0 Phc, .slice Pl Pln Plc] 30)).alloc (.cells #[.int .i64 ((0 : Nat) : Nat), .int .i64 ((0 : Nat) : Nat)] 32)) HR2.out)
        unfold Valed at HV3
        rw [HCK.out] at HV3
        have HP2 := Lib.hid hp2
        have HC2 := Lib.hid hc2
        clear hr1 hb1 hb12 hp2 hc2
        go_wp2_with fail
        refine HV3.out.mono ?_
        rintro en w3 ⟨rfl, hb3⟩
        have hp3 := HP2.out.below hb3
        have hc3 := HC2.out.below hb3
        have q0 : _ = some (Value.int .i64 (0 : Nat)) := hp3.cell 0
        have q1 : _ = some (Value.int .i64 (0 : Nat)) := hp3.cell 1
        have b4 : _ = some (Value.slice Pn 0 Pnc) := hc3.cell 4
        have b5 : _ = some (Value.slice Ph 0 Phc) := hc3.cell 5
        have HB3 : Hid (Below w.heap.size w w3) := HB2.out.trans (hb3.mono HB2.out.size)
        have HA3 := Lib.hid (HAW.out w3 HB3.out)
        clear hp3 hc3 hb3 a0 a1 a2 a3 a4 a5 a6
        go_wp2_with fail
        refine HA3.out.mono ?_
        rintro en w4 ⟨rfl, hb4⟩
        go_wp2
        go_ret
        exact ⟨rfl, HB3.out.trans (hb4.mono HB3.out.size)⟩
      · have hre := readV_err (by rw [her]; exact h0)
        rw [her, hcc] at hre HV1
        obtain ⟨rfl, hre⟩ := hre
        have e0 : ((er : Int) == 0) = false := by rw [beq_eq_false_iff_ne]; omega
        rcases hre with ⟨hpo, he12⟩ | ⟨k, hpo, hk⟩
        · rw [hpo] at HV1
          clear her hcc hpo
          obtain ⟨px, hpx⟩ : ∃ px : Nat, px = 0 := ⟨_, rfl⟩
          obtain ⟨py, hpy⟩ : ∃ py : Nat, py = 0 := ⟨_, rfl⟩
          rw [show posR d none = (px, py) by rw [hpx, hpy]; rfl] at HV1
          dsimp only at HV1
          obtain ⟨cc, hnil⟩ : ∃ cc, Cor.nil = cc := ⟨_, rfl⟩
          rw [hnil] at HV1
          have HNT : Hid (cc.toks = []) := by show _ = _; rw [← hnil]; rfl
          clear hnil
          rcases he12 with rfl | rfl
          · go_enter Tryd.func3, Tryd.ntmps3
            go_wp2_with fail
            refine HV1.out.mono ?_
            rintro en w1 ⟨⟨⟨Pa, Pan, Pac⟩, ⟨Pt, Ptn, Ptc⟩, ⟨Px, Pxn, Pxc⟩, ⟨Pr, Prn, Prc⟩, ⟨Pn, Pnn, Pnc⟩, ⟨Ph, Phn, Phc⟩, ⟨Pl, Pln, Plc⟩⟩, rfl, hr1, hb1⟩
            obtain rfl : Ptn = 0 := by have h1 : cc.toks.length = Ptn := hr1.t.len; rw [← h1, HNT.out]; rfl
            have hb12 : Below w1.heap.size w1 ((w1.alloc (.cells #[.slice Pa Pan Pac, .slice Pt 0 Ptc, .slice Px Pxn Pxc, .slice Pr Prn Prc, .slice Pn Pnn Pnc, .slice Ph Phn Phc, .slice Pl Pln Plc] 30)).alloc (.cells #[.int .i64 (px : Nat), .int .i64 (py : Nat)] 32)) := ((Below.refl _ _).alloc (Nat.le_refl _) _).alloc (by simp) _
            have HB2 : Hid (Below w.heap.size w ((w1.alloc (.cells #[.slice Pa Pan Pac, .slice Pt 0 Ptc, .slice Px Pxn Pxc, .slice Pr Prn Prc, .slice Pn Pnn Pnc, .slice Ph Phn Phc, .slice Pl Pln Plc] 30)).alloc (.cells #[.int .i64 (px : Nat), .int .i64 (py : Nat)] 32))) := hb1.trans (hb12.mono hb1.size)
            have HR2 : Hid (Reads ((w1.alloc (.cells #[.slice Pa Pan Pac, .slice Pt 0 Ptc, .slice Px Pxn Pxc, .slice Pr Prn Prc, .slice Pn Pnn Pnc, .slice Ph Phn Phc, .slice Pl Pln Plc] 30)).alloc (.cells #[.int .i64 (px : Nat), .int .i64 (py : Nat)] 32)) (World.heap ((w1.alloc (.cells #[.slice Pa Pan Pac, .slice Pt 0 Ptc, .slice Px Pxn Pxc, .slice Pr Prn Prc, .slice Pn Pnn Pnc, .slice Ph Phn Phc, .slice Pl Pln Plc] 30)).alloc (.cells #[.int .i64 (px : Nat), .int .i64 (py : Nat)] 32))).size ⟨⟨Pa, Pan, Pac⟩, ⟨Pt, 0, Ptc⟩, ⟨Px, Pxn, Pxc⟩, ⟨Pr, Prn, Prc⟩, ⟨Pn, Pnn, Pnc⟩, ⟨Ph, Phn, Phc⟩, ⟨Pl, Pln, Plc⟩⟩ cc) := (hr1.under hb12).up hb12.size
            have hp2 := Blk.new (w1.alloc (.cells #[.slice Pa Pan Pac, .slice Pt 0 Ptc, .slice Px Pxn Pxc, .slice Pr Prn Prc, .slice Pn Pnn Pnc, .slice Ph Phn Phc, .slice Pl Pln Plc] 30)) 32 #[.int .i64 (px : Nat), .int .i64 (py : Nat)]
            rw [World.size_alloc] at hp2
            have hc2 : Blk ((w1.alloc (.cells #[.slice Pa Pan Pac, .slice Pt 0 Ptc, .slice Px Pxn Pxc, .slice Pr Prn Prc, .slice Pn Pnn Pnc, .slice Ph Phn Phc, .slice Pl Pln Plc] 30)).alloc (.cells #[.int .i64 (px : Nat), .int .i64 (py : Nat)] 32)) w1.heap.size 30 #[.slice Pa Pan Pac, .slice Pt 0 Ptc, .slice Px Pxn Pxc, .slice Pr Prn Prc, .slice Pn Pnn Pnc, .slice Ph Phn Phc, .slice Pl Pln Plc] := (Blk.new w1 _ _).alloc _
            subst hpx hpy
            have q0 : _ = some (Value.int .i64 (0 : Nat)) := hp2.cell 0
            have q1 : _ = some (Value.int .i64 (0 : Nat)) := hp2.cell 1
            have b1 : _ = some (Value.slice Pt 0 Ptc) := hc2.cell 1
            have HA3 := Lib.hid (HAW.out _ HB2.out)
            clear hr1 hb1 hb12 hp2 hc2 HR2
            go_wp2_with fail
            refine HA3.out.mono ?_
            rintro en w4 ⟨rfl, hb4⟩
            go_wp2
            go_ret
            exact ⟨rfl, HB2.out.trans (hb4.mono HB2.out.size)⟩
          · go_enter Tryd.func3, Tryd.ntmps3
            go_wp2_with fail
            refine HV1.out.mono ?_
            rintro en w1 ⟨⟨⟨Pa, Pan, Pac⟩, ⟨Pt, Ptn, Ptc⟩, ⟨Px, Pxn, Pxc⟩, ⟨Pr, Prn, Prc⟩, ⟨Pn, Pnn, Pnc⟩, ⟨Ph, Phn, Phc⟩, ⟨Pl, Pln, Plc⟩⟩, rfl, hr1, hb1⟩
            obtain rfl : Ptn = 0 := by have h1 : cc.toks.length = Ptn := hr1.t.len; rw [← h1, HNT.out]; rfl
            have hb12 : Below w1.heap.size w1 ((w1.alloc (.cells #[.slice Pa Pan Pac, .slice Pt 0 Ptc, .slice Px Pxn Pxc, .slice Pr Prn Prc, .slice Pn Pnn Pnc, .slice Ph Phn Phc, .slice Pl Pln Plc] 30)).alloc (.cells #[.int .i64 (px : Nat), .int .i64 (py : Nat)] 32)) := ((Below.refl _ _).alloc (Nat.le_refl _) _).alloc (by simp) _
            have HB2 : Hid (Below w.heap.size w ((w1.alloc (.cells #[.slice Pa Pan Pac, .slice Pt 0 Ptc, .slice Px Pxn Pxc, .slice Pr Prn Prc, .slice Pn Pnn Pnc, .slice Ph Phn Phc, .slice Pl Pln Plc] 30)).alloc (.cells #[.int .i64 (px : Nat), .int .i64 (py : Nat)] 32))) := hb1.trans (hb12.mono hb1.size)
            have HR2 : Hid (Reads ((w1.alloc (.cells #[.slice Pa Pan Pac, .slice Pt 0 Ptc, .slice Px Pxn Pxc, .slice Pr Prn Prc, .slice Pn Pnn Pnc, .slice Ph Phn Phc, .slice Pl Pln Plc] 30)).alloc (.cells #[.int .i64 (px : Nat), .int .i64 (py : Nat)] 32)) (World.heap ((w1.alloc (.cells #[.slice Pa Pan Pac, .slice Pt 0 Ptc, .slice Px Pxn Pxc, .slice Pr Prn Prc, .slice Pn Pnn Pnc, .slice Ph Phn Phc, .slice Pl Pln Plc] 30)).alloc (.cells #[.int .i64 (px : Nat), .int .i64 (py : Nat)] 32))).size ⟨⟨Pa, Pan, Pac⟩, ⟨Pt, 0, Ptc⟩, ⟨Px, Pxn, Pxc⟩, ⟨Pr, Prn, Prc⟩, ⟨Pn, Pnn, Pnc⟩, ⟨Ph, Phn, Phc⟩, ⟨Pl, Pln, Plc⟩⟩ cc) := (hr1.under hb12).up hb12.size
            have hp2 := Blk.new (w1.alloc (.cells #[.slice Pa Pan Pac, .slice Pt 0 Ptc, .slice Px Pxn Pxc, .slice Pr Prn Prc, .slice Pn Pnn Pnc, .slice Ph Phn Phc, .slice Pl Pln Plc] 30)) 32 #[.int .i64 (px : Nat), .int .i64 (py : Nat)]
            rw [World.size_alloc] at hp2
            have hc2 : Blk ((w1.alloc (.cells #[.slice Pa Pan Pac, .slice Pt 0 Ptc, .slice Px Pxn Pxc, .slice Pr Prn Prc, .slice Pn Pnn Pnc, .slice Ph Phn Phc, .slice Pl Pln Plc] 30)).alloc (.cells #[.int .i64 (px : Nat), .int .i64 (py : Nat)] 32)) w1.heap.size 30 #[.slice Pa Pan Pac, .slice Pt 0 Ptc, .slice Px Pxn Pxc, .slice Pr Prn Prc, .slice Pn Pnn Pnc, .slice Ph Phn Phc, .slice Pl Pln Plc] := (Blk.new w1 _ _).alloc _
            subst hpx hpy
            have q0 : _ = some (Value.int .i64 (0 : Nat)) := hp2.cell 0
            have q1 : _ = some (Value.int .i64 (0 : Nat)) := hp2.cell 1
            have b1 : _ = some (Value.slice Pt 0 Ptc) := hc2.cell 1
            have HA3 := Lib.hid (HAW.out _ HB2.out)
            clear hr1 hb1 hb12 hp2 hc2 HR2
            go_wp2_with fail
            refine HA3.out.mono ?_
            rintro en w4 ⟨rfl, hb4⟩
            go_wp2
            go_ret
            exact ⟨rfl, HB2.out.trans (hb4.mono HB2.out.size)⟩
        · rw [hpo] at HV1
          clear her hcc hpo
          obtain ⟨px, py, hpp⟩ : ∃ px py, Pos.posOf d k = (px, py) := ⟨_, _, rfl⟩
          rw [show posR d (some k) = (px, py) from hpp] at HV1
          dsimp only at HV1
          have hpx1 : 1 ≤ px := by have := posOf_ge d k; rw [hpp] at this; exact this
          have e1 : ((px : Int) == 0) = false := by rw [beq_eq_false_iff_ne]; omega
          obtain ⟨cc, hnil⟩ : ∃ cc, Cor.nil = cc := ⟨_, rfl⟩
          rw [hnil] at HV1
          have HNT : Hid (cc.toks = []) := by show _ = _; rw [← hnil]; rfl
          have HPP := Lib.hid hpp
          clear hnil hpp
          go_enter Tryd.func3, Tryd.ntmps3
          go_wp2_with fail
          refine HV1.out.mono ?_
          rintro en w1 ⟨⟨⟨Pa, Pan, Pac⟩, ⟨Pt, Ptn, Ptc⟩, ⟨Px, Pxn, Pxc⟩, ⟨Pr, Prn, Prc⟩, ⟨Pn, Pnn, Pnc⟩, ⟨Ph, Phn, Phc⟩, ⟨Pl, Pln, Plc⟩⟩, rfl, hr1, hb1⟩
          obtain rfl : Ptn = 0 := by have h1 : cc.toks.length = Ptn := hr1.t.len; rw [← h1, HNT.out]; rfl
          have hb12 : Below w1.heap.size w1 ((w1.alloc (.cells #[.slice Pa Pan Pac, .slice Pt 0 Ptc, .slice Px Pxn Pxc, .slice Pr Prn Prc, .slice Pn Pnn Pnc, .slice Ph Phn Phc, .slice Pl Pln Plc] 30)).alloc (.cells #[.int .i64 (px : Nat), .int .i64 (py : Nat)] 32)) := ((Below.refl _ _).alloc (Nat.le_refl _) _).alloc (by simp) _
          have HB2 : Hid (Below w.heap.size w ((w1.alloc (.cells #[.slice Pa Pan Pac, .slice Pt 0 Ptc, .slice Px Pxn Pxc, .slice Pr Prn Prc, .slice Pn Pnn Pnc, .slice Ph Phn Phc, .slice Pl Pln Plc] 30)).alloc (.cells #[.int .i64 (px : Nat), .int .i64 (py : Nat)] 32))) := hb1.trans (hb12.mono hb1.size)
          have HR2 : Hid (Reads ((w1.alloc (.cells #[.slice Pa Pan Pac, .slice Pt 0 Ptc, .slice Px Pxn Pxc, .slice Pr Prn Prc, .slice Pn Pnn Pnc, .slice Ph Phn Phc, .slice Pl Pln Plc] 30)).alloc (.cells #[.int .i64 (px : Nat), .int .i64 (py : Nat)] 32)) (World.heap ((w1.alloc (.cells #[.slice Pa Pan Pac, .slice Pt 0 Ptc, .slice Px Pxn Pxc, .slice Pr Prn Prc, .slice Pn Pnn Pnc, .slice Ph Phn Phc, .slice Pl Pln Plc] 30)).alloc (.cells #[.int .i64 (px : Nat), .int .i64 (py : Nat)] 32))).size ⟨⟨Pa, Pan, Pac⟩, ⟨Pt, 0, Ptc⟩, ⟨Px, Pxn, Pxc⟩, ⟨Pr, Prn, Prc⟩, ⟨Pn, Pnn, Pnc⟩, ⟨Ph, Phn, Phc⟩, ⟨Pl, Pln, Plc⟩⟩ cc) := (hr1.under hb12).up hb12.size
          have hp2 := Blk.new (w1.alloc (.cells #[.slice Pa Pan Pac, .slice Pt 0 Ptc, .slice Px Pxn Pxc, .slice Pr Prn Prc, .slice Pn Pnn Pnc, .slice Ph Phn Phc, .slice Pl Pln Plc] 30)) 32 #[.int .i64 (px : Nat), .int .i64 (py : Nat)]
          rw [World.size_alloc] at hp2
          have hc2 : Blk ((w1.alloc (.cells #[.slice Pa Pan Pac, .slice Pt 0 Ptc, .slice Px Pxn Pxc, .slice Pr Prn Prc, .slice Pn Pnn Pnc, .slice Ph Phn Phc, .slice Pl Pln Plc] 30)).alloc (.cells #[.int .i64 (px : Nat), .int .i64 (py : Nat)] 32)) w1.heap.size 30 #[.slice Pa Pan Pac, .slice Pt 0 Ptc, .slice Px Pxn Pxc, .slice Pr Prn Prc, .slice Pn Pnn Pnc, .slice Ph Phn Phc, .slice Pl Pln Plc] := (Blk.new w1 _ _).alloc _
          have q0 : _ = some (Value.int .i64 (px : Nat)) := hp2.cell 0
          have q1 : _ = some (Value.int .i64 (py : Nat)) := hp2.cell 1
          have HP2 := Lib.hid hp2
          have HC2 := Lib.hid hc2
          clear hr1 hb1 hb12 hp2 hc2 HR2
          go_wp2_with fail
          go_loopw [11] (fun iv wr => ∃ j : Nat, iv = .int .i64 j ∧ j ≤ k ∧ Below w.heap.size w wr ∧ Blk wr (w1.heap.size + 1) 32 #[.int .i64 (px : Nat), .int .i64 (py : Nat)] ∧ Blk wr w1.heap.size 30 #[.slice Pa Pan Pac, .slice Pt 0 Ptc, .slice Px Pxn Pxc, .slice Pr Prn Prc, .slice Pn Pnn Pnc, .slice Ph Phn Phc, .slice Pl Pln Plc]) (fun iv _ => k - (intOf iv).toNat)
          case atStart => exact ⟨0, rfl, Nat.zero_le _, HB2.out, HP2.out, HC2.out⟩
          case round =>
            obtain ⟨j, rfl, hj, hb, hp, hc⟩ := hrel
            have hjd : (j : Int) ≤ (d.length : Int) := by omega
            have HPO := Lib.hid (position_any d j (by omega) wr.drew)
            have hpd := hp.off (R := 4294967295) (Off.drew _) (by decide)
            have hcd := hc.off (R := 4294967295) (Off.drew _) (by decide)
            have HPD := Lib.hid hpd
            have HCD := Lib.hid hcd
            have HBD := Lib.hid hb.drew
            have s0 : wr.cell? ⟨w1.heap.size + 1, 0, none⟩ = some (Value.int .i64 (px : Nat)) := hp.cell 0
            have s1 : wr.cell? ⟨w1.heap.size + 1, 1, none⟩ = some (Value.int .i64 (py : Nat)) := hp.cell 1
            obtain ⟨jx, jy, hjp⟩ : ∃ jx jy, Pos.posOf d j = (jx, jy) := ⟨_, _, rfl⟩
            rw [hjp] at HPO
            unfold Posd at HPO
            dsimp only at HPO
            have HJP := Lib.hid hjp
            have hw3 : IntKind.i64.wrap ((j : Int) + 1) = ((j + 1 : Nat) : Int) := by rw [IntWalk.i64_in _ (by omega)]; omega
            clear hjp hp hc hb hpd hcd q0 q1
            by_cases hx : jx = px
            · subst hx
              by_cases hy : jy = py
              · subst hy
                go_wp2
                go_region_held3 (fun W => W.cell? ⟨w1.heap.size + 1, 0, none⟩ = some (.int .i64 (jx : Nat)) ∧ W.cell? ⟨w1.heap.size + 1, 1, none⟩ = some (.int .i64 (jy : Nat))) (first | go_keep | exact ⟨x0, x1⟩) (first | (go_at_call 8; refine HPO.out.mono ?_; rintro en w5 ⟨rfl, hb5⟩; have P5 := HPD.out.below hb5; have x0 := P5.cell 0; have x1 := P5.cell 1))
                have C5 := HCD.out.below hb5
                have b1 : _ = some (Value.slice Pt 0 Ptc) := C5.cell 1
                have HB5 : Hid (Below w.heap.size w w5) := HBD.out.trans (hb5.mono HBD.out.size)
                have HA5 := Lib.hid (HAW.out w5 HB5.out)
                clear C5 hb5 P5 x0 x1
                go_wp2_with fail
                refine HA5.out.mono ?_
                rintro en w6 ⟨rfl, hb6⟩
                go_wp2
                go_ret
                exact ⟨rfl, HB5.out.trans (hb6.mono HB5.out.size)⟩
              · have f1 : ((jy : Int) == (py : Int)) = false := by rw [beq_eq_false_iff_ne]; omega
                have hjk : j < k := by
                  rcases Nat.lt_or_ge j k with h | h
                  · exact h
                  · exfalso
                    obtain rfl : j = k := by omega
                    have := HJP.out.symm.trans HPP.out
                    injection this with _ e
                    exact hy e
                go_wp2
                go_region_held3 (fun W => W.cell? ⟨w1.heap.size + 1, 0, none⟩ = some (.int .i64 (jx : Nat)) ∧ W.cell? ⟨w1.heap.size + 1, 1, none⟩ = some (.int .i64 (py : Nat))) (first | go_keep | exact ⟨x0, x1⟩) (first | (go_at_call 8; refine HPO.out.mono ?_; rintro en w5 ⟨rfl, hb5⟩; have P5 := HPD.out.below hb5; have x0 := P5.cell 0; have x1 := P5.cell 1))
                have C5 := HCD.out.below hb5
                have HB5 : Hid (Below w.heap.size w w5) := HBD.out.trans (hb5.mono HBD.out.size)
                have HC5 := Lib.hid C5
                have HP5 := Lib.hid P5
                clear C5 hb5 P5 x0 x1
                go_wp2
                go_roundw
                case rel => exact ⟨j + 1, by go_num, by omega, HB5.out, HP5.out, HC5.out⟩
                case measure => simp [intOf]; omega
            · have f1 : ((jx : Int) == (px : Int)) = false := by rw [beq_eq_false_iff_ne]; omega
              have hjk : j < k := by
                rcases Nat.lt_or_ge j k with h | h
                · exact h
                · exfalso
                  obtain rfl : j = k := by omega
                  have := HJP.out.symm.trans HPP.out
                  injection this with e _
                  exact hx e
              go_wp2
              go_region_held3 (fun W => W.cell? ⟨w1.heap.size + 1, 0, none⟩ = some (.int .i64 (px : Nat)) ∧ W.cell? ⟨w1.heap.size + 1, 1, none⟩ = some (.int .i64 (py : Nat))) (first | go_keep | exact ⟨x0, x1⟩) (first | (go_at_call 8; refine HPO.out.mono ?_; rintro en w5 ⟨rfl, hb5⟩; have P5 := HPD.out.below hb5; have x0 := P5.cell 0; have x1 := P5.cell 1))
              have C5 := HCD.out.below hb5
              have HB5 : Hid (Below w.heap.size w w5) := HBD.out.trans (hb5.mono HBD.out.size)
              have HC5 := Lib.hid C5
              have HP5 := Lib.hid P5
              clear C5 hb5 P5 x0 x1
              go_wp2
              go_roundw
              case rel => exact ⟨j + 1, by go_num, by omega, HB5.out, HP5.out, HC5.out⟩
              case measure => simp [intOf]; omega
end Go.Proofs.YtgkdaebiefhgdaaDoor
