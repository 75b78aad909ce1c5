/-
  The contract of the reference's check of heads. Conditions: none but that a corpus reads as it does.
-/
import Derived.Test.YtaihgoohmcipkaaCorTx2
import Derived.Test.YtaihgoohmcipkaaCorBare
import Derived.Deep.RegionLaw
import Derived.Deep.CutRange
import Derived.Deep.RegionHeld3
namespace Go.Proofs.Ytaihgoohmcipkaa
open Go.RowKit Utf
open Feat (Bs)
open Tagp (KV okName)
open Cor (hdF hdErr bare textAt)

set_option maxRecDepth 100000 in
set_option maxHeartbeats 8000000 in
theorem refHeads_any (H : CH) (ts : List Cor.Txt) (h : List Int) (r : List Bs) (w : World) (hft : Fit H.t) (hts : Txts w w.heap.size H.x ts) (hh : Nums w w.heap.size H.h h) (hrl : Words w w.heap.size H.l r) :
    Calls Try.prog 44 #[H.v] w (Kept (.tuple #[.int .i64 ((hdErr H.t.n ts h r).1 : Nat), .int .i64 ((hdErr H.t.n ts h r).2 : Nat)]) w) := by
  obtain ⟨ha, ⟨At, nt, ct⟩, hX, hr, hn, ⟨A, n, c⟩, ⟨A2, n2, c2⟩⟩ := H
  show Calls Try.prog 44 #[.agg #[ha.v, .slice At nt ct, hX.v, hr.v, hn.v, .slice A n c, .slice A2 n2 c2]] w (Kept (.tuple #[.int .i64 ((hdErr nt ts h r).1 : Nat), .int .i64 ((hdErr nt ts h r).2 : Nat)]) w)
  have f0 : nt ≤ 9223372036854775807 := hft.2
  have HL := Lib.hid hh.len
  have HR := Lib.hid hrl.len
  have f1 : n ≤ 9223372036854775807 := hh.1.2
  have f2 : n2 ≤ 9223372036854775807 := hrl.1.2
  clear hft
  have hB0 := (Below.refl w.heap.size w).alloc (Nat.le_refl _) (.cells #[ha.v, .slice At nt ct, hX.v, hr.v, hn.v, .slice A n c, .slice A2 n2 c2] 30)
  have hb0 := Blk.new w 30 #[ha.v, .slice At nt ct, hX.v, hr.v, hn.v, .slice A n c, .slice A2 n2 c2]
  by_cases e1 : n = n2
  · subst e1
    have hnl : h.length ≤ n ∧ n ≤ h.length := by have : h.length = n := HL.out; omega
    have hr' : Words w w.heap.size ⟨A2, n, c2⟩ r := hrl
    by_cases e2 : n = 0
    · have H1 : Hid (¬ (h.length ≠ r.length ∨ (h.length ≠ 0 ∧ h.length ≠ nt))) := by
        have h1 : h.length = n := HL.out
        have h2 : r.length = n := HR.out
        show ¬ _
        omega
      have H2 : Hid (¬ (0 < h.length ∧ bare h r = true)) := by show ¬ _; omega
      have E1 : decide (0 < n) = false := by simpa using e2
      have i2 : ¬ 0 < n := by omega
      have E0 : ((n : Int) != 0) = false := by simp [e2]
      clear e2
      go_enter Try.func44, Try.ntmps44
      go_wp2
      go_loopw [38] (fun iv wr => ∃ k : Nat, k ≤ n ∧ iv = .int .i64 k ∧ Below w.heap.size w wr ∧ Blk wr w.heap.size 30 #[ha.v, .slice At nt ct, hX.v, hr.v, hn.v, .slice A n c, .slice A2 n c2] ∧ Hid (∀ j, j < k → hdF ts h r j = 0)) (fun iv _ => n - (intOf iv).toNat)
      case atStart => exact ⟨0, by omega, rfl, hB0, hb0, fun j hj => by omega⟩
      case round =>
        obtain ⟨k, hk, rfl, hB, hbx, hinv⟩ := hrel
        by_cases hlt : k < n
        · exfalso; omega
        · have HF : Hid (hdErr nt ts h r = (0, 0)) := hdErr_zero H1.out H2.out (fun j hj => hinv.out j (by omega))
          clear hinv
          go_wp2
          go_ret2
          exact ⟨ret_p HF.out rfl rfl, hB⟩
    · have E0 : ((n : Int) != 0) = true := by rw [bne_iff_ne]; omega
      by_cases e3 : n = nt
      · subst e3
        have E1 : decide (0 < n) = true := by simp; omega
        have i2 : 0 < n := by omega
        clear e2
        have HNH := Lib.hid (bare_any A n c A2 c2 h r (w.alloc (.cells #[ha.v, .slice At n ct, hX.v, hr.v, hn.v, .slice A n c, .slice A2 n c2] 30)) ((hh.under hB0).up hB0.size) ((hr'.under hB0).up hB0.size))
        cases hba : bare h r with
        | true =>
          have HF : Hid (hdErr n ts h r = (0, 14)) := by
            have h1 : h.length = n := HL.out
            have h2 : r.length = n := HR.out
            show _ = _
            unfold hdErr
            rw [if_neg (by omega), if_pos ⟨by omega, hba⟩]
          rw [hba] at HNH
          clear hba
          go_enter Try.func44, Try.ntmps44
          go_wp2_with fail
          refine HNH.out.mono ?_
          rintro e' w1 ⟨rfl, rfl⟩
          go_wp2
          go_ret2
          exact ⟨ret_p HF.out rfl rfl, hB0⟩
        | false =>
          have H1 : Hid (¬ (h.length ≠ r.length ∨ (h.length ≠ 0 ∧ h.length ≠ n))) := by
            have h1 : h.length = n := HL.out
            have h2 : r.length = n := HR.out
            show ¬ _
            omega
          have H2 : Hid (¬ (0 < h.length ∧ bare h r = true)) := by show ¬ _; rw [hba]; simp
          rw [hba] at HNH
          clear hba
          go_enter Try.func44, Try.ntmps44
          go_wp2_with fail
          refine HNH.out.mono ?_
          rintro e' w1 ⟨rfl, rfl⟩
          clear HNH
          go_wp2
          go_loopw [38] (fun iv wr => ∃ k : Nat, k ≤ n ∧ iv = .int .i64 k ∧ Below w.heap.size w wr ∧ Blk wr w.heap.size 30 #[ha.v, .slice At n ct, hX.v, hr.v, hn.v, .slice A n c, .slice A2 n c2] ∧ Hid (∀ j, j < k → hdF ts h r j = 0)) (fun iv _ => n - (intOf iv).toNat)
          case atStart => exact ⟨0, by omega, rfl, hB0, hb0, fun j hj => by omega⟩
          case round =>
            obtain ⟨k, hk, rfl, hB, hbx, hinv⟩ := hrel
            by_cases hlt : k < n
            · obtain ⟨g, o, hk1, e0, hg, z1, c0⟩ := (hh.under hB).at_ (k := k) hlt
              have e0 : A = some ⟨g, o, none⟩ := e0
              subst e0
              obtain ⟨g2, o2, hk2, e0, hg2, z2, d0⟩ := (hr'.under hB).at_ (k := k) hlt
              have e0 : A2 = some ⟨g2, o2, none⟩ := e0
              subst e0
              have HF := Lib.hid (hdF_at (ts := ts) hk1 hk2)
              have HA := Lib.hid (fun hf => hdErr_at (n := n) H1.out H2.out hk1 hinv.out hf)
              obtain ⟨x, hx⟩ : ∃ x, h[k] = x := ⟨_, rfl⟩
              obtain ⟨s, hs⟩ : ∃ s, r[k] = s := ⟨_, rfl⟩
              rw [hx, HL.out] at HF
              rw [hx] at c0 z1
              rw [hs] at d0 HF z2
              have z2 : s.length ≤ 9223372036854775807 := z2
              have HS := Lib.hid hs
              clear hx hs
              go_wp2
              go_cut [62, 38] from 38 to 85 (fun tv iv wc => ∃ bv : Bool, tv = .bool bv ∧ iv = .int .i64 k ∧ Hid (bv = true ↔ (x ≠ -1 ∧ (x < 0 ∨ (n : Int) ≤ x ∨ textAt ts x ≠ textAt ts (k : Nat)))) ∧ Below w.heap.size w wc ∧ Blk wc w.heap.size 30 #[ha.v, .slice At n ct, hX.v, hr.v, hn.v, .slice (some ⟨g, o, none⟩) n c, .slice (some ⟨g2, o2, none⟩) n c2])
              case first =>
                clear HF HA HS
                by_cases ex : x = -1
                · subst ex
                  go_big_quiet (fail)
                  go_wp2
                  go_meet
                  case rel => exact ⟨false, rfl, rfl, by show _ ↔ _; simp, below_drewN hB _, hbx⟩
                · have E1 := bne_t ex
                  have E1d : decide (x = -1) = false := by simpa using ex
                  by_cases ex0 : x < 0
                  · have E2 : decide (x < 0) = true := by simpa using ex0
                    go_big_quiet (fail)
                    go_wp2
                    go_meet
                    case rel => exact ⟨true, rfl, rfl, by show _ ↔ _; simp [ex, ex0], below_drewN hB _, hbx⟩
                  · have E2 : decide (x < 0) = false := by simpa using ex0
                    by_cases exn : (n : Int) ≤ x
                    · have E3 : decide ((n : Int) ≤ x) = true := by simpa using exn
                      go_big_quiet (fail)
                      go_wp2
                      go_meet
                      case rel => exact ⟨true, rfl, rfl, by show _ ↔ _; simp [ex, exn], below_drewN hB _, hbx⟩
                    · have E3 : decide ((n : Int) ≤ x) = false := by simpa using exn
                      have b0 := hbx.cell 0
                      have b1 := hbx.cell 1
                      have b2 := hbx.cell 2
                      have b3 := hbx.cell 3
                      have b4 := hbx.cell 4
                      have b5 := hbx.cell 5
                      have b6 := hbx.cell 6
                      have hbD := (Below.refl wr.heap.size wr).drew
                      have HTA := Lib.hid (fun (W : World) (hW : Below wr.heap.size wr W) => refTextAt_any ⟨ha, ⟨At, n, ct⟩, hX, hr, hn, ⟨some ⟨g, o, none⟩, n, c⟩, ⟨some ⟨g2, o2, none⟩, n, c2⟩⟩ ts x W ((hts.under (hB.trans (hW.mono hB.size))).up (hB.trans (hW.mono hB.size)).size))
                      have HTB := Lib.hid (fun (W : World) (hW : Below wr.heap.size wr W) => refTextAt_any ⟨ha, ⟨At, n, ct⟩, hX, hr, hn, ⟨some ⟨g, o, none⟩, n, c⟩, ⟨some ⟨g2, o2, none⟩, n, c2⟩⟩ ts (k : Nat) W ((hts.under (hB.trans (hW.mono hB.size))).up (hB.trans (hW.mono hB.size)).size))
                      go_region_held3 (fun W => W.cell? ⟨w.heap.size, 0, none⟩ = some (.slice ha.A ha.n ha.c) ∧ W.cell? ⟨w.heap.size, 1, none⟩ = some (.slice At n ct) ∧ W.cell? ⟨w.heap.size, 2, none⟩ = some (.slice hX.A hX.n hX.c) ∧ W.cell? ⟨w.heap.size, 3, none⟩ = some (.slice hr.A hr.n hr.c) ∧ W.cell? ⟨w.heap.size, 4, none⟩ = some (.slice hn.A hn.n hn.c) ∧ W.cell? ⟨w.heap.size, 5, none⟩ = some (.slice (some ⟨g, o, none⟩) n c) ∧ W.cell? ⟨w.heap.size, 6, none⟩ = some (.slice (some ⟨g2, o2, none⟩) n c2)) (first | (with_reducible exact ⟨x0, x1, x2, x3, x4, x5, x6⟩) | (with_reducible exact ⟨b0, b1, b2, b3, b4, b5, b6⟩) | go_keep) (first
                        | (go_at_call 26; (with_reducible show Calls _ _ _ (World.drew wr) _); refine (HTA.out wr.drew hbD).mono ?_; rintro e' w5 ⟨rfl, hb5⟩; have hb6 := hbD.trans (hb5.mono hbD.size); have B5 := hbx.below hb6; have x0 : w5.cell? ⟨w.heap.size, 0, none⟩ = some (.slice ha.A ha.n ha.c) := B5.cell 0; have x1 : w5.cell? ⟨w.heap.size, 1, none⟩ = some (.slice At n ct) := B5.cell 1; have x2 : w5.cell? ⟨w.heap.size, 2, none⟩ = some (.slice hX.A hX.n hX.c) := B5.cell 2; have x3 : w5.cell? ⟨w.heap.size, 3, none⟩ = some (.slice hr.A hr.n hr.c) := B5.cell 3; have x4 : w5.cell? ⟨w.heap.size, 4, none⟩ = some (.slice hn.A hn.n hn.c) := B5.cell 4; have x5 : w5.cell? ⟨w.heap.size, 5, none⟩ = some (.slice (some ⟨g, o, none⟩) n c) := B5.cell 5; have x6 : w5.cell? ⟨w.heap.size, 6, none⟩ = some (.slice (some ⟨g2, o2, none⟩) n c2) := B5.cell 6)
                        | (go_at_call 26; refine (HTB.out _ hb6).mono ?_; rintro e' w7 ⟨rfl, hb7⟩; have hb8 := hb6.trans (hb7.mono hb6.size); have B5 := hbx.below hb8; have x0 : w7.cell? ⟨w.heap.size, 0, none⟩ = some (.slice ha.A ha.n ha.c) := B5.cell 0; have x1 : w7.cell? ⟨w.heap.size, 1, none⟩ = some (.slice At n ct) := B5.cell 1; have x2 : w7.cell? ⟨w.heap.size, 2, none⟩ = some (.slice hX.A hX.n hX.c) := B5.cell 2; have x3 : w7.cell? ⟨w.heap.size, 3, none⟩ = some (.slice hr.A hr.n hr.c) := B5.cell 3; have x4 : w7.cell? ⟨w.heap.size, 4, none⟩ = some (.slice hn.A hn.n hn.c) := B5.cell 4; have x5 : w7.cell? ⟨w.heap.size, 5, none⟩ = some (.slice (some ⟨g, o, none⟩) n c) := B5.cell 5; have x6 : w7.cell? ⟨w.heap.size, 6, none⟩ = some (.slice (some ⟨g2, o2, none⟩) n c2) := B5.cell 6))
                      all_goals
                        go_wp2
                        go_meet
                        case rel => exact ⟨_, rfl, rfl, by show _ ↔ _; simp [ex]; exact ⟨fun h => .inr (.inr h), fun h => h.elim (fun h => absurd h (by omega)) (fun h => h.elim (fun h => absurd h (by omega)) id)⟩, hB.trans (hb8.mono hB.size), hbx.below hb8⟩
              case rest =>
                obtain ⟨bv, rfl, rfl, HBV, hB7, hbx7⟩ := hcut
                have q6 := hbx7.cell 6
                obtain ⟨g2', o2', hk2', e0, hg2', z2', d0'⟩ := (hr'.under hB7).at_ (k := k) hlt
                cases e0
                rw [HS.out] at d0'
                clear z2' d0 c0
                cases bv with
                | true =>
                  have HF8 := Lib.hid (HF.out.trans (if_pos (HBV.out.1 rfl)))
                  have HF9 : Hid (hdErr n ts h r = (k, 8)) := by show _ = _; rw [HA.out (by rw [HF8.out]; simp), HF8.out]
                  clear HF8 HA HF
                  go_wp2
                  go_ret2
                  exact ⟨ret_p HF9.out rfl rfl, hB7⟩
                | false =>
                  have HF2 := Lib.hid (HF.out.trans (if_neg (fun h => by have := HBV.out.2 h; cases this)))
                  by_cases es : s = []
                  · subst es
                    have HF4 := Lib.hid (HF2.out.trans (if_neg (fun h => by simp at h)))
                    clear HF2
                    have q5 := hbx7.cell 5
                    go_wp2_with fail
                    refine (cyclic_any (some ⟨g, o, none⟩) n c h k _ hlt ((hh.under hB7).up hB7.size)).mono ?_
                    rintro e' w9 ⟨rfl, rfl⟩
                    clear q5
                    obtain ⟨cy, hcy2⟩ : ∃ cy, Cor.cyc h k = cy := ⟨_, rfl⟩
                    simp only [hcy2]
                    have HCY := Lib.hid hcy2
                    clear hcy2
                    cases cy with
                    | true =>
                      have HF8 := Lib.hid (HF4.out.trans (if_pos HCY.out))
                      have HF9 : Hid (hdErr n ts h r = (k, 12)) := by show _ = _; rw [HA.out (by rw [HF8.out]; simp), HF8.out]
                      clear HF8 HA HF
                      go_wp2
                      go_ret2
                      exact ⟨ret_p HF9.out rfl rfl, hB7⟩
                    | false =>
                      have HI : Hid (∀ j, j < k + 1 → hdF ts h r j = 0) := upto_step hinv.out (HF4.out.trans (if_neg (by rw [HCY.out]; simp)))
                      clear HF4 HA HF hinv
                      go_wp2
                      go_roundw
                      case rel => (first | exact ⟨k + 1, by omega, by go_num, hB7, hbx7, HI⟩ | ((repeat apply Exists.intro); exact ⟨⟨k + 1, by omega, by go_num, hB7, hbx7, HI⟩, rfl⟩))
                      case measure => simp [intOf]; omega
                  · have E3 : (s == []) = false := by simpa using es
                    have E4 : s.isEmpty = false := by simpa using es
                    cases hok2 : okName s with
                    | false =>
                      have HF8 := Lib.hid (HF2.out.trans (if_pos ⟨E4, hok2⟩))
                      have HF9 : Hid (hdErr n ts h r = (k, 4)) := by show _ = _; rw [HA.out (by rw [HF8.out]; simp), HF8.out]
                      clear HF2 HF8 HA HF es E4
                      go_wp2_with fail
                      refine (refValidName_any s z2 _).mono ?_
                      rintro e' w8 ⟨rfl, rfl⟩
                      rw [hok2]
                      clear hok2
                      go_wp2
                      go_ret2
                      exact ⟨ret_p HF9.out rfl rfl, hB7⟩
                    | true =>
                      have HF4 := Lib.hid (HF2.out.trans (if_neg (fun h => by rw [hok2] at h; simp at h)))
                      clear HF2 es E4
                      go_wp2_with fail
                      refine (refValidName_any s z2 _).mono ?_
                      rintro e' w8 ⟨rfl, rfl⟩
                      rw [hok2]
                      clear hok2
                      have q5 := hbx7.cell 5
                      go_wp2_with fail
                      refine (cyclic_any (some ⟨g, o, none⟩) n c h k _ hlt ((hh.under hB7).up hB7.size)).mono ?_
                      rintro e' w9 ⟨rfl, rfl⟩
                      clear q5
                      obtain ⟨cy, hcy2⟩ : ∃ cy, Cor.cyc h k = cy := ⟨_, rfl⟩
                      simp only [hcy2]
                      have HCY := Lib.hid hcy2
                      clear hcy2
                      cases cy with
                      | true =>
                        have HF8 := Lib.hid (HF4.out.trans (if_pos HCY.out))
                        have HF9 : Hid (hdErr n ts h r = (k, 12)) := by show _ = _; rw [HA.out (by rw [HF8.out]; simp), HF8.out]
                        clear HF8 HA HF
                        go_wp2
                        go_ret2
                        exact ⟨ret_p HF9.out rfl rfl, hB7⟩
                      | false =>
                        have HI : Hid (∀ j, j < k + 1 → hdF ts h r j = 0) := upto_step hinv.out (HF4.out.trans (if_neg (by rw [HCY.out]; simp)))
                        clear HF4 HA HF hinv
                        go_wp2
                        go_roundw
                        case rel => (first | exact ⟨k + 1, by omega, by go_num, hB7, hbx7, HI⟩ | ((repeat apply Exists.intro); exact ⟨⟨k + 1, by omega, by go_num, hB7, hbx7, HI⟩, rfl⟩))
                        case measure => simp [intOf]; omega
            · have HF : Hid (hdErr n ts h r = (0, 0)) := hdErr_zero H1.out H2.out (fun j hj => hinv.out j (by omega))
              clear hinv
              go_wp2
              go_ret2
              exact ⟨ret_p HF.out rfl rfl, hB⟩
      · have HF : Hid (hdErr nt ts h r = (0, 15)) := by
          have h1 : h.length = n := HL.out
          show _ = _
          unfold hdErr
          rw [if_pos (.inr (by omega))]
        have E1 : decide (0 < n) = true := by simp; omega
        have i2 : 0 < n := by omega
        have E2 : ((n : Int) != (nt : Int)) = true := by rw [bne_iff_ne]; omega
        go_enter Try.func44, Try.ntmps44
        go_wp2
        go_ret2
        exact ⟨ret_p HF.out rfl rfl, hB0⟩
  · have HF : Hid (hdErr nt ts h r = (0, 15)) := by
      have h1 : h.length = n := HL.out
      have h2 : r.length = n2 := HR.out
      show _ = _
      unfold hdErr
      rw [if_pos (.inl (by omega))]
    have E : ((n : Int) != (n2 : Int)) = true := by rw [bne_iff_ne]; omega
    go_enter Try.func44, Try.ntmps44
    go_wp2
    go_ret2
    exact ⟨ret_p HF.out rfl rfl, hB0⟩
end Go.Proofs.Ytaihgoohmcipkaa
