/-
  The contracts of the reference's Validate and Valid. Conditions: none but that a corpus reads as it does.
-/
import Derived.Test.YtaihgoohmcipkaaCorVal
import Derived.Test.YtaihgoohmcipkaaCorRegR
import Derived.Test.YtaihgoohmcipkaaCorNodR
import Derived.Test.YtaihgoohmcipkaaCorHeadR
namespace Go.Proofs.Ytaihgoohmcipkaa
open Go.RowKit Utf
open Feat (Bs)
open Cor (C check atErr tkErr txErr rgErr ndErr hdErr)

set_option maxRecDepth 100000 in
set_option maxHeartbeats 4000000 in
theorem refValidate_any (H : CH) (c : Cor.C) (w : World) (hr : Reads w w.heap.size H c) : Calls Try.prog 16 #[H.v] w (Valed c w) := by
  obtain ⟨⟨Aa, na, ca⟩, ⟨At, nt, ct⟩, ⟨Ax, nx, cx⟩, ⟨Ar, nr, cr⟩, ⟨An, nn, cn⟩, ⟨Ah, nh, ch⟩, ⟨Al, nl, cl⟩⟩ := H
  show Calls Try.prog 16 #[.agg #[.slice Aa na ca, .slice At nt ct, .slice Ax nx cx, .slice Ar nr cr, .slice An nn cn, .slice Ah nh ch, .slice Al nl cl]] w _
  have hB0 := (Below.refl w.heap.size w).alloc (Nat.le_refl _) (.cells #[.slice Aa na ca, .slice At nt ct, .slice Ax nx cx, .slice Ar nr cr, .slice An nn cn, .slice Ah nh ch, .slice Al nl cl] 30)
  have b0 := Blk.new w 30 #[.slice Aa na ca, .slice At nt ct, .slice Ax nx cx, .slice Ar nr cr, .slice An nn cn, .slice Ah nh ch, .slice Al nl cl]
  have r0 := (hr.under hB0).up hB0.size
  have g0 := Below.refl (w.alloc (.cells #[.slice Aa na ca, .slice At nt ct, .slice Ax nx cx, .slice Ar nr cr, .slice An nn cn, .slice Ah nh ch, .slice Al nl cl] 30)).heap.size (w.alloc (.cells #[.slice Aa na ca, .slice At nt ct, .slice Ax nx cx, .slice Ar nr cr, .slice An nn cn, .slice Ah nh ch, .slice Al nl cl] 30))
  have htl : c.toks.length = nt := hr.t.len
  have HX := Lib.hid (fun (W : World) (hW : Below (w.alloc (.cells #[.slice Aa na ca, .slice At nt ct, .slice Ax nx cx, .slice Ar nr cr, .slice An nn cn, .slice Ah nh ch, .slice Al nl cl] 30)).heap.size (w.alloc (.cells #[.slice Aa na ca, .slice At nt ct, .slice Ax nx cx, .slice Ar nr cr, .slice An nn cn, .slice Ah nh ch, .slice Al nl cl] 30)) W) => b0.below hW)
  have C0 := Lib.hid (fun (W : World) (hW : Below (w.alloc (.cells #[.slice Aa na ca, .slice At nt ct, .slice Ax nx cx, .slice Ar nr cr, .slice An nn cn, .slice Ah nh ch, .slice Al nl cl] 30)).heap.size (w.alloc (.cells #[.slice Aa na ca, .slice At nt ct, .slice Ax nx cx, .slice Ar nr cr, .slice An nn cn, .slice Ah nh ch, .slice Al nl cl] 30)) W) => refAttributes_any Aa na ca c.attrs W ((r0.a.under hW).up hW.size))
  have C1 := Lib.hid (fun (W : World) (hW : Below (w.alloc (.cells #[.slice Aa na ca, .slice At nt ct, .slice Ax nx cx, .slice Ar nr cr, .slice An nn cn, .slice Ah nh ch, .slice Al nl cl] 30)).heap.size (w.alloc (.cells #[.slice Aa na ca, .slice At nt ct, .slice Ax nx cx, .slice Ar nr cr, .slice An nn cn, .slice Ah nh ch, .slice Al nl cl] 30)) W) => refTokens_any ⟨⟨Aa, na, ca⟩, ⟨At, nt, ct⟩, ⟨Ax, nx, cx⟩, ⟨Ar, nr, cr⟩, ⟨An, nn, cn⟩, ⟨Ah, nh, ch⟩, ⟨Al, nl, cl⟩⟩ c.attrs c.toks W ((r0.a.under hW).up hW.size) ((r0.t.under hW).up hW.size))
  have C2 := Lib.hid (fun (W : World) (hW : Below (w.alloc (.cells #[.slice Aa na ca, .slice At nt ct, .slice Ax nx cx, .slice Ar nr cr, .slice An nn cn, .slice Ah nh ch, .slice Al nl cl] 30)).heap.size (w.alloc (.cells #[.slice Aa na ca, .slice At nt ct, .slice Ax nx cx, .slice Ar nr cr, .slice An nn cn, .slice Ah nh ch, .slice Al nl cl] 30)) W) => refTexts_any ⟨⟨Aa, na, ca⟩, ⟨At, nt, ct⟩, ⟨Ax, nx, cx⟩, ⟨Ar, nr, cr⟩, ⟨An, nn, cn⟩, ⟨Ah, nh, ch⟩, ⟨Al, nl, cl⟩⟩ c.texts W r0.t.fit ((r0.x.under hW).up hW.size))
  have C3 := Lib.hid (fun (W : World) (hW : Below (w.alloc (.cells #[.slice Aa na ca, .slice At nt ct, .slice Ax nx cx, .slice Ar nr cr, .slice An nn cn, .slice Ah nh ch, .slice Al nl cl] 30)).heap.size (w.alloc (.cells #[.slice Aa na ca, .slice At nt ct, .slice Ax nx cx, .slice Ar nr cr, .slice An nn cn, .slice Ah nh ch, .slice Al nl cl] 30)) W) => refRegions_any ⟨⟨Aa, na, ca⟩, ⟨At, nt, ct⟩, ⟨Ax, nx, cx⟩, ⟨Ar, nr, cr⟩, ⟨An, nn, cn⟩, ⟨Ah, nh, ch⟩, ⟨Al, nl, cl⟩⟩ c.texts c.regs W ((r0.x.under hW).up hW.size) ((r0.r.under hW).up hW.size))
  have C4 := Lib.hid (fun (W : World) (hW : Below (w.alloc (.cells #[.slice Aa na ca, .slice At nt ct, .slice Ax nx cx, .slice Ar nr cr, .slice An nn cn, .slice Ah nh ch, .slice Al nl cl] 30)).heap.size (w.alloc (.cells #[.slice Aa na ca, .slice At nt ct, .slice Ax nx cx, .slice Ar nr cr, .slice An nn cn, .slice Ah nh ch, .slice Al nl cl] 30)) W) => refNodes_any ⟨⟨Aa, na, ca⟩, ⟨At, nt, ct⟩, ⟨Ax, nx, cx⟩, ⟨Ar, nr, cr⟩, ⟨An, nn, cn⟩, ⟨Ah, nh, ch⟩, ⟨Al, nl, cl⟩⟩ An nn cn c.texts c.nods W ((r0.x.under hW).up hW.size) ((r0.n.under hW).up hW.size))
  have C5 := Lib.hid (fun (W : World) (hW : Below (w.alloc (.cells #[.slice Aa na ca, .slice At nt ct, .slice Ax nx cx, .slice Ar nr cr, .slice An nn cn, .slice Ah nh ch, .slice Al nl cl] 30)).heap.size (w.alloc (.cells #[.slice Aa na ca, .slice At nt ct, .slice Ax nx cx, .slice Ar nr cr, .slice An nn cn, .slice Ah nh ch, .slice Al nl cl] 30)) W) => refHeads_any ⟨⟨Aa, na, ca⟩, ⟨At, nt, ct⟩, ⟨Ax, nx, cx⟩, ⟨Ar, nr, cr⟩, ⟨An, nn, cn⟩, ⟨Ah, nh, ch⟩, ⟨Al, nl, cl⟩⟩ c.texts c.heads c.rels W r0.t.fit ((r0.x.under hW).up hW.size) ((r0.h.under hW).up hW.size) ((r0.l.under hW).up hW.size))
  obtain ⟨⟨a0, e0⟩, hp0⟩ : ∃ p, atErr c.attrs = p := ⟨_, rfl⟩
  have P0 : Hid (pE c 0 = (a0, e0)) := by show _ = _; rw [← hp0]; rfl
  simp only [hp0] at C0
  clear hp0
  obtain ⟨⟨a1, e1⟩, hp1⟩ : ∃ p, tkErr c.attrs c.toks = p := ⟨_, rfl⟩
  have P1 : Hid (pE c 1 = (a1, e1)) := by show _ = _; rw [← hp1]; rfl
  simp only [hp1] at C1
  clear hp1
  obtain ⟨⟨a2, e2⟩, hp2⟩ : ∃ p, txErr nt c.texts = p := ⟨_, rfl⟩
  have P2 : Hid (pE c 2 = (a2, e2)) := by show _ = _; rw [← hp2]; show _ = _; rw [← htl]; rfl
  simp only [hp2] at C2
  clear hp2
  obtain ⟨⟨a3, e3⟩, hp3⟩ : ∃ p, rgErr c.texts c.regs = p := ⟨_, rfl⟩
  have P3 : Hid (pE c 3 = (a3, e3)) := by show _ = _; rw [← hp3]; rfl
  simp only [hp3] at C3
  clear hp3
  obtain ⟨⟨a4, e4⟩, hp4⟩ : ∃ p, ndErr c.texts c.nods = p := ⟨_, rfl⟩
  have P4 : Hid (pE c 4 = (a4, e4)) := by show _ = _; rw [← hp4]; rfl
  simp only [hp4] at C4
  clear hp4
  obtain ⟨⟨a5, e5⟩, hp5⟩ : ∃ p, hdErr nt c.texts c.heads c.rels = p := ⟨_, rfl⟩
  have P5 : Hid (pE c 5 = (a5, e5)) := by show _ = _; rw [← hp5]; show _ = _; rw [← htl]; rfl
  simp only [hp5] at C5
  clear hp5
  clear b0 r0 hr htl
  go_enter Try.func16, Try.ntmps16
  go_wp2_with fail
  refine (C0.out _ g0).mono ?_
  rintro e' w1 ⟨rfl, h1⟩
  have g1 := g0.trans (h1.mono g0.size)
  have x0 := (HX.out w1 g1).cell 0
  have x1 := (HX.out w1 g1).cell 1
  have x2 := (HX.out w1 g1).cell 2
  have x3 := (HX.out w1 g1).cell 3
  have x4 := (HX.out w1 g1).cell 4
  have x5 := (HX.out w1 g1).cell 5
  have x6 := (HX.out w1 g1).cell 6
  clear C0 h1
  by_cases z : e0 = 0
  · subst z
    go_wp2_with fail
    refine (C1.out _ g1).mono ?_
    rintro e' w2 ⟨rfl, h2⟩
    have g2 := g1.trans (h2.mono g1.size)
    have x0 := (HX.out w2 g2).cell 0
    have x1 := (HX.out w2 g2).cell 1
    have x2 := (HX.out w2 g2).cell 2
    have x3 := (HX.out w2 g2).cell 3
    have x4 := (HX.out w2 g2).cell 4
    have x5 := (HX.out w2 g2).cell 5
    have x6 := (HX.out w2 g2).cell 6
    clear C1 h2
    by_cases z : e1 = 0
    · subst z
      go_wp2_with fail
      refine (C2.out _ g2).mono ?_
      rintro e' w3 ⟨rfl, h3⟩
      have g3 := g2.trans (h3.mono g2.size)
      have x0 := (HX.out w3 g3).cell 0
      have x1 := (HX.out w3 g3).cell 1
      have x2 := (HX.out w3 g3).cell 2
      have x3 := (HX.out w3 g3).cell 3
      have x4 := (HX.out w3 g3).cell 4
      have x5 := (HX.out w3 g3).cell 5
      have x6 := (HX.out w3 g3).cell 6
      clear C2 h3
      by_cases z : e2 = 0
      · subst z
        go_wp2_with fail
        refine (C3.out _ g3).mono ?_
        rintro e' w4 ⟨rfl, h4⟩
        have g4 := g3.trans (h4.mono g3.size)
        have x0 := (HX.out w4 g4).cell 0
        have x1 := (HX.out w4 g4).cell 1
        have x2 := (HX.out w4 g4).cell 2
        have x3 := (HX.out w4 g4).cell 3
        have x4 := (HX.out w4 g4).cell 4
        have x5 := (HX.out w4 g4).cell 5
        have x6 := (HX.out w4 g4).cell 6
        clear C3 h4
        by_cases z : e3 = 0
        · subst z
          go_wp2_with fail
          refine (C4.out _ g4).mono ?_
          rintro e' w5 ⟨rfl, h5⟩
          have g5 := g4.trans (h5.mono g4.size)
          have x0 := (HX.out w5 g5).cell 0
          have x1 := (HX.out w5 g5).cell 1
          have x2 := (HX.out w5 g5).cell 2
          have x3 := (HX.out w5 g5).cell 3
          have x4 := (HX.out w5 g5).cell 4
          have x5 := (HX.out w5 g5).cell 5
          have x6 := (HX.out w5 g5).cell 6
          clear C4 h5
          by_cases z : e4 = 0
          · subst z
            go_wp2_with fail
            refine (C5.out _ g5).mono ?_
            rintro e' w6 ⟨rfl, h6⟩
            have g6 := g5.trans (h6.mono g5.size)
            have x0 := (HX.out w6 g6).cell 0
            have x1 := (HX.out w6 g6).cell 1
            have x2 := (HX.out w6 g6).cell 2
            have x3 := (HX.out w6 g6).cell 3
            have x4 := (HX.out w6 g6).cell 4
            have x5 := (HX.out w6 g6).cell 5
            have x6 := (HX.out w6 g6).cell 6
            clear C5 h6
            by_cases z : e5 = 0
            · subst z
              have HK : Hid (check c = (0, 0, 0)) := check_all (fun i hi => by
                rcases (show i = 0 ∨ i = 1 ∨ i = 2 ∨ i = 3 ∨ i = 4 ∨ i = 5 by omega) with rfl | rfl | rfl | rfl | rfl | rfl
                · rw [P0.out]
                · rw [P1.out]
                · rw [P2.out]
                · rw [P3.out]
                · rw [P4.out]
                · rw [P5.out])
              go_wp2
              go_ret3
              exact valed HK.out rfl rfl rfl (hB0.trans (g6.mono hB0.size))
            · have HK : Hid (check c = (5 + 1, (a5, e5))) := by
                have h := check_at (c := c) (j := 5) (by omega) (fun i hi => by
                  rcases (show i = 0 ∨ i = 1 ∨ i = 2 ∨ i = 3 ∨ i = 4 by omega) with rfl | rfl | rfl | rfl | rfl
                  · rw [P0.out]
                  · rw [P1.out]
                  · rw [P2.out]
                  · rw [P3.out]
                  · rw [P4.out]) (by rw [P5.out]; exact z)
                rw [P5.out] at h; exact h
              have E1 : (((e5 : Nat) : Int) != 0) = true := by simpa using z
              have E2 : ((e5 : Nat) != 0) = true := by simpa using z
              clear z
              go_wp2
              go_ret3
              exact valed HK.out rfl rfl rfl (hB0.trans (g6.mono hB0.size))
          · have HK : Hid (check c = (4 + 1, (a4, e4))) := by
              have h := check_at (c := c) (j := 4) (by omega) (fun i hi => by
                rcases (show i = 0 ∨ i = 1 ∨ i = 2 ∨ i = 3 by omega) with rfl | rfl | rfl | rfl
                · rw [P0.out]
                · rw [P1.out]
                · rw [P2.out]
                · rw [P3.out]) (by rw [P4.out]; exact z)
              rw [P4.out] at h; exact h
            have E1 : (((e4 : Nat) : Int) != 0) = true := by simpa using z
            have E2 : ((e4 : Nat) != 0) = true := by simpa using z
            clear z
            go_wp2
            go_ret3
            exact valed HK.out rfl rfl rfl (hB0.trans (g5.mono hB0.size))
        · have HK : Hid (check c = (3 + 1, (a3, e3))) := by
            have h := check_at (c := c) (j := 3) (by omega) (fun i hi => by
              rcases (show i = 0 ∨ i = 1 ∨ i = 2 by omega) with rfl | rfl | rfl
              · rw [P0.out]
              · rw [P1.out]
              · rw [P2.out]) (by rw [P3.out]; exact z)
            rw [P3.out] at h; exact h
          have E1 : (((e3 : Nat) : Int) != 0) = true := by simpa using z
          have E2 : ((e3 : Nat) != 0) = true := by simpa using z
          clear z
          go_wp2
          go_ret3
          exact valed HK.out rfl rfl rfl (hB0.trans (g4.mono hB0.size))
      · have HK : Hid (check c = (2 + 1, (a2, e2))) := by
          have h := check_at (c := c) (j := 2) (by omega) (fun i hi => by
            rcases (show i = 0 ∨ i = 1 by omega) with rfl | rfl
            · rw [P0.out]
            · rw [P1.out]) (by rw [P2.out]; exact z)
          rw [P2.out] at h; exact h
        have E1 : (((e2 : Nat) : Int) != 0) = true := by simpa using z
        have E2 : ((e2 : Nat) != 0) = true := by simpa using z
        clear z
        go_wp2
        go_ret3
        exact valed HK.out rfl rfl rfl (hB0.trans (g3.mono hB0.size))
    · have HK : Hid (check c = (1 + 1, (a1, e1))) := by
        have h := check_at (c := c) (j := 1) (by omega) (fun i hi => by
          rcases (show i = 0 by omega) with rfl
          · rw [P0.out]) (by rw [P1.out]; exact z)
        rw [P1.out] at h; exact h
      have E1 : (((e1 : Nat) : Int) != 0) = true := by simpa using z
      have E2 : ((e1 : Nat) != 0) = true := by simpa using z
      clear z
      go_wp2
      go_ret3
      exact valed HK.out rfl rfl rfl (hB0.trans (g2.mono hB0.size))
  · have HK : Hid (check c = (0 + 1, (a0, e0))) := by
      have h := check_at (c := c) (j := 0) (by omega) (fun i hi => by omega) (by rw [P0.out]; exact z)
      rw [P0.out] at h; exact h
    have E1 : (((e0 : Nat) : Int) != 0) = true := by simpa using z
    have E2 : ((e0 : Nat) != 0) = true := by simpa using z
    clear z
    go_wp2
    go_ret3
    exact valed HK.out rfl rfl rfl (hB0.trans (g1.mono hB0.size))
set_option maxRecDepth 100000 in
theorem refCorValid_any (H : CH) (c : Cor.C) (w : World) (hr : Reads w w.heap.size H c) : Calls Try.prog 57 #[H.v] w (Kept (.bool (Cor.valid c)) w) := by
  have hB0 := (Below.refl w.heap.size w).alloc (Nat.le_refl _) (.cells H.cs 30)
  have hr2 := (hr.under hB0).up hB0.size
  obtain ⟨n, hn⟩ : ∃ n, (Cor.check c).2.2 = n := ⟨_, rfl⟩
  have HV : Hid (Cor.valid c = (n == 0)) := by show _ = _; unfold Cor.valid; rw [hn]
  go_enter Try.func57, Try.ntmps57
  go_wp2_with fail
  refine (refValidate_any H c _ hr2).mono ?_
  rintro e' w1 ⟨rfl, hb⟩
  have hB1 := hB0.trans (hb.mono hB0.size)
  simp only [hn]
  clear hn hr2 hr hb hB0
  go_wp2
  go_ret
  refine ⟨ret_bool ?_, hB1⟩
  rw [HV.out]
  cases n <;> rfl
end Go.Proofs.Ytaihgoohmcipkaa
