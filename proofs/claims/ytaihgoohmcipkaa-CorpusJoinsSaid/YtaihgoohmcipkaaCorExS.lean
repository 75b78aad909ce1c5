/-
  The contract of Extract for a corpus without nodes and heads, of whose regions none lies in the text. Conditions: those.
-/
import Derived.Test.YtaihgoohmcipkaaCorExP
import Derived.Test.YtaihgoohmcipkaaCorHold
import Derived.Test.YtaihgoohmcipkaaCorBare
import Derived.Deep.RegionLaw
import Derived.Deep.CutRange
import Derived.Deep.CutBlock
import Derived.Deep.RegionHeld3
namespace Go.Proofs.Ytaihgoohmcipkaa
set_option linter.unusedSimpArgs false
set_option linter.unusedVariables false
open Go.RowKit Utf
open Feat (Bs)

set_option maxRecDepth 100000 in
set_option maxHeartbeats 40000000 in
theorem extract_few (H : CH) (c : Cor.C) (i : Int) (w : World) (hi : Rng i) (hn0 : c.nods = []) (hh0 : c.heads = []) (hno : ∀ t, c.texts[i.toNat]? = some t → ∀ x ∈ c.regs, Cor.inR t.b t.e x = false) (hr0 : Reads w w.heap.size H c) : Calls Try.prog 21 #[H.v, .int .i64 i] w (Made (Cor.ext c i) w) := by
  obtain ⟨⟨Aa, na, ca⟩, ⟨At, nt, ct⟩, ⟨Ax, nx, cx⟩, ⟨Ar, nr, cr⟩, ⟨An, nn, cn⟩, ⟨Ah, nh, ch⟩, ⟨Al, nl, cl⟩⟩ := H
  show Calls Try.prog 21 #[.agg #[.slice Aa na ca, .slice At nt ct, .slice Ax nx cx, .slice Ar nr cr, .slice An nn cn, .slice Ah nh ch, .slice Al nl cl], .int .i64 i] w _
  have hB0 := (Below.refl w.heap.size w).alloc (Nat.le_refl _) (.cells #[.slice Aa na ca, .slice At nt ct, .slice Ax nx cx, .slice Ar nr cr, .slice An nn cn, .slice Ah nh ch, .slice Al nl cl] 30)
  have hB1 := hB0.alloc hB0.size (.cells #[.slice none 0 0, .slice none 0 0, .slice none 0 0, .slice none 0 0, .slice none 0 0, .slice none 0 0, .slice none 0 0] 30)
  have hr2 := (hr0.under hB1).up hB1.size
  have b0 := (Blk.new w 30 #[.slice Aa na ca, .slice At nt ct, .slice Ax nx cx, .slice Ar nr cr, .slice An nn cn, .slice Ah nh ch, .slice Al nl cl]).alloc (.cells #[.slice none 0 0, .slice none 0 0, .slice none 0 0, .slice none 0 0, .slice none 0 0, .slice none 0 0, .slice none 0 0] 30)
  have b1 := Blk.new (w.alloc (.cells #[.slice Aa na ca, .slice At nt ct, .slice Ax nx cx, .slice Ar nr cr, .slice An nn cn, .slice Ah nh ch, .slice Al nl cl] 30)) 30 #[.slice none 0 0, .slice none 0 0, .slice none 0 0, .slice none 0 0, .slice none 0 0, .slice none 0 0, .slice none 0 0]
  rw [World.size_alloc] at b1
  have HR := Lib.hid hr0
  have HN0 := Lib.hid hn0
  have HH0 := Lib.hid hh0
  have HNO := Lib.hid hno
  clear hn0 hh0 hno
  have HC := Lib.hid (fun W h => corValid_any ⟨⟨Aa, na, ca⟩, ⟨At, nt, ct⟩, ⟨Ax, nx, cx⟩, ⟨Ar, nr, cr⟩, ⟨An, nn, cn⟩, ⟨Ah, nh, ch⟩, ⟨Al, nl, cl⟩⟩ c W h)
  unfold Rng at hi
  go_enter Try.func21, Try.ntmps21
  go_wp2_with fail
  refine (HC.out _ hr2).mono ?_
  rintro e' w1 ⟨rfl, hb⟩
  have hB2 := hB1.trans (hb.mono hB1.size)
  have c0 := b0.below hb
  have c1 := b1.below hb
  have hr := (hr2.under hb).up hb.size
  have q0 := c0.cell 0
  have q1 := c0.cell 1
  have q2 := c0.cell 2
  have q3 := c0.cell 3
  have q4 := c0.cell 4
  have q5 := c0.cell 5
  have q6 := c0.cell 6
  have z0 := c1.free 0
  have z1 := c1.free 1
  have z2 := c1.free 2
  have z3 := c1.free 3
  have z4 := c1.free 4
  have z5 := c1.free 5
  have z6 := c1.free 6
  have y0 := c1.cell 0
  have y1 := c1.cell 1
  have y2 := c1.cell 2
  have y3 := c1.cell 3
  have y4 := c1.cell 4
  have y5 := c1.cell 5
  have y6 := c1.cell 6
  clear b0 b1 hr2 hr0 hb hB0 hB1 HC
  obtain ⟨v, hv⟩ : ∃ v, Cor.valid c = v := ⟨_, rfl⟩
  have HV := Lib.hid hv
  rw [hv]
  clear hv
  cases v with
  | false =>
    have HE : Hid (Cor.ext c i = (Cor.nil, 1)) := by show _ = _; unfold Cor.ext; rw [if_pos HV.out]
    clear q0 q1 q2 q3 q4 q5 q6
    go_wp2
    refine bodyPost_ret (v := .tuple #[nilH.v, .int .i64 1]) (by simp [results, Try.f21, go_sem, y0, y1, y2, y3, y4, y5, y6, nilH]) rfl ⟨nilH, by rw [HE.out]; rfl, by rw [HE.out]; exact reads_nil _ _, ?_⟩
    exact below7 hB2 (by omega) _ _ _ _ _ _ _
  | true =>
    have hlx := hr.x.len
    have vd := vd_iff.1 HV.out
    have htl := vd.txl
    by_cases hin : i < 0 ∨ (nx : Int) ≤ i
    · have HE : Hid (Cor.ext c i = (Cor.nil, 8)) := by
        show _ = _; unfold Cor.ext; rw [if_neg (by rw [HV.out]; simp), if_pos (by rw [hlx]; exact hin)]
      have f1 : nx ≤ 9223372036854775807 := hr.x.fit.2
      clear vd htl hlx
      rcases (show i < 0 ∨ (0 ≤ i ∧ (nx : Int) ≤ i) by omega) with h0 | ⟨h0, h1⟩
      · clear hin
        have hd : decide (i < 0) = true := by simpa using h0
        go_wp2
        refine bodyPost_ret (v := .tuple #[nilH.v, .int .i64 8]) (by simp [results, Try.f21, go_sem, y0, y1, y2, y3, y4, y5, y6, nilH]) rfl ⟨nilH, by rw [HE.out]; rfl, by rw [HE.out]; exact reads_nil _ _, ?_⟩
        exact below7 hB2 (by omega) _ _ _ _ _ _ _
      · have hd : decide (i < 0) = false := by simpa using h0
        have hd2 : decide ((nx : Int) ≤ i) = true := by simpa using h1
        clear hin
        go_wp2
        refine bodyPost_ret (v := .tuple #[nilH.v, .int .i64 8]) (by simp [results, Try.f21, go_sem, y0, y1, y2, y3, y4, y5, y6, nilH]) rfl ⟨nilH, by rw [HE.out]; rfl, by rw [HE.out]; exact reads_nil _ _, ?_⟩
        exact below7 hB2 (by omega) _ _ _ _ _ _ _
    · obtain ⟨k, rfl⟩ : ∃ k : Nat, i = (k : Nat) := ⟨i.toNat, by omega⟩
      have hk : k < nx := by omega
      clear hin
      obtain ⟨g, o, ⟨Tk, tn, tc⟩, hk', rfl, hg, hto, d0, d1, d2, d3⟩ := HR.out.x.at_ (k := k) hk
      replace d0 := (hB2.cell (p := ⟨g, _, none⟩) hg).trans d0
      replace d1 := (hB2.cell (p := ⟨g, _, none⟩) hg).trans d1
      replace d2 := (hB2.cell (p := ⟨g, _, none⟩) hg).trans d2
      replace d3 := (hB2.cell (p := ⟨g, _, none⟩) hg).trans d3
      have ht := vd.tx _ (List.getElem_mem hk')
      obtain ⟨⟨x, b, e, ks⟩, hx⟩ : ∃ x, c.texts[k] = x := ⟨_, rfl⟩
      have HE : Hid (Cor.ext c (k : Nat) = (Cor.doc c ⟨x, b, e, ks⟩, 0)) := by
        show _ = _; unfold Cor.ext; rw [if_neg (by rw [HV.out]; simp), if_neg (by omega), Int.toNat_natCast, List.getElem?_eq_getElem hk', hx]
      rw [hx] at d0 d1 d2 hto ht
      have HX := Lib.hid hx
      have HTO := Lib.hid hto
      have VD := Lib.hid vd
      simp only [] at d0 d1 d2 d3 ht
      have htk := vd.tkl.1
      have f1 : (k : Int) < nx := by omega
      have f0 : 0 ≤ (k : Int) := by omega
      clear hx hto vd htl hlx y0 y1 y2 y3 y4 y5 y6 z0 z1 z2 z3 z4 z5 z6
      have E5 : Ex0 w (w1.alloc (.cells #[str x, .int .i64 b, .int .i64 e, .slice Tk tn tc] 64)) ⟨⟨Aa, na, ca⟩, ⟨At, nt, ct⟩, ⟨some ⟨g, o, none⟩, nx, cx⟩, ⟨Ar, nr, cr⟩, ⟨An, nn, cn⟩, ⟨Ah, nh, ch⟩, ⟨Al, nl, cl⟩⟩ ⟨x, b, e, ks⟩ ⟨Tk, tn, tc⟩ w1.heap.size :=
        ⟨hB2.alloc hB2.size _, c0.alloc _, c1.alloc _, Blk.new _ _ _⟩
      have R5 := (hr.under ((Below.refl _ _).alloc (Nat.le_refl _) (.cells #[str x, .int .i64 b, .int .i64 e, .slice Tk tn tc] 64))).up (Nat.le_succ _)
      have R5' := Lib.hid R5
      go_upto_region 5 with (fail)
      go_cut [6] from 17 (fun v6 wc => ∃ g6, v6 = .pointer (some ⟨g6, 0, none⟩) ∧ Ex0 w wc ⟨⟨Aa, na, ca⟩, ⟨At, nt, ct⟩, ⟨some ⟨g, o, none⟩, nx, cx⟩, ⟨Ar, nr, cr⟩, ⟨An, nn, cn⟩, ⟨Ah, nh, ch⟩, ⟨Al, nl, cl⟩⟩ ⟨x, b, e, ks⟩ ⟨Tk, tn, tc⟩ g6)
      case first =>
        go_wp2
        go_meet
        case rel => exact ⟨_, rfl, E5⟩
      case rest =>
        clear E5 R5 R5' hr d0 d1 d2 d3 q0 q1 q2 q3 q4 q5 q6 c0 c1 hg f0 f1
        obtain ⟨g6, rfl, E6⟩ := hcut
        have hB3 := E6.below
        have q0 := E6.bc.cell 0
        have b0 := E6.bt.cell 0
        have b1 := E6.bt.cell 1
        have b2 := E6.bt.cell 2
        have b3 := E6.bt.cell 3
        have i1 : IntKind.i64.wrap (-b) = -b := IntWalk.i64_in _ (by omega)
        go_upto_region 6 with (fail)
        go_cut [7] from 17 (fun v7 wc2 => Doc0 w wc2 ⟨⟨Aa, na, ca⟩, ⟨At, nt, ct⟩, ⟨some ⟨g, o, none⟩, nx, cx⟩, ⟨Ar, nr, cr⟩, ⟨An, nn, cn⟩, ⟨Ah, nh, ch⟩, ⟨Al, nl, cl⟩⟩ c ⟨x, b, e, ks⟩ ⟨Tk, tn, tc⟩ g6 v7)
        case first =>
          -- <dev
          -- as_aux_lemma =>
          obtain ⟨i0, hi0, hz0, hz1, hz2⟩ := info_parts info_att6
          have hra : Atts w w.heap.size ⟨Aa, na, ca⟩ c.attrs := HR.out.a
          have HL := Lib.hid hra.len
          have hna : na ≤ 8 := by have := VD.out.atl; have := hra.len; simp at this; omega
          have SRC := Lib.hid (fun (W : World) (hW : Below wc.heap.size wc W) => (hra.under (hB3.trans (hW.mono hB3.size))).src)
          have hfl : Hid ((c.attrs.flatMap atV).length = na * 2) := hra.2.1.1
          have h1 := Lib.hid (atV_one c.attrs)
          have hkk : Keys w w.heap.size ⟨Tk, tn, tc⟩ ks := HTO.out.2.2.2
          have hkl : ks.length = tn := hkk.len
          have HKL := Lib.hid hkl
          have HC := Lib.hid (fun (W : World) (hW : Below wc.heap.size wc W) => copyText_any x b e (-b) Tk tn tc ks W (by omega) ⟨by omega, by omega⟩ ⟨by omega, by omega⟩ ((hkk.under (hB3.trans (hW.mono hB3.size))).up (Nat.le_trans hB3.size hW.size)))
          have hbD : Below wc.heap.size wc wc.drew := (Below.refl _ _).drew
          have hbA : Below wc.heap.size wc (wc.alloc (.cells #[.slice none 0 0, .slice none 0 0, .slice none 0 0, .slice none 0 0, .slice none 0 0, .slice none 0 0, .slice none 0 0] 30)).drew := ((Below.refl _ _).alloc (Nat.le_refl _) _).drew
          have HF := Lib.hid (fun (W : World) (hW : Below wc.heap.size wc W) => And.intro ((E6.bel hW).bc.cell 0) (And.intro ((E6.bel hW).bt.cell 0) (And.intro ((E6.bel hW).bt.cell 1) (And.intro ((E6.bel hW).bt.cell 2) ((E6.bel hW).bt.cell 3)))))
          have GA1 := Lib.hid (fun (W5 : World) (gr : wc.drew.grownBy W5 (Value.slice none 0 0).ownBlock) => hbD.grown gr (Nat.le_refl _) (fun k hk => by cases hk))
          have GA2 := Lib.hid (fun (W5 : World) (gr : (wc.alloc (.cells #[.slice none 0 0, .slice none 0 0, .slice none 0 0, .slice none 0 0, .slice none 0 0, .slice none 0 0, .slice none 0 0] 30)).drew.grownBy W5 (Value.slice none 0 0).ownBlock) => And.intro (hbA.grown gr (by simp) (fun k hk => by cases hk)) (show Blk W5 wc.heap.size 30 nilH.cs from grown_block gr (show (wc.alloc (.cells #[.slice none 0 0, .slice none 0 0, .slice none 0 0, .slice none 0 0, .slice none 0 0, .slice none 0 0, .slice none 0 0] 30)).drew.heap[wc.heap.size]? = some (.cells nilH.cs 30 (0, 0)) from Blk.new wc 30 nilH.cs) (by simp [Value.ownBlock])))
          have GA3 := Lib.hid (show w.heap.size ≤ (wc.alloc (.cells #[.slice none 0 0, .slice none 0 0, .slice none 0 0, .slice none 0 0, .slice none 0 0, .slice none 0 0, .slice none 0 0] 30)).drew.heap.size from Nat.le_trans hB3.size hbA.size)
          have HAL := Lib.hid hra.2.2
          have HKS := Lib.hid hkk.2.2
          clear hra hkk hkl
          go_region_held3 (fun W => W.cell? ⟨w.heap.size, 0, none⟩ = some (.slice Aa na ca) ∧ W.cell? ⟨g6, 0, none⟩ = some (str x) ∧ W.cell? ⟨g6, 1, none⟩ = some (.int .i64 b) ∧ W.cell? ⟨g6, 2, none⟩ = some (.int .i64 e) ∧ W.cell? ⟨g6, 3, none⟩ = some (.slice Tk tn tc)) (first | (with_reducible exact HX6) | (with_reducible exact HX5) | go_keep) (first
            | ((with_reducible show (if _ = true then Oper.wp _ _ _ wc.drew _ _ else _)); refine step_app _ (by rfl) (.const (.slice none 0 0)) (.tmp 37) _ (by rfl) w.heap.size 62 i0 _ 2 24 Try.underlying22 hi0 hz0 hz1 hz2 (by rfl) (by decide) _ 0 [] (by rfl) (World.ownsRow_nil _ _ _ _) Aa na ca (c.attrs.flatMap atV) (by rfl) hfl.out (SRC.out _ hbD) h1.out (by unfold maxLen; omega) (by omega) hB3.size ?_; intro v5 w5 own5 gr5 _; obtain ⟨A5, c5, rfl, -, -⟩ := own_slc own5; have hb5 := GA1.out w5 gr5; have HX5 := HF.out w5 hb5)
            | ((with_reducible show (if _ = true then Oper.wp _ _ _ (wc.alloc (.cells #[.slice none 0 0, .slice none 0 0, .slice none 0 0, .slice none 0 0, .slice none 0 0, .slice none 0 0, .slice none 0 0] 30)).drew _ _ else _)); refine step_app _ (by rfl) (.const (.slice none 0 0)) (.tmp 37) _ (by rfl) w.heap.size 62 i0 _ 2 24 Try.underlying22 hi0 hz0 hz1 hz2 (by rfl) (by decide) _ 0 [] (by rfl) (World.ownsRow_nil _ _ _ _) Aa na ca (c.attrs.flatMap atV) (by rfl) hfl.out (SRC.out _ hbA) h1.out (by unfold maxLen; omega) (by omega) (GA3.out) ?_; intro v5 w5 own5 gr5 _; obtain ⟨A5, c5, rfl, -, -⟩ := own_slc own5; obtain ⟨hb5, hZ⟩ := GA2.out w5 gr5; have HX5 := HF.out w5 hb5)
            | (go_at_call 53; have Z5 := hZ; refine (HC.out w5 hb5).mono ?_; rintro e' w6 ⟨A6, c6, rfl, own6, hb6⟩; have hb7 := hb5.trans (hb6.mono hb5.size); have HX6 := HF.out w6 hb7; have m1 : w.heap.size ≠ wc.heap.size := Nat.ne_of_lt E6.bc.lt; have m2 : wc.heap.size ≠ w.heap.size := m1.symm; have m3 : g6 ≠ wc.heap.size := Nat.ne_of_lt E6.bt.lt; have m4 : wc.heap.size ≠ g6 := m3.symm; have Z6 : Blk w6 wc.heap.size 30 #[.slice none 0 0, .slice none 0 0, .slice none 0 0, .slice none 0 0, .slice none 0 0, .slice none 0 0, .slice none 0 0] := Blk.below Z5 hb6; have s6 := Z6.lt; have y0 := Z6.cell 0; have z0 := Z6.free 0; have y1 := Z6.cell 1; have z1 := Z6.free 1; have y2 := Z6.cell 2; have z2 := Z6.free 2; have y3 := Z6.cell 3; have z3 := Z6.free 3; have y4 := Z6.cell 4; have z4 := Z6.free 4; have y5 := Z6.cell 5; have z5 := Z6.free 5; have y6 := Z6.cell 6; have z6 := Z6.free 6)
            | (go_at_call 53; refine (HC.out w5 hb5).mono ?_; rintro e' w6 ⟨A6, c6, rfl, own6, hb6⟩; have hb7 := hb5.trans (hb6.mono hb5.size); have HX6 := HF.out w6 hb7)
            | (go_at_call 53; refine (HC.out (w5.alloc (.cells #[.slice none 0 0, .slice none 0 0, .slice none 0 0, .slice none 0 0, .slice none 0 0, .slice none 0 0, .slice none 0 0] 30)) (hb5.alloc hb5.size _)).mono ?_; rintro e' w6 ⟨A6, c6, rfl, own6, hb6⟩; have hb7 := (hb5.alloc hb5.size (.cells #[.slice none 0 0, .slice none 0 0, .slice none 0 0, .slice none 0 0, .slice none 0 0, .slice none 0 0, .slice none 0 0] 30)).trans (hb6.mono (hb5.alloc hb5.size _).size); have HX6 := HF.out w6 hb7; have m1 : w.heap.size ≠ w5.heap.size := Nat.ne_of_lt (Nat.lt_of_lt_of_le E6.bc.lt hb5.size); have m2 : w5.heap.size ≠ w.heap.size := m1.symm; have m3 : g6 ≠ w5.heap.size := Nat.ne_of_lt (Nat.lt_of_lt_of_le E6.bt.lt hb5.size); have m4 : w5.heap.size ≠ g6 := m3.symm; have Z6 : Blk w6 w5.heap.size 30 #[.slice none 0 0, .slice none 0 0, .slice none 0 0, .slice none 0 0, .slice none 0 0, .slice none 0 0, .slice none 0 0] := Blk.below (Blk.new w5 30 nilH.cs) hb6; have s6 := Z6.lt; have y0 := Z6.cell 0; have z0 := Z6.free 0; have y1 := Z6.cell 1; have z1 := Z6.free 1; have y2 := Z6.cell 2; have z2 := Z6.free 2; have y3 := Z6.cell 3; have z3 := Z6.free 3; have y4 := Z6.cell 4; have z4 := Z6.free 4; have y5 := Z6.cell 5; have z5 := Z6.free 5; have y6 := Z6.cell 6; have z6 := Z6.free 6))
          · go_wp2
            go_meet
            case rel =>
              have hnm : Len x := HTO.out.1
              have rb : Rng (b + -b) := ⟨by omega, by omega⟩
              have re : Rng (e + -b) := ⟨by omega, by omega⟩
              have o5 : w5.ownsRow w.heap.size 62 2 (.slice A5 na c5) na (c.attrs.flatMap atV) := by simpa using own5
              exact doc0_1 (t := ⟨x, b, e, ks⟩) (E6.bel hb7) (own_below o5 hb6) HAL.out own6 (Nat.le_trans hB3.size hb5.size) HKS.out hnm rb re
          · go_wp2
            go_meet
            case rel =>
              have hnm : Len x := HTO.out.1
              have rb : Rng (b + -b) := ⟨by omega, by omega⟩
              have re : Rng (e + -b) := ⟨by omega, by omega⟩
              have o5 : w5.ownsRow w.heap.size 62 2 (.slice A5 na c5) na (c.attrs.flatMap atV) := by simpa using own5
              exact doc0_2 (t := ⟨x, b, e, ks⟩) (E6.bel hb7) (own_below o5 hb6) HAL.out own6 (Nat.le_trans hB3.size hb5.size) HKS.out hnm rb re
          · go_wp2
            go_meet
            case rel =>
              have hnm : Len x := HTO.out.1
              have rb : Rng (b + -b) := ⟨by omega, by omega⟩
              have re : Rng (e + -b) := ⟨by omega, by omega⟩
              have o5 : w5.ownsRow w.heap.size 62 2 (.slice A5 na c5) na (c.attrs.flatMap atV) := by simpa using own5
              exact doc0_3 (t := ⟨x, b, e, ks⟩) Z6 (by have := E6.b4.lt; have := hb5.size; omega) (E6.bel hb7) (own_below (own_below o5 ((Below.refl _ _).alloc (Nat.le_refl _) _)) hb6) HAL.out own6 (Nat.le_trans hB3.size (hb5.alloc hb5.size _).size) HKS.out hnm rb re
          · go_wp2
            go_meet
            case rel =>
              have hnm : Len x := HTO.out.1
              have rb : Rng (b + -b) := ⟨by omega, by omega⟩
              have re : Rng (e + -b) := ⟨by omega, by omega⟩
              have o5 : w5.ownsRow w.heap.size 62 2 (.slice A5 na c5) na (c.attrs.flatMap atV) := by simpa using own5
              exact doc0_3 (t := ⟨x, b, e, ks⟩) Z6 (by have := E6.b4.lt; omega) (E6.bel hb7) (own_below o5 hb6) HAL.out own6 (Nat.le_trans hB3.size hb5.size) HKS.out hnm rb re
          -- dev>
        case rest =>
          clear q0 b0 b1 b2 b3 hB3 E6
          obtain ⟨gd, D, rfl, hgd, E7, O7, hDh, hDl⟩ := hcut
          have hra : Toks w w.heap.size ⟨At, nt, ct⟩ c.toks := HR.out.t
          have HTL := Lib.hid hra.len
          have htf := hra.fit
          obtain ⟨p, rfl⟩ : ∃ p : Nat, b = (p : Nat) := ⟨b.toNat, by omega⟩
          obtain ⟨q, rfl⟩ : ∃ q : Nat, e = (q : Nat) := ⟨e.toNat, by omega⟩
          have hpq : p < q := by omega
          have hqt : q ≤ nt := by have : c.toks.length = nt := HTL.out; omega
          have hnt : nt ≤ 4096 := by have : c.toks.length = nt := HTL.out; omega
          have hct : nt ≤ ct := htf.1
          obtain ⟨ga, oa, hA⟩ : ∃ ga oa, At = some ⟨ga, oa, none⟩ := by
            obtain ⟨ga, oa, H2, hk2, e2, _⟩ := hra.at_ (k := p) (show p < nt by omega)
            exact ⟨ga, oa, e2⟩
          subst hA
          obtain ⟨i3, hi3, hz30, hz31, hz32⟩ := info_parts info_sls
          have hsl : ∀ W, (Instr.slice 23 (.slice (some ⟨ga, oa, none⟩) nt ct) (some (.int .i64 (p : Nat))) (some (.int .i64 (q : Nat))) none).run Try.prog W = .ok (.slice (some ⟨ga, oa + p, none⟩) (q - p) (ct - p)) W :=
            fun W => slice_lh _ _ i3 Try.underlying23 hi3 hz31 ga oa nt ct p q (by omega) (by omega) (by omega) W
          have q1 : _ = some (Value.slice (some ⟨ga, oa, none⟩) nt ct) := E7.bc.cell 1
          have b1 := E7.bt.cell 1
          have b2 := E7.bt.cell 2
          clear htf ht i1
          go_upto_block 0 with (fail)
          obtain ⟨i1, hi1, hz10, hz11, hz12⟩ := info_parts info_string
          go_cut [] from 17 (fun wr => DocT w wr ⟨⟨Aa, na, ca⟩, ⟨some ⟨ga, oa, none⟩, nt, ct⟩, ⟨some ⟨g, o, none⟩, nx, cx⟩, ⟨Ar, nr, cr⟩, ⟨An, nn, cn⟩, ⟨Ah, nh, ch⟩, ⟨Al, nl, cl⟩⟩ ⟨x, (p : Nat), (q : Nat), ks⟩ ⟨Tk, tn, tc⟩ g6 gd ⟨c.attrs, Cor.cutL p q c.toks, [Cor.mvT (-(p : Int)) ⟨x, (p : Nat), (q : Nat), ks⟩], [], [], [], []⟩)
          case first =>
            -- <dev
            go_wp2
            go_loopw [54] (fun iv wr => ∃ j : Nat, j ≤ q - p ∧ iv = .int .i64 j ∧ DocT w wr ⟨⟨Aa, na, ca⟩, ⟨some ⟨ga, oa, none⟩, nt, ct⟩, ⟨some ⟨g, o, none⟩, nx, cx⟩, ⟨Ar, nr, cr⟩, ⟨An, nn, cn⟩, ⟨Ah, nh, ch⟩, ⟨Al, nl, cl⟩⟩ ⟨x, (p : Nat), (q : Nat), ks⟩ ⟨Tk, tn, tc⟩ g6 gd ⟨c.attrs, (c.toks.drop p).take j, [Cor.mvT (-(p : Int)) ⟨x, (p : Nat), (q : Nat), ks⟩], [], [], [], []⟩) (fun iv _ => (q - p) - (intOf iv).toNat)
            case atStart => exact ⟨0, Nat.zero_le _, rfl, D, E7, O7, hDh, hDl⟩
            case round =>
              obtain ⟨j, hj, rfl, hD⟩ := hrel
              obtain ⟨⟨⟨Da, nda, cda⟩, ⟨Dt, ndt, cdt⟩, ⟨Dx, ndx, cdx⟩, ⟨Dr, ndr, cdr⟩, ⟨Dn, ndn, cdn⟩, Dh, Dl⟩, E, O, hDh, hDl⟩ := hD
              obtain rfl : Dh = ⟨none, 0, 0⟩ := hDh
              obtain rfl : Dl = ⟨none, 0, 0⟩ := hDl
              by_cases hlt : j < q - p
              · obtain ⟨ga', oa', ⟨Ak, nk, ck⟩, hk2, e2, hga, hw2, d0⟩ := hra.at_ (k := p + j) (show p + j < nt by omega)
                cases e2
                have hB := E.below
                replace d0 : wr.cell? ⟨ga, oa + p + j, none⟩ = some (.slice Ak nk ck) := by
                  rw [Nat.add_assoc]; exact (hB.cell (p := ⟨ga, _, none⟩) hga).trans d0
                obtain ⟨s, hs⟩ : ∃ s, c.toks[p + j] = s := ⟨_, rfl⟩
                rw [hs] at hw2
                have HJ : Hid ((c.toks.drop p).take (j + 1) = (c.toks.drop p).take j ++ [s]) := by
                  show _ = _
                  rw [List.take_succ_eq_append_getElem (by rw [List.length_drop]; omega), List.getElem_drop, hs]
                have hsl8 : s.length ≤ 8 := by
                  have := VD.out.tkl.2 s (by rw [← hs]; exact List.getElem_mem _)
                  have := VD.out.atl
                  omega
                have hnk : nk ≤ 8 := by have := hw2.len; simp at this; omega
                have hws := hw2.under hB
                have hfl : Hid ((strs s).length = nk * 1) := hw2.2.1.1
                have SRC := Lib.hid ((hws.under ((Below.refl _ _).drew)).src)
                have h1 := Lib.hid (strs_one6 s)
                have HWS := Lib.hid hw2.2.2
                obtain ⟨L, hL, ho, hW⟩ := O.t
                obtain rfl : j = ndt := by
                  have h2 : L.length = ndt := (own_sl ho).flen tkV_len (by omega)
                  have h3 : L.length = j := by
                    rw [← List.length_map (f := Prod.fst), hL, List.length_take, List.length_drop]; omega
                  omega
                have hLL := Lib.hid hL
                have HO := Lib.hid ho
                have HW := Lib.hid hW
                have OO := Lib.hid O
                have EE := Lib.hid E
                have bd : Blk wr gd 30 #[.slice Da nda cda, .slice Dt j cdt, .slice Dx ndx cdx, .slice Dr ndr cdr, .slice Dn ndn cdn, .slice none 0 0, .slice none 0 0] := O.blk
                have y1 := bd.cell 1
                have hbD : Below wr.heap.size wr wr.drew := (Below.refl _ _).drew
                have HY := Lib.hid (fun (W : World) (hW : Below wr.heap.size wr W) => (bd.below hW).cell 1)
                have hB1 := hB.size
                clear hs hw2 hws hL ho hW O E hB
                go_wp2
                refine wp_region_m (fun W => W.cell? ⟨gd, 1, none⟩ = some (.slice Dt j cdt)) 7 (by as_aux_lemma => kernel_rfl) (y1) (fun hHeld => ?_)
                refine wpAnyM_take (i := 0) (v := ?_) rfl (by as_aux_lemma => kernel_rfl) (by as_aux_lemma => kernel_rfl) (by as_aux_lemma => kernel_rfl) (by as_aux_lemma => kernel_rfl) (fun _ _ _ h => h) (Or.inl ⟨by rfl, ?_⟩) (hHeld) ?_
                rotate_left
                · ((intro W hSw); (try dsimp only at hSw); go_simp; try (with_reducible rfl))
                simp only [Act.put, List.setIfInBounds_toArray, List.set_cons_zero, List.set_cons_succ]
                refine wpAnyM_take (i := 1) (v := ?_) rfl (by as_aux_lemma => kernel_rfl) (by as_aux_lemma => kernel_rfl) (by as_aux_lemma => kernel_rfl) (by as_aux_lemma => kernel_rfl) (fun _ _ _ h => h) (Or.inl ⟨by rfl, ?_⟩) (hHeld) ?_
                rotate_left
                · ((intro W hSw); (try dsimp only at hSw); go_simp; try (with_reducible rfl))
                simp only [Act.put, List.setIfInBounds_toArray, List.set_cons_zero, List.set_cons_succ]
                refine wpAnyM_take (i := 2) (v := ?_) rfl (by as_aux_lemma => kernel_rfl) (by as_aux_lemma => kernel_rfl) (by as_aux_lemma => kernel_rfl) (by as_aux_lemma => kernel_rfl) (fun _ _ _ h => h) (Or.inl ⟨by rfl, ?_⟩) (hHeld) ?_
                rotate_left
                · ((intro W hSw); (try dsimp only at hSw); go_simp; try (with_reducible rfl))
                simp only [Act.put, List.setIfInBounds_toArray, List.set_cons_zero, List.set_cons_succ]
                refine wpAnyM_one (i := 3) (by as_aux_lemma => kernel_rfl) rfl (fun K hK => ?_)
                refine step_app wr.drew (by rfl) (.const (.slice none 0 0)) (.tmp 60) _ (by rfl) w.heap.size 9 i1 _ 1 16 Try.underlying28 hi1 hz10 hz11 hz12 (by rfl) (by decide) _ 0 [] (by rfl) (World.ownsRow_nil _ _ _ _) Ak nk ck (strs s) (by rfl) hfl.out SRC.out h1.out (by unfold maxLen; omega) (by omega) hB1 ?_
                intro v5 w5 own5 gr5 _
                obtain ⟨A5, c5, rfl, -, -⟩ := own_slc own5
                have hb5 : Below wr.heap.size wr w5 := hbD.grown gr5 (Nat.le_refl _) (fun k hk => by cases hk)
                have y5 := HY.out w5 hb5
                have y5a := ((bd.below hb5).alloc (.cells #[.slice A5 nk c5] 28)).cell 1
                refine hK.out _ _ (fun _ => y5) ?_
                clear hK K
                try simp only [Act.put, List.setIfInBounds_toArray, List.set_cons_zero, List.set_cons_succ]
                refine wpAnyM_one (i := 4) (by as_aux_lemma => kernel_rfl) rfl (fun K hK => ?_)
                go_simp
                refine hK.out _ _ (fun _ => y5a) ?_
                clear hK K
                try simp only [Act.put, List.setIfInBounds_toArray, List.set_cons_zero, List.set_cons_succ]
                refine wpAnyM_one (i := 5) (by as_aux_lemma => kernel_rfl) rfl (fun K hK => ?_)
                refine step_app (w5.alloc (.cells #[.slice A5 nk c5] 28)) (by rfl) (.tmp 59) (.tmp 62) _ (by rfl) w.heap.size 28 i3 _ 1 24 Try.underlying23 hi3 hz30 hz31 hz32 (by rfl) (by decide) (.slice Dt j cdt) j (L.flatMap tkV) (by rfl) ((own_below HO.out hb5).alloc _) (some ⟨w5.heap.size, 0, none⟩) 1 1 [.slice A5 nk c5] (by rfl) rfl (fun _ => ⟨_, rfl, news_new w5 28 [.slice A5 nk c5]⟩) (fun u hu => by simp at hu; subst hu; rfl) (by unfold maxLen; omega) (by omega) (Nat.le_trans hB1 (hb5.alloc hb5.size _).size) ?_
                intro v6 w6 own6 gr6 _
                obtain ⟨A6, c6, rfl, -, -⟩ := own_slc own6
                have b6 := (bd.below hb5).off ((Off.alloc w5 (.cells #[.slice A5 nk c5] 28)).trans (Off.grown ((own_below HO.out hb5).alloc (.cells #[.slice A5 nk c5] 28)) gr6)) (by decide)
                have y6 := b6.cell 1
                have z6 := b6.free 1
                refine hK.out _ _ (fun _ => y6) ?_
                clear hK K
                try simp only [Act.put, List.setIfInBounds_toArray, List.set_cons_zero, List.set_cons_succ]
                refine wpAnyM_take (i := 6) (v := ?_) rfl (by as_aux_lemma => kernel_rfl) (by as_aux_lemma => kernel_rfl) (by as_aux_lemma => kernel_rfl) (by as_aux_lemma => kernel_rfl) (fun _ _ _ h => h) (Or.inl ⟨by rfl, ?_⟩) (y6) ?_
                rotate_left
                · ((intro W hSw); (try dsimp only at hSw); go_simp; try (with_reducible rfl))
                simp only [Act.put, List.setIfInBounds_toArray, List.set_cons_zero, List.set_cons_succ]
                refine wpAnyM_one (i := 7) (by as_aux_lemma => kernel_rfl) rfl (fun K hK => ?_)
                go_simp
                refine hK.out _ _ (fun h => absurd rfl h) ?_
                clear hK K
                try simp only [Act.put, List.setIfInBounds_toArray, List.set_cons_zero, List.set_cons_succ]
                refine wpAnyM_done (by as_aux_lemma => kernel_rfl) (NoPanic.normal ?_) _
                go_wp2
                go_roundw
                case rel =>
                  have o5 : w5.ownsRow w.heap.size 9 1 (.slice A5 nk c5) nk (strs s) := by simpa using own5
                  have O5 := (OO.out.below hb5).alloc (.cells #[.slice A5 nk c5] 28)
                  have E5 := (EE.out.bel hb5).alloc (.cells #[.slice A5 nk c5] 28)
                  have hoa := (own_below HO.out hb5).alloc (.cells #[.slice A5 nk c5] 28)
                  have O6 := O5.tok (y := ⟨A5, nk, c5⟩) (s := s) hLL.out hoa (fun x hx => ⟨(own_below (HW.out x hx).1 hb5).alloc _, (HW.out x hx).2⟩) ⟨o5.alloc _, HWS.out⟩ own6 gr6
                  have E6 := (E5.grown hoa gr6 (by decide) (by decide)).setd b6 hgd 1 (.slice A6 (j + 1) c6)
                  refine ⟨j + 1, by omega, by go_num, ⟨⟨Da, nda, cda⟩, ⟨A6, j + 1, c6⟩, ⟨Dx, ndx, cdx⟩, ⟨Dr, ndr, cdr⟩, ⟨Dn, ndn, cdn⟩, ⟨none, 0, 0⟩, ⟨none, 0, 0⟩⟩, E6, ?_, rfl, rfl⟩
                  rw [HJ.out]
                  exact O6
                case measure => simp [intOf]; omega
              · have hjj : j = q - p := by omega
                subst hjj
                have EE := Lib.hid E
                have OO := Lib.hid O
                clear E O
                go_wp2
                go_meet
                case rel =>
                  refine ⟨⟨⟨Da, nda, cda⟩, ⟨Dt, ndt, cdt⟩, ⟨Dx, ndx, cdx⟩, ⟨Dr, ndr, cdr⟩, ⟨Dn, ndn, cdn⟩, ⟨none, 0, 0⟩, ⟨none, 0, 0⟩⟩, EE.out, ?_, rfl, rfl⟩
                  have e9 : Cor.cutL (p : Int) (q : Int) c.toks = (c.toks.drop p).take (q - p) := by
                    unfold Cor.cutL
                    rw [Int.toNat_natCast, show ((q : Int) - p).toNat = q - p by omega]
                  rw [e9]
                  exact OO.out
            -- dev>
          case rest =>
            clear q1 b1 b2 hra hsl E7 O7 hDh hDl
            have hD0 := hcut
            have hrr : Txts w w.heap.size ⟨Ar, nr, cr⟩ c.regs := HR.out.r
            have HRL := Lib.hid hrr.len
            have hnr : nr ≤ 1024 := by have := VD.out.rgl; have : c.regs.length = nr := HRL.out; omega
            obtain ⟨⟨⟨Da, nda, cda⟩, ⟨Dt, ndt, cdt⟩, ⟨Dx, ndx, cdx⟩, ⟨Dr, ndr, cdr⟩, ⟨Dn, ndn, cdn⟩, Dh, Dl⟩, E, O, hDh, hDl⟩ := hD0
            have q3 : _ = some (Value.slice Ar nr cr) := E.bc.cell 3
            have i1 : IntKind.i64.wrap (-(p : Int)) = -(p : Int) := IntWalk.i64_in _ (by omega)
            clear E O hDh hDl Dh Dl
            obtain ⟨i2, hi2, hz20, hz21, hz22⟩ := info_parts info_reg
            go_upto_block 2 with (fail)
            go_cut [] from 17 (fun wr => DocT w wr ⟨⟨Aa, na, ca⟩, ⟨some ⟨ga, oa, none⟩, nt, ct⟩, ⟨some ⟨g, o, none⟩, nx, cx⟩, ⟨Ar, nr, cr⟩, ⟨An, nn, cn⟩, ⟨Ah, nh, ch⟩, ⟨Al, nl, cl⟩⟩ ⟨x, (p : Nat), (q : Nat), ks⟩ ⟨Tk, tn, tc⟩ g6 gd ⟨c.attrs, Cor.cutL p q c.toks, [Cor.mvT (-(p : Int)) ⟨x, (p : Nat), (q : Nat), ks⟩], (c.regs.filter (Cor.inR p q)).map (Cor.mvR (-(p : Int))), [], [], []⟩)
            case first =>
              -- <dev
              go_wp2
              go_loopw [69] (fun iv wr => ∃ j : Nat, j ≤ nr ∧ iv = .int .i64 j ∧ DocT w wr ⟨⟨Aa, na, ca⟩, ⟨some ⟨ga, oa, none⟩, nt, ct⟩, ⟨some ⟨g, o, none⟩, nx, cx⟩, ⟨Ar, nr, cr⟩, ⟨An, nn, cn⟩, ⟨Ah, nh, ch⟩, ⟨Al, nl, cl⟩⟩ ⟨x, (p : Nat), (q : Nat), ks⟩ ⟨Tk, tn, tc⟩ g6 gd ⟨c.attrs, Cor.cutL p q c.toks, [Cor.mvT (-(p : Int)) ⟨x, (p : Nat), (q : Nat), ks⟩], ((c.regs.take j).filter (Cor.inR p q)).map (Cor.mvR (-(p : Int))), [], [], []⟩) (fun iv _ => nr - (intOf iv).toNat)
              case atStart => exact ⟨0, Nat.zero_le _, rfl, hcut⟩
              case round =>
                obtain ⟨j, hj, rfl, hD⟩ := hrel
                obtain ⟨⟨⟨Da, nda, cda⟩, ⟨Dt, ndt, cdt⟩, ⟨Dx, ndx, cdx⟩, ⟨Dr, ndr, cdr⟩, ⟨Dn, ndn, cdn⟩, Dh, Dl⟩, E, O, hDh, hDl⟩ := hD
                obtain rfl : Dh = ⟨none, 0, 0⟩ := hDh
                obtain rfl : Dl = ⟨none, 0, 0⟩ := hDl
                by_cases hlt : j < nr
                · obtain ⟨ga', oa', ⟨Ak, nk, ck⟩, hk2, e2, hga, hto, d0, d1, d2, d3⟩ := hrr.at_ (k := j) hlt
                  have e2 : Ar = some ⟨ga', oa', none⟩ := e2
                  subst e2
                  have hB := E.below
                  replace d0 := (hB.cell (p := ⟨ga', _, none⟩) hga).trans d0
                  replace d1 := (hB.cell (p := ⟨ga', _, none⟩) hga).trans d1
                  replace d2 := (hB.cell (p := ⟨ga', _, none⟩) hga).trans d2
                  replace d3 := (hB.cell (p := ⟨ga', _, none⟩) hga).trans d3
                  have hrx := VD.out.rg _ (List.getElem_mem hk2)
                  obtain ⟨⟨rx, rb, re, rk⟩, hx⟩ : ∃ x, c.regs[j] = x := ⟨_, rfl⟩
                  have HXJ := Lib.hid hx
                  have HJ : Hid (((c.regs.take (j + 1)).filter (Cor.inR p q)).map (Cor.mvR (-(p : Int))) = ((c.regs.take j).filter (Cor.inR p q)).map (Cor.mvR (-(p : Int))) ++ (if Cor.inR p q ⟨rx, rb, re, rk⟩ = true then [Cor.mvR (-(p : Int)) ⟨rx, rb, re, rk⟩] else [])) := by
                    show _ = _
                    rw [List.take_succ_eq_append_getElem hk2, hx, List.filter_append, List.map_append]
                    congr 1
                    by_cases h : Cor.inR p q ⟨rx, rb, re, rk⟩ = true <;> simp [h]
                  rw [hx] at d0 d1 d2 hto hrx
                  obtain ⟨_, hr1, hr2, hr3, hr4⟩ := hrx
                  simp only [] at d0 d1 d2 hr1 hr2 hr3 hr4
                  have EE := Lib.hid (E.alloc (.cells #[str rx, .int .i64 rb, .int .i64 re, .slice Ak nk ck] 39))
                  have OO := Lib.hid (O.alloc (.cells #[str rx, .int .i64 rb, .int .i64 re, .slice Ak nk ck] 39))
                  have g6w : g6 < wr.heap.size := E.bt.lt
                  have gdw : gd < wr.heap.size := O.blk.lt
                  have b1 : _ = some (Value.int .i64 (p : Nat)) := E.bt.cell 1
                  have b2 : _ = some (Value.int .i64 (q : Nat)) := E.bt.cell 2
                  have HTO2 := Lib.hid hto
                  have HB := Lib.hid hB
                  obtain ⟨L, hL, ho0, hW0⟩ := O.r
                  have HNE := Lib.hid (fun (e : some wr.heap.size = (Value.slice Dr ndr cdr).ownBlock) => Nat.lt_irrefl _ (ho0.lt _ e.symm).2)
                  have ho := ho0.alloc (.cells #[str rx, .int .i64 rb, .int .i64 re, .slice Ak nk ck] 39)
                  have hW := fun y hy => (hW0 y hy).off (Off.alloc (R := 4294967295) wr (.cells #[str rx, .int .i64 rb, .int .i64 re, .slice Ak nk ck] 39)) (by decide)
                  clear hx hto E O hB ho0 hW0
                  by_cases hin : (p : Int) ≤ rb ∧ re ≤ (q : Int)
                  · have HI : Cor.inR p q ⟨rx, rb, re, rk⟩ = true := by unfold Cor.inR; simp [hin.1, hin.2]
                    have h9 := HNO.out ⟨x, (p : Nat), (q : Nat), ks⟩ (by rw [Int.toNat_natCast, List.getElem?_eq_getElem hk', HX.out]) _ (HXJ.out ▸ List.getElem_mem hk2)
                    simp only [] at h9
                    rw [HI] at h9; cases h9
                  · have HI : Hid (((c.regs.take (j + 1)).filter (Cor.inR p q)).map (Cor.mvR (-(p : Int))) = ((c.regs.take j).filter (Cor.inR p q)).map (Cor.mvR (-(p : Int)))) := by
                      show _ = _
                      rw [HJ.out, if_neg (by unfold Cor.inR; simp only [Bool.and_eq_true, decide_eq_true_eq]; exact hin), List.append_nil]
                    have HD : Hid (DocT w (wr.alloc (.cells #[str rx, .int .i64 rb, .int .i64 re, .slice Ak nk ck] 39)) ⟨⟨Aa, na, ca⟩, ⟨some ⟨ga, oa, none⟩, nt, ct⟩, ⟨some ⟨g, o, none⟩, nx, cx⟩, ⟨some ⟨ga', oa', none⟩, nr, cr⟩, ⟨An, nn, cn⟩, ⟨Ah, nh, ch⟩, ⟨Al, nl, cl⟩⟩ ⟨x, (p : Nat), (q : Nat), ks⟩ ⟨Tk, tn, tc⟩ g6 gd ⟨c.attrs, Cor.cutL p q c.toks, [Cor.mvT (-(p : Int)) ⟨x, (p : Nat), (q : Nat), ks⟩], ((c.regs.take j).filter (Cor.inR p q)).map (Cor.mvR (-(p : Int))), [], [], []⟩) := ⟨_, EE.out, OO.out, rfl, rfl⟩
                    clear EE OO
                    by_cases h1 : (p : Int) ≤ rb
                    · have dd1 : decide ((p : Int) ≤ rb) = true := by simpa using h1
                      have dd2 : decide (re ≤ (q : Int)) = false := by
                        simp only [decide_eq_false_iff_not]; exact fun h => hin ⟨h1, h⟩
                      clear hin
                      go_wp2
                      go_roundw
                      case rel =>
                        refine ⟨j + 1, by omega, by go_num, ?_⟩
                        rw [HI.out]; exact HD.out
                      case measure => simp [intOf]; omega
                    · have dd1 : decide ((p : Int) ≤ rb) = false := by simpa using h1
                      clear hin
                      go_wp2
                      go_roundw
                      case rel =>
                        refine ⟨j + 1, by omega, by go_num, ?_⟩
                        rw [HI.out]; exact HD.out
                      case measure => simp [intOf]; omega
                · obtain rfl : nr = j := by omega
                  have HD : Hid (DocT w wr ⟨⟨Aa, na, ca⟩, ⟨some ⟨ga, oa, none⟩, nt, ct⟩, ⟨some ⟨g, o, none⟩, nx, cx⟩, ⟨Ar, nr, cr⟩, ⟨An, nn, cn⟩, ⟨Ah, nh, ch⟩, ⟨Al, nl, cl⟩⟩ ⟨x, (p : Nat), (q : Nat), ks⟩ ⟨Tk, tn, tc⟩ g6 gd ⟨c.attrs, Cor.cutL p q c.toks, [Cor.mvT (-(p : Int)) ⟨x, (p : Nat), (q : Nat), ks⟩], ((c.regs.take nr).filter (Cor.inR p q)).map (Cor.mvR (-(p : Int))), [], [], []⟩) := ⟨_, E, O, rfl, rfl⟩
                  clear E O
                  go_wp2
                  go_meet
                  case rel =>
                    have h9 := HD.out
                    rw [List.take_of_length_le (by have : c.regs.length = nr := HRL.out; omega)] at h9
                    exact h9
              -- dev>
            case rest =>
              clear q3 hrr hnr HRL
              have hD0 := hcut
              have hrn : Nods w w.heap.size ⟨An, nn, cn⟩ c.nods := HR.out.n
              have HNL := Lib.hid hrn.len
              have hnn : nn ≤ 2048 := by have := VD.out.ndl; have : c.nods.length = nn := HNL.out; omega
              obtain ⟨M, hM⟩ : ∃ M, (c.nods.filter fun x => decide (x.b < (p : Int))).length = M := ⟨_, rfl⟩
              have HMM := Lib.hid hM
              have HP : Hid (∀ j (hj : j < c.nods.length), (c.nods[j].b < (p : Int) ↔ j < M)) := by
                show ∀ j (hj : j < c.nods.length), (c.nods[j].b < (p : Int) ↔ j < M)
                intro j hj
                have h := VD.out.front hk' j hj
                rw [HX.out] at h
                rw [← HMM.out]; exact h
              have hMn : M ≤ nn := by rw [← HMM.out]; have := List.length_filter_le (fun x : Cor.Nod => decide (x.b < (p : Int))) c.nods; have : c.nods.length = nn := HNL.out; omega
              clear hM
              obtain ⟨⟨⟨Da, nda, cda⟩, ⟨Dt, ndt, cdt⟩, ⟨Dx, ndx, cdx⟩, ⟨Dr, ndr, cdr⟩, ⟨Dn, ndn, cdn⟩, Dh, Dl⟩, E, O, hDh, hDl⟩ := hD0
              have q4 : _ = some (Value.slice An nn cn) := E.bc.cell 4
              clear E O hDh hDl Dh Dl Da nda cda Dt ndt cdt Dx ndx cdx Dr ndr cdr Dn ndn cdn
              obtain ⟨i4, hi4, hz40, hz41, hz42⟩ := info_parts info_nod
              go_upto_block 4 with (fail)
              go_cut [] from 17 (fun wr => DocT w wr ⟨⟨Aa, na, ca⟩, ⟨some ⟨ga, oa, none⟩, nt, ct⟩, ⟨some ⟨g, o, none⟩, nx, cx⟩, ⟨Ar, nr, cr⟩, ⟨An, nn, cn⟩, ⟨Ah, nh, ch⟩, ⟨Al, nl, cl⟩⟩ ⟨x, (p : Nat), (q : Nat), ks⟩ ⟨Tk, tn, tc⟩ g6 gd ⟨c.attrs, Cor.cutL p q c.toks, [Cor.mvT (-(p : Int)) ⟨x, (p : Nat), (q : Nat), ks⟩], (c.regs.filter (Cor.inR p q)).map (Cor.mvR (-(p : Int))), (c.nods.filter (Cor.inN p q)).map (Cor.mvN (-(p : Int)) (-(M : Int))), [], []⟩)
              case first =>
                -- <dev
                go_wp2
                go_loopw [99, 12] (fun iv fv wr => ∃ j F : Nat, j ≤ nn ∧ F ≤ nn ∧ iv = .int .i64 j ∧ fv = .int .i64 F ∧ Hid (F = min j M) ∧ DocT w wr ⟨⟨Aa, na, ca⟩, ⟨some ⟨ga, oa, none⟩, nt, ct⟩, ⟨some ⟨g, o, none⟩, nx, cx⟩, ⟨Ar, nr, cr⟩, ⟨An, nn, cn⟩, ⟨Ah, nh, ch⟩, ⟨Al, nl, cl⟩⟩ ⟨x, (p : Nat), (q : Nat), ks⟩ ⟨Tk, tn, tc⟩ g6 gd ⟨c.attrs, Cor.cutL p q c.toks, [Cor.mvT (-(p : Int)) ⟨x, (p : Nat), (q : Nat), ks⟩], (c.regs.filter (Cor.inR p q)).map (Cor.mvR (-(p : Int))), ((c.nods.take j).filter (Cor.inN p q)).map (Cor.mvN (-(p : Int)) (-(M : Int))), [], []⟩) (fun iv _ _ => nn - (intOf iv).toNat)
                case atStart => exact ⟨0, 0, Nat.zero_le _, Nat.zero_le _, rfl, rfl, (Nat.zero_min M).symm, hcut⟩
                case round =>
                  obtain ⟨j, F, hj, hF, rfl, rfl, hFM, hD⟩ := hrel
                  obtain ⟨⟨⟨Da, nda, cda⟩, ⟨Dt, ndt, cdt⟩, ⟨Dx, ndx, cdx⟩, ⟨Dr, ndr, cdr⟩, ⟨Dn, ndn, cdn⟩, Dh, Dl⟩, E, O, hDh, hDl⟩ := hD
                  obtain rfl : Dh = ⟨none, 0, 0⟩ := hDh
                  obtain rfl : Dl = ⟨none, 0, 0⟩ := hDl
                  by_cases hlt : j < nn
                  · exfalso
                    have h8 : c.nods.length = nn := HNL.out
                    rw [HN0.out] at h8
                    simp at h8
                    omega
                  · obtain rfl : nn = j := by omega
                    have HD : Hid (DocT w wr ⟨⟨Aa, na, ca⟩, ⟨some ⟨ga, oa, none⟩, nt, ct⟩, ⟨some ⟨g, o, none⟩, nx, cx⟩, ⟨Ar, nr, cr⟩, ⟨An, nn, cn⟩, ⟨Ah, nh, ch⟩, ⟨Al, nl, cl⟩⟩ ⟨x, (p : Nat), (q : Nat), ks⟩ ⟨Tk, tn, tc⟩ g6 gd ⟨c.attrs, Cor.cutL p q c.toks, [Cor.mvT (-(p : Int)) ⟨x, (p : Nat), (q : Nat), ks⟩], (c.regs.filter (Cor.inR p q)).map (Cor.mvR (-(p : Int))), ((c.nods.take nn).filter (Cor.inN p q)).map (Cor.mvN (-(p : Int)) (-(M : Int))), [], []⟩) := ⟨_, E, O, rfl, rfl⟩
                    clear E O
                    go_wp2
                    go_meet
                    case rel =>
                      have h9 := HD.out
                      rw [List.take_of_length_le (by have : c.nods.length = nn := HNL.out; omega)] at h9
                      exact h9
                -- dev>
              case rest =>
                clear q4 hrn hnn HNL HP hMn i1
                have hD := hcut
                clear hcut
                obtain ⟨⟨⟨Da, nda, cda⟩, ⟨Dt, ndt, cdt⟩, ⟨Dx, ndx, cdx⟩, ⟨Dr, ndr, cdr⟩, ⟨Dn, ndn, cdn⟩, Dh, Dl⟩, E, O, hDh, hDl⟩ := hD
                obtain rfl : Dh = ⟨none, 0, 0⟩ := hDh
                obtain rfl : Dl = ⟨none, 0, 0⟩ := hDl
                have hhr : Nums w w.heap.size ⟨Ah, nh, ch⟩ c.heads := HR.out.h
                have hlr : Words w w.heap.size ⟨Al, nl, cl⟩ c.rels := HR.out.l
                have HHL := Lib.hid hhr.len
                have HLL := Lib.hid hlr.len
                have hdl := VD.out.hdl
                have hft := hhr.1
                have hfl := hlr.1
                have EE := Lib.hid E
                have OO := Lib.hid O
                have q5 : _ = some (Value.slice Ah nh ch) := E.bc.cell 5
                have q6 : _ = some (Value.slice Al nl cl) := E.bc.cell 6
                have t1 : _ = some (Value.int .i64 (p : Nat)) := E.bt.cell 1
                have t2 : _ = some (Value.int .i64 (q : Nat)) := E.bt.cell 2
                clear E O
                by_cases hz : nh = 0
                · subst hz
                  have HE2 : Hid (Cor.ext c (k : Nat) = (⟨c.attrs, Cor.cutL p q c.toks, [Cor.mvT (-(p : Int)) ⟨x, (p : Nat), (q : Nat), ks⟩], (c.regs.filter (Cor.inR p q)).map (Cor.mvR (-(p : Int))), (c.nods.filter (Cor.inN p q)).map (Cor.mvN (-(p : Int)) (-(M : Int))), [], []⟩, 0)) := by
                    show _ = _
                    have e1 : c.heads = [] := List.eq_nil_of_length_eq_zero HHL.out
                    have e2 : c.rels = [] := List.eq_nil_of_length_eq_zero (by rw [← hdl.1]; exact HHL.out)
                    rw [HE.out]
                    unfold Cor.doc
                    rw [e1, e2, if_pos (by unfold Cor.cutL; simp; rfl), if_pos (by unfold Cor.cutL; simp; rfl), HMM.out]
                  clear hdl hft hfl
                  go_upto_region 27 with (fail)
                  go_quiet (fail)
                  have E6 := Lib.hid (EE.out.drewN nq)
                  have O6 := Lib.hid (OO.out.drewN nq)
                  have b4 := E6.out.b4
                  have bd : Blk _ gd 30 #[.slice Da nda cda, .slice Dt ndt cdt, .slice Dx ndx cdx, .slice Dr ndr cdr, .slice Dn ndn cdn, .slice none 0 0, .slice none 0 0] := O6.out.blk
                  have y0 := bd.cell 0
                  have y1 := bd.cell 1
                  have y2 := bd.cell 2
                  have y3 := bd.cell 3
                  have y4 := bd.cell 4
                  have y5 := bd.cell 5
                  have y6 := bd.cell 6
                  have v0 := b4.cell 0
                  have v1 := b4.cell 1
                  have v2 := b4.cell 2
                  have v3 := b4.cell 3
                  have v4 := b4.cell 4
                  have v5 := b4.cell 5
                  have v6 := b4.cell 6
                  have z0 := b4.free 0
                  have z1 := b4.free 1
                  have z2 := b4.free 2
                  have z3 := b4.free 3
                  have z4 := b4.free 4
                  have z5 := b4.free 5
                  have z6 := b4.free 6
                  go_wp2
                  refine bodyPost_ret (v := .tuple #[.agg #[.slice Da nda cda, .slice Dt ndt cdt, .slice Dx ndx cdx, .slice Dr ndr cdr, .slice Dn ndn cdn, .slice none 0 0, .slice none 0 0], .int .i64 0]) (by simp [results, Try.f21, go_sem, b4.cell 0, b4.cell 1, b4.cell 2, b4.cell 3, b4.cell 4, b4.cell 5, b4.cell 6]) rfl ?_
                  exact made_of (D := ⟨⟨Da, nda, cda⟩, ⟨Dt, ndt, cdt⟩, ⟨Dx, ndx, cdx⟩, ⟨Dr, ndr, cdr⟩, ⟨Dn, ndn, cdn⟩, ⟨none, 0, 0⟩, ⟨none, 0, 0⟩⟩) (d := ⟨c.attrs, Cor.cutL p q c.toks, [Cor.mvT (-(p : Int)) ⟨x, (p : Nat), (q : Nat), ks⟩], (c.regs.filter (Cor.inR p q)).map (Cor.mvR (-(p : Int))), (c.nods.filter (Cor.inN p q)).map (Cor.mvN (-(p : Int)) (-(M : Int))), [], []⟩) HE2.out O6.out ⟨own_nil0 _ _ _ _, fun _ h => by cases h⟩ ⟨own_nil0 _ _ _ _, fun _ h => by cases h⟩ (off7 b4 _ _ _ _ _ _ _) (below7 E6.out.below (Nat.le_succ _) _ _ _ _ _ _ _)
                · exfalso
                  have h8 : c.heads.length = nh := HHL.out
                  rw [HH0.out] at h8
                  simp at h8
                  omega
end Go.Proofs.Ytaihgoohmcipkaa
