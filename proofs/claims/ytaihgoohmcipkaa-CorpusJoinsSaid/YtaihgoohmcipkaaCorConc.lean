/-
  The contract of Concat. Conditions: none but that two corpora read as they do.
-/
import Derived.Test.YtaihgoohmcipkaaCorOwnD
import Derived.Test.YtaihgoohmcipkaaCorCat
import Derived.Test.YtaihgoohmcipkaaCorHds
import Derived.Test.YtaihgoohmcipkaaCorEq
namespace Go.Proofs.Ytaihgoohmcipkaa
set_option linter.unusedSimpArgs false
set_option linter.unusedVariables false
open Go.RowKit Utf
open Feat (Bs)

/-- The boxes of both corpora and of the result. -/
structure Box3 (w wr : World) (H K : CH) : Prop where
  below : Below w.heap.size w wr
  a : Blk wr w.heap.size 30 H.cs
  b : Blk wr (w.heap.size + 1) 30 K.cs
  r : Blk wr (w.heap.size + 2) 30 nilH.cs
section
variable {w wr w' : World} {H K : CH}
theorem Box3.bel (h : Box3 w wr H K) (hb : Below wr.heap.size wr w') : Box3 w w' H K := ⟨h.below.trans (hb.mono h.below.size), h.a.below hb, h.b.below hb, h.r.below hb⟩
theorem Box3.offG {gd : Nat} (h : Box3 w wr H K) (f : OffG gd wr w') (hg : w.heap.size + 2 < gd) (hb : Below w.heap.size w w') : Box3 w w' H K := ⟨hb, h.a.offG f (by omega), h.b.offG f (by omega), h.r.offG f (by omega)⟩
theorem Box3.keep {gd : Nat} (h : Box3 w wr H K) (hk : ∀ k, k < wr.heap.size → k ≠ gd → w'.heap[k]? = wr.heap[k]?) (hg : w.heap.size + 2 < gd) (hb : Below w.heap.size w w') : Box3 w w' H K :=
  ⟨hb, (hk _ h.a.lt (by omega)).trans h.a, (hk _ h.b.lt (by omega)).trans h.b, (hk _ h.r.lt (by omega)).trans h.r⟩
theorem box3_new (w : World) (H K : CH) : Box3 w (((w.alloc (.cells H.cs 30)).alloc (.cells K.cs 30)).alloc (.cells nilH.cs 30)) H K := by
  refine ⟨(((Below.refl _ _).alloc (Nat.le_refl _) _).alloc (by simp) _).alloc (by simp; omega) _, ((Blk.new w _ _).alloc _).alloc _, ?_, ?_⟩
  · have h := (Blk.new (w.alloc (.cells H.cs 30)) 30 K.cs).alloc (.cells nilH.cs 30)
    rw [World.size_alloc] at h; exact h
  · have h := Blk.new ((w.alloc (.cells H.cs 30)).alloc (.cells K.cs 30)) 30 nilH.cs
    rw [World.size_alloc, World.size_alloc] at h; exact h
end
theorem mvT_zero (l : List Cor.Txt) : l.map (Cor.mvT ((0 : Nat) : Int)) = l := by
  rw [show Cor.mvT ((0 : Nat) : Int) = id by funext x; unfold Cor.mvT; simp]; simp
theorem mvR_zero (l : List Cor.Reg) : l.map (Cor.mvR ((0 : Nat) : Int)) = l := by
  rw [show Cor.mvR ((0 : Nat) : Int) = id by funext x; unfold Cor.mvR; simp]; simp
theorem mvN_zero (l : List Cor.Nod) : l.map (Cor.mvN ((0 : Nat) : Int) ((0 : Nat) : Int)) = l := by
  rw [show Cor.mvN ((0 : Nat) : Int) ((0 : Nat) : Int) = id by funext x; unfold Cor.mvN; simp]; simp
theorem mvH_zero (l : List Int) : l.map (Cor.mvH ((0 : Nat) : Int)) = l := by
  rw [show Cor.mvH ((0 : Nat) : Int) = id by funext x; unfold Cor.mvH; simp]; simp

set_option maxRecDepth 100000 in
set_option maxHeartbeats 16000000 in
theorem concat_own (H K : CH) (a b : Cor.C) (w : World) (ha : Reads w w.heap.size H a) (hb : Reads w w.heap.size K b) : Calls Try.prog 30 #[H.v, K.v] w (MadeO (Cor.cat a b) w) := by
  obtain ⟨⟨Aa, na, ca⟩, ⟨At, nt, ct⟩, ⟨Ax, nx, cx⟩, ⟨Ar, nr, cr⟩, ⟨An, nn, cn⟩, ⟨Ah, nh, ch⟩, ⟨Al, nl, cl⟩⟩ := H
  obtain ⟨⟨Ba, ma, da⟩, ⟨Bt, mt, dt⟩, ⟨Bx, mx, dx⟩, ⟨Br, mr, dr⟩, ⟨Bn, mn, dn⟩, ⟨Bh, mh, dh⟩, ⟨Bl, ml, dl⟩⟩ := K
  show Calls Try.prog 30 #[.agg #[.slice Aa na ca, .slice At nt ct, .slice Ax nx cx, .slice Ar nr cr, .slice An nn cn, .slice Ah nh ch, .slice Al nl cl], .agg #[.slice Ba ma da, .slice Bt mt dt, .slice Bx mx dx, .slice Br mr dr, .slice Bn mn dn, .slice Bh mh dh, .slice Bl ml dl]] w _
  have E0 : Box3 w (((w.alloc (.cells #[.slice Aa na ca, .slice At nt ct, .slice Ax nx cx, .slice Ar nr cr, .slice An nn cn, .slice Ah nh ch, .slice Al nl cl] 30)).alloc (.cells #[.slice Ba ma da, .slice Bt mt dt, .slice Bx mx dx, .slice Br mr dr, .slice Bn mn dn, .slice Bh mh dh, .slice Bl ml dl] 30)).alloc (.cells #[.slice none 0 0, .slice none 0 0, .slice none 0 0, .slice none 0 0, .slice none 0 0, .slice none 0 0, .slice none 0 0] 30)) ⟨⟨Aa, na, ca⟩, ⟨At, nt, ct⟩, ⟨Ax, nx, cx⟩, ⟨Ar, nr, cr⟩, ⟨An, nn, cn⟩, ⟨Ah, nh, ch⟩, ⟨Al, nl, cl⟩⟩ ⟨⟨Ba, ma, da⟩, ⟨Bt, mt, dt⟩, ⟨Bx, mx, dx⟩, ⟨Br, mr, dr⟩, ⟨Bn, mn, dn⟩, ⟨Bh, mh, dh⟩, ⟨Bl, ml, dl⟩⟩ := box3_new w ⟨⟨Aa, na, ca⟩, ⟨At, nt, ct⟩, ⟨Ax, nx, cx⟩, ⟨Ar, nr, cr⟩, ⟨An, nn, cn⟩, ⟨Ah, nh, ch⟩, ⟨Al, nl, cl⟩⟩ ⟨⟨Ba, ma, da⟩, ⟨Bt, mt, dt⟩, ⟨Bx, mx, dx⟩, ⟨Br, mr, dr⟩, ⟨Bn, mn, dn⟩, ⟨Bh, mh, dh⟩, ⟨Bl, ml, dl⟩⟩
  have KA := Lib.hid ha
  have KB := Lib.hid hb
  have ra := (ha.under E0.below).up E0.below.size
  clear ha hb
  go_enter Try.func30, Try.ntmps30
  go_wp2_with fail
  refine (corValid_any ⟨⟨Aa, na, ca⟩, ⟨At, nt, ct⟩, ⟨Ax, nx, cx⟩, ⟨Ar, nr, cr⟩, ⟨An, nn, cn⟩, ⟨Ah, nh, ch⟩, ⟨Al, nl, cl⟩⟩ a _ ra).mono ?_
  rintro e' w1 ⟨rfl, hb1⟩
  have E1 := E0.bel hb1
  clear E0 ra hb1
  obtain ⟨va, hva⟩ : ∃ v, Cor.valid a = v := ⟨_, rfl⟩
  have HVA := Lib.hid hva
  rw [hva]
  clear hva
  cases va with
  | false =>
    have v0 : _ = some (Value.slice none 0 0) := E1.r.cell 0
    have z0 := E1.r.free 0
    have v1 : _ = some (Value.slice none 0 0) := E1.r.cell 1
    have z1 := E1.r.free 1
    have v2 : _ = some (Value.slice none 0 0) := E1.r.cell 2
    have z2 := E1.r.free 2
    have v3 : _ = some (Value.slice none 0 0) := E1.r.cell 3
    have z3 := E1.r.free 3
    have v4 : _ = some (Value.slice none 0 0) := E1.r.cell 4
    have z4 := E1.r.free 4
    have v5 : _ = some (Value.slice none 0 0) := E1.r.cell 5
    have z5 := E1.r.free 5
    have v6 : _ = some (Value.slice none 0 0) := E1.r.cell 6
    have z6 := E1.r.free 6
    have HE : Hid (Cor.cat a b = (Cor.nil, 1)) := by
      show _ = _
      unfold Cor.cat; rw [if_pos (.inl HVA.out)]
    go_wp2
    refine bodyPost_ret (v := .tuple #[nilH.v, .int .i64 1]) (by simp [results, Try.f30, go_sem, v0, v1, v2, v3, v4, v5, v6, nilH]) rfl ⟨nilH, by rw [HE.out]; rfl, by rw [HE.out]; exact ownD_nil _, ?_⟩
    exact below7 E1.below (by omega) _ _ _ _ _ _ _
  | true =>
    have vda := Lib.hid (vd_iff.1 HVA.out)
    have p0 : _ = some (Value.slice Ba ma da) := E1.b.cell 0
    have p1 : _ = some (Value.slice Bt mt dt) := E1.b.cell 1
    have p2 : _ = some (Value.slice Bx mx dx) := E1.b.cell 2
    have p3 : _ = some (Value.slice Br mr dr) := E1.b.cell 3
    have p4 : _ = some (Value.slice Bn mn dn) := E1.b.cell 4
    have p5 : _ = some (Value.slice Bh mh dh) := E1.b.cell 5
    have p6 : _ = some (Value.slice Bl ml dl) := E1.b.cell 6
    go_wp2_with fail
    refine (corValid_any ⟨⟨Ba, ma, da⟩, ⟨Bt, mt, dt⟩, ⟨Bx, mx, dx⟩, ⟨Br, mr, dr⟩, ⟨Bn, mn, dn⟩, ⟨Bh, mh, dh⟩, ⟨Bl, ml, dl⟩⟩ b _ ((KB.out.under E1.below).up E1.below.size)).mono ?_
    rintro e' w2 ⟨rfl, hb2⟩
    have E2 := E1.bel hb2
    clear E1 hb2 p0 p1 p2 p3 p4 p5 p6
    obtain ⟨vb, hvb⟩ : ∃ v, Cor.valid b = v := ⟨_, rfl⟩
    have HVB := Lib.hid hvb
    rw [hvb]
    clear hvb
    cases vb with
    | false =>
      have v0 : _ = some (Value.slice none 0 0) := E2.r.cell 0
      have z0 := E2.r.free 0
      have v1 : _ = some (Value.slice none 0 0) := E2.r.cell 1
      have z1 := E2.r.free 1
      have v2 : _ = some (Value.slice none 0 0) := E2.r.cell 2
      have z2 := E2.r.free 2
      have v3 : _ = some (Value.slice none 0 0) := E2.r.cell 3
      have z3 := E2.r.free 3
      have v4 : _ = some (Value.slice none 0 0) := E2.r.cell 4
      have z4 := E2.r.free 4
      have v5 : _ = some (Value.slice none 0 0) := E2.r.cell 5
      have z5 := E2.r.free 5
      have v6 : _ = some (Value.slice none 0 0) := E2.r.cell 6
      have z6 := E2.r.free 6
      have HE : Hid (Cor.cat a b = (Cor.nil, 1)) := by
        show _ = _
        unfold Cor.cat; rw [if_pos (.inr HVB.out)]
      go_wp2
      refine bodyPost_ret (v := .tuple #[nilH.v, .int .i64 1]) (by simp [results, Try.f30, go_sem, v0, v1, v2, v3, v4, v5, v6, nilH]) rfl ⟨nilH, by rw [HE.out]; rfl, by rw [HE.out]; exact ownD_nil _, ?_⟩
      exact below7 E2.below (by omega) _ _ _ _ _ _ _
    | true =>
      have vdb := Lib.hid (vd_iff.1 HVB.out)
      have q0 : _ = some (Value.slice Aa na ca) := E2.a.cell 0
      have p0 : _ = some (Value.slice Ba ma da) := E2.b.cell 0
      go_wp2_with fail
      refine (eqL_attr_any Aa na ca Ba ma da a.attrs b.attrs _ ((KA.out.a.under E2.below).up E2.below.size) ((KB.out.a.under E2.below).up E2.below.size)).mono ?_
      rintro e' w3 ⟨rfl, nq, hw3⟩
      have E3 : Box3 w w3 ⟨⟨Aa, na, ca⟩, ⟨At, nt, ct⟩, ⟨Ax, nx, cx⟩, ⟨Ar, nr, cr⟩, ⟨An, nn, cn⟩, ⟨Ah, nh, ch⟩, ⟨Al, nl, cl⟩⟩ ⟨⟨Ba, ma, da⟩, ⟨Bt, mt, dt⟩, ⟨Bx, mx, dx⟩, ⟨Br, mr, dr⟩, ⟨Bn, mn, dn⟩, ⟨Bh, mh, dh⟩, ⟨Bl, ml, dl⟩⟩ := by rw [hw3]; exact E2.bel (below_drewN (Below.refl _ _) nq)
      clear E2 q0 p0 hw3 w2
      obtain ⟨sb, hsb⟩ : ∃ v, same a.attrs b.attrs = v := ⟨_, rfl⟩
      have HSB := Lib.hid hsb
      rw [hsb]
      clear hsb
      cases sb with
      | false =>
        have v0 : _ = some (Value.slice none 0 0) := E3.r.cell 0
        have z0 := E3.r.free 0
        have v1 : _ = some (Value.slice none 0 0) := E3.r.cell 1
        have z1 := E3.r.free 1
        have v2 : _ = some (Value.slice none 0 0) := E3.r.cell 2
        have z2 := E3.r.free 2
        have v3 : _ = some (Value.slice none 0 0) := E3.r.cell 3
        have z3 := E3.r.free 3
        have v4 : _ = some (Value.slice none 0 0) := E3.r.cell 4
        have z4 := E3.r.free 4
        have v5 : _ = some (Value.slice none 0 0) := E3.r.cell 5
        have z5 := E3.r.free 5
        have v6 : _ = some (Value.slice none 0 0) := E3.r.cell 6
        have z6 := E3.r.free 6
        have HE : Hid (Cor.cat a b = (Cor.nil, 17)) := by
          show _ = _
          unfold Cor.cat; rw [if_neg (by rw [HVA.out, HVB.out]; simp), if_pos (fun h => by have := same_t h; rw [HSB.out] at this; cases this)]
        go_wp2
        refine bodyPost_ret (v := .tuple #[nilH.v, .int .i64 17]) (by simp [results, Try.f30, go_sem, v0, v1, v2, v3, v4, v5, v6, nilH]) rfl ⟨nilH, by rw [HE.out]; rfl, by rw [HE.out]; exact ownD_nil _, ?_⟩
        exact below7 E3.below (by omega) _ _ _ _ _ _ _
      | true =>
        have HAT : Hid (a.attrs = b.attrs) := same_iff.1 HSB.out
        have hta := vda.out.tkl.1
        have htb := vdb.out.tkl.1
        have hxa := vda.out.txl
        have hxb := vdb.out.txl
        have hra := vda.out.rgl
        have hrb := vdb.out.rgl
        have hna := vda.out.ndl
        have hnb := vdb.out.ndl
        have l1 : a.toks.length = nt := KA.out.t.len
        have l2 : b.toks.length = mt := KB.out.t.len
        have l3 : a.texts.length = nx := KA.out.x.len
        have l4 : b.texts.length = mx := KB.out.x.len
        have l5 : a.regs.length = nr := KA.out.r.len
        have l6 : b.regs.length = mr := KB.out.r.len
        have l7 : a.nods.length = nn := KA.out.n.len
        have l8 : b.nods.length = mn := KB.out.n.len
        rw [l1] at hta
        rw [l2] at htb
        rw [l3] at hxa
        rw [l4] at hxb
        rw [l5] at hra
        rw [l6] at hrb
        rw [l7] at hna
        rw [l8] at hnb
        have L1 := Lib.hid l1
        have L2 := Lib.hid l2
        have L3 := Lib.hid l3
        have L4 := Lib.hid l4
        have L5 := Lib.hid l5
        have L6 := Lib.hid l6
        have L7 := Lib.hid l7
        have L8 := Lib.hid l8
        clear l1 l2 l3 l4 l5 l6 l7 l8
        have p2 : _ = some (Value.slice Bx mx dx) := E3.b.cell 2
        have hrx : Txts w w.heap.size ⟨Bx, mx, dx⟩ b.texts := KB.out.x
        go_wp2
        clear p2
        go_loopw [28] (fun iv wr => ∃ j : Nat, j ≤ mx ∧ iv = .int .i64 j ∧ Hid (∀ i (hi : i < b.texts.length), i < j → ¬ 0 ≤ Cor.findT a.texts b.texts[i].nm) ∧ Below w3.heap.size w3 wr) (fun iv _ => mx - (intOf iv).toNat)
        case atStart => exact ⟨0, Nat.zero_le _, rfl, fun _ _ h => absurd h (Nat.not_lt_zero _), Below.refl _ _⟩
        case round =>
          obtain ⟨j, hj, rfl, HN, hBr⟩ := hrel
          have E4 := E3.bel hBr
          by_cases hlt : j < mx
          · obtain ⟨g, o, ⟨Ak, nk, ck⟩, hk2, e2, hg, hto, d0, d1, d2, d3⟩ := hrx.at_ (k := j) hlt
            have e2 : Bx = some ⟨g, o, none⟩ := e2
            subst e2
            have hB := E4.below
            replace d0 := (hB.cell (p := ⟨g, _, none⟩) hg).trans d0
            replace d1 := (hB.cell (p := ⟨g, _, none⟩) hg).trans d1
            replace d2 := (hB.cell (p := ⟨g, _, none⟩) hg).trans d2
            replace d3 := (hB.cell (p := ⟨g, _, none⟩) hg).trans d3
            obtain ⟨⟨x, tb, te, tk⟩, hx⟩ : ∃ x, b.texts[j] = x := ⟨_, rfl⟩
            rw [hx] at d0 d1 d2
            simp only [] at d0 d1 d2
            have HX := Lib.hid hx
            have lx := E4.a.lt
            have q0 : _ = some (Value.slice Aa na ca) := E4.a.cell 0
            have q1 : _ = some (Value.slice At nt ct) := E4.a.cell 1
            have q2 : _ = some (Value.slice Ax nx cx) := E4.a.cell 2
            have q3 : _ = some (Value.slice Ar nr cr) := E4.a.cell 3
            have q4 : _ = some (Value.slice An nn cn) := E4.a.cell 4
            have q5 : _ = some (Value.slice Ah nh ch) := E4.a.cell 5
            have q6 : _ = some (Value.slice Al nl cl) := E4.a.cell 6
            obtain ⟨fi, hfi⟩ : ∃ v, Cor.findT a.texts x = v := ⟨_, rfl⟩
            have HF := Lib.hid hfi
            have FC := Lib.hid (fun (W : World) (hW : Below w.heap.size w W) => findText_any ⟨⟨Aa, na, ca⟩, ⟨At, nt, ct⟩, ⟨Ax, nx, cx⟩, ⟨Ar, nr, cr⟩, ⟨An, nn, cn⟩, ⟨Ah, nh, ch⟩, ⟨Al, nl, cl⟩⟩ a.texts x W ((KA.out.x.under hW).up hW.size))
            rw [hfi] at FC
            have E5 := E4.bel ((Below.refl _ _).alloc (Nat.le_refl _) (.cells #[str x, .int .i64 tb, .int .i64 te, .slice Ak nk ck] 64))
            have hBS := Lib.hid hBr.size
            have hBR := Lib.hid hBr
            clear hx hfi hto E4 hB hBr
            go_wp2_with fail
            refine (FC.out _ E5.below).mono ?_
            rintro e' w5 ⟨rfl, hb5⟩
            have E6 := E5.bel hb5
            have hBn := Lib.hid ((hBR.out.alloc hBS.out (.cells #[str x, .int .i64 tb, .int .i64 te, .slice Ak nk ck] 64)).trans (hb5.mono (Nat.le_trans hBS.out (by simp))))
            clear E5 hb5 d0 d1 d2 d3 lx q0 q1 q2 q3 q4 q5 q6
            by_cases hf : 0 ≤ fi
            · have df : decide (0 ≤ fi) = true := by simpa using hf
              have v0 : _ = some (Value.slice none 0 0) := E6.r.cell 0
              have z0 := E6.r.free 0
              have v1 : _ = some (Value.slice none 0 0) := E6.r.cell 1
              have z1 := E6.r.free 1
              have v2 : _ = some (Value.slice none 0 0) := E6.r.cell 2
              have z2 := E6.r.free 2
              have v3 : _ = some (Value.slice none 0 0) := E6.r.cell 3
              have z3 := E6.r.free 3
              have v4 : _ = some (Value.slice none 0 0) := E6.r.cell 4
              have z4 := E6.r.free 4
              have v5 : _ = some (Value.slice none 0 0) := E6.r.cell 5
              have z5 := E6.r.free 5
              have v6 : _ = some (Value.slice none 0 0) := E6.r.cell 6
              have z6 := E6.r.free 6
              have HE : Hid (Cor.cat a b = (Cor.nil, 5)) := by
                show _ = _
                unfold Cor.cat; rw [if_neg (by rw [HVA.out, HVB.out]; simp), if_neg (by rw [HAT.out]; simp), if_pos (List.any_eq_true.2 ⟨b.texts[j], List.getElem_mem hk2, by rw [HX.out]; simp only []; rw [HF.out]; simpa using hf⟩)]
              clear hf
              go_wp2
              refine bodyPost_ret (v := .tuple #[nilH.v, .int .i64 5]) (by simp [results, Try.f30, go_sem, v0, v1, v2, v3, v4, v5, v6, nilH]) rfl ⟨nilH, by rw [HE.out]; rfl, by rw [HE.out]; exact ownD_nil _, ?_⟩
              exact below7 E6.below (by omega) _ _ _ _ _ _ _
            · have df : decide (0 ≤ fi) = false := by simpa using hf
              clear E6
              go_wp2
              go_roundw
              case rel =>
                refine ⟨j + 1, by omega, by go_num, fun i hi hij => ?_, hBn.out⟩
                rcases (show i < j ∨ i = j by omega) with h | h
                · have := HN.out i hi h; omega
                · subst h; rw [HX.out]; show ¬ 0 ≤ Cor.findT a.texts x; rw [HF.out]; omega
              case measure => simp [intOf]; omega
          · obtain rfl : mx = j := by omega
            have HNF : Hid (b.texts.any (fun t => decide (0 ≤ Cor.findT a.texts t.nm)) = false) := by
              show _ = _
              rw [List.any_eq_false]
              intro t ht
              obtain ⟨i, hi, rfl⟩ := List.getElem_of_mem ht
              have := HN.out i hi (by have := L4.out; omega)
              simpa using this
            clear E3 hBr HN
            have q1 : _ = some (Value.slice At nt ct) := E4.a.cell 1
            have q2 : _ = some (Value.slice Ax nx cx) := E4.a.cell 2
            have q3 : _ = some (Value.slice Ar nr cr) := E4.a.cell 3
            have q4 : _ = some (Value.slice An nn cn) := E4.a.cell 4
            have p1 : _ = some (Value.slice Bt mt dt) := E4.b.cell 1
            have p2 : _ = some (Value.slice Bx mx dx) := E4.b.cell 2
            have p3 : _ = some (Value.slice Br mr dr) := E4.b.cell 3
            have p4 : _ = some (Value.slice Bn mn dn) := E4.b.cell 4
            by_cases hl : nt + mt ≤ 4096 ∧ nx + mx ≤ 64 ∧ nr + mr ≤ 1024 ∧ nn + mn ≤ 2048
            · obtain ⟨hl1, hl2, hl3, hl4⟩ := hl
              have HCT : Hid (Cor.cat a b = (Cor.join a b, 0)) := by
                show _ = _
                unfold Cor.cat; rw [if_neg (by rw [HVA.out, HVB.out]; simp), if_neg (by rw [HAT.out]; simp), if_neg (by rw [HNF.out]; simp), if_neg (by rw [L1.out, L2.out, L3.out, L4.out, L5.out, L6.out, L7.out, L8.out]; omega)]
              obtain ⟨i0, hi0, hz0, hz1, hz2⟩ := info_parts info_att6
              have hraA : Atts w w.heap.size ⟨Aa, na, ca⟩ a.attrs := KA.out.a
              have hna8 : na ≤ 8 := by have := vda.out.atl; have := hraA.len; simp at this; omega
              have SRC := Lib.hid ((hraA.under E4.below).src)
              have hfl : Hid ((a.attrs.flatMap atV).length = na * 2) := hraA.2.1.1
              have h1a := Lib.hid (atV_one a.attrs)
              have q0 : _ = some (Value.slice Aa na ca) := E4.a.cell 0
              have hwz := E4.below.size
              go_upto_region 14 with (at_builtin; refine wpList_app _ rfl (.const (.slice none 0 0)) (.tmp 79) _ rfl w.heap.size 62 i0 _ 2 24 Try.underlying22 hi0 hz0 hz1 hz2 rfl (by decide) _ 0 [] rfl (World.ownsRow_nil _ _ _ _) Aa na ca (a.attrs.flatMap atV) rfl hfl.out SRC.out h1a.out (by unfold maxLen; omega) (by omega) hwz ?_; intro v5 w5 own5 gr5 _; obtain ⟨A5, c5, rfl, -, -⟩ := own_slc own5)
              clear q0 q1 q2 q3 q4 p1 p2 p3 p4
              have o5 : w5.ownsRow w.heap.size 62 2 (.slice A5 na c5) na (a.attrs.flatMap atV) := by simpa using own5
              have hb5 : Below wr.heap.size wr w5 := (Below.refl _ _).grown gr5 (Nat.le_refl _) (fun k hk => by cases hk)
              have E5 := E4.bel hb5
              have E6 := E5.bel ((Below.refl _ _).alloc (Nat.le_refl _) (.cells #[.slice A5 na c5, .slice none 0 0, .slice none 0 0, .slice none 0 0, .slice none 0 0, .slice none 0 0, .slice none 0 0] 30))
              have hgd2 : w.heap.size + 2 < w5.heap.size := E5.r.lt
              have bD := Blk.new w5 30 #[.slice A5 na c5, .slice none 0 0, .slice none 0 0, .slice none 0 0, .slice none 0 0, .slice none 0 0, .slice none 0 0]
              have O1 : OwnC (w5.alloc (.cells #[.slice A5 na c5, .slice none 0 0, .slice none 0 0, .slice none 0 0, .slice none 0 0, .slice none 0 0, .slice none 0 0] 30)) w.heap.size w5.heap.size ⟨⟨A5, na, c5⟩, ⟨none, 0, 0⟩, ⟨none, 0, 0⟩, ⟨none, 0, 0⟩, ⟨none, 0, 0⟩, ⟨none, 0, 0⟩, ⟨none, 0, 0⟩⟩ ⟨a.attrs, [], [], [], [], [], []⟩ :=
                ⟨bD, ⟨o5.alloc _, hraA.2.2⟩, ⟨[], rfl, own_nil0 _ _ _ _, fun _ h => by cases h⟩, ⟨[], rfl, own_nil0 _ _ _ _, fun _ h => by cases h⟩, ⟨[], rfl, own_nil0 _ _ _ _, fun _ h => by cases h⟩, ⟨own_nil0 _ _ _ _, fun _ h => by cases h⟩⟩
              have C1 := Lib.hid (appendCorpus_any w _ w5.heap.size ⟨⟨Aa, na, ca⟩, ⟨At, nt, ct⟩, ⟨Ax, nx, cx⟩, ⟨Ar, nr, cr⟩, ⟨An, nn, cn⟩, ⟨Ah, nh, ch⟩, ⟨Al, nl, cl⟩⟩ a ⟨⟨A5, na, c5⟩, ⟨none, 0, 0⟩, ⟨none, 0, 0⟩, ⟨none, 0, 0⟩, ⟨none, 0, 0⟩, ⟨none, 0, 0⟩, ⟨none, 0, 0⟩⟩ ⟨a.attrs, [], [], [], [], [], []⟩ (by omega) E6.below O1 KA.out vda.out (by rw [L1.out]; simp; omega) (by rw [L3.out]; simp; omega) (by rw [L5.out]; simp; omega) (by rw [L7.out]; simp; omega))
              have q0 : _ = some (Value.slice Aa na ca) := E6.a.cell 0
              have q1 : _ = some (Value.slice At nt ct) := E6.a.cell 1
              have q2 : _ = some (Value.slice Ax nx cx) := E6.a.cell 2
              have q3 : _ = some (Value.slice Ar nr cr) := E6.a.cell 3
              have q4 : _ = some (Value.slice An nn cn) := E6.a.cell 4
              have q5 : _ = some (Value.slice Ah nh ch) := E6.a.cell 5
              have q6 : _ = some (Value.slice Al nl cl) := E6.a.cell 6
              have hgw : w5.heap.size < ((w5.alloc (.cells #[.slice A5 na c5, .slice none 0 0, .slice none 0 0, .slice none 0 0, .slice none 0 0, .slice none 0 0, .slice none 0 0] 30))).heap.size := bD.lt
              clear o5 own5 gr5 hb5 E4 E5 O1 SRC
              generalize hwd : (w5.alloc (.cells #[.slice A5 na c5, .slice none 0 0, .slice none 0 0, .slice none 0 0, .slice none 0 0, .slice none 0 0, .slice none 0 0] 30)) = wd at *
              generalize hgdd : w5.heap.size = gd at *
              clear hwd hgdd bD
              go_wp2_with fail
              refine C1.out.mono ?_
              rintro e' w6 ⟨rfl, ⟨⟨Ga, n0, c0⟩, ⟨Gt, n1, c1⟩, ⟨Gx, n2, c2⟩, ⟨Gr, n3, c3⟩, ⟨Gn, n4, c4⟩, Gh, Gl⟩, E7, O7, h7, h8⟩
              obtain rfl : Gh = ⟨none, 0, 0⟩ := h7
              obtain rfl : Gl = ⟨none, 0, 0⟩ := h8
              have X7 := E6.offG E7.keep hgd2 E7.below
              simp only [List.nil_append, List.length_nil, mvT_zero, mvR_zero, mvN_zero] at O7
              clear q0 q1 q2 q3 q4 q5 q6 C1 E6
              have p0 : _ = some (Value.slice Ba ma da) := X7.b.cell 0
              have p1 : _ = some (Value.slice Bt mt dt) := X7.b.cell 1
              have p2 : _ = some (Value.slice Bx mx dx) := X7.b.cell 2
              have p3 : _ = some (Value.slice Br mr dr) := X7.b.cell 3
              have p4 : _ = some (Value.slice Bn mn dn) := X7.b.cell 4
              have p5 : _ = some (Value.slice Bh mh dh) := X7.b.cell 5
              have p6 : _ = some (Value.slice Bl ml dl) := X7.b.cell 6
              have C2 := Lib.hid (appendCorpus_any w w6 gd ⟨⟨Ba, ma, da⟩, ⟨Bt, mt, dt⟩, ⟨Bx, mx, dx⟩, ⟨Br, mr, dr⟩, ⟨Bn, mn, dn⟩, ⟨Bh, mh, dh⟩, ⟨Bl, ml, dl⟩⟩ b _ _ (by omega) E7.below O7 KB.out vdb.out (by simp only []; rw [L1.out, L2.out]; omega) (by simp only []; rw [L3.out, L4.out]; omega) (by simp only []; rw [L5.out, L6.out]; omega) (by simp only []; rw [L7.out, L8.out]; omega))
              clear E7 O7
              go_wp2_with fail
              refine C2.out.mono ?_
              rintro e' w7 ⟨rfl, ⟨⟨Da, nda, cda⟩, ⟨Dt, ndt, cdt⟩, ⟨Dx, ndx, cdx⟩, ⟨Dr, ndr, cdr⟩, ⟨Dn, ndn, cdn⟩, Dh, Dl⟩, E8, O8, h7, h8⟩
              obtain rfl : Dh = ⟨none, 0, 0⟩ := h7
              obtain rfl : Dl = ⟨none, 0, 0⟩ := h8
              have X8 := Lib.hid (X7.offG E8.keep hgd2 E8.below)
              have O9 := Lib.hid O8
              clear p0 p1 p2 p3 p4 p5 p6 C2 X7 E8 O8
              have q5 : _ = some (Value.slice Ah nh ch) := X8.out.a.cell 5
              have p5 : _ = some (Value.slice Bh mh dh) := X8.out.b.cell 5
              have f1 : a.heads.length = nh := KA.out.h.len
              have f2 : b.heads.length = mh := KB.out.h.len
              have f3 := vda.out.hdl
              have f4 := vdb.out.hdl
              have f5 : nh ≤ 4096 := by have := L1.out; omega
              have f6 : mh ≤ 4096 := by have := L2.out; omega
              by_cases hz : nh + mh = 0
              · obtain ⟨rfl, rfl⟩ : nh = 0 ∧ mh = 0 := by omega
                have HJ : Hid (Cor.cat a b = (⟨a.attrs, a.toks ++ b.toks, a.texts ++ b.texts.map (Cor.mvT (a.toks.length : Nat)), a.regs ++ b.regs.map (Cor.mvR (a.toks.length : Nat)), a.nods ++ b.nods.map (Cor.mvN (a.toks.length : Nat) (a.nods.length : Nat)), [], []⟩, 0)) := by
                  show _ = _
                  rw [HCT.out]; unfold Cor.join; rw [if_pos (by omega), if_pos (by omega)]
                have bd : Blk w7 gd 30 #[.slice Da nda cda, .slice Dt ndt cdt, .slice Dx ndx cdx, .slice Dr ndr cdr, .slice Dn ndn cdn, .slice none 0 0, .slice none 0 0] := O9.out.blk
                clear f1 f2 f3 f4
                have y0 : _ = some (Value.slice Da nda cda) := bd.cell 0
                have y1 : _ = some (Value.slice Dt ndt cdt) := bd.cell 1
                have y2 : _ = some (Value.slice Dx ndx cdx) := bd.cell 2
                have y3 : _ = some (Value.slice Dr ndr cdr) := bd.cell 3
                have y4 : _ = some (Value.slice Dn ndn cdn) := bd.cell 4
                have y5 : _ = some (Value.slice none 0 0) := bd.cell 5
                have y6 : _ = some (Value.slice none 0 0) := bd.cell 6
                have v0 : _ = some (Value.slice none 0 0) := X8.out.r.cell 0
                have z0 := X8.out.r.free 0
                have v1 : _ = some (Value.slice none 0 0) := X8.out.r.cell 1
                have z1 := X8.out.r.free 1
                have v2 : _ = some (Value.slice none 0 0) := X8.out.r.cell 2
                have z2 := X8.out.r.free 2
                have v3 : _ = some (Value.slice none 0 0) := X8.out.r.cell 3
                have z3 := X8.out.r.free 3
                have v4 : _ = some (Value.slice none 0 0) := X8.out.r.cell 4
                have z4 := X8.out.r.free 4
                have v5 : _ = some (Value.slice none 0 0) := X8.out.r.cell 5
                have z5 := X8.out.r.free 5
                have v6 : _ = some (Value.slice none 0 0) := X8.out.r.cell 6
                have z6 := X8.out.r.free 6
                go_wp2
                refine bodyPost_ret (v := .tuple #[.agg #[.slice Da nda cda, .slice Dt ndt cdt, .slice Dx ndx cdx, .slice Dr ndr cdr, .slice Dn ndn cdn, .slice none 0 0, .slice none 0 0], .int .i64 0]) (by simp [results, Try.f30, go_sem, v0, v1, v2, v3, v4, v5, v6]) rfl ?_
                exact made_ofO (D := ⟨⟨Da, nda, cda⟩, ⟨Dt, ndt, cdt⟩, ⟨Dx, ndx, cdx⟩, ⟨Dr, ndr, cdr⟩, ⟨Dn, ndn, cdn⟩, ⟨none, 0, 0⟩, ⟨none, 0, 0⟩⟩) HJ.out O9.out ⟨own_nil0 _ _ _ _, fun _ h => by cases h⟩ ⟨own_nil0 _ _ _ _, fun _ h => by cases h⟩ (off7 X8.out.r _ _ _ _ _ _ _) (below7 X8.out.below (by omega) _ _ _ _ _ _ _)
              · have HJ : Hid (Cor.cat a b = (⟨a.attrs, a.toks ++ b.toks, a.texts ++ b.texts.map (Cor.mvT (a.toks.length : Nat)), a.regs ++ b.regs.map (Cor.mvR (a.toks.length : Nat)), a.nods ++ b.nods.map (Cor.mvN (a.toks.length : Nat) (a.nods.length : Nat)), Cor.allH a ++ (Cor.allH b).map (Cor.mvH (a.toks.length : Nat)), Cor.allL a ++ Cor.allL b⟩, 0)) := by
                  show _ = _
                  rw [HCT.out]; unfold Cor.join; rw [if_neg (by omega), if_neg (by omega)]
                have dz : decide ((0 : Int) < (nh : Int) + (mh : Int)) = true := by simp; omega
                have dz2 : decide (0 < nh + mh) = true := by simp; omega
                have T0 : HeadT w w7 w7 gd (.slice Da nda cda) (.slice Dt ndt cdt) (.slice Dx ndx cdx) (.slice Dr ndr cdr) (.slice Dn ndn cdn) ⟨none, 0, 0⟩ ⟨none, 0, 0⟩ [] [] :=
                  ⟨X8.out.below, fun _ _ _ => rfl, Nat.le_refl _, O9.out.blk, ⟨own_nil0 _ _ _ _, fun _ h => by cases h⟩, ⟨own_nil0 _ _ _ _, fun _ h => by cases h⟩⟩
                have C3 := Lib.hid (appendHeads_any w w7 w7 gd _ _ _ _ _ _ _ [] [] ⟨⟨Aa, na, ca⟩, ⟨At, nt, ct⟩, ⟨Ax, nx, cx⟩, ⟨Ar, nr, cr⟩, ⟨An, nn, cn⟩, ⟨Ah, nh, ch⟩, ⟨Al, nl, cl⟩⟩ a 0 T0 (by omega) X8.out.below.size KA.out vda.out (by omega) (by simp))
                have HLA := Lib.hid (allH_len vda.out)
                clear f1 f2 f3 f4 T0 hz
                clear q5
                have q0 : _ = some (Value.slice Aa na ca) := X8.out.a.cell 0
                have q1 : _ = some (Value.slice At nt ct) := X8.out.a.cell 1
                have q2 : _ = some (Value.slice Ax nx cx) := X8.out.a.cell 2
                have q3 : _ = some (Value.slice Ar nr cr) := X8.out.a.cell 3
                have q4 : _ = some (Value.slice An nn cn) := X8.out.a.cell 4
                have q5 : _ = some (Value.slice Ah nh ch) := X8.out.a.cell 5
                have q6 : _ = some (Value.slice Al nl cl) := X8.out.a.cell 6
                go_wp2_with fail
                refine C3.out.mono ?_
                rintro e' w8 ⟨rfl, Eh8, El8, T8⟩
                simp only [List.nil_append, mvH_zero] at T8
                have X9 := X8.out.keep T8.keep hgd2 T8.below
                clear q0 q1 q2 q3 q4 q5 q6 p5 C3 dz dz2
                have q1 : _ = some (Value.slice At nt ct) := X9.a.cell 1
                have p0 : _ = some (Value.slice Ba ma da) := X9.b.cell 0
                have p1 : _ = some (Value.slice Bt mt dt) := X9.b.cell 1
                have p2 : _ = some (Value.slice Bx mx dx) := X9.b.cell 2
                have p3 : _ = some (Value.slice Br mr dr) := X9.b.cell 3
                have p4 : _ = some (Value.slice Bn mn dn) := X9.b.cell 4
                have p5 : _ = some (Value.slice Bh mh dh) := X9.b.cell 5
                have p6 : _ = some (Value.slice Bl ml dl) := X9.b.cell 6
                have C4 := Lib.hid (appendHeads_any w w7 w8 gd _ _ _ _ _ _ _ _ _ ⟨⟨Ba, ma, da⟩, ⟨Bt, mt, dt⟩, ⟨Bx, mx, dx⟩, ⟨Br, mr, dr⟩, ⟨Bn, mn, dn⟩, ⟨Bh, mh, dh⟩, ⟨Bl, ml, dl⟩⟩ b nt T8 (by omega) X8.out.below.size KB.out vdb.out (by omega) (by rw [HLA.out.1, HLA.out.2, L1.out]; omega))
                clear T8
                go_wp2_with fail
                refine C4.out.mono ?_
                rintro e' w9 ⟨rfl, ⟨EA, en, ec⟩, ⟨LA, ln, lc⟩, T9⟩
                have X10 := X8.out.keep T9.keep hgd2 T9.below
                have bd : Blk w9 gd 30 #[.slice Da nda cda, .slice Dt ndt cdt, .slice Dx ndx cdx, .slice Dr ndr cdr, .slice Dn ndn cdn, .slice EA en ec, .slice LA ln lc] := T9.blk
                have T10 := Lib.hid T9
                have XR := Lib.hid X10
                clear q1 p0 p1 p2 p3 p4 p5 p6 C4 X9
                have y0 : _ = some (Value.slice Da nda cda) := bd.cell 0
                have y1 : _ = some (Value.slice Dt ndt cdt) := bd.cell 1
                have y2 : _ = some (Value.slice Dx ndx cdx) := bd.cell 2
                have y3 : _ = some (Value.slice Dr ndr cdr) := bd.cell 3
                have y4 : _ = some (Value.slice Dn ndn cdn) := bd.cell 4
                have y5 : _ = some (Value.slice EA en ec) := bd.cell 5
                have y6 : _ = some (Value.slice LA ln lc) := bd.cell 6
                have v0 : _ = some (Value.slice none 0 0) := XR.out.r.cell 0
                have z0 := XR.out.r.free 0
                have v1 : _ = some (Value.slice none 0 0) := XR.out.r.cell 1
                have z1 := XR.out.r.free 1
                have v2 : _ = some (Value.slice none 0 0) := XR.out.r.cell 2
                have z2 := XR.out.r.free 2
                have v3 : _ = some (Value.slice none 0 0) := XR.out.r.cell 3
                have z3 := XR.out.r.free 3
                have v4 : _ = some (Value.slice none 0 0) := XR.out.r.cell 4
                have z4 := XR.out.r.free 4
                have v5 : _ = some (Value.slice none 0 0) := XR.out.r.cell 5
                have z5 := XR.out.r.free 5
                have v6 : _ = some (Value.slice none 0 0) := XR.out.r.cell 6
                have z6 := XR.out.r.free 6
                clear T9 X10
                go_wp2
                refine bodyPost_ret (v := .tuple #[.agg #[.slice Da nda cda, .slice Dt ndt cdt, .slice Dx ndx cdx, .slice Dr ndr cdr, .slice Dn ndn cdn, .slice EA en ec, .slice LA ln lc], .int .i64 0]) (by simp [results, Try.f30, go_sem, v0, v1, v2, v3, v4, v5, v6]) rfl ?_
                have hrest := O9.out.rest T10.out.keep
                exact made_partsO (D := ⟨⟨Da, nda, cda⟩, ⟨Dt, ndt, cdt⟩, ⟨Dx, ndx, cdx⟩, ⟨Dr, ndr, cdr⟩, ⟨Dn, ndn, cdn⟩, ⟨EA, en, ec⟩, ⟨LA, ln, lc⟩⟩) (d := ⟨a.attrs, a.toks ++ b.toks, a.texts ++ b.texts.map (Cor.mvT (a.toks.length : Nat)), a.regs ++ b.regs.map (Cor.mvR (a.toks.length : Nat)), a.nods ++ b.nods.map (Cor.mvN (a.toks.length : Nat) (a.nods.length : Nat)), Cor.allH a ++ (Cor.allH b).map (Cor.mvH (a.toks.length : Nat)), Cor.allL a ++ Cor.allL b⟩) HJ.out hrest (by have h := T10.out.h; rw [← L1.out] at h; exact h) T10.out.l (off7 XR.out.r _ _ _ _ _ _ _) (below7 XR.out.below (by omega) _ _ _ _ _ _ _)
            · rcases (show 4096 < nt + mt ∨ (nt + mt ≤ 4096 ∧ 64 < nx + mx) ∨ (nt + mt ≤ 4096 ∧ nx + mx ≤ 64 ∧ 1024 < nr + mr) ∨ (nt + mt ≤ 4096 ∧ nx + mx ≤ 64 ∧ nr + mr ≤ 1024 ∧ 2048 < nn + mn) by omega) with hl' | ⟨h1, hl'⟩ | ⟨h1, h2, hl'⟩ | ⟨h1, h2, h3, hl'⟩
              all_goals
                have v0 : _ = some (Value.slice none 0 0) := E4.r.cell 0
                have z0 := E4.r.free 0
                have v1 : _ = some (Value.slice none 0 0) := E4.r.cell 1
                have z1 := E4.r.free 1
                have v2 : _ = some (Value.slice none 0 0) := E4.r.cell 2
                have z2 := E4.r.free 2
                have v3 : _ = some (Value.slice none 0 0) := E4.r.cell 3
                have z3 := E4.r.free 3
                have v4 : _ = some (Value.slice none 0 0) := E4.r.cell 4
                have z4 := E4.r.free 4
                have v5 : _ = some (Value.slice none 0 0) := E4.r.cell 5
                have z5 := E4.r.free 5
                have v6 : _ = some (Value.slice none 0 0) := E4.r.cell 6
                have z6 := E4.r.free 6
                have HE : Hid (Cor.cat a b = (Cor.nil, 2)) := by
                  show _ = _
                  unfold Cor.cat; rw [if_neg (by rw [HVA.out, HVB.out]; simp), if_neg (by rw [HAT.out]; simp), if_neg (by rw [HNF.out]; simp), if_pos (by rw [L1.out, L2.out, L3.out, L4.out, L5.out, L6.out, L7.out, L8.out]; omega)]
                clear hl
                go_wp2
                refine bodyPost_ret (v := .tuple #[nilH.v, .int .i64 2]) (by simp [results, Try.f30, go_sem, v0, v1, v2, v3, v4, v5, v6, nilH]) rfl ⟨nilH, by rw [HE.out]; rfl, by rw [HE.out]; exact ownD_nil _, ?_⟩
                exact below7 E4.below (by omega) _ _ _ _ _ _ _
theorem concat_any (H K : CH) (a b : Cor.C) (w : World) (ha : Reads w w.heap.size H a) (hb : Reads w w.heap.size K b) : Calls Try.prog 30 #[H.v, K.v] w (Made (Cor.cat a b) w) :=
  (concat_own H K a b w ha hb).mono fun _ _ h => h.made
end Go.Proofs.Ytaihgoohmcipkaa
