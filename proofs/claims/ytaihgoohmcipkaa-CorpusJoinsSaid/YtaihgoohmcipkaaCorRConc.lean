/-
  The contract of the reference's Concat. Conditions: none but that two corpora read as they do.
-/
import Derived.Test.YtaihgoohmcipkaaCorRowR
import Derived.Test.YtaihgoohmcipkaaCorAllH
import Derived.Test.YtaihgoohmcipkaaCorOwnR
import Derived.Test.YtaihgoohmcipkaaCorHold
import Derived.Test.YtaihgoohmcipkaaCorValR
import Derived.Test.YtaihgoohmcipkaaCorRegW
import Derived.BigQuiet
import Derived.Deep.QuietTactic
import Derived.Deep.RegionLaw
import Derived.Test.YtaihgoohmcipkaaCorEq
import Derived.Deep.CutRange
import Derived.Deep.CutBlock
import Derived.Deep.RegionHeld3
namespace Go.Proofs.Ytaihgoohmcipkaa
set_option linter.unusedSimpArgs false
set_option linter.unusedVariables false
open Go.RowKit Utf
open Feat (Bs)

/-- The corpus that grows, beside the boxes. -/
def RelC (w wr : World) (H K : CH) (gd : Nat) (d : Cor.C) : Prop := ∃ D : CH, Box3 w wr H K ∧ OwnR w wr w.heap.size gd D d ∧ D.h = ⟨none, 0, 0⟩ ∧ D.l = ⟨none, 0, 0⟩

theorem txV_ones (L : List TH) : ∀ u ∈ L.flatMap txV, u.oneCell' = true := by
  intro u hu
  rw [List.mem_flatMap] at hu
  obtain ⟨p, _, hp⟩ := hu
  exact txV_one p u hp
theorem ndV_ones (L : List Cor.Nod) : ∀ u ∈ L.flatMap ndV, u.oneCell' = true := by
  intro u hu
  rw [List.mem_flatMap] at hu
  obtain ⟨p, _, hp⟩ := hu
  exact ndV_one6 p u hp
theorem map_fst_set {L : List TH} {i : Nat} {y : TH} : (L.set i y).map Prod.fst = (L.map Prod.fst).set i y.1 := by rw [List.map_set]
theorem Sl.srcz {w : World} {B n z : Nat} {A : Option Addr} {xs : List Value} (h : Sl w B z A n xs) : Src w A xs := by
  intro hp
  obtain ⟨g, o, e, _, hc⟩ := h.2 hp
  refine ⟨⟨g, o, none⟩, e, fun j u hj => ?_⟩
  have ea : (⟨g, o, none⟩ : Addr).add j = ⟨g, o + j, none⟩ := by unfold Addr.add; split <;> simp_all
  rw [ea]; exact hc j u hj
theorem tkV_oneC (L : List KH) : ∀ u ∈ L.flatMap tkV, u.oneCell' = true := by
  intro u hu
  rw [List.mem_flatMap] at hu
  obtain ⟨x, _, hx⟩ := hu
  unfold tkV at hx
  simp at hx; subst hx; rfl
/-- A block of slices holds no number. -/
theorem no_int7 {w : World} {g k : Nat} {t : TypeId} {A0 A1 A2 A3 A4 A5 A6 : Option Addr} {n0 n1 n2 n3 n4 n5 n6 c0 c1 c2 c3 c4 c5 c6 : Nat} {x : Int}
    (hb : Blk w g t #[.slice A0 n0 c0, .slice A1 n1 c1, .slice A2 n2 c2, .slice A3 n3 c3, .slice A4 n4 c4, .slice A5 n5 c5, .slice A6 n6 c6]) (h : w.cell? ⟨g, k, none⟩ = some (.int .i64 x)) : False := by
  rw [hb.cell k] at h
  match k, h with
  | 0, h => cases h
  | 1, h => cases h
  | 2, h => cases h
  | 3, h => cases h
  | 4, h => cases h
  | 5, h => cases h
  | 6, h => cases h
  | k + 7, h => simp at h
theorem cell_same {w w' : World} {g : Nat} (h : w'.heap[g]? = w.heap[g]?) (k : Nat) : w'.cell? ⟨g, k, none⟩ = w.cell? ⟨g, k, none⟩ := by
  unfold World.cell?; simp only [h]
theorem allHr_range {b : Cor.C} (v : Vd b) {j : Nat} (hj : j < (Cor.allH b).length) : -1 ≤ (Cor.allH b)[j] ∧ (Cor.allH b)[j] ≤ 4096 := by
  have key : ∀ x ∈ Cor.allH b, -1 ≤ x ∧ x ≤ 4096 := by
    intro x hx
    unfold Cor.allH at hx
    split at hx
    · obtain ⟨k, hk, rfl⟩ := List.getElem_of_mem hx
      exact allH_range v hk
    · have := (List.mem_replicate.1 hx).2
      omega
  exact key _ (List.getElem_mem hj)
set_option maxRecDepth 100000 in
set_option maxHeartbeats 160000000 in
theorem refConcat_any (H K : CH) (a b : Cor.C) (w : World) (ha : Reads w w.heap.size H a) (hb : Reads w w.heap.size K b) : Calls Try.prog 31 #[H.v, K.v] w (Made (Cor.cat a b) w) := by
  obtain ⟨⟨Aa, na, ca⟩, ⟨At, nt, ct⟩, ⟨Ax, nx, cx⟩, ⟨Ar, nr, cr⟩, ⟨An, nn, cn⟩, ⟨Ah, nh, ch⟩, ⟨Al, nl, cl⟩⟩ := H
  obtain ⟨⟨Ba, ma, da⟩, ⟨Bt, mt, dt⟩, ⟨Bx, mx, dx⟩, ⟨Br, mr, dr⟩, ⟨Bn, mn, dn⟩, ⟨Bh, mh, dh⟩, ⟨Bl, ml, dl⟩⟩ := K
  show Calls Try.prog 31 #[.agg #[.slice Aa na ca, .slice At nt ct, .slice Ax nx cx, .slice Ar nr cr, .slice An nn cn, .slice Ah nh ch, .slice Al nl cl], .agg #[.slice Ba ma da, .slice Bt mt dt, .slice Bx mx dx, .slice Br mr dr, .slice Bn mn dn, .slice Bh mh dh, .slice Bl ml dl]] w _
  have E0 : Box3 w (((w.alloc (.cells #[.slice Aa na ca, .slice At nt ct, .slice Ax nx cx, .slice Ar nr cr, .slice An nn cn, .slice Ah nh ch, .slice Al nl cl] 30)).alloc (.cells #[.slice Ba ma da, .slice Bt mt dt, .slice Bx mx dx, .slice Br mr dr, .slice Bn mn dn, .slice Bh mh dh, .slice Bl ml dl] 30)).alloc (.cells #[.slice none 0 0, .slice none 0 0, .slice none 0 0, .slice none 0 0, .slice none 0 0, .slice none 0 0, .slice none 0 0] 30)) ⟨⟨Aa, na, ca⟩, ⟨At, nt, ct⟩, ⟨Ax, nx, cx⟩, ⟨Ar, nr, cr⟩, ⟨An, nn, cn⟩, ⟨Ah, nh, ch⟩, ⟨Al, nl, cl⟩⟩ ⟨⟨Ba, ma, da⟩, ⟨Bt, mt, dt⟩, ⟨Bx, mx, dx⟩, ⟨Br, mr, dr⟩, ⟨Bn, mn, dn⟩, ⟨Bh, mh, dh⟩, ⟨Bl, ml, dl⟩⟩ := box3_new w ⟨⟨Aa, na, ca⟩, ⟨At, nt, ct⟩, ⟨Ax, nx, cx⟩, ⟨Ar, nr, cr⟩, ⟨An, nn, cn⟩, ⟨Ah, nh, ch⟩, ⟨Al, nl, cl⟩⟩ ⟨⟨Ba, ma, da⟩, ⟨Bt, mt, dt⟩, ⟨Bx, mx, dx⟩, ⟨Br, mr, dr⟩, ⟨Bn, mn, dn⟩, ⟨Bh, mh, dh⟩, ⟨Bl, ml, dl⟩⟩
  have KA := Lib.hid ha
  have KB := Lib.hid hb
  have ra := (ha.under E0.below).up E0.below.size
  clear ha hb
  go_enter Try.func31, Try.ntmps31
  go_wp2_with fail
  refine (refCorValid_any ⟨⟨Aa, na, ca⟩, ⟨At, nt, ct⟩, ⟨Ax, nx, cx⟩, ⟨Ar, nr, cr⟩, ⟨An, nn, cn⟩, ⟨Ah, nh, ch⟩, ⟨Al, nl, cl⟩⟩ a _ ra).mono ?_
  rintro e' w1 ⟨rfl, hb1⟩
  have E1 := E0.bel hb1
  clear E0 ra hb1
  obtain ⟨va, hva⟩ : ∃ v, Cor.valid a = v := ⟨_, rfl⟩
  have HVA := Lib.hid hva
  rw [hva]
  clear hva
  cases va with
  | false =>
    have v0 : _ = some (Value.slice none 0 0) := E1.r.cell 0
    have z0 := E1.r.free 0
    have v1 : _ = some (Value.slice none 0 0) := E1.r.cell 1
    have z1 := E1.r.free 1
    have v2 : _ = some (Value.slice none 0 0) := E1.r.cell 2
    have z2 := E1.r.free 2
    have v3 : _ = some (Value.slice none 0 0) := E1.r.cell 3
    have z3 := E1.r.free 3
    have v4 : _ = some (Value.slice none 0 0) := E1.r.cell 4
    have z4 := E1.r.free 4
    have v5 : _ = some (Value.slice none 0 0) := E1.r.cell 5
    have z5 := E1.r.free 5
    have v6 : _ = some (Value.slice none 0 0) := E1.r.cell 6
    have z6 := E1.r.free 6
    have HE : Hid (Cor.cat a b = (Cor.nil, 1)) := by
      show _ = _
      unfold Cor.cat; rw [if_pos (.inl HVA.out)]
    go_wp2
    refine bodyPost_ret (v := .tuple #[nilH.v, .int .i64 1]) (by simp [results, Try.f31, go_sem, v0, v1, v2, v3, v4, v5, v6, nilH]) rfl ⟨nilH, by rw [HE.out]; rfl, by rw [HE.out]; exact reads_nil _ _, ?_⟩
    exact below7 E1.below (by omega) _ _ _ _ _ _ _
  | true =>
    have vda := Lib.hid (vd_iff.1 HVA.out)
    have p0 : _ = some (Value.slice Ba ma da) := E1.b.cell 0
    have p1 : _ = some (Value.slice Bt mt dt) := E1.b.cell 1
    have p2 : _ = some (Value.slice Bx mx dx) := E1.b.cell 2
    have p3 : _ = some (Value.slice Br mr dr) := E1.b.cell 3
    have p4 : _ = some (Value.slice Bn mn dn) := E1.b.cell 4
    have p5 : _ = some (Value.slice Bh mh dh) := E1.b.cell 5
    have p6 : _ = some (Value.slice Bl ml dl) := E1.b.cell 6
    go_wp2_with fail
    refine (refCorValid_any ⟨⟨Ba, ma, da⟩, ⟨Bt, mt, dt⟩, ⟨Bx, mx, dx⟩, ⟨Br, mr, dr⟩, ⟨Bn, mn, dn⟩, ⟨Bh, mh, dh⟩, ⟨Bl, ml, dl⟩⟩ b _ ((KB.out.under E1.below).up E1.below.size)).mono ?_
    rintro e' w2 ⟨rfl, hb2⟩
    have E2 := E1.bel hb2
    clear E1 hb2 p0 p1 p2 p3 p4 p5 p6
    obtain ⟨vb, hvb⟩ : ∃ v, Cor.valid b = v := ⟨_, rfl⟩
    have HVB := Lib.hid hvb
    rw [hvb]
    clear hvb
    cases vb with
    | false =>
      have v0 : _ = some (Value.slice none 0 0) := E2.r.cell 0
      have z0 := E2.r.free 0
      have v1 : _ = some (Value.slice none 0 0) := E2.r.cell 1
      have z1 := E2.r.free 1
      have v2 : _ = some (Value.slice none 0 0) := E2.r.cell 2
      have z2 := E2.r.free 2
      have v3 : _ = some (Value.slice none 0 0) := E2.r.cell 3
      have z3 := E2.r.free 3
      have v4 : _ = some (Value.slice none 0 0) := E2.r.cell 4
      have z4 := E2.r.free 4
      have v5 : _ = some (Value.slice none 0 0) := E2.r.cell 5
      have z5 := E2.r.free 5
      have v6 : _ = some (Value.slice none 0 0) := E2.r.cell 6
      have z6 := E2.r.free 6
      have HE : Hid (Cor.cat a b = (Cor.nil, 1)) := by
        show _ = _
        unfold Cor.cat; rw [if_pos (.inr HVB.out)]
      go_wp2
      refine bodyPost_ret (v := .tuple #[nilH.v, .int .i64 1]) (by simp [results, Try.f31, go_sem, v0, v1, v2, v3, v4, v5, v6, nilH]) rfl ⟨nilH, by rw [HE.out]; rfl, by rw [HE.out]; exact reads_nil _ _, ?_⟩
      exact below7 E2.below (by omega) _ _ _ _ _ _ _
    | true =>
      have vdb := Lib.hid (vd_iff.1 HVB.out)
      have q0 : _ = some (Value.slice Aa na ca) := E2.a.cell 0
      have p0 : _ = some (Value.slice Ba ma da) := E2.b.cell 0
      go_wp2_with fail
      refine (rEqL_attr_any Aa na ca Ba ma da a.attrs b.attrs _ ((KA.out.a.under E2.below).up E2.below.size) ((KB.out.a.under E2.below).up E2.below.size)).mono ?_
      rintro e' w3 ⟨rfl, nq, hw3⟩
      have E3 : Box3 w w3 ⟨⟨Aa, na, ca⟩, ⟨At, nt, ct⟩, ⟨Ax, nx, cx⟩, ⟨Ar, nr, cr⟩, ⟨An, nn, cn⟩, ⟨Ah, nh, ch⟩, ⟨Al, nl, cl⟩⟩ ⟨⟨Ba, ma, da⟩, ⟨Bt, mt, dt⟩, ⟨Bx, mx, dx⟩, ⟨Br, mr, dr⟩, ⟨Bn, mn, dn⟩, ⟨Bh, mh, dh⟩, ⟨Bl, ml, dl⟩⟩ := by rw [hw3]; exact E2.bel (below_drewN (Below.refl _ _) nq)
      clear E2 q0 p0 hw3 w2
      obtain ⟨sb, hsb⟩ : ∃ v, same a.attrs b.attrs = v := ⟨_, rfl⟩
      have HSB := Lib.hid hsb
      rw [hsb]
      clear hsb
      cases sb with
      | false =>
        have v0 : _ = some (Value.slice none 0 0) := E3.r.cell 0
        have z0 := E3.r.free 0
        have v1 : _ = some (Value.slice none 0 0) := E3.r.cell 1
        have z1 := E3.r.free 1
        have v2 : _ = some (Value.slice none 0 0) := E3.r.cell 2
        have z2 := E3.r.free 2
        have v3 : _ = some (Value.slice none 0 0) := E3.r.cell 3
        have z3 := E3.r.free 3
        have v4 : _ = some (Value.slice none 0 0) := E3.r.cell 4
        have z4 := E3.r.free 4
        have v5 : _ = some (Value.slice none 0 0) := E3.r.cell 5
        have z5 := E3.r.free 5
        have v6 : _ = some (Value.slice none 0 0) := E3.r.cell 6
        have z6 := E3.r.free 6
        have HE : Hid (Cor.cat a b = (Cor.nil, 17)) := by
          show _ = _
          unfold Cor.cat; rw [if_neg (by rw [HVA.out, HVB.out]; simp), if_pos (fun h => by have := same_t h; rw [HSB.out] at this; cases this)]
        go_wp2
        refine bodyPost_ret (v := .tuple #[nilH.v, .int .i64 17]) (by simp [results, Try.f31, go_sem, v0, v1, v2, v3, v4, v5, v6, nilH]) rfl ⟨nilH, by rw [HE.out]; rfl, by rw [HE.out]; exact reads_nil _ _, ?_⟩
        exact below7 E3.below (by omega) _ _ _ _ _ _ _
      | true =>
        have HAT : Hid (a.attrs = b.attrs) := same_iff.1 HSB.out
        have hta := vda.out.tkl.1
        have htb := vdb.out.tkl.1
        have hxa := vda.out.txl
        have hxb := vdb.out.txl
        have hra := vda.out.rgl
        have hrb := vdb.out.rgl
        have hna := vda.out.ndl
        have hnb := vdb.out.ndl
        have l1 : a.toks.length = nt := KA.out.t.len
        have l2 : b.toks.length = mt := KB.out.t.len
        have l3 : a.texts.length = nx := KA.out.x.len
        have l4 : b.texts.length = mx := KB.out.x.len
        have l5 : a.regs.length = nr := KA.out.r.len
        have l6 : b.regs.length = mr := KB.out.r.len
        have l7 : a.nods.length = nn := KA.out.n.len
        have l8 : b.nods.length = mn := KB.out.n.len
        rw [l1] at hta
        rw [l2] at htb
        rw [l3] at hxa
        rw [l4] at hxb
        rw [l5] at hra
        rw [l6] at hrb
        rw [l7] at hna
        rw [l8] at hnb
        have L1 := Lib.hid l1
        have L2 := Lib.hid l2
        have L3 := Lib.hid l3
        have L4 := Lib.hid l4
        have L5 := Lib.hid l5
        have L6 := Lib.hid l6
        have L7 := Lib.hid l7
        have L8 := Lib.hid l8
        clear l1 l2 l3 l4 l5 l6 l7 l8
        have p2 : _ = some (Value.slice Bx mx dx) := E3.b.cell 2
        have hrx : Txts w w.heap.size ⟨Bx, mx, dx⟩ b.texts := KB.out.x
        go_wp2
        clear p2
        go_loopw [39] (fun iv wr => ∃ j : Nat, j ≤ mx ∧ iv = .int .i64 j ∧ Hid (∀ i (hi : i < b.texts.length), i < j → ¬ 0 ≤ Cor.findT a.texts b.texts[i].nm) ∧ Below w3.heap.size w3 wr) (fun iv _ => mx - (intOf iv).toNat)
        case atStart => exact ⟨0, Nat.zero_le _, rfl, fun _ _ h => absurd h (Nat.not_lt_zero _), Below.refl _ _⟩
        case round =>
          obtain ⟨j, hj, rfl, HN, hBr⟩ := hrel
          have E4 := E3.bel hBr
          by_cases hlt : j < mx
          · obtain ⟨g, o, ⟨Ak, nk, ck⟩, hk2, e2, hg, hto, d0, d1, d2, d3⟩ := hrx.at_ (k := j) hlt
            have e2 : Bx = some ⟨g, o, none⟩ := e2
            subst e2
            have hB := E4.below
            replace d0 := (hB.cell (p := ⟨g, _, none⟩) hg).trans d0
            replace d1 := (hB.cell (p := ⟨g, _, none⟩) hg).trans d1
            replace d2 := (hB.cell (p := ⟨g, _, none⟩) hg).trans d2
            replace d3 := (hB.cell (p := ⟨g, _, none⟩) hg).trans d3
            obtain ⟨⟨x, tb, te, tk⟩, hx⟩ : ∃ x, b.texts[j] = x := ⟨_, rfl⟩
            rw [hx] at d0 d1 d2
            simp only [] at d0 d1 d2
            have HX := Lib.hid hx
            have lx := E4.a.lt
            have q0 : _ = some (Value.slice Aa na ca) := E4.a.cell 0
            have q1 : _ = some (Value.slice At nt ct) := E4.a.cell 1
            have q2 : _ = some (Value.slice Ax nx cx) := E4.a.cell 2
            have q3 : _ = some (Value.slice Ar nr cr) := E4.a.cell 3
            have q4 : _ = some (Value.slice An nn cn) := E4.a.cell 4
            have q5 : _ = some (Value.slice Ah nh ch) := E4.a.cell 5
            have q6 : _ = some (Value.slice Al nl cl) := E4.a.cell 6
            obtain ⟨fi, hfi⟩ : ∃ v, Cor.findT a.texts x = v := ⟨_, rfl⟩
            have HF := Lib.hid hfi
            have FC := Lib.hid (fun (W : World) (hW : Below w.heap.size w W) => refFindText_any ⟨⟨Aa, na, ca⟩, ⟨At, nt, ct⟩, ⟨Ax, nx, cx⟩, ⟨Ar, nr, cr⟩, ⟨An, nn, cn⟩, ⟨Ah, nh, ch⟩, ⟨Al, nl, cl⟩⟩ a.texts x W ((KA.out.x.under hW).up hW.size))
            rw [hfi] at FC
            have E5 := E4.bel ((Below.refl _ _).alloc (Nat.le_refl _) (.cells #[str x, .int .i64 tb, .int .i64 te, .slice Ak nk ck] 64))
            have hBS := Lib.hid hBr.size
            have hBR := Lib.hid hBr
            clear hx hfi hto E4 hB hBr
            go_wp2_with fail
            refine (FC.out _ E5.below).mono ?_
            rintro e' w5 ⟨rfl, hb5⟩
            have E6 := E5.bel hb5
            have hBn := Lib.hid ((hBR.out.alloc hBS.out (.cells #[str x, .int .i64 tb, .int .i64 te, .slice Ak nk ck] 64)).trans (hb5.mono (Nat.le_trans hBS.out (by simp))))
            clear E5 hb5 d0 d1 d2 d3 lx q0 q1 q2 q3 q4 q5 q6
            by_cases hf : 0 ≤ fi
            · have df : decide (0 ≤ fi) = true := by simpa using hf
              have v0 : _ = some (Value.slice none 0 0) := E6.r.cell 0
              have z0 := E6.r.free 0
              have v1 : _ = some (Value.slice none 0 0) := E6.r.cell 1
              have z1 := E6.r.free 1
              have v2 : _ = some (Value.slice none 0 0) := E6.r.cell 2
              have z2 := E6.r.free 2
              have v3 : _ = some (Value.slice none 0 0) := E6.r.cell 3
              have z3 := E6.r.free 3
              have v4 : _ = some (Value.slice none 0 0) := E6.r.cell 4
              have z4 := E6.r.free 4
              have v5 : _ = some (Value.slice none 0 0) := E6.r.cell 5
              have z5 := E6.r.free 5
              have v6 : _ = some (Value.slice none 0 0) := E6.r.cell 6
              have z6 := E6.r.free 6
              have HE : Hid (Cor.cat a b = (Cor.nil, 5)) := by
                show _ = _
                unfold Cor.cat; rw [if_neg (by rw [HVA.out, HVB.out]; simp), if_neg (by rw [HAT.out]; simp), if_pos (List.any_eq_true.2 ⟨b.texts[j], List.getElem_mem hk2, by rw [HX.out]; simp only []; rw [HF.out]; simpa using hf⟩)]
              clear hf
              go_wp2
              refine bodyPost_ret (v := .tuple #[nilH.v, .int .i64 5]) (by simp [results, Try.f31, go_sem, v0, v1, v2, v3, v4, v5, v6, nilH]) rfl ⟨nilH, by rw [HE.out]; rfl, by rw [HE.out]; exact reads_nil _ _, ?_⟩
              exact below7 E6.below (by omega) _ _ _ _ _ _ _
            · have df : decide (0 ≤ fi) = false := by simpa using hf
              clear E6
              go_wp2
              go_roundw
              case rel =>
                refine ⟨j + 1, by omega, by go_num, fun i hi hij => ?_, hBn.out⟩
                rcases (show i < j ∨ i = j by omega) with h | h
                · have := HN.out i hi h; omega
                · subst h; rw [HX.out]; show ¬ 0 ≤ Cor.findT a.texts x; rw [HF.out]; omega
              case measure => simp [intOf]; omega
          · obtain rfl : mx = j := by omega
            have HNF : Hid (b.texts.any (fun t => decide (0 ≤ Cor.findT a.texts t.nm)) = false) := by
              show _ = _
              rw [List.any_eq_false]
              intro t ht
              obtain ⟨i, hi, rfl⟩ := List.getElem_of_mem ht
              have := HN.out i hi (by have := L4.out; omega)
              simpa using this
            clear E3 hBr HN
            have q1 : _ = some (Value.slice At nt ct) := E4.a.cell 1
            have q2 : _ = some (Value.slice Ax nx cx) := E4.a.cell 2
            have q3 : _ = some (Value.slice Ar nr cr) := E4.a.cell 3
            have q4 : _ = some (Value.slice An nn cn) := E4.a.cell 4
            have p1 : _ = some (Value.slice Bt mt dt) := E4.b.cell 1
            have p2 : _ = some (Value.slice Bx mx dx) := E4.b.cell 2
            have p3 : _ = some (Value.slice Br mr dr) := E4.b.cell 3
            have p4 : _ = some (Value.slice Bn mn dn) := E4.b.cell 4
            go_upto_region 11 with (fail)
            go_quiet (fail)
            have E4 : Box3 w (wr.drewN nq) ⟨⟨Aa, na, ca⟩, ⟨At, nt, ct⟩, ⟨Ax, nx, cx⟩, ⟨Ar, nr, cr⟩, ⟨An, nn, cn⟩, ⟨Ah, nh, ch⟩, ⟨Al, nl, cl⟩⟩ ⟨⟨Ba, ma, da⟩, ⟨Bt, mt, dt⟩, ⟨Bx, mx, dx⟩, ⟨Br, mr, dr⟩, ⟨Bn, mn, dn⟩, ⟨Bh, mh, dh⟩, ⟨Bl, ml, dl⟩⟩ := E4.bel (below_drewN (Below.refl _ _) nq)
            by_cases hl : nt + mt ≤ 4096 ∧ nx + mx ≤ 64 ∧ nr + mr ≤ 1024 ∧ nn + mn ≤ 2048
            · obtain ⟨hl1, hl2, hl3, hl4⟩ := hl
              have HCT : Hid (Cor.cat a b = (Cor.join a b, 0)) := by
                show _ = _
                unfold Cor.cat; rw [if_neg (by rw [HVA.out, HVB.out]; simp), if_neg (by rw [HAT.out]; simp), if_neg (by rw [HNF.out]; simp), if_neg (by rw [L1.out, L2.out, L3.out, L4.out, L5.out, L6.out, L7.out, L8.out]; omega)]
              obtain ⟨i0, hi0, hz00, hz01, hz02⟩ := info_parts info_att6
              obtain ⟨i3, hi3, hz30, hz31, hz32⟩ := info_parts info_sls
              obtain ⟨i6, hi6, hz60, hz61, hz62⟩ := info_parts info_txt
              obtain ⟨i2, hi2, hz20, hz21, hz22⟩ := info_parts info_reg
              obtain ⟨i4, hi4, hz40, hz41, hz42⟩ := info_parts info_nod
              have hraA : Atts w w.heap.size ⟨Aa, na, ca⟩ a.attrs := KA.out.a
              have hna8 : na ≤ 8 := by have := vda.out.atl; have := hraA.len; simp at this; omega
              have SRC := Lib.hid ((hraA.under E4.below).src)
              have hfl : Hid ((a.attrs.flatMap atV).length = na * 2) := hraA.2.1.1
              have h1a := Lib.hid (atV_one a.attrs)
              have q0 : _ = some (Value.slice Aa na ca) := E4.a.cell 0
              have hwz := E4.below.size
              go_upto_region 15 with (at_builtin; refine wpList_app _ rfl (.const (.slice none 0 0)) (.tmp 92) _ rfl w.heap.size 62 i0 _ 2 24 Try.underlying22 hi0 hz00 hz01 hz02 rfl (by decide) _ 0 [] rfl (World.ownsRow_nil _ _ _ _) Aa na ca (a.attrs.flatMap atV) rfl hfl.out SRC.out h1a.out (by unfold maxLen; omega) (by omega) hwz ?_; intro v5 w5 own5 gr5 _; obtain ⟨A5, c5, rfl, -, -⟩ := own_slc own5)
              clear q0 q1 q2 q3 q4 p1 p2 p3 p4
              have o5 : w5.ownsRow w.heap.size 62 2 (.slice A5 na c5) na (a.attrs.flatMap atV) := by simpa using own5
              have hb5 : Below (wr.drewN nq).heap.size (wr.drewN nq) w5 := (Below.refl _ _).grown gr5 (Nat.le_refl _) (fun k hk => by cases hk)
              have E5 := E4.bel hb5
              have X := E5.bel ((Below.refl _ _).alloc (Nat.le_refl _) (.cells #[.slice A5 na c5, .slice none 0 0, .slice none 0 0, .slice none 0 0, .slice none 0 0, .slice none 0 0, .slice none 0 0] 30))
              have hgd2 : w.heap.size + 2 < w5.heap.size := E5.r.lt
              have O : OwnR w (w5.alloc (.cells #[.slice A5 na c5, .slice none 0 0, .slice none 0 0, .slice none 0 0, .slice none 0 0, .slice none 0 0, .slice none 0 0] 30)) w.heap.size w5.heap.size ⟨⟨A5, na, c5⟩, ⟨none, 0, 0⟩, ⟨none, 0, 0⟩, ⟨none, 0, 0⟩, ⟨none, 0, 0⟩, ⟨none, 0, 0⟩, ⟨none, 0, 0⟩⟩ ⟨a.attrs, [], [], [], [], [], []⟩ :=
                ⟨Blk.new w5 30 #[.slice A5 na c5, .slice none 0 0, .slice none 0 0, .slice none 0 0, .slice none 0 0, .slice none 0 0, .slice none 0 0], ⟨o5.alloc _, hraA.2.2⟩, ⟨[], rfl, own_nil0 _ _ _ _, fun _ h => by cases h⟩, ⟨[], rfl, own_nil0 _ _ _ _, fun _ h => by cases h⟩, ⟨[], rfl, own_nil0 _ _ _ _, fun _ h => by cases h⟩, ⟨own_nil0 _ _ _ _, fun _ h => by cases h⟩⟩
              obtain ⟨LTA, eTA, _, sTA, wTA⟩ := KA.out.t
              obtain ⟨LTB, eTB, _, sTB, wTB⟩ := KB.out.t
              obtain ⟨LXA, eXA, _, sXA, wXA⟩ := KA.out.x
              obtain ⟨LXB, eXB, _, sXB, wXB⟩ := KB.out.x
              obtain ⟨LRA, eRA, _, sRA, wRA⟩ := KA.out.r
              obtain ⟨LRB, eRB, _, sRB, wRB⟩ := KB.out.r
              clear o5 own5 gr5 hb5 E4 E5 SRC hra hrb
              generalize hwd : (w5.alloc (.cells #[.slice A5 na c5, .slice none 0 0, .slice none 0 0, .slice none 0 0, .slice none 0 0, .slice none 0 0, .slice none 0 0] 30)) = wd at X O ⊢
              generalize hgdd : w5.heap.size = gd at *
              clear hwd hgdd
              have hgw := O.blk.lt
              have bD := O.blk
              have hne9 : 30 ≠ 28 := by decide
              have XX := Lib.hid X
              have HS := Lib.hid (fun (W : World) (hW : Box3 w W ⟨⟨Aa, na, ca⟩, ⟨At, nt, ct⟩, ⟨Ax, nx, cx⟩, ⟨Ar, nr, cr⟩, ⟨An, nn, cn⟩, ⟨Ah, nh, ch⟩, ⟨Al, nl, cl⟩⟩ ⟨⟨Ba, ma, da⟩, ⟨Bt, mt, dt⟩, ⟨Bx, mx, dx⟩, ⟨Br, mr, dr⟩, ⟨Bn, mn, dn⟩, ⟨Bh, mh, dh⟩, ⟨Bl, ml, dl⟩⟩) => show (fun W => W.cell? ⟨w.heap.size, 1, none⟩ = some (.slice At nt ct) ∧ W.cell? ⟨w.heap.size + 1, 1, none⟩ = some (.slice Bt mt dt)) W from ⟨hW.a.cell 1, hW.b.cell 1⟩)
              have X0 := HS.out wd X
              have hXs := X.below.size
              have SRA := Lib.hid (fun (W : World) (hW : Below w.heap.size w W) => (sTA.under hW).srcz)
              have SRB := Lib.hid (fun (W : World) (hW : Below w.heap.size w W) => (sTB.under hW).srcz)
              have hfA : Hid ((LTA.flatMap tkV).length = nt * 1) := sTA.1
              have hfB : Hid ((LTB.flatMap tkV).length = mt * 1) := sTB.1
              have hoA := Lib.hid (tkV_oneC LTA)
              have hoB := Lib.hid (tkV_oneC LTB)
              have GB := Lib.hid (fun (W6 : World) (gr : wd.drew.grownBy W6 (Value.slice none 0 0).ownBlock) => (show Box3 w W6 ⟨⟨Aa, na, ca⟩, ⟨At, nt, ct⟩, ⟨Ax, nx, cx⟩, ⟨Ar, nr, cr⟩, ⟨An, nn, cn⟩, ⟨Ah, nh, ch⟩, ⟨Al, nl, cl⟩⟩ ⟨⟨Ba, ma, da⟩, ⟨Bt, mt, dt⟩, ⟨Bx, mx, dx⟩, ⟨Br, mr, dr⟩, ⟨Bn, mn, dn⟩, ⟨Bh, mh, dh⟩, ⟨Bl, ml, dl⟩⟩ from X.bel ((Below.refl _ _).drew.grown gr (Nat.le_refl _) (fun k hk => by cases hk))))
              clear X
              go_region_held3 (fun W => W.cell? ⟨w.heap.size, 1, none⟩ = some (.slice At nt ct) ∧ W.cell? ⟨w.heap.size + 1, 1, none⟩ = some (.slice Bt mt dt)) (first | (with_reducible exact X0) | (with_reducible exact X5) | (with_reducible exact X6) | go_keep) (first
                | ((with_reducible show (if _ = true then Oper.wp _ _ _ wd.drew _ _ else _)); refine step_app _ (by rfl) (.const (.slice none 0 0)) (.tmp 96) _ (by rfl) w.heap.size 28 i3 _ 1 24 Try.underlying23 hi3 hz30 hz31 hz32 (by rfl) (by decide) _ 0 [] (by rfl) (World.ownsRow_nil _ _ _ _) At nt ct (LTA.flatMap tkV) (by rfl) hfA.out (SRA.out _ XX.out.below.drew) hoA.out (by unfold maxLen; omega) (by omega) hXs ?_; intro v5 w5 own5 gr5 _; obtain ⟨A5, c5, rfl, -, -⟩ := own_slc own5; have Y5 := GB.out w5 gr5; have X5 := HS.out w5 Y5; have hY5 := Y5.below.size; have hgw5 : gd < w5.heap.size := Nat.lt_of_lt_of_le hgw (Off.grown (World.ownsRow_nil wd.drew w.heap.size 28 1) gr5).size)
                | ((with_reducible show (if _ = true then Oper.wp _ _ _ w5 _ _ else _)); refine step_app _ (by rfl) (.tmp 97) (.tmp 99) _ (by rfl) w.heap.size 28 i3 _ 1 24 Try.underlying23 hi3 hz30 hz31 hz32 (by rfl) (by decide) _ _ _ (by rfl) own5 Bt mt dt (LTB.flatMap tkV) (by rfl) hfB.out (SRB.out _ Y5.below) hoB.out (by unfold maxLen; omega) (by omega) hY5 ?_; intro v6 w6 own6 gr6 _; obtain ⟨A6, c6, rfl, -, -⟩ := own_slc own6; have F6 := ((Off.drew (R := 28) wd).trans (Off.grown (World.ownsRow_nil wd.drew w.heap.size 28 1) gr5)).trans (Off.grown own5 gr6); have Y6 : Box3 w w6 ⟨⟨Aa, na, ca⟩, ⟨At, nt, ct⟩, ⟨Ax, nx, cx⟩, ⟨Ar, nr, cr⟩, ⟨An, nn, cn⟩, ⟨Ah, nh, ch⟩, ⟨Al, nl, cl⟩⟩ ⟨⟨Ba, ma, da⟩, ⟨Bt, mt, dt⟩, ⟨Bx, mx, dx⟩, ⟨Br, mr, dr⟩, ⟨Bn, mn, dn⟩, ⟨Bh, mh, dh⟩, ⟨Bl, ml, dl⟩⟩ := Y5.offG ((Off.grown own5 gr6).offG (g := gd) hne9) hgd2 (Y5.below.grown gr6 hY5 (fun k hk => (own5.lt k hk).1)); have X6 := HS.out w6 Y6; have b6 := bD.off F6 hne9; have y6 := b6.cell 1; have z6 := b6.free 1; have n1 : gd ≠ w.heap.size := (by omega); have n2 : gd ≠ w.heap.size + 1 := (by omega); have n3 := n1.symm; have n4 := n2.symm))
              have own7 : w6.ownsRow w.heap.size 28 1 (.slice A6 (nt + mt) c6) (nt + mt) ((LTA ++ LTB).flatMap tkV) := by simpa using own6
              have O := O.setT F6 (fun x hx => (List.mem_append.1 hx).elim (wTA x) (wTB x)) own7
              have X : Box3 w (w6.setCell ⟨gd, 1, none⟩ (.slice A6 (nt + mt) c6)) ⟨⟨Aa, na, ca⟩, ⟨At, nt, ct⟩, ⟨Ax, nx, cx⟩, ⟨Ar, nr, cr⟩, ⟨An, nn, cn⟩, ⟨Ah, nh, ch⟩, ⟨Al, nl, cl⟩⟩ ⟨⟨Ba, ma, da⟩, ⟨Bt, mt, dt⟩, ⟨Bx, mx, dx⟩, ⟨Br, mr, dr⟩, ⟨Bn, mn, dn⟩, ⟨Bh, mh, dh⟩, ⟨Bl, ml, dl⟩⟩ := Y6.offG (OffG.set_ gd 1 _) hgd2 (Y6.below.setCell (p := ⟨gd, 1, none⟩) (by show w.heap.size ≤ gd; omega) _)
              clear X0 X5 X6 Y5 Y6 HS hXs SRA SRB hfA hfB hoA hoB GB XX own5 own6 own7 gr5 gr6 F6 b6 y6 z6 n1 n2 n3 n4 hgw hgw5 hY5 bD hne9
              rw [List.map_append, eTA, eTB] at O
              go_upto_region 16 with (fail)
              generalize (w6.setCell ⟨gd, 1, none⟩ (.slice A6 (nt + mt) c6)) = wd at O X ⊢
              have hgw := O.blk.lt
              have bD := O.blk
              have hne9 : 30 ≠ 64 := by decide
              have XX := Lib.hid X
              have HS := Lib.hid (fun (W : World) (hW : Box3 w W ⟨⟨Aa, na, ca⟩, ⟨At, nt, ct⟩, ⟨Ax, nx, cx⟩, ⟨Ar, nr, cr⟩, ⟨An, nn, cn⟩, ⟨Ah, nh, ch⟩, ⟨Al, nl, cl⟩⟩ ⟨⟨Ba, ma, da⟩, ⟨Bt, mt, dt⟩, ⟨Bx, mx, dx⟩, ⟨Br, mr, dr⟩, ⟨Bn, mn, dn⟩, ⟨Bh, mh, dh⟩, ⟨Bl, ml, dl⟩⟩) => show (fun W => W.cell? ⟨w.heap.size, 2, none⟩ = some (.slice Ax nx cx) ∧ W.cell? ⟨w.heap.size + 1, 2, none⟩ = some (.slice Bx mx dx)) W from ⟨hW.a.cell 2, hW.b.cell 2⟩)
              have X0 := HS.out wd X
              have hXs := X.below.size
              have SRA := Lib.hid (fun (W : World) (hW : Below w.heap.size w W) => (sXA.under hW).srcz)
              have SRB := Lib.hid (fun (W : World) (hW : Below w.heap.size w W) => (sXB.under hW).srcz)
              have hfA : Hid ((LXA.flatMap txV).length = nx * 4) := sXA.1
              have hfB : Hid ((LXB.flatMap txV).length = mx * 4) := sXB.1
              have hoA := Lib.hid (txV_ones LXA)
              have hoB := Lib.hid (txV_ones LXB)
              have GB := Lib.hid (fun (W6 : World) (gr : wd.drew.grownBy W6 (Value.slice none 0 0).ownBlock) => (show Box3 w W6 ⟨⟨Aa, na, ca⟩, ⟨At, nt, ct⟩, ⟨Ax, nx, cx⟩, ⟨Ar, nr, cr⟩, ⟨An, nn, cn⟩, ⟨Ah, nh, ch⟩, ⟨Al, nl, cl⟩⟩ ⟨⟨Ba, ma, da⟩, ⟨Bt, mt, dt⟩, ⟨Bx, mx, dx⟩, ⟨Br, mr, dr⟩, ⟨Bn, mn, dn⟩, ⟨Bh, mh, dh⟩, ⟨Bl, ml, dl⟩⟩ from X.bel ((Below.refl _ _).drew.grown gr (Nat.le_refl _) (fun k hk => by cases hk))))
              clear X
              go_region_held3 (fun W => W.cell? ⟨w.heap.size, 2, none⟩ = some (.slice Ax nx cx) ∧ W.cell? ⟨w.heap.size + 1, 2, none⟩ = some (.slice Bx mx dx)) (first | (with_reducible exact X0) | (with_reducible exact X5) | (with_reducible exact X6) | go_keep) (first
                | ((with_reducible show (if _ = true then Oper.wp _ _ _ wd.drew _ _ else _)); refine step_app _ (by rfl) (.const (.slice none 0 0)) (.tmp 103) _ (by rfl) w.heap.size 64 i6 _ 4 56 Try.underlying24 hi6 hz60 hz61 hz62 (by rfl) (by decide) _ 0 [] (by rfl) (World.ownsRow_nil _ _ _ _) Ax nx cx (LXA.flatMap txV) (by rfl) hfA.out (SRA.out _ XX.out.below.drew) hoA.out (by unfold maxLen; omega) (by omega) hXs ?_; intro v5 w5 own5 gr5 _; obtain ⟨A5, c5, rfl, -, -⟩ := own_slc own5; have Y5 := GB.out w5 gr5; have X5 := HS.out w5 Y5; have hY5 := Y5.below.size; have hgw5 : gd < w5.heap.size := Nat.lt_of_lt_of_le hgw (Off.grown (World.ownsRow_nil wd.drew w.heap.size 64 4) gr5).size)
                | ((with_reducible show (if _ = true then Oper.wp _ _ _ w5 _ _ else _)); refine step_app _ (by rfl) (.tmp 104) (.tmp 106) _ (by rfl) w.heap.size 64 i6 _ 4 56 Try.underlying24 hi6 hz60 hz61 hz62 (by rfl) (by decide) _ _ _ (by rfl) own5 Bx mx dx (LXB.flatMap txV) (by rfl) hfB.out (SRB.out _ Y5.below) hoB.out (by unfold maxLen; omega) (by omega) hY5 ?_; intro v6 w6 own6 gr6 _; obtain ⟨A6, c6, rfl, -, -⟩ := own_slc own6; have F6 := ((Off.drew (R := 64) wd).trans (Off.grown (World.ownsRow_nil wd.drew w.heap.size 64 4) gr5)).trans (Off.grown own5 gr6); have Y6 : Box3 w w6 ⟨⟨Aa, na, ca⟩, ⟨At, nt, ct⟩, ⟨Ax, nx, cx⟩, ⟨Ar, nr, cr⟩, ⟨An, nn, cn⟩, ⟨Ah, nh, ch⟩, ⟨Al, nl, cl⟩⟩ ⟨⟨Ba, ma, da⟩, ⟨Bt, mt, dt⟩, ⟨Bx, mx, dx⟩, ⟨Br, mr, dr⟩, ⟨Bn, mn, dn⟩, ⟨Bh, mh, dh⟩, ⟨Bl, ml, dl⟩⟩ := Y5.offG ((Off.grown own5 gr6).offG (g := gd) hne9) hgd2 (Y5.below.grown gr6 hY5 (fun k hk => (own5.lt k hk).1)); have X6 := HS.out w6 Y6; have b6 := bD.off F6 hne9; have y6 := b6.cell 2; have z6 := b6.free 2; have n1 : gd ≠ w.heap.size := (by omega); have n2 : gd ≠ w.heap.size + 1 := (by omega); have n3 := n1.symm; have n4 := n2.symm))
              have own7 : w6.ownsRow w.heap.size 64 4 (.slice A6 (nx + mx) c6) (nx + mx) ((LXA ++ LXB).flatMap txV) := by simpa using own6
              have O := O.setX F6 (fun x hx => (List.mem_append.1 hx).elim (wXA x) (wXB x)) own7
              have X : Box3 w (w6.setCell ⟨gd, 2, none⟩ (.slice A6 (nx + mx) c6)) ⟨⟨Aa, na, ca⟩, ⟨At, nt, ct⟩, ⟨Ax, nx, cx⟩, ⟨Ar, nr, cr⟩, ⟨An, nn, cn⟩, ⟨Ah, nh, ch⟩, ⟨Al, nl, cl⟩⟩ ⟨⟨Ba, ma, da⟩, ⟨Bt, mt, dt⟩, ⟨Bx, mx, dx⟩, ⟨Br, mr, dr⟩, ⟨Bn, mn, dn⟩, ⟨Bh, mh, dh⟩, ⟨Bl, ml, dl⟩⟩ := Y6.offG (OffG.set_ gd 2 _) hgd2 (Y6.below.setCell (p := ⟨gd, 2, none⟩) (by show w.heap.size ≤ gd; omega) _)
              clear X0 X5 X6 Y5 Y6 HS hXs SRA SRB hfA hfB hoA hoB GB XX own5 own6 own7 gr5 gr6 F6 b6 y6 z6 n1 n2 n3 n4 hgw hgw5 hY5 bD hne9
              rw [List.map_append, eXA, eXB, ← moved_zero a.texts b.texts (Cor.mvT (nt : Int))] at O
              have q2 : _ = some (Value.slice Ax nx cx) := X.a.cell 2
              go_upto_block 2 with (fail)
              generalize (w6.setCell ⟨gd, 2, none⟩ (.slice A6 (nx + mx) c6)) = wd at O X q2 ⊢
              go_cut [] from 20 (fun wr => RelC w wr ⟨⟨Aa, na, ca⟩, ⟨At, nt, ct⟩, ⟨Ax, nx, cx⟩, ⟨Ar, nr, cr⟩, ⟨An, nn, cn⟩, ⟨Ah, nh, ch⟩, ⟨Al, nl, cl⟩⟩ ⟨⟨Ba, ma, da⟩, ⟨Bt, mt, dt⟩, ⟨Bx, mx, dx⟩, ⟨Br, mr, dr⟩, ⟨Bn, mn, dn⟩, ⟨Bh, mh, dh⟩, ⟨Bl, ml, dl⟩⟩ gd ⟨a.attrs, a.toks ++ b.toks, a.texts ++ b.texts.map (Cor.mvT (nt : Int)), [], [], [], []⟩)
              case first =>
                -- <dev
                as_aux_lemma =>
                  go_wp2
                  go_loopw [11] (fun iv wr => ∃ j : Nat, j ≤ mx ∧ iv = .int .i64 ((nx + j : Nat) : Int) ∧ RelC w wr ⟨⟨Aa, na, ca⟩, ⟨At, nt, ct⟩, ⟨Ax, nx, cx⟩, ⟨Ar, nr, cr⟩, ⟨An, nn, cn⟩, ⟨Ah, nh, ch⟩, ⟨Al, nl, cl⟩⟩ ⟨⟨Ba, ma, da⟩, ⟨Bt, mt, dt⟩, ⟨Bx, mx, dx⟩, ⟨Br, mr, dr⟩, ⟨Bn, mn, dn⟩, ⟨Bh, mh, dh⟩, ⟨Bl, ml, dl⟩⟩ gd ⟨a.attrs, a.toks ++ b.toks, moved a.texts b.texts (Cor.mvT (nt : Int)) j, [], [], [], []⟩) (fun iv _ => nx + mx - (intOf iv).toNat)
                  case atStart => exact ⟨0, Nat.zero_le _, rfl, _, X, O, rfl, rfl⟩
                  case round =>
                    obtain ⟨j, hj, rfl, ⟨⟨Da, nda, cda⟩, ⟨Dt, ndt, cdt⟩, ⟨Dx, ndx, cdx⟩, ⟨Dr, ndr, cdr⟩, ⟨Dn, ndn, cdn⟩, Dh, Dl⟩, X, O, hDh, hDl⟩ := hrel
                    obtain rfl : Dh = ⟨none, 0, 0⟩ := hDh
                    obtain rfl : Dl = ⟨none, 0, 0⟩ := hDl
                    obtain ⟨L, hL0, ho, hW⟩ := O.x
                    have hL : L.map Prod.fst = moved (a.texts) (b.texts) (Cor.mvT (nt : Int)) j := hL0
                    clear hL0
                    have hlen : L.length = nx + mx := by
                      rw [← List.length_map (f := Prod.fst), hL, moved_len _ _ _ _ (by rw [L4.out]; exact hj), L3.out, L4.out]
                    obtain rfl : nx + mx = ndx := by
                      have h2 : L.length = ndx := (own_sl ho).flen txV_len (by omega)
                      omega
                    have bd : Blk wr gd 30 #[.slice Da nda cda, .slice Dt ndt cdt, .slice Dx (nx + mx) cdx, .slice Dr ndr cdr, .slice Dn ndn cdn, .slice none 0 0, .slice none 0 0] := O.blk
                    have yk := bd.cell 2
                    by_cases hlt : j < mx
                    · obtain ⟨gx, capx, ex, hbx, hgx, hcx⟩ := own_form ho (show 0 < nx + mx by omega)
                      obtain ⟨rfl, rfl⟩ : Dx = some ⟨gx, 0, none⟩ ∧ cdx = capx := by cases ex; exact ⟨rfl, rfl⟩
                      obtain ⟨cur, bcur, _⟩ := row_block ho
                      have hne : gx ≠ gd := by
                        rintro rfl
                        unfold Blk at bd bcur; rw [bd] at bcur; cases bcur
                      have hne' := hne.symm
                      have hj2 : j < (b.texts).length := by rw [L4.out]; exact hlt
                      have hrx := vdb.out.tx _ (List.getElem_mem hj2)
                      obtain ⟨⟨⟨rx, rb, re, rk⟩, hk⟩, hx⟩ : ∃ x, L[nx + j]'(by omega) = x := ⟨_, rfl⟩
                      have hxm : (b.texts)[j] = ⟨rx, rb, re, rk⟩ := by
                        have h1 := moved_at (a.texts) (b.texts) (Cor.mvT (nt : Int)) j hj2
                        rw [← hL, L3.out, List.getElem?_map, List.getElem?_eq_getElem (by omega), hx] at h1
                        exact (Option.some.inj h1).symm
                      rw [hxm] at hrx
                      simp only [] at hrx
                      have c1 := own_cellz txV_len ho (nx + j) (by omega) 1 (by omega)
                      have c2 := own_cellz txV_len ho (nx + j) (by omega) 2 (by omega)
                      rw [hx] at c1 c2
                      have d1 : _ = some (Value.int .i64 rb) := c1.1
                      have d2 : _ = some (Value.int .i64 re) := c2.1
                      have z1 := c1.2
                      have z2 := c2.2
                      have HMV : Hid (Cor.mvT (nt : Int) ⟨rx, rb, re, rk⟩ = ⟨rx, rb + (nt : Int), re + (nt : Int), rk⟩) := rfl
                      have hbt2 : b.toks.length = mt := L2.out
                      have TXO := hW _ (List.getElem_mem (show nx + j < L.length by omega))
                      rw [hx] at TXO
                      have RB : Hid (Rng (rb + (nt : Int))) := ⟨by omega, by omega⟩
                      have RE : Hid (Rng (re + (nt : Int))) := ⟨by omega, by omega⟩
                      have hs2 := flat_set txV_len (L.set (nx + j) (⟨rx, rb + (nt : Int), re, rk⟩, hk)) (nx + j) (by rw [List.length_set]; omega) 2 (.int .i64 (re + (nt : Int))) (⟨rx, rb + (nt : Int), re + (nt : Int), rk⟩, hk) (by omega) (by rw [List.getElem_set_self]; rfl)
                      have hs1 := flat_set txV_len L (nx + j) (by omega) 1 (.int .i64 (rb + (nt : Int))) (⟨rx, rb + (nt : Int), re, rk⟩, hk) (by omega) (by rw [hx]; rfl)
                      rw [List.set_set] at hs2
                      have o2 := own_set (own_set ho ((nx + j) * 4 + 1) (.int .i64 (rb + (nt : Int)))) ((nx + j) * 4 + 2) (.int .i64 (re + (nt : Int)))
                      rw [hs1, hs2] at o2
                      have f2 := (Off.set_ bcur ((nx + j) * 4 + 1) (.int .i64 (rb + (nt : Int)))).trans (Off.set_ (bcur.set_ ((nx + j) * 4 + 1) (.int .i64 (rb + (nt : Int)))) ((nx + j) * 4 + 2) (.int .i64 (re + (nt : Int))))
                      have O2 := O.atX (f := f2) (L := L.set (nx + j) (⟨rx, rb + (nt : Int), re + (nt : Int), rk⟩, hk)) (fun x hx' => by
                        rcases List.mem_or_eq_of_mem_set hx' with h | h
                        · exact hW x h
                        · subst h; exact ⟨TXO.1, RB.out, RE.out, TXO.2.2.2⟩) o2
                      rw [map_fst_set, hL] at O2
                      have hms := moved_set (a.texts) (b.texts) (Cor.mvT (nt : Int)) j hj2
                      rw [hxm, HMV.out, L3.out] at hms
                      simp only [hms] at O2
                      have X2 := X.offG (f2.offG (g := gd) (by decide)) hgd2 ((X.below.setCell (p := ⟨gx, (nx + j) * 4 + 1, none⟩) hbx (.int .i64 (rb + (nt : Int)))).setCell (p := ⟨gx, (nx + j) * 4 + 2, none⟩) hbx (.int .i64 (re + (nt : Int))))
                      have O3 := Lib.hid O2
                      have X3 := Lib.hid X2
                      have hbt := htb
                      clear O X O2 X2 hms o2 hs1 hs2 ho hW hL hx hxm TXO f2 bcur c1 c2 ex bd
                      go_wp2
                      go_roundw
                      case rel => exact ⟨j + 1, by omega, by go_num, _, X3.out, O3.out, rfl, rfl⟩
                      case measure => simp [intOf]; omega
                    · obtain rfl : mx = j := by omega
                      have O3 := Lib.hid O
                      have X3 := Lib.hid X
                      clear O X ho hW hL bd
                      go_wp2
                      go_meet
                      case rel =>
                        have O4 := O3.out
                        have hma := moved_all (a.texts) (b.texts) (Cor.mvT (nt : Int))
                        rw [L4.out] at hma
                        rw [hma] at O4
                        exact ⟨_, X3.out, O4, rfl, rfl⟩
                -- dev>
              case rest =>
                obtain ⟨⟨⟨Da, nda, cda⟩, ⟨Dt, ndt, cdt⟩, ⟨Dx, ndx, cdx⟩, ⟨Dr, ndr, cdr⟩, ⟨Dn, ndn, cdn⟩, Dh, Dl⟩, X, O, hDh, hDl⟩ := hcut
                obtain rfl : Dh = ⟨none, 0, 0⟩ := hDh
                obtain rfl : Dl = ⟨none, 0, 0⟩ := hDl
                obtain ⟨wd, rfl⟩ : ∃ wd : World, wd = wc := ⟨_, rfl⟩
                go_upto_region 22 with (fail)
                have hgw := O.blk.lt
                have bD := O.blk
                have hne9 : 30 ≠ 39 := by decide
                have XX := Lib.hid X
                have HS := Lib.hid (fun (W : World) (hW : Box3 w W ⟨⟨Aa, na, ca⟩, ⟨At, nt, ct⟩, ⟨Ax, nx, cx⟩, ⟨Ar, nr, cr⟩, ⟨An, nn, cn⟩, ⟨Ah, nh, ch⟩, ⟨Al, nl, cl⟩⟩ ⟨⟨Ba, ma, da⟩, ⟨Bt, mt, dt⟩, ⟨Bx, mx, dx⟩, ⟨Br, mr, dr⟩, ⟨Bn, mn, dn⟩, ⟨Bh, mh, dh⟩, ⟨Bl, ml, dl⟩⟩) => show (fun W => W.cell? ⟨w.heap.size, 3, none⟩ = some (.slice Ar nr cr) ∧ W.cell? ⟨w.heap.size + 1, 3, none⟩ = some (.slice Br mr dr)) W from ⟨hW.a.cell 3, hW.b.cell 3⟩)
                have X0 := HS.out wd X
                have hXs := X.below.size
                have SRA := Lib.hid (fun (W : World) (hW : Below w.heap.size w W) => (sRA.under hW).srcz)
                have SRB := Lib.hid (fun (W : World) (hW : Below w.heap.size w W) => (sRB.under hW).srcz)
                have hfA : Hid ((LRA.flatMap txV).length = nr * 4) := sRA.1
                have hfB : Hid ((LRB.flatMap txV).length = mr * 4) := sRB.1
                have hoA := Lib.hid (txV_ones LRA)
                have hoB := Lib.hid (txV_ones LRB)
                have GB := Lib.hid (fun (W6 : World) (gr : wd.drew.grownBy W6 (Value.slice none 0 0).ownBlock) => (show Box3 w W6 ⟨⟨Aa, na, ca⟩, ⟨At, nt, ct⟩, ⟨Ax, nx, cx⟩, ⟨Ar, nr, cr⟩, ⟨An, nn, cn⟩, ⟨Ah, nh, ch⟩, ⟨Al, nl, cl⟩⟩ ⟨⟨Ba, ma, da⟩, ⟨Bt, mt, dt⟩, ⟨Bx, mx, dx⟩, ⟨Br, mr, dr⟩, ⟨Bn, mn, dn⟩, ⟨Bh, mh, dh⟩, ⟨Bl, ml, dl⟩⟩ from X.bel ((Below.refl _ _).drew.grown gr (Nat.le_refl _) (fun k hk => by cases hk))))
                clear X
                go_region_held3 (fun W => W.cell? ⟨w.heap.size, 3, none⟩ = some (.slice Ar nr cr) ∧ W.cell? ⟨w.heap.size + 1, 3, none⟩ = some (.slice Br mr dr)) (first | (with_reducible exact X0) | (with_reducible exact X5) | (with_reducible exact X6) | go_keep) (first
                  | ((with_reducible show (if _ = true then Oper.wp _ _ _ wd.drew _ _ else _)); refine step_app _ (by rfl) (.const (.slice none 0 0)) (.tmp 140) _ (by rfl) w.heap.size 39 i2 _ 4 56 Try.underlying25 hi2 hz20 hz21 hz22 (by rfl) (by decide) _ 0 [] (by rfl) (World.ownsRow_nil _ _ _ _) Ar nr cr (LRA.flatMap txV) (by rfl) hfA.out (SRA.out _ XX.out.below.drew) hoA.out (by unfold maxLen; omega) (by omega) hXs ?_; intro v5 w5 own5 gr5 _; obtain ⟨A5, c5, rfl, -, -⟩ := own_slc own5; have Y5 := GB.out w5 gr5; have X5 := HS.out w5 Y5; have hY5 := Y5.below.size; have hgw5 : gd < w5.heap.size := Nat.lt_of_lt_of_le hgw (Off.grown (World.ownsRow_nil wd.drew w.heap.size 39 4) gr5).size)
                  | ((with_reducible show (if _ = true then Oper.wp _ _ _ w5 _ _ else _)); refine step_app _ (by rfl) (.tmp 141) (.tmp 143) _ (by rfl) w.heap.size 39 i2 _ 4 56 Try.underlying25 hi2 hz20 hz21 hz22 (by rfl) (by decide) _ _ _ (by rfl) own5 Br mr dr (LRB.flatMap txV) (by rfl) hfB.out (SRB.out _ Y5.below) hoB.out (by unfold maxLen; omega) (by omega) hY5 ?_; intro v6 w6 own6 gr6 _; obtain ⟨A6, c6, rfl, -, -⟩ := own_slc own6; have F6 := ((Off.drew (R := 39) wd).trans (Off.grown (World.ownsRow_nil wd.drew w.heap.size 39 4) gr5)).trans (Off.grown own5 gr6); have Y6 : Box3 w w6 ⟨⟨Aa, na, ca⟩, ⟨At, nt, ct⟩, ⟨Ax, nx, cx⟩, ⟨Ar, nr, cr⟩, ⟨An, nn, cn⟩, ⟨Ah, nh, ch⟩, ⟨Al, nl, cl⟩⟩ ⟨⟨Ba, ma, da⟩, ⟨Bt, mt, dt⟩, ⟨Bx, mx, dx⟩, ⟨Br, mr, dr⟩, ⟨Bn, mn, dn⟩, ⟨Bh, mh, dh⟩, ⟨Bl, ml, dl⟩⟩ := Y5.offG ((Off.grown own5 gr6).offG (g := gd) hne9) hgd2 (Y5.below.grown gr6 hY5 (fun k hk => (own5.lt k hk).1)); have X6 := HS.out w6 Y6; have b6 := bD.off F6 hne9; have y6 := b6.cell 3; have z6 := b6.free 3; have n1 : gd ≠ w.heap.size := (by omega); have n2 : gd ≠ w.heap.size + 1 := (by omega); have n3 := n1.symm; have n4 := n2.symm))
                have own7 : w6.ownsRow w.heap.size 39 4 (.slice A6 (nr + mr) c6) (nr + mr) ((LRA ++ LRB).flatMap txV) := by simpa using own6
                have O := O.setR F6 (fun x hx => (List.mem_append.1 hx).elim (wRA x) (wRB x)) own7
                have X : Box3 w (w6.setCell ⟨gd, 3, none⟩ (.slice A6 (nr + mr) c6)) ⟨⟨Aa, na, ca⟩, ⟨At, nt, ct⟩, ⟨Ax, nx, cx⟩, ⟨Ar, nr, cr⟩, ⟨An, nn, cn⟩, ⟨Ah, nh, ch⟩, ⟨Al, nl, cl⟩⟩ ⟨⟨Ba, ma, da⟩, ⟨Bt, mt, dt⟩, ⟨Bx, mx, dx⟩, ⟨Br, mr, dr⟩, ⟨Bn, mn, dn⟩, ⟨Bh, mh, dh⟩, ⟨Bl, ml, dl⟩⟩ := Y6.offG (OffG.set_ gd 3 _) hgd2 (Y6.below.setCell (p := ⟨gd, 3, none⟩) (by show w.heap.size ≤ gd; omega) _)
                clear X0 X5 X6 Y5 Y6 HS hXs SRA SRB hfA hfB hoA hoB GB XX own5 own6 own7 gr5 gr6 F6 b6 y6 z6 n1 n2 n3 n4 hgw hgw5 hY5 bD hne9
                rw [List.map_append, eRA, eRB, ← moved_zero a.regs b.regs (Cor.mvR (nt : Int))] at O
                have q3 : _ = some (Value.slice Ar nr cr) := X.a.cell 3
                go_upto_block 4 with (fail)
                generalize (w6.setCell ⟨gd, 3, none⟩ (.slice A6 (nr + mr) c6)) = wd at O X q3 ⊢
                go_cut [] from 20 (fun wr => RelC w wr ⟨⟨Aa, na, ca⟩, ⟨At, nt, ct⟩, ⟨Ax, nx, cx⟩, ⟨Ar, nr, cr⟩, ⟨An, nn, cn⟩, ⟨Ah, nh, ch⟩, ⟨Al, nl, cl⟩⟩ ⟨⟨Ba, ma, da⟩, ⟨Bt, mt, dt⟩, ⟨Bx, mx, dx⟩, ⟨Br, mr, dr⟩, ⟨Bn, mn, dn⟩, ⟨Bh, mh, dh⟩, ⟨Bl, ml, dl⟩⟩ gd ⟨a.attrs, a.toks ++ b.toks, a.texts ++ b.texts.map (Cor.mvT (nt : Int)), a.regs ++ b.regs.map (Cor.mvR (nt : Int)), [], [], []⟩)
                case first =>
                  -- <dev
                  as_aux_lemma =>
                    go_wp2
                    go_loopw [12] (fun iv wr => ∃ j : Nat, j ≤ mr ∧ iv = .int .i64 ((nr + j : Nat) : Int) ∧ RelC w wr ⟨⟨Aa, na, ca⟩, ⟨At, nt, ct⟩, ⟨Ax, nx, cx⟩, ⟨Ar, nr, cr⟩, ⟨An, nn, cn⟩, ⟨Ah, nh, ch⟩, ⟨Al, nl, cl⟩⟩ ⟨⟨Ba, ma, da⟩, ⟨Bt, mt, dt⟩, ⟨Bx, mx, dx⟩, ⟨Br, mr, dr⟩, ⟨Bn, mn, dn⟩, ⟨Bh, mh, dh⟩, ⟨Bl, ml, dl⟩⟩ gd ⟨a.attrs, a.toks ++ b.toks, a.texts ++ b.texts.map (Cor.mvT (nt : Int)), moved a.regs b.regs (Cor.mvR (nt : Int)) j, [], [], []⟩) (fun iv _ => nr + mr - (intOf iv).toNat)
                    case atStart => exact ⟨0, Nat.zero_le _, rfl, _, X, O, rfl, rfl⟩
                    case round =>
                      obtain ⟨j, hj, rfl, ⟨⟨Da, nda, cda⟩, ⟨Dt, ndt, cdt⟩, ⟨Dx, ndx, cdx⟩, ⟨Dr, ndr, cdr⟩, ⟨Dn, ndn, cdn⟩, Dh, Dl⟩, X, O, hDh, hDl⟩ := hrel
                      obtain rfl : Dh = ⟨none, 0, 0⟩ := hDh
                      obtain rfl : Dl = ⟨none, 0, 0⟩ := hDl
                      obtain ⟨L, hL0, ho, hW⟩ := O.r
                      have hL : L.map Prod.fst = moved (a.regs) (b.regs) (Cor.mvR (nt : Int)) j := hL0
                      clear hL0
                      have hlen : L.length = nr + mr := by
                        rw [← List.length_map (f := Prod.fst), hL, moved_len _ _ _ _ (by rw [L6.out]; exact hj), L5.out, L6.out]
                      obtain rfl : nr + mr = ndr := by
                        have h2 : L.length = ndr := (own_sl ho).flen txV_len (by omega)
                        omega
                      have bd : Blk wr gd 30 #[.slice Da nda cda, .slice Dt ndt cdt, .slice Dx ndx cdx, .slice Dr (nr + mr) cdr, .slice Dn ndn cdn, .slice none 0 0, .slice none 0 0] := O.blk
                      have yk := bd.cell 3
                      by_cases hlt : j < mr
                      · obtain ⟨gx, capx, ex, hbx, hgx, hcx⟩ := own_form ho (show 0 < nr + mr by omega)
                        obtain ⟨rfl, rfl⟩ : Dr = some ⟨gx, 0, none⟩ ∧ cdr = capx := by cases ex; exact ⟨rfl, rfl⟩
                        obtain ⟨cur, bcur, _⟩ := row_block ho
                        have hne : gx ≠ gd := by
                          rintro rfl
                          unfold Blk at bd bcur; rw [bd] at bcur; cases bcur
                        have hne' := hne.symm
                        have hj2 : j < (b.regs).length := by rw [L6.out]; exact hlt
                        have hrx := (vdb.out.rg _ (List.getElem_mem hj2)).2
                        obtain ⟨⟨⟨rx, rb, re, rk⟩, hk⟩, hx⟩ : ∃ x, L[nr + j]'(by omega) = x := ⟨_, rfl⟩
                        have hxm : (b.regs)[j] = ⟨rx, rb, re, rk⟩ := by
                          have h1 := moved_at (a.regs) (b.regs) (Cor.mvR (nt : Int)) j hj2
                          rw [← hL, L5.out, List.getElem?_map, List.getElem?_eq_getElem (by omega), hx] at h1
                          exact (Option.some.inj h1).symm
                        rw [hxm] at hrx
                        simp only [] at hrx
                        have c1 := own_cellz txV_len ho (nr + j) (by omega) 1 (by omega)
                        have c2 := own_cellz txV_len ho (nr + j) (by omega) 2 (by omega)
                        rw [hx] at c1 c2
                        have d1 : _ = some (Value.int .i64 rb) := c1.1
                        have d2 : _ = some (Value.int .i64 re) := c2.1
                        have z1 := c1.2
                        have z2 := c2.2
                        have HMV : Hid (Cor.mvR (nt : Int) ⟨rx, rb, re, rk⟩ = ⟨rx, rb + (nt : Int), re + (nt : Int), rk⟩) := rfl
                        have hbt2 : b.toks.length = mt := L2.out
                        have TXO := hW _ (List.getElem_mem (show nr + j < L.length by omega))
                        rw [hx] at TXO
                        have RB : Hid (Rng (rb + (nt : Int))) := ⟨by omega, by omega⟩
                        have RE : Hid (Rng (re + (nt : Int))) := ⟨by omega, by omega⟩
                        have hs2 := flat_set txV_len (L.set (nr + j) (⟨rx, rb + (nt : Int), re, rk⟩, hk)) (nr + j) (by rw [List.length_set]; omega) 2 (.int .i64 (re + (nt : Int))) (⟨rx, rb + (nt : Int), re + (nt : Int), rk⟩, hk) (by omega) (by rw [List.getElem_set_self]; rfl)
                        have hs1 := flat_set txV_len L (nr + j) (by omega) 1 (.int .i64 (rb + (nt : Int))) (⟨rx, rb + (nt : Int), re, rk⟩, hk) (by omega) (by rw [hx]; rfl)
                        rw [List.set_set] at hs2
                        have o2 := own_set (own_set ho ((nr + j) * 4 + 1) (.int .i64 (rb + (nt : Int)))) ((nr + j) * 4 + 2) (.int .i64 (re + (nt : Int)))
                        rw [hs1, hs2] at o2
                        have f2 := (Off.set_ bcur ((nr + j) * 4 + 1) (.int .i64 (rb + (nt : Int)))).trans (Off.set_ (bcur.set_ ((nr + j) * 4 + 1) (.int .i64 (rb + (nt : Int)))) ((nr + j) * 4 + 2) (.int .i64 (re + (nt : Int))))
                        have O2 := O.atR (f := f2) (L := L.set (nr + j) (⟨rx, rb + (nt : Int), re + (nt : Int), rk⟩, hk)) (fun x hx' => by
                          rcases List.mem_or_eq_of_mem_set hx' with h | h
                          · exact hW x h
                          · subst h; exact ⟨TXO.1, RB.out, RE.out, TXO.2.2.2⟩) o2
                        rw [map_fst_set, hL] at O2
                        have hms := moved_set (a.regs) (b.regs) (Cor.mvR (nt : Int)) j hj2
                        rw [hxm, HMV.out, L5.out] at hms
                        simp only [hms] at O2
                        have X2 := X.offG (f2.offG (g := gd) (by decide)) hgd2 ((X.below.setCell (p := ⟨gx, (nr + j) * 4 + 1, none⟩) hbx (.int .i64 (rb + (nt : Int)))).setCell (p := ⟨gx, (nr + j) * 4 + 2, none⟩) hbx (.int .i64 (re + (nt : Int))))
                        have O3 := Lib.hid O2
                        have X3 := Lib.hid X2
                        have hbt := htb
                        clear O X O2 X2 hms o2 hs1 hs2 ho hW hL hx hxm TXO f2 bcur c1 c2 ex bd
                        go_wp2
                        go_roundw
                        case rel => exact ⟨j + 1, by omega, by go_num, _, X3.out, O3.out, rfl, rfl⟩
                        case measure => simp [intOf]; omega
                      · obtain rfl : mr = j := by omega
                        have O3 := Lib.hid O
                        have X3 := Lib.hid X
                        clear O X ho hW hL bd
                        go_wp2
                        go_meet
                        case rel =>
                          have O4 := O3.out
                          have hma := moved_all (a.regs) (b.regs) (Cor.mvR (nt : Int))
                          rw [L6.out] at hma
                          rw [hma] at O4
                          exact ⟨_, X3.out, O4, rfl, rfl⟩
                  -- dev>
                case rest =>
                  obtain ⟨⟨⟨Da, nda, cda⟩, ⟨Dt, ndt, cdt⟩, ⟨Dx, ndx, cdx⟩, ⟨Dr, ndr, cdr⟩, ⟨Dn, ndn, cdn⟩, Dh, Dl⟩, X, O, hDh, hDl⟩ := hcut
                  obtain rfl : Dh = ⟨none, 0, 0⟩ := hDh
                  obtain rfl : Dl = ⟨none, 0, 0⟩ := hDl
                  obtain ⟨wd, rfl⟩ : ∃ wd : World, wd = wc := ⟨_, rfl⟩
                  go_upto_region 28 with (fail)
                  have hgw := O.blk.lt
                  have bD := O.blk
                  have hne9 : 30 ≠ 74 := by decide
                  have XX := Lib.hid X
                  have HS := Lib.hid (fun (W : World) (hW : Box3 w W ⟨⟨Aa, na, ca⟩, ⟨At, nt, ct⟩, ⟨Ax, nx, cx⟩, ⟨Ar, nr, cr⟩, ⟨An, nn, cn⟩, ⟨Ah, nh, ch⟩, ⟨Al, nl, cl⟩⟩ ⟨⟨Ba, ma, da⟩, ⟨Bt, mt, dt⟩, ⟨Bx, mx, dx⟩, ⟨Br, mr, dr⟩, ⟨Bn, mn, dn⟩, ⟨Bh, mh, dh⟩, ⟨Bl, ml, dl⟩⟩) => show (fun W => W.cell? ⟨w.heap.size, 4, none⟩ = some (.slice An nn cn) ∧ W.cell? ⟨w.heap.size + 1, 4, none⟩ = some (.slice Bn mn dn)) W from ⟨hW.a.cell 4, hW.b.cell 4⟩)
                  have X0 := HS.out wd X
                  have hXs := X.below.size
                  have SRA := Lib.hid (fun (W : World) (hW : Below w.heap.size w W) => (KA.out.n.2.1.under hW).srcz)
                  have SRB := Lib.hid (fun (W : World) (hW : Below w.heap.size w W) => (KB.out.n.2.1.under hW).srcz)
                  have hfA : Hid ((a.nods.flatMap ndV).length = nn * 4) := KA.out.n.2.1.1
                  have hfB : Hid ((b.nods.flatMap ndV).length = mn * 4) := KB.out.n.2.1.1
                  have hoA := Lib.hid (ndV_ones a.nods)
                  have hoB := Lib.hid (ndV_ones b.nods)
                  have GB := Lib.hid (fun (W6 : World) (gr : wd.drew.grownBy W6 (Value.slice none 0 0).ownBlock) => (show Box3 w W6 ⟨⟨Aa, na, ca⟩, ⟨At, nt, ct⟩, ⟨Ax, nx, cx⟩, ⟨Ar, nr, cr⟩, ⟨An, nn, cn⟩, ⟨Ah, nh, ch⟩, ⟨Al, nl, cl⟩⟩ ⟨⟨Ba, ma, da⟩, ⟨Bt, mt, dt⟩, ⟨Bx, mx, dx⟩, ⟨Br, mr, dr⟩, ⟨Bn, mn, dn⟩, ⟨Bh, mh, dh⟩, ⟨Bl, ml, dl⟩⟩ from X.bel ((Below.refl _ _).drew.grown gr (Nat.le_refl _) (fun k hk => by cases hk))))
                  clear X
                  go_region_held3 (fun W => W.cell? ⟨w.heap.size, 4, none⟩ = some (.slice An nn cn) ∧ W.cell? ⟨w.heap.size + 1, 4, none⟩ = some (.slice Bn mn dn)) (first | (with_reducible exact X0) | (with_reducible exact X5) | (with_reducible exact X6) | go_keep) (first
                    | ((with_reducible show (if _ = true then Oper.wp _ _ _ wd.drew _ _ else _)); refine step_app _ (by rfl) (.const (.slice none 0 0)) (.tmp 177) _ (by rfl) w.heap.size 74 i4 _ 4 40 Try.underlying26 hi4 hz40 hz41 hz42 (by rfl) (by decide) _ 0 [] (by rfl) (World.ownsRow_nil _ _ _ _) An nn cn (a.nods.flatMap ndV) (by rfl) hfA.out (SRA.out _ XX.out.below.drew) hoA.out (by unfold maxLen; omega) (by omega) hXs ?_; intro v5 w5 own5 gr5 _; obtain ⟨A5, c5, rfl, -, -⟩ := own_slc own5; have Y5 := GB.out w5 gr5; have X5 := HS.out w5 Y5; have hY5 := Y5.below.size; have hgw5 : gd < w5.heap.size := Nat.lt_of_lt_of_le hgw (Off.grown (World.ownsRow_nil wd.drew w.heap.size 74 4) gr5).size)
                    | ((with_reducible show (if _ = true then Oper.wp _ _ _ w5 _ _ else _)); refine step_app _ (by rfl) (.tmp 178) (.tmp 180) _ (by rfl) w.heap.size 74 i4 _ 4 40 Try.underlying26 hi4 hz40 hz41 hz42 (by rfl) (by decide) _ _ _ (by rfl) own5 Bn mn dn (b.nods.flatMap ndV) (by rfl) hfB.out (SRB.out _ Y5.below) hoB.out (by unfold maxLen; omega) (by omega) hY5 ?_; intro v6 w6 own6 gr6 _; obtain ⟨A6, c6, rfl, -, -⟩ := own_slc own6; have F6 := ((Off.drew (R := 74) wd).trans (Off.grown (World.ownsRow_nil wd.drew w.heap.size 74 4) gr5)).trans (Off.grown own5 gr6); have Y6 : Box3 w w6 ⟨⟨Aa, na, ca⟩, ⟨At, nt, ct⟩, ⟨Ax, nx, cx⟩, ⟨Ar, nr, cr⟩, ⟨An, nn, cn⟩, ⟨Ah, nh, ch⟩, ⟨Al, nl, cl⟩⟩ ⟨⟨Ba, ma, da⟩, ⟨Bt, mt, dt⟩, ⟨Bx, mx, dx⟩, ⟨Br, mr, dr⟩, ⟨Bn, mn, dn⟩, ⟨Bh, mh, dh⟩, ⟨Bl, ml, dl⟩⟩ := Y5.offG ((Off.grown own5 gr6).offG (g := gd) hne9) hgd2 (Y5.below.grown gr6 hY5 (fun k hk => (own5.lt k hk).1)); have X6 := HS.out w6 Y6; have b6 := bD.off F6 hne9; have y6 := b6.cell 4; have z6 := b6.free 4; have n1 : gd ≠ w.heap.size := (by omega); have n2 : gd ≠ w.heap.size + 1 := (by omega); have n3 := n1.symm; have n4 := n2.symm))
                  have own7 : w6.ownsRow w.heap.size 74 4 (.slice A6 (nn + mn) c6) (nn + mn) ((a.nods ++ b.nods).flatMap ndV) := by simpa using own6
                  have O := O.setN F6 (fun x hx => (List.mem_append.1 hx).elim (KA.out.n.2.2 x) (KB.out.n.2.2 x)) own7
                  have X : Box3 w (w6.setCell ⟨gd, 4, none⟩ (.slice A6 (nn + mn) c6)) ⟨⟨Aa, na, ca⟩, ⟨At, nt, ct⟩, ⟨Ax, nx, cx⟩, ⟨Ar, nr, cr⟩, ⟨An, nn, cn⟩, ⟨Ah, nh, ch⟩, ⟨Al, nl, cl⟩⟩ ⟨⟨Ba, ma, da⟩, ⟨Bt, mt, dt⟩, ⟨Bx, mx, dx⟩, ⟨Br, mr, dr⟩, ⟨Bn, mn, dn⟩, ⟨Bh, mh, dh⟩, ⟨Bl, ml, dl⟩⟩ := Y6.offG (OffG.set_ gd 4 _) hgd2 (Y6.below.setCell (p := ⟨gd, 4, none⟩) (by show w.heap.size ≤ gd; omega) _)
                  clear X0 X5 X6 Y5 Y6 HS hXs SRA SRB hfA hfB hoA hoB GB XX own5 own6 own7 gr5 gr6 F6 b6 y6 z6 n1 n2 n3 n4 hgw hgw5 hY5 bD hne9
                  rw [← moved_zero a.nods b.nods (Cor.mvN (nt : Int) (nn : Int))] at O
                  go_upto_block 6 with (fail)
                  generalize (w6.setCell ⟨gd, 4, none⟩ (.slice A6 (nn + mn) c6)) = wd at O X ⊢
                  go_cut [] from 20 (fun wr => RelC w wr ⟨⟨Aa, na, ca⟩, ⟨At, nt, ct⟩, ⟨Ax, nx, cx⟩, ⟨Ar, nr, cr⟩, ⟨An, nn, cn⟩, ⟨Ah, nh, ch⟩, ⟨Al, nl, cl⟩⟩ ⟨⟨Ba, ma, da⟩, ⟨Bt, mt, dt⟩, ⟨Bx, mx, dx⟩, ⟨Br, mr, dr⟩, ⟨Bn, mn, dn⟩, ⟨Bh, mh, dh⟩, ⟨Bl, ml, dl⟩⟩ gd ⟨a.attrs, a.toks ++ b.toks, a.texts ++ b.texts.map (Cor.mvT (nt : Int)), a.regs ++ b.regs.map (Cor.mvR (nt : Int)), a.nods ++ b.nods.map (Cor.mvN (nt : Int) (nn : Int)), [], []⟩)
                  case first =>
                    -- <dev
                    as_aux_lemma =>
                      go_wp2
                      go_loopw [13] (fun iv wr => ∃ j : Nat, j ≤ mn ∧ iv = .int .i64 ((nn + j : Nat) : Int) ∧ RelC w wr ⟨⟨Aa, na, ca⟩, ⟨At, nt, ct⟩, ⟨Ax, nx, cx⟩, ⟨Ar, nr, cr⟩, ⟨An, nn, cn⟩, ⟨Ah, nh, ch⟩, ⟨Al, nl, cl⟩⟩ ⟨⟨Ba, ma, da⟩, ⟨Bt, mt, dt⟩, ⟨Bx, mx, dx⟩, ⟨Br, mr, dr⟩, ⟨Bn, mn, dn⟩, ⟨Bh, mh, dh⟩, ⟨Bl, ml, dl⟩⟩ gd ⟨a.attrs, a.toks ++ b.toks, a.texts ++ b.texts.map (Cor.mvT (nt : Int)), a.regs ++ b.regs.map (Cor.mvR (nt : Int)), moved a.nods b.nods (Cor.mvN (nt : Int) (nn : Int)) j, [], []⟩) (fun iv _ => nn + mn - (intOf iv).toNat)
                      case atStart => exact ⟨0, Nat.zero_le _, rfl, _, X, O, rfl, rfl⟩
                      case round =>
                        obtain ⟨j, hj, rfl, ⟨⟨Da, nda, cda⟩, ⟨Dt, ndt, cdt⟩, ⟨Dx, ndx, cdx⟩, ⟨Dr, ndr, cdr⟩, ⟨Dn, ndn, cdn⟩, Dh, Dl⟩, X, O, hDh, hDl⟩ := hrel
                        obtain rfl : Dh = ⟨none, 0, 0⟩ := hDh
                        obtain rfl : Dl = ⟨none, 0, 0⟩ := hDl
                        have ho : wr.ownsRow w.heap.size 74 4 (.slice Dn ndn cdn) ndn ((moved a.nods b.nods (Cor.mvN (nt : Int) (nn : Int)) j).flatMap ndV) := O.n.1
                        have hW : ∀ x ∈ moved a.nods b.nods (Cor.mvN (nt : Int) (nn : Int)) j, Len x.lb ∧ Rng x.b ∧ Rng x.e ∧ Rng x.p := O.n.2
                        have hlen : (moved a.nods b.nods (Cor.mvN (nt : Int) (nn : Int)) j).length = nn + mn := by
                          rw [moved_len _ _ _ _ (by rw [L8.out]; exact hj), L7.out, L8.out]
                        have hms := fun h => moved_set a.nods b.nods (Cor.mvN (nt : Int) (nn : Int)) j h
                        have hma := fun h => moved_at a.nods b.nods (Cor.mvN (nt : Int) (nn : Int)) j h
                        obtain ⟨L, hL⟩ : ∃ L, moved a.nods b.nods (Cor.mvN (nt : Int) (nn : Int)) j = L := ⟨_, rfl⟩
                        rw [hL] at ho hW hlen hms hma
                        obtain rfl : nn + mn = ndn := by
                          have h2 : L.length = ndn := (own_sl ho).flen ndV_len (by omega)
                          omega
                        have bd : Blk wr gd 30 #[.slice Da nda cda, .slice Dt ndt cdt, .slice Dx ndx cdx, .slice Dr ndr cdr, .slice Dn (nn + mn) cdn, .slice none 0 0, .slice none 0 0] := O.blk
                        have yk := bd.cell 4
                        by_cases hlt : j < mn
                        · obtain ⟨gx, capx, ex, hbx, hgx, hcx⟩ := own_form ho (show 0 < nn + mn by omega)
                          obtain ⟨rfl, rfl⟩ : Dn = some ⟨gx, 0, none⟩ ∧ cdn = capx := by cases ex; exact ⟨rfl, rfl⟩
                          obtain ⟨cur, bcur, _⟩ := row_block ho
                          have hne : gx ≠ gd := by
                            rintro rfl
                            unfold Blk at bd bcur; rw [bd] at bcur; cases bcur
                          have hne' := hne.symm
                          have hj2 : j < b.nods.length := by rw [L8.out]; exact hlt
                          have hrx := (vdb.out.nd j hj2).2
                          have hxm : L[nn + j]'(by omega) = b.nods[j] := by
                            have h1 := hma hj2
                            rw [L7.out, List.getElem?_eq_getElem (by omega)] at h1
                            exact Option.some.inj h1
                          have hms := hms hj2
                          obtain ⟨⟨rx, rb, re, rp⟩, hx⟩ : ∃ x, b.nods[j] = x := ⟨_, rfl⟩
                          rw [hx] at hrx hxm hms
                          rw [L7.out] at hms
                          obtain ⟨hr1, hr2, hr3, hr4, hr5⟩ := hrx
                          simp only [] at hr1 hr2 hr3 hr4 hr5
                          have hbt2 : b.toks.length = mt := L2.out
                          have c1 := own_cellz ndV_len ho (nn + j) (by omega) 1 (by omega)
                          have c2 := own_cellz ndV_len ho (nn + j) (by omega) 2 (by omega)
                          have c3 := own_cellz ndV_len ho (nn + j) (by omega) 3 (by omega)
                          rw [hxm] at c1 c2 c3
                          have d1 : _ = some (Value.int .i64 rb) := c1.1
                          have d2 : _ = some (Value.int .i64 re) := c2.1
                          have d3 : _ = some (Value.int .i64 rp) := c3.1
                          have z1 := c1.2
                          have z2 := c2.2
                          have z3 := c3.2
                          have NOK := hW _ (List.getElem_mem (show nn + j < L.length by omega))
                          rw [hxm] at NOK
                          have RB : Hid (Rng (rb + (nt : Int))) := ⟨by omega, by omega⟩
                          have RE : Hid (Rng (re + (nt : Int))) := ⟨by omega, by omega⟩
                          have RP : Hid (Rng (rp + (nn : Int))) := ⟨by omega, by omega⟩
                          have hs1 := flat_set ndV_len L (nn + j) (by omega) 1 (.int .i64 (rb + (nt : Int))) ⟨rx, rb + (nt : Int), re, rp⟩ (by omega) (by rw [hxm]; rfl)
                          have hs2 := flat_set ndV_len (L.set (nn + j) ⟨rx, rb + (nt : Int), re, rp⟩) (nn + j) (by rw [List.length_set]; omega) 2 (.int .i64 (re + (nt : Int))) ⟨rx, rb + (nt : Int), re + (nt : Int), rp⟩ (by omega) (by rw [List.getElem_set_self]; rfl)
                          have hs3 := flat_set ndV_len (L.set (nn + j) ⟨rx, rb + (nt : Int), re + (nt : Int), rp⟩) (nn + j) (by rw [List.length_set]; omega) 3 (.int .i64 (rp + (nn : Int))) ⟨rx, rb + (nt : Int), re + (nt : Int), rp + (nn : Int)⟩ (by omega) (by rw [List.getElem_set_self]; rfl)
                          rw [List.set_set] at hs2 hs3
                          have o2 := own_set (own_set ho ((nn + j) * 4 + 1) (.int .i64 (rb + (nt : Int)))) ((nn + j) * 4 + 2) (.int .i64 (re + (nt : Int)))
                          rw [hs1, hs2] at o2
                          have f2 := (Off.set_ bcur ((nn + j) * 4 + 1) (.int .i64 (rb + (nt : Int)))).trans (Off.set_ (bcur.set_ ((nn + j) * 4 + 1) (.int .i64 (rb + (nt : Int)))) ((nn + j) * 4 + 2) (.int .i64 (re + (nt : Int))))
                          have bc2 := (bcur.set_ ((nn + j) * 4 + 1) (.int .i64 (rb + (nt : Int)))).set_ ((nn + j) * 4 + 2) (.int .i64 (re + (nt : Int)))
                          have hb2 := (X.below.setCell (p := ⟨gx, (nn + j) * 4 + 1, none⟩) hbx (.int .i64 (rb + (nt : Int)))).setCell (p := ⟨gx, (nn + j) * 4 + 2, none⟩) hbx (.int .i64 (re + (nt : Int)))
                          have HX := Lib.hid X
                          have HO := Lib.hid O
                          have HW := Lib.hid hW
                          by_cases hrp : 0 ≤ rp
                          · have dp : decide (0 ≤ rp) = true := by simpa using hrp
                            have o3 := own_set o2 ((nn + j) * 4 + 3) (.int .i64 (rp + (nn : Int)))
                            rw [hs3] at o3
                            have f3 := f2.trans (Off.set_ bc2 ((nn + j) * 4 + 3) (.int .i64 (rp + (nn : Int))))
                            have O2 := HO.out.atN (f := f3) (L := L.set (nn + j) ⟨rx, rb + (nt : Int), re + (nt : Int), rp + (nn : Int)⟩) (fun x hx' => by
                              rcases List.mem_or_eq_of_mem_set hx' with h | h
                              · exact HW.out x h
                              · subst h; exact ⟨NOK.1, RB.out, RE.out, RP.out⟩) o3
                            rw [show Cor.mvN (nt : Int) (nn : Int) ⟨rx, rb, re, rp⟩ = ⟨rx, rb + (nt : Int), re + (nt : Int), rp + (nn : Int)⟩ by unfold Cor.mvN; simp only [if_pos hrp]] at hms
                            simp only [hms] at O2
                            have X2 := HX.out.offG (f3.offG (g := gd) (by decide)) hgd2 (hb2.setCell (p := ⟨gx, (nn + j) * 4 + 3, none⟩) hbx (.int .i64 (rp + (nn : Int))))
                            have O3 := Lib.hid O2
                            have X3 := Lib.hid X2
                            clear O X O2 X2 hms o2 o3 hs1 hs2 hs3 ho hW hx hxm NOK f2 f3 bc2 hb2 bcur c1 c2 c3 ex bd hL hma hrp
                            go_wp2
                            go_roundw
                            case rel => exact ⟨j + 1, by omega, by go_num, _, X3.out, O3.out, rfl, rfl⟩
                            case measure => simp [intOf]; omega
                          · have dp : decide (0 ≤ rp) = false := by simpa using hrp
                            have O2 := HO.out.atN (f := f2) (L := L.set (nn + j) ⟨rx, rb + (nt : Int), re + (nt : Int), rp⟩) (fun x hx' => by
                              rcases List.mem_or_eq_of_mem_set hx' with h | h
                              · exact HW.out x h
                              · subst h; exact ⟨NOK.1, RB.out, RE.out, NOK.2.2.2⟩) o2
                            rw [show Cor.mvN (nt : Int) (nn : Int) ⟨rx, rb, re, rp⟩ = ⟨rx, rb + (nt : Int), re + (nt : Int), rp⟩ by unfold Cor.mvN; simp only [if_neg hrp]] at hms
                            simp only [hms] at O2
                            have X2 := HX.out.offG (f2.offG (g := gd) (by decide)) hgd2 hb2
                            have O3 := Lib.hid O2
                            have X3 := Lib.hid X2
                            clear O X O2 X2 hms o2 hs1 hs2 hs3 ho hW hx hxm NOK f2 bc2 hb2 bcur c1 c2 c3 ex bd hL hma hrp
                            go_wp2
                            go_roundw
                            case rel => exact ⟨j + 1, by omega, by go_num, _, X3.out, O3.out, rfl, rfl⟩
                            case measure => simp [intOf]; omega
                        · obtain rfl : mn = j := by omega
                          have O3 := Lib.hid O
                          have X3 := Lib.hid X
                          clear O X ho hW hL bd hms hma
                          go_wp2
                          go_meet
                          case rel =>
                            have O4 := O3.out
                            have hma := moved_all a.nods b.nods (Cor.mvN (nt : Int) (nn : Int))
                            rw [L8.out] at hma
                            rw [hma] at O4
                            exact ⟨_, X3.out, O4, rfl, rfl⟩
                    -- dev>
                  case rest =>
                    obtain ⟨⟨⟨Da, nda, cda⟩, ⟨Dt, ndt, cdt⟩, ⟨Dx, ndx, cdx⟩, ⟨Dr, ndr, cdr⟩, ⟨Dn, ndn, cdn⟩, Dh, Dl⟩, X, O, hDh, hDl⟩ := hcut
                    obtain rfl : Dh = ⟨none, 0, 0⟩ := hDh
                    obtain rfl : Dl = ⟨none, 0, 0⟩ := hDl
                    obtain ⟨wd, rfl⟩ : ∃ wd : World, wd = wc := ⟨_, rfl⟩
                    have X8 := Lib.hid X
                    have O9 := Lib.hid O
                    have q5 : _ = some (Value.slice Ah nh ch) := X.a.cell 5
                    have p5 : _ = some (Value.slice Bh mh dh) := X.b.cell 5
                    clear X O
                    have f1 : a.heads.length = nh := KA.out.h.len
                    have f2 : b.heads.length = mh := KB.out.h.len
                    have f3 := vda.out.hdl
                    have f4 := vdb.out.hdl
                    have f5 : nh ≤ 4096 := by have := L1.out; omega
                    have f6 : mh ≤ 4096 := by have := L2.out; omega
                    by_cases hz : nh + mh = 0
                    · obtain ⟨rfl, rfl⟩ : nh = 0 ∧ mh = 0 := by omega
                      have HJ : Hid (Cor.cat a b = (⟨a.attrs, a.toks ++ b.toks, a.texts ++ b.texts.map (Cor.mvT (nt : Int)), a.regs ++ b.regs.map (Cor.mvR (nt : Int)), a.nods ++ b.nods.map (Cor.mvN (nt : Int) (nn : Int)), [], []⟩, 0)) := by
                        show _ = _
                        rw [HCT.out]; unfold Cor.join; rw [if_pos (by omega), if_pos (by omega), L1.out, L7.out]
                      have bd : Blk wd gd 30 #[.slice Da nda cda, .slice Dt ndt cdt, .slice Dx ndx cdx, .slice Dr ndr cdr, .slice Dn ndn cdn, .slice none 0 0, .slice none 0 0] := O9.out.blk
                      clear f1 f2 f3 f4
                      have y0 : _ = some (Value.slice Da nda cda) := bd.cell 0
                      have y1 : _ = some (Value.slice Dt ndt cdt) := bd.cell 1
                      have y2 : _ = some (Value.slice Dx ndx cdx) := bd.cell 2
                      have y3 : _ = some (Value.slice Dr ndr cdr) := bd.cell 3
                      have y4 : _ = some (Value.slice Dn ndn cdn) := bd.cell 4
                      have y5 : _ = some (Value.slice none 0 0) := bd.cell 5
                      have y6 : _ = some (Value.slice none 0 0) := bd.cell 6
                      have v0 : _ = some (Value.slice none 0 0) := X8.out.r.cell 0
                      have z0 := X8.out.r.free 0
                      have v1 : _ = some (Value.slice none 0 0) := X8.out.r.cell 1
                      have z1 := X8.out.r.free 1
                      have v2 : _ = some (Value.slice none 0 0) := X8.out.r.cell 2
                      have z2 := X8.out.r.free 2
                      have v3 : _ = some (Value.slice none 0 0) := X8.out.r.cell 3
                      have z3 := X8.out.r.free 3
                      have v4 : _ = some (Value.slice none 0 0) := X8.out.r.cell 4
                      have z4 := X8.out.r.free 4
                      have v5 : _ = some (Value.slice none 0 0) := X8.out.r.cell 5
                      have z5 := X8.out.r.free 5
                      have v6 : _ = some (Value.slice none 0 0) := X8.out.r.cell 6
                      have z6 := X8.out.r.free 6
                      go_wp2
                      refine bodyPost_ret (v := .tuple #[.agg #[.slice Da nda cda, .slice Dt ndt cdt, .slice Dx ndx cdx, .slice Dr ndr cdr, .slice Dn ndn cdn, .slice none 0 0, .slice none 0 0], .int .i64 0]) (by simp [results, Try.f31, go_sem, v0, v1, v2, v3, v4, v5, v6]) rfl ?_
                      exact made_partsR (B2 := w.heap.size) (D := ⟨⟨Da, nda, cda⟩, ⟨Dt, ndt, cdt⟩, ⟨Dx, ndx, cdx⟩, ⟨Dr, ndr, cdr⟩, ⟨Dn, ndn, cdn⟩, ⟨none, 0, 0⟩, ⟨none, 0, 0⟩⟩) HJ.out ⟨O9.out.a, O9.out.t, O9.out.x, O9.out.r, O9.out.n⟩ ⟨own_nil0 _ _ _ _, fun _ h => by cases h⟩ ⟨own_nil0 _ _ _ _, fun _ h => by cases h⟩ (off7 X8.out.r _ _ _ _ _ _ _) (below7 X8.out.below (by omega) _ _ _ _ _ _ _)
                    · have HJ : Hid (Cor.cat a b = (⟨a.attrs, a.toks ++ b.toks, a.texts ++ b.texts.map (Cor.mvT (nt : Int)), a.regs ++ b.regs.map (Cor.mvR (nt : Int)), a.nods ++ b.nods.map (Cor.mvN (nt : Int) (nn : Int)), Cor.allH a ++ (Cor.allH b).map (Cor.mvH (nt : Int)), Cor.allL a ++ Cor.allL b⟩, 0)) := by
                        show _ = _
                        rw [HCT.out]; unfold Cor.join; rw [if_neg (by omega), if_neg (by omega), L1.out, L7.out]
                      have dz : decide ((0 : Int) < (nh : Int) + (mh : Int)) = true := by simp; omega
                      have dz2 : decide (0 < nh + mh) = true := by simp; omega
                      have HLA := Lib.hid (allH_len vda.out)
                      have HLB := Lib.hid (allH_len vdb.out)
                      have C1 := Lib.hid (allHeads_any ⟨⟨Aa, na, ca⟩, ⟨At, nt, ct⟩, ⟨Ax, nx, cx⟩, ⟨Ar, nr, cr⟩, ⟨An, nn, cn⟩, ⟨Ah, nh, ch⟩, ⟨Al, nl, cl⟩⟩ a wd ((KA.out.under X8.out.below).up X8.out.below.size) vda.out)
                      clear f1 f2 f3 f4 hz
                      clear q5
                      have q0 : _ = some (Value.slice Aa na ca) := X8.out.a.cell 0
                      have q1 : _ = some (Value.slice At nt ct) := X8.out.a.cell 1
                      have q2 : _ = some (Value.slice Ax nx cx) := X8.out.a.cell 2
                      have q3 : _ = some (Value.slice Ar nr cr) := X8.out.a.cell 3
                      have q4 : _ = some (Value.slice An nn cn) := X8.out.a.cell 4
                      have q5 : _ = some (Value.slice Ah nh ch) := X8.out.a.cell 5
                      have q6 : _ = some (Value.slice Al nl cl) := X8.out.a.cell 6
                      go_wp2_with fail
                      refine C1.out.mono ?_
                      rintro e' w6 ⟨⟨Pa, pn, pc⟩, ⟨Qa, qn, qc⟩, rfl, hP, hQ, hb6⟩
                      simp only [Hd.v]
                      have X9 := X8.out.bel hb6
                      have O10 := O9.out.below hb6
                      have C2 := Lib.hid (allHeads_any ⟨⟨Ba, ma, da⟩, ⟨Bt, mt, dt⟩, ⟨Bx, mx, dx⟩, ⟨Br, mr, dr⟩, ⟨Bn, mn, dn⟩, ⟨Bh, mh, dh⟩, ⟨Bl, ml, dl⟩⟩ b w6 ((KB.out.under X9.below).up X9.below.size) vdb.out)
                      clear q0 q1 q2 q3 q4 q5 q6 C1 p5 dz dz2 X8 O9
                      have p0 : _ = some (Value.slice Ba ma da) := X9.b.cell 0
                      have p1 : _ = some (Value.slice Bt mt dt) := X9.b.cell 1
                      have p2 : _ = some (Value.slice Bx mx dx) := X9.b.cell 2
                      have p3 : _ = some (Value.slice Br mr dr) := X9.b.cell 3
                      have p4 : _ = some (Value.slice Bn mn dn) := X9.b.cell 4
                      have p5 : _ = some (Value.slice Bh mh dh) := X9.b.cell 5
                      have p6 : _ = some (Value.slice Bl ml dl) := X9.b.cell 6
                      go_wp2_with fail
                      refine C2.out.mono ?_
                      rintro e' w7 ⟨⟨Ra, rn, rc⟩, ⟨Sa, sn, sc⟩, rfl, hR, hS, hb7⟩
                      simp only [Hd.v]
                      have X10 := Lib.hid (X9.bel hb7)
                      have O11 := Lib.hid (O10.below hb7)
                      have hP2 := (hP.under hb7).up hb7.size
                      have hQ2 := (hQ.under hb7).up hb7.size
                      clear p0 p1 p2 p3 p4 p5 p6 C2 X9 O10 hP hQ
                      obtain rfl : nt = pn := by have e : (Cor.allH a).length = pn := hP2.len; have := HLA.out.1; have := L1.out; omega
                      obtain rfl : nt = qn := by have e : (Cor.allL a).length = qn := hQ2.len; have := HLA.out.2; have := L1.out; omega
                      obtain rfl : mt = rn := by have e : (Cor.allH b).length = rn := hR.len; have := HLB.out.1; have := L2.out; omega
                      obtain rfl : mt = sn := by have e : (Cor.allL b).length = sn := hS.len; have := HLB.out.2; have := L2.out; omega
                      obtain ⟨i5, hi5, hz50, hz51, hz52⟩ := info_parts info_int
                      obtain ⟨i1, hi1, hz10, hz11, hz12⟩ := info_parts info_string
                      have SP := Lib.hid hP2.2.1.srcz
                      have SQ := Lib.hid hQ2.2.1.srcz
                      have SS := Lib.hid hS.2.1.srcz
                      have lP : Hid ((ints (Cor.allH a)).length = nt * 1) := hP2.2.1.1
                      have lQ : Hid ((strs (Cor.allL a)).length = nt * 1) := hQ2.2.1.1
                      have lS : Hid ((strs (Cor.allL b)).length = mt * 1) := hS.2.1.1
                      have eP := Lib.hid (ints_one (Cor.allH a))
                      have eQ := Lib.hid (strs_one6 (Cor.allL a))
                      have eS := Lib.hid (strs_one6 (Cor.allL b))
                      have RP := Lib.hid hP2.2.2
                      have RQ := Lib.hid hQ2.2.2
                      have RS := Lib.hid hS.2.2
                      have HR := Lib.hid hR
                      have bd7 := O11.out.blk
                      have hgd7 : gd < w7.heap.size := bd7.lt
                      clear hP2 hQ2 hS hR
                      have SQ2 := Lib.hid (fun (W : World) (h : Below w7.heap.size w7 W) => show Src W Qa (strs (Cor.allL a)) from fun hp => by
                        obtain ⟨ad, e, hc⟩ := SQ.out hp
                        exact ⟨ad, e, fun j u hj => by
                          have h1 := hc j u hj
                          have hlt := World.block_lt_of_cell? w7 _ h1
                          exact (h.cell hlt).trans h1⟩)
                      have SS2 := Lib.hid (fun (W : World) (h : Below w7.heap.size w7 W) => show Src W Sa (strs (Cor.allL b)) from fun hp => by
                        obtain ⟨ad, e, hc⟩ := SS.out hp
                        exact ⟨ad, e, fun j u hj => by
                          have h1 := hc j u hj
                          have hlt := World.block_lt_of_cell? w7 _ h1
                          exact (h.cell hlt).trans h1⟩)
                      go_upto_region 40 with (first
                        | (at_builtin; refine wpList_app _ rfl (.const (.slice none 0 0)) (.tmp 246) _ rfl w7.heap.size 3 i5 _ 1 8 Try.underlying27 hi5 hz50 hz51 hz52 rfl (by decide) _ 0 [] rfl (World.ownsRow_nil _ _ _ _) Pa nt pc (ints (Cor.allH a)) rfl lP.out SP.out eP.out (by unfold maxLen; omega) (by omega) (Nat.le_refl _) ?_; intro v8 w8 own8 gr8 _; obtain ⟨A8, c8, rfl, -, -⟩ := own_slc own8; have hb8 : Below w7.heap.size w7 w8 := (Below.refl _ _).grown gr8 (Nat.le_refl _) (fun k hk => by cases hk))
                        | (at_builtin; refine wpList_app _ rfl (.const (.slice none 0 0)) (.tmp 248) _ rfl w7.heap.size 9 i1 _ 1 16 Try.underlying28 hi1 hz10 hz11 hz12 rfl (by decide) _ 0 [] rfl (World.ownsRow_nil _ _ _ _) Qa nt qc (strs (Cor.allL a)) rfl lQ.out (SQ2.out _ hb8) eQ.out (by unfold maxLen; omega) (by omega) hb8.size ?_; intro v9 w9 own9 gr9 _; obtain ⟨A9, c9, rfl, -, -⟩ := own_slc own9; have hb9 : Below w7.heap.size w7 w9 := hb8.grown gr9 hb8.size (fun k hk => by cases hk); have own9s : w9.ownsRow w7.heap.size 9 1 (.slice A9 nt c9) nt (strs (Cor.allL a)) := (by simpa using own9))
                        | (at_builtin; refine wpList_app _ rfl (.tmp 249) (.tmp 250) _ rfl w7.heap.size 9 i1 _ 1 16 Try.underlying28 hi1 hz10 hz11 hz12 rfl (by decide) _ _ _ rfl own9s Sa mt sc (strs (Cor.allL b)) rfl lS.out (SS2.out _ hb9) eS.out (by unfold maxLen; omega) (by omega) hb9.size ?_; intro v10 w10 own10 gr10 _; obtain ⟨A10, c10, rfl, -, -⟩ := own_slc own10; have hb10 : Below w7.heap.size w7 w10 := hb9.grown gr10 hb9.size (fun k hk => (own9s.lt k hk).1); have b10 := bd7.below hb10; have y5 := b10.cell 5; have z5 := b10.free 5; have y6 := b10.cell 6; have z6 := b10.free 6))
                      have o8 : w8.ownsRow w7.heap.size 3 1 (.slice A8 nt c8) nt (ints (Cor.allH a)) := by simpa using own8
                      have f10 := (Off.grown (World.ownsRow_nil w8 w7.heap.size 9 1) gr9).trans (Off.grown own9s gr10)
                      have fs := (Off.set_ b10 5 (.slice A8 nt c8)).trans (Off.set_ (b10.set_ 5 (.slice A8 nt c8)) 6 (.slice A10 (nt + mt) c10))
                      have o10 : w10.ownsRow w7.heap.size 9 1 (.slice A10 (nt + mt) c10) (nt + mt) (strs (Cor.allL a ++ Cor.allL b)) := by unfold strs at own10 ⊢; simpa using own10
                      have T0 : HeadT w w7 ((w10.setCell ⟨gd, 5, none⟩ (.slice A8 nt c8)).setCell ⟨gd, 6, none⟩ (.slice A10 (nt + mt) c10)) gd (.slice Da nda cda) (.slice Dt ndt cdt) (.slice Dx ndx cdx) (.slice Dr ndr cdr) (.slice Dn ndn cdn) ⟨A8, nt, c8⟩ ⟨A10, nt + mt, c10⟩ (Cor.allH a ++ ((Cor.allH b).take 0).map (Cor.mvH (nt : Int))) (Cor.allL a ++ Cor.allL b) :=
                        ⟨((X10.out.below.trans (hb10.mono X10.out.below.size)).setCell (p := ⟨gd, 5, none⟩) (by show w.heap.size ≤ gd; omega) _).setCell (p := ⟨gd, 6, none⟩) (by show w.heap.size ≤ gd; omega) _,
                          fun k hk hne => (setCell_block (by show k ≠ gd; exact hne)).trans ((setCell_block (by show k ≠ gd; exact hne)).trans (hb10.block k hk)), Nat.le_trans hb10.size fs.size, (b10.set_ 5 _).set_ 6 _,
                          ⟨by rw [List.take_zero, List.map_nil, List.append_nil]; exact own_off (own_off o8 f10 (by decide)) fs (by decide), by rw [List.take_zero, List.map_nil, List.append_nil]; exact RP.out⟩,
                          ⟨own_off o10 fs (by decide), fun x hx => (List.mem_append.1 hx).elim (RQ.out x) (RS.out x)⟩⟩
                      clear own8 own9 own9s own10 gr8 gr9 gr10 o8 o10 f10 fs hb8 hb9 hb10 b10 y5 y6 z5 z6 SP SQ SS SQ2 SS2 lP lQ lS eP eQ eS
                      generalize ((w10.setCell ⟨gd, 5, none⟩ (.slice A8 nt c8)).setCell ⟨gd, 6, none⟩ (.slice A10 (nt + mt) c10)) = wt at T0 ⊢
                      have hgdw : w.heap.size ≤ gd := by omega
                      have hwo7 : w.heap.size ≤ w7.heap.size := X10.out.below.size
                      have HRG := Lib.hid (fun (j : Nat) (hj : j < (Cor.allH b).length) => allHr_range vdb.out hj)
                      have bd7i := Lib.hid bd7
                      clear bd7
                      have lHA := HLA.out.1
                      have lHB := HLB.out.1
                      rw [L1.out] at lHA
                      rw [L2.out] at lHB
                      have LHA := Lib.hid lHA
                      have LHB := Lib.hid lHB
                      clear lHA lHB
                      go_wp2
                      go_loopw [256] (fun iv wr => ∃ j : Nat, j ≤ mt ∧ iv = .int .i64 j ∧ ∃ Eh : Hd, HeadT w w7 wr gd (.slice Da nda cda) (.slice Dt ndt cdt) (.slice Dx ndx cdx) (.slice Dr ndr cdr) (.slice Dn ndn cdn) Eh ⟨A10, nt + mt, c10⟩ (Cor.allH a ++ ((Cor.allH b).take j).map (Cor.mvH (nt : Int))) (Cor.allL a ++ Cor.allL b)) (fun iv _ => mt - (intOf iv).toNat)
                      case atStart => exact ⟨0, Nat.zero_le _, rfl, _, T0⟩
                      case round =>
                        obtain ⟨j, hj, rfl, ⟨EA, en, ec⟩, hT⟩ := hrel
                        by_cases hlt : j < mt
                        · have hen : en ≤ 8192 := by
                            have h2 : (Cor.allH a ++ ((Cor.allH b).take j).map (Cor.mvH (nt : Int))).length = en := by have := (own_sl hT.h.1).ilen; exact this
                            rw [List.length_append, List.length_map, List.length_take, LHA.out, LHB.out] at h2
                            omega
                          obtain ⟨gh, oh, hk2, e2, hg1, hrg, d0⟩ := HR.out.at_ (k := j) (show j < mt from hlt)
                          have e2 : Ra = some ⟨gh, oh, none⟩ := e2
                          subst e2
                          have hgne : gh ≠ gd := by
                            rintro rfl
                            exact no_int7 bd7i.out d0
                          have hra := HRG.out j hk2
                          obtain ⟨hd, hhd⟩ : ∃ x, (Cor.allH b)[j] = x := ⟨_, rfl⟩
                          have HJ : Hid (((Cor.allH b).take (j + 1)).map (Cor.mvH (nt : Int)) = ((Cor.allH b).take j).map (Cor.mvH (nt : Int)) ++ [Cor.mvH (nt : Int) hd]) := by
                            show _ = _
                            rw [List.take_succ_eq_append_getElem hk2, hhd, List.map_append]; rfl
                          rw [hhd] at d0 hra
                          replace d0 := (cell_same (hT.keep gh hg1 hgne) (oh + j)).trans d0
                          have HT := Lib.hid hT
                          clear hhd hrg hT
                          by_cases hhz : 0 ≤ hd
                          · have HZ : Hid (Cor.mvH (nt : Int) hd = hd + (nt : Int)) := by show _ = _; unfold Cor.mvH; rw [if_pos hhz]
                            have dd : decide (0 ≤ hd) = true := by simpa using hhz
                            have RZ : Hid (Rng (hd + (nt : Int))) := by show Rng _; unfold Rng; omega
                            have bd : Blk wr gd 30 #[.slice Da nda cda, .slice Dt ndt cdt, .slice Dx ndx cdx, .slice Dr ndr cdr, .slice Dn ndn cdn, .slice EA en ec, .slice A10 (nt + mt) c10] := HT.out.blk
                            have y5 : _ = some (Value.slice EA en ec) := bd.cell 5
                            have z5 := bd.free 5
                            have hoa := HT.out.h.1.alloc (.cells #[.int .i64 (hd + (nt : Int))] 3)
                            have hBW := HT.out.size
                            go_wp2_with (at_builtin; refine wpList_app _ rfl (.tmp 266) (.tmp 268) _ rfl w7.heap.size 3 i5 _ 1 8 Try.underlying27 hi5 hz50 hz51 hz52 rfl (by decide) (.slice EA en ec) en (ints (Cor.allH a ++ ((Cor.allH b).take j).map (Cor.mvH (nt : Int)))) rfl hoa (some ⟨wr.heap.size, 0, none⟩) 1 1 [.int .i64 (hd + (nt : Int))] rfl rfl (fun _ => ⟨_, rfl, news_new wr 3 [.int .i64 (hd + (nt : Int))]⟩) (fun u hu => (by simp at hu; subst hu; rfl)) (by unfold maxLen; omega) (by omega) (HT.out.alloc (.cells #[.int .i64 (hd + (nt : Int))] 3)).size ?_; intro v12 w12 own12 gr12 _; obtain ⟨A12, c12, rfl, -, -⟩ := own_slc own12; have b12 := (bd.alloc (.cells #[.int .i64 (hd + (nt : Int))] 3)).off (Off.grown hoa gr12) (by decide); have w12y := b12.cell 5; have w12z := b12.free 5)
                            go_roundw
                            case rel =>
                              have T9 := (HT.out.alloc (.cells #[.int .i64 (hd + (nt : Int))] 3)).head (by omega) hwo7 RZ.out own12 gr12
                              refine ⟨j + 1, by omega, by go_num, ⟨A12, en + 1, c12⟩, ?_⟩
                              rw [HJ.out, HZ.out, ← List.append_assoc]
                              exact T9
                            case measure => simp [intOf]; omega
                          · have HZ : Hid (Cor.mvH (nt : Int) hd = hd) := by show _ = _; unfold Cor.mvH; rw [if_neg hhz]
                            have dd : decide (0 ≤ hd) = false := by simpa using hhz
                            have RZ : Hid (Rng hd) := by show Rng _; unfold Rng; omega
                            have bd : Blk wr gd 30 #[.slice Da nda cda, .slice Dt ndt cdt, .slice Dx ndx cdx, .slice Dr ndr cdr, .slice Dn ndn cdn, .slice EA en ec, .slice A10 (nt + mt) c10] := HT.out.blk
                            have y5 : _ = some (Value.slice EA en ec) := bd.cell 5
                            have z5 := bd.free 5
                            have hoa := HT.out.h.1.alloc (.cells #[.int .i64 hd] 3)
                            have hBW := HT.out.size
                            go_wp2_with (at_builtin; refine wpList_app _ rfl (.tmp 266) (.tmp 268) _ rfl w7.heap.size 3 i5 _ 1 8 Try.underlying27 hi5 hz50 hz51 hz52 rfl (by decide) (.slice EA en ec) en (ints (Cor.allH a ++ ((Cor.allH b).take j).map (Cor.mvH (nt : Int)))) rfl hoa (some ⟨wr.heap.size, 0, none⟩) 1 1 [.int .i64 hd] rfl rfl (fun _ => ⟨_, rfl, news_new wr 3 [.int .i64 hd]⟩) (fun u hu => (by simp at hu; subst hu; rfl)) (by unfold maxLen; omega) (by omega) (HT.out.alloc (.cells #[.int .i64 hd] 3)).size ?_; intro v12 w12 own12 gr12 _; obtain ⟨A12, c12, rfl, -, -⟩ := own_slc own12; have b12 := (bd.alloc (.cells #[.int .i64 hd] 3)).off (Off.grown hoa gr12) (by decide); have w12y := b12.cell 5; have w12z := b12.free 5)
                            go_roundw
                            case rel =>
                              have T9 := (HT.out.alloc (.cells #[.int .i64 hd] 3)).head (by omega) hwo7 RZ.out own12 gr12
                              refine ⟨j + 1, by omega, by go_num, ⟨A12, en + 1, c12⟩, ?_⟩
                              rw [HJ.out, HZ.out, ← List.append_assoc]
                              exact T9
                            case measure => simp [intOf]; omega
                        · obtain rfl : mt = j := by omega
                          have hT2 := Lib.hid hT
                          have bd : Blk wr gd 30 #[.slice Da nda cda, .slice Dt ndt cdt, .slice Dx ndx cdx, .slice Dr ndr cdr, .slice Dn ndn cdn, .slice EA en ec, .slice A10 (nt + mt) c10] := hT.blk
                          have br : Blk wr (w.heap.size + 2) 30 #[.slice none 0 0, .slice none 0 0, .slice none 0 0, .slice none 0 0, .slice none 0 0, .slice none 0 0, .slice none 0 0] := (hT.keep _ X10.out.r.lt (by omega)).trans X10.out.r
                          have hrest := Lib.hid (O11.out.rest hT.keep)
                          have BR := Lib.hid br
                          clear hT
                          have y0 : _ = some (Value.slice Da nda cda) := bd.cell 0
                          have y1 : _ = some (Value.slice Dt ndt cdt) := bd.cell 1
                          have y2 : _ = some (Value.slice Dx ndx cdx) := bd.cell 2
                          have y3 : _ = some (Value.slice Dr ndr cdr) := bd.cell 3
                          have y4 : _ = some (Value.slice Dn ndn cdn) := bd.cell 4
                          have y5 : _ = some (Value.slice EA en ec) := bd.cell 5
                          have y6 : _ = some (Value.slice A10 (nt + mt) c10) := bd.cell 6
                          have v0 : _ = some (Value.slice none 0 0) := br.cell 0
                          have z0 := br.free 0
                          have v1 : _ = some (Value.slice none 0 0) := br.cell 1
                          have z1 := br.free 1
                          have v2 : _ = some (Value.slice none 0 0) := br.cell 2
                          have z2 := br.free 2
                          have v3 : _ = some (Value.slice none 0 0) := br.cell 3
                          have z3 := br.free 3
                          have v4 : _ = some (Value.slice none 0 0) := br.cell 4
                          have z4 := br.free 4
                          have v5 : _ = some (Value.slice none 0 0) := br.cell 5
                          have z5 := br.free 5
                          have v6 : _ = some (Value.slice none 0 0) := br.cell 6
                          have z6 := br.free 6
                          clear br bd
                          go_wp2
                          refine bodyPost_ret (v := .tuple #[.agg #[.slice Da nda cda, .slice Dt ndt cdt, .slice Dx ndx cdx, .slice Dr ndr cdr, .slice Dn ndn cdn, .slice EA en ec, .slice A10 (nt + mt) c10], .int .i64 0]) (by simp [results, Try.f31, go_sem, v0, v1, v2, v3, v4, v5, v6]) rfl ?_
                          have h9 := hT2.out.h
                          rw [List.take_of_length_le (by rw [LHB.out]; exact Nat.le_refl _)] at h9
                          exact made_partsR (B2 := w7.heap.size) (D := ⟨⟨Da, nda, cda⟩, ⟨Dt, ndt, cdt⟩, ⟨Dx, ndx, cdx⟩, ⟨Dr, ndr, cdr⟩, ⟨Dn, ndn, cdn⟩, ⟨EA, en, ec⟩, ⟨A10, nt + mt, c10⟩⟩) HJ.out hrest.out h9 hT2.out.l (off7 BR.out _ _ _ _ _ _ _) (below7 hT2.out.below (by omega) _ _ _ _ _ _ _)



            · rcases (show 4096 < nt + mt ∨ (nt + mt ≤ 4096 ∧ 64 < nx + mx) ∨ (nt + mt ≤ 4096 ∧ nx + mx ≤ 64 ∧ 1024 < nr + mr) ∨ (nt + mt ≤ 4096 ∧ nx + mx ≤ 64 ∧ nr + mr ≤ 1024 ∧ 2048 < nn + mn) by omega) with hl' | ⟨h1, hl'⟩ | ⟨h1, h2, hl'⟩ | ⟨h1, h2, h3, hl'⟩
              all_goals
                have v0 : _ = some (Value.slice none 0 0) := E4.r.cell 0
                have z0 := E4.r.free 0
                have v1 : _ = some (Value.slice none 0 0) := E4.r.cell 1
                have z1 := E4.r.free 1
                have v2 : _ = some (Value.slice none 0 0) := E4.r.cell 2
                have z2 := E4.r.free 2
                have v3 : _ = some (Value.slice none 0 0) := E4.r.cell 3
                have z3 := E4.r.free 3
                have v4 : _ = some (Value.slice none 0 0) := E4.r.cell 4
                have z4 := E4.r.free 4
                have v5 : _ = some (Value.slice none 0 0) := E4.r.cell 5
                have z5 := E4.r.free 5
                have v6 : _ = some (Value.slice none 0 0) := E4.r.cell 6
                have z6 := E4.r.free 6
                have HE : Hid (Cor.cat a b = (Cor.nil, 2)) := by
                  show _ = _
                  unfold Cor.cat; rw [if_neg (by rw [HVA.out, HVB.out]; simp), if_neg (by rw [HAT.out]; simp), if_neg (by rw [HNF.out]; simp), if_pos (by rw [L1.out, L2.out, L3.out, L4.out, L5.out, L6.out, L7.out, L8.out]; omega)]
                clear hl
                go_wp2
                refine bodyPost_ret (v := .tuple #[nilH.v, .int .i64 2]) (by simp [results, Try.f31, go_sem, v0, v1, v2, v3, v4, v5, v6, nilH]) rfl ⟨nilH, by rw [HE.out]; rfl, by rw [HE.out]; exact reads_nil _ _, ?_⟩
                exact below7 E4.below (by omega) _ _ _ _ _ _ _
end Go.Proofs.Ytaihgoohmcipkaa
