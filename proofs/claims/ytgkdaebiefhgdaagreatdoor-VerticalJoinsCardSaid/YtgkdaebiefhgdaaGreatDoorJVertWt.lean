/-
 The contracts of weight and Weight (the weight, as far as an int tells it) and of chapter 7's heavy. Conditions: none but that a corpus reads as it does.
-/
import Derived.Test.YtgkdaebiefhgdaaGreatDoorJVertJn
import Derived.Test.YtgkdaebiefhgdaaGreatDoorJCorHv
import Derived.Deep.CutRange
import Derived.Deep.CutBlock
import Derived.Deep.RegionHeld3
namespace Go.Proofs.YtgkdaebiefhgdaaGreatDoor
set_option linter.unusedSimpArgs false
set_option linter.unusedVariables false
open Go.RowKit Utf
open Feat (Bs)
open Tagp (KV)
def Md (a b : Int) : Prop := ∃ q : Int, a = b + q * 18446744073709551616
def Wq (s : Int) (n : Nat) : Prop := Md s n ∧ -9223372036854775808 ≤ s ∧ s ≤ 9223372036854775807
theorem Md.refl (a : Int) : Md a a := ⟨0, by omega⟩
theorem Md.add {a b c d : Int} (h : Md a b) (k : Md c d) : Md (a + c) (b + d) := by
 obtain ⟨q, rfl⟩ := h
 obtain ⟨r, rfl⟩ := k
 exact ⟨q + r, by omega⟩
theorem wrap_md (x : Int) : Md (wrap64 x) x := ⟨-((x + 9223372036854775808) / 18446744073709551616), by unfold wrap64; omega⟩
theorem wrap_rg (x : Int) : -9223372036854775808 ≤ wrap64 x ∧ wrap64 x ≤ 9223372036854775807 := by unfold wrap64; omega
theorem Md.wrap {x y : Int} (h : Md x y) : Md (wrap64 x) y := by
 obtain ⟨q, hq⟩ := wrap_md x
 obtain ⟨r, hr⟩ := h
 exact ⟨q + r, by omega⟩
theorem wrapI (x : Int) : IntKind.i64.wrap x = wrap64 x := by rw [IntKind.wrap_i64]; unfold wrap64; rfl
theorem Md.of {x y z : Int} (h : Md x y) (e : y = z) : Md x z := e ▸ h
theorem Wq.wrap {x y : Int} {n : Nat} (h : Md x y) (e : y = n) : Wq (wrap64 x) n := ⟨Md.of h.wrap e, wrap_rg x⟩
theorem take_sum {α : Type} (f : α → Nat) {l : List α} {k : Nat} (h : k < l.length) : ((l.take (k + 1)).map f).sum = ((l.take k).map f).sum + f l[k] := by
 rw [List.take_succ_eq_append_getElem h, List.map_append, List.sum_append]; simp

def IntsW (n : Nat) (w : World) (e : Ending) (w' : World) : Prop := ∃ v : Int, e = .returned (.int .i64 v) ∧ Wq v n ∧ Below w.heap.size w w'

set_option maxRecDepth 100000 in
set_option maxHeartbeats 800000 in
theorem weight_w (A : Option Addr) (n c : Nat) (l : List KV) (w : World) (hx : Keys w w.heap.size ⟨A, n, c⟩ l) :
  Calls Tryz.prog 75 #[.slice A n c] w (IntsW (wtK l) w) := by
 have f1 : n ≤ 9223372036854775807 := hx.1.2
 have HN : Hid (l.length = n) := hx.len
 go_enter Tryz.func75, Tryz.ntmps75
 go_wp2
 go_loopw [10, 3] (fun iv sv wr => ∃ (k : Nat) (s : Int), k ≤ n ∧ iv = .int .i64 k ∧ sv = .int .i64 s ∧ Hid (Wq s (n + ((l.take k).map fun p => p.1.length + p.2.length).sum)) ∧ Below w.heap.size w wr) (fun iv _ _ => n - (intOf iv).toNat)
 case atStart => exact ⟨0, _, Nat.zero_le _, rfl, rfl, ⟨Md.of (Md.refl _) (by simp), by omega, by omega⟩, Below.refl _ _⟩
 case round =>
  obtain ⟨k, s, hk, rfl, rfl, HS, hB⟩ := hrel
  by_cases hlt : k < n
  ·obtain ⟨g, o, hk2, rfl, hg, hl, d0, d1⟩ := (hx.under hB).at_ (k := k) hlt
   have HT := Lib.hid (take_sum (fun p : KV => p.1.length + p.2.length) hk2)
   obtain ⟨⟨x, y⟩, hp⟩ : ∃ p, l[k] = p := ⟨_, rfl⟩
   rw [hp] at d0 d1 HT
   clear hp hl
   have hBa := hB.alloc hB.size (.cells #[str x, str y] 84)
   go_wp2
   go_roundw
   case rel => exact ⟨k + 1, _, by omega, by go_num, rfl, (by show Wq _ _; rw [HT.out]; (try simp only [wrapI]); apply Wq.wrap; (repeat (first | exact HS.out.1 | exact VV.out.1 | apply Md.wrap | apply Md.add | exact Md.refl _)); ((try dsimp only [wtX, wtR]); omega)), hBa⟩
   case measure => simp [intOf]; omega
  ·obtain rfl : k = n := by omega
   go_wp2
   go_ret
   refine ⟨_, rfl, ?_, hB⟩
   have h := HS.out
   have e := HN.out
   rw [List.take_of_length_le (by omega)] at h
   unfold wtK
   rw [e]
   exact h

set_option maxRecDepth 100000 in
set_option maxHeartbeats 4000000 in
theorem weighs_w (H : CH) (c : Cor.C) (w : World) (hr : Reads w w.heap.size H c) : Calls Tryz.prog 33 #[H.v] w (IntsW (wtC c) w) := by
 obtain ⟨⟨Aa, na, ca⟩, ⟨At, nt, ct⟩, ⟨Ax, nx, cx⟩, ⟨Ar, nr, cr⟩, ⟨An, nn, cn⟩, ⟨Ah, nh, ch⟩, ⟨Al, nl, cl⟩⟩ := H
 show Calls Tryz.prog 33 #[.agg #[.slice Aa na ca, .slice At nt ct, .slice Ax nx cx, .slice Ar nr cr, .slice An nn cn, .slice Ah nh ch, .slice Al nl cl]] w _
 have hB0 := (Below.refl w.heap.size w).alloc (Nat.le_refl _) (.cells #[.slice Aa na ca, .slice At nt ct, .slice Ax nx cx, .slice Ar nr cr, .slice An nn cn, .slice Ah nh ch, .slice Al nl cl] 30)
 have b0 := Blk.new w 30 #[.slice Aa na ca, .slice At nt ct, .slice Ax nx cx, .slice Ar nr cr, .slice An nn cn, .slice Ah nh ch, .slice Al nl cl]
 have HR := Lib.hid hr
 have fa : na ≤ 9223372036854775807 := hr.a.1.2
 have ft : nt ≤ 9223372036854775807 := hr.t.fit.2
 have fx : nx ≤ 9223372036854775807 := hr.x.fit.2
 have fr : nr ≤ 9223372036854775807 := hr.r.fit.2
 have fn : nn ≤ 9223372036854775807 := hr.n.1.2
 have fl : nl ≤ 9223372036854775807 := hr.l.1.2
 have HN0 : Hid (c.attrs.length = na) := hr.a.len
 have HN1 : Hid (c.toks.length = nt) := hr.t.len
 have HN2 : Hid (c.texts.length = nx) := hr.x.len
 have HN3 : Hid (c.regs.length = nr) := hr.r.len
 have HN4 : Hid (c.nods.length = nn) := hr.n.len
 have HNh : Hid (c.heads.length = nh) := hr.h.len
 have HN5 : Hid (c.rels.length = nl) := hr.l.len
 clear hr
 go_enter Tryz.func33, Tryz.ntmps33
 go_upto_region 1 with (fail)
 go_cut [3] from 18 (fun sv wr => ∃ s : Int, sv = .int .i64 s ∧ Hid (Wq s (c.attrs.length + c.heads.length)) ∧ Below w.heap.size w wr ∧ Blk wr w.heap.size 30 #[.slice Aa na ca, .slice At nt ct, .slice Ax nx cx, .slice Ar nr cr, .slice An nn cn, .slice Ah nh ch, .slice Al nl cl])
 case first =>
  go_wp2
  go_meet
  case rel => exact ⟨_, rfl, (by show Wq _ _; apply Wq.wrap; (repeat (first | apply Md.wrap | apply Md.add | exact Md.refl _)); (rw [HN0.out, HNh.out]; omega)), hB0, b0⟩
 case rest =>
  clear hB0 b0
  obtain ⟨s0, rfl, HS0, hB0, b0⟩ := hcut
  have q0 : _ = some (Value.slice Aa na ca) := b0.cell 0
  go_upto_block 0 with (fail)
  go_cut [3] from 18 (fun sv wr => ∃ s : Int, sv = .int .i64 s ∧ Hid (Wq s (c.attrs.length + c.heads.length + (c.attrs.map (fun a => a.1.length)).sum)) ∧ Below w.heap.size w wr ∧ Blk wr w.heap.size 30 #[.slice Aa na ca, .slice At nt ct, .slice Ax nx cx, .slice Ar nr cr, .slice An nn cn, .slice Ah nh ch, .slice Al nl cl])
  case first =>
   go_wp2
   go_loopw [28, 3] (fun iv sv wr => ∃ k : Nat, k ≤ na ∧ iv = .int .i64 k ∧ ∃ s : Int, sv = .int .i64 s ∧ Hid (Wq s (c.attrs.length + c.heads.length + ((c.attrs.take k).map (fun a => a.1.length)).sum)) ∧ Below w.heap.size w wr ∧ Blk wr w.heap.size 30 #[.slice Aa na ca, .slice At nt ct, .slice Ax nx cx, .slice Ar nr cr, .slice An nn cn, .slice Ah nh ch, .slice Al nl cl]) (fun iv _ _ => na - (intOf iv).toNat)
   case atStart => exact ⟨0, Nat.zero_le _, rfl, _, rfl, HS0, hB0, b0⟩
   case round =>
    obtain ⟨k, hk, rfl, s, rfl, HS, hB, hb⟩ := hrel
    by_cases hlt : k < na
    ·obtain ⟨g, o, hk2, rfl, hg, hl, d0, d1⟩ := (HR.out.a.under hB).at_ (k := k) hlt
     have HT := Lib.hid (take_sum (fun a : Bs × Bool => a.1.length) hk2)
     obtain ⟨⟨x, y⟩, hp⟩ : ∃ p, c.attrs[k] = p := ⟨_, rfl⟩
     rw [hp] at d0 d1 HT
     clear hp hl
     have hBa := hB.alloc hB.size (.cells #[str x, .bool y] 73)
     have hba := hb.alloc (.cells #[str x, .bool y] 73)
     go_wp2
     go_roundw
     case rel => exact ⟨k + 1, by omega, by go_num, _, rfl, (by show Wq _ _; rw [HT.out]; (try simp only [wrapI]); apply Wq.wrap; (repeat (first | exact HS.out.1 | exact VV.out.1 | apply Md.wrap | apply Md.add | exact Md.refl _)); ((try dsimp only [wtX, wtR]); omega)), hBa, hba⟩
     case measure => simp [intOf]; omega
    ·obtain rfl : k = na := by omega
     go_wp2
     go_meet
     case rel => exact ⟨_, rfl, (by have h := HS.out; rw [List.take_of_length_le (by rw [HN0.out]; exact Nat.le_refl _)] at h; exact h), hB, hb⟩
  case rest =>
   clear q0 HS0 hB0 b0
   obtain ⟨s0, rfl, HS0, hB0, b0⟩ := hcut
   have q0 : _ = some (Value.slice At nt ct) := b0.cell 1
   go_upto_block 2 with (fail)
   go_cut [3] from 18 (fun sv wr => ∃ s : Int, sv = .int .i64 s ∧ Hid (Wq s (c.attrs.length + c.heads.length + (c.attrs.map (fun a => a.1.length)).sum + (c.toks.map wtT).sum)) ∧ Below w.heap.size w wr ∧ Blk wr w.heap.size 30 #[.slice Aa na ca, .slice At nt ct, .slice Ax nx cx, .slice Ar nr cr, .slice An nn cn, .slice Ah nh ch, .slice Al nl cl])
   case first =>
    go_wp2
    go_loopw [41, 3] (fun iv sv wr => ∃ k : Nat, k ≤ nt ∧ iv = .int .i64 k ∧ ∃ s : Int, sv = .int .i64 s ∧ Hid (Wq s (c.attrs.length + c.heads.length + (c.attrs.map (fun a => a.1.length)).sum + ((c.toks.take k).map wtT).sum)) ∧ Below w.heap.size w wr ∧ Blk wr w.heap.size 30 #[.slice Aa na ca, .slice At nt ct, .slice Ax nx cx, .slice Ar nr cr, .slice An nn cn, .slice Ah nh ch, .slice Al nl cl]) (fun iv _ _ => nt - (intOf iv).toNat)
    case atStart => exact ⟨0, Nat.zero_le _, rfl, _, rfl, HS0, hB0, b0⟩
    case round =>
     obtain ⟨k, hk, rfl, s, rfl, HS, hB, hb⟩ := hrel
     by_cases hlt : k < nt
     ·obtain ⟨g, o, ⟨Ak, nk, ck⟩, hk2, rfl, hg, hw, d0⟩ := HR.out.t.at_ (k := k) hlt
      replace d0 := (hB.cell (p := ⟨g, _, none⟩) hg).trans d0
      have fk : nk ≤ 9223372036854775807 := hw.1.2
      have HW := Lib.hid hw
      have HNk : Hid (c.toks[k].length = nk) := hw.len
      have HT := Lib.hid (take_sum wtT hk2)
      clear hw
      go_wp2
      clear d0
      go_loopw [49, 3] (fun jv sv wr => ∃ j : Nat, j ≤ nk ∧ jv = .int .i64 j ∧ ∃ s : Int, sv = .int .i64 s ∧ Hid (Wq s (c.attrs.length + c.heads.length + (c.attrs.map (fun a => a.1.length)).sum + ((c.toks.take k).map wtT).sum + 1 + ((c.toks[k].take j).map (fun v => 1 + v.length)).sum)) ∧ Below w.heap.size w wr ∧ Blk wr w.heap.size 30 #[.slice Aa na ca, .slice (some ⟨g, o, none⟩) nt ct, .slice Ax nx cx, .slice Ar nr cr, .slice An nn cn, .slice Ah nh ch, .slice Al nl cl]) (fun jv _ _ => nk - (intOf jv).toNat)
      case atStart => exact ⟨0, Nat.zero_le _, rfl, _, rfl, (by show Wq _ _; apply Wq.wrap; (repeat (first | exact HS.out.1 | apply Md.wrap | apply Md.add | exact Md.refl _)); (simp only [List.take_zero, List.map_nil, List.sum_nil]; omega)), hB, hb⟩
      case round =>
       obtain ⟨j, hj, rfl, s2, rfl, HS2, hB2, hb2⟩ := hrel
       by_cases hlt2 : j < nk
       ·obtain ⟨g2, o2, hk3, rfl, hg2, hl2, e0⟩ := (HW.out.under hB2).at_ (k := j) hlt2
        have HT2 := Lib.hid (take_sum (fun v : Bs => 1 + v.length) hk3)
        obtain ⟨x, hp⟩ : ∃ p, c.toks[k][j] = p := ⟨_, rfl⟩
        rw [hp] at e0 HT2
        clear hp hl2
        go_wp2
        go_roundw
        case rel => exact ⟨j + 1, by omega, by go_num, _, rfl, (by show Wq _ _; rw [HT2.out]; (try simp only [wrapI]); apply Wq.wrap; (repeat (first | exact HS2.out.1 | exact VV.out.1 | apply Md.wrap | apply Md.add | exact Md.refl _)); ((try dsimp only [wtX, wtR]); omega)), hB2, hb2⟩
        case measure => simp [intOf]; omega
       ·obtain rfl : j = nk := by omega
        go_wp2
        go_roundw
        case rel => exact ⟨k + 1, by omega, by go_num, _, rfl, (by have h := HS2.out; rw [List.take_of_length_le (l := c.toks[k]) (by rw [HNk.out]; exact Nat.le_refl _)] at h; show Wq _ _; rw [HT.out]; have e : wtT c.toks[k] = 1 + ((c.toks[k]).map (fun v => 1 + v.length)).sum := rfl; exact Eq.mp (congrArg (Wq s2) (by omega)) h), hB2, hb2⟩
        case measure => simp [intOf]; omega
     ·obtain rfl : k = nt := by omega
      go_wp2
      go_meet
      case rel => exact ⟨_, rfl, (by have h := HS.out; rw [List.take_of_length_le (by rw [HN1.out]; exact Nat.le_refl _)] at h; exact h), hB, hb⟩
   case rest =>
    clear q0 HS0 hB0 b0
    obtain ⟨s0, rfl, HS0, hB0, b0⟩ := hcut
    have q0 : _ = some (Value.slice Ax nx cx) := b0.cell 2
    go_upto_block 6 with (fail)
    go_cut [3] from 18 (fun sv wr => ∃ s : Int, sv = .int .i64 s ∧ Hid (Wq s (c.attrs.length + c.heads.length + (c.attrs.map (fun a => a.1.length)).sum + (c.toks.map wtT).sum + (c.texts.map wtX).sum)) ∧ Below w.heap.size w wr ∧ Blk wr w.heap.size 30 #[.slice Aa na ca, .slice At nt ct, .slice Ax nx cx, .slice Ar nr cr, .slice An nn cn, .slice Ah nh ch, .slice Al nl cl])
    case first =>
     go_wp2
     go_loopw [63, 3] (fun iv sv wr => ∃ k : Nat, k ≤ nx ∧ iv = .int .i64 k ∧ ∃ s : Int, sv = .int .i64 s ∧ Hid (Wq s (c.attrs.length + c.heads.length + (c.attrs.map (fun a => a.1.length)).sum + (c.toks.map wtT).sum + ((c.texts.take k).map wtX).sum)) ∧ Below w.heap.size w wr ∧ Blk wr w.heap.size 30 #[.slice Aa na ca, .slice At nt ct, .slice Ax nx cx, .slice Ar nr cr, .slice An nn cn, .slice Ah nh ch, .slice Al nl cl]) (fun iv _ _ => nx - (intOf iv).toNat)
     case atStart => exact ⟨0, Nat.zero_le _, rfl, _, rfl, HS0, hB0, b0⟩
     case round =>
      obtain ⟨k, hk, rfl, s, rfl, HS, hB, hb⟩ := hrel
      by_cases hlt : k < nx
      ·obtain ⟨g, o, ⟨Ak, nk, ck⟩, hk2, rfl, hg, hto, d0, d1, d2, d3⟩ := HR.out.x.at_ (k := k) hlt
       replace d0 := (hB.cell (p := ⟨g, _, none⟩) hg).trans d0
       replace d1 := (hB.cell (p := ⟨g, _, none⟩) hg).trans d1
       replace d2 := (hB.cell (p := ⟨g, _, none⟩) hg).trans d2
       replace d3 := (hB.cell (p := ⟨g, _, none⟩) hg).trans d3
       have HT := Lib.hid (take_sum wtX hk2)
       obtain ⟨⟨x, b, e, ks⟩, hp⟩ : ∃ p, c.texts[k] = p := ⟨_, rfl⟩
       rw [hp] at d0 d1 d2 hto HT
       simp only [] at d0 d1 d2
       have hB1 := (hB.alloc hB.size (.cells #[str x, .int .i64 b, .int .i64 e, .slice Ak nk ck] 66)).drew
       have CC := Lib.hid (weight_w Ak nk ck ks (wr.alloc (.cells #[str x, .int .i64 b, .int .i64 e, .slice Ak nk ck] 66)).drew ((hto.2.2.2.under hB1).up hB1.size))
       have hb1 := hb.alloc (.cells #[str x, .int .i64 b, .int .i64 e, .slice Ak nk ck] 66)
       have bx := Blk.new wr 66 #[str x, .int .i64 b, .int .i64 e, .slice Ak nk ck]
       have x0 : (wr.alloc (.cells #[str x, .int .i64 b, .int .i64 e, .slice Ak nk ck] 66)).drew.cell? ⟨wr.heap.size, 0, none⟩ = some (str x) := bx.cell 0
       have x3 : (wr.alloc (.cells #[str x, .int .i64 b, .int .i64 e, .slice Ak nk ck] 66)).drew.cell? ⟨wr.heap.size, 3, none⟩ = some (.slice Ak nk ck) := bx.cell 3
       have hbD : Below (wr.alloc (.cells #[str x, .int .i64 b, .int .i64 e, .slice Ak nk ck] 66)).heap.size (wr.alloc (.cells #[str x, .int .i64 b, .int .i64 e, .slice Ak nk ck] 66)) (wr.alloc (.cells #[str x, .int .i64 b, .int .i64 e, .slice Ak nk ck] 66)).drew := (Below.refl _ _).drew
       have HB1 := Lib.hid hB1
       clear hp hto hB1
       go_upto_region 20 with (fail)
       go_region_held3 (fun W => W.cell? ⟨wr.heap.size, 0, none⟩ = some (str x) ∧ W.cell? ⟨wr.heap.size, 3, none⟩ = some (.slice Ak nk ck)) (first | (with_reducible exact ⟨x0, x3⟩) | (with_reducible exact HX) | go_keep) (first | (go_at_call 75; refine CC.out.mono ?_; rintro e' w6 ⟨vv, rfl, hv6, hb6⟩; have VV := Lib.hid hv6; clear hv6; have hb7 := hbD.trans (hb6.mono hbD.size); have hx6 := bx.below hb7; have HX := And.intro (hx6.cell 0) (hx6.cell 3)))
       have hBa := HB1.out.trans (hb6.mono HB1.out.size)
       have hba := hb1.below hb7
       go_wp2
       go_roundw
       case rel => exact ⟨k + 1, by omega, by go_num, _, rfl, (by show Wq _ _; rw [HT.out]; (try simp only [wrapI]); apply Wq.wrap; (repeat (first | exact HS.out.1 | exact VV.out.1 | apply Md.wrap | apply Md.add | exact Md.refl _)); ((try dsimp only [wtX, wtR]); omega)), hBa, hba⟩
       case measure => simp [intOf]; omega
      ·obtain rfl : k = nx := by omega
       go_wp2
       go_meet
       case rel => exact ⟨_, rfl, (by have h := HS.out; rw [List.take_of_length_le (by rw [HN2.out]; exact Nat.le_refl _)] at h; exact h), hB, hb⟩
    case rest =>
     clear q0 HS0 hB0 b0
     obtain ⟨s0, rfl, HS0, hB0, b0⟩ := hcut
     have q0 : _ = some (Value.slice Ar nr cr) := b0.cell 3
     go_upto_block 8 with (fail)
     go_cut [3] from 18 (fun sv wr => ∃ s : Int, sv = .int .i64 s ∧ Hid (Wq s (c.attrs.length + c.heads.length + (c.attrs.map (fun a => a.1.length)).sum + (c.toks.map wtT).sum + (c.texts.map wtX).sum + (c.regs.map wtR).sum)) ∧ Below w.heap.size w wr ∧ Blk wr w.heap.size 30 #[.slice Aa na ca, .slice At nt ct, .slice Ax nx cx, .slice Ar nr cr, .slice An nn cn, .slice Ah nh ch, .slice Al nl cl])
     case first =>
      go_wp2
      go_loopw [81, 3] (fun iv sv wr => ∃ k : Nat, k ≤ nr ∧ iv = .int .i64 k ∧ ∃ s : Int, sv = .int .i64 s ∧ Hid (Wq s (c.attrs.length + c.heads.length + (c.attrs.map (fun a => a.1.length)).sum + (c.toks.map wtT).sum + (c.texts.map wtX).sum + ((c.regs.take k).map wtR).sum)) ∧ Below w.heap.size w wr ∧ Blk wr w.heap.size 30 #[.slice Aa na ca, .slice At nt ct, .slice Ax nx cx, .slice Ar nr cr, .slice An nn cn, .slice Ah nh ch, .slice Al nl cl]) (fun iv _ _ => nr - (intOf iv).toNat)
      case atStart => exact ⟨0, Nat.zero_le _, rfl, _, rfl, HS0, hB0, b0⟩
      case round =>
       obtain ⟨k, hk, rfl, s, rfl, HS, hB, hb⟩ := hrel
       by_cases hlt : k < nr
       ·obtain ⟨g, o, ⟨Ak, nk, ck⟩, hk2, rfl, hg, hto, d0, d1, d2, d3⟩ := HR.out.r.at_ (k := k) hlt
        replace d0 := (hB.cell (p := ⟨g, _, none⟩) hg).trans d0
        replace d1 := (hB.cell (p := ⟨g, _, none⟩) hg).trans d1
        replace d2 := (hB.cell (p := ⟨g, _, none⟩) hg).trans d2
        replace d3 := (hB.cell (p := ⟨g, _, none⟩) hg).trans d3
        have HT := Lib.hid (take_sum wtR hk2)
        obtain ⟨⟨x, b, e, ks⟩, hp⟩ : ∃ p, c.regs[k] = p := ⟨_, rfl⟩
        rw [hp] at d0 d1 d2 hto HT
        simp only [] at d0 d1 d2
        have hB1 := (hB.alloc hB.size (.cells #[str x, .int .i64 b, .int .i64 e, .slice Ak nk ck] 69)).drew
        have CC := Lib.hid (weight_w Ak nk ck ks (wr.alloc (.cells #[str x, .int .i64 b, .int .i64 e, .slice Ak nk ck] 69)).drew ((hto.2.2.2.under hB1).up hB1.size))
        have hb1 := hb.alloc (.cells #[str x, .int .i64 b, .int .i64 e, .slice Ak nk ck] 69)
        have bx := Blk.new wr 69 #[str x, .int .i64 b, .int .i64 e, .slice Ak nk ck]
        have x0 : (wr.alloc (.cells #[str x, .int .i64 b, .int .i64 e, .slice Ak nk ck] 69)).drew.cell? ⟨wr.heap.size, 0, none⟩ = some (str x) := bx.cell 0
        have x3 : (wr.alloc (.cells #[str x, .int .i64 b, .int .i64 e, .slice Ak nk ck] 69)).drew.cell? ⟨wr.heap.size, 3, none⟩ = some (.slice Ak nk ck) := bx.cell 3
        have hbD : Below (wr.alloc (.cells #[str x, .int .i64 b, .int .i64 e, .slice Ak nk ck] 69)).heap.size (wr.alloc (.cells #[str x, .int .i64 b, .int .i64 e, .slice Ak nk ck] 69)) (wr.alloc (.cells #[str x, .int .i64 b, .int .i64 e, .slice Ak nk ck] 69)).drew := (Below.refl _ _).drew
        have HB1 := Lib.hid hB1
        clear hp hto hB1
        go_upto_region 25 with (fail)
        go_region_held3 (fun W => W.cell? ⟨wr.heap.size, 0, none⟩ = some (str x) ∧ W.cell? ⟨wr.heap.size, 3, none⟩ = some (.slice Ak nk ck)) (first | (with_reducible exact ⟨x0, x3⟩) | (with_reducible exact HX) | go_keep) (first | (go_at_call 75; refine CC.out.mono ?_; rintro e' w6 ⟨vv, rfl, hv6, hb6⟩; have VV := Lib.hid hv6; clear hv6; have hb7 := hbD.trans (hb6.mono hbD.size); have hx6 := bx.below hb7; have HX := And.intro (hx6.cell 0) (hx6.cell 3)))
        have hBa := HB1.out.trans (hb6.mono HB1.out.size)
        have hba := hb1.below hb7
        go_wp2
        go_roundw
        case rel => exact ⟨k + 1, by omega, by go_num, _, rfl, (by show Wq _ _; rw [HT.out]; (try simp only [wrapI]); apply Wq.wrap; (repeat (first | exact HS.out.1 | exact VV.out.1 | apply Md.wrap | apply Md.add | exact Md.refl _)); ((try dsimp only [wtX, wtR]); omega)), hBa, hba⟩
        case measure => simp [intOf]; omega
       ·obtain rfl : k = nr := by omega
        go_wp2
        go_meet
        case rel => exact ⟨_, rfl, (by have h := HS.out; rw [List.take_of_length_le (by rw [HN3.out]; exact Nat.le_refl _)] at h; exact h), hB, hb⟩
     case rest =>
      clear q0 HS0 hB0 b0
      obtain ⟨s0, rfl, HS0, hB0, b0⟩ := hcut
      have q0 : _ = some (Value.slice An nn cn) := b0.cell 4
      go_upto_block 10 with (fail)
      go_cut [3] from 18 (fun sv wr => ∃ s : Int, sv = .int .i64 s ∧ Hid (Wq s (c.attrs.length + c.heads.length + (c.attrs.map (fun a => a.1.length)).sum + (c.toks.map wtT).sum + (c.texts.map wtX).sum + (c.regs.map wtR).sum + (c.nods.map (fun x => 1 + x.lb.length)).sum)) ∧ Below w.heap.size w wr ∧ Blk wr w.heap.size 30 #[.slice Aa na ca, .slice At nt ct, .slice Ax nx cx, .slice Ar nr cr, .slice An nn cn, .slice Ah nh ch, .slice Al nl cl])
      case first =>
       go_wp2
       go_loopw [99, 3] (fun iv sv wr => ∃ k : Nat, k ≤ nn ∧ iv = .int .i64 k ∧ ∃ s : Int, sv = .int .i64 s ∧ Hid (Wq s (c.attrs.length + c.heads.length + (c.attrs.map (fun a => a.1.length)).sum + (c.toks.map wtT).sum + (c.texts.map wtX).sum + (c.regs.map wtR).sum + ((c.nods.take k).map (fun x => 1 + x.lb.length)).sum)) ∧ Below w.heap.size w wr ∧ Blk wr w.heap.size 30 #[.slice Aa na ca, .slice At nt ct, .slice Ax nx cx, .slice Ar nr cr, .slice An nn cn, .slice Ah nh ch, .slice Al nl cl]) (fun iv _ _ => nn - (intOf iv).toNat)
       case atStart => exact ⟨0, Nat.zero_le _, rfl, _, rfl, HS0, hB0, b0⟩
       case round =>
        obtain ⟨k, hk, rfl, s, rfl, HS, hB, hb⟩ := hrel
        by_cases hlt : k < nn
        ·obtain ⟨g, o, hk2, rfl, hg, hl, d0, d1, d2, d3⟩ := (HR.out.n.under hB).at_ (k := k) hlt
         have HT := Lib.hid (take_sum (fun x : Cor.Nod => 1 + x.lb.length) hk2)
         obtain ⟨⟨x, b, e, p⟩, hp⟩ : ∃ p, c.nods[k] = p := ⟨_, rfl⟩
         rw [hp] at d0 d1 d2 d3 HT
         simp only [] at d0 d1 d2 d3
         clear hp hl
         have hBa := hB.alloc hB.size (.cells #[str x, .int .i64 b, .int .i64 e, .int .i64 p] 71)
         have hba := hb.alloc (.cells #[str x, .int .i64 b, .int .i64 e, .int .i64 p] 71)
         go_wp2
         go_roundw
         case rel => exact ⟨k + 1, by omega, by go_num, _, rfl, (by show Wq _ _; rw [HT.out]; (try simp only [wrapI]); apply Wq.wrap; (repeat (first | exact HS.out.1 | exact VV.out.1 | apply Md.wrap | apply Md.add | exact Md.refl _)); ((try dsimp only [wtX, wtR]); omega)), hBa, hba⟩
         case measure => simp [intOf]; omega
        ·obtain rfl : k = nn := by omega
         go_wp2
         go_meet
         case rel => exact ⟨_, rfl, (by have h := HS.out; rw [List.take_of_length_le (by rw [HN4.out]; exact Nat.le_refl _)] at h; exact h), hB, hb⟩
      case rest =>
       clear q0 HS0 hB0 b0
       obtain ⟨s0, rfl, HS0, hB0, b0⟩ := hcut
       have q0 : _ = some (Value.slice Al nl cl) := b0.cell 6
       go_upto_block 12 with (fail)
       go_cut [3] from 18 (fun sv wr => ∃ s : Int, sv = .int .i64 s ∧ Hid (Wq s (c.attrs.length + c.heads.length + (c.attrs.map (fun a => a.1.length)).sum + (c.toks.map wtT).sum + (c.texts.map wtX).sum + (c.regs.map wtR).sum + (c.nods.map (fun x => 1 + x.lb.length)).sum + (c.rels.map (fun s => 1 + s.length)).sum)) ∧ Below w.heap.size w wr ∧ Blk wr w.heap.size 30 #[.slice Aa na ca, .slice At nt ct, .slice Ax nx cx, .slice Ar nr cr, .slice An nn cn, .slice Ah nh ch, .slice Al nl cl])
       case first =>
        go_wp2
        go_loopw [113, 3] (fun iv sv wr => ∃ k : Nat, k ≤ nl ∧ iv = .int .i64 k ∧ ∃ s : Int, sv = .int .i64 s ∧ Hid (Wq s (c.attrs.length + c.heads.length + (c.attrs.map (fun a => a.1.length)).sum + (c.toks.map wtT).sum + (c.texts.map wtX).sum + (c.regs.map wtR).sum + (c.nods.map (fun x => 1 + x.lb.length)).sum + ((c.rels.take k).map (fun s => 1 + s.length)).sum)) ∧ Below w.heap.size w wr ∧ Blk wr w.heap.size 30 #[.slice Aa na ca, .slice At nt ct, .slice Ax nx cx, .slice Ar nr cr, .slice An nn cn, .slice Ah nh ch, .slice Al nl cl]) (fun iv _ _ => nl - (intOf iv).toNat)
        case atStart => exact ⟨0, Nat.zero_le _, rfl, _, rfl, HS0, hB0, b0⟩
        case round =>
         obtain ⟨k, hk, rfl, s, rfl, HS, hB, hb⟩ := hrel
         by_cases hlt : k < nl
         ·obtain ⟨g, o, hk2, rfl, hg, hl, d0⟩ := (HR.out.l.under hB).at_ (k := k) hlt
          have HT := Lib.hid (take_sum (fun s : Bs => 1 + s.length) hk2)
          obtain ⟨x, hp⟩ : ∃ p, c.rels[k] = p := ⟨_, rfl⟩
          rw [hp] at d0 HT
          clear hp hl
          have hBa := hB
          have hba := hb
          go_wp2
          go_roundw
          case rel => exact ⟨k + 1, by omega, by go_num, _, rfl, (by show Wq _ _; rw [HT.out]; (try simp only [wrapI]); apply Wq.wrap; (repeat (first | exact HS.out.1 | exact VV.out.1 | apply Md.wrap | apply Md.add | exact Md.refl _)); ((try dsimp only [wtX, wtR]); omega)), hBa, hba⟩
          case measure => simp [intOf]; omega
         ·obtain rfl : k = nl := by omega
          go_wp2
          go_meet
          case rel => exact ⟨_, rfl, (by have h := HS.out; rw [List.take_of_length_le (by rw [HN5.out]; exact Nat.le_refl _)] at h; exact h), hB, hb⟩
       case rest =>
        clear q0 HS0 hB0 b0
        obtain ⟨s0, rfl, HS0, hB0, b0⟩ := hcut
        go_wp2
        go_ret
        exact ⟨_, rfl, HS0.out, hB0⟩

def LightC (c : Cor.C) : Prop := c.toks.length ≤ 300 ∧ c.texts.length ≤ 70 ∧ c.regs.length ≤ 200 ∧ ∃ s : Int, Wq s (wtC c) ∧ s ≤ 5000
def HvW (c : Cor.C) (w : World) (e : Ending) (w' : World) : Prop := ∃ b : Bool, e = .returned (.bool b) ∧ (b = false → LightC c) ∧ Below w.heap.size w w'
set_option maxRecDepth 100000 in
set_option maxHeartbeats 4000000 in
theorem vheavy_w (H : CH) (c : Cor.C) (w : World) (hr : Reads w w.heap.size H c) :
  Calls Tryz.prog 13 #[H.v] w (HvW c w) := by
 obtain ⟨⟨Aa, na, ca⟩, ⟨At, nt, ct⟩, ⟨Ax, nx, cx⟩, ⟨Ar, nr, cr⟩, ⟨An, nn, cn⟩, ⟨Ah, nh, ch⟩, ⟨Al, nl, cl⟩⟩ := H
 show Calls Tryz.prog 13 #[.agg #[.slice Aa na ca, .slice At nt ct, .slice Ax nx cx, .slice Ar nr cr, .slice An nn cn, .slice Ah nh ch, .slice Al nl cl]] w _
 have hBa := (Below.refl w.heap.size w).alloc (Nat.le_refl _) (.cells #[.slice Aa na ca, .slice At nt ct, .slice Ax nx cx, .slice Ar nr cr, .slice An nn cn, .slice Ah nh ch, .slice Al nl cl] 30)
 have hC := Blk.new w 30 #[.slice Aa na ca, .slice At nt ct, .slice Ax nx cx, .slice Ar nr cr, .slice An nn cn, .slice Ah nh ch, .slice Al nl cl]
 have q0 := hC.cell 0
 have q1 := hC.cell 1
 have q2 := hC.cell 2
 have q3 := hC.cell 3
 have q4 := hC.cell 4
 have q5 := hC.cell 5
 have q6 := hC.cell 6
 have CC := Lib.hid (weighs_w ⟨⟨Aa, na, ca⟩, ⟨At, nt, ct⟩, ⟨Ax, nx, cx⟩, ⟨Ar, nr, cr⟩, ⟨An, nn, cn⟩, ⟨Ah, nh, ch⟩, ⟨Al, nl, cl⟩⟩ c _ ((hr.under hBa).up hBa.size))
 have ft : nt ≤ 9223372036854775807 := hr.t.fit.2
 have fx : nx ≤ 9223372036854775807 := hr.x.fit.2
 have fr : nr ≤ 9223372036854775807 := hr.r.fit.2
 have fn : nn ≤ 9223372036854775807 := hr.n.1.2
 have fa : na ≤ 9223372036854775807 := hr.a.1.2
 have HN1 : Hid (c.toks.length = nt) := hr.t.len
 have HN2 : Hid (c.texts.length = nx) := hr.x.len
 have HN3 : Hid (c.regs.length = nr) := hr.r.len
 clear hC hr
 by_cases c1 : 300 < nt
 ·go_enter Tryz.func13, Tryz.ntmps13
  go_wp2
  go_ret
  exact ⟨true, rfl, (fun h => by cases h), hBa⟩
 by_cases c2 : 70 < nx
 ·go_enter Tryz.func13, Tryz.ntmps13
  go_wp2
  go_ret
  exact ⟨true, rfl, (fun h => by cases h), hBa⟩
 by_cases c3 : 200 < nr
 ·go_enter Tryz.func13, Tryz.ntmps13
  go_wp2
  go_ret
  exact ⟨true, rfl, (fun h => by cases h), hBa⟩
 by_cases c4 : 10 < na
 ·go_enter Tryz.func13, Tryz.ntmps13
  go_wp2
  go_ret
  exact ⟨true, rfl, (fun h => by cases h), hBa⟩
 go_enter Tryz.func13, Tryz.ntmps13
 go_wp2_with (go_at_call 33; refine CC.out.mono ?_; rintro e' w6 ⟨vv, rfl, hv6, hb6⟩; have hB6 := hBa.trans (hb6.mono hBa.size); have VV := Lib.hid hv6; clear hv6)
 go_ret
 refine ⟨_, rfl, fun h => ?_, hB6⟩
 have h : vv ≤ 5000 := by simp at h; omega
 exact ⟨by rw [HN1.out]; omega, by rw [HN2.out]; omega, by rw [HN3.out]; omega, vv, VV.out, h⟩
end Go.Proofs.YtgkdaebiefhgdaaGreatDoor
