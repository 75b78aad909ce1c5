/-
  Several texts of this seat, one behind the other: CorHeavy, VertHv. No conditions but those of each.
-/
import Derived.Test.YtgkdaebiefhgdaaGreatDoorFCorAtx
import Derived.Deep.CutRange
import Derived.Deep.CutBlock
import Derived.Deep.RegionHeld3
import Derived.Test.YtgkdaebiefhgdaaGreatDoorFCorExP
namespace Go.Proofs.YtgkdaebiefhgdaaGreatDoor
open Go.RowKit Utf
open Feat (Bs)
open Tagp (KV)
/-- Some int, some bool. -/
def Ints6 (w : World) (e : Ending) (w' : World) : Prop := ∃ v : Int, e = .returned (.int .i64 v) ∧ Below w.heap.size w w'
def Bools6 (w : World) (e : Ending) (w' : World) : Prop := ∃ b, e = .returned (.bool b) ∧ Below w.heap.size w w'

set_option maxRecDepth 100000 in
set_option maxHeartbeats 800000 in
theorem weight_any (A : Option Addr) (n c : Nat) (l : List KV) (w : World) (hx : Keys w w.heap.size ⟨A, n, c⟩ l) :
    Calls Tryz.prog 75 #[.slice A n c] w (Ints6 w) := by
  have f1 : n ≤ 9223372036854775807 := hx.1.2
  go_enter Tryz.func75, Tryz.ntmps75
  go_wp2
  go_loopw [10, 3] (fun iv sv wr => ∃ (k : Nat) (s : Int), k ≤ n ∧ iv = .int .i64 k ∧ sv = .int .i64 s ∧ Below w.heap.size w wr) (fun iv _ _ => n - (intOf iv).toNat)
  case atStart => exact ⟨0, _, Nat.zero_le _, rfl, rfl, Below.refl _ _⟩
  case round =>
    obtain ⟨k, s, hk, rfl, rfl, hB⟩ := hrel
    by_cases hlt : k < n
    · obtain ⟨g, o, hk2, rfl, hg, hl, d0, d1⟩ := (hx.under hB).at_ (k := k) hlt
      obtain ⟨⟨x, y⟩, hp⟩ : ∃ p, l[k] = p := ⟨_, rfl⟩
      rw [hp] at d0 d1
      clear hp hl
      have hBa := hB.alloc hB.size (.cells #[str x, str y] 84)
      go_wp2
      go_roundw
      case rel => exact ⟨k + 1, _, by omega, by go_num, rfl, hBa⟩
      case measure => simp [intOf]; omega
    · go_wp2
      go_ret
      exact ⟨_, rfl, hB⟩

set_option maxRecDepth 100000 in
set_option maxHeartbeats 4000000 in
theorem weighs_any (H : CH) (c : Cor.C) (w : World) (hr : Reads w w.heap.size H c) : Calls Tryz.prog 33 #[H.v] w (Ints6 w) := by
  obtain ⟨⟨Aa, na, ca⟩, ⟨At, nt, ct⟩, ⟨Ax, nx, cx⟩, ⟨Ar, nr, cr⟩, ⟨An, nn, cn⟩, ⟨Ah, nh, ch⟩, ⟨Al, nl, cl⟩⟩ := H
  show Calls Tryz.prog 33 #[.agg #[.slice Aa na ca, .slice At nt ct, .slice Ax nx cx, .slice Ar nr cr, .slice An nn cn, .slice Ah nh ch, .slice Al nl cl]] w _
  have hB0 := (Below.refl w.heap.size w).alloc (Nat.le_refl _) (.cells #[.slice Aa na ca, .slice At nt ct, .slice Ax nx cx, .slice Ar nr cr, .slice An nn cn, .slice Ah nh ch, .slice Al nl cl] 30)
  have b0 := Blk.new w 30 #[.slice Aa na ca, .slice At nt ct, .slice Ax nx cx, .slice Ar nr cr, .slice An nn cn, .slice Ah nh ch, .slice Al nl cl]
  have HR := Lib.hid hr
  have fa : na ≤ 9223372036854775807 := hr.a.1.2
  have ft : nt ≤ 9223372036854775807 := hr.t.fit.2
  have fx : nx ≤ 9223372036854775807 := hr.x.fit.2
  have fr : nr ≤ 9223372036854775807 := hr.r.fit.2
  have fn : nn ≤ 9223372036854775807 := hr.n.1.2
  have fl : nl ≤ 9223372036854775807 := hr.l.1.2
  clear hr
  go_enter Tryz.func33, Tryz.ntmps33
  go_upto_region 1 with (fail)
  go_cut [3] from 18 (fun sv wr => ∃ s : Int, sv = .int .i64 s ∧ Below w.heap.size w wr ∧ Blk wr w.heap.size 30 #[.slice Aa na ca, .slice At nt ct, .slice Ax nx cx, .slice Ar nr cr, .slice An nn cn, .slice Ah nh ch, .slice Al nl cl])
  case first =>
    go_wp2
    go_meet
    case rel => exact ⟨_, rfl, hB0, b0⟩
  case rest =>
    clear hB0 b0
    obtain ⟨s0, rfl, hB0, b0⟩ := hcut
    have q0 : _ = some (Value.slice Aa na ca) := b0.cell 0
    go_upto_block 0 with (fail)
    go_cut [3] from 18 (fun sv wr => ∃ s : Int, sv = .int .i64 s ∧ Below w.heap.size w wr ∧ Blk wr w.heap.size 30 #[.slice Aa na ca, .slice At nt ct, .slice Ax nx cx, .slice Ar nr cr, .slice An nn cn, .slice Ah nh ch, .slice Al nl cl])
    case first =>
      go_wp2
      go_loopw [28, 3] (fun iv sv wr => ∃ k : Nat, k ≤ na ∧ iv = .int .i64 k ∧ ∃ s : Int, sv = .int .i64 s ∧ Below w.heap.size w wr ∧ Blk wr w.heap.size 30 #[.slice Aa na ca, .slice At nt ct, .slice Ax nx cx, .slice Ar nr cr, .slice An nn cn, .slice Ah nh ch, .slice Al nl cl]) (fun iv _ _ => na - (intOf iv).toNat)
      case atStart => exact ⟨0, Nat.zero_le _, rfl, _, rfl, hB0, b0⟩
      case round =>
        obtain ⟨k, hk, rfl, s, rfl, hB, hb⟩ := hrel
        by_cases hlt : k < na
        · obtain ⟨g, o, hk2, rfl, hg, hl, d0, d1⟩ := (HR.out.a.under hB).at_ (k := k) hlt
          obtain ⟨⟨x, y⟩, hp⟩ : ∃ p, c.attrs[k] = p := ⟨_, rfl⟩
          rw [hp] at d0 d1
          clear hp hl
          have hBa := hB.alloc hB.size (.cells #[str x, .bool y] 73)
          have hba := hb.alloc (.cells #[str x, .bool y] 73)
          go_wp2
          go_roundw
          case rel => (first | exact ⟨k + 1, by omega, by go_num, _, rfl, hBa, hba⟩ | ((repeat apply Exists.intro); exact ⟨⟨k + 1, by omega, by go_num, _, rfl, hBa, hba⟩, rfl⟩))
          case measure => simp [intOf]; omega
        · go_wp2
          go_meet
          case rel => exact ⟨_, rfl, hB, hb⟩
    case rest =>
      clear q0 hB0 b0
      obtain ⟨s0, rfl, hB0, b0⟩ := hcut
      have q0 : _ = some (Value.slice At nt ct) := b0.cell 1
      go_upto_block 2 with (fail)
      go_cut [3] from 18 (fun sv wr => ∃ s : Int, sv = .int .i64 s ∧ Below w.heap.size w wr ∧ Blk wr w.heap.size 30 #[.slice Aa na ca, .slice At nt ct, .slice Ax nx cx, .slice Ar nr cr, .slice An nn cn, .slice Ah nh ch, .slice Al nl cl])
      case first =>
        go_wp2
        go_loopw [41, 3] (fun iv sv wr => ∃ k : Nat, k ≤ nt ∧ iv = .int .i64 k ∧ ∃ s : Int, sv = .int .i64 s ∧ Below w.heap.size w wr ∧ Blk wr w.heap.size 30 #[.slice Aa na ca, .slice At nt ct, .slice Ax nx cx, .slice Ar nr cr, .slice An nn cn, .slice Ah nh ch, .slice Al nl cl]) (fun iv _ _ => nt - (intOf iv).toNat)
        case atStart => exact ⟨0, Nat.zero_le _, rfl, _, rfl, hB0, b0⟩
        case round =>
          obtain ⟨k, hk, rfl, s, rfl, hB, hb⟩ := hrel
          by_cases hlt : k < nt
          · obtain ⟨g, o, ⟨Ak, nk, ck⟩, hk2, rfl, hg, hw, d0⟩ := HR.out.t.at_ (k := k) hlt
            replace d0 := (hB.cell (p := ⟨g, _, none⟩) hg).trans d0
            have fk : nk ≤ 9223372036854775807 := hw.1.2
            have HW := Lib.hid hw
            clear hw
            go_wp2
            clear d0
            go_loopw [49, 3] (fun jv sv wr => ∃ j : Nat, j ≤ nk ∧ jv = .int .i64 j ∧ ∃ s : Int, sv = .int .i64 s ∧ Below w.heap.size w wr ∧ Blk wr w.heap.size 30 #[.slice Aa na ca, .slice (some ⟨g, o, none⟩) nt ct, .slice Ax nx cx, .slice Ar nr cr, .slice An nn cn, .slice Ah nh ch, .slice Al nl cl]) (fun jv _ _ => nk - (intOf jv).toNat)
            case atStart => exact ⟨0, Nat.zero_le _, rfl, _, rfl, hB, hb⟩
            case round =>
              obtain ⟨j, hj, rfl, s2, rfl, hB2, hb2⟩ := hrel
              by_cases hlt2 : j < nk
              · obtain ⟨g2, o2, hk3, rfl, hg2, hl2, e0⟩ := (HW.out.under hB2).at_ (k := j) hlt2
                obtain ⟨x, hp⟩ : ∃ p, c.toks[k][j] = p := ⟨_, rfl⟩
                rw [hp] at e0
                clear hp hl2
                go_wp2
                go_roundw
                case rel => (first | exact ⟨j + 1, by omega, by go_num, _, rfl, hB2, hb2⟩ | ((repeat apply Exists.intro); exact ⟨⟨j + 1, by omega, by go_num, _, rfl, hB2, hb2⟩, rfl⟩))
                case measure => simp [intOf]; omega
              · go_wp2
                go_roundw
                case rel => (first | exact ⟨k + 1, by omega, by go_num, _, rfl, hB2, hb2⟩ | ((repeat apply Exists.intro); exact ⟨⟨k + 1, by omega, by go_num, _, rfl, hB2, hb2⟩, rfl⟩))
                case measure => simp [intOf]; omega
          · go_wp2
            go_meet
            case rel => exact ⟨_, rfl, hB, hb⟩
      case rest =>
        clear q0 hB0 b0
        obtain ⟨s0, rfl, hB0, b0⟩ := hcut
        have q0 : _ = some (Value.slice Ax nx cx) := b0.cell 2
        go_upto_block 6 with (fail)
        go_cut [3] from 18 (fun sv wr => ∃ s : Int, sv = .int .i64 s ∧ Below w.heap.size w wr ∧ Blk wr w.heap.size 30 #[.slice Aa na ca, .slice At nt ct, .slice Ax nx cx, .slice Ar nr cr, .slice An nn cn, .slice Ah nh ch, .slice Al nl cl])
        case first =>
          go_wp2
          go_loopw [63, 3] (fun iv sv wr => ∃ k : Nat, k ≤ nx ∧ iv = .int .i64 k ∧ ∃ s : Int, sv = .int .i64 s ∧ Below w.heap.size w wr ∧ Blk wr w.heap.size 30 #[.slice Aa na ca, .slice At nt ct, .slice Ax nx cx, .slice Ar nr cr, .slice An nn cn, .slice Ah nh ch, .slice Al nl cl]) (fun iv _ _ => nx - (intOf iv).toNat)
          case atStart => exact ⟨0, Nat.zero_le _, rfl, _, rfl, hB0, b0⟩
          case round =>
            obtain ⟨k, hk, rfl, s, rfl, hB, hb⟩ := hrel
            by_cases hlt : k < nx
            · obtain ⟨g, o, ⟨Ak, nk, ck⟩, hk2, rfl, hg, hto, d0, d1, d2, d3⟩ := HR.out.x.at_ (k := k) hlt
              replace d0 := (hB.cell (p := ⟨g, _, none⟩) hg).trans d0
              replace d1 := (hB.cell (p := ⟨g, _, none⟩) hg).trans d1
              replace d2 := (hB.cell (p := ⟨g, _, none⟩) hg).trans d2
              replace d3 := (hB.cell (p := ⟨g, _, none⟩) hg).trans d3
              obtain ⟨⟨x, b, e, ks⟩, hp⟩ : ∃ p, c.texts[k] = p := ⟨_, rfl⟩
              rw [hp] at d0 d1 d2 hto
              simp only [] at d0 d1 d2
              have hB1 := (hB.alloc hB.size (.cells #[str x, .int .i64 b, .int .i64 e, .slice Ak nk ck] 66)).drew
              have CC := Lib.hid (weight_any Ak nk ck ks (wr.alloc (.cells #[str x, .int .i64 b, .int .i64 e, .slice Ak nk ck] 66)).drew ((hto.2.2.2.under hB1).up hB1.size))
              have hb1 := hb.alloc (.cells #[str x, .int .i64 b, .int .i64 e, .slice Ak nk ck] 66)
              have bx := Blk.new wr 66 #[str x, .int .i64 b, .int .i64 e, .slice Ak nk ck]
              have x0 : (wr.alloc (.cells #[str x, .int .i64 b, .int .i64 e, .slice Ak nk ck] 66)).drew.cell? ⟨wr.heap.size, 0, none⟩ = some (str x) := bx.cell 0
              have x3 : (wr.alloc (.cells #[str x, .int .i64 b, .int .i64 e, .slice Ak nk ck] 66)).drew.cell? ⟨wr.heap.size, 3, none⟩ = some (.slice Ak nk ck) := bx.cell 3
              have hbD : Below (wr.alloc (.cells #[str x, .int .i64 b, .int .i64 e, .slice Ak nk ck] 66)).heap.size (wr.alloc (.cells #[str x, .int .i64 b, .int .i64 e, .slice Ak nk ck] 66)) (wr.alloc (.cells #[str x, .int .i64 b, .int .i64 e, .slice Ak nk ck] 66)).drew := (Below.refl _ _).drew
              have HB1 := Lib.hid hB1
              clear hp hto hB1
              go_upto_region 20 with (fail)
              go_region_held3 (fun W => W.cell? ⟨wr.heap.size, 0, none⟩ = some (str x) ∧ W.cell? ⟨wr.heap.size, 3, none⟩ = some (.slice Ak nk ck)) (first | (with_reducible exact ⟨x0, x3⟩) | (with_reducible exact HX) | go_keep) (first | (go_at_call 75; refine CC.out.mono ?_; rintro e' w6 ⟨vv, rfl, hb6⟩; have hb7 := hbD.trans (hb6.mono hbD.size); have hx6 := bx.below hb7; have HX := And.intro (hx6.cell 0) (hx6.cell 3)))
              have hBa := HB1.out.trans (hb6.mono HB1.out.size)
              have hba := hb1.below hb7
              go_wp2
              go_roundw
              case rel => (first | exact ⟨k + 1, by omega, by go_num, _, rfl, hBa, hba⟩ | ((repeat apply Exists.intro); exact ⟨⟨k + 1, by omega, by go_num, _, rfl, hBa, hba⟩, rfl⟩))
              case measure => simp [intOf]; omega
            · go_wp2
              go_meet
              case rel => exact ⟨_, rfl, hB, hb⟩
        case rest =>
          clear q0 hB0 b0
          obtain ⟨s0, rfl, hB0, b0⟩ := hcut
          have q0 : _ = some (Value.slice Ar nr cr) := b0.cell 3
          go_upto_block 8 with (fail)
          go_cut [3] from 18 (fun sv wr => ∃ s : Int, sv = .int .i64 s ∧ Below w.heap.size w wr ∧ Blk wr w.heap.size 30 #[.slice Aa na ca, .slice At nt ct, .slice Ax nx cx, .slice Ar nr cr, .slice An nn cn, .slice Ah nh ch, .slice Al nl cl])
          case first =>
            go_wp2
            go_loopw [81, 3] (fun iv sv wr => ∃ k : Nat, k ≤ nr ∧ iv = .int .i64 k ∧ ∃ s : Int, sv = .int .i64 s ∧ Below w.heap.size w wr ∧ Blk wr w.heap.size 30 #[.slice Aa na ca, .slice At nt ct, .slice Ax nx cx, .slice Ar nr cr, .slice An nn cn, .slice Ah nh ch, .slice Al nl cl]) (fun iv _ _ => nr - (intOf iv).toNat)
            case atStart => exact ⟨0, Nat.zero_le _, rfl, _, rfl, hB0, b0⟩
            case round =>
              obtain ⟨k, hk, rfl, s, rfl, hB, hb⟩ := hrel
              by_cases hlt : k < nr
              · obtain ⟨g, o, ⟨Ak, nk, ck⟩, hk2, rfl, hg, hto, d0, d1, d2, d3⟩ := HR.out.r.at_ (k := k) hlt
                replace d0 := (hB.cell (p := ⟨g, _, none⟩) hg).trans d0
                replace d1 := (hB.cell (p := ⟨g, _, none⟩) hg).trans d1
                replace d2 := (hB.cell (p := ⟨g, _, none⟩) hg).trans d2
                replace d3 := (hB.cell (p := ⟨g, _, none⟩) hg).trans d3
                obtain ⟨⟨x, b, e, ks⟩, hp⟩ : ∃ p, c.regs[k] = p := ⟨_, rfl⟩
                rw [hp] at d0 d1 d2 hto
                simp only [] at d0 d1 d2
                have hB1 := (hB.alloc hB.size (.cells #[str x, .int .i64 b, .int .i64 e, .slice Ak nk ck] 69)).drew
                have CC := Lib.hid (weight_any Ak nk ck ks (wr.alloc (.cells #[str x, .int .i64 b, .int .i64 e, .slice Ak nk ck] 69)).drew ((hto.2.2.2.under hB1).up hB1.size))
                have hb1 := hb.alloc (.cells #[str x, .int .i64 b, .int .i64 e, .slice Ak nk ck] 69)
                have bx := Blk.new wr 69 #[str x, .int .i64 b, .int .i64 e, .slice Ak nk ck]
                have x0 : (wr.alloc (.cells #[str x, .int .i64 b, .int .i64 e, .slice Ak nk ck] 69)).drew.cell? ⟨wr.heap.size, 0, none⟩ = some (str x) := bx.cell 0
                have x3 : (wr.alloc (.cells #[str x, .int .i64 b, .int .i64 e, .slice Ak nk ck] 69)).drew.cell? ⟨wr.heap.size, 3, none⟩ = some (.slice Ak nk ck) := bx.cell 3
                have hbD : Below (wr.alloc (.cells #[str x, .int .i64 b, .int .i64 e, .slice Ak nk ck] 69)).heap.size (wr.alloc (.cells #[str x, .int .i64 b, .int .i64 e, .slice Ak nk ck] 69)) (wr.alloc (.cells #[str x, .int .i64 b, .int .i64 e, .slice Ak nk ck] 69)).drew := (Below.refl _ _).drew
                have HB1 := Lib.hid hB1
                clear hp hto hB1
                go_upto_region 25 with (fail)
                go_region_held3 (fun W => W.cell? ⟨wr.heap.size, 0, none⟩ = some (str x) ∧ W.cell? ⟨wr.heap.size, 3, none⟩ = some (.slice Ak nk ck)) (first | (with_reducible exact ⟨x0, x3⟩) | (with_reducible exact HX) | go_keep) (first | (go_at_call 75; refine CC.out.mono ?_; rintro e' w6 ⟨vv, rfl, hb6⟩; have hb7 := hbD.trans (hb6.mono hbD.size); have hx6 := bx.below hb7; have HX := And.intro (hx6.cell 0) (hx6.cell 3)))
                have hBa := HB1.out.trans (hb6.mono HB1.out.size)
                have hba := hb1.below hb7
                go_wp2
                go_roundw
                case rel => (first | exact ⟨k + 1, by omega, by go_num, _, rfl, hBa, hba⟩ | ((repeat apply Exists.intro); exact ⟨⟨k + 1, by omega, by go_num, _, rfl, hBa, hba⟩, rfl⟩))
                case measure => simp [intOf]; omega
              · go_wp2
                go_meet
                case rel => exact ⟨_, rfl, hB, hb⟩
          case rest =>
            clear q0 hB0 b0
            obtain ⟨s0, rfl, hB0, b0⟩ := hcut
            have q0 : _ = some (Value.slice An nn cn) := b0.cell 4
            go_upto_block 10 with (fail)
            go_cut [3] from 18 (fun sv wr => ∃ s : Int, sv = .int .i64 s ∧ Below w.heap.size w wr ∧ Blk wr w.heap.size 30 #[.slice Aa na ca, .slice At nt ct, .slice Ax nx cx, .slice Ar nr cr, .slice An nn cn, .slice Ah nh ch, .slice Al nl cl])
            case first =>
              go_wp2
              go_loopw [99, 3] (fun iv sv wr => ∃ k : Nat, k ≤ nn ∧ iv = .int .i64 k ∧ ∃ s : Int, sv = .int .i64 s ∧ Below w.heap.size w wr ∧ Blk wr w.heap.size 30 #[.slice Aa na ca, .slice At nt ct, .slice Ax nx cx, .slice Ar nr cr, .slice An nn cn, .slice Ah nh ch, .slice Al nl cl]) (fun iv _ _ => nn - (intOf iv).toNat)
              case atStart => exact ⟨0, Nat.zero_le _, rfl, _, rfl, hB0, b0⟩
              case round =>
                obtain ⟨k, hk, rfl, s, rfl, hB, hb⟩ := hrel
                by_cases hlt : k < nn
                · obtain ⟨g, o, hk2, rfl, hg, hl, d0, d1, d2, d3⟩ := (HR.out.n.under hB).at_ (k := k) hlt
                  obtain ⟨⟨x, b, e, p⟩, hp⟩ : ∃ p, c.nods[k] = p := ⟨_, rfl⟩
                  rw [hp] at d0 d1 d2 d3
                  simp only [] at d0 d1 d2 d3
                  clear hp hl
                  have hBa := hB.alloc hB.size (.cells #[str x, .int .i64 b, .int .i64 e, .int .i64 p] 71)
                  have hba := hb.alloc (.cells #[str x, .int .i64 b, .int .i64 e, .int .i64 p] 71)
                  go_wp2
                  go_roundw
                  case rel => (first | exact ⟨k + 1, by omega, by go_num, _, rfl, hBa, hba⟩ | ((repeat apply Exists.intro); exact ⟨⟨k + 1, by omega, by go_num, _, rfl, hBa, hba⟩, rfl⟩))
                  case measure => simp [intOf]; omega
                · go_wp2
                  go_meet
                  case rel => exact ⟨_, rfl, hB, hb⟩
            case rest =>
              clear q0 hB0 b0
              obtain ⟨s0, rfl, hB0, b0⟩ := hcut
              have q0 : _ = some (Value.slice Al nl cl) := b0.cell 6
              go_upto_block 12 with (fail)
              go_cut [3] from 18 (fun sv wr => ∃ s : Int, sv = .int .i64 s ∧ Below w.heap.size w wr ∧ Blk wr w.heap.size 30 #[.slice Aa na ca, .slice At nt ct, .slice Ax nx cx, .slice Ar nr cr, .slice An nn cn, .slice Ah nh ch, .slice Al nl cl])
              case first =>
                go_wp2
                go_loopw [113, 3] (fun iv sv wr => ∃ k : Nat, k ≤ nl ∧ iv = .int .i64 k ∧ ∃ s : Int, sv = .int .i64 s ∧ Below w.heap.size w wr ∧ Blk wr w.heap.size 30 #[.slice Aa na ca, .slice At nt ct, .slice Ax nx cx, .slice Ar nr cr, .slice An nn cn, .slice Ah nh ch, .slice Al nl cl]) (fun iv _ _ => nl - (intOf iv).toNat)
                case atStart => exact ⟨0, Nat.zero_le _, rfl, _, rfl, hB0, b0⟩
                case round =>
                  obtain ⟨k, hk, rfl, s, rfl, hB, hb⟩ := hrel
                  by_cases hlt : k < nl
                  · obtain ⟨g, o, hk2, rfl, hg, hl, d0⟩ := (HR.out.l.under hB).at_ (k := k) hlt
                    obtain ⟨x, hp⟩ : ∃ p, c.rels[k] = p := ⟨_, rfl⟩
                    rw [hp] at d0
                    clear hp hl
                    have hBa := hB
                    have hba := hb
                    go_wp2
                    go_roundw
                    case rel => (first | exact ⟨k + 1, by omega, by go_num, _, rfl, hBa, hba⟩ | ((repeat apply Exists.intro); exact ⟨⟨k + 1, by omega, by go_num, _, rfl, hBa, hba⟩, rfl⟩))
                    case measure => simp [intOf]; omega
                  · go_wp2
                    go_meet
                    case rel => exact ⟨_, rfl, hB, hb⟩
              case rest =>
                clear q0 hB0 b0
                obtain ⟨s0, rfl, hB0, b0⟩ := hcut
                go_wp2
                go_ret
                exact ⟨_, rfl, hB0⟩

end Go.Proofs.YtgkdaebiefhgdaaGreatDoor
namespace Go.Proofs.YtgkdaebiefhgdaaGreatDoor
set_option linter.unusedSimpArgs false
set_option linter.unusedVariables false
open Go.RowKit Utf
open Feat (Bs)
set_option maxRecDepth 100000 in
set_option maxHeartbeats 4000000 in
theorem vheavy_any (H : CH) (c : Cor.C) (w : World) (hr : Reads w w.heap.size H c) :
    Calls Tryz.prog 13 #[H.v] w (Bools6 w) := by
  obtain ⟨⟨Aa, na, ca⟩, ⟨At, nt, ct⟩, ⟨Ax, nx, cx⟩, ⟨Ar, nr, cr⟩, ⟨An, nn, cn⟩, ⟨Ah, nh, ch⟩, ⟨Al, nl, cl⟩⟩ := H
  show Calls Tryz.prog 13 #[.agg #[.slice Aa na ca, .slice At nt ct, .slice Ax nx cx, .slice Ar nr cr, .slice An nn cn, .slice Ah nh ch, .slice Al nl cl]] w _
  have hBa := (Below.refl w.heap.size w).alloc (Nat.le_refl _) (.cells #[.slice Aa na ca, .slice At nt ct, .slice Ax nx cx, .slice Ar nr cr, .slice An nn cn, .slice Ah nh ch, .slice Al nl cl] 30)
  have hC := Blk.new w 30 #[.slice Aa na ca, .slice At nt ct, .slice Ax nx cx, .slice Ar nr cr, .slice An nn cn, .slice Ah nh ch, .slice Al nl cl]
  have q0 := hC.cell 0
  have q1 := hC.cell 1
  have q2 := hC.cell 2
  have q3 := hC.cell 3
  have q4 := hC.cell 4
  have q5 := hC.cell 5
  have q6 := hC.cell 6
  have CC := Lib.hid (weighs_any ⟨⟨Aa, na, ca⟩, ⟨At, nt, ct⟩, ⟨Ax, nx, cx⟩, ⟨Ar, nr, cr⟩, ⟨An, nn, cn⟩, ⟨Ah, nh, ch⟩, ⟨Al, nl, cl⟩⟩ c _ ((hr.under hBa).up hBa.size))
  have ft : nt ≤ 9223372036854775807 := hr.t.fit.2
  have fx : nx ≤ 9223372036854775807 := hr.x.fit.2
  have fr : nr ≤ 9223372036854775807 := hr.r.fit.2
  have fn : nn ≤ 9223372036854775807 := hr.n.1.2
  have fa : na ≤ 9223372036854775807 := hr.a.1.2
  clear hC hr
  go_enter Tryz.func13, Tryz.ntmps13
  go_wp2_with (go_at_call 33; refine CC.out.mono ?_; rintro e' w6 ⟨vv, rfl, hb6⟩; have hB6 := hBa.trans (hb6.mono hBa.size))
  all_goals first
    | (go_ret; exact ⟨_, rfl, hBa⟩)
    | (go_ret; exact ⟨_, rfl, hB6⟩)

end Go.Proofs.YtgkdaebiefhgdaaGreatDoor
