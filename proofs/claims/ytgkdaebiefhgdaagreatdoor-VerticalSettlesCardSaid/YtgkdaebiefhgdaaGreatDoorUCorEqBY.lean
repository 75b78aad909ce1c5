/-
  The contracts of equalTexts, equalRegions, equalBy and of the program's Equal. Conditions: none but that the lists read as they do.
-/
import Derived.Test.YtgkdaebiefhgdaaGreatDoorUCorEqB
import Derived.Test.YtgkdaebiefhgdaaGreatDoorUCorEq
import Derived.Test.YtgkdaebiefhgdaaGreatDoorUCorEqY
import Derived.Deep.RegionHeld3
import Derived.Deep.CutRange
namespace Go.Proofs.YtgkdaebiefhgdaaGreatDoor
open Go.RowKit Utf
open Feat (Bs)
open Tagp (KV)
theorem same_tx {a : Bs} {b c : Int} {k l : List KV} : same (⟨a, b, c, k⟩ : Cor.Txt) ⟨a, b, c, l⟩ = same k l := by
  rw [Bool.eq_iff_iff, same_iff, same_iff]
  constructor
  · intro h; injection h
  · rintro rfl; rfl

set_option maxRecDepth 100000 in
set_option maxHeartbeats 1600000 in
theorem eqTx_any (xn yn : Bs) (xb xe yb ye : Int) (xk yk : List KV) (A : Option Addr) (n c : Nat) (A2 : Option Addr) (n2 c2 : Nat) (w : World) (hx : Keys w w.heap.size ⟨A, n, c⟩ xk) (hy : Keys w w.heap.size ⟨A2, n2, c2⟩ yk) :
    Calls Tryz.prog 46 #[.agg #[str xn, .int .i64 xb, .int .i64 xe, .slice A n c], .agg #[str yn, .int .i64 yb, .int .i64 ye, .slice A2 n2 c2]] w (Kept (.bool (same (⟨xn, xb, xe, xk⟩ : Cor.Txt) ⟨yn, yb, ye, yk⟩)) w) := by
  have hB0 := ((Below.refl w.heap.size w).alloc (Nat.le_refl _) (.cells #[str xn, .int .i64 xb, .int .i64 xe, .slice A n c] 66)).alloc (by simp) (.cells #[str yn, .int .i64 yb, .int .i64 ye, .slice A2 n2 c2] 66)
  have kx := (hx.under hB0).up hB0.size
  have ky := (hy.under hB0).up hB0.size
  clear hx hy
  by_cases e0 : xn = yn
  · subst e0
    by_cases e1 : xb = yb
    · subst e1
      by_cases e2 : xe = ye
      · subst e2
        have CC := Lib.hid (eqL_pair_any A n c A2 n2 c2 xk yk ((w.alloc (.cells #[str xn, .int .i64 xb, .int .i64 xe, .slice A n c] 66)).alloc (.cells #[str xn, .int .i64 xb, .int .i64 xe, .slice A2 n2 c2] 66)) kx ky)
        rw [same_tx]
        clear kx ky
        go_enter Tryz.func46, Tryz.ntmps46
        go_wp2_with (go_at_call 85; refine CC.out.mono ?_; rintro e' w6 ⟨rfl, qq, rfl⟩)
        go_ret
        exact ⟨rfl, below_drewN hB0 _⟩
      · have HF := Lib.hid (same_f (fun h : (⟨xn, xb, xe, xk⟩ : Cor.Txt) = ⟨xn, xb, ye, yk⟩ => by injection h with j0 j1 j2 j3; exact e2 j2))
        have E3 : (xe == ye) = false := by simpa using e2
        go_enter Tryz.func46, Tryz.ntmps46
        go_wp2
        go_ret
        exact ⟨ret_bool HF.out.symm, hB0⟩
    · have HF := Lib.hid (same_f (fun h : (⟨xn, xb, xe, xk⟩ : Cor.Txt) = ⟨xn, yb, ye, yk⟩ => by injection h with j0 j1 j2 j3; exact e1 j1))
      have E3 : (xb == yb) = false := by simpa using e1
      go_enter Tryz.func46, Tryz.ntmps46
      go_wp2
      go_ret
      exact ⟨ret_bool HF.out.symm, hB0⟩
  · have HF := Lib.hid (same_f (fun h : (⟨xn, xb, xe, xk⟩ : Cor.Txt) = ⟨yn, yb, ye, yk⟩ => by injection h with j0 j1 j2 j3; exact e0 j0))
    have E3 : (xn == yn) = false := by simpa using e0
    go_enter Tryz.func46, Tryz.ntmps46
    go_wp2
    go_ret
    exact ⟨ret_bool HF.out.symm, hB0⟩

set_option maxRecDepth 100000 in
set_option maxHeartbeats 1600000 in
theorem eqRg_any (xn yn : Bs) (xb xe yb ye : Int) (xk yk : List KV) (A : Option Addr) (n c : Nat) (A2 : Option Addr) (n2 c2 : Nat) (w : World) (hx : Keys w w.heap.size ⟨A, n, c⟩ xk) (hy : Keys w w.heap.size ⟨A2, n2, c2⟩ yk) :
    Calls Tryz.prog 48 #[.agg #[str xn, .int .i64 xb, .int .i64 xe, .slice A n c], .agg #[str yn, .int .i64 yb, .int .i64 ye, .slice A2 n2 c2]] w (Kept (.bool (same (⟨xn, xb, xe, xk⟩ : Cor.Txt) ⟨yn, yb, ye, yk⟩)) w) := by
  have hB0 := ((Below.refl w.heap.size w).alloc (Nat.le_refl _) (.cells #[str xn, .int .i64 xb, .int .i64 xe, .slice A n c] 69)).alloc (by simp) (.cells #[str yn, .int .i64 yb, .int .i64 ye, .slice A2 n2 c2] 69)
  have kx := (hx.under hB0).up hB0.size
  have ky := (hy.under hB0).up hB0.size
  clear hx hy
  by_cases e0 : xn = yn
  · subst e0
    by_cases e1 : xb = yb
    · subst e1
      by_cases e2 : xe = ye
      · subst e2
        have CC := Lib.hid (eqL_pair_any A n c A2 n2 c2 xk yk ((w.alloc (.cells #[str xn, .int .i64 xb, .int .i64 xe, .slice A n c] 69)).alloc (.cells #[str xn, .int .i64 xb, .int .i64 xe, .slice A2 n2 c2] 69)) kx ky)
        rw [same_tx]
        clear kx ky
        go_enter Tryz.func48, Tryz.ntmps48
        go_wp2_with (go_at_call 85; refine CC.out.mono ?_; rintro e' w6 ⟨rfl, qq, rfl⟩)
        go_ret
        exact ⟨rfl, below_drewN hB0 _⟩
      · have HF := Lib.hid (same_f (fun h : (⟨xn, xb, xe, xk⟩ : Cor.Txt) = ⟨xn, xb, ye, yk⟩ => by injection h with j0 j1 j2 j3; exact e2 j2))
        have E3 : (xe == ye) = false := by simpa using e2
        go_enter Tryz.func48, Tryz.ntmps48
        go_wp2
        go_ret
        exact ⟨ret_bool HF.out.symm, hB0⟩
    · have HF := Lib.hid (same_f (fun h : (⟨xn, xb, xe, xk⟩ : Cor.Txt) = ⟨xn, yb, ye, yk⟩ => by injection h with j0 j1 j2 j3; exact e1 j1))
      have E3 : (xb == yb) = false := by simpa using e1
      go_enter Tryz.func48, Tryz.ntmps48
      go_wp2
      go_ret
      exact ⟨ret_bool HF.out.symm, hB0⟩
  · have HF := Lib.hid (same_f (fun h : (⟨xn, xb, xe, xk⟩ : Cor.Txt) = ⟨yn, yb, ye, yk⟩ => by injection h with j0 j1 j2 j3; exact e0 j0))
    have E3 : (xn == yn) = false := by simpa using e0
    go_enter Tryz.func48, Tryz.ntmps48
    go_wp2
    go_ret
    exact ⟨ret_bool HF.out.symm, hB0⟩

theorem Keys.drewk {w : World} {B : Nat} {h : Hd} {l : List KV} (k : Keys w B h l) : Keys w.drew B h l := k.under ((Below.refl _ _).drew)
theorem Words.drewk {w : World} {B : Nat} {h : Hd} {l : List Bs} (k : Words w B h l) : Words w.drew B h l := k.under ((Below.refl _ _).drew)
set_option maxRecDepth 100000 in
set_option maxHeartbeats 3200000 in
theorem eqByS_any (A : Option Addr) (n c : Nat) (A2 : Option Addr) (n2 c2 : Nat) (l m : List (List Bs)) (w : World) (hl : Toks w w.heap.size ⟨A, n, c⟩ l) (hm : Toks w w.heap.size ⟨A2, n2, c2⟩ m) :
    Calls Tryz.prog 43 #[.slice A n c, .slice A2 n2 c2, .func (.func 44) #[] #[]] w (Kept (.bool (same l m)) w) := by
  have hll := hl.len
  have hml := hm.len
  simp only [] at hll hml
  have f1 : n ≤ 9223372036854775807 := hl.fit.2
  have f2 : n2 ≤ 9223372036854775807 := hm.fit.2
  by_cases hn : n = n2
  · subst hn
    have HL := Lib.hid hll
    have HM := Lib.hid hml
    clear hll hml
    go_enter Tryz.func43, Tryz.ntmps43
    go_wp2
    go_loopw [15] (fun iv wr => ∃ k : Nat, k ≤ n ∧ iv = .int .i64 k ∧ Below w.heap.size w wr ∧ Hid (l.take k = m.take k)) (fun iv _ => n - (intOf iv).toNat)
    case atStart => exact ⟨0, Nat.zero_le _, rfl, Below.refl _ _, rfl⟩
    case round =>
      obtain ⟨k, hk, rfl, hB, hin⟩ := hrel
      by_cases hlt : k < n
      · obtain ⟨g1, o1, ⟨Ak, nk, ck⟩, hk1, rfl, hg1, hto1, d10⟩ := hl.at_ (k := k) hlt
        obtain ⟨g2, o2, ⟨Bk, mk, dk⟩, hk2, rfl, hg2, hto2, d20⟩ := hm.at_ (k := k) hlt
        have ht := @take_eq _ l m k hk1 hk2
        have hne := @take_ne _ l m k hk1 hk2
        obtain ⟨xk, hx⟩ : ∃ x, l[k] = x := ⟨_, rfl⟩
        obtain ⟨yk, hy⟩ : ∃ x, m[k] = x := ⟨_, rfl⟩
        rw [hx] at hto1
        rw [hy] at hto2
        rw [hx, hy] at ht hne
        have HT := Lib.hid ht
        have HN := Lib.hid hne
        have k0 : (0 : Int) ≤ k := by omega
        have k1 : (k : Int) < n := by omega
        have HS := Lib.hid (fun (W : World) (hW : Below wr.heap.size wr W) => show W.cell? ⟨g1, o1 + k, none⟩ = some (.slice Ak nk ck) ∧ W.cell? ⟨g2, o2 + k, none⟩ = some (.slice Bk mk dk) from ⟨((hB.trans (hW.mono hB.size)).cell (p := ⟨g1, _, none⟩) hg1).trans d10, ((hB.trans (hW.mono hB.size)).cell (p := ⟨g2, _, none⟩) hg2).trans d20⟩)
        have hbD : Below wr.heap.size wr wr.drew := (Below.refl _ _).drew
        have cc := (eqL_str_any Ak nk ck Bk mk dk xk yk wr.drew (((hto1.under hB).drewk).up hB.size) (((hto2.under hB).drewk).up hB.size)).mono (fun _ _ ⟨he, q, hw⟩ => (⟨he, hw ▸ below_drewN (Below.refl _ _) q⟩ : Kept _ _ _ _))
        obtain ⟨bb, hbb⟩ : ∃ b, same xk yk = b := ⟨_, rfl⟩
        rw [hbb] at cc
        have CC := Lib.hid cc
        have HBB := Lib.hid hbb
        have X0 := HS.out wr.drew hbD
        have HB := Lib.hid hB
        clear hx hy ht hne cc hbb hto1 hto2 d10 d20 hB
        cases bb with
        | true =>
          have HI : Hid (l.take (k + 1) = m.take (k + 1)) := HT.out (same_iff.1 HBB.out) hin.out
          clear HT HN hin
          go_upto_region 6 with (fail)
          go_region_held3 (fun W => W.cell? ⟨g1, o1 + k, none⟩ = some (.slice Ak nk ck) ∧ W.cell? ⟨g2, o2 + k, none⟩ = some (.slice Bk mk dk)) (first | (with_reducible exact X0) | (with_reducible exact X5) | go_keep) (first | (go_at_call 44; refine (CC.out).mono ?_; rintro e' w5 ⟨rfl, hb5⟩; have hc5 := hbD.trans (hb5.mono hbD.size); have X5 := HS.out w5 hc5))
          go_wp2
          go_roundw
          case rel =>
            have hB9 := HB.out.trans (hc5.mono HB.out.size)
            (first | exact ⟨k + 1, by omega, by go_num, hB9, HI⟩ | ((repeat apply Exists.intro); exact ⟨⟨k + 1, by omega, by go_num, hB9, HI⟩, rfl⟩))
          case measure => simp [intOf]; omega
        | false =>
          have HF := Lib.hid (same_f (HN.out (fun h => by have h2 := HBB.out; rw [same_t h] at h2; cases h2)))
          clear HT HN hin
          go_upto_region 6 with (fail)
          go_region_held3 (fun W => W.cell? ⟨g1, o1 + k, none⟩ = some (.slice Ak nk ck) ∧ W.cell? ⟨g2, o2 + k, none⟩ = some (.slice Bk mk dk)) (first | (with_reducible exact X0) | (with_reducible exact X5) | go_keep) (first | (go_at_call 44; refine (CC.out).mono ?_; rintro e' w5 ⟨rfl, hb5⟩; have hc5 := hbD.trans (hb5.mono hbD.size); have X5 := HS.out w5 hc5))
          go_wp2
          go_ret
          exact ⟨ret_bool HF.out.symm, HB.out.trans (hc5.mono HB.out.size)⟩
      · have HE : Hid (l = m) := by
          have h := hin.out
          rw [List.take_of_length_le (by have : l.length = n := HL.out; omega), List.take_of_length_le (by have : m.length = n := HM.out; omega)] at h
          exact h
        go_wp2
        go_ret
        exact ⟨ret_bool (same_t HE.out).symm, hB⟩
  · have HF := Lib.hid (same_f (fun h : l = m => hn (by rw [← hll, ← hml, h])))
    have hd : decide (n = n2) = false := by simpa using hn
    clear hl hm hll hml
    go_enter Tryz.func43, Tryz.ntmps43
    go_wp2
    go_ret
    exact ⟨ret_bool HF.out.symm, Below.refl _ _⟩

set_option maxRecDepth 100000 in
set_option maxHeartbeats 3200000 in
theorem eqByT_any (A : Option Addr) (n c : Nat) (A2 : Option Addr) (n2 c2 : Nat) (l m : List Cor.Txt) (w : World) (hl : Txts w w.heap.size ⟨A, n, c⟩ l) (hm : Txts w w.heap.size ⟨A2, n2, c2⟩ m) :
    Calls Tryz.prog 45 #[.slice A n c, .slice A2 n2 c2, .func (.func 46) #[] #[]] w (Kept (.bool (same l m)) w) := by
  have hll := hl.len
  have hml := hm.len
  simp only [] at hll hml
  have f1 : n ≤ 9223372036854775807 := hl.fit.2
  have f2 : n2 ≤ 9223372036854775807 := hm.fit.2
  by_cases hn : n = n2
  · subst hn
    have HL := Lib.hid hll
    have HM := Lib.hid hml
    clear hll hml
    go_enter Tryz.func45, Tryz.ntmps45
    go_wp2
    go_loopw [15] (fun iv wr => ∃ k : Nat, k ≤ n ∧ iv = .int .i64 k ∧ Below w.heap.size w wr ∧ Hid (l.take k = m.take k)) (fun iv _ => n - (intOf iv).toNat)
    case atStart => exact ⟨0, Nat.zero_le _, rfl, Below.refl _ _, rfl⟩
    case round =>
      obtain ⟨k, hk, rfl, hB, hin⟩ := hrel
      by_cases hlt : k < n
      · obtain ⟨g1, o1, ⟨Ak, nk, ck⟩, hk1, rfl, hg1, hto1, d10, d11, d12, d13⟩ := hl.at_ (k := k) hlt
        obtain ⟨g2, o2, ⟨Bk, mk, dk⟩, hk2, rfl, hg2, hto2, d20, d21, d22, d23⟩ := hm.at_ (k := k) hlt
        have ht := @take_eq _ l m k hk1 hk2
        have hne := @take_ne _ l m k hk1 hk2
        obtain ⟨⟨xn, xb, xe, xk⟩, hx⟩ : ∃ x, l[k] = x := ⟨_, rfl⟩
        obtain ⟨⟨yn, yb, ye, yk⟩, hy⟩ : ∃ x, m[k] = x := ⟨_, rfl⟩
        rw [hx] at d10 d11 d12 hto1
        rw [hy] at d20 d21 d22 hto2
        rw [hx, hy] at ht hne
        have HT := Lib.hid ht
        have HN := Lib.hid hne
        simp only [] at d10 d11 d12 d20 d21 d22
        have k0 : (0 : Int) ≤ k := by omega
        have k1 : (k : Int) < n := by omega
        have HS := Lib.hid (fun (W : World) (hW : Below wr.heap.size wr W) => show W.cell? ⟨g1, o1 + k * 4, none⟩ = some (str xn) ∧ W.cell? ⟨g1, o1 + k * 4 + 1, none⟩ = some (.int .i64 xb) ∧ W.cell? ⟨g1, o1 + k * 4 + 2, none⟩ = some (.int .i64 xe) ∧ W.cell? ⟨g1, o1 + k * 4 + 3, none⟩ = some (.slice Ak nk ck) ∧ W.cell? ⟨g2, o2 + k * 4, none⟩ = some (str yn) ∧ W.cell? ⟨g2, o2 + k * 4 + 1, none⟩ = some (.int .i64 yb) ∧ W.cell? ⟨g2, o2 + k * 4 + 2, none⟩ = some (.int .i64 ye) ∧ W.cell? ⟨g2, o2 + k * 4 + 3, none⟩ = some (.slice Bk mk dk) from ⟨((hB.trans (hW.mono hB.size)).cell (p := ⟨g1, _, none⟩) hg1).trans d10, ((hB.trans (hW.mono hB.size)).cell (p := ⟨g1, _, none⟩) hg1).trans d11, ((hB.trans (hW.mono hB.size)).cell (p := ⟨g1, _, none⟩) hg1).trans d12, ((hB.trans (hW.mono hB.size)).cell (p := ⟨g1, _, none⟩) hg1).trans d13, ((hB.trans (hW.mono hB.size)).cell (p := ⟨g2, _, none⟩) hg2).trans d20, ((hB.trans (hW.mono hB.size)).cell (p := ⟨g2, _, none⟩) hg2).trans d21, ((hB.trans (hW.mono hB.size)).cell (p := ⟨g2, _, none⟩) hg2).trans d22, ((hB.trans (hW.mono hB.size)).cell (p := ⟨g2, _, none⟩) hg2).trans d23⟩)
        have hbD : Below wr.heap.size wr wr.drew := (Below.refl _ _).drew
        have cc := eqTx_any xn yn xb xe yb ye xk yk Ak nk ck Bk mk dk wr.drew (((hto1.2.2.2.under hB).drewk).up hB.size) (((hto2.2.2.2.under hB).drewk).up hB.size)
        obtain ⟨bb, hbb⟩ : ∃ b, same (⟨xn, xb, xe, xk⟩ : Cor.Txt) ⟨yn, yb, ye, yk⟩ = b := ⟨_, rfl⟩
        rw [hbb] at cc
        have CC := Lib.hid cc
        have HBB := Lib.hid hbb
        have X0 := HS.out wr.drew hbD
        have HB := Lib.hid hB
        clear hx hy ht hne cc hbb hto1 hto2 d10 d20 d11 d21 d12 d22 d13 d23 hB
        cases bb with
        | true =>
          have HI : Hid (l.take (k + 1) = m.take (k + 1)) := HT.out (same_iff.1 HBB.out) hin.out
          clear HT HN hin
          go_upto_region 6 with (fail)
          go_region_held3 (fun W => W.cell? ⟨g1, o1 + k * 4, none⟩ = some (str xn) ∧ W.cell? ⟨g1, o1 + k * 4 + 1, none⟩ = some (.int .i64 xb) ∧ W.cell? ⟨g1, o1 + k * 4 + 2, none⟩ = some (.int .i64 xe) ∧ W.cell? ⟨g1, o1 + k * 4 + 3, none⟩ = some (.slice Ak nk ck) ∧ W.cell? ⟨g2, o2 + k * 4, none⟩ = some (str yn) ∧ W.cell? ⟨g2, o2 + k * 4 + 1, none⟩ = some (.int .i64 yb) ∧ W.cell? ⟨g2, o2 + k * 4 + 2, none⟩ = some (.int .i64 ye) ∧ W.cell? ⟨g2, o2 + k * 4 + 3, none⟩ = some (.slice Bk mk dk)) (first | (with_reducible exact X0) | (with_reducible exact X5) | go_keep) (first | (go_at_call 46; refine (CC.out).mono ?_; rintro e' w5 ⟨rfl, hb5⟩; have hc5 := hbD.trans (hb5.mono hbD.size); have X5 := HS.out w5 hc5))
          go_wp2
          go_roundw
          case rel =>
            have hB9 := HB.out.trans (hc5.mono HB.out.size)
            (first | exact ⟨k + 1, by omega, by go_num, hB9, HI⟩ | ((repeat apply Exists.intro); exact ⟨⟨k + 1, by omega, by go_num, hB9, HI⟩, rfl⟩))
          case measure => simp [intOf]; omega
        | false =>
          have HF := Lib.hid (same_f (HN.out (fun h => by have h2 := HBB.out; rw [same_t h] at h2; cases h2)))
          clear HT HN hin
          go_upto_region 6 with (fail)
          go_region_held3 (fun W => W.cell? ⟨g1, o1 + k * 4, none⟩ = some (str xn) ∧ W.cell? ⟨g1, o1 + k * 4 + 1, none⟩ = some (.int .i64 xb) ∧ W.cell? ⟨g1, o1 + k * 4 + 2, none⟩ = some (.int .i64 xe) ∧ W.cell? ⟨g1, o1 + k * 4 + 3, none⟩ = some (.slice Ak nk ck) ∧ W.cell? ⟨g2, o2 + k * 4, none⟩ = some (str yn) ∧ W.cell? ⟨g2, o2 + k * 4 + 1, none⟩ = some (.int .i64 yb) ∧ W.cell? ⟨g2, o2 + k * 4 + 2, none⟩ = some (.int .i64 ye) ∧ W.cell? ⟨g2, o2 + k * 4 + 3, none⟩ = some (.slice Bk mk dk)) (first | (with_reducible exact X0) | (with_reducible exact X5) | go_keep) (first | (go_at_call 46; refine (CC.out).mono ?_; rintro e' w5 ⟨rfl, hb5⟩; have hc5 := hbD.trans (hb5.mono hbD.size); have X5 := HS.out w5 hc5))
          go_wp2
          go_ret
          exact ⟨ret_bool HF.out.symm, HB.out.trans (hc5.mono HB.out.size)⟩
      · have HE : Hid (l = m) := by
          have h := hin.out
          rw [List.take_of_length_le (by have : l.length = n := HL.out; omega), List.take_of_length_le (by have : m.length = n := HM.out; omega)] at h
          exact h
        go_wp2
        go_ret
        exact ⟨ret_bool (same_t HE.out).symm, hB⟩
  · have HF := Lib.hid (same_f (fun h : l = m => hn (by rw [← hll, ← hml, h])))
    have hd : decide (n = n2) = false := by simpa using hn
    clear hl hm hll hml
    go_enter Tryz.func45, Tryz.ntmps45
    go_wp2
    go_ret
    exact ⟨ret_bool HF.out.symm, Below.refl _ _⟩

set_option maxRecDepth 100000 in
set_option maxHeartbeats 3200000 in
theorem eqByR_any (A : Option Addr) (n c : Nat) (A2 : Option Addr) (n2 c2 : Nat) (l m : List Cor.Txt) (w : World) (hl : Txts w w.heap.size ⟨A, n, c⟩ l) (hm : Txts w w.heap.size ⟨A2, n2, c2⟩ m) :
    Calls Tryz.prog 47 #[.slice A n c, .slice A2 n2 c2, .func (.func 48) #[] #[]] w (Kept (.bool (same l m)) w) := by
  have hll := hl.len
  have hml := hm.len
  simp only [] at hll hml
  have f1 : n ≤ 9223372036854775807 := hl.fit.2
  have f2 : n2 ≤ 9223372036854775807 := hm.fit.2
  by_cases hn : n = n2
  · subst hn
    have HL := Lib.hid hll
    have HM := Lib.hid hml
    clear hll hml
    go_enter Tryz.func47, Tryz.ntmps47
    go_wp2
    go_loopw [15] (fun iv wr => ∃ k : Nat, k ≤ n ∧ iv = .int .i64 k ∧ Below w.heap.size w wr ∧ Hid (l.take k = m.take k)) (fun iv _ => n - (intOf iv).toNat)
    case atStart => exact ⟨0, Nat.zero_le _, rfl, Below.refl _ _, rfl⟩
    case round =>
      obtain ⟨k, hk, rfl, hB, hin⟩ := hrel
      by_cases hlt : k < n
      · obtain ⟨g1, o1, ⟨Ak, nk, ck⟩, hk1, rfl, hg1, hto1, d10, d11, d12, d13⟩ := hl.at_ (k := k) hlt
        obtain ⟨g2, o2, ⟨Bk, mk, dk⟩, hk2, rfl, hg2, hto2, d20, d21, d22, d23⟩ := hm.at_ (k := k) hlt
        have ht := @take_eq _ l m k hk1 hk2
        have hne := @take_ne _ l m k hk1 hk2
        obtain ⟨⟨xn, xb, xe, xk⟩, hx⟩ : ∃ x, l[k] = x := ⟨_, rfl⟩
        obtain ⟨⟨yn, yb, ye, yk⟩, hy⟩ : ∃ x, m[k] = x := ⟨_, rfl⟩
        rw [hx] at d10 d11 d12 hto1
        rw [hy] at d20 d21 d22 hto2
        rw [hx, hy] at ht hne
        have HT := Lib.hid ht
        have HN := Lib.hid hne
        simp only [] at d10 d11 d12 d20 d21 d22
        have k0 : (0 : Int) ≤ k := by omega
        have k1 : (k : Int) < n := by omega
        have HS := Lib.hid (fun (W : World) (hW : Below wr.heap.size wr W) => show W.cell? ⟨g1, o1 + k * 4, none⟩ = some (str xn) ∧ W.cell? ⟨g1, o1 + k * 4 + 1, none⟩ = some (.int .i64 xb) ∧ W.cell? ⟨g1, o1 + k * 4 + 2, none⟩ = some (.int .i64 xe) ∧ W.cell? ⟨g1, o1 + k * 4 + 3, none⟩ = some (.slice Ak nk ck) ∧ W.cell? ⟨g2, o2 + k * 4, none⟩ = some (str yn) ∧ W.cell? ⟨g2, o2 + k * 4 + 1, none⟩ = some (.int .i64 yb) ∧ W.cell? ⟨g2, o2 + k * 4 + 2, none⟩ = some (.int .i64 ye) ∧ W.cell? ⟨g2, o2 + k * 4 + 3, none⟩ = some (.slice Bk mk dk) from ⟨((hB.trans (hW.mono hB.size)).cell (p := ⟨g1, _, none⟩) hg1).trans d10, ((hB.trans (hW.mono hB.size)).cell (p := ⟨g1, _, none⟩) hg1).trans d11, ((hB.trans (hW.mono hB.size)).cell (p := ⟨g1, _, none⟩) hg1).trans d12, ((hB.trans (hW.mono hB.size)).cell (p := ⟨g1, _, none⟩) hg1).trans d13, ((hB.trans (hW.mono hB.size)).cell (p := ⟨g2, _, none⟩) hg2).trans d20, ((hB.trans (hW.mono hB.size)).cell (p := ⟨g2, _, none⟩) hg2).trans d21, ((hB.trans (hW.mono hB.size)).cell (p := ⟨g2, _, none⟩) hg2).trans d22, ((hB.trans (hW.mono hB.size)).cell (p := ⟨g2, _, none⟩) hg2).trans d23⟩)
        have hbD : Below wr.heap.size wr wr.drew := (Below.refl _ _).drew
        have cc := eqRg_any xn yn xb xe yb ye xk yk Ak nk ck Bk mk dk wr.drew (((hto1.2.2.2.under hB).drewk).up hB.size) (((hto2.2.2.2.under hB).drewk).up hB.size)
        obtain ⟨bb, hbb⟩ : ∃ b, same (⟨xn, xb, xe, xk⟩ : Cor.Txt) ⟨yn, yb, ye, yk⟩ = b := ⟨_, rfl⟩
        rw [hbb] at cc
        have CC := Lib.hid cc
        have HBB := Lib.hid hbb
        have X0 := HS.out wr.drew hbD
        have HB := Lib.hid hB
        clear hx hy ht hne cc hbb hto1 hto2 d10 d20 d11 d21 d12 d22 d13 d23 hB
        cases bb with
        | true =>
          have HI : Hid (l.take (k + 1) = m.take (k + 1)) := HT.out (same_iff.1 HBB.out) hin.out
          clear HT HN hin
          go_upto_region 6 with (fail)
          go_region_held3 (fun W => W.cell? ⟨g1, o1 + k * 4, none⟩ = some (str xn) ∧ W.cell? ⟨g1, o1 + k * 4 + 1, none⟩ = some (.int .i64 xb) ∧ W.cell? ⟨g1, o1 + k * 4 + 2, none⟩ = some (.int .i64 xe) ∧ W.cell? ⟨g1, o1 + k * 4 + 3, none⟩ = some (.slice Ak nk ck) ∧ W.cell? ⟨g2, o2 + k * 4, none⟩ = some (str yn) ∧ W.cell? ⟨g2, o2 + k * 4 + 1, none⟩ = some (.int .i64 yb) ∧ W.cell? ⟨g2, o2 + k * 4 + 2, none⟩ = some (.int .i64 ye) ∧ W.cell? ⟨g2, o2 + k * 4 + 3, none⟩ = some (.slice Bk mk dk)) (first | (with_reducible exact X0) | (with_reducible exact X5) | go_keep) (first | (go_at_call 48; refine (CC.out).mono ?_; rintro e' w5 ⟨rfl, hb5⟩; have hc5 := hbD.trans (hb5.mono hbD.size); have X5 := HS.out w5 hc5))
          go_wp2
          go_roundw
          case rel =>
            have hB9 := HB.out.trans (hc5.mono HB.out.size)
            (first | exact ⟨k + 1, by omega, by go_num, hB9, HI⟩ | ((repeat apply Exists.intro); exact ⟨⟨k + 1, by omega, by go_num, hB9, HI⟩, rfl⟩))
          case measure => simp [intOf]; omega
        | false =>
          have HF := Lib.hid (same_f (HN.out (fun h => by have h2 := HBB.out; rw [same_t h] at h2; cases h2)))
          clear HT HN hin
          go_upto_region 6 with (fail)
          go_region_held3 (fun W => W.cell? ⟨g1, o1 + k * 4, none⟩ = some (str xn) ∧ W.cell? ⟨g1, o1 + k * 4 + 1, none⟩ = some (.int .i64 xb) ∧ W.cell? ⟨g1, o1 + k * 4 + 2, none⟩ = some (.int .i64 xe) ∧ W.cell? ⟨g1, o1 + k * 4 + 3, none⟩ = some (.slice Ak nk ck) ∧ W.cell? ⟨g2, o2 + k * 4, none⟩ = some (str yn) ∧ W.cell? ⟨g2, o2 + k * 4 + 1, none⟩ = some (.int .i64 yb) ∧ W.cell? ⟨g2, o2 + k * 4 + 2, none⟩ = some (.int .i64 ye) ∧ W.cell? ⟨g2, o2 + k * 4 + 3, none⟩ = some (.slice Bk mk dk)) (first | (with_reducible exact X0) | (with_reducible exact X5) | go_keep) (first | (go_at_call 48; refine (CC.out).mono ?_; rintro e' w5 ⟨rfl, hb5⟩; have hc5 := hbD.trans (hb5.mono hbD.size); have X5 := HS.out w5 hc5))
          go_wp2
          go_ret
          exact ⟨ret_bool HF.out.symm, HB.out.trans (hc5.mono HB.out.size)⟩
      · have HE : Hid (l = m) := by
          have h := hin.out
          rw [List.take_of_length_le (by have : l.length = n := HL.out; omega), List.take_of_length_le (by have : m.length = n := HM.out; omega)] at h
          exact h
        go_wp2
        go_ret
        exact ⟨ret_bool (same_t HE.out).symm, hB⟩
  · have HF := Lib.hid (same_f (fun h : l = m => hn (by rw [← hll, ← hml, h])))
    have hd : decide (n = n2) = false := by simpa using hn
    clear hl hm hll hml
    go_enter Tryz.func47, Tryz.ntmps47
    go_wp2
    go_ret
    exact ⟨ret_bool HF.out.symm, Below.refl _ _⟩

theorem kept_of {v : Value} {w w0 : World} {e : Ending} {w' : World} (h : Drawn v w e w') (_ : w0 = w) : Kept v w e w' := by
  obtain ⟨he, q, hw⟩ := h
  exact ⟨he, hw ▸ below_drewN (Below.refl _ _) q⟩
set_option maxRecDepth 100000 in
set_option maxHeartbeats 4000000 in
theorem equal_any (H K : CH) (c d : Cor.C) (w : World) (hc : Reads w w.heap.size H c) (hd : Reads w w.heap.size K d) : Calls Tryz.prog 19 #[H.v, K.v] w (Kept (.bool (same c d)) w) := by
  obtain ⟨⟨Aa, na, ca⟩, ⟨At, nt, ct⟩, ⟨Ax, nx, cx⟩, ⟨Ar, nr, cr⟩, ⟨An, nn, cn⟩, ⟨Ah, nh, ch⟩, ⟨Al, nl, cl⟩⟩ := H
  obtain ⟨⟨Ba, ma, da⟩, ⟨Bt, mt, dt⟩, ⟨Bx, mx, dx⟩, ⟨Br, mr, dr⟩, ⟨Bn, mn, dn⟩, ⟨Bh, mh, dh⟩, ⟨Bl, ml, dl⟩⟩ := K
  show Calls Tryz.prog 19 #[.agg #[.slice Aa na ca, .slice At nt ct, .slice Ax nx cx, .slice Ar nr cr, .slice An nn cn, .slice Ah nh ch, .slice Al nl cl], .agg #[.slice Ba ma da, .slice Bt mt dt, .slice Bx mx dx, .slice Br mr dr, .slice Bn mn dn, .slice Bh mh dh, .slice Bl ml dl]] w _
  have hB0 := ((Below.refl w.heap.size w).alloc (Nat.le_refl _) (.cells #[.slice Aa na ca, .slice At nt ct, .slice Ax nx cx, .slice Ar nr cr, .slice An nn cn, .slice Ah nh ch, .slice Al nl cl] 30)).alloc (by simp) (.cells #[.slice Ba ma da, .slice Bt mt dt, .slice Bx mx dx, .slice Br mr dr, .slice Bn mn dn, .slice Bh mh dh, .slice Bl ml dl] 30)
  have b0 := (Blk.new w 30 #[.slice Aa na ca, .slice At nt ct, .slice Ax nx cx, .slice Ar nr cr, .slice An nn cn, .slice Ah nh ch, .slice Al nl cl]).alloc (.cells #[.slice Ba ma da, .slice Bt mt dt, .slice Bx mx dx, .slice Br mr dr, .slice Bn mn dn, .slice Bh mh dh, .slice Bl ml dl] 30)
  have b1 := Blk.new (w.alloc (.cells #[.slice Aa na ca, .slice At nt ct, .slice Ax nx cx, .slice Ar nr cr, .slice An nn cn, .slice Ah nh ch, .slice Al nl cl] 30)) 30 #[.slice Ba ma da, .slice Bt mt dt, .slice Bx mx dx, .slice Br mr dr, .slice Bn mn dn, .slice Bh mh dh, .slice Bl ml dl]
  rw [World.size_alloc] at b1
  have rc := (hc.under hB0).up hB0.size
  have rd := (hd.under hB0).up hB0.size
  have g0 := Below.refl ((w.alloc (.cells #[.slice Aa na ca, .slice At nt ct, .slice Ax nx cx, .slice Ar nr cr, .slice An nn cn, .slice Ah nh ch, .slice Al nl cl] 30)).alloc (.cells #[.slice Ba ma da, .slice Bt mt dt, .slice Bx mx dx, .slice Br mr dr, .slice Bn mn dn, .slice Bh mh dh, .slice Bl ml dl] 30)).heap.size ((w.alloc (.cells #[.slice Aa na ca, .slice At nt ct, .slice Ax nx cx, .slice Ar nr cr, .slice An nn cn, .slice Ah nh ch, .slice Al nl cl] 30)).alloc (.cells #[.slice Ba ma da, .slice Bt mt dt, .slice Bx mx dx, .slice Br mr dr, .slice Bn mn dn, .slice Bh mh dh, .slice Bl ml dl] 30))
  have HX := Lib.hid (fun (W : World) (hW : Below ((w.alloc (.cells #[.slice Aa na ca, .slice At nt ct, .slice Ax nx cx, .slice Ar nr cr, .slice An nn cn, .slice Ah nh ch, .slice Al nl cl] 30)).alloc (.cells #[.slice Ba ma da, .slice Bt mt dt, .slice Bx mx dx, .slice Br mr dr, .slice Bn mn dn, .slice Bh mh dh, .slice Bl ml dl] 30)).heap.size ((w.alloc (.cells #[.slice Aa na ca, .slice At nt ct, .slice Ax nx cx, .slice Ar nr cr, .slice An nn cn, .slice Ah nh ch, .slice Al nl cl] 30)).alloc (.cells #[.slice Ba ma da, .slice Bt mt dt, .slice Bx mx dx, .slice Br mr dr, .slice Bn mn dn, .slice Bh mh dh, .slice Bl ml dl] 30)) W) => And.intro (b0.below hW) (b1.below hW))
  have C0 := Lib.hid (fun (W : World) (hW : Below ((w.alloc (.cells #[.slice Aa na ca, .slice At nt ct, .slice Ax nx cx, .slice Ar nr cr, .slice An nn cn, .slice Ah nh ch, .slice Al nl cl] 30)).alloc (.cells #[.slice Ba ma da, .slice Bt mt dt, .slice Bx mx dx, .slice Br mr dr, .slice Bn mn dn, .slice Bh mh dh, .slice Bl ml dl] 30)).heap.size ((w.alloc (.cells #[.slice Aa na ca, .slice At nt ct, .slice Ax nx cx, .slice Ar nr cr, .slice An nn cn, .slice Ah nh ch, .slice Al nl cl] 30)).alloc (.cells #[.slice Ba ma da, .slice Bt mt dt, .slice Bx mx dx, .slice Br mr dr, .slice Bn mn dn, .slice Bh mh dh, .slice Bl ml dl] 30)) W) => (eqL_attr_any Aa na ca Ba ma da c.attrs d.attrs W ((rc.a.under hW).up hW.size) ((rd.a.under hW).up hW.size)).mono (fun _ _ h => kept_of h rfl))
  have C1 := Lib.hid (fun (W : World) (hW : Below ((w.alloc (.cells #[.slice Aa na ca, .slice At nt ct, .slice Ax nx cx, .slice Ar nr cr, .slice An nn cn, .slice Ah nh ch, .slice Al nl cl] 30)).alloc (.cells #[.slice Ba ma da, .slice Bt mt dt, .slice Bx mx dx, .slice Br mr dr, .slice Bn mn dn, .slice Bh mh dh, .slice Bl ml dl] 30)).heap.size ((w.alloc (.cells #[.slice Aa na ca, .slice At nt ct, .slice Ax nx cx, .slice Ar nr cr, .slice An nn cn, .slice Ah nh ch, .slice Al nl cl] 30)).alloc (.cells #[.slice Ba ma da, .slice Bt mt dt, .slice Bx mx dx, .slice Br mr dr, .slice Bn mn dn, .slice Bh mh dh, .slice Bl ml dl] 30)) W) => eqByS_any At nt ct Bt mt dt c.toks d.toks W ((rc.t.under hW).up hW.size) ((rd.t.under hW).up hW.size))
  have C2 := Lib.hid (fun (W : World) (hW : Below ((w.alloc (.cells #[.slice Aa na ca, .slice At nt ct, .slice Ax nx cx, .slice Ar nr cr, .slice An nn cn, .slice Ah nh ch, .slice Al nl cl] 30)).alloc (.cells #[.slice Ba ma da, .slice Bt mt dt, .slice Bx mx dx, .slice Br mr dr, .slice Bn mn dn, .slice Bh mh dh, .slice Bl ml dl] 30)).heap.size ((w.alloc (.cells #[.slice Aa na ca, .slice At nt ct, .slice Ax nx cx, .slice Ar nr cr, .slice An nn cn, .slice Ah nh ch, .slice Al nl cl] 30)).alloc (.cells #[.slice Ba ma da, .slice Bt mt dt, .slice Bx mx dx, .slice Br mr dr, .slice Bn mn dn, .slice Bh mh dh, .slice Bl ml dl] 30)) W) => eqByT_any Ax nx cx Bx mx dx c.texts d.texts W ((rc.x.under hW).up hW.size) ((rd.x.under hW).up hW.size))
  have C3 := Lib.hid (fun (W : World) (hW : Below ((w.alloc (.cells #[.slice Aa na ca, .slice At nt ct, .slice Ax nx cx, .slice Ar nr cr, .slice An nn cn, .slice Ah nh ch, .slice Al nl cl] 30)).alloc (.cells #[.slice Ba ma da, .slice Bt mt dt, .slice Bx mx dx, .slice Br mr dr, .slice Bn mn dn, .slice Bh mh dh, .slice Bl ml dl] 30)).heap.size ((w.alloc (.cells #[.slice Aa na ca, .slice At nt ct, .slice Ax nx cx, .slice Ar nr cr, .slice An nn cn, .slice Ah nh ch, .slice Al nl cl] 30)).alloc (.cells #[.slice Ba ma da, .slice Bt mt dt, .slice Bx mx dx, .slice Br mr dr, .slice Bn mn dn, .slice Bh mh dh, .slice Bl ml dl] 30)) W) => eqByR_any Ar nr cr Br mr dr c.regs d.regs W ((rc.r.under hW).up hW.size) ((rd.r.under hW).up hW.size))
  have C4 := Lib.hid (fun (W : World) (hW : Below ((w.alloc (.cells #[.slice Aa na ca, .slice At nt ct, .slice Ax nx cx, .slice Ar nr cr, .slice An nn cn, .slice Ah nh ch, .slice Al nl cl] 30)).alloc (.cells #[.slice Ba ma da, .slice Bt mt dt, .slice Bx mx dx, .slice Br mr dr, .slice Bn mn dn, .slice Bh mh dh, .slice Bl ml dl] 30)).heap.size ((w.alloc (.cells #[.slice Aa na ca, .slice At nt ct, .slice Ax nx cx, .slice Ar nr cr, .slice An nn cn, .slice Ah nh ch, .slice Al nl cl] 30)).alloc (.cells #[.slice Ba ma da, .slice Bt mt dt, .slice Bx mx dx, .slice Br mr dr, .slice Bn mn dn, .slice Bh mh dh, .slice Bl ml dl] 30)) W) => (eqL_node_any An nn cn Bn mn dn c.nods d.nods W ((rc.n.under hW).up hW.size) ((rd.n.under hW).up hW.size)).mono (fun _ _ h => kept_of h rfl))
  have C5 := Lib.hid (fun (W : World) (hW : Below ((w.alloc (.cells #[.slice Aa na ca, .slice At nt ct, .slice Ax nx cx, .slice Ar nr cr, .slice An nn cn, .slice Ah nh ch, .slice Al nl cl] 30)).alloc (.cells #[.slice Ba ma da, .slice Bt mt dt, .slice Bx mx dx, .slice Br mr dr, .slice Bn mn dn, .slice Bh mh dh, .slice Bl ml dl] 30)).heap.size ((w.alloc (.cells #[.slice Aa na ca, .slice At nt ct, .slice Ax nx cx, .slice Ar nr cr, .slice An nn cn, .slice Ah nh ch, .slice Al nl cl] 30)).alloc (.cells #[.slice Ba ma da, .slice Bt mt dt, .slice Bx mx dx, .slice Br mr dr, .slice Bn mn dn, .slice Bh mh dh, .slice Bl ml dl] 30)) W) => (eqL_int_any Ah nh ch Bh mh dh c.heads d.heads W ((rc.h.under hW).up hW.size) ((rd.h.under hW).up hW.size)).mono (fun _ _ h => kept_of h rfl))
  have C6 := Lib.hid (fun (W : World) (hW : Below ((w.alloc (.cells #[.slice Aa na ca, .slice At nt ct, .slice Ax nx cx, .slice Ar nr cr, .slice An nn cn, .slice Ah nh ch, .slice Al nl cl] 30)).alloc (.cells #[.slice Ba ma da, .slice Bt mt dt, .slice Bx mx dx, .slice Br mr dr, .slice Bn mn dn, .slice Bh mh dh, .slice Bl ml dl] 30)).heap.size ((w.alloc (.cells #[.slice Aa na ca, .slice At nt ct, .slice Ax nx cx, .slice Ar nr cr, .slice An nn cn, .slice Ah nh ch, .slice Al nl cl] 30)).alloc (.cells #[.slice Ba ma da, .slice Bt mt dt, .slice Bx mx dx, .slice Br mr dr, .slice Bn mn dn, .slice Bh mh dh, .slice Bl ml dl] 30)) W) => (eqL_str_any Al nl cl Bl ml dl c.rels d.rels W ((rc.l.under hW).up hW.size) ((rd.l.under hW).up hW.size)).mono (fun _ _ h => kept_of h rfl))
  clear b0 b1 rc rd hc hd
  have HSC := Lib.hid (same_C c d)
  obtain ⟨r0, hr0⟩ : ∃ b, same c.attrs d.attrs = b := ⟨_, rfl⟩
  rw [hr0] at C0
  have R0 := Lib.hid hr0
  clear hr0
  obtain ⟨r1, hr1⟩ : ∃ b, same c.toks d.toks = b := ⟨_, rfl⟩
  rw [hr1] at C1
  have R1 := Lib.hid hr1
  clear hr1
  obtain ⟨r2, hr2⟩ : ∃ b, same c.texts d.texts = b := ⟨_, rfl⟩
  rw [hr2] at C2
  have R2 := Lib.hid hr2
  clear hr2
  obtain ⟨r3, hr3⟩ : ∃ b, same c.regs d.regs = b := ⟨_, rfl⟩
  rw [hr3] at C3
  have R3 := Lib.hid hr3
  clear hr3
  obtain ⟨r4, hr4⟩ : ∃ b, same c.nods d.nods = b := ⟨_, rfl⟩
  rw [hr4] at C4
  have R4 := Lib.hid hr4
  clear hr4
  obtain ⟨r5, hr5⟩ : ∃ b, same c.heads d.heads = b := ⟨_, rfl⟩
  rw [hr5] at C5
  have R5 := Lib.hid hr5
  clear hr5
  obtain ⟨r6, hr6⟩ : ∃ b, same c.rels d.rels = b := ⟨_, rfl⟩
  rw [hr6] at C6
  have R6 := Lib.hid hr6
  clear hr6
  cases r0 with
  | false =>
    go_enter Tryz.func19, Tryz.ntmps19
    go_wp2_with (first
      | (go_at_call 42; refine (C0.out _ g0).mono ?_; rintro e' w1 ⟨rfl, h1⟩; have g1 := g0.trans (h1.mono g0.size); have p1 := (HX.out w1 g1).1.cell 1; have q1 := (HX.out w1 g1).2.cell 1))
    go_ret
    refine ⟨ret_bool ?_, hB0.trans (g1.mono hB0.size)⟩
    rw [eq_comm, Bool.eq_false_iff]
    intro h
    have h2 := (HSC.out.1 h).1
    rw [R0.out] at h2
    cases h2
  | true =>
    cases r1 with
    | false =>
      go_enter Tryz.func19, Tryz.ntmps19
      go_wp2_with (first
        | (go_at_call 42; refine (C0.out _ g0).mono ?_; rintro e' w1 ⟨rfl, h1⟩; have g1 := g0.trans (h1.mono g0.size); have p1 := (HX.out w1 g1).1.cell 1; have q1 := (HX.out w1 g1).2.cell 1)
        | (go_at_call 43; refine (C1.out _ g1).mono ?_; rintro e' w2 ⟨rfl, h2⟩; have g2 := g1.trans (h2.mono g1.size); have p2 := (HX.out w2 g2).1.cell 2; have q2 := (HX.out w2 g2).2.cell 2))
      go_ret
      refine ⟨ret_bool ?_, hB0.trans (g2.mono hB0.size)⟩
      rw [eq_comm, Bool.eq_false_iff]
      intro h
      have h2 := (HSC.out.1 h).2.1
      rw [R1.out] at h2
      cases h2
    | true =>
      cases r2 with
      | false =>
        go_enter Tryz.func19, Tryz.ntmps19
        go_wp2_with (first
          | (go_at_call 42; refine (C0.out _ g0).mono ?_; rintro e' w1 ⟨rfl, h1⟩; have g1 := g0.trans (h1.mono g0.size); have p1 := (HX.out w1 g1).1.cell 1; have q1 := (HX.out w1 g1).2.cell 1)
          | (go_at_call 43; refine (C1.out _ g1).mono ?_; rintro e' w2 ⟨rfl, h2⟩; have g2 := g1.trans (h2.mono g1.size); have p2 := (HX.out w2 g2).1.cell 2; have q2 := (HX.out w2 g2).2.cell 2)
          | (go_at_call 45; refine (C2.out _ g2).mono ?_; rintro e' w3 ⟨rfl, h3⟩; have g3 := g2.trans (h3.mono g2.size); have p3 := (HX.out w3 g3).1.cell 3; have q3 := (HX.out w3 g3).2.cell 3))
        go_ret
        refine ⟨ret_bool ?_, hB0.trans (g3.mono hB0.size)⟩
        rw [eq_comm, Bool.eq_false_iff]
        intro h
        have h2 := (HSC.out.1 h).2.2.1
        rw [R2.out] at h2
        cases h2
      | true =>
        cases r3 with
        | false =>
          go_enter Tryz.func19, Tryz.ntmps19
          go_wp2_with (first
            | (go_at_call 42; refine (C0.out _ g0).mono ?_; rintro e' w1 ⟨rfl, h1⟩; have g1 := g0.trans (h1.mono g0.size); have p1 := (HX.out w1 g1).1.cell 1; have q1 := (HX.out w1 g1).2.cell 1)
            | (go_at_call 43; refine (C1.out _ g1).mono ?_; rintro e' w2 ⟨rfl, h2⟩; have g2 := g1.trans (h2.mono g1.size); have p2 := (HX.out w2 g2).1.cell 2; have q2 := (HX.out w2 g2).2.cell 2)
            | (go_at_call 45; refine (C2.out _ g2).mono ?_; rintro e' w3 ⟨rfl, h3⟩; have g3 := g2.trans (h3.mono g2.size); have p3 := (HX.out w3 g3).1.cell 3; have q3 := (HX.out w3 g3).2.cell 3)
            | (go_at_call 47; refine (C3.out _ g3).mono ?_; rintro e' w4 ⟨rfl, h4⟩; have g4 := g3.trans (h4.mono g3.size); have p4 := (HX.out w4 g4).1.cell 4; have q4 := (HX.out w4 g4).2.cell 4))
          go_ret
          refine ⟨ret_bool ?_, hB0.trans (g4.mono hB0.size)⟩
          rw [eq_comm, Bool.eq_false_iff]
          intro h
          have h2 := (HSC.out.1 h).2.2.2.1
          rw [R3.out] at h2
          cases h2
        | true =>
          cases r4 with
          | false =>
            go_enter Tryz.func19, Tryz.ntmps19
            go_wp2_with (first
              | (go_at_call 42; refine (C0.out _ g0).mono ?_; rintro e' w1 ⟨rfl, h1⟩; have g1 := g0.trans (h1.mono g0.size); have p1 := (HX.out w1 g1).1.cell 1; have q1 := (HX.out w1 g1).2.cell 1)
              | (go_at_call 43; refine (C1.out _ g1).mono ?_; rintro e' w2 ⟨rfl, h2⟩; have g2 := g1.trans (h2.mono g1.size); have p2 := (HX.out w2 g2).1.cell 2; have q2 := (HX.out w2 g2).2.cell 2)
              | (go_at_call 45; refine (C2.out _ g2).mono ?_; rintro e' w3 ⟨rfl, h3⟩; have g3 := g2.trans (h3.mono g2.size); have p3 := (HX.out w3 g3).1.cell 3; have q3 := (HX.out w3 g3).2.cell 3)
              | (go_at_call 47; refine (C3.out _ g3).mono ?_; rintro e' w4 ⟨rfl, h4⟩; have g4 := g3.trans (h4.mono g3.size); have p4 := (HX.out w4 g4).1.cell 4; have q4 := (HX.out w4 g4).2.cell 4)
              | (go_at_call 49; refine (C4.out _ g4).mono ?_; rintro e' w5 ⟨rfl, h5⟩; have g5 := g4.trans (h5.mono g4.size); have p5 := (HX.out w5 g5).1.cell 5; have q5 := (HX.out w5 g5).2.cell 5))
            go_ret
            refine ⟨ret_bool ?_, hB0.trans (g5.mono hB0.size)⟩
            rw [eq_comm, Bool.eq_false_iff]
            intro h
            have h2 := (HSC.out.1 h).2.2.2.2.1
            rw [R4.out] at h2
            cases h2
          | true =>
            cases r5 with
            | false =>
              go_enter Tryz.func19, Tryz.ntmps19
              go_wp2_with (first
                | (go_at_call 42; refine (C0.out _ g0).mono ?_; rintro e' w1 ⟨rfl, h1⟩; have g1 := g0.trans (h1.mono g0.size); have p1 := (HX.out w1 g1).1.cell 1; have q1 := (HX.out w1 g1).2.cell 1)
                | (go_at_call 43; refine (C1.out _ g1).mono ?_; rintro e' w2 ⟨rfl, h2⟩; have g2 := g1.trans (h2.mono g1.size); have p2 := (HX.out w2 g2).1.cell 2; have q2 := (HX.out w2 g2).2.cell 2)
                | (go_at_call 45; refine (C2.out _ g2).mono ?_; rintro e' w3 ⟨rfl, h3⟩; have g3 := g2.trans (h3.mono g2.size); have p3 := (HX.out w3 g3).1.cell 3; have q3 := (HX.out w3 g3).2.cell 3)
                | (go_at_call 47; refine (C3.out _ g3).mono ?_; rintro e' w4 ⟨rfl, h4⟩; have g4 := g3.trans (h4.mono g3.size); have p4 := (HX.out w4 g4).1.cell 4; have q4 := (HX.out w4 g4).2.cell 4)
                | (go_at_call 49; refine (C4.out _ g4).mono ?_; rintro e' w5 ⟨rfl, h5⟩; have g5 := g4.trans (h5.mono g4.size); have p5 := (HX.out w5 g5).1.cell 5; have q5 := (HX.out w5 g5).2.cell 5)
                | (go_at_call 50; refine (C5.out _ g5).mono ?_; rintro e' w6 ⟨rfl, h6⟩; have g6 := g5.trans (h6.mono g5.size); have p6 := (HX.out w6 g6).1.cell 6; have q6 := (HX.out w6 g6).2.cell 6))
              go_ret
              refine ⟨ret_bool ?_, hB0.trans (g6.mono hB0.size)⟩
              rw [eq_comm, Bool.eq_false_iff]
              intro h
              have h2 := (HSC.out.1 h).2.2.2.2.2.1
              rw [R5.out] at h2
              cases h2
            | true =>
              cases r6 with
              | false =>
                go_enter Tryz.func19, Tryz.ntmps19
                go_wp2_with (first
                  | (go_at_call 42; refine (C0.out _ g0).mono ?_; rintro e' w1 ⟨rfl, h1⟩; have g1 := g0.trans (h1.mono g0.size); have p1 := (HX.out w1 g1).1.cell 1; have q1 := (HX.out w1 g1).2.cell 1)
                  | (go_at_call 43; refine (C1.out _ g1).mono ?_; rintro e' w2 ⟨rfl, h2⟩; have g2 := g1.trans (h2.mono g1.size); have p2 := (HX.out w2 g2).1.cell 2; have q2 := (HX.out w2 g2).2.cell 2)
                  | (go_at_call 45; refine (C2.out _ g2).mono ?_; rintro e' w3 ⟨rfl, h3⟩; have g3 := g2.trans (h3.mono g2.size); have p3 := (HX.out w3 g3).1.cell 3; have q3 := (HX.out w3 g3).2.cell 3)
                  | (go_at_call 47; refine (C3.out _ g3).mono ?_; rintro e' w4 ⟨rfl, h4⟩; have g4 := g3.trans (h4.mono g3.size); have p4 := (HX.out w4 g4).1.cell 4; have q4 := (HX.out w4 g4).2.cell 4)
                  | (go_at_call 49; refine (C4.out _ g4).mono ?_; rintro e' w5 ⟨rfl, h5⟩; have g5 := g4.trans (h5.mono g4.size); have p5 := (HX.out w5 g5).1.cell 5; have q5 := (HX.out w5 g5).2.cell 5)
                  | (go_at_call 50; refine (C5.out _ g5).mono ?_; rintro e' w6 ⟨rfl, h6⟩; have g6 := g5.trans (h6.mono g5.size); have p6 := (HX.out w6 g6).1.cell 6; have q6 := (HX.out w6 g6).2.cell 6)
                  | (go_at_call 44; refine (C6.out _ g6).mono ?_; rintro e' w7 ⟨rfl, h7⟩; have g7 := g6.trans (h7.mono g6.size)))
                go_ret
                refine ⟨ret_bool ?_, hB0.trans (g7.mono hB0.size)⟩
                rw [eq_comm, Bool.eq_false_iff]
                intro h
                have h2 := (HSC.out.1 h).2.2.2.2.2.2
                rw [R6.out] at h2
                cases h2
              | true =>
                go_enter Tryz.func19, Tryz.ntmps19
                go_wp2_with (first
                  | (go_at_call 42; refine (C0.out _ g0).mono ?_; rintro e' w1 ⟨rfl, h1⟩; have g1 := g0.trans (h1.mono g0.size); have p1 := (HX.out w1 g1).1.cell 1; have q1 := (HX.out w1 g1).2.cell 1)
                  | (go_at_call 43; refine (C1.out _ g1).mono ?_; rintro e' w2 ⟨rfl, h2⟩; have g2 := g1.trans (h2.mono g1.size); have p2 := (HX.out w2 g2).1.cell 2; have q2 := (HX.out w2 g2).2.cell 2)
                  | (go_at_call 45; refine (C2.out _ g2).mono ?_; rintro e' w3 ⟨rfl, h3⟩; have g3 := g2.trans (h3.mono g2.size); have p3 := (HX.out w3 g3).1.cell 3; have q3 := (HX.out w3 g3).2.cell 3)
                  | (go_at_call 47; refine (C3.out _ g3).mono ?_; rintro e' w4 ⟨rfl, h4⟩; have g4 := g3.trans (h4.mono g3.size); have p4 := (HX.out w4 g4).1.cell 4; have q4 := (HX.out w4 g4).2.cell 4)
                  | (go_at_call 49; refine (C4.out _ g4).mono ?_; rintro e' w5 ⟨rfl, h5⟩; have g5 := g4.trans (h5.mono g4.size); have p5 := (HX.out w5 g5).1.cell 5; have q5 := (HX.out w5 g5).2.cell 5)
                  | (go_at_call 50; refine (C5.out _ g5).mono ?_; rintro e' w6 ⟨rfl, h6⟩; have g6 := g5.trans (h6.mono g5.size); have p6 := (HX.out w6 g6).1.cell 6; have q6 := (HX.out w6 g6).2.cell 6)
                  | (go_at_call 44; refine (C6.out _ g6).mono ?_; rintro e' w7 ⟨rfl, h7⟩; have g7 := g6.trans (h7.mono g6.size)))
                go_ret
                exact ⟨ret_bool (HSC.out.2 ⟨R0.out, R1.out, R2.out, R3.out, R4.out, R5.out, R6.out⟩).symm, hB0.trans (g7.mono hB0.size)⟩

end Go.Proofs.YtgkdaebiefhgdaaGreatDoor
