/-
 The contracts of the comparisons of chapter 6, of the program's and the reference's. Conditions: a list's length is an int.
-/
import Derived.Test.YtgkdaebiefhgdaaGreatDoorProg
import Derived.Test.YtgkdaebiefhgdaaGreatDoorPCorMem
import Derived.Test.YtgkdaebiefhgdaaGreatDoorPBase6
import Derived.WalkLawsBesides
import Derived.BigQuiet
import Derived.Deep.QuietTactic
import Derived.Shelf.RegionOpen
namespace Go.Proofs.YtgkdaebiefhgdaaGreatDoor
open Go.RowKit
open Feat (Bs lt lt_irrefl lt_asymm lt_tri)
open Tagp (KV)
open Cor (cmpI cmpS cmpK cmpR)
theorem cmpI_lt {a b : Int} (h : a < b) : cmpI a b = -1 := by unfold cmpI; rw [if_pos h]
theorem cmpI_gt {a b : Int} (h : b < a) : cmpI a b = 1 := by unfold cmpI; rw [if_neg (by omega), if_pos h]
theorem cmpI_eq (a : Int) : cmpI a a = 0 := by unfold cmpI; rw [if_neg (by omega), if_neg (by omega)]
theorem cmpS_lt {a b : Bs} (h : lt a b = true) : cmpS a b = -1 := by unfold cmpS; rw [if_pos h]
theorem cmpS_gt {a b : Bs} (h : lt b a = true) : cmpS a b = 1 := by unfold cmpS; rw [if_neg (by rw [lt_asymm h]; simp), if_pos h]
theorem cmpS_eq (a : Bs) : cmpS a a = 0 := by unfold cmpS; rw [if_neg (by rw [lt_irrefl]; simp), if_neg (by rw [lt_irrefl]; simp)]
theorem cmpS_zero {a b : Bs} : cmpS a b = 0 ↔ a = b := by
 constructor
 ·intro h
  rcases lt_tri a b with k | k | k
  ·rw [cmpS_lt k] at h; cases h
  ·exact k
  ·rw [cmpS_gt k] at h; cases h
 ·rintro rfl; exact cmpS_eq a
theorem cmpI_zero {a b : Int} : cmpI a b = 0 ↔ a = b := by
 unfold cmpI; constructor
 ·intro h; split at h
  ·cases h
  ·split at h
   ·cases h
   ·omega
 ·rintro rfl; rw [if_neg (by omega), if_neg (by omega)]

theorem order_any (a b : Int) (w : World) : Calls Tryz.prog 102 #[.int .i64 a, .int .i64 b] w (SameW (.int .i64 (cmpI a b)) w) := by
 by_cases h : a < b
 ·have HC := Lib.hid (cmpI_lt h)
  go_enter Tryz.func102, Tryz.ntmps102
  go_wp2
  go_ret
  exact ⟨ret_int HC.out.symm, rfl⟩
 ·by_cases h2 : b < a
  ·have HC := Lib.hid (cmpI_gt h2)
   go_enter Tryz.func102, Tryz.ntmps102
   go_wp2
   go_ret
   exact ⟨ret_int HC.out.symm, rfl⟩
  ·have HC := Lib.hid ((cmpI_zero (a := a) (b := b)).2 (by omega))
   go_enter Tryz.func102, Tryz.ntmps102
   go_wp2
   go_ret
   exact ⟨ret_int HC.out.symm, rfl⟩

theorem orderText_any (a b : Bs) (w : World) : Calls Tryz.prog 103 #[str a, str b] w (SameW (.int .i64 (cmpS a b)) w) := by
 rcases lt_tri a b with h | h | h
 ·have HC := Lib.hid (cmpS_lt h)
  go_enter Tryz.func103, Tryz.ntmps103
  unfold lt at h
  go_wp2
  go_ret
  exact ⟨ret_int HC.out.symm, rfl⟩
 ·subst h
  have HC := Lib.hid (cmpS_eq a)
  have h := lt_irrefl a
  unfold lt at h
  go_enter Tryz.func103, Tryz.ntmps103
  go_wp2
  go_ret
  exact ⟨ret_int HC.out.symm, rfl⟩
 ·have HC := Lib.hid (cmpS_gt h)
  have h2 := lt_asymm h
  have h3 : (a == b) = false := by
   rw [beq_eq_false_iff_ne]
   rintro rfl
   rw [lt_irrefl] at h; cases h
  unfold lt at h h2
  go_enter Tryz.func103, Tryz.ntmps103
  go_wp2
  go_ret
  exact ⟨ret_int HC.out.symm, rfl⟩

theorem refCompare_any (a b : Bs) (w : World) : Calls Tryz.prog 118 #[str a, str b] w (SameW (.int .i64 (cmpS a b)) w) := by
 rcases lt_tri a b with h | h | h
 ·have HC := Lib.hid (cmpS_lt h)
  go_enter Tryz.func118, Tryz.ntmps118
  unfold lt at h
  go_wp2
  go_ret
  exact ⟨ret_int HC.out.symm, rfl⟩
 ·subst h
  have HC := Lib.hid (cmpS_eq a)
  have h := lt_irrefl a
  unfold lt at h
  go_enter Tryz.func118, Tryz.ntmps118
  go_wp2
  go_ret
  exact ⟨ret_int HC.out.symm, rfl⟩
 ·have HC := Lib.hid (cmpS_gt h)
  have h2 := lt_asymm h
  have h3 : (a == b) = false := by
   rw [beq_eq_false_iff_ne]
   rintro rfl
   rw [lt_irrefl] at h; cases h
  unfold lt at h h2
  go_enter Tryz.func118, Tryz.ntmps118
  go_wp2
  go_ret
  exact ⟨ret_int HC.out.symm, rfl⟩
theorem cmpK_step {l m : List KV} {k : Nat} (h1 : k < l.length) (h2 : k < m.length) :
  cmpK (l.drop k) (m.drop k) = if cmpS l[k].1 m[k].1 ≠ 0 then cmpS l[k].1 m[k].1 else if cmpS l[k].2 m[k].2 ≠ 0 then cmpS l[k].2 m[k].2 else cmpK (l.drop (k + 1)) (m.drop (k + 1)) := by
 rw [List.drop_eq_getElem_cons h1, List.drop_eq_getElem_cons h2, cmpK]
theorem cmpK_end {l m : List KV} {k : Nat} (h : ¬ (k < l.length ∧ k < m.length)) (h1 : k ≤ l.length) (h2 : k ≤ m.length) : cmpK (l.drop k) (m.drop k) = cmpI l.length m.length := by
 by_cases e1 : k = l.length
 ·subst e1
  rw [List.drop_length]
  by_cases e2 : l.length = m.length
  ·rw [e2, List.drop_length, cmpI_eq]; rfl
  ·rw [List.drop_eq_getElem_cons (by omega), cmpI_lt (by omega)]; rfl
 ·have e2 : k = m.length := by omega
  subst e2
  rw [List.drop_length, List.drop_eq_getElem_cons (by omega), cmpI_gt (by omega)]; rfl

set_option maxRecDepth 100000 in
set_option maxHeartbeats 1600000 in
theorem orderPairs_any (A : Option Addr) (n c : Nat) (A2 : Option Addr) (n2 c2 : Nat) (l m : List KV) (w : World) (hl : Keys w w.heap.size ⟨A, n, c⟩ l) (hm : Keys w w.heap.size ⟨A2, n2, c2⟩ m) :
  Calls Tryz.prog 104 #[.slice A n c, .slice A2 n2 c2] w (Drawn (.int .i64 (cmpK l m)) w) := by
 have hll := hl.len
 have hml := hm.len
 have f1 : n ≤ 9223372036854775807 := hl.1.2
 have f2 : n2 ≤ 9223372036854775807 := hm.1.2
 have HL : Hid (l.length = n) := hll
 have HM : Hid (m.length = n2) := hml
 clear hll hml
 go_enter Tryz.func104, Tryz.ntmps104
 go_wp2
 go_loopw [5] (fun iv wr => ∃ k q : Nat, k ≤ n ∧ k ≤ n2 ∧ iv = .int .i64 k ∧ wr = w.drewN q ∧ Hid (cmpK l m = cmpK (l.drop k) (m.drop k))) (fun iv _ => n - (intOf iv).toNat)
 case atStart => exact ⟨0, 0, by omega, by omega, rfl, rfl, rfl⟩
 case round =>
  obtain ⟨k, q, hk, hk2, rfl, rfl, hinv⟩ := hrel
  by_cases hlt : k < n ∧ k < n2
  ·obtain ⟨a1, a2⟩ := hlt
   obtain ⟨g, o, hk', rfl, hg, _, c0, c1⟩ := hl.at_ a1
   obtain ⟨g2, o2, hk2', rfl, hg2, _, d0, d1⟩ := hm.at_ a2
   have hstep := Lib.hid (hinv.out.trans (cmpK_step hk' hk2'))
   clear hinv
   obtain ⟨⟨x, xv⟩, hx⟩ : ∃ p, l[k] = p := ⟨_, rfl⟩
   obtain ⟨⟨y, yv⟩, hy⟩ : ∃ p, m[k] = p := ⟨_, rfl⟩
   rw [hx, hy] at hstep
   rw [hx] at c0 c1
   rw [hy] at d0 d1
   clear hx hy
   go_wp2
   go_quiet ((first | (go_at_call 103; (first | exact quiet_sa (orderText_any x y _) | exact quiet_s (orderText_any x y _)))))
   by_cases e1 : cmpS x y = 0
   ·have hs2 := Lib.hid (hstep.out.trans (if_neg (by simp [e1])))
    have E : (cmpS x y != 0) = false := by simp [e1]
    clear e1 hstep
    go_wp2
    go_quiet ((first | (go_at_call 103; (first | exact quiet_sa (orderText_any xv yv _) | exact quiet_s (orderText_any xv yv _)))))
    by_cases e2 : cmpS xv yv = 0
    ·have hs3 := Lib.hid (hs2.out.trans (if_neg (by simp [e2])))
     have E2 : (cmpS xv yv != 0) = false := by simp [e2]
     clear e2 hs2
     go_wp2
     go_roundw
     case rel => exact ⟨k + 1, _, by omega, by omega, by go_num, rfl, hs3⟩
     case measure => simp [intOf]; omega
    ·have hs3 := Lib.hid (hs2.out.trans (if_pos (by simpa using e2)))
     have E2 : (cmpS xv yv != 0) = true := by simpa using e2
     clear e2 hs2
     go_wp2
     go_ret
     exact ⟨ret_int hs3.out.symm, _, rfl⟩
   ·have hs2 := Lib.hid (hstep.out.trans (if_pos (by simpa using e1)))
    have E : (cmpS x y != 0) = true := by simpa using e1
    clear e1 hstep
    go_wp2
    go_ret
    exact ⟨ret_int hs2.out.symm, _, rfl⟩
  ·have HC := Lib.hid (hinv.out.trans (cmpK_end (by rw [HL.out, HM.out]; exact hlt) (by rw [HL.out]; exact hk) (by rw [HM.out]; exact hk2)))
   clear hinv
   have go : ∀ wz, Calls Tryz.prog 102 #[.int .i64 (n : Nat), .int .i64 (n2 : Nat)] wz (SameW (.int .i64 (cmpI n n2)) wz) := fun wz => order_any _ _ wz
   by_cases a1 : k < n
   ·have a2 : ¬ k < n2 := fun h => hlt ⟨a1, h⟩
    clear hlt
    go_wp2_with (go_at_call 102; refine (go _).mono ?_; rintro e w' ⟨rfl, rfl⟩)
    go_ret
    exact ⟨ret_int (by rw [HC.out, HL.out, HM.out]), _, rfl⟩
   ·clear hlt
    go_wp2_with (go_at_call 102; refine (go _).mono ?_; rintro e w' ⟨rfl, rfl⟩)
    go_ret
    exact ⟨ret_int (by rw [HC.out, HL.out, HM.out]), _, rfl⟩

theorem cmpR_1 {x y : Cor.Reg} (h : cmpI x.b y.b ≠ 0) : cmpR x y = cmpI x.b y.b := by unfold cmpR; rw [if_pos h]
theorem cmpR_2 {x y : Cor.Reg} (h : cmpI x.b y.b = 0) (h2 : cmpI y.e x.e ≠ 0) : cmpR x y = cmpI y.e x.e := by unfold cmpR; rw [if_neg (by simp [h]), if_pos h2]
theorem cmpR_3 {x y : Cor.Reg} (h : cmpI x.b y.b = 0) (h2 : cmpI y.e x.e = 0) (h3 : cmpS x.nm y.nm ≠ 0) : cmpR x y = cmpS x.nm y.nm := by unfold cmpR; rw [if_neg (by simp [h]), if_neg (by simp [h2]), if_pos h3]
theorem cmpR_4 {x y : Cor.Reg} (h : cmpI x.b y.b = 0) (h2 : cmpI y.e x.e = 0) (h3 : cmpS x.nm y.nm = 0) : cmpR x y = cmpK x.ks y.ks := by unfold cmpR; rw [if_neg (by simp [h]), if_neg (by simp [h2]), if_neg (by simp [h3])]
theorem bne_f {a b : Int} (h : a = b) : (a != b) = false := by simp [h]
theorem bne_t {a b : Int} (h : a ≠ b) : (a != b) = true := by simpa using h

set_option maxRecDepth 100000 in
set_option maxHeartbeats 1600000 in
theorem compare_any (x y : Cor.Reg) (A : Option Addr) (n c : Nat) (A2 : Option Addr) (n2 c2 : Nat) (w : World) (hx : Keys w w.heap.size ⟨A, n, c⟩ x.ks) (hy : Keys w w.heap.size ⟨A2, n2, c2⟩ y.ks) :
  Calls Tryz.prog 64 #[.agg #[str x.nm, .int .i64 x.b, .int .i64 x.e, .slice A n c], .agg #[str y.nm, .int .i64 y.b, .int .i64 y.e, .slice A2 n2 c2]] w (Kept (.int .i64 (cmpR x y)) w) := by
 have hB := ((Below.refl w.heap.size w).alloc (Nat.le_refl _) (.cells #[str x.nm, .int .i64 x.b, .int .i64 x.e, .slice A n c] 69)).alloc (by simp) (.cells #[str y.nm, .int .i64 y.b, .int .i64 y.e, .slice A2 n2 c2] 69)
 have f1 := fun wz => order_any x.b y.b wz
 have f2 := fun wz => order_any y.e x.e wz
 have f3 := fun wz => orderText_any x.nm y.nm wz
 have hx2 := (hx.under hB).up hB.size
 have hy2 := (hy.under hB).up hB.size
 have f4 := fun (wz : World) (h1 : Keys wz wz.heap.size ⟨A, n, c⟩ x.ks) (h2 : Keys wz wz.heap.size ⟨A2, n2, c2⟩ y.ks) => orderPairs_any A n c A2 n2 c2 x.ks y.ks wz h1 h2
 have F4 := Lib.hid (f4 _ hx2 hy2)
 clear f4 hx2 hy2 hx hy
 by_cases h1 : cmpI x.b y.b = 0
 ·have E1 := bne_f h1
  by_cases h2 : cmpI y.e x.e = 0
  ·have E2 := bne_f h2
   by_cases h3 : cmpS x.nm y.nm = 0
   ·have HC := Lib.hid (cmpR_4 h1 h2 h3)
    have E3 := bne_f h3
    clear h1 h2 h3
    go_enter Tryz.func64, Tryz.ntmps64
    go_wp2_with fail
    refine (f1 _).mono ?_
    rintro e w1 ⟨rfl, rfl⟩
    go_wp2_with fail
    refine (f2 _).mono ?_
    rintro e w1 ⟨rfl, rfl⟩
    go_wp2_with fail
    refine (f3 _).mono ?_
    rintro e w1 ⟨rfl, rfl⟩
    go_wp2_with fail
    refine (F4.out).mono ?_
    rintro e w1 ⟨rfl, q, rfl⟩
    go_wp2
    go_ret
    exact ⟨ret_int HC.out.symm, below_drewN hB _⟩
   ·have HC := Lib.hid (cmpR_3 h1 h2 h3)
    have E3 := bne_t h3
    clear h1 h2 h3 F4
    go_enter Tryz.func64, Tryz.ntmps64
    go_wp2_with fail
    refine (f1 _).mono ?_
    rintro e w1 ⟨rfl, rfl⟩
    go_wp2_with fail
    refine (f2 _).mono ?_
    rintro e w1 ⟨rfl, rfl⟩
    go_wp2_with fail
    refine (f3 _).mono ?_
    rintro e w1 ⟨rfl, rfl⟩
    go_wp2
    go_ret
    exact ⟨ret_int HC.out.symm, hB⟩
  ·have HC := Lib.hid (cmpR_2 h1 h2)
   have E2 := bne_t h2
   clear h1 h2 F4
   go_enter Tryz.func64, Tryz.ntmps64
   go_wp2_with fail
   refine (f1 _).mono ?_
   rintro e w1 ⟨rfl, rfl⟩
   go_wp2_with fail
   refine (f2 _).mono ?_
   rintro e w1 ⟨rfl, rfl⟩
   go_wp2
   go_ret
   exact ⟨ret_int HC.out.symm, hB⟩
 ·have HC := Lib.hid (cmpR_1 h1)
  have E1 := bne_t h1
  clear h1 F4
  go_enter Tryz.func64, Tryz.ntmps64
  go_wp2_with fail
  refine (f1 _).mono ?_
  rintro e w1 ⟨rfl, rfl⟩
  go_wp2
  go_ret
  exact ⟨ret_int HC.out.symm, hB⟩

set_option maxRecDepth 100000 in
set_option maxHeartbeats 2000000 in
theorem refCompareR_any (x y : Cor.Reg) (A : Option Addr) (n c : Nat) (A2 : Option Addr) (n2 c2 : Nat) (w : World) (hx : Keys w w.heap.size ⟨A, n, c⟩ x.ks) (hy : Keys w w.heap.size ⟨A2, n2, c2⟩ y.ks) :
  Calls Tryz.prog 74 #[.agg #[str x.nm, .int .i64 x.b, .int .i64 x.e, .slice A n c], .agg #[str y.nm, .int .i64 y.b, .int .i64 y.e, .slice A2 n2 c2]] w (Kept (.int .i64 (cmpR x y)) w) := by
 have hB := ((Below.refl w.heap.size w).alloc (Nat.le_refl _) (.cells #[str x.nm, .int .i64 x.b, .int .i64 x.e, .slice A n c] 69)).alloc (by simp) (.cells #[str y.nm, .int .i64 y.b, .int .i64 y.e, .slice A2 n2 c2] 69)
 have f1 : n ≤ 9223372036854775807 := hx.1.2
 have f2 : n2 ≤ 9223372036854775807 := hy.1.2
 by_cases h1 : x.b = y.b
 ·have E1 := bne_f h1
  by_cases h2 : x.e = y.e
  ·have E2 := bne_f h2
   by_cases h3 : x.nm = y.nm
   ·have HC := Lib.hid (cmpR_4 (cmpI_zero.2 h1) (cmpI_zero.2 h2.symm) (cmpS_zero.2 h3))
    have E3 : (x.nm == y.nm) = true := by simp [h3]
    clear h1 h2 h3
    have HL := Lib.hid hx.len
    have HM := Lib.hid hy.len
    go_enter Tryz.func74, Tryz.ntmps74
    go_wp2
    have hx2 := (hx.under hB).up hB.size
    have hy2 := (hy.under hB).up hB.size
    have b0 := (Blk.new w 69 #[str x.nm, .int .i64 x.b, .int .i64 x.e, .slice A n c]).alloc (.cells #[str y.nm, .int .i64 y.b, .int .i64 y.e, .slice A2 n2 c2] 69)
    have b1 := Blk.new (w.alloc (.cells #[str x.nm, .int .i64 x.b, .int .i64 x.e, .slice A n c] 69)) 69 #[str y.nm, .int .i64 y.b, .int .i64 y.e, .slice A2 n2 c2]
    rw [World.size_alloc] at b1
    obtain ⟨W, hW⟩ : ∃ W, (w.alloc (.cells #[str x.nm, .int .i64 x.b, .int .i64 x.e, .slice A n c] 69)).alloc (.cells #[str y.nm, .int .i64 y.b, .int .i64 y.e, .slice A2 n2 c2] 69) = W := ⟨_, rfl⟩
    rw [hW] at hx2 hy2 b0 b1 hB
    simp only [hW]
    clear hW hx hy
    go_loopw [5] (fun iv wr => ∃ k q : Nat, k ≤ n ∧ k ≤ n2 ∧ iv = .int .i64 k ∧ wr = W.drewN q ∧ Hid (cmpK x.ks y.ks = cmpK (x.ks.drop k) (y.ks.drop k))) (fun iv _ => n - (intOf iv).toNat)
    case atStart => exact ⟨0, 0, by omega, by omega, rfl, rfl, rfl⟩
    case round =>
     obtain ⟨k, q, hk, hk2, rfl, rfl, hinv⟩ := hrel
     have c03 := b0.cell 3
     have c13 := b1.cell 3
     by_cases hlt : k < n ∧ k < n2
     ·obtain ⟨a1, a2⟩ := hlt
      obtain ⟨g, o, hk', rfl, hg, _, c0, c1⟩ := hx2.at_ a1
      obtain ⟨g2, o2, hk2', rfl, hg2, _, d0, d1⟩ := hy2.at_ a2
      have hstep := Lib.hid (hinv.out.trans (cmpK_step hk' hk2'))
      clear hinv
      obtain ⟨⟨u, uv⟩, hu⟩ : ∃ p, x.ks[k] = p := ⟨_, rfl⟩
      obtain ⟨⟨v, vv⟩, hv⟩ : ∃ p, y.ks[k] = p := ⟨_, rfl⟩
      rw [hu, hv] at hstep
      rw [hu] at c0 c1
      rw [hv] at d0 d1
      clear hu hv
      by_cases e1 : u = v
      ·have hs2 := Lib.hid (hstep.out.trans (if_neg (by simp [cmpS_zero.2 e1])))
       have E4 : (u == v) = true := by simpa using e1
       clear e1 hstep
       by_cases e2 : uv = vv
       ·have hs3 := Lib.hid (hs2.out.trans (if_neg (by simp [cmpS_zero.2 e2])))
        have E5 : (uv == vv) = true := by simpa using e2
        clear e2 hs2
        go_wp2
        go_quiet (fail)
        go_wp2
        go_quiet (fail)
        go_wp2
        go_roundw
        case rel => exact ⟨k + 1, _, by omega, by omega, by go_num, rfl, hs3⟩
        case measure => simp [intOf]; omega
       ·have hs3 := Lib.hid (hs2.out.trans (if_pos (fun h => e2 (cmpS_zero.1 h))))
        have E5 : (uv == vv) = false := by simpa using e2
        clear e2 hs2
        go_wp2
        go_quiet (fail)
        go_wp2
        go_quiet (fail)
        go_wp2
        go_quiet ((go_at_call 118; (first | exact quiet_sa (refCompare_any uv vv _) | exact quiet_s (refCompare_any uv vv _))))
        go_wp2
        go_ret
        exact ⟨ret_int (HC.out.trans hs3.out).symm, by (repeat refine below_drewN ?_ _); exact hB⟩
      ·have hs2 := Lib.hid (hstep.out.trans (if_pos (fun h => e1 (cmpS_zero.1 h))))
       have E4 : (u == v) = false := by simpa using e1
       clear e1 hstep
       go_wp2
       go_quiet (fail)
       go_wp2
       go_quiet ((go_at_call 118; (first | exact quiet_sa (refCompare_any u v _) | exact quiet_s (refCompare_any u v _))))
       go_wp2
       go_ret
       exact ⟨ret_int (HC.out.trans hs2.out).symm, by (repeat refine below_drewN ?_ _); exact hB⟩
     ·have HE := Lib.hid (hinv.out.trans (cmpK_end (by rw [HL.out, HM.out]; exact hlt) (by rw [HL.out]; exact hk) (by rw [HM.out]; exact hk2)))
      clear hinv
      by_cases e0 : n = n2
      ·subst e0
       have HE2 : Hid (cmpR x y = 0) := by
        show _ = _
        rw [HC.out, HE.out, HL.out, HM.out]; exact cmpI_eq _
       clear HC HE HL HM
       have e1 : ¬ k < n := fun h => hlt ⟨h, h⟩
       clear hlt
       go_wp2
       go_ret
       exact ⟨ret_int HE2.out.symm, below_drewN hB _⟩
      ·have HE2 : Hid (cmpR x y = cmpI n n2) := by
        show _ = _
        rw [HC.out, HE.out, HL.out, HM.out]
       have E4 : ((n : Int) != (n2 : Int)) = true := by rw [bne_iff_ne]; omega
       clear HC HE HL HM
       by_cases a3 : n < n2
       ·have HE3 := Lib.hid (HE2.out.trans (cmpI_lt (by omega)))
        have a1 : ¬ (k < n) := fun h => hlt ⟨h, by omega⟩
        clear hlt HE2 e0
        go_wp2
        go_ret
        exact ⟨ret_int HE3.out.symm, below_drewN hB _⟩
       ·have HE3 := Lib.hid (HE2.out.trans (cmpI_gt (by omega)))
        have a1 : k < n := by omega
        have a2 : ¬ (k < n2) := fun h => hlt ⟨by omega, h⟩
        clear hlt HE2 e0
        go_wp2
        go_ret
        exact ⟨ret_int HE3.out.symm, below_drewN hB _⟩
   ·have HC := Lib.hid ((cmpR_3 (cmpI_zero.2 h1) (cmpI_zero.2 h2.symm) (fun h => h3 (cmpS_zero.1 h))))
    have E3 : (x.nm == y.nm) = false := by simpa using h3
    clear h1 h2 h3
    go_enter Tryz.func74, Tryz.ntmps74
    go_wp2_with fail
    refine (refCompare_any x.nm y.nm _).mono ?_
    rintro e w' ⟨rfl, rfl⟩
    go_wp2
    go_ret
    exact ⟨ret_int HC.out.symm, hB⟩
  ·have E2 := bne_t h2
   by_cases h3 : y.e < x.e
   ·have HC := Lib.hid ((cmpR_2 (cmpI_zero.2 h1) (fun h => h2 (cmpI_zero.1 h).symm)).trans (cmpI_lt h3))
    clear h1 h2
    go_enter Tryz.func74, Tryz.ntmps74
    go_wp2
    go_ret
    exact ⟨ret_int HC.out.symm, hB⟩
   ·have HC := Lib.hid ((cmpR_2 (cmpI_zero.2 h1) (fun h => h2 (cmpI_zero.1 h).symm)).trans (cmpI_gt (by omega)))
    clear h1 h2
    go_enter Tryz.func74, Tryz.ntmps74
    go_wp2
    go_ret
    exact ⟨ret_int HC.out.symm, hB⟩
 ·have E1 := bne_t h1
  by_cases h3 : x.b < y.b
  ·have HC := Lib.hid ((cmpR_1 (fun h => h1 (cmpI_zero.1 h))).trans (cmpI_lt h3))
   clear h1
   go_enter Tryz.func74, Tryz.ntmps74
   go_wp2
   go_ret
   exact ⟨ret_int HC.out.symm, hB⟩
  ·have HC := Lib.hid ((cmpR_1 (fun h => h1 (cmpI_zero.1 h))).trans (cmpI_gt (by omega)))
   clear h1
   go_enter Tryz.func74, Tryz.ntmps74
   go_wp2
   go_ret
   exact ⟨ret_int HC.out.symm, hB⟩
end Go.Proofs.YtgkdaebiefhgdaaGreatDoor
