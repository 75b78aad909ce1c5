/-
 Several texts of this seat, one behind the other: CorFind, CorPair, CorAtt, CorTok, CorTxt. No conditions but those of each.
-/
import Derived.Test.YtgkdaebiefhgdaaGreatDoorPCorCmp
import Derived.Test.YtgkdaebiefhgdaaGreatDoorPBase6
namespace Go.Proofs.YtgkdaebiefhgdaaGreatDoor
open Go.RowKit
open Feat (Bs)
open Cor (findT textAt within)
theorem findT_at {l : List Cor.Txt} {nm : Bs} {k : Nat} (hk : k < l.length) (h : (l[k].nm == nm) = true) (hb : ∀ j (hj : j < k), (l[j].nm == nm) = false) : findT l nm = k := by
 unfold findT
 rw [List.findIdx?_eq_some_iff_getElem.2 ⟨hk, h, fun j hj => by rw [hb j hj]; simp⟩]
theorem findT_none {l : List Cor.Txt} {nm : Bs} (hb : ∀ j (hj : j < l.length), (l[j].nm == nm) = false) : findT l nm = -1 := by
 unfold findT
 rw [List.findIdx?_eq_none_iff.2 (fun x hx => by obtain ⟨i, hi, rfl⟩ := List.getElem_of_mem hx; exact hb i hi)]
def hits (t : Cor.Txt) (pos : Int) : Bool := decide (t.b ≤ pos) && decide (pos < t.e)
theorem textAt_at {l : List Cor.Txt} {pos : Int} {k : Nat} (hk : k < l.length) (h : hits l[k] pos = true) (hb : ∀ j (hj : j < k), hits l[j] pos = false) : textAt l pos = k := by
 unfold textAt
 rw [List.findIdx?_eq_some_iff_getElem.2 ⟨hk, h, fun j hj => by rw [show (decide (l[j].b ≤ pos) && decide (pos < l[j].e)) = false from hb j hj]; simp⟩]
theorem textAt_none {l : List Cor.Txt} {pos : Int} (hb : ∀ j (hj : j < l.length), hits l[j] pos = false) : textAt l pos = -1 := by
 unfold textAt
 rw [List.findIdx?_eq_none_iff.2 (fun x hx => by obtain ⟨i, hi, rfl⟩ := List.getElem_of_mem hx; exact hb i hi)]
def holds (t : Cor.Txt) (b e : Int) : Bool := decide (t.b ≤ b) && decide (b < e) && decide (e ≤ t.e)
theorem within_at {l : List Cor.Txt} {b e : Int} {k : Nat} (hk : k < l.length) (h : holds l[k] b e = true) : within l b e = true := by
 unfold within; rw [List.any_eq_true]; exact ⟨_, List.getElem_mem hk, h⟩
theorem within_none {l : List Cor.Txt} {b e : Int} (hb : ∀ j (hj : j < l.length), holds l[j] b e = false) : within l b e = false := by
 unfold within; rw [List.any_eq_false]
 intro x hx
 obtain ⟨i, hi, rfl⟩ := List.getElem_of_mem hx
 have := hb i hi
 unfold holds at this
 rw [this]; simp
theorem all_step {l : List Cor.Txt} {p : Cor.Txt → Bool} {k : Nat} (h : ∀ j (_ : j < k) (h2 : j < l.length), p l[j] = false) (hk : k < l.length) (e : p l[k] = false) : ∀ j (_ : j < k + 1) (h2 : j < l.length), p l[j] = false := by
 intro j hj h2
 by_cases e2 : j = k
 ·subst e2; exact e
 ·exact h j (by omega) h2

set_option maxRecDepth 100000 in
set_option maxHeartbeats 1600000 in
theorem findText_any (H : CH) (l : List Cor.Txt) (nm : Bs) (w : World) (hx : Txts w w.heap.size H.x l) :
  Calls Tryz.prog 52 #[H.v, str nm] w (Kept (.int .i64 (findT l nm)) w) := by
 obtain ⟨ha, ht, ⟨A, n, c⟩, hr, hn, hh, hl⟩ := H
 have HL := Lib.hid hx.len
 have f1 : n ≤ 9223372036854775807 := hx.fit.2
 have hB0 := (Below.refl w.heap.size w).alloc (Nat.le_refl _) (.cells #[ha.v, ht.v, .slice A n c, hr.v, hn.v, hh.v, hl.v] 30)
 show Calls Tryz.prog 52 #[.agg #[ha.v, ht.v, .slice A n c, hr.v, hn.v, hh.v, hl.v], str nm] w _
 go_enter Tryz.func52, Tryz.ntmps52
 go_wp2
 go_loopw [10] (fun iv wr => ∃ k : Nat, k ≤ n ∧ iv = .int .i64 k ∧ Below w.heap.size w wr ∧ Hid (∀ j (_ : j < k) (h2 : j < l.length), (l[j].nm == nm) = false)) (fun iv _ => n - (intOf iv).toNat)
 case atStart => exact ⟨0, by omega, rfl, hB0, fun j hj => by omega⟩
 case round =>
  obtain ⟨k, hk, rfl, hB, hinv⟩ := hrel
  by_cases hlt : k < n
  ·obtain ⟨g, o, H2, hk', rfl, hg, _, c0, c1, c2, c3⟩ := (hx.under hB).at_ hlt
   obtain ⟨x, hx'⟩ : ∃ p, l[k].nm = p := ⟨_, rfl⟩
   rw [hx'] at c0
   have HX := Lib.hid hx'
   clear hx'
   by_cases e : x = nm
   ·have E : (x == nm) = true := by simpa using e
    have HF : Hid (findT l nm = k) := findT_at hk' (by rw [HX.out]; exact E) (fun j hj => hinv.out j hj (by omega))
    clear e
    go_wp2
    go_ret
    exact ⟨ret_int HF.out.symm, hB.alloc hB.size _⟩
   ·have E : (x == nm) = false := by simpa using e
    have HI : Hid (∀ j (_ : j < k + 1) (h2 : j < l.length), (l[j].nm == nm) = false) := all_step (p := fun t => t.nm == nm) hinv.out hk' (by show (l[k].nm == nm) = false; rw [HX.out]; exact E)
    clear e hinv
    go_wp2
    go_roundw
    case rel => exact ⟨k + 1, by omega, by go_num, hB.alloc hB.size _, HI⟩
    case measure => simp [intOf]; omega
  ·have HF : Hid (findT l nm = -1) := findT_none (fun j hj => hinv.out j (by have : l.length = n := HL.out; omega) hj)
   clear hinv
   go_wp2
   go_ret
   exact ⟨ret_int HF.out.symm, hB⟩
set_option maxRecDepth 100000 in
set_option maxHeartbeats 1600000 in
theorem refFindText_any (H : CH) (l : List Cor.Txt) (nm : Bs) (w : World) (hx : Txts w w.heap.size H.x l) :
  Calls Tryz.prog 113 #[H.v, str nm] w (Kept (.int .i64 (findT l nm)) w) := by
 obtain ⟨ha, ht, ⟨A, n, c⟩, hr, hn, hh, hl⟩ := H
 have HL := Lib.hid hx.len
 have f1 : n ≤ 9223372036854775807 := hx.fit.2
 have hB0 := (Below.refl w.heap.size w).alloc (Nat.le_refl _) (.cells #[ha.v, ht.v, .slice A n c, hr.v, hn.v, hh.v, hl.v] 30)
 show Calls Tryz.prog 113 #[.agg #[ha.v, ht.v, .slice A n c, hr.v, hn.v, hh.v, hl.v], str nm] w _
 go_enter Tryz.func113, Tryz.ntmps113
 go_wp2
 go_loopw [10] (fun iv wr => ∃ k : Nat, k ≤ n ∧ iv = .int .i64 k ∧ Below w.heap.size w wr ∧ Hid (∀ j (_ : j < k) (h2 : j < l.length), (l[j].nm == nm) = false)) (fun iv _ => n - (intOf iv).toNat)
 case atStart => exact ⟨0, by omega, rfl, hB0, fun j hj => by omega⟩
 case round =>
  obtain ⟨k, hk, rfl, hB, hinv⟩ := hrel
  by_cases hlt : k < n
  ·obtain ⟨g, o, H2, hk', rfl, hg, _, c0, c1, c2, c3⟩ := (hx.under hB).at_ hlt
   obtain ⟨x, hx'⟩ : ∃ p, l[k].nm = p := ⟨_, rfl⟩
   rw [hx'] at c0
   have HX := Lib.hid hx'
   clear hx'
   by_cases e : x = nm
   ·have E : (x == nm) = true := by simpa using e
    have HF : Hid (findT l nm = k) := findT_at hk' (by rw [HX.out]; exact E) (fun j hj => hinv.out j hj (by omega))
    clear e
    go_wp2
    go_ret
    exact ⟨ret_int HF.out.symm, hB.alloc hB.size _⟩
   ·have E : (x == nm) = false := by simpa using e
    have HI : Hid (∀ j (_ : j < k + 1) (h2 : j < l.length), (l[j].nm == nm) = false) := all_step (p := fun t => t.nm == nm) hinv.out hk' (by show (l[k].nm == nm) = false; rw [HX.out]; exact E)
    clear e hinv
    go_wp2
    go_roundw
    case rel => exact ⟨k + 1, by omega, by go_num, hB.alloc hB.size _, HI⟩
    case measure => simp [intOf]; omega
  ·have HF : Hid (findT l nm = -1) := findT_none (fun j hj => hinv.out j (by have : l.length = n := HL.out; omega) hj)
   clear hinv
   go_wp2
   go_ret
   exact ⟨ret_int HF.out.symm, hB⟩
set_option maxRecDepth 100000 in
set_option maxHeartbeats 1600000 in
theorem textAt_any (H : CH) (l : List Cor.Txt) (pos : Int) (w : World) (hx : Txts w w.heap.size H.x l) :
  Calls Tryz.prog 136 #[H.v, .int .i64 pos] w (Kept (.int .i64 (textAt l pos)) w) := by
 obtain ⟨ha, ht, ⟨A, n, c⟩, hr, hn, hh, hl⟩ := H
 have HL := Lib.hid hx.len
 have f1 : n ≤ 9223372036854775807 := hx.fit.2
 have hB0 := (Below.refl w.heap.size w).alloc (Nat.le_refl _) (.cells #[ha.v, ht.v, .slice A n c, hr.v, hn.v, hh.v, hl.v] 30)
 show Calls Tryz.prog 136 #[.agg #[ha.v, ht.v, .slice A n c, hr.v, hn.v, hh.v, hl.v], .int .i64 pos] w _
 go_enter Tryz.func136, Tryz.ntmps136
 go_wp2
 go_loopw [10] (fun iv wr => ∃ k : Nat, k ≤ n ∧ iv = .int .i64 k ∧ Below w.heap.size w wr ∧ Hid (∀ j (_ : j < k) (h2 : j < l.length), hits l[j] pos = false)) (fun iv _ => n - (intOf iv).toNat)
 case atStart => exact ⟨0, by omega, rfl, hB0, fun j hj => by omega⟩
 case round =>
  obtain ⟨k, hk, rfl, hB, hinv⟩ := hrel
  by_cases hlt : k < n
  ·obtain ⟨g, o, H2, hk', rfl, hg, _, c0, c1, c2, c3⟩ := (hx.under hB).at_ hlt
   obtain ⟨x, hx'⟩ : ∃ p, l[k].b = p := ⟨_, rfl⟩
   obtain ⟨y, hy'⟩ : ∃ p, l[k].e = p := ⟨_, rfl⟩
   rw [hx'] at c1
   rw [hy'] at c2
   have HX : Hid (hits l[k] pos = (decide (x ≤ pos) && decide (pos < y))) := by show _ = _; unfold hits; rw [hx', hy']
   clear hx' hy'
   by_cases e : x ≤ pos
   ·by_cases e2 : pos < y
    ·have HF : Hid (textAt l pos = k) := textAt_at hk' (by rw [HX.out]; simp [e, e2]) (fun j hj => hinv.out j hj (by omega))
     go_wp2
     go_ret
     exact ⟨ret_int HF.out.symm, hB.alloc hB.size _⟩
    ·have HI : Hid (∀ j (_ : j < k + 1) (h2 : j < l.length), hits l[j] pos = false) := all_step (p := fun t => hits t pos) hinv.out hk' (by show hits l[k] pos = false; rw [HX.out]; simp [e2])
     clear hinv
     go_wp2
     go_roundw
     case rel => exact ⟨k + 1, by omega, by go_num, hB.alloc hB.size _, HI⟩
     case measure => simp [intOf]; omega
   ·have HI : Hid (∀ j (_ : j < k + 1) (h2 : j < l.length), hits l[j] pos = false) := all_step (p := fun t => hits t pos) hinv.out hk' (by show hits l[k] pos = false; rw [HX.out]; simp [e])
    clear hinv
    go_wp2
    go_roundw
    case rel => exact ⟨k + 1, by omega, by go_num, hB.alloc hB.size _, HI⟩
    case measure => simp [intOf]; omega
  ·have HF : Hid (textAt l pos = -1) := textAt_none (fun j hj => hinv.out j (by have : l.length = n := HL.out; omega) hj)
   clear hinv
   go_wp2
   go_ret
   exact ⟨ret_int HF.out.symm, hB⟩

def Row_ (l : List Cor.Txt) : Prop := ∀ i j (_ : i < j) (h : j < l.length), l[i].e ≤ l[j].b
theorem hits_one {l : List Cor.Txt} {pos : Int} (hr : Row_ l) {k : Nat} (hk : k < l.length) (h : hits l[k] pos = true) : textAt l pos = k := by
 refine textAt_at hk h fun j hj => ?_
 have := hr j k hj hk
 unfold hits at h ⊢
 simp only [Bool.and_eq_true, decide_eq_true_eq] at h
 simp only [Bool.and_eq_false_iff, decide_eq_false_iff_not]
 right; omega
theorem textAt_cases (l : List Cor.Txt) (pos : Int) : (textAt l pos = -1 ∧ ∀ j (hj : j < l.length), hits l[j] pos = false) ∨ ∃ k, ∃ hk : k < l.length, textAt l pos = k ∧ hits l[k] pos = true := by
 unfold textAt
 cases h : l.findIdx? (fun t => decide (t.b ≤ pos) && decide (pos < t.e)) with
 | none =>
  left; refine ⟨rfl, fun j hj => ?_⟩
  exact List.findIdx?_eq_none_iff.1 h _ (List.getElem_mem hj)
 | some k =>
  right
  obtain ⟨hk, hp, _⟩ := List.findIdx?_eq_some_iff_getElem.1 h
  exact ⟨k, hk, rfl, hp⟩
theorem inT_no {l : List Cor.Txt} {b e : Int} (h : ¬ b < e) : within l b e = false := within_none (fun j hj => by unfold holds; simp [h])
theorem inT_none {l : List Cor.Txt} {b e : Int} (h : textAt l b = -1) : within l b e = false := by
 rcases textAt_cases l b with ⟨_, h2⟩ | ⟨k, hk, e, _⟩
 ·refine within_none fun j hj => ?_
  have := h2 j hj
  unfold hits at this
  unfold holds
  simp only [Bool.and_eq_false_iff, decide_eq_false_iff_not] at this ⊢
  omega
 ·rw [e] at h; omega
theorem inT_at {l : List Cor.Txt} {b e : Int} (hr : Row_ l) {k : Nat} (hk : k < l.length) (h : hits l[k] b = true) (h2 : b < e) : within l b e = decide (e ≤ l[k].e) := by
 have hb := h
 unfold hits at hb
 simp only [Bool.and_eq_true, decide_eq_true_eq] at hb
 by_cases he : e ≤ l[k].e
 ·rw [within_at hk (by unfold holds; simp [hb.1, h2, he])]; simp [he]
 ·rw [within_none (fun j hj => ?_)]
  ·simp [he]
  ·rcases Nat.lt_trichotomy j k with hj2 | hj2 | hj2
   ·have := hr j k hj2 hk; unfold holds; simp only [Bool.and_eq_false_iff, decide_eq_false_iff_not]; omega
   ·subst hj2; unfold holds; simp [he]
   ·have := hr k j hj2 hj; unfold holds; simp only [Bool.and_eq_false_iff, decide_eq_false_iff_not]; omega

set_option maxRecDepth 100000 in
set_option maxHeartbeats 1600000 in
theorem inText_any (H : CH) (l : List Cor.Txt) (b e : Int) (w : World) (hx : Txts w w.heap.size H.x l) (hrow : Row_ l) :
  Calls Tryz.prog 131 #[H.v, .int .i64 b, .int .i64 e] w (Kept (.bool (within l b e)) w) := by
 obtain ⟨ha, ht, ⟨A, n, c⟩, hr, hn, hh, hl⟩ := H
 have f1 : n ≤ 9223372036854775807 := hx.fit.2
 have HL := Lib.hid hx.len
 have hB0 := (Below.refl w.heap.size w).alloc (Nat.le_refl _) (.cells #[ha.v, ht.v, .slice A n c, hr.v, hn.v, hh.v, hl.v] 30)
 have hb0 := Blk.new w 30 #[ha.v, ht.v, .slice A n c, hr.v, hn.v, hh.v, hl.v]
 have HT := textAt_any ⟨ha, ht, ⟨A, n, c⟩, hr, hn, hh, hl⟩ l b _ ((hx.under hB0).up hB0.size)
 show Calls Tryz.prog 131 #[.agg #[ha.v, ht.v, .slice A n c, hr.v, hn.v, hh.v, hl.v], .int .i64 b, .int .i64 e] w _
 go_enter Tryz.func131, Tryz.ntmps131
 go_wp2_with fail
 refine HT.mono ?_
 rintro e' w1 ⟨rfl, hb1⟩
 clear HT
 have hB1 := hB0.trans (hb1.mono hB0.size)
 have c2 := (hb0.below hb1).cell 2
 clear hb0
 rcases textAt_cases l b with ⟨e1, _⟩ | ⟨k, hk, e1, h1⟩
 ·have HF := Lib.hid (inT_none (e := e) e1)
  rw [e1]
  clear e1
  by_cases hbe : b < e
  ·go_wp2
   go_ret
   exact ⟨ret_bool HF.out.symm, hB1⟩
  ·go_wp2
   go_ret
   exact ⟨ret_bool HF.out.symm, hB1⟩
 ·rw [e1]
  clear e1
  by_cases hbe : b < e
  ·have HF := Lib.hid (inT_at (e := e) hrow hk h1 hbe)
   obtain ⟨g, o, H2, hk', rfl, hg, _, d0, d1, d2, d3⟩ := (hx.under hB1).at_ (k := k) (show k < n by have : l.length = n := HL.out; omega)
   obtain ⟨y, hy⟩ : ∃ y, l[k].e = y := ⟨_, rfl⟩
   rw [hy] at d2 HF
   have hkn : k < n := by have : l.length = n := HL.out; omega
   clear hy
   go_wp2
   go_ret
   exact ⟨ret_bool HF.out.symm, hB1⟩
  ·have HF := Lib.hid (inT_no (l := l) hbe)
   go_wp2
   go_ret
   exact ⟨ret_bool HF.out.symm, hB1⟩
end Go.Proofs.YtgkdaebiefhgdaaGreatDoor
namespace Go.Proofs.YtgkdaebiefhgdaaGreatDoor
open Go.RowKit Utf
open Feat (Bs)
open Tagp (KV okName)
open Cor (prF prErr first)
theorem prF_at {l : List KV} {k : Nat} (hk : k < l.length) : prF l k = if okName l[k].1 = false then 4 else if 0 < k ∧ (!Feat.lt (l[k - 1]'(by omega)).1 l[k].1) = true then 6 else vErr l[k].2 := by
 unfold prF
 rw [List.getElem?_eq_getElem hk, List.getElem?_eq_getElem (show k - 1 < l.length by omega)]
 rfl
theorem prErr_at {l : List KV} {k : Nat} (h8 : ¬ 8 < l.length) (hk : k < l.length) (h : ∀ j, j < k → prF l j = 0) (hf : prF l k ≠ 0) : prErr l = prF l k := by
 unfold prErr; rw [if_neg h8, Cor.first_at 0 l.length k (Nat.zero_le _) (by omega) (fun j _ hj => h j hj) hf]
theorem prErr_zero {l : List KV} (h8 : ¬ 8 < l.length) (h : ∀ j, j < l.length → prF l j = 0) : prErr l = 0 := by
 unfold prErr; rw [if_neg h8, Cor.first_none 0 l.length (fun j _ hj => h j (by omega))]
theorem upto_step {f : Nat → Nat} {k : Nat} (h : ∀ j, j < k → f j = 0) (e : f k = 0) : ∀ j, j < k + 1 → f j = 0 := by
 intro j hj
 by_cases e2 : j = k
 ·subst e2; exact e
 ·exact h j (by omega)

set_option maxRecDepth 100000 in
set_option maxHeartbeats 2000000 in
theorem pairs_any (A : Option Addr) (n c : Nat) (l : List KV) (w : World) (hx : Keys w w.heap.size ⟨A, n, c⟩ l) :
  Calls Tryz.prog 130 #[.slice A n c] w (Kept (.int .i64 (prErr l : Nat)) w) := by
 have HL := Lib.hid hx.len
 have f1 : n ≤ 9223372036854775807 := hx.1.2
 by_cases h8 : 8 < n
 ·have HF : Hid (prErr l = 2) := by show _ = _; unfold prErr; rw [if_pos (by have : l.length = n := HL.out; omega)]
  go_enter Tryz.func130, Tryz.ntmps130
  go_wp2
  go_ret
  exact ⟨ret_int (by rw [HF.out]; rfl), Below.refl _ _⟩
 ·go_enter Tryz.func130, Tryz.ntmps130
  go_wp2
  go_loopw [11] (fun iv wr => ∃ k : Nat, k ≤ n ∧ iv = .int .i64 k ∧ Below w.heap.size w wr ∧ Hid (∀ j, j < k → prF l j = 0)) (fun iv _ => n - (intOf iv).toNat)
  case atStart => exact ⟨0, by omega, rfl, Below.refl _ _, fun j hj => by omega⟩
  case round =>
   obtain ⟨k, hk, rfl, hB, hinv⟩ := hrel
   by_cases hlt : k < n
   ·obtain ⟨g, o, hk', e0, hg, ⟨z0, z1⟩, c0, c1⟩ := (hx.under hB).at_ hlt
    have e0 : A = some ⟨g, o, none⟩ := e0
    subst e0
    have HF := Lib.hid (prF_at hk')
    have HA := fun h => prErr_at (l := l) (k := k) (by have : l.length = n := HL.out; omega) hk' hinv.out h
    have HA := Lib.hid HA
    have hm := (hx.under (hB.alloc hB.size (.cells #[str l[k].1, str l[k].2] 84))).at_ (k := k - 1) (show k - 1 < n by omega)
    obtain ⟨g', o', hk1, e0, hg', dz, d0, dx⟩ := hm
    clear dx dz
    cases e0
    obtain ⟨⟨x, v⟩, hx'⟩ : ∃ p, l[k] = p := ⟨_, rfl⟩
    obtain ⟨y, hy'⟩ : ∃ p, l[k - 1].1 = p := ⟨_, rfl⟩
    rw [hx', hy'] at HF
    rw [hx'] at c0 c1 z0 z1
    rw [hy', hx'] at d0
    have z0 : x.length ≤ 9223372036854775807 := z0
    have z1 : v.length ≤ 9223372036854775807 := z1
    clear hx' hy' hk'
    have hBa := hB.alloc hB.size (.cells #[str x, str v] 84)
    go_wp2_with fail
    refine (validName_any x z0 _).mono ?_
    rintro e w1 ⟨rfl, rfl⟩
    cases hok : okName x with
    | false =>
     have HF2 := Lib.hid (HF.out.trans (if_pos hok))
     have HF3 := Lib.hid ((HA.out (by rw [HF2.out]; simp)).trans HF2.out)
     clear hok HF HA HF2
     go_wp2
     go_ret
     exact ⟨ret_int (by rw [HF3.out]; rfl), hBa⟩
    | true =>
     have HF2 := Lib.hid (HF.out.trans (if_neg (by rw [hok]; simp)))
     clear hok HF
     have fin : ∀ W : World, Below w.heap.size w W → True := fun _ _ => trivial
     clear fin
     by_cases h0 : 0 < k
     ·have i1 : IntKind.i64.wrap ((k : Int) - 1) = ((k - 1 : Nat) : Int) := by rw [IntWalk.i64_in _ (by omega)]; omega
      have h1 : decide (0 < k) = true := by simpa using h0
      have h2 : 0 ≤ (k : Int) - 1 := by omega
      have h3 : (k : Int) - 1 < n := by omega
      have h4 : ((k : Int) - 1).toNat = k - 1 := by omega
      cases hlt2 : Feat.lt y x with
      | false =>
       have HF3 := Lib.hid (HF2.out.trans (if_pos ⟨h0, by rw [hlt2]; rfl⟩))
       have HF4 := Lib.hid ((HA.out (by rw [HF3.out]; simp)).trans HF3.out)
       clear HF2 HF3 HA hinv
       unfold Feat.lt at hlt2
       go_wp2
       go_big_quiet (fail)
       go_wp2
       go_ret
       exact ⟨ret_int (by rw [HF4.out]; rfl), below_drewN hBa _⟩
      | true =>
       have HF3 := Lib.hid (HF2.out.trans (if_neg (fun h => by rw [hlt2] at h; simp at h)))
       clear HF2
       unfold Feat.lt at hlt2
       go_wp2
       go_big_quiet (fail)
       clear i1 h1 h2 h3 h4 hlt2
       go_wp2_with fail
       refine (value_any v z1 _).mono ?_
       rintro e w2 ⟨rfl, hb2⟩
       have hB2 := (below_drewN hBa _).trans (hb2.mono (below_drewN hBa _).size)
       by_cases hv : vErr v = 0
       ·have E : ((vErr v : Int) != 0) = false := by rw [hv]; rfl
        have HI : Hid (∀ j, j < k + 1 → prF l j = 0) := upto_step hinv.out (by rw [HF3.out, hv])
        clear hv HF3 HA hinv
        go_wp2
        go_roundw
        case rel => exact ⟨k + 1, by omega, by go_num, hB2, HI⟩
        case measure => simp [intOf]; omega
       ·have E : ((vErr v : Int) != 0) = true := by rw [bne_iff_ne]; omega
        have HF4 := Lib.hid ((HA.out (by rw [HF3.out]; exact hv)).trans HF3.out)
        clear hv HF3 HA hinv
        go_wp2
        go_ret
        exact ⟨ret_int (by rw [HF4.out]), hB2⟩
     ·obtain rfl : k = 0 := by omega
      have HF3 := Lib.hid (HF2.out.trans (if_neg (fun h => h0 h.1)))
      clear HF2 h0
      go_wp2
      go_big_quiet (fail)
      go_wp2_with fail
      refine (value_any v z1 _).mono ?_
      rintro e w2 ⟨rfl, hb2⟩
      have hB2 := (below_drewN hBa _).trans (hb2.mono (below_drewN hBa _).size)
      by_cases hv : vErr v = 0
      ·have E : ((vErr v : Int) != 0) = false := by rw [hv]; rfl
       have HI : Hid (∀ j, j < 0 + 1 → prF l j = 0) := upto_step hinv.out (by rw [HF3.out, hv])
       clear hv HF3 HA hinv
       go_wp2
       go_roundw
       case rel => exact ⟨0 + 1, by omega, by go_num, hB2, HI⟩
       case measure => simp [intOf]; omega
      ·have E : ((vErr v : Int) != 0) = true := by rw [bne_iff_ne]; omega
       have HF4 := Lib.hid ((HA.out (by rw [HF3.out]; exact hv)).trans HF3.out)
       clear hv HF3 HA hinv
       go_wp2
       go_ret
       exact ⟨ret_int (by rw [HF4.out]), hB2⟩
   ·have HF : Hid (prErr l = 0) := prErr_zero (by have : l.length = n := HL.out; omega) (fun j hj => hinv.out j (by have : l.length = n := HL.out; omega))
    clear hinv
    go_wp2
    go_ret
    exact ⟨ret_int (by rw [HF.out]; rfl), hB⟩

end Go.Proofs.YtgkdaebiefhgdaaGreatDoor
namespace Go.Proofs.YtgkdaebiefhgdaaGreatDoor
open Go.RowKit Utf
open Feat (Bs)
open Tagp (KV okName)
open Cor (atF atErr vlErr tvF tkF tkErr first)
theorem ret_pt {p : Nat × Nat} {a b : Int} (h1 : (p.1 : Int) = a) (h2 : (p.2 : Int) = b) : Ending.returned (.tuple #[.int .i64 a, .int .i64 b]) = .returned (.tuple #[.int .i64 (p.1 : Nat), .int .i64 (p.2 : Nat)]) := by rw [h1, h2]
theorem ret_p {p q : Nat × Nat} (h : p = q) {a b : Int} (h1 : (q.1 : Int) = a) (h2 : (q.2 : Int) = b) : Ending.returned (.tuple #[.int .i64 a, .int .i64 b]) = .returned (.tuple #[.int .i64 (p.1 : Nat), .int .i64 (p.2 : Nat)]) := by rw [h]; exact ret_pt h1 h2
theorem any_take_true {α : Type} {l : List α} {p : α → Bool} {k j : Nat} (hj : j < k) (hl : j < l.length) (h : p l[j] = true) : (l.take k).any p = true := by
 rw [List.any_eq_true]
 refine ⟨l[j], ?_, h⟩
 rw [List.mem_take_iff_getElem]
 exact ⟨j, by omega, rfl⟩
theorem any_take_false {α : Type} {l : List α} {p : α → Bool} {k : Nat} (h : ∀ j (_ : j < k) (h2 : j < l.length), p l[j] = false) : (l.take k).any p = false := by
 rw [List.any_eq_false]
 intro x hx
 rw [List.mem_take_iff_getElem] at hx
 obtain ⟨j, hj, rfl⟩ := hx
 rw [h j (by omega) (by omega)]; simp
theorem stepG {α : Type} {l : List α} {p : α → Bool} {k : Nat} (h : ∀ j (_ : j < k) (h2 : j < l.length), p l[j] = false) (hk : k < l.length) (e : p l[k] = false) : ∀ j (_ : j < k + 1) (h2 : j < l.length), p l[j] = false := by
 intro j hj h2
 by_cases e2 : j = k
 ·subst e2; exact e
 ·exact h j (by omega) h2

theorem atF_at {l : List At} {k : Nat} (hk : k < l.length) : atF l k = if okName l[k].1 = false then 4 else if (l.take k).any (fun b => b.1 == l[k].1) = true then 5 else 0 := by
 unfold atF; rw [List.getElem?_eq_getElem hk]
theorem atErr_at {l : List At} {k : Nat} (h8 : ¬ 8 < l.length) (hk : k < l.length) (h : ∀ j, j < k → atF l j = 0) (hf : atF l k ≠ 0) : atErr l = (k, atF l k) := by
 unfold atErr; rw [if_neg (by omega), if_neg h8, Cor.first_at 0 l.length k (Nat.zero_le _) (by omega) (fun j _ hj => h j hj) hf]
theorem atErr_zero {l : List At} (h0 : l.length ≠ 0) (h8 : ¬ 8 < l.length) (h : ∀ j, j < l.length → atF l j = 0) : atErr l = (0, 0) := by
 unfold atErr; rw [if_neg h0, if_neg h8, Cor.first_none 0 l.length (fun j _ hj => h j (by omega))]
theorem info_attr : (Tryz.prog.info? 73).map (fun i => (i.zero, i.size, i.bytes)) = some (some (.agg #[.string ⟨#[]⟩, .bool false]), 2, 24) := by kernel_rfl

set_option maxRecDepth 100000 in
theorem value1_any (a : At) (v : Bs) (hv : v.length ≤ 9223372036854775807) (w : World) :
  Calls Tryz.prog 129 #[.agg #[str a.1, .bool a.2], str v] w (Kept (.int .i64 (vlErr a v : Nat)) w) := by
 obtain ⟨x, b⟩ := a
 have hB0 := (Below.refl w.heap.size w).alloc (Nat.le_refl _) (.cells #[str x, .bool b] 73)
 cases b with
 | true =>
  have HF : Hid (vlErr (x, true) v = (Feat.parse v).2) := by show _ = _; unfold vlErr; rw [if_pos rfl]
  go_enter Tryz.func129, Tryz.ntmps129
  go_wp2_with fail
  refine (parse_any v hv _).mono ?_
  rintro e w1 ⟨u, rfl, _, hb⟩
  go_wp2
  go_ret
  exact ⟨ret_int (by rw [HF.out]), hB0.trans (hb.mono hB0.size)⟩
 | false =>
  have HF : Hid (vlErr (x, false) v = vErr v) := by show _ = _; unfold vlErr; rw [if_neg (by simp)]
  go_enter Tryz.func129, Tryz.ntmps129
  go_wp2_with fail
  refine (value_any v hv _).mono ?_
  rintro e w1 ⟨rfl, hb⟩
  go_wp2
  go_ret
  exact ⟨ret_int (by rw [HF.out]), hB0.trans (hb.mono hB0.size)⟩
set_option maxRecDepth 100000 in
theorem refValue1_any (a : At) (v : Bs) (hv : v.length ≤ 9223372036854775807) (w : World) :
  Calls Tryz.prog 72 #[.agg #[str a.1, .bool a.2], str v] w (Kept (.int .i64 (vlErr a v : Nat)) w) := by
 obtain ⟨x, b⟩ := a
 have hB0 := (Below.refl w.heap.size w).alloc (Nat.le_refl _) (.cells #[str x, .bool b] 73)
 cases b with
 | true =>
  have HF : Hid (vlErr (x, true) v = (Feat.parse v).2) := by show _ = _; unfold vlErr; rw [if_pos rfl]
  go_enter Tryz.func72, Tryz.ntmps72
  go_wp2_with fail
  refine (refParse_any v hv _).mono ?_
  rintro e w1 ⟨u, rfl, _, hb⟩
  go_wp2
  go_ret
  exact ⟨ret_int (by rw [HF.out]), hB0.trans (hb.mono hB0.size)⟩
 | false =>
  have HF : Hid (vlErr (x, false) v = vErr v) := by show _ = _; unfold vlErr; rw [if_neg (by simp)]
  go_enter Tryz.func72, Tryz.ntmps72
  go_wp2_with fail
  refine (refValue_any v hv _).mono ?_
  rintro e w1 ⟨rfl, hb⟩
  go_wp2
  go_ret
  exact ⟨ret_int (by rw [HF.out]), hB0.trans (hb.mono hB0.size)⟩

set_option maxRecDepth 100000 in
set_option maxHeartbeats 2000000 in
theorem attributes_any (H : CH) (l : List At) (w : World) (hx : Atts w w.heap.size H.a l) :
  Calls Tryz.prog 88 #[H.v] w (Kept (.tuple #[.int .i64 ((atErr l).1 : Nat), .int .i64 ((atErr l).2 : Nat)]) w) := by
 obtain ⟨⟨A, n, c⟩, ht, hX, hr, hn, hh, hl⟩ := H
 have HL := Lib.hid hx.len
 have f1 : n ≤ 9223372036854775807 := hx.1.2
 have f2 : n ≤ c := hx.1.1
 obtain ⟨i0, hi0, hz0, hz1, hz2⟩ := info_parts info_attr
 have hB0 := (Below.refl w.heap.size w).alloc (Nat.le_refl _) (.cells #[.slice A n c, ht.v, hX.v, hr.v, hn.v, hh.v, hl.v] 30)
 have hb0 := Blk.new w 30 #[.slice A n c, ht.v, hX.v, hr.v, hn.v, hh.v, hl.v]
 show Calls Tryz.prog 88 #[.agg #[.slice A n c, ht.v, hX.v, hr.v, hn.v, hh.v, hl.v]] w _
 by_cases h0 : n = 0
 ·subst h0
  have HF : Hid (atErr l = (0, 15)) := by show _ = _; unfold atErr; rw [if_pos HL.out]
  go_enter Tryz.func88, Tryz.ntmps88
  go_wp2
  go_ret2
  exact ⟨ret_p HF.out rfl rfl, hB0⟩
 have E0 : ((n : Int) == 0) = false := by rw [beq_eq_false_iff_ne]; omega
 by_cases h8 : 8 < n
 ·have HF : Hid (atErr l = (0, 2)) := by show _ = _; unfold atErr; rw [if_neg (by have : l.length = n := HL.out; omega), if_pos (by have : l.length = n := HL.out; omega)]
  clear h0
  go_enter Tryz.func88, Tryz.ntmps88
  go_wp2
  go_ret2
  exact ⟨ret_p HF.out rfl rfl, hB0⟩
 go_enter Tryz.func88, Tryz.ntmps88
 go_wp2
 go_loopw [21] (fun iv wr => ∃ k : Nat, k ≤ n ∧ iv = .int .i64 k ∧ Below w.heap.size w wr ∧ Blk wr w.heap.size 30 #[.slice A n c, ht.v, hX.v, hr.v, hn.v, hh.v, hl.v] ∧ Hid (∀ j, j < k → atF l j = 0)) (fun iv _ => n - (intOf iv).toNat)
 case atStart => exact ⟨0, by omega, rfl, hB0, hb0, fun j hj => by omega⟩
 case round =>
  obtain ⟨k, hk, rfl, hB, hbx, hinv⟩ := hrel
  by_cases hlt : k < n
  ·obtain ⟨g, o, hk', e0, hg, z0, c0, c1⟩ := (hx.under hB).at_ hlt
   have e0 : A = some ⟨g, o, none⟩ := e0
   subst e0
   have HF := Lib.hid (atF_at hk')
   have HA := Lib.hid (fun h => atErr_at (l := l) (k := k) (by have : l.length = n := HL.out; omega) hk' hinv.out h)
   obtain ⟨⟨x, xb⟩, hx'⟩ : ∃ p, l[k] = p := ⟨_, rfl⟩
   rw [hx'] at HF c0 c1 z0
   have z0 : x.length ≤ 9223372036854775807 := z0
   clear hx' hk'
   have hBa := hB.alloc hB.size (.cells #[str x, .bool xb] 73)
   have hpa := Blk.new wr 73 #[str x, .bool xb]
   have b00 := hbx.cell 0
   have b01 := (hbx.alloc (.cells #[str x, .bool xb] 73)).cell 0
   go_wp2_with fail
   refine (validName_any x z0 _).mono ?_
   rintro e w1 ⟨rfl, rfl⟩
   cases hok : okName x with
   | false =>
    have HF2 := Lib.hid (HF.out.trans (if_pos hok))
    have HF3 : Hid (atErr l = (k, 4)) := by show _ = _; rw [HA.out (by rw [HF2.out]; simp), HF2.out]
    clear hok HF HA HF2
    go_wp2
    go_ret2
    exact ⟨ret_p HF3.out rfl rfl, hBa⟩
   | true =>
    have HF2 := Lib.hid (HF.out.trans (if_neg (by rw [hok]; simp)))
    clear hok HF
    have hs1 := fun W => slice_to (P := Tryz.prog) 22 73 i0 Tryz.underlying22 hi0 (some ⟨g, o, none⟩) n c k (by omega) W
    go_wp2
    obtain ⟨wo, rfl⟩ : ∃ wo : World, wo = wr := ⟨_, rfl⟩
    go_loopw [36] (fun jv wr2 => ∃ j : Nat, j ≤ k ∧ jv = .int .i64 j ∧ Below w.heap.size w wr2 ∧ Blk wr2 w.heap.size 30 #[.slice (some ⟨g, o, none⟩) n c, ht.v, hX.v, hr.v, hn.v, hh.v, hl.v] ∧ Blk wr2 wo.heap.size 73 #[str x, .bool xb] ∧ Hid (∀ i (_ : i < j) (h2 : i < l.length), (l[i].1 == x) = false)) (fun jv _ => k - (intOf jv).toNat)
    case atStart => exact ⟨0, by omega, rfl, hBa, hbx.alloc _, hpa, fun j hj => by omega⟩
    case round =>
     obtain ⟨j, hj, rfl, hB2, hbx2, hp2, hin2⟩ := hrel
     by_cases hjt : j < k
     ·obtain ⟨g', o', hj', e0, hg', hz', d0, d1⟩ := (hx.under hB2).at_ (k := j) (show j < n by omega)
      cases e0
      clear hz'
      obtain ⟨⟨y, yb⟩, hy'⟩ : ∃ p, l[j] = p := ⟨_, rfl⟩
      have hpx := (hp2.alloc (.cells #[str y, .bool yb] 73)).cell 0
      rw [hy'] at d0 d1
      have HY := Lib.hid hy'
      clear hy'
      by_cases e : y = x
      ·have E : (y == x) = true := by simpa using e
       have E2 : (x == y) = true := by simpa using e.symm
       have HF3 : Hid (atErr l = (k, 5)) := by
        have hf := HF2.out.trans (if_pos (any_take_true (p := fun b : At => b.1 == x) hjt hj' (by show (l[j].1 == x) = true; rw [HY.out]; exact E)))
        show _ = _
        rw [HA.out (by rw [hf]; simp), hf]
       clear e HF2 HA HY hj'
       go_wp2
       go_ret2
       exact ⟨ret_p HF3.out rfl rfl, hB2.alloc hB2.size _⟩
      ·have E : (y == x) = false := by simpa using e
       have E2 : (x == y) = false := by simpa using fun h => e h.symm
       have HI : Hid (∀ i (_ : i < j + 1) (h2 : i < l.length), (l[i].1 == x) = false) := stepG (p := fun b : At => b.1 == x) hin2.out hj' (by show (l[j].1 == x) = false; rw [HY.out]; exact E)
       clear e hin2 HY hj'
       go_wp2
       go_roundw
       case rel => exact ⟨j + 1, by omega, by go_num, hB2.alloc hB2.size _, hbx2.alloc _, hp2.alloc _, HI⟩
       case measure => simp [intOf]; omega
     ·have HI : Hid (∀ i, i < k + 1 → atF l i = 0) := by
       have hf := HF2.out.trans (if_neg (by rw [any_take_false (p := fun b : At => b.1 == x) (fun i hi h2 => hin2.out i (by omega) h2)]; simp))
       exact upto_step hinv.out hf
      clear hin2 HF2 HA
      go_wp2
      go_roundw
      case rel => exact ⟨k + 1, by omega, by go_num, hB2, hbx2, HI⟩
      case measure => simp [intOf]; omega
  ·have HF : Hid (atErr l = (0, 0)) := atErr_zero (by have : l.length = n := HL.out; omega) (by have : l.length = n := HL.out; omega) (fun j hj => hinv.out j (by have : l.length = n := HL.out; omega))
   clear hinv h0
   go_wp2
   go_ret2
   exact ⟨ret_p HF.out rfl rfl, hB⟩

set_option maxRecDepth 100000 in
set_option maxHeartbeats 2000000 in
theorem refAttributes_any (A : Option Addr) (n c : Nat) (l : List At) (w : World) (hx : Atts w w.heap.size ⟨A, n, c⟩ l) :
  Calls Tryz.prog 25 #[.slice A n c] w (Kept (.tuple #[.int .i64 ((atErr l).1 : Nat), .int .i64 ((atErr l).2 : Nat)]) w) := by
 have HL := Lib.hid hx.len
 have f1 : n ≤ 9223372036854775807 := hx.1.2
 have f2 : n ≤ c := hx.1.1
 obtain ⟨i0, hi0, hz0, hz1, hz2⟩ := info_parts info_attr
 have hB0 := Below.refl w.heap.size w
 by_cases h0 : n = 0
 ·subst h0
  have HF : Hid (atErr l = (0, 15)) := by show _ = _; unfold atErr; rw [if_pos HL.out]
  go_enter Tryz.func25, Tryz.ntmps25
  go_wp2
  go_ret2
  exact ⟨ret_p HF.out rfl rfl, hB0⟩
 have E0 : ((n : Int) == 0) = false := by rw [beq_eq_false_iff_ne]; omega
 by_cases h8 : 8 < n
 ·have HF : Hid (atErr l = (0, 2)) := by show _ = _; unfold atErr; rw [if_neg (by have : l.length = n := HL.out; omega), if_pos (by have : l.length = n := HL.out; omega)]
  clear h0
  go_enter Tryz.func25, Tryz.ntmps25
  go_wp2
  go_ret2
  exact ⟨ret_p HF.out rfl rfl, hB0⟩
 go_enter Tryz.func25, Tryz.ntmps25
 go_wp2
 go_loopw [16] (fun iv wr => ∃ k : Nat, k ≤ n ∧ iv = .int .i64 k ∧ Below w.heap.size w wr ∧ Hid (∀ j, j < k → atF l j = 0)) (fun iv _ => n - (intOf iv).toNat)
 case atStart => exact ⟨0, by omega, rfl, hB0, fun j hj => by omega⟩
 case round =>
  obtain ⟨k, hk, rfl, hB, hinv⟩ := hrel
  by_cases hlt : k < n
  ·obtain ⟨g, o, hk', e0, hg, z0, c0, c1⟩ := (hx.under hB).at_ hlt
   have e0 : A = some ⟨g, o, none⟩ := e0
   subst e0
   have HF := Lib.hid (atF_at hk')
   have HA := Lib.hid (fun h => atErr_at (l := l) (k := k) (by have : l.length = n := HL.out; omega) hk' hinv.out h)
   obtain ⟨⟨x, xb⟩, hx'⟩ : ∃ p, l[k] = p := ⟨_, rfl⟩
   rw [hx'] at HF c0 c1 z0
   have z0 : x.length ≤ 9223372036854775807 := z0
   clear hx' hk'
   have hBa := hB.alloc hB.size (.cells #[str x, .bool xb] 73)
   have hpa := Blk.new wr 73 #[str x, .bool xb]
   go_wp2_with fail
   refine (refValidName_any x z0 _).mono ?_
   rintro e w1 ⟨rfl, rfl⟩
   cases hok : okName x with
   | false =>
    have HF2 := Lib.hid (HF.out.trans (if_pos hok))
    have HF3 : Hid (atErr l = (k, 4)) := by show _ = _; rw [HA.out (by rw [HF2.out]; simp), HF2.out]
    clear hok HF HA HF2
    go_wp2
    go_ret2
    exact ⟨ret_p HF3.out rfl rfl, hBa⟩
   | true =>
    have HF2 := Lib.hid (HF.out.trans (if_neg (by rw [hok]; simp)))
    clear hok HF
    have hs1 := fun W => slice_to (P := Tryz.prog) 22 73 i0 Tryz.underlying22 hi0 (some ⟨g, o, none⟩) n c k (by omega) W
    go_wp2
    obtain ⟨wo, rfl⟩ : ∃ wo : World, wo = wr := ⟨_, rfl⟩
    go_loopw [30] (fun jv wr2 => ∃ j : Nat, j ≤ k ∧ jv = .int .i64 j ∧ Below w.heap.size w wr2 ∧ Blk wr2 wo.heap.size 73 #[str x, .bool xb] ∧ Hid (∀ i (_ : i < j) (h2 : i < l.length), (l[i].1 == x) = false)) (fun jv _ => k - (intOf jv).toNat)
    case atStart => exact ⟨0, by omega, rfl, hBa, hpa, fun j hj => by omega⟩
    case round =>
     obtain ⟨j, hj, rfl, hB2, hp2, hin2⟩ := hrel
     by_cases hjt : j < k
     ·obtain ⟨g', o', hj', e0, hg', hz', d0, d1⟩ := (hx.under hB2).at_ (k := j) (show j < n by omega)
      cases e0
      clear hz'
      obtain ⟨⟨y, yb⟩, hy'⟩ : ∃ p, l[j] = p := ⟨_, rfl⟩
      have hpx := (hp2.alloc (.cells #[str y, .bool yb] 73)).cell 0
      rw [hy'] at d0 d1
      have HY := Lib.hid hy'
      clear hy'
      by_cases e : y = x
      ·have E : (y == x) = true := by simpa using e
       have E2 : (x == y) = true := by simpa using e.symm
       have HF3 : Hid (atErr l = (k, 5)) := by
        have hf := HF2.out.trans (if_pos (any_take_true (p := fun b : At => b.1 == x) hjt hj' (by show (l[j].1 == x) = true; rw [HY.out]; exact E)))
        show _ = _
        rw [HA.out (by rw [hf]; simp), hf]
       clear e HF2 HA HY hj'
       go_wp2
       go_ret2
       exact ⟨ret_p HF3.out rfl rfl, hB2.alloc hB2.size _⟩
      ·have E : (y == x) = false := by simpa using e
       have E2 : (x == y) = false := by simpa using fun h => e h.symm
       have HI : Hid (∀ i (_ : i < j + 1) (h2 : i < l.length), (l[i].1 == x) = false) := stepG (p := fun b : At => b.1 == x) hin2.out hj' (by show (l[j].1 == x) = false; rw [HY.out]; exact E)
       clear e hin2 HY hj'
       go_wp2
       go_roundw
       case rel => exact ⟨j + 1, by omega, by go_num, hB2.alloc hB2.size _, hp2.alloc _, HI⟩
       case measure => simp [intOf]; omega
     ·have HI : Hid (∀ i, i < k + 1 → atF l i = 0) := by
       have hf := HF2.out.trans (if_neg (by rw [any_take_false (p := fun b : At => b.1 == x) (fun i hi h2 => hin2.out i (by omega) h2)]; simp))
       exact upto_step hinv.out hf
      clear hin2 HF2 HA
      go_wp2
      go_roundw
      case rel => exact ⟨k + 1, by omega, by go_num, hB2, HI⟩
      case measure => simp [intOf]; omega
  ·have HF : Hid (atErr l = (0, 0)) := atErr_zero (by have : l.length = n := HL.out; omega) (by have : l.length = n := HL.out; omega) (fun j hj => hinv.out j (by have : l.length = n := HL.out; omega))
   clear hinv h0
   go_wp2
   go_ret2
   exact ⟨ret_p HF.out rfl rfl, hB⟩

end Go.Proofs.YtgkdaebiefhgdaaGreatDoor
namespace Go.Proofs.YtgkdaebiefhgdaaGreatDoor
open Go.RowKit Utf
open Feat (Bs)
open Tagp (KV okName)
open Cor (vlErr tvF tkF tkErr first)
theorem tvF_at {us : List At} {t : List Bs} {k : Nat} (h1 : k < us.length) (h2 : k < t.length) : tvF us t k = vlErr us[k] t[k] := by
 unfold tvF; rw [List.getElem?_eq_getElem h1, List.getElem?_eq_getElem h2]
theorem tkF_cnt {us : List At} {l : List (List Bs)} {k : Nat} (hk : k < l.length) (h : l[k].length ≠ us.length) : tkF us l k = 15 := by
 unfold tkF; rw [List.getElem?_eq_getElem hk]; exact if_pos h
theorem tkF_at {us : List At} {l : List (List Bs)} {k j : Nat} (hk : k < l.length) (h : l[k].length = us.length) (hj : j < l[k].length) (h0 : ∀ i, i < j → tvF us l[k] i = 0) (hf : tvF us l[k] j ≠ 0) : tkF us l k = tvF us l[k] j := by
 unfold tkF; rw [List.getElem?_eq_getElem hk]
 show (if l[k].length ≠ us.length then 15 else (first (tvF us l[k]) 0 l[k].length).2) = _
 rw [if_neg (by simpa using h), Cor.first_at 0 _ j (Nat.zero_le _) (by omega) (fun i _ hi => h0 i hi) hf]
theorem tkF_zero {us : List At} {l : List (List Bs)} {k : Nat} (hk : k < l.length) (h : l[k].length = us.length) (h0 : ∀ i, i < l[k].length → tvF us l[k] i = 0) : tkF us l k = 0 := by
 unfold tkF; rw [List.getElem?_eq_getElem hk]
 show (if l[k].length ≠ us.length then 15 else (first (tvF us l[k]) 0 l[k].length).2) = _
 rw [if_neg (by simpa using h), Cor.first_none 0 _ (fun i _ hi => h0 i (by omega))]
theorem tkErr_at {us : List At} {l : List (List Bs)} {k : Nat} (h8 : ¬ 4096 < l.length) (hk : k < l.length) (h : ∀ j, j < k → tkF us l j = 0) (hf : tkF us l k ≠ 0) : tkErr us l = (k, tkF us l k) := by
 unfold tkErr; rw [if_neg h8, Cor.first_at 0 l.length k (Nat.zero_le _) (by omega) (fun j _ hj => h j hj) hf]
theorem tkErr_zero {us : List At} {l : List (List Bs)} (h8 : ¬ 4096 < l.length) (h : ∀ j, j < l.length → tkF us l j = 0) : tkErr us l = (0, 0) := by
 unfold tkErr; rw [if_neg h8, Cor.first_none 0 l.length (fun j _ hj => h j (by omega))]

set_option maxRecDepth 100000 in
set_option maxHeartbeats 2000000 in
theorem tokens_any (H : CH) (us : List At) (l : List (List Bs)) (w : World) (ha : Atts w w.heap.size H.a us) (hx : Toks w w.heap.size H.t l) :
  Calls Tryz.prog 89 #[H.v] w (Kept (.tuple #[.int .i64 ((tkErr us l).1 : Nat), .int .i64 ((tkErr us l).2 : Nat)]) w) := by
 obtain ⟨⟨Aa, na, ca⟩, ⟨A, n, c⟩, hX, hr, hn, hh, hl⟩ := H
 have HL := Lib.hid hx.len
 have HLA := Lib.hid ha.len
 have f1 : n ≤ 9223372036854775807 := hx.fit.2
 have f2 : na ≤ 9223372036854775807 := ha.1.2
 have hB0 := (Below.refl w.heap.size w).alloc (Nat.le_refl _) (.cells #[.slice Aa na ca, .slice A n c, hX.v, hr.v, hn.v, hh.v, hl.v] 30)
 have hb0 := Blk.new w 30 #[.slice Aa na ca, .slice A n c, hX.v, hr.v, hn.v, hh.v, hl.v]
 show Calls Tryz.prog 89 #[.agg #[.slice Aa na ca, .slice A n c, hX.v, hr.v, hn.v, hh.v, hl.v]] w _
 by_cases h8 : 4096 < n
 ·have HF : Hid (tkErr us l = (0, 2)) := by show _ = _; unfold tkErr; rw [if_pos (by have : l.length = n := HL.out; omega)]
  go_enter Tryz.func89, Tryz.ntmps89
  go_wp2
  go_ret2
  exact ⟨ret_p HF.out rfl rfl, hB0⟩
 go_enter Tryz.func89, Tryz.ntmps89
 go_wp2
 go_loopw [16] (fun iv wr => ∃ k : Nat, k ≤ n ∧ iv = .int .i64 k ∧ Below w.heap.size w wr ∧ Blk wr w.heap.size 30 #[.slice Aa na ca, .slice A n c, hX.v, hr.v, hn.v, hh.v, hl.v] ∧ Hid (∀ j, j < k → tkF us l j = 0)) (fun iv _ => n - (intOf iv).toNat)
 case atStart => exact ⟨0, by omega, rfl, hB0, hb0, fun j hj => by omega⟩
 case round =>
  obtain ⟨k, hk, rfl, hB, hbx, hinv⟩ := hrel
  by_cases hlt : k < n
  ·obtain ⟨g, o, ⟨At, nt, ct⟩, hk', e0, hg, ht, c0w⟩ := hx.at_ hlt
   have e0 : A = some ⟨g, o, none⟩ := e0
   subst e0
   have f3 : nt ≤ 9223372036854775807 := ht.1.2
   have c0 : wr.cell? ⟨g, o + k, none⟩ = some (.slice At nt ct) := (World.cell?_of_block (hB.block g hg)).trans c0w
   clear c0w
   have HLT := Lib.hid ht.len
   have HT := Lib.hid ht
   have HA := Lib.hid (fun h => tkErr_at (us := us) (l := l) (k := k) (by have : l.length = n := HL.out; omega) hk' hinv.out h)
   have b00 := hbx.cell 0
   by_cases hc : nt = na
   ·subst hc
    have F0 : Hid (l[k].length = us.length) := by show _ = _; rw [HLT.out, HLA.out]
    go_wp2
    obtain ⟨wo, rfl⟩ : ∃ wo : World, wo = wr := ⟨_, rfl⟩
    go_loopw [30] (fun jv wr2 => ∃ j : Nat, j ≤ nt ∧ jv = .int .i64 j ∧ Below w.heap.size w wr2 ∧ Blk wr2 w.heap.size 30 #[.slice Aa nt ca, .slice (some ⟨g, o, none⟩) n c, hX.v, hr.v, hn.v, hh.v, hl.v] ∧ Hid (∀ i, i < j → tvF us l[k] i = 0)) (fun jv _ => nt - (intOf jv).toNat)
    case atStart => exact ⟨0, by omega, rfl, hB, hbx, fun j hj => by omega⟩
    case round =>
     obtain ⟨j, hj, rfl, hB2, hb2, hin2⟩ := hrel
     by_cases hjt : j < nt
     ·obtain ⟨g1, o1, hj1, e0, hg1, z1, d0⟩ := (HT.out.under hB2).at_ (k := j) hjt
      have e0 : At = some ⟨g1, o1, none⟩ := e0
      subst e0
      obtain ⟨g2, o2, hj2, e0, hg2, z2, d1, d2⟩ := (ha.under hB2).at_ (k := j) hjt
      have e0 : Aa = some ⟨g2, o2, none⟩ := e0
      subst e0
      have HF := Lib.hid (tvF_at hj2 hj1)
      have HF2 := Lib.hid (fun hf => tkF_at (us := us) (l := l) hk' F0.out hj1 hin2.out hf)
      obtain ⟨⟨x, xb⟩, hx'⟩ : ∃ p, us[j] = p := ⟨_, rfl⟩
      obtain ⟨v, hv'⟩ : ∃ p, l[k][j] = p := ⟨_, rfl⟩
      rw [hx'] at d1 d2
      rw [hv'] at d0 z1
      rw [hx', hv'] at HF
      clear hx' hv' z2
      have z1 : v.length ≤ 9223372036854775807 := z1
      have b00 := hb2.cell 0
      go_wp2_with fail
      refine (value1_any (x, xb) v z1 _).mono ?_
      rintro e w1 ⟨rfl, hb1⟩
      have hB3 := hB2.trans (hb1.mono hB2.size)
      have hb3 := hb2.below hb1
      by_cases hv : vlErr (x, xb) v = 0
      ·have E : ((vlErr (x, xb) v : Int) != 0) = false := by rw [hv]; rfl
       have HI : Hid (∀ i, i < j + 1 → tvF us l[k] i = 0) := upto_step hin2.out (by rw [HF.out, hv])
       clear hv HF HF2 hin2 hj1 hj2 HA b00
       go_wp2
       go_roundw
       case rel => exact ⟨j + 1, by omega, by go_num, hB3, hb3, HI⟩
       case measure => simp [intOf]; omega
      ·have E : ((vlErr (x, xb) v : Int) != 0) = true := by rw [bne_iff_ne]; omega
       have HF3 : Hid (tkErr us l = (k, vlErr (x, xb) v)) := by
        have e1 := (HF2.out (by rw [HF.out]; exact hv)).trans HF.out
        show _ = _
        rw [HA.out (by rw [e1]; exact hv), e1]
       clear hv HF HF2 hin2 hj1 hj2 HA b00
       go_wp2
       go_ret2
       exact ⟨ret_p HF3.out rfl rfl, hB3⟩
     ·have HI : Hid (∀ i, i < k + 1 → tkF us l i = 0) := upto_step hinv.out (tkF_zero hk' F0.out (fun i hi => hin2.out i (by have : l[k].length = nt := HLT.out; omega)))
      clear hin2 HA
      go_wp2
      go_roundw
      case rel => exact ⟨k + 1, by omega, by go_num, hB2, hb2, HI⟩
      case measure => simp [intOf]; omega
   ·have E : ((nt : Int) != (na : Int)) = true := by rw [bne_iff_ne]; omega
    have HF3 : Hid (tkErr us l = (k, 15)) := by
     have e1 := tkF_cnt (us := us) hk' (by rw [HLT.out, HLA.out]; exact hc)
     show _ = _
     rw [HA.out (by rw [e1]; simp), e1]
    clear HA
    go_wp2
    go_ret2
    exact ⟨ret_p HF3.out rfl rfl, hB⟩
  ·have HF : Hid (tkErr us l = (0, 0)) := tkErr_zero (by have : l.length = n := HL.out; omega) (fun j hj => hinv.out j (by have : l.length = n := HL.out; omega))
   clear hinv
   go_wp2
   go_ret2
   exact ⟨ret_p HF.out rfl rfl, hB⟩

end Go.Proofs.YtgkdaebiefhgdaaGreatDoor
namespace Go.Proofs.YtgkdaebiefhgdaaGreatDoor
open Go.RowKit Utf
open Feat (Bs)
open Tagp (KV okName)
open Cor (txF txErr endB prErr findT)
theorem txF_at {m : Nat} {l : List Cor.Txt} {k : Nat} (hk : k < l.length) : txF m l k = if okName l[k].nm = false then 4 else if (l.take k).any (fun u => u.nm == l[k].nm) = true then 5 else if l[k].b ≠ endB l k ∨ l[k].e ≤ l[k].b ∨ (m : Int) < l[k].e ∨ (k + 1 = l.length ∧ l[k].e ≠ m) then 8 else prErr l[k].ks := by
 unfold txF; rw [List.getElem?_eq_getElem hk]
theorem txErr_at {m : Nat} {l : List Cor.Txt} {k : Nat} (h8 : ¬ 64 < l.length) (h9 : ((l.length == 0) != (m == 0)) = false) (hk : k < l.length) (h : ∀ j, j < k → txF m l j = 0) (hf : txF m l k ≠ 0) : txErr m l = (k, txF m l k) := by
 unfold txErr; rw [if_neg h8, if_neg (by rw [h9]; simp), Cor.first_at 0 l.length k (Nat.zero_le _) (by omega) (fun j _ hj => h j hj) hf]
theorem txErr_zero {m : Nat} {l : List Cor.Txt} (h8 : ¬ 64 < l.length) (h9 : ((l.length == 0) != (m == 0)) = false) (h : ∀ j, j < l.length → txF m l j = 0) : txErr m l = (0, 0) := by
 unfold txErr; rw [if_neg h8, if_neg (by rw [h9]; simp), Cor.first_none 0 l.length (fun j _ hj => h j (by omega))]
theorem endB_succ {l : List Cor.Txt} {k : Nat} (hk : k < l.length) : endB l (k + 1) = l[k].e := by
 unfold endB; rw [if_neg (by omega), Nat.add_sub_cancel, List.getElem?_eq_getElem hk]
theorem findT_dup {l : List Cor.Txt} {nm : Bs} {k : Nat} (h : (l.take k).any (fun u => u.nm == nm) = true) : findT l nm < k := by
 rw [List.any_eq_true] at h
 obtain ⟨x, hx, he⟩ := h
 rw [List.mem_take_iff_getElem] at hx
 obtain ⟨j, hj, rfl⟩ := hx
 unfold findT
 cases hf : l.findIdx? (fun t => t.nm == nm) with
 | none => exact absurd he (by rw [List.findIdx?_eq_none_iff.1 hf _ (List.getElem_mem _)]; simp)
 | some i =>
  obtain ⟨_, _, hb⟩ := List.findIdx?_eq_some_iff_getElem.1 hf
  have : i ≤ j := by
   rcases Nat.lt_or_ge j i with h | h
   ·exact absurd he (hb j h)
   ·exact h
  show (i : Int) < k
  omega
theorem findT_new {l : List Cor.Txt} {nm : Bs} {k : Nat} (hk : k < l.length) (hn : l[k].nm = nm) (h : (l.take k).any (fun u => u.nm == nm) = false) : ¬ findT l nm < k := by
 unfold findT
 cases hf : l.findIdx? (fun t => t.nm == nm) with
 | none => 
  have := List.findIdx?_eq_none_iff.1 hf _ (List.getElem_mem hk)
  rw [hn] at this; simp at this
 | some i =>
  obtain ⟨hi, hp, _⟩ := List.findIdx?_eq_some_iff_getElem.1 hf
  show ¬ (i : Int) < k
  intro hlt
  rw [any_take_true (p := fun u : Cor.Txt => u.nm == nm) (show i < k by omega) hi hp] at h
  cases h
theorem eq0 (n : Nat) : ((n : Int) == 0) = (n == 0) := by rw [Bool.eq_iff_iff]; simp
theorem eq0_ne {n m : Nat} (h : ((n == 0) != (m == 0)) = true) : (((n : Int) == 0) == ((m : Int) == 0)) = false := by
 rw [eq0, eq0]; cases h1 : (n == 0) <;> cases h2 : (m == 0) <;> rw [h1, h2] at h <;> simp_all
theorem eq0_eq {n m : Nat} (h : ((n == 0) != (m == 0)) = false) : (((n : Int) == 0) == ((m : Int) == 0)) = true := by
 rw [eq0, eq0]; cases h1 : (n == 0) <;> cases h2 : (m == 0) <;> rw [h1, h2] at h <;> simp_all
theorem info_text : (Tryz.prog.info? 66).map (fun i => (i.zero, i.size, i.bytes)) = some (some (.agg #[.string ⟨#[]⟩, .int .i64 0, .int .i64 0, .slice none 0 0]), 4, 56) := by kernel_rfl

set_option maxRecDepth 100000 in
set_option maxHeartbeats 4000000 in
theorem texts_any (H : CH) (l : List Cor.Txt) (w : World) (ht : Fit H.t) (hx : Txts w w.heap.size H.x l) :
  Calls Tryz.prog 90 #[H.v] w (Kept (.tuple #[.int .i64 ((txErr H.t.n l).1 : Nat), .int .i64 ((txErr H.t.n l).2 : Nat)]) w) := by
 obtain ⟨ha, ⟨At, nt, ct⟩, ⟨A, n, c⟩, hr, hn, hh, hl⟩ := H
 show Calls Tryz.prog 90 #[.agg #[ha.v, .slice At nt ct, .slice A n c, hr.v, hn.v, hh.v, hl.v]] w (Kept (.tuple #[.int .i64 ((txErr nt l).1 : Nat), .int .i64 ((txErr nt l).2 : Nat)]) w)
 have HL := Lib.hid hx.len
 have f1 : n ≤ 9223372036854775807 := hx.fit.2
 have f2 : n ≤ c := hx.fit.1
 have f3 : nt ≤ 9223372036854775807 := ht.2
 obtain ⟨i0, hi0, hz0, hz1, hz2⟩ := info_parts info_text
 have hB0 := (Below.refl w.heap.size w).alloc (Nat.le_refl _) (.cells #[ha.v, .slice At nt ct, .slice A n c, hr.v, hn.v, hh.v, hl.v] 30)
 have hb0 := Blk.new w 30 #[ha.v, .slice At nt ct, .slice A n c, hr.v, hn.v, hh.v, hl.v]
 by_cases h8 : 64 < n
 ·have HF : Hid (txErr nt l = (0, 2)) := by show _ = _; unfold txErr; rw [if_pos (by have : l.length = n := HL.out; omega)]
  go_enter Tryz.func90, Tryz.ntmps90
  go_wp2
  go_ret2
  exact ⟨ret_p HF.out rfl rfl, hB0⟩
 cases h9 : (n == 0) != (nt == 0) with
 | true =>
  have HF : Hid (txErr nt l = (0, 15)) := by show _ = _; unfold txErr; rw [if_neg (by have : l.length = n := HL.out; omega), HL.out, h9]; rfl
  have E9 : (((n : Int) == 0) == ((nt : Int) == 0)) = false := eq0_ne h9
  clear h9
  go_enter Tryz.func90, Tryz.ntmps90
  go_wp2
  go_ret2
  exact ⟨ret_p HF.out rfl rfl, hB0⟩
 | false =>
  have E9 : (((n : Int) == 0) == ((nt : Int) == 0)) = true := eq0_eq h9
  have H9 : Hid (((l.length == 0) != (nt == 0)) = false) := by show _ = _; rw [HL.out]; exact h9
  clear h9
  go_enter Tryz.func90, Tryz.ntmps90
  go_wp2
  clear E9
  go_loopw [4, 26] (fun ev iv wr => ∃ k : Nat, k ≤ n ∧ iv = .int .i64 k ∧ ev = .int .i64 (endB l k) ∧ Below w.heap.size w wr ∧ Blk wr w.heap.size 30 #[ha.v, .slice At nt ct, .slice A n c, hr.v, hn.v, hh.v, hl.v] ∧ Hid (∀ j, j < k → txF nt l j = 0)) (fun _ iv _ => n - (intOf iv).toNat)
  case atStart => exact ⟨0, by omega, rfl, rfl, hB0, hb0, fun j hj => by omega⟩
  case round =>
   obtain ⟨k, hk, rfl, rfl, hB, hbx, hinv⟩ := hrel
   by_cases hlt : k < n
   ·obtain ⟨g, o, ⟨A', n', c'⟩, hk', e0, hg, hok', c0, c1, c2, c3⟩ := (hx.under hB).at_ hlt
    have e0 : A = some ⟨g, o, none⟩ := e0
    subst e0
    have HF := Lib.hid (txF_at (m := nt) hk')
    have HE := Lib.hid (endB_succ hk')
    have HA := Lib.hid (fun h => txErr_at (m := nt) (l := l) (k := k) (by have : l.length = n := HL.out; omega) H9.out hk' hinv.out h)
    have hks : Keys w w.heap.size ⟨A', n', c'⟩ l[k].ks := by
     obtain ⟨g3, o3, ⟨A3, n3, c3'⟩, _, e3, _, hok3, _, _, _, d3⟩ := hx.at_ hlt
     cases e3
     have e := ((World.cell?_of_block (a := ⟨g, o + k * 4 + 3, none⟩) (hB.block g hg)).trans d3).symm.trans c3
     cases e
     exact hok3.2.2.2
    have z0 : l[k].nm.length ≤ 9223372036854775807 := hok'.1
    have r1 : Rng l[k].b := hok'.2.1
    have r2 : Rng l[k].e := hok'.2.2.1
    clear hok'
    obtain ⟨⟨x, b, e, ks⟩, hx'⟩ : ∃ p, l[k] = p := ⟨_, rfl⟩
    rw [hx'] at HF HE c0 c1 c2 z0 r1 r2 hks
    have HX : Hid (l[k].nm = x) := by show _ = _; rw [hx']
    clear hx'
    have hBa := hB.alloc hB.size (.cells #[str x, .int .i64 b, .int .i64 e, .slice A' n' c'] 66)
    have hpa := Blk.new wr 66 #[str x, .int .i64 b, .int .i64 e, .slice A' n' c']
    have hbxa := hbx.alloc (.cells #[str x, .int .i64 b, .int .i64 e, .slice A' n' c'] 66)
    have b01 := hbxa.cell 1
    have b02 := hbxa.cell 2
    have b00 := hbxa.cell 0
    have b03 := hbxa.cell 3
    have b04 := hbxa.cell 4
    have b05 := hbxa.cell 5
    have b06 := hbxa.cell 6
    go_wp2_with fail
    refine (validName_any x z0 _).mono ?_
    rintro e' w1 ⟨rfl, rfl⟩
    cases hok : okName x with
    | false =>
     have HF2 := Lib.hid (HF.out.trans (if_pos hok))
     have HF3 : Hid (txErr nt l = (k, 4)) := by show _ = _; rw [HA.out (by rw [HF2.out]; simp), HF2.out]
     clear hok HF HA HF2
     go_wp2
     go_ret2
     exact ⟨ret_p HF3.out rfl rfl, hBa⟩
    | true =>
     have HF2 := Lib.hid (HF.out.trans (if_neg (by rw [hok]; simp)))
     clear hok HF
     have HT := findText_any ⟨ha, ⟨At, nt, ct⟩, ⟨some ⟨g, o, none⟩, n, c⟩, hr, hn, hh, hl⟩ l x (wr.alloc (.cells #[str x, .int .i64 b, .int .i64 e, .slice A' n' c'] 66)) ((hx.under hBa).up hBa.size)
     go_wp2_with fail
     refine HT.mono ?_
     rintro e' w2 ⟨rfl, hb2⟩
     clear HT
     have hB2 := hBa.trans (hb2.mono hBa.size)
     have hbx2 := hbxa.below hb2
     have hp2 := hpa.below hb2
     have p1 := hp2.cell 1
     have p2 := hp2.cell 2
     have p3 := hp2.cell 3
     have q1 := hbx2.cell 1
     have q2 := hbx2.cell 2
     clear b01 b02
     cases hany : (l.take k).any (fun u => u.nm == x) with
     | true =>
      have hlt2 := findT_dup hany
      have HF3 := Lib.hid (HF2.out.trans (if_pos hany))
      have HF4 : Hid (txErr nt l = (k, 5)) := by show _ = _; rw [HA.out (by rw [HF3.out]; simp), HF3.out]
      clear HF2 HF3 HA hany
      go_wp2
      go_ret2
      exact ⟨ret_p HF4.out rfl rfl, hB2⟩
     | false =>
      have hlt2 := findT_new hk' HX.out hany
      have HF2 := Lib.hid (HF2.out.trans (if_neg (by rw [hany]; simp)))
      clear hany
      by_cases e1 : b = endB l k
      ·by_cases e2 : b < e
       ·by_cases e3 : e ≤ (nt : Int)
        ·by_cases e4 : k + 1 = n ∧ e ≠ (nt : Int)
         ·have HF3 := Lib.hid (HF2.out.trans (if_pos (.inr (.inr (.inr ⟨by have : l.length = n := HL.out; omega, e4.2⟩)))))
          have HF4 : Hid (txErr nt l = (k, 8)) := by show _ = _; rw [HA.out (by rw [HF3.out]; simp), HF3.out]
          have E1 := bne_f e1
          have E4 : ((k : Int) == (n : Int) - 1) = true := by rw [beq_iff_eq]; omega
          have E5 := bne_t e4.2
          clear HF2 HF3 HA e1 e4
          go_wp2
          go_ret2
          exact ⟨ret_p HF4.out rfl rfl, hB2⟩
         ·have HF3 := Lib.hid (HF2.out.trans (if_neg (by rintro (h | h | h | ⟨h, h2⟩); exact h e1; omega; omega; exact e4 ⟨by have : l.length = n := HL.out; omega, h2⟩)))
          have E1 := bne_f e1
          have PK := (hks.under hB2).up hB2.size
          have fin : ∀ P : Prop, P → P := fun _ h => h
          clear fin
          by_cases e5 : k + 1 = n
          ·have e6 : e = (nt : Int) := Classical.byContradiction fun h => e4 ⟨e5, h⟩
           have E4 : ((k : Int) == (n : Int) - 1) = true := by rw [beq_iff_eq]; omega
           have E5 := bne_f e6
           clear HF2 e1 e4 e5 e6
           go_wp2_with fail
           refine (pairs_any A' n' c' ks _ PK).mono ?_
           rintro e' w4 ⟨rfl, hb4⟩
           have hB5 := hB2.trans (hb4.mono hB2.size)
           have hbx5 := hbx2.below hb4
           have hp5 := (hp2.below hb4).cell 2
           by_cases hv : prErr ks = 0
           ·have E6 : ((prErr ks : Int) != 0) = false := by rw [hv]; rfl
            have HI : Hid (∀ i, i < k + 1 → txF nt l i = 0) := upto_step hinv.out (by rw [HF3.out, hv])
            clear hv HF3 HA
            go_wp2
            go_roundw
            case rel => exact ⟨k + 1, by omega, by go_num, by rw [HE.out], hB5, hbx5, HI⟩
            case measure => simp [intOf]; omega
           ·have E6 : ((prErr ks : Int) != 0) = true := by rw [bne_iff_ne]; omega
            have HF4 : Hid (txErr nt l = (k, prErr ks)) := by show _ = _; rw [HA.out (by rw [HF3.out]; exact hv), HF3.out]
            clear hv HF3 HA
            go_wp2
            go_ret2
            exact ⟨ret_p HF4.out rfl rfl, hB5⟩
          ·have E4 : ((k : Int) == (n : Int) - 1) = false := by rw [beq_eq_false_iff_ne]; omega
           clear HF2 e1 e4 e5
           go_wp2_with fail
           refine (pairs_any A' n' c' ks _ PK).mono ?_
           rintro e' w4 ⟨rfl, hb4⟩
           have hB5 := hB2.trans (hb4.mono hB2.size)
           have hbx5 := hbx2.below hb4
           have hp5 := (hp2.below hb4).cell 2
           by_cases hv : prErr ks = 0
           ·have E6 : ((prErr ks : Int) != 0) = false := by rw [hv]; rfl
            have HI : Hid (∀ i, i < k + 1 → txF nt l i = 0) := upto_step hinv.out (by rw [HF3.out, hv])
            clear hv HF3 HA
            go_wp2
            go_roundw
            case rel => exact ⟨k + 1, by omega, by go_num, by rw [HE.out], hB5, hbx5, HI⟩
            case measure => simp [intOf]; omega
           ·have E6 : ((prErr ks : Int) != 0) = true := by rw [bne_iff_ne]; omega
            have HF4 : Hid (txErr nt l = (k, prErr ks)) := by show _ = _; rw [HA.out (by rw [HF3.out]; exact hv), HF3.out]
            clear hv HF3 HA
            go_wp2
            go_ret2
            exact ⟨ret_p HF4.out rfl rfl, hB5⟩
        ·have HF3 := Lib.hid (HF2.out.trans (if_pos (.inr (.inr (.inl (by omega))))))
         have HF4 : Hid (txErr nt l = (k, 8)) := by show _ = _; rw [HA.out (by rw [HF3.out]; simp), HF3.out]
         have E1 := bne_f e1
         clear HF2 HF3 HA e1
         go_wp2
         go_ret2
         exact ⟨ret_p HF4.out rfl rfl, hB2⟩
       ·have HF3 := Lib.hid (HF2.out.trans (if_pos (.inr (.inl (by omega)))))
        have HF4 : Hid (txErr nt l = (k, 8)) := by show _ = _; rw [HA.out (by rw [HF3.out]; simp), HF3.out]
        have E1 := bne_f e1
        clear HF2 HF3 HA e1
        go_wp2
        go_ret2
        exact ⟨ret_p HF4.out rfl rfl, hB2⟩
      ·have HF3 := Lib.hid (HF2.out.trans (if_pos (.inl e1)))
       have HF4 : Hid (txErr nt l = (k, 8)) := by show _ = _; rw [HA.out (by rw [HF3.out]; simp), HF3.out]
       have E1 := bne_t e1
       clear HF2 HF3 HA e1
       go_wp2
       go_ret2
       exact ⟨ret_p HF4.out rfl rfl, hB2⟩
   ·have HF : Hid (txErr nt l = (0, 0)) := txErr_zero (by have : l.length = n := HL.out; omega) H9.out (fun j hj => hinv.out j (by have : l.length = n := HL.out; omega))
    clear hinv
    go_wp2
    go_ret2
    exact ⟨ret_p HF.out rfl rfl, hB⟩

end Go.Proofs.YtgkdaebiefhgdaaGreatDoor
