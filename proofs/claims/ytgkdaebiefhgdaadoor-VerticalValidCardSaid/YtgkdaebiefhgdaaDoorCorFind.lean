/-
  The contracts of FindText, TextAt, inText (the program's) and FindText, TextAt, within (the reference's). Conditions: none but that a corpus reads as it does.
-/
import Derived.Test.YtgkdaebiefhgdaaDoorCorCmp
namespace Go.Proofs.YtgkdaebiefhgdaaDoor
open Go.RowKit
open Feat (Bs)
open Cor (findT textAt within)

theorem findT_at {l : List Cor.Txt} {nm : Bs} {k : Nat} (hk : k < l.length) (h : (l[k].nm == nm) = true) (hb : ∀ j (hj : j < k), (l[j].nm == nm) = false) : findT l nm = k := by
  unfold findT
  rw [List.findIdx?_eq_some_iff_getElem.2 ⟨hk, h, fun j hj => by rw [hb j hj]; simp⟩]
theorem findT_none {l : List Cor.Txt} {nm : Bs} (hb : ∀ j (hj : j < l.length), (l[j].nm == nm) = false) : findT l nm = -1 := by
  unfold findT
  rw [List.findIdx?_eq_none_iff.2 (fun x hx => by obtain ⟨i, hi, rfl⟩ := List.getElem_of_mem hx; exact hb i hi)]
def hits (t : Cor.Txt) (pos : Int) : Bool := decide (t.b ≤ pos) && decide (pos < t.e)
theorem textAt_at {l : List Cor.Txt} {pos : Int} {k : Nat} (hk : k < l.length) (h : hits l[k] pos = true) (hb : ∀ j (hj : j < k), hits l[j] pos = false) : textAt l pos = k := by
  unfold textAt
  rw [List.findIdx?_eq_some_iff_getElem.2 ⟨hk, h, fun j hj => by rw [show (decide (l[j].b ≤ pos) && decide (pos < l[j].e)) = false from hb j hj]; simp⟩]
theorem textAt_none {l : List Cor.Txt} {pos : Int} (hb : ∀ j (hj : j < l.length), hits l[j] pos = false) : textAt l pos = -1 := by
  unfold textAt
  rw [List.findIdx?_eq_none_iff.2 (fun x hx => by obtain ⟨i, hi, rfl⟩ := List.getElem_of_mem hx; exact hb i hi)]
def holds (t : Cor.Txt) (b e : Int) : Bool := decide (t.b ≤ b) && decide (b < e) && decide (e ≤ t.e)
theorem within_at {l : List Cor.Txt} {b e : Int} {k : Nat} (hk : k < l.length) (h : holds l[k] b e = true) : within l b e = true := by
  unfold within; rw [List.any_eq_true]; exact ⟨_, List.getElem_mem hk, h⟩
theorem within_none {l : List Cor.Txt} {b e : Int} (hb : ∀ j (hj : j < l.length), holds l[j] b e = false) : within l b e = false := by
  unfold within; rw [List.any_eq_false]
  intro x hx
  obtain ⟨i, hi, rfl⟩ := List.getElem_of_mem hx
  have := hb i hi
  unfold holds at this
  rw [this]; simp
theorem all_step {l : List Cor.Txt} {p : Cor.Txt → Bool} {k : Nat} (h : ∀ j (_ : j < k) (h2 : j < l.length), p l[j] = false) (hk : k < l.length) (e : p l[k] = false) : ∀ j (_ : j < k + 1) (h2 : j < l.length), p l[j] = false := by
  intro j hj h2
  by_cases e2 : j = k
  · subst e2; exact e
  · exact h j (by omega) h2

set_option maxRecDepth 100000 in
set_option maxHeartbeats 1600000 in
theorem findText_any (H : CH) (l : List Cor.Txt) (nm : Bs) (w : World) (hx : Txts w w.heap.size H.x l) :
    Calls Tryd.prog 34 #[H.v, str nm] w (Kept (.int .i64 (findT l nm)) w) := by
  obtain ⟨ha, ht, ⟨A, n, c⟩, hr, hn, hh, hl⟩ := H
  have HL := Lib.hid hx.len
  have f1 : n ≤ 9223372036854775807 := hx.fit.2
  have hB0 := (Below.refl w.heap.size w).alloc (Nat.le_refl _) (.cells #[ha.v, ht.v, .slice A n c, hr.v, hn.v, hh.v, hl.v] 30)
  show Calls Tryd.prog 34 #[.agg #[ha.v, ht.v, .slice A n c, hr.v, hn.v, hh.v, hl.v], str nm] w _
  go_enter Tryd.func34, Tryd.ntmps34
  go_wp2
  go_loopw [10] (fun iv wr => ∃ k : Nat, k ≤ n ∧ iv = .int .i64 k ∧ Below w.heap.size w wr ∧ Hid (∀ j (_ : j < k) (h2 : j < l.length), (l[j].nm == nm) = false)) (fun iv _ => n - (intOf iv).toNat)
  case atStart => exact ⟨0, by omega, rfl, hB0, fun j hj => by omega⟩
  case round =>
    obtain ⟨k, hk, rfl, hB, hinv⟩ := hrel
    by_cases hlt : k < n
    · obtain ⟨g, o, H2, hk', rfl, hg, _, c0, c1, c2, c3⟩ := (hx.under hB).at_ hlt
      obtain ⟨x, hx'⟩ : ∃ p, l[k].nm = p := ⟨_, rfl⟩
      rw [hx'] at c0
      have HX := Lib.hid hx'
      clear hx'
      by_cases e : x = nm
      · have E : (x == nm) = true := by simpa using e
        have HF : Hid (findT l nm = k) := findT_at hk' (by rw [HX.out]; exact E) (fun j hj => hinv.out j hj (by omega))
        clear e
        go_wp2
        go_ret
        exact ⟨ret_int HF.out.symm, hB.alloc hB.size _⟩
      · have E : (x == nm) = false := by simpa using e
        have HI : Hid (∀ j (_ : j < k + 1) (h2 : j < l.length), (l[j].nm == nm) = false) := all_step (p := fun t => t.nm == nm) hinv.out hk' (by show (l[k].nm == nm) = false; rw [HX.out]; exact E)
        clear e hinv
        go_wp2
        go_roundw
        case rel => exact ⟨k + 1, by omega, by go_num, hB.alloc hB.size _, HI⟩
        case measure => simp [intOf]; omega
    · have HF : Hid (findT l nm = -1) := findT_none (fun j hj => hinv.out j (by have : l.length = n := HL.out; omega) hj)
      clear hinv
      go_wp2
      go_ret
      exact ⟨ret_int HF.out.symm, hB⟩
set_option maxRecDepth 100000 in
set_option maxHeartbeats 1600000 in
theorem textAt_any (H : CH) (l : List Cor.Txt) (pos : Int) (w : World) (hx : Txts w w.heap.size H.x l) :
    Calls Tryd.prog 41 #[H.v, .int .i64 pos] w (Kept (.int .i64 (textAt l pos)) w) := by
  obtain ⟨ha, ht, ⟨A, n, c⟩, hr, hn, hh, hl⟩ := H
  have HL := Lib.hid hx.len
  have f1 : n ≤ 9223372036854775807 := hx.fit.2
  have hB0 := (Below.refl w.heap.size w).alloc (Nat.le_refl _) (.cells #[ha.v, ht.v, .slice A n c, hr.v, hn.v, hh.v, hl.v] 30)
  show Calls Tryd.prog 41 #[.agg #[ha.v, ht.v, .slice A n c, hr.v, hn.v, hh.v, hl.v], .int .i64 pos] w _
  go_enter Tryd.func41, Tryd.ntmps41
  go_wp2
  go_loopw [10] (fun iv wr => ∃ k : Nat, k ≤ n ∧ iv = .int .i64 k ∧ Below w.heap.size w wr ∧ Hid (∀ j (_ : j < k) (h2 : j < l.length), hits l[j] pos = false)) (fun iv _ => n - (intOf iv).toNat)
  case atStart => exact ⟨0, by omega, rfl, hB0, fun j hj => by omega⟩
  case round =>
    obtain ⟨k, hk, rfl, hB, hinv⟩ := hrel
    by_cases hlt : k < n
    · obtain ⟨g, o, H2, hk', rfl, hg, _, c0, c1, c2, c3⟩ := (hx.under hB).at_ hlt
      obtain ⟨x, hx'⟩ : ∃ p, l[k].b = p := ⟨_, rfl⟩
      obtain ⟨y, hy'⟩ : ∃ p, l[k].e = p := ⟨_, rfl⟩
      rw [hx'] at c1
      rw [hy'] at c2
      have HX : Hid (hits l[k] pos = (decide (x ≤ pos) && decide (pos < y))) := by show _ = _; unfold hits; rw [hx', hy']
      clear hx' hy'
      by_cases e : x ≤ pos
      · by_cases e2 : pos < y
        · have HF : Hid (textAt l pos = k) := textAt_at hk' (by rw [HX.out]; simp [e, e2]) (fun j hj => hinv.out j hj (by omega))
          go_wp2
          go_ret
          exact ⟨ret_int HF.out.symm, hB.alloc hB.size _⟩
        · have HI : Hid (∀ j (_ : j < k + 1) (h2 : j < l.length), hits l[j] pos = false) := all_step (p := fun t => hits t pos) hinv.out hk' (by show hits l[k] pos = false; rw [HX.out]; simp [e2])
          clear hinv
          go_wp2
          go_roundw
          case rel => exact ⟨k + 1, by omega, by go_num, hB.alloc hB.size _, HI⟩
          case measure => simp [intOf]; omega
      · have HI : Hid (∀ j (_ : j < k + 1) (h2 : j < l.length), hits l[j] pos = false) := all_step (p := fun t => hits t pos) hinv.out hk' (by show hits l[k] pos = false; rw [HX.out]; simp [e])
        clear hinv
        go_wp2
        go_roundw
        case rel => exact ⟨k + 1, by omega, by go_num, hB.alloc hB.size _, HI⟩
        case measure => simp [intOf]; omega
    · have HF : Hid (textAt l pos = -1) := textAt_none (fun j hj => hinv.out j (by have : l.length = n := HL.out; omega) hj)
      clear hinv
      go_wp2
      go_ret
      exact ⟨ret_int HF.out.symm, hB⟩

/-- The texts follow one another. -/
def Row_ (l : List Cor.Txt) : Prop := ∀ i j (_ : i < j) (h : j < l.length), l[i].e ≤ l[j].b
theorem hits_one {l : List Cor.Txt} {pos : Int} (hr : Row_ l) {k : Nat} (hk : k < l.length) (h : hits l[k] pos = true) : textAt l pos = k := by
  refine textAt_at hk h fun j hj => ?_
  have := hr j k hj hk
  unfold hits at h ⊢
  simp only [Bool.and_eq_true, decide_eq_true_eq] at h
  simp only [Bool.and_eq_false_iff, decide_eq_false_iff_not]
  right; omega
theorem textAt_cases (l : List Cor.Txt) (pos : Int) : (textAt l pos = -1 ∧ ∀ j (hj : j < l.length), hits l[j] pos = false) ∨ ∃ k, ∃ hk : k < l.length, textAt l pos = k ∧ hits l[k] pos = true := by
  unfold textAt
  cases h : l.findIdx? (fun t => decide (t.b ≤ pos) && decide (pos < t.e)) with
  | none =>
    left; refine ⟨rfl, fun j hj => ?_⟩
    exact List.findIdx?_eq_none_iff.1 h _ (List.getElem_mem hj)
  | some k =>
    right
    obtain ⟨hk, hp, _⟩ := List.findIdx?_eq_some_iff_getElem.1 h
    exact ⟨k, hk, rfl, hp⟩
theorem inT_no {l : List Cor.Txt} {b e : Int} (h : ¬ b < e) : within l b e = false := within_none (fun j hj => by unfold holds; simp [h])
theorem inT_none {l : List Cor.Txt} {b e : Int} (h : textAt l b = -1) : within l b e = false := by
  rcases textAt_cases l b with ⟨_, h2⟩ | ⟨k, hk, e, _⟩
  · refine within_none fun j hj => ?_
    have := h2 j hj
    unfold hits at this
    unfold holds
    simp only [Bool.and_eq_false_iff, decide_eq_false_iff_not] at this ⊢
    omega
  · rw [e] at h; omega
theorem inT_at {l : List Cor.Txt} {b e : Int} (hr : Row_ l) {k : Nat} (hk : k < l.length) (h : hits l[k] b = true) (h2 : b < e) : within l b e = decide (e ≤ l[k].e) := by
  have hb := h
  unfold hits at hb
  simp only [Bool.and_eq_true, decide_eq_true_eq] at hb
  by_cases he : e ≤ l[k].e
  · rw [within_at hk (by unfold holds; simp [hb.1, h2, he])]; simp [he]
  · rw [within_none (fun j hj => ?_)]
    · simp [he]
    · rcases Nat.lt_trichotomy j k with hj2 | hj2 | hj2
      · have := hr j k hj2 hk; unfold holds; simp only [Bool.and_eq_false_iff, decide_eq_false_iff_not]; omega
      · subst hj2; unfold holds; simp [he]
      · have := hr k j hj2 hj; unfold holds; simp only [Bool.and_eq_false_iff, decide_eq_false_iff_not]; omega

set_option maxRecDepth 100000 in
set_option maxHeartbeats 1600000 in
theorem inText_any (H : CH) (l : List Cor.Txt) (b e : Int) (w : World) (hx : Txts w w.heap.size H.x l) (hrow : Row_ l) :
    Calls Tryd.prog 36 #[H.v, .int .i64 b, .int .i64 e] w (Kept (.bool (within l b e)) w) := by
  obtain ⟨ha, ht, ⟨A, n, c⟩, hr, hn, hh, hl⟩ := H
  have f1 : n ≤ 9223372036854775807 := hx.fit.2
  have HL := Lib.hid hx.len
  have hB0 := (Below.refl w.heap.size w).alloc (Nat.le_refl _) (.cells #[ha.v, ht.v, .slice A n c, hr.v, hn.v, hh.v, hl.v] 30)
  have hb0 := Blk.new w 30 #[ha.v, ht.v, .slice A n c, hr.v, hn.v, hh.v, hl.v]
  have HT := textAt_any ⟨ha, ht, ⟨A, n, c⟩, hr, hn, hh, hl⟩ l b _ ((hx.under hB0).up hB0.size)
  show Calls Tryd.prog 36 #[.agg #[ha.v, ht.v, .slice A n c, hr.v, hn.v, hh.v, hl.v], .int .i64 b, .int .i64 e] w _
  go_enter Tryd.func36, Tryd.ntmps36
  go_wp2_with fail
  refine HT.mono ?_
  rintro e' w1 ⟨rfl, hb1⟩
  clear HT
  have hB1 := hB0.trans (hb1.mono hB0.size)
  have c2 := (hb0.below hb1).cell 2
  clear hb0
  rcases textAt_cases l b with ⟨e1, _⟩ | ⟨k, hk, e1, h1⟩
  · have HF := Lib.hid (inT_none (e := e) e1)
    rw [e1]
    clear e1
    by_cases hbe : b < e
    · go_wp2
      go_ret
      exact ⟨ret_bool HF.out.symm, hB1⟩
    · go_wp2
      go_ret
      exact ⟨ret_bool HF.out.symm, hB1⟩
  · rw [e1]
    clear e1
    by_cases hbe : b < e
    · have HF := Lib.hid (inT_at (e := e) hrow hk h1 hbe)
      obtain ⟨g, o, H2, hk', rfl, hg, _, d0, d1, d2, d3⟩ := (hx.under hB1).at_ (k := k) (show k < n by have : l.length = n := HL.out; omega)
      obtain ⟨y, hy⟩ : ∃ y, l[k].e = y := ⟨_, rfl⟩
      rw [hy] at d2 HF
      have hkn : k < n := by have : l.length = n := HL.out; omega
      clear hy
      go_wp2
      go_ret
      exact ⟨ret_bool HF.out.symm, hB1⟩
    · have HF := Lib.hid (inT_no (l := l) hbe)
      go_wp2
      go_ret
      exact ⟨ret_bool HF.out.symm, hB1⟩
end Go.Proofs.YtgkdaebiefhgdaaDoor
