/-
  The contracts of the checks of attributes and tokens, of the program's and the reference's. Conditions: none but that a corpus reads as it does.
-/
import Derived.Test.YtgkdaebiefhgdaaDoorCorPair
namespace Go.Proofs.YtgkdaebiefhgdaaDoor
open Go.RowKit Utf
open Feat (Bs)
open Tagp (KV okName)
open Cor (atF atErr vlErr tvF tkF tkErr first)

theorem ret_pt {p : Nat × Nat} {a b : Int} (h1 : (p.1 : Int) = a) (h2 : (p.2 : Int) = b) : Ending.returned (.tuple #[.int .i64 a, .int .i64 b]) = .returned (.tuple #[.int .i64 (p.1 : Nat), .int .i64 (p.2 : Nat)]) := by rw [h1, h2]
theorem ret_p {p q : Nat × Nat} (h : p = q) {a b : Int} (h1 : (q.1 : Int) = a) (h2 : (q.2 : Int) = b) : Ending.returned (.tuple #[.int .i64 a, .int .i64 b]) = .returned (.tuple #[.int .i64 (p.1 : Nat), .int .i64 (p.2 : Nat)]) := by rw [h]; exact ret_pt h1 h2
theorem any_take_true {α : Type} {l : List α} {p : α → Bool} {k j : Nat} (hj : j < k) (hl : j < l.length) (h : p l[j] = true) : (l.take k).any p = true := by
  rw [List.any_eq_true]
  refine ⟨l[j], ?_, h⟩
  rw [List.mem_take_iff_getElem]
  exact ⟨j, by omega, rfl⟩
theorem any_take_false {α : Type} {l : List α} {p : α → Bool} {k : Nat} (h : ∀ j (_ : j < k) (h2 : j < l.length), p l[j] = false) : (l.take k).any p = false := by
  rw [List.any_eq_false]
  intro x hx
  rw [List.mem_take_iff_getElem] at hx
  obtain ⟨j, hj, rfl⟩ := hx
  rw [h j (by omega) (by omega)]; simp
theorem stepG {α : Type} {l : List α} {p : α → Bool} {k : Nat} (h : ∀ j (_ : j < k) (h2 : j < l.length), p l[j] = false) (hk : k < l.length) (e : p l[k] = false) : ∀ j (_ : j < k + 1) (h2 : j < l.length), p l[j] = false := by
  intro j hj h2
  by_cases e2 : j = k
  · subst e2; exact e
  · exact h j (by omega) h2

theorem atF_at {l : List At} {k : Nat} (hk : k < l.length) : atF l k = if okName l[k].1 = false then 4 else if (l.take k).any (fun b => b.1 == l[k].1) = true then 5 else 0 := by
  unfold atF; rw [List.getElem?_eq_getElem hk]
theorem atErr_at {l : List At} {k : Nat} (h8 : ¬ 8 < l.length) (hk : k < l.length) (h : ∀ j, j < k → atF l j = 0) (hf : atF l k ≠ 0) : atErr l = (k, atF l k) := by
  unfold atErr; rw [if_neg (by omega), if_neg h8, Cor.first_at 0 l.length k (Nat.zero_le _) (by omega) (fun j _ hj => h j hj) hf]
theorem atErr_zero {l : List At} (h0 : l.length ≠ 0) (h8 : ¬ 8 < l.length) (h : ∀ j, j < l.length → atF l j = 0) : atErr l = (0, 0) := by
  unfold atErr; rw [if_neg h0, if_neg h8, Cor.first_none 0 l.length (fun j _ hj => h j (by omega))]
theorem info_attr : (Tryd.prog.info? 55).map (fun i => (i.zero, i.size, i.bytes)) = some (some (.agg #[.string ⟨#[]⟩, .bool false]), 2, 24) := by kernel_rfl

set_option maxRecDepth 100000 in
theorem value1_any (a : At) (v : Bs) (hv : v.length ≤ 9223372036854775807) (w : World) :
    Calls Tryd.prog 33 #[.agg #[str a.1, .bool a.2], str v] w (Kept (.int .i64 (vlErr a v : Nat)) w) := by
  obtain ⟨x, b⟩ := a
  have hB0 := (Below.refl w.heap.size w).alloc (Nat.le_refl _) (.cells #[str x, .bool b] 55)
  cases b with
  | true =>
    have HF : Hid (vlErr (x, true) v = (Feat.parse v).2) := by show _ = _; unfold vlErr; rw [if_pos rfl]
    go_enter Tryd.func33, Tryd.ntmps33
    go_wp2_with fail
    refine (parse_any v hv _).mono ?_
    rintro e w1 ⟨u, rfl, _, hb⟩
    go_wp2
    go_ret
    exact ⟨ret_int (by rw [HF.out]), hB0.trans (hb.mono hB0.size)⟩
  | false =>
    have HF : Hid (vlErr (x, false) v = vErr v) := by show _ = _; unfold vlErr; rw [if_neg (by simp)]
    go_enter Tryd.func33, Tryd.ntmps33
    go_wp2_with fail
    refine (value_any v hv _).mono ?_
    rintro e w1 ⟨rfl, hb⟩
    go_wp2
    go_ret
    exact ⟨ret_int (by rw [HF.out]), hB0.trans (hb.mono hB0.size)⟩
set_option maxRecDepth 100000 in
set_option maxHeartbeats 2000000 in
theorem attributes_any (H : CH) (l : List At) (w : World) (hx : Atts w w.heap.size H.a l) :
    Calls Tryd.prog 14 #[H.v] w (Kept (.tuple #[.int .i64 ((atErr l).1 : Nat), .int .i64 ((atErr l).2 : Nat)]) w) := by
  obtain ⟨⟨A, n, c⟩, ht, hX, hr, hn, hh, hl⟩ := H
  have HL := Lib.hid hx.len
  have f1 : n ≤ 9223372036854775807 := hx.1.2
  have f2 : n ≤ c := hx.1.1
  obtain ⟨i0, hi0, hz0, hz1, hz2⟩ := info_parts info_attr
  have hB0 := (Below.refl w.heap.size w).alloc (Nat.le_refl _) (.cells #[.slice A n c, ht.v, hX.v, hr.v, hn.v, hh.v, hl.v] 30)
  have hb0 := Blk.new w 30 #[.slice A n c, ht.v, hX.v, hr.v, hn.v, hh.v, hl.v]
  show Calls Tryd.prog 14 #[.agg #[.slice A n c, ht.v, hX.v, hr.v, hn.v, hh.v, hl.v]] w _
  by_cases h0 : n = 0
  · subst h0
    have HF : Hid (atErr l = (0, 15)) := by show _ = _; unfold atErr; rw [if_pos HL.out]
    go_enter Tryd.func14, Tryd.ntmps14
    go_wp2
    go_ret2
    exact ⟨ret_p HF.out rfl rfl, hB0⟩
  have E0 : ((n : Int) == 0) = false := by rw [beq_eq_false_iff_ne]; omega
  by_cases h8 : 8 < n
  · have HF : Hid (atErr l = (0, 2)) := by show _ = _; unfold atErr; rw [if_neg (by have : l.length = n := HL.out; omega), if_pos (by have : l.length = n := HL.out; omega)]
    clear h0
    go_enter Tryd.func14, Tryd.ntmps14
    go_wp2
    go_ret2
    exact ⟨ret_p HF.out rfl rfl, hB0⟩
  go_enter Tryd.func14, Tryd.ntmps14
  go_wp2
  go_loopw [21] (fun iv wr => ∃ k : Nat, k ≤ n ∧ iv = .int .i64 k ∧ Below w.heap.size w wr ∧ Blk wr w.heap.size 30 #[.slice A n c, ht.v, hX.v, hr.v, hn.v, hh.v, hl.v] ∧ Hid (∀ j, j < k → atF l j = 0)) (fun iv _ => n - (intOf iv).toNat)
  case atStart => exact ⟨0, by omega, rfl, hB0, hb0, fun j hj => by omega⟩
  case round =>
    obtain ⟨k, hk, rfl, hB, hbx, hinv⟩ := hrel
    by_cases hlt : k < n
    · obtain ⟨g, o, hk', e0, hg, z0, c0, c1⟩ := (hx.under hB).at_ hlt
      have e0 : A = some ⟨g, o, none⟩ := e0
      subst e0
      have HF := Lib.hid (atF_at hk')
      have HA := Lib.hid (fun h => atErr_at (l := l) (k := k) (by have : l.length = n := HL.out; omega) hk' hinv.out h)
      obtain ⟨⟨x, xb⟩, hx'⟩ : ∃ p, l[k] = p := ⟨_, rfl⟩
      rw [hx'] at HF c0 c1 z0
      have z0 : x.length ≤ 9223372036854775807 := z0
      clear hx' hk'
      have hBa := hB.alloc hB.size (.cells #[str x, .bool xb] 55)
      have hpa := Blk.new wr 55 #[str x, .bool xb]
      have b00 := hbx.cell 0
      have b01 := (hbx.alloc (.cells #[str x, .bool xb] 55)).cell 0
      go_wp2_with fail
      refine (validName_any x z0 _).mono ?_
      rintro e w1 ⟨rfl, rfl⟩
      cases hok : okName x with
      | false =>
        have HF2 := Lib.hid (HF.out.trans (if_pos hok))
        have HF3 : Hid (atErr l = (k, 4)) := by show _ = _; rw [HA.out (by rw [HF2.out]; simp), HF2.out]
        clear hok HF HA HF2
        go_wp2
        go_ret2
        exact ⟨ret_p HF3.out rfl rfl, hBa⟩
      | true =>
        have HF2 := Lib.hid (HF.out.trans (if_neg (by rw [hok]; simp)))
        clear hok HF
        have hs1 := fun W => slice_to (P := Tryd.prog) 22 55 i0 Tryd.underlying22 hi0 (some ⟨g, o, none⟩) n c k (by omega) W
        go_wp2
        obtain ⟨wo, rfl⟩ : ∃ wo : World, wo = wr := ⟨_, rfl⟩
        go_loopw [36] (fun jv wr2 => ∃ j : Nat, j ≤ k ∧ jv = .int .i64 j ∧ Below w.heap.size w wr2 ∧ Blk wr2 w.heap.size 30 #[.slice (some ⟨g, o, none⟩) n c, ht.v, hX.v, hr.v, hn.v, hh.v, hl.v] ∧ Blk wr2 wo.heap.size 55 #[str x, .bool xb] ∧ Hid (∀ i (_ : i < j) (h2 : i < l.length), (l[i].1 == x) = false)) (fun jv _ => k - (intOf jv).toNat)
        case atStart => exact ⟨0, by omega, rfl, hBa, hbx.alloc _, hpa, fun j hj => by omega⟩
        case round =>
          obtain ⟨j, hj, rfl, hB2, hbx2, hp2, hin2⟩ := hrel
          by_cases hjt : j < k
          · obtain ⟨g', o', hj', e0, hg', hz', d0, d1⟩ := (hx.under hB2).at_ (k := j) (show j < n by omega)
            cases e0
            clear hz'
            obtain ⟨⟨y, yb⟩, hy'⟩ : ∃ p, l[j] = p := ⟨_, rfl⟩
            have hpx := (hp2.alloc (.cells #[str y, .bool yb] 55)).cell 0
            rw [hy'] at d0 d1
            have HY := Lib.hid hy'
            clear hy'
            by_cases e : y = x
            · have E : (y == x) = true := by simpa using e
              have E2 : (x == y) = true := by simpa using e.symm
              have HF3 : Hid (atErr l = (k, 5)) := by
                have hf := HF2.out.trans (if_pos (any_take_true (p := fun b : At => b.1 == x) hjt hj' (by show (l[j].1 == x) = true; rw [HY.out]; exact E)))
                show _ = _
                rw [HA.out (by rw [hf]; simp), hf]
              clear e HF2 HA HY hj'
              go_wp2
              go_ret2
              exact ⟨ret_p HF3.out rfl rfl, hB2.alloc hB2.size _⟩
            · have E : (y == x) = false := by simpa using e
              have E2 : (x == y) = false := by simpa using fun h => e h.symm
              have HI : Hid (∀ i (_ : i < j + 1) (h2 : i < l.length), (l[i].1 == x) = false) := stepG (p := fun b : At => b.1 == x) hin2.out hj' (by show (l[j].1 == x) = false; rw [HY.out]; exact E)
              clear e hin2 HY hj'
              go_wp2
              go_roundw
              case rel => exact ⟨j + 1, by omega, by go_num, hB2.alloc hB2.size _, hbx2.alloc _, hp2.alloc _, HI⟩
              case measure => simp [intOf]; omega
          · have HI : Hid (∀ i, i < k + 1 → atF l i = 0) := by
              have hf := HF2.out.trans (if_neg (by rw [any_take_false (p := fun b : At => b.1 == x) (fun i hi h2 => hin2.out i (by omega) h2)]; simp))
              exact upto_step hinv.out hf
            clear hin2 HF2 HA
            go_wp2
            go_roundw
            case rel => exact ⟨k + 1, by omega, by go_num, hB2, hbx2, HI⟩
            case measure => simp [intOf]; omega
    · have HF : Hid (atErr l = (0, 0)) := atErr_zero (by have : l.length = n := HL.out; omega) (by have : l.length = n := HL.out; omega) (fun j hj => hinv.out j (by have : l.length = n := HL.out; omega))
      clear hinv h0
      go_wp2
      go_ret2
      exact ⟨ret_p HF.out rfl rfl, hB⟩

end Go.Proofs.YtgkdaebiefhgdaaDoor
