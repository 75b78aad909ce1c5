/-
  The contracts of markup's and the reference's bytes of names and ValidName. Condition: a text's length is an int.
-/
import Derived.Test.YtnbnmomichegaaaDoorMark
import Derived.Test.YtnbnmomichegaaaDoorText9
import Derived.WalkSpells
namespace Go.Proofs.YtnbnmomichegaaaDoor
open Go.RowKit Utf Tagp
open Feat (Bs)

attribute [local go_sem] byte_mk ByteArray.extract_mk

theorem beg_int (c : UInt8) : beg c = ((decide (65 ≤ (c.toNat : Int)) && decide ((c.toNat : Int) ≤ 90) || decide (97 ≤ (c.toNat : Int)) && decide ((c.toNat : Int) ≤ 122)) || (c.toNat : Int) == 95) := by
  unfold beg
  rw [Bool.eq_iff_iff]
  simp only [Bool.or_eq_true, Bool.and_eq_true, decide_eq_true_eq, beq_iff_eq]
  omega
theorem bool_of {a b : Bool} (h : a = true ↔ b = true) : a = b := Bool.eq_iff_iff.2 h
theorem beg_iff (c : UInt8) : beg c = true ↔ (65 ≤ (c.toNat : Int) ∧ (c.toNat : Int) ≤ 90 ∨ 97 ≤ (c.toNat : Int) ∧ (c.toNat : Int) ≤ 122) ∨ (c.toNat : Int) = 95 := by
  rw [beg_int]
  simp only [Bool.or_eq_true, Bool.and_eq_true, decide_eq_true_eq, beq_iff_eq]
theorem begins_any (c : UInt8) (w : World) : Calls Tryd.prog 31 #[.int .u8 (c.toNat : Nat)] w (SameW (.bool (beg c)) w) := by
  go_enter Tryd.func31, Tryd.ntmps31
  go_wp2
  all_goals go_ret
  all_goals refine ⟨ret_bool (bool_of ((beg_iff c).trans ?_).symm), rfl⟩
  all_goals simp
  all_goals omega
theorem first_any (c : UInt8) (w : World) : Calls Tryd.prog 35 #[.int .u8 (c.toNat : Nat)] w (SameW (.bool (beg c)) w) := by
  go_enter Tryd.func35, Tryd.ntmps35
  go_wp2
  all_goals go_ret
  all_goals refine ⟨ret_bool (bool_of ((beg_iff c).trans ?_).symm), rfl⟩
  all_goals simp
  all_goals omega
theorem gon_iff (c : UInt8) (b : Bool) (h : beg c = b) : gon c = true ↔ (b = true ∨ 48 ≤ (c.toNat : Int) ∧ (c.toNat : Int) ≤ 57) ∨ (c.toNat : Int) = 45 := by
  subst h
  unfold gon dig
  cases beg c
  · simp only [Bool.or_eq_true, Bool.and_eq_true, decide_eq_true_eq, Bool.false_eq_true, false_or]
    omega
  · simp
theorem goesOn_any (c : UInt8) (w : World) : Calls Tryd.prog 32 #[.int .u8 (c.toNat : Nat)] w (SameW (.bool (gon c)) w) := by
  have hg := gon_iff c _ rfl
  obtain ⟨b, hb⟩ : ∃ b, beg c = b := ⟨_, rfl⟩
  have hx := begins_any c w
  rw [hb] at hg hx
  have HG := Lib.hid hg
  clear hg hb
  go_enter Tryd.func32, Tryd.ntmps32
  go_wp2_with fail
  refine hx.mono ?_
  rintro e w1 ⟨rfl, rfl⟩
  cases b
  all_goals go_wp2
  all_goals go_ret
  all_goals refine ⟨ret_bool (bool_of (HG.out.trans ?_).symm), rfl⟩
  all_goals simp
  all_goals omega
theorem next_any (c : UInt8) (w : World) : Calls Tryd.prog 36 #[.int .u8 (c.toNat : Nat)] w (SameW (.bool (gon c)) w) := by
  have hg := gon_iff c _ rfl
  obtain ⟨b, hb⟩ : ∃ b, beg c = b := ⟨_, rfl⟩
  have hx := first_any c w
  rw [hb] at hg hx
  have HG := Lib.hid hg
  clear hg hb
  go_enter Tryd.func36, Tryd.ntmps36
  go_wp2_with fail
  refine hx.mono ?_
  rintro e w1 ⟨rfl, rfl⟩
  cases b
  all_goals go_wp2
  all_goals go_ret
  all_goals refine ⟨ret_bool (bool_of (HG.out.trans ?_).symm), rfl⟩
  all_goals simp
  all_goals omega

theorem okName_no {s : Bs} (h : s.length = 0 ∨ 32 < s.length) : okName s = false := by
  unfold okName
  rcases h with h | h
  · simp [h]
  · simp; intros; omega
theorem okName_head {s : Bs} (h0 : 0 < s.length) (h : beg s[0] = false) : okName s = false := by
  unfold okName
  match s, h0, h with
  | c :: r, _, h => simp at h; simp [h]
theorem okName_yes {s : Bs} (h0 : 0 < s.length) (h1 : s.length ≤ 32) (h : beg s[0] = true) : okName s = s.all gon := by
  unfold okName
  match s, h0, h1, h with
  | c :: r, _, h1, h => simp at h h1; simp [h]; intros; omega
theorem all_drop {s : Bs} {k : Nat} (hk : k < s.length) : (s.drop k).all gon = (gon s[k] && (s.drop (k + 1)).all gon) := by rw [List.drop_eq_getElem_cons hk]; rfl
theorem gon_beg {c : UInt8} (h : beg c = true) : gon c = true := by unfold gon; simp [h]

set_option maxHeartbeats 800000 in
theorem validName_any (s : Bs) (hs : s.length ≤ 9223372036854775807) (w : World) : Calls Tryd.prog 14 #[str s] w (SameW (.bool (okName s)) w) := by
  by_cases h0 : s.length = 0 ∨ 32 < s.length
  · have HE := Lib.hid (okName_no h0)
    by_cases h1 : s.length = 0
    · have d1 : decide ((s.length : Int) < 1) = true := by rw [decide_eq_true_iff]; omega
      clear h0 h1
      go_enter Tryd.func14, Tryd.ntmps14
      go_wp2
      go_ret
      exact ⟨ret_bool HE.out.symm, rfl⟩
    · have d1 : decide ((s.length : Int) < 1) = false := by rw [decide_eq_false_iff_not]; omega
      have d2 : decide ((32 : Int) < (s.length : Int)) = true := by rw [decide_eq_true_iff]; omega
      clear h0 h1
      go_enter Tryd.func14, Tryd.ntmps14
      go_wp2
      go_ret
      exact ⟨ret_bool HE.out.symm, rfl⟩
  · have d1 : decide ((s.length : Int) < 1) = false := by rw [decide_eq_false_iff_not]; omega
    have d2 : decide ((32 : Int) < (s.length : Int)) = false := by rw [decide_eq_false_iff_not]; omega
    have hp : 0 < s.length := by omega
    cases hb : beg s[0] with
    | false =>
      have HE := Lib.hid (okName_head hp hb)
      have HB := Lib.hid hb
      clear h0 hb
      go_enter Tryd.func14, Tryd.ntmps14
      go_wp2_with fail
      refine (begins_any s[0] w).mono ?_
      rintro e w1 ⟨rfl, rfl⟩
      rw [HB.out]
      go_wp2
      go_ret
      exact ⟨ret_bool HE.out.symm, rfl⟩
    | true =>
      have HE := Lib.hid (okName_yes hp (by omega) hb)
      have HB := Lib.hid hb
      clear h0 hb
      go_enter Tryd.func14, Tryd.ntmps14
      go_wp2_with fail
      refine (begins_any s[0] w).mono ?_
      rintro e w1 ⟨rfl, rfl⟩
      rw [HB.out]
      go_wp2
      go_loop [20] (fun i => ∃ k : Nat, k ≤ s.length ∧ i = .int .i64 k ∧ Hid (s.all gon = (s.drop k).all gon)) (fun i => s.length - (intOf i).toNat)
      case atStart => exact ⟨0, by omega, rfl, rfl⟩
      case round =>
        obtain ⟨k, hk, rfl, hno⟩ := hrel
        by_cases hlt : k < s.length
        · have hst := Lib.hid (all_drop hlt)
          cases hg : gon s[k] with
          | true =>
            have HG := Lib.hid hg
            clear hg
            go_wp2_with fail
            refine (goesOn_any s[k] w).mono ?_
            rintro e w1 ⟨rfl, rfl⟩
            rw [HG.out]
            go_wp2
            go_round
            case rel => exact ⟨k + 1, by omega, by go_num, by show _ = _; rw [hno.out, hst.out, HG.out]; rfl⟩
            case measure => simp [intOf]; omega
          | false =>
            have HG := Lib.hid hg
            clear hg
            go_wp2_with fail
            refine (goesOn_any s[k] w).mono ?_
            rintro e w1 ⟨rfl, rfl⟩
            rw [HG.out]
            go_wp2
            go_ret
            exact ⟨ret_bool (by rw [HE.out, hno.out, hst.out, HG.out]; rfl), rfl⟩
        · have hd : Hid (s.drop k = []) := List.drop_eq_nil_of_le (by omega)
          go_wp2
          go_ret
          exact ⟨ret_bool (by rw [HE.out, hno.out, hd.out]; rfl), rfl⟩

set_option maxHeartbeats 800000 in
theorem refValidName_any (s : Bs) (hs : s.length ≤ 9223372036854775807) (w : World) : Calls Tryd.prog 17 #[str s] w (SameW (.bool (okName s)) w) := by
  by_cases h0 : s.length = 0 ∨ 32 < s.length
  · have HE := Lib.hid (okName_no h0)
    by_cases h1 : s.length = 0
    · have d1 : decide ((s.length : Int) < 1) = true := by rw [decide_eq_true_iff]; omega
      clear h0 h1
      go_enter Tryd.func17, Tryd.ntmps17
      go_wp2
      go_ret
      exact ⟨ret_bool HE.out.symm, rfl⟩
    · have d1 : decide ((s.length : Int) < 1) = false := by rw [decide_eq_false_iff_not]; omega
      have d2 : decide ((32 : Int) < (s.length : Int)) = true := by rw [decide_eq_true_iff]; omega
      clear h0 h1
      go_enter Tryd.func17, Tryd.ntmps17
      go_wp2
      go_ret
      exact ⟨ret_bool HE.out.symm, rfl⟩
  · have d1 : decide ((s.length : Int) < 1) = false := by rw [decide_eq_false_iff_not]; omega
    have d2 : decide ((32 : Int) < (s.length : Int)) = false := by rw [decide_eq_false_iff_not]; omega
    have hp : 0 < s.length := by omega
    cases hb : beg s[0] with
    | false =>
      have HE := Lib.hid (okName_head hp hb)
      have HB := Lib.hid hb
      clear h0 hb
      go_enter Tryd.func17, Tryd.ntmps17
      go_wp2_with fail
      refine (first_any s[0] w).mono ?_
      rintro e w1 ⟨rfl, rfl⟩
      rw [HB.out]
      go_wp2
      go_ret
      exact ⟨ret_bool HE.out.symm, rfl⟩
    | true =>
      have HE := Lib.hid (okName_yes hp (by omega) hb)
      have HB := Lib.hid hb
      clear h0 hb
      go_enter Tryd.func17, Tryd.ntmps17
      go_wp2_with fail
      refine (first_any s[0] w).mono ?_
      rintro e w1 ⟨rfl, rfl⟩
      rw [HB.out]
      go_wp2
      go_loop [3] (fun i => ∃ k : Nat, k ≤ s.length ∧ i = .int .i64 k ∧ Hid (s.all gon = (s.drop k).all gon)) (fun i => s.length - (intOf i).toNat)
      case atStart => exact ⟨1, by omega, rfl, by show _ = _; have h1 := all_drop hp; rw [List.drop_zero] at h1; rw [h1, gon_beg HB.out]; rfl⟩
      case round =>
        obtain ⟨k, hk, rfl, hno⟩ := hrel
        by_cases hlt : k < s.length
        · have hst := Lib.hid (all_drop hlt)
          cases hg : gon s[k] with
          | true =>
            have HG := Lib.hid hg
            clear hg
            go_wp2_with fail
            refine (next_any s[k] w).mono ?_
            rintro e w1 ⟨rfl, rfl⟩
            rw [HG.out]
            go_wp2
            go_round
            case rel => exact ⟨k + 1, by omega, by go_num, by show _ = _; rw [hno.out, hst.out, HG.out]; rfl⟩
            case measure => simp [intOf]; omega
          | false =>
            have HG := Lib.hid hg
            clear hg
            go_wp2_with fail
            refine (next_any s[k] w).mono ?_
            rintro e w1 ⟨rfl, rfl⟩
            rw [HG.out]
            go_wp2
            go_ret
            exact ⟨ret_bool (by rw [HE.out, hno.out, hst.out, HG.out]; rfl), rfl⟩
        · have hd : Hid (s.drop k = []) := List.drop_eq_nil_of_le (by omega)
          go_wp2
          go_ret
          exact ⟨ret_bool (by rw [HE.out, hno.out, hd.out]; rfl), rfl⟩
end Go.Proofs.YtnbnmomichegaaaDoor
