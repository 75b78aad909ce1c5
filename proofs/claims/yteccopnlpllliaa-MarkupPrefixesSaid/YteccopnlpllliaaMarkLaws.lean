/-
  Chapter 4's laws MarkupNames, MarkupValues, MarkupEscapes, MarkupBack return true. Condition: a text's length is an int.
-/
import Derived.Test.YteccopnlpllliaaMarkAwake
namespace Go.Proofs.Yteccopnlpllliaa
open Go.RowKit Utf Tagp
open Feat (Bs lt)
attribute [local go_sem] byte_mk ByteArray.extract_mk

theorem esc_cons (c : UInt8) (r : Bs) : esc (c :: r) = escB c ++ esc r := by simp [esc]
theorem un_escB (c : UInt8) (t : Bs) (i : Nat) : Tagp.un (escB c ++ t) 0 i = (Tagp.un t 0 (i + (escB c).length)).map (c :: ·) := by
  unfold escB
  split
  · rename_i h; subst h
    simp [Tagp.un, esc1, List.isPrefixOf, enc_38]
  · split
    · rename_i h; subst h
      simp [Tagp.un, esc1, List.isPrefixOf, enc_60]
    · split
      · rename_i h; subst h
        simp [Tagp.un, esc1, List.isPrefixOf, enc_62]
      · split
        · rename_i h; subst h
          simp [Tagp.un, esc1, List.isPrefixOf, enc_34]
        · rename_i h _ _ _
          simp [Tagp.un, h]
theorem un_back : ∀ (s : Bs) (i : Nat), Tagp.un (esc s) 0 i = .ok s
  | [], i => rfl
  | c :: r, i => by rw [esc_cons, un_escB, un_back r]; rfl
theorem unesc_esc (s : Bs) : unesc (esc s) = (s, 0, 0) := by unfold unesc; rw [un_back]

/-- The law returns true, and nothing that was there is changed. -/
def Trues (w : World) (e : Ending) (w' : World) : Prop := e = .returned (.bool true) ∧ Below w.heap.size w w'

set_option maxHeartbeats 800000 in
theorem law_names (s : Bs) (hs : s.length ≤ 9223372036854775807) (w : World) : Calls Try.prog 3 #[str s] w (Trues w) := by
  by_cases h : 200 < s.length
  · have hd : decide ((200 : Int) < (s.length : Int)) = true := by rw [decide_eq_true_iff]; omega
    go_enter Try.func3, Try.ntmps3
    go_wp2
    go_ret
    exact ⟨rfl, Below.refl _ _⟩
  · have hd : decide ((200 : Int) < (s.length : Int)) = false := by rw [decide_eq_false_iff_not]; omega
    go_enter Try.func3, Try.ntmps3
    go_wp2_with fail
    refine (validName_any s hs w).mono ?_
    rintro e w1 ⟨rfl, rfl⟩
    go_wp2_with fail
    refine (refValidName_any s hs _).mono ?_
    rintro e w2 ⟨rfl, rfl⟩
    go_wp2_with fail
    refine (awake_any _).mono ?_
    rintro e w3 ⟨rfl, hb⟩
    go_wp2
    go_ret
    exact ⟨rfl, hb⟩
set_option maxHeartbeats 800000 in
theorem law_values (s : Bs) (hs : s.length ≤ 9223372036854775807) (w : World) : Calls Try.prog 4 #[str s] w (Trues w) := by
  by_cases h : 400 < s.length
  · have hd : decide ((400 : Int) < (s.length : Int)) = true := by rw [decide_eq_true_iff]; omega
    go_enter Try.func4, Try.ntmps4
    go_wp2
    go_ret
    exact ⟨rfl, Below.refl _ _⟩
  · have hd : decide ((400 : Int) < (s.length : Int)) = false := by rw [decide_eq_false_iff_not]; omega
    go_enter Try.func4, Try.ntmps4
    go_wp2_with fail
    refine (value_any s hs w).mono ?_
    rintro e w1 ⟨rfl, hb1⟩
    go_wp2_with fail
    refine (refValue_any s hs _).mono ?_
    rintro e w2 ⟨rfl, hb2⟩
    go_wp2_with fail
    refine (awake_any _).mono ?_
    rintro e w3 ⟨rfl, hb3⟩
    go_wp2
    go_ret
    exact ⟨rfl, hb1.trans (Below.mono (hb2.trans (Below.mono hb3 hb2.size)) hb1.size)⟩
set_option maxHeartbeats 800000 in
theorem law_escapes (s : Bs) (w : World) (hs : s.length ≤ 9223372036854775807) : Calls Try.prog 5 #[str s] w (Trues w) := by
  by_cases h : 400 < s.length
  · have hd : decide ((400 : Int) < (s.length : Int)) = true := by rw [decide_eq_true_iff]; omega
    go_enter Try.func5, Try.ntmps5
    go_wp2
    go_ret
    exact ⟨rfl, Below.refl _ _⟩
  · have hd : decide ((400 : Int) < (s.length : Int)) = false := by rw [decide_eq_false_iff_not]; omega
    go_enter Try.func5, Try.ntmps5
    go_wp2_with fail
    refine (escape_any s (by omega) w).mono ?_
    rintro e w1 ⟨rfl, hb1⟩
    go_wp2_with fail
    refine (refEscape_any s (by omega) _).mono ?_
    rintro e w2 ⟨rfl, rfl⟩
    go_wp2_with fail
    refine (awake_any _).mono ?_
    rintro e w3 ⟨rfl, hb3⟩
    go_wp2
    go_ret
    exact ⟨rfl, hb1.trans (Below.mono hb3 hb1.size)⟩
set_option maxHeartbeats 1600000 in
theorem law_back (s t : Bs) (hs : s.length ≤ 9223372036854775807) (ht : t.length ≤ 9223372036854775807) (w : World) : Calls Try.prog 8 #[str s, str t] w (Trues w) := by
  by_cases h : 300 < s.length
  · have hd : decide ((300 : Int) < (s.length : Int)) = true := by rw [decide_eq_true_iff]; omega
    go_enter Try.func8, Try.ntmps8
    go_wp2
    go_ret
    exact ⟨rfl, Below.refl _ _⟩
  · by_cases h2 : 300 < t.length
    · have hd : decide ((300 : Int) < (s.length : Int)) = false := by rw [decide_eq_false_iff_not]; omega
      have hd2 : decide ((300 : Int) < (t.length : Int)) = true := by rw [decide_eq_true_iff]; omega
      go_enter Try.func8, Try.ntmps8
      go_wp2
      go_ret
      exact ⟨rfl, Below.refl _ _⟩
    · have hd : decide ((300 : Int) < (s.length : Int)) = false := by rw [decide_eq_false_iff_not]; omega
      have hd2 : decide ((300 : Int) < (t.length : Int)) = false := by rw [decide_eq_false_iff_not]; omega
      have hel := esc_len s
      have hel2 := esc_len t
      have hU := fun W => unescape_any (esc s) (by omega) W
      unfold Une at hU
      rw [unesc_esc] at hU
      have hst := fun W => escape_any (s ++ t) (by simp; omega) W
      rw [esc_append] at hst
      have r1 := fun W => add_str (P := Try.prog) W s t (by omega)
      have r2 := fun W => add_str (P := Try.prog) W (esc s) (esc t) (by omega)
      go_enter Try.func8, Try.ntmps8
      go_wp2_with fail
      refine (escape_any s (by omega) w).mono ?_
      rintro e w1 ⟨rfl, hb1⟩
      go_wp2_with fail
      refine (hU _).mono ?_
      rintro e w2 ⟨hb2, rfl⟩
      have hB2 := hb1.trans (Below.mono hb2 hb1.size)
      go_wp2_with fail
      refine (hst _).mono ?_
      rintro e w3 ⟨rfl, hb3⟩
      have hB3 := hB2.trans (Below.mono hb3 hB2.size)
      go_wp2_with fail
      refine (escape_any s (by omega) _).mono ?_
      rintro e w4 ⟨rfl, hb4⟩
      have hB4 := hB3.trans (Below.mono hb4 hB3.size)
      go_wp2_with fail
      refine (escape_any t (by omega) _).mono ?_
      rintro e w5 ⟨rfl, hb5⟩
      have hB5 := hB4.trans (Below.mono hb5 hB4.size)
      go_wp2_with fail
      refine (awake_any _).mono ?_
      rintro e w6 ⟨rfl, hb6⟩
      go_wp2
      go_ret
      exact ⟨rfl, hB5.trans (Below.mono hb6 hB5.size)⟩
end Go.Proofs.Yteccopnlpllliaa
