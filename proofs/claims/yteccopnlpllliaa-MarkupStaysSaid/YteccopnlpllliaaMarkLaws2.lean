/-
  Chapter 4's law MarkupStays returns true. Condition: a text's length is an int.
-/
import Derived.Test.YteccopnlpllliaaMarkLaws
import Derived.Test.YteccopnlpllliaaMarkStay
namespace Go.Proofs.Yteccopnlpllliaa
open Go.RowKit Utf Tagp
open Feat (Bs lt)
attribute [local go_sem] byte_mk ByteArray.extract_mk

set_option maxHeartbeats 1600000 in
theorem law_stays (s t : Bs) (hs : s.length ≤ 9223372036854775807) (ht : t.length ≤ 9223372036854775807) (w : World) : Calls Try.prog 10 #[str s, str t] w (Trues w) := by
  by_cases h : 1000 < s.length
  · have hd : decide ((1000 : Int) < (s.length : Int)) = true := by rw [decide_eq_true_iff]; omega
    go_enter Try.func10, Try.ntmps10
    go_wp2
    go_ret
    exact ⟨rfl, Below.refl _ _⟩
  · by_cases h2 : 300 < t.length
    · have hd : decide ((1000 : Int) < (s.length : Int)) = false := by rw [decide_eq_false_iff_not]; omega
      have hd2 : decide ((300 : Int) < (t.length : Int)) = true := by rw [decide_eq_true_iff]; omega
      go_enter Try.func10, Try.ntmps10
      go_wp2
      go_ret
      exact ⟨rfl, Below.refl _ _⟩
    · have hd : decide ((1000 : Int) < (s.length : Int)) = false := by rw [decide_eq_false_iff_not]; omega
      have hd2 : decide ((300 : Int) < (t.length : Int)) = false := by rw [decide_eq_false_iff_not]; omega
      have hP := parseTag_any s w (by omega)
      have hst := parse_stay s t
      have hP2 := fun W => parseTag_any (s ++ [62] ++ t) W (by simp; omega)
      have r1 : ∀ W, (Op.stringOp .add ⟨s.toArray⟩ ⟨#[62]⟩).run Try.prog W = .ok (str (s ++ [62])) W := fun W => add_str W s [62] (by simp; omega)
      obtain ⟨a1, ha1⟩ : ∃ a, s ++ [62] = a := ⟨_, rfl⟩
      have hal : a1.length = s.length + 1 := by rw [← ha1]; simp
      have r2 := fun W => add_str (P := Try.prog) W a1 t (by omega)
      rw [show s ++ 62 :: t = s ++ [62] ++ t by simp] at hst
      simp only [ha1] at r1 hP2 hst
      obtain ⟨a2, ha2⟩ : ∃ a, a1 ++ t = a := ⟨_, rfl⟩
      simp only [ha2] at r2 hP2 hst
      clear ha1 ha2
      unfold Parsed at hP hP2
      obtain ⟨tg, p, n, hpp⟩ : ∃ tg p n, parseP s = (tg, p, n) := ⟨_, _, _, rfl⟩
      obtain ⟨cl, nm, l⟩ := tg
      rw [hpp] at hP hst
      simp only at hP hst
      clear hpp
      go_enter Try.func10, Try.ntmps10
      go_wp2_with fail
      refine hP.mono ?_
      rintro e w1 ⟨v, rfl, own1, hb1⟩
      obtain ⟨A, c, rfl, -⟩ := own_slc own1
      have hB1 := hb1.alloc hb1.size (.cells #[.bool cl, str nm, .slice A l.length c] 33)
      by_cases hn : n = 0
      · have q : ((n : Int) == 0) = true := by rw [hn]; rfl
        clear hn hst
        go_wp2_with fail
        refine (awake_any _).mono ?_
        rintro e w2 ⟨rfl, hb2⟩
        go_wp2
        go_ret
        exact ⟨rfl, hB1.trans (Below.mono hb2 hB1.size)⟩
      · have q : ((n : Int) == 0) = false := by rw [beq_eq_false_iff_ne]; omega
        by_cases hp : p < s.length
        · have q2 : decide ((s.length : Int) ≤ (p : Int)) = false := by rw [decide_eq_false_iff_not]; omega
          have q3 : decide ((0 : Int) ≤ (p : Int)) = true := by rw [decide_eq_true_iff]; omega
          have hsame := hst hn hp
          rw [hsame] at hP2
          simp only at hP2
          clear hn hst hsame
          go_wp2_with fail
          refine (hP2 _).mono ?_
          rintro e w2 ⟨v2, rfl, own2, hb2⟩
          obtain ⟨A2, c2, rfl, -⟩ := own_slc own2
          have hB2 := hB1.trans (Below.mono hb2 hB1.size)
          have hB3 := hB2.alloc hB2.size (.cells #[.bool cl, str nm, .slice A2 l.length c2] 33)
          go_wp2_with fail
          refine (awake_any _).mono ?_
          rintro e w3 ⟨rfl, hb3⟩
          go_wp2
          go_ret
          exact ⟨rfl, hB3.trans (Below.mono hb3 hB3.size)⟩
        · have q2 : decide ((s.length : Int) ≤ (p : Int)) = true := by rw [decide_eq_true_iff]; omega
          clear hn hst
          go_wp2_with fail
          refine (awake_any _).mono ?_
          rintro e w2 ⟨rfl, hb2⟩
          go_wp2
          go_ret
          exact ⟨rfl, hB1.trans (Below.mono hb2 hB1.size)⟩
end Go.Proofs.Yteccopnlpllliaa
