/-
  Chapter 4's law MarkupPrefixes returns true. Condition: the texts' lengths are ints.
-/
import Derived.Test.YteccopnlpllliaaMarkLaws
import Derived.Test.YteccopnlpllliaaMarkAt
import Derived.Test.YteccopnlpllliaaMarkPre
namespace Go.Proofs.Yteccopnlpllliaa
open Go.RowKit Utf Tagp
open Feat (Bs lt)
attribute [local go_sem] byte_mk ByteArray.extract_mk

set_option maxRecDepth 100000 in
set_option maxHeartbeats 1600000 in
theorem law_prefixes (s t : Bs) (i : Int) (hs : s.length ≤ 9223372036854775807) (ht : t.length ≤ 9223372036854775807) (w : World) : Calls Try.prog 13 #[str s, str t, .int .i64 i] w (Trues w) := by
  by_cases h1 : vErr s = 0
  · by_cases h2 : vErr t = 0
    · have q1 : ((vErr s : Int) != 0) = false := by rw [h1]; rfl
      have q2 : ((vErr t : Int) != 0) = false := by rw [h2]; rfl
      have hsl := vErr_len h1
      have htl := vErr_len h2
      have hpl : ∀ (pre : List (Nat × Nat × Nat)) (r a z : Nat) (post : List (Nat × Nat × Nat)), Utf.un 0 s = pre ++ (r, a, z) :: post → a ≤ s.length ∧ vErr (s.take a) = 0 ∧ vErr (s.drop a) = 0 := fun _ _ _ _ _ e => val_place h1 e
      have hj := val_join h1 h2
      have HPL := Lib.hid hpl
      have hex := fun W => value_any (s ++ t) (by simp; omega) W
      rw [hj] at hex
      have r1 := fun W => add_str (P := Try.prog) W s t (by omega)
      obtain ⟨u, hu⟩ : ∃ u, s ++ t = u := ⟨_, rfl⟩
      simp only [hu] at r1 hex
      clear h1 h2 hj hpl hu
      go_enter Try.func13, Try.ntmps13
      go_wp2_with fail
      refine (value_any s hs w).mono ?_
      rintro e w1 ⟨rfl, hb1⟩
      go_wp2_with fail
      refine (value_any t ht _).mono ?_
      rintro e w2 ⟨rfl, hb2⟩
      have hB2 := hb1.trans (Below.mono hb2 hb1.size)
      go_wp2_with fail
      refine (at_any s hs i _).mono ?_
      rintro e w3 ⟨r, a, z, b, rfl, hfound, hb3⟩
      have hB3 := hB2.trans (Below.mono hb3 hB2.size)
      have HFO := Lib.hid hfound
      clear hfound
      have hlast : ∀ W, Below w.heap.size w W → True := fun _ _ => trivial
      clear hlast
      cases b with
      | true =>
        obtain ⟨pre, r', z', post, he⟩ := HFO.out rfl
        obtain ⟨ha, hv1, hv2⟩ := HPL.out _ _ _ _ _ he
        have p1 : decide ((s.length : Int) < (a : Int)) = false := by rw [decide_eq_false_iff_not]; omega
        have p2 : decide ((a : Int) < 0) = false := by rw [decide_eq_false_iff_not]; omega
        have hx1 := fun W => value_any (s.take a) (by rw [List.length_take]; omega) W
        have hx2 := fun W => value_any (s.drop a) (by rw [List.length_drop]; omega) W
        rw [hv1] at hx1
        rw [hv2] at hx2
        have hc2 : (s.drop a).take (s.length - a) = s.drop a := List.take_of_length_le (by rw [List.length_drop]; omega)
        clear he hv1 hv2
        go_wp2_with fail
        refine (hx1 _).mono ?_
        rintro e w4 ⟨rfl, hb4⟩
        have hB4 := hB3.trans (Below.mono hb4 hB3.size)
        go_wp2_with fail
        refine (hx2 _).mono ?_
        rintro e w5 ⟨rfl, hb5⟩
        have hB5 := hB4.trans (Below.mono hb5 hB4.size)
        go_wp2_with fail
        refine (hex _).mono ?_
        rintro e w6 ⟨rfl, hb6⟩
        have hB6 := hB5.trans (Below.mono hb6 hB5.size)
        by_cases h120 : 120 < s.length + t.length
        · rw [if_pos h120]
          have d : decide ((120 : Int) < (s.length : Int) + (t.length : Int)) = true := by rw [decide_eq_true_iff]; omega
          go_wp2_with fail
          refine (awake_any _).mono ?_
          rintro e w7 ⟨rfl, hb7⟩
          go_wp2
          go_ret
          exact ⟨rfl, hB6.trans (Below.mono hb7 hB6.size)⟩
        · rw [if_neg h120]
          have d : decide ((120 : Int) < (s.length : Int) + (t.length : Int)) = false := by rw [decide_eq_false_iff_not]; omega
          go_wp2_with fail
          refine (awake_any _).mono ?_
          rintro e w7 ⟨rfl, hb7⟩
          go_wp2
          go_ret
          exact ⟨rfl, hB6.trans (Below.mono hb7 hB6.size)⟩
      | false =>
        go_wp2_with fail
        refine (hex _).mono ?_
        rintro e w6 ⟨rfl, hb6⟩
        have hB6 := hB3.trans (Below.mono hb6 hB3.size)
        by_cases h120 : 120 < s.length + t.length
        · rw [if_pos h120]
          have d : decide ((120 : Int) < (s.length : Int) + (t.length : Int)) = true := by rw [decide_eq_true_iff]; omega
          go_wp2_with fail
          refine (awake_any _).mono ?_
          rintro e w7 ⟨rfl, hb7⟩
          go_wp2
          go_ret
          exact ⟨rfl, hB6.trans (Below.mono hb7 hB6.size)⟩
        · rw [if_neg h120]
          have d : decide ((120 : Int) < (s.length : Int) + (t.length : Int)) = false := by rw [decide_eq_false_iff_not]; omega
          go_wp2_with fail
          refine (awake_any _).mono ?_
          rintro e w7 ⟨rfl, hb7⟩
          go_wp2
          go_ret
          exact ⟨rfl, hB6.trans (Below.mono hb7 hB6.size)⟩
    · have q1 : ((vErr s : Int) != 0) = false := by rw [h1]; rfl
      have q2 : ((vErr t : Int) != 0) = true := by rw [bne_iff_ne]; omega
      clear h1 h2
      go_enter Try.func13, Try.ntmps13
      go_wp2_with fail
      refine (value_any s hs w).mono ?_
      rintro e w1 ⟨rfl, hb1⟩
      go_wp2_with fail
      refine (value_any t ht _).mono ?_
      rintro e w2 ⟨rfl, hb2⟩
      go_wp2
      go_ret
      exact ⟨rfl, hb1.trans (Below.mono hb2 hb1.size)⟩
  · have q1 : ((vErr s : Int) != 0) = true := by rw [bne_iff_ne]; omega
    clear h1
    go_enter Try.func13, Try.ntmps13
    go_wp2_with fail
    refine (value_any s hs w).mono ?_
    rintro e w1 ⟨rfl, hb1⟩
    go_wp2
    go_ret
    exact ⟨rfl, hb1⟩
end Go.Proofs.Yteccopnlpllliaa
