/-
  Chapter 4's law MarkupUnescapes returns true. Condition: a text's length is an int.
-/
import Derived.Test.YteccopnlpllliaaMarkLaws
import Derived.Test.YteccopnlpllliaaMarkRefUn
namespace Go.Proofs.Yteccopnlpllliaa
open Go.RowKit Utf Tagp
open Feat (Bs lt)
attribute [local go_sem] byte_mk ByteArray.extract_mk

set_option maxHeartbeats 800000 in
theorem law_unescapes (s : Bs) (hs : s.length ≤ 9223372036854775807) (w : World) : Calls Try.prog 6 #[str s] w (Trues w) := by
  by_cases h : 400 < s.length
  · have hd : decide ((400 : Int) < (s.length : Int)) = true := by rw [decide_eq_true_iff]; omega
    go_enter Try.func6, Try.ntmps6
    go_wp2
    go_ret
    exact ⟨rfl, Below.refl _ _⟩
  · have hd : decide ((400 : Int) < (s.length : Int)) = false := by rw [decide_eq_false_iff_not]; omega
    have h1 := fun W => unescape_any s (by omega) W
    have h2 := fun W => refUnescape_any s (by omega) W
    unfold Une at h1 h2
    obtain ⟨v, p, n, hu⟩ : ∃ v p n, unesc s = (v, p, n) := ⟨_, _, _, rfl⟩
    rw [hu] at h1 h2
    simp only at h1 h2
    clear hu
    go_enter Try.func6, Try.ntmps6
    go_wp2_with fail
    refine (h1 _).mono ?_
    rintro e w1 ⟨hb1, rfl⟩
    go_wp2_with fail
    refine (h2 _).mono ?_
    rintro e w2 ⟨hb2, rfl⟩
    have hB2 := hb1.trans (Below.mono hb2 hb1.size)
    go_wp2_with fail
    refine (awake_any _).mono ?_
    rintro e w3 ⟨rfl, hb3⟩
    go_wp2
    go_ret
    exact ⟨rfl, hB2.trans (Below.mono hb3 hB2.size)⟩
end Go.Proofs.Yteccopnlpllliaa
