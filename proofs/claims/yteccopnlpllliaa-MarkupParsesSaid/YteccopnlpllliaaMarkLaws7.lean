/-
  Chapter 4's law MarkupParses returns true. Condition: the text's length is an int.
-/
import Derived.Test.YteccopnlpllliaaMarkEqual
import Derived.Test.YteccopnlpllliaaMarkLaws
import Derived.Test.YteccopnlpllliaaMarkRefParse
namespace Go.Proofs.Yteccopnlpllliaa
open Go.RowKit Utf Tagp
open Feat (Bs lt)
attribute [local go_sem] byte_mk ByteArray.extract_mk

theorem own_len {w : World} {base sz n : Nat} {v : Value} {e : TypeId} {xs : List Value} (h : w.ownsRow base e sz v n xs) : n ≤ 9223372036854775807 := by
  rcases h.2 with ⟨_, k⟩ | ⟨g, cap, cur, _, _, _, h1, h2, _⟩
  · omega
  · unfold maxLen at h2
    omega

set_option maxRecDepth 100000 in
set_option maxHeartbeats 1600000 in
theorem law_parses (s : Bs) (hs : s.length ≤ 9223372036854775807) (w : World) : Calls Try.prog 9 #[str s] w (Trues w) := by
  by_cases h : 2000 < s.length
  · have hd : decide ((2000 : Int) < (s.length : Int)) = true := by rw [decide_eq_true_iff]; omega
    go_enter Try.func9, Try.ntmps9
    go_wp2
    go_ret
    exact ⟨rfl, Below.refl _ _⟩
  · have hd : decide ((2000 : Int) < (s.length : Int)) = false := by rw [decide_eq_false_iff_not]; omega
    have hP := parseTag_any s w (by omega)
    have hR := fun W => refParse_any s W (by omega)
    unfold Parsed at hP hR
    obtain ⟨tg, p, n, hpp⟩ : ∃ tg p n, parseP s = (tg, p, n) := ⟨_, _, _, rfl⟩
    obtain ⟨cl, nm, l⟩ := tg
    rw [hpp] at hP hR
    simp only at hP hR
    clear hpp
    go_enter Try.func9, Try.ntmps9
    go_wp2_with fail
    refine hP.mono ?_
    rintro e w1 ⟨v, rfl, own1, hb1⟩
    obtain ⟨A, c, rfl, -⟩ := own_slc own1
    have hB1 := hb1.alloc hb1.size (.cells #[.bool cl, str nm, .slice A l.length c] 33)
    have k1 := Blk.new w1 33 #[.bool cl, str nm, .slice A l.length c]
    have hba : Below w1.heap.size w1 (w1.alloc (.cells #[.bool cl, str nm, .slice A l.length c] 33)) := (Below.refl _ _).alloc (Nat.le_refl _) _
    have sl1 := ((own_sl own1).under hba).up hba.size
    go_wp2_with fail
    refine (hR _).mono ?_
    rintro e w2 ⟨v, rfl, own2, hb2⟩
    obtain ⟨A', c', rfl, -⟩ := own_slc own2
    have hB2 := hB1.trans (Below.mono hb2 hB1.size)
    have hB3 := hB2.alloc hB2.size (.cells #[.bool cl, str nm, .slice A' l.length c'] 36)
    have k2 := k1.below hb2
    have hbb : Below w2.heap.size w2 (w2.alloc (.cells #[.bool cl, str nm, .slice A' l.length c'] 36)) := (Below.refl _ _).alloc (Nat.le_refl _) _
    have sl2 := ((((sl1.under hb2).up hb2.size).under hbb).up hbb.size)
    have sl3 := ((own_sl own2).under hbb).up hbb.size
    have k3 := k2.alloc (.cells #[.bool cl, str nm, .slice A' l.length c'] 36)
    have y0 := k2.cell 0
    have y1 := k2.cell 1
    have y2 := k2.cell 2
    have z0 := k3.cell 0
    have z1 := k3.cell 1
    have z2 := k3.cell 2
    have hln : l.length ≤ 9223372036854775807 := own_len own1
    go_wp2_with fail
    refine (equal_any cl nm A A' l.length c c' l _ hln sl2 sl3).mono ?_
    rintro e w4 ⟨rfl, hb4⟩
    have hB4 := hB3.trans (Below.mono hb4 hB3.size)
    go_wp2_with fail
    refine (awake_any _).mono ?_
    rintro e w5 ⟨rfl, hb5⟩
    go_wp2
    go_ret
    exact ⟨rfl, hB4.trans (Below.mono hb5 hB4.size)⟩
end Go.Proofs.Yteccopnlpllliaa
