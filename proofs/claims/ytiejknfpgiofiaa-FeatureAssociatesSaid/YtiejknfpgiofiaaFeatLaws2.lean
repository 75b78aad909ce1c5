/-
  The laws of chapter 5 on two and three texts: each returns true. Condition: a text's length is an int.
-/
import Derived.Test.YtiejknfpgiofiaaFeatLaws
namespace Go.Proofs.Ytiejknfpgiofiaa
open Go.RowKit Utf Feat
attribute [local go_sem] byte_mk ByteArray.extract_mk

set_option maxHeartbeats 4000000 in
theorem law_combines (a b : Bs) (ha : a.length ≤ 9223372036854775807) (hb : b.length ≤ 9223372036854775807) (w : World) : Calls Try.prog 9 #[str a, str b] w (Kept' (.bool true) w) := by
  have hlong := long_any (some ⟨w.heap.size, 0, none⟩) 2 2 [a, b] (w.alloc (.cells #[str a, str b] 9)) (by omega) (sl_new w 9 (strs [a, b]))
  have x1 := fun W => union_any a b ha hb W
  have x2 := fun W => refUnion_any a b ha hb W
  have x3 := fun W => inter_any a b ha hb W
  have x4 := fun W => refInter_any a b ha hb W
  have x5 := fun W => subset_any a b ha hb W
  have x6 := fun W => refSubset_any a b ha hb W
  rw [← inter_eq] at x4
  obtain ⟨u, e1, hu⟩ : ∃ t n, union a b = (t, n) := ⟨_, _, rfl⟩
  obtain ⟨i, e2, hi⟩ : ∃ t n, inter a b = (t, n) := ⟨_, _, rfl⟩
  obtain ⟨s, e3, hs⟩ : ∃ t n, subset a b = (t, n) := ⟨_, _, rfl⟩
  rw [hu] at x1 x2
  rw [hi] at x3 x4
  rw [hs] at x5 x6
  clear hu hi hs
  go_enter Try.func9, Try.ntmps9
  go_wp2_with fail
  refine hlong.mono ?_
  rintro e w1 ⟨rfl, b', rfl, _⟩
  have hB1 : Below w.heap.size w (w.alloc (.cells #[str a, str b] 9)) := (Below.refl _ w).alloc (Nat.le_refl _) _
  obtain ⟨w1, hw1⟩ : ∃ w1, w.alloc (.cells #[str a, str b] 9) = w1 := ⟨_, rfl⟩
  rw [hw1] at hB1 ⊢
  clear hw1 hlong
  cases b' with
  | true =>
    go_wp2
    go_ret
    exact ⟨rfl, hB1⟩
  | false =>
    go_wp2_with fail
    refine (x1 _).mono ?_
    rintro e w2 ⟨rfl, hb2⟩
    have hB2 := hB1.trans (hb2.mono hB1.size)
    go_wp2_with fail
    refine (x2 _).mono ?_
    rintro e w3 ⟨rfl, hb3⟩
    have hB3 := hB2.trans (hb3.mono hB2.size)
    go_wp2_with fail
    refine (x3 _).mono ?_
    rintro e w4 ⟨rfl, hb4⟩
    have hB4 := hB3.trans (hb4.mono hB3.size)
    go_wp2_with fail
    refine (x4 _).mono ?_
    rintro e w5 ⟨rfl, hb5⟩
    have hB5 := hB4.trans (hb5.mono hB4.size)
    go_wp2_with fail
    refine (x5 _).mono ?_
    rintro e w6 ⟨rfl, hb6⟩
    have hB6 := hB5.trans (hb6.mono hB5.size)
    go_wp2_with fail
    refine (x6 _).mono ?_
    rintro e w7 ⟨rfl, hb7⟩
    have hB7 := hB6.trans (hb7.mono hB6.size)
    go_wp2_with fail
    refine (awake_any _).mono ?_
    rintro e w8 ⟨rfl, hb8⟩
    have hB8 := hB7.trans (hb8.mono hB7.size)
    go_wp2
    go_ret
    exact ⟨rfl, hB8⟩

set_option maxHeartbeats 4000000 in
theorem law_mem (a b f : Bs) (ha : a.length ≤ 9223372036854775807) (hb : b.length ≤ 9223372036854775807) (w : World) : Calls Try.prog 8 #[str a, str b, str f] w (Kept' (.bool true) w) := by
  have hB1 := Below.refl w.heap.size w
  have x1 := fun W => union_any a b ha hb W
  have x3 := fun W => inter_any a b ha hb W
  have hlaw := law_members a b f
  have l1 := len_union a b
  have l2 := len_inter a b
  have y1 := fun W => has_any a f ha W
  have y2 := fun W => has_any b f hb W
  obtain ⟨u, e1, hu⟩ : ∃ t n, union a b = (t, n) := ⟨_, _, rfl⟩
  obtain ⟨i, e2, hi⟩ : ∃ t n, inter a b = (t, n) := ⟨_, _, rfl⟩
  rw [hu] at x1 hlaw l1
  rw [hi] at x3 hlaw l2
  have y3 := fun W => has_any u f (by simp at l1; omega) W
  have y4 := fun W => has_any i f (by simp at l2; omega) W
  obtain ⟨p, hp⟩ : ∃ p, has a f = p := ⟨_, rfl⟩
  obtain ⟨q, hq⟩ : ∃ q, has b f = q := ⟨_, rfl⟩
  rw [hp] at y1 hlaw
  rw [hq] at y2 hlaw
  clear hu hi hp hq l1 l2
  by_cases h1 : e1 = 0
  · by_cases h2 : e2 = 0
    · subst h1 h2
      obtain ⟨hl1, hl2⟩ := hlaw rfl
      simp only at hl1 hl2
      rw [hl1] at y3
      rw [hl2] at y4
      clear hl1 hl2 hlaw
      go_enter Try.func8, Try.ntmps8
      go_wp2_with fail
      refine (x1 _).mono ?_
      rintro e w2 ⟨rfl, hb2⟩
      have hB2 := hB1.trans (hb2.mono hB1.size)
      go_wp2_with fail
      refine (x3 _).mono ?_
      rintro e w3 ⟨rfl, hb3⟩
      have hB3 := hB2.trans (hb3.mono hB2.size)
      go_wp2_with fail
      refine (y1 _).mono ?_
      rintro e w4 ⟨rfl, hb4⟩
      have hB4 := hB3.trans (hb4.mono hB3.size)
      go_wp2_with fail
      refine (y2 _).mono ?_
      rintro e w5 ⟨rfl, hb5⟩
      have hB5 := hB4.trans (hb5.mono hB4.size)
      go_wp2_with fail
      refine (y3 _).mono ?_
      rintro e w6 ⟨rfl, hb6⟩
      have hB6 := hB5.trans (hb6.mono hB5.size)
      cases p <;> cases q
      all_goals go_wp2_with fail
      all_goals refine (y4 _).mono ?_
      all_goals rintro e w7 ⟨rfl, hb7⟩
      all_goals have hB7 := hB6.trans (hb7.mono hB6.size)
      all_goals go_wp2_with fail
      all_goals refine (awake_any _).mono ?_
      all_goals rintro e w8 ⟨rfl, hb8⟩
      all_goals have hB8 := hB7.trans (hb8.mono hB7.size)
      all_goals go_wp2
      all_goals go_ret
      all_goals exact ⟨rfl, hB8⟩
    · have hq : ((e2 : Int) != 0) = true := by rw [bne_iff_ne]; omega
      subst h1
      clear hlaw
      go_enter Try.func8, Try.ntmps8
      go_wp2_with fail
      refine (x1 _).mono ?_
      rintro e w2 ⟨rfl, hb2⟩
      have hB2 := hB1.trans (hb2.mono hB1.size)
      go_wp2_with fail
      refine (x3 _).mono ?_
      rintro e w3 ⟨rfl, hb3⟩
      have hB3 := hB2.trans (hb3.mono hB2.size)
      go_wp2
      go_ret
      exact ⟨rfl, hB3⟩
  · have hq : ((e1 : Int) != 0) = true := by rw [bne_iff_ne]; omega
    clear hlaw
    go_enter Try.func8, Try.ntmps8
    go_wp2_with fail
    refine (x1 _).mono ?_
    rintro e w2 ⟨rfl, hb2⟩
    have hB2 := hB1.trans (hb2.mono hB1.size)
    go_wp2_with fail
    refine (x3 _).mono ?_
    rintro e w3 ⟨rfl, hb3⟩
    have hB3 := hB2.trans (hb3.mono hB2.size)
    go_wp2
    go_ret
    exact ⟨rfl, hB3⟩

set_option maxHeartbeats 4000000 in
theorem law_latt (a b : Bs) (ha : a.length ≤ 9223372036854775807) (hb : b.length ≤ 9223372036854775807) (w : World) : Calls Try.prog 10 #[str a, str b] w (Kept' (.bool true) w) := by
  have hB1 := Below.refl w.heap.size w
  have x1 := fun W => union_any a b ha hb W
  have x3 := fun W => inter_any a b ha hb W
  have x5 := fun W => subset_any a b ha hb W
  have hlaw := law_lattice a b
  obtain ⟨u, e1, hu⟩ : ∃ t n, union a b = (t, n) := ⟨_, _, rfl⟩
  obtain ⟨i, e2, hi⟩ : ∃ t n, inter a b = (t, n) := ⟨_, _, rfl⟩
  obtain ⟨s, e3, hs⟩ : ∃ t n, subset a b = (t, n) := ⟨_, _, rfl⟩
  rw [hu] at x1 hlaw
  rw [hi] at x3 hlaw
  rw [hs] at x5 hlaw
  clear hu hi hs
  simp only at hlaw
  by_cases h3 : e3 = 0
  · subst h3
    obtain ⟨h2, hia, hor⟩ := hlaw rfl
    subst h2
    clear hlaw
    rcases hor with ⟨rfl, rfl⟩ | ⟨rfl, hub⟩
    · skip
      go_enter Try.func10, Try.ntmps10
      go_wp2_with fail
      refine (x5 _).mono ?_
      rintro e w2 ⟨rfl, hb2⟩
      have hB2 := hB1.trans (hb2.mono hB1.size)
      go_wp2_with fail
      refine (x1 _).mono ?_
      rintro e w3 ⟨rfl, hb3⟩
      have hB3 := hB2.trans (hb3.mono hB2.size)
      go_wp2_with fail
      refine (x3 _).mono ?_
      rintro e w4 ⟨rfl, hb4⟩
      have hB4 := hB3.trans (hb4.mono hB3.size)
      go_wp2_with fail
      refine (awake_any _).mono ?_
      rintro e w5 ⟨rfl, hb5⟩
      have hB5 := hB4.trans (hb5.mono hB4.size)
      go_wp2
      go_ret
      exact ⟨rfl, hB5⟩
    · skip
      go_enter Try.func10, Try.ntmps10
      go_wp2_with fail
      refine (x5 _).mono ?_
      rintro e w2 ⟨rfl, hb2⟩
      have hB2 := hB1.trans (hb2.mono hB1.size)
      go_wp2_with fail
      refine (x1 _).mono ?_
      rintro e w3 ⟨rfl, hb3⟩
      have hB3 := hB2.trans (hb3.mono hB2.size)
      go_wp2_with fail
      refine (x3 _).mono ?_
      rintro e w4 ⟨rfl, hb4⟩
      have hB4 := hB3.trans (hb4.mono hB3.size)
      cases s
      all_goals go_wp2_with fail
      all_goals refine (awake_any _).mono ?_
      all_goals rintro e w8 ⟨rfl, hb8⟩
      all_goals have hB8 := hB4.trans (hb8.mono hB4.size)
      all_goals go_wp2
      all_goals go_ret
      all_goals exact ⟨rfl, hB8⟩
  · have hq : ((e3 : Int) != 0) = true := by rw [bne_iff_ne]; omega
    clear hlaw
    go_enter Try.func10, Try.ntmps10
    go_wp2_with fail
    refine (x5 _).mono ?_
    rintro e w2 ⟨rfl, hb2⟩
    have hB2 := hB1.trans (hb2.mono hB1.size)
    go_wp2
    go_ret
    exact ⟨rfl, hB2⟩
end Go.Proofs.Ytiejknfpgiofiaa
