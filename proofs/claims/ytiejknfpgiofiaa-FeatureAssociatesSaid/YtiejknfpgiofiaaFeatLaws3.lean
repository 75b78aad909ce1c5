/-
  The law of chapter 5 on three texts (brackets and order). Condition: a text's length is an int.
-/
import Derived.Test.YtiejknfpgiofiaaFeatLaws2
namespace Go.Proofs.Ytiejknfpgiofiaa
open Go.RowKit Utf Feat
attribute [local go_sem] byte_mk ByteArray.extract_mk

theorem pair_of {u v : Bs × Nat} {x y : Bs} {g h : Nat} (hu : u = (x, g)) (hv : v = (y, h)) (e : u = v) : x = y ∧ g = h := by rw [hu, hv] at e; cases e; exact ⟨rfl, rfl⟩
set_option maxHeartbeats 8000000 in
theorem law_assoc (a b c : Bs) (ha : a.length ≤ 9223372036854775807) (hb : b.length ≤ 9223372036854775807) (hc : c.length ≤ 9223372036854775807) (w : World) :
    Calls Try.prog 7 #[str a, str b, str c] w (Kept' (.bool true) w) := by
  have hB1 := Below.refl w.heap.size w
  have x1 := fun W => union_any a b ha hb W
  have x2 := fun W => union_any c b hc hb W
  have z1 := fun W => inter_any a b ha hb W
  have z2 := fun W => inter_any c b hc hb W
  have l1 := len_union a b
  have l2 := len_union c b
  have l3 := len_inter a b
  have l4 := len_inter c b
  have hlu := law_assoc_u a b c
  have hli := law_assoc_i a b c
  obtain ⟨u, e1, hu⟩ : ∃ t n, union a b = (t, n) := ⟨_, _, rfl⟩
  obtain ⟨v, f1, hv⟩ : ∃ t n, union c b = (t, n) := ⟨_, _, rfl⟩
  obtain ⟨i, e2, hi⟩ : ∃ t n, inter a b = (t, n) := ⟨_, _, rfl⟩
  obtain ⟨j, f2, hj⟩ : ∃ t n, inter c b = (t, n) := ⟨_, _, rfl⟩
  rw [hu] at x1 l1 hlu
  rw [hv] at x2 l2 hlu
  rw [hi] at z1 l3 hli
  rw [hj] at z2 l4 hli
  simp only at l1 l2 l3 l4 hlu hli
  have x3 := fun W => union_any u c (by omega) hc W
  have x4 := fun W => union_any a v ha (by omega) W
  have z3 := fun W => inter_any i c (by omega) hc W
  have z4 := fun W => inter_any a j ha (by omega) W
  obtain ⟨x, g, hx⟩ : ∃ t n, union u c = (t, n) := ⟨_, _, rfl⟩
  obtain ⟨y, h, hy⟩ : ∃ t n, union a v = (t, n) := ⟨_, _, rfl⟩
  obtain ⟨k, g2, hk⟩ : ∃ t n, inter i c = (t, n) := ⟨_, _, rfl⟩
  obtain ⟨l, h2, hl⟩ : ∃ t n, inter a j = (t, n) := ⟨_, _, rfl⟩
  have hA : ((e1 : Int) == 0) = false ∨ (e1 = 0 ∧ ((f1 : Int) == 0) = false) ∨ (e1 = 0 ∧ f1 = 0 ∧ x = y ∧ g = h) := by
    by_cases p : e1 = 0
    · by_cases q : f1 = 0
      · exact .inr (.inr ⟨p, q, pair_of hx hy (hlu p q)⟩)
      · exact .inr (.inl ⟨p, by rw [beq_eq_false_iff_ne]; omega⟩)
    · exact .inl (by rw [beq_eq_false_iff_ne]; omega)
  have hI : ((e2 : Int) != 0) = true ∨ (e2 = 0 ∧ ((f2 : Int) != 0) = true) ∨ (e2 = 0 ∧ f2 = 0 ∧ k = l ∧ g2 = h2) := by
    by_cases p : e2 = 0
    · by_cases q : f2 = 0
      · exact .inr (.inr ⟨p, q, pair_of hk hl (hli p q)⟩)
      · exact .inr (.inl ⟨p, by rw [bne_iff_ne]; omega⟩)
    · exact .inl (by rw [bne_iff_ne]; omega)
  rw [hx] at x3
  rw [hy] at x4
  rw [hk] at z3
  rw [hl] at z4
  clear hu hv hi hj hx hy hk hl hlu hli l1 l2 l3 l4
  go_enter Try.func7, Try.ntmps7
  go_wp2_with fail
  refine (x1 _).mono ?_
  rintro e w2 ⟨rfl, hb2⟩
  have hB2 := hB1.trans (hb2.mono hB1.size)
  go_wp2_with fail
  refine (x2 _).mono ?_
  rintro e w3 ⟨rfl, hb3⟩
  have hB3 := hB2.trans (hb3.mono hB2.size)
  go_wp2_with fail
  refine (x3 _).mono ?_
  rintro e w4 ⟨rfl, hb4⟩
  have hB4 := hB3.trans (hb4.mono hB3.size)
  go_wp2_with fail
  refine (x4 _).mono ?_
  rintro e w5 ⟨rfl, hb5⟩
  have hB5 := hB4.trans (hb5.mono hB4.size)
  clear x1 x2 x3 x4 hB1 hB2 hB3 hB4 hb2 hb3 hb4 hb5
  rcases hA with hA | ⟨rfl, hA⟩ | ⟨rfl, rfl, rfl, rfl⟩
  all_goals go_wp2_with fail
  all_goals refine (z1 _).mono ?_
  all_goals rintro e w6 ⟨rfl, hb6⟩
  all_goals have hB6 := hB5.trans (hb6.mono hB5.size)
  all_goals go_wp2_with fail
  all_goals refine (z2 _).mono ?_
  all_goals rintro e w7 ⟨rfl, hb7⟩
  all_goals have hB7 := hB6.trans (hb7.mono hB6.size)
  all_goals rcases hI with hI | ⟨rfl, hI⟩ | ⟨rfl, rfl, rfl, rfl⟩
  all_goals try (go_wp2; go_ret; exact ⟨rfl, hB7⟩)
  all_goals go_wp2_with fail
  all_goals refine (z3 _).mono ?_
  all_goals rintro e w8 ⟨rfl, hb8⟩
  all_goals have hB8 := hB7.trans (hb8.mono hB7.size)
  all_goals go_wp2_with fail
  all_goals refine (z4 _).mono ?_
  all_goals rintro e w9 ⟨rfl, hb9⟩
  all_goals have hB9 := hB8.trans (hb9.mono hB8.size)
  all_goals go_wp2_with fail
  all_goals refine (awake_any _).mono ?_
  all_goals rintro e w10 ⟨rfl, hb10⟩
  all_goals have hB10 := hB9.trans (hb10.mono hB9.size)
  all_goals go_wp2
  all_goals go_ret
  all_goals exact ⟨rfl, hB10⟩
end Go.Proofs.Ytiejknfpgiofiaa
