/-
  The contracts of feature.Union and the reference's Union. Condition: a text's length is an int.
-/
import Derived.Test.YtiejknfpgiofiaaFeatSets
import Derived.Test.YtiejknfpgiofiaaFeatRefFmt
namespace Go.Proofs.Ytiejknfpgiofiaa
open Go.RowKit Utf Feat
attribute [local go_sem] byte_mk ByteArray.extract_mk

theorem sl_new (w : World) (t : TypeId) (xs : List Value) : Sl (w.alloc (.cells xs.toArray t)) (w.alloc (.cells xs.toArray t)).heap.size 1 (some ⟨w.heap.size, 0, none⟩) xs.length xs := by
  refine ⟨by simp, fun _ => ⟨_, 0, rfl, by simp, fun j u hj => ?_⟩⟩
  have h := news_new w t xs j u hj
  have ea : (⟨w.heap.size, 0, none⟩ : Addr).add j = ⟨w.heap.size, 0 + j, none⟩ := by unfold Addr.add; split <;> simp_all
  rwa [ea] at h

theorem two_sets {a b : Bs} {W : World} {e : Ending} {w' : World} (h : Sets [a, b] W e w') : Below W.heap.size W w' ∧
    (((parse a).2 ≠ 0 ∧ e = .returned (.tuple #[.slice none 0 0, .int .i64 ((parse a).2 : Nat)])) ∨
     ((parse a).2 = 0 ∧ (parse b).2 ≠ 0 ∧ e = .returned (.tuple #[.slice none 0 0, .int .i64 ((parse b).2 : Nat)])) ∨
     ((parse a).2 = 0 ∧ (parse b).2 = 0 ∧ ∃ g c A1 c1 A2 c2, e = .returned (.tuple #[.slice (some ⟨g, 0, none⟩) 2 c, .int .i64 0]) ∧
        w'.cell? ⟨g, 0, none⟩ = some (.slice A1 (parse a).1.length c1) ∧ w'.cell? ⟨g, 1, none⟩ = some (.slice A2 (parse b).1.length c2) ∧
        w'.ownsRow W.heap.size 9 1 (.slice A1 (parse a).1.length c1) (parse a).1.length (strs (parse a).1) ∧
        w'.ownsRow W.heap.size 9 1 (.slice A2 (parse b).1.length c2) (parse b).1.length (strs (parse b).1))) := by
  obtain ⟨hB, ⟨j, hj, hlo, hne, rfl⟩ | ⟨v, rows, rfl, hown, hrows⟩⟩ := h
  · refine ⟨hB, ?_⟩
    match j, hj, hlo, hne with
    | 0, _, _, hne => exact .inl ⟨hne, rfl⟩
    | 1, _, hlo, hne => exact .inr (.inl ⟨hlo 0 (by omega), hne, rfl⟩)
    | j + 2, hj, _, _ => simp at hj; omega
  · refine ⟨hB, .inr (.inr ?_)⟩
    obtain ⟨h0, u0, A0, c0, hr0, rfl, ho0, _⟩ := hrows 0 (by simp) (by simp)
    obtain ⟨h1, u1, A1, c1, hr1, rfl, ho1, _⟩ := hrows 1 (by simp) (by simp)
    obtain ⟨g, cap, rfl, _, _, _⟩ := own_form hown (by simp)
    have hc := hown.cells (g := g) rfl
    have e0 : (⟨g, 0, none⟩ : Addr).add 0 = ⟨g, 0, none⟩ := rfl
    have e1 : (⟨g, 0, none⟩ : Addr).add 1 = ⟨g, 1, none⟩ := rfl
    have k0 := hc 0 _ hr0
    have k1 := hc 1 _ hr1
    rw [e0] at k0
    rw [e1] at k1
    exact ⟨h0, h1, g, cap, A0, c0, A1, c1, rfl, k0, k1, ho0, ho1⟩

theorem small_parse (s : Bs) : ∀ f ∈ (parse s).1, f.length ≤ 120 := by
  intro f hf
  rcases parse_cases s with h | ⟨l, h⟩
  · rw [parse_snd_le s h] at hf; cases hf
  · obtain ⟨_, _, hg, _⟩ := parse_ok h
    rw [h] at hf
    exact ((vErr_zero f).1 (hg f hf).1).1
theorem both_a {a b : Bs} {k : List Bs → List Bs → Bs × Nat} (h : (parse a).2 ≠ 0) : both a b k = ([], (parse a).2) := by unfold both; rw [if_pos h]
theorem both_b {a b : Bs} {k : List Bs → List Bs → Bs × Nat} (h0 : (parse a).2 = 0) (h : (parse b).2 ≠ 0) : both a b k = ([], (parse b).2) := by unfold both; rw [if_neg (by simpa using h0), if_pos h]
theorem both_k {a b : Bs} {k : List Bs → List Bs → Bs × Nat} (h0 : (parse a).2 = 0) (h : (parse b).2 = 0) : both a b k = k (parse a).1 (parse b).1 := by
  unfold both; rw [if_neg (by simpa using h0), if_neg (by simpa using h)]
theorem src_sl {w : World} {A : Option Addr} {B n : Nat} {l : List Value} (h : Sl w B 1 A n l) : Src w A l := by
  intro hp
  obtain ⟨g, o, rfl, _, hc⟩ := h.2 hp
  refine ⟨_, rfl, fun j u hj => ?_⟩
  have ea : (⟨g, o, none⟩ : Addr).add j = ⟨g, o + j, none⟩ := by unfold Addr.add; split <;> simp_all
  rw [ea]; exact hc j u hj
theorem sl_own {w : World} {base n c : Nat} {e : TypeId} {A : Option Addr} {l : List Bs} (h : w.ownsRow base e 1 (.slice A n c) n (strs l)) : Sl w w.heap.size 1 A n (strs l) := by
  obtain ⟨A', c', he, hs, _⟩ := sl_of_own h
  cases he; exact hs

set_option maxRecDepth 100000 in
set_option maxHeartbeats 2000000 in
theorem union_any (a b : Bs) (ha : a.length ≤ 9223372036854775807) (hb : b.length ≤ 9223372036854775807) (w : World) : Calls Try.prog 20 #[str a, str b] w (Fmt (union a b) w) := by
  obtain ⟨i0, hi0, hz0, hz1, hz2⟩ := info_parts info_string
  have hex := parseAll_any (some ⟨w.heap.size, 0, none⟩) 2 2 [a, b] (w.alloc (.cells #[str a, str b] 9)) (by omega) (sl_new w 9 (strs [a, b])) (by intro f hf; simp at hf; rcases hf with rfl | rfl <;> assumption)
  go_enter Try.func20, Try.ntmps20
  go_wp2_with fail
  refine hex.mono ?_
  intro e w1 hS
  obtain ⟨hB1, hS⟩ := two_sets hS
  have hB : Below w.heap.size w w1 := ((Below.refl _ w).alloc (Nat.le_refl _) _).trans (hB1.mono (by simp))
  rcases hS with ⟨h0, rfl⟩ | ⟨h0, h1, rfl⟩ | ⟨h0, h1, g, c, A1, c1, A2, c2, rfl, k1, k2, own1, own2⟩
  · have hq : (((parse a).2 : Int) != 0) = true := by rw [bne_iff_ne]; omega
    have HE : Hid (union a b = ([], (parse a).2)) := both_a h0
    clear h0
    go_wp2
    go_ret2
    exact fmt_ret HE.out hB rfl
  · have hq : (((parse b).2 : Int) != 0) = true := by rw [bne_iff_ne]; omega
    have HE : Hid (union a b = ([], (parse b).2)) := both_b h0 h1
    clear h0 h1
    go_wp2
    go_ret2
    exact fmt_ret HE.out hB rfl
  · have HE : Hid (union a b = format ((parse a).1 ++ (parse b).1)) := both_k h0 h1
    have sx := small_parse a
    have sy := small_parse b
    have lx := len_parse a
    have ly := len_parse b
    obtain ⟨x, hx⟩ : ∃ x, (parse a).1 = x := ⟨_, rfl⟩
    obtain ⟨y, hy⟩ : ∃ y, (parse b).1 = y := ⟨_, rfl⟩
    rw [hx] at k1 own1 HE sx lx
    rw [hy] at k2 own2 HE sy ly
    have hsy := sl_own own2
    have HO := Lib.hid own1
    clear h0 h1 hx hy hex own1 own2 hB1
    go_wp2
    go_region_law (first
      | (refine step_app _ rfl (.tmp 20) (.tmp 23) _ rfl w.heap.size 9 i0 _ 1 16 Try.underlying23 hi0 hz0 hz1 hz2 rfl (by decide) (.slice A1 x.length c1) x.length (strs x) (by simp [Act.eval]) (own_base HO.out (by simp)) A2 y.length c2 (strs y) (by simp [Act.eval]) (by rw [strs_len]; omega) (src_sl hsy) (strs_one _) (by simp [maxLen]; omega) (by omega) (by have := hB.size; simp; omega) ?_; intro v3 w3 own3 gr3 ob3; obtain ⟨A3, c3, rfl, hsl3, _⟩ := sl_of_own (own_cast own3 (r := strs (x ++ y)) (by simp [strs]) rfl))
      | (go_simp; refine (format_any A3 (x.length + y.length) c3 (x ++ y) w3 (by omega) hsl3 (by intro f hf; rcases List.mem_append.1 hf with hf | hf; exact Nat.le_trans (sx f hf) (by omega); exact Nat.le_trans (sy f hf) (by omega))).mono ?_; rintro e w4 ⟨rfl, hB4⟩; go_simp))
    all_goals have hB3 : Below w.heap.size w w3 := (hB.drew).grown gr3 (by simpa using hB.size) (fun k hk => Nat.le_trans (by simp) (HO.out.lt k hk).1)
    all_goals go_wp2
    all_goals go_ret2
    all_goals exact fmt_ret HE.out (hB3.trans (hB4.mono hB3.size)) rfl

set_option maxRecDepth 100000 in
set_option maxHeartbeats 2000000 in
theorem refUnion_any (a b : Bs) (ha : a.length ≤ 9223372036854775807) (hb : b.length ≤ 9223372036854775807) (w : World) : Calls Try.prog 22 #[str a, str b] w (Fmt (union a b) w) := by
  obtain ⟨i0, hi0, hz0, hz1, hz2⟩ := info_parts info_string
  have hex := refParse_any a ha w
  by_cases h0 : (parse a).2 = 0
  · rw [h0] at hex
    by_cases h1 : (parse b).2 = 0
    · have HE : Hid (union a b = format ((parse a).1 ++ (parse b).1)) := both_k h0 h1
      have sx := small_parse a
      have sy := small_parse b
      have lx := len_parse a
      have ly := len_parse b
      have hex2 := refParse_any b hb
      rw [h1] at hex2
      obtain ⟨x, hx⟩ : ∃ x, (parse a).1 = x := ⟨_, rfl⟩
      obtain ⟨y, hy⟩ : ∃ y, (parse b).1 = y := ⟨_, rfl⟩
      rw [hx] at HE sx lx hex
      rw [hy] at HE sy ly hex2
      clear h0 h1 hx hy
      go_enter Try.func22, Try.ntmps22
      go_wp2_with fail
      refine hex.mono ?_
      rintro e w1 ⟨v1, rfl, own1, hb1⟩
      obtain ⟨A1, c1, rfl, hsx, _⟩ := sl_of_own own1
      go_wp2_with fail
      refine (hex2 _).mono ?_
      rintro e w2 ⟨v2, rfl, own2, hb2⟩
      obtain ⟨A2, c2, rfl, hsy, _⟩ := sl_of_own own2
      have hB2 : Below w.heap.size w w2 := hb1.trans (hb2.mono hb1.size)
      have hsx2 := hsx.below hb2
      clear hex hex2 own1 own2 hsx hb1 hb2
      have keep3 : ∀ w3 : World, w2.grownBy w3 (Value.slice none 0 0).ownBlock → Sl w3 w2.heap.size 1 A2 y.length (strs y) := by
        intro w3 gr3
        refine ⟨hsy.1, fun hp => ?_⟩
        obtain ⟨g, o, e, hg, hc⟩ := hsy.2 hp
        exact ⟨g, o, e, hg, fun j u hj => (World.cell?_of_block (gr3.block g hg (by simp [Value.ownBlock]))).trans (hc j u hj)⟩
      go_wp2_with (at_builtin; first
        | (refine wpList_app _ rfl (.const (.slice none 0 0)) (.tmp 25) _ rfl w.heap.size 9 i0 _ 1 16 Try.underlying23 hi0 hz0 hz1 hz2 rfl (by decide) (.slice none 0 0) 0 [] rfl (World.ownsRow_nil _ _ _ _) A1 x.length c1 (strs x) rfl (by rw [strs_len]; omega) (src_sl hsx2) (strs_one _) (by simp [maxLen]; omega) (by omega) hB2.size ?_; intro v3 w3 own3 gr3 ob3; have hB3 : Below w.heap.size w w3 := hB2.grown gr3 hB2.size (fun k hk => by cases hk); have hsy3 := keep3 w3 gr3)
        | (refine wpList_app _ rfl (.tmp 26) (.tmp 27) _ rfl w.heap.size 9 i0 _ 1 16 Try.underlying23 hi0 hz0 hz1 hz2 rfl (by decide) v3 (0 + x.length) ([] ++ strs x) rfl own3 A2 y.length c2 (strs y) rfl (by rw [strs_len]; omega) (src_sl hsy3) (strs_one _) (by simp [maxLen]; omega) (by omega) hB3.size ?_; intro v4 w4 own4 gr4 ob4; have hB4 : Below w.heap.size w w4 := hB3.grown gr4 hB3.size (fun k hk => (own3.lt k hk).1); obtain ⟨A3, c3, rfl, hsl3, _⟩ := sl_of_own (own_cast own4 (r := strs (x ++ y)) (m := x.length + y.length) (by simp [strs]) (by omega))))
      refine (refFormat_any A3 (x.length + y.length) c3 (x ++ y) w4 (by omega) hsl3 (by intro f hf; rcases List.mem_append.1 hf with hf | hf; exact Nat.le_trans (sx f hf) (by omega); exact Nat.le_trans (sy f hf) (by omega))).mono ?_
      rintro e w5 ⟨rfl, hB5⟩
      go_wp2
      go_ret2
      exact fmt_ret HE.out (hB4.trans (hB5.mono hB4.size)) rfl
    · have hq : (((parse b).2 : Int) != 0) = true := by rw [bne_iff_ne]; omega
      have HE : Hid (union a b = ([], (parse b).2)) := both_b h0 h1
      clear h0 h1
      go_enter Try.func22, Try.ntmps22
      go_wp2_with fail
      refine hex.mono ?_
      rintro e w1 ⟨v1, rfl, own1, hb1⟩
      go_wp2_with fail
      refine (refParse_any b hb _).mono ?_
      rintro e w2 ⟨v2, rfl, own2, hb2⟩
      go_wp2
      go_ret2
      exact fmt_ret HE.out (hb1.trans (hb2.mono hb1.size)) rfl
  · have hq : (((parse a).2 : Int) != 0) = true := by rw [bne_iff_ne]; omega
    have HE : Hid (union a b = ([], (parse a).2)) := both_a h0
    clear h0
    go_enter Try.func22, Try.ntmps22
    go_wp2_with fail
    refine hex.mono ?_
    rintro e w1 ⟨v1, rfl, own1, hb1⟩
    go_wp2
    go_ret2
    exact fmt_ret HE.out hb1 rfl
end Go.Proofs.Ytiejknfpgiofiaa
