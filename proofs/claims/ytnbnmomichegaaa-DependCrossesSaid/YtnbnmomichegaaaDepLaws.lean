/-
  The laws DependChecks, DependDepths, DependPaths, DependProjects: each returns true for every argument. Conditions: lengths are ints.
-/
import Derived.Test.YtnbnmomichegaaaDepAwake
import Derived.Test.YtnbnmomichegaaaDepRefProj
namespace Go.Proofs.Ytnbnmomichegaaa
open Go.RowKit Dep

set_option maxRecDepth 100000 in
theorem law_checks (A : Option Addr) (n c : Nat) (h : Hs) (w : World) (hn : n ≤ 9223372036854775807) (hsl : Sl w w.heap.size 1 A n (ints h)) :
    Calls Try.prog 3 #[.slice A n c] w (Gave (.bool true) w) := by
  by_cases hl : 200 < n
  · go_enter Try.func3, Try.ntmps3
    go_wp2
    go_ret
    exact ⟨rfl, Below.refl _ _⟩
  · go_enter Try.func3, Try.ntmps3
    go_wp2_with fail
    refine (depCheck_any A n c h _ hn hsl).mono ?_
    rintro e w1 ⟨rfl, hb1⟩
    go_wp2_with fail
    refine (refCheck_any A n c h _ hn ((hsl.under hb1).up hb1.size)).mono ?_
    rintro e w2 ⟨rfl, rfl⟩
    go_wp2_with fail
    refine (awake_any _).mono ?_
    rintro e w3 ⟨rfl, hb3⟩
    go_wp2
    go_ret
    exact ⟨ret_bool rfl, hb1.trans (hb3.mono hb1.size)⟩

namespace Dep
theorem path_len (h : Hs) (a b : Int) : (path h a b).1.length ≤ 2 * h.length := by
  unfold path
  split
  · rename_i hc
    have hg := chk_zero.1 hc.1
    have h1 := way_len hg hc.2.1.2
    have h2 := way_len hg hc.2.2.2
    rcases meet_or (way h a) (way h b) with ⟨i, k, hm⟩ | hno
    · rw [pathL_meet hm]
      have := conn_len hm
      have := hm.hi
      have := hm.hk
      simp only []; omega
    · rw [pathL_none hno]; simp
  · simp
theorem depth_next {h : Hs} {i : Int} (hg : Dep.Good h) (h0 : 0 ≤ i) (h1 : i < h.length) (hx : 0 ≤ nx h i) : depth h (nx h i) = depth h i - 1 := by
  have hb := nx_ok hg.ok i
  unfold depth
  rw [if_pos ⟨chk_zero.2 hg, hx, hb.2⟩, if_pos ⟨chk_zero.2 hg, h0, h1⟩, way_step hg h0]
  simp
theorem depth_le {h : Hs} (i : Int) : -1 ≤ depth h i ∧ depth h i ≤ 4096 := by
  unfold depth
  split
  · rename_i hc
    have hg := chk_zero.1 hc.1
    have := way_len hg hc.2.2
    have := hg.len
    omega
  · omega
end Dep

set_option maxRecDepth 100000 in
set_option maxHeartbeats 1000000 in
theorem law_depths (A : Option Addr) (n c : Nat) (h : Hs) (i : Int) (w : World) (hn : n ≤ 9223372036854775807) (hsl : Sl w w.heap.size 1 A n (ints h)) :
    Calls Try.prog 4 #[.slice A n c, .int .i64 i] w (Gave (.bool true) w) := by
  have HL := Lib.hid hsl.ilen
  by_cases hl : 100 < n
  · go_enter Try.func4, Try.ntmps4
    go_wp2
    go_ret
    exact ⟨rfl, Below.refl _ _⟩
  · go_enter Try.func4, Try.ntmps4
    have hdb := depth_le (h := h) i
    obtain ⟨dp, hdp⟩ : ∃ dp, depth h i = dp := ⟨_, rfl⟩
    have HDP := Lib.hid hdp
    rw [hdp] at hdb
    clear hdp
    have hdb1 := hdb.1
    have hdb2 := hdb.2
    clear hdb
    go_wp2_with fail
    refine (depth_any A n c h i _ hn hsl).mono ?_
    rintro e w1 ⟨rfl, hb1⟩
    rw [HDP.out]
    have HS1 := Lib.hid ((hsl.under hb1).up hb1.size)
    go_wp2_with fail
    refine (depCheck_any A n c h _ hn HS1.out).mono ?_
    rintro e w2 ⟨rfl, hb2⟩
    have hB2 := hb1.trans (hb2.mono hb1.size)
    have HS2 := Lib.hid ((hsl.under hB2).up hB2.size)
    have hfin : Hid (∀ w3, Below w.heap.size w w3 → Calls Try.prog 15 #[.slice A n c, .int .i64 i] w3 (Gave (.int .i64 dp) w3)) := fun w3 hb => by
      have := refDepth_any A n c h i w3 hn ((hsl.under hb).up hb.size)
      rw [HDP.out] at this; exact this
    have hcases : ((chk h).2 = 0 ∧ 0 ≤ i ∧ i < n ∧ 0 ≤ nx h i) ∨ ((chk h).2 ≠ 0) ∨ ((chk h).2 = 0 ∧ i < 0) ∨ ((chk h).2 = 0 ∧ 0 ≤ i ∧ (n : Int) ≤ i) ∨ ((chk h).2 = 0 ∧ 0 ≤ i ∧ i < n ∧ nx h i < 0) := by
      by_cases h0 : (chk h).2 = 0
      · by_cases h1 : 0 ≤ i
        · by_cases h2 : i < n
          · by_cases h3 : 0 ≤ nx h i
            · exact .inl ⟨h0, h1, h2, h3⟩
            · exact .inr (.inr (.inr (.inr ⟨h0, h1, h2, by omega⟩)))
          · exact .inr (.inr (.inr (.inl ⟨h0, h1, by omega⟩)))
        · exact .inr (.inr (.inl ⟨h0, by omega⟩))
      · exact .inr (.inl h0)
    rcases hcases with ⟨h0, h1, h2, h3⟩ | h0 | ⟨h0, h1⟩ | ⟨h0, h1, h2⟩ | ⟨h0, h1, h2, h3⟩
    · have hg := chk_zero.1 h0
      have E : (((chk h).2 : Int) == 0) = true := by rw [h0]; rfl
      obtain ⟨k, rfl⟩ : ∃ k : Nat, i = k := ⟨i.toNat, by omega⟩
      obtain ⟨g, o, hk', rfl, hgl, c0⟩ := HS2.out.int (show k < n by omega)
      have hnx := nx_at hk'
      have hdn := depth_next hg h1 (by have := HL.out; omega) h3
      rw [hnx] at hdn h3
      obtain ⟨x, hx⟩ : ∃ x, h[k] = x := ⟨_, rfl⟩
      rw [hx] at c0 hdn h3
      rw [HDP.out] at hdn
      have HDN := Lib.hid hdn
      clear h0 hg hnx hx hdn
      go_wp2_with fail
      refine (depth_any _ n c h x _ hn HS2.out).mono ?_
      rintro e w3 ⟨rfl, hb3⟩
      rw [HDN.out]
      have hB3 := hB2.trans (hb3.mono hB2.size)
      have hne : ((dp - 1 : Int) != dp - 1) = false := by simp
      go_wp2_with fail
      refine (hfin.out _ hB3).mono ?_
      rintro e w4 ⟨rfl, hb4⟩
      have hB4 := hB3.trans (hb4.mono hB3.size)
      go_wp2_with fail
      refine (awake_any _).mono ?_
      rintro e w5 ⟨rfl, hb5⟩
      go_wp2
      go_ret
      exact ⟨ret_bool rfl, hB4.trans (hb5.mono hB4.size)⟩
    all_goals first
      | have E : (((chk h).2 : Int) == 0) = true := by rw [h0]; rfl
      | have E : (((chk h).2 : Int) == 0) = false := by rw [beq_eq_false_iff_ne]; omega
    · clear h0
      go_wp2_with fail
      refine (hfin.out _ hB2).mono ?_
      rintro e w4 ⟨rfl, hb4⟩
      have hB4 := hB2.trans (hb4.mono hB2.size)
      go_wp2_with fail
      refine (awake_any _).mono ?_
      rintro e w5 ⟨rfl, hb5⟩
      go_wp2
      go_ret
      exact ⟨ret_bool rfl, hB4.trans (hb5.mono hB4.size)⟩
    · clear h0
      go_wp2_with fail
      refine (hfin.out _ hB2).mono ?_
      rintro e w4 ⟨rfl, hb4⟩
      have hB4 := hB2.trans (hb4.mono hB2.size)
      go_wp2_with fail
      refine (awake_any _).mono ?_
      rintro e w5 ⟨rfl, hb5⟩
      go_wp2
      go_ret
      exact ⟨ret_bool rfl, hB4.trans (hb5.mono hB4.size)⟩
    · clear h0
      go_wp2_with fail
      refine (hfin.out _ hB2).mono ?_
      rintro e w4 ⟨rfl, hb4⟩
      have hB4 := hB2.trans (hb4.mono hB2.size)
      go_wp2_with fail
      refine (awake_any _).mono ?_
      rintro e w5 ⟨rfl, hb5⟩
      go_wp2
      go_ret
      exact ⟨ret_bool rfl, hB4.trans (hb5.mono hB4.size)⟩
    · clear h0
      obtain ⟨k, rfl⟩ : ∃ k : Nat, i = k := ⟨i.toNat, by omega⟩
      obtain ⟨g, o, hk', rfl, hgl, c0⟩ := HS2.out.int (show k < n by omega)
      rw [nx_at hk'] at h3
      obtain ⟨x, hx⟩ : ∃ x, h[k] = x := ⟨_, rfl⟩
      rw [hx] at c0 h3
      clear hx
      go_wp2_with fail
      refine (hfin.out _ hB2).mono ?_
      rintro e w4 ⟨rfl, hb4⟩
      have hB4 := hB2.trans (hb4.mono hB2.size)
      go_wp2_with fail
      refine (awake_any _).mono ?_
      rintro e w5 ⟨rfl, hb5⟩
      go_wp2
      go_ret
      exact ⟨ret_bool rfl, hB4.trans (hb5.mono hB4.size)⟩

set_option maxRecDepth 100000 in
set_option maxHeartbeats 1000000 in
theorem law_paths (A : Option Addr) (n c : Nat) (h : Hs) (a b : Int) (w : World) (hn : n ≤ 9223372036854775807) (hsl : Sl w w.heap.size 1 A n (ints h)) :
    Calls Try.prog 5 #[.slice A n c, .int .i64 a, .int .i64 b] w (Gave (.bool true) w) := by
  by_cases hl : 100 < n
  · go_enter Try.func5, Try.ntmps5
    go_wp2
    go_ret
    exact ⟨rfl, Below.refl _ _⟩
  · have hpl : Hid ((path h a b).1.length ≤ 9223372036854775807) := by show _ ≤ _; have := path_len h a b; have := hsl.ilen; omega
    go_enter Try.func5, Try.ntmps5
    go_wp2_with fail
    refine (path_any A n c h a b _ hn hsl).mono ?_
    rintro e w1 ⟨v, rfl, own1, hb1⟩
    obtain ⟨A1, c1, rfl, -, -⟩ := own_slc own1
    go_wp2_with fail
    refine (refPath_any A n c h a b _ hn ((hsl.under hb1).up hb1.size)).mono ?_
    rintro e w2 ⟨v, rfl, own2, hb2⟩
    obtain ⟨A2, c2, rfl, -, -⟩ := own_slc own2
    have hB2 := hb1.trans (hb2.mono hb1.size)
    have s1 := own_sl (own_below own1 hb2)
    have s2 := own_sl own2
    go_wp2_with fail
    refine (sameInts_any A1 A2 _ _ c1 c2 _ _ _ hpl.out hpl.out s1 s2).mono ?_
    rintro e w3 ⟨rfl, q, rfl⟩
    rw [decEq_true]
    go_wp2_with fail
    refine (awake_any _).mono ?_
    rintro e w5 ⟨rfl, hb5⟩
    go_wp2
    go_ret
    exact ⟨ret_bool rfl, (below_drewN hB2 q).trans (hb5.mono (below_drewN hB2 q).size)⟩

set_option maxRecDepth 100000 in
set_option maxHeartbeats 1000000 in
theorem law_projects (A : Option Addr) (n c : Nat) (h : Hs) (w : World) (hn : n ≤ 9223372036854775807) (hsl : Sl w w.heap.size 1 A n (ints h)) :
    Calls Try.prog 7 #[.slice A n c] w (Gave (.bool true) w) := by
  by_cases hl : 40 < n
  · go_enter Try.func7, Try.ntmps7
    go_wp2
    go_ret
    exact ⟨rfl, Below.refl _ _⟩
  · go_enter Try.func7, Try.ntmps7
    go_wp2_with fail
    refine (projective_any A n c h _ hn hsl).mono ?_
    rintro e w1 ⟨b1, rfl, e1, hb1⟩
    go_wp2_with fail
    refine (refProjective_any A n c h _ hn ((hsl.under hb1).up hb1.size)).mono ?_
    rintro e w2 ⟨b2, rfl, e2, hb2⟩
    have hB2 := hb1.trans (hb2.mono hb1.size)
    obtain rfl : b1 = b2 := by
      rw [Bool.eq_iff_iff, e1, e2]
    have hbb : (b1 == b1) = true := by simp
    clear e1 e2
    go_wp2_with fail
    refine (awake_any _).mono ?_
    rintro e w5 ⟨rfl, hb5⟩
    go_wp2
    go_ret
    exact ⟨ret_bool rfl, hB2.trans (hb5.mono hB2.size)⟩
end Go.Proofs.Ytnbnmomichegaaa
