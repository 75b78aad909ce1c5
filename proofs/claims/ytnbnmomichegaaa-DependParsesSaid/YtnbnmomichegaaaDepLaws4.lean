/-
  The law DependValid: it returns true for every text and number. Condition: the text's length is an int.
-/
import Derived.Test.YtnbnmomichegaaaDepAwake
namespace Go.Proofs.Ytnbnmomichegaaa
open Go.RowKit Utf Dep
open Feat (Bs)

namespace Dep
theorem parseF_ok {T : Nat} : ∀ (f a : Nat) (rest : Bs) (H : List Int) (R : List Bs) (O : List Nat), H.length ≤ T → R.length = H.length → O.length = H.length → (∀ o ∈ O, o ≤ a) →
    match parseF T f a rest H R O with
    | .ok (H', R', O') => H'.length ≤ T ∧ R'.length = H'.length ∧ O'.length = H'.length ∧ ∀ o ∈ O', o ≤ a + rest.length
    | .error (x, e) => x ≤ a + rest.length ∧ e ≠ 0
  | 0, a, rest, H, R, O, h1, h2, h3, h4 => ⟨h1, h2, h3, fun o ho => by have := h4 o ho; omega⟩
  | f + 1, a, rest, H, R, O, h1, h2, h3, h4 => by
    by_cases hr : rest = []
    · rw [hr, parseF_end]; exact ⟨h1, h2, h3, fun o ho => by have := h4 o ho; simp; omega⟩
    · by_cases hm : H.length = T
      · rw [parseF_many hr hm]; exact ⟨by omega, by decide⟩
      · have hl := ln_len rest
        by_cases he : (lineP (ln rest) T).2.2.2 = 0
        · rw [parseF_step hr hm he]
          have h0 : 0 < rest.length := by
            rcases Nat.eq_zero_or_pos rest.length with e | e
            · exact absurd (List.eq_nil_of_length_eq_zero e) hr
            · exact e
          have ih := parseF_ok (T := T) f (a + (ln rest).length + 1) (rest.drop ((ln rest).length + 1)) (H ++ [(lineP (ln rest) T).1]) (R ++ [(lineP (ln rest) T).2.1]) (O ++ [a]) (by simp; omega) (by simp [h2]) (by simp [h3]) (fun (o : Nat) (ho : o ∈ O ++ [a]) => by
            show o ≤ a + (ln rest).length + 1
            rcases List.mem_append.1 ho with h | h
            · have := h4 o h; omega
            · simp at h; omega)
          by_cases hle : (ln rest).length + 1 ≤ rest.length
          · have e : a + (ln rest).length + 1 + (rest.drop ((ln rest).length + 1)).length = a + rest.length := by simp; omega
            rw [e] at ih
            exact ih
          · have hdn : rest.drop ((ln rest).length + 1) = [] := List.drop_eq_nil_of_le (by omega)
            rw [hdn, parseF_end]
            refine ⟨by simp; omega, by simp [h2], by simp [h3], fun o ho => ?_⟩
            rcases List.mem_append.1 ho with h | h
            · have := h4 o h; omega
            · simp at h; omega
        · rw [parseF_bad hr hm he]
          have := lineP_at (ln rest) T
          exact ⟨by omega, he⟩
theorem parseA_valid {d : Bs} {T : Nat} (hT : T ≤ 4096) (hd : ¬ 1048576 < d.length) :
    ((parseA d (T : Nat)).2.2.2 = 0 → (chk (parseA d (T : Nat)).1).2 = 0 ∧ (parseA d (T : Nat)).1.length = T ∧ (parseA d (T : Nat)).2.1.length = T ∧ (parseA d (T : Nat)).2.2.1 = (0, 0)) ∧
    ((parseA d (T : Nat)).2.2.2 ≠ 0 → (parseA d (T : Nat)).1 = [] ∧ (parseA d (T : Nat)).2.1 = [] ∧ ∃ k, k ≤ d.length ∧ Pos.posOf d k = (parseA d (T : Nat)).2.2.1) := by
  rw [parseA_in hT hd]
  have hok := parseF_ok (T := T) (d.length + 1) 0 d [] [] [] (by simp) rfl rfl (fun o ho => by simp at ho)
  cases hp : parseD d T with
  | error p =>
    obtain ⟨x, e⟩ := p
    rw [show parseF T (d.length + 1) 0 d [] [] [] = .error (x, e) from hp] at hok
    rw [parseO_err hp]
    simp only [] at hok
    exact ⟨fun h => absurd h hok.2, fun _ => ⟨rfl, rfl, x, by omega, rfl⟩⟩
  | ok p =>
    obtain ⟨H, R, O⟩ := p
    rw [show parseF T (d.length + 1) 0 d [] [] [] = .ok (H, R, O) from hp] at hok
    simp only [] at hok
    obtain ⟨h1, h2, h3, h4⟩ := hok
    by_cases hf : H.length < T
    · rw [parseO_few hp hf]
      exact ⟨(fun h => by cases h), fun _ => ⟨rfl, rfl, d.length, Nat.le_refl _, rfl⟩⟩
    · by_cases hc : (chk H).2 = 0
      · rw [parseO_ok hp hf hc]
        exact ⟨fun _ => ⟨hc, by show H.length = T; omega, by show R.length = T; omega, rfl⟩, fun h => absurd rfl h⟩
      · rw [parseO_chk hp hf hc]
        refine ⟨fun h => absurd h hc, fun _ => ⟨rfl, rfl, O.getD (chk H).1 0, ?_, rfl⟩⟩
        by_cases hi : (chk H).1 < O.length
        · have : O.getD (chk H).1 0 = O[(chk H).1] := by simp [hi]
          rw [this]
          have := h4 _ (List.getElem_mem hi)
          omega
        · have : O.getD (chk H).1 0 = 0 := by rw [List.getD_eq_getElem?_getD, List.getElem?_eq_none (by omega)]; rfl
          rw [this]; omega
end Dep
attribute [local go_sem] byte_mk ByteArray.extract_mk

set_option maxRecDepth 100000 in
set_option maxHeartbeats 2000000 in
theorem law_valid (d : Bs) (t : Int) (hd : d.length ≤ 9223372036854775807) (w : World) :
    Calls Try.prog 10 #[str d, .int .i64 t] w (Gave (.bool true) w) := by
  by_cases h1 : 1500 < d.length
  · go_enter Try.func10, Try.ntmps10
    go_wp2
    go_ret
    exact ⟨rfl, Below.refl _ _⟩
  · by_cases h2 : t < 0
    · go_enter Try.func10, Try.ntmps10
      go_wp2
      go_ret
      exact ⟨rfl, Below.refl _ _⟩
    · by_cases h3 : 300 < t
      · go_enter Try.func10, Try.ntmps10
        go_wp2
        go_ret
        exact ⟨rfl, Below.refl _ _⟩
      · obtain ⟨T, rfl⟩ : ∃ T : Nat, t = T := ⟨t.toNat, by omega⟩
        have hT : T ≤ 300 := by omega
        obtain ⟨hv1, hv2⟩ := parseA_valid (d := d) (T := T) (by omega) (by omega)
        have hpd := depParse_any d (T : Nat) hd
        obtain ⟨PH, PR, px, py, pe, hp⟩ : ∃ PH PR px py pe, parseA d (T : Nat) = (PH, PR, (px, py), pe) := ⟨_, _, _, _, _, rfl⟩
        rw [hp] at hv1 hv2
        unfold Parsd at hpd
        rw [hp] at hpd
        dsimp only at hv1 hv2 hpd
        have HPD := Lib.hid hpd
        have HV1 := Lib.hid hv1
        have HV2 := Lib.hid hv2
        clear hpd hv1 hv2 hp
        go_enter Try.func10, Try.ntmps10
        go_wp2_with fail
        refine (HPD.out _).mono ?_
        rintro e w1 ⟨v1, v2, rfl, own1, own2, hb1⟩
        obtain ⟨A1, c1, rfl, -, -⟩ := own_slc own1
        obtain ⟨A2, c2, rfl, -, -⟩ := own_slc own2
        have hP := Blk.new w1 36 #[.int .i64 (px : Nat), .int .i64 (py : Nat)]
        have hB1 := hb1.alloc hb1.size (.cells #[.int .i64 (px : Nat), .int .i64 (py : Nat)] 36)
        by_cases hpe : pe = 0
        · obtain ⟨g1, g2, g3, g4⟩ := HV1.out hpe
          subst hpe
          have G1 := Lib.hid g1
          have hsl1 := (own_sl own1).under ((Below.refl _ _).alloc (Nat.le_refl _) (.cells #[.int .i64 (px : Nat), .int .i64 (py : Nat)] 36))
          have hx : px = 0 ∧ py = 0 := by cases g4; exact ⟨rfl, rfl⟩
          obtain ⟨rfl, rfl⟩ := hx
          have HS := Lib.hid hsl1
          have hl1 : ((PH.length : Int) == (T : Int)) = true := by rw [beq_iff_eq]; omega
          have hl2 : ((PR.length : Int) == (T : Int)) = true := by rw [beq_iff_eq]; omega
          have hph : PH.length ≤ 300 := by omega
          clear g1 g2 g3 g4 own1 own2 hsl1
          go_wp2_with fail
          refine (depCheck_any A1 PH.length c1 PH _ (by omega) (HS.out.up (by simp))).mono ?_
          rintro e w2 ⟨rfl, hb2⟩
          rw [G1.out]
          have hB2 := hB1.trans (hb2.mono hB1.size)
          have hP2 := hP.below hb2
          have q0 := hP2.cell 0
          have q1 := hP2.cell 1
          simp only [List.getElem?_toArray, List.getElem?_cons_zero, List.getElem?_cons_succ] at q0 q1
          go_wp2_with fail
          refine (awake_any _).mono ?_
          rintro e w3 ⟨rfl, hb3⟩
          go_wp2
          go_ret
          exact ⟨ret_bool rfl, hB2.trans (hb3.mono hB2.size)⟩
        · have E : ((pe : Int) == 0) = false := by rw [beq_eq_false_iff_ne]; omega
          obtain ⟨g1, g2, k0, hk0, g3⟩ := HV2.out hpe
          subst g1 g2
          have G3 := Lib.hid g3
          clear g3 own1 own2 hpe
          go_wp2
          go_loopw [11] (fun iv wr => ∃ k : Nat, k ≤ d.length + 1 ∧ iv = .int .i64 k ∧ k ≤ k0 ∧ Blk wr w1.heap.size 36 #[.int .i64 (px : Nat), .int .i64 (py : Nat)] ∧ Below w.heap.size w wr) (fun iv _ => d.length + 1 - (intOf iv).toNat)
          case atStart => exact ⟨0, by omega, rfl, by omega, hP, hB1⟩
          case round =>
            obtain ⟨k, hk, rfl, hkk, hPr, hBr⟩ := hrel
            obtain ⟨wo, rfl⟩ : ∃ wo : World, wo = wr := ⟨_, rfl⟩
            have q0 := hPr.cell 0
            have q1 := hPr.cell 1
            simp only [List.getElem?_toArray, List.getElem?_cons_zero, List.getElem?_cons_succ] at q0 q1
            have hkd : k ≤ d.length := by omega
            obtain ⟨ax, ay, hax⟩ : ∃ ax ay, Pos.posOf d k = (ax, ay) := ⟨_, _, rfl⟩
            have hpos := fun W => position_any d k (by omega) W
            unfold Posd at hpos
            rw [hax] at hpos
            dsimp only at hpos
            have HPOS := Lib.hid hpos
            have HAX := Lib.hid hax
            clear hpos hax
            by_cases heq : ax = px ∧ ay = py
            · obtain ⟨rfl, rfl⟩ := heq
              go_wp2
              go_region_law (go_simp; refine (HPOS.out _).mono ?_; rintro en w5 ⟨rfl, hb5⟩; have z0 := (Blk.below (w := wo.drew) hPr hb5).cell 0; have z1 := (Blk.below (w := wo.drew) hPr hb5).cell 1; go_simp)
              all_goals
                have hB5 := (hBr.drew).trans (hb5.mono (hBr.drew).size)
                go_wp2_with fail
                refine (awake_any _).mono ?_
                rintro e w6 ⟨rfl, hb6⟩
                go_wp2
                go_ret
                exact ⟨ret_bool rfl, hB5.trans (hb6.mono hB5.size)⟩
            · have hk1 : k ≠ k0 := by
                rintro rfl
                have := G3.out
                rw [HAX.out] at this
                cases this
                exact heq ⟨rfl, rfl⟩
              have hor : ((ax : Int) == (px : Int)) = false ∨ (((ax : Int) == (px : Int)) = true ∧ ((ay : Int) == (py : Int)) = false) := by
                by_cases h1 : ax = px
                · right
                  refine ⟨by rw [h1]; simp, ?_⟩
                  rw [beq_eq_false_iff_ne]; intro h2; exact heq ⟨h1, by omega⟩
                · left; rw [beq_eq_false_iff_ne]; omega
              have hmeas : k < k0 := by omega
              clear heq
              rcases hor with h1 | ⟨h1, h2⟩
              · have e1 : ¬ ((ax : Int) = (px : Int)) := by rw [beq_eq_false_iff_ne] at h1; exact h1
                go_wp2
                go_region_law (go_simp; refine (HPOS.out _).mono ?_; rintro en w5 ⟨rfl, hb5⟩; have z0 := (Blk.below (w := wo.drew) hPr hb5).cell 0; have z1 := (Blk.below (w := wo.drew) hPr hb5).cell 1; go_simp)
                all_goals
                  have hB5 := (hBr.drew).trans (hb5.mono (hBr.drew).size)
                  have hP5 := Blk.below (w := wo.drew) hPr hb5
                  go_wp2
                  go_roundw
                  case rel => exact ⟨k + 1, by omega, by simp, by omega, hP5, hB5⟩
                  all_goals (simp [intOf]; omega)
              · have e1 : ((ax : Int) = (px : Int)) := by rw [beq_iff_eq] at h1; exact h1
                have e2 : ¬ ((ay : Int) = (py : Int)) := by rw [beq_eq_false_iff_ne] at h2; exact h2
                go_wp2
                go_region_law (go_simp; refine (HPOS.out _).mono ?_; rintro en w5 ⟨rfl, hb5⟩; have z0 := (Blk.below (w := wo.drew) hPr hb5).cell 0; have z1 := (Blk.below (w := wo.drew) hPr hb5).cell 1; go_simp)
                all_goals
                  have hB5 := (hBr.drew).trans (hb5.mono (hBr.drew).size)
                  have hP5 := Blk.below (w := wo.drew) hPr hb5
                  go_wp2
                  go_roundw
                  case rel => exact ⟨k + 1, by omega, by simp, by omega, hP5, hB5⟩
                  all_goals (simp [intOf]; omega)
end Go.Proofs.Ytnbnmomichegaaa
