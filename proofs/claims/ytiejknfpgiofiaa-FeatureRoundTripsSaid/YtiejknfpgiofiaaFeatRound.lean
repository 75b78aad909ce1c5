/-
  The law of chapter 5 on turned and doubled lists. Condition: a text's length is an int.
-/
import Derived.Test.YtiejknfpgiofiaaFeatLaws
namespace Go.Proofs.Ytiejknfpgiofiaa
open Go.RowKit Utf Feat
attribute [local go_sem] byte_mk ByteArray.extract_mk

theorem own_set {w : World} {base g n cap : Nat} {e : TypeId} {l : List Bs} (h : w.ownsRow base e 1 (.slice (some ⟨g, 0, none⟩) n cap) n (strs l)) (k : Nat) (x : Bs) :
    (w.setCell ⟨g, k, none⟩ (str x)).ownsRow base e 1 (.slice (some ⟨g, 0, none⟩) n cap) n (strs (l.set k x)) := by
  have hl : l.length = n := by simpa [strs] using h.1
  refine ⟨by rw [strs_len, List.length_set]; simpa using hl, ?_⟩
  rcases h.2 with ⟨h, _⟩ | ⟨g', cap', cur, he, hb, hblk, hc, hm, hs, ht⟩
  · cases h
  · cases he
    refine .inr ⟨g, cap, _, rfl, hb, Blk.set_ hblk k (str x), hc, hm, by simpa using hs, ?_⟩
    rw [Nat.mul_one] at ht ⊢
    rw [Array.toList_setIfInBounds, List.take_set, ht]
    simp [strs, List.map_set]
theorem own_free {w : World} {base g n cap : Nat} {e : TypeId} {l : List Value} (h : w.ownsRow base e 1 (.slice (some ⟨g, 0, none⟩) n cap) n l) (k : Nat) : w.frozen? ⟨g, k, none⟩ = false := by
  rcases h.2 with ⟨h, _⟩ | ⟨g', cap', cur, he, hb, hblk, _⟩
  · cases h
  · cases he; exact Blk.free hblk k
theorem own_drew {w : World} {base n : Nat} {e : TypeId} {v : Value} {l : List Value} (h : w.ownsRow base e 1 v n l) : w.drew.ownsRow base e 1 v n l := own_same h (fun _ _ => rfl)
theorem swap_mem (l : List Bs) (i j : Nat) (hi : i < l.length) (hj : j < l.length) (hij : i ≠ j) (x : Bs) : x ∈ (l.set i l[j]).set j l[i] ↔ x ∈ l := by
  constructor
  · intro h
    rcases List.mem_or_eq_of_mem_set h with h | rfl
    · rcases List.mem_or_eq_of_mem_set h with h | rfl
      · exact h
      · exact List.getElem_mem hj
    · exact List.getElem_mem hi
  · intro h
    obtain ⟨k, hk, rfl⟩ := List.getElem_of_mem h
    rw [List.mem_iff_getElem]
    by_cases e1 : k = i
    · subst e1
      exact ⟨j, by simpa using hj, by simp⟩
    · by_cases e2 : k = j
      · subst e2
        exact ⟨i, by simpa using hi, by rw [List.getElem_set_ne (fun h => hij h.symm)]; simp⟩
      · exact ⟨k, by simpa using hk, by rw [List.getElem_set_ne (fun h => e2 h.symm), List.getElem_set_ne (fun h => e1 h.symm)]⟩

set_option maxRecDepth 100000 in
set_option maxHeartbeats 8000000 in
theorem law_rounds (s : Bs) (t : Int) (hs : s.length ≤ 9223372036854775807) (ht1 : -9223372036854775808 ≤ t) (ht2 : t ≤ 9223372036854775807) (w : World) :
    Calls Try.prog 5 #[str s, .int .i64 t] w (Kept' (.bool true) w) := by
  obtain ⟨i0, hi0, hz0, hz1, hz2⟩ := info_parts info_string
  have hex := fun W => parse_any s hs W
  have hlp := len_parse s
  have hlaw : ∀ m, (parse s).2 = 0 → (∀ x, x ∈ m ↔ x ∈ (parse s).1) → format m = (s, 0) := fun m h hm => law_round (l := (parse s).1) (by rw [← h]) hm
  have hsm := small_parse s
  obtain ⟨l, er, hp⟩ : ∃ l n, parse s = (l, n) := ⟨_, _, rfl⟩
  rw [hp] at hex hlp hlaw hsm
  simp only at hlaw hlp hsm
  clear hp
  by_cases h0 : er = 0
  · subst h0
    replace hlaw := fun m => hlaw m rfl
    by_cases hneg : 0 ≤ t
    · by_cases h100 : t ≤ 100
      · obtain ⟨t, rfl⟩ := Int.eq_ofNat_of_zero_le hneg
        have HLAW := Lib.hid hlaw
        have HSM := Lib.hid hsm
        have ht : t ≤ 100 := by omega
        clear hlaw hsm hneg h100 ht1 ht2
        go_enter Try.func5, Try.ntmps5
        go_wp2_with fail
        refine (hex _).mono ?_
        rintro e w1 ⟨v, rfl, own, hB⟩
        obtain ⟨A, c, rfl, hsl, hlc⟩ := sl_of_own own
        have hszb := hB.size
        clear hex own
        go_wp2_with (at_builtin; refine wpList_app _ rfl (.const (.slice none 0 0)) (.tmp 27) _ rfl w1.heap.size 9 i0 _ 1 16 Try.underlying23 hi0 hz0 hz1 hz2 rfl (by decide) (.slice none 0 0) 0 [] rfl (World.ownsRow_nil _ _ _ _) A l.length c (strs l) rfl (by rw [strs_len]; omega) (src_sl hsl) (strs_one _) (by simp [maxLen]; omega) (by omega) (Nat.le_refl _) ?_; intro v3 w3 own3 gr3 ob3)
        have own3' := own_cast own3 (m := l.length + 0) (r := strs (l ++ [])) (by simp) (by omega)
        have hB3 : Below w1.heap.size w1 w3 := (Below.refl _ w1).grown gr3 (Nat.le_refl _) (fun k hk => by cases hk)
        clear own3 gr3 ob3
        go_wp2
        go_loopw [7, 31] (fun v iv wr => ∃ (k : Nat) (r : List Bs), k ≤ l.length ∧ iv = .int .i64 k ∧ wr.ownsRow w1.heap.size 9 1 v (l.length + k) (strs (l ++ r)) ∧ Below w1.heap.size w1 wr ∧ Hid (∀ x ∈ r, x ∈ l)) (fun _ iv _ => l.length - (intOf iv).toNat)
        case atStart => exact ⟨0, [], Nat.zero_le _, rfl, own3', hB3, fun x hx => by cases hx⟩
        case round =>
          obtain ⟨k, r, hk, rfl, hown, hBl, hr⟩ := hrel
          by_cases hlt : k < l.length
          · have hm : (k + t) % l.length < l.length := Nat.mod_lt _ (by omega)
            obtain ⟨g, o, hk', rfl, hg, hc⟩ := (hsl.below hBl).at_ hm
            have hoa := hown.alloc (.cells #[str (l[(k + t) % l.length])] 9)
            have hba := hBl.alloc hBl.size (.cells #[str (l[(k + t) % l.length])] 9)
            have hx : l[(k + t) % l.length] ∈ l := List.getElem_mem hk'
            obtain ⟨z, hz⟩ : ∃ z, l[(k + t) % l.length] = z := ⟨_, rfl⟩
            rw [hz] at hc hoa hba hx
            have hmi : 0 ≤ ((k : Int) + (t : Int)) % (l.length : Int) ∧ ((k : Int) + (t : Int)) % (l.length : Int) < (l.length : Int) := ⟨Int.emod_nonneg _ (by omega), Int.emod_lt_of_pos _ (by omega)⟩
            have hlen := hown.1
            have HX := Lib.hid hx
            clear hz hx
            go_wp2_with (at_builtin; refine wpList_append_own_at _ rfl (.tmp 34) (.tmp 44) _ rfl w1.heap.size 9 i0 _ 1 16 Try.underlying23 hi0 hz0 hz1 hz2 rfl (by decide) _ _ _ rfl hoa ⟨wr.heap.size, 0, none⟩ 1 1 [str z] rfl rfl ?c1 ?c2 ?c3 ?c4 ?c5 ?_)
            try (case c1 => exact news_new _ _ [_])
            try (case c2 => first | rfl | (intro u hu; simp at hu; subst hu; rfl))
            try (case c3 => simp [maxLen]; omega)
            try (case c4 => omega)
            try (case c5 => exact hba.size)
            intro v6 w6 own6 gr6 _ _
            have hb6 : Below w1.heap.size w1 w6 := hba.grown gr6 hba.size (fun k hk => (hown.lt k hk).1)
            clear hoa hba gr6 hown
            go_wp2
            go_roundw
            case rel =>
              refine ⟨k + 1, r ++ [z], by omega, by go_num, own_cast own6 (by simp [strs]) (by omega), hb6, ?_⟩
              intro x hx
              rcases List.mem_append.1 hx with hx | hx
              · exact hr.out x hx
              · rw [List.mem_singleton.1 hx]; exact HX.out
            case measure => simp [intOf]; omega
          · have hkl : k = l.length := by omega
            subst hkl
            obtain ⟨wo, rfl⟩ : ∃ wo : World, wo = wr := ⟨_, rfl⟩
            obtain ⟨A4, c4, rfl, _, hc4⟩ := sl_of_own hown
            have hrl : r.length = l.length := by have := hown.1; simp [strs] at this; omega
            have hmem : Hid (∀ x, x ∈ l ++ r ↔ x ∈ l) := by
              intro x; rw [List.mem_append]
              exact ⟨fun h => h.elim id (hr.out x), .inl⟩
            have hN : l.length + l.length = 2 * l.length := by omega
            rw [hN] at hown hc4 ⊢
            obtain ⟨m0, hm0⟩ : ∃ m0, l ++ r = m0 := ⟨_, rfl⟩
            rw [hm0] at hown hmem
            have hml : m0.length = 2 * l.length := by rw [← hm0]; simp; omega
            clear hm0 hr hrl hN
            go_wp2
            go_loopw [9] (fun iv wr => ∃ (i : Nat) (m : List Bs), i ≤ l.length ∧ iv = .int .i64 i ∧ m.length = 2 * l.length ∧ wr.ownsRow w1.heap.size 9 1 (.slice A4 (2 * l.length) c4) (2 * l.length) (strs m) ∧ Below w1.heap.size w1 wr ∧ Hid (∀ x, x ∈ m ↔ x ∈ l)) (fun iv _ => l.length - (intOf iv).toNat)
            case atStart => exact ⟨0, m0, Nat.zero_le _, rfl, hml, hown, hBl, hmem⟩
            case round =>
              obtain ⟨i, m, hi, rfl, hml2, hown2, hBl2, hmem2⟩ := hrel
              by_cases hil : i < l.length
              · obtain ⟨g4, cap4, he4, hg4, _, _⟩ := own_form hown2 (by omega)
                cases he4
                have hij : i ≠ 2 * l.length - 1 - i := by omega
                have hi1 : i < m.length := by omega
                have hj1 : 2 * l.length - 1 - i < m.length := by omega
                have k1 := own_str hown2 i hi1
                have k2 := own_str hown2 (2 * l.length - 1 - i) hj1
                have f1 := own_free hown2 i
                have f2 := own_free hown2 (2 * l.length - 1 - i)
                have eN : IntKind.i64.wrap (2 * (l.length : Int) - 1) = 2 * (l.length : Int) - 1 := IntWalk.i64_in _ (by omega)
                have eJ : IntKind.i64.wrap (2 * (l.length : Int) - 1 - i) = ((2 * l.length - 1 - i : Nat) : Int) := by rw [IntWalk.i64_in _ (by omega)]; omega
                have bj : (0 : Int) ≤ ((2 * l.length - 1 - i : Nat) : Int) ∧ ((2 * l.length - 1 - i : Nat) : Int) < 2 * (l.length : Int) := by omega
                obtain ⟨wo, rfl⟩ : ∃ wo : World, wo = wr := ⟨_, rfl⟩
                go_wp2
                go_region
                go_wp2
                go_roundw
                case rel =>
                  have hs1 := own_set hown2 i m[2 * l.length - 1 - i]
                  have hs2 := own_drew (own_set hs1 (2 * l.length - 1 - i) m[i])
                  refine ⟨i + 1, (m.set i m[2 * l.length - 1 - i]).set (2 * l.length - 1 - i) m[i], by omega, by go_num, by simpa using hml2, hs2, ?_, ?_⟩
                  · exact ((hBl2.setCell (p := ⟨g4, i, none⟩) hg4 _).setCell (p := ⟨g4, 2 * l.length - 1 - i, none⟩) hg4 _).drew
                  · intro x
                    rw [swap_mem m i _ hi1 hj1 hij]
                    exact hmem2.out x
                case measure => simp [intOf]; omega
              · have hf := HLAW.out m hmem2.out
                have hsl4 := sl_own hown2
                have hex := format_any A4 (2 * l.length) c4 m wr (by omega) hsl4 (by intro f hf; exact Nat.le_trans (HSM.out f ((hmem2.out f).1 hf)) (by omega))
                rw [hf] at hex
                clear hf hsl4
                have hB6 : Below w.heap.size w wr := hB.trans (hBl2.mono hszb)
                go_wp2_with fail
                refine hex.mono ?_
                rintro e w8 ⟨rfl, hb8⟩
                have hB8 := hB6.trans (hb8.mono hB6.size)
                go_wp2_with fail
                refine (awake_any _).mono ?_
                rintro e w9 ⟨rfl, hb9⟩
                have hB9 := hB8.trans (hb9.mono hB8.size)
                go_wp2
                go_ret
                exact ⟨rfl, hB9⟩
      · have hd : decide (t < 0) = false := by rw [decide_eq_false_iff_not]; omega
        have hd2 : decide ((100 : Int) < t) = true := by rw [decide_eq_true_iff]; omega
        clear hlaw hsm
        go_enter Try.func5, Try.ntmps5
        go_wp2_with fail
        refine (hex _).mono ?_
        rintro e w1 ⟨v, rfl, own, hB⟩
        go_wp2
        go_ret
        exact ⟨rfl, hB⟩
    · have hd : decide (t < 0) = true := by rw [decide_eq_true_iff]; omega
      clear hlaw hsm
      go_enter Try.func5, Try.ntmps5
      go_wp2_with fail
      refine (hex _).mono ?_
      rintro e w1 ⟨v, rfl, own, hB⟩
      go_wp2
      go_ret
      exact ⟨rfl, hB⟩
  · have hq : ((er : Int) != 0) = true := by rw [bne_iff_ne]; omega
    clear hlaw hsm
    go_enter Try.func5, Try.ntmps5
    go_wp2_with fail
    refine (hex _).mono ?_
    rintro e w1 ⟨v, rfl, own, hB⟩
    go_wp2
    go_ret
    exact ⟨rfl, hB⟩
end Go.Proofs.Ytiejknfpgiofiaa
