/-
  The contracts of markup's and the reference's reading of one escape. Condition: the text's length is an int.
-/
import Derived.Test.YteccopnlpllliaaMarkEsc
import Derived.BigQuiet
import Derived.Deep.QuietTactic
namespace Go.Proofs.Yteccopnlpllliaa
open Go.RowKit Utf Tagp
open Feat (Bs)
attribute [local go_sem] byte_mk ByteArray.extract_mk

theorem mem_tw {α : Type} (p : α → Bool) : ∀ (l : List α) (c : α), c ∈ l.takeWhile p → p c = true
  | [], c, h => by simp at h
  | x :: r, c, h => by
    cases hx : p x with
    | false => simp [hx] at h
    | true =>
      simp [hx] at h
      rcases h with rfl | h
      · exact hx
      · exact mem_tw p r c h
theorem digs_at (s : Bs) (j : Nat) (h : j < (digs s).length) : ∃ h2 : 2 + j < s.length, 2 + j < 9 ∧ (digs s)[j] = s[2 + j] ∧ dig s[2 + j] = true := by
  have hp : digs s <+: (s.drop 2).take 7 := List.takeWhile_prefix _
  have hl := hp.length_le
  rw [List.length_take, List.length_drop] at hl
  have h2 : 2 + j < s.length := by omega
  have he : (digs s)[j] = s[2 + j] := by
    have h3 : (digs s)[j]? = ((s.drop 2).take 7)[j]? := by
      obtain ⟨t, ht⟩ := hp
      rw [← ht, List.getElem?_append_left h]
    rw [List.getElem?_eq_getElem h, List.getElem?_take, if_pos (by omega), List.getElem?_drop, List.getElem?_eq_getElem h2] at h3
    exact Option.some.inj h3
  refine ⟨h2, by omega, he, ?_⟩
  rw [← he]
  exact mem_tw dig ((s.drop 2).take 7) _ (List.getElem_mem h)
theorem takeWhile_stop {α : Type} (p : α → Bool) : ∀ (l : List α) (h : (l.takeWhile p).length < l.length), p (l[(l.takeWhile p).length]'h) = false
  | [], h => by simp at h
  | x :: r, h => by
    cases hx : p x with
    | false => simp [hx]
    | true =>
      have h' : (r.takeWhile p).length < r.length := by simp [hx] at h; exact h
      have := takeWhile_stop p r h'
      simp only [List.takeWhile_cons, hx, if_true, List.length_cons, List.getElem_cons_succ]
      exact this
theorem digs_end (s : Bs) (h1 : 2 + (digs s).length < s.length) (h2 : 2 + (digs s).length < 9) : dig s[2 + (digs s).length] = false := by
  have h := takeWhile_stop dig ((s.drop 2).take 7) (by show (digs s).length < _; rw [List.length_take, List.length_drop]; omega)
  have e : ((s.drop 2).take 7)[(((s.drop 2).take 7).takeWhile dig).length]'(by show (digs s).length < _; rw [List.length_take, List.length_drop]; omega) = s[2 + (digs s).length] := by
    rw [List.getElem_take, List.getElem_drop]; rfl
  rw [e] at h
  exact h
theorem digs_le (s : Bs) : (digs s).length ≤ 7 ∧ (2 ≤ s.length → 2 + (digs s).length ≤ s.length) := by
  have hp : digs s <+: (s.drop 2).take 7 := List.takeWhile_prefix _
  have hl := hp.length_le
  rw [List.length_take, List.length_drop] at hl
  omega
theorem val_snoc (l : Bs) (c : UInt8) : val (l ++ [c]) = 10 * val l + (c.toNat - 48) := by simp [val]
theorem val_lt_from : ∀ (l : Bs) (n : Nat), (∀ c ∈ l, dig c = true) → l.foldl (fun n c => 10 * n + (c.toNat - 48)) n < (n + 1) * 10 ^ l.length
  | [], n, _ => by simp
  | c :: r, n, h => by
    have h2 := h c (by simp)
    unfold dig at h2
    simp at h2
    have h1 := val_lt_from r (10 * n + (c.toNat - 48)) (fun x hx => h x (by simp [hx]))
    rw [List.foldl_cons, List.length_cons]
    refine Nat.lt_of_lt_of_le h1 ?_
    rw [Nat.pow_succ, Nat.mul_comm (10 ^ r.length) 10, ← Nat.mul_assoc]
    exact Nat.mul_le_mul_right _ (by omega)
theorem val_lt (l : Bs) (h : ∀ c ∈ l, dig c = true) : val l < 10 ^ l.length := by
  have := val_lt_from l 0 h
  simpa [val] using this
theorem val_digs (s : Bs) (j : Nat) : val ((digs s).take j) < 10000000 := by
  have h1 := val_lt ((digs s).take j) (fun c hc => mem_tw dig ((s.drop 2).take 7) _ (List.mem_of_mem_take hc))
  have h2 : ((digs s).take j).length ≤ 7 := by rw [List.length_take]; have := (digs_le s).1; omega
  exact Nat.lt_of_lt_of_le h1 (Nat.pow_le_pow_right (by omega) h2 : _ ≤ 10 ^ 7)
/-- What one escape hands back. -/
def One (s : Bs) (w : World) (e : Ending) (w' : World) : Prop := w = w' ∧ e = .returned (.tuple #[.int .i32 ((esc1 s).1 : Nat), .int .i64 ((esc1 s).2 : Nat)])
theorem one_ret {s : Bs} {n k : Nat} {w : World} {e : Ending} (h : esc1 s = (n, k)) (he : e = .returned (.tuple #[.int .i32 (n : Nat), .int .i64 (k : Nat)])) : One s w e w := by unfold One; rw [h]; exact ⟨rfl, he⟩

theorem esc1_num {s : Bs} (h1 : [38, 97, 109, 112, 59].isPrefixOf s = false) (h2 : [38, 108, 116, 59].isPrefixOf s = false) (h3 : [38, 103, 116, 59].isPrefixOf s = false) (h4 : [38, 113, 117, 111, 116, 59].isPrefixOf s = false) (h5 : [38, 35].isPrefixOf s = true) :
    esc1 s = if 2 + (digs s).length = 2 ∨ s[2 + (digs s).length]? ≠ some 59 ∨ (s[2]? = some 48 ∧ 3 < 2 + (digs s).length) ∨ (55296 ≤ val (digs s) ∧ val (digs s) ≤ 57343) ∨ 1114111 < val (digs s) then (0, 0) else (val (digs s), 2 + (digs s).length + 1) := by
  unfold esc1
  rw [h1, h2, h3, h4, h5]
  simp only [Bool.false_eq_true, if_false, if_true]

theorem dig_parts {c : UInt8} (h : dig c = true) : decide (48 ≤ (c.toNat : Int)) = true ∧ decide ((c.toNat : Int) ≤ 57) = true := by
  unfold dig at h; simp at h ⊢; omega
theorem dig_not {c : UInt8} (h : dig c = false) : decide (48 ≤ (c.toNat : Int)) = false ∨ (decide (48 ≤ (c.toNat : Int)) = true ∧ decide ((c.toNat : Int) ≤ 57) = false) := by
  unfold dig at h; simp at h ⊢; omega

theorem one_cases {s : Bs} {i n : Nat} (hil : i < s.length) (h2 : 2 < s.length) (H : esc1 s = if i = 2 ∨ some s[i] ≠ some 59 ∨ (some s[2] = some (48 : UInt8) ∧ 3 < i) ∨ (55296 ≤ n ∧ n ≤ 57343) ∨ 1114111 < n then (0, 0) else (n, i + 1)) :
    (((i : Int) == 2) = true ∧ esc1 s = (0, 0)) ∨ (((i : Int) == 2) = false ∧ ((((s[i].toNat : Int) != 59) = true ∧ esc1 s = (0, 0)) ∨ (((s[i].toNat : Int) != 59) = false ∧
          ((((s[2].toNat : Int) == 48) = true ∧ decide ((3 : Int) < i) = true ∧ esc1 s = (0, 0)) ∨ ((((s[2].toNat : Int) == 48) = false ∨ (((s[2].toNat : Int) == 48) = true ∧ decide ((3 : Int) < i) = false)) ∧
            ((decide ((55296 : Int) ≤ n) = true ∧ decide ((n : Int) ≤ 57343) = true ∧ esc1 s = (0, 0)) ∨ ((decide ((55296 : Int) ≤ n) = false ∨ (decide ((55296 : Int) ≤ n) = true ∧ decide ((n : Int) ≤ 57343) = false)) ∧
              ((decide ((1114111 : Int) < n) = true ∧ esc1 s = (0, 0)) ∨ (decide ((1114111 : Int) < n) = false ∧ n ≤ 1114111 ∧ esc1 s = (n, i + 1)))))))))) := by
  have k59 : s[i] = 59 ↔ (s[i].toNat : Int) = 59 := ⟨fun h => by rw [h]; rfl, fun h => UInt8.toNat_inj.1 (by show _ = 59; omega)⟩
  have k48 : s[2] = 48 ↔ (s[2].toNat : Int) = 48 := ⟨fun h => by rw [h]; rfl, fun h => UInt8.toNat_inj.1 (by show _ = 48; omega)⟩
  simp only [beq_iff_eq, beq_eq_false_iff_ne, bne_iff_ne, bne_eq_false_iff_eq, decide_eq_true_eq, decide_eq_false_iff_not, ne_eq, Option.some.injEq, ← k59, ← k48] at H ⊢
  by_cases a1 : i = 2
  · left; exact ⟨by omega, by rw [H, if_pos (.inl a1)]⟩
  · right; refine ⟨by omega, ?_⟩
    by_cases a2 : s[i] = 59
    · right; refine ⟨a2, ?_⟩
      by_cases a3 : s[2] = 48 ∧ 3 < i
      · left; exact ⟨a3.1, by omega, by rw [H, if_pos (.inr (.inr (.inl a3)))]⟩
      · right
        refine ⟨?_, ?_⟩
        · by_cases a4 : s[2] = 48
          · right; refine ⟨a4, fun h => a3 ⟨a4, by omega⟩⟩
          · left; exact a4
        · by_cases a5 : 55296 ≤ n ∧ n ≤ 57343
          · left; exact ⟨by omega, by omega, by rw [H, if_pos (.inr (.inr (.inr (.inl a5))))]⟩
          · right
            refine ⟨by omega, ?_⟩
            by_cases a6 : 1114111 < n
            · left; exact ⟨by omega, by rw [H, if_pos (.inr (.inr (.inr (.inr a6))))]⟩
            · right; refine ⟨by omega, by omega, ?_⟩
              rw [H, if_neg]
              rintro (h | h | h | h | h)
              · exact a1 h
              · exact h a2
              · exact a3 h
              · exact a5 h
              · exact a6 h
    · left; exact ⟨a2, by rw [H, if_pos (.inr (.inl a2))]⟩

set_option maxRecDepth 100000 in
set_option maxHeartbeats 4000000 in
theorem one_any (s : Bs) (hs : s.length ≤ 9223372036854775807) (w : World) : Calls Try.prog 38 #[str s] w (One s w) := by
  cases h1 : [38, 97, 109, 112, 59].isPrefixOf s with
  | true =>
    have HE : Hid (esc1 s = (38, 5)) := by show _ = _; unfold esc1; simp only [h1, if_true]
    have H0 := Lib.hid h1
    clear h1
    go_enter Try.func38, Try.ntmps38
    go_wp2_with fail
    refine (hasPrefix_any s [38, 97, 109, 112, 59] w).mono ?_
    rintro e w1 ⟨rfl, rfl⟩
    rw [H0.out]
    go_wp2
    go_ret2
    exact one_ret HE.out rfl
  | false =>
    cases h2 : [38, 108, 116, 59].isPrefixOf s with
    | true =>
      have HE : Hid (esc1 s = (60, 4)) := by show _ = _; unfold esc1; simp only [h1, h2, Bool.false_eq_true, if_false, if_true]
      have H0 := Lib.hid h1
      have H1 := Lib.hid h2
      clear h1 h2
      go_enter Try.func38, Try.ntmps38
      go_wp2_with fail
      refine (hasPrefix_any s [38, 97, 109, 112, 59] w).mono ?_
      rintro e w1 ⟨rfl, rfl⟩
      rw [H0.out]
      go_wp2_with fail
      refine (hasPrefix_any s [38, 108, 116, 59] w).mono ?_
      rintro e w1 ⟨rfl, rfl⟩
      rw [H1.out]
      go_wp2
      go_ret2
      exact one_ret HE.out rfl
    | false =>
      cases h3 : [38, 103, 116, 59].isPrefixOf s with
      | true =>
        have HE : Hid (esc1 s = (62, 4)) := by show _ = _; unfold esc1; simp only [h1, h2, h3, Bool.false_eq_true, if_false, if_true]
        have H0 := Lib.hid h1
        have H1 := Lib.hid h2
        have H2 := Lib.hid h3
        clear h1 h2 h3
        go_enter Try.func38, Try.ntmps38
        go_wp2_with fail
        refine (hasPrefix_any s [38, 97, 109, 112, 59] w).mono ?_
        rintro e w1 ⟨rfl, rfl⟩
        rw [H0.out]
        go_wp2_with fail
        refine (hasPrefix_any s [38, 108, 116, 59] w).mono ?_
        rintro e w1 ⟨rfl, rfl⟩
        rw [H1.out]
        go_wp2_with fail
        refine (hasPrefix_any s [38, 103, 116, 59] w).mono ?_
        rintro e w1 ⟨rfl, rfl⟩
        rw [H2.out]
        go_wp2
        go_ret2
        exact one_ret HE.out rfl
      | false =>
        cases h4 : [38, 113, 117, 111, 116, 59].isPrefixOf s with
        | true =>
          have HE : Hid (esc1 s = (34, 6)) := by show _ = _; unfold esc1; simp only [h1, h2, h3, h4, Bool.false_eq_true, if_false, if_true]
          have H0 := Lib.hid h1
          have H1 := Lib.hid h2
          have H2 := Lib.hid h3
          have H3 := Lib.hid h4
          clear h1 h2 h3 h4
          go_enter Try.func38, Try.ntmps38
          go_wp2_with fail
          refine (hasPrefix_any s [38, 97, 109, 112, 59] w).mono ?_
          rintro e w1 ⟨rfl, rfl⟩
          rw [H0.out]
          go_wp2_with fail
          refine (hasPrefix_any s [38, 108, 116, 59] w).mono ?_
          rintro e w1 ⟨rfl, rfl⟩
          rw [H1.out]
          go_wp2_with fail
          refine (hasPrefix_any s [38, 103, 116, 59] w).mono ?_
          rintro e w1 ⟨rfl, rfl⟩
          rw [H2.out]
          go_wp2_with fail
          refine (hasPrefix_any s [38, 113, 117, 111, 116, 59] w).mono ?_
          rintro e w1 ⟨rfl, rfl⟩
          rw [H3.out]
          go_wp2
          go_ret2
          exact one_ret HE.out rfl
        | false =>
          cases h5 : [38, 35].isPrefixOf s with
          | false =>
            have HE : Hid (esc1 s = (0, 0)) := by show _ = _; unfold esc1; simp only [h1, h2, h3, h4, h5, Bool.false_eq_true, if_false]
            have H0 := Lib.hid h1
            have H1 := Lib.hid h2
            have H2 := Lib.hid h3
            have H3 := Lib.hid h4
            have H4 := Lib.hid h5
            clear h1 h2 h3 h4 h5
            go_enter Try.func38, Try.ntmps38
            go_wp2_with fail
            refine (hasPrefix_any s [38, 97, 109, 112, 59] w).mono ?_
            rintro e w1 ⟨rfl, rfl⟩
            rw [H0.out]
            go_wp2_with fail
            refine (hasPrefix_any s [38, 108, 116, 59] w).mono ?_
            rintro e w1 ⟨rfl, rfl⟩
            rw [H1.out]
            go_wp2_with fail
            refine (hasPrefix_any s [38, 103, 116, 59] w).mono ?_
            rintro e w1 ⟨rfl, rfl⟩
            rw [H2.out]
            go_wp2_with fail
            refine (hasPrefix_any s [38, 113, 117, 111, 116, 59] w).mono ?_
            rintro e w1 ⟨rfl, rfl⟩
            rw [H3.out]
            go_wp2_with fail
            refine (hasPrefix_any s [38, 35] w).mono ?_
            rintro e w1 ⟨rfl, rfl⟩
            rw [H4.out]
            go_wp2
            go_ret2
            exact one_ret HE.out rfl
          | true =>
            have HE := Lib.hid (esc1_num h1 h2 h3 h4 h5)
            have hl2 : 2 ≤ s.length := prefix_len h5
            have H0 := Lib.hid h1
            have H1 := Lib.hid h2
            have H2 := Lib.hid h3
            have H3 := Lib.hid h4
            have H4 := Lib.hid h5
            clear h1 h2 h3 h4 h5
            go_enter Try.func38, Try.ntmps38
            go_wp2_with fail
            refine (hasPrefix_any s [38, 97, 109, 112, 59] w).mono ?_
            rintro e w1 ⟨rfl, rfl⟩
            rw [H0.out]
            go_wp2_with fail
            refine (hasPrefix_any s [38, 108, 116, 59] w).mono ?_
            rintro e w1 ⟨rfl, rfl⟩
            rw [H1.out]
            go_wp2_with fail
            refine (hasPrefix_any s [38, 103, 116, 59] w).mono ?_
            rintro e w1 ⟨rfl, rfl⟩
            rw [H2.out]
            go_wp2_with fail
            refine (hasPrefix_any s [38, 113, 117, 111, 116, 59] w).mono ?_
            rintro e w1 ⟨rfl, rfl⟩
            rw [H3.out]
            go_wp2_with fail
            refine (hasPrefix_any s [38, 35] w).mono ?_
            rintro e w1 ⟨rfl, rfl⟩
            rw [H4.out]
            go_wp2
            clear H0 H1 H2 H3 H4
            go_loop [4, 5] (fun n i => ∃ j : Nat, j ≤ (digs s).length ∧ i = .int .i64 ((2 + j : Nat) : Int) ∧ n = .int .i64 (val ((digs s).take j) : Nat)) (fun _ i => 9 - (intOf i).toNat)
            case atStart => exact ⟨0, by omega, rfl, rfl⟩
            case round =>
              obtain ⟨j, hj, rfl, rfl⟩ := hrel
              obtain ⟨hd7, hdl⟩ := digs_le s
              have hdl := hdl hl2
              obtain ⟨i, hi⟩ : ∃ i, 2 + j = i := ⟨_, rfl⟩
              rw [hi]
              by_cases hlt : j < (digs s).length
              · obtain ⟨q1, q2, q3, q4⟩ := digs_at s j hlt
                have hv0 := val_digs s j
                have hv1 : val ((digs s).take (j + 1)) = 10 * val ((digs s).take j) + ((digs s)[j].toNat - 48) := by rw [List.take_succ_eq_append_getElem hlt, val_snoc]
                have hv2 := val_digs s (j + 1)
                rw [q3] at hv1
                simp only [hi] at q1 q2 q4 hv1
                obtain ⟨d1, d2⟩ := dig_parts q4
                have hc48 : 48 ≤ s[i].toNat := by have := of_decide_eq_true d1; omega
                have hc57 : s[i].toNat ≤ 57 := by have := of_decide_eq_true d2; omega
                obtain ⟨n, hn⟩ : ∃ n, val ((digs s).take j) = n := ⟨_, rfl⟩
                rw [hn] at hv0 hv1 ⊢
                have b9 : decide ((i : Int) < 9) = true := by rw [decide_eq_true_iff]; omega
                have u1 : IntKind.u8.wrap ((s[i].toNat : Int) - 48) = (s[i].toNat : Int) - 48 := by simp [IntKind.wrap, IntKind.signed, IntKind.bits]; omega
                have HV := Lib.hid hv1
                clear hv1 hn q3 q4
                go_wp2
                go_round
                case rel => exact ⟨j + 1, by omega, by rw [← hi]; go_num, by rw [HV.out]; go_num⟩
                case measure => simp [intOf]; omega
              · have hje : j = (digs s).length := by omega
                subst hje
                rw [List.take_length]
                have hv0 := val_digs s (digs s).length
                rw [List.take_length] at hv0
                have hend := digs_end s
                simp only [hi] at hend
                rw [hi] at HE
                obtain ⟨n, hn⟩ : ∃ n, val (digs s) = n := ⟨_, rfl⟩
                rw [hn] at hv0 HE ⊢
                clear hn
                by_cases hil : i < s.length
                · have hg0 : s[i]? = some s[i] := List.getElem?_eq_getElem hil
                  have h2l : 2 < s.length := by omega
                  have g2 : s[2]? = some s[2] := List.getElem?_eq_getElem h2l
                  rw [hg0, g2] at HE
                  have eil : ((i : Int) == (s.length : Int)) = false := by rw [beq_eq_false_iff_ne]; omega
                  have guard9 : decide ((i : Int) < 9) = false ∨ (decide ((i : Int) < 9) = true ∧ (decide (48 ≤ (s[i].toNat : Int)) = false ∨ (decide (48 ≤ (s[i].toNat : Int)) = true ∧ decide ((s[i].toNat : Int) ≤ 57) = false))) := by
                    by_cases h9 : i < 9
                    · exact .inr ⟨by rw [decide_eq_true_iff]; omega, dig_not (hend hil h9)⟩
                    · exact .inl (by rw [decide_eq_false_iff_not]; omega)
                  have hcase : (((i : Int) == 2) = true ∧ esc1 s = (0, 0)) ∨ (((i : Int) == 2) = false ∧ ((((s[i].toNat : Int) != 59) = true ∧ esc1 s = (0, 0)) ∨ (((s[i].toNat : Int) != 59) = false ∧
                      ((((s[2].toNat : Int) == 48) = true ∧ decide ((3 : Int) < i) = true ∧ esc1 s = (0, 0)) ∨ ((((s[2].toNat : Int) == 48) = false ∨ (((s[2].toNat : Int) == 48) = true ∧ decide ((3 : Int) < i) = false)) ∧
                        ((decide ((55296 : Int) ≤ n) = true ∧ decide ((n : Int) ≤ 57343) = true ∧ esc1 s = (0, 0)) ∨ ((decide ((55296 : Int) ≤ n) = false ∨ (decide ((55296 : Int) ≤ n) = true ∧ decide ((n : Int) ≤ 57343) = false)) ∧
                          ((decide ((1114111 : Int) < n) = true ∧ esc1 s = (0, 0)) ∨ (decide ((1114111 : Int) < n) = false ∧ n ≤ 1114111 ∧ esc1 s = (n, i + 1)))))))))) := one_cases hil h2l HE.out
                  clear hend hd7 hdl hi hj hlt hg0 g2 HE hv0
                  rcases guard9 with g9 | ⟨g9, g48 | ⟨g48, g57⟩⟩
                  all_goals rcases hcase with ⟨t1, hr⟩ | ⟨t1, ⟨t2, hr⟩ | ⟨t2, ⟨t3, t4, hr⟩ | ⟨t3 | ⟨t3, t4⟩, ⟨t5, t6, hr⟩ | ⟨t5 | ⟨t5, t6⟩, ⟨t7, hr⟩ | ⟨t7, hn2, hr⟩⟩⟩⟩⟩
                  all_goals have HR := Lib.hid hr
                  all_goals clear hr
                  all_goals go_wp2
                  all_goals go_ret2
                  all_goals exact one_ret HR.out rfl
                · have eil : ((i : Int) == (s.length : Int)) = true := by rw [beq_iff_eq]; omega
                  have hnil : s[i]? = none := List.getElem?_eq_none (by omega)
                  rw [hnil] at HE
                  have HR : Hid (esc1 s = (0, 0)) := by show _ = _; rw [HE.out, if_pos (Or.inr (Or.inl (by simp)))]
                  clear hend hd7 hdl hj hlt hnil HE hv0
                  by_cases hi2 : i = 2
                  · have t1 : ((i : Int) == 2) = true := by rw [beq_iff_eq]; omega
                    clear hi hi2
                    go_wp2
                    go_ret2
                    exact one_ret HR.out rfl
                  · have t1 : ((i : Int) == 2) = false := by rw [beq_eq_false_iff_ne]; omega
                    clear hi hi2
                    go_wp2
                    go_ret2
                    exact one_ret HR.out rfl
end Go.Proofs.Yteccopnlpllliaa
