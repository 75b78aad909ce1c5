/-
  Chapter 4's law MarkupNumbers returns true. No conditions.
-/
import Derived.Test.YteccopnlpllliaaMarkLaws
import Derived.Test.YteccopnlpllliaaMarkNum
namespace Go.Proofs.Yteccopnlpllliaa
open Go.RowKit Utf Tagp
open Feat (Bs lt)
attribute [local go_sem] byte_mk ByteArray.extract_mk

theorem enc_digit (m : Nat) (h : m < 10) : Utf8.encode (48 + (m : Int)) = ⟨[UInt8.ofNat (48 + m)].toArray⟩ := by
  match m, h with
  | 0, _ => decide
  | 1, _ => decide
  | 2, _ => decide
  | 3, _ => decide
  | 4, _ => decide
  | 5, _ => decide
  | 6, _ => decide
  | 7, _ => decide
  | 8, _ => decide
  | 9, _ => decide
theorem add_digit (W : World) (k : Nat) (d : Bs) (h : d.length ≤ 100) : (Op.stringOp .add (Utf8.encode (48 + (k : Int) % 10)) ⟨d.toArray⟩).run Try.prog W = .ok (str (UInt8.ofNat (48 + k % 10) :: d)) W := by
  have e : (k : Int) % 10 = ((k % 10 : Nat) : Int) := by omega
  rw [e, enc_digit _ (Nat.mod_lt _ (by omega))]
  exact add_str W [UInt8.ofNat (48 + k % 10)] d (by simp; omega)

theorem add_enc (W : World) (N : Nat) : (Op.stringOp .add ⟨#[97]⟩ (Utf8.encode (N : Int))).run Try.prog W = .ok (str (97 :: enc N)) W := by
  have h := add_str (P := Try.prog) W [97] (enc N) (by have := enc_len N; simp; omega)
  have e : Value.string (Utf8.encode (N : Int)) = str (enc N) := enc_back N
  rw [Value.string.inj e]
  exact h
theorem val_zeros (z : Nat) (D : Bs) : val (List.replicate z 48 ++ D) = val D := by
  unfold val
  rw [List.foldl_append]
  congr 1
  induction z with
  | zero => rfl
  | succ z ih =>
    rw [List.replicate_succ, List.foldl_cons]
    exact ih
/-- The two ways, as the law asks for them. -/
theorem num_unesc (N z : Nat) (X : Bs) (hX : X = List.replicate z 48 ++ decT N) :
    ((decide (0 < z) = true ∨ (decide (0 < z) = false ∧ decide ((7 : Int) < (X.length : Int)) = true) ∨
      (decide (0 < z) = false ∧ decide ((7 : Int) < (X.length : Int)) = false ∧ decide ((55296 : Int) ≤ (N : Int)) = true ∧ (decide ((N : Int) ≤ 57343) = true)) ∨
      (decide (0 < z) = false ∧ decide ((7 : Int) < (X.length : Int)) = false ∧ (decide ((55296 : Int) ≤ (N : Int)) = true ∧ decide ((N : Int) ≤ 57343) = false) ∧ decide ((1114111 : Int) < (N : Int)) = true)) ∧
      unesc (97 :: 38 :: 35 :: (X ++ [59, 98])) = ([], 1, 3)) ∨
    (decide (0 < z) = false ∧ decide ((7 : Int) < (X.length : Int)) = false ∧ (decide ((55296 : Int) ≤ (N : Int)) = false ∨ (decide ((55296 : Int) ≤ (N : Int)) = true ∧ decide ((N : Int) ≤ 57343) = false)) ∧ decide ((1114111 : Int) < (N : Int)) = false ∧
      unesc (97 :: 38 :: 35 :: (X ++ [59, 98])) = (97 :: (enc N ++ [98]), 0, 0)) := by
  have hD := decT_pos N
  have hlen : X.length = z + (decT N).length := by rw [hX]; simp
  have hall : ∀ c ∈ X, dig c = true := by
    intro c hc
    rw [hX] at hc
    rcases List.mem_append.1 hc with h | h
    · rw [List.eq_of_mem_replicate h]; decide
    · exact decT_all N c h
  have hu := unesc_num X hall (by omega)
  have hv : val X = N := by rw [hX, val_zeros, decT_val]
  rw [hv] at hu
  have h48 : (X[0]? = some 48 ∧ 1 < X.length) ↔ 0 < z := by
    constructor
    · rintro ⟨h1, h2⟩
      rcases Nat.eq_zero_or_pos z with e | e
      · subst e
        rw [hX] at h1
        have := hD.2 h1
        rw [hlen, this] at h2
        simp [decT] at h2
      · exact e
    · intro h
      refine ⟨?_, by omega⟩
      rw [hX]
      obtain ⟨y, rfl⟩ : ∃ y, z = y + 1 := ⟨z - 1, by omega⟩
      rfl
  simp only [decide_eq_true_eq, decide_eq_false_iff_not]
  by_cases hC : 7 < X.length ∨ (X[0]? = some 48 ∧ 1 < X.length) ∨ (55296 ≤ N ∧ N ≤ 57343) ∨ 1114111 < N
  · rw [if_pos hC] at hu
    refine .inl ⟨?_, hu⟩
    rw [h48] at hC
    omega
  · rw [if_neg hC] at hu
    rw [h48] at hC
    refine .inr ⟨by omega, by omega, by omega, by omega, hu⟩

set_option maxRecDepth 100000 in
set_option maxHeartbeats 1600000 in
theorem numbers_in (N z : Nat) (hN : N ≤ 99999999) (hz : z ≤ 8) (w : World) : Calls Try.prog 7 #[.int .i64 (N : Nat), .int .i64 (z : Nat)] w (Trues w) := by
  have d1 : decide ((N : Int) < 0) = false := by rw [decide_eq_false_iff_not]; omega
  have d2 : decide ((99999999 : Int) < (N : Int)) = false := by rw [decide_eq_false_iff_not]; omega
  have d3 : decide ((z : Int) < 0) = false := by rw [decide_eq_false_iff_not]; omega
  have d4 : decide ((8 : Int) < (z : Int)) = false := by rw [decide_eq_false_iff_not]; omega
  go_enter Try.func7, Try.ntmps7
  go_wp2
  clear d1 d2 d3 d4
  go_loop [5, 6] (fun v iv => ∃ (k : Nat) (d : Bs), k ≤ N ∧ v = str d ∧ iv = .int .i64 k ∧ d.length ≤ 8 ∧ Hid (dgs N = dgs k ++ d)) (fun _ iv => (intOf iv).toNat)
  case atStart => exact ⟨N, [], Nat.le_refl _, rfl, rfl, by simp, by show _ = _; simp⟩
  case round =>
    obtain ⟨k, d, hk, rfl, rfl, hd, hdg⟩ := hrel
    by_cases h0 : 0 < k
    · have b : decide ((0 : Int) < (k : Int)) = true := by rw [decide_eq_true_iff]; omega
      have r1 := add_digit w k d (by omega)
      have hst := dgs_step k h0
      have hlen := dgs_len N 8 (by omega)
      have hl2 : (UInt8.ofNat (48 + k % 10) :: d).length ≤ 8 := by
        rw [hdg.out, hst] at hlen
        simp at hlen ⊢
        omega
      have HD : Hid (dgs N = dgs (k / 10) ++ (UInt8.ofNat (48 + k % 10) :: d)) := by show _ = _; rw [hdg.out, hst]; simp
      obtain ⟨d', hd'⟩ : ∃ d', UInt8.ofNat (48 + k % 10) :: d = d' := ⟨_, rfl⟩
      rw [hd'] at r1 hl2 HD
      clear hd' hst hlen
      go_wp2
      go_round
      case rel => exact ⟨k / 10, d', by omega, rfl, by rw [Int.natCast_ediv]; rfl, hl2, HD.out⟩
      case measure => simp [intOf]; omega
    · obtain rfl : k = 0 := by omega
      have HN := Lib.hid hN
      clear hN
      have hdn : Hid (dgs N = d) := by show _ = _; rw [hdg.out, dgs_zero]; rfl
      clear hdg
      by_cases hN0 : N = 0
      · have DEQ : Hid (decT N = [48]) := by show _ = _; unfold decT; rw [if_pos hN0]
        have b2 : ((N : Int) == 0) = true := by rw [hN0]; rfl
        clear hN0 hdn
        go_wp2
        go_loop [5, 7] (fun v iv => ∃ (i : Nat) (X : Bs), i ≤ z ∧ v = str X ∧ iv = .int .i64 i ∧ X.length ≤ i + 8 ∧ Hid (X = List.replicate i 48 ++ decT N)) (fun _ iv => z - (intOf iv).toNat)
        case atStart => exact ⟨0, [48], Nat.zero_le _, rfl, rfl, (by simp), by show _ = _; rw [DEQ.out]; rfl⟩
        case round =>
          obtain ⟨i, X, hi, rfl, rfl, hX, hXe⟩ := hrel
          by_cases hlt : i < z
          · have r1 : (Op.stringOp .add ⟨#[48]⟩ ⟨X.toArray⟩).run Try.prog w = .ok (str (48 :: X)) w := add_str w [48] X (by simp; omega)
            obtain ⟨Y, hY⟩ : ∃ Y, 48 :: X = Y := ⟨_, rfl⟩
            have hYl : Y.length ≤ i + 1 + 8 := by rw [← hY]; simp; omega
            have HY : Hid (Y = List.replicate (i + 1) 48 ++ decT N) := by show _ = _; rw [← hY, hXe.out]; rfl
            rw [hY] at r1
            clear hY
            go_wp2
            go_round
            case rel => exact ⟨i + 1, Y, by omega, rfl, by go_num, hYl, HY.out⟩
            case measure => simp [intOf]; omega
          · obtain rfl : i = z := by omega
            have hB0 : Below w.heap.size w w := Below.refl _ _
            have hU := num_unesc N i X hXe.out
            have r1 : (Op.stringOp .add ⟨#[97, 38, 35]⟩ ⟨X.toArray⟩).run Try.prog w = .ok (str ([97, 38, 35] ++ X)) w := add_str w [97, 38, 35] X (by simp; omega)
            obtain ⟨a1, ha1⟩ : ∃ a, [97, 38, 35] ++ X = a := ⟨_, rfl⟩
            have hal : a1.length = X.length + 3 := by rw [← ha1]; simp
            have r2 : (Op.stringOp .add ⟨a1.toArray⟩ ⟨#[59, 98]⟩).run Try.prog w = .ok (str (a1 ++ [59, 98])) w := add_str w a1 [59, 98] (by simp; omega)
            obtain ⟨a2, ha2⟩ : ∃ a, a1 ++ [59, 98] = a := ⟨_, rfl⟩
            have hal2 : a2.length = a1.length + 2 := by rw [← ha2]; simp
            rw [ha1] at r1
            rw [ha2] at r2
            rw [show 97 :: 38 :: 35 :: (X ++ [59, 98]) = a2 by rw [← ha2, ← ha1]; simp] at hU
            have hex := unescape_any a2 (by omega) w
            unfold Une at hex
            clear ha1 ha2 hXe
            rcases hU with ⟨hc, hu⟩ | ⟨c1, c2, c3, c4, hu⟩
            · rw [hu] at hex
              simp only at hex
              clear hu
              rcases hc with q1 | ⟨q1, q2⟩ | ⟨q1, q2, q3, q4⟩ | ⟨q1, q2, ⟨q3, q5⟩, q4⟩
              all_goals
                go_wp2_with fail
                refine hex.mono ?_
                rintro e w1 ⟨hb1, rfl⟩
                go_wp2_with fail
                refine (awake_any _).mono ?_
                rintro e w2 ⟨rfl, hb2⟩
                go_wp2
                go_ret
                exact ⟨rfl, hb1.trans (Below.mono hb2 hb1.size)⟩
            · rw [hu] at hex
              clear hu
              have hel := enc_len N
              have hNb : N ≤ 1114111 := by have := of_decide_eq_false c4; omega
              have r5 : ∀ W, (Op.stringOp .add ⟨#[97]⟩ (Utf8.encode (N : Int))).run Try.prog W = .ok (str (97 :: enc N)) W := fun W => add_enc W N
              have r6 : ∀ W, (Op.stringOp .add ⟨(97 :: enc N).toArray⟩ ⟨#[98]⟩).run Try.prog W = .ok (str (97 :: enc N ++ [98])) W := fun W => add_str W (97 :: enc N) [98] (by simp; omega)
              obtain ⟨x1, hx1⟩ : ∃ x, 97 :: enc N = x := ⟨_, rfl⟩
              rw [show (97 :: (enc N ++ [98])) = 97 :: enc N ++ [98] by simp] at hex
              rw [hx1] at hex
              simp only [hx1] at r5 r6
              clear hx1 hel
              rcases c3 with c3 | ⟨c3, c5⟩
              all_goals
                go_wp2_with fail
                refine hex.mono ?_
                rintro e w1 ⟨hb1, rfl⟩
                go_wp2_with fail
                refine (awake_any _).mono ?_
                rintro e w2 ⟨rfl, hb2⟩
                go_wp2
                go_ret
                exact ⟨rfl, hb1.trans (Below.mono hb2 hb1.size)⟩
      · have b2 : ((N : Int) == 0) = false := by rw [beq_eq_false_iff_ne]; omega
        have DEQ : Hid (decT N = d) := by show _ = _; unfold decT; rw [if_neg hN0, hdn.out]
        clear hN0 hdn
        go_wp2
        go_loop [5, 7] (fun v iv => ∃ (i : Nat) (X : Bs), i ≤ z ∧ v = str X ∧ iv = .int .i64 i ∧ X.length ≤ i + 8 ∧ Hid (X = List.replicate i 48 ++ decT N)) (fun _ iv => z - (intOf iv).toNat)
        case atStart => exact ⟨0, d, Nat.zero_le _, rfl, rfl, (by omega), by show _ = _; rw [DEQ.out]; rfl⟩
        case round =>
          obtain ⟨i, X, hi, rfl, rfl, hX, hXe⟩ := hrel
          by_cases hlt : i < z
          · have r1 : (Op.stringOp .add ⟨#[48]⟩ ⟨X.toArray⟩).run Try.prog w = .ok (str (48 :: X)) w := add_str w [48] X (by simp; omega)
            obtain ⟨Y, hY⟩ : ∃ Y, 48 :: X = Y := ⟨_, rfl⟩
            have hYl : Y.length ≤ i + 1 + 8 := by rw [← hY]; simp; omega
            have HY : Hid (Y = List.replicate (i + 1) 48 ++ decT N) := by show _ = _; rw [← hY, hXe.out]; rfl
            rw [hY] at r1
            clear hY
            go_wp2
            go_round
            case rel => exact ⟨i + 1, Y, by omega, rfl, by go_num, hYl, HY.out⟩
            case measure => simp [intOf]; omega
          · obtain rfl : i = z := by omega
            have hB0 : Below w.heap.size w w := Below.refl _ _
            have hU := num_unesc N i X hXe.out
            have r1 : (Op.stringOp .add ⟨#[97, 38, 35]⟩ ⟨X.toArray⟩).run Try.prog w = .ok (str ([97, 38, 35] ++ X)) w := add_str w [97, 38, 35] X (by simp; omega)
            obtain ⟨a1, ha1⟩ : ∃ a, [97, 38, 35] ++ X = a := ⟨_, rfl⟩
            have hal : a1.length = X.length + 3 := by rw [← ha1]; simp
            have r2 : (Op.stringOp .add ⟨a1.toArray⟩ ⟨#[59, 98]⟩).run Try.prog w = .ok (str (a1 ++ [59, 98])) w := add_str w a1 [59, 98] (by simp; omega)
            obtain ⟨a2, ha2⟩ : ∃ a, a1 ++ [59, 98] = a := ⟨_, rfl⟩
            have hal2 : a2.length = a1.length + 2 := by rw [← ha2]; simp
            rw [ha1] at r1
            rw [ha2] at r2
            rw [show 97 :: 38 :: 35 :: (X ++ [59, 98]) = a2 by rw [← ha2, ← ha1]; simp] at hU
            have hex := unescape_any a2 (by omega) w
            unfold Une at hex
            clear ha1 ha2 hXe
            rcases hU with ⟨hc, hu⟩ | ⟨c1, c2, c3, c4, hu⟩
            · rw [hu] at hex
              simp only at hex
              clear hu
              rcases hc with q1 | ⟨q1, q2⟩ | ⟨q1, q2, q3, q4⟩ | ⟨q1, q2, ⟨q3, q5⟩, q4⟩
              all_goals
                go_wp2_with fail
                refine hex.mono ?_
                rintro e w1 ⟨hb1, rfl⟩
                go_wp2_with fail
                refine (awake_any _).mono ?_
                rintro e w2 ⟨rfl, hb2⟩
                go_wp2
                go_ret
                exact ⟨rfl, hb1.trans (Below.mono hb2 hb1.size)⟩
            · rw [hu] at hex
              clear hu
              have hel := enc_len N
              have hNb : N ≤ 1114111 := by have := of_decide_eq_false c4; omega
              have r5 : ∀ W, (Op.stringOp .add ⟨#[97]⟩ (Utf8.encode (N : Int))).run Try.prog W = .ok (str (97 :: enc N)) W := fun W => add_enc W N
              have r6 : ∀ W, (Op.stringOp .add ⟨(97 :: enc N).toArray⟩ ⟨#[98]⟩).run Try.prog W = .ok (str (97 :: enc N ++ [98])) W := fun W => add_str W (97 :: enc N) [98] (by simp; omega)
              obtain ⟨x1, hx1⟩ : ∃ x, 97 :: enc N = x := ⟨_, rfl⟩
              rw [show (97 :: (enc N ++ [98])) = 97 :: enc N ++ [98] by simp] at hex
              rw [hx1] at hex
              simp only [hx1] at r5 r6
              clear hx1 hel
              rcases c3 with c3 | ⟨c3, c5⟩
              all_goals
                go_wp2_with fail
                refine hex.mono ?_
                rintro e w1 ⟨hb1, rfl⟩
                go_wp2_with fail
                refine (awake_any _).mono ?_
                rintro e w2 ⟨rfl, hb2⟩
                go_wp2
                go_ret
                exact ⟨rfl, hb1.trans (Below.mono hb2 hb1.size)⟩
set_option maxHeartbeats 800000 in
theorem law_numbers (n z : Int) (w : World) : Calls Try.prog 7 #[.int .i64 n, .int .i64 z] w (Trues w) := by
  by_cases h1 : n < 0
  · go_enter Try.func7, Try.ntmps7
    go_wp2
    go_ret
    exact ⟨rfl, Below.refl _ _⟩
  · by_cases h2 : 99999999 < n
    · go_enter Try.func7, Try.ntmps7
      go_wp2
      go_ret
      exact ⟨rfl, Below.refl _ _⟩
    · by_cases h3 : z < 0
      · go_enter Try.func7, Try.ntmps7
        go_wp2
        go_ret
        exact ⟨rfl, Below.refl _ _⟩
      · by_cases h4 : 8 < z
        · go_enter Try.func7, Try.ntmps7
          go_wp2
          go_ret
          exact ⟨rfl, Below.refl _ _⟩
        · obtain ⟨N, rfl⟩ : ∃ N : Nat, n = N := ⟨n.toNat, by omega⟩
          obtain ⟨Z, rfl⟩ : ∃ Z : Nat, z = Z := ⟨z.toNat, by omega⟩
          exact numbers_in N Z (by omega) (by omega) w
end Go.Proofs.Yteccopnlpllliaa
