/-
  The contracts of strings.HasPrefix, markup.Escape and the reference's Escape. Conditions: the lengths are ints; an escaped text has at most 2 to the 45th bytes.
-/
import Derived.Test.YteccopnlpllliaaMarkName
namespace Go.Proofs.Yteccopnlpllliaa
open Go.RowKit Utf Tagp
open Feat (Bs)
attribute [local go_sem] byte_mk ByteArray.extract_mk

theorem pre_no {p s : Bs} (h : s.length < p.length) : p.isPrefixOf s = false := by
  cases hp : p.isPrefixOf s with
  | false => rfl
  | true => have := prefix_len hp; omega
theorem pre_take {p s : Bs} : p.isPrefixOf s = (s.take p.length == p) := by
  rw [Bool.eq_iff_iff, List.isPrefixOf_iff_prefix, beq_iff_eq, List.prefix_iff_eq_take]
  exact ⟨fun h => h.symm, fun h => h.symm⟩

set_option maxHeartbeats 400000 in
theorem hasPrefix_any (s p : Bs) (w : World) : Calls Try.prog 51 #[str s, str p] w (SameW (.bool (p.isPrefixOf s)) w) := by
  by_cases h : s.length < p.length
  · have HE := Lib.hid (pre_no h)
    have d1 : decide ((p.length : Int) ≤ s.length) = false := by rw [decide_eq_false_iff_not]; omega
    go_enter Try.func51, Try.ntmps51
    go_wp2
    go_ret
    exact ⟨ret_bool HE.out.symm, rfl⟩
  · have HE := Lib.hid (pre_take (p := p) (s := s))
    have d1 : decide ((p.length : Int) ≤ s.length) = true := by rw [decide_eq_true_iff]; omega
    have hle : p.length ≤ s.length := by omega
    go_enter Try.func51, Try.ntmps51
    go_wp2
    go_ret
    exact ⟨ret_bool (by rw [HE.out]), rfl⟩

theorem escB_len (c : UInt8) : (escB c).length ≤ 6 := by unfold escB; split <;> (try split) <;> (try split) <;> (try split) <;> simp
theorem esc_len (s : Bs) : (esc s).length ≤ 6 * s.length := by
  induction s with
  | nil => simp [esc]
  | cons c r ih => have := escB_len c; simp only [esc, List.flatMap_cons, List.length_append, List.length_cons] at ih ⊢; omega
theorem esc_step {s : Bs} {k : Nat} (hk : k < s.length) : esc (s.take (k + 1)) = esc (s.take k) ++ escB s[k] := by
  unfold esc
  rw [List.take_succ_eq_append_getElem hk, List.flatMap_append]; simp

set_option maxHeartbeats 2000000 in
theorem escape_any (s : Bs) (hs : s.length ≤ 17592186044416) (w : World) : Calls Try.prog 19 #[str s] w (fun e w' => e = .returned (str (esc s)) ∧ Below w.heap.size w w') := by
  obtain ⟨i0, hi0, hz0, hz1, hz2⟩ := info_parts info_u8
  go_enter Try.func19, Try.ntmps19
  go_wp2
  go_loopw [3, 7] (fun v iv wr => ∃ k : Nat, k ≤ s.length ∧ iv = .int .i64 k ∧ wr.ownsRow w.heap.size 5 1 v (esc (s.take k)).length (bys (esc (s.take k))) ∧ Below w.heap.size w wr) (fun _ iv _ => s.length - (intOf iv).toNat)
  case atStart => exact ⟨0, by omega, rfl, World.ownsRow_nil _ _ _ _, Below.refl _ _⟩
  case round =>
    obtain ⟨k, hk, rfl, hown, hB⟩ := hrel
    by_cases hlt : k < s.length
    · have hst := Lib.hid (esc_step hlt)
      have hle := esc_len (s.take k)
      rw [List.length_take] at hle
      have hlt2 := hown.lt
      by_cases h38 : s[k] = 38
      · have HE : Hid (escB s[k] = [38, 97, 109, 112, 59]) := by show _ = _; rw [h38]; rfl
        have b1 : ((s[k].toNat : Int) == 38) = true := by rw [h38]; rfl
        clear h38
        go_wp2_with (at_builtin; refine wpList_app_str rfl (.tmp 21) (.const (.string ⟨#[38, 97, 109, 112, 59]⟩)) rfl w.heap.size _ _ _ rfl hown [38, 97, 109, 112, 59] rfl (by simp; omega) hB.size ?_)
        intro v2 w2 own2 gr2
        have hB2 : Below w.heap.size w w2 := hB.grown gr2 hB.size (fun k hk => (hlt2 k hk).1)
        clear hown gr2 hB
        go_wp2
        go_roundw
        case rel => exact ⟨k + 1, by omega, by go_num, by rw [hst.out, HE.out]; exact own_move own2 rfl (by simp), hB2⟩
        case measure => simp [intOf]; omega
      · skip
        by_cases h60 : s[k] = 60
        · have HE : Hid (escB s[k] = [38, 108, 116, 59]) := by show _ = _; rw [h60]; rfl
          have b1 : ((s[k].toNat : Int) == 60) = true := by rw [h60]; rfl
          have nb38 : ((s[k].toNat : Int) == 38) = false := by rw [beq_eq_false_iff_ne]; intro h; exact h38 (UInt8.toNat_inj.1 (by show _ = 38; omega))
          clear h60
          go_wp2_with (at_builtin; refine wpList_app_str rfl (.tmp 25) (.const (.string ⟨#[38, 108, 116, 59]⟩)) rfl w.heap.size _ _ _ rfl hown [38, 108, 116, 59] rfl (by simp; omega) hB.size ?_)
          intro v2 w2 own2 gr2
          have hB2 : Below w.heap.size w w2 := hB.grown gr2 hB.size (fun k hk => (hlt2 k hk).1)
          clear hown gr2 hB
          go_wp2
          go_roundw
          case rel => exact ⟨k + 1, by omega, by go_num, by rw [hst.out, HE.out]; exact own_move own2 rfl (by simp), hB2⟩
          case measure => simp [intOf]; omega
        · skip
          by_cases h62 : s[k] = 62
          · have HE : Hid (escB s[k] = [38, 103, 116, 59]) := by show _ = _; rw [h62]; rfl
            have b1 : ((s[k].toNat : Int) == 62) = true := by rw [h62]; rfl
            have nb38 : ((s[k].toNat : Int) == 38) = false := by rw [beq_eq_false_iff_ne]; intro h; exact h38 (UInt8.toNat_inj.1 (by show _ = 38; omega))
            have nb60 : ((s[k].toNat : Int) == 60) = false := by rw [beq_eq_false_iff_ne]; intro h; exact h60 (UInt8.toNat_inj.1 (by show _ = 60; omega))
            clear h62
            go_wp2_with (at_builtin; refine wpList_app_str rfl (.tmp 29) (.const (.string ⟨#[38, 103, 116, 59]⟩)) rfl w.heap.size _ _ _ rfl hown [38, 103, 116, 59] rfl (by simp; omega) hB.size ?_)
            intro v2 w2 own2 gr2
            have hB2 : Below w.heap.size w w2 := hB.grown gr2 hB.size (fun k hk => (hlt2 k hk).1)
            clear hown gr2 hB
            go_wp2
            go_roundw
            case rel => exact ⟨k + 1, by omega, by go_num, by rw [hst.out, HE.out]; exact own_move own2 rfl (by simp), hB2⟩
            case measure => simp [intOf]; omega
          · skip
            by_cases h34 : s[k] = 34
            · have HE : Hid (escB s[k] = [38, 113, 117, 111, 116, 59]) := by show _ = _; rw [h34]; rfl
              have b1 : ((s[k].toNat : Int) == 34) = true := by rw [h34]; rfl
              have nb38 : ((s[k].toNat : Int) == 38) = false := by rw [beq_eq_false_iff_ne]; intro h; exact h38 (UInt8.toNat_inj.1 (by show _ = 38; omega))
              have nb60 : ((s[k].toNat : Int) == 60) = false := by rw [beq_eq_false_iff_ne]; intro h; exact h60 (UInt8.toNat_inj.1 (by show _ = 60; omega))
              have nb62 : ((s[k].toNat : Int) == 62) = false := by rw [beq_eq_false_iff_ne]; intro h; exact h62 (UInt8.toNat_inj.1 (by show _ = 62; omega))
              clear h34
              go_wp2_with (at_builtin; refine wpList_app_str rfl (.tmp 33) (.const (.string ⟨#[38, 113, 117, 111, 116, 59]⟩)) rfl w.heap.size _ _ _ rfl hown [38, 113, 117, 111, 116, 59] rfl (by simp; omega) hB.size ?_)
              intro v2 w2 own2 gr2
              have hB2 : Below w.heap.size w w2 := hB.grown gr2 hB.size (fun k hk => (hlt2 k hk).1)
              clear hown gr2 hB
              go_wp2
              go_roundw
              case rel => exact ⟨k + 1, by omega, by go_num, by rw [hst.out, HE.out]; exact own_move own2 rfl (by simp), hB2⟩
              case measure => simp [intOf]; omega
            · have HE : Hid (escB s[k] = [s[k]]) := by show _ = _; unfold escB; rw [if_neg h38, if_neg h60, if_neg h62, if_neg h34]
              have nb38 : ((s[k].toNat : Int) == 38) = false := by rw [beq_eq_false_iff_ne]; intro h; exact h38 (UInt8.toNat_inj.1 (by show _ = 38; omega))
              have nb60 : ((s[k].toNat : Int) == 60) = false := by rw [beq_eq_false_iff_ne]; intro h; exact h60 (UInt8.toNat_inj.1 (by show _ = 60; omega))
              have nb62 : ((s[k].toNat : Int) == 62) = false := by rw [beq_eq_false_iff_ne]; intro h; exact h62 (UInt8.toNat_inj.1 (by show _ = 62; omega))
              have nb34 : ((s[k].toNat : Int) == 34) = false := by rw [beq_eq_false_iff_ne]; intro h; exact h34 (UInt8.toNat_inj.1 (by show _ = 34; omega))
              have hoa := hown.alloc (.cells #[.int .u8 (s[k].toNat : Nat)] 5)
              have hba := hB.alloc hB.size (.cells #[.int .u8 (s[k].toNat : Nat)] 5)
              clear h38 h60 h62 h34
              go_wp2_with (at_builtin; refine wpList_append_own_at _ rfl (.tmp 13) (.tmp 17) _ rfl w.heap.size 5 i0 _ 1 1 Try.underlying53 hi0 hz0 hz1 hz2 rfl (by decide) _ _ _ rfl hoa ⟨wr.heap.size, 0, none⟩ 1 1 [.int .u8 (s[k].toNat : Nat)] rfl rfl ?c1 ?c2 ?c3 ?c4 ?c5 ?_)
              try (case c1 => exact news_new _ _ [_])
              try (case c2 => first | rfl | (intro u hu; simp at hu; subst hu; rfl))
              try (case c3 => simp [maxLen]; omega)
              try (case c4 => omega)
              try (case c5 => exact hba.size)
              intro v2 w2 own2 gr2 _ _
              have hB2 : Below w.heap.size w w2 := hba.grown gr2 hba.size (fun k hk => (hlt2 k hk).1)
              clear hown gr2 hB hoa hba
              go_wp2
              go_roundw
              case rel => exact ⟨k + 1, by omega, by go_num, by rw [hst.out, HE.out]; exact own_move own2 (by simp [bys]) (by simp), hB2⟩
              case measure => simp [intOf]; omega
    · have hk2 : s.take k = s := List.take_of_length_le (by omega)
      rw [hk2] at hown
      have hbk := back_run rfl hown
      clear hk2
      go_wp2
      go_ret
      exact ⟨rfl, hB⟩

set_option maxHeartbeats 2000000 in
theorem refEscape_any (s : Bs) (hs : s.length ≤ 17592186044416) (w : World) : Calls Try.prog 20 #[str s] w (SameW (str (esc s)) w) := by
  go_enter Try.func20, Try.ntmps20
  go_wp2
  go_loop [3, 4] (fun v iv => ∃ k : Nat, k ≤ s.length ∧ iv = .int .i64 k ∧ v = str (esc (s.take k))) (fun _ iv => s.length - (intOf iv).toNat)
  case atStart => exact ⟨0, by omega, rfl, rfl⟩
  case round =>
    obtain ⟨k, hk, rfl, rfl⟩ := hrel
    by_cases hlt : k < s.length
    · have hst := Lib.hid (esc_step hlt)
      have hle := esc_len (s.take k)
      rw [List.length_take] at hle
      by_cases h38 : s[k] = 38
      · have HE : Hid (escB s[k] = [38, 97, 109, 112, 59]) := by show _ = _; rw [h38]; rfl
        have b1 : ((s[k].toNat : Int) == 38) = true := by rw [h38]; rfl
        have r1 : (Op.stringOp .add ⟨(esc (s.take k)).toArray⟩ ⟨#[38, 97, 109, 112, 59]⟩).run Try.prog w = .ok (str (esc (s.take k) ++ [38, 97, 109, 112, 59])) w := add_str w _ [38, 97, 109, 112, 59] (by simp; omega)
        clear h38
        go_wp2
        go_round
        case rel => exact ⟨k + 1, by omega, by go_num, by rw [hst.out, HE.out]⟩
        case measure => simp [intOf]; omega
      · skip
        by_cases h60 : s[k] = 60
        · have HE : Hid (escB s[k] = [38, 108, 116, 59]) := by show _ = _; rw [h60]; rfl
          have b1 : ((s[k].toNat : Int) == 60) = true := by rw [h60]; rfl
          have nb38 : ((s[k].toNat : Int) == 38) = false := by rw [beq_eq_false_iff_ne]; intro h; exact h38 (UInt8.toNat_inj.1 (by show _ = 38; omega))
          have r1 : (Op.stringOp .add ⟨(esc (s.take k)).toArray⟩ ⟨#[38, 108, 116, 59]⟩).run Try.prog w = .ok (str (esc (s.take k) ++ [38, 108, 116, 59])) w := add_str w _ [38, 108, 116, 59] (by simp; omega)
          clear h60
          go_wp2
          go_round
          case rel => exact ⟨k + 1, by omega, by go_num, by rw [hst.out, HE.out]⟩
          case measure => simp [intOf]; omega
        · skip
          by_cases h62 : s[k] = 62
          · have HE : Hid (escB s[k] = [38, 103, 116, 59]) := by show _ = _; rw [h62]; rfl
            have b1 : ((s[k].toNat : Int) == 62) = true := by rw [h62]; rfl
            have nb38 : ((s[k].toNat : Int) == 38) = false := by rw [beq_eq_false_iff_ne]; intro h; exact h38 (UInt8.toNat_inj.1 (by show _ = 38; omega))
            have nb60 : ((s[k].toNat : Int) == 60) = false := by rw [beq_eq_false_iff_ne]; intro h; exact h60 (UInt8.toNat_inj.1 (by show _ = 60; omega))
            have r1 : (Op.stringOp .add ⟨(esc (s.take k)).toArray⟩ ⟨#[38, 103, 116, 59]⟩).run Try.prog w = .ok (str (esc (s.take k) ++ [38, 103, 116, 59])) w := add_str w _ [38, 103, 116, 59] (by simp; omega)
            clear h62
            go_wp2
            go_round
            case rel => exact ⟨k + 1, by omega, by go_num, by rw [hst.out, HE.out]⟩
            case measure => simp [intOf]; omega
          · skip
            by_cases h34 : s[k] = 34
            · have HE : Hid (escB s[k] = [38, 113, 117, 111, 116, 59]) := by show _ = _; rw [h34]; rfl
              have b1 : ((s[k].toNat : Int) == 34) = true := by rw [h34]; rfl
              have nb38 : ((s[k].toNat : Int) == 38) = false := by rw [beq_eq_false_iff_ne]; intro h; exact h38 (UInt8.toNat_inj.1 (by show _ = 38; omega))
              have nb60 : ((s[k].toNat : Int) == 60) = false := by rw [beq_eq_false_iff_ne]; intro h; exact h60 (UInt8.toNat_inj.1 (by show _ = 60; omega))
              have nb62 : ((s[k].toNat : Int) == 62) = false := by rw [beq_eq_false_iff_ne]; intro h; exact h62 (UInt8.toNat_inj.1 (by show _ = 62; omega))
              have r1 : (Op.stringOp .add ⟨(esc (s.take k)).toArray⟩ ⟨#[38, 113, 117, 111, 116, 59]⟩).run Try.prog w = .ok (str (esc (s.take k) ++ [38, 113, 117, 111, 116, 59])) w := add_str w _ [38, 113, 117, 111, 116, 59] (by simp; omega)
              clear h34
              go_wp2
              go_round
              case rel => exact ⟨k + 1, by omega, by go_num, by rw [hst.out, HE.out]⟩
              case measure => simp [intOf]; omega
            · have HE : Hid (escB s[k] = [s[k]]) := by show _ = _; unfold escB; rw [if_neg h38, if_neg h60, if_neg h62, if_neg h34]
              have nb38 : ((s[k].toNat : Int) == 38) = false := by rw [beq_eq_false_iff_ne]; intro h; exact h38 (UInt8.toNat_inj.1 (by show _ = 38; omega))
              have nb60 : ((s[k].toNat : Int) == 60) = false := by rw [beq_eq_false_iff_ne]; intro h; exact h60 (UInt8.toNat_inj.1 (by show _ = 60; omega))
              have nb62 : ((s[k].toNat : Int) == 62) = false := by rw [beq_eq_false_iff_ne]; intro h; exact h62 (UInt8.toNat_inj.1 (by show _ = 62; omega))
              have nb34 : ((s[k].toNat : Int) == 34) = false := by rw [beq_eq_false_iff_ne]; intro h; exact h34 (UInt8.toNat_inj.1 (by show _ = 34; omega))
              have hcut : (s.drop k).take 1 = [s[k]] := by rw [List.drop_eq_getElem_cons hlt]; rfl
              have r1 : (Op.stringOp .add ⟨(esc (s.take k)).toArray⟩ ⟨#[s[k]]⟩).run Try.prog w = .ok (str (esc (s.take k) ++ [s[k]])) w := add_str w _ [s[k]] (by simp; omega)
              clear h38 h60 h62 h34
              go_wp2
              go_round
              case rel => exact ⟨k + 1, by omega, by go_num, by rw [hst.out, HE.out]⟩
              case measure => simp [intOf]; omega
    · have hk2 : s.take k = s := List.take_of_length_le (by omega)
      go_wp2
      go_ret
      exact ⟨rfl, rfl⟩
end Go.Proofs.Yteccopnlpllliaa
