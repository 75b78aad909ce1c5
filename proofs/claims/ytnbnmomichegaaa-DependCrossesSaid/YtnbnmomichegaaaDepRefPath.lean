/-
  The contract of the reference's Path: the same connection, or the same error. Condition: the list's length is an int.
-/
import Derived.Test.YtnbnmomichegaaaDepPathW
namespace Go.Proofs.Ytnbnmomichegaaa
open Go.RowKit Dep

set_option maxRecDepth 100000 in
set_option maxHeartbeats 4000000 in
theorem refPath_any (A : Option Addr) (n c : Nat) (h : Hs) (a b : Int) (w : World) (hn : n ≤ 9223372036854775807) (hsl : Sl w w.heap.size 1 A n (ints h)) :
    Calls Try.prog 17 #[.slice A n c, .int .i64 a, .int .i64 b] w (Listed (path h a b).1 (path h a b).2 w) := by
  have hl := hsl.ilen
  obtain ⟨i0, hi0, hz0, hz1, hz2⟩ := info_parts info_int
  have hcases : (path h a b = ([], 1) ∧ ((chk h).2 ≠ 0 ∨ a < 0 ∨ (n : Int) ≤ a ∨ b < 0 ∨ (n : Int) ≤ b)) ∨ ((chk h).2 = 0 ∧ 0 ≤ a ∧ a < n ∧ 0 ≤ b ∧ b < n ∧ path h a b = pathL (way h a) (way h b)) := by
    by_cases hc : (chk h).2 = 0 ∧ (0 ≤ a ∧ a < h.length) ∧ 0 ≤ b ∧ b < h.length
    · exact .inr ⟨hc.1, hc.2.1.1, by omega, hc.2.2.1, by omega, by unfold path; rw [if_pos hc]⟩
    · refine .inl ⟨by unfold path; rw [if_neg hc], ?_⟩
      by_cases h0 : (chk h).2 = 0
      · right
        by_cases h1 : a < 0
        · exact .inl h1
        · right
          by_cases h2 : (n : Int) ≤ a
          · exact .inl h2
          · right
            by_cases h3 : b < 0
            · exact .inl h3
            · right
              by_cases h4 : (n : Int) ≤ b
              · exact h4
              · exact absurd ⟨h0, ⟨by omega, by omega⟩, by omega, by omega⟩ hc
      · exact .inl h0
  rcases hcases with ⟨hp, hbad⟩ | ⟨hv0, ha0, ha1, hb0, hbn, hp⟩
  · have HP := Lib.hid hp
    clear hp hl
    go_enter Try.func17, Try.ntmps17
    go_wp2_with fail
    refine (refValid_any A n c h _ hn hsl).mono ?_
    rintro e w1 ⟨rfl, rfl⟩
    by_cases hv : (chk h).2 = 0
    · have hd : decide ((chk h).2 = 0) = true := by simpa using hv
      rw [hd]
      clear hd
      by_cases h1 : a < 0
      · clear hbad hv
        go_wp2
        go_ret2
        exact listed_nil HP.out rfl rfl (Below.refl _ _)
      · by_cases h2 : (n : Int) ≤ a
        · clear hbad hv
          go_wp2
          go_ret2
          exact listed_nil HP.out rfl rfl (Below.refl _ _)
        · by_cases h3 : b < 0
          · clear hbad hv
            go_wp2
            go_ret2
            exact listed_nil HP.out rfl rfl (Below.refl _ _)
          · have h4 : (n : Int) ≤ b := by omega
            clear hbad hv
            go_wp2
            go_ret2
            exact listed_nil HP.out rfl rfl (Below.refl _ _)
    · have hd : decide ((chk h).2 = 0) = false := by simpa using hv
      rw [hd]
      clear hd hv hbad
      go_wp2
      go_ret2
      exact listed_nil HP.out rfl rfl (Below.refl _ _)
  · have HP := Lib.hid hp
    have hg := chk_zero.1 hv0
    have HG := Lib.hid hg
    have hn4 : n ≤ 4096 := by have := hg.len; omega
    have hxa := way_len hg (show a < h.length by omega)
    have hxb := way_len hg (show b < h.length by omega)
    have hln : h.length ≤ n := by omega
    have HA1 : Hid (a < h.length) := by show _ < _; omega
    have HB1 : Hid (b < h.length) := by show _ < _; omega
    have hd : Hid (decide ((chk h).2 = 0) = true) := by show _ = _; simpa using hv0
    clear hp hl hg hv0
    go_enter Try.func17, Try.ntmps17
    go_wp2_with fail
    refine (refValid_any A n c h _ hn hsl).mono ?_
    rintro e w1 ⟨rfl, rfl⟩
    rw [hd.out]
    go_wp2_with fail
    refine (refWay_any A n c h a _ HG.out ha0 ha1 hsl).mono ?_
    rintro e w2 ⟨v, rfl, own2, hb2⟩
    obtain ⟨X, cx, rfl, hcx, -⟩ := own_slc own2
    go_wp2_with fail
    refine (refWay_any A n c h b _ HG.out hb0 hbn ((hsl.under hb2).up hb2.size)).mono ?_
    rintro e w3 ⟨v, rfl, own3, hb3⟩
    obtain ⟨Y, cy, rfl, hcy, -⟩ := own_slc own3
    have hB3 := hb2.trans (hb3.mono hb2.size)
    have ownX := Lib.hid (own_below own2 hb3)
    have ownY := Lib.hid own3
    have hh2 := hb2.size
    have hh3 := hB3.size
    clear own2 own3
    obtain ⟨x, hxx⟩ : ∃ x, way h a = x := ⟨_, rfl⟩
    obtain ⟨y, hyy⟩ : ∃ y, way h b = y := ⟨_, rfl⟩
    rw [hxx] at HP hxa ownX hcx ⊢
    rw [hyy] at HP hxb ownY hcy ⊢
    clear hxx hyy
    go_wp2
    go_loopw [45] (fun iv wr => ∃ i q : Nat, i ≤ x.length ∧ iv = .int .i64 i ∧ wr = w3.drewN q ∧ Hid (∀ i' (hi : i' < i) (hx : i' < x.length) k' (hk : k' < y.length), x[i'] ≠ y[k'])) (fun iv _ => x.length - (intOf iv).toNat)
    case atStart => exact ⟨0, 0, by omega, rfl, rfl, fun i' hi => by omega⟩
    case round =>
      obtain ⟨i, q, hi, rfl, rfl, hno⟩ := hrel
      by_cases hlt : i < x.length
      · have HXI : Hid (∀ xi, x[i] = xi → (∀ k' (hk : k' < y.length), xi ≠ y[k']) → ∀ i' (hi : i' < i + 1) (hx : i' < x.length) k' (hk : k' < y.length), x[i'] ≠ y[k']) := by
          intro xi hxi hall i' hi' hx k' hk
          by_cases e : i' = i
          · subst e; rw [hxi]; exact hall k' hk
          · exact hno.out i' (by omega) hx k' hk
        have slX := own_sl ownX.out
        have slY := own_sl ownY.out
        obtain ⟨gx, ox, hlt2, rfl, hgx, c0⟩ := slX.int hlt
        obtain ⟨xi, hxi⟩ : ∃ xi, x[i] = xi := ⟨_, rfl⟩
        rw [hxi] at c0
        have Hxi := Lib.hid hxi
        clear hxi
        go_wp2
        go_loopw [50] (fun iv wr => ∃ k q : Nat, k ≤ y.length ∧ iv = .int .i64 k ∧ wr = w3.drewN q ∧ Hid (∀ k' (hk : k' < k) (hy : k' < y.length), xi ≠ y[k'])) (fun iv _ => y.length - (intOf iv).toNat)
        case atStart => exact ⟨0, q, by omega, rfl, rfl, fun i' hi => by omega⟩
        case round =>
          obtain ⟨k, q2, hk, rfl, rfl, hnok⟩ := hrel
          by_cases hltk : k < y.length
          · obtain ⟨gy, oy, hltk2, rfl, hgy, c1⟩ := slY.int hltk
            obtain ⟨yk, hyk⟩ : ∃ yk, y[k] = yk := ⟨_, rfl⟩
            rw [hyk] at c1
            have Hyk := Lib.hid hyk
            clear hyk
            by_cases hxy : xi = yk
            · have hxy2 : (xi != yk) = false := by rw [hxy]; simp
              have HM : Hid (Meet x y i k) := ⟨hlt, hltk, by rw [Hxi.out, hxy, ← Hyk.out], fun i' hi' k' hk' => hno.out i' hi' (by omega) k' hk', fun k' hk' e => hnok.out k' hk' (by omega) (by rw [← Hxi.out, e])⟩
              have HR := Lib.hid (HP.out.trans (pathL_meet HM.out))
              have hs1 : ∀ W, (Instr.slice 22 (.slice (some ⟨gx, ox, none⟩) x.length cx) none (some (.int .i64 ((i : Int) + 1))) none).run Try.prog W = .ok (.slice (some ⟨gx, ox, none⟩) (i + 1) cx) W := fun W => slice_to (P := Try.prog) 22 3 i0 Try.underlying22 hi0 (some ⟨gx, ox, none⟩) x.length cx (i + 1) (by omega) W
              clear hxy
              go_wp2
              go_quiet (fail)
              have hsrc : Src (w3.drewN (q2 + nq)) (some ⟨gx, ox, none⟩) (ints (x.take (i + 1))) := by
                intro _
                refine ⟨_, rfl, fun j u hj => ?_⟩
                obtain ⟨g', o', e', _, hc⟩ := slX.2 (by rw [ints_len]; omega)
                cases e'
                have ea : (⟨gx, ox, none⟩ : Addr).add j = ⟨gx, ox + j, none⟩ := by unfold Addr.add; split <;> simp_all
                rw [ea]
                refine hc j u ?_
                rw [ints_take, List.getElem?_take] at hj
                split at hj
                · exact hj
                · cases hj
              have HSRC := Lib.hid hsrc
              clear hsrc hs1
              go_wp2_with (at_builtin; refine wpList_app _ rfl (.const (.slice none 0 0)) (.tmp 65) _ rfl w3.heap.size 3 i0 _ 1 8 Try.underlying22 hi0 hz0 hz1 hz2 rfl (by decide) _ 0 [] rfl (World.ownsRow_nil _ _ _ _) (some ⟨gx, ox, none⟩) (i + 1) cx (ints (x.take (i + 1))) rfl ?c1 HSRC.out (ints_one _) ?c3 ?c4 ?c5 ?_)
              try (case c1 => rw [ints_len, List.length_take]; omega)
              try (case c3 => simp [maxLen]; omega)
              try (case c4 => omega)
              try (case c5 => exact Nat.le_refl _)
              intro v4 w4 own4 gr4 _
              have hB4 : Below w3.heap.size w3 w4 := (below_drewN (Below.refl w3.heap.size w3) (q2 + nq)).grown gr4 (Nat.le_refl _) (fun k hk => by cases hk)
              have HL3 : Hid (i + 1 = (x.take (i + 1)).length) := by show _ = _; rw [List.length_take]; omega
              try rw [Nat.zero_add] at own4
              try rw [List.nil_append] at own4
              clear gr4
              go_wp2
              go_loopw [13, 12] (fun iv uv wr => ∃ (m : Nat) (q : Int), m ≤ k ∧ iv = .int .i64 q ∧ q = (m : Int) - 1 ∧ wr.ownsRow w3.heap.size 3 1 uv (i + 1 + (k - m)) (ints (x.take (i + 1) ++ ((y.take k).drop m).reverse)) ∧ Below w3.heap.size w3 wr) (fun iv _ _ => (intOf iv + 1).toNat)
              case atStart =>
                refine ⟨k, _, Nat.le_refl _, rfl, by omega, ?_, hB4⟩
                rw [List.drop_of_length_le (by rw [List.length_take]; omega), List.reverse_nil, List.append_nil, Nat.sub_self, Nat.add_zero]
                exact own4
              case round =>
                obtain ⟨m, q, hm, rfl, hq, hown, hB⟩ := hrel
                cases m with
                | zero =>
                  have hq0 : q < 0 := by omega
                  have HF : Hid ((path h a b).1 = x.take (i + 1) ++ ((y.take k).drop 0).reverse ∧ (path h a b).2 = 0 ∧ i + 1 + (k - 0) = (x.take (i + 1) ++ ((y.take k).drop 0).reverse).length) := by
                    refine ⟨by rw [HR.out]; simp, by rw [HR.out], ?_⟩
                    simp; omega
                  clear hq
                  go_wp2
                  go_ret2
                  exact listed_own (k := 0) HF.out.1 HF.out.2.1 HF.out.2.2 (own_base hown hh3) (hB3.trans (hB.mono hh3)) rfl
                | succ m =>
                  obtain rfl : q = (m : Int) := by omega
                  have hmy : m < y.length := by omega
                  obtain ⟨gy2, oy2, hlty, ey, hgy2, cy0⟩ := (slY.under hB).int hmy
                  cases ey
                  have HE : Hid (x.take (i + 1) ++ ((y.take k).drop m).reverse = (x.take (i + 1) ++ ((y.take k).drop (m + 1)).reverse) ++ [y[m]]) := by
                    show _ = _
                    rw [List.drop_eq_getElem_cons (show m < (y.take k).length by rw [List.length_take]; omega), List.getElem_take]
                    simp
                  obtain ⟨ym, hym⟩ : ∃ ym, y[m] = ym := ⟨_, rfl⟩
                  rw [hym] at cy0 HE
                  have hoa := hown.alloc (.cells #[.int .i64 ym] 3)
                  have hBa := hB.alloc hB.size (.cells #[.int .i64 ym] 3)
                  clear hym hq
                  go_wp2_with (at_builtin; refine wpList_append_own _ rfl (.tmp 73) (.tmp 78) _ rfl w3.heap.size 3 i0 _ 1 8 Try.underlying22 hi0 hz0 hz1 hz2 rfl (by decide) _ _ _ rfl hoa ⟨wr.heap.size, 0, none⟩ 1 1 [.int .i64 ym] rfl rfl ?c1 ?c2 ?c3 ?c4 hBa.size ?_)
                  case c1 => exact news_new _ _ [_]
                  case c2 => intro u hu; simp at hu; subst hu; rfl
                  case c3 => simp [maxLen]; omega
                  case c4 => omega
                  intro v5 w5 own5 gr5 _
                  have hB5 : Below w3.heap.size w3 w5 := hBa.grown gr5 hBa.size (fun k hk => (hown.lt k hk).1)
                  have e1 : ints (x.take (i + 1) ++ ((y.take k).drop (m + 1)).reverse) ++ [.int .i64 ym] = ints (x.take (i + 1) ++ ((y.take k).drop m).reverse) := by rw [HE.out]; simp [ints]
                  rw [e1, show i + 1 + (k - (m + 1)) + 1 = i + 1 + (k - m) by omega] at own5
                  clear e1 hoa hBa gr5 hown cy0
                  go_wp2
                  go_roundw
                  case rel => exact ⟨m, _, by omega, rfl, by omega, own5, hB5⟩
                  case measure => simp [intOf]
            · have hxy2 : (xi != yk) = true := by rw [bne_iff_ne]; exact hxy
              have HN : Hid (∀ k' (hk : k' < k + 1) (hy : k' < y.length), xi ≠ y[k']) := by
                intro k' hk' hy'
                by_cases e : k' = k
                · subst e; rw [Hyk.out]; exact hxy
                · exact hnok.out k' (by omega) hy'
              clear hxy
              go_wp2
              go_quiet (fail)
              go_wp2
              go_roundw
              case rel => exact ⟨k + 1, _, by omega, by go_num, rfl, HN⟩
              case measure => simp [intOf]; omega
          · have HN := Lib.hid (HXI.out xi Hxi.out (fun k' hk' => hnok.out k' (by omega) hk'))
            go_wp2
            go_roundw
            case rel => exact ⟨i + 1, q2, by omega, by go_num, rfl, HN⟩
            case measure => simp [intOf]; omega
      · have HR := Lib.hid (HP.out.trans (pathL_none (fun i hi k hk => hno.out i (by omega) hi k hk)))
        go_wp2
        go_ret2
        exact listed_nil HR.out rfl rfl (below_drewN hB3 _)
end Go.Proofs.Ytnbnmomichegaaa
