/-
  The contract of the reference's Parse: for every text the features, or the error, that feature.Parse returns. Condition: the text's length is an int.
-/
import Derived.Test.YtaihgoohmcipkaaFeatParse6
namespace Go.Proofs.Ytaihgoohmcipkaa
open Go.RowKit Utf Feat
attribute [local go_sem] byte_mk ByteArray.extract_mk

set_option maxRecDepth 100000 in
set_option maxHeartbeats 2000000 in
theorem refParse_any (s : Bs) (hs : s.length ≤ 9223372036854775807) (w : World) :
    Calls Try.prog 92 #[str s] w (Listed (parse s).1 (parse s).2 w) := by
  obtain ⟨i0, hi0, hz0, hz1, hz2⟩ := info_parts info_string
  by_cases h0 : vErr s = 0
  · obtain ⟨hlen, _, _⟩ := (vErr_zero s).1 h0
    have E : Hid ((vErr s : Int) = 0) := by show _ = _; rw [h0]; rfl
    by_cases h2 : s.length = 0
    · have hp := parse_ends (s := s) h0 (by
        match s, h2 with
        | [], _ => simp)
      have h2' : ((s.length : Int) == 0) = true := by rw [beq_iff_eq]; omega
      go_enter Try.func92, Try.ntmps92
      go_wp2_with fail
      refine (refValue_any _ hs _).mono ?_
      rintro e w1 ⟨rfl, hb⟩
      rw [E.out]
      have HP := Lib.hid hp
      clear hp h0 hlen h2
      go_wp2
      go_ret2
      exact listed_nil HP.out _ rfl hb
    · have h2' : ((s.length : Int) == 0) = false := by rw [beq_eq_false_iff_ne]; omega
      have hn0 : 0 < s.length := by omega
      have hn1 : s.length - 1 < s.length := by omega
      have ends : (s.head? = some 124 ∧ s.getLast? = some 124) ↔ (s[0] = 124 ∧ s[s.length - 1] = 124) := by
        rw [List.head?_eq_getElem?, List.getLast?_eq_getElem?, List.getElem?_eq_getElem hn0, List.getElem?_eq_getElem hn1]
        simp
      by_cases hends : s[0] = 124 ∧ s[s.length - 1] = 124
      · have hp := parse_scan (s := s) h0 (ends.2 hends)
        have b0 : ((s[0].toNat : Int) != 124) = false := by rw [hends.1]; rfl
        have b1 : ((s[s.length - 1].toNat : Int) != 124) = false := by rw [hends.2]; rfl
        have HP := Lib.hid hp
        clear hp h0 ends hends
        go_enter Try.func92, Try.ntmps92
        go_wp2_with fail
        refine (refValue_any _ hs _).mono ?_
        rintro e w1 ⟨rfl, hb⟩
        rw [E.out]
        go_wp2
        clear b0 b1 h2
        go_loopw [6, 7, 8] (fun v fr iv wr => ∃ (i f : Nat) (acc : List Bs), iv = .int .i64 i ∧ fr = .int .i64 f ∧ 1 ≤ f ∧ f ≤ i ∧ i ≤ s.length ∧ acc.length < f ∧ wr.ownsRow w.heap.size 9 1 v acc.length (strs acc) ∧ Below w.heap.size w wr ∧
            Hid (scan [] s.tail = (scan ((s.drop f).take (i - f)) (s.drop i)).map (acc ++ ·)))
          (fun _ _ iv _ => s.length - (intOf iv).toNat)
        case atStart => exact ⟨1, 1, [], rfl, rfl, by omega, by omega, by omega, by simp, World.ownsRow_nil _ _ _ _, hb, by show _ = _; rw [← List.drop_one]; simp⟩
        case round =>
          obtain ⟨i, f, acc, rfl, rfl, hf1, hfi, hi, hacc, hown, hB, hsc⟩ := hrel
          by_cases hlt : i < s.length
          · by_cases hc : s[i] = 124
            · have bc : ((s[i].toNat : Int) != 124) = false := by rw [hc]; rfl
              by_cases hif : i = f
              · subst hif
                have he := scan_empty s i hlt hc
                have HE := Lib.hid he
                clear he hc
                go_wp2
                go_ret2
                refine listed_nil ?_ _ rfl hB
                rw [HP.out, hsc.out, HE.out]; rfl
              · have hif' : ((i : Int) == f) = false := by rw [beq_eq_false_iff_ne]; omega
                have he := scan_bar s f i (by omega) hlt hc
                have HE := Lib.hid he
                have hoa := hown.alloc (.cells #[str ((s.drop f).take (i - f))] 9)
                have hBa := hB.alloc hB.size (.cells #[str ((s.drop f).take (i - f))] 9)
                clear he hc hif
                go_wp2_with (at_builtin; refine wpList_append_own _ rfl (.tmp 43) (.tmp 48) _ rfl w.heap.size 9 i0 _ 1 16 Try.underlying28 hi0 hz0 hz1 hz2 rfl (by decide) _ _ _ rfl hoa ⟨wr.heap.size, 0, none⟩ 1 1 [str ((s.drop f).take (i - f))] rfl rfl ?c1 ?c2 ?c3 ?c4 ?c5 ?_)
                case c1 => exact news_new _ _ [_]
                case c2 => intro u hu; simp at hu; subst hu; rfl
                case c3 => simp [maxLen]; omega
                case c4 => omega
                case c5 => exact hBa.size
                intro v' w2 hown2 hg2 _
                have hB2 : Below w.heap.size w w2 := hBa.grown hg2 hBa.size (fun k hk => (hown.lt k hk).1)
                rw [← strs_snoc] at hown2
                clear hoa hBa hg2 hown
                go_wp2
                go_roundw
                case rel =>
                  refine ⟨i + 1, i + 1, acc ++ [(s.drop f).take (i - f)], by go_num, by go_num, by omega, by omega, by omega, by simp; omega, by simpa using hown2, hB2, ?_⟩
                  show _ = _
                  rw [hsc.out, HE.out]
                  cases scan ((s.drop (i + 1)).take (i + 1 - (i + 1))) (s.drop (i + 1)) <;> simp
                case measure => simp [intOf]; omega
            · have bc : ((s[i].toNat : Int) != 124) = true := by
                rw [bne_iff_ne]; intro h; exact hc (UInt8.toNat_inj.1 (by show _ = 124; omega))
              have he := scan_other s f i hfi hlt hc
              have HE := Lib.hid he
              clear he hc
              go_wp2
              go_roundw
              case rel => exact ⟨i + 1, f, acc, by go_num, rfl, hf1, by omega, by omega, hacc, hown, hB, by show _ = _; rw [hsc.out, HE.out]⟩
              case measure => simp [intOf]; omega
          · have hie : i = s.length := by omega
            have hfin : scan [] s.tail = some acc := by
              rw [hsc.out, List.drop_eq_nil_of_le (by omega : s.length ≤ i)]; simp [scan]
            have HF := Lib.hid hfin
            clear hfin hsc hie
            obtain ⟨wo, rfl⟩ : ∃ wo : World, wo = wr := ⟨_, rfl⟩
            have hlen2 : acc.length ≤ 120 := by omega
            have hpar : parse s = if asc acc then (acc, 0) else ([], 6) := by rw [HP.out, HF.out]
            have HPA := Lib.hid hpar
            clear hpar
            have hfm := own_form hown
            rcases hown.2 with ⟨rfl, hn⟩ | ⟨g, cap, _, rfl, _⟩
            · have hnil : acc = [] := List.eq_nil_of_length_eq_zero hn
              subst hnil
              clear hfm hn
              go_wp2
              go_loopw [9] (fun iv wr => iv = .int .i64 1 ∧ wr = wo) (fun _ _ => 0)
              case atStart => exact ⟨rfl, rfl⟩
              case round =>
                obtain ⟨rfl, rfl⟩ := hrel
                go_wp2
                go_ret2
                refine listed_nil ?_ _ rfl hB
                rw [HPA.out]; rfl
            · clear hfm
              go_wp2
              go_loopw [9] (fun iv wr => ∃ k q : Nat, 1 ≤ k ∧ (k ≤ acc.length ∨ k = 1) ∧ iv = .int .i64 k ∧ wr = wo.drewN q ∧ Hid (asc (acc.take k) = true)) (fun iv _ => acc.length - (intOf iv).toNat)
              case atStart => exact ⟨1, 0, by omega, .inr rfl, rfl, rfl, asc_one _ (by simp; omega)⟩
              case round =>
                obtain ⟨k, q, hk1, hk, rfl, rfl, hasc⟩ := hrel
                by_cases hlt : k < acc.length
                · have hk1' : k - 1 < acc.length := by omega
                  have c1 : wo.cell? ⟨g, k - 1, none⟩ = some (str acc[k - 1]) := own_str hown _ hk1'
                  have c2 : wo.cell? ⟨g, k, none⟩ = some (str acc[k]) := own_str hown _ hlt
                  have hstep := Lib.hid (asc_step acc k hk1 hlt)
                  have hno := Lib.hid (asc_no acc k hk1 hlt)
                  have hki : (k : Int) - 1 = ((k - 1 : Nat) : Int) := by omega
                  cases hcmp : Op.bytesLess acc[k - 1] acc[k] with
                  | true =>
                    go_wp2
                    go_quiet (fail)
                    go_wp2
                    go_roundw
                    case rel => exact ⟨k + 1, _, by omega, .inl (by omega), by go_num, rfl, by show _ = _; rw [hstep.out, hasc.out]; exact hcmp⟩
                    case measure => simp [intOf]; omega
                  | false =>
                    go_wp2
                    go_quiet (fail)
                    go_wp2
                    go_ret2
                    refine listed_nil ?_ _ rfl (by first | exact below_drewN hB _ | exact below_drewN (below_drewN hB _) _)
                    rw [HPA.out, hno.out hcmp]; rfl
                · go_wp2
                  go_ret2
                  have ha : asc acc = true := by
                    rw [← hasc.out]
                    rcases hk with h | h
                    · rw [List.take_of_length_le (by omega)]
                    · rw [asc_one acc (by omega), asc_one _ (by simp; omega)]
                  rw [HPA.out, ha]
                  exact ⟨_, rfl, own_same hown (fun _ _ => rfl), below_drewN hB _⟩
      · have hp := parse_ends (s := s) h0 (fun h => hends (ends.1 h))
        have HP := Lib.hid hp
        clear hp h0 ends
        by_cases b0 : s[0] = 124
        · have b0' : ((s[0].toNat : Int) != 124) = false := by rw [b0]; rfl
          have b1' : ((s[s.length - 1].toNat : Int) != 124) = true := by
            rw [bne_iff_ne]; intro h; exact hends ⟨b0, UInt8.toNat_inj.1 (by show _ = 124; omega)⟩
          clear b0 hends
          go_enter Try.func92, Try.ntmps92
          go_wp2_with fail
          refine (refValue_any _ hs _).mono ?_
          rintro e w1 ⟨rfl, hb⟩
          rw [E.out]
          go_wp2
          go_ret2
          exact listed_nil HP.out _ rfl hb
        · have b0' : ((s[0].toNat : Int) != 124) = true := by
            rw [bne_iff_ne]; intro h; exact b0 (UInt8.toNat_inj.1 (by show _ = 124; omega))
          clear b0 hends
          go_enter Try.func92, Try.ntmps92
          go_wp2_with fail
          refine (refValue_any _ hs _).mono ?_
          rintro e w1 ⟨rfl, hb⟩
          rw [E.out]
          go_wp2
          go_ret2
          exact listed_nil HP.out _ rfl hb
  · have e0 : ((vErr s : Int) != 0) = true := by rw [bne_iff_ne]; omega
    have HP := Lib.hid (parse_vErr h0)
    clear h0
    go_enter Try.func92, Try.ntmps92
    go_wp2_with (go_at_call 93; refine (refValue_any _ hs _).mono ?_; rintro e w1 ⟨rfl, hb⟩)
    go_ret2
    exact listed_nil HP.out _ rfl hb
end Go.Proofs.Ytaihgoohmcipkaa
