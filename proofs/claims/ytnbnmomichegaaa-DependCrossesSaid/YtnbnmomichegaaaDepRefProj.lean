/-
  The contract of the reference's Projective. Condition: the list's length is an int.
-/
import Derived.Test.YtnbnmomichegaaaDepProj
namespace Go.Proofs.Ytnbnmomichegaaa
open Go.RowKit Dep

/-- A row without its first element. -/
theorem own_tail {w : World} {base n c : Nat} {A : Option Addr} {e : TypeId} {l : List Int} (h : w.ownsRow base e 1 (.slice A n c) n (ints l)) (hn : 1 ≤ n) : Sl w w.heap.size 1 (cutAt A 1 c 1) (n - 1) (ints (l.drop 1)) := by
  have hl : l.length = n := by simpa [ints] using h.1
  refine ⟨by simp [ints]; omega, fun hp => ?_⟩
  have hp' : 1 < n := by simp [ints] at hp; omega
  obtain ⟨g, cap, e, _, hg, hc⟩ := own_form h (by omega)
  injection e with e1 _ e3
  subst e1 e3
  refine ⟨g, 1, by rw [cutAt_in (by omega)], hg, fun j u hj => ?_⟩
  have hj' : 1 + j < l.length := by
    have := (List.getElem?_eq_some_iff.1 hj).1
    simp [ints] at this; omega
  rw [own_int h (1 + j) hj', ← hj]
  have hj2 : j + 1 < l.length := by omega
  simp [ints, hj2, Nat.add_comm 1 j]

set_option maxRecDepth 100000 in
set_option maxHeartbeats 4000000 in
theorem refProjective_any (A : Option Addr) (n c : Nat) (h : Hs) (w : World) (hn : n ≤ 9223372036854775807) (hsl : Sl w w.heap.size 1 A n (ints h)) :
    Calls Try.prog 20 #[.slice A n c] w (Prjd h w) := by
  have hl := hsl.ilen
  obtain ⟨i0, hi0, hz0, hz1, hz2⟩ := info_parts info_int
  go_enter Try.func20, Try.ntmps20
  go_wp2_with fail
  refine (refValid_any A n c h _ hn hsl).mono ?_
  rintro e w1 ⟨rfl, rfl⟩
  by_cases h0 : (chk h).2 = 0
  · have hd : decide ((chk h).2 = 0) = true := by simpa using h0
    have hg := chk_zero.1 h0
    have HG := Lib.hid hg
    have hn4 : n ≤ 4096 := by have := hg.len; omega
    have HL := Lib.hid hl
    have hln : h.length ≤ n ∧ n ≤ h.length := by omega
    rw [hd]
    clear hg hl h0 hd
    go_wp2
    go_loopw [14] (fun iv wr => ∃ k : Nat, k ≤ n ∧ iv = .int .i64 k ∧ Below w.heap.size w wr ∧ Hid (∀ d x, d < k → x < h.length → Btw h d x)) (fun iv _ => n - (intOf iv).toNat)
    case atStart => exact ⟨0, by omega, rfl, Below.refl _ _, fun d x hd => by omega⟩
    case round =>
      obtain ⟨k, hk, rfl, hB, hbt⟩ := hrel
      obtain ⟨wo, rfl⟩ : ∃ wo : World, wo = wr := ⟨_, rfl⟩
      by_cases hlt : k < n
      · obtain ⟨g, o, hk', rfl, hgl, c0⟩ := (hsl.under hB).int hlt
        have hnx : Hid (nx h (k : Nat) = h[k]) := nx_at hk'
        have hok := HG.out.ok _ (List.getElem_mem hk')
        obtain ⟨x, hx⟩ : ∃ x, h[k] = x := ⟨_, rfl⟩
        rw [hx] at c0 hnx hok
        have hx1 := hok.1
        have hx2 : x < n := by omega
        clear hx hok
        by_cases hx0 : x < 0
        · have HB : Hid (∀ d x, d < k + 1 → x < h.length → Btw h d x) := fun d y hd hy => by
            by_cases e : d = k
            · subst e; exact btw_neg (by rw [hnx.out]; exact hx0)
            · exact hbt.out d y (by omega) hy
          go_wp2
          go_roundw
          case rel => exact ⟨k + 1, by omega, by go_num, hB, HB⟩
          case measure => simp [intOf]; omega
        · obtain ⟨p, rfl⟩ : ∃ p : Nat, x = p := ⟨x.toNat, by omega⟩
          have hpn : p < n := by omega
          have hkp : k ≠ p := head_ne HG.out (by omega) hnx.out
          rcases Nat.lt_or_gt_of_ne hkp with hc | hc
          · have hc1 : (k : Int) < p := by omega
            go_wp2
            go_loopw [5] (fun xv wr => ∃ x : Nat, k + 1 ≤ x ∧ x ≤ p ∧ xv = .int .i64 x ∧ Below w.heap.size w wr ∧ Hid (∀ y, k + 1 ≤ y → y < x → (p : Int) ∈ way h (nx h (y : Nat)))) (fun xv _ => p - (intOf xv).toNat)
            case atStart => exact ⟨k + 1, by omega, by omega, by go_num, hB, fun y h1 h2 => by omega⟩
            case round =>
              obtain ⟨x, hxl, hxh, rfl, hB2, hall⟩ := hrel
              obtain ⟨wx, rfl⟩ : ∃ wx : World, wx = wr := ⟨_, rfl⟩
              by_cases hxlt : x < p
              · have hxn : x < n := by omega
                have hbad : Hid (¬ (p : Int) ∈ way h (nx h (x : Nat)) → ¬ Proj h) := fun hno hp => hno (hp.2 k x (by omega) (by omega) p hnx.out (by omega) (by omega))
                go_wp2_with fail
                refine (refWay_any _ n c h (x : Nat) _ HG.out (by omega) (by omega) ((hsl.under hB2).up hB2.size)).mono ?_
                rintro e w3 ⟨v, rfl, own3, hb3⟩
                obtain ⟨A3, c3, rfl, hc3, -⟩ := own_slc own3
                have hB3 := hB2.trans (hb3.mono hB2.size)
                have hwl := (way_pos HG.out (show 0 ≤ ((x : Nat) : Int) by omega)).1
                have hwn := way_len HG.out (show ((x : Nat) : Int) < h.length by omega)
                have hsl3 := own_tail own3 (by omega)
                have hdrop : (way h (x : Nat)).drop 1 = way h (nx h (x : Nat)) := by rw [way_step HG.out (by omega)]; rfl
                rw [hdrop] at hsl3
                obtain ⟨wl, hwle⟩ : ∃ wl, wl = (way h (x : Nat)).length := ⟨_, rfl⟩
                rw [← hwle] at hsl3 hwl hwn hc3 ⊢
                have hs1 : ∀ W, (Instr.slice 22 (.slice A3 wl c3) (some (.int .i64 1)) none none).run Try.prog W = .ok (.slice (cutAt A3 1 c3 1) (wl - 1) (c3 - 1)) W := fun W => slice_from (P := Try.prog) 22 3 i0 1 Try.underlying22 hi0 hz1 A3 wl c3 1 (by omega) W
                obtain ⟨A4, hA4⟩ : ∃ A4, cutAt A3 1 c3 1 = A4 := ⟨_, rfl⟩
                obtain ⟨m, hm⟩ : ∃ m, m = wl - 1 := ⟨_, rfl⟩
                obtain ⟨c4, hc4⟩ : ∃ c4, c4 = c3 - 1 := ⟨_, rfl⟩
                rw [← hm] at hsl3
                simp only [hA4, ← hm, ← hc4] at hs1 hsl3
                have hlen3 := Lib.hid hsl3.ilen
                have hmn : m ≤ n := by omega
                obtain ⟨t, ht⟩ : ∃ t, way h (nx h (x : Nat)) = t := ⟨_, rfl⟩
                rw [ht] at hsl3 hlen3 hbad
                have HTT := Lib.hid ht
                clear own3 hdrop hwle hA4 hc4 hm ht
                go_wp2
                clear hs1
                go_loopw [6, 37] (fun bv iv wr => ∃ (j : Nat) (b : Bool), j ≤ m ∧ iv = .int .i64 j ∧ bv = .bool b ∧ Hid (b = true ↔ (p : Int) ∈ t.take j) ∧ wr = w3) (fun _ iv _ => m - (intOf iv).toNat)
                case atStart => exact ⟨0, false, by omega, rfl, rfl, by show _ ↔ _; simp, rfl⟩
                case round =>
                  obtain ⟨j, b, hj, rfl, rfl, hb, rfl⟩ := hrel
                  by_cases hjm : j < m
                  · obtain ⟨g4, o4, hj', hA4', hg4, c4'⟩ := hsl3.int hjm
                    subst hA4'
                    have hst : Hid (∀ y, t[j] = y → ((p : Int) ∈ t.take (j + 1) ↔ (p : Int) ∈ t.take j ∨ y = p)) := fun y hy => by
                      rw [List.take_succ_eq_append_getElem hj', List.mem_append, hy]; simp [eq_comm]
                    obtain ⟨y, hy⟩ : ∃ y, t[j] = y := ⟨_, rfl⟩
                    rw [hy] at c4'
                    have HST := Lib.hid (hst.out y hy)
                    clear hy hst
                    cases b with
                    | true =>
                      have HB : Hid (true = true ↔ (p : Int) ∈ t.take (j + 1)) := ⟨fun _ => HST.out.2 (.inl (hb.out.1 rfl)), fun _ => rfl⟩
                      go_wp2
                      go_roundw
                      case rel => exact ⟨j + 1, true, by omega, by go_num, rfl, HB, trivial⟩
                      case measure => simp [intOf]; omega
                    | false =>
                      by_cases hyp : y = (p : Int)
                      · have hyp2 : (y == (p : Int)) = true := by rw [beq_iff_eq]; exact hyp
                        have HB : Hid (true = true ↔ (p : Int) ∈ t.take (j + 1)) := ⟨fun _ => HST.out.2 (.inr hyp), fun _ => rfl⟩
                        clear hyp
                        go_wp2
                        go_roundw
                        case rel => exact ⟨j + 1, true, by omega, by go_num, rfl, HB, trivial⟩
                        case measure => simp [intOf]; omega
                      · have hyp2 : (y == (p : Int)) = false := by rw [beq_eq_false_iff_ne]; exact hyp
                        have HB : Hid (false = true ↔ (p : Int) ∈ t.take (j + 1)) := ⟨(fun e => by cases e), fun e => by
                          rcases HST.out.1 e with h1 | h1
                          · exact hb.out.2 h1
                          · exact absurd h1 hyp⟩
                        clear hyp
                        go_wp2
                        go_roundw
                        case rel => exact ⟨j + 1, false, by omega, by go_num, rfl, HB, trivial⟩
                        case measure => simp [intOf]; omega
                  · have hfin : Hid (b = true ↔ (p : Int) ∈ t) := by
                      have h1 := hb.out
                      rwa [List.take_of_length_le (by rw [hlen3.out]; omega)] at h1
                    cases b with
                    | true =>
                      have hm := hfin.out.1 rfl
                      have HALL : Hid (∀ y, k + 1 ≤ y → y < x + 1 → (p : Int) ∈ way h (nx h (y : Nat))) := fun y hy1 hy2 => by
                        by_cases e : y = x
                        · subst e; rw [HTT.out]; exact hm
                        · exact hall.out y hy1 (by omega)
                      clear hm
                      go_wp2
                      go_roundw
                      case rel => exact ⟨x + 1, by omega, by omega, by go_num, hB3, HALL⟩
                      case measure => simp [intOf]; omega
                    | false =>
                      have HN := Lib.hid (hbad.out (fun e => by have := hfin.out.2 e; cases this))
                      go_wp2
                      go_ret
                      exact prjd_no HN.out hB3
              · have HB : Hid (∀ d x, d < k + 1 → x < h.length → Btw h d x) := fun d y hd hy => by
                  by_cases e : d = k
                  · subst e
                    by_cases hbt2 : min d p < y ∧ y < max d p
                    · exact btw_yes hnx.out (hall.out y (by omega) (by omega))
                    · exact btw_out hnx.out hbt2
                  · exact hbt.out d y (by omega) hy
                go_wp2
                go_roundw
                case rel => exact ⟨k + 1, by omega, by go_num, hB2, HB⟩
                case measure => simp [intOf]; omega
          · have hc1 : (p : Int) < k := by omega
            go_wp2
            go_loopw [5] (fun xv wr => ∃ x : Nat, p + 1 ≤ x ∧ x ≤ k ∧ xv = .int .i64 x ∧ Below w.heap.size w wr ∧ Hid (∀ y, p + 1 ≤ y → y < x → (p : Int) ∈ way h (nx h (y : Nat)))) (fun xv _ => k - (intOf xv).toNat)
            case atStart => exact ⟨p + 1, by omega, by omega, by go_num, hB, fun y h1 h2 => by omega⟩
            case round =>
              obtain ⟨x, hxl, hxh, rfl, hB2, hall⟩ := hrel
              obtain ⟨wx, rfl⟩ : ∃ wx : World, wx = wr := ⟨_, rfl⟩
              by_cases hxlt : x < k
              · have hxn : x < n := by omega
                have hbad : Hid (¬ (p : Int) ∈ way h (nx h (x : Nat)) → ¬ Proj h) := fun hno hp => hno (hp.2 k x (by omega) (by omega) p hnx.out (by omega) (by omega))
                go_wp2_with fail
                refine (refWay_any _ n c h (x : Nat) _ HG.out (by omega) (by omega) ((hsl.under hB2).up hB2.size)).mono ?_
                rintro e w3 ⟨v, rfl, own3, hb3⟩
                obtain ⟨A3, c3, rfl, hc3, -⟩ := own_slc own3
                have hB3 := hB2.trans (hb3.mono hB2.size)
                have hwl := (way_pos HG.out (show 0 ≤ ((x : Nat) : Int) by omega)).1
                have hwn := way_len HG.out (show ((x : Nat) : Int) < h.length by omega)
                have hsl3 := own_tail own3 (by omega)
                have hdrop : (way h (x : Nat)).drop 1 = way h (nx h (x : Nat)) := by rw [way_step HG.out (by omega)]; rfl
                rw [hdrop] at hsl3
                obtain ⟨wl, hwle⟩ : ∃ wl, wl = (way h (x : Nat)).length := ⟨_, rfl⟩
                rw [← hwle] at hsl3 hwl hwn hc3 ⊢
                have hs1 : ∀ W, (Instr.slice 22 (.slice A3 wl c3) (some (.int .i64 1)) none none).run Try.prog W = .ok (.slice (cutAt A3 1 c3 1) (wl - 1) (c3 - 1)) W := fun W => slice_from (P := Try.prog) 22 3 i0 1 Try.underlying22 hi0 hz1 A3 wl c3 1 (by omega) W
                obtain ⟨A4, hA4⟩ : ∃ A4, cutAt A3 1 c3 1 = A4 := ⟨_, rfl⟩
                obtain ⟨m, hm⟩ : ∃ m, m = wl - 1 := ⟨_, rfl⟩
                obtain ⟨c4, hc4⟩ : ∃ c4, c4 = c3 - 1 := ⟨_, rfl⟩
                rw [← hm] at hsl3
                simp only [hA4, ← hm, ← hc4] at hs1 hsl3
                have hlen3 := Lib.hid hsl3.ilen
                have hmn : m ≤ n := by omega
                obtain ⟨t, ht⟩ : ∃ t, way h (nx h (x : Nat)) = t := ⟨_, rfl⟩
                rw [ht] at hsl3 hlen3 hbad
                have HTT := Lib.hid ht
                clear own3 hdrop hwle hA4 hc4 hm ht
                go_wp2
                clear hs1
                go_loopw [6, 37] (fun bv iv wr => ∃ (j : Nat) (b : Bool), j ≤ m ∧ iv = .int .i64 j ∧ bv = .bool b ∧ Hid (b = true ↔ (p : Int) ∈ t.take j) ∧ wr = w3) (fun _ iv _ => m - (intOf iv).toNat)
                case atStart => exact ⟨0, false, by omega, rfl, rfl, by show _ ↔ _; simp, rfl⟩
                case round =>
                  obtain ⟨j, b, hj, rfl, rfl, hb, rfl⟩ := hrel
                  by_cases hjm : j < m
                  · obtain ⟨g4, o4, hj', hA4', hg4, c4'⟩ := hsl3.int hjm
                    subst hA4'
                    have hst : Hid (∀ y, t[j] = y → ((p : Int) ∈ t.take (j + 1) ↔ (p : Int) ∈ t.take j ∨ y = p)) := fun y hy => by
                      rw [List.take_succ_eq_append_getElem hj', List.mem_append, hy]; simp [eq_comm]
                    obtain ⟨y, hy⟩ : ∃ y, t[j] = y := ⟨_, rfl⟩
                    rw [hy] at c4'
                    have HST := Lib.hid (hst.out y hy)
                    clear hy hst
                    cases b with
                    | true =>
                      have HB : Hid (true = true ↔ (p : Int) ∈ t.take (j + 1)) := ⟨fun _ => HST.out.2 (.inl (hb.out.1 rfl)), fun _ => rfl⟩
                      go_wp2
                      go_roundw
                      case rel => exact ⟨j + 1, true, by omega, by go_num, rfl, HB, trivial⟩
                      case measure => simp [intOf]; omega
                    | false =>
                      by_cases hyp : y = (p : Int)
                      · have hyp2 : (y == (p : Int)) = true := by rw [beq_iff_eq]; exact hyp
                        have HB : Hid (true = true ↔ (p : Int) ∈ t.take (j + 1)) := ⟨fun _ => HST.out.2 (.inr hyp), fun _ => rfl⟩
                        clear hyp
                        go_wp2
                        go_roundw
                        case rel => exact ⟨j + 1, true, by omega, by go_num, rfl, HB, trivial⟩
                        case measure => simp [intOf]; omega
                      · have hyp2 : (y == (p : Int)) = false := by rw [beq_eq_false_iff_ne]; exact hyp
                        have HB : Hid (false = true ↔ (p : Int) ∈ t.take (j + 1)) := ⟨(fun e => by cases e), fun e => by
                          rcases HST.out.1 e with h1 | h1
                          · exact hb.out.2 h1
                          · exact absurd h1 hyp⟩
                        clear hyp
                        go_wp2
                        go_roundw
                        case rel => exact ⟨j + 1, false, by omega, by go_num, rfl, HB, trivial⟩
                        case measure => simp [intOf]; omega
                  · have hfin : Hid (b = true ↔ (p : Int) ∈ t) := by
                      have h1 := hb.out
                      rwa [List.take_of_length_le (by rw [hlen3.out]; omega)] at h1
                    cases b with
                    | true =>
                      have hm := hfin.out.1 rfl
                      have HALL : Hid (∀ y, p + 1 ≤ y → y < x + 1 → (p : Int) ∈ way h (nx h (y : Nat))) := fun y hy1 hy2 => by
                        by_cases e : y = x
                        · subst e; rw [HTT.out]; exact hm
                        · exact hall.out y hy1 (by omega)
                      clear hm
                      go_wp2
                      go_roundw
                      case rel => exact ⟨x + 1, by omega, by omega, by go_num, hB3, HALL⟩
                      case measure => simp [intOf]; omega
                    | false =>
                      have HN := Lib.hid (hbad.out (fun e => by have := hfin.out.2 e; cases this))
                      go_wp2
                      go_ret
                      exact prjd_no HN.out hB3
              · have HB : Hid (∀ d x, d < k + 1 → x < h.length → Btw h d x) := fun d y hd hy => by
                  by_cases e : d = k
                  · subst e
                    by_cases hbt2 : min d p < y ∧ y < max d p
                    · exact btw_yes hnx.out (hall.out y (by omega) (by omega))
                    · exact btw_out hnx.out hbt2
                  · exact hbt.out d y (by omega) hy
                go_wp2
                go_roundw
                case rel => exact ⟨k + 1, by omega, by go_num, hB2, HB⟩
                case measure => simp [intOf]; omega
      · have HP : Hid (Proj h) := ⟨HG.out, fun d x hd hx => hbt.out d x (by omega) hx⟩
        go_wp2
        go_ret
        exact prjd_yes HP.out hB
  · have hd : decide ((chk h).2 = 0) = false := by simpa using h0
    have HN : Hid (¬ Proj h) := fun hp => h0 (chk_zero.2 hp.1)
    rw [hd]
    clear h0 hl hd
    go_wp2
    go_ret
    exact prjd_no HN.out (Below.refl _ _)
end Go.Proofs.Ytnbnmomichegaaa
