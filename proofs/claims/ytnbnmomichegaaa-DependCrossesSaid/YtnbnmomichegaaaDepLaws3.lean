/-
  The law DependCrosses: it returns true for every heads. Condition: the length is an int.
-/
import Derived.Test.YtnbnmomichegaaaDepCross
import Derived.Test.YtnbnmomichegaaaDepLaws
namespace Go.Proofs.Ytnbnmomichegaaa
open Go.RowKit Dep

theorem Blk.sl {w : World} {g n : Nat} {l : List Int} {t : TypeId} (h : Blk w g t (ints l).toArray) (hl : l.length = n) : Sl w w.heap.size 1 (some ⟨g, 0, none⟩) n (ints l) := by
  refine ⟨by simp [ints, hl], fun _ => ⟨g, 0, rfl, h.lt, fun j u hj => ?_⟩⟩
  rw [Nat.zero_add, h.cell j]
  simpa using hj
theorem set_mir {h : Hs} {l : List Int} {n k : Nat} {x : Int} (_hn : h.length = n) (hk : k < n) (hl : l.length = n) (ha : ∀ i, i < k → l[n - 1 - i]? = (mir h)[n - 1 - i]?) (l' : List Int) (hl' : l'.length = n)
    (hs : l'[n - 1 - k]? = some x) (ho : ∀ j, j ≠ n - 1 - k → l'[j]? = l[j]?) (hx : (mir h)[n - 1 - k]? = some x) : ∀ i, i < k + 1 → l'[n - 1 - i]? = (mir h)[n - 1 - i]? := by
  intro i hi
  by_cases e : i = k
  · rw [e, hs, hx]
  · rw [ho _ (by omega)]; exact ha i (by omega)
theorem mir_all {h : Hs} {l : List Int} {n : Nat} (hn : h.length = n) (hl : l.length = n) (ha : ∀ i, i < n → l[n - 1 - i]? = (mir h)[n - 1 - i]?) : l = mir h := by
  apply List.ext_getElem? 
  intro t
  by_cases ht : t < n
  · have := ha (n - 1 - t) (by omega)
    rwa [show n - 1 - (n - 1 - t) = t by omega] at this
  · rw [List.getElem?_eq_none (by omega), List.getElem?_eq_none (by rw [mir_len]; omega)]
theorem mir_some {h : Hs} {n k : Nat} (hn : h.length = n) (hk : k < h.length) : (mir h)[n - 1 - k]? = some (if 0 ≤ h[k] then (n : Int) - 1 - h[k] else -1) := by
  subst hn
  rw [List.getElem?_eq_getElem (by rw [mir_len]; omega), mir_at hk]

set_option maxRecDepth 100000 in
set_option maxHeartbeats 2000000 in
theorem law_crosses (A : Option Addr) (n c : Nat) (h : Hs) (w : World) (hn : n ≤ 9223372036854775807) (hsl : Sl w w.heap.size 1 A n (ints h)) :
    Calls Try.prog 8 #[.slice A n c] w (Gave (.bool true) w) := by
  have hlen := Lib.hid hsl.ilen
  obtain ⟨i0, hi0, hz0, hz1, hz2⟩ := info_parts info_int
  by_cases hl : 30 < n
  · go_enter Try.func8, Try.ntmps8
    go_wp2_with fail
    refine (depCheck_any A n c h _ hn hsl).mono ?_
    rintro e w1 ⟨rfl, hb1⟩
    go_wp2
    go_ret
    exact ⟨rfl, hb1⟩
  · by_cases hc : (chk h).2 = 0
    · have HG := Lib.hid (chk_zero.1 hc)
      have E : (((chk h).2 : Int) != 0) = false := by rw [hc]; rfl
      clear hc
      have hmk : ∀ W, (Instr.makeSlice 22 (.int .i64 (n : Int)) (.int .i64 (n : Int))).run Try.prog W = .ok (.slice (some ⟨W.heap.size, 0, none⟩) n n) (W.alloc (.cells (ints (List.replicate n 0)).toArray 3)) := fun W => by
        have hr := run_make (P := Try.prog) W 22 3 i0 _ Try.underlying22 hi0 hz0 .i64 .i64 n n (by omega) (Int.le_refl _) (by rw [hz2]; omega) (by omega)
        rw [hr, hz1]
        simp only [Int.toNat_natCast, Nat.mul_one]
        have : madeCells (Value.cells (.int .i64 0)) n = (ints (List.replicate n 0)).toArray := by
          rw [ints_replicate]
          have e := toList_madeCells_one (.int .i64 0) n
          show madeCells #[.int .i64 0] n = (List.replicate n (Value.int .i64 0)).toArray
          rw [← e]
        rw [this]
      go_enter Try.func8, Try.ntmps8
      go_wp2_with fail
      refine (depCheck_any A n c h _ hn hsl).mono ?_
      rintro e w1 ⟨rfl, hb1⟩
      have hT := Blk.new w1 3 (ints (List.replicate n 0)).toArray
      have hB1 := hb1.alloc hb1.size (.cells (ints (List.replicate n 0)).toArray 3)
      go_wp2
      clear hmk hi0 hz0 hz1 hz2 i0
      go_loopw [31] (fun iv wr => ∃ (k : Nat) (l : List Int), k ≤ n ∧ iv = .int .i64 k ∧ Blk wr w1.heap.size 3 (ints l).toArray ∧ Below w.heap.size w wr ∧ Hid (l.length = n ∧ ∀ i, i < k → l[n - 1 - i]? = (mir h)[n - 1 - i]?)) (fun iv _ => n - (intOf iv).toNat)
      case atStart => exact ⟨0, _, by omega, rfl, hT, hB1, ⟨by simp, fun i hi => by omega⟩⟩
      case round =>
        obtain ⟨k, l, hk, rfl, hbl, hB, hinv⟩ := hrel
        by_cases hlt : k < n
        · obtain ⟨g, o, hk', rfl, hg, c0⟩ := (hsl.under hB).int hlt
          have hms := mir_some (h := h) hlen.out hk'
          obtain ⟨x, hx⟩ : ∃ x, h[k] = x := ⟨_, rfl⟩
          have hok := HG.out.ok _ (List.getElem_mem hk')
          rw [hx] at c0 hms hok
          have hx1 := hok.1
          have hx2 : x < n := by have := hlen.out; omega
          have HMS := Lib.hid hms
          obtain ⟨j, hj⟩ : ∃ j, n - 1 - k = j := ⟨_, rfl⟩
          have hjn : j < n := by omega
          have hjl : j < l.length := by have := hinv.out.1; omega
          have hji : (n : Int) - 1 - (k : Int) = (j : Int) := by omega
          have f0 := hbl.free j
          have cl := hbl.iat hjl
          have b1 := hbl.seti j (-1)
          have f1 := b1.free j
          have cl1 := b1.iat (i := j) (by simpa using hjl)
          have HJ := Lib.hid hj
          clear hx hok hms hj
          by_cases h0 : 0 ≤ x
          · have d0 : decide (0 ≤ x) = true := by simpa using h0
            go_wp2
            go_roundw
            case rel =>
              have b2 := b1.seti j ((n : Int) - 1 - x)
              refine ⟨k + 1, _, by omega, by go_num, b2, (hB.setCell (p := ⟨w1.heap.size, j, none⟩) hb1.size _).setCell (p := ⟨w1.heap.size, j, none⟩) hb1.size _, ?_⟩
              obtain ⟨g1, g2⟩ := hinv.out
              refine ⟨by simp [g1], set_mir (x := (n : Int) - 1 - x) hlen.out hlt g1 g2 _ (by simp [g1]) ?_ ?_ ?_⟩
              · rw [HJ.out]; simp [hjl]
              · intro t ht; rw [HJ.out] at ht; simp [List.getElem?_set_ne (Ne.symm ht)]
              · have := HMS.out; rw [if_pos h0] at this; exact this
            case measure => simp [intOf]; omega
          · obtain rfl : x = -1 := by omega
            clear h0
            go_wp2
            go_roundw
            case rel =>
              refine ⟨k + 1, _, by omega, by go_num, b1, hB.setCell (p := ⟨w1.heap.size, j, none⟩) hb1.size _, ?_⟩
              obtain ⟨g1, g2⟩ := hinv.out
              refine ⟨by simp [g1], set_mir (x := -1) hlen.out hlt g1 g2 _ (by simp [g1]) ?_ ?_ ?_⟩
              · rw [HJ.out]; simp [hjl]
              · intro t ht; rw [HJ.out] at ht; simp [List.getElem?_set_ne (Ne.symm ht)]
              · have := HMS.out; rw [if_neg (by decide)] at this; exact this
            case measure => simp [intOf]; omega
        · have HL : Hid (l = mir h) := by
            show _ = _
            exact mir_all hlen.out hinv.out.1 (fun i hi => hinv.out.2 i (by omega))
          have hml : (mir h).length = n := by rw [mir_len]; exact hlen.out
          have hbm : Blk wr w1.heap.size 3 (ints (mir h)).toArray := by rw [← HL.out]; exact hbl
          have HML := Lib.hid hml
          clear hinv hbl HL hml
          have HI := Lib.hid (mir_iff HG.out)
          go_wp2_with fail
          refine (projective_any A n c h _ hn ((hsl.under hB).up hB.size)).mono ?_
          rintro e w2 ⟨b, rfl, hb, hb2⟩
          have hB2 := hB.trans (hb2.mono hB.size)
          have HBB := Lib.hid hb
          clear hb
          go_wp2_with fail
          refine (projective_any (some ⟨w1.heap.size, 0, none⟩) n n (mir h) _ hn ((hbm.below hb2).sl HML.out)).mono ?_
          rintro e w3 ⟨b', rfl, hb', hb3⟩
          have hB3 := hB2.trans (hb3.mono hB2.size)
          obtain rfl : b' = b := by
            have h1 := HBB.out
            have h2 := HI.out
            cases b <;> cases b' <;> simp_all
          have E2 : (b' != b') = false := by simp
          clear hb' HML hbm hb2 hb3 hb1
          cases b' with
          | false =>
            clear HBB HI E2
            go_wp2
            go_loopw [63] (fun iv wr => ∃ k : Nat, k ≤ n ∧ iv = .int .i64 k ∧ wr = w3) (fun iv _ => n - (intOf iv).toNat)
            case atStart => exact ⟨0, by omega, rfl, rfl⟩
            case round =>
              obtain ⟨k, hk, rfl, hw⟩ := hrel
              have hw := hw.symm
              subst hw
              by_cases hlt : k < n
              · obtain ⟨g, o, hk', rfl, hg, c0⟩ := (hsl.under hB3).int hlt
                have hnx := nx_at hk'
                have hok := HG.out.ok _ (List.getElem_mem hk')
                obtain ⟨x, hx⟩ : ∃ x, h[k] = x := ⟨_, rfl⟩
                rw [hx] at c0 hnx hok
                have hx1 := hok.1
                have HX := Lib.hid hnx
                have HK := Lib.hid hk'
                clear hx hnx hok hk'
                go_wp2
                go_loopw [70] (fun jv wr => ∃ j : Nat, j ≤ n ∧ jv = .int .i64 j ∧ wr = w3) (fun jv _ => n - (intOf jv).toNat)
                case atStart => exact ⟨0, by omega, rfl, rfl⟩
                case round =>
                  obtain ⟨j, hj, rfl, hw⟩ := hrel
                  have hw := hw.symm
                  subst hw
                  by_cases hjt : j < n
                  · obtain ⟨g2, o2, hj', e2, hg2, c1⟩ := (hsl.under hB3).int hjt
                    cases e2
                    have hnx := nx_at hj'
                    have hok := HG.out.ok _ (List.getElem_mem hj')
                    obtain ⟨y, hy⟩ : ∃ y, h[j] = y := ⟨_, rfl⟩
                    rw [hy] at c1 hnx hok
                    have hy1 := hok.1
                    have HY := Lib.hid hnx
                    have HJ := Lib.hid hj'
                    clear hy hnx hok hj'
                    go_wp2
                    go_roundw
                    case rel => (first | exact ⟨j + 1, by omega, by go_num, trivial⟩ | exact ⟨j + 1, by omega, by go_num⟩ | exact ⟨j + 1, by omega, by go_num, rfl⟩ | ((repeat apply Exists.intro); exact ⟨⟨j + 1, by omega, by go_num, rfl⟩, rfl⟩))
                    case measure => simp [intOf]; omega
                  · go_wp2
                    go_roundw
                    case rel => (first | exact ⟨k + 1, by omega, by go_num, trivial⟩ | exact ⟨k + 1, by omega, by go_num⟩ | exact ⟨k + 1, by omega, by go_num, rfl⟩ | ((repeat apply Exists.intro); exact ⟨⟨k + 1, by omega, by go_num, rfl⟩, rfl⟩))
                    case measure => simp [intOf]; omega
              · go_wp2_with fail
                refine (awake_any _).mono ?_
                rintro e w5 ⟨rfl, hb5⟩
                go_wp2
                go_ret
                exact ⟨ret_bool rfl, hB3.trans (hb5.mono hB3.size)⟩
          | true =>
            have HPJ := Lib.hid (HBB.out.1 rfl)
            clear HBB HI E2
            go_wp2
            go_loopw [63] (fun iv wr => ∃ k : Nat, k ≤ n ∧ iv = .int .i64 k ∧ wr = w3) (fun iv _ => n - (intOf iv).toNat)
            case atStart => exact ⟨0, by omega, rfl, rfl⟩
            case round =>
              obtain ⟨k, hk, rfl, hw⟩ := hrel
              have hw := hw.symm
              subst hw
              by_cases hlt : k < n
              · obtain ⟨g, o, hk', rfl, hg, c0⟩ := (hsl.under hB3).int hlt
                have hnx := nx_at hk'
                have hok := HG.out.ok _ (List.getElem_mem hk')
                obtain ⟨x, hx⟩ : ∃ x, h[k] = x := ⟨_, rfl⟩
                rw [hx] at c0 hnx hok
                have hx1 := hok.1
                have HX := Lib.hid hnx
                have HK := Lib.hid hk'
                clear hx hnx hok hk'
                go_wp2
                go_loopw [70] (fun jv wr => ∃ j : Nat, j ≤ n ∧ jv = .int .i64 j ∧ wr = w3) (fun jv _ => n - (intOf jv).toNat)
                case atStart => exact ⟨0, by omega, rfl, rfl⟩
                case round =>
                  obtain ⟨j, hj, rfl, hw⟩ := hrel
                  have hw := hw.symm
                  subst hw
                  by_cases hjt : j < n
                  · obtain ⟨g2, o2, hj', e2, hg2, c1⟩ := (hsl.under hB3).int hjt
                    cases e2
                    have hnx := nx_at hj'
                    have hok := HG.out.ok _ (List.getElem_mem hj')
                    obtain ⟨y, hy⟩ : ∃ y, h[j] = y := ⟨_, rfl⟩
                    rw [hy] at c1 hnx hok
                    have hy1 := hok.1
                    have HY := Lib.hid hnx
                    have HJ := Lib.hid hj'
                    clear hy hnx hok hj'
                    by_cases hx0 : x < 0
                    · obtain rfl : x = -1 := by omega
                      clear hx0
                      go_wp2
                      go_roundw
                      case rel => (first | exact ⟨j + 1, by omega, by go_num, trivial⟩ | exact ⟨j + 1, by omega, by go_num⟩ | exact ⟨j + 1, by omega, by go_num, rfl⟩ | ((repeat apply Exists.intro); exact ⟨⟨j + 1, by omega, by go_num, rfl⟩, rfl⟩))
                      case measure => simp [intOf]; omega
                    · by_cases hy0 : y < 0
                      · obtain rfl : y = -1 := by omega
                        clear hy0
                        go_wp2
                        go_roundw
                        case rel => (first | exact ⟨j + 1, by omega, by go_num, trivial⟩ | exact ⟨j + 1, by omega, by go_num⟩ | exact ⟨j + 1, by omega, by go_num, rfl⟩ | ((repeat apply Exists.intro); exact ⟨⟨j + 1, by omega, by go_num, rfl⟩, rfl⟩))
                        case measure => simp [intOf]; omega
                      · obtain ⟨X, rfl⟩ : ∃ X : Nat, x = X := ⟨x.toNat, by omega⟩
                        obtain ⟨Y, rfl⟩ : ∃ Y : Nat, y = Y := ⟨y.toNat, by omega⟩
                        have hno := Lib.hid (no_cross HPJ.out HK.out HJ.out HX.out HY.out)
                        have hkx := head_ne HG.out HK.out HX.out
                        have hjy := head_ne HG.out HJ.out HY.out
                        clear hx0 hy0
                        rcases Nat.lt_or_gt_of_ne hkx with a1 | a1
                        · have a2 : (k : Int) < (X : Int) := by omega
                          rcases Nat.lt_or_gt_of_ne hjy with b1 | b1
                          · have b2 : (j : Int) < (Y : Int) := by omega
                            clear hkx hjy
                            by_cases h1 : (k : Int) < (j : Int)
                            · by_cases h2 : (j : Int) < (X : Int)
                              · have h3 : ¬ (X : Int) < (Y : Int) := fun h3 => hno.out (by omega)
                                go_wp2
                                go_roundw
                                case rel => (first | exact ⟨j + 1, by omega, by go_num, trivial⟩ | exact ⟨j + 1, by omega, by go_num⟩ | exact ⟨j + 1, by omega, by go_num, rfl⟩ | ((repeat apply Exists.intro); exact ⟨⟨j + 1, by omega, by go_num, rfl⟩, rfl⟩))
                                case measure => simp [intOf]; omega
                              · go_wp2
                                go_roundw
                                case rel => (first | exact ⟨j + 1, by omega, by go_num, trivial⟩ | exact ⟨j + 1, by omega, by go_num⟩ | exact ⟨j + 1, by omega, by go_num, rfl⟩ | ((repeat apply Exists.intro); exact ⟨⟨j + 1, by omega, by go_num, rfl⟩, rfl⟩))
                                case measure => simp [intOf]; omega
                            · go_wp2
                              go_roundw
                              case rel => (first | exact ⟨j + 1, by omega, by go_num, trivial⟩ | exact ⟨j + 1, by omega, by go_num⟩ | exact ⟨j + 1, by omega, by go_num, rfl⟩ | ((repeat apply Exists.intro); exact ⟨⟨j + 1, by omega, by go_num, rfl⟩, rfl⟩))
                              case measure => simp [intOf]; omega
                          · have b2 : (Y : Int) < (j : Int) := by omega
                            clear hkx hjy
                            by_cases h1 : (k : Int) < (Y : Int)
                            · by_cases h2 : (Y : Int) < (X : Int)
                              · have h3 : ¬ (X : Int) < (j : Int) := fun h3 => hno.out (by omega)
                                go_wp2
                                go_roundw
                                case rel => (first | exact ⟨j + 1, by omega, by go_num, trivial⟩ | exact ⟨j + 1, by omega, by go_num⟩ | exact ⟨j + 1, by omega, by go_num, rfl⟩ | ((repeat apply Exists.intro); exact ⟨⟨j + 1, by omega, by go_num, rfl⟩, rfl⟩))
                                case measure => simp [intOf]; omega
                              · go_wp2
                                go_roundw
                                case rel => (first | exact ⟨j + 1, by omega, by go_num, trivial⟩ | exact ⟨j + 1, by omega, by go_num⟩ | exact ⟨j + 1, by omega, by go_num, rfl⟩ | ((repeat apply Exists.intro); exact ⟨⟨j + 1, by omega, by go_num, rfl⟩, rfl⟩))
                                case measure => simp [intOf]; omega
                            · go_wp2
                              go_roundw
                              case rel => (first | exact ⟨j + 1, by omega, by go_num, trivial⟩ | exact ⟨j + 1, by omega, by go_num⟩ | exact ⟨j + 1, by omega, by go_num, rfl⟩ | ((repeat apply Exists.intro); exact ⟨⟨j + 1, by omega, by go_num, rfl⟩, rfl⟩))
                              case measure => simp [intOf]; omega
                        · have a2 : (X : Int) < (k : Int) := by omega
                          rcases Nat.lt_or_gt_of_ne hjy with b1 | b1
                          · have b2 : (j : Int) < (Y : Int) := by omega
                            clear hkx hjy
                            by_cases h1 : (X : Int) < (j : Int)
                            · by_cases h2 : (j : Int) < (k : Int)
                              · have h3 : ¬ (k : Int) < (Y : Int) := fun h3 => hno.out (by omega)
                                go_wp2
                                go_roundw
                                case rel => (first | exact ⟨j + 1, by omega, by go_num, trivial⟩ | exact ⟨j + 1, by omega, by go_num⟩ | exact ⟨j + 1, by omega, by go_num, rfl⟩ | ((repeat apply Exists.intro); exact ⟨⟨j + 1, by omega, by go_num, rfl⟩, rfl⟩))
                                case measure => simp [intOf]; omega
                              · go_wp2
                                go_roundw
                                case rel => (first | exact ⟨j + 1, by omega, by go_num, trivial⟩ | exact ⟨j + 1, by omega, by go_num⟩ | exact ⟨j + 1, by omega, by go_num, rfl⟩ | ((repeat apply Exists.intro); exact ⟨⟨j + 1, by omega, by go_num, rfl⟩, rfl⟩))
                                case measure => simp [intOf]; omega
                            · go_wp2
                              go_roundw
                              case rel => (first | exact ⟨j + 1, by omega, by go_num, trivial⟩ | exact ⟨j + 1, by omega, by go_num⟩ | exact ⟨j + 1, by omega, by go_num, rfl⟩ | ((repeat apply Exists.intro); exact ⟨⟨j + 1, by omega, by go_num, rfl⟩, rfl⟩))
                              case measure => simp [intOf]; omega
                          · have b2 : (Y : Int) < (j : Int) := by omega
                            clear hkx hjy
                            by_cases h1 : (X : Int) < (Y : Int)
                            · by_cases h2 : (Y : Int) < (k : Int)
                              · have h3 : ¬ (k : Int) < (j : Int) := fun h3 => hno.out (by omega)
                                go_wp2
                                go_roundw
                                case rel => (first | exact ⟨j + 1, by omega, by go_num, trivial⟩ | exact ⟨j + 1, by omega, by go_num⟩ | exact ⟨j + 1, by omega, by go_num, rfl⟩ | ((repeat apply Exists.intro); exact ⟨⟨j + 1, by omega, by go_num, rfl⟩, rfl⟩))
                                case measure => simp [intOf]; omega
                              · go_wp2
                                go_roundw
                                case rel => (first | exact ⟨j + 1, by omega, by go_num, trivial⟩ | exact ⟨j + 1, by omega, by go_num⟩ | exact ⟨j + 1, by omega, by go_num, rfl⟩ | ((repeat apply Exists.intro); exact ⟨⟨j + 1, by omega, by go_num, rfl⟩, rfl⟩))
                                case measure => simp [intOf]; omega
                            · go_wp2
                              go_roundw
                              case rel => (first | exact ⟨j + 1, by omega, by go_num, trivial⟩ | exact ⟨j + 1, by omega, by go_num⟩ | exact ⟨j + 1, by omega, by go_num, rfl⟩ | ((repeat apply Exists.intro); exact ⟨⟨j + 1, by omega, by go_num, rfl⟩, rfl⟩))
                              case measure => simp [intOf]; omega
                  · go_wp2
                    go_roundw
                    case rel => (first | exact ⟨k + 1, by omega, by go_num, trivial⟩ | exact ⟨k + 1, by omega, by go_num⟩ | exact ⟨k + 1, by omega, by go_num, rfl⟩ | ((repeat apply Exists.intro); exact ⟨⟨k + 1, by omega, by go_num, rfl⟩, rfl⟩))
                    case measure => simp [intOf]; omega
              · go_wp2_with fail
                refine (awake_any _).mono ?_
                rintro e w5 ⟨rfl, hb5⟩
                go_wp2
                go_ret
                exact ⟨ret_bool rfl, hB3.trans (hb5.mono hB3.size)⟩
    · have E : (((chk h).2 : Int) != 0) = true := by rw [bne_iff_ne]; omega
      clear hc
      go_enter Try.func8, Try.ntmps8
      go_wp2_with fail
      refine (depCheck_any A n c h _ hn hsl).mono ?_
      rintro e w1 ⟨rfl, hb1⟩
      go_wp2
      go_ret
      exact ⟨rfl, hb1⟩
end Go.Proofs.Ytnbnmomichegaaa
