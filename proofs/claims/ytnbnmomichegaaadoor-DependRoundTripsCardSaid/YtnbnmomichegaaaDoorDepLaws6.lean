/-
  The laws DependFormats and DependRoundTrips return true. Conditions: the arguments' lengths are ints; the table of powers of ten reads as it is laid.
-/
import Derived.Test.YtnbnmomichegaaaDoorDepRefFmt
import Derived.Test.YtnbnmomichegaaaDoorDepSame
import Derived.Test.YtnbnmomichegaaaDoorDepAwake
namespace Go.Proofs.YtnbnmomichegaaaDoor
set_option linter.unusedSimpArgs false
set_option linter.unusedVariables false
open Go.RowKit Utf Dep
open Feat (Bs)

set_option maxRecDepth 100000 in
set_option maxHeartbeats 4000000 in
theorem law_formats (A B : Option Addr) (n m c d : Nat) (h : List Int) (l : List Bs) (w : World) (hn : n ≤ 9223372036854775807) (hm : m ≤ 9223372036854775807) (hsl : Sl w w.heap.size 1 A n (ints h)) (hst : Sl w w.heap.size 1 B m (strs l)) (hle : ∀ s ∈ l, s.length ≤ 9223372036854775807)
    (htab : Lib.TabIs Tryd.prog w "internal/strconv.uint64pow10" .u64 Lib.pow10Tab) :
    Calls Tryd.prog 3 #[.slice A n c, .slice B m d] w (Gave (.bool true) w) := by
  by_cases h1 : 100 < n
  · go_enter Tryd.func3, Tryd.ntmps3
    go_wp2
    go_ret
    exact ⟨rfl, Below.refl _ _⟩
  · by_cases h2 : 110 < m
    · go_enter Tryd.func3, Tryd.ntmps3
      go_wp2
      go_ret
      exact ⟨rfl, Below.refl _ _⟩
    · have F1 := format_any A B n m c d h l w (by omega) (by omega) hsl hst hle (Lib.tabBelow_of_tabIs htab)
      have F2 := Lib.hid (fun (W : World) (hW : Below w.heap.size w W) => refFormat_any A B n m c d h l W (by omega) (by omega) ((hsl.under hW).up hW.size) ((hst.under hW).up hW.size) hle)
      obtain ⟨⟨s, e⟩, hx⟩ : ∃ x, fmtA h l = x := ⟨_, rfl⟩
      unfold Fmtd at F1 F2
      rw [hx] at F1 F2
      obtain ⟨z, hz⟩ : ∃ z : Int, (e : Int) = z := ⟨_, rfl⟩
      simp only [hz] at F1 F2
      have F1 := Lib.hid F1
      clear hx hz hsl hst hle htab
      go_enter Tryd.func3, Tryd.ntmps3
      go_wp2_with (first
        | (go_at_call 6; refine F1.out.mono ?_; rintro e' w2 ⟨rfl, hb2⟩)
        | (go_at_call 7; refine (F2.out _ hb2).mono ?_; rintro e' w3 ⟨rfl, hb3⟩)
        | (go_at_call 8; refine (awake_any _).mono ?_; rintro e' w4 ⟨rfl, hb4⟩))
      go_ret
      have h3 := hb2.trans (hb3.mono hb2.size)
      exact ⟨rfl, h3.trans (hb4.mono h3.size)⟩

theorem fmtA_err {h : List Int} {l : List Bs} {s : Bs} {e : Nat} (hf : fmtA h l = (s, e)) (he : ¬ e = 0) : s = [] := by
  unfold fmtA at hf
  split at hf
  · exact (congrArg Prod.fst hf).symm
  · split at hf
    · exact (congrArg Prod.fst hf).symm
    · split at hf
      · exact (congrArg Prod.fst hf).symm
      · exact absurd (congrArg Prod.snd hf).symm he
theorem dec_self {α : Type} [DecidableEq α] (a : α) : decide (a = a) = true := decide_eq_true rfl

set_option maxRecDepth 100000 in
set_option maxHeartbeats 4000000 in
theorem law_roundtrips (A B : Option Addr) (n m c d : Nat) (h : List Int) (l : List Bs) (w : World) (hn : n ≤ 9223372036854775807) (hm : m ≤ 9223372036854775807) (hsl : Sl w w.heap.size 1 A n (ints h)) (hst : Sl w w.heap.size 1 B m (strs l)) (hle : ∀ s ∈ l, s.length ≤ 9223372036854775807)
    (htab : Lib.TabIs Tryd.prog w "internal/strconv.uint64pow10" .u64 Lib.pow10Tab) :
    Calls Tryd.prog 4 #[.slice A n c, .slice B m d] w (Gave (.bool true) w) := by
  by_cases h1 : 100 < n
  · go_enter Tryd.func4, Tryd.ntmps4
    go_wp2
    go_ret
    exact ⟨rfl, Below.refl _ _⟩
  · by_cases h2 : 110 < m
    · go_enter Tryd.func4, Tryd.ntmps4
      go_wp2
      go_ret
      exact ⟨rfl, Below.refl _ _⟩
    · have F1 := format_any A B n m c d h l w (by omega) (by omega) hsl hst hle (Lib.tabBelow_of_tabIs htab)
      obtain ⟨⟨s, e⟩, hx⟩ : ∃ x, fmtA h l = x := ⟨_, rfl⟩
      unfold Fmtd at F1
      rw [hx] at F1
      obtain ⟨z, hz⟩ : ∃ z : Int, (e : Int) = z := ⟨_, rfl⟩
      simp only [hz] at F1
      have F1 := Lib.hid F1
      have HX := Lib.hid hx
      have HZ := Lib.hid hz
      have HSL := Lib.hid hsl
      have HST := Lib.hid hst
      have HHN : Hid (h.length = n) := hsl.ilen
      have HLM : Hid (l.length = m) := hst.len
      clear hx hz hsl hst hle htab
      by_cases he : e = 0
      · obtain rfl : z = 0 := by have := HZ.out; omega
        subst he
        by_cases hs : s = []
        · subst hs
          go_enter Tryd.func4, Tryd.ntmps4
          go_wp2_with (first
            | (go_at_call 6; refine F1.out.mono ?_; rintro e' w2 ⟨rfl, hb2⟩)
            | (go_at_call 8; refine (awake_any _).mono ?_; rintro e' w4 ⟨rfl, hb4⟩))
          go_ret
          exact ⟨rfl, hb2.trans (hb4.mono hb2.size)⟩
        · obtain ⟨r1, r2, r3⟩ := round_back HX.out hs
          rw [HHN.out] at r1 r2 r3
          have hp := List.length_pos_iff.2 hs
          have hp1 := fun W => depParse_any s (n : Nat) (by omega) W
          have hp2 := fun W => depParse_any s.dropLast (n : Nat) (by simp; omega) W
          unfold Parsd at hp1 hp2
          simp only [r1] at hp1
          simp only [r2] at hp2
          have HP1 := Lib.hid hp1
          have HP2 := Lib.hid hp2
          have hsl1 : ∀ W, (Instr.slice 9 (str s) none (some (.int .i64 ((s.length : Int) - 1))) none).run Tryd.prog W = .ok (str s.dropLast) W := fun W => by
            rw [show ((s.length : Int) - 1) = ((s.length - 1 : Nat) : Int) by omega, str_to 9 Tryd.underlying9 s (s.length - 1) (by omega), List.dropLast_eq_take]
          have hls : s.length ≤ 5400 := by omega
          have d1 : ((s.length : Int) == 0) = false := by rw [beq_eq_false_iff_ne]; omega
          have d2 : (s.length == 0) = false := by rw [beq_eq_false_iff_ne]; omega
          clear hp1 hp2 r1 r2 r3 hs
          go_enter Tryd.func4, Tryd.ntmps4
          go_wp2_with (go_at_call 6; refine F1.out.mono ?_; rintro e' w1 ⟨rfl, hb1⟩; refine Hid.out ?_)
          refine Lib.hid ?_
          clear F1
          go_wp2_with (go_at_call 9; refine (HP1.out _).mono ?_; rintro e' w2 ⟨v1, v2, rfl, own1, own2, hb2⟩; refine Hid.out ?_)
          refine Lib.hid ?_
          obtain ⟨A1, c1, rfl, -, -⟩ := own_slc own1
          obtain ⟨A2, c2, rfl, -, -⟩ := own_slc own2
          have hB2 := hb1.trans (hb2.mono hb1.size)
          have hB2a := hB2.alloc hB2.size (.cells #[.int .i64 0, .int .i64 0] 30)
          have O1 := Lib.hid (own1.alloc (.cells #[.int .i64 0, .int .i64 0] 30))
          have O2 := Lib.hid (own2.alloc (.cells #[.int .i64 0, .int .i64 0] 30))
          clear own1 own2 HP1
          go_wp2_with (go_at_call 9; refine (HP2.out _).mono ?_; rintro e' w3 ⟨v3, v4, rfl, own3, own4, hb3⟩; refine Hid.out ?_)
          refine Lib.hid ?_
          obtain ⟨A3, c3, rfl, -, -⟩ := own_slc own3
          obtain ⟨A4, c4, rfl, -, -⟩ := own_slc own4
          have hB3 := hB2a.trans (hb3.mono hB2a.size)
          have hB3a := hB3.alloc hB3.size (.cells #[.int .i64 0, .int .i64 0] 30)
          have T1 := Lib.hid (own_sl ((own_below O1.out hb3).alloc (.cells #[.int .i64 0, .int .i64 0] 30)))
          have T2 := Lib.hid (own_sl ((own_below O2.out hb3).alloc (.cells #[.int .i64 0, .int .i64 0] 30)))
          have T3 := Lib.hid (own_sl (own3.alloc (.cells #[.int .i64 0, .int .i64 0] 30)))
          have T4 := Lib.hid (own_sl (own4.alloc (.cells #[.int .i64 0, .int .i64 0] 30)))
          have TH := Lib.hid ((HSL.out.under hB3a).up hB3a.size)
          have TL := Lib.hid ((HST.out.under hB3a).up hB3a.size)
          clear own3 own4 O1 O2 HP2 hB2 hB2a hb3 hb2 hsl1
          have hlh : h.length ≤ 9223372036854775807 := by have := HHN.out; omega
          have hll : l.length ≤ 9223372036854775807 := by have := HLM.out; omega
          go_wp2_with fail
          refine (sameInts_any A1 A _ _ c1 c _ _ _ hlh hn T1.out TH.out).mono ?_
          rintro en w4 ⟨rfl, q1, rfl⟩
          rw [dec_self]
          go_wp2_with fail
          refine (sameInts_any A3 A _ _ c3 c _ _ ((w3.alloc (.cells #[.int .i64 0, .int .i64 0] 30)).drewN q1) hlh hn T3.out TH.out).mono ?_
          rintro en w5 ⟨rfl, q2, rfl⟩
          rw [dec_self]
          go_wp2_with fail
          refine (sameStrs_any A2 B _ _ c2 d _ _ ((w3.alloc (.cells #[.int .i64 0, .int .i64 0] 30)).drewN (q1 + q2)) hll hm T2.out TL.out).mono ?_
          rintro en w6 ⟨rfl, q3, rfl⟩
          rw [dec_self]
          go_wp2_with fail
          refine (sameStrs_any A4 B _ _ c4 d _ _ ((w3.alloc (.cells #[.int .i64 0, .int .i64 0] 30)).drewN (q1 + q2 + q3)) hll hm T4.out TL.out).mono ?_
          rintro en w7 ⟨rfl, q4, rfl⟩
          rw [dec_self]
          go_wp2_with fail
          refine (awake_any _).mono ?_
          rintro en w8 ⟨rfl, hb8⟩
          go_wp2
          go_ret
          have B4 : Below w.heap.size w ((w3.alloc (.cells #[.int .i64 0, .int .i64 0] 30)).drewN (q1 + q2 + q3 + q4)) := below_drewN hB3a _
          exact ⟨rfl, B4.trans (hb8.mono B4.size)⟩
      · have hs := fmtA_err HX.out he
        subst hs
        have e1 : (z == 0) = false := by rw [beq_eq_false_iff_ne]; have := HZ.out; omega
        have e2 : (z != 0) = true := by rw [bne_iff_ne]; have := HZ.out; omega
        go_enter Tryd.func4, Tryd.ntmps4
        go_wp2_with (first
          | (go_at_call 6; refine F1.out.mono ?_; rintro e' w2 ⟨rfl, hb2⟩)
          | (go_at_call 8; refine (awake_any _).mono ?_; rintro e' w4 ⟨rfl, hb4⟩))
        go_ret
        exact ⟨rfl, hb2.trans (hb4.mono hb2.size)⟩
end Go.Proofs.YtnbnmomichegaaaDoor
