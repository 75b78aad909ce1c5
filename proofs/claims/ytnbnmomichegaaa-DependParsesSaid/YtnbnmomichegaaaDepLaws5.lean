/-
  The law DependParses: it returns true for every text and number. Condition: the text's length is an int.
-/
import Derived.Test.YtnbnmomichegaaaDepSame
import Derived.Test.YtnbnmomichegaaaDepLaws
namespace Go.Proofs.Ytnbnmomichegaaa
open Go.RowKit Utf Dep
open Feat (Bs)

namespace Dep
theorem parseA_len {d : Bs} {t : Int} : (parseA d t).1.length ≤ 4096 ∧ (parseA d t).2.1.length ≤ 4096 := by
  by_cases h1 : t < 0 ∨ 4096 < t
  · rw [parseA_arg h1]; exact ⟨Nat.zero_le _, Nat.zero_le _⟩
  · by_cases h2 : 1048576 < d.length
    · rw [parseA_long h1 h2]; exact ⟨Nat.zero_le _, Nat.zero_le _⟩
    · obtain ⟨T, rfl⟩ : ∃ T : Nat, t = T := ⟨t.toNat, by omega⟩
      have hT : T ≤ 4096 := by omega
      rw [parseA_in hT h2]
      have hok := parseD_ok d T
      cases hp : parseD d T with
      | error p =>
        obtain ⟨a, e⟩ := p
        rw [parseO_err hp]; exact ⟨Nat.zero_le _, Nat.zero_le _⟩
      | ok p =>
        obtain ⟨H, R, O⟩ := p
        rw [hp] at hok
        obtain ⟨g1, g2, g3, g4⟩ := hok
        by_cases hf : H.length < T
        · rw [parseO_few hp hf]; exact ⟨Nat.zero_le _, Nat.zero_le _⟩
        · by_cases hc : (chk H).2 = 0
          · rw [parseO_ok hp hf hc]; exact ⟨by show H.length ≤ _; omega, by show R.length ≤ _; omega⟩
          · rw [parseO_chk hp hf hc]; exact ⟨Nat.zero_le _, Nat.zero_le _⟩
end Dep
theorem decStr_true (a : List Bs) : decide (a = a) = true := by simp
attribute [local go_sem] byte_mk ByteArray.extract_mk

set_option maxRecDepth 100000 in
set_option maxHeartbeats 2000000 in
theorem law_parses (d : Bs) (t : Int) (hd : d.length ≤ 9223372036854775807) (w : World) :
    Calls Try.prog 9 #[str d, .int .i64 t] w (Gave (.bool true) w) := by
  by_cases h1 : 1500 < d.length
  · go_enter Try.func9, Try.ntmps9
    go_wp2
    go_ret
    exact ⟨rfl, Below.refl _ _⟩
  · have hp1 := fun W => depParse_any d t hd W
    have hp2 := fun W => refTop_any d t hd W
    have hlen := parseA_len (d := d) (t := t)
    obtain ⟨PH, PR, px, py, pe, hp⟩ : ∃ PH PR px py pe, parseA d t = (PH, PR, (px, py), pe) := ⟨_, _, _, _, _, rfl⟩
    unfold Parsd at hp1 hp2
    rw [hp] at hp1 hp2 hlen
    dsimp only at hp1 hp2 hlen
    have HP1 := Lib.hid hp1
    have HP2 := Lib.hid hp2
    obtain ⟨hl1, hl2⟩ := hlen
    have HL1 := Lib.hid hl1
    have HL2 := Lib.hid hl2
    clear hp1 hp2 hp hl1 hl2
    go_enter Try.func9, Try.ntmps9
    go_wp2_with fail
    refine (HP1.out _).mono ?_
    rintro en w1 ⟨v1, v2, rfl, own1, own2, hb1⟩
    obtain ⟨A1, c1, rfl, -, -⟩ := own_slc own1
    obtain ⟨A2, c2, rfl, -, -⟩ := own_slc own2
    have hP := Blk.new w1 36 #[.int .i64 (px : Nat), .int .i64 (py : Nat)]
    have hB1 := hb1.alloc hb1.size (.cells #[.int .i64 (px : Nat), .int .i64 (py : Nat)] 36)
    have O1 := Lib.hid (own1.alloc (.cells #[.int .i64 (px : Nat), .int .i64 (py : Nat)] 36))
    have O2 := Lib.hid (own2.alloc (.cells #[.int .i64 (px : Nat), .int .i64 (py : Nat)] 36))
    clear own1 own2
    go_wp2_with fail
    refine (HP2.out _).mono ?_
    rintro en w2 ⟨v1, v2, rfl, own3, own4, hb2⟩
    obtain ⟨A3, c3, rfl, -, -⟩ := own_slc own3
    obtain ⟨A4, c4, rfl, -, -⟩ := own_slc own4
    have hP2 := (Blk.below hP hb2).alloc (.cells #[.int .i64 (px : Nat), .int .i64 (py : Nat)] 36)
    have hQ2 := Blk.new w2 36 #[.int .i64 (px : Nat), .int .i64 (py : Nat)]
    have hB2' := hB1.trans (Below.mono hb2 hB1.size)
    have hB2 := hB2'.alloc hB2'.size (.cells #[.int .i64 (px : Nat), .int .i64 (py : Nat)] 36)
    have S1 := own_sl ((own_below O1.out hb2).alloc (.cells #[.int .i64 (px : Nat), .int .i64 (py : Nat)] 36))
    have S2 := own_sl ((own_below O2.out hb2).alloc (.cells #[.int .i64 (px : Nat), .int .i64 (py : Nat)] 36))
    have S3 := own_sl (own3.alloc (.cells #[.int .i64 (px : Nat), .int .i64 (py : Nat)] 36))
    have S4 := own_sl (own4.alloc (.cells #[.int .i64 (px : Nat), .int .i64 (py : Nat)] 36))
    clear own3 own4 O1 O2 hB2' hB1 hb1 hb2 hP HP1 HP2
    have T1 := Lib.hid S1
    have T2 := Lib.hid S2
    have T3 := Lib.hid S3
    have T4 := Lib.hid S4
    have q0 := hP2.cell 0
    have q1 := hP2.cell 1
    have r0 := hQ2.cell 0
    have r1 := hQ2.cell 1
    simp only [List.getElem?_toArray, List.getElem?_cons_zero, List.getElem?_cons_succ] at q0 q1 r0 r1
    clear S1 S2 S3 S4
    go_wp2_with fail
    refine (sameInts_any A1 A3 _ _ c1 c3 _ _ _ (by have := HL1.out; omega) (by have := HL1.out; omega) T1.out T3.out).mono ?_
    rintro en w3 ⟨rfl, q, rfl⟩
    rw [decEq_true]
    go_wp2_with fail
    refine (sameStrs_any A2 A4 _ _ c2 c4 _ _ ((w2.alloc (.cells #[.int .i64 (px : Nat), .int .i64 (py : Nat)] 36)).drewN q) (by have := HL2.out; omega) (by have := HL2.out; omega) T2.out T4.out).mono ?_
    rintro en w4 ⟨rfl, q3, rfl⟩
    rw [decStr_true]
    go_wp2_with fail
    refine (awake_any _).mono ?_
    rintro en w5 ⟨rfl, hb5⟩
    go_wp2
    go_ret
    have B3 := below_drewN hB2 (q + q3)
    exact ⟨ret_bool rfl, B3.trans (hb5.mono B3.size)⟩
end Go.Proofs.Ytnbnmomichegaaa
