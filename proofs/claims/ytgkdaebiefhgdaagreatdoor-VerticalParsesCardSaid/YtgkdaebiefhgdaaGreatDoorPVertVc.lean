/-
 Several texts of this seat, one behind the other: VertVal, VertChk. No conditions but those of each.
-/
import Derived.Test.YtgkdaebiefhgdaaGreatDoorPCorAtx
import Derived.Test.YtgkdaebiefhgdaaGreatDoorPVert
import Derived.Test.YtgkdaebiefhgdaaGreatDoorPCorVal
import Derived.Test.YtgkdaebiefhgdaaGreatDoorPCorExP
namespace Go.Proofs.YtgkdaebiefhgdaaGreatDoor
open Go.RowKit Utf
open Feat (Bs)
open Cor (vlErr)
set_option maxRecDepth 100000 in
theorem vertValue_any (a : At) (v : Bs) (hv : v.length ≤ 9223372036854775807) (w : World) :
  Calls Tryz.prog 98 #[.agg #[str a.1, .bool a.2], str v] w (Kept (.int .i64 (vlErr a v : Nat)) w) := by
 obtain ⟨x, b⟩ := a
 have hB0 := (Below.refl w.heap.size w).alloc (Nat.le_refl _) (.cells #[str x, .bool b] 73)
 cases b with
 | true =>
  have HF : Hid (vlErr (x, true) v = (Feat.parse v).2) := by show _ = _; unfold vlErr; rw [if_pos rfl]
  go_enter Tryz.func98, Tryz.ntmps98
  go_wp2_with fail
  refine (parse_any v hv _).mono ?_
  rintro e w1 ⟨u, rfl, _, hb⟩
  go_wp2
  go_ret
  exact ⟨ret_int (by rw [HF.out]), hB0.trans (hb.mono hB0.size)⟩
 | false =>
  have HF : Hid (vlErr (x, false) v = vErr v) := by show _ = _; unfold vlErr; rw [if_neg (by simp)]
  go_enter Tryz.func98, Tryz.ntmps98
  go_wp2_with fail
  refine (value_any v hv _).mono ?_
  rintro e w1 ⟨rfl, hb⟩
  go_wp2
  go_ret
  exact ⟨ret_int (by rw [HF.out]), hB0.trans (hb.mono hB0.size)⟩
end Go.Proofs.YtgkdaebiefhgdaaGreatDoor
namespace Go.Proofs.YtgkdaebiefhgdaaGreatDoor
set_option linter.unusedSimpArgs false
set_option linter.unusedVariables false
open Go.RowKit
open Feat (Bs)
theorem check_bare (l : List At) : Cor.check ⟨l, [], [], [], [], [], []⟩ = if (Cor.atErr l).2 ≠ 0 then (1, Cor.atErr l) else (0, 0, 0) := by
 unfold Cor.check
 dsimp only
 split
 ·rfl
 ·have h2 : Cor.tkErr l [] = (0, 0) := rfl
  have h3 : Cor.txErr ([] : List (List Bs)).length [] = (0, 0) := rfl
  have h4 : Cor.rgErr [] [] = (0, 0) := rfl
  have h5 : Cor.ndErr [] [] = (0, 0) := rfl
  have h6 : Cor.hdErr ([] : List (List Bs)).length [] [] [] = (0, 0) := rfl
  rw [h2, h3, h4, h5, h6]
  rfl
set_option maxHeartbeats 1000000 in
theorem checkAttributes_any (A : Option Addr) (n c : Nat) (l : List At) (w : World) (ha : Atts w w.heap.size ⟨A, n, c⟩ l) :
  Calls Tryz.prog 21 #[.slice A n c] w (Kept (.bool (decide ((Cor.atErr l).2 = 0))) w) := by
 have hr : Reads w w.heap.size ⟨⟨A, n, c⟩, ⟨none, 0, 0⟩, ⟨none, 0, 0⟩, ⟨none, 0, 0⟩, ⟨none, 0, 0⟩, ⟨none, 0, 0⟩, ⟨none, 0, 0⟩⟩ ⟨l, [], [], [], [], [], []⟩ :=
  ⟨ha, (reads_nil w w.heap.size).t, (reads_nil w w.heap.size).x, (reads_nil w w.heap.size).r, (reads_nil w w.heap.size).n, (reads_nil w w.heap.size).h, (reads_nil w w.heap.size).l⟩
 have hv := validate_any _ _ w hr
 unfold Valed at hv
 rw [check_bare] at hv
 have HV := Lib.hid hv
 clear hv
 by_cases h0 : (Cor.atErr l).2 = 0
 ·have HE : Hid (decide ((Cor.atErr l).2 = 0) = true) := by show _ = _; simp [h0]
  have HV2 := HV.out
  rw [if_neg (by simp [h0])] at HV2
  clear HV
  go_enter Tryz.func21, Tryz.ntmps21
  go_wp2_with fail
  refine HV2.mono ?_
  rintro e w2 ⟨rfl, hb⟩
  go_wp2
  go_ret
  rw [HE.out]
  exact ⟨rfl, hb⟩
 ·have HE : Hid (decide ((Cor.atErr l).2 = 0) = false) := by show _ = _; simp [h0]
  have HV2 := HV.out
  rw [if_pos h0] at HV2
  have h1 : (((Cor.atErr l).2 : Int) == 0) = false := by rw [beq_eq_false_iff_ne]; omega
  clear HV
  go_enter Tryz.func21, Tryz.ntmps21
  go_wp2_with fail
  refine HV2.mono ?_
  rintro e w2 ⟨rfl, hb⟩
  go_wp2
  go_ret
  rw [HE.out]
  exact ⟨rfl, hb⟩
end Go.Proofs.YtgkdaebiefhgdaaGreatDoor
