/-
  The contract of the laws' awake: it returns true and leaves what was there as it was. No conditions.
-/
import Derived.Test.YtnbnmomichegaaaDoorDepParse
import Derived.Test.YtnbnmomichegaaaDoorDepProj
namespace Go.Proofs.YtnbnmomichegaaaDoor
open Go.RowKit Utf Dep
open Feat (Bs)

namespace Dep
def h1 : Hs := [1, -1, 1, 2]
def h2 : Hs := [2, 3, -1, 2]
theorem path_h1 : path h1 0 3 = ([0, 1, 2, 3], 0) := by decide +kernel
theorem depth_h1 : depth h1 3 = 2 := by decide +kernel
theorem proj_h1 : Proj h1 := by
  refine ⟨chk_zero.1 (by decide +kernel), fun d x hd hx p hp h1' h2' => ?_⟩
  exfalso
  have hd4 : d < 4 := hd
  have : d = 0 ∨ d = 1 ∨ d = 2 ∨ d = 3 := by omega
  rcases this with rfl | rfl | rfl | rfl
  · have e : nx h1 ((0 : Nat) : Int) = 1 := by decide +kernel
    rw [e] at hp; omega
  · have e : nx h1 ((1 : Nat) : Int) = -1 := by decide +kernel
    rw [e] at hp; omega
  · have e : nx h1 ((2 : Nat) : Int) = 1 := by decide +kernel
    rw [e] at hp; omega
  · have e : nx h1 ((3 : Nat) : Int) = 2 := by decide +kernel
    rw [e] at hp; omega
theorem not_proj_h2 : ¬ Proj h2 := by
  intro hp
  have := hp.2 1 2 (by decide) (by decide) 3 (by decide +kernel) (by decide) (by decide)
  revert this
  decide +kernel
theorem parseA_ex : parseA [49, 9, 120] 1 = ([], [], (1, 1), 12) := by
  have e : parseD [49, 9, 120] 1 = .ok ([0], [[120]], [0]) := by kernel_rfl
  have h : parseO [49, 9, 120] 1 = ([], [], Pos.posOf [49, 9, 120] 0, 12) := by
    have hc : chk [0] = (0, 12) := by decide +kernel
    rw [parseO_chk e (by decide) (by rw [hc]; decide), hc]; rfl
  have hp : Pos.posOf [49, 9, 120] 0 = (1, 1) := by
    unfold Pos.posOf
    have : (un 0 [49, 9, 120]).takeWhile (fun u => decide (u.2.1 < 0)) = [] := by
      cases un 0 [49, 9, 120] with
      | nil => rfl
      | cons u l => simp
    rw [this]; rfl
  have h2 : parseA [49, 9, 120] 1 = parseO [49, 9, 120] 1 := parseA_in (d := [49, 9, 120]) (T := 1) (by omega) (by decide)
  rw [h2, h, hp]
end Dep
theorem decEq_true {α : Type} [DecidableEq α] (a : α) : decide (a = a) = true := by simp

set_option maxRecDepth 100000 in
set_option maxHeartbeats 2000000 in
theorem awake_any (w : World) : Calls Tryd.prog 8 #[] w (Gave (.bool true) w) := by
  have HP := Lib.hid path_h1
  have HD := Lib.hid depth_h1
  have HA := Lib.hid parseA_ex
  go_enter Tryd.func8, Tryd.ntmps8
  have hB0 := (Below.refl w.heap.size w).alloc (Nat.le_refl _) (.cells #[.int .i64 1, .int .i64 (-1), .int .i64 1, .int .i64 2] 3)
  have sl0 : Sl (w.alloc (.cells #[.int .i64 1, .int .i64 (-1), .int .i64 1, .int .i64 2] 3)) (w.heap.size + 1) 1 (some ⟨w.heap.size, 0, none⟩) 4 (ints h1) := by
    have := own_sl (blk_own (base := w.heap.size) (xs := ints h1) (Blk.new w 3 (ints h1).toArray) (Nat.le_refl _) (by decide))
    exact this.up (by simp)
  have HS := Lib.hid sl0
  clear sl0
  go_wp2_with fail
  refine (path_any (some ⟨w.heap.size, 0, none⟩) 4 4 h1 0 3 _ (by omega) (HS.out.up (by simp))).mono ?_
  rintro en w1 ⟨v, rfl, own1, hb1⟩
  rw [HP.out] at own1 ⊢
  obtain ⟨A1, c1, rfl, -, -⟩ := own_slc own1
  have hB1 := hB0.trans (hb1.mono hB0.size)
  have HS1 : Hid (Sl w1 (w.heap.size + 1) 1 (some ⟨w.heap.size, 0, none⟩) 4 (ints h1)) := HS.out.under (hb1.mono (by simp))
  have hz1 : w.heap.size + 1 ≤ w1.heap.size := by have := hb1.size; simp at this; omega
  have OWN1 := Lib.hid own1
  clear own1 hb1
  go_wp2_with fail
  refine (depParse_any [49, 9, 120] 1 (by simp) _).mono ?_
  rintro en w2 ⟨v1, v2, rfl, -, -, hb2⟩
  rw [HA.out]
  have hB2 := hB1.trans (hb2.mono hB1.size)
  have HS2 : Hid (Sl w2 (w.heap.size + 1) 1 (some ⟨w.heap.size, 0, none⟩) 4 (ints h1)) := HS1.out.under (hb2.mono hz1)
  have OWN2 := Lib.hid (own_below OWN1.out hb2)
  have hz2 : w.heap.size + 1 ≤ w2.heap.size := by have := hb2.size; omega
  clear hb2
  have hB3 := hB2.alloc hB2.size (.cells #[.int .i64 1, .int .i64 1] 30)
  have HS3 : Hid (Sl (w2.alloc (.cells #[.int .i64 1, .int .i64 1] 30)) (w.heap.size + 1) 1 (some ⟨w.heap.size, 0, none⟩) 4 (ints h1)) := HS2.out.under ((Below.refl _ _).alloc hz2 _)
  have OWN3 := Lib.hid (OWN2.out.alloc (.cells #[.int .i64 1, .int .i64 1] 30))
  have hpb := Blk.new w2 30 #[.int .i64 1, .int .i64 1]
  go_wp2_with fail
  refine (depth_any (some ⟨w.heap.size, 0, none⟩) 4 4 h1 3 _ (by omega) (HS3.out.up (by simp; omega))).mono ?_
  rintro en w4 ⟨rfl, hb4⟩
  rw [HD.out]
  have hB4 := hB3.trans (hb4.mono hB3.size)
  have HS4 : Hid (Sl w4 (w.heap.size + 1) 1 (some ⟨w.heap.size, 0, none⟩) 4 (ints h1)) := HS3.out.under (hb4.mono (by simp; omega))
  have OWN4 := Lib.hid (own_below OWN3.out hb4)
  have hpb4 := hpb.below hb4
  have hz4 : w2.heap.size + 1 ≤ w4.heap.size := by have := hb4.size; simp at this; omega
  have HL := Lib.hid (blk_own (base := w4.heap.size) (xs := ints [0, 1, 2, 3]) (Blk.new w4 3 (ints [0, 1, 2, 3]).toArray) (Nat.le_refl _) (by decide))
  have OWN5 := Lib.hid (OWN4.out.alloc (.cells #[.int .i64 0, .int .i64 1, .int .i64 2, .int .i64 3] 3))
  have hpb5 := hpb4.alloc (.cells #[.int .i64 0, .int .i64 1, .int .i64 2, .int .i64 3] 3)
  have hB5 := hB4.alloc hB4.size (.cells #[.int .i64 0, .int .i64 1, .int .i64 2, .int .i64 3] 3)
  have HS5 : Hid (Sl (w4.alloc (.cells #[.int .i64 0, .int .i64 1, .int .i64 2, .int .i64 3] 3)) (w.heap.size + 1) 1 (some ⟨w.heap.size, 0, none⟩) 4 (ints h1)) := HS4.out.under ((Below.refl _ _).alloc (by omega) _)
  clear hb4 hpb hpb4
  go_wp2_with fail
  refine (sameInts_any A1 (some ⟨w4.heap.size, 0, none⟩) 4 4 c1 4 [0, 1, 2, 3] [0, 1, 2, 3] _ (by omega) (by omega) (own_sl OWN5.out) (own_sl HL.out)).mono ?_
  rintro en w5 ⟨rfl, q, rfl⟩
  rw [decEq_true]
  have HSQ : Hid (Sl ((w4.alloc (.cells #[.int .i64 0, .int .i64 1, .int .i64 2, .int .i64 3] 3)).drewN q) (w.heap.size + 1) 1 (some ⟨w.heap.size, 0, none⟩) 4 (ints h1)) := HS5.out
  have hBq := below_drewN hB5 q
  have hpbq : Blk ((w4.alloc (.cells #[.int .i64 0, .int .i64 1, .int .i64 2, .int .i64 3] 3)).drewN q) w2.heap.size 30 #[.int .i64 1, .int .i64 1] := hpb5
  obtain ⟨wq, hwq⟩ : ∃ wq, (w4.alloc (.cells #[.int .i64 0, .int .i64 1, .int .i64 2, .int .i64 3] 3)).drewN q = wq := ⟨_, rfl⟩
  have hzq : w4.heap.size + 1 = wq.heap.size := by rw [← hwq]; show _ = (w4.alloc _).heap.size; simp
  have HZQ : w4.heap.size + 1 ≤ wq.heap.size := by omega
  simp only [hwq] at HSQ hBq hpbq ⊢
  clear hwq hzq hB5 hpb5 HS5 OWN5 HL HS4 OWN4
  go_wp2_with fail
  refine (projective_any (some ⟨w.heap.size, 0, none⟩) 4 4 h1 _ (by omega) (HSQ.out.up (by omega))).mono ?_
  rintro en w6 ⟨b, rfl, hb, hb6⟩
  obtain rfl : b = true := hb.2 proj_h1
  have hB6 := hBq.trans (hb6.mono hBq.size)
  have hpb6 := hpbq.below hb6
  have hz6 : w4.heap.size + 1 ≤ w6.heap.size := by have := hb6.size; omega
  clear hb hb6
  have hpb7 := hpb6.alloc (.cells #[.int .i64 2, .int .i64 3, .int .i64 (-1), .int .i64 2] 3)
  have hB7 := hB6.alloc hB6.size (.cells #[.int .i64 2, .int .i64 3, .int .i64 (-1), .int .i64 2] 3)
  have HL2 := Lib.hid (blk_own (base := w6.heap.size) (xs := ints h2) (Blk.new w6 3 (ints h2).toArray) (Nat.le_refl _) (by decide))
  go_wp2_with fail
  refine (projective_any (some ⟨w6.heap.size, 0, none⟩) 4 4 h2 _ (by omega) (own_sl HL2.out)).mono ?_
  rintro en w7 ⟨b, rfl, hb, hb7⟩
  obtain rfl : b = false := by
    cases b with
    | false => rfl
    | true => exact absurd (hb.1 rfl) not_proj_h2
  have hB8 := hB7.trans (hb7.mono hB7.size)
  have hpb8 := hpb7.below hb7
  clear hb hb7
  have c0 := hpb8.cell 0
  have c1' := hpb8.cell 1
  simp only [List.getElem?_toArray, List.getElem?_cons_zero, List.getElem?_cons_succ] at c0 c1'
  go_wp2
  go_ret
  exact ⟨ret_bool rfl, hB8⟩
end Go.Proofs.YtnbnmomichegaaaDoor
