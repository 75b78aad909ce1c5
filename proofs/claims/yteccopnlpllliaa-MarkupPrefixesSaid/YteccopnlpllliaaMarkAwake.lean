/-
  The contract of the laws' sanity check. No conditions.
-/
import Derived.Test.YteccopnlpllliaaMarkFmt
namespace Go.Proofs.Yteccopnlpllliaa
open Go.RowKit Utf Tagp
open Feat (Bs lt)
attribute [local go_sem] byte_mk ByteArray.extract_mk

theorem parse_awake : parseP [60, 115, 32, 110, 61, 34, 49, 34, 62] = ((false, [115], [([110], [49])]), 0, 0) := by decide
theorem fmt_awake : fmtT false [115] [([98], [60]), ([97], [])] = ([60, 115, 32, 97, 61, 34, 34, 32, 98, 61, 34, 38, 108, 116, 59, 34, 62], 0) := by decide
theorem name_awake : okName [97, 45, 49] = true := by decide

set_option maxRecDepth 100000 in
set_option maxHeartbeats 1600000 in
theorem awake_any (w : World) : Calls Try.prog 16 #[] w (fun e w' => e = .returned (.bool true) ∧ Below w.heap.size w w') := by
  have hP := parseTag_any [60, 115, 32, 110, 61, 34, 49, 34, 62] w (by simp)
  have hN := fun W => validName_any [97, 45, 49] (by simp) W
  rw [name_awake] at hN
  unfold Parsed at hP
  rw [parse_awake] at hP
  go_enter Try.func16, Try.ntmps16
  go_wp2_with fail
  refine hP.mono ?_
  rintro e w1 ⟨v, rfl, own1, hb1⟩
  simp only [List.length_cons, List.length_nil, Nat.zero_add] at own1
  obtain ⟨A, c, rfl, -⟩ := own_slc own1
  rcases own1.2 with ⟨_, h⟩ | ⟨g, cap, cur, hv, hbg, hblk, hcap, hm, hsz, htk⟩
  · cases h
  · cases hv
    obtain ⟨p0, p1⟩ := own_pair own1 0 (by simp)
    simp only [List.getElem_cons_zero, Nat.zero_mul, Nat.zero_add] at p0 p1
    have hgl : g < w1.heap.size := (Array.getElem?_eq_some_iff.1 hblk).1
    have hsh : Short [([98], [60]), ([97], [])] := by
      intro k hk
      match k, hk with
      | 0, _ => simp
      | 1, _ => simp
    have hblk2 := Blk.new (w1.alloc (.cells #[.bool false, str [115], .slice (some ⟨g, 0, none⟩) 1 c] 33)) 52 #[str [98], str [60], str [97], str []]
    rw [show (w1.alloc (.cells #[.bool false, str [115], .slice (some ⟨g, 0, none⟩) 1 c] 33)).heap.size = w1.heap.size + 1 by simp] at hblk2
    have hb2 := (hb1.alloc hb1.size (.cells #[.bool false, str [115], .slice (some ⟨g, 0, none⟩) 1 c] 33)).alloc (Nat.le_trans hb1.size (by simp)) (.cells #[str [98], str [60], str [97], str []] 52)
    have hblk1 := (Blk.new w1 33 #[.bool false, str [115], .slice (some ⟨g, 0, none⟩) 1 c]).alloc (.cells #[str [98], str [60], str [97], str []] 52)
    have hsl : Sl ((w1.alloc (.cells #[.bool false, str [115], .slice (some ⟨g, 0, none⟩) 1 c] 33)).alloc (.cells #[str [98], str [60], str [97], str []] 52)) ((w1.alloc (.cells #[.bool false, str [115], .slice (some ⟨g, 0, none⟩) 1 c] 33)).alloc (.cells #[str [98], str [60], str [97], str []] 52)).heap.size 2 (some ⟨w1.heap.size + 1, 0, none⟩) 2 (prs [([98], [60]), ([97], [])]) := by
      refine ⟨rfl, fun _ => ⟨_, 0, rfl, hblk2.lt, fun j u hj => ?_⟩⟩
      rw [Nat.zero_add, hblk2.cell j]
      simpa [prs] using hj
    have hF := formatTag_any false [115] (some ⟨w1.heap.size + 1, 0, none⟩) 2 2 [([98], [60]), ([97], [])] _ (by omega) (Nat.le_refl _) (by simp) hsh hsl
    unfold Texted at hF
    rw [fmt_awake] at hF
    go_wp2_with fail
    refine hF.mono ?_
    rintro e w2 ⟨rfl, hb3⟩
    have hb4 := hb2.trans (Below.mono hb3 hb2.size)
    have t1 := (hblk1.below hb3).cell 1
    have t2 := (hblk1.below hb3).cell 2
    have q0 : w2.cell? ⟨g, 0, none⟩ = some (str [110]) := (hb3.cell (by simp; omega)).trans (((Below.refl (w1.heap.size) w1).alloc (Nat.le_refl _) _).alloc (by simp) _ |>.cell (by exact hgl) |>.trans p0)
    have q1 : w2.cell? ⟨g, 1, none⟩ = some (str [49]) := (hb3.cell (by simp; omega)).trans (((Below.refl (w1.heap.size) w1).alloc (Nat.le_refl _) _).alloc (by simp) _ |>.cell (by exact hgl) |>.trans p1)
    go_wp2_with fail
    refine (hN _).mono ?_
    rintro e w3 ⟨rfl, rfl⟩
    go_wp2
    go_ret
    exact ⟨rfl, hb4⟩
end Go.Proofs.Yteccopnlpllliaa
