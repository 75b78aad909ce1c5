/-
  The contracts of the laws' large and own. Conditions: the lengths are ints.
-/
import Derived.Test.YteccopnlpllliaaMarkRefFmt
namespace Go.Proofs.Yteccopnlpllliaa
open Go.RowKit Utf Tagp
open Feat (Bs lt)
attribute [local go_sem] byte_mk ByteArray.extract_mk

/-- Some bool. -/
def Bools (w : World) (e : Ending) (w' : World) : Prop := ∃ b, e = .returned (.bool b) ∧ Below w.heap.size w w'
set_option maxRecDepth 100000 in
set_option maxHeartbeats 800000 in
theorem large_any (cl : Bool) (nm : Bs) (A : Option Addr) (n c : Nat) (l : List KV) (w : World) (hn : n ≤ 9223372036854775807) (h : Sl w w.heap.size 2 A n (prs l)) :
    Calls Try.prog 26 #[.agg #[.bool cl, str nm, .slice A n c]] w (Bools w) := by
  have hl : l.length = n := by have := h.1; rw [prs_len] at this; omega
  have hblk := Blk.new w 33 #[.bool cl, str nm, .slice A n c]
  have hB0 := (Below.refl w.heap.size w).alloc (Nat.le_refl _) (.cells #[.bool cl, str nm, .slice A n c] 33)
  go_enter Try.func26, Try.ntmps26
  go_wp2
  go_loopw [12, 3] (fun iv sv wr => ∃ (k : Nat) (s : Int), k ≤ n ∧ iv = .int .i64 k ∧ sv = .int .i64 s ∧ Below w.heap.size w wr ∧ Blk wr w.heap.size 33 #[.bool cl, str nm, .slice A n c]) (fun iv _ _ => n - (intOf iv).toNat)
  case atStart => exact ⟨0, _, Nat.zero_le _, rfl, rfl, hB0, hblk⟩
  case round =>
    obtain ⟨k, s, hk, rfl, rfl, hB, hb⟩ := hrel
    by_cases hlt : k < n
    · obtain ⟨g, o, hk', rfl, hg, c0, c1⟩ := sl_pair (h.under hB) hlt
      obtain ⟨p, hp⟩ : ∃ p, l[k] = p := ⟨_, rfl⟩
      rw [hp] at c0 c1
      clear hp
      have hBa := hB.alloc hB.size (.cells #[str p.1, str p.2] 52)
      have hba := hb.alloc (.cells #[str p.1, str p.2] 52)
      go_wp2
      · go_ret
        exact ⟨_, rfl, hBa⟩
      · go_roundw
        case rel => exact ⟨k + 1, _, by omega, by go_num, rfl, hBa, hba⟩
        case measure => simp [intOf]; omega
    · have d2 := hb.cell 2
      go_wp2
      all_goals go_ret
      all_goals exact ⟨_, rfl, hB⟩

theorem size_tag36 : (Try.prog.info? 36).map (·.size) = some 3 := by kernel_rfl
set_option maxHeartbeats 400000 in
theorem own_any (cl : Bool) (nm : Bs) (A : Option Addr) (n c : Nat) (w : World) :
    Calls Try.prog 29 #[.agg #[.bool cl, str nm, .slice A n c]] w (fun e w' => e = .returned (.agg #[.bool cl, str nm, .slice A n c]) ∧ Below w.heap.size w w') := by
  have e1 : (w.alloc (.cells #[.bool cl, str nm, .slice A n c] 33)).heap.size = w.heap.size + 1 := by simp
  have hblk1 := Blk.new (w.alloc (.cells #[.bool cl, str nm, .slice A n c] 33)) 36 #[.bool cl, str nm, .slice A n c]
  rw [e1] at hblk1
  have hB := ((Below.refl w.heap.size w).alloc (Nat.le_refl _) (.cells #[.bool cl, str nm, .slice A n c] 33)).alloc (by omega) (.cells #[.bool cl, str nm, .slice A n c] 36)
  go_enter Try.func29, Try.ntmps29
  go_wp2
  refine bodyPost_ret (results_cell_row rfl _ _ _ _ _ _ _ rfl hblk1 Try.underlying36 rfl size_tag36) rfl ?_
  exact ⟨rfl, hB⟩
end Go.Proofs.Yteccopnlpllliaa
