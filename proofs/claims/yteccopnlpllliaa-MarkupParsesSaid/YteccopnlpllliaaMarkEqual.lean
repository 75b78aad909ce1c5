/-
  The contract of the laws' equal, for equal tags. Condition: the lists' length is an int.
-/
import Derived.Test.YteccopnlpllliaaMarkLarge
namespace Go.Proofs.Yteccopnlpllliaa
open Go.RowKit Utf Tagp
open Feat (Bs lt)
attribute [local go_sem] byte_mk ByteArray.extract_mk

set_option maxRecDepth 100000 in
set_option maxHeartbeats 800000 in
theorem equal_any (cl : Bool) (nm : Bs) (A A' : Option Addr) (n c c' : Nat) (l : List KV) (w : World) (hn : n ≤ 9223372036854775807) (h : Sl w w.heap.size 2 A n (prs l)) (h' : Sl w w.heap.size 2 A' n (prs l)) :
    Calls Try.prog 25 #[.agg #[.bool cl, str nm, .slice A n c], .agg #[.bool cl, str nm, .slice A' n c']] w (fun e w' => e = .returned (.bool true) ∧ Below w.heap.size w w') := by
  have hl : l.length = n := by have := h.1; rw [prs_len] at this; omega
  have e1 : (w.alloc (.cells #[.bool cl, str nm, .slice A n c] 33)).heap.size = w.heap.size + 1 := by simp
  have hb1 := (Blk.new w 33 #[.bool cl, str nm, .slice A n c]).alloc (.cells #[.bool cl, str nm, .slice A' n c'] 36)
  have hb2 := Blk.new (w.alloc (.cells #[.bool cl, str nm, .slice A n c] 33)) 36 #[.bool cl, str nm, .slice A' n c']
  rw [e1] at hb2
  have hB0 := ((Below.refl w.heap.size w).alloc (Nat.le_refl _) (.cells #[.bool cl, str nm, .slice A n c] 33)).alloc (by omega) (.cells #[.bool cl, str nm, .slice A' n c'] 36)
  go_enter Try.func25, Try.ntmps25
  go_wp2
  go_loopw [30] (fun iv wr => ∃ k q : Nat, k ≤ n ∧ iv = .int .i64 k ∧ wr = ((w.alloc (.cells #[.bool cl, str nm, .slice A n c] 33)).alloc (.cells #[.bool cl, str nm, .slice A' n c'] 36)).drewN q) (fun iv _ => n - (intOf iv).toNat)
  case atStart => exact ⟨0, 0, Nat.zero_le _, rfl, rfl⟩
  case round =>
    obtain ⟨k, q, hk, rfl, rfl⟩ := hrel
    by_cases hlt : k < n
    · obtain ⟨g, o, hk', rfl, hg, c0, c1⟩ := sl_pair (h.under hB0) hlt
      obtain ⟨g', o', _, rfl, hg', c0', c1'⟩ := sl_pair (h'.under hB0) hlt
      have t2 := hb1.cell 2
      have u2 := hb2.cell 2
      go_wp2
      go_quiet (fail)
      go_wp2
      go_roundw
      case rel => exact ⟨k + 1, q + nq, by omega, by go_num, rfl⟩
      case measure => simp [intOf]; omega
    · go_wp2
      go_ret
      exact ⟨rfl, below_drewN hB0 _⟩
end Go.Proofs.Yteccopnlpllliaa
