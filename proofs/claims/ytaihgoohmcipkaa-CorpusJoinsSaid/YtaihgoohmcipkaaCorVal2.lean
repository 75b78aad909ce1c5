/-
  The contracts of valid and of copyNode. Conditions: moved numbers are ints.
-/
import Derived.Test.YtaihgoohmcipkaaCorVal
import Derived.Test.YtaihgoohmcipkaaCorVF
namespace Go.Proofs.Ytaihgoohmcipkaa
open Go.RowKit Utf
open Feat (Bs)

set_option maxRecDepth 100000 in
theorem corValid_any (H : CH) (c : Cor.C) (w : World) (hr : Reads w w.heap.size H c) : Calls Try.prog 52 #[H.v] w (Kept (.bool (Cor.valid c)) w) := by
  have hB0 := (Below.refl w.heap.size w).alloc (Nat.le_refl _) (.cells H.cs 30)
  have hr2 := (hr.under hB0).up hB0.size
  obtain ⟨n, hn⟩ : ∃ n, (Cor.check c).2.2 = n := ⟨_, rfl⟩
  have HV : Hid (Cor.valid c = (n == 0)) := by show _ = _; unfold Cor.valid; rw [hn]
  go_enter Try.func52, Try.ntmps52
  go_wp2_with fail
  refine (validate_any H c _ hr2).mono ?_
  rintro e w1 ⟨rfl, hb⟩
  have hB1 := hB0.trans (hb.mono hB0.size)
  simp only [hn]
  clear hn hr2 hr hb hB0
  go_wp2
  go_ret
  refine ⟨ret_bool ?_, hB1⟩
  rw [HV.out]
  cases n <;> rfl
set_option maxRecDepth 100000 in
theorem copyNode_any (lb : Bs) (b e p y m : Int) (w : World) (hb : Rng (b + y)) (he : Rng (e + y)) (hp : Rng (p + m)) :
    Calls Try.prog 55 #[.agg #[str lb, .int .i64 b, .int .i64 e, .int .i64 p], .int .i64 y, .int .i64 m] w (Kept (.agg #[str lb, .int .i64 (b + y), .int .i64 (e + y), .int .i64 (if 0 ≤ p then p + m else p)]) w) := by
  unfold Rng at hb he hp
  by_cases h0 : 0 ≤ p
  · go_enter Try.func55, Try.ntmps55
    go_wp2
    refine bodyPost_ret (v := .agg #[str lb, .int .i64 (b + y), .int .i64 (e + y), .int .i64 (p + m)]) (by simp [results, Try.f55, go_sem]) rfl ⟨rfl, ?_⟩
    exact ((Below.refl _ _).alloc (Nat.le_refl _) _).alloc (by simp) _
  · have h0' : decide (0 ≤ p) = false := by simpa using h0
    go_enter Try.func55, Try.ntmps55
    go_wp2
    refine bodyPost_ret (v := .agg #[str lb, .int .i64 (b + y), .int .i64 (e + y), .int .i64 p]) (by simp [results, Try.f55, go_sem]) rfl ⟨rfl, ?_⟩
    exact ((Below.refl _ _).alloc (Nat.le_refl _) _).alloc (by simp) _
end Go.Proofs.Ytaihgoohmcipkaa
