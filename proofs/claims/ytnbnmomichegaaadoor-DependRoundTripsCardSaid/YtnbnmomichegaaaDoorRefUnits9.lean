/-
  The contracts of the reference's Units and Valid: for every text the units, and whether all are valid. Condition: the text has at most 2097152 bytes.
-/
import Derived.Test.YtnbnmomichegaaaDoorInts
import Derived.Test.YtnbnmomichegaaaDoorUtf
import Derived.Lib.OthersKept
import Derived.Maps.AppendAt
namespace Go.Proofs.YtnbnmomichegaaaDoor
open Go.RowKit Utf

/-- The cells of a unit as the reference has it. -/
def cu (o : Bool) (u : Nat × Nat × Nat) : List Value := [.int .i32 u.1, .int .i64 u.2.1, .int .i64 u.2.2, .bool o]
def cus (l : List (Nat × Nat × Nat)) : List Value := l.flatMap (cu false)
theorem cus_len (l : List (Nat × Nat × Nat)) : (cus l).length = l.length * 4 := by
  unfold cus; induction l with
  | nil => rfl
  | cons u l ih => rw [List.flatMap_cons, List.length_append, ih]; simp [cu]; omega
theorem cus_snoc (l : List (Nat × Nat × Nat)) (u : Nat × Nat × Nat) : cus (l ++ [u]) = cus l ++ cu false u := by unfold cus; rw [List.flatMap_append]; simp

/-- The cells while the second loop runs: the first k units have their mark. -/
def mid (us : List (Nat × Nat × Nat)) (k : Nat) : List Value := (us.take k).flatMap (fun u => cu (okT u) u) ++ cus (us.drop k)
theorem marked_len (us : List (Nat × Nat × Nat)) : (us.flatMap (fun u => cu (okT u) u)).length = us.length * 4 := by
  induction us with
  | nil => rfl
  | cons u l ih => rw [List.flatMap_cons, List.length_append, ih]; simp [cu]; omega
theorem mid_split (us : List (Nat × Nat × Nat)) (k : Nat) (hk : k < us.length) :
    mid us k = (us.take k).flatMap (fun u => cu (okT u) u) ++ (cu false us[k] ++ cus (us.drop (k + 1))) := by
  unfold mid
  rw [List.drop_eq_getElem_cons hk]
  unfold cus
  rw [List.flatMap_cons]
theorem mid_at (us : List (Nat × Nat × Nat)) (k : Nat) (hk : k < us.length) :
    (mid us k)[k * 4]? = some (.int .i32 us[k].1) ∧ (mid us k)[k * 4 + 2]? = some (.int .i64 us[k].2.2) ∧ (mid us k)[k * 4 + 3]? = some (.bool false) := by
  have hl : ((us.take k).flatMap (fun u => cu (okT u) u)).length = k * 4 := by rw [marked_len]; simp; omega
  rw [mid_split us k hk]
  refine ⟨?_, ?_, ?_⟩
  · rw [List.getElem?_append_right (by omega), hl, show k * 4 - k * 4 = 0 by omega]; rfl
  · rw [List.getElem?_append_right (by omega), hl, show k * 4 + 2 - k * 4 = 2 by omega]; rfl
  · rw [List.getElem?_append_right (by omega), hl, show k * 4 + 3 - k * 4 = 3 by omega]; rfl
theorem mid_set (us : List (Nat × Nat × Nat)) (k : Nat) (hk : k < us.length) : (mid us k).set (k * 4 + 3) (.bool (okT us[k])) = mid us (k + 1) := by
  have hl : ((us.take k).flatMap (fun u => cu (okT u) u)).length = k * 4 := by rw [marked_len]; simp; omega
  rw [mid_split us k hk, List.set_append_right _ _ (by omega), hl, show k * 4 + 3 - k * 4 = 3 by omega]
  unfold mid
  rw [List.take_succ_eq_append_getElem hk, List.flatMap_append]
  simp [cu]
theorem okT_cases (u : Nat × Nat × Nat) : (u.1 ≠ 65533 → okT u = true) ∧ (u.1 = 65533 → okT u = ((u.2.2 : Int) == 3)) := by
  refine ⟨fun h => by unfold okT; simp [h], fun h => ?_⟩
  unfold okT; rw [Bool.eq_iff_iff]; simp [h]; omega

end Go.Proofs.YtnbnmomichegaaaDoor
