/-
  Whatever the program: bytes of a text; the concatenation of two texts. No conditions.
-/
import Derived.Test.YtnbnmomichegaaaDoorInts
import Derived.Test.YtnbnmomichegaaaDoorUtf
import Derived.Lib.AppendStr
import Derived.Laws.IdiomStrings
import Derived.Laws.BytesArg
import Derived.Laws.Concat
import Derived.BigQuiet
import Derived.Deep.QuietTactic
namespace Go.Proofs.YtnbnmomichegaaaDoor
open Go.RowKit Utf

theorem byte_mk (l : List UInt8) (i : Nat) (h : i < (ByteArray.mk l.toArray).size) : (ByteArray.mk l.toArray)[i]'h = l[i]'(by have : i < l.toArray.size := h; simpa using this) := rfl
theorem add_str {P : Program} (w : World) (a b : List UInt8) (h : a.length + b.length ≤ 9223372036854775807) : (Op.stringOp .add ⟨a.toArray⟩ ⟨b.toArray⟩).run P w = .ok (str (a ++ b)) w := by
  rw [run_string_add_sum w _ _ (by show a.toArray.size + b.toArray.size ≤ _; simpa using h), ByteArray.mk_append_mk]

theorem ba_size (l : List UInt8) : (ByteArray.mk l.toArray).size = l.length := by show l.toArray.size = _; simp
theorem str_from {P : Program} (t : TypeId) (ht : P.underlying t = some .string) (l : List UInt8) (k : Nat) (hk : k ≤ l.length) (w : World) :
    (Instr.slice t (str l) (some (.int .i64 (k : Int))) none none).run P w = .ok (str (l.drop k)) w := by
  rw [run_slice_string_l w t ⟨l.toArray⟩ ht .i64 (k : Int) (by omega) (by rw [ba_size]; omega), ByteArray.extract_mk, ba_size, Int.toNat_natCast, List.take_of_length_le (by simp)]
theorem str_mid {P : Program} (t : TypeId) (ht : P.underlying t = some .string) (l : List UInt8) (j k : Nat) (hj : j ≤ k) (hk : k ≤ l.length) (w : World) :
    (Instr.slice t (str l) (some (.int .i64 (j : Int))) (some (.int .i64 (k : Int))) none).run P w = .ok (str ((l.drop j).take (k - j))) w := by
  rw [run_slice_string w t ⟨l.toArray⟩ .i64 .i64 (j : Int) (k : Int) ht (by omega) (by omega) (by rw [ba_size]; omega), ByteArray.extract_mk, Int.toNat_natCast, Int.toNat_natCast]
theorem str_to {P : Program} (t : TypeId) (ht : P.underlying t = some .string) (l : List UInt8) (k : Nat) (hk : k ≤ l.length) (w : World) :
    (Instr.slice t (str l) none (some (.int .i64 (k : Int))) none).run P w = .ok (str (l.take k)) w := by
  rw [run_slice_string_h w t ⟨l.toArray⟩ ht .i64 (k : Int) (by omega) (by rw [ba_size]; omega), ByteArray.extract_mk, Int.toNat_natCast]; simp
end Go.Proofs.YtnbnmomichegaaaDoor
