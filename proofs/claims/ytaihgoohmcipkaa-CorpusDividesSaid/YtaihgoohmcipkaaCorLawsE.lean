/-
  The contract of Extract with the error's number named. Conditions: none but that a corpus reads as it does.
-/
import Derived.Test.YtaihgoohmcipkaaCorLawsK
import Derived.Test.YtaihgoohmcipkaaCorExt
namespace Go.Proofs.Ytaihgoohmcipkaa
set_option linter.unusedSimpArgs false
set_option linter.unusedVariables false
open Go.RowKit Utf
open Feat (Bs)

theorem extract_z (H : CH) {c d : Cor.C} {i : Int} {n : Nat} (h : Cor.ext c i = (d, n)) (w : World) (hi : Rng i) (hr : Reads w w.heap.size H c) (z : Int) (hz : (n : Int) = z) :
    Calls Try.prog 21 #[H.v, .int .i64 i] w (OwnZ d z w) :=
  (extract_own H c i w hi hr).mono fun e w' ⟨D, he, hr, hB⟩ => by
    rw [h] at he hr
    subst hz
    exact ⟨D, he, hr, hB⟩
end Go.Proofs.Ytaihgoohmcipkaa
