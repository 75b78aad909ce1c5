/-
  The contracts of valid and of copyNode. Conditions: moved numbers are ints.
-/
import Derived.Test.YtnbnmomichegaaaDoorCorVal
import Derived.Test.YtnbnmomichegaaaDoorCorVF
namespace Go.Proofs.YtnbnmomichegaaaDoor
open Go.RowKit Utf
open Feat (Bs)

end Go.Proofs.YtnbnmomichegaaaDoor
