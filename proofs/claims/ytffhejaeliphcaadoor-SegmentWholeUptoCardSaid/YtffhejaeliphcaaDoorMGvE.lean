/-
  The word of a contract that gives bytes in new memory and an error's number. No condition.
-/
import Derived.Test.YtffhejaeliphcaaDoorMBase
namespace Go.Proofs.YtffhejaeliphcaaDoor
open Go.RowKit
set_option linter.unusedVariables false

/-- The word of a contract that gives bytes in new memory and an error's number. -/
def GivesE (eB : TypeId) (w : World) (x : List UInt8 × Nat) (e : Ending) (w' : World) : Prop :=
  ∃ a cap, e = .returned (.tuple #[.slice a x.1.length cap, .int .i64 (x.2 : Int)]) ∧ w'.ownsRow w.heap.size eB 1 (.slice a x.1.length cap) x.1.length (x.1.map B) ∧ Below w.heap.size w w'
end Go.Proofs.YtffhejaeliphcaaDoor
