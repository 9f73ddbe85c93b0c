/-
  Sx0: what is known of the package-level variables while a call runs: in this seat nothing.
-/
import Derived.Calls
namespace Go.Proofs.Ytjiamfajgllelaa.Sy
open Go
/-- how many blocks lie before all others: variables that nobody writes -/
def NG : Nat := 0
def GP (_ : World) : Prop := True
theorem GP.keep {w w' : World} (_ : GP w) (_ : ∀ g, g < NG → w'.heap[g]? = w.heap[g]?) : GP w' := trivial
end Go.Proofs.Ytjiamfajgllelaa.Sy
