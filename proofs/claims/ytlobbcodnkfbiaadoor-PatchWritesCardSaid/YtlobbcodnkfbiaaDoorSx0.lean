/-
  Sx0: what is known of the package-level variables while a call runs: math/bits.deBruijn32tab.
-/
import Derived.Calls
import Derived.Lib.TrailingZeros
namespace Go.Proofs.YtlobbcodnkfbiaaDoor.Sx
open Go
/-- how many blocks lie before all others: variables that nobody writes -/
def NG : Nat := 1
def GP (w : World) : Prop := ∀ j, j < 32 → w.cell? ⟨0, j, none⟩ = some (.int .u8 (Lib.deBruijn32tab.getD j 0))
theorem GP.keep {w w' : World} (h : GP w) (k : ∀ g, g < NG → w'.heap[g]? = w.heap[g]?) : GP w' := by
  intro j hj
  rw [← h j hj]
  simp only [World.cell?]
  rw [k 0 (by decide)]
end Go.Proofs.YtlobbcodnkfbiaaDoor.Sx
