/-
  graph.Heads of nil.
-/
import Derived.Test.YtaaiojeehhbhhaaGr3
set_option linter.unusedVariables false
set_option linter.unusedSimpArgs false
namespace Go.Proofs.Ytaaiojeehhbhhaa
open Go.RowKit
theorem heads_nil (w : World) : Calls Try.prog 11 #[.pointer none] w (NewIds 0 [] w) := by
  go_enter Try.func11, Try.ntmps11
  go_wp2
  go_ret
  exact NewIds.nil (Below.refl _ _)
end Go.Proofs.Ytaaiojeehhbhhaa
