/-
  The type of an id under a name that nothing sees through: a load of an id is then taken first as a short one is.
-/
import Derived.Test.YtaaiojeehhbhhaaGr3
set_option linter.unusedVariables false
set_option linter.unusedSimpArgs false
namespace Go.Proofs.Ytaaiojeehhbhhaa
open Go.RowKit
noncomputable def tyI : TypeId := Classical.choose (⟨27, rfl⟩ : ∃ t : TypeId, t = 27)
theorem tyI_eq : tyI = 27 := Classical.choose_spec (⟨27, rfl⟩ : ∃ t : TypeId, t = 27)
@[go_sem ↓ high] theorem loadVar_I (p : Addr) : loadVar tyI p = loadId p := by rw [tyI_eq]; rfl
theorem ldI_eq (t : Tmp) : Op.load 27 (.tmp t) = Op.load tyI (.tmp t) := by rw [tyI_eq]
end Go.Proofs.Ytaaiojeehhbhhaa
