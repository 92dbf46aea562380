/-
  An id out of data.
-/
import Derived.Test.YtokamaogognjoaaMkw
set_option linter.unusedVariables false
set_option linter.unusedSimpArgs false
namespace Go.Proofs.Ytokamaogognjoaa
open Go.RowKit Go.ChangeShapes Go.WideShapes

section
variable {H : Type} {enc : TypeId × Value → H} {w : World} {base fuel : Nat} {spare : Nat → Bool} {held : Bool}
set_option maxRecDepth 100000 in
theorem open_idM {r : Reach} {b0 : Nat} {v : Value} {d : DataW H} {ps : List MemPlace} (hval : Value.okWide Try.prog w r b0 25 v) (hd : DataW.Trod enc Try.prog w base spare held 25 v d ps) :
    ∃ xs, IsId xs ∧ v = ida xs := by
  simp only [Value.okWide, idTy] at hval
  obtain ⟨cs, rfl, _⟩ := hval
  obtain ⟨fuel, hf⟩ := hd
  obtain ⟨xs, hx, e⟩ := trod_idM hf
  simp only [Value.cells] at e
  exact ⟨xs, hx, by show Value.agg cs = .agg (bv xs).toArray; rw [← e]⟩
end
end Go.Proofs.Ytokamaogognjoaa
