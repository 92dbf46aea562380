/-
  Ids out of data.
-/
import Derived.Test.YtgokompppadogaaGr0
import Derived.OpenShut
set_option linter.unusedVariables false
set_option linter.unusedSimpArgs false
namespace Go.Proofs.Ytgokompppadogaa
open Go.RowKit Go.ChangeShapes Go.WideShapes

section
variable {H : Type} {enc : TypeId × Value → H} {w : World} {base fuel : Nat} {spare : Nat → Bool} {held : Bool} {cs : List Value} {x : DataW H × List MemPlace}
def intOf : Value → Int | .int _ z => z | _ => 0
set_option maxRecDepth 100000 in
theorem trod_id (h : DataW.trod enc Try.prog w base spare held fuel 27 cs = some x) : ∃ xs, IsId xs ∧ cs = bv xs := by
  obtain ⟨ys, m, _, _, hl, hn, hel⟩ := DataW.trod_array idTy h
  have h20 : Try.prog.cellsOf 27 = 20 := by kernel_rfl
  have h1 : Try.prog.cellsOf 5 = 1 := by kernel_rfl
  rw [h20] at hl
  rw [h1] at hel
  have each : ∀ i (hi : i < cs.length), ∃ z : Int, cs[i] = .int .u8 z ∧ 0 ≤ z ∧ z < 256 := by
    intro i hi
    have e := hel i (by omega)
    rw [List.getElem?_eq_getElem (by omega)] at e
    obtain ⟨z, q, _, w0⟩ := DataW.trod_int Try.underlying5 e
    have e1 : (cs.drop (i * 1)).take 1 = [cs[i]] := by
      rw [Nat.mul_one, List.drop_eq_getElem_cons hi]
      rfl
    rw [e1] at q
    injection q with q _
    refine ⟨z, q, ?_⟩
    simp [Lit.wf, IntKind.min, IntKind.max, IntKind.signed, IntKind.bits] at w0
    omega
  refine ⟨cs.map intOf, ⟨by simp [hl], fun y hy => ?_⟩, ?_⟩
  · obtain ⟨v, hv, rfl⟩ := List.mem_map.1 hy
    obtain ⟨i, hi, rfl⟩ := List.getElem_of_mem hv
    obtain ⟨z, e, h0, h1⟩ := each i hi
    rw [e]
    exact ⟨h0, by show z ≤ 255; omega⟩
  · refine List.ext_getElem (by simp [bv]) fun i h1 h2 => ?_
    obtain ⟨z, e, _, _⟩ := each i h1
    simp [bv, e, intOf]
set_option maxRecDepth 100000 in
theorem open_id {r : Reach} {b0 : Nat} {v : Value} {d : DataW H} {ps : List MemPlace} (hval : Value.okWide Try.prog w r b0 27 v) (hd : DataW.Trod enc Try.prog w base spare held 27 v d ps) :
    ∃ xs, IsId xs ∧ v = ida xs := by
  simp only [Value.okWide, idTy] at hval
  obtain ⟨cs, rfl, _⟩ := hval
  obtain ⟨fuel, hf⟩ := hd
  obtain ⟨xs, hx, e⟩ := trod_id hf
  simp only [Value.cells] at e
  exact ⟨xs, hx, by show Value.agg cs = .agg (bv xs).toArray; rw [← e]⟩
end
end Go.Proofs.Ytgokompppadogaa
