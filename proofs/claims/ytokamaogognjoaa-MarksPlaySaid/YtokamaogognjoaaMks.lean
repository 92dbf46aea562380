/-
  Slices of pairs out of data.
-/
import Derived.Test.YtokamaogognjoaaMkA
import Derived.OpenShut
import Derived.ChangeSlices
import Derived.Deep.Slices
set_option linter.unusedVariables false
set_option linter.unusedSimpArgs false
namespace Go.Proofs.Ytokamaogognjoaa
open Go.RowKit Go.ChangeShapes Go.WideShapes

section
variable {H : Type} {enc : TypeId × Value → H} {w : World} {base fuel : Nat} {spare : Nat → Bool} {held : Bool} {cs : List Value} {x : DataW H × List MemPlace}
set_option maxRecDepth 100000 in
theorem trod_idM (h : DataW.trod enc Try.prog w base spare held fuel 25 cs = some x) : ∃ xs, IsId xs ∧ cs = bv xs := by
  obtain ⟨ys, m, _, _, hl, hn, hel⟩ := DataW.trod_array idTy h
  have h20 : Try.prog.cellsOf 25 = 20 := by kernel_rfl
  have h1 : Try.prog.cellsOf 5 = 1 := by kernel_rfl
  rw [h20] at hl
  rw [h1] at hel
  have each : ∀ i (hi : i < cs.length), ∃ z : Int, cs[i] = .int .u8 z ∧ 0 ≤ z ∧ z < 256 := by
    intro i hi
    have e := hel i (by omega)
    rw [List.getElem?_eq_getElem (by omega)] at e
    obtain ⟨z, q, _, w0⟩ := DataW.trod_int Try.underlying5 e
    have e1 : (cs.drop (i * 1)).take 1 = [cs[i]] := by
      rw [Nat.mul_one, List.drop_eq_getElem_cons hi]
      rfl
    rw [e1] at q
    injection q with q _
    refine ⟨z, q, ?_⟩
    simp [Lit.wf, IntKind.min, IntKind.max, IntKind.signed, IntKind.bits] at w0
    omega
  refine ⟨cs.map intOf, ⟨by simp [hl], fun y hy => ?_⟩, ?_⟩
  · obtain ⟨v, hv, rfl⟩ := List.mem_map.1 hy
    obtain ⟨i, hi, rfl⟩ := List.getElem_of_mem hv
    obtain ⟨z, e, h0, h1⟩ := each i hi
    rw [e]
    exact ⟨h0, by show z ≤ 255; omega⟩
  · refine List.ext_getElem (by simp [bv]) fun i h1 h2 => ?_
    obtain ⟨z, e, _, _⟩ := each i h1
    simp [bv, e, intOf]
set_option maxRecDepth 100000 in
theorem trod_struct2M {P : Program} {t : TypeId} {f0 f1 : Field} (ht : P.underlying t = some (.struct #[f0, f1])) (h : DataW.trod enc P w base spare held fuel t cs = some x) :
    cs.length = P.cellsOf t ∧ ∃ y0 y1 n, DataW.trod enc P w base spare held n f0.type ((cs.drop f0.offset).take (P.cellsOf f0.type)) = some y0 ∧ DataW.trod enc P w base spare held n f1.type ((cs.drop f1.offset).take (P.cellsOf f1.type)) = some y1 := by
  obtain ⟨xs, n, _, rfl, hl, hlen, hf⟩ := DataW.trod_struct ht h
  match xs, hlen with
  | [y0, y1], _ => exact ⟨hl, y0, y1, n, by simpa using hf 0 f0 rfl, by simpa using hf 1 f1 rfl⟩
set_option maxRecDepth 100000 in
theorem trod_pr (h : DataW.trod enc Try.prog w base spare held fuel 27 cs = some x) : ∃ xs, IsPr xs ∧ cs = bv xs := by
  have h40 : Try.prog.cellsOf 27 = 40 := by kernel_rfl
  have h20 : Try.prog.cellsOf 25 = 20 := by kernel_rfl
  obtain ⟨hl, y0, y1, n', g0, g1⟩ := trod_struct2M Try.underlying27 h
  rw [h40] at hl
  have g0 : DataW.trod enc Try.prog w base spare held n' 25 ((cs.drop 0).take (Try.prog.cellsOf 25)) = some y0 := g0
  have g1 : DataW.trod enc Try.prog w base spare held n' 25 ((cs.drop 20).take (Try.prog.cellsOf 25)) = some y1 := g1
  rw [h20] at g0 g1
  obtain ⟨a, ha, ea⟩ := trod_idM g0
  obtain ⟨b, hb, eb⟩ := trod_idM g1
  refine ⟨a ++ b, IsPr.mk ha hb, ?_⟩
  rw [bv_append, ← ea, ← eb, List.drop_zero, List.take_of_length_le (l := cs.drop 20) (by rw [List.length_drop]; omega), List.take_append_drop]
end
section
variable {H : Type} {enc : TypeId × Value → H} {w : World} {base fuel : Nat} {held : Bool} {cs : List Value} {x : DataW H × List MemPlace}
set_option maxRecDepth 100000 in
theorem open_pairs (h : DataW.trod enc Try.prog w base (fun _ => true) held fuel 23 cs = some x) :
    ∃ A k c L, cs = [.slice A k c] ∧ RPrs w A k L ∧ k ≤ c ∧ c ≤ maxLen := by
  have h40 : Try.prog.cellsOf 27 = 40 := by kernel_rfl
  rcases Go.Deep.open_slice Try.underlying23 h with ⟨rfl, _⟩ | ⟨a, len, cap, m, n, D, Pl, rfl, _, hl, hm, hmm, hx, hel⟩
  · exact ⟨none, 0, 0, [], rfl, RPrs.nil _ _, Nat.le_refl _, by simp [maxLen]⟩
  · simp only [if_true] at hmm
    subst hmm
    rw [h40] at hel
    have each : ∀ i, i < len → ∃ xs : List Int, IsPr xs ∧ ∀ j, j < 40 → w.cell? (a.add (i * 40 + j)) = (bv xs)[j]? := by
      intro i hi
      obtain ⟨cs', h1, h2⟩ := hel i (by omega)
      obtain ⟨_, hlen, hce⟩ := World.cells?_some h1
      obtain ⟨xs, hxs, e⟩ := trod_pr h2
      subst e
      refine ⟨xs, hxs, fun j hj => ?_⟩
      have := hce j (by omega)
      rw [add_of_add] at this
      exact this
    obtain ⟨f, hf⟩ := Go.Deep.choose_lt (p := fun i xs => IsPr xs ∧ ∀ j, j < 40 → w.cell? (a.add (i * 40 + j)) = (bv xs)[j]?) each
    have hg : ∀ j, j < len → gp ((List.range len).map f) j = f j := fun j hj => by simp [gp, hj]
    refine ⟨some a, len, m, (List.range len).map f, rfl, ⟨by simp, fun y hy => ?_, fun h0 => ?_⟩, hl, hm⟩
    · obtain ⟨i, hi, rfl⟩ := List.mem_map.1 hy
      exact (hf i (List.mem_range.1 hi)).1
    · obtain ⟨b, o, sp⟩ := a
      have h00 := (hf 0 h0).2 0 (by omega)
      have hl0 : 0 < (bv (f 0)).length := by rw [bv_length, (hf 0 h0).1.1]; omega
      rw [List.getElem?_eq_getElem hl0] at h00
      have hsp : sp = none := by
        have := World.cell?_spot h00
        simpa [Addr.add] using this
      subst hsp
      refine ⟨b, o, rfl, fun j hj i v hv => ?_⟩
      rw [hg j hj] at hv
      have hi : i < 40 := by
        have := (List.getElem?_eq_some_iff.1 hv).1
        rw [bv_length, (hf j hj).1.1] at this
        exact this
      have := (hf j hj).2 i hi
      rw [hv, add_plain] at this
      rw [← this, Nat.add_assoc]
end
end Go.Proofs.Ytokamaogognjoaa
