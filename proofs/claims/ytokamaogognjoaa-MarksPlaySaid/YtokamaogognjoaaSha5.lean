/-
  SHA-1: the document's 'trestleref02.Sum'.
-/
import Derived.Test.YtokamaogognjoaaSha4
set_option linter.unusedVariables false
set_option linter.unusedSimpArgs false
namespace Go.Proofs.Ytokamaogognjoaa
open Go.RowKit

/-- how the document's sum stands: the row of its own, the result's block, the state's block. -/
def RS (w : World) (v : Value) (m : Nat) (ys : List Int) (s : H5) (wr : World) : Prop :=
  OB wr (w.heap.size + 2) v m ys ∧ Blk wr w.heap.size 25 zid ∧ Blk wr (w.heap.size + 1) 115 (c5 s) ∧ Below w.heap.size w wr ∧ w.heap.size + 2 ≤ wr.heap.size
set_option maxRecDepth 100000 in
theorem RS.later {w wr w' : World} {v : Value} {m : Nat} {ys : List Int} {s : H5} (h : RS w v m ys s wr) (hb : Below wr.heap.size wr w') : RS w v m ys s w' := by
  have hs := h.2.2.2.2
  have hz := hb.size
  exact ⟨h.1.below hb, h.2.1.below hb (by omega), h.2.2.1.below hb (by omega), below_then h.2.2.2.1 (by omega) hb, by omega⟩
set_option maxRecDepth 100000 in
theorem RS.move {w wr w' : World} {v v' : Value} {m m' : Nat} {ys ys' : List Int} {s : H5} (h : RS w v m ys s wr) (ho : OB w' (w.heap.size + 2) v' m' ys') (hg : wr.grownBy w' v.ownBlock) : RS w v' m' ys' s w' := by
  have hz := hg.size
  have hs := h.2.2.2.2
  refine ⟨ho, h.2.1.grown hg (fun e => ?_), h.2.2.1.grown hg (fun e => ?_), h.2.2.2.1.grown hg (by omega) (fun k hk => ?_), by omega⟩
  · have := (h.1.own _ e.symm).1
    omega
  · have := (h.1.own _ e.symm).1
    omega
  · have := (h.1.own _ hk).1
    omega
set_option maxRecDepth 100000 in
theorem RS.app {w wr w' : World} {v v' : Value} {m : Nat} {ys : List Int} {b : Int} {s : H5} {o : Obj} (h : RS w v m ys s wr) (ho : OB w' (w.heap.size + 2) v' (m + 1) (ys ++ [b])) (hg : (wr.alloc o).grownBy w' v.ownBlock) : RS w v' (m + 1) (ys ++ [b]) s w' :=
  (h.later ((Below.refl _ _).alloc (Nat.le_refl _) o)).move ho hg
set_option maxRecDepth 100000 in
theorem RS.turn {w wr : World} {v : Value} {m : Nat} {ys : List Int} {s s' : H5} (h : RS w v m ys s wr) {i : Nat} {u : Value} (hb : Blk (wr.setCell ⟨w.heap.size + 1, i, none⟩ u) (w.heap.size + 1) 115 (c5 s')) : RS w v m ys s' (wr.setCell ⟨w.heap.size + 1, i, none⟩ u) := by
  have hs := h.2.2.2.2
  have hg : wr.grownBy (wr.setCell ⟨w.heap.size + 1, i, none⟩ u) (some (w.heap.size + 1)) := grown_setCell (World.grownBy.refl wr _) (.inl rfl) u
  refine ⟨h.1.kept hg ?_, h.2.1.far (by simp) _, hb, h.2.2.2.1.setCell (p := ⟨w.heap.size + 1, i, none⟩) (by simp) _, by simp; omega⟩
  cases e : v.ownBlock with
  | none => exact .inl rfl
  | some k =>
    refine .inr fun e' => ?_
    have := (h.1.own k e).1
    injection e' with e'
    omega

end Go.Proofs.Ytokamaogognjoaa
