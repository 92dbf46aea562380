/-
  GraphNil's walk.
-/
import Derived.Test.YtaaiojeehhbhhaaGr13
import Derived.Test.YtaaiojeehhbhhaaGr9
set_option linter.unusedVariables false
set_option linter.unusedSimpArgs false
namespace Go.Proofs.Ytaaiojeehhbhhaa
open Go.RowKit

/-- two boxed ids, and what is old as it was. -/
def Nl (w wk : World) (a b : IdL) : Prop := Blk wk w.heap.size 27 (bv a).toArray ∧ Blk wk (w.heap.size + 1) 27 (bv b).toArray ∧ Below w.heap.size w wk ∧ w.heap.size + 2 ≤ wk.heap.size
theorem Nl.la {w wk : World} {a b : IdL} (h : Nl w wk a b) (ha : IsId a) : (loadId ⟨w.heap.size, 0, none⟩).run Try.prog wk = .ok (ida a) wk := run_loadId h.1.range ha
theorem Nl.lb {w wk : World} {a b : IdL} (h : Nl w wk a b) (hb : IsId b) : (loadId ⟨w.heap.size + 1, 0, none⟩).run Try.prog wk = .ok (ida b) wk := run_loadId h.2.1.range hb
theorem Nl.next {w wk w' : World} {a b : IdL} (h : Nl w wk a b) (hb : Below wk.heap.size wk w') : Nl w w' a b :=
  ⟨h.1.below hb h.1.lt, h.2.1.below hb h.2.1.lt, below_two h.2.2.1 hb, Nat.le_trans h.2.2.2 hb.size⟩
theorem Nl.cell {w wk : World} {a b : IdL} (h : Nl w wk a b) (o : Obj) : Nl w (wk.alloc o) a b := h.next ((Below.refl _ _).alloc (Nat.le_refl _) _)
theorem Nl.new (w : World) (a b : IdL) : Nl w ((w.alloc (.cells (bv a).toArray 27)).alloc (.cells (bv b).toArray 27)) a b :=
  ⟨(Blk.new w _ _).alloc _, by simpa using Blk.new (w.alloc (.cells (bv a).toArray 27)) 27 (bv b).toArray, ((Below.refl _ _).alloc (Nat.le_refl _) _).alloc (by simp) _, by simp⟩
set_option maxRecDepth 100000 in
set_option maxHeartbeats 4000000 in
theorem nil_walk (a b : IdL) (w : World) (ha : IsId a) (hb : IsId b) : Calls Try.prog 6 #[ida a, ida b] w (fun e w' => e = .returned (.bool true) ∧ Below w.heap.size w w') := by
  go_enter Try.func6, Try.ntmps6
  have N0 := Nl.new w a b
  go_wp2_with fail
  refine (awake12_any _).mono ?_
  rintro e w1 ⟨rfl, hb1⟩
  have N1 := N0.next hb1
  have la1 := N1.la ha
  have lb1 := N1.lb hb
  go_wp2_with fail
  refine (add_nil _ _ _ _ _).mono ?_
  rintro e w2 ⟨rfl, hb2⟩
  have N2 := (N1.cell _).next hb2
  have la2 := N2.la ha
  go_wp2_with fail
  refine (has_nil _ _).mono ?_
  rintro e w3 ⟨rfl, hb3⟩
  have N3 := N2.next hb3
  have la3 := N3.la ha
  go_wp2_with fail
  refine (parents_nil _ _).mono ?_
  rintro e w4 ⟨A4, c4, rfl, _, _, hb4⟩
  have N4 := N3.next hb4
  go_wp2_with fail
  refine (ids_nil _).mono ?_
  rintro e w5 ⟨A5, c5, rfl, _, _, hb5⟩
  have N5 := N4.next hb5
  go_wp2_with fail
  refine (heads_nil _).mono ?_
  rintro e w6 ⟨A6, c6, rfl, _, _, hb6⟩
  have N6 := N5.next hb6
  have la6 := N6.la ha
  go_wp2_with fail
  refine (closure_nil _ _ _ _).mono ?_
  rintro e w7 ⟨A7, c7, rfl, _, _, hb7⟩
  have N7 := (N6.cell _).next hb7
  have la7 := N7.la ha
  go_wp2_with fail
  refine (missing_nil _ _ _ _).mono ?_
  rintro e w8 ⟨A8, c8, rfl, _, _, hb8⟩
  have N8 := (N7.cell _).next hb8
  have la8 := N8.la ha
  go_wp2_with fail
  refine (comes_nil _ _ ha _).mono ?_
  rintro e w9 ⟨rfl, hb9⟩
  have N9 := N8.next hb9
  go_wp2_with fail
  go_ret
  exact ⟨rfl, N9.2.2.1⟩
end Go.Proofs.Ytaaiojeehhbhhaa
