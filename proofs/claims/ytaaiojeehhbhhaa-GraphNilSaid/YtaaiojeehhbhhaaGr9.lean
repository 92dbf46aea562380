/-
  graph.Comes at nil.
-/
import Derived.Test.YtaaiojeehhbhhaaGr4
set_option linter.unusedVariables false
set_option linter.unusedSimpArgs false
namespace Go.Proofs.Ytaaiojeehhbhhaa
open Go.RowKit

set_option maxRecDepth 100000 in
set_option maxHeartbeats 2000000 in
theorem comes_nil (x y : IdL) (hx : IsId x) (w : World) : Calls Try.prog 12 #[.pointer none, ida x, ida y] w (BoolP false w) := by
  have hh := fun W => has_nil x W
  have hb0 : Below w.heap.size w (((w.alloc (.cells (bv x).toArray 27)).alloc (.cells (bv y).toArray 27)).drew) := below_drewN (((Below.refl _ _).alloc (Nat.le_refl _) _).alloc (by simp) _) 1
  have r0 : (((w.alloc (.cells (bv x).toArray 27)).alloc (.cells (bv y).toArray 27)).drew).rangeAt w.heap.size 0 (bv x) := (((Blk.new w 27 (bv x).toArray).alloc _).drew).range
  have l1 := run_loadId r0 hx
  go_enter Try.func12, Try.ntmps12
  go_wp2
  first
    | (go_region_with (go_at_call 17; (with_reducible refine (hh _).mono ?_); rintro e w1 ⟨rfl, hb1⟩))
    | skip
  all_goals
    go_wp2
    go_ret
    exact ⟨rfl, below_then hb0 hb0.size hb1⟩
end Go.Proofs.Ytaaiojeehhbhhaa
