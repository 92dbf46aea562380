/-
  graph.Comes.
-/
import Derived.Test.YtaaiojeehhbhhaaGr8
set_option linter.unusedVariables false
set_option linter.unusedSimpArgs false
namespace Go.Proofs.Ytaaiojeehhbhhaa
open Go.RowKit

noncomputable def comesB (G : Gph) (a b : IdL) : Bool := hasB G a && hasB G b && reachB G [a] b
/-- the world behind the boxes of Comes. -/
abbrev cmW (x y : IdL) (w : World) : World := ((w.alloc (.cells (bv x).toArray 27)).alloc (.cells (bv y).toArray 27)).drew
theorem cmW_below (x y : IdL) (w : World) : Below w.heap.size w (cmW x y w) := below_drewN (((Below.refl _ _).alloc (Nat.le_refl _) _).alloc (by simp) _) 1
theorem cmW_a (x y : IdL) (w : World) : (cmW x y w).rangeAt w.heap.size 0 (bv x) := (((Blk.new w 27 (bv x).toArray).alloc _).drew).range
theorem cmW_b (x y : IdL) (w : World) : (cmW x y w).rangeAt (w.heap.size + 1) 0 (bv y) := by
  have := Blk.new (w.alloc (.cells (bv x).toArray 27)) 27 (bv y).toArray
  rw [World.size_alloc] at this
  exact this.drew.range
theorem range_later {w w' : World} {b o : Nat} {cs : List Value} (h : w.rangeAt b o cs) (hb : Below w.heap.size w w') : w'.rangeAt b o cs := fun j v hj => cell_later hb (h j v hj)

set_option maxRecDepth 100000 in
set_option maxHeartbeats 4000000 in
theorem comes_noA (P : Nat → Prop) (g : Nat) (G : Gph) (x y : IdL) (w : World) (h : GrAt w P g G) (hx : IsId x) (hy : IsId y) (ha : hasB G x = false) :
    Calls Try.prog 12 #[.pointer (some ⟨g, 0, none⟩), ida x, ida y] w (BoolP false w) := by
  have hb0 := cmW_below x y w
  have hh := has_any P g G x _ (h.below hb0) hx
  rw [ha] at hh
  have l1 := run_loadId (cmW_a x y w) hx
  go_enter Try.func12, Try.ntmps12
  go_wp2
  first
    | (go_region_with (go_at_call 17; (with_reducible refine hh.mono ?_); rintro e w1 ⟨rfl, hb1⟩))
    | skip
  all_goals
    go_wp2
    go_ret
    exact ⟨rfl, below_then hb0 hb0.size hb1⟩
set_option maxRecDepth 100000 in
set_option maxHeartbeats 4000000 in
theorem comes_noB (P : Nat → Prop) (g : Nat) (G : Gph) (x y : IdL) (w : World) (h : GrAt w P g G) (hx : IsId x) (hy : IsId y) (ha : hasB G x = true) (hb : hasB G y = false) :
    Calls Try.prog 12 #[.pointer (some ⟨g, 0, none⟩), ida x, ida y] w (BoolP false w) := by
  have hb0 := cmW_below x y w
  have h1 := h.below hb0
  have hh := has_any P g G x _ h1 hx
  rw [ha] at hh
  have hh2 := fun (W : World) (hW : GrAt W P g G) => has_any P g G y W hW hy
  rw [hb] at hh2
  have HH2 := Lib.hid hh2
  have l1 := run_loadId (cmW_a x y w) hx
  have r2 := cmW_b x y w
  have hne : ¬ x = y := fun e => by rw [e, hb] at ha; cases ha
  clear hh2 ha hb
  go_enter Try.func12, Try.ntmps12
  go_wp2
  first
    | (go_region_with (first
        | (go_at_call 17; (with_reducible refine hh.mono ?_); rintro e w1 ⟨rfl, hb1⟩; have m2 := run_loadId (range_later r2 hb1) hy; have h2 := h1.below hb1)
        | (go_at_call 17; (with_reducible refine (HH2.out _ h2).mono ?_); rintro e w2 ⟨rfl, hb2⟩)))
    | skip
  all_goals
    go_wp2
    go_ret
    exact ⟨rfl, below_then hb0 hb0.size (below_two hb1 hb2)⟩
end Go.Proofs.Ytaaiojeehhbhhaa
