/-
  GraphPlays' walk, begun.
-/
import Derived.Test.YtaaiojeehhbhhaaGrPD
import Derived.Test.YtaaiojeehhbhhaaGrO2
import Derived.Test.YtaaiojeehhbhhaaGrT
set_option linter.unusedVariables false
set_option linter.unusedSimpArgs false
namespace Go.Proofs.Ytaaiojeehhbhhaa
open Go.RowKit

/-- the reference's graph, new. -/
theorem ref_new (w : World) : RefAt (w.alloc (.cells #[.slice none 0 0] 40)) (fun k => k = w.heap.size) w.heap.size [] :=
  ⟨none, 0, 0, [], Blk.new w _ _, ⟨rfl, .inl ⟨rfl, rfl⟩⟩, rfl, rfl, Nat.le_refl _, AllId.nil, rfl, fun k e => by simp [Value.ownBlock] at e, fun j hj => absurd hj (by omega)⟩
theorem pl_new {w w1 w2 : World} {g : Nat} (hg : GrAt w1 (w.heap.size ≤ ·) g []) (hb : Below w.heap.size w w1) (h2 : Below (w1.alloc (.cells #[.slice none 0 0] 40)).heap.size (w1.alloc (.cells #[.slice none 0 0] 40)) w2) : Pl w w2 g w1.heap.size w2.heap.size [] [] := by
  have ha : Below w1.heap.size w1 (w1.alloc (.cells #[.slice none 0 0] 40)) := (Below.refl _ _).alloc (Nat.le_refl _) _
  have hz := h2.size
  rw [World.size_alloc] at hz
  have hz1 := hb.size
  refine ⟨⟨_, _, (hg.bounded.below ha).below h2, (ref_new w1).below h2, fun k hk => ⟨hk.1, ?_, ?_, ?_⟩, fun k hk => ?_⟩, below_then (below_then hb hb.size ha) (below_then hb hb.size ha).size h2⟩
  · have := hk.2; omega
  · intro e
    have := hk.2
    omega
  · have := hk.2; omega
  · subst hk
    exact ⟨hz1, by omega, by omega⟩
set_option maxRecDepth 100000 in
set_option maxHeartbeats 4000000 in
theorem plays_long (A : Option Addr) (n c : Nat) (l : List Nd) (A' : Option Addr) (n' c' : Nat) (ask : List IdL) (w : World) (hlong : 10 < n') :
    Calls Try.prog 4 #[.slice A n c, .slice A' n' c'] w (fun e w' => e = .returned (.bool true) ∧ Below w.heap.size w w') := by
  have hl : (10 : Int) < (n' : Int) := by omega
  go_enter Try.func4, Try.ntmps4
  go_wp2_with fail
  refine (new_any _).mono ?_
  rintro e w1 ⟨g, rfl, hg0, hb1⟩
  go_wp2_with fail
  refine (awake12_any _).mono ?_
  rintro e w2 ⟨rfl, hb2⟩
  go_wp2_with fail
  refine (awake12_any _).mono ?_
  rintro e w3 ⟨rfl, hb3⟩
  go_wp2_with fail
  go_ret
  exact ⟨rfl, below_two (below_two (hb1.alloc hb1.size _) hb2) hb3⟩
end Go.Proofs.Ytaaiojeehhbhhaa
