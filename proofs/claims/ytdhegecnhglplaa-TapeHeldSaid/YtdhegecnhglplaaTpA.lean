/-
  TapeNil.
-/
import Derived.Test.YtdhegecnhglplaaTp6
set_option linter.unusedVariables false
set_option linter.unusedSimpArgs false
namespace Go.Proofs.Ytdhegecnhglplaa
open Go.RowKit

theorem RBs.one' {w : World} {g : Nat} {t : TypeId} {A : Option Addr} {n c : Nat} {xs : List Int} (hb : Blk w g t #[.slice A n c]) (h : RB w A n xs) (hc : n ≤ c) : RBs w (some ⟨g, 0, Option.none⟩) 1 [xs] := by
  refine ⟨rfl, g, 0, fun _ => rfl, fun i hi => ?_⟩
  obtain rfl : i = 0 := by omega
  have hl := h.len
  subst hl
  exact ⟨A, c, hb.cell 0, hc, h⟩
/-- one part, laid just now. -/
theorem RBs.oneNew {w : World} {A : Option Addr} {n c : Nat} {xs : List Int} (h : RB w A n xs) (hc : n ≤ c) : RBs (w.alloc (.cells #[.slice A n c] 28)) (some ⟨w.heap.size, 0, Option.none⟩) 1 [xs] := RBs.one' (Blk.new w 28 _) (h.alloc _) hc

set_option maxHeartbeats 2000000 in
theorem tapeNil_walk (A : Option Addr) (n c : Nat) (xs : List Int) (k : Int) (w : World) (h : RB w A n xs) (hnc : n ≤ c) (hk : (Lit.int .i64 k).wf = true) :
    Calls Try.prog 7 #[.slice A n c, .int .i64 k] w (fun e w' => e = .returned (.bool true) ∧ Below w.heap.size w w') := by
  by_cases hb1 : 500 < n
  · have e1 : (500 : Int) < n := by omega
    go_enter Try.func7, Try.ntmps7
    go_wp2_with (go_at_call 9; (with_reducible refine (awake04_any _).mono ?_); rintro e w1 ⟨rfl, hb1⟩)
    go_ret
    exact ⟨rfl, hb1⟩
  · have e1 : ¬ ((500 : Int) < n) := by omega
    have hwr : ∀ (W : World), RB W A n xs → Calls Try.prog 10 #[.pointer none, .slice (some ⟨W.heap.size, 0, none⟩) 1 1] (W.alloc (.cells #[.slice A n c] 28)) (RefPost 2 (W.alloc (.cells #[.slice A n c] 28))) := fun W hW => tpNil_write _ 1 1 [xs] _ (RBs.oneNew hW hnc) (Nat.le_refl _) (by omega) (by have := h.len; simp; omega)
    clear hk
    go_enter Try.func7, Try.ntmps7
    go_wp2_with (first
      | (go_at_call 9; (with_reducible refine (awake04_any _).mono ?_); rintro e w1 ⟨rfl, hb1⟩; have hr1 := h.below hb1)
      | (go_at_call 27; (with_reducible refine (tpNil_room _ _).mono ?_); rintro e w9 ⟨rfl, rfl⟩)
      | (go_at_call 15; (with_reducible refine (tpNil_fuse _ _).mono ?_); rintro e w9 ⟨rfl, rfl⟩)
      | (go_at_call 18; (with_reducible refine (tpNil_fall _ _).mono ?_); rintro e w9 ⟨rfl, rfl⟩)
      | (go_at_call 19; (with_reducible refine (tpNil_rise _).mono ?_); rintro e w9 ⟨rfl, rfl⟩)
      | (go_at_call 10; (with_reducible refine (hwr _ hr1).mono ?_); rintro e w2 ⟨rfl, hb2⟩)
      | (go_at_call 16; (with_reducible refine (tpNil_hold _).mono ?_); rintro e w9 ⟨rfl, rfl⟩)
      | (go_at_call 28; (with_reducible refine (tpNil_cut _ _).mono ?_); rintro e w9 ⟨rfl, rfl⟩)
      | (go_at_call 13; (with_reducible refine (tpNil_swap _ _ _ _).mono ?_); rintro e w9 ⟨rfl, rfl⟩)
      | (go_at_call 12; (with_reducible refine (tpNil_bytes _).mono ?_); rintro e w9 ⟨rfl, rfl⟩)
      | (go_at_call 14; (with_reducible refine (tpNil_held _).mono ?_); rintro e w9 ⟨rfl, rfl⟩)
      | (go_at_call 17; (with_reducible refine (tpNil_down _).mono ?_); rintro e w9 ⟨rfl, rfl⟩))
    go_ret
    exact ⟨rfl, below_two hb1 (below_two ((Below.refl _ _).alloc (Nat.le_refl _) _) hb2)⟩
end Go.Proofs.Ytdhegecnhglplaa
