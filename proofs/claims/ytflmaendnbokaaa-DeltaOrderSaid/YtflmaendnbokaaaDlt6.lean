/-
  DeltaOrder: all roads.
-/
import Derived.Test.YtflmaendnbokaaaDlt5
set_option linter.unusedVariables false
set_option linter.unusedSimpArgs false
namespace Go.Proofs.Ytflmaendnbokaaa
open Go.RowKit

set_option maxRecDepth 100000 in
set_option maxHeartbeats 1000000 in
theorem order_walk (A : Option Addr) (n c : Nat) (a : List Int) (B : Option Addr) (m d : Nat) (cs : List Int) (what : Int) (w : World) (hA : RB w A n a) (hnc : n ≤ c) (hI : RI w B m cs) (hmd : m ≤ d) (_ : (Lit.int .i64 what).wf = true) :
    Calls Try.prog 6 #[.slice A n c, .slice B m d, .int .i64 what] w (fun e w' => e = .returned (.bool true) ∧ Below w.heap.size w w') := by
  by_cases c1 : n = 0
  · subst c1
    go_enter Try.func6, Try.ntmps6
    go_wp2_with (go_at_call 9; (with_reducible refine (awake14_any _).mono ?_); rintro e w1 ⟨rfl, hb1⟩)
    go_ret
    exact ⟨rfl, hb1⟩
  · by_cases c2 : 500 < n
    · have e0 : ¬ ((n : Int) = 0) := by omega
      have e1 : (500 : Int) < n := by omega
      go_enter Try.func6, Try.ntmps6
      go_wp2_with (go_at_call 9; (with_reducible refine (awake14_any _).mono ?_); rintro e w1 ⟨rfl, hb1⟩)
      go_ret
      exact ⟨rfl, hb1⟩
    · by_cases c3 : 20 < m
      · have e0 : ¬ ((n : Int) = 0) := by omega
        have e1 : ¬ ((500 : Int) < n) := by omega
        have e2 : (20 : Int) < m := by omega
        go_enter Try.func6, Try.ntmps6
        go_wp2_with (go_at_call 9; (with_reducible refine (awake14_any _).mono ?_); rintro e w1 ⟨rfl, hb1⟩)
        go_ret
        exact ⟨rfl, hb1⟩
      · exact order_main A n c a B m d cs what w hA hnc hI hmd (by omega) (by omega) (by omega)
end Go.Proofs.Ytflmaendnbokaaa
