/-
  GraphPlays' walk, both ways.
-/
import Derived.Test.YtaaiojeehhbhhaaGrPF
set_option linter.unusedVariables false
set_option linter.unusedSimpArgs false
namespace Go.Proofs.Ytaaiojeehhbhhaa
open Go.RowKit
theorem plays_all (A : Option Addr) (n c : Nat) (l : List Nd) (A' : Option Addr) (n' c' : Nat) (ask : List IdL) (w : World) (hl : RNs w A n l) (hnc : n ≤ c) (ha : RIds w A' n' ask) (hnc' : n' ≤ c') :
    Calls Try.prog 4 #[.slice A n c, .slice A' n' c'] w (fun e w' => e = .returned (.bool true) ∧ Below w.heap.size w w') := by
  by_cases h : 10 < n'
  · exact plays_long A n c l A' n' c' ask w h
  · exact plays_walk A n c l A' n' c' ask w hl ha (by omega)
end Go.Proofs.Ytaaiojeehhbhhaa
