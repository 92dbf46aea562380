/-
  GraphPlays: Missing asked of the graph.
-/
import Derived.Test.YtaaiojeehhbhhaaGrPD
import Derived.Test.YtaaiojeehhbhhaaGr8
set_option linter.unusedVariables false
set_option linter.unusedSimpArgs false
namespace Go.Proofs.Ytaaiojeehhbhhaa
open Go.RowKit

theorem pl_missing {w wk : World} {g r b : Nat} {G H : Gph} (h : Pl w wk g r b G H) (hG : Gfew G 40) {A : Option Addr} {n c : Nat} {L : List IdL} (hA : RIds wk A n L) (hn : n ≤ 1000000) : Calls Try.prog 26 #[.pointer (some ⟨g, 0, none⟩), .nilFunc, .slice A n c] wk (NewIds (closeG G L).length (closeG G L) wk) := by
  obtain ⟨⟨P, Q, hg, _⟩, _⟩ := h
  have := missing_all P g G A n c L wk hg hG.inv hA hn 10 hG.ps (by have := hG.len; omega)
  rwa [missG_all] at this
theorem pl_missing_have {w wk : World} {g r b : Nat} {G H : Gph} (h : Pl w wk g r b G H) (hG : Gfew G 40) {A : Option Addr} {n c : Nat} {L : List IdL} (hA : RIds wk A n L) (hn : n ≤ 1000000) : Calls Try.prog 26 #[.pointer (some ⟨g, 0, none⟩), .func (.func 27) #[] #[], .slice A n c] wk (NewIds (missG G L (fun x => !evB x)).length (missG G L (fun x => !evB x)) wk) := by
  obtain ⟨⟨P, Q, hg, _⟩, _⟩ := h
  exact missing_have P g G A n c L wk hg hG.inv hA hn 10 hG.ps (by have := hG.len; omega)
/-- the law's own filter is what Missing tells. -/
theorem miss_filter (G : Gph) (L : List IdL) : missG G L (fun x => !evB x) = (closeG G L).filter fun x => !evB x := by
  unfold missG closeG missP
  rw [List.filter_filter]
  congr 1
  funext x
  rw [Bool.and_comm]
end Go.Proofs.Ytaaiojeehhbhhaa
