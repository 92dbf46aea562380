/-
  GraphPlays: what is asked of both graphs.
-/
import Derived.Test.YtaaiojeehhbhhaaGrPC
import Derived.Test.YtaaiojeehhbhhaaGrP5
import Derived.Test.YtaaiojeehhbhhaaGr12
import Derived.Test.YtaaiojeehhbhhaaGr10b
set_option linter.unusedVariables false
set_option linter.unusedSimpArgs false
namespace Go.Proofs.Ytaaiojeehhbhhaa
open Go.RowKit

section
variable {w wk : World} {g r b : Nat} {G H : Gph}
theorem pl_has {x : IdL} (h : Pl w wk g r b G H) (hx : IsId x) : Calls Try.prog 17 #[.pointer (some ⟨g, 0, none⟩), ida x] wk (fun e w' => e = .returned (.bool (hasB G x)) ∧ Below wk.heap.size wk w') := by
  obtain ⟨⟨P, Q, hg, _⟩, _⟩ := h
  exact (has_any P g G x wk hg hx).mono fun e w1 h1 => ⟨h1.1, h1.2⟩
theorem pl_rhas {x : IdL} (h : Pl w wk g r b G H) (hH : GInv H) (hx : IsId x) : Calls Try.prog 18 #[.pointer (some ⟨r, 0, none⟩), ida x] wk (BoolP (hasB H x) wk) := by
  obtain ⟨⟨P, Q, _, hr, _⟩, _⟩ := h
  exact rhas_any r H x wk hr.rd hx (by have := hH.len; omega)
theorem pl_parents {x : IdL} (h : Pl w wk g r b G H) (hx : IsId x) (hl : (psOf G x).length ≤ 1000000) : Calls Try.prog 20 #[.pointer (some ⟨g, 0, none⟩), ida x] wk (NewIds (psOf G x).length (psOf G x) wk) := by
  obtain ⟨⟨P, Q, hg, _⟩, _⟩ := h
  exact parents_any P g G x wk hg hx hl
theorem pl_rparents {x : IdL} (h : Pl w wk g r b G H) (hH : GInv H) (hx : IsId x) : Calls Try.prog 21 #[.pointer (some ⟨r, 0, none⟩), ida x] wk (RowP (psOf H x) wk) := by
  obtain ⟨⟨P, Q, _, hr, _⟩, _⟩ := h
  exact rparents_any r H x wk hr.rd hH hx
theorem pl_ids (h : Pl w wk g r b G H) (hG : GInv G) : Calls Try.prog 22 #[.pointer (some ⟨g, 0, none⟩)] wk (NewIds (ids G).length (ids G) wk) := by
  obtain ⟨⟨P, Q, hg, _⟩, _⟩ := h
  exact ids_any P g G wk hg hG
theorem pl_rids (h : Pl w wk g r b G H) (hH : GInv H) : Calls Try.prog 23 #[.pointer (some ⟨r, 0, none⟩)] wk (NewIds (ids H).length (ids H) wk) := by
  obtain ⟨⟨P, Q, _, hr, _⟩, _⟩ := h
  exact rids_any r H wk hr.rd hH
theorem pl_heads (h : Pl w wk g r b G H) {N : Nat} (hG : Gfew G N) : Calls Try.prog 11 #[.pointer (some ⟨g, 0, none⟩)] wk (NewIds (headsG G).length (headsG G) wk) := by
  obtain ⟨⟨P, Q, hg, _⟩, _⟩ := h
  exact heads_any P g G wk hg hG.inv 10 hG.ps (by omega)
theorem pl_rheads (h : Pl w wk g r b G H) {N : Nat} (hH : Gfew H N) : Calls Try.prog 24 #[.pointer (some ⟨r, 0, none⟩)] wk (NewIds (headsG H).length (headsG H) wk) := by
  obtain ⟨⟨P, Q, _, hr, _⟩, _⟩ := h
  exact rheads_any r H wk hr.rd hH.inv fun j hj => Nat.le_trans (hH.ps j hj) (by omega)
theorem pl_closure (h : Pl w wk g r b G H) (hG : Gfew G 40) {A : Option Addr} {n c : Nat} {L : List IdL} (hA : RIds wk A n L) (hn : n ≤ 1000000) : Calls Try.prog 13 #[.pointer (some ⟨g, 0, none⟩), .slice A n c] wk (NewIds (closeG G L).length (closeG G L) wk) := by
  obtain ⟨⟨P, Q, hg, _⟩, _⟩ := h
  exact closure_any P g G A n c L wk hg hG.inv hA hn 10 hG.ps (by have := hG.len; omega)
theorem pl_rclosure (h : Pl w wk g r b G H) {N : Nat} (hH : Gfew H N) {A : Option Addr} {n c : Nat} {L : List IdL} (hA : RIds wk A n L) (hn : n ≤ 1000000) : Calls Try.prog 25 #[.pointer (some ⟨r, 0, none⟩), .slice A n c] wk (NewIds (closeG H L).length (closeG H L) wk) := by
  obtain ⟨⟨P, Q, _, hr, _⟩, _⟩ := h
  exact rclosure_any r H A n c L wk hr.rd hH.inv (fun j hj => Nat.le_trans (hH.ps j hj) (by omega)) hA hn
theorem pl_comes (h : Pl w wk g r b G H) (hG : Gfew G 40) {x y : IdL} (hx : IsId x) (hy : IsId y) : Calls Try.prog 12 #[.pointer (some ⟨g, 0, none⟩), ida x, ida y] wk (BoolP (comesB G x y) wk) := by
  obtain ⟨⟨P, Q, hg, _⟩, _⟩ := h
  exact comes_any P g G x y wk hg hG.inv hx hy 10 hG.ps (by have := hG.len; omega)
theorem pl_rcomes (h : Pl w wk g r b G H) {N : Nat} (hH : Gfew H N) {x y : IdL} (hx : IsId x) (hy : IsId y) : Calls Try.prog 28 #[.pointer (some ⟨r, 0, none⟩), ida x, ida y] wk (BoolP (comesB H x y) wk) := by
  obtain ⟨⟨P, Q, _, hr, _⟩, _⟩ := h
  exact rcomes_any r H x y wk hr.rd hH.inv (fun j hj => Nat.le_trans (hH.ps j hj) (by omega)) hx hy
end
end Go.Proofs.Ytaaiojeehhbhhaa
