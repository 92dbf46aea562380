/-
  GraphPlays: both graphs under way, and the copy of the parents.
-/
import Derived.Test.YtaaiojeehhbhhaaGrPB
import Derived.Test.YtaaiojeehhbhhaaGrP6
import Derived.Test.YtaaiojeehhbhhaaGrW
import Derived.Test.YtaaiojeehhbhhaaGrO3
import Derived.Test.YtaaiojeehhbhhaaGr13
set_option linter.unusedVariables false
set_option linter.unusedSimpArgs false
namespace Go.Proofs.Ytaaiojeehhbhhaa
open Go.RowKit

section
variable {w w' : World} {P Q : Nat → Prop}
theorem RefMem.chg {r : Nat} {A : Option Addr} {n c : Nat} {vs : List Value} {G : Gph} (h : RefMem w Q r A n c vs G) (hc : Chg P w w') (hq : ∀ k, Q k → ¬ P k) : RefMem w' Q r A n c vs G := by
  refine ⟨hc.blk h.blk (hq _ h.pr), ⟨h.own.1, ?_⟩, h.len, h.vl, h.cap, h.allId, h.pr, h.pi, fun j hj => ?_⟩
  · rcases h.own.2 with h0 | ⟨g, cap, cur, h1, h2, h3, h4⟩
    · exact .inl h0
    · refine .inr ⟨g, cap, cur, h1, h2, ?_, h4⟩
      rw [hc.block g (Array.getElem?_eq_some_iff.1 h3).1 (hq g (h.pi g (by rw [h1]; rfl)))]
      exact h3
  · obtain ⟨A', c', a, b, d, e⟩ := h.par j hj
    exact ⟨A', c', a, b, hc.rids d fun ad e' => hq _ (e ad e').1, fun ad e' => ⟨(e ad e').1, (e ad e').2.1, (e ad e').2.2.1, Nat.lt_of_lt_of_le (e ad e').2.2.2 hc.size⟩⟩
theorem RefAt.chg {r : Nat} {G : Gph} (h : RefAt w Q r G) (hc : Chg P w w') (hq : ∀ k, Q k → ¬ P k) : RefAt w' Q r G := by
  obtain ⟨A, n, c, vs, h⟩ := h
  exact ⟨A, n, c, vs, h.chg hc hq⟩
theorem OwnI.chg {b n : Nat} {L : List IdL} {f : IdL} (h : OwnI w b n L f) (hc : Chg P w w') (hb : ¬ P b) : OwnI w' b n L f :=
  ⟨hc.rids h.1 fun ad e => by cases e; exact hb, fun k hk i v hv => hc.cell (h.2 k hk i v hv) hb⟩
end
/-- both graphs, their blocks the call's own and apart; a block b that is neither's. -/
structure Pl (w wk : World) (g r b : Nat) (G H : Gph) : Prop where
  gr : ∃ P Q, GrAt wk P g G ∧ RefAt wk Q r H ∧ (∀ k, P k → w.heap.size ≤ k ∧ k < wk.heap.size ∧ ¬ Q k ∧ k ≠ b) ∧ (∀ k, Q k → w.heap.size ≤ k ∧ k < wk.heap.size ∧ k ≠ b)
  bel : Below w.heap.size w wk
section
variable {w wk w' : World} {g r b : Nat} {G H : Gph}
theorem Pl.next (h : Pl w wk g r b G H) (k : Below wk.heap.size wk w') : Pl w w' g r b G H := by
  obtain ⟨⟨P, Q, hg, hr, hp, hq⟩, hB⟩ := h
  exact ⟨⟨P, Q, hg.below k, hr.below k, fun i hi => ⟨(hp i hi).1, Nat.lt_of_lt_of_le (hp i hi).2.1 k.size, (hp i hi).2.2⟩, fun i hi => ⟨(hq i hi).1, Nat.lt_of_lt_of_le (hq i hi).2.1 k.size, (hq i hi).2.2⟩⟩, below_then hB hB.size k⟩
/-- another block, made since. -/
theorem Pl.mark (h : Pl w wk g r b G H) (k : Below wk.heap.size wk w') {b' : Nat} (hb : wk.heap.size ≤ b') : Pl w w' g r b' G H := by
  obtain ⟨⟨P, Q, hg, hr, hp, hq⟩, hB⟩ := h
  exact ⟨⟨P, Q, hg.below k, hr.below k, fun i hi => ⟨(hp i hi).1, Nat.lt_of_lt_of_le (hp i hi).2.1 k.size, (hp i hi).2.2.1, by have := (hp i hi).2.1; omega⟩, fun i hi => ⟨(hq i hi).1, Nat.lt_of_lt_of_le (hq i hi).2.1 k.size, by have := (hq i hi).2.1; omega⟩⟩, below_then hB hB.size k⟩
theorem pl_add {n N : Nat} {x f : IdL} {L : List IdL} (h : Pl w wk g r b G H) (hbl : b < wk.heap.size) (hG : Gfew G N) (hx : IsId x) (hO : OwnI wk b n L f) (hn : n ≤ 10) :
    Calls Try.prog 10 #[.pointer (some ⟨g, 0, none⟩), ida x, .slice (some ⟨b, 0, none⟩) n (n + 3)] wk (fun e w' => e = .returned (.int .i64 (addE G x L)) ∧ Pl w w' g r b (addG G x L) H ∧ OwnI w' b n L f ∧ b < w'.heap.size) := by
  obtain ⟨⟨P, Q, hg, hr, hp, hq⟩, hB⟩ := h
  refine (add_anyW P g G x _ n _ L wk hg hG.inv hx hO.1 (by omega) (fun _ ad e hP => by cases e; exact (hp _ hP).2.2.2 rfl) (fun j hj => Nat.le_trans (hG.ps j hj) (by omega))).mono fun e w1 h2 => ?_
  obtain ⟨he, hg1, hc⟩ := h2
  refine ⟨he, ⟨⟨_, Q, hg1.bounded, hr.chg hc fun k hk hP => (hp k hP).2.2.1 hk, fun k hk => ?_, fun k hk => ⟨(hq k hk).1, Nat.lt_of_lt_of_le (hq k hk).2.1 hc.size, (hq k hk).2.2⟩⟩, hc.toBelow hB hB.size fun k hk => (hp k hk).1⟩, hO.chg hc (fun hP => (hp b hP).2.2.2 rfl), Nat.lt_of_lt_of_le hbl hc.size⟩
  rcases hk.1 with h | h
  · exact ⟨(hp k h).1, hk.2, (hp k h).2.2⟩
  · exact ⟨Nat.le_trans hB.size h, hk.2, fun hQ => by have := (hq k hQ).2.1; omega, by omega⟩
theorem pl_radd {n c N : Nat} {A : Option Addr} {x f : IdL} {L : List IdL} (h : Pl w wk g r b G H) (hbl : b < wk.heap.size) (hH : Gfew H N) (hx : IsId x) (hA : RIds w A n L) (hn : n ≤ 10) (hO : OwnI wk b n L f) :
    Calls Try.prog 15 #[.pointer (some ⟨r, 0, none⟩), ida x, .slice A n c] wk (fun e w' => e = .returned (.int .i64 (addE H x L)) ∧ Pl w w' g r b G (addG H x L) ∧ OwnI w' b n L f ∧ b < w'.heap.size) := by
  obtain ⟨⟨P, Q, hg, hr, hp, hq⟩, hB⟩ := h
  refine (radd_any Q r H x A n c L wk hr hH.inv hx (hA.below hB) (by omega) (fun h0 ad e hQ => by
    obtain ⟨b', o', e1, hc⟩ := hA.2.2 h0
    rw [e] at e1
    injection e1 with e1
    subst e1
    have hx0 := hA.2.1.at_ (j := 0) (by rw [hA.1]; exact h0)
    have hl : 0 < (bv (gid L 0)).length := by rw [bv_length, hx0.1]; omega
    have := World.block_lt_of_cell? w _ (hc 0 h0 0 _ (List.getElem?_eq_getElem hl))
    have h1 : w.heap.size ≤ b' := (hq _ hQ).1
    have h2 : b' < w.heap.size := this
    omega) (fun j hj => Nat.le_trans (hH.ps j hj) (by omega))).mono fun e w1 h2 => ?_
  obtain ⟨he, hr1, hc⟩ := h2
  refine ⟨he, ⟨⟨P, _, hc.gr hg fun k hk hQ => (hp k hk).2.2.1 hQ, hr1.bounded, fun k hk => ⟨(hp k hk).1, Nat.lt_of_lt_of_le (hp k hk).2.1 hc.size, fun hQ => ?_, (hp k hk).2.2.2⟩, fun k hk => ?_⟩, hc.toBelow hB hB.size fun k hk => (hq k hk).1⟩, hO.chg hc (fun hQ => (hq b hQ).2.2 rfl), Nat.lt_of_lt_of_le hbl hc.size⟩
  · rcases hQ.1 with h | h
    · exact (hp k hk).2.2.1 h
    · have := (hp k hk).2.1
      omega
  · rcases hk.1 with h | h
    · exact ⟨(hq k h).1, hk.2, (hq k h).2.2⟩
    · exact ⟨Nat.le_trans hB.size h, hk.2, by omega⟩
end
end Go.Proofs.Ytaaiojeehhbhhaa
