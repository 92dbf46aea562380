/-
  graph.Comes: both are there.
-/
import Derived.Test.YtaaiojeehhbhhaaGr10
set_option linter.unusedVariables false
set_option linter.unusedSimpArgs false
namespace Go.Proofs.Ytaaiojeehhbhhaa
open Go.RowKit

set_option maxRecDepth 100000 in
set_option maxHeartbeats 4000000 in
theorem comes_both (P : Nat → Prop) (g : Nat) (G : Gph) (x y : IdL) (w : World) (h : GrAt w P g G) (hG : GInv G) (hx : IsId x) (hy : IsId y) (ha : hasB G x = true) (hb : hasB G y = true) (M : Nat) (hM : ∀ j, j < G.length → (nd G j).ps.length ≤ M) (hGM : G.length * (1 + M) ≤ 100000000) :
    Calls Try.prog 12 #[.pointer (some ⟨g, 0, none⟩), ida x, ida y] w (BoolP (reachB G [x] y) w) := by
  have hb0 := cmW_below x y w
  have h1 := h.below hb0
  have hh := fun (W : World) (hW : GrAt W P g G) => has_any P g G x W hW hx
  rw [ha] at hh
  have hh2 := fun (W : World) (hW : GrAt W P g G) => has_any P g G y W hW hy
  rw [hb] at hh2
  have hfr := fun (W : World) (b : Nat) (hW : GrAt W P g G) (hr : RIds W (some ⟨b, 0, none⟩) 1 [x]) => from_any P g G (some ⟨b, 0, none⟩) 1 1 [x] W hW hG hr (by omega) M hM hGM
  unfold FromPost at hfr
  have HH := Lib.hid hh
  have HH2 := Lib.hid hh2
  have HFR := Lib.hid hfr
  have HB := Lib.hid (show ∀ S : List IdL, (∀ z, z ∈ S ↔ Reach G [x] z) → decide (y ∈ S) = reachB G [x] y from fun S hS => by
    rw [Bool.eq_iff_iff, reachB_iff, decide_eq_true_iff, hS])
  generalize reachB G [x] y = r at *
  have r1 := cmW_a x y w
  have l1 := run_loadId r1 hx
  have r2 := cmW_b x y w
  have l2 := run_loadId r2 hy
  clear hh hh2 hfr ha hb hM hG
  go_enter Try.func12, Try.ntmps12
  go_wp2
  first
    | (go_region_with (first
        | (go_at_call 17; (with_reducible refine (HH.out _ h1).mono ?_); rintro e w1 ⟨rfl, hb1⟩; have s1 := range_later r1 hb1; have s2 := range_later r2 hb1; have m2 := run_loadId s2 hy; have h2 := h1.below hb1)
        | (go_at_call 17; (with_reducible refine (HH2.out _ h2).mono ?_); rintro e w2 ⟨rfl, hb2⟩; have t1 := range_later s1 hb2; have t2 := range_later s2 hb2; have n1 := run_loadId t1 hx; have n2 := run_loadId t2 hy; have h3 := h2.below hb2; have hba : Below w2.heap.size w2 (w2.alloc (.cells (bv x).toArray 27)) := (Below.refl _ _).alloc (Nat.le_refl _) _; have q2 := run_loadId (range_later t2 hba) hy; have hBx := Blk.new w2 27 (bv x).toArray)
        | (go_at_call 34; (with_reducible refine (HFR.out _ _ (h3.below hba) (RIds.one hBx hx)).mono ?_); rintro e w3 ⟨ms, S, rfl, hms, hSR, hmz, hb3⟩; have p2 := run_loadId (range_later (range_later t2 hba) hb3) hy; have k3 := hms.seen hy; rw [HB.out S hSR] at k3; clear hSR)))
    | skip
  all_goals
    go_wp2
    go_ret
    exact ⟨rfl, below_then hb0 hb0.size (below_two (below_two hb1 hb2) (below_two hba hb3))⟩
theorem comes_any (P : Nat → Prop) (g : Nat) (G : Gph) (x y : IdL) (w : World) (h : GrAt w P g G) (hG : GInv G) (hx : IsId x) (hy : IsId y) (M : Nat) (hM : ∀ j, j < G.length → (nd G j).ps.length ≤ M) (hGM : G.length * (1 + M) ≤ 100000000) :
    Calls Try.prog 12 #[.pointer (some ⟨g, 0, none⟩), ida x, ida y] w (BoolP (comesB G x y) w) := by
  unfold comesB
  cases ha : hasB G x with
  | false => exact comes_noA P g G x y w h hx hy ha
  | true =>
    cases hb : hasB G y with
    | false => exact comes_noB P g G x y w h hx hy ha hb
    | true =>
      simp only [Bool.and_self, Bool.true_and]
      exact comes_both P g G x y w h hG hx hy ha hb M hM hGM
end Go.Proofs.Ytaaiojeehhbhhaa
