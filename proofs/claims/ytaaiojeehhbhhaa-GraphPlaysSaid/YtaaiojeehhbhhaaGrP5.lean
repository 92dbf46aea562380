/-
  trestleref12.Graph: Comes.
-/
import Derived.Test.YtaaiojeehhbhhaaGrP4
import Derived.Test.YtaaiojeehhbhhaaGr10
set_option linter.unusedVariables false
set_option linter.unusedSimpArgs false
namespace Go.Proofs.Ytaaiojeehhbhhaa
open Go.RowKit

set_option maxRecDepth 100000 in
set_option maxHeartbeats 4000000 in
theorem rcomes_noA (r : Nat) (G : Gph) (x y : IdL) (w : World) (h : RefRd w r G) (hG : GInv G) (hx : IsId x) (hy : IsId y) (ha : hasB G x = false) :
    Calls Try.prog 28 #[.pointer (some ⟨r, 0, none⟩), ida x, ida y] w (BoolP false w) := by
  have hb0 := cmW_below x y w
  have hlen := hG.len
  have hh := rhas_any r G x _ (h.below hb0) hx (by omega)
  rw [ha] at hh
  have l1 := run_loadId (cmW_a x y w) hx
  go_enter Try.func28, Try.ntmps28
  go_wp2
  first
    | (go_region_with (go_at_call 18; (with_reducible refine hh.mono ?_); rintro e w1 ⟨rfl, hb1⟩))
    | skip
  all_goals
    go_wp2
    go_ret
    exact ⟨rfl, below_then hb0 hb0.size hb1⟩
set_option maxRecDepth 100000 in
set_option maxHeartbeats 4000000 in
theorem rcomes_noB (r : Nat) (G : Gph) (x y : IdL) (w : World) (h : RefRd w r G) (hG : GInv G) (hx : IsId x) (hy : IsId y) (ha : hasB G x = true) (hb : hasB G y = false) :
    Calls Try.prog 28 #[.pointer (some ⟨r, 0, none⟩), ida x, ida y] w (BoolP false w) := by
  have hb0 := cmW_below x y w
  have hlen := hG.len
  have h1 := h.below hb0
  have hh := rhas_any r G x _ h1 hx (by omega)
  rw [ha] at hh
  have hh2 := fun (W : World) (hW : RefRd W r G) => rhas_any r G y W hW hy (by omega)
  rw [hb] at hh2
  have HH2 := Lib.hid hh2
  have l1 := run_loadId (cmW_a x y w) hx
  have r2 := cmW_b x y w
  have hne : ¬ x = y := fun e => by rw [e, hb] at ha; cases ha
  clear hh2 ha hb
  go_enter Try.func28, Try.ntmps28
  go_wp2
  first
    | (go_region_with (first
        | (go_at_call 18; (with_reducible refine hh.mono ?_); rintro e w1 ⟨rfl, hb1⟩; have m2 := run_loadId (range_later r2 hb1) hy; have h2 := h1.below hb1)
        | (go_at_call 18; (with_reducible refine (HH2.out _ h2).mono ?_); rintro e w2 ⟨rfl, hb2⟩)))
    | skip
  all_goals
    go_wp2
    go_ret
    exact ⟨rfl, below_then hb0 hb0.size (below_two hb1 hb2)⟩
theorem in_close {G : Gph} {x y : IdL} (hb : hasB G y = true) : decide (y ∈ closeG G [x]) = reachB G [x] y := by
  unfold closeG
  rw [Bool.eq_iff_iff, decide_eq_true_iff, List.mem_filter]
  unfold hasB at hb
  have := of_decide_eq_true hb
  simp [this]
set_option maxRecDepth 100000 in
set_option maxHeartbeats 4000000 in
theorem rcomes_both (r : Nat) (G : Gph) (x y : IdL) (w : World) (h : RefRd w r G) (hG : GInv G) (hps : ∀ j, j < G.length → (nd G j).ps.length ≤ 1000000) (hx : IsId x) (hy : IsId y) (ha : hasB G x = true) (hb : hasB G y = true) :
    Calls Try.prog 28 #[.pointer (some ⟨r, 0, none⟩), ida x, ida y] w (BoolP (reachB G [x] y) w) := by
  have hb0 := cmW_below x y w
  have hlen := hG.len
  have h1 := h.below hb0
  have hh := fun (W : World) (hW : RefRd W r G) => rhas_any r G x W hW hx (by omega)
  rw [ha] at hh
  have hh2 := fun (W : World) (hW : RefRd W r G) => rhas_any r G y W hW hy (by omega)
  rw [hb] at hh2
  have HH := Lib.hid hh
  have HH2 := Lib.hid hh2
  have HCL := Lib.hid (fun (W : World) (b : Nat) (hW : RefRd W r G) (hr : RIds W (some ⟨b, 0, none⟩) 1 [x]) => rclosure_any r G (some ⟨b, 0, none⟩) 1 1 [x] W hW hG hps hr (by omega))
  have HIN := Lib.hid (show ∀ (W : World) (A : Option Addr) (c : Nat), RIds W A (closeG G [x]).length (closeG G [x]) → Calls Try.prog 29 #[.slice A (closeG G [x]).length c, ida y] W (BoolP (reachB G [x] y) W) from fun W A c hR => by
    have hl : (closeG G [x]).length ≤ G.length := by
      unfold closeG
      have := List.length_filter_le (reachB G [x]) (ids G)
      rw [ids_length] at this
      exact this
    have := in_any A (closeG G [x]).length c (closeG G [x]) y W hR hy (by omega)
    rwa [in_close hb] at this)
  generalize reachB G [x] y = rr at *
  have r1 := cmW_a x y w
  have l1 := run_loadId r1 hx
  have r2 := cmW_b x y w
  have l2 := run_loadId r2 hy
  clear hh hh2 ha hb hG hps
  go_enter Try.func28, Try.ntmps28
  go_wp2
  first
    | (go_region_with (first
        | (go_at_call 18; (with_reducible refine (HH.out _ h1).mono ?_); rintro e w1 ⟨rfl, hb1⟩; have s1 := range_later r1 hb1; have s2 := range_later r2 hb1; have m2 := run_loadId s2 hy; have h2 := h1.below hb1)
        | (go_at_call 18; (with_reducible refine (HH2.out _ h2).mono ?_); rintro e w2 ⟨rfl, hb2⟩; have t1 := range_later s1 hb2; have t2 := range_later s2 hb2; have n1 := run_loadId t1 hx; have n2 := run_loadId t2 hy; have h3 := h2.below hb2; have hba : Below w2.heap.size w2 (w2.alloc (.cells (bv x).toArray 27)) := (Below.refl _ _).alloc (Nat.le_refl _) _; have q2 := run_loadId (range_later t2 hba) hy; have hBx := Blk.new w2 27 (bv x).toArray)
        | (go_at_call 25; (with_reducible refine (HCL.out _ _ (h3.below hba) (RIds.one hBx hx)).mono ?_); rintro e w3 ⟨A3, c3, rfl, ho3, hc3, hb3⟩; have p2 := run_loadId (range_later (range_later t2 hba) hb3) hy; have hr3 := ho3.reads)
        | (go_at_call 29; (with_reducible refine (HIN.out _ _ _ hr3).mono ?_); rintro e w4 ⟨rfl, hb4⟩)))
    | skip
  all_goals
    go_wp2
    go_ret
    exact ⟨rfl, below_then hb0 hb0.size (below_two (below_two hb1 hb2) (below_two (below_two hba hb3) hb4))⟩
theorem rcomes_any (r : Nat) (G : Gph) (x y : IdL) (w : World) (h : RefRd w r G) (hG : GInv G) (hps : ∀ j, j < G.length → (nd G j).ps.length ≤ 1000000) (hx : IsId x) (hy : IsId y) :
    Calls Try.prog 28 #[.pointer (some ⟨r, 0, none⟩), ida x, ida y] w (BoolP (comesB G x y) w) := by
  unfold comesB
  cases ha : hasB G x with
  | false => exact rcomes_noA r G x y w h hG hx hy ha
  | true =>
    cases hb : hasB G y with
    | false => exact rcomes_noB r G x y w h hG hx hy ha hb
    | true =>
      simp only [Bool.and_self, Bool.true_and]
      exact rcomes_both r G x y w h hG hps hx hy ha hb
end Go.Proofs.Ytaaiojeehhbhhaa
