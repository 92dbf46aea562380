/-
  layer 12's awake.
-/
import Derived.Test.YtaaiojeehhbhhaaGr10b
import Derived.Test.YtaaiojeehhbhhaaGr12n
set_option linter.unusedVariables false
set_option linter.unusedSimpArgs false
namespace Go.Proofs.Ytaaiojeehhbhhaa
open Go.RowKit

def oneL : IdL := [1, 0, 0, 0, 0, 0, 0, 0, 0, 0, 0, 0, 0, 0, 0, 0, 0, 0, 0, 0]
def twoL : IdL := [2, 0, 0, 0, 0, 0, 0, 0, 0, 0, 0, 0, 0, 0, 0, 0, 0, 0, 0, 0]
theorem oneL_id : IsId oneL := ⟨rfl, fun x hx => by simp [oneL] at hx; omega⟩
theorem twoL_id : IsId twoL := ⟨rfl, fun x hx => by simp [twoL] at hx; omega⟩
def G1 : Gph := [⟨oneL, []⟩]
def G2 : Gph := [⟨oneL, []⟩, ⟨twoL, [oneL]⟩]
theorem addE1 : addE [] oneL [] = 0 := by
  classical
  rw [addE_none (look_none (by simp [ids]))]
  simp [oneL, zeroL]
theorem addG1 : addG [] oneL [] = G1 := by rw [addG_ok (look_none (by simp [ids])) addE1]; rfl
theorem addE2 : addE G1 twoL [oneL] = 0 := by
  classical
  rw [addE_none (look_none (by simp [ids, G1, oneL, twoL]))]
  simp [oneL, twoL, zeroL, G1, ids]
theorem addG2 : addG G1 twoL [oneL] = G2 := by rw [addG_ok (look_none (by simp [ids, G1, oneL, twoL])) addE2]; rfl
theorem inv1 : GInv G1 := by rw [← addG1]; exact GInv.nil.addInv oneL_id (by simp)
theorem inv2 : GInv G2 := by rw [← addG2]; exact inv1.addInv twoL_id (by intro p hp; simp at hp; rw [hp]; exact oneL_id)
theorem reach2 : ∀ x, x = oneL ∨ x = twoL → Reach G2 [twoL] x := by
  have h2 : Reach G2 [twoL] twoL := .base (by simp) (by simp [ids, G2])
  rintro x (rfl | rfl)
  · exact .step h2 (by simp [psOf, look, G2, oneL, twoL]) (by simp [ids, G2])
  · exact h2
theorem comes2 : comesB G2 twoL oneL = true := by
  unfold comesB
  rw [reachB_true (reach2 _ (.inl rfl))]
  simp [hasB, ids, G2]
theorem close2 : closeG G2 [twoL] = [oneL, twoL] := by
  unfold closeG
  have h := reach2
  simp only [ids, G2, List.map_cons, List.map_nil] at h ⊢
  rw [List.filter_cons, if_pos (reachB_true (h _ (.inl rfl))), List.filter_cons, if_pos (reachB_true (h _ (.inr rfl))), List.filter_nil]
theorem run_mk_one (w : World) : (mkS #[(0, .agg #[.int .u8 1, .int .u8 0, .int .u8 0, .int .u8 0, .int .u8 0, .int .u8 0, .int .u8 0, .int .u8 0, .int .u8 0, .int .u8 0, .int .u8 0, .int .u8 0, .int .u8 0, .int .u8 0, .int .u8 0, .int .u8 0, .int .u8 0, .int .u8 0, .int .u8 0, .int .u8 0])]).run Try.prog w = .ok (.slice (some ⟨w.heap.size, 0, none⟩) 1 1) (w.alloc (.cells (bv oneL).toArray 27)) := run_mk1 w oneL oneL_id
theorem run_mk_two (w : World) : (mkS #[(0, .agg #[.int .u8 2, .int .u8 0, .int .u8 0, .int .u8 0, .int .u8 0, .int .u8 0, .int .u8 0, .int .u8 0, .int .u8 0, .int .u8 0, .int .u8 0, .int .u8 0, .int .u8 0, .int .u8 0, .int .u8 0, .int .u8 0, .int .u8 0, .int .u8 0, .int .u8 0, .int .u8 0])]).run Try.prog w = .ok (.slice (some ⟨w.heap.size, 0, none⟩) 1 1) (w.alloc (.cells (bv twoL).toArray 27)) := run_mk1 w twoL twoL_id
theorem GrAt.bounded {w : World} {P : Nat → Prop} {g : Nat} {G : Gph} (h : GrAt w P g G) : GrAt w (fun k => P k ∧ k < w.heap.size) g G := by
  obtain ⟨A, n, c, mb, kv, hg⟩ := h
  refine ⟨A, n, c, mb, kv, hg.blk, hg.map, hg.own, ⟨hg.pg, hg.blk.lt⟩, ⟨hg.pm, hg.map.lt⟩, fun k e => ⟨hg.pi k e, (hg.own.own k e).2⟩, hg.len, fun j hj => ?_⟩
  obtain ⟨A', k', c', a, b, d, e⟩ := hg.par j hj
  exact ⟨A', k', c', a, b, d, fun ad e' => ⟨⟨(e ad e').1, (e ad e').2.2.2⟩, (e ad e').2.1, (e ad e').2.2.1, (e ad e').2.2.2⟩⟩
theorem mk_one_post {w : World} {P : Nat → Prop} {g : Nat} {G : Gph} {x : IdL} (h : GrAt w P g G) (hx : IsId x) : GrAt (w.alloc (.cells (bv x).toArray 27)) (fun k => P k ∧ k < w.heap.size) g G ∧ RIds (w.alloc (.cells (bv x).toArray 27)) (some ⟨w.heap.size, 0, none⟩) 1 [x] ∧ Below w.heap.size w (w.alloc (.cells (bv x).toArray 27)) :=
  ⟨h.bounded.below ((Below.refl _ _).alloc (Nat.le_refl _) _), RIds.one (Blk.new w 27 _) hx, (Below.refl _ _).alloc (Nat.le_refl _) _⟩
theorem G1_ps : ∀ j, j < G1.length → (nd G1 j).ps.length ≤ 1000000000 := fun j hj => by
  obtain rfl : j = 0 := by simp [G1] at hj; exact hj
  simp [nd, G1]
theorem G2_ps : ∀ j, j < G2.length → (nd G2 j).ps.length ≤ 1 := fun j hj => by
  simp [G2] at hj
  obtain rfl | rfl : j = 0 ∨ j = 1 := by omega
  · simp [nd, G2]
  · simp [nd, G2]
set_option maxRecDepth 100000 in
set_option maxHeartbeats 4000000 in
theorem awake12_any (w : World) : Calls Try.prog 8 #[] w (fun e w' => e = .returned (.bool true) ∧ Below w.heap.size w w') := by
  go_enter Try.func8, Try.ntmps8
  go_wp2_with fail
  refine (new_any _).mono ?_
  rintro e w1 ⟨g, rfl, hg0, hb1⟩
  have hmk1 := run_mk_one
  go_wp2_with fail
  refine (add_any _ g [] oneL none 0 0 [] _ hg0 GInv.nil oneL_id (RIds.nil _ _) (by omega) (fun _ h => by cases h) (fun j hj => by simp at hj)).mono ?_
  rw [addE1, addG1]
  rintro e w2 ⟨rfl, hg2, hc2⟩
  have hmk2 := run_mk_two
  obtain ⟨hG2, hr2, hb2⟩ := mk_one_post hg2 oneL_id
  go_wp2_with fail
  refine (add_any _ g G1 twoL _ _ _ [oneL] _ hG2 inv1 twoL_id hr2 (by omega) (fun ad h => by cases h; simp) G1_ps).mono ?_
  rw [addE2, addG2]
  rintro e w3 ⟨rfl, hg3, hc3⟩
  go_wp2_with fail
  refine (comes_any _ g G2 twoL oneL _ hg3 inv2 twoL_id oneL_id 1 G2_ps (by decide)).mono ?_
  rw [comes2]
  rintro e w4 ⟨rfl, hb4⟩
  obtain ⟨hG4, hr4, hb4'⟩ := mk_one_post (hg3.below hb4) twoL_id
  go_wp2_with fail
  refine (closure_any _ g G2 _ _ _ [twoL] _ hG4 inv2 hr4 (by omega) 1 G2_ps (by decide)).mono ?_
  rw [close2]
  rintro e w5 ⟨A5, c5, rfl, ho5, hl5, hb5⟩
  have hlen : [oneL, twoL].length = 2 := rfl
  go_wp2_with fail
  go_ret
  have hz1 := hb1.size
  have hz2 := hc2.size
  have hz3 := hc3.size
  have hb2' := hc2.toBelow hb1 hb1.size (fun k hk => hk)
  have hz2' := hb2.size
  have hb22 := below_two hb2' hb2
  have hb3' := hc3.toBelow hb22 hb22.size (fun k hk => by omega)
  exact ⟨rfl, below_two (below_two (below_two hb3' hb4) hb4') hb5⟩
end Go.Proofs.Ytaaiojeehhbhhaa
