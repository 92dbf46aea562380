/-
  trestlelaw04.do at Cut, Room, Fuse, Fall, Rise. (Printed by gen/td3.py.)
-/
import Derived.Test.YtdhegecnhglplaaTd2
set_option linter.unusedVariables false
set_option linter.unusedSimpArgs false
namespace Go.Proofs.Ytdhegecnhglplaa
open Go.RowKit

section
variable (B g g' : Nat) (s : Tp) (what n : Int) (A : Option Addr) (k c : Nat) (ps : List (List Int)) (w : World)
set_option maxHeartbeats 1000000 in
theorem do_cut (h : Both w g g' s) (hok : s.Ok 400000000) (hps : RBs w A k ps) (hkc : k ≤ c) (hk : k ≤ 9223372036854775807) (hB : B ≤ w.heap.size) (hg : B ≤ g) (hg' : B ≤ g') (hj : jok ps = true) :
    Calls Try.prog 23 #[.pointer (some ⟨g, 0, none⟩), .pointer (some ⟨g', 0, none⟩), .agg #[.int .i64 2, .int .i64 n, .slice A k c]] w (DoPost B g g' (s.cut n).2 w) := by
  have hjo := joinBox 2 n A k c ps w hps hkc hk
  unfold JoinPost at hjo
  rw [hj] at hjo
  clear hj
  obtain ⟨⟨P, hT⟩, Q, hR⟩ := h
  have kT := fun (W : World) (P : Nat → Prop) (hW : TpAt W P g s) => tpCut_any g s P n W hW hok
  have kR := fun (W : World) (Q : Nat → Prop) (hW : RtAt W Q g' s) => rtCut_any g' s Q n W hW hok
  generalize s.cut n = r at *
  clear hok
  go_enter Try.func23, Try.ntmps23
  go_wp2_with (go_at_call 38; (with_reducible refine hjo.mono ?_); rintro e w1 ⟨⟨A1, m1, c1, rfl, hm1, ho1, hc1, hb1⟩, hx1⟩; clear hm1; have cb0 := hx1.cell 0; have cb1 := hx1.cell 1; simp only [List.getElem?_toArray, List.getElem?_cons_zero, List.getElem?_cons_succ] at cb0 cb1; have hbb : Below w.heap.size w w1 := below_two ((Below.refl _ _).alloc (Nat.le_refl _) _) hb1; have hT1 := hT.below hbb; have hR1 := hR.below hbb; have hgw := hT.lt; have hgw' := hR.lt; have hxl := hx1.lt)
  have hT1d : TpAt w1.drew P g s := hT1.below (drewN_below w1 1)
  have hR1d : RtAt w1.drew Q g' s := hR1.below (drewN_below w1 1)
  have hx1d : Blk w1.drew w.heap.size 41 #[.int .i64 2, .int .i64 n, .slice A k c] := hx1.drewN 1
  go_region_with (first
  | (go_at_call 28; (with_reducible refine (kT _ _ hT1d).mono ?_); rintro e w2 ⟨rfl, t2, hg2⟩; have hR2 := hR1d.overTp hT1d hg2; have cb12 := (Blk.grown hx1d hg2 (by simp; omega)).cell 1; simp only [List.getElem?_toArray, List.getElem?_cons_zero, List.getElem?_cons_succ] at cb12)
  | (go_at_call 41; (with_reducible refine (kR _ _ hR2).mono ?_); rintro e w3 ⟨rfl, t3, hg3⟩; have hT3 := t2.overRt hR2 hg3))
  all_goals
    go_wp2
    have hz1 := hbb.size
    have hz2 := hg2.size
    simp at hz2
    (try simp only [Exit.inBlock, Exit.then])
    refine bodyPost_ret (v := .bool true) ?_ rfl ?_
    · simp [results, Try.results23, go_sem]
    exact ⟨rfl, ⟨⟨_, hT3⟩, _, t3⟩, ((below_drewN (hbb.mono hB) 1).grown hg2 (by simp; omega) (fun k hk => by cases hk; exact hg)).grown hg3 (by omega) (fun k hk => by cases hk; exact hg')⟩
set_option maxHeartbeats 1000000 in
theorem do_room (h : Both w g g' s) (hok : s.Ok 400000000) (hps : RBs w A k ps) (hkc : k ≤ c) (hk : k ≤ 9223372036854775807) (hB : B ≤ w.heap.size) (hg : B ≤ g) (hg' : B ≤ g') (hj : jok ps = true) :
    Calls Try.prog 23 #[.pointer (some ⟨g, 0, none⟩), .pointer (some ⟨g', 0, none⟩), .agg #[.int .i64 4, .int .i64 n, .slice A k c]] w (DoPost B g g' (s.setRoom n) w) := by
  have hjo := joinBox 4 n A k c ps w hps hkc hk
  unfold JoinPost at hjo
  rw [hj] at hjo
  clear hj
  obtain ⟨⟨P, hT⟩, Q, hR⟩ := h
  have kT := fun (W : World) (P : Nat → Prop) (hW : TpAt W P g s) => tpRoom_any g s P n W hW
  have kR := fun (W : World) (Q : Nat → Prop) (hW : RtAt W Q g' s) => rtRoom_any g' s Q n W hW
  generalize (s.setRoom n) = s2 at *
  clear hok
  go_enter Try.func23, Try.ntmps23
  go_wp2_with (first
  | (go_at_call 38; (with_reducible refine hjo.mono ?_); rintro e w1 ⟨⟨A1, m1, c1, rfl, hm1, ho1, hc1, hb1⟩, hx1⟩; clear hm1; have cb0 := hx1.cell 0; have cb1 := hx1.cell 1; simp only [List.getElem?_toArray, List.getElem?_cons_zero, List.getElem?_cons_succ] at cb0 cb1; have hbb : Below w.heap.size w w1 := below_two ((Below.refl _ _).alloc (Nat.le_refl _) _) hb1; have hT1 := hT.below hbb; have hR1 := hR.below hbb; have hgw := hT.lt; have hgw' := hR.lt; have hxl := hx1.lt)
  | (go_at_call 27; (with_reducible refine (kT _ _ hT1).mono ?_); rintro e w2 ⟨rfl, t2, hg2⟩; have hR2 := hR1.overTp hT1 hg2; have cb12 := (Blk.grown hx1 hg2 (by simp; omega)).cell 1; simp only [List.getElem?_toArray, List.getElem?_cons_zero, List.getElem?_cons_succ] at cb12)
  | (go_at_call 34; (with_reducible refine (kR _ _ hR2).mono ?_); rintro e w3 ⟨rfl, t3, hg3⟩; have hT3 := t2.overRt hR2 hg3))
  go_ret
  have hz1 := hbb.size
  have hz2 := hg2.size
  exact ⟨rfl, ⟨⟨_, hT3⟩, _, t3⟩, ((hbb.mono hB).grown hg2 (by omega) (fun k hk => by cases hk; exact hg)).grown hg3 (by omega) (fun k hk => by cases hk; exact hg')⟩
set_option maxHeartbeats 1000000 in
theorem do_fuse (h : Both w g g' s) (hok : s.Ok 400000000) (hps : RBs w A k ps) (hkc : k ≤ c) (hk : k ≤ 9223372036854775807) (hB : B ≤ w.heap.size) (hg : B ≤ g) (hg' : B ≤ g') (hj : jok ps = true) :
    Calls Try.prog 23 #[.pointer (some ⟨g, 0, none⟩), .pointer (some ⟨g', 0, none⟩), .agg #[.int .i64 5, .int .i64 n, .slice A k c]] w (DoPost B g g' (s.setFuse n) w) := by
  have hjo := joinBox 5 n A k c ps w hps hkc hk
  unfold JoinPost at hjo
  rw [hj] at hjo
  clear hj
  obtain ⟨⟨P, hT⟩, Q, hR⟩ := h
  have kT := fun (W : World) (P : Nat → Prop) (hW : TpAt W P g s) => tpFuse_any g s P n W hW
  have kR := fun (W : World) (Q : Nat → Prop) (hW : RtAt W Q g' s) => rtFuse_any g' s Q n W hW
  generalize (s.setFuse n) = s2 at *
  clear hok
  go_enter Try.func23, Try.ntmps23
  go_wp2_with (first
  | (go_at_call 38; (with_reducible refine hjo.mono ?_); rintro e w1 ⟨⟨A1, m1, c1, rfl, hm1, ho1, hc1, hb1⟩, hx1⟩; clear hm1; have cb0 := hx1.cell 0; have cb1 := hx1.cell 1; simp only [List.getElem?_toArray, List.getElem?_cons_zero, List.getElem?_cons_succ] at cb0 cb1; have hbb : Below w.heap.size w w1 := below_two ((Below.refl _ _).alloc (Nat.le_refl _) _) hb1; have hT1 := hT.below hbb; have hR1 := hR.below hbb; have hgw := hT.lt; have hgw' := hR.lt; have hxl := hx1.lt)
  | (go_at_call 15; (with_reducible refine (kT _ _ hT1).mono ?_); rintro e w2 ⟨rfl, t2, hg2⟩; have hR2 := hR1.overTp hT1 hg2; have cb12 := (Blk.grown hx1 hg2 (by simp; omega)).cell 1; simp only [List.getElem?_toArray, List.getElem?_cons_zero, List.getElem?_cons_succ] at cb12)
  | (go_at_call 43; (with_reducible refine (kR _ _ hR2).mono ?_); rintro e w3 ⟨rfl, t3, hg3⟩; have hT3 := t2.overRt hR2 hg3))
  go_ret
  have hz1 := hbb.size
  have hz2 := hg2.size
  exact ⟨rfl, ⟨⟨_, hT3⟩, _, t3⟩, ((hbb.mono hB).grown hg2 (by omega) (fun k hk => by cases hk; exact hg)).grown hg3 (by omega) (fun k hk => by cases hk; exact hg')⟩
set_option maxHeartbeats 1000000 in
theorem do_fall (h : Both w g g' s) (hok : s.Ok 400000000) (hps : RBs w A k ps) (hkc : k ≤ c) (hk : k ≤ 9223372036854775807) (hB : B ≤ w.heap.size) (hg : B ≤ g) (hg' : B ≤ g') (hj : jok ps = true) :
    Calls Try.prog 23 #[.pointer (some ⟨g, 0, none⟩), .pointer (some ⟨g', 0, none⟩), .agg #[.int .i64 6, .int .i64 n, .slice A k c]] w (DoPost B g g' (s.fall n) w) := by
  have hjo := joinBox 6 n A k c ps w hps hkc hk
  unfold JoinPost at hjo
  rw [hj] at hjo
  clear hj
  obtain ⟨⟨P, hT⟩, Q, hR⟩ := h
  have kT := fun (W : World) (P : Nat → Prop) (hW : TpAt W P g s) => tpFall_any g s P n W hW hok.held (Nat.le_trans hok.len (by omega)) (Nat.le_trans hok.falls (by omega))
  have kR := fun (W : World) (Q : Nat → Prop) (hW : RtAt W Q g' s) => rtFall_any g' s Q n W hW hok.held (Nat.le_trans hok.len (by omega))
  generalize (s.fall n) = s2 at *
  clear hok
  go_enter Try.func23, Try.ntmps23
  go_wp2_with (first
  | (go_at_call 38; (with_reducible refine hjo.mono ?_); rintro e w1 ⟨⟨A1, m1, c1, rfl, hm1, ho1, hc1, hb1⟩, hx1⟩; clear hm1; have cb0 := hx1.cell 0; have cb1 := hx1.cell 1; simp only [List.getElem?_toArray, List.getElem?_cons_zero, List.getElem?_cons_succ] at cb0 cb1; have hbb : Below w.heap.size w w1 := below_two ((Below.refl _ _).alloc (Nat.le_refl _) _) hb1; have hT1 := hT.below hbb; have hR1 := hR.below hbb; have hgw := hT.lt; have hgw' := hR.lt; have hxl := hx1.lt)
  | (go_at_call 18; (with_reducible refine (kT _ _ hT1).mono ?_); rintro e w2 ⟨rfl, t2, hg2⟩; have hR2 := hR1.overTp hT1 hg2; have cb12 := (Blk.grown hx1 hg2 (by simp; omega)).cell 1; simp only [List.getElem?_toArray, List.getElem?_cons_zero, List.getElem?_cons_succ] at cb12)
  | (go_at_call 44; (with_reducible refine (kR _ _ hR2).mono ?_); rintro e w3 ⟨rfl, t3, hg3⟩; have hT3 := t2.overRt hR2 hg3))
  go_ret
  have hz1 := hbb.size
  have hz2 := hg2.size
  exact ⟨rfl, ⟨⟨_, hT3⟩, _, t3⟩, ((hbb.mono hB).grown hg2 (by omega) (fun k hk => by cases hk; exact hg)).grown hg3 (by omega) (fun k hk => by cases hk; exact hg')⟩
set_option maxHeartbeats 1000000 in
theorem do_rise (h : Both w g g' s) (hok : s.Ok 400000000) (hps : RBs w A k ps) (hkc : k ≤ c) (hk : k ≤ 9223372036854775807) (hB : B ≤ w.heap.size) (hg : B ≤ g) (hg' : B ≤ g') (hj : jok ps = true) :
    Calls Try.prog 23 #[.pointer (some ⟨g, 0, none⟩), .pointer (some ⟨g', 0, none⟩), .agg #[.int .i64 7, .int .i64 n, .slice A k c]] w (DoPost B g g' s.rise w) := by
  have hjo := joinBox 7 n A k c ps w hps hkc hk
  unfold JoinPost at hjo
  rw [hj] at hjo
  clear hj
  obtain ⟨⟨P, hT⟩, Q, hR⟩ := h
  have kT := fun (W : World) (P : Nat → Prop) (hW : TpAt W P g s) => tpRise_any g s P W hW hok.held
  have kR := fun (W : World) (Q : Nat → Prop) (hW : RtAt W Q g' s) => rtRise_any g' s Q W hW hok.held
  generalize s.rise = s2 at *
  clear hok
  go_enter Try.func23, Try.ntmps23
  go_wp2_with (first
  | (go_at_call 38; (with_reducible refine hjo.mono ?_); rintro e w1 ⟨⟨A1, m1, c1, rfl, hm1, ho1, hc1, hb1⟩, hx1⟩; clear hm1; have cb0 := hx1.cell 0; have cb1 := hx1.cell 1; simp only [List.getElem?_toArray, List.getElem?_cons_zero, List.getElem?_cons_succ] at cb0 cb1; have hbb : Below w.heap.size w w1 := below_two ((Below.refl _ _).alloc (Nat.le_refl _) _) hb1; have hT1 := hT.below hbb; have hR1 := hR.below hbb; have hgw := hT.lt; have hgw' := hR.lt; have hxl := hx1.lt)
  | (go_at_call 19; (with_reducible refine (kT _ _ hT1).mono ?_); rintro e w2 ⟨rfl, t2, hg2⟩; have hR2 := hR1.overTp hT1 hg2; have cb12 := (Blk.grown hx1 hg2 (by simp; omega)).cell 1; simp only [List.getElem?_toArray, List.getElem?_cons_zero, List.getElem?_cons_succ] at cb12)
  | (go_at_call 45; (with_reducible refine (kR _ _ hR2).mono ?_); rintro e w3 ⟨rfl, t3, hg3⟩; have hT3 := t2.overRt hR2 hg3))
  go_ret
  have hz1 := hbb.size
  have hz2 := hg2.size
  exact ⟨rfl, ⟨⟨_, hT3⟩, _, t3⟩, ((hbb.mono hB).grown hg2 (by omega) (fun k hk => by cases hk; exact hg)).grown hg3 (by omega) (fun k hk => by cases hk; exact hg')⟩
end
end Go.Proofs.Ytdhegecnhglplaa
