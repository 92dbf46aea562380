/-
  The reference's Node; the law's parent.
-/
import Derived.Test.YtgokompppadogaaRvI
set_option linter.unusedVariables false
set_option linter.unusedSimpArgs false
namespace Go.Proofs.Ytgokompppadogaa
open Go.RowKit

/-- the world behind the reference's Node's boxes. -/
abbrev rnW (p1 p2 : IdL) (w : World) : World := (((w.alloc (.cells (bv p1).toArray 27)).alloc (.cells (bv p2).toArray 27)).alloc (.cells zlit 27)).drew
theorem rnW_below (p1 p2 : IdL) (w : World) : Below w.heap.size w (rnW p1 p2 w) := below_drewN (adW_below p1 p2 w) 1
set_option maxRecDepth 100000 in
set_option maxHeartbeats 4000000 in
theorem rnode_any (A : Option Addr) (n c : Nat) (t p1 p2 : List Int) (w : World) (hA : RB w A n t) (hnc : n ≤ c) (hn : n ≤ 100000) (h1 : IsId p1) (h2 : IsId p2) :
    Calls Try.prog 20 #[.slice A n c, ida p1, ida p2] w (IdP (nodeV t p1 p2) w) := by
  have hcut := cutId
  have hX := nodeV_id t p1 p2
  have hb0 := rnW_below p1 p2 w
  have k1 : RB (rnW p1 p2 w) (some ⟨w.heap.size, 0, none⟩) 20 p1 := ((adW_1 p1 p2 w).drew).readsId h1
  have k2 : RB (rnW p1 p2 w) (some ⟨w.heap.size + 1, 0, none⟩) 20 p2 := ((adW_2 p1 p2 w).drew).readsId h2
  have k3 : Blk (rnW p1 p2 w) (w.heap.size + 1 + 1) 27 zid := (adW_3 p1 p2 w).drew
  have hA0 := hA.below hb0
  have HSUM := Lib.hid (show ∀ (W : World) (B : Option Addr) (k d : Nat), k = 40 + n → RB W B k (([] ++ p1) ++ p2 ++ t) → k ≤ d → Calls Try.prog 10 #[.slice B k d] W (fun e w' => e = .returned (ida (nodeV t p1 p2)) ∧ Below W.heap.size W w') from fun W B k d hk h hkd => by
    have := refsum_any B k d _ W h hkd (by omega)
    exact this)
  clear hA
  generalize nodeV t p1 p2 = X at *
  have o1 := bv_one X
  have hzX := id_sz hX
  have hsX := id_zs hX
  have hX20 : (bv X).length = 20 := by rw [bv_length, hX.1]
  have hu := idTy
  go_enter Try.func20, Try.ntmps20
  go_wp2
  go_region_held3 (fun _ => True) (trivial)
    (first
      | (refine step_app rfl (.const (.slice none 0 0)) (.tmp 7) rfl (rnW p1 p2 w).heap.size (.slice none 0 0) 0 [] rfl (OB.nil _ _) (some ⟨w.heap.size, 0, none⟩) 20 20 p1 rfl k1 (by omega) (Nat.le_refl _) ?_; intro v3 w3 ho3 hg3 hat3; have hb3 : Below (rnW p1 p2 w).heap.size (rnW p1 p2 w) w3 := ⟨hg3.os, hg3.tape, hg3.output, hg3.size, fun i hi => hg3.block i hi (by simp [Value.ownBlock])⟩)
      | (refine step_app rfl (.tmp 8) (.tmp 9) rfl (rnW p1 p2 w).heap.size v3 (0 + 20) ([] ++ p1) rfl ho3 (some ⟨w.heap.size + 1, 0, none⟩) 20 20 p2 rfl (k2.below hb3) (by omega) hb3.size ?_; intro v4 w4 ho4 hg4 hat4; have hb4 : Below (rnW p1 p2 w).heap.size (rnW p1 p2 w) w4 := hb3.grown hg4 hb3.size (fun k hk => (ho3.own k hk).1))
      | (refine step_app rfl (.tmp 10) (.tmp 11) rfl (rnW p1 p2 w).heap.size v4 (0 + 20 + 20) (([] ++ p1) ++ p2) rfl ho4 A n c t rfl (hA0.below hb4) (by omega) hb4.size ?_; intro v5 w5 ho5 hg5 hat5; have hb5 : Below (rnW p1 p2 w).heap.size (rnW p1 p2 w) w5 := hb4.grown hg5 hb4.size (fun k hk => (ho4.own k hk).1); obtain ⟨A5, c5, rfl, hc5⟩ := ho5.slice; have hsum := HSUM.out w5 A5 (0 + 20 + 20 + n) c5 (by omega) ho5.reads hc5)
      | (go_at_call 10; refine hsum.mono ?_; rintro e w6 ⟨rfl, hb6⟩; have hb06 := below_two hb5 hb6; have k6 := k3.below hb06 k3.lt; have t6 : w6.there (w.heap.size + 1 + 1) 0 (bv X).length := k6.there (by rw [hX20]; rfl)))
  all_goals
    go_wp2
    (try simp only [Exit.inBlock, Exit.then])
    refine bodyPost_ret ?_ rfl ?_ (v := ida X)
    · have hrg := World.rangeAt_setCells_same w6 (w.heap.size + 1 + 1) 0 (bv X) t6
      simp [results, Try.results20, asAddr, run_cellId hrg hX]
    · have hbb := below_two hb0 hb06
      exact ⟨rfl, hbb.grown (setCells_grown _ _ _ _) hbb.size (fun k hk => by cases hk; omega)⟩
theorem wrap64_rg (x : Int) : 0 ≤ IntKind.u64.wrap x ∧ IntKind.u64.wrap x < 18446744073709551616 := by
  simp [IntKind.wrap, IntKind.signed, IntKind.bits]
  omega
theorem cut_mod2 (n : Nat) (x : Int) : ∃ m : Nat, (IntKind.u64.wrap x).tmod ((n : Int) + 1) = (m : Int) ∧ m ≤ n := by
  have h0 : 0 ≤ IntKind.u64.wrap x := (wrap64_rg x).1
  rw [Int.tmod_eq_emod_of_nonneg h0]
  have h1 := Int.emod_nonneg (IntKind.u64.wrap x) (show ((n : Int) + 1) ≠ 0 by omega)
  have h2 := Int.emod_lt_of_pos (IntKind.u64.wrap x) (show 0 < ((n : Int) + 1) by omega)
  exact ⟨(IntKind.u64.wrap x % ((n : Int) + 1)).toNat, by omega, by omega⟩
set_option maxRecDepth 100000 in
set_option maxHeartbeats 4000000 in
theorem parent_any (Q : Nat → Prop) (r : Nat) (L : Lg) (x : Int) (w : World) (h : RfAt w Q r L) (hn : L.length ≤ 1000000) :
    Calls Try.prog 15 #[.pointer (some ⟨r, 0, none⟩), .int .i64 x] w (fun e w' => ∃ y, IsId y ∧ e = .returned (ida y) ∧ Below w.heap.size w w') := by
  have hb0 := zW_below w
  have hz0 := zW_blk w
  obtain ⟨A, n, c, Vs, hm⟩ := h.below hb0
  have hn' := hm.len
  subst hn'
  have e0 : (zW w).cell? ⟨r, 0, none⟩ = some (.slice A L.length c) := hm.blk.cell 0
  obtain ⟨m, hq, hml⟩ := cut_mod2 L.length x
  have HQ := Lib.hid hq
  clear hq
  have hu := idTy
  have w1' : IntKind.u64.wrap ((L.length : Int) + 1) = (L.length : Int) + 1 := IntWalk.u64_in _ (by omega)
  have w2' : wrap64 (m : Int) = m := by unfold wrap64; omega
  have w3' : IntKind.i64.wrap (m : Int) = m := IntWalk.i64_in _ (by omega)
  have nz : ((L.length : Int) + 1 == 0) = false := beq_eq_false_iff_ne.2 (by omega)
  by_cases hmn : m = L.length
  · have hzX := id_sz zeroL_id
    have hsX := id_zs zeroL_id
    have e1 : ((m : Int) == (L.length : Int)) = true := by simp [hmn]
    have hq1 := HQ.out
    go_enter Try.func15, Try.ntmps15
    go_wp2_with (first
      | ((with_reducible refine st_row 27 4 24 w.heap.size 27 (bv zeroL).toArray zid ?_ ?_ ?_ hzX hsX (bvArr_all zeroL) ?_); rfl; rfl; exact hz0; intro w4 hb4 hg4 hsz4))
    (try simp only [Exit.inBlock, Exit.then])
    refine ret_row 4 27 w.heap.size 27 (bv zeroL).toArray _ Try.results15 rfl hb4 idTy rfl hzX rfl ?_
    exact ⟨zeroL, zeroL_id, rfl, hb0.grown hg4 hb0.size (fun k hk => by cases hk; omega)⟩
  · obtain ⟨b, o, B, d, rfl, hr, _⟩ := hm.at_ (j := m) (by omega)
    have hi := hm.inv.ids m (by omega)
    have r1 := run_loadId (range_node hi hr) hi.1
    have i1 := hi.1
    have e1 : ((m : Int) == (L.length : Int)) = false := by simp; omega
    have e2 : ¬ (m : Int) = (L.length : Int) := by omega
    have m0 : (0 : Int) ≤ (m : Int) := by omega
    have m1 : (m : Int) < (L.length : Int) := by omega
    have hzX := id_sz i1
    have hsX := id_zs i1
    have hq1 := HQ.out
    clear hi hr hm
    generalize (rv L m).node = X at *
    go_enter Try.func15, Try.ntmps15
    go_wp2_with (first
      | ((with_reducible refine st_row 27 4 32 w.heap.size 27 (bv X).toArray zid ?_ ?_ ?_ hzX hsX (bvArr_all X) ?_); rfl; rfl; exact hz0; intro w4 hb4 hg4 hsz4))
    (try simp only [Exit.inBlock, Exit.then])
    refine ret_row 4 27 w.heap.size 27 (bv X).toArray _ Try.results15 rfl hb4 idTy rfl hzX rfl ?_
    exact ⟨X, i1, rfl, hb0.grown hg4 hb0.size (fun k hk => by cases hk; omega)⟩
end Go.Proofs.Ytgokompppadogaa
