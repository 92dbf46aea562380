/-
  layer 15's awake; RevlogNil's walk.
-/
import Derived.Test.YtgokompppadogaaRvG
set_option linter.unusedVariables false
set_option linter.unusedSimpArgs false
namespace Go.Proofs.Ytgokompppadogaa
open Go.RowKit

def xA : IdL := nodeV [97] zeroL zeroL
def LA : Lg := [⟨xA, zeroL, zeroL, [97], 0⟩]
theorem xA_id : IsId xA := nodeV_id _ _ _
theorem mayA : mayE [] [97] zeroL zeroL = 0 := by
  have h1 : lacksL [] zeroL = false := by simp [lacksL]
  have h2 : posL [] (nodeV [97] zeroL zeroL) = none := posL_no (by simp [nodes])
  unfold mayE
  rw [h1, h2]
  rfl
theorem addXA : addX [] [97] zeroL zeroL = xA := by unfold addX; rw [if_pos mayA]; rfl
theorem addLA : addL [] [97] zeroL zeroL = LA := by
  have h2 : posL [] (nodeV [97] zeroL zeroL) = none := posL_no (by simp [nodes])
  unfold addL
  rw [if_pos ⟨mayA, h2⟩]
  rfl
theorem posA : posL LA xA = some 0 := by
  unfold posL LA nodes
  simp
theorem txtA : txtV LA xA = [97] := by unfold txtV; rw [posA]; rfl
theorem chaA : chaI LA 0 = 0 := rfl
set_option maxRecDepth 100000 in
set_option maxHeartbeats 4000000 in
theorem awake15_any (w : World) : Calls Try.prog 7 #[] w (BoolP true w) := by
  have hzX := id_sz xA_id
  have hsX := id_zs xA_id
  have hX := xA_id
  go_enter Try.func7, Try.ntmps7
  go_wp2_with fail
  refine (new_any _).mono ?_
  rintro e w1 ⟨g, rfl, hg0, hb1⟩
  go_wp2_with fail
  have hal := (Below.refl w1.heap.size w1).alloc (Nat.le_refl _) (.cells #[.int .u8 97] 5 (1, 2))
  refine (add_any _ g [] _ _ _ [97] zeroL zeroL _ (hg0.below hal) (RB.lit_new w1 _ rfl [97] 1 (1, 2) rfl (bytsOf _ rfl)) (by omega) (by omega) zeroL_id zeroL_id (by simp)).mono ?_
  rw [addXA, addLA, mayA]
  rintro e w2 ⟨rfl, hg2, hc2⟩
  have hb2 : Below w.heap.size w w2 := hc2.toBelow (below_two hb1 hal) (below_two hb1 hal).size (fun k hk => hk)
  have htx : ∀ W, LgAt W (fun k => w.heap.size ≤ k) g LA → Calls Try.prog 11 #[.pointer (some ⟨g, 0, none⟩), ida xA] W (TxtP [97] 0 W) := fun W hW => by
    have := text_any _ g LA xA W hW hX (by simp [LA])
    rwa [txtA, (atI_of posA).2.2] at this
  have hg2' : LgAt w2 (fun k => w.heap.size ≤ k) g LA := hg2.mono (fun k hk => by rcases hk with hk | hk; exact hk; exact Nat.le_trans (below_two hb1 hal).size hk)
  have hb3 : Below w2.heap.size w2 (w2.alloc (.cells zid 27)) := (Below.refl _ _).alloc (Nat.le_refl _) _
  have hlenA : ∀ W, LgAt W (fun k => w.heap.size ≤ k) g LA → Calls Try.prog 14 #[.pointer (some ⟨g, 0, none⟩)] W (IntP 1 W) := fun W hW => len_any _ g LA W hW
  have hchA : ∀ W, LgAt W (fun k => w.heap.size ≤ k) g LA → Calls Try.prog 13 #[.pointer (some ⟨g, 0, none⟩), .int .i64 0] W (IntP 0 W) := fun W hW => chain_any _ g LA 0 W hW
  have hstr : (strOfNums [97]).toList = [97] := by rw [ByteArray.toList_eq, strOfNums_data]; rfl
  clear hg2 hc2
  generalize xA = X at *
  go_wp2_with (first
    | ((with_reducible refine st_row 27 2 16 w2.heap.size 27 (bv X).toArray zid ?_ ?_ ?_ hzX hsX (bvArr_all X) ?_); rfl; rfl; exact Blk.new w2 27 zid; intro w4 hb4 hg4 hsz4; have q4 := run_loadId hb4.range hX; have hb24 := hb3.grown hg4 hb3.size (fun k hk => by cases hk; exact Nat.le_refl _); have hg4' := hg2'.below hb24)
    | (go_at_call 11; (refine (htx _ hg4').mono ?_); rintro e w5 ⟨A5, c5, rfl, ho5, hc5, hb5⟩; have hg5 := hg4'.below hb5; have cB := fun c => run_string_RB (P := Try.prog) (show RB w5 A5 1 [97] from ho5.reads) 29 5 9 c Try.underlying29 Try.underlying5 Try.underlying9; have hlen := hlenA w5 hg5)
    | (go_at_call 14; (refine hlen.mono ?_); rintro e w6 ⟨rfl, hb6⟩; have hch := hchA w6 (hg5.below hb6))
    | (go_at_call 13; (refine hch.mono ?_); rintro e w7 ⟨rfl, hb7⟩))
  go_ret
  exact ⟨rfl, below_two (below_two (below_two (below_two hb2 hb24) hb5) hb6) hb7⟩
/-! ### RevlogNil -/
set_option maxRecDepth 100000 in
set_option maxHeartbeats 4000000 in
theorem nil_long (A : Option Addr) (n c : Nat) (xs : List Int) (a : IdL) (k : Int) (w : World) (hn : 1000 < n) :
    Calls Try.prog 5 #[.slice A n c, ida a, .int .i64 k] w (BoolP true w) := by
  have h1 : (1000 : Int) < (n : Int) := by omega
  go_enter Try.func5, Try.ntmps5
  go_wp2_with (go_at_call 7; refine (awake15_any _).mono ?_; rintro e w1 ⟨rfl, hb1⟩)
  go_ret
  exact ⟨rfl, below_two (idW_below a w) hb1⟩
set_option maxRecDepth 100000 in
set_option maxHeartbeats 8000000 in
theorem nil_short (A : Option Addr) (n c : Nat) (a : IdL) (k : Int) (w : World) (hn : n ≤ 1000) (ha : IsId a) :
    Calls Try.prog 5 #[.slice A n c, ida a, .int .i64 k] w (BoolP true w) := by
  have h1 : ¬ (1000 : Int) < (n : Int) := by omega
  have hu := idTy
  have hzX := id_sz zeroL_id
  have hsX := id_zs zeroL_id
  have hb0 := idW_below a w
  have HA := Lib.hid (show ∀ W, Below (idW a w).heap.size (idW a w) W → (loadId ⟨w.heap.size, 0, none⟩).run Try.prog W = .ok (ida a) W from fun W hW => run_loadId ((idW_blk a w).below hW (idW_blk a w).lt).range ha)
  have r0 := HA.out _ (Below.refl _ _)
  have hzz := fun W => idz_eql zeroL_id W
  rw [show (zeroL == zeroL) = true from rfl] at hzz
  go_enter Try.func5, Try.ntmps5
  have hnz : ∀ W : World, Blk (W.alloc (.cells zlit 27)) W.heap.size 27 zid := fun W => Blk.new W 27 zlit
  go_wp2_with (first
    | (go_at_call 9; refine (add_nil A n c a a _ ha ha).mono ?_; rintro e w1 ⟨rfl, hb1⟩)
    | ((with_reducible refine st_row 27 8 27 w1.heap.size 27 (bv zeroL).toArray zid ?_ ?_ ?_ hzX hsX (bvArr_all zeroL) ?_); rfl; rfl; exact hnz w1; intro w2 hk2 hg2 hsz2; have hb12 := ((Below.refl w1.heap.size w1).alloc (Nat.le_refl _) (.cells zlit 27)).grown hg2 (by simp) (fun k hk => by cases hk; exact Nat.le_refl _); have hb02 := below_two hb1 hb12; have r2 := HA.out _ hb02)
    | (go_at_call 11; refine (text_nil a _ ha).mono ?_; rintro e w3 ⟨A3, c3, rfl, ho3, hc3, hb3⟩; have hb03 := below_two hb02 hb3; have r3 := HA.out _ hb03; have hk3 := hk2.below hb3 hk2.lt)
    | (go_at_call 22; refine (parents_nil a _ ha).mono ?_; rintro e w4 ⟨rfl, hb4⟩; have hb04 := below_two hb03 hb4; have hk4 := hk3.below hb4 hk3.lt)
    | ((with_reducible refine st_row 27 12 39 w4.heap.size 27 (bv zeroL).toArray zid ?_ ?_ ?_ hzX hsX (bvArr_all zeroL) ?_); rfl; rfl; exact (hnz w4).alloc _; intro w5 hk5 hg5 hsz5; have hb45 := (((Below.refl w4.heap.size w4).alloc (Nat.le_refl _) (.cells zlit 27)).alloc (by simp) (.cells zlit 27)).grown hg5 (by simp; omega) (fun k hk => by cases hk; exact Nat.le_refl _); have hk13 : Blk w5 (w4.heap.size + 1) 27 zid := (show Blk ((w4.alloc (.cells zlit 27)).alloc (.cells zlit 27)) (w4.heap.size + 1) 27 zid from by have := hnz (w4.alloc (.cells zlit 27)); rwa [World.size_alloc] at this).grown hg5 (by intro e; injection e with e; omega))
    | ((with_reducible refine st_row 27 13 40 (w4.heap.size + 1) 27 (bv zeroL).toArray zid ?_ ?_ ?_ hzX hsX (bvArr_all zeroL) ?_); rfl; rfl; exact hk13; intro w6 hk6 hg6 hsz6; have hb46 := hb45.grown hg6 hb45.size (fun k hk => by cases hk; omega); have hk12 := hk5.grown hg6 (by intro e; injection e with e; omega); have hk8 := hk4.below hb46 hk4.lt)
    | (go_at_call 23; refine (nodeAt_nil k _).mono ?_; rintro e w7 ⟨rfl, hb7⟩; have hb67 := hb7)
    | ((with_reducible refine st_row 27 15 46 w7.heap.size 27 (bv zeroL).toArray zid ?_ ?_ ?_ hzX hsX (bvArr_all zeroL) ?_); rfl; rfl; exact hnz w7; intro w8 hk15 hg8 hsz8; have hb78 := ((Below.refl w7.heap.size w7).alloc (Nat.le_refl _) (.cells zlit 27)).grown hg8 (by simp) (fun k hk => by cases hk; exact Nat.le_refl _))
    | (go_at_call 7; refine (awake15_any _).mono ?_; rintro e w9 ⟨rfl, hb9⟩; have hb69 := below_two (below_two hb7 hb78) hb9; have q8 := run_loadId (hk8.below hb69 hk8.lt).range zeroL_id; have q12 := run_loadId (hk12.below hb69 hk12.lt).range zeroL_id; have q13 := run_loadId (hk6.below hb69 hk6.lt).range zeroL_id; have q15 := run_loadId (hk15.below hb9 hk15.lt).range zeroL_id)
    | (go_at_call 14; refine (len_nil _).mono ?_; rintro e w10 ⟨rfl, hb10⟩; have q15' := run_loadId ((hk15.below hb9 hk15.lt).below hb10 (hk15.below hb9 hk15.lt).lt).range zeroL_id)
    | (go_at_call 13; refine (chain_nil k _).mono ?_; rintro e w11 ⟨rfl, hb11⟩))
  go_ret
  exact ⟨rfl, below_two (below_two (below_two (below_two (below_two hb0 hb04) hb46) hb69) hb10) hb11⟩
theorem nil_walk (A : Option Addr) (n c : Nat) (xs : List Int) (a : IdL) (k : Int) (w : World) (_ : RB w A n xs) (_ : n ≤ c) (ha : IsId a) (_ : (Lit.int .i64 k).wf = true) :
    Calls Try.prog 5 #[.slice A n c, ida a, .int .i64 k] w (BoolP true w) := by
  by_cases hn : n ≤ 1000
  · exact nil_short A n c a k w hn ha
  · exact nil_long A n c xs a k w (by omega)
end Go.Proofs.Ytgokompppadogaa
