/-
  'trestlelaw02.awake'.
-/
import Derived.Test.YtflmaendnbokaaaSha5
set_option linter.unusedVariables false
set_option linter.unusedSimpArgs false
namespace Go.Proofs.Ytflmaendnbokaaa
open Go.RowKit

theorem outByte_range (h : H5) (i : Nat) : 0 ≤ outByte h i ∧ outByte h i ≤ 255 := by unfold outByte; omega
theorem isId_sha (xs : List Int) : IsId (sha1 xs) := by
  refine ⟨by simp [sha1, outBytes], fun x hx => ?_⟩
  simp only [sha1, outBytes, List.mem_map] at hx
  obtain ⟨i, _, rfl⟩ := hx
  exact outByte_range _ i
theorem RBs.one {w : World} {g : Nat} {t : TypeId} {A : Option Addr} {n c : Nat} {xs : List Int} (hb : Blk w g t #[.slice A n c]) (h : RB w A n xs) (hc : n ≤ c) : RBs w (some ⟨g, 0, none⟩) 1 [xs] := by
  refine ⟨rfl, g, 0, fun _ => rfl, fun i hi => ?_⟩
  obtain rfl : i = 0 := by omega
  have hl := h.len
  subst hl
  exact ⟨A, c, hb.cell 0, hc, h⟩
theorem RBs.none (w : World) : RBs w none 0 [] := ⟨rfl, 0, 0, fun h => absurd h (by omega), fun i hi => absurd hi (by omega)⟩
/-- the sum of one text, behind the block of the list of parts. -/
theorem sum_one (A : Option Addr) (n c : Nat) (xs : List Int) (w : World) (h : RB w A n xs) (hnc : n ≤ c) (hn : n ≤ 1000000000) :
    Calls Try.prog 14 #[.slice (some ⟨w.heap.size, 0, none⟩) 1 1] (w.alloc (.cells #[.slice A n c] 22)) (SumPost xs w) := by
  have hs := sum_any (some ⟨w.heap.size, 0, none⟩) 1 1 [xs] (w.alloc (.cells #[.slice A n c] 22)) (RBs.one (Blk.new w 22 _) (h.alloc _) hnc) (Nat.le_refl _) (by omega) (by rw [List.flatten_cons, List.flatten_nil, List.append_nil, h.len]; exact hn)
  rw [List.flatten_cons, List.flatten_nil, List.append_nil] at hs
  refine hs.mono ?_
  rintro e w' ⟨rfl, hb⟩
  exact ⟨rfl, below_two ((Below.refl _ _).alloc (Nat.le_refl _) _) hb⟩
theorem sum_none (w : World) : Calls Try.prog 14 #[.slice none 0 0] w (SumPost [] w) := sum_any none 0 0 [] w (RBs.none w) (Nat.le_refl _) (by omega) (by simp)

theorem Blk.new2 (w : World) (t : TypeId) (cs : Array Value) (o : Obj) : Blk ((w.alloc o).alloc (.cells cs t)) (w.heap.size + 1) t cs := by
  have := Blk.new (w.alloc o) t cs
  simpa using this
set_option maxHeartbeats 400000 in
theorem awake02_any (w : World) : Calls Try.prog 12 #[] w (fun e w' => e = .returned (.bool true) ∧ Below w.heap.size w w') := by
  have hA := sum_one (some ⟨w.heap.size, 0, none⟩) 3 3 [97, 98, 99] (w.alloc (.cells (bv [97, 98, 99]).toArray 5 (3, 4))) (RB.lit_new w _ rfl [97, 98, 99] 3 (3, 4) rfl (bytsOf _ rfl)) (by omega) (by omega)
  rw [show (bv [97, 98, 99]).toArray = #[.int .u8 97, .int .u8 98, .int .u8 99] from rfl, show (w.alloc (.cells #[.int .u8 97, .int .u8 98, .int .u8 99] 5 (3, 4))).heap.size = w.heap.size + 1 from by simp] at hA
  have hi1 := isId_sha [97, 98, 99]
  have hi2 := isId_sha []
  have k1 := sha_abc
  have k2 := sha_none
  injection k1 with k11 k12
  injection k2 with k21 k22
  have hA2 := hA.mono (R' := fun e w' => e = .returned (idv (sha1 [97, 98, 99])) ∧ Below (w.alloc (.cells #[.int .u8 97, .int .u8 98, .int .u8 99] 5 (3, 4))).heap.size (w.alloc (.cells #[.int .u8 97, .int .u8 98, .int .u8 99] 5 (3, 4))) w') fun e w' h => h
  have hN := fun w => (sum_none w).mono (R' := fun e w' => e = .returned (idv (sha1 [])) ∧ Below w.heap.size w w') fun e w' h => h
  clear hA
  generalize sha1 [97, 98, 99] = X at *
  generalize sha1 [] = Y at *
  go_enter Try.func12, Try.ntmps12
  have hzX : (Try.prog.info? 34).map (·.size) = some (bv X).toArray.size := by rw [bvArr_size, hi1.1]; exact idSize
  have hzY : (Try.prog.info? 34).map (·.size) = some (bv Y).toArray.size := by rw [bvArr_size, hi2.1]; exact idSize
  have hsX : zid.size = (bv X).toArray.size := by rw [bvArr_size, hi1.1]; rfl
  have hsY : zid.size = (bv Y).toArray.size := by rw [bvArr_size, hi2.1]; rfl
  go_wp2_with (first
    | (go_at_call 14; (with_reducible refine hA2.mono ?_); rintro e w1 ⟨rfl, hb1⟩)
    | (go_at_call 14; (with_reducible refine (hN _).mono ?_); rintro e w2 ⟨rfl, hb2⟩)
    | ((with_reducible refine st_row 34 1 6 w2.heap.size 34 (bv X).toArray zid ?_ ?_ ?_ hzX hsX (bvArr_all X) ?_); rfl; rfl; exact (Blk.new w2 34 zid).alloc (.cells zid 34); intro w3 hb3 hg3 hsz3)
    | ((with_reducible refine st_row 34 2 7 (w2.heap.size + 1) 34 (bv Y).toArray zid ?_ ?_ ?_ hzY hsY (bvArr_all Y) ?_); rfl; rfl; exact (Blk.new2 w2 34 zid (.cells zid 34)).grown hg3 (by simp); intro w4 hb4 hg4 hsz4; have q0 : w4.cell? ⟨w2.heap.size, 0, none⟩ = some (.int .u8 169) := (by rw [Blk.idCell (hb3.grown hg4 (by simp)) 0 (by rw [hi1.1]; omega), k11]); have q1 : w4.cell? ⟨w2.heap.size, 19, none⟩ = some (.int .u8 157) := (by rw [Blk.idCell (hb3.grown hg4 (by simp)) 19 (by rw [hi1.1]; omega), k12]); have q2 : w4.cell? ⟨w2.heap.size + 1, 0, none⟩ = some (.int .u8 218) := (by rw [Blk.idCell hb4 0 (by rw [hi2.1]; omega), k21]); have q3 : w4.cell? ⟨w2.heap.size + 1, 19, none⟩ = some (.int .u8 9) := (by rw [Blk.idCell hb4 19 (by rw [hi2.1]; omega), k22])))
  go_ret
  have hz1 := hb1.size
  simp only [World.size_alloc] at hz1
  have hz2 := hb2.size
  have hB2 := below_then (below_two ((Below.refl _ _).alloc (Nat.le_refl _) _) hb1) (by omega) hb2
  exact ⟨rfl, (((hB2.alloc (by omega) _).alloc (by simp; omega) _).grown hg3 (by simp; omega) (fun k hk => by cases hk; omega)).grown hg4 (by rw [hsz3]; simp; omega) (fun k hk => by cases hk; omega)⟩
end Go.Proofs.Ytflmaendnbokaaa
