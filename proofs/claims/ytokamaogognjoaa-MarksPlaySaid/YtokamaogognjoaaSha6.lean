/-
  'trestlelaw02.awake'.
-/
import Derived.Test.YtokamaogognjoaaSha5
set_option linter.unusedVariables false
set_option linter.unusedSimpArgs false
namespace Go.Proofs.Ytokamaogognjoaa
open Go.RowKit

set_option maxRecDepth 100000 in
theorem outByte_range (h : H5) (i : Nat) : 0 ≤ outByte h i ∧ outByte h i ≤ 255 := by unfold outByte; omega
set_option maxRecDepth 100000 in
theorem isId_sha (xs : List Int) : IsId (sha1 xs) := by
  refine ⟨by simp [sha1, outBytes], fun x hx => ?_⟩
  simp only [sha1, outBytes, List.mem_map] at hx
  obtain ⟨i, _, rfl⟩ := hx
  exact outByte_range _ i
set_option maxRecDepth 100000 in
theorem RBs.one {w : World} {g : Nat} {t : TypeId} {A : Option Addr} {n c : Nat} {xs : List Int} (hb : Blk w g t #[.slice A n c]) (h : RB w A n xs) (hc : n ≤ c) : RBs w (some ⟨g, 0, none⟩) 1 [xs] := by
  refine ⟨rfl, g, 0, fun _ => rfl, fun i hi => ?_⟩
  obtain rfl : i = 0 := by omega
  have hl := h.len
  subst hl
  exact ⟨A, c, hb.cell 0, hc, h⟩
set_option maxRecDepth 100000 in
theorem RBs.none (w : World) : RBs w none 0 [] := ⟨rfl, 0, 0, fun h => absurd h (by omega), fun i hi => absurd hi (by omega)⟩
set_option maxRecDepth 100000 in
/-- the sum of one text, behind the block of the list of parts. -/
theorem sum_one (A : Option Addr) (n c : Nat) (xs : List Int) (w : World) (h : RB w A n xs) (hnc : n ≤ c) (hn : n ≤ 1000000000) :
    Calls Try.prog 50 #[.slice (some ⟨w.heap.size, 0, none⟩) 1 1] (w.alloc (.cells #[.slice A n c] 36)) (SumPost xs w) := by
  have hs := sum_any (some ⟨w.heap.size, 0, none⟩) 1 1 [xs] (w.alloc (.cells #[.slice A n c] 36)) (RBs.one (Blk.new w 36 _) (h.alloc _) hnc) (Nat.le_refl _) (by omega) (by rw [List.flatten_cons, List.flatten_nil, List.append_nil, h.len]; exact hn)
  rw [List.flatten_cons, List.flatten_nil, List.append_nil] at hs
  refine hs.mono ?_
  rintro e w' ⟨rfl, hb⟩
  exact ⟨rfl, below_two ((Below.refl _ _).alloc (Nat.le_refl _) _) hb⟩
set_option maxRecDepth 100000 in
theorem sum_none (w : World) : Calls Try.prog 50 #[.slice none 0 0] w (SumPost [] w) := sum_any none 0 0 [] w (RBs.none w) (Nat.le_refl _) (by omega) (by simp)

set_option maxRecDepth 100000 in
theorem Blk.new2 (w : World) (t : TypeId) (cs : Array Value) (o : Obj) : Blk ((w.alloc o).alloc (.cells cs t)) (w.heap.size + 1) t cs := by
  have := Blk.new (w.alloc o) t cs
  simpa using this
end Go.Proofs.Ytokamaogognjoaa
