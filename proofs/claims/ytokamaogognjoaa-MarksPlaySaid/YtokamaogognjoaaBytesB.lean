/-
  Contracts over bytes, more: slices.Reverse on a row of the caller's own.
-/
import Derived.Test.YtokamaogognjoaaBytesA
import Derived.Laws.MakeOwn
import Derived.Laws.OwnMore
set_option linter.unusedVariables false
set_option linter.unusedSimpArgs false
namespace Go.Proofs.Ytokamaogognjoaa
open Go.RowKit

set_option maxRecDepth 100000 in
theorem gi_set {xs : List Int} {j i : Nat} {x : Int} (hj : j < xs.length) : gi (xs.set j x) i = if i = j then x else gi xs i := by
  by_cases h : i = j
  · subst h
    simp [gi, hj]
  · rw [if_neg h]
    simp [gi, List.getElem?_set, Ne.symm h]
set_option maxRecDepth 100000 in
theorem bv_set (xs : List Int) (j : Nat) (x : Int) : bv (xs.set j x) = (bv xs).set j (.int .u8 x) := by simp [bv, List.map_set]
set_option maxRecDepth 100000 in
theorem Byts.set {xs : List Int} (h : Byts xs) (j : Nat) {x : Int} (h0 : 0 ≤ x) (h1 : x ≤ 255) : Byts (xs.set j x) := fun z hz => by
  rcases List.mem_or_eq_of_mem_set hz with h' | rfl
  · exact h z h'
  · exact ⟨h0, h1⟩
set_option maxRecDepth 100000 in
theorem OB.store {w : World} {base g n c : Nat} {xs : List Int} (h : OB w base (.slice (some ⟨g, 0, none⟩) n c) n xs) (j : Nat) {x : Int} (h0 : 0 ≤ x) (h1 : x ≤ 255) :
    OB (w.setCell ⟨g, j, none⟩ (.int .u8 x)) base (.slice (some ⟨g, 0, none⟩) n c) n (xs.set j x) := by
  refine ⟨?_, h.2.set j h0 h1⟩
  rw [bv_set]
  exact (h.1.stored j _).1
set_option maxRecDepth 100000 in
theorem OB.cellAt {w : World} {base g n c : Nat} {xs : List Int} (h : OB w base (.slice (some ⟨g, 0, none⟩) n c) n xs) {j : Nat} (hj : j < n) : w.cell? ⟨g, j, none⟩ = some (.int .u8 (gi xs j)) := by
  rw [h.1.cellAt j (by omega)]
  exact bv_some (by rw [h.len]; exact hj)
set_option maxRecDepth 100000 in
theorem OB.frozenAt {w : World} {base g n c : Nat} {xs : List Int} (h : OB w base (.slice (some ⟨g, 0, none⟩) n c) n xs) (j : Nat) : w.frozen? ⟨g, j, none⟩ = false := h.1.frozenAt j
set_option maxRecDepth 100000 in
theorem grown_drewN {a w : World} {row : Option Nat} (h : a.grownBy w row) (n : Nat) : a.grownBy (w.drewN n) row := ⟨h.os, h.tape, h.output, h.size, h.block⟩
set_option maxRecDepth 100000 in
theorem grown_setCell {a w : World} {g : Nat} (h : a.grownBy w (some g)) {p : Addr} (hp : p.block = g ∨ a.heap.size ≤ p.block) (u : Value) : a.grownBy (w.setCell p u) (some g) :=
  ⟨h.os, h.tape, h.output, by simpa [World.setCell] using h.size, fun i hi hne => (Below.heap_setCell w p u i (by
    rintro rfl
    rcases hp with hp | hp
    · exact hne (by rw [hp])
    · omega)).trans (h.block i hi hne)⟩
set_option maxRecDepth 100000 in
theorem grown_alloc {a w : World} {row : Option Nat} (h : a.grownBy w row) (o : Obj) : a.grownBy (w.alloc o) row :=
  ⟨h.os, h.tape, h.output, Nat.le_trans h.size (by simp), fun i hi hne => (Below.heap_alloc w o i (Nat.lt_of_lt_of_le hi h.size)).trans (h.block i hi hne)⟩

set_option maxRecDepth 100000 in
theorem RB.lit {w : World} {g : Nat} {fr : Nat × Nat} (xs : List Int) (n : Nat) (hn : xs.length = n) (hb : Byts xs) (h : w.heap[g]? = some (.cells (bv xs).toArray 5 fr)) : RB w (some ⟨g, 0, none⟩) n xs := by
  refine ⟨hn, hb, fun _ => ⟨_, rfl, fun j hj => ?_⟩⟩
  rw [add_plain, Nat.zero_add, cell_of_row w g j _ 5 fr h]
  simpa using bv_some (xs := xs) (j := j) (by omega)

set_option maxRecDepth 100000 in
@[go_sem] theorem bytes_const (w : World) (g : Nat) (C : Array Value) (n c : Nat) (hg : g = w.heap.size) :
    (convert 36 36 (.slice (some ⟨g, 0, none⟩) n c)).run Try.prog (w.alloc (.cells C 5)) = .ok (.slice (some ⟨g, 0, none⟩) n c) (w.alloc (.cells C 5 (C.size, C.size + 1))) := by
  subst hg
  exact Lib.run_convert_bytes_const (P := Try.prog) w 36 5 C n c Try.underlying36 Try.underlying5

set_option maxRecDepth 100000 in
theorem RB.lit_new (w : World) (g : Nat) (hg : g = w.heap.size) (xs : List Int) (n : Nat) (fr : Nat × Nat) (hn : xs.length = n) (hb : Byts xs) : RB (w.alloc (.cells (bv xs).toArray 5 fr)) (some ⟨g, 0, none⟩) n xs := by
  subst hg
  exact RB.lit xs n hn hb (heap_alloc_new w _)
set_option maxRecDepth 100000 in
theorem ret_bool {a b : Bool} (h : a = b) : Ending.returned (.bool a) = .returned (.bool b) := by rw [h]
set_option maxRecDepth 100000 in
theorem bytsOf (xs : List Int) (h : xs.all (fun x => decide (0 ≤ x) && decide (x ≤ 255)) = true) : Byts xs := fun x hx => by
  have := List.all_eq_true.1 h x hx
  simpa using this
set_option maxRecDepth 100000 in
theorem make_bytes (w : World) (k k' : IntKind) (n c : Nat) (hnc : n ≤ c) (hc : c ≤ 1099511627776) : (Instr.makeSlice 36 (.int k (n : Int)) (.int k' (c : Int))).run Try.prog w = .ok (.slice (some ⟨w.heap.size, 0, none⟩) n c) (w.alloc (.cells (bv (List.replicate c 0)).toArray 5)) := by
  obtain ⟨i0, hi, hz0, hz1, hz2⟩ := info_parts byteInfo
  have h := run_make (P := Try.prog) w 36 5 i0 (.int .u8 0) Try.underlying36 hi hz0 k k' (n : Int) (c : Int) (by omega) (by omega) (by rw [hz2]; omega) (by omega)
  rw [h]
  have : madeCells (Value.int .u8 0).cells ((c : Int).toNat * i0.size) = (bv (List.replicate c 0)).toArray := by
    apply Array.ext'
    rw [hz1, Nat.mul_one, Int.toNat_natCast]
    show (madeCells #[.int .u8 0] c).toList = _
    rw [toList_madeCells_one]
    simp [bv]
  rw [this]
  simp
set_option maxRecDepth 100000 in
theorem OB.made (w : World) (base n c : Nat) (hb : base ≤ w.heap.size) (hnc : n ≤ c) (hc : c ≤ 1099511627776) : OB (w.alloc (.cells (bv (List.replicate c 0)).toArray 5)) base (.slice (some ⟨w.heap.size, 0, none⟩) n c) n (List.replicate n 0) := by
  refine OB.of_blk hb (Blk.new w 5 _) hnc (by simp only [maxLen]; omega) (by simp [bv]) ?_ ?_
  · simp [bv, List.take_replicate, Nat.min_eq_left hnc]
  · intro x hx
    obtain ⟨_, rfl⟩ := List.mem_replicate.1 hx
    omega
end Go.Proofs.Ytokamaogognjoaa
