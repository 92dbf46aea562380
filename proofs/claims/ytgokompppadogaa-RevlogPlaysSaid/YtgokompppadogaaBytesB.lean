/-
  Contracts over bytes, more: slices.Reverse on a row of the caller's own.
-/
import Derived.Test.YtgokompppadogaaBytesA
import Derived.Laws.MakeOwn
import Derived.Laws.OwnMore
set_option linter.unusedVariables false
set_option linter.unusedSimpArgs false
namespace Go.Proofs.Ytgokompppadogaa
open Go.RowKit

theorem gi_set {xs : List Int} {j i : Nat} {x : Int} (hj : j < xs.length) : gi (xs.set j x) i = if i = j then x else gi xs i := by
  by_cases h : i = j
  · subst h
    simp [gi, hj]
  · rw [if_neg h]
    simp [gi, List.getElem?_set, Ne.symm h]
theorem bv_set (xs : List Int) (j : Nat) (x : Int) : bv (xs.set j x) = (bv xs).set j (.int .u8 x) := by simp [bv, List.map_set]
theorem Byts.set {xs : List Int} (h : Byts xs) (j : Nat) {x : Int} (h0 : 0 ≤ x) (h1 : x ≤ 255) : Byts (xs.set j x) := fun z hz => by
  rcases List.mem_or_eq_of_mem_set hz with h' | rfl
  · exact h z h'
  · exact ⟨h0, h1⟩
theorem OB.store {w : World} {base g n c : Nat} {xs : List Int} (h : OB w base (.slice (some ⟨g, 0, none⟩) n c) n xs) (j : Nat) {x : Int} (h0 : 0 ≤ x) (h1 : x ≤ 255) :
    OB (w.setCell ⟨g, j, none⟩ (.int .u8 x)) base (.slice (some ⟨g, 0, none⟩) n c) n (xs.set j x) := by
  refine ⟨?_, h.2.set j h0 h1⟩
  rw [bv_set]
  exact (h.1.stored j _).1
theorem OB.cellAt {w : World} {base g n c : Nat} {xs : List Int} (h : OB w base (.slice (some ⟨g, 0, none⟩) n c) n xs) {j : Nat} (hj : j < n) : w.cell? ⟨g, j, none⟩ = some (.int .u8 (gi xs j)) := by
  rw [h.1.cellAt j (by omega)]
  exact bv_some (by rw [h.len]; exact hj)
theorem OB.frozenAt {w : World} {base g n c : Nat} {xs : List Int} (h : OB w base (.slice (some ⟨g, 0, none⟩) n c) n xs) (j : Nat) : w.frozen? ⟨g, j, none⟩ = false := h.1.frozenAt j
theorem grown_drewN {a w : World} {row : Option Nat} (h : a.grownBy w row) (n : Nat) : a.grownBy (w.drewN n) row := ⟨h.os, h.tape, h.output, h.size, h.block⟩
theorem grown_setCell {a w : World} {g : Nat} (h : a.grownBy w (some g)) {p : Addr} (hp : p.block = g ∨ a.heap.size ≤ p.block) (u : Value) : a.grownBy (w.setCell p u) (some g) :=
  ⟨h.os, h.tape, h.output, by simpa [World.setCell] using h.size, fun i hi hne => (Below.heap_setCell w p u i (by
    rintro rfl
    rcases hp with hp | hp
    · exact hne (by rw [hp])
    · omega)).trans (h.block i hi hne)⟩
theorem grown_alloc {a w : World} {row : Option Nat} (h : a.grownBy w row) (o : Obj) : a.grownBy (w.alloc o) row :=
  ⟨h.os, h.tape, h.output, Nat.le_trans h.size (by simp), fun i hi hne => (Below.heap_alloc w o i (Nat.lt_of_lt_of_le hi h.size)).trans (h.block i hi hne)⟩

/-- a list half turned round. -/
def HalfRev (xs zs : List Int) (k : Nat) : Prop := zs.length = xs.length ∧ ∀ p, p < xs.length → gi zs p = if p < k ∨ xs.length < p + 1 + k then gi xs (xs.length - 1 - p) else gi xs p
theorem HalfRev.start (xs : List Int) : HalfRev xs xs 0 := ⟨rfl, fun p hp => by rw [if_neg (by omega)]⟩
theorem HalfRev.step {xs zs : List Int} {k j : Nat} (h : HalfRev xs zs k) (hj : k + j + 1 = xs.length) (hkj : k < j) : HalfRev xs ((zs.set k (gi zs j)).set j (gi zs k)) (k + 1) := by
  refine ⟨by simpa using h.1, fun p hp => ?_⟩
  have hz := h.1
  rw [gi_set (by simp; omega), gi_set (by omega)]
  have hk := h.2 k (by omega)
  have hjj := h.2 j (by omega)
  have hpp := h.2 p hp
  rw [if_neg (by omega)] at hk hjj
  by_cases e1 : p = j
  · subst e1
    rw [if_pos rfl, if_pos (by omega), hk]
    congr 1
    omega
  · rw [if_neg e1]
    by_cases e2 : p = k
    · subst e2
      rw [if_pos rfl, if_pos (by omega), hjj]
      congr 1
      omega
    · rw [if_neg e2, hpp]
      by_cases c : p < k ∨ xs.length < p + 1 + k
      · rw [if_pos c, if_pos (by omega)]
      · rw [if_neg c, if_neg (by omega)]
theorem HalfRev.done {xs zs : List Int} {k : Nat} (h : HalfRev xs zs k) (hk : xs.length ≤ 2 * k + 1) : zs = xs.reverse := by
  refine gi_ext (by simpa using h.1) fun p hp => ?_
  have hz := h.1
  have hr : gi xs.reverse p = gi xs (xs.length - 1 - p) := by
    have h1 : p < xs.length := by omega
    have h2 : xs.length - 1 - p < xs.length := by omega
    simp [gi, h1, h2]
  rw [hr, h.2 p (by omega)]
  by_cases c : p < k ∨ xs.length < p + 1 + k
  · rw [if_pos c]
  · rw [if_neg c]
    congr 1
    omega

set_option maxHeartbeats 400000 in
theorem reverse_any (g n c base : Nat) (xs : List Int) (w : World) (h : OB w base (.slice (some ⟨g, 0, none⟩) n c) n xs) (hn : n ≤ 140737488355328) :
    Calls Try.prog 50 #[.slice (some ⟨g, 0, none⟩) n c] w fun e w' => e = .returned (.tuple #[]) ∧ OB w' base (.slice (some ⟨g, 0, none⟩) n c) n xs.reverse ∧ w.grownBy w' (some g) := by
  have hl := h.len
  go_enter Try.func50, Try.ntmps50
  go_wp2
  go_loopw [2, 3] (fun i j wr => ∃ (k : Nat) (zs : List Int), 2 * k ≤ n + 1 ∧ i = .int .i64 k ∧ j = .int .i64 ((n : Int) - 1 - k) ∧ HalfRev xs zs k ∧ OB wr base (.slice (some ⟨g, 0, none⟩) n c) n zs ∧ w.grownBy wr (some g)) (fun i _ _ => n + 1 - (intOf i).toNat)
  case atStart => exact ⟨0, xs, by omega, rfl, by simp, HalfRev.start xs, h, World.grownBy.refl _ _⟩
  case round =>
    obtain ⟨k, zs, hk, rfl, rfl, hz, ho, hg⟩ := hrel
    have hzl := ho.len
    by_cases hlt : (k : Int) < (n : Int) - 1 - k
    · obtain ⟨j, hj⟩ : ∃ j : Nat, (n : Int) - 1 - k = j := ⟨n - 1 - k, by omega⟩
      rw [hj] at hlt ⊢
      have hkj : k + j + 1 = n := by omega
      have HJ := Lib.hid hj
      have HK := Lib.hid hkj
      clear hj hkj
      have hk1 : k < n := by have := HK.out; omega
      have hj1 : j < n := by have := HK.out; omega
      have ck := ho.cellAt hk1
      have cj := ho.cellAt hj1
      have fk := ho.frozenAt k
      have fj := ho.frozenAt j
      have hne : ¬ k = j := by omega
      go_wp2
      go_region
      all_goals go_wp2
      all_goals go_roundw
      case rel =>
        have hkj := HK.out
        have b1 := ho.2.gi k
        have b2 := ho.2.gi j
        exact ⟨k + 1, _, by omega, by go_num, by congr 1; have := HJ.out; omega, hz.step (by omega) (by omega), ((ho.store k b2.1 b2.2).store j b1.1 b1.2).drewN 1, grown_drewN (grown_setCell (grown_setCell hg (.inl rfl) _) (.inl rfl) _) 1⟩
      case measure => simp [intOf]; omega
    · have hd : zs = xs.reverse := hz.done (by omega)
      subst hd
      go_wp2
      go_end0
      exact ⟨rfl, ho, hg⟩

theorem reverse_none (n : Nat) (hn : n = 0) (w : World) :
    Calls Try.prog 50 #[.slice none n 0] w fun e w' => e = .returned (.tuple #[]) ∧ w = w' := by
  subst hn
  go_enter Try.func50, Try.ntmps50
  go_wp2
  refine wp_loop_rounds 1 ?_
  rw [rounds_succ]
  go_wp2
  go_end0
  exact ⟨rfl, rfl⟩

theorem reverse_all (A : Option Addr) (n c base : Nat) (xs : List Int) (w : World) (h : OB w base (.slice A n c) n xs) (hn : n ≤ 140737488355328) :
    Calls Try.prog 50 #[.slice A n c] w fun e w' => e = .returned (.tuple #[]) ∧ OB w' base (.slice A n c) n xs.reverse ∧ w.grownBy w' (Value.slice A n c).ownBlock := by
  rcases h.form with ⟨hv, h0, hx⟩ | ⟨g, cap, cur, hv, _⟩
  · injection hv with hA _ hc
    subst hA h0 hx hc
    exact (reverse_none 0 rfl w).mono fun e w' ⟨he, hw⟩ => ⟨he, hw ▸ OB.nil w base, hw ▸ World.grownBy.refl w _⟩
  · injection hv with hA _ hc
    subst hA hc
    exact reverse_any g n c base xs w h hn
theorem RB.lit {w : World} {g : Nat} {fr : Nat × Nat} (xs : List Int) (n : Nat) (hn : xs.length = n) (hb : Byts xs) (h : w.heap[g]? = some (.cells (bv xs).toArray 5 fr)) : RB w (some ⟨g, 0, none⟩) n xs := by
  refine ⟨hn, hb, fun _ => ⟨_, rfl, fun j hj => ?_⟩⟩
  rw [add_plain, Nat.zero_add, cell_of_row w g j _ 5 fr h]
  simpa using bv_some (xs := xs) (j := j) (by omega)

@[go_sem] theorem bytes_const (w : World) (g : Nat) (C : Array Value) (n c : Nat) (hg : g = w.heap.size) :
    (convert 29 29 (.slice (some ⟨g, 0, none⟩) n c)).run Try.prog (w.alloc (.cells C 5)) = .ok (.slice (some ⟨g, 0, none⟩) n c) (w.alloc (.cells C 5 (C.size, C.size + 1))) := by
  subst hg
  exact Lib.run_convert_bytes_const (P := Try.prog) w 29 5 C n c Try.underlying29 Try.underlying5

theorem RB.lit_new (w : World) (g : Nat) (hg : g = w.heap.size) (xs : List Int) (n : Nat) (fr : Nat × Nat) (hn : xs.length = n) (hb : Byts xs) : RB (w.alloc (.cells (bv xs).toArray 5 fr)) (some ⟨g, 0, none⟩) n xs := by
  subst hg
  exact RB.lit xs n hn hb (heap_alloc_new w _)
theorem ret_bool {a b : Bool} (h : a = b) : Ending.returned (.bool a) = .returned (.bool b) := by rw [h]
theorem bytsOf (xs : List Int) (h : xs.all (fun x => decide (0 ≤ x) && decide (x ≤ 255)) = true) : Byts xs := fun x hx => by
  have := List.all_eq_true.1 h x hx
  simpa using this
theorem make_bytes (w : World) (k k' : IntKind) (n c : Nat) (hnc : n ≤ c) (hc : c ≤ 1099511627776) : (Instr.makeSlice 29 (.int k (n : Int)) (.int k' (c : Int))).run Try.prog w = .ok (.slice (some ⟨w.heap.size, 0, none⟩) n c) (w.alloc (.cells (bv (List.replicate c 0)).toArray 5)) := by
  obtain ⟨i0, hi, hz0, hz1, hz2⟩ := info_parts byteInfo
  have h := run_make (P := Try.prog) w 29 5 i0 (.int .u8 0) Try.underlying29 hi hz0 k k' (n : Int) (c : Int) (by omega) (by omega) (by rw [hz2]; omega) (by omega)
  rw [h]
  have : madeCells (Value.int .u8 0).cells ((c : Int).toNat * i0.size) = (bv (List.replicate c 0)).toArray := by
    apply Array.ext'
    rw [hz1, Nat.mul_one, Int.toNat_natCast]
    show (madeCells #[.int .u8 0] c).toList = _
    rw [toList_madeCells_one]
    simp [bv]
  rw [this]
  simp
theorem OB.made (w : World) (base n c : Nat) (hb : base ≤ w.heap.size) (hnc : n ≤ c) (hc : c ≤ 1099511627776) : OB (w.alloc (.cells (bv (List.replicate c 0)).toArray 5)) base (.slice (some ⟨w.heap.size, 0, none⟩) n c) n (List.replicate n 0) := by
  refine OB.of_blk hb (Blk.new w 5 _) hnc (by simp only [maxLen]; omega) (by simp [bv]) ?_ ?_
  · simp [bv, List.take_replicate, Nat.min_eq_left hnc]
  · intro x hx
    obtain ⟨_, rfl⟩ := List.mem_replicate.1 hx
    omega
end Go.Proofs.Ytgokompppadogaa
