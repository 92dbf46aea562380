/-
  The log: find, Text, Parents, Node, Chain.
-/
import Derived.Test.YtgokompppadogaaRv3
set_option linter.unusedVariables false
set_option linter.unusedSimpArgs false
namespace Go.Proofs.Ytgokompppadogaa
open Go.RowKit

theorem run_cellId {w : World} {g : Nat} {xs : List Int} (hg : w.rangeAt g 0 (bv xs)) (hx : IsId xs) : (loadVar 27 ⟨g, 0, none⟩).run Try.prog w = .ok (ida xs) w := run_loadId hg hx
/-- results: an id in a cell, and another. -/
theorem ret_ct {fn : Func} {R : Ending → World → Prop} {a : Act} {w : World} (p q : Tmp) (g : Nat) (xs : IdL) (hr : fn.results = #[.cell p 27, .tmp q]) (hp : a.tmps.getD p undef = .pointer (some ⟨g, 0, none⟩)) (hg : w.rangeAt g 0 (bv xs)) (hx : IsId xs)
    (hdf : a.defers = []) (hR : R (.returned (.tuple #[ida xs, a.tmps.getD q undef])) w) : bodyPost Try.prog fn R .ret a w := by
  refine bodyPost_ret ?_ hdf hR
  have hp' : a.tmps[p]?.getD undef = .pointer (some ⟨g, 0, none⟩) := by simpa using hp
  simp [results, hr, hp', asAddr, run_cellId hg hx]
theorem ret_cct {fn : Func} {R : Ending → World → Prop} {a : Act} {w : World} (p q r : Tmp) (g g' : Nat) (xs ys : IdL) (hr : fn.results = #[.cell p 27, .cell q 27, .tmp r]) (hp : a.tmps.getD p undef = .pointer (some ⟨g, 0, none⟩)) (hq : a.tmps.getD q undef = .pointer (some ⟨g', 0, none⟩))
    (hg : w.rangeAt g 0 (bv xs)) (hx : IsId xs) (hg' : w.rangeAt g' 0 (bv ys)) (hy : IsId ys) (hdf : a.defers = []) (hR : R (.returned (.tuple #[ida xs, ida ys, a.tmps.getD r undef])) w) : bodyPost Try.prog fn R .ret a w := by
  refine bodyPost_ret ?_ hdf hR
  have hp' : a.tmps[p]?.getD undef = .pointer (some ⟨g, 0, none⟩) := by simpa using hp
  have hq' : a.tmps[q]?.getD undef = .pointer (some ⟨g', 0, none⟩) := by simpa using hq
  simp [results, hr, hp', hq', asAddr, run_cellId hg hx, run_cellId hg' hy]
theorem setCells_grown (g : Nat) : ∀ (vs : List Value) (o : Nat) (w : World), w.grownBy (w.setCells g o vs) (some g)
  | [], _, w => World.grownBy.refl w _
  | v :: r, o, w => by
    have h1 : w.grownBy (w.setCell ⟨g, o, none⟩ v) (some g) := ⟨rfl, rfl, rfl, by simp [World.setCell], fun k _ hk => Below.heap_setCell w _ v k (fun e => hk (by rw [e]))⟩
    have h2 := setCells_grown g r (o + 1) (w.setCell ⟨g, o, none⟩ v)
    exact ⟨h2.os.trans h1.os, h2.tape.trans h1.tape, h2.output.trans h1.output, Nat.le_trans h1.size h2.size, fun i hi hk => (h2.block i (Nat.lt_of_lt_of_le hi h1.size) hk).trans (h1.block i hi hk)⟩
theorem Blk.there {w : World} {g : Nat} {t : TypeId} {cs : Array Value} (h : Blk w g t cs) {n : Nat} (hn : n = cs.size) : w.there g 0 n := fun j hj => by
  refine ⟨?_, h.frozen _⟩
  rw [h.cell, Nat.zero_add, Array.getElem?_eq_getElem (by omega)]
  rfl
/-- the world behind a box of an id. -/
abbrev idW (x : IdL) (w : World) : World := w.alloc (.cells (bv x).toArray 27)
theorem idW_below (x : IdL) (w : World) : Below w.heap.size w (idW x w) := (Below.refl _ _).alloc (Nat.le_refl _) _
theorem idW_blk (x : IdL) (w : World) : Blk (idW x w) w.heap.size 27 (bv x).toArray := Blk.new w _ _
def FindP (x y : Int) (w : World) (e : Ending) (w' : World) : Prop := e = .returned (.tuple #[.int .i64 x, .int .i64 y]) ∧ Below w.heap.size w w'
theorem find_nil (x : IdL) (w : World) : Calls Try.prog 31 #[.pointer none, ida x] w (FindP 0 2 w) := by
  go_enter Try.func31, Try.ntmps31
  go_wp2
  go_ret2
  exact ⟨rfl, idW_below _ _⟩
def findI (L : Lg) (x : IdL) : Int := if hasL L x = true then atI L x else 0
def findE (L : Lg) (x : IdL) : Int := if hasL L x = true then 0 else 6
set_option maxRecDepth 100000 in
set_option maxHeartbeats 1000000 in
theorem find_any (P : Nat → Prop) (g : Nat) (L : Lg) (x : IdL) (w : World) (h : LgAt w P g L) (hx : IsId x) :
    Calls Try.prog 31 #[.pointer (some ⟨g, 0, none⟩), ida x] w (FindP (findI L x) (findE L x) w) := by
  obtain ⟨A, n, c, mb, kv, Vs, hm⟩ := h
  have hu := idTy
  have hsz := idSz hx
  have hb0 : Below w.heap.size w (idW x w).drew := below_drewN (idW_below x w) 1
  have h1 := hm.below hb0
  have hr : (idW x w).drew.rangeAt w.heap.size 0 (bv x) := (idW_blk x w).drew.range
  have c1 : (idW x w).drew.cell? ⟨g, 1, none⟩ = some (.map (some mb)) := h1.blk.cell 1
  have hlk := h1.look hx
  unfold findI findE
  cases hh : hasL L x with
  | true =>
    rw [hh] at hlk
    simp only [if_true]
    clear hh
    go_enter Try.func31, Try.ntmps31
    go_wp2
    go_region_held3 (fun w' => w'.cell? ⟨g, 1, none⟩ = some (.map (some mb)) ∧ w'.rangeAt w.heap.size 0 (bv x) ∧ (Instr.lookup 62 (.map (some mb)) (ida x) true).run Try.prog w' = .ok (.tuple #[.int .i64 (atI L x), .bool true]) w')
      (exact ⟨c1, hr, hlk⟩) (fail)
    go_wp2
    go_ret2
    exact ⟨rfl, hb0⟩
  | false =>
    rw [hh] at hlk
    simp only [Bool.false_eq_true, if_false]
    clear hh
    go_enter Try.func31, Try.ntmps31
    go_wp2
    go_region_held3 (fun w' => w'.cell? ⟨g, 1, none⟩ = some (.map (some mb)) ∧ w'.rangeAt w.heap.size 0 (bv x) ∧ (Instr.lookup 62 (.map (some mb)) (ida x) true).run Try.prog w' = .ok (.tuple #[.int .i64 (atI L x), .bool false]) w')
      (exact ⟨c1, hr, hlk⟩) (fail)
    go_wp2
    go_ret2
    exact ⟨rfl, hb0⟩
/-! ### Text -/
def TxtP (t : List Int) (y : Int) (w : World) (e : Ending) (w' : World) : Prop := ∃ A c, e = .returned (.tuple #[.slice A t.length c, .int .i64 y]) ∧ OB w' w.heap.size (.slice A t.length c) t.length t ∧ t.length ≤ c ∧ Below w.heap.size w w'
theorem text_nil (x : IdL) (w : World) (hx : IsId x) : Calls Try.prog 11 #[.pointer none, ida x] w (TxtP [] 2 w) := by
  have r0 := run_loadId (idW_blk x w).range hx
  go_enter Try.func11, Try.ntmps11
  go_wp2_with (go_at_call 31; (with_reducible refine (find_nil x _).mono ?_); rintro e w1 ⟨rfl, hb1⟩)
  go_ret2
  exact ⟨_, _, rfl, OB.nil _ _, Nat.le_refl _, below_two (idW_below x w) hb1⟩
theorem hasL_iff {L : Lg} {x : IdL} : hasL L x = true ↔ ∃ k, posL L x = some k := by unfold hasL; rw [Option.isSome_iff_exists]
theorem atI_of {L : Lg} {x : IdL} {k : Nat} (h : posL L x = some k) : hasL L x = true ∧ findI L x = (k : Nat) ∧ findE L x = 0 := by
  have hh : hasL L x = true := hasL_iff.2 ⟨k, h⟩
  unfold findI findE
  rw [if_pos hh, if_pos hh]
  unfold atI
  rw [h]
  exact ⟨hh, rfl, rfl⟩
theorem atI_no {L : Lg} {x : IdL} (h : posL L x = none) : hasL L x = false ∧ findI L x = 0 ∧ findE L x = 6 := by
  have hh : hasL L x = false := by unfold hasL; rw [h]; rfl
  unfold findI findE
  rw [hh]
  exact ⟨rfl, rfl, rfl⟩
theorem text_no (P : Nat → Prop) (g : Nat) (L : Lg) (x : IdL) (w : World) (h : LgAt w P g L) (hx : IsId x) (hp : posL L x = none) :
    Calls Try.prog 11 #[.pointer (some ⟨g, 0, none⟩), ida x] w (TxtP [] 6 w) := by
  have r0 := run_loadId (idW_blk x w).range hx
  have hf := find_any P g L x _ (h.below (idW_below x w)) hx
  rw [(atI_no hp).2.1, (atI_no hp).2.2] at hf
  unfold FindP at hf
  go_enter Try.func11, Try.ntmps11
  go_wp2_with (go_at_call 31; (with_reducible refine hf.mono ?_); rintro e w1 ⟨rfl, hb1⟩)
  go_ret2
  exact ⟨_, _, rfl, OB.nil _ _, Nat.le_refl _, below_two (idW_below x w) hb1⟩
theorem text_some (P : Nat → Prop) (g : Nat) (L : Lg) (x : IdL) (k : Nat) (w : World) (h : LgAt w P g L) (hx : IsId x) (hp : posL L x = some k) (hL : L.length ≤ 100000) (hT : (rv L k).text.length ≤ 1500) :
    Calls Try.prog 11 #[.pointer (some ⟨g, 0, none⟩), ida x] w (TxtP (rv L k).text 0 w) := by
  have r0 := run_loadId (idW_blk x w).range hx
  have hf := find_any P g L x _ (h.below (idW_below x w)) hx
  rw [(atI_of hp).2.1, (atI_of hp).2.2] at hf
  have HAT := Lib.hid (fun (W : World) (hW : Below w.heap.size w W) => at_any P g L hL k W (h.below hW) (posL_some hp).1)
  unfold FindP at hf
  unfold TextP at HAT
  generalize (rv L k).text = t at *
  have HC := Lib.hid (show ∀ (W : World) (A : Option Addr) (c : Nat), RB W A t.length t → Calls Try.prog 32 #[.slice A t.length c] W (NewB t.length t W) from fun W A c h => bclone_any A _ c t W h (by omega))
  have hb0 := idW_below x w
  go_enter Try.func11, Try.ntmps11
  go_wp2_with (first
    | (go_at_call 31; (with_reducible refine hf.mono ?_); rintro e w1 ⟨rfl, hb1⟩; have hb01 := below_two hb0 hb1; have hat := HAT.out _ hb01)
    | (go_at_call 33; (with_reducible refine hat.mono ?_); rintro e w2 ⟨A2, c2, rfl, hr2, hc2, hb2⟩; have hcl := HC.out _ _ c2 hr2)
    | (go_at_call 32; (with_reducible refine hcl.mono ?_); rintro e w3 ⟨A3, c3, rfl, ho3, hc3, hb3⟩))
  go_ret2
  have hb02 := below_two hb01 hb2
  exact ⟨A3, c3, rfl, ho3.lower hb02.size, hc3, below_two hb02 hb3⟩
/-- a log's text, all ways. -/
def txtV (L : Lg) (x : IdL) : List Int := match posL L x with | some k => (rv L k).text | none => []
theorem text_any (P : Nat → Prop) (g : Nat) (L : Lg) (x : IdL) (w : World) (h : LgAt w P g L) (hx : IsId x) (hL : L.length ≤ 100000) :
    Calls Try.prog 11 #[.pointer (some ⟨g, 0, none⟩), ida x] w (TxtP (txtV L x) (findE L x) w) := by
  unfold txtV
  cases hp : posL L x with
  | none =>
    rw [(atI_no hp).2.2]
    exact text_no P g L x w h hx hp
  | some k =>
    rw [(atI_of hp).2.2]
    have hk := (posL_some hp).1
    have hT : (rv L k).text.length ≤ 1500 := by
      obtain ⟨_, _, _, _, _, _, hm⟩ := h
      exact (hm.inv.txt k hk).2
    exact text_some P g L x k w h hx hp hL hT
end Go.Proofs.Ytgokompppadogaa
