/-
  The log: lacks; May where a parent lacks, and where the node is new.
-/
import Derived.Test.YtgokompppadogaaRv6
set_option linter.unusedVariables false
set_option linter.unusedSimpArgs false
namespace Go.Proofs.Ytgokompppadogaa
open Go.RowKit

def BoolP (b : Bool) (w : World) (e : Ending) (w' : World) : Prop := e = .returned (.bool b) ∧ Below w.heap.size w w'
set_option maxRecDepth 100000 in
set_option maxHeartbeats 2000000 in
theorem lacks_any (P : Nat → Prop) (g bx : Nat) (L : Lg) (x : IdL) (w : World) (h : LgAt w P g L) (hx : IsId x) (hb : w.cell? ⟨bx, 0, none⟩ = some (.pointer (some ⟨g, 0, none⟩))) :
    Calls Try.prog 38 #[ida x, .pointer (some ⟨bx, 0, none⟩)] w (BoolP (lacksL L x) w) := by
  have hb0 := idW_below x w
  have hcb := cell_later hb0 hb
  have hld := run_loadId (idW_blk x w).range hx
  have hne := fun W => idz_neq hx W
  have hu := idTy
  have hz1 := idSz hx
  have hz2 := idSz zeroL_id
  unfold lacksL
  cases hz : (x != zeroL) with
  | false =>
    rw [hz] at hne
    clear hz
    go_enter Try.func38, Try.ntmps38
    go_wp2
    go_ret
    exact ⟨rfl, hb0⟩
  | true =>
    rw [hz] at hne
    clear hz
    have hh := has_any P g L x _ (h.below hb0) hx
    go_enter Try.func38, Try.ntmps38
    go_wp2_with (go_at_call 26; (with_reducible refine hh.mono ?_); rintro e w1 ⟨rfl, hb1⟩)
    go_ret
    exact ⟨by simp, below_two hb0 hb1⟩
/-- the world behind May's boxes. -/
abbrev maW (g : Nat) (p1 p2 : IdL) (w : World) : World := (((w.alloc (.cells #[.pointer (some ⟨g, 0, none⟩)] 23)).alloc (.cells (bv p1).toArray 27)).alloc (.cells (bv p2).toArray 27)).drew
theorem maW_below (g : Nat) (p1 p2 : IdL) (w : World) : Below w.heap.size w (maW g p1 p2 w) := below_drewN ((((Below.refl _ _).alloc (Nat.le_refl _) _).alloc (by simp) _).alloc (by simp; omega) _) 1
theorem maW_0 (g : Nat) (p1 p2 : IdL) (w : World) : Blk (maW g p1 p2 w) w.heap.size 23 #[.pointer (some ⟨g, 0, none⟩)] := (((Blk.new w _ _).alloc _).alloc _).drew
theorem maW_1 (g : Nat) (p1 p2 : IdL) (w : World) : Blk (maW g p1 p2 w) (w.heap.size + 1) 27 (bv p1).toArray := by
  have := Blk.new (w.alloc (.cells #[.pointer (some ⟨g, 0, none⟩)] 23)) 27 (bv p1).toArray
  rw [World.size_alloc] at this
  exact (this.alloc _).drew
theorem maW_2 (g : Nat) (p1 p2 : IdL) (w : World) : Blk (maW g p1 p2 w) (w.heap.size + 1 + 1) 27 (bv p2).toArray := by
  have := Blk.new ((w.alloc (.cells #[.pointer (some ⟨g, 0, none⟩)] 23)).alloc (.cells (bv p1).toArray 27)) 27 (bv p2).toArray
  rw [World.size_alloc, World.size_alloc] at this
  exact this.drew
/-- what May reads, in each later world. -/
structure MaS (w : World) (g mb : Nat) (p1 p2 X : IdL) (r : Value) (W : World) : Prop where
  box : W.cell? ⟨w.heap.size, 0, none⟩ = some (.pointer (some ⟨g, 0, none⟩))
  l1 : (loadId ⟨w.heap.size + 1, 0, none⟩).run Try.prog W = .ok (ida p1) W
  l2 : (loadId ⟨w.heap.size + 1 + 1, 0, none⟩).run Try.prog W = .ok (ida p2) W
  mp : W.cell? ⟨g, 1, none⟩ = some (.map (some mb))
  look : (Instr.lookup 62 (.map (some mb)) (ida X) true).run Try.prog W = .ok r W
theorem maS {w : World} {P : Nat → Prop} {g : Nat} {L : Lg} {p1 p2 X : IdL} (h : LgAt w P g L) (h1 : IsId p1) (h2 : IsId p2) (hX : IsId X) :
    ∃ mb, ∀ W, Below (maW g p1 p2 w).heap.size (maW g p1 p2 w) W → MaS w g mb p1 p2 X (.tuple #[.int .i64 (atI L X), .bool (hasL L X)]) W := by
  obtain ⟨A, n, c, mb, kv, Vs, hm⟩ := h
  refine ⟨mb, fun W hW => ?_⟩
  have hm' := (hm.below (maW_below g p1 p2 w)).below hW
  have b0 := (maW_0 g p1 p2 w).below hW (maW_0 g p1 p2 w).lt
  have b1 := (maW_1 g p1 p2 w).below hW (maW_1 g p1 p2 w).lt
  have b2 := (maW_2 g p1 p2 w).below hW (maW_2 g p1 p2 w).lt
  exact ⟨b0.cell 0, run_loadId b1.range h1, run_loadId b2.range h2, hm'.blk.cell 1, hm'.look hX⟩
end Go.Proofs.Ytgokompppadogaa
