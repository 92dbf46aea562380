/-
  delta.put, delta.Print; trestleref14.four, Print.
-/
import Derived.Test.YtgokompppadogaaDlt7
set_option linter.unusedVariables false
set_option linter.unusedSimpArgs false
namespace Go.Proofs.Ytgokompppadogaa
open Go.RowKit

/-- the four bytes, as the walk spells them. -/
def four' (x : Int) : List Int := [x / 16777216, x / 65536 % 256, x / 256 % 256, x % 256]
theorem four'_eq {x : Int} (h0 : 0 ≤ x) (h1 : x ≤ 2147483647) (v : Int) (hv : clampE v = x) : four' x = fourE v := by
  unfold four' fourE
  rw [hv, show x / 16777216 % 256 = x / 16777216 from by omega]
def PutPost (base : Nat) (v : Value) (n : Nat) (xs : List Int) (w : World) (e : Ending) (w' : World) : Prop :=
  ∃ v', e = .returned v' ∧ OB w' base v' n xs ∧ w.grownBy w' v.ownBlock ∧ (v'.ownBlock = v.ownBlock ∨ ∃ g, v'.ownBlock = some g ∧ w.heap.size ≤ g)
set_option maxHeartbeats 1000000 in
theorem put_any (base : Nat) (v : Value) (n : Nat) (xs : List Int) (x : Int) (w : World) (h : OB w base v n xs) (hb : base ≤ w.heap.size) (hn : n ≤ 100000000000) :
    Calls Try.prog 47 #[v, .int .i64 x] w (PutPost base v (n + 4) (xs ++ fourE x) w) := by
  have hfin : ∀ (Y : List Int) (v2 : Value) (w2 : World) (o : Obj), Y = fourE x → OB w2 base v2 (n + 4) (xs ++ Y) → (w.alloc o).grownBy w2 v.ownBlock → (v2.ownBlock = v.ownBlock ∨ v2.ownBlock = some (w.alloc o).heap.size) → PutPost base v (n + 4) (xs ++ fourE x) w (.returned v2) w2 := by
    intro Y v2 w2 o hY ho2 hg2 hat2
    subst hY
    refine ⟨v2, rfl, ho2, ⟨hg2.os, hg2.tape, hg2.output, Nat.le_trans (by simp) hg2.size, fun i hi hne => (hg2.block i (by simp; omega) hne).trans (Below.heap_alloc w _ i hi)⟩, ?_⟩
    rcases hat2 with h | h
    · exact .inl h
    · exact .inr ⟨_, h, by simp⟩
  obtain ⟨A, c, rfl, hnc⟩ := h.slice
  have hc3 : x ≤ 0 ∨ 2147483647 < x ∨ (0 < x ∧ x ≤ 2147483647) := by omega
  rcases hc3 with h0 | h0 | ⟨h0, h1⟩
  · have i1 : ¬ (2147483647 < x) := by omega
    have hY : [0, 0, 0, 0] = fourE x := by unfold fourE; rw [show clampE x = 0 from by unfold clampE; omega]; rfl
    have HY := Lib.hid hY
    clear hY
    have hRB : ∀ (g : Nat), g = w.heap.size → RB (w.alloc (.cells #[.int .u8 0, .int .u8 0, .int .u8 0, .int .u8 0] 5)) (some ⟨g, 0, none⟩) 4 ([0, 0, 0, 0]) := fun g hg =>
      RB.lit_new w g hg ([0, 0, 0, 0]) 4 (0, 0) rfl (by rw [HY.out]; exact fourE_byts x)
    have HR := Lib.hid hRB
    clear hRB
    go_enter Try.func47, Try.ntmps47
    go_wp2_with (at_builtin; refine wpList_app rfl (.tmp 8) (.tmp 20) rfl base _ n xs rfl (h.alloc _) (some ⟨w.heap.size, 0, none⟩) 4 4 ([0, 0, 0, 0]) rfl (HR.out _ rfl) (by omega) (by simp; omega) ?_; intro v2 w2 ho2 hg2 hat2)
    go_ret
    exact hfin _ _ _ _ HY.out ho2 hg2 hat2
  · have i1 : (0 : Int) < x := by omega
    have i2 : ¬ (x ≤ 0) := by omega
    have hY : [127, 255, 255, 255] = fourE x := by unfold fourE; rw [show clampE x = 2147483647 from by unfold clampE; omega]; rfl
    have HY := Lib.hid hY
    clear hY
    have hRB : ∀ (g : Nat), g = w.heap.size → RB (w.alloc (.cells #[.int .u8 127, .int .u8 255, .int .u8 255, .int .u8 255] 5)) (some ⟨g, 0, none⟩) 4 ([127, 255, 255, 255]) := fun g hg =>
      RB.lit_new w g hg ([127, 255, 255, 255]) 4 (0, 0) rfl (by rw [HY.out]; exact fourE_byts x)
    have HR := Lib.hid hRB
    clear hRB
    go_enter Try.func47, Try.ntmps47
    go_wp2_with (at_builtin; refine wpList_app rfl (.tmp 8) (.tmp 20) rfl base _ n xs rfl (h.alloc _) (some ⟨w.heap.size, 0, none⟩) 4 4 ([127, 255, 255, 255]) rfl (HR.out _ rfl) (by omega) (by simp; omega) ?_; intro v2 w2 ho2 hg2 hat2)
    go_ret
    exact hfin _ _ _ _ HY.out ho2 hg2 hat2
  · have i1 : ¬ (2147483647 < x) := by omega
    have hY : four' x = fourE x := four'_eq (by omega) (by omega) x (clampE_id (by omega) (by omega))
    have HY := Lib.hid hY
    clear hY
    have hRB : ∀ (g : Nat), g = w.heap.size → RB (w.alloc (.cells #[.int .u8 (x / 16777216), .int .u8 (x / 65536 % 256), .int .u8 (x / 256 % 256), .int .u8 (x % 256)] 5)) (some ⟨g, 0, none⟩) 4 (four' x) := fun g hg =>
      RB.lit_new w g hg (four' x) 4 (0, 0) rfl (by rw [HY.out]; exact fourE_byts x)
    have HR := Lib.hid hRB
    clear hRB
    go_enter Try.func47, Try.ntmps47
    go_wp2_with (at_builtin; refine wpList_app rfl (.tmp 8) (.tmp 20) rfl base _ n xs rfl (h.alloc _) (some ⟨w.heap.size, 0, none⟩) 4 4 (four' x) rfl (HR.out _ rfl) (by omega) (by simp; omega) ?_; intro v2 w2 ho2 hg2 hat2)
    go_ret
    exact hfin _ _ _ _ HY.out ho2 hg2 hat2
theorem four_any (x : Int) (w : World) : Calls Try.prog 42 #[.int .i64 x] w (NewB 4 (fourE x) w) := by
  have hc3 : x ≤ 0 ∨ 2147483647 < x ∨ (0 < x ∧ x ≤ 2147483647) := by omega
  rcases hc3 with h0 | h0 | ⟨h0, h1⟩
  · have i1 : ¬ (2147483647 < x) := by omega
    have hY : [0, 0, 0, 0] = fourE x := by unfold fourE; rw [show clampE x = 0 from by unfold clampE; omega]; rfl
    have HY := Lib.hid hY
    clear hY
    go_enter Try.func42, Try.ntmps42
    go_wp2
    go_ret
    refine NewB.of (OB.of_blk (Nat.le_refl _) (Blk.new w 5 _) (Nat.le_refl _) (by simp [maxLen]) rfl ?_ (fourE_byts x)) ((Below.refl _ _).alloc (Nat.le_refl _) _)
    rw [← HY.out]
    rfl
  · have i1 : (0 : Int) < x := by omega
    have i2 : ¬ (x ≤ 0) := by omega
    have hY : [127, 255, 255, 255] = fourE x := by unfold fourE; rw [show clampE x = 2147483647 from by unfold clampE; omega]; rfl
    have HY := Lib.hid hY
    clear hY
    go_enter Try.func42, Try.ntmps42
    go_wp2
    go_ret
    refine NewB.of (OB.of_blk (Nat.le_refl _) (Blk.new w 5 _) (Nat.le_refl _) (by simp [maxLen]) rfl ?_ (fourE_byts x)) ((Below.refl _ _).alloc (Nat.le_refl _) _)
    rw [← HY.out]
    rfl
  · have i1 : ¬ (2147483647 < x) := by omega
    have hY : four' x = fourE x := four'_eq (by omega) (by omega) x (clampE_id (by omega) (by omega))
    have HY := Lib.hid hY
    clear hY
    go_enter Try.func42, Try.ntmps42
    go_wp2
    go_ret
    refine NewB.of (OB.of_blk (Nat.le_refl _) (Blk.new w 5 _) (Nat.le_refl _) (by simp [maxLen]) rfl ?_ (fourE_byts x)) ((Below.refl _ _).alloc (Nat.le_refl _) _)
    rw [← HY.out]
    rfl
end Go.Proofs.Ytgokompppadogaa
