/-
  FrameLimit.
-/
import Derived.Test.YtecglmbggldhnaaFrm5
set_option linter.unusedVariables false
set_option linter.unusedSimpArgs false
namespace Go.Proofs.Ytecglmbggldhnaa
open Go.RowKit

theorem zeros_make (N : Nat) (hN : N ≤ 1099511627776) : ∃ Z : List Int, Z.length = N ∧ Byts Z ∧ ∀ W : World, (Instr.makeSlice 22 (.int .i64 (N : Int)) (.int .i64 (N : Int))).run Try.prog W = .ok (.slice (some ⟨W.heap.size, 0, none⟩) N N) (W.alloc (.cells (bv Z).toArray 5)) :=
  ⟨List.replicate N 0, by simp, Byts.rep (by omega) (by omega) N, fun W => make_bytes W .i64 .i64 N N (Nat.le_refl _) hN⟩

set_option maxHeartbeats 2000000 in
theorem frameLimit_yes (w : World) :
    Calls Try.prog 5 #[.bool true] w (fun e w' => e = .returned (.bool true) ∧ Below w.heap.size w w') := by
  obtain ⟨Z, hl, hb, hmk⟩ := zeros_make 131173 (by omega)
  have hmk : ∀ W : World, (Instr.makeSlice 22 (.int .i64 131173) (.int .i64 131173)).run Try.prog W = .ok (.slice (some ⟨W.heap.size, 0, none⟩) 131173 131173) (W.alloc (.cells (bv Z).toArray 5)) := hmk
  have hp := pack_any 2 (some ⟨w.heap.size, 0, none⟩) 131173 131173 Z (w.alloc (.cells (bv Z).toArray 5)) (RB.lit_new w _ rfl Z 131173 (0, 0) hl hb) (Nat.le_refl _) (by omega)
  rw [show packR 2 Z = ([], 5) from by unfold packR; rw [if_neg (by omega), if_pos (by omega)]] at hp
  unfold PackPost at hp
  simp only [List.length_nil] at hp
  have HL := Lib.hid hl
  clear hl
  go_enter Try.func5, Try.ntmps5
  go_wp2_with (first
    | (go_at_call 10; (with_reducible refine hp.mono ?_); rintro e w1 ⟨A, c, rfl, ho, hc, hb1⟩)
    | (go_at_call 8; (with_reducible refine (awake05_any _).mono ?_); rintro e w2 ⟨rfl, hb2⟩))
  go_ret
  exact ⟨rfl, below_two (below_two ((Below.refl _ _).alloc (Nat.le_refl _) _) hb1) hb2⟩
set_option maxHeartbeats 2000000 in
theorem frameLimit_no (w : World) :
    Calls Try.prog 5 #[.bool false] w (fun e w' => e = .returned (.bool true) ∧ Below w.heap.size w w') := by
  obtain ⟨Z, hl, hb, hmk⟩ := zeros_make 131172 (by omega)
  have hmk : ∀ W : World, (Instr.makeSlice 22 (.int .i64 131172) (.int .i64 131172)).run Try.prog W = .ok (.slice (some ⟨W.heap.size, 0, none⟩) 131172 131172) (W.alloc (.cells (bv Z).toArray 5)) := hmk
  have hp := pack_any 2 (some ⟨w.heap.size, 0, none⟩) 131172 131172 Z (w.alloc (.cells (bv Z).toArray 5)) (RB.lit_new w _ rfl Z 131172 (0, 0) hl hb) (Nat.le_refl _) (by omega)
  rw [show packR 2 Z = (packL 2 Z, 0) from by unfold packR; rw [if_neg (by omega), if_neg (by omega)]] at hp
  unfold PackPost at hp
  simp only [] at hp
  rw [packL_length, hl] at hp
  have ht := takeR_pack 2 Z [] (by omega) (by omega) (by omega)
  rw [List.append_nil, hl] at ht
  have hT := fun (W : World) (V : Option Addr) (C : Nat) (hW : RB W V 131186 (packL 2 Z)) (hC : 131186 ≤ C) => take_any V 131186 C _ W hW hC (by omega)
  rw [ht] at hT
  unfold TakePost at hT
  simp only [] at hT
  rw [hl] at hT
  generalize packL 2 Z = P at *
  have HL := Lib.hid hl
  clear hl ht
  go_enter Try.func5, Try.ntmps5
  go_wp2_with (first
    | (go_at_call 10; (with_reducible refine hp.mono ?_); rintro e w1 ⟨A, c, rfl, ho, hc, hb1⟩)
    | (go_at_call 12; (with_reducible refine (hT _ _ _ ho.reads hc).mono ?_); rintro e w2 ⟨A2, c2, rfl, ho2, hc2, hb2⟩)
    | (go_at_call 8; (with_reducible refine (awake05_any _).mono ?_); rintro e w3 ⟨rfl, hb3⟩))
  go_ret
  exact ⟨rfl, below_two (below_two (below_two ((Below.refl _ _).alloc (Nat.le_refl _) _) hb1) hb2) hb3⟩
theorem frameLimit_walk (more : Bool) (w : World) :
    Calls Try.prog 5 #[.bool more] w (fun e w' => e = .returned (.bool true) ∧ Below w.heap.size w w') := by
  cases more
  · exact frameLimit_no w
  · exact frameLimit_yes w
end Go.Proofs.Ytecglmbggldhnaa
