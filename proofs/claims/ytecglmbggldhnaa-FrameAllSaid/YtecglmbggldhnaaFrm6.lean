/-
  FrameCut, FrameLimit.
-/
import Derived.Test.YtecglmbggldhnaaFrm5
set_option linter.unusedVariables false
set_option linter.unusedSimpArgs false
namespace Go.Proofs.Ytecglmbggldhnaa
open Go.RowKit

theorem and_range (x : Int) : ∃ r, bits .and .i64 x 255 = r ∧ 0 ≤ r ∧ r ≤ 255 := by
  refine ⟨_, rfl, ?_⟩
  show 0 ≤ IntKind.i64.wrap ((BitVec.ofInt 64 x &&& BitVec.ofInt 64 255).toNat : Int) ∧ IntKind.i64.wrap ((BitVec.ofInt 64 x &&& BitVec.ofInt 64 255).toNat : Int) ≤ 255
  have h : (BitVec.ofInt 64 x &&& BitVec.ofInt 64 255).toNat ≤ 255 := by
    rw [BitVec.toNat_and]
    exact Nat.and_le_right
  generalize (BitVec.ofInt 64 x &&& BitVec.ofInt 64 255).toNat = q at *
  rw [IntWalk.i64_in _ (by omega)]
  omega
theorem wrapU_range (n : Int) : 0 ≤ IntKind.u64.wrap n ∧ IntKind.u64.wrap n < 18446744073709551616 := by
  simp [IntKind.wrap, IntKind.signed, IntKind.bits]
  omega
theorem rem_mod (n : Nat) (x : Int) (h0 : 0 < n) : ∃ m : Nat, (IntKind.u64.wrap x).tmod (n : Int) = (m : Int) ∧ m < n := by
  have h1 := (wrapU_range x).1
  rw [Int.tmod_eq_emod_of_nonneg h1]
  have h2 := Int.emod_nonneg (IntKind.u64.wrap x) (show (n : Int) ≠ 0 by omega)
  have h3 := Int.emod_lt_of_pos (IntKind.u64.wrap x) (show 0 < (n : Int) by omega)
  exact ⟨(IntKind.u64.wrap x % (n : Int)).toNat, by omega, by omega⟩
theorem packR_ok (k : Int) (xs : List Int) (h0 : 0 ≤ k) (h1 : k ≤ 255) (hl : xs.length ≤ 131172) : packR k xs = (packL k xs, 0) := by
  unfold packR
  rw [if_neg (by omega), if_neg (by omega)]
/-- what 'Pack' leaves, its bytes known. -/
def PackOk (n : Nat) (P : List Int) (w : World) (e : Ending) (w' : World) : Prop := ∃ A c, e = .returned (.tuple #[.slice A (n + 14) c, .int .i64 0]) ∧ OB w' w.heap.size (.slice A (n + 14) c) (n + 14) P ∧ n + 14 ≤ c ∧ Below w.heap.size w w'
theorem PackOk.of {k : Int} {xs : List Int} {n : Nat} (h0 : 0 ≤ k) (h1 : k ≤ 255) (hn : xs.length = n) (hl : n ≤ 131172) {w : World} {e : Ending} {w' : World} (h : PackPost (packR k xs) w e w') : PackOk n (packL k xs) w e w' := by
  rw [packR_ok k xs h0 h1 (by omega)] at h
  obtain ⟨A, c, h2, h3, h4, h5⟩ := h
  simp only [] at h2 h3 h4
  rw [packL_length, hn, Nat.add_comm] at h2 h3 h4
  exact ⟨A, c, h2, h3, h4, h5⟩

set_option maxHeartbeats 4000000 in
theorem frameCut_walk (k : Int) (A : Option Addr) (n c : Nat) (xs : List Int) (B : Option Addr) (m d : Nat) (ys : List Int) (cut : Int) (w : World) (hk : (Lit.int .i64 k).wf = true) (h : RB w A n xs) (hnc : n ≤ c) (h' : RB w B m ys) (hmd : m ≤ d) (hcut : (Lit.int .i64 cut).wf = true) :
    Calls Try.prog 4 #[.int .i64 k, .slice A n c, .slice B m d, .int .i64 cut] w (fun e w' => e = .returned (.bool true) ∧ Below w.heap.size w w') := by
  by_cases hb1 : 1000 < n
  · have e1 : (1000 : Int) < n := by omega
    go_enter Try.func4, Try.ntmps4
    go_wp2_with (go_at_call 8; (with_reducible refine (awake05_any _).mono ?_); rintro e w1 ⟨rfl, hb1⟩)
    go_ret
    exact ⟨rfl, hb1⟩
  · have e1 : ¬ ((1000 : Int) < n) := by omega
    by_cases hb2 : 100 < m
    · have e2 : (100 : Int) < m := by omega
      go_enter Try.func4, Try.ntmps4
      go_wp2_with (go_at_call 8; (with_reducible refine (awake05_any _).mono ?_); rintro e w1 ⟨rfl, hb1⟩)
      go_ret
      exact ⟨rfl, hb1⟩
    · have e2 : ¬ ((100 : Int) < m) := by omega
      have hl := h.len
      obtain ⟨r, hr, r0, r1⟩ := and_range k
      obtain ⟨q, hq, q1⟩ := rem_mod (n + 14) cut (by omega)
      have HQ := Lib.hid hq
      clear hq
      have hwq : wrap64 (q : Int) = q := by unfold wrap64; omega
      have hwn : IntKind.u64.wrap ((n : Int) + 14) = (n : Int) + 14 := IntWalk.u64_in _ (by omega)
      have hnz : ((n : Int) + 14 == 0) = false := beq_eq_false_iff_ne.2 (by omega)
      have hP1 := fun (W : World) (hW : RB W A n xs) => (pack_any r A n c xs W hW hnc (by omega)).mono fun e w' hh => PackOk.of r0 r1 hl (by omega) hh
      have ht1 := takeR_pack r xs ys r0 r1 (by omega)
      have ht2 := takeR_cut r xs q (by omega) (by omega)
      have hT1 := fun (W : World) (V : Option Addr) (C : Nat) (hW : RB W V (n + 14 + m) (packL r xs ++ ys)) (hC : n + 14 + m ≤ C) => take_any V _ C _ W hW hC (by omega)
      have hT2 := fun (W : World) (V : Option Addr) (C : Nat) (hW : RB W V q ((packL r xs).take q)) (hC : q ≤ C) => take_any V _ C _ W hW hC (by omega)
      unfold TakePost at hT1 hT2
      rw [ht1] at hT1
      rw [ht2] at hT2
      simp only [] at hT1 hT2
      rw [hl] at hT1
      have hcomm : (14 : Int) + n = n + 14 := by omega
      rw [hcomm] at hT1
      unfold PackOk at hP1
      generalize packL r xs = P at *
      have f2 : n + 14 ≤ 140737488351232 := by omega
      have f3 : n + 14 + m ≤ 140737488355328 := by omega
      have f4 : q ≤ n + 14 := by omega
      have HL := Lib.hid hl
      have H14 := Lib.hid hcomm
      clear hb1 hb2 hk hcut ht1 ht2 hl hcomm
      have hq : (IntKind.u64.wrap cut).tmod ((n : Int) + 14) = (q : Int) := HQ.out
      clear HQ
      go_enter Try.func4, Try.ntmps4
      go_wp2_with (first
        | (go_at_call 10; (with_reducible refine (hP1 _ h).mono ?_); rintro e w1 ⟨A1, c1, rfl, ho1, hc1, hb1⟩)
        | (go_at_call 8; (with_reducible refine (awake05_any _).mono ?_); rintro e w2 ⟨rfl, hb2⟩; have ho2 := ho1.below hb2; have hr2 := ho2.reads; have hB2 : Below w.heap.size w w2 := below_two hb1 hb2)
        | (go_at_call 17; (with_reducible refine (copyBytes_any _ _ _ _ _ hr2 f2).mono ?_); rintro e w3 ⟨A3, c3, rfl, ho3, hc3, hb3⟩; have hB3 : Below w.heap.size w w3 := below_two hB2 hb3)
        | (at_builtin; refine wpList_app rfl (.tmp 52) (.tmp 53) rfl w2.heap.size _ _ _ rfl ho3 B m d ys rfl (h'.below hB3) f3 hb3.size ?_; intro v4 w4 ho4 hg4 hat4; obtain ⟨A4, c4, rfl, hc4⟩ := ho4.slice; have hb24 : Below w2.heap.size w2 w4 := hb3.grown hg4 hb3.size (fun k hk => (ho3.own k hk).1); have hB4 : Below w.heap.size w w4 := below_two hB2 hb24)
        | (go_at_call 12; (with_reducible refine (hT1 _ _ _ ho4.reads hc4).mono ?_); rintro e w5 ⟨A5, c5, rfl, ho5, hc5, hb5⟩; have hB5 : Below w.heap.size w w5 := below_two hB4 hb5; have hr5 := (((ho2.below hb24).below hb5).cutEnd (k := q) f4).reads)
        | (go_at_call 12; (with_reducible refine (hT2 _ _ _ hr5 (Nat.le_trans f4 hc1)).mono ?_); rintro e w6 ⟨A6, c6, rfl, ho6, hc6, hb6⟩; have hB6 : Below w.heap.size w w6 := below_two hB5 hb6)
        | (go_at_call 14; (with_reducible refine (bytes_any _ _ _ _ _ _ _ _ _ (ho5.below hb6).reads (h.below hB6)).mono ?_); rintro e w9 ⟨rfl, rfl⟩))
      go_ret
      exact ⟨rfl, hB6⟩
end Go.Proofs.Ytecglmbggldhnaa
