/-
  FrameTurned.
-/
import Derived.Test.YtecglmbggldhnaaFrm6
set_option linter.unusedVariables false
set_option linter.unusedSimpArgs false
namespace Go.Proofs.Ytecglmbggldhnaa
open Go.RowKit

theorem xor_any (x y : Int) : 0 ≤ bits .xor .u8 x y ∧ bits .xor .u8 x y ≤ 255 := by
  show 0 ≤ IntKind.u8.wrap _ ∧ IntKind.u8.wrap _ ≤ 255
  simp only [IntKind.wrap, IntKind.signed, IntKind.bits]
  constructor <;> simp <;> omega
def PackAt (n : Nat) (P : List Int) (w : World) (e : Ending) (w' : World) : Prop := ∃ g c, e = .returned (.tuple #[.slice (some ⟨g, 0, none⟩) (n + 14) c, .int .i64 0]) ∧ OB w' w.heap.size (.slice (some ⟨g, 0, none⟩) (n + 14) c) (n + 14) P ∧ n + 14 ≤ c ∧ Below w.heap.size w w'
theorem PackOk.at {n : Nat} {P : List Int} {w : World} {e : Ending} {w' : World} (h : PackOk n P w e w') : PackAt n P w e w' := by
  obtain ⟨A, c, h1, h2, h3, h4⟩ := h
  rcases h2.form with ⟨h0, h01, h02⟩ | ⟨g, cap, cur, hv, _⟩
  · exact absurd h01 (Nat.succ_ne_zero _)
  · injection hv with hA _ hc
    subst hA
    exact ⟨g, c, h1, h2, h3, h4⟩
set_option maxHeartbeats 4000000 in
theorem frameTurned_walk (k : Int) (A : Option Addr) (n c : Nat) (xs : List Int) (bit : Int) (w : World) (hk : (Lit.int .i64 k).wf = true) (h : RB w A n xs) (hnc : n ≤ c) (hbit : (Lit.int .i64 bit).wf = true) :
    Calls Try.prog 6 #[.int .i64 k, .slice A n c, .int .i64 bit] w (fun e w' => e = .returned (.bool true) ∧ Below w.heap.size w w') := by
  by_cases hb1 : 600 < n
  · have e1 : (600 : Int) < n := by omega
    go_enter Try.func6, Try.ntmps6
    go_wp2_with (go_at_call 8; (with_reducible refine (awake05_any _).mono ?_); rintro e w1 ⟨rfl, hb1⟩)
    go_ret
    exact ⟨rfl, hb1⟩
  · have e1 : ¬ ((600 : Int) < n) := by omega
    have hl := h.len
    obtain ⟨r, hr, r0, r1⟩ := and_range k
    obtain ⟨q, hq, q1⟩ := rem_mod (8 * (n + 14)) bit (by omega)
    have HQ := Lib.hid hq
    clear hq
    have hwq : wrap64 (q : Int) = q := by unfold wrap64; omega
    have hwn : IntKind.u64.wrap (8 * ((n : Int) + 14)) = 8 * ((n : Int) + 14) := IntWalk.u64_in _ (by omega)
    have hnz : (8 * ((n : Int) + 14) == 0) = false := beq_eq_false_iff_ne.2 (by omega)
    have hnz2 : ((n : Int) + 14 == 0) = false := beq_eq_false_iff_ne.2 (by omega)
    have hP2 := fun (W : World) (hW : RB W A n xs) => (refPack_any r A n c xs W hW hnc (by omega)).mono fun e w' hh => (PackOk.of r0 r1 hl (by omega) hh).at
    have f1 : n + 14 ≤ 1000000000 := by omega
    unfold PackAt at hP2
    generalize packL r xs = P at *
    have q2 : q / 8 < n + 14 := by omega
    have q3 : (0 : Int) ≤ (q : Int) / 8 := by omega
    have q4 : (q : Int) / 8 < (n : Int) + 14 := by omega
    have q5 : ((q : Int) / 8).toNat = q / 8 := by omega
    have q6 : (0 : Int) ≤ q := by omega
    have q7 : (q : Int) % 8 < 8 := by omega
    have q8 : (0 : Int) ≤ (q : Int) % 8 := by omega
    have q9 : IntKind.u64.wrap ((q : Int) % 8) = (q : Int) % 8 := IntWalk.u64_in _ (by omega)
    have HL := Lib.hid hl
    clear hb1 hk hbit hl
    have hq : (IntKind.u64.wrap bit).tmod (8 * ((n : Int) + 14)) = (q : Int) := HQ.out
    clear HQ
    go_enter Try.func6, Try.ntmps6
    go_wp2_with (go_at_call 11; (with_reducible refine (hP2 _ h).mono ?_); rintro e w1 ⟨g, c1, rfl, ho1, hc1, hb1⟩; have c0 := ho1.cellAt q2; have f0 := ho1.frozenAt (q / 8))
    have hz1 := hb1.size
    have hx := xor_any (gi P (q / 8)) (2 ^ (q % 8) % 256)
    have ho2 := ho1.store (q / 8) hx.1 hx.2
    have hB2 : Below w.heap.size w (w1.setCell ⟨g, q / 8, none⟩ (.int .u8 (bits .xor .u8 (gi P (q / 8)) (2 ^ (q % 8) % 256)))) := hb1.setCell (p := ⟨g, q / 8, none⟩) (by have := ho1.own g rfl; exact this.1) _
    generalize w1.setCell ⟨g, q / 8, none⟩ (.int .u8 (bits .xor .u8 (gi P (q / 8)) (2 ^ (q % 8) % 256))) = w2 at *
    generalize P.set (q / 8) (bits .xor .u8 (gi P (q / 8)) (2 ^ (q % 8) % 256)) = Y at *
    clear hx hq q5 q9 c0 f0 hwq hwn hnz hnz2
    have hT1 := take_any (some ⟨g, 0, none⟩) (n + 14) c1 Y w2 ho2.reads hc1 f1
    have hT2 := fun (W : World) (hW : RB W (some ⟨g, 0, none⟩) (n + 14) Y) => refTake_any (some ⟨g, 0, none⟩) (n + 14) c1 Y W hW hc1 f1
    unfold TakePost at hT1 hT2
    generalize takeR Y = t at *
    go_wp2_with (first
      | (go_at_call 12; (with_reducible refine hT1.mono ?_); rintro e w5 ⟨A5, c5, rfl, ho5, hc5, hb5⟩; have hB5 : Below w.heap.size w w5 := below_two hB2 hb5; have hr5 := (ho2.below hb5).reads)
      | (go_at_call 13; (with_reducible refine (hT2 _ hr5).mono ?_); rintro e w6 ⟨A6, c6, rfl, ho6, hc6, hb6⟩; have hB6 : Below w.heap.size w w6 := below_two hB5 hb6)
      | (go_at_call 8; (with_reducible refine (awake05_any _).mono ?_); rintro e w7 ⟨rfl, hb7⟩; have hB7 : Below w.heap.size w w7 := below_two hB6 hb7; have hR5 := ((ho5.below hb6).below hb7).reads; have hR6 := (ho6.below hb7).reads)
      | (go_at_call 14; (with_reducible refine (bytes_any _ _ _ _ _ _ _ _ _ hR5 hR6).mono ?_); rintro e w9 ⟨rfl, rfl⟩))
    go_ret
    exact ⟨rfl, hB7⟩
end Go.Proofs.Ytecglmbggldhnaa
