/-
  trestlelaw05.awake, FramePacks.
-/
import Derived.Test.YtecglmbggldhnaaFrm3
import Derived.Test.YtecglmbggldhnaaFrm4
import Derived.Test.YtecglmbggldhnaaFrmP
import Derived.Test.YtecglmbggldhnaaSpoil
set_option linter.unusedVariables false
set_option linter.unusedSimpArgs false
namespace Go.Proofs.Ytecglmbggldhnaa
open Go.RowKit

set_option maxHeartbeats 1000000 in
theorem awake05_any (w : World) : Calls Try.prog 8 #[] w (fun e w' => e = .returned (.bool true) ∧ Below w.heap.size w w') := by
  have hp := pack_any 1 (some ⟨w.heap.size, 0, none⟩) 1 1 [97] (w.alloc (.cells #[.int .u8 97] 5 (1, 2))) (RB.lit_new w _ rfl [97] 1 (1, 2) rfl (bytsOf _ rfl)) (Nat.le_refl _) (by omega)
  have hlen := packL_length 1 [97]
  have g0 : gi (packL 1 [97]) 0 = 254 := rfl
  have g6 : gi (packL 1 [97]) 6 = 97 := rfl
  rw [show packR 1 [97] = (packL 1 [97], 0) from rfl] at hp
  unfold PackPost at hp
  generalize packL 1 [97] = P at *
  simp only [] at hp
  rw [show P.length = 15 from hlen] at hp
  clear hlen
  go_enter Try.func8, Try.ntmps8
  go_wp2_with (go_at_call 10; (with_reducible refine hp.mono ?_); rintro e w1 ⟨A, c, rfl, ho, hc, hb⟩; obtain ⟨b, o, rfl, hcell⟩ := (OB.reads ho).plain (by omega); have c0 : w1.cell? ⟨b, o, none⟩ = some (.int .u8 254) := (by have := hcell 0 (by omega); rw [g0] at this; simpa using this); have c6 : w1.cell? ⟨b, o + 6, none⟩ = some (.int .u8 97) := (by have := hcell 6 (by omega); rw [g6] at this; exact this); clear hcell)
  go_ret
  exact ⟨rfl, below_two ((Below.refl _ _).alloc (Nat.le_refl _) _) hb⟩

set_option maxHeartbeats 4000000 in
theorem framePacks_walk (k : Int) (A : Option Addr) (n c : Nat) (xs : List Int) (B : Option Addr) (m d : Nat) (ys : List Int) (w : World) (hk : (Lit.int .i64 k).wf = true) (h : RB w A n xs) (hnc : n ≤ c) (h' : RB w B m ys) (hmd : m ≤ d) :
    Calls Try.prog 3 #[.int .i64 k, .slice A n c, .slice B m d] w (fun e w' => e = .returned (.bool true) ∧ Below w.heap.size w w') := by
  by_cases hb1 : 1500 < n
  · have e1 : (1500 : Int) < n := by omega
    go_enter Try.func3, Try.ntmps3
    go_wp2_with (go_at_call 8; (with_reducible refine (awake05_any _).mono ?_); rintro e w1 ⟨rfl, hb1⟩)
    go_ret
    exact ⟨rfl, hb1⟩
  · have e1 : ¬ ((1500 : Int) < n) := by omega
    by_cases hb2 : 2000 < m
    · have e2 : (2000 : Int) < m := by omega
      go_enter Try.func3, Try.ntmps3
      go_wp2_with (go_at_call 8; (with_reducible refine (awake05_any _).mono ?_); rintro e w1 ⟨rfl, hb1⟩)
      go_ret
      exact ⟨rfl, hb1⟩
    · have e2 : ¬ ((2000 : Int) < m) := by omega
      have hn : n ≤ 1000000000 := by omega
      have hm : m ≤ 1000000000 := by omega
      have htl := (takeR_range h'.byts).2.2.2.2.2.2
      rw [h'.len] at htl
      have hown1 := own_any A n c xs 71 w h hn (by omega) (by omega)
      have hown2 := fun (W : World) (hW : RB W B m ys) => own_any B m d ys 71 W hW hm (by omega) (by omega)
      have hP1 := fun (W : World) (V : Option Addr) (C : Nat) (hW : RB W V n xs) (hC : n ≤ C) => pack_any k V n C xs W hW hC hn
      have hP2 := fun (W : World) (hW : RB W A n xs) => refPack_any k A n c xs W hW hnc hn
      have hT1 := fun (W : World) (V : Option Addr) (C : Nat) (hW : RB W V m ys) (hC : m ≤ C) => take_any V m C ys W hW hC hm
      have hT2 := fun (W : World) (hW : RB W B m ys) => refTake_any B m d ys W hW hmd hm
      unfold PackPost at hP1 hP2
      unfold TakePost at hT1 hT2
      generalize packR k xs = r at *
      generalize takeR ys = t at *
      clear hb1 hb2 hk
      go_enter Try.func3, Try.ntmps3
      go_wp2_with (first
        | (go_at_call 9; (with_reducible refine hown1.mono ?_); rintro e w1 ⟨g1, rfl, ho1, hb1⟩; have hB1 : Below w.heap.size w w1 := hb1; have hr1 := ho1.reads h.byts; have hy1 := h'.below hB1)
        | (go_at_call 9; (with_reducible refine (hown2 _ hy1).mono ?_); rintro e w2 ⟨g2, rfl, ho2, hb2⟩; have hB2 : Below w.heap.size w w2 := below_two hB1 hb2; have hr2 := ho2.reads h'.byts; have hr12 := hr1.below hb2)
        | (go_at_call 10; (with_reducible refine (hP1 _ _ _ hr12 (by omega)).mono ?_); rintro e w3 ⟨A3, c3, rfl, ho3, hc3, hb3⟩; have hB3 : Below w.heap.size w w3 := below_two hB2 hb3; have hx3 := h.below hB3)
        | (go_at_call 11; (with_reducible refine (hP2 _ hx3).mono ?_); rintro e w4 ⟨A4, c4, rfl, ho4, hc4, hb4⟩; have hB4 : Below w.heap.size w w4 := below_two hB3 hb4; have hr24 := (hr2.below hb3).below hb4)
        | (go_at_call 12; (with_reducible refine (hT1 _ _ _ hr24 (by omega)).mono ?_); rintro e w5 ⟨A5, c5, rfl, ho5, hc5, hb5⟩; have hB5 : Below w.heap.size w w5 := below_two hB4 hb5; have hy5 := h'.below hB5)
        | (go_at_call 13; (with_reducible refine (hT2 _ hy5).mono ?_); rintro e w6 ⟨A6, c6, rfl, ho6, hc6, hb6⟩; have hB6 : Below w.heap.size w w6 := below_two hB5 hb6)
        | (go_at_call 8; (with_reducible refine (awake05_any _).mono ?_); rintro e w7 ⟨rfl, hb7⟩; have hB7 : Below w.heap.size w w7 := below_two hB6 hb7; have hR3 := ((((ho3.below hb4).below hb5).below hb6).below hb7).reads; have hR4 := (((ho4.below hb5).below hb6).below hb7).reads; have hR5 := ((ho5.below hb6).below hb7).reads; have hR6 := (ho6.below hb7).reads; have hS := spoil_any A5 _ c5 _ _ w7 ((ho5.below hb6).below hb7) (by omega))
        | (go_at_call 14; (with_reducible refine (bytes_any _ _ _ _ _ _ _ _ _ hR3 hR4).mono ?_); rintro e w9 ⟨rfl, rfl⟩)
        | (go_at_call 14; (with_reducible refine (bytes_any _ _ _ _ _ _ _ _ _ hR5 hR6).mono ?_); rintro e w9 ⟨rfl, rfl⟩)
        | (go_at_call 15; (with_reducible refine hS.mono ?_); rintro e w8 ⟨rfl, ⟨zs8, ho8⟩, hg8⟩; have hz1 := hb1.size; have hz2 := hb2.size; have hz3 := hb3.size; have hz4 := hb4.size; have hB8 : Below w.heap.size w w8 := hB7.grown hg8 hB7.size (fun k hk => Nat.le_trans hB4.size (ho5.own k hk).1); have hO1 : OwnB w8 w.heap.size g1 n xs 71 := OwnB.grown ((((((ho1.below hb2).below hb3).below hb4).below hb5).below hb6).below hb7) hg8 (fun e => by have h1 := (ho5.own _ e.symm).1; have h2 := ho1.2.2.lt; omega); have hO2 : OwnB w8 w1.heap.size g2 m ys 71 := OwnB.grown (((((ho2.below hb3).below hb4).below hb5).below hb6).below hb7) hg8 (fun e => by have h1 := (ho5.own _ e.symm).1; have h2 := ho2.2.2.lt; omega); have hk1 := kept_any w.heap.size g1 n c A xs 71 w8 hO1 h.byts (h.below hB8) hn; have hk2 := fun q => kept_any w1.heap.size g2 m d B ys 71 (w8.drewN q) (hO2.below (drewN_below _ q)) h'.byts ((h'.below hB8).drewN q) hm)
        | (go_at_call 16; (with_reducible refine hk1.mono ?_); rintro e w9 ⟨rfl, q9, rfl⟩)
        | (go_at_call 16; (with_reducible refine (hk2 _).mono ?_); rintro e w10 ⟨rfl, q10, rfl⟩))
      go_ret
      exact ⟨rfl, below_drewN hB8 _⟩
end Go.Proofs.Ytecglmbggldhnaa
