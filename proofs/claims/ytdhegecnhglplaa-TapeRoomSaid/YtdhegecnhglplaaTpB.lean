/-
  TapeRoom.
-/
import Derived.Test.YtdhegecnhglplaaTpB0
set_option linter.unusedVariables false
set_option linter.unusedSimpArgs false
namespace Go.Proofs.Ytdhegecnhglplaa
open Go.RowKit

set_option maxRecDepth 100000 in
set_option maxHeartbeats 4000000 in
theorem tapeRoom_0 (r f s : Int) (w : World) (R F S : Nat) (hR : (IntKind.u64.wrap r).tmod 300 = (R : Int)) (R1 : R < 300) (hF : (IntKind.u64.wrap f).tmod 300 = (F : Int)) (F1 : F < 300) (hS : (IntKind.u64.wrap s).tmod 300 = (S : Int)) (S1 : S < 300) (cF : F ≤ R) (cS : S ≤ R - F) :
    Calls Try.prog 3 #[.int .i64 r, .int .i64 f, .int .i64 s] w (fun e w' => e = .returned (.bool true) ∧ Below w.heap.size w w') := by
  have HQ1 := Lib.hid hR
  have HQ2 := Lib.hid hF
  have HQ3 := Lib.hid hS
  clear hR hF hS
  have hR' : wrap64 (R : Int) = R := by unfold wrap64; omega
  have hF' : wrap64 (F : Int) = F := by unfold wrap64; omega
  have hS' : wrap64 (S : Int) = S := by unfold wrap64; omega
  obtain ⟨ZF, zf1, zf2, hmF⟩ := zerosT F (by omega)
  obtain ⟨ZS, zs1, zs2, hmS⟩ := zerosT S (by omega)
  obtain ⟨b1, H, E1, hw1, hc1, hb1, hl1, hH⟩ : ∃ b1 H E1, (rm R [] 0).write ZF = (E1, rm R b1 0) ∧ ((F ≤ R ∧ F = H ∧ 0 = E1) ∨ (¬ F ≤ R ∧ 0 = H ∧ 14 = E1)) ∧ Byts b1 ∧ b1.length = H ∧ H ≤ R := by
    by_cases hc : F ≤ R
    · exact ⟨ZF, F, 0, by rw [rm_write (by simp; omega)]; rfl, .inl ⟨hc, rfl, rfl⟩, zf2, zf1, hc⟩
    · exact ⟨[], 0, 14, by rw [rm_full (by simp) (by simp; omega)], .inr ⟨hc, rfl, rfl⟩, Byts.nil, rfl, by omega⟩
  obtain ⟨b2, A, E2, hw2, hc2, hb2, hl2, hA⟩ : ∃ b2 A E2, (rm R b1 0).write ZS = (E2, rm R b2 0) ∧ ((S ≤ R - H ∧ H + S = A ∧ 0 = E2) ∨ (¬ S ≤ R - H ∧ H = A ∧ 14 = E2)) ∧ Byts b2 ∧ b2.length = A ∧ A ≤ R := by
    by_cases hc : S ≤ R - H
    · exact ⟨b1 ++ ZS, H + S, 0, rm_write (by omega), .inl ⟨hc, rfl, rfl⟩, hb1.append zs2, by simp; omega, by omega⟩
    · exact ⟨b1, H, 14, rm_full (by omega) (by omega), .inr ⟨hc, rfl, rfl⟩, hb1, hl1, hH⟩
  have hw3 : (rm R b2 0).write [] = (0, rm R b2 0) := by rw [rm_write (by simp; omega), List.append_nil]
  obtain ⟨b4, D, L4, E4, hw4, hc4, hl4⟩ : ∃ b4 D L4 E4, (rm R b2 0).swap ZS = (E4, rm R b4 D) ∧ ((S ≤ R ∧ S = D ∧ S = L4 ∧ 0 = E4) ∨ (¬ S ≤ R ∧ 0 = D ∧ A = L4 ∧ 14 = E4)) ∧ b4.length = L4 := by
    by_cases hc : S ≤ R
    · exact ⟨ZS, S, S, 0, by rw [rm_swap (by omega), zs1], .inl ⟨hc, rfl, rfl, rfl⟩, zs1⟩
    · exact ⟨b2, 0, A, 14, rm_swapFull (by omega), .inr ⟨hc, rfl, rfl, rfl⟩, hl2⟩
  have o1 : (rm R ([] : List Int) 0).Ok 400000000 := rm_ok Byts.nil (by simp) (by omega) (by simp)
  have o2 : (rm R b1 0).Ok 400000000 := rm_ok hb1 (by omega) (by omega) (by omega)
  have o3 : (rm R b2 0).Ok 400000000 := rm_ok hb2 (by omega) (by omega) (by omega)
  have k1 := fun (W : World) (g : Nat) (P : Nat → Prop) (hW : TpAt W P g (rm R [] 0)) => tpWrite_made g _ P ZF F zf1 zf2 (by omega) W hW o1
  have k2 := fun (W : World) (g : Nat) (P : Nat → Prop) (hW : TpAt W P g (rm R b1 0)) => tpWrite_made g _ P ZS S zs1 zs2 (by omega) W hW o2
  have k3 := fun (W : World) (g : Nat) (P : Nat → Prop) (hW : TpAt W P g (rm R b2 0)) => tpWrite_none g _ P W hW o3
  have k4 := fun (W : World) (g : Nat) (P : Nat → Prop) (hW : TpAt W P g (rm R b2 0)) => tpSwap_made g _ P ZS S zs1 zs2 (by omega) W hW o3
  rw [hw1] at k1
  rw [hw2] at k2
  rw [hw3] at k3
  rw [hw4] at k4
  have k5 : ∀ (W : World) (g : Nat) (P : Nat → Prop), TpAt W P g (rm R b2 0) → Calls Try.prog 12 #[.pointer (some ⟨g, 0, none⟩)] W (NewB A b2 W) := fun W g P hW => by
    have := tpBytes_any g _ P W hW (show b2.length ≤ 1000000000 by omega)
    rw [show (rm R b2 0).b = b2 from rfl, hl2] at this
    exact this
  have k6 : ∀ (W : World) (g : Nat) (P : Nat → Prop), TpAt W P g (rm R b4 D) → Calls Try.prog 12 #[.pointer (some ⟨g, 0, none⟩)] W (NewB L4 b4 W) := fun W g P hW => by
    have := tpBytes_any g _ P W hW (show b4.length ≤ 1000000000 by omega)
    rw [show (rm R b4 D).b = b4 from rfl, hl4] at this
    exact this
  have k7 : ∀ (W : World) (g : Nat) (P : Nat → Prop), TpAt W P g (rm R b4 D) → Calls Try.prog 14 #[.pointer (some ⟨g, 0, none⟩)] W (fun e w' => e = .returned (.int .i64 (D : Int)) ∧ W = w') := fun W g P hW => tpHeld_any g _ P W hW
  have kn := tpNew_any (R : Int) w
  unfold NewTp at kn
  rw [rm_new R (by omega)] at kn
  have gg1 := fun W => good_any (F : Int) R E1 W (by omega)
  have gg2 := fun W => good_any (S : Int) ((R : Int) - H) E2 W (by omega)
  have gg4 := fun W => good_any (S : Int) R E4 W (by omega)
  have iw : IntKind.i64.wrap ((R : Int) - H) = (R : Int) - H := IntWalk.i64_in _ (by omega)
  have iw2 : wrap64 ((R : Int) - H) = (R : Int) - H := by unfold wrap64; omega
  have HRR := Lib.hid hH
  have ZF1 := Lib.hid zf1
  have ZS1 := Lib.hid zs1
  have HL1 := Lib.hid hl1
  have HL2 := Lib.hid hl2
  have HL4 := Lib.hid hl4
  clear hw1 hw2 hw3 hw4 hl1 hl2 hl4 zf1 zs1 hH hA
  rcases hc1 with ⟨a1, e1, e2⟩ | ⟨a1, e1, e2⟩
  · subst e1 e2
    rcases hc2 with ⟨a2, e1, e2⟩ | ⟨a2, e1, e2⟩
    · subst e1 e2
      have i2 : (S : Int) ≤ (R : Int) - F := by have := HRR.out; omega
      rcases hc4 with ⟨a4, e1, e2, e3⟩ | ⟨a4, _⟩
      · subst e1 e2 e3
        clear a2
        clear cF cS
        have hR := HQ1.out
        have hF := HQ2.out
        have hS := HQ3.out
        clear HQ1 HQ2 HQ3
        go_enter Try.func3, Try.ntmps3
        go_wp2_with (first
          | (go_at_call 8; (with_reducible refine kn.mono ?_); rintro e w1 ⟨g, rfl, hg0, h1, hB1⟩)
          | (go_at_call 9; (with_reducible refine (awake04_any _).mono ?_); rintro e w2 ⟨rfl, hb2⟩; have h2 := h1.below hb2; have hB2 : Below w.heap.size w w2 := below_two hB1 hb2)
          | (go_at_call 10; (with_reducible refine (k1 _ _ _ h2).mono ?_); rintro e w3 ⟨rfl, t3, hg3⟩; have hB3 : Below w.heap.size w w3 := hB2.grown hg3 hB2.size (fun k hk => by cases hk; exact hg0))
          | (go_at_call 10; (with_reducible refine (k2 _ _ _ t3).mono ?_); rintro e w4 ⟨rfl, t4, hg4⟩; have hB4 : Below w.heap.size w w4 := hB3.grown hg4 hB3.size (fun k hk => by cases hk; exact hg0))
          | (go_at_call 11; (with_reducible refine (gg1 _).mono ?_); rintro e w9 ⟨rfl, rfl⟩)
          | (go_at_call 11; (with_reducible refine (gg2 _).mono ?_); rintro e w9 ⟨rfl, rfl⟩)
          | (go_at_call 11; (with_reducible refine (gg4 _).mono ?_); rintro e w9 ⟨rfl, rfl⟩)
          | (go_at_call 12; (with_reducible refine (k5 _ _ _ t4).mono ?_); rintro e w5 ⟨V5, C5, rfl, ho5, hc5, hb5⟩; have h5 := t4.below hb5; have hB5 : Below w.heap.size w w5 := below_two hB4 hb5)
          | (go_at_call 10; (with_reducible refine (k3 _ _ _ h5).mono ?_); rintro e w6 ⟨rfl, t6, hg6⟩; have hB6 : Below w.heap.size w w6 := hB5.grown hg6 hB5.size (fun k hk => by cases hk; exact hg0))
          | (go_at_call 13; (with_reducible refine (k4 _ _ _ t6).mono ?_); rintro e w7 ⟨rfl, t7, hg7⟩; have hB7 : Below w.heap.size w w7 := hB6.grown hg7 hB6.size (fun k hk => by cases hk; exact hg0))
          | (go_at_call 12; (with_reducible refine (k6 _ _ _ t7).mono ?_); rintro e w8 ⟨V8, C8, rfl, ho8, hc8, hb8⟩; have h8 := t7.below hb8; have hB8 : Below w.heap.size w w8 := below_two hB7 hb8)
          | (go_at_call 14; (with_reducible refine (k7 _ _ _ h8).mono ?_); rintro e w9 ⟨rfl, rfl⟩))
        go_ret
        exact ⟨rfl, hB8⟩
      · exact absurd (show S ≤ R by omega) a4
    · subst e1 e2
      have i2 : ¬ ((S : Int) ≤ (R : Int) - F) := by have := HRR.out; omega
      rcases hc4 with ⟨a4, e1, e2, e3⟩ | ⟨a4, e1, e2, e3⟩
      · subst e1 e2 e3
        clear a2
        exfalso; omega
      · subst e1 e2 e3
        clear a2
        exfalso; omega
  · subst e1 e2
    rcases hc2 with ⟨a2, e1, e2⟩ | ⟨a2, e1, e2⟩
    · subst e1 e2
      rcases hc4 with ⟨a4, e1, e2, e3⟩ | ⟨a4, _⟩
      · subst e1 e2 e3
        clear a2
        exfalso; omega
      · exact absurd (show S ≤ R by omega) a4
    · subst e1 e2
      rcases hc4 with ⟨a4, e1, e2, e3⟩ | ⟨a4, e1, e2, e3⟩
      · exact absurd (show S ≤ R - 0 by omega) a2
      · subst e1 e2 e3
        clear a2
        exfalso; omega
set_option maxRecDepth 100000 in
set_option maxHeartbeats 4000000 in
theorem tapeRoom_1 (r f s : Int) (w : World) (R F S : Nat) (hR : (IntKind.u64.wrap r).tmod 300 = (R : Int)) (R1 : R < 300) (hF : (IntKind.u64.wrap f).tmod 300 = (F : Int)) (F1 : F < 300) (hS : (IntKind.u64.wrap s).tmod 300 = (S : Int)) (S1 : S < 300) (cF : F ≤ R) (cS : ¬ S ≤ R - F) (cR : S ≤ R) :
    Calls Try.prog 3 #[.int .i64 r, .int .i64 f, .int .i64 s] w (fun e w' => e = .returned (.bool true) ∧ Below w.heap.size w w') := by
  have HQ1 := Lib.hid hR
  have HQ2 := Lib.hid hF
  have HQ3 := Lib.hid hS
  clear hR hF hS
  have hR' : wrap64 (R : Int) = R := by unfold wrap64; omega
  have hF' : wrap64 (F : Int) = F := by unfold wrap64; omega
  have hS' : wrap64 (S : Int) = S := by unfold wrap64; omega
  obtain ⟨ZF, zf1, zf2, hmF⟩ := zerosT F (by omega)
  obtain ⟨ZS, zs1, zs2, hmS⟩ := zerosT S (by omega)
  obtain ⟨b1, H, E1, hw1, hc1, hb1, hl1, hH⟩ : ∃ b1 H E1, (rm R [] 0).write ZF = (E1, rm R b1 0) ∧ ((F ≤ R ∧ F = H ∧ 0 = E1) ∨ (¬ F ≤ R ∧ 0 = H ∧ 14 = E1)) ∧ Byts b1 ∧ b1.length = H ∧ H ≤ R := by
    by_cases hc : F ≤ R
    · exact ⟨ZF, F, 0, by rw [rm_write (by simp; omega)]; rfl, .inl ⟨hc, rfl, rfl⟩, zf2, zf1, hc⟩
    · exact ⟨[], 0, 14, by rw [rm_full (by simp) (by simp; omega)], .inr ⟨hc, rfl, rfl⟩, Byts.nil, rfl, by omega⟩
  obtain ⟨b2, A, E2, hw2, hc2, hb2, hl2, hA⟩ : ∃ b2 A E2, (rm R b1 0).write ZS = (E2, rm R b2 0) ∧ ((S ≤ R - H ∧ H + S = A ∧ 0 = E2) ∨ (¬ S ≤ R - H ∧ H = A ∧ 14 = E2)) ∧ Byts b2 ∧ b2.length = A ∧ A ≤ R := by
    by_cases hc : S ≤ R - H
    · exact ⟨b1 ++ ZS, H + S, 0, rm_write (by omega), .inl ⟨hc, rfl, rfl⟩, hb1.append zs2, by simp; omega, by omega⟩
    · exact ⟨b1, H, 14, rm_full (by omega) (by omega), .inr ⟨hc, rfl, rfl⟩, hb1, hl1, hH⟩
  have hw3 : (rm R b2 0).write [] = (0, rm R b2 0) := by rw [rm_write (by simp; omega), List.append_nil]
  obtain ⟨b4, D, L4, E4, hw4, hc4, hl4⟩ : ∃ b4 D L4 E4, (rm R b2 0).swap ZS = (E4, rm R b4 D) ∧ ((S ≤ R ∧ S = D ∧ S = L4 ∧ 0 = E4) ∨ (¬ S ≤ R ∧ 0 = D ∧ A = L4 ∧ 14 = E4)) ∧ b4.length = L4 := by
    by_cases hc : S ≤ R
    · exact ⟨ZS, S, S, 0, by rw [rm_swap (by omega), zs1], .inl ⟨hc, rfl, rfl, rfl⟩, zs1⟩
    · exact ⟨b2, 0, A, 14, rm_swapFull (by omega), .inr ⟨hc, rfl, rfl, rfl⟩, hl2⟩
  have o1 : (rm R ([] : List Int) 0).Ok 400000000 := rm_ok Byts.nil (by simp) (by omega) (by simp)
  have o2 : (rm R b1 0).Ok 400000000 := rm_ok hb1 (by omega) (by omega) (by omega)
  have o3 : (rm R b2 0).Ok 400000000 := rm_ok hb2 (by omega) (by omega) (by omega)
  have k1 := fun (W : World) (g : Nat) (P : Nat → Prop) (hW : TpAt W P g (rm R [] 0)) => tpWrite_made g _ P ZF F zf1 zf2 (by omega) W hW o1
  have k2 := fun (W : World) (g : Nat) (P : Nat → Prop) (hW : TpAt W P g (rm R b1 0)) => tpWrite_made g _ P ZS S zs1 zs2 (by omega) W hW o2
  have k3 := fun (W : World) (g : Nat) (P : Nat → Prop) (hW : TpAt W P g (rm R b2 0)) => tpWrite_none g _ P W hW o3
  have k4 := fun (W : World) (g : Nat) (P : Nat → Prop) (hW : TpAt W P g (rm R b2 0)) => tpSwap_made g _ P ZS S zs1 zs2 (by omega) W hW o3
  rw [hw1] at k1
  rw [hw2] at k2
  rw [hw3] at k3
  rw [hw4] at k4
  have k5 : ∀ (W : World) (g : Nat) (P : Nat → Prop), TpAt W P g (rm R b2 0) → Calls Try.prog 12 #[.pointer (some ⟨g, 0, none⟩)] W (NewB A b2 W) := fun W g P hW => by
    have := tpBytes_any g _ P W hW (show b2.length ≤ 1000000000 by omega)
    rw [show (rm R b2 0).b = b2 from rfl, hl2] at this
    exact this
  have k6 : ∀ (W : World) (g : Nat) (P : Nat → Prop), TpAt W P g (rm R b4 D) → Calls Try.prog 12 #[.pointer (some ⟨g, 0, none⟩)] W (NewB L4 b4 W) := fun W g P hW => by
    have := tpBytes_any g _ P W hW (show b4.length ≤ 1000000000 by omega)
    rw [show (rm R b4 D).b = b4 from rfl, hl4] at this
    exact this
  have k7 : ∀ (W : World) (g : Nat) (P : Nat → Prop), TpAt W P g (rm R b4 D) → Calls Try.prog 14 #[.pointer (some ⟨g, 0, none⟩)] W (fun e w' => e = .returned (.int .i64 (D : Int)) ∧ W = w') := fun W g P hW => tpHeld_any g _ P W hW
  have kn := tpNew_any (R : Int) w
  unfold NewTp at kn
  rw [rm_new R (by omega)] at kn
  have gg1 := fun W => good_any (F : Int) R E1 W (by omega)
  have gg2 := fun W => good_any (S : Int) ((R : Int) - H) E2 W (by omega)
  have gg4 := fun W => good_any (S : Int) R E4 W (by omega)
  have iw : IntKind.i64.wrap ((R : Int) - H) = (R : Int) - H := IntWalk.i64_in _ (by omega)
  have iw2 : wrap64 ((R : Int) - H) = (R : Int) - H := by unfold wrap64; omega
  have HRR := Lib.hid hH
  have ZF1 := Lib.hid zf1
  have ZS1 := Lib.hid zs1
  have HL1 := Lib.hid hl1
  have HL2 := Lib.hid hl2
  have HL4 := Lib.hid hl4
  clear hw1 hw2 hw3 hw4 hl1 hl2 hl4 zf1 zs1 hH hA
  rcases hc1 with ⟨a1, e1, e2⟩ | ⟨a1, e1, e2⟩
  · subst e1 e2
    rcases hc2 with ⟨a2, e1, e2⟩ | ⟨a2, e1, e2⟩
    · subst e1 e2
      have i2 : (S : Int) ≤ (R : Int) - F := by have := HRR.out; omega
      rcases hc4 with ⟨a4, e1, e2, e3⟩ | ⟨a4, _⟩
      · subst e1 e2 e3
        clear a2
        exfalso; omega
      · exact absurd (show S ≤ R by omega) a4
    · subst e1 e2
      have i2 : ¬ ((S : Int) ≤ (R : Int) - F) := by have := HRR.out; omega
      rcases hc4 with ⟨a4, e1, e2, e3⟩ | ⟨a4, e1, e2, e3⟩
      · subst e1 e2 e3
        clear a2
        clear cF cS cR
        have hR := HQ1.out
        have hF := HQ2.out
        have hS := HQ3.out
        clear HQ1 HQ2 HQ3
        go_enter Try.func3, Try.ntmps3
        go_wp2_with (first
          | (go_at_call 8; (with_reducible refine kn.mono ?_); rintro e w1 ⟨g, rfl, hg0, h1, hB1⟩)
          | (go_at_call 9; (with_reducible refine (awake04_any _).mono ?_); rintro e w2 ⟨rfl, hb2⟩; have h2 := h1.below hb2; have hB2 : Below w.heap.size w w2 := below_two hB1 hb2)
          | (go_at_call 10; (with_reducible refine (k1 _ _ _ h2).mono ?_); rintro e w3 ⟨rfl, t3, hg3⟩; have hB3 : Below w.heap.size w w3 := hB2.grown hg3 hB2.size (fun k hk => by cases hk; exact hg0))
          | (go_at_call 10; (with_reducible refine (k2 _ _ _ t3).mono ?_); rintro e w4 ⟨rfl, t4, hg4⟩; have hB4 : Below w.heap.size w w4 := hB3.grown hg4 hB3.size (fun k hk => by cases hk; exact hg0))
          | (go_at_call 11; (with_reducible refine (gg1 _).mono ?_); rintro e w9 ⟨rfl, rfl⟩)
          | (go_at_call 11; (with_reducible refine (gg2 _).mono ?_); rintro e w9 ⟨rfl, rfl⟩)
          | (go_at_call 11; (with_reducible refine (gg4 _).mono ?_); rintro e w9 ⟨rfl, rfl⟩)
          | (go_at_call 12; (with_reducible refine (k5 _ _ _ t4).mono ?_); rintro e w5 ⟨V5, C5, rfl, ho5, hc5, hb5⟩; have h5 := t4.below hb5; have hB5 : Below w.heap.size w w5 := below_two hB4 hb5)
          | (go_at_call 10; (with_reducible refine (k3 _ _ _ h5).mono ?_); rintro e w6 ⟨rfl, t6, hg6⟩; have hB6 : Below w.heap.size w w6 := hB5.grown hg6 hB5.size (fun k hk => by cases hk; exact hg0))
          | (go_at_call 13; (with_reducible refine (k4 _ _ _ t6).mono ?_); rintro e w7 ⟨rfl, t7, hg7⟩; have hB7 : Below w.heap.size w w7 := hB6.grown hg7 hB6.size (fun k hk => by cases hk; exact hg0))
          | (go_at_call 12; (with_reducible refine (k6 _ _ _ t7).mono ?_); rintro e w8 ⟨V8, C8, rfl, ho8, hc8, hb8⟩; have h8 := t7.below hb8; have hB8 : Below w.heap.size w w8 := below_two hB7 hb8)
          | (go_at_call 14; (with_reducible refine (k7 _ _ _ h8).mono ?_); rintro e w9 ⟨rfl, rfl⟩))
        go_ret
        exact ⟨rfl, hB8⟩
      · subst e1 e2 e3
        clear a2
        exfalso; omega
  · subst e1 e2
    rcases hc2 with ⟨a2, e1, e2⟩ | ⟨a2, e1, e2⟩
    · subst e1 e2
      rcases hc4 with ⟨a4, e1, e2, e3⟩ | ⟨a4, _⟩
      · subst e1 e2 e3
        clear a2
        exfalso; omega
      · exact absurd (show S ≤ R by omega) a4
    · subst e1 e2
      rcases hc4 with ⟨a4, e1, e2, e3⟩ | ⟨a4, e1, e2, e3⟩
      · exact absurd (show S ≤ R - 0 by omega) a2
      · subst e1 e2 e3
        clear a2
        exfalso; omega
set_option maxRecDepth 100000 in
set_option maxHeartbeats 4000000 in
theorem tapeRoom_2 (r f s : Int) (w : World) (R F S : Nat) (hR : (IntKind.u64.wrap r).tmod 300 = (R : Int)) (R1 : R < 300) (hF : (IntKind.u64.wrap f).tmod 300 = (F : Int)) (F1 : F < 300) (hS : (IntKind.u64.wrap s).tmod 300 = (S : Int)) (S1 : S < 300) (cF : F ≤ R) (cS : ¬ S ≤ R - F) (cR : ¬ S ≤ R) :
    Calls Try.prog 3 #[.int .i64 r, .int .i64 f, .int .i64 s] w (fun e w' => e = .returned (.bool true) ∧ Below w.heap.size w w') := by
  have HQ1 := Lib.hid hR
  have HQ2 := Lib.hid hF
  have HQ3 := Lib.hid hS
  clear hR hF hS
  have hR' : wrap64 (R : Int) = R := by unfold wrap64; omega
  have hF' : wrap64 (F : Int) = F := by unfold wrap64; omega
  have hS' : wrap64 (S : Int) = S := by unfold wrap64; omega
  obtain ⟨ZF, zf1, zf2, hmF⟩ := zerosT F (by omega)
  obtain ⟨ZS, zs1, zs2, hmS⟩ := zerosT S (by omega)
  obtain ⟨b1, H, E1, hw1, hc1, hb1, hl1, hH⟩ : ∃ b1 H E1, (rm R [] 0).write ZF = (E1, rm R b1 0) ∧ ((F ≤ R ∧ F = H ∧ 0 = E1) ∨ (¬ F ≤ R ∧ 0 = H ∧ 14 = E1)) ∧ Byts b1 ∧ b1.length = H ∧ H ≤ R := by
    by_cases hc : F ≤ R
    · exact ⟨ZF, F, 0, by rw [rm_write (by simp; omega)]; rfl, .inl ⟨hc, rfl, rfl⟩, zf2, zf1, hc⟩
    · exact ⟨[], 0, 14, by rw [rm_full (by simp) (by simp; omega)], .inr ⟨hc, rfl, rfl⟩, Byts.nil, rfl, by omega⟩
  obtain ⟨b2, A, E2, hw2, hc2, hb2, hl2, hA⟩ : ∃ b2 A E2, (rm R b1 0).write ZS = (E2, rm R b2 0) ∧ ((S ≤ R - H ∧ H + S = A ∧ 0 = E2) ∨ (¬ S ≤ R - H ∧ H = A ∧ 14 = E2)) ∧ Byts b2 ∧ b2.length = A ∧ A ≤ R := by
    by_cases hc : S ≤ R - H
    · exact ⟨b1 ++ ZS, H + S, 0, rm_write (by omega), .inl ⟨hc, rfl, rfl⟩, hb1.append zs2, by simp; omega, by omega⟩
    · exact ⟨b1, H, 14, rm_full (by omega) (by omega), .inr ⟨hc, rfl, rfl⟩, hb1, hl1, hH⟩
  have hw3 : (rm R b2 0).write [] = (0, rm R b2 0) := by rw [rm_write (by simp; omega), List.append_nil]
  obtain ⟨b4, D, L4, E4, hw4, hc4, hl4⟩ : ∃ b4 D L4 E4, (rm R b2 0).swap ZS = (E4, rm R b4 D) ∧ ((S ≤ R ∧ S = D ∧ S = L4 ∧ 0 = E4) ∨ (¬ S ≤ R ∧ 0 = D ∧ A = L4 ∧ 14 = E4)) ∧ b4.length = L4 := by
    by_cases hc : S ≤ R
    · exact ⟨ZS, S, S, 0, by rw [rm_swap (by omega), zs1], .inl ⟨hc, rfl, rfl, rfl⟩, zs1⟩
    · exact ⟨b2, 0, A, 14, rm_swapFull (by omega), .inr ⟨hc, rfl, rfl, rfl⟩, hl2⟩
  have o1 : (rm R ([] : List Int) 0).Ok 400000000 := rm_ok Byts.nil (by simp) (by omega) (by simp)
  have o2 : (rm R b1 0).Ok 400000000 := rm_ok hb1 (by omega) (by omega) (by omega)
  have o3 : (rm R b2 0).Ok 400000000 := rm_ok hb2 (by omega) (by omega) (by omega)
  have k1 := fun (W : World) (g : Nat) (P : Nat → Prop) (hW : TpAt W P g (rm R [] 0)) => tpWrite_made g _ P ZF F zf1 zf2 (by omega) W hW o1
  have k2 := fun (W : World) (g : Nat) (P : Nat → Prop) (hW : TpAt W P g (rm R b1 0)) => tpWrite_made g _ P ZS S zs1 zs2 (by omega) W hW o2
  have k3 := fun (W : World) (g : Nat) (P : Nat → Prop) (hW : TpAt W P g (rm R b2 0)) => tpWrite_none g _ P W hW o3
  have k4 := fun (W : World) (g : Nat) (P : Nat → Prop) (hW : TpAt W P g (rm R b2 0)) => tpSwap_made g _ P ZS S zs1 zs2 (by omega) W hW o3
  rw [hw1] at k1
  rw [hw2] at k2
  rw [hw3] at k3
  rw [hw4] at k4
  have k5 : ∀ (W : World) (g : Nat) (P : Nat → Prop), TpAt W P g (rm R b2 0) → Calls Try.prog 12 #[.pointer (some ⟨g, 0, none⟩)] W (NewB A b2 W) := fun W g P hW => by
    have := tpBytes_any g _ P W hW (show b2.length ≤ 1000000000 by omega)
    rw [show (rm R b2 0).b = b2 from rfl, hl2] at this
    exact this
  have k6 : ∀ (W : World) (g : Nat) (P : Nat → Prop), TpAt W P g (rm R b4 D) → Calls Try.prog 12 #[.pointer (some ⟨g, 0, none⟩)] W (NewB L4 b4 W) := fun W g P hW => by
    have := tpBytes_any g _ P W hW (show b4.length ≤ 1000000000 by omega)
    rw [show (rm R b4 D).b = b4 from rfl, hl4] at this
    exact this
  have k7 : ∀ (W : World) (g : Nat) (P : Nat → Prop), TpAt W P g (rm R b4 D) → Calls Try.prog 14 #[.pointer (some ⟨g, 0, none⟩)] W (fun e w' => e = .returned (.int .i64 (D : Int)) ∧ W = w') := fun W g P hW => tpHeld_any g _ P W hW
  have kn := tpNew_any (R : Int) w
  unfold NewTp at kn
  rw [rm_new R (by omega)] at kn
  have gg1 := fun W => good_any (F : Int) R E1 W (by omega)
  have gg2 := fun W => good_any (S : Int) ((R : Int) - H) E2 W (by omega)
  have gg4 := fun W => good_any (S : Int) R E4 W (by omega)
  have iw : IntKind.i64.wrap ((R : Int) - H) = (R : Int) - H := IntWalk.i64_in _ (by omega)
  have iw2 : wrap64 ((R : Int) - H) = (R : Int) - H := by unfold wrap64; omega
  have HRR := Lib.hid hH
  have ZF1 := Lib.hid zf1
  have ZS1 := Lib.hid zs1
  have HL1 := Lib.hid hl1
  have HL2 := Lib.hid hl2
  have HL4 := Lib.hid hl4
  clear hw1 hw2 hw3 hw4 hl1 hl2 hl4 zf1 zs1 hH hA
  rcases hc1 with ⟨a1, e1, e2⟩ | ⟨a1, e1, e2⟩
  · subst e1 e2
    rcases hc2 with ⟨a2, e1, e2⟩ | ⟨a2, e1, e2⟩
    · subst e1 e2
      have i2 : (S : Int) ≤ (R : Int) - F := by have := HRR.out; omega
      rcases hc4 with ⟨a4, e1, e2, e3⟩ | ⟨a4, _⟩
      · subst e1 e2 e3
        clear a2
        exfalso; omega
      · exact absurd (show S ≤ R by omega) a4
    · subst e1 e2
      have i2 : ¬ ((S : Int) ≤ (R : Int) - F) := by have := HRR.out; omega
      rcases hc4 with ⟨a4, e1, e2, e3⟩ | ⟨a4, e1, e2, e3⟩
      · subst e1 e2 e3
        clear a2
        exfalso; omega
      · subst e1 e2 e3
        clear a2
        clear cF cS cR
        have hR := HQ1.out
        have hF := HQ2.out
        have hS := HQ3.out
        clear HQ1 HQ2 HQ3
        go_enter Try.func3, Try.ntmps3
        go_wp2_with (first
          | (go_at_call 8; (with_reducible refine kn.mono ?_); rintro e w1 ⟨g, rfl, hg0, h1, hB1⟩)
          | (go_at_call 9; (with_reducible refine (awake04_any _).mono ?_); rintro e w2 ⟨rfl, hb2⟩; have h2 := h1.below hb2; have hB2 : Below w.heap.size w w2 := below_two hB1 hb2)
          | (go_at_call 10; (with_reducible refine (k1 _ _ _ h2).mono ?_); rintro e w3 ⟨rfl, t3, hg3⟩; have hB3 : Below w.heap.size w w3 := hB2.grown hg3 hB2.size (fun k hk => by cases hk; exact hg0))
          | (go_at_call 10; (with_reducible refine (k2 _ _ _ t3).mono ?_); rintro e w4 ⟨rfl, t4, hg4⟩; have hB4 : Below w.heap.size w w4 := hB3.grown hg4 hB3.size (fun k hk => by cases hk; exact hg0))
          | (go_at_call 11; (with_reducible refine (gg1 _).mono ?_); rintro e w9 ⟨rfl, rfl⟩)
          | (go_at_call 11; (with_reducible refine (gg2 _).mono ?_); rintro e w9 ⟨rfl, rfl⟩)
          | (go_at_call 11; (with_reducible refine (gg4 _).mono ?_); rintro e w9 ⟨rfl, rfl⟩)
          | (go_at_call 12; (with_reducible refine (k5 _ _ _ t4).mono ?_); rintro e w5 ⟨V5, C5, rfl, ho5, hc5, hb5⟩; have h5 := t4.below hb5; have hB5 : Below w.heap.size w w5 := below_two hB4 hb5)
          | (go_at_call 10; (with_reducible refine (k3 _ _ _ h5).mono ?_); rintro e w6 ⟨rfl, t6, hg6⟩; have hB6 : Below w.heap.size w w6 := hB5.grown hg6 hB5.size (fun k hk => by cases hk; exact hg0))
          | (go_at_call 13; (with_reducible refine (k4 _ _ _ t6).mono ?_); rintro e w7 ⟨rfl, t7, hg7⟩; have hB7 : Below w.heap.size w w7 := hB6.grown hg7 hB6.size (fun k hk => by cases hk; exact hg0))
          | (go_at_call 12; (with_reducible refine (k6 _ _ _ t7).mono ?_); rintro e w8 ⟨V8, C8, rfl, ho8, hc8, hb8⟩; have h8 := t7.below hb8; have hB8 : Below w.heap.size w w8 := below_two hB7 hb8)
          | (go_at_call 14; (with_reducible refine (k7 _ _ _ h8).mono ?_); rintro e w9 ⟨rfl, rfl⟩))
        go_ret
        exact ⟨rfl, hB8⟩
  · subst e1 e2
    rcases hc2 with ⟨a2, e1, e2⟩ | ⟨a2, e1, e2⟩
    · subst e1 e2
      rcases hc4 with ⟨a4, e1, e2, e3⟩ | ⟨a4, _⟩
      · subst e1 e2 e3
        clear a2
        exfalso; omega
      · exact absurd (show S ≤ R by omega) a4
    · subst e1 e2
      rcases hc4 with ⟨a4, e1, e2, e3⟩ | ⟨a4, e1, e2, e3⟩
      · exact absurd (show S ≤ R - 0 by omega) a2
      · subst e1 e2 e3
        clear a2
        exfalso; omega
set_option maxRecDepth 100000 in
set_option maxHeartbeats 4000000 in
theorem tapeRoom_3 (r f s : Int) (w : World) (R F S : Nat) (hR : (IntKind.u64.wrap r).tmod 300 = (R : Int)) (R1 : R < 300) (hF : (IntKind.u64.wrap f).tmod 300 = (F : Int)) (F1 : F < 300) (hS : (IntKind.u64.wrap s).tmod 300 = (S : Int)) (S1 : S < 300) (cF : ¬ F ≤ R) (cR : S ≤ R) :
    Calls Try.prog 3 #[.int .i64 r, .int .i64 f, .int .i64 s] w (fun e w' => e = .returned (.bool true) ∧ Below w.heap.size w w') := by
  have HQ1 := Lib.hid hR
  have HQ2 := Lib.hid hF
  have HQ3 := Lib.hid hS
  clear hR hF hS
  have hR' : wrap64 (R : Int) = R := by unfold wrap64; omega
  have hF' : wrap64 (F : Int) = F := by unfold wrap64; omega
  have hS' : wrap64 (S : Int) = S := by unfold wrap64; omega
  obtain ⟨ZF, zf1, zf2, hmF⟩ := zerosT F (by omega)
  obtain ⟨ZS, zs1, zs2, hmS⟩ := zerosT S (by omega)
  obtain ⟨b1, H, E1, hw1, hc1, hb1, hl1, hH⟩ : ∃ b1 H E1, (rm R [] 0).write ZF = (E1, rm R b1 0) ∧ ((F ≤ R ∧ F = H ∧ 0 = E1) ∨ (¬ F ≤ R ∧ 0 = H ∧ 14 = E1)) ∧ Byts b1 ∧ b1.length = H ∧ H ≤ R := by
    by_cases hc : F ≤ R
    · exact ⟨ZF, F, 0, by rw [rm_write (by simp; omega)]; rfl, .inl ⟨hc, rfl, rfl⟩, zf2, zf1, hc⟩
    · exact ⟨[], 0, 14, by rw [rm_full (by simp) (by simp; omega)], .inr ⟨hc, rfl, rfl⟩, Byts.nil, rfl, by omega⟩
  obtain ⟨b2, A, E2, hw2, hc2, hb2, hl2, hA⟩ : ∃ b2 A E2, (rm R b1 0).write ZS = (E2, rm R b2 0) ∧ ((S ≤ R - H ∧ H + S = A ∧ 0 = E2) ∨ (¬ S ≤ R - H ∧ H = A ∧ 14 = E2)) ∧ Byts b2 ∧ b2.length = A ∧ A ≤ R := by
    by_cases hc : S ≤ R - H
    · exact ⟨b1 ++ ZS, H + S, 0, rm_write (by omega), .inl ⟨hc, rfl, rfl⟩, hb1.append zs2, by simp; omega, by omega⟩
    · exact ⟨b1, H, 14, rm_full (by omega) (by omega), .inr ⟨hc, rfl, rfl⟩, hb1, hl1, hH⟩
  have hw3 : (rm R b2 0).write [] = (0, rm R b2 0) := by rw [rm_write (by simp; omega), List.append_nil]
  obtain ⟨b4, D, L4, E4, hw4, hc4, hl4⟩ : ∃ b4 D L4 E4, (rm R b2 0).swap ZS = (E4, rm R b4 D) ∧ ((S ≤ R ∧ S = D ∧ S = L4 ∧ 0 = E4) ∨ (¬ S ≤ R ∧ 0 = D ∧ A = L4 ∧ 14 = E4)) ∧ b4.length = L4 := by
    by_cases hc : S ≤ R
    · exact ⟨ZS, S, S, 0, by rw [rm_swap (by omega), zs1], .inl ⟨hc, rfl, rfl, rfl⟩, zs1⟩
    · exact ⟨b2, 0, A, 14, rm_swapFull (by omega), .inr ⟨hc, rfl, rfl, rfl⟩, hl2⟩
  have o1 : (rm R ([] : List Int) 0).Ok 400000000 := rm_ok Byts.nil (by simp) (by omega) (by simp)
  have o2 : (rm R b1 0).Ok 400000000 := rm_ok hb1 (by omega) (by omega) (by omega)
  have o3 : (rm R b2 0).Ok 400000000 := rm_ok hb2 (by omega) (by omega) (by omega)
  have k1 := fun (W : World) (g : Nat) (P : Nat → Prop) (hW : TpAt W P g (rm R [] 0)) => tpWrite_made g _ P ZF F zf1 zf2 (by omega) W hW o1
  have k2 := fun (W : World) (g : Nat) (P : Nat → Prop) (hW : TpAt W P g (rm R b1 0)) => tpWrite_made g _ P ZS S zs1 zs2 (by omega) W hW o2
  have k3 := fun (W : World) (g : Nat) (P : Nat → Prop) (hW : TpAt W P g (rm R b2 0)) => tpWrite_none g _ P W hW o3
  have k4 := fun (W : World) (g : Nat) (P : Nat → Prop) (hW : TpAt W P g (rm R b2 0)) => tpSwap_made g _ P ZS S zs1 zs2 (by omega) W hW o3
  rw [hw1] at k1
  rw [hw2] at k2
  rw [hw3] at k3
  rw [hw4] at k4
  have k5 : ∀ (W : World) (g : Nat) (P : Nat → Prop), TpAt W P g (rm R b2 0) → Calls Try.prog 12 #[.pointer (some ⟨g, 0, none⟩)] W (NewB A b2 W) := fun W g P hW => by
    have := tpBytes_any g _ P W hW (show b2.length ≤ 1000000000 by omega)
    rw [show (rm R b2 0).b = b2 from rfl, hl2] at this
    exact this
  have k6 : ∀ (W : World) (g : Nat) (P : Nat → Prop), TpAt W P g (rm R b4 D) → Calls Try.prog 12 #[.pointer (some ⟨g, 0, none⟩)] W (NewB L4 b4 W) := fun W g P hW => by
    have := tpBytes_any g _ P W hW (show b4.length ≤ 1000000000 by omega)
    rw [show (rm R b4 D).b = b4 from rfl, hl4] at this
    exact this
  have k7 : ∀ (W : World) (g : Nat) (P : Nat → Prop), TpAt W P g (rm R b4 D) → Calls Try.prog 14 #[.pointer (some ⟨g, 0, none⟩)] W (fun e w' => e = .returned (.int .i64 (D : Int)) ∧ W = w') := fun W g P hW => tpHeld_any g _ P W hW
  have kn := tpNew_any (R : Int) w
  unfold NewTp at kn
  rw [rm_new R (by omega)] at kn
  have gg1 := fun W => good_any (F : Int) R E1 W (by omega)
  have gg2 := fun W => good_any (S : Int) ((R : Int) - H) E2 W (by omega)
  have gg4 := fun W => good_any (S : Int) R E4 W (by omega)
  have iw : IntKind.i64.wrap ((R : Int) - H) = (R : Int) - H := IntWalk.i64_in _ (by omega)
  have iw2 : wrap64 ((R : Int) - H) = (R : Int) - H := by unfold wrap64; omega
  have HRR := Lib.hid hH
  have ZF1 := Lib.hid zf1
  have ZS1 := Lib.hid zs1
  have HL1 := Lib.hid hl1
  have HL2 := Lib.hid hl2
  have HL4 := Lib.hid hl4
  clear hw1 hw2 hw3 hw4 hl1 hl2 hl4 zf1 zs1 hH hA
  rcases hc1 with ⟨a1, e1, e2⟩ | ⟨a1, e1, e2⟩
  · subst e1 e2
    rcases hc2 with ⟨a2, e1, e2⟩ | ⟨a2, e1, e2⟩
    · subst e1 e2
      have i2 : (S : Int) ≤ (R : Int) - F := by have := HRR.out; omega
      rcases hc4 with ⟨a4, e1, e2, e3⟩ | ⟨a4, _⟩
      · subst e1 e2 e3
        clear a2
        exfalso; omega
      · exact absurd (show S ≤ R by omega) a4
    · subst e1 e2
      have i2 : ¬ ((S : Int) ≤ (R : Int) - F) := by have := HRR.out; omega
      rcases hc4 with ⟨a4, e1, e2, e3⟩ | ⟨a4, e1, e2, e3⟩
      · subst e1 e2 e3
        clear a2
        exfalso; omega
      · subst e1 e2 e3
        clear a2
        exfalso; omega
  · subst e1 e2
    rcases hc2 with ⟨a2, e1, e2⟩ | ⟨a2, e1, e2⟩
    · subst e1 e2
      rcases hc4 with ⟨a4, e1, e2, e3⟩ | ⟨a4, _⟩
      · subst e1 e2 e3
        clear a2
        clear cF cR
        have hR := HQ1.out
        have hF := HQ2.out
        have hS := HQ3.out
        clear HQ1 HQ2 HQ3
        go_enter Try.func3, Try.ntmps3
        go_wp2_with (first
          | (go_at_call 8; (with_reducible refine kn.mono ?_); rintro e w1 ⟨g, rfl, hg0, h1, hB1⟩)
          | (go_at_call 9; (with_reducible refine (awake04_any _).mono ?_); rintro e w2 ⟨rfl, hb2⟩; have h2 := h1.below hb2; have hB2 : Below w.heap.size w w2 := below_two hB1 hb2)
          | (go_at_call 10; (with_reducible refine (k1 _ _ _ h2).mono ?_); rintro e w3 ⟨rfl, t3, hg3⟩; have hB3 : Below w.heap.size w w3 := hB2.grown hg3 hB2.size (fun k hk => by cases hk; exact hg0))
          | (go_at_call 10; (with_reducible refine (k2 _ _ _ t3).mono ?_); rintro e w4 ⟨rfl, t4, hg4⟩; have hB4 : Below w.heap.size w w4 := hB3.grown hg4 hB3.size (fun k hk => by cases hk; exact hg0))
          | (go_at_call 11; (with_reducible refine (gg1 _).mono ?_); rintro e w9 ⟨rfl, rfl⟩)
          | (go_at_call 11; (with_reducible refine (gg2 _).mono ?_); rintro e w9 ⟨rfl, rfl⟩)
          | (go_at_call 11; (with_reducible refine (gg4 _).mono ?_); rintro e w9 ⟨rfl, rfl⟩)
          | (go_at_call 12; (with_reducible refine (k5 _ _ _ t4).mono ?_); rintro e w5 ⟨V5, C5, rfl, ho5, hc5, hb5⟩; have h5 := t4.below hb5; have hB5 : Below w.heap.size w w5 := below_two hB4 hb5)
          | (go_at_call 10; (with_reducible refine (k3 _ _ _ h5).mono ?_); rintro e w6 ⟨rfl, t6, hg6⟩; have hB6 : Below w.heap.size w w6 := hB5.grown hg6 hB5.size (fun k hk => by cases hk; exact hg0))
          | (go_at_call 13; (with_reducible refine (k4 _ _ _ t6).mono ?_); rintro e w7 ⟨rfl, t7, hg7⟩; have hB7 : Below w.heap.size w w7 := hB6.grown hg7 hB6.size (fun k hk => by cases hk; exact hg0))
          | (go_at_call 12; (with_reducible refine (k6 _ _ _ t7).mono ?_); rintro e w8 ⟨V8, C8, rfl, ho8, hc8, hb8⟩; have h8 := t7.below hb8; have hB8 : Below w.heap.size w w8 := below_two hB7 hb8)
          | (go_at_call 14; (with_reducible refine (k7 _ _ _ h8).mono ?_); rintro e w9 ⟨rfl, rfl⟩))
        go_ret
        exact ⟨rfl, hB8⟩
      · exact absurd (show S ≤ R by omega) a4
    · subst e1 e2
      rcases hc4 with ⟨a4, e1, e2, e3⟩ | ⟨a4, e1, e2, e3⟩
      · exact absurd (show S ≤ R - 0 by omega) a2
      · subst e1 e2 e3
        clear a2
        exfalso; omega
set_option maxRecDepth 100000 in
set_option maxHeartbeats 4000000 in
theorem tapeRoom_4 (r f s : Int) (w : World) (R F S : Nat) (hR : (IntKind.u64.wrap r).tmod 300 = (R : Int)) (R1 : R < 300) (hF : (IntKind.u64.wrap f).tmod 300 = (F : Int)) (F1 : F < 300) (hS : (IntKind.u64.wrap s).tmod 300 = (S : Int)) (S1 : S < 300) (cF : ¬ F ≤ R) (cR : ¬ S ≤ R) :
    Calls Try.prog 3 #[.int .i64 r, .int .i64 f, .int .i64 s] w (fun e w' => e = .returned (.bool true) ∧ Below w.heap.size w w') := by
  have HQ1 := Lib.hid hR
  have HQ2 := Lib.hid hF
  have HQ3 := Lib.hid hS
  clear hR hF hS
  have hR' : wrap64 (R : Int) = R := by unfold wrap64; omega
  have hF' : wrap64 (F : Int) = F := by unfold wrap64; omega
  have hS' : wrap64 (S : Int) = S := by unfold wrap64; omega
  obtain ⟨ZF, zf1, zf2, hmF⟩ := zerosT F (by omega)
  obtain ⟨ZS, zs1, zs2, hmS⟩ := zerosT S (by omega)
  obtain ⟨b1, H, E1, hw1, hc1, hb1, hl1, hH⟩ : ∃ b1 H E1, (rm R [] 0).write ZF = (E1, rm R b1 0) ∧ ((F ≤ R ∧ F = H ∧ 0 = E1) ∨ (¬ F ≤ R ∧ 0 = H ∧ 14 = E1)) ∧ Byts b1 ∧ b1.length = H ∧ H ≤ R := by
    by_cases hc : F ≤ R
    · exact ⟨ZF, F, 0, by rw [rm_write (by simp; omega)]; rfl, .inl ⟨hc, rfl, rfl⟩, zf2, zf1, hc⟩
    · exact ⟨[], 0, 14, by rw [rm_full (by simp) (by simp; omega)], .inr ⟨hc, rfl, rfl⟩, Byts.nil, rfl, by omega⟩
  obtain ⟨b2, A, E2, hw2, hc2, hb2, hl2, hA⟩ : ∃ b2 A E2, (rm R b1 0).write ZS = (E2, rm R b2 0) ∧ ((S ≤ R - H ∧ H + S = A ∧ 0 = E2) ∨ (¬ S ≤ R - H ∧ H = A ∧ 14 = E2)) ∧ Byts b2 ∧ b2.length = A ∧ A ≤ R := by
    by_cases hc : S ≤ R - H
    · exact ⟨b1 ++ ZS, H + S, 0, rm_write (by omega), .inl ⟨hc, rfl, rfl⟩, hb1.append zs2, by simp; omega, by omega⟩
    · exact ⟨b1, H, 14, rm_full (by omega) (by omega), .inr ⟨hc, rfl, rfl⟩, hb1, hl1, hH⟩
  have hw3 : (rm R b2 0).write [] = (0, rm R b2 0) := by rw [rm_write (by simp; omega), List.append_nil]
  obtain ⟨b4, D, L4, E4, hw4, hc4, hl4⟩ : ∃ b4 D L4 E4, (rm R b2 0).swap ZS = (E4, rm R b4 D) ∧ ((S ≤ R ∧ S = D ∧ S = L4 ∧ 0 = E4) ∨ (¬ S ≤ R ∧ 0 = D ∧ A = L4 ∧ 14 = E4)) ∧ b4.length = L4 := by
    by_cases hc : S ≤ R
    · exact ⟨ZS, S, S, 0, by rw [rm_swap (by omega), zs1], .inl ⟨hc, rfl, rfl, rfl⟩, zs1⟩
    · exact ⟨b2, 0, A, 14, rm_swapFull (by omega), .inr ⟨hc, rfl, rfl, rfl⟩, hl2⟩
  have o1 : (rm R ([] : List Int) 0).Ok 400000000 := rm_ok Byts.nil (by simp) (by omega) (by simp)
  have o2 : (rm R b1 0).Ok 400000000 := rm_ok hb1 (by omega) (by omega) (by omega)
  have o3 : (rm R b2 0).Ok 400000000 := rm_ok hb2 (by omega) (by omega) (by omega)
  have k1 := fun (W : World) (g : Nat) (P : Nat → Prop) (hW : TpAt W P g (rm R [] 0)) => tpWrite_made g _ P ZF F zf1 zf2 (by omega) W hW o1
  have k2 := fun (W : World) (g : Nat) (P : Nat → Prop) (hW : TpAt W P g (rm R b1 0)) => tpWrite_made g _ P ZS S zs1 zs2 (by omega) W hW o2
  have k3 := fun (W : World) (g : Nat) (P : Nat → Prop) (hW : TpAt W P g (rm R b2 0)) => tpWrite_none g _ P W hW o3
  have k4 := fun (W : World) (g : Nat) (P : Nat → Prop) (hW : TpAt W P g (rm R b2 0)) => tpSwap_made g _ P ZS S zs1 zs2 (by omega) W hW o3
  rw [hw1] at k1
  rw [hw2] at k2
  rw [hw3] at k3
  rw [hw4] at k4
  have k5 : ∀ (W : World) (g : Nat) (P : Nat → Prop), TpAt W P g (rm R b2 0) → Calls Try.prog 12 #[.pointer (some ⟨g, 0, none⟩)] W (NewB A b2 W) := fun W g P hW => by
    have := tpBytes_any g _ P W hW (show b2.length ≤ 1000000000 by omega)
    rw [show (rm R b2 0).b = b2 from rfl, hl2] at this
    exact this
  have k6 : ∀ (W : World) (g : Nat) (P : Nat → Prop), TpAt W P g (rm R b4 D) → Calls Try.prog 12 #[.pointer (some ⟨g, 0, none⟩)] W (NewB L4 b4 W) := fun W g P hW => by
    have := tpBytes_any g _ P W hW (show b4.length ≤ 1000000000 by omega)
    rw [show (rm R b4 D).b = b4 from rfl, hl4] at this
    exact this
  have k7 : ∀ (W : World) (g : Nat) (P : Nat → Prop), TpAt W P g (rm R b4 D) → Calls Try.prog 14 #[.pointer (some ⟨g, 0, none⟩)] W (fun e w' => e = .returned (.int .i64 (D : Int)) ∧ W = w') := fun W g P hW => tpHeld_any g _ P W hW
  have kn := tpNew_any (R : Int) w
  unfold NewTp at kn
  rw [rm_new R (by omega)] at kn
  have gg1 := fun W => good_any (F : Int) R E1 W (by omega)
  have gg2 := fun W => good_any (S : Int) ((R : Int) - H) E2 W (by omega)
  have gg4 := fun W => good_any (S : Int) R E4 W (by omega)
  have iw : IntKind.i64.wrap ((R : Int) - H) = (R : Int) - H := IntWalk.i64_in _ (by omega)
  have iw2 : wrap64 ((R : Int) - H) = (R : Int) - H := by unfold wrap64; omega
  have HRR := Lib.hid hH
  have ZF1 := Lib.hid zf1
  have ZS1 := Lib.hid zs1
  have HL1 := Lib.hid hl1
  have HL2 := Lib.hid hl2
  have HL4 := Lib.hid hl4
  clear hw1 hw2 hw3 hw4 hl1 hl2 hl4 zf1 zs1 hH hA
  rcases hc1 with ⟨a1, e1, e2⟩ | ⟨a1, e1, e2⟩
  · subst e1 e2
    rcases hc2 with ⟨a2, e1, e2⟩ | ⟨a2, e1, e2⟩
    · subst e1 e2
      have i2 : (S : Int) ≤ (R : Int) - F := by have := HRR.out; omega
      rcases hc4 with ⟨a4, e1, e2, e3⟩ | ⟨a4, _⟩
      · subst e1 e2 e3
        clear a2
        exfalso; omega
      · exact absurd (show S ≤ R by omega) a4
    · subst e1 e2
      have i2 : ¬ ((S : Int) ≤ (R : Int) - F) := by have := HRR.out; omega
      rcases hc4 with ⟨a4, e1, e2, e3⟩ | ⟨a4, e1, e2, e3⟩
      · subst e1 e2 e3
        clear a2
        exfalso; omega
      · subst e1 e2 e3
        clear a2
        exfalso; omega
  · subst e1 e2
    rcases hc2 with ⟨a2, e1, e2⟩ | ⟨a2, e1, e2⟩
    · subst e1 e2
      rcases hc4 with ⟨a4, e1, e2, e3⟩ | ⟨a4, _⟩
      · subst e1 e2 e3
        clear a2
        exfalso; omega
      · exact absurd (show S ≤ R by omega) a4
    · subst e1 e2
      rcases hc4 with ⟨a4, e1, e2, e3⟩ | ⟨a4, e1, e2, e3⟩
      · exact absurd (show S ≤ R - 0 by omega) a2
      · subst e1 e2 e3
        clear a2
        clear cF cR
        have hR := HQ1.out
        have hF := HQ2.out
        have hS := HQ3.out
        clear HQ1 HQ2 HQ3
        go_enter Try.func3, Try.ntmps3
        go_wp2_with (first
          | (go_at_call 8; (with_reducible refine kn.mono ?_); rintro e w1 ⟨g, rfl, hg0, h1, hB1⟩)
          | (go_at_call 9; (with_reducible refine (awake04_any _).mono ?_); rintro e w2 ⟨rfl, hb2⟩; have h2 := h1.below hb2; have hB2 : Below w.heap.size w w2 := below_two hB1 hb2)
          | (go_at_call 10; (with_reducible refine (k1 _ _ _ h2).mono ?_); rintro e w3 ⟨rfl, t3, hg3⟩; have hB3 : Below w.heap.size w w3 := hB2.grown hg3 hB2.size (fun k hk => by cases hk; exact hg0))
          | (go_at_call 10; (with_reducible refine (k2 _ _ _ t3).mono ?_); rintro e w4 ⟨rfl, t4, hg4⟩; have hB4 : Below w.heap.size w w4 := hB3.grown hg4 hB3.size (fun k hk => by cases hk; exact hg0))
          | (go_at_call 11; (with_reducible refine (gg1 _).mono ?_); rintro e w9 ⟨rfl, rfl⟩)
          | (go_at_call 11; (with_reducible refine (gg2 _).mono ?_); rintro e w9 ⟨rfl, rfl⟩)
          | (go_at_call 11; (with_reducible refine (gg4 _).mono ?_); rintro e w9 ⟨rfl, rfl⟩)
          | (go_at_call 12; (with_reducible refine (k5 _ _ _ t4).mono ?_); rintro e w5 ⟨V5, C5, rfl, ho5, hc5, hb5⟩; have h5 := t4.below hb5; have hB5 : Below w.heap.size w w5 := below_two hB4 hb5)
          | (go_at_call 10; (with_reducible refine (k3 _ _ _ h5).mono ?_); rintro e w6 ⟨rfl, t6, hg6⟩; have hB6 : Below w.heap.size w w6 := hB5.grown hg6 hB5.size (fun k hk => by cases hk; exact hg0))
          | (go_at_call 13; (with_reducible refine (k4 _ _ _ t6).mono ?_); rintro e w7 ⟨rfl, t7, hg7⟩; have hB7 : Below w.heap.size w w7 := hB6.grown hg7 hB6.size (fun k hk => by cases hk; exact hg0))
          | (go_at_call 12; (with_reducible refine (k6 _ _ _ t7).mono ?_); rintro e w8 ⟨V8, C8, rfl, ho8, hc8, hb8⟩; have h8 := t7.below hb8; have hB8 : Below w.heap.size w w8 := below_two hB7 hb8)
          | (go_at_call 14; (with_reducible refine (k7 _ _ _ h8).mono ?_); rintro e w9 ⟨rfl, rfl⟩))
        go_ret
        exact ⟨rfl, hB8⟩
theorem tapeRoom_walk (r f s : Int) (w : World) (hr0 : (Lit.int .i64 r).wf = true) (hf0 : (Lit.int .i64 f).wf = true) (hs0 : (Lit.int .i64 s).wf = true) :
    Calls Try.prog 3 #[.int .i64 r, .int .i64 f, .int .i64 s] w (fun e w' => e = .returned (.bool true) ∧ Below w.heap.size w w') := by
  obtain ⟨R, hR, R1⟩ := rem_mod' 300 r (by omega)
  obtain ⟨F, hF, F1⟩ := rem_mod' 300 f (by omega)
  obtain ⟨S, hS, S1⟩ := rem_mod' 300 s (by omega)
  by_cases cF : F ≤ R
  · by_cases cS : S ≤ R - F
    · exact tapeRoom_0 r f s w R F S hR R1 hF F1 hS S1 cF cS
    · by_cases cR : S ≤ R
      · exact tapeRoom_1 r f s w R F S hR R1 hF F1 hS S1 cF cS cR
      · exact tapeRoom_2 r f s w R F S hR R1 hF F1 hS S1 cF cS cR
  · by_cases cR : S ≤ R
    · exact tapeRoom_3 r f s w R F S hR R1 hF F1 hS S1 cF cR
    · exact tapeRoom_4 r f s w R F S hR R1 hF F1 hS S1 cF cR
end Go.Proofs.Ytdhegecnhglplaa
