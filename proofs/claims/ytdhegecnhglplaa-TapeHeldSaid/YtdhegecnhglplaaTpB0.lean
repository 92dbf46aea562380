/-
  A tape with room, on states: what the laws' own steps come to.
-/
import Derived.Test.YtdhegecnhglplaaTpA
set_option linter.unusedVariables false
set_option linter.unusedSimpArgs false
namespace Go.Proofs.Ytdhegecnhglplaa
open Go.RowKit

def rm (R : Nat) (b : List Int) (h : Nat) : Tp := ⟨b, h, R, 0, 0, false⟩
theorem rm_new (R : Nat) (hR : R ≤ 16777216) : Tp.new.setRoom R = rm R [] 0 := by
  unfold Tp.setRoom rm Tp.new
  rw [show min (max (R : Int) 0) 16777216 = R from by omega]
theorem rm_write {R h : Nat} {b Z : List Int} (hf : Z.length + b.length ≤ R) : (rm R b h).write Z = (0, rm R (b ++ Z) h) := by
  unfold Tp.write Tp.deed rm
  simp only []
  rw [if_neg (by simp), if_neg (by omega)]
  simp [Tp.wr, Tp.burn]
  omega
theorem rm_full {R h : Nat} {b Z : List Int} (hb : b.length ≤ R) (hf : ¬ Z.length + b.length ≤ R) : (rm R b h).write Z = (14, rm R b h) := by
  unfold Tp.write Tp.deed rm
  simp only []
  rw [if_neg (by simp), if_pos (by omega)]
  simp
  omega
theorem rm_swap {R h : Nat} {b Z : List Int} (hf : Z.length ≤ R) : (rm R b h).swap Z = (0, rm R Z Z.length) := by
  unfold Tp.swap Tp.deed rm
  simp only []
  rw [if_neg (by simp), if_neg (by omega)]
  simp [Tp.sw, Tp.burn]
  omega
theorem rm_swapFull {R h : Nat} {b Z : List Int} (hf : ¬ Z.length ≤ R) : (rm R b h).swap Z = (14, rm R b h) := by
  unfold Tp.swap Tp.deed rm
  simp only []
  rw [if_neg (by simp), if_pos (by omega)]
  simp
  omega
theorem rm_ok {R h : Nat} {b : List Int} (hb : Byts b) (hh : h ≤ b.length) (hR : R ≤ 16777216) (hl : b.length ≤ 400000000) : (rm R b h).Ok 400000000 :=
  ⟨hb, hh, by simp [rm], by simp [rm]; omega, by simp [rm], by simp [rm], hl, by simp [rm]⟩
theorem good_any (n l e : Int) (w : World) (he : (n ≤ l ∧ e = 0) ∨ (¬ n ≤ l ∧ e = 14)) : Calls Try.prog 11 #[.int .i64 n, .int .i64 l, .int .i64 e] w (fun e w' => e = .returned (.bool true) ∧ w = w') := by
  rcases he with ⟨h1, rfl⟩ | ⟨h1, rfl⟩
  · go_enter Try.func11, Try.ntmps11
    go_wp2
    go_ret
    exact ⟨by simp [h1], rfl⟩
  · go_enter Try.func11, Try.ntmps11
    go_wp2
    go_ret
    exact ⟨by simp [h1], rfl⟩
theorem wrapT_range (n : Int) : 0 ≤ IntKind.u64.wrap n ∧ IntKind.u64.wrap n < 18446744073709551616 := by
  simp [IntKind.wrap, IntKind.signed, IntKind.bits]
  omega
theorem rem_mod' (n : Nat) (x : Int) (h0 : 0 < n) : ∃ m : Nat, (IntKind.u64.wrap x).tmod (n : Int) = (m : Int) ∧ m < n := by
  have h1 := (wrapT_range x).1
  rw [Int.tmod_eq_emod_of_nonneg h1]
  have h2 := Int.emod_nonneg (IntKind.u64.wrap x) (show (n : Int) ≠ 0 by omega)
  have h3 := Int.emod_lt_of_pos (IntKind.u64.wrap x) (show 0 < (n : Int) by omega)
  exact ⟨(IntKind.u64.wrap x % (n : Int)).toNat, by omega, by omega⟩
theorem zerosT (N : Nat) (hN : N ≤ 1099511627776) : ∃ Z : List Int, Z.length = N ∧ Byts Z ∧ ∀ W : World, (Instr.makeSlice 28 (.int .i64 (N : Int)) (.int .i64 (N : Int))).run Try.prog W = .ok (.slice (some ⟨W.heap.size, 0, none⟩) N N) (W.alloc (.cells (bv Z).toArray 5)) :=
  ⟨List.replicate N 0, by simp, Byts.rep (by omega) (by omega) N, fun W => make_bytes W .i64 .i64 N N (Nat.le_refl _) hN⟩
theorem tpWrite_made (g : Nat) (s : Tp) (P : Nat → Prop) (Z : List Int) (N : Nat) (hl : Z.length = N) (hb : Byts Z) (hN : N ≤ 400000000) (w0 : World) (h : TpAt w0 P g s) (hok : s.Ok 400000000) :
    Calls Try.prog 10 #[.pointer (some ⟨g, 0, none⟩), .slice (some ⟨w0.heap.size + 1, 0, none⟩) 1 1] ((w0.alloc (.cells (bv Z).toArray 5)).alloc (.cells #[.slice (some ⟨w0.heap.size, 0, none⟩) N N] 28)) (fun e w' => e = .returned (.int .i64 (s.write Z).1) ∧ TpStep P g (s.write Z).2 w0 w') := by
  have hr : RB (w0.alloc (.cells (bv Z).toArray 5)) (some ⟨w0.heap.size, 0, none⟩) N Z := RB.lit_new w0 _ rfl Z N (0, 0) hl hb
  have hrs := RBs.oneNew hr (Nat.le_refl N)
  rw [World.size_alloc] at hrs
  have hbl : Below w0.heap.size w0 ((w0.alloc (.cells (bv Z).toArray 5)).alloc (.cells #[.slice (some ⟨w0.heap.size, 0, none⟩) N N] 28)) := ((Below.refl _ _).alloc (Nat.le_refl _) _).alloc (by simp) _
  have t1 := TpStep.below h hbl
  have hf : [Z].flatten = Z := by simp
  have hw := tpWrite_any g s _ _ 1 1 [Z] _ t1.1 hok hrs (Nat.le_refl _) (by omega) (by rw [hf, hl]; exact hN)
  rw [hf] at hw
  exact hw.mono fun e w' ⟨he, h2⟩ => ⟨he, t1.trans h2⟩
theorem tpSwap_made (g : Nat) (s : Tp) (P : Nat → Prop) (Z : List Int) (N : Nat) (hl : Z.length = N) (hb : Byts Z) (hN : N ≤ 400000000) (w0 : World) (h : TpAt w0 P g s) (hok : s.Ok 400000000) :
    Calls Try.prog 13 #[.pointer (some ⟨g, 0, none⟩), .slice (some ⟨w0.heap.size, 0, none⟩) N N] (w0.alloc (.cells (bv Z).toArray 5)) (fun e w' => e = .returned (.int .i64 (s.swap Z).1) ∧ TpStep P g (s.swap Z).2 w0 w') := by
  have hr : RB (w0.alloc (.cells (bv Z).toArray 5)) (some ⟨w0.heap.size, 0, none⟩) N Z := RB.lit_new w0 _ rfl Z N (0, 0) hl hb
  have t1 := TpStep.below h ((Below.refl w0.heap.size w0).alloc (Nat.le_refl _) (.cells (bv Z).toArray 5))
  have hw := tpSwap_any g s _ _ N N Z _ t1.1 hok hr (Nat.le_refl _) hN
  exact hw.mono fun e w' ⟨he, h2⟩ => ⟨he, t1.trans h2⟩
theorem tpWrite_none (g : Nat) (s : Tp) (P : Nat → Prop) (w0 : World) (h : TpAt w0 P g s) (hok : s.Ok 400000000) :
    Calls Try.prog 10 #[.pointer (some ⟨g, 0, none⟩), .slice none 0 0] w0 (fun e w' => e = .returned (.int .i64 (s.write []).1) ∧ TpStep P g (s.write []).2 w0 w') :=
  (tpWrite_any g s P none 0 0 [] w0 h hok ⟨rfl, 0, 0, fun h => absurd h (by omega), fun i hi => absurd hi (by omega)⟩ (Nat.le_refl _) (by omega) (by simp)).mono fun e w' ⟨he, h2⟩ => ⟨he, h2⟩

end Go.Proofs.Ytdhegecnhglplaa
