/-
  trestlelaw04.awake; a nil tape.
-/
import Derived.Test.YtdhegecnhglplaaTp4
import Derived.Test.YtdhegecnhglplaaTp5
set_option linter.unusedVariables false
set_option linter.unusedSimpArgs false
namespace Go.Proofs.Ytdhegecnhglplaa
open Go.RowKit

def tpAbc (h : Nat) : Tp := ⟨[97, 98, 99], h, 9, 0, 0, false⟩
theorem ok_abc (h : Nat) (hh : h ≤ 3) : (tpAbc h).Ok 400000000 := ⟨bytsOf _ rfl, hh, by simp [tpAbc], by simp [tpAbc], by simp [tpAbc], by simp [tpAbc], by simp [tpAbc], by simp [tpAbc]⟩
theorem ok_new (r : Int) : (Tp.new.setRoom r).Ok 400000000 := ⟨Byts.nil, Nat.le_refl _, by simp [Tp.setRoom]; omega, by simp [Tp.setRoom]; omega, Int.le_refl _, by simp [Tp.setRoom, Tp.new], Nat.zero_le _, Nat.zero_le _⟩
theorem abc_str : ((strOfNums [97, 98, 99]).toList == ([97, 98, 99] : List UInt8)) = true := by rw [ByteArray.toList_eq, strOfNums_data]; rfl
/-- the world in which awake writes. -/
def abcW (w1 : World) : World := ((w1.alloc (.cells #[.int .u8 97, .int .u8 98] 5 (2, 3))).alloc (.cells #[.int .u8 99] 5 (1, 2))).alloc (.cells #[.slice (some ⟨w1.heap.size, 0, none⟩) 2 2, .slice (some ⟨w1.heap.size + 1, 0, none⟩) 1 1] 28)
theorem abcWrite (w1 : World) (g : Nat) (P : Nat → Prop) (h1 : TpAt w1 P g (Tp.new.setRoom 9)) : Calls Try.prog 10 #[.pointer (some ⟨g, 0, none⟩), .slice (some ⟨w1.heap.size + 2, 0, none⟩) 2 2] (abcW w1) (fun e w' => e = .returned (.int .i64 0) ∧ TpStep P g (tpAbc 0) w1 w') := by
  have hr1 : RB (abcW w1) (some ⟨w1.heap.size, 0, none⟩) 2 [97, 98] := ((RB.lit_new w1 w1.heap.size rfl [97, 98] 2 (2, 3) rfl (bytsOf _ rfl)).alloc (.cells #[.int .u8 99] 5 (1, 2))).alloc _
  have hr2 : RB (abcW w1) (some ⟨w1.heap.size + 1, 0, none⟩) 1 [99] := (RB.lit_new (w1.alloc (.cells #[.int .u8 97, .int .u8 98] 5 (2, 3))) (w1.heap.size + 1) (by simp) [99] 1 (1, 2) rfl (bytsOf _ rfl)).alloc _
  have hb : Blk (abcW w1) (w1.heap.size + 2) 28 #[.slice (some ⟨w1.heap.size, 0, none⟩) 2 2, .slice (some ⟨w1.heap.size + 1, 0, none⟩) 1 1] := by
    have := Blk.new ((w1.alloc (.cells #[.int .u8 97, .int .u8 98] 5 (2, 3))).alloc (.cells #[.int .u8 99] 5 (1, 2))) 28 #[.slice (some ⟨w1.heap.size, 0, none⟩) 2 2, .slice (some ⟨w1.heap.size + 1, 0, none⟩) 1 1]
    rw [World.size_alloc, World.size_alloc] at this
    exact this
  have hbl : Below w1.heap.size w1 (abcW w1) := (((Below.refl _ _).alloc (Nat.le_refl _) _).alloc (by simp) _).alloc (by simp; omega) _
  have t1 := TpStep.below h1 hbl
  have hw := tpWrite_any g _ _ (some ⟨w1.heap.size + 2, 0, none⟩) 2 2 [[97, 98], [99]] (abcW w1) t1.1 (ok_new 9) (RBs.two' hb hr1 (Nat.le_refl _) hr2 (Nat.le_refl _)) (Nat.le_refl _) (by omega) (by decide)
  have e : (Tp.new.setRoom 9).write [[97, 98], [99]].flatten = (0, tpAbc 0) := by rfl
  rw [e] at hw
  exact hw.mono fun e w' ⟨he, h2⟩ => ⟨he, t1.trans h2⟩
set_option maxHeartbeats 2000000 in
theorem awake04_any (w : World) : Calls Try.prog 9 #[] w (fun e w' => e = .returned (.bool true) ∧ Below w.heap.size w w') := by
  have hs := abc_str
  have hH : (tpAbc 0).hold = (0, tpAbc 3) := by rfl
  have hho := fun (W : World) (g : Nat) (P : Nat → Prop) (hW : TpAt W P g (tpAbc 0)) => tpHold_any g (tpAbc 0) P W hW (ok_abc 0 (by omega))
  rw [hH] at hho
  clear hH
  have hby : ∀ (W : World) (g : Nat) (P : Nat → Prop), TpAt W P g (tpAbc 0) → Calls Try.prog 12 #[.pointer (some ⟨g, 0, none⟩)] W (NewB 3 [97, 98, 99] W) := fun W g P hW => tpBytes_any g (tpAbc 0) P W hW (by simp [tpAbc])
  have hhl : ∀ (h : Nat) (W : World) (g : Nat) (P : Nat → Prop), TpAt W P g (tpAbc h) → Calls Try.prog 14 #[.pointer (some ⟨g, 0, none⟩)] W (fun e w' => e = .returned (.int .i64 (h : Int)) ∧ W = w') := fun h W g P hW => tpHeld_any g (tpAbc h) P W hW
  have hhl0 := hhl 0
  have hhl3 := hhl 3
  rw [show ((0 : Nat) : Int) = 0 from rfl] at hhl0
  rw [show ((3 : Nat) : Int) = 3 from rfl] at hhl3
  clear hhl
  have hwr := abcWrite
  unfold abcW at hwr
  go_enter Try.func9, Try.ntmps9
  go_wp2_with (first
    | (go_at_call 8; (with_reducible refine (tpNew_any 9 _).mono ?_); rintro e w1 ⟨g, rfl, hg0, h1, hb1⟩; have hz1 := hb1.size)
    | (go_at_call 10; (with_reducible refine (hwr _ _ _ h1).mono ?_); rintro e w2 ⟨rfl, t2, hg2⟩)
    | (go_at_call 12; (with_reducible refine (hby _ _ _ t2).mono ?_); rintro e w3 ⟨V3, C3, rfl, ho3, hc3, hb3⟩; have ca := fun c => run_string_RB (P := Try.prog) (OB.reads ho3) 28 5 9 c Try.underlying28 Try.underlying5 Try.underlying9; have h3 := t2.below hb3; have hhe := hhl0 w3 g _ h3)
    | (go_at_call 14; (with_reducible refine hhe.mono ?_); rintro e w9 ⟨rfl, rfl⟩)
    | (go_at_call 16; (with_reducible refine (hho _ _ _ h3).mono ?_); rintro e w4 ⟨rfl, t4, hg4⟩; have hhe4 := hhl3 w4 g _ t4)
    | (go_at_call 14; (with_reducible refine hhe4.mono ?_); rintro e w9 ⟨rfl, rfl⟩))
  go_ret
  exact ⟨rfl, ((hb1.grown hg2 hb1.size (fun k hk => by cases hk; exact hg0)).trans (hb3.mono (Nat.le_trans hz1 hg2.size))).grown hg4 (Nat.le_trans hz1 (Nat.le_trans hg2.size hb3.size)) (fun k hk => by cases hk; exact hg0)⟩
theorem tpNil_room (n : Int) (w : World) : Calls Try.prog 27 #[.pointer none, .int .i64 n] w (fun e w' => e = .returned (.tuple #[]) ∧ w = w') := by
  go_enter Try.func27, Try.ntmps27
  go_wp2
  go_end0
  exact ⟨rfl, rfl⟩
theorem tpNil_fuse (n : Int) (w : World) : Calls Try.prog 15 #[.pointer none, .int .i64 n] w (fun e w' => e = .returned (.tuple #[]) ∧ w = w') := by
  go_enter Try.func15, Try.ntmps15
  go_wp2
  go_end0
  exact ⟨rfl, rfl⟩
theorem tpNil_fall (n : Int) (w : World) : Calls Try.prog 18 #[.pointer none, .int .i64 n] w (fun e w' => e = .returned (.tuple #[]) ∧ w = w') := by
  go_enter Try.func18, Try.ntmps18
  go_wp2
  ((try simp only [Exit.inBlock, Exit.then]); refine bodyPost_ret (results_none rfl _ _ _) rfl ?_)
  exact ⟨rfl, rfl⟩
theorem tpNil_rise (w : World) : Calls Try.prog 19 #[.pointer none] w (fun e w' => e = .returned (.tuple #[]) ∧ w = w') := by
  go_enter Try.func19, Try.ntmps19
  go_wp2
  go_end0
  exact ⟨rfl, rfl⟩
theorem tpNil_do (T : TypeId) (V : Value) (w : World) : Calls Try.prog 29 #[.pointer none, .iface T V] w (fun e w' => e = .returned (.int .i64 2) ∧ w = w') := by
  go_enter Try.func29, Try.ntmps29
  go_wp2
  go_ret
  exact ⟨rfl, rfl⟩
theorem tpNil_write (A : Option Addr) (k c : Nat) (ps : List (List Int)) (w : World) (hp : RBs w A k ps) (hkc : k ≤ c) (hk : k ≤ 1000000) (hl : ps.flatten.length ≤ 400000000) : Calls Try.prog 10 #[.pointer none, .slice A k c] w (RefPost 2 w) := by
  have hcat := concat_any A k c ps w hp hkc (by omega) (by omega)
  go_enter Try.func10, Try.ntmps10
  go_wp2_with (first
    | (go_at_call 30; (with_reducible refine hcat.mono ?_); rintro e w1 ⟨v, n, rfl, ho, hb1⟩; obtain ⟨V, C0, rfl, hc0⟩ := ho.slice)
    | (go_at_call 29; (with_reducible refine (tpNil_do _ _ _).mono ?_); rintro e w2 ⟨rfl, rfl⟩))
  go_ret
  exact ⟨rfl, hb1⟩
theorem tpNil_hold (w : World) : Calls Try.prog 16 #[.pointer none] w (fun e w' => e = .returned (.int .i64 2) ∧ w = w') := by
  go_enter Try.func16, Try.ntmps16
  go_wp2_with (go_at_call 29; (with_reducible refine (tpNil_do _ _ _).mono ?_); rintro e w2 ⟨rfl, rfl⟩)
  go_ret
  exact ⟨rfl, rfl⟩
theorem tpNil_cut (n : Int) (w : World) : Calls Try.prog 28 #[.pointer none, .int .i64 n] w (fun e w' => e = .returned (.int .i64 2) ∧ w = w') := by
  go_enter Try.func28, Try.ntmps28
  go_wp2_with (go_at_call 29; (with_reducible refine (tpNil_do _ _ _).mono ?_); rintro e w2 ⟨rfl, rfl⟩)
  go_ret
  exact ⟨rfl, rfl⟩
theorem tpNil_swap (A : Option Addr) (n c : Nat) (w : World) : Calls Try.prog 13 #[.pointer none, .slice A n c] w (fun e w' => e = .returned (.int .i64 2) ∧ w = w') := by
  go_enter Try.func13, Try.ntmps13
  go_wp2_with (go_at_call 29; (with_reducible refine (tpNil_do _ _ _).mono ?_); rintro e w2 ⟨rfl, rfl⟩)
  go_ret
  exact ⟨rfl, rfl⟩
theorem tpNil_bytes (w : World) : Calls Try.prog 12 #[.pointer none] w (fun e w' => e = .returned (.slice none 0 0) ∧ w = w') := by
  go_enter Try.func12, Try.ntmps12
  go_wp2
  go_ret
  exact ⟨rfl, rfl⟩
theorem tpNil_held (w : World) : Calls Try.prog 14 #[.pointer none] w (fun e w' => e = .returned (.int .i64 0) ∧ w = w') := by
  go_enter Try.func14, Try.ntmps14
  go_wp2
  go_ret
  exact ⟨rfl, rfl⟩
theorem tpNil_down (w : World) : Calls Try.prog 17 #[.pointer none] w (fun e w' => e = .returned (.bool true) ∧ w = w') := by
  go_enter Try.func17, Try.ntmps17
  go_wp2
  go_ret
  exact ⟨rfl, rfl⟩
end Go.Proofs.Ytdhegecnhglplaa
