/-
  TapeFuse, the walk.
-/
import Derived.Test.YtdhegecnhglplaaTpC
set_option linter.unusedVariables false
set_option linter.unusedSimpArgs false
namespace Go.Proofs.Ytdhegecnhglplaa
open Go.RowKit

theorem kWr (i : Nat) (hi : i ≤ 100) (s s' : Tp) (E : Int) (hs : s.write [(i : Int)] = (E, s')) (hok : s.Ok 400000000) (g : Nat) (W : World) (P : Nat → Prop) (h : TpAt W P g s) :
    Calls Try.prog 10 #[.pointer (some ⟨g, 0, none⟩), .slice (some ⟨W.heap.size + 1, 0, none⟩) 1 1] ((W.alloc (.cells #[.int .u8 (i : Int)] 5)).alloc (.cells #[.slice (some ⟨W.heap.size, 0, none⟩) 1 1] 28)) (fun e w' => e = .returned (.int .i64 E) ∧ TpStep P g s' W w') := by
  have hw := tpWrite_made g s P [(i : Int)] 1 rfl (Byts.one (by omega) (by omega)) (by omega) W h hok
  rw [hs] at hw
  exact hw
theorem kHo (s s' : Tp) (E : Int) (hs : s.hold = (E, s')) (hok : s.Ok 400000000) (g : Nat) (W : World) (P : Nat → Prop) (h : TpAt W P g s) :
    Calls Try.prog 16 #[.pointer (some ⟨g, 0, none⟩)] W (fun e w' => e = .returned (.int .i64 E) ∧ TpStep P g s' W w') := by
  have hw := tpHold_any g s P W h hok
  rw [hs] at hw
  exact hw
/-- all that is old stays but for the tape; the tape's place. -/
def FuW (w wr : World) (g : Nat) (s : Tp) : Prop := (∃ P, TpAt wr P g s) ∧ Below w.heap.size w wr
theorem FuW.step {w wr w' : World} {g : Nat} {s' : Tp} {P : Nat → Prop} (hb : Below w.heap.size w wr) (hg : w.heap.size ≤ g) (h : TpStep P g s' wr w') : FuW w w' g s' := ⟨⟨_, h.1⟩, hb.grown h.2 hb.size (fun k hk => by cases hk; exact hg)⟩

set_option maxRecDepth 100000 in
set_option maxHeartbeats 4000000 in
theorem tapeFuse_walk (n a k : Int) (w : World) (hn0 : (Lit.int .i64 n).wf = true) (ha0 : (Lit.int .i64 a).wf = true) (hk0 : (Lit.int .i64 k).wf = true) :
    Calls Try.prog 4 #[.int .i64 n, .int .i64 a, .int .i64 k] w (fun e w' => e = .returned (.bool true) ∧ Below w.heap.size w w') := by
  obtain ⟨q, hq, q1⟩ := rem_mod' 12 n (by omega)
  obtain ⟨p, hp, p1⟩ := rem_mod' 16 a (by omega)
  have HQ := Lib.hid (show (IntKind.u64.wrap n).tmod 12 = (q : Int) from hq)
  have HP := Lib.hid (show (IntKind.u64.wrap a).tmod 16 = (p : Int) from hp)
  clear hq hp hn0 ha0 hk0
  have hwq : wrap64 (q : Int) = q := by unfold wrap64; omega
  have hwp : wrap64 (p : Int) = p := by unfold wrap64; omega
  have kn := tpNew_any 1000 w
  unfold NewTp at kn
  have kf := fun (W : World) (g : Nat) (P : Nat → Prop) (hW : TpAt W P g (Tp.new.setRoom 1000)) => tpFuse_any g _ P (1 + (p : Int)) W hW
  have e0 := fu_start (1 + p) (by omega)
  rw [show (((1 + p : Nat) : Int)) = 1 + (p : Int) from by omega] at e0
  rw [e0] at kf
  clear e0
  have hq := HQ.out
  have hp := HP.out
  go_enter Try.func4, Try.ntmps4
  go_wp2_with (first
    | (go_at_call 8; (with_reducible refine kn.mono ?_); rintro e w1 ⟨g, rfl, hg0, h1, hB1⟩)
    | (go_at_call 9; (with_reducible refine (awake04_any _).mono ?_); rintro e w2 ⟨rfl, hb2⟩; have h2 := h1.below hb2; have hB2 : Below w.heap.size w w2 := below_two hB1 hb2)
    | (go_at_call 15; (with_reducible refine (kf _ _ _ h2).mono ?_); rintro e w3 ⟨rfl, t3, hg3⟩; have hB3 : Below w.heap.size w w3 := hB2.grown hg3 hB2.size (fun k hk => by cases hk; exact hg0)))
  have hst : FuW w w3 g (fuUp (1 + p) 0) := ⟨⟨_, t3⟩, hB3⟩
  clear hq hp kf kn hB1 hB2 hB3 t3 h2 h1 hb2 hg3
  go_loopw [8, 9] (fun dn i wr => ∃ j d : Nat, j ≤ 1 + q ∧ i = .int .i64 j ∧ dn = .int .i64 d ∧ ((2 * j < 1 + p ∧ d = j ∧ FuW w wr g (fuUp (1 + p) j)) ∨ (1 + p ≤ 2 * j ∧ d = p / 2 ∧ FuW w wr g (fuDown (p / 2))))) (fun _ i _ => 13 - (intOf i).toNat)
  case atStart => exact ⟨0, 0, by omega, rfl, rfl, .inl ⟨by omega, rfl, hst⟩⟩
  case round =>
    obtain ⟨j, d, hj, rfl, rfl, hcase⟩ := hrel
    by_cases h1 : j < 1 + q
    · have i1 : (j : Int) < 1 + q := by omega
      have i2 : (j : Int) < 256 := by omega
      have m1 : (j : Int) % 256 = j := by omega
      rcases hcase with ⟨c1, c2, ⟨P, ht⟩, hB⟩ | ⟨c1, c2, ⟨P, ht⟩, hB⟩
      · by_cases hA1 : 1 + p = 2 * j + 1
        · have kw := kWr j (by omega) _ _ _ (fu_w1 hA1 (by omega)) (okUp (by omega) (by omega) (by omega)) g wr P ht
          have kd := fun (W : World) (P : Nat → Prop) (hW : TpAt W P g (fuDown j)) => tpDown_any g _ P W hW
          have hdp : j = p / 2 := by omega
          have hfin : 1 + p ≤ 2 * (j + 1) := by omega
          have HD := Lib.hid hdp
          have HC := Lib.hid c2
          clear hdp hA1 c1 c2
          go_wp2_with (first
            | (go_at_call 10; (with_reducible refine kw.mono ?_); rintro e w5 ⟨rfl, t5⟩; have kd5 := kd _ _ t5.1)
            | (go_at_call 17; (with_reducible refine kd5.mono ?_); rintro e w9 ⟨rfl, rfl⟩))
          go_roundw
          case rel => exact ⟨j + 1, d, by omega, by go_num, rfl, .inr ⟨hfin, by rw [HC.out]; exact HD.out, by rw [← HD.out]; exact FuW.step hB hg0 t5⟩⟩
          case measure => simp [intOf]; omega
        · by_cases hA2 : 1 + p = 2 * j + 2
          · have kw := kWr j (by omega) _ _ _ (fu_w2 (T := 1 + p) (i := j) (by omega) (by omega)) (okUp (by omega) (by omega) (by omega)) g wr P ht
            have kh := fun (W : World) (P : Nat → Prop) (hW : TpAt W P g (fuMid (1 + p) j)) => kHo _ _ _ (fu_h1 hA2) (okMid (by omega) (by omega) (by omega)) g W P hW
            have kd := fun (W : World) (P : Nat → Prop) (hW : TpAt W P g (fuDown j)) => tpDown_any g _ P W hW
            have hdp : j = p / 2 := by omega
            have hfin : 1 + p ≤ 2 * (j + 1) := by omega
            have HD := Lib.hid hdp
            have HC := Lib.hid c2
            clear hdp hA1 hA2 c1 c2
            go_wp2_with (first
              | (go_at_call 10; (with_reducible refine kw.mono ?_); rintro e w5 ⟨rfl, t5⟩; have kh5 := kh _ _ t5.1)
              | (go_at_call 16; (with_reducible refine kh5.mono ?_); rintro e w6 ⟨rfl, t6⟩; have t56 := t5.trans t6; have kd6 := kd _ _ t6.1)
              | (go_at_call 17; (with_reducible refine kd6.mono ?_); rintro e w9 ⟨rfl, rfl⟩))
            go_roundw
            case rel => exact ⟨j + 1, d, by omega, by go_num, rfl, .inr ⟨hfin, by rw [HC.out]; exact HD.out, by rw [← HD.out]; exact FuW.step hB hg0 t56⟩⟩
            case measure => simp [intOf]; omega
          · have kw := kWr j (by omega) _ _ _ (fu_w2 (T := 1 + p) (i := j) (by omega) (by omega)) (okUp (by omega) (by omega) (by omega)) g wr P ht
            have kh := fun (W : World) (P : Nat → Prop) (hW : TpAt W P g (fuMid (1 + p) j)) => kHo _ _ _ (fu_h2 (T := 1 + p) (i := j) (by omega)) (okMid (by omega) (by omega) (by omega)) g W P hW
            have hfin : 2 * (j + 1) < 1 + p := by omega
            have hd2 : (d : Int) < 100 := by omega
            have HC := Lib.hid c2
            clear hA1 hA2 c1 c2
            go_wp2_with (first
              | (go_at_call 10; (with_reducible refine kw.mono ?_); rintro e w5 ⟨rfl, t5⟩; have kh5 := kh _ _ t5.1)
              | (go_at_call 16; (with_reducible refine kh5.mono ?_); rintro e w6 ⟨rfl, t6⟩; have t56 := t5.trans t6))
            go_roundw
            case rel => exact ⟨j + 1, d + 1, by omega, by go_num, by go_num, .inl ⟨hfin, by rw [HC.out], FuW.step hB hg0 t56⟩⟩
            case measure => simp [intOf]; omega
      · have kw := kWr j (by omega) _ _ _ (fu_wd (d := p / 2) [(j : Int)]) (okDown (by omega)) g wr P ht
        have kd := fun (W : World) (P : Nat → Prop) (hW : TpAt W P g (fuDown (p / 2))) => tpDown_any g _ P W hW
        have hfin : 1 + p ≤ 2 * (j + 1) := by omega
        have HC := Lib.hid c2
        clear c1 c2
        go_wp2_with (first
          | (go_at_call 10; (with_reducible refine kw.mono ?_); rintro e w5 ⟨rfl, t5⟩; have kd5 := kd _ _ t5.1)
          | (go_at_call 17; (with_reducible refine kd5.mono ?_); rintro e w9 ⟨rfl, rfl⟩))
        go_roundw
        case rel => exact ⟨j + 1, d, by omega, by go_num, rfl, .inr ⟨hfin, HC.out, FuW.step hB hg0 t5⟩⟩
        case measure => simp [intOf]; omega
    · obtain rfl : j = 1 + q := by omega
      rcases hcase with ⟨c1, c2, ⟨P, ht⟩, hB⟩ | ⟨c1, c2, ⟨P, ht⟩, hB⟩
      · obtain rfl : d = 1 + q := c2
        obtain ⟨f1, f2, f3⟩ := fall_rise (fuUp (1 + p) (1 + q)) k (by simp [fuUp, bl_len])
        have kF := fun (W : World) (P : Nat → Prop) (hW : TpAt W P g (fuUp (1 + p) (1 + q))) => tpFall_any g _ P k W hW (by simp [fuUp, bl_len]) (by simp [fuUp, bl_len]; omega) (by simp [fuUp])
        have kR := fun (W : World) (P : Nat → Prop) (hW : TpAt W P g ((fuUp (1 + p) (1 + q)).fall k)) => tpRise_any g _ P W hW (fall_held _ k (by simp [fuUp, bl_len]))
        have kB := fun (W : World) (P : Nat → Prop) (hW : TpAt W P g (((fuUp (1 + p) (1 + q)).fall k).rise)) => tpBytes_any g _ P W hW (by rw [f1]; refine Nat.le_trans (Tp.stay_le (k := k) (by simp [fuUp, bl_len])) ?_; simp [fuUp, bl_len]; omega)
        have kH := fun (W : World) (P : Nat → Prop) (hW : TpAt W P g (((fuUp (1 + p) (1 + q)).fall k).rise)) => tpHeld_any g _ P W hW
        have kD := fun (W : World) (P : Nat → Prop) (hW : TpAt W P g (((fuUp (1 + p) (1 + q)).fall k).rise)) => tpDown_any g _ P W hW
        have kD0 := fun (W : World) (P : Nat → Prop) (hW : TpAt W P g (fuUp (1 + p) (1 + q))) => tpDown_any g _ P W hW
        have kH0 := fun (W : World) (P : Nat → Prop) (hW : TpAt W P g (fuUp (1 + p) (1 + q))) => tpHeld_any g _ P W hW
        rw [f1] at kB
        rw [f2] at kH
        rw [f3] at kD
        rw [show (fuUp (1 + p) (1 + q)).down = false from rfl] at kD0
        rw [show (fuUp (1 + p) (1 + q)).held = 1 + q from rfl] at kH0 kB kH
        have hst : (fuUp (1 + p) (1 + q)).stay k = 0 := by
          have e1 : (fuUp (1 + p) (1 + q)).b.length = 1 + q := bl_len _
          have e2 : (fuUp (1 + p) (1 + q)).held = 1 + q := rfl
          unfold Tp.stay
          rw [e1, e2]
          omega
        rw [hst] at kB kH
        clear hst
        have m0 : ((1 + q : Nat) : Int) = 1 + (q : Int) := by omega
        have m1 : ((p : Int) / 2 < 1 + (q : Int)) = False := by simp; omega
        have m2 : ¬ (1 + (p : Int) ≤ 2 * (1 + (q : Int))) := by omega
        have m3 : decide (1 + (p : Int) ≤ 2 * (1 + (q : Int))) = false := decide_eq_false m2
        have m4 : (0 : Int) ≤ p := by omega
        have m5 : (0 : Int) ≤ q := by omega
        clear c1
        generalize ((fuUp (1 + p) (1 + q)).fall k).rise = s9 at *
        generalize (fuUp (1 + p) (1 + q)).fall k = s8 at *
        clear f1 f2 f3
        go_wp2_with (first
          | (go_at_call 17; (with_reducible refine (kD0 _ _ ht).mono ?_); rintro e w9 ⟨rfl, rfl⟩)
          | (go_at_call 14; (with_reducible refine (kH0 _ _ ht).mono ?_); rintro e w9 ⟨rfl, rfl⟩)
          | (go_at_call 18; (with_reducible refine (kF _ _ ht).mono ?_); rintro e w4 ⟨rfl, t4, hg4⟩; have hB4 : Below w.heap.size w w4 := hB.grown hg4 hB.size (fun k hk => by cases hk; exact hg0))
          | (go_at_call 19; (with_reducible refine (kR _ _ t4).mono ?_); rintro e w5 ⟨rfl, t5, hg5⟩; have hB5 : Below w.heap.size w w5 := hB4.grown hg5 hB4.size (fun k hk => by cases hk; exact hg0))
          | (go_at_call 12; (with_reducible refine (kB _ _ t5).mono ?_); rintro e w6 ⟨V6, C6, rfl, ho6, hc6, hb6⟩; have t6 := t5.below hb6; have hB6 : Below w.heap.size w w6 := below_two hB5 hb6)
          | (go_at_call 14; (with_reducible refine (kH _ _ t6).mono ?_); rintro e w9 ⟨rfl, rfl⟩)
          | (go_at_call 17; (with_reducible refine (kD _ _ t6).mono ?_); rintro e w9 ⟨rfl, rfl⟩))
        go_ret
        exact ⟨rfl, hB6⟩
      · obtain rfl : d = p / 2 := c2
        by_cases hk : 0 < k
        · obtain ⟨f1, f2, f3⟩ := fall_rise (fuDown (p / 2)) k (by simp [fuDown, bl_len])
          have kF := fun (W : World) (P : Nat → Prop) (hW : TpAt W P g (fuDown (p / 2))) => tpFall_any g _ P k W hW (by simp [fuDown, bl_len]) (by simp [fuDown, bl_len]; omega) (by simp [fuDown])
          have kR := fun (W : World) (P : Nat → Prop) (hW : TpAt W P g ((fuDown (p / 2)).fall k)) => tpRise_any g _ P W hW (fall_held _ k (by simp [fuDown, bl_len]))
          have kB := fun (W : World) (P : Nat → Prop) (hW : TpAt W P g (((fuDown (p / 2)).fall k).rise)) => tpBytes_any g _ P W hW (by rw [f1]; refine Nat.le_trans (Tp.stay_le (k := k) (by simp [fuDown, bl_len])) ?_; simp [fuDown, bl_len]; omega)
          have kH := fun (W : World) (P : Nat → Prop) (hW : TpAt W P g (((fuDown (p / 2)).fall k).rise)) => tpHeld_any g _ P W hW
          have kD := fun (W : World) (P : Nat → Prop) (hW : TpAt W P g (((fuDown (p / 2)).fall k).rise)) => tpDown_any g _ P W hW
          have kD0 := fun (W : World) (P : Nat → Prop) (hW : TpAt W P g (fuDown (p / 2))) => tpDown_any g _ P W hW
          have kH0 := fun (W : World) (P : Nat → Prop) (hW : TpAt W P g (fuDown (p / 2))) => tpHeld_any g _ P W hW
          rw [f1] at kB
          rw [f2] at kH
          rw [f3] at kD
          rw [show (fuDown (p / 2)).down = true from rfl] at kD0
          rw [show (fuDown (p / 2)).held = p / 2 from rfl] at kH0 kB kH
          have hst : (fuDown (p / 2)).stay k = 1 := by
            have e1 : (fuDown (p / 2)).b.length = p / 2 + 1 := bl_len _
            have e2 : (fuDown (p / 2)).held = p / 2 := rfl
            unfold Tp.stay
            rw [e1, e2]
            omega
          rw [hst] at kB kH
          clear hst
          have m0 : ((1 + q : Nat) : Int) = 1 + (q : Int) := by omega
          have m1 : ((p : Int) / 2 < 1 + (q : Int)) = True := by simp; omega
          have m2 : 1 + (p : Int) ≤ 2 * (1 + (q : Int)) := by omega
          have m3 : decide (1 + (p : Int) ≤ 2 * (1 + (q : Int))) = true := decide_eq_true m2
          have m4 : (0 : Int) ≤ p := by omega
          have m5 : (0 : Int) ≤ q := by omega
          have m6 : decide (0 < k) = true := decide_eq_true hk
          have m7 : 0 < k := by omega
          clear c1
          generalize ((fuDown (p / 2)).fall k).rise = s9 at *
          generalize (fuDown (p / 2)).fall k = s8 at *
          clear f1 f2 f3
          go_wp2_with (first
            | (go_at_call 17; (with_reducible refine (kD0 _ _ ht).mono ?_); rintro e w9 ⟨rfl, rfl⟩)
            | (go_at_call 14; (with_reducible refine (kH0 _ _ ht).mono ?_); rintro e w9 ⟨rfl, rfl⟩)
            | (go_at_call 18; (with_reducible refine (kF _ _ ht).mono ?_); rintro e w4 ⟨rfl, t4, hg4⟩; have hB4 : Below w.heap.size w w4 := hB.grown hg4 hB.size (fun k hk => by cases hk; exact hg0))
            | (go_at_call 19; (with_reducible refine (kR _ _ t4).mono ?_); rintro e w5 ⟨rfl, t5, hg5⟩; have hB5 : Below w.heap.size w w5 := hB4.grown hg5 hB4.size (fun k hk => by cases hk; exact hg0))
            | (go_at_call 12; (with_reducible refine (kB _ _ t5).mono ?_); rintro e w6 ⟨V6, C6, rfl, ho6, hc6, hb6⟩; have t6 := t5.below hb6; have hB6 : Below w.heap.size w w6 := below_two hB5 hb6)
            | (go_at_call 14; (with_reducible refine (kH _ _ t6).mono ?_); rintro e w9 ⟨rfl, rfl⟩)
            | (go_at_call 17; (with_reducible refine (kD _ _ t6).mono ?_); rintro e w9 ⟨rfl, rfl⟩))
          go_ret
          exact ⟨rfl, hB6⟩
        · obtain ⟨f1, f2, f3⟩ := fall_rise (fuDown (p / 2)) k (by simp [fuDown, bl_len])
          have kF := fun (W : World) (P : Nat → Prop) (hW : TpAt W P g (fuDown (p / 2))) => tpFall_any g _ P k W hW (by simp [fuDown, bl_len]) (by simp [fuDown, bl_len]; omega) (by simp [fuDown])
          have kR := fun (W : World) (P : Nat → Prop) (hW : TpAt W P g ((fuDown (p / 2)).fall k)) => tpRise_any g _ P W hW (fall_held _ k (by simp [fuDown, bl_len]))
          have kB := fun (W : World) (P : Nat → Prop) (hW : TpAt W P g (((fuDown (p / 2)).fall k).rise)) => tpBytes_any g _ P W hW (by rw [f1]; refine Nat.le_trans (Tp.stay_le (k := k) (by simp [fuDown, bl_len])) ?_; simp [fuDown, bl_len]; omega)
          have kH := fun (W : World) (P : Nat → Prop) (hW : TpAt W P g (((fuDown (p / 2)).fall k).rise)) => tpHeld_any g _ P W hW
          have kD := fun (W : World) (P : Nat → Prop) (hW : TpAt W P g (((fuDown (p / 2)).fall k).rise)) => tpDown_any g _ P W hW
          have kD0 := fun (W : World) (P : Nat → Prop) (hW : TpAt W P g (fuDown (p / 2))) => tpDown_any g _ P W hW
          have kH0 := fun (W : World) (P : Nat → Prop) (hW : TpAt W P g (fuDown (p / 2))) => tpHeld_any g _ P W hW
          rw [f1] at kB
          rw [f2] at kH
          rw [f3] at kD
          rw [show (fuDown (p / 2)).down = true from rfl] at kD0
          rw [show (fuDown (p / 2)).held = p / 2 from rfl] at kH0 kB kH
          have hst : (fuDown (p / 2)).stay k = 0 := by
            have e1 : (fuDown (p / 2)).b.length = p / 2 + 1 := bl_len _
            have e2 : (fuDown (p / 2)).held = p / 2 := rfl
            unfold Tp.stay
            rw [e1, e2]
            omega
          rw [hst] at kB kH
          clear hst
          have m0 : ((1 + q : Nat) : Int) = 1 + (q : Int) := by omega
          have m1 : ((p : Int) / 2 < 1 + (q : Int)) = True := by simp; omega
          have m2 : 1 + (p : Int) ≤ 2 * (1 + (q : Int)) := by omega
          have m3 : decide (1 + (p : Int) ≤ 2 * (1 + (q : Int))) = true := decide_eq_true m2
          have m4 : (0 : Int) ≤ p := by omega
          have m5 : (0 : Int) ≤ q := by omega
          have m6 : decide (0 < k) = false := decide_eq_false hk
          have m7 : ¬ (0 < k) := by omega
          clear c1
          generalize ((fuDown (p / 2)).fall k).rise = s9 at *
          generalize (fuDown (p / 2)).fall k = s8 at *
          clear f1 f2 f3
          go_wp2_with (first
            | (go_at_call 17; (with_reducible refine (kD0 _ _ ht).mono ?_); rintro e w9 ⟨rfl, rfl⟩)
            | (go_at_call 14; (with_reducible refine (kH0 _ _ ht).mono ?_); rintro e w9 ⟨rfl, rfl⟩)
            | (go_at_call 18; (with_reducible refine (kF _ _ ht).mono ?_); rintro e w4 ⟨rfl, t4, hg4⟩; have hB4 : Below w.heap.size w w4 := hB.grown hg4 hB.size (fun k hk => by cases hk; exact hg0))
            | (go_at_call 19; (with_reducible refine (kR _ _ t4).mono ?_); rintro e w5 ⟨rfl, t5, hg5⟩; have hB5 : Below w.heap.size w w5 := hB4.grown hg5 hB4.size (fun k hk => by cases hk; exact hg0))
            | (go_at_call 12; (with_reducible refine (kB _ _ t5).mono ?_); rintro e w6 ⟨V6, C6, rfl, ho6, hc6, hb6⟩; have t6 := t5.below hb6; have hB6 : Below w.heap.size w w6 := below_two hB5 hb6)
            | (go_at_call 14; (with_reducible refine (kH _ _ t6).mono ?_); rintro e w9 ⟨rfl, rfl⟩)
            | (go_at_call 17; (with_reducible refine (kD _ _ t6).mono ?_); rintro e w9 ⟨rfl, rfl⟩))
          go_ret
          exact ⟨rfl, hB6⟩
end Go.Proofs.Ytdhegecnhglplaa
