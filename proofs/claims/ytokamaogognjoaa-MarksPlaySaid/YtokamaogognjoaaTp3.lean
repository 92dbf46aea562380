/-
  (*tape.Tape).do at each deed. (Printed by gen/tp3.py.)
-/
import Derived.Test.YtokamaogognjoaaTp3a
set_option linter.unusedVariables false
set_option linter.unusedSimpArgs false
namespace Go.Proofs.Ytokamaogognjoaa
open Go.RowKit

set_option maxRecDepth 100000 in
set_option maxHeartbeats 2000000 in
theorem do_write_any (g : Nat) (s : Tp) (P : Nat → Prop) (X : Option Addr) (m d : Nat) (ys : List Int) (w : World) (h : TpAt w P g s) (hok : s.Ok 400000000) (hx : RB w X m ys) (hmd : m ≤ d) (hm : m ≤ 400000000) :
    Calls Try.prog 43 #[.pointer (some ⟨g, 0, none⟩), .iface 87 (.agg #[.slice X m d])] w (TpPost (.int .i64 (s.write ys).1) P g (s.write ys).2 w) := by
  have h' := h
  obtain ⟨A, n, c, h1, h2, h3, h4⟩ := h'
  have hl := h2.len
  have hl' := hx.len
  have c5 := h1.c5
  have hgl := Blk.lt h1
  have hlen := hok.len
  have hfl := hok.falls
  have hf0 := hok.fuse0
  have hf1 := hok.fuse1
  have hm1 := meth_write_refused
  have hm2 := meth_write_pass
  have hm4 := half_write
  have hm3 := meth_write_leave
  unfold Tp.write Tp.deed
  by_cases hd0 : s.down = true
  · rw [if_pos hd0]
    rw [hd0] at c5
    clear hd0
    go_enter Try.func43, Try.ntmps43
    go_wp2
    go_ret
    exact ⟨rfl, TpStep.refl h⟩
  · rw [if_neg hd0]
    have hd : s.down = false := by simpa using hd0
    rw [hd] at c5
    clear hd0
    have href := writeRefused_any g s A n c X m d w h1 (by omega) (by omega) hok.room0 hok.room1
    rw [hl, hl']
    by_cases hr : 0 < m ∧ s.room - n < m
    · rw [if_pos hr] at href
      rw [if_pos hr, if_pos (by omega)]
      clear hr hl hl' hd hlen hfl hf0 hf1
      go_enter Try.func43, Try.ntmps43
      go_wp2_with (go_at_call 78; (with_reducible refine href.mono ?_); rintro e w1 ⟨rfl, hb1⟩)
      go_ret
      exact ⟨rfl, TpStep.below h hb1⟩
    · rw [if_neg hr] at href
      rw [if_neg hr, if_neg (by simp)]
      clear hr
      by_cases hf : s.fuse = 1
      · rw [if_pos hf]
        have HF := Lib.hid hf
        clear hf hf0 hf1
        clear hl hl' hd
        go_enter Try.func43, Try.ntmps43
        go_wp2_with (first
          | (go_at_call 78; (with_reducible refine href.mono ?_); rintro e w1 ⟨rfl, hb1⟩; have h5 := h1.below hb1; have c3 := h5.c3; have f3 := h5.fz 3; have t1 := TpStep.below h hb1; have t2 := t1.trans (TpStep.fuse t1.1 (0)); rw [HF.out] at c3; have hp := writeLeave_any g _ _ X m d ys _ t2.1 ((hx.below hb1).overTp t1.1 (set_grown _ g 3 _)) hmd (by simpa using hlen) hm)
          | (go_at_call 76; (with_reducible refine hp.mono ?_); rintro e w3 ⟨rfl, t3a, t3b⟩; have t3 := t2.trans ⟨t3a, t3b⟩; have hs := sink_any g _ _ _ t3.1 (by simpa [Tp.wr] using Nat.le_trans hfl (by omega)))
          | (go_at_call 45; (with_reducible refine hs.mono ?_); rintro e w4 ⟨rfl, t4a, t4b⟩))
        go_ret
        exact ⟨rfl, t3.trans ⟨t4a, t4b⟩⟩
      · rw [if_neg hf]
        by_cases hz : s.fuse = 0
        · have hbn : s.burn = { s with fuse := 0 } := by unfold Tp.burn; rw [hz]; rfl
          rw [hbn]
          have HF := Lib.hid hz
          clear hz hf hbn hf0 hf1
          clear hl hl' hd
          go_enter Try.func43, Try.ntmps43
          go_wp2_with (first
            | (go_at_call 78; (with_reducible refine href.mono ?_); rintro e w1 ⟨rfl, hb1⟩; have h5 := h1.below hb1; have c3 := h5.c3; have f3 := h5.fz 3; have t1 := TpStep.below h hb1; have t2 := t1.trans (TpStep.fuse t1.1 (0)); rw [HF.out] at c3; have hp := writePass_any g _ _ X m d ys _ t2.1 ((hx.below hb1).overTp t1.1 (set_grown _ g 3 _)) hmd (by simpa using hlen) hm)
            | (go_at_call 77; (with_reducible refine hp.mono ?_); rintro e w3 ⟨rfl, t3a, t3b⟩))
          go_ret
          exact ⟨rfl, t2.trans ⟨t3a, t3b⟩⟩
        · have hbn : s.burn = { s with fuse := s.fuse - 1 } := by unfold Tp.burn; rw [show max (s.fuse - 1) 0 = s.fuse - 1 from by omega]
          rw [hbn]
          have k1 : (s.fuse != 1) = true := by simpa using hf
          have k2 : (s.fuse == 1) = false := by simpa using hf
          have k3 : (0 : Int) ≤ s.fuse - 1 := by omega
          have k4 : wrap64 (s.fuse - 1) = s.fuse - 1 := by unfold wrap64; omega
          have k5 : (1 : Int) ≤ s.fuse := by omega
          clear hz hf hbn
          clear hl hl' hd
          go_enter Try.func43, Try.ntmps43
          go_wp2_with (first
            | (go_at_call 78; (with_reducible refine href.mono ?_); rintro e w1 ⟨rfl, hb1⟩; have h5 := h1.below hb1; have c3 := h5.c3; have f3 := h5.fz 3; have t1 := TpStep.below h hb1; have t2 := t1.trans (TpStep.fuse t1.1 (s.fuse - 1)); have hp := writePass_any g _ _ X m d ys _ t2.1 ((hx.below hb1).overTp t1.1 (set_grown _ g 3 _)) hmd (by simpa using hlen) hm)
            | (go_at_call 77; (with_reducible refine hp.mono ?_); rintro e w3 ⟨rfl, t3a, t3b⟩))
          go_ret
          exact ⟨rfl, t2.trans ⟨t3a, t3b⟩⟩
set_option maxRecDepth 100000 in
set_option maxHeartbeats 2000000 in
theorem do_hold_any (g : Nat) (s : Tp) (P : Nat → Prop) (w : World) (h : TpAt w P g s) (hok : s.Ok 400000000) :
    Calls Try.prog 43 #[.pointer (some ⟨g, 0, none⟩), .iface 97 (.agg #[])] w (TpPost (.int .i64 (s.hold).1) P g (s.hold).2 w) := by
  have h' := h
  obtain ⟨A, n, c, h1, h2, h3, h4⟩ := h'
  have hl := h2.len
  have c5 := h1.c5
  have hgl := Blk.lt h1
  have hlen := hok.len
  have hfl := hok.falls
  have hf0 := hok.fuse0
  have hf1 := hok.fuse1
  have hm1 := meth_hold_refused
  have hm2 := meth_hold_pass
  have hm4 := half_hold
  unfold Tp.hold Tp.deed
  by_cases hd0 : s.down = true
  · rw [if_pos hd0]
    rw [hd0] at c5
    clear hd0
    go_enter Try.func43, Try.ntmps43
    go_wp2
    go_ret
    exact ⟨rfl, TpStep.refl h⟩
  · rw [if_neg hd0]
    have hd : s.down = false := by simpa using hd0
    rw [hd] at c5
    clear hd0
    have href := holdRefused_any g w
    rw [if_neg (by simp)]
    by_cases hf : s.fuse = 1
    · rw [if_pos hf]
      have HF := Lib.hid hf
      clear hf hf0 hf1
      clear hl hd
      go_enter Try.func43, Try.ntmps43
      go_wp2_with (first
        | (go_at_call 81; (with_reducible refine href.mono ?_); rintro e w1 ⟨rfl, hb1⟩; have h5 := h1.below hb1; have c3 := h5.c3; have f3 := h5.fz 3; have t1 := TpStep.below h hb1; have t2 := t1.trans (TpStep.fuse t1.1 (0)); rw [HF.out] at c3; have hs := sink_any g _ _ _ t2.1 (by simpa using Nat.le_trans hfl (by omega)))
        | (go_at_call 45; (with_reducible refine hs.mono ?_); rintro e w4 ⟨rfl, t4a, t4b⟩))
      go_ret
      exact ⟨rfl, t2.trans ⟨t4a, t4b⟩⟩
    · rw [if_neg hf]
      by_cases hz : s.fuse = 0
      · have hbn : s.burn = { s with fuse := 0 } := by unfold Tp.burn; rw [hz]; rfl
        rw [hbn]
        have HF := Lib.hid hz
        clear hz hf hbn hf0 hf1
        clear hl hd
        go_enter Try.func43, Try.ntmps43
        go_wp2_with (first
          | (go_at_call 81; (with_reducible refine href.mono ?_); rintro e w1 ⟨rfl, hb1⟩; have h5 := h1.below hb1; have c3 := h5.c3; have f3 := h5.fz 3; have t1 := TpStep.below h hb1; have t2 := t1.trans (TpStep.fuse t1.1 (0)); rw [HF.out] at c3; have hp := holdPass_any g _ _ _ t2.1)
          | (go_at_call 80; (with_reducible refine hp.mono ?_); rintro e w3 ⟨rfl, t3a, t3b⟩))
        go_ret
        exact ⟨rfl, t2.trans ⟨t3a, t3b⟩⟩
      · have hbn : s.burn = { s with fuse := s.fuse - 1 } := by unfold Tp.burn; rw [show max (s.fuse - 1) 0 = s.fuse - 1 from by omega]
        rw [hbn]
        have k1 : (s.fuse != 1) = true := by simpa using hf
        have k2 : (s.fuse == 1) = false := by simpa using hf
        have k3 : (0 : Int) ≤ s.fuse - 1 := by omega
        have k4 : wrap64 (s.fuse - 1) = s.fuse - 1 := by unfold wrap64; omega
        have k5 : (1 : Int) ≤ s.fuse := by omega
        clear hz hf hbn
        clear hl hd
        go_enter Try.func43, Try.ntmps43
        go_wp2_with (first
          | (go_at_call 81; (with_reducible refine href.mono ?_); rintro e w1 ⟨rfl, hb1⟩; have h5 := h1.below hb1; have c3 := h5.c3; have f3 := h5.fz 3; have t1 := TpStep.below h hb1; have t2 := t1.trans (TpStep.fuse t1.1 (s.fuse - 1)); have hp := holdPass_any g _ _ _ t2.1)
          | (go_at_call 80; (with_reducible refine hp.mono ?_); rintro e w3 ⟨rfl, t3a, t3b⟩))
        go_ret
        exact ⟨rfl, t2.trans ⟨t3a, t3b⟩⟩
set_option maxRecDepth 100000 in
set_option maxHeartbeats 2000000 in
theorem do_cut_any (g : Nat) (s : Tp) (P : Nat → Prop) (k : Int) (w : World) (h : TpAt w P g s) (hok : s.Ok 400000000) :
    Calls Try.prog 43 #[.pointer (some ⟨g, 0, none⟩), .iface 89 (.agg #[.int .i64 k])] w (TpPost (.int .i64 (s.cut k).1) P g (s.cut k).2 w) := by
  have h' := h
  obtain ⟨A, n, c, h1, h2, h3, h4⟩ := h'
  have hl := h2.len
  have c5 := h1.c5
  have hgl := Blk.lt h1
  have hlen := hok.len
  have hfl := hok.falls
  have hf0 := hok.fuse0
  have hf1 := hok.fuse1
  have hm1 := meth_cut_refused
  have hm2 := meth_cut_pass
  have hm4 := half_cut
  unfold Tp.cut Tp.deed
  by_cases hd0 : s.down = true
  · rw [if_pos hd0]
    rw [hd0] at c5
    clear hd0
    go_enter Try.func43, Try.ntmps43
    go_wp2
    go_ret
    exact ⟨rfl, TpStep.refl h⟩
  · rw [if_neg hd0]
    have hd : s.down = false := by simpa using hd0
    rw [hd] at c5
    clear hd0
    have href := cutRefused_any g s A n c k w h1
    rw [hl]
    by_cases hr : k < 0 ∨ (n : Int) < k
    · rw [if_pos hr] at href
      rw [if_pos hr, if_pos (by omega)]
      clear hr hl hd hlen hfl hf0 hf1
      go_enter Try.func43, Try.ntmps43
      go_wp2_with (go_at_call 79; (with_reducible refine href.mono ?_); rintro e w1 ⟨rfl, hb1⟩)
      go_ret
      exact ⟨rfl, TpStep.below h hb1⟩
    · rw [if_neg hr] at href
      rw [if_neg hr, if_neg (by simp)]
      obtain ⟨q, rfl⟩ : ∃ q : Nat, k = (q : Int) := ⟨k.toNat, by omega⟩
      have hq : q ≤ s.b.length := by omega
      rw [Int.toNat_natCast]
      clear hr
      by_cases hf : s.fuse = 1
      · rw [if_pos hf]
        have HF := Lib.hid hf
        clear hf hf0 hf1
        clear hl hd
        go_enter Try.func43, Try.ntmps43
        go_wp2_with (first
          | (go_at_call 79; (with_reducible refine href.mono ?_); rintro e w1 ⟨rfl, hb1⟩; have h5 := h1.below hb1; have c3 := h5.c3; have f3 := h5.fz 3; have t1 := TpStep.below h hb1; have t2 := t1.trans (TpStep.fuse t1.1 (0)); rw [HF.out] at c3; have hs := sink_any g _ _ _ t2.1 (by simpa using Nat.le_trans hfl (by omega)))
          | (go_at_call 45; (with_reducible refine hs.mono ?_); rintro e w4 ⟨rfl, t4a, t4b⟩))
        go_ret
        exact ⟨rfl, t2.trans ⟨t4a, t4b⟩⟩
      · rw [if_neg hf]
        by_cases hz : s.fuse = 0
        · have hbn : s.burn = { s with fuse := 0 } := by unfold Tp.burn; rw [hz]; rfl
          rw [hbn]
          have HF := Lib.hid hz
          clear hz hf hbn hf0 hf1
          clear hl hd
          go_enter Try.func43, Try.ntmps43
          go_wp2_with (first
            | (go_at_call 79; (with_reducible refine href.mono ?_); rintro e w1 ⟨rfl, hb1⟩; have h5 := h1.below hb1; have c3 := h5.c3; have f3 := h5.fz 3; have t1 := TpStep.below h hb1; have t2 := t1.trans (TpStep.fuse t1.1 (0)); rw [HF.out] at c3; have hp := cutPass_any g _ _ q _ t2.1 hq)
            | (go_at_call 46; (with_reducible refine hp.mono ?_); rintro e w3 ⟨rfl, t3a, t3b⟩))
          go_ret
          exact ⟨rfl, t2.trans ⟨t3a, t3b⟩⟩
        · have hbn : s.burn = { s with fuse := s.fuse - 1 } := by unfold Tp.burn; rw [show max (s.fuse - 1) 0 = s.fuse - 1 from by omega]
          rw [hbn]
          have k1 : (s.fuse != 1) = true := by simpa using hf
          have k2 : (s.fuse == 1) = false := by simpa using hf
          have k3 : (0 : Int) ≤ s.fuse - 1 := by omega
          have k4 : wrap64 (s.fuse - 1) = s.fuse - 1 := by unfold wrap64; omega
          have k5 : (1 : Int) ≤ s.fuse := by omega
          clear hz hf hbn
          clear hl hd
          go_enter Try.func43, Try.ntmps43
          go_wp2_with (first
            | (go_at_call 79; (with_reducible refine href.mono ?_); rintro e w1 ⟨rfl, hb1⟩; have h5 := h1.below hb1; have c3 := h5.c3; have f3 := h5.fz 3; have t1 := TpStep.below h hb1; have t2 := t1.trans (TpStep.fuse t1.1 (s.fuse - 1)); have hp := cutPass_any g _ _ q _ t2.1 hq)
            | (go_at_call 46; (with_reducible refine hp.mono ?_); rintro e w3 ⟨rfl, t3a, t3b⟩))
          go_ret
          exact ⟨rfl, t2.trans ⟨t3a, t3b⟩⟩
set_option maxRecDepth 100000 in
set_option maxHeartbeats 2000000 in
theorem do_swap_any (g : Nat) (s : Tp) (P : Nat → Prop) (X : Option Addr) (m d : Nat) (ys : List Int) (w : World) (h : TpAt w P g s) (hok : s.Ok 400000000) (hx : RB w X m ys) (hmd : m ≤ d) (hm : m ≤ 400000000) :
    Calls Try.prog 43 #[.pointer (some ⟨g, 0, none⟩), .iface 99 (.agg #[.slice X m d])] w (TpPost (.int .i64 (s.swap ys).1) P g (s.swap ys).2 w) := by
  have h' := h
  obtain ⟨A, n, c, h1, h2, h3, h4⟩ := h'
  have hl := h2.len
  have hl' := hx.len
  have c5 := h1.c5
  have hgl := Blk.lt h1
  have hlen := hok.len
  have hfl := hok.falls
  have hf0 := hok.fuse0
  have hf1 := hok.fuse1
  have hm1 := meth_swap_refused
  have hm2 := meth_swap_pass
  have hm4 := half_swap
  unfold Tp.swap Tp.deed
  by_cases hd0 : s.down = true
  · rw [if_pos hd0]
    rw [hd0] at c5
    clear hd0
    go_enter Try.func43, Try.ntmps43
    go_wp2
    go_ret
    exact ⟨rfl, TpStep.refl h⟩
  · rw [if_neg hd0]
    have hd : s.down = false := by simpa using hd0
    rw [hd] at c5
    clear hd0
    have href := swapRefused_any g s A n c X m d w h1
    rw [hl']
    by_cases hr : s.room < m
    · rw [if_pos hr] at href
      rw [if_pos hr, if_pos (by omega)]
      clear hr hl hl' hd hlen hfl hf0 hf1
      go_enter Try.func43, Try.ntmps43
      go_wp2_with (go_at_call 83; (with_reducible refine href.mono ?_); rintro e w1 ⟨rfl, hb1⟩)
      go_ret
      exact ⟨rfl, TpStep.below h hb1⟩
    · rw [if_neg hr] at href
      rw [if_neg hr, if_neg (by simp)]
      clear hr
      by_cases hf : s.fuse = 1
      · rw [if_pos hf]
        have HF := Lib.hid hf
        clear hf hf0 hf1
        clear hl hl' hd
        go_enter Try.func43, Try.ntmps43
        go_wp2_with (first
          | (go_at_call 83; (with_reducible refine href.mono ?_); rintro e w1 ⟨rfl, hb1⟩; have h5 := h1.below hb1; have c3 := h5.c3; have f3 := h5.fz 3; have t1 := TpStep.below h hb1; have t2 := t1.trans (TpStep.fuse t1.1 (0)); rw [HF.out] at c3; have hs := sink_any g _ _ _ t2.1 (by simpa using Nat.le_trans hfl (by omega)))
          | (go_at_call 45; (with_reducible refine hs.mono ?_); rintro e w4 ⟨rfl, t4a, t4b⟩))
        go_ret
        exact ⟨rfl, t2.trans ⟨t4a, t4b⟩⟩
      · rw [if_neg hf]
        by_cases hz : s.fuse = 0
        · have hbn : s.burn = { s with fuse := 0 } := by unfold Tp.burn; rw [hz]; rfl
          rw [hbn]
          have HF := Lib.hid hz
          clear hz hf hbn hf0 hf1
          clear hl hl' hd
          go_enter Try.func43, Try.ntmps43
          go_wp2_with (first
            | (go_at_call 83; (with_reducible refine href.mono ?_); rintro e w1 ⟨rfl, hb1⟩; have h5 := h1.below hb1; have c3 := h5.c3; have f3 := h5.fz 3; have t1 := TpStep.below h hb1; have t2 := t1.trans (TpStep.fuse t1.1 (0)); rw [HF.out] at c3; have hp := swapPass_any g _ _ X m d ys _ t2.1 ((hx.below hb1).overTp t1.1 (set_grown _ g 3 _)) hmd hm)
            | (go_at_call 82; (with_reducible refine hp.mono ?_); rintro e w3 ⟨rfl, t3a, t3b⟩))
          go_ret
          exact ⟨rfl, t2.trans ⟨t3a, t3b⟩⟩
        · have hbn : s.burn = { s with fuse := s.fuse - 1 } := by unfold Tp.burn; rw [show max (s.fuse - 1) 0 = s.fuse - 1 from by omega]
          rw [hbn]
          have k1 : (s.fuse != 1) = true := by simpa using hf
          have k2 : (s.fuse == 1) = false := by simpa using hf
          have k3 : (0 : Int) ≤ s.fuse - 1 := by omega
          have k4 : wrap64 (s.fuse - 1) = s.fuse - 1 := by unfold wrap64; omega
          have k5 : (1 : Int) ≤ s.fuse := by omega
          clear hz hf hbn
          clear hl hl' hd
          go_enter Try.func43, Try.ntmps43
          go_wp2_with (first
            | (go_at_call 83; (with_reducible refine href.mono ?_); rintro e w1 ⟨rfl, hb1⟩; have h5 := h1.below hb1; have c3 := h5.c3; have f3 := h5.fz 3; have t1 := TpStep.below h hb1; have t2 := t1.trans (TpStep.fuse t1.1 (s.fuse - 1)); have hp := swapPass_any g _ _ X m d ys _ t2.1 ((hx.below hb1).overTp t1.1 (set_grown _ g 3 _)) hmd hm)
            | (go_at_call 82; (with_reducible refine hp.mono ?_); rintro e w3 ⟨rfl, t3a, t3b⟩))
          go_ret
          exact ⟨rfl, t2.trans ⟨t3a, t3b⟩⟩
end Go.Proofs.Ytokamaogognjoaa
