/-
  trestleref04.Tape: its exported methods. (Printed by gen/rt2b.py.)
-/
import Derived.Test.YtdhegecnhglplaaRt2
set_option linter.unusedVariables false
set_option linter.unusedSimpArgs false
namespace Go.Proofs.Ytdhegecnhglplaa
open Go.RowKit

theorem Tp.deed_up {s : Tp} {r : Int} {pass leave : Tp → Tp} (hd : s.down = false) (hr : r = 0) : s.deed r pass leave = if s.fuse = 1 then (16, (leave { s with fuse := 0 }).sink) else (0, pass s.burn) := by
  unfold Tp.deed
  rw [if_neg (by simp [hd]), if_neg (by simp [hr])]
theorem Tp.deed_down {s : Tp} {r : Int} {pass leave : Tp → Tp} (hd : s.down = true) : s.deed r pass leave = (16, s) := by
  unfold Tp.deed
  rw [if_pos hd]
theorem Tp.deed_no {s : Tp} {r : Int} {pass leave : Tp → Tp} (hd : s.down = false) (hr : r ≠ 0) : s.deed r pass leave = (r, s) := by
  unfold Tp.deed
  rw [if_neg (by simp [hd]), if_pos hr]
set_option maxHeartbeats 2000000 in
theorem rtWrite_any (g : Nat) (s : Tp) (P : Nat → Prop) (X : Option Addr) (m d : Nat) (ys : List Int) (w : World) (h : RtAt w P g s) (hok : s.Ok 400000000) (hx : RB w X m ys) (hmd : m ≤ d) (hm : m ≤ 400000000) :
    Calls Try.prog 21 #[.pointer (some ⟨g, 0, none⟩), .slice X m d] w (RtPost (.int .i64 (s.write ys).1) P g (s.write ys).2 w) := by
  have h' := h
  obtain ⟨A, n, c, h1, h2, h3, h4⟩ := h'
  have c4 := h1.c4
  have c0 := h1.c0
  have c2 := h1.c2
  have hl := h2.len
  have hl' := hx.len
  have hlen := hok.len
  have r0 := hok.room0
  have r1 := hok.room1
  have g0 := hok.fuse0
  have g1 := hok.fuse1
  unfold Tp.write
  by_cases hd0 : s.down = true
  · rw [Tp.deed_down hd0]
    rw [hd0] at c4
    clear hd0
    go_enter Try.func21, Try.ntmps21
    go_wp2
    go_ret
    exact ⟨rfl, RtStep.refl h⟩
  · have hd : s.down = false := by simpa using hd0
    rw [hd] at c4
    clear hd0
    have hw : IntKind.i64.wrap (s.room - n) = s.room - n := IntWalk.i64_in _ (by omega)
    by_cases hf : 0 < m ∧ s.room - n < m
    · rw [hl, hl', if_pos hf, Tp.deed_no hd (by omega)]
      have i1 : decide ((0 : Int) < m) = true := decide_eq_true (by omega)
      have i2 : decide (s.room - n < m) = true := decide_eq_true hf.2
      have i3 : (0 : Int) < m := by omega
      have i4 : s.room - n < m := hf.2
      have i5 : 0 < m := hf.1
      clear hf hl hl' hd
      go_enter Try.func21, Try.ntmps21
      go_wp2
      go_quiet (fail)
      go_wp2
      go_ret
      exact ⟨rfl, RtStep.below h (drewN_below _ _)⟩
    · rw [hl, hl', if_neg hf, Tp.deed_up hd rfl]
      have hcp := fun q : Nat => copyBytes_any A n c s.b (w.drewN q) (h2.drewN q) (by omega)
      have f9 : n + m ≤ 140737488355328 := by omega
      have hbu := fun (W : World) (P' : Nat → Prop) (hW : RtAt W P' g (s.wr ys)) => burns_any g (s.wr ys) P' W hW hd g0 g1
      unfold RtPost at hbu
      rw [show (s.wr ys).fuse = s.fuse from rfl] at hbu
      have hgl := Blk.lt h1
      by_cases ho : s.fuse = 1
      · rw [if_pos ho]
        unfold Tp.afterBurn at hbu
        rw [show (s.wr ys).fuse = s.fuse from rfl, decide_eq_true ho, if_pos ho] at hbu
        clear ho
        by_cases hm0 : 0 < m
        · have i1 : decide ((0 : Int) < m) = true := decide_eq_true (by omega)
          have i2 : decide (s.room - n < m) = false := decide_eq_false (by omega)
          have i3 : (0 : Int) < m := by omega
          have i4 : ¬ (s.room - n < m) := by omega
          clear hf hl hl' hd
          go_enter Try.func21, Try.ntmps21
          go_wp2
          go_quiet (fail)
          go_wp2_with (first
            | (go_at_call 35; (with_reducible refine (hcp _).mono ?_); rintro e w1 ⟨V, C0, rfl, ho1, hc1, hb1⟩; have hB1 : Below w.heap.size w w1 := below_two (drewN_below w _) hb1)
            | (at_builtin; refine wpList_app rfl (.tmp 32) (.tmp 33) rfl w.heap.size _ _ _ rfl ho1 X m d ys rfl (hx.below hB1) f9 hB1.size ?_; intro v2 w2 ho2 hg2 hat2; obtain ⟨V2, C2, rfl, hc2⟩ := ho2.slice; have hB2 : Below w.heap.size w w2 := hB1.grown hg2 hB1.size (fun k hk => (ho1.own k hk).1); have h12 := h1.below hB2; have c02 := h12.c0; have f02 := h12.fz 0; have h5 := h12.set0 V2 (n + m) C2 (s.b ++ ys); have t5 : RtAt (w2.setCell ⟨g, 0, none⟩ (.slice V2 (n + m) C2)) (fun k => P k ∨ w.heap.size ≤ k) g (s.wr ys) := RtAt.fresh h5 rfl (ho2.setFar hgl 0 _) hgl (fun k hk => .inr hk); have hg5 : w.grownBy (w2.setCell ⟨g, 0, none⟩ (.slice V2 (n + m) C2)) (some g) := grown_setCell (p := ⟨g, 0, none⟩) (grown_below hB2 _) (.inl rfl) _; have hbb := hbu _ _ t5)
            | (go_at_call 36; (with_reducible refine hbb.mono ?_); rintro e w6 ⟨rfl, t6a, t6b⟩))
          go_ret
          exact ⟨rfl, RtStep.trans ⟨t5, hg5⟩ ⟨t6a, t6b⟩⟩
        · have i1 : decide ((0 : Int) < m) = false := decide_eq_false (by omega)
          have i2 : decide (0 < m) = false := decide_eq_false (by omega)
          clear hm0
          clear hf hl hl' hd
          go_enter Try.func21, Try.ntmps21
          go_wp2
          go_quiet (fail)
          go_wp2_with (first
            | (go_at_call 35; (with_reducible refine (hcp _).mono ?_); rintro e w1 ⟨V, C0, rfl, ho1, hc1, hb1⟩; have hB1 : Below w.heap.size w w1 := below_two (drewN_below w _) hb1)
            | (at_builtin; refine wpList_app rfl (.tmp 32) (.tmp 33) rfl w.heap.size _ _ _ rfl ho1 X m d ys rfl (hx.below hB1) f9 hB1.size ?_; intro v2 w2 ho2 hg2 hat2; obtain ⟨V2, C2, rfl, hc2⟩ := ho2.slice; have hB2 : Below w.heap.size w w2 := hB1.grown hg2 hB1.size (fun k hk => (ho1.own k hk).1); have h12 := h1.below hB2; have c02 := h12.c0; have f02 := h12.fz 0; have h5 := h12.set0 V2 (n + m) C2 (s.b ++ ys); have t5 : RtAt (w2.setCell ⟨g, 0, none⟩ (.slice V2 (n + m) C2)) (fun k => P k ∨ w.heap.size ≤ k) g (s.wr ys) := RtAt.fresh h5 rfl (ho2.setFar hgl 0 _) hgl (fun k hk => .inr hk); have hg5 : w.grownBy (w2.setCell ⟨g, 0, none⟩ (.slice V2 (n + m) C2)) (some g) := grown_setCell (p := ⟨g, 0, none⟩) (grown_below hB2 _) (.inl rfl) _; have hbb := hbu _ _ t5)
            | (go_at_call 36; (with_reducible refine hbb.mono ?_); rintro e w6 ⟨rfl, t6a, t6b⟩))
          go_ret
          exact ⟨rfl, RtStep.trans ⟨t5, hg5⟩ ⟨t6a, t6b⟩⟩
      · rw [if_neg ho]
        unfold Tp.afterBurn at hbu
        rw [show (s.wr ys).fuse = s.fuse from rfl, decide_eq_false ho, if_neg ho] at hbu
        clear ho
        by_cases hm0 : 0 < m
        · have i1 : decide ((0 : Int) < m) = true := decide_eq_true (by omega)
          have i2 : decide (s.room - n < m) = false := decide_eq_false (by omega)
          have i3 : (0 : Int) < m := by omega
          have i4 : ¬ (s.room - n < m) := by omega
          clear hf hl hl' hd
          go_enter Try.func21, Try.ntmps21
          go_wp2
          go_quiet (fail)
          go_wp2_with (first
            | (go_at_call 35; (with_reducible refine (hcp _).mono ?_); rintro e w1 ⟨V, C0, rfl, ho1, hc1, hb1⟩; have hB1 : Below w.heap.size w w1 := below_two (drewN_below w _) hb1)
            | (at_builtin; refine wpList_app rfl (.tmp 32) (.tmp 33) rfl w.heap.size _ _ _ rfl ho1 X m d ys rfl (hx.below hB1) f9 hB1.size ?_; intro v2 w2 ho2 hg2 hat2; obtain ⟨V2, C2, rfl, hc2⟩ := ho2.slice; have hB2 : Below w.heap.size w w2 := hB1.grown hg2 hB1.size (fun k hk => (ho1.own k hk).1); have h12 := h1.below hB2; have c02 := h12.c0; have f02 := h12.fz 0; have h5 := h12.set0 V2 (n + m) C2 (s.b ++ ys); have t5 : RtAt (w2.setCell ⟨g, 0, none⟩ (.slice V2 (n + m) C2)) (fun k => P k ∨ w.heap.size ≤ k) g (s.wr ys) := RtAt.fresh h5 rfl (ho2.setFar hgl 0 _) hgl (fun k hk => .inr hk); have hg5 : w.grownBy (w2.setCell ⟨g, 0, none⟩ (.slice V2 (n + m) C2)) (some g) := grown_setCell (p := ⟨g, 0, none⟩) (grown_below hB2 _) (.inl rfl) _; have hbb := hbu _ _ t5)
            | (go_at_call 36; (with_reducible refine hbb.mono ?_); rintro e w6 ⟨rfl, t6a, t6b⟩))
          go_ret
          exact ⟨rfl, RtStep.trans ⟨t5, hg5⟩ ⟨t6a, t6b⟩⟩
        · have i1 : decide ((0 : Int) < m) = false := decide_eq_false (by omega)
          have i2 : decide (0 < m) = false := decide_eq_false (by omega)
          clear hm0
          clear hf hl hl' hd
          go_enter Try.func21, Try.ntmps21
          go_wp2
          go_quiet (fail)
          go_wp2_with (first
            | (go_at_call 35; (with_reducible refine (hcp _).mono ?_); rintro e w1 ⟨V, C0, rfl, ho1, hc1, hb1⟩; have hB1 : Below w.heap.size w w1 := below_two (drewN_below w _) hb1)
            | (at_builtin; refine wpList_app rfl (.tmp 32) (.tmp 33) rfl w.heap.size _ _ _ rfl ho1 X m d ys rfl (hx.below hB1) f9 hB1.size ?_; intro v2 w2 ho2 hg2 hat2; obtain ⟨V2, C2, rfl, hc2⟩ := ho2.slice; have hB2 : Below w.heap.size w w2 := hB1.grown hg2 hB1.size (fun k hk => (ho1.own k hk).1); have h12 := h1.below hB2; have c02 := h12.c0; have f02 := h12.fz 0; have h5 := h12.set0 V2 (n + m) C2 (s.b ++ ys); have t5 : RtAt (w2.setCell ⟨g, 0, none⟩ (.slice V2 (n + m) C2)) (fun k => P k ∨ w.heap.size ≤ k) g (s.wr ys) := RtAt.fresh h5 rfl (ho2.setFar hgl 0 _) hgl (fun k hk => .inr hk); have hg5 : w.grownBy (w2.setCell ⟨g, 0, none⟩ (.slice V2 (n + m) C2)) (some g) := grown_setCell (p := ⟨g, 0, none⟩) (grown_below hB2 _) (.inl rfl) _; have hbb := hbu _ _ t5)
            | (go_at_call 36; (with_reducible refine hbb.mono ?_); rintro e w6 ⟨rfl, t6a, t6b⟩))
          go_ret
          exact ⟨rfl, RtStep.trans ⟨t5, hg5⟩ ⟨t6a, t6b⟩⟩
set_option maxHeartbeats 1000000 in
theorem rtHold_any (g : Nat) (s : Tp) (P : Nat → Prop) (w : World) (h : RtAt w P g s) (hok : s.Ok 400000000) :
    Calls Try.prog 22 #[.pointer (some ⟨g, 0, none⟩)] w (RtPost (.int .i64 s.hold.1) P g s.hold.2 w) := by
  have h' := h
  obtain ⟨A, n, c, h1, h2, h3, h4⟩ := h'
  have c4 := h1.c4
  have c0 := h1.c0
  have c2 := h1.c2
  have hl := h2.len
  have hlen := hok.len
  have g0 := hok.fuse0
  have g1 := hok.fuse1
  unfold Tp.hold
  by_cases hd0 : s.down = true
  · rw [Tp.deed_down hd0]
    rw [hd0] at c4
    clear hd0
    go_enter Try.func22, Try.ntmps22
    go_wp2
    go_ret
    exact ⟨rfl, RtStep.refl h⟩
  · have hd : s.down = false := by simpa using hd0
    rw [hd] at c4
    clear hd0
    rw [Tp.deed_up hd rfl]
    have hb := become_any g s P A n c s.b w h hd g0 g1 h2 h3 (by omega)
    by_cases ho : s.fuse = 1
    · rw [if_pos ho]
      rw [if_pos ho, if_pos ho] at hb
      clear ho hd hl
      go_enter Try.func22, Try.ntmps22
      go_wp2_with (go_at_call 37; (with_reducible refine hb.mono ?_); rintro e w1 ⟨rfl, t1⟩)
      go_ret
      exact ⟨rfl, t1⟩
    · rw [if_neg ho]
      rw [if_neg ho, if_neg ho] at hb
      clear ho hd hl
      go_enter Try.func22, Try.ntmps22
      go_wp2_with (go_at_call 37; (with_reducible refine hb.mono ?_); rintro e w1 ⟨rfl, t1⟩)
      go_ret
      exact ⟨rfl, t1⟩
set_option maxHeartbeats 1000000 in
theorem rtCut_any (g : Nat) (s : Tp) (P : Nat → Prop) (k : Int) (w : World) (h : RtAt w P g s) (hok : s.Ok 400000000) :
    Calls Try.prog 41 #[.pointer (some ⟨g, 0, none⟩), .int .i64 k] w (RtPost (.int .i64 (s.cut k).1) P g (s.cut k).2 w) := by
  have h' := h
  obtain ⟨A, n, c, h1, h2, h3, h4⟩ := h'
  have c4 := h1.c4
  have c0 := h1.c0
  have c2 := h1.c2
  have hl := h2.len
  have hlen := hok.len
  have g0 := hok.fuse0
  have g1 := hok.fuse1
  unfold Tp.cut
  by_cases hd0 : s.down = true
  · rw [Tp.deed_down hd0]
    rw [hd0] at c4
    clear hd0
    go_enter Try.func41, Try.ntmps41
    go_wp2
    go_ret
    exact ⟨rfl, RtStep.refl h⟩
  · have hd : s.down = false := by simpa using hd0
    rw [hd] at c4
    clear hd0
    by_cases hf : k < 0 ∨ (n : Int) < k
    · rw [hl, if_pos hf, Tp.deed_no hd (by omega)]
      clear hl hd
      by_cases hk : k < 0
      · clear hf
        go_enter Try.func41, Try.ntmps41
        go_wp2
        go_ret
        exact ⟨rfl, RtStep.refl h⟩
      · have hk2 : (n : Int) < k := by omega
        clear hf
        go_enter Try.func41, Try.ntmps41
        go_wp2
        go_ret
        exact ⟨rfl, RtStep.refl h⟩
    · rw [hl, if_neg hf, Tp.deed_up hd rfl]
      obtain ⟨q, rfl⟩ : ∃ q : Nat, k = (q : Int) := ⟨k.toNat, by omega⟩
      have hq : q ≤ n := by omega
      have hqc : (q : Int) ≤ c := by omega
      rw [Int.toNat_natCast]
      have hb := become_any g s P A q c (s.b.take q) w h hd g0 g1 (h2.take hq) (by omega) (by omega)
      by_cases ho : s.fuse = 1
      · rw [if_pos ho]
        rw [if_pos ho, if_pos ho] at hb
        clear ho hd hl
        go_enter Try.func41, Try.ntmps41
        go_wp2_with (go_at_call 37; (with_reducible refine hb.mono ?_); rintro e w1 ⟨rfl, t1⟩)
        go_ret
        exact ⟨rfl, t1⟩
      · rw [if_neg ho]
        rw [if_neg ho, if_neg ho] at hb
        have hst : s.burn.sw (s.b.take q) = s.burn.cutTo q := by
          have : (s.b.take q).length = q := by rw [List.length_take]; omega
          unfold Tp.sw Tp.cutTo
          rw [this]
          rfl
        rw [hst] at hb
        clear hst
        clear ho hd hl
        go_enter Try.func41, Try.ntmps41
        go_wp2_with (go_at_call 37; (with_reducible refine hb.mono ?_); rintro e w1 ⟨rfl, t1⟩)
        go_ret
        exact ⟨rfl, t1⟩
set_option maxHeartbeats 1000000 in
theorem rtSwap_any (g : Nat) (s : Tp) (P : Nat → Prop) (X : Option Addr) (m d : Nat) (ys : List Int) (w : World) (h : RtAt w P g s) (hok : s.Ok 400000000) (hx : RB w X m ys) (hmd : m ≤ d) (hm : m ≤ 400000000) :
    Calls Try.prog 42 #[.pointer (some ⟨g, 0, none⟩), .slice X m d] w (RtPost (.int .i64 (s.swap ys).1) P g (s.swap ys).2 w) := by
  have h' := h
  obtain ⟨A, n, c, h1, h2, h3, h4⟩ := h'
  have c4 := h1.c4
  have c0 := h1.c0
  have c2 := h1.c2
  have hl := h2.len
  have hl' := hx.len
  have hlen := hok.len
  have g0 := hok.fuse0
  have g1 := hok.fuse1
  unfold Tp.swap
  by_cases hd0 : s.down = true
  · rw [Tp.deed_down hd0]
    rw [hd0] at c4
    clear hd0
    go_enter Try.func42, Try.ntmps42
    go_wp2
    go_ret
    exact ⟨rfl, RtStep.refl h⟩
  · have hd : s.down = false := by simpa using hd0
    rw [hd] at c4
    clear hd0
    by_cases hf : s.room < m
    · rw [hl', if_pos hf, Tp.deed_no hd (by omega)]
      clear hl hl' hd
      have i9 := hf
      go_enter Try.func42, Try.ntmps42
      go_wp2
      go_ret
      exact ⟨rfl, RtStep.refl h⟩
    · rw [hl', if_neg hf, Tp.deed_up hd rfl]
      have hb := become_any g s P X m d ys w h hd g0 g1 hx hmd (by omega)
      by_cases ho : s.fuse = 1
      · rw [if_pos ho]
        rw [if_pos ho, if_pos ho] at hb
        clear ho hd hl hl'
        go_enter Try.func42, Try.ntmps42
        go_wp2_with (go_at_call 37; (with_reducible refine hb.mono ?_); rintro e w1 ⟨rfl, t1⟩)
        go_ret
        exact ⟨rfl, t1⟩
      · rw [if_neg ho]
        rw [if_neg ho, if_neg ho] at hb
        clear ho hd hl hl'
        go_enter Try.func42, Try.ntmps42
        go_wp2_with (go_at_call 37; (with_reducible refine hb.mono ?_); rintro e w1 ⟨rfl, t1⟩)
        go_ret
        exact ⟨rfl, t1⟩
theorem rtRoom_any (g : Nat) (s : Tp) (P : Nat → Prop) (n : Int) (w : World) (h : RtAt w P g s) :
    Calls Try.prog 34 #[.pointer (some ⟨g, 0, none⟩), .int .i64 n] w (RtPost (.tuple #[]) P g (s.setRoom n) w) := by
  obtain ⟨A, m, c, h1, h2, h3, h4⟩ := h
  have c2 := h1.c2
  have f2 := h1.fz 2
  have hk : ∀ r, min (max n 0) 16777216 = r → RtStep P g (s.setRoom n) w (w.setCell ⟨g, 2, none⟩ (.int .i64 r)) := fun r hr => by
    subst hr
    exact ⟨RtAt.keep h2 h3 h4 (set_grown w g 2 _) (h1.set2 _) rfl, set_grown w g 2 _⟩
  by_cases h0 : n < 0
  · have := hk 0 (by omega)
    go_enter Try.func34, Try.ntmps34
    go_wp2
    go_end0
    exact ⟨rfl, this⟩
  · have h1 : 0 ≤ n := by omega
    by_cases h5 : n ≤ 16777216
    · have := hk n (by omega)
      go_enter Try.func34, Try.ntmps34
      go_wp2
      go_end0
      exact ⟨rfl, this⟩
    · have := hk 16777216 (by omega)
      go_enter Try.func34, Try.ntmps34
      go_wp2
      go_end0
      exact ⟨rfl, this⟩
theorem rtFuse_any (g : Nat) (s : Tp) (P : Nat → Prop) (n : Int) (w : World) (h : RtAt w P g s) :
    Calls Try.prog 43 #[.pointer (some ⟨g, 0, none⟩), .int .i64 n] w (RtPost (.tuple #[]) P g (s.setFuse n) w) := by
  obtain ⟨A, m, c, h1, h2, h3, h4⟩ := h
  have c3 := h1.c3
  have f3 := h1.fz 3
  have hk : ∀ r, max n 0 = r → RtStep P g (s.setFuse n) w (w.setCell ⟨g, 3, none⟩ (.int .i64 r)) := fun r hr => by
    subst hr
    exact ⟨RtAt.keep h2 h3 h4 (set_grown w g 3 _) (h1.set3 _) rfl, set_grown w g 3 _⟩
  by_cases h0 : n < 0
  · have := hk 0 (by omega)
    go_enter Try.func43, Try.ntmps43
    go_wp2
    go_end0
    exact ⟨rfl, this⟩
  · have h1 : 0 ≤ n := by omega
    have := hk n (by omega)
    go_enter Try.func43, Try.ntmps43
    go_wp2
    go_end0
    exact ⟨rfl, this⟩
/-- what a new one leaves. -/
def NewRt (r : Int) (w : World) (e : Ending) (w' : World) : Prop := ∃ g, e = .returned (.pointer (some ⟨g, 0, none⟩)) ∧ w.heap.size ≤ g ∧ RtAt w' (fun k => w.heap.size ≤ k) g (Tp.new.setRoom r) ∧ Below w.heap.size w w'
theorem rtNew_any (r : Int) (w : World) : Calls Try.prog 20 #[.int .i64 r] w (NewRt r w) := by
  have hb : RtBlk (w.alloc (.cells #[.slice none 0 0, .int .i64 0, .int .i64 0, .int .i64 0, .bool false] 47)) w.heap.size none 0 0 Tp.new := Blk.new w _ _
  have ha : RtAt (w.alloc (.cells #[.slice none 0 0, .int .i64 0, .int .i64 0, .int .i64 0, .bool false] 47)) (fun k => w.heap.size ≤ k) w.heap.size Tp.new := ⟨none, 0, 0, hb, RB.nil _ _, Nat.le_refl _, fun h => absurd h (by omega)⟩
  have hr := rtRoom_any w.heap.size Tp.new _ r _ ha
  go_enter Try.func20, Try.ntmps20
  go_wp2_with (go_at_call 34; (with_reducible refine hr.mono ?_); rintro e w1 ⟨rfl, h1, hg1⟩)
  go_ret
  refine ⟨_, rfl, Nat.le_refl _, h1.mono (fun k hk => ?_), ((Below.refl _ _).alloc (Nat.le_refl _) _).grown hg1 (by simp) (fun k hk => by cases hk; exact Nat.le_refl _)⟩
  rcases hk with hk | hk
  · exact hk
  · simp at hk; omega
end Go.Proofs.Ytdhegecnhglplaa
