/-
  tape.Tape: the exported methods.
-/
import Derived.Test.YtokamaogognjoaaTp3
set_option linter.unusedVariables false
set_option linter.unusedSimpArgs false
namespace Go.Proofs.Ytokamaogognjoaa
open Go.RowKit

set_option maxRecDepth 100000 in
theorem tpWrite_any (g : Nat) (s : Tp) (P : Nat → Prop) (A : Option Addr) (k c : Nat) (ps : List (List Int)) (w : World) (h : TpAt w P g s) (hok : s.Ok 400000000) (hp : RBs w A k ps) (hkc : k ≤ c) (hk : k ≤ 1000000) (hl : ps.flatten.length ≤ 400000000) :
    Calls Try.prog 19 #[.pointer (some ⟨g, 0, none⟩), .slice A k c] w (TpPost (.int .i64 (s.write ps.flatten).1) P g (s.write ps.flatten).2 w) := by
  have hcat := concat_any A k c ps w hp hkc (by omega) (by omega)
  generalize ps.flatten = ys at *
  clear hp
  go_enter Try.func19, Try.ntmps19
  go_wp2_with (first
    | (go_at_call 44; (with_reducible refine hcat.mono ?_); rintro e w1 ⟨v, n, rfl, ho, hb1⟩; obtain ⟨V, C0, rfl, hc0⟩ := ho.slice; have hn := ho.len; have t1 := TpStep.below h hb1; have hd := do_write_any g s _ V n C0 _ w1 t1.1 hok ho.reads hc0 (by omega); clear hn)
    | (go_at_call 43; (with_reducible refine hd.mono ?_); rintro e w2 ⟨rfl, t2a, t2b⟩))
  go_ret
  exact ⟨rfl, t1.trans ⟨t2a, t2b⟩⟩
set_option maxRecDepth 100000 in
theorem tpHold_any (g : Nat) (s : Tp) (P : Nat → Prop) (w : World) (h : TpAt w P g s) (hok : s.Ok 400000000) :
    Calls Try.prog 33 #[.pointer (some ⟨g, 0, none⟩)] w (TpPost (.int .i64 s.hold.1) P g s.hold.2 w) := by
  have hd := do_hold_any g s P w h hok
  go_enter Try.func33, Try.ntmps33
  go_wp2_with (go_at_call 43; (with_reducible refine hd.mono ?_); rintro e w2 ⟨rfl, t2a, t2b⟩)
  go_ret
  exact ⟨rfl, t2a, t2b⟩
set_option maxRecDepth 100000 in
theorem tpCut_any (g : Nat) (s : Tp) (P : Nat → Prop) (k : Int) (w : World) (h : TpAt w P g s) (hok : s.Ok 400000000) :
    Calls Try.prog 26 #[.pointer (some ⟨g, 0, none⟩), .int .i64 k] w (TpPost (.int .i64 (s.cut k).1) P g (s.cut k).2 w) := by
  have hd := do_cut_any g s P k w h hok
  go_enter Try.func26, Try.ntmps26
  go_wp2_with (go_at_call 43; (with_reducible refine hd.mono ?_); rintro e w2 ⟨rfl, t2a, t2b⟩)
  go_ret
  exact ⟨rfl, t2a, t2b⟩
set_option maxRecDepth 100000 in
theorem tpSwap_any (g : Nat) (s : Tp) (P : Nat → Prop) (X : Option Addr) (m d : Nat) (ys : List Int) (w : World) (h : TpAt w P g s) (hok : s.Ok 400000000) (hx : RB w X m ys) (hmd : m ≤ d) (hm : m ≤ 400000000) :
    Calls Try.prog 42 #[.pointer (some ⟨g, 0, none⟩), .slice X m d] w (TpPost (.int .i64 (s.swap ys).1) P g (s.swap ys).2 w) := by
  have hd := do_swap_any g s P X m d ys w h hok hx hmd hm
  go_enter Try.func42, Try.ntmps42
  go_wp2_with (go_at_call 43; (with_reducible refine hd.mono ?_); rintro e w2 ⟨rfl, t2a, t2b⟩)
  go_ret
  exact ⟨rfl, t2a, t2b⟩
set_option maxRecDepth 100000 in
theorem tpBytes_any (g : Nat) (s : Tp) (P : Nat → Prop) (w : World) (h : TpAt w P g s) (hl : s.b.length ≤ 1000000000) :
    Calls Try.prog 11 #[.pointer (some ⟨g, 0, none⟩)] w (NewB s.b.length s.b w) := by
  obtain ⟨A, n, c, h1, h2, h3, h4⟩ := h
  have c0 := h1.c0
  have hn := h2.len
  rw [hn]
  have hc := clone_any A n c s.b w h2 (by omega)
  clear hn
  go_enter Try.func11, Try.ntmps11
  go_wp2_with (go_at_call 35; (with_reducible refine hc.mono ?_); rintro e w1 ⟨V, C0, rfl, ho, hc0, hb1⟩)
  go_ret
  exact ⟨V, C0, rfl, ho, hc0, hb1⟩
set_option maxRecDepth 100000 in
theorem tpDown_any (g : Nat) (s : Tp) (P : Nat → Prop) (w : World) (h : TpAt w P g s) :
    Calls Try.prog 18 #[.pointer (some ⟨g, 0, none⟩)] w (fun e w' => e = .returned (.bool s.down) ∧ w = w') := by
  obtain ⟨A, n, c, h1, h2, h3, h4⟩ := h
  have c5 := h1.c5
  go_enter Try.func18, Try.ntmps18
  go_wp2
  go_ret
  exact ⟨rfl, rfl⟩
set_option maxRecDepth 100000 in
theorem fitting_any (n : Int) (w : World) : Calls Try.prog 39 #[.int .i64 n] w (fun e w' => e = .returned (.int .i64 (min (max n 0) 16777216)) ∧ w = w') := by
  by_cases h0 : n < 0
  · rw [show min (max n 0) 16777216 = 0 from by omega]
    go_enter Try.func39, Try.ntmps39
    go_wp2
    go_ret
    exact ⟨rfl, rfl⟩
  · have h1 : 0 ≤ n := by omega
    by_cases h2 : n ≤ 16777216
    · rw [show min (max n 0) 16777216 = n from by omega]
      go_enter Try.func39, Try.ntmps39
      go_wp2
      go_ret
      exact ⟨rfl, rfl⟩
    · rw [show min (max n 0) 16777216 = 16777216 from by omega]
      go_enter Try.func39, Try.ntmps39
      go_wp2
      go_ret
      exact ⟨rfl, rfl⟩
set_option maxRecDepth 100000 in
theorem tpRoom_any (g : Nat) (s : Tp) (P : Nat → Prop) (n : Int) (w : World) (h : TpAt w P g s) :
    Calls Try.prog 14 #[.pointer (some ⟨g, 0, none⟩), .int .i64 n] w (TpPost (.tuple #[]) P g (s.setRoom n) w) := by
  obtain ⟨A, m, c, h1, h2, h3, h4⟩ := h
  have c2 := h1.c2
  have f2 := h1.fz 2
  have hf := fitting_any n w
  have h6 := h1.set2 (min (max n 0) 16777216)
  have hk : TpAt (w.setCell ⟨g, 2, none⟩ (.int .i64 (min (max n 0) 16777216))) (fun k => P k ∨ w.heap.size ≤ k) g (s.setRoom n) := TpAt.keep h2 h3 h4 (set_grown w g 2 _) h6 rfl
  generalize min (max n 0) 16777216 = r at *
  go_enter Try.func14, Try.ntmps14
  go_wp2_with (go_at_call 39; (with_reducible refine hf.mono ?_); rintro e w1 ⟨rfl, rfl⟩)
  go_end0
  exact ⟨rfl, hk, set_grown w g 2 _⟩
set_option maxRecDepth 100000 in
theorem tpFuse_any (g : Nat) (s : Tp) (P : Nat → Prop) (n : Int) (w : World) (h : TpAt w P g s) :
    Calls Try.prog 17 #[.pointer (some ⟨g, 0, none⟩), .int .i64 n] w (TpPost (.tuple #[]) P g (s.setFuse n) w) := by
  obtain ⟨A, m, c, h1, h2, h3, h4⟩ := h
  have c3 := h1.c3
  have f3 := h1.fz 3
  by_cases h0 : n < 0
  · have e : s.setFuse n = { s with fuse := 0 } := by unfold Tp.setFuse; rw [show max n 0 = 0 from by omega]
    rw [e]
    clear e
    go_enter Try.func17, Try.ntmps17
    go_wp2
    go_end0
    exact ⟨rfl, TpAt.keep h2 h3 h4 (set_grown w g 3 _) (h1.set3 0) rfl, set_grown w g 3 _⟩
  · have e : s.setFuse n = { s with fuse := n } := by unfold Tp.setFuse; rw [show max n 0 = n from by omega]
    have h1' : 0 ≤ n := by omega
    rw [e]
    clear e
    go_enter Try.func17, Try.ntmps17
    go_wp2
    go_end0
    exact ⟨rfl, TpAt.keep h2 h3 h4 (set_grown w g 3 _) (h1.set3 n) rfl, set_grown w g 3 _⟩
set_option maxRecDepth 100000 in
theorem tpRise_any (g : Nat) (s : Tp) (P : Nat → Prop) (w : World) (h : TpAt w P g s) (hh : s.held ≤ s.b.length) :
    Calls Try.prog 23 #[.pointer (some ⟨g, 0, none⟩)] w (TpPost (.tuple #[]) P g s.rise w) := by
  have hp := cutPass_any g s P s.held w h hh
  obtain ⟨A, m, c, h1, h2, h3, h4⟩ := h
  have c5 := h1.c5
  have c1 := h1.c1
  unfold Tp.rise
  by_cases hd : s.down = true
  · rw [if_pos hd]
    rw [hd] at c5
    go_enter Try.func23, Try.ntmps23
    go_wp2_with (go_at_call 46; (with_reducible refine hp.mono ?_); rintro e w1 ⟨rfl, ⟨A1, m1, c1', h11, h12, h13, h14⟩, hg1⟩; have c51 := h11.c5; have f51 := h11.fz 5)
    go_end0
    have hs : w.heap.size ≤ w1.heap.size := hg1.size
    refine ⟨rfl, (TpAt.keep (P := fun k => P k ∨ w.heap.size ≤ k) h12 h13 h14 (set_grown w1 g 5 _) (h11.set5 false) rfl).mono (fun k hk => ?_), grown_setCell hg1 (.inl rfl) _⟩
    rcases hk with hk | hk
    · exact hk
    · exact .inr (Nat.le_trans hs hk)
  · rw [if_neg hd]
    have hd : s.down = false := by simpa using hd
    rw [hd] at c5
    go_enter Try.func23, Try.ntmps23
    go_wp2
    go_end0
    exact ⟨rfl, TpAt.mono ⟨A, m, c, h1, h2, h3, h4⟩ (fun k hk => .inl hk), World.grownBy.refl _ _⟩
/-- what a new one leaves. -/
def NewTp (r : Int) (w : World) (e : Ending) (w' : World) : Prop := ∃ g, e = .returned (.pointer (some ⟨g, 0, none⟩)) ∧ w.heap.size ≤ g ∧ TpAt w' (fun k => w.heap.size ≤ k) g (Tp.new.setRoom r) ∧ Below w.heap.size w w'
set_option maxRecDepth 100000 in
theorem tpNew_any (r : Int) (w : World) : Calls Try.prog 7 #[.int .i64 r] w (NewTp r w) := by
  have hb : TpBlk (w.alloc (.cells #[.slice none 0 0, .int .i64 0, .int .i64 0, .int .i64 0, .int .i64 0, .bool false] 60)) w.heap.size none 0 0 Tp.new := Blk.new w _ _
  have ha : TpAt (w.alloc (.cells #[.slice none 0 0, .int .i64 0, .int .i64 0, .int .i64 0, .int .i64 0, .bool false] 60)) (fun k => w.heap.size ≤ k) w.heap.size Tp.new := ⟨none, 0, 0, hb, RB.nil _ _, Nat.le_refl _, fun h => absurd h (by omega)⟩
  have hr := tpRoom_any w.heap.size Tp.new _ r _ ha
  go_enter Try.func7, Try.ntmps7
  go_wp2_with (go_at_call 14; (with_reducible refine hr.mono ?_); rintro e w1 ⟨rfl, h1, hg1⟩)
  go_ret
  refine ⟨_, rfl, Nat.le_refl _, h1.mono (fun k hk => ?_), ((Below.refl _ _).alloc (Nat.le_refl _) _).grown hg1 (by simp) (fun k hk => by cases hk; exact Nat.le_refl _)⟩
  rcases hk with hk | hk
  · exact hk
  · simp at hk; omega
end Go.Proofs.Ytokamaogognjoaa
