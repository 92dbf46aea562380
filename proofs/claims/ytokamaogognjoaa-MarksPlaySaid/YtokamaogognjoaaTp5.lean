/-
  Fall and Rise of both tapes.
-/
import Derived.Test.YtokamaogognjoaaTp3a
import Derived.Test.YtokamaogognjoaaRt1
set_option linter.unusedVariables false
set_option linter.unusedSimpArgs false
namespace Go.Proofs.Ytokamaogognjoaa
open Go.RowKit

/-- how many of the waiting bytes stay. -/
def Tp.stay (s : Tp) (k : Int) : Nat := (min (max k 0) ((s.b.length : Int) - s.held)).toNat
set_option maxRecDepth 100000 in
theorem Tp.stay_le {s : Tp} {k : Int} (h : s.held ≤ s.b.length) : s.held + s.stay k ≤ s.b.length := by unfold Tp.stay; omega
set_option maxRecDepth 100000 in
theorem Tp.fall_eq (s : Tp) (k : Int) : s.fall k = s.sink.cutTo (s.held + s.stay k) := rfl
set_option maxRecDepth 100000 in
theorem Tp.sink_b (s : Tp) : s.sink.b = s.b := rfl
set_option maxRecDepth 100000 in
theorem Tp.sink_held (s : Tp) : s.sink.held = s.held := rfl
set_option maxRecDepth 100000 in
/-- the three ways of a fall. -/
theorem Tp.stay_ways (s : Tp) (k : Int) (n : Nat) (hn : s.b.length = n) (h : s.held ≤ n) : (k < 0 ∧ s.stay k = 0) ∨ (0 ≤ k ∧ k ≤ (n : Int) - s.held ∧ (s.stay k : Int) = k) ∨ (0 ≤ k ∧ (n : Int) - s.held < k ∧ (s.stay k : Int) = (n : Int) - s.held) := by
  unfold Tp.stay
  omega
set_option maxRecDepth 100000 in
theorem tpStep_drew {P : Nat → Prop} {g : Nat} {s : Tp} {w w' : World} (h : TpAt w' (fun k => P k ∨ (w.drew).heap.size ≤ k) g s ∧ (w.drew).grownBy w' (some g)) : TpStep P g s w w' := ⟨h.1, (grown_drewN (World.grownBy.refl w _) 1).trans h.2⟩
set_option maxRecDepth 100000 in
set_option maxHeartbeats 1000000 in
theorem tpFall_any (g : Nat) (s : Tp) (P : Nat → Prop) (k : Int) (w : World) (h : TpAt w P g s) (hh : s.held ≤ s.b.length) (hl : s.b.length ≤ 1000000000) (hf : s.falls ≤ 1000000000) :
    Calls Try.prog 20 #[.pointer (some ⟨g, 0, none⟩), .int .i64 k] w (TpPost (.tuple #[]) P g (s.fall k) w) := by
  have hs := sink_any g s P w h hf
  have hsl := Tp.stay_le (k := k) hh
  have hcp := fun (W : World) (P' : Nat → Prop) (hW : TpAt W P' g s.sink) => cutPass_any g s.sink P' (s.held + s.stay k) W hW hsl
  have e1 : ((s.held + s.stay k : Nat) : Int) = (s.held : Int) + s.stay k := by omega
  rw [e1] at hcp
  rw [Tp.fall_eq]
  have hb' : s.sink.b = s.b := rfl
  have hh' : s.sink.held = s.held := rfl
  generalize s.sink = t at *
  have wa := fun n hn => Tp.stay_ways s k n hn
  generalize s.stay k = q at *
  clear e1
  go_enter Try.func20, Try.ntmps20
  go_wp2_with (go_at_call 45; (with_reducible refine hs.mono ?_); rintro e w1 ⟨rfl, t1, hg1⟩)
  have hc := (hcp _ _ t1).mono (R' := TpPost (.tuple #[]) (fun k => P k ∨ w.heap.size ≤ k) g (t.cutTo (s.held + q)) w1) (fun _ _ h => h)
  have hcd := hcp (w1.drew) _ (t1.below (drewN_below w1 1))
  obtain ⟨A, n, c, h1, h2, h3, h4⟩ := t1
  have c0 := h1.c0
  have c1 := h1.c1
  rw [hh'] at c1
  have hn := h2.len
  rw [hb'] at hn
  have hwn : IntKind.i64.wrap ((n : Int) - s.held) = (n : Int) - s.held := IntWalk.i64_in _ (by omega)
  have hww : wrap64 ((n : Int) - s.held) = (n : Int) - s.held := by unfold wrap64; omega
  have hin : (s.held : Int) ≤ n := by omega
  have w9 := wa n hn (by omega)
  clear wa hcp hs hb' hh'
  have HN := Lib.hid hn
  clear hn
  rcases w9 with ⟨h5, h6⟩ | ⟨h5, h6, h7⟩ | ⟨h5, h6, h7⟩
  · have k1 : max k 0 = 0 := by omega
    have k2 : min (0 : Int) ((n : Int) - s.held) = 0 := by omega
    have k3 : ((n : Int) - s.held < 0) = False := by simp; omega
    have k4 : (k < 0) = True := by simp; omega
    subst h6
    have hcd' : Calls Try.prog 46 #[.agg #[.int .i64 s.held], .pointer (some ⟨g, 0, none⟩)] w1.drew (TpPost (.tuple #[]) (fun k => P k ∨ w.heap.size ≤ k) g (t.cutTo (s.held + 0)) w1.drew) := by simpa using hcd
    have kw : IntKind.i64.wrap (s.held : Int) = s.held := IntWalk.i64_in _ (by omega)
    clear hc hcd
    refine still_tail 20 (by kernel_rfl) (by kernel_rfl) ?_
    simp only [List.take_succ_cons, List.take_zero, List.drop_succ_cons, List.drop_zero]
    repeat still_step
    refine wpStill_nil ?_
    go_wp2_with (go_at_call 46; (with_reducible refine hcd'.mono ?_); rintro e w2 ⟨rfl, t2⟩)
    all_goals
      go_end0
      exact ⟨rfl, TpStep.trans ⟨TpAt.old h1 h2 h3 h4, hg1⟩ (tpStep_drew t2)⟩
  · have k1 : max k 0 = k := by omega
    have k2 : ((n : Int) - s.held < k) = False := by simp; omega
    have k4 : (k < 0) = False := by simp; omega
    have kw : IntKind.i64.wrap ((s.held : Int) + k) = s.held + k := IntWalk.i64_in _ (by omega)
    rw [h7] at hcd
    have HQ := Lib.hid h7
    clear hc h7
    refine still_tail 20 (by kernel_rfl) (by kernel_rfl) ?_
    simp only [List.take_succ_cons, List.take_zero, List.drop_succ_cons, List.drop_zero]
    repeat still_step
    refine wpStill_nil ?_
    go_wp2_with (go_at_call 46; (with_reducible refine hcd.mono ?_); rintro e w2 ⟨rfl, t2⟩)
    all_goals
      go_end0
      exact ⟨rfl, TpStep.trans ⟨TpAt.old h1 h2 h3 h4, hg1⟩ (tpStep_drew t2)⟩
  · have k1 : max k 0 = k := by omega
    have k2 : ((n : Int) - s.held < k) = True := by simp; omega
    have k4 : (k < 0) = False := by simp; omega
    have kw : IntKind.i64.wrap ((s.held : Int) + ((n : Int) - s.held)) = n := by rw [IntWalk.i64_in _ (by omega)]; omega
    have kw2 : IntKind.i64.wrap (n : Int) = n := IntWalk.i64_in _ (by omega)
    rw [h7, show (s.held : Int) + ((n : Int) - s.held) = n from by omega] at hcd
    have HQ := Lib.hid h7
    clear hc h7
    refine still_tail 20 (by kernel_rfl) (by kernel_rfl) ?_
    simp only [List.take_succ_cons, List.take_zero, List.drop_succ_cons, List.drop_zero]
    repeat still_step
    refine wpStill_nil ?_
    go_wp2_with (go_at_call 46; (with_reducible refine hcd.mono ?_); rintro e w2 ⟨rfl, t2⟩)
    all_goals
      go_end0
      exact ⟨rfl, TpStep.trans ⟨TpAt.old h1 h2 h3 h4, hg1⟩ (tpStep_drew t2)⟩
end Go.Proofs.Ytokamaogognjoaa
