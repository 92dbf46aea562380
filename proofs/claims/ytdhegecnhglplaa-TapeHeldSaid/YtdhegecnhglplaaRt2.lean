/-
  trestleref04.Tape: its methods.
-/
import Derived.Test.YtdhegecnhglplaaRt1
set_option linter.unusedVariables false
set_option linter.unusedSimpArgs false
namespace Go.Proofs.Ytdhegecnhglplaa
open Go.RowKit

theorem RtStep.down {w : World} {P : Nat → Prop} {g : Nat} {s : Tp} (h : RtAt w P g s) (x : Bool) : RtStep P g { s with down := x } w (w.setCell ⟨g, 4, none⟩ (.bool x)) := by
  obtain ⟨A, n, c, h1, h2, h3, h4⟩ := h
  exact ⟨RtAt.keep h2 h3 h4 (set_grown w g 4 _) (h1.set4 x) rfl, set_grown w g 4 _⟩
/-- what 'burns' answers, and leaves. -/
def Tp.afterBurn (s : Tp) : Tp := if s.fuse = 1 then { s with fuse := 0, down := true } else s.burn
theorem burns_any (g : Nat) (s : Tp) (P : Nat → Prop) (w : World) (h : RtAt w P g s) (hd : s.down = false) (f0 : 0 ≤ s.fuse) (f1 : s.fuse ≤ 9223372036854775807) :
    Calls Try.prog 36 #[.pointer (some ⟨g, 0, none⟩)] w (RtPost (.bool (decide (s.fuse = 1))) P g s.afterBurn w) := by
  have h' := h
  obtain ⟨A, n, c, h1, h2, h3, h4⟩ := h'
  have c3 := h1.c3
  have f3 := h1.fz 3
  have c4 := h1.c4
  have f4 := h1.fz 4
  rw [hd] at c4
  unfold Tp.afterBurn
  by_cases hz : s.fuse = 0
  · rw [decide_eq_false (by omega), if_neg (by omega)]
    have hbn : s.burn = s := by unfold Tp.burn; rw [hz]; cases s; simp_all; omega
    rw [hbn]
    rw [hz] at c3
    clear hz hd hbn f0 f1
    go_enter Try.func36, Try.ntmps36
    go_wp2
    go_ret
    exact ⟨rfl, RtStep.refl h⟩
  · by_cases ho : s.fuse = 1
    · rw [decide_eq_true ho, if_pos ho]
      rw [ho] at c3
      clear hz hd f0 f1 ho
      have t1 := RtStep.fuse h 0
      have t2 := t1.trans (RtStep.down t1.1 true)
      go_enter Try.func36, Try.ntmps36
      go_wp2
      go_ret
      exact ⟨rfl, t2⟩
    · rw [decide_eq_false ho, if_neg ho]
      have hbn : s.burn = { s with fuse := s.fuse - 1, down := false } := by unfold Tp.burn; rw [show max (s.fuse - 1) 0 = s.fuse - 1 from by omega, ← hd]
      rw [hbn]
      have k1 : (s.fuse == 0) = false := by simpa using hz
      have k2 : (s.fuse - 1 == 0) = false := by simp; omega
      have k4 : wrap64 (s.fuse - 1) = s.fuse - 1 := by unfold wrap64; omega
      have k5 : IntKind.i64.wrap (s.fuse - 1) = s.fuse - 1 := IntWalk.i64_in _ (by omega)
      clear hz ho hd hbn
      have t1 := RtStep.fuse h (s.fuse - 1)
      have t2 := t1.trans (RtStep.down t1.1 false)
      go_enter Try.func36, Try.ntmps36
      go_wp2
      go_ret
      exact ⟨rfl, t2⟩
theorem become_any (g : Nat) (s : Tp) (P : Nat → Prop) (X : Option Addr) (m d : Nat) (ys : List Int) (w : World) (h : RtAt w P g s) (hd : s.down = false) (f0 : 0 ≤ s.fuse) (f1 : s.fuse ≤ 9223372036854775807) (hx : RB w X m ys) (hmd : m ≤ d) (hm : m ≤ 1000000000) :
    Calls Try.prog 37 #[.pointer (some ⟨g, 0, none⟩), .slice X m d] w (RtPost (.int .i64 (if s.fuse = 1 then 16 else 0)) P g (if s.fuse = 1 then { s with fuse := 0, down := true } else s.burn.sw ys) w) := by
  have hb := burns_any g s P w h hd f0 f1
  unfold Tp.afterBurn at hb
  have hl := hx.len
  by_cases ho : s.fuse = 1
  · rw [if_pos ho, if_pos ho]
    rw [decide_eq_true ho, if_pos ho] at hb
    clear ho hl hd
    go_enter Try.func37, Try.ntmps37
    go_wp2_with (go_at_call 36; (with_reducible refine hb.mono ?_); rintro e w1 ⟨rfl, t1⟩)
    go_ret
    exact ⟨rfl, t1⟩
  · rw [if_neg ho, if_neg ho]
    rw [decide_eq_false ho, if_neg ho] at hb
    have HL := Lib.hid hl
    have hcp := fun (W : World) (hW : RB W X m ys) => copyBytes_any X m d ys W hW (by omega)
    clear ho hl hd hm
    go_enter Try.func37, Try.ntmps37
    go_wp2_with (first
      | (go_at_call 36; (with_reducible refine hb.mono ?_); rintro e w1 ⟨rfl, ⟨A1, n1, c1, h11, h12, h13, h14⟩, hg1⟩; have hx1 := hx.overRt h hg1)
      | (go_at_call 35; (with_reducible refine (hcp _ hx1).mono ?_); rintro e w2 ⟨V, C0, rfl, ho, hc0, hb2⟩; have h22 := h11.below hb2; have c0 := h22.c0; have f0 := h22.fz 0; have c1 := h22.c1; have f1 := h22.fz 1; have hgl := Blk.lt h11))
    go_ret
    have hs1 := hg1.size
    have hs2 := hb2.size
    have h6 : RtBlk ((w2.setCell ⟨g, 0, none⟩ (.slice V m C0)).setCell ⟨g, 1, none⟩ (.int .i64 m)) g V m C0 (s.burn.sw ys) := by
      have := (h22.set0 V m C0 ys).set1 m
      unfold Tp.sw
      rw [HL.out]
      exact this
    have ho6 := (ho.setFar hgl 0 (.slice V m C0)).setFar hgl 1 (.int .i64 m)
    have hg6 : w.grownBy ((w2.setCell ⟨g, 0, none⟩ (.slice V m C0)).setCell ⟨g, 1, none⟩ (.int .i64 m)) (some g) := grown_setCell (p := ⟨g, 1, none⟩) (grown_setCell (p := ⟨g, 0, none⟩) (hg1.trans (grown_below hb2 _)) (.inl rfl) _) (.inl rfl) _
    exact ⟨rfl, RtAt.fresh h6 rfl ho6 hgl (fun k hk => .inr (by omega)), hg6⟩
end Go.Proofs.Ytdhegecnhglplaa
