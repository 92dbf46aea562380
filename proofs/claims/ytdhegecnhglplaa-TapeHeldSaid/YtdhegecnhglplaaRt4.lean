/-
  trestleref04.Tape: Fall, Rise.
-/
import Derived.Test.YtdhegecnhglplaaTp5
import Derived.Test.YtdhegecnhglplaaRt2
set_option linter.unusedVariables false
set_option linter.unusedSimpArgs false
namespace Go.Proofs.Ytdhegecnhglplaa
open Go.RowKit

theorem rtFall_fin {w : World} {P : Nat → Prop} {g p n c : Nat} {s : Tp} {A : Option Addr} {k : Int} {v : Int} (q : Nat) (h1 : RtBlk w g A n c s) (h2 : RB w A n s.b) (h4 : 0 < n → ∃ ad, A = some ad ∧ P ad.block ∧ ad.block ≠ g) (hp : p ≤ n) (hnc : n ≤ c) (hpv : (p : Int) = v) (hst : s.held + s.stay k = p) :
    RtPost (.tuple #[]) P g (s.fall k) w (.returned (.tuple #[])) (((((w.drewN q).setCell ⟨g, 0, none⟩ (.slice A p c)).setCell ⟨g, 1, none⟩ (.int .i64 v)).setCell ⟨g, 4, none⟩ (.bool true))) := by
  subst hpv
  have h6 := (((h1.drewN q).set0 A p c (s.b.take p)).set1 p).set4 true
  have hg : w.grownBy (((((w.drewN q).setCell ⟨g, 0, none⟩ (.slice A p c)).setCell ⟨g, 1, none⟩ (.int .i64 p)).setCell ⟨g, 4, none⟩ (.bool true))) (some g) := grown_setCell (p := ⟨g, 4, none⟩) (grown_setCell (p := ⟨g, 1, none⟩) (grown_setCell (p := ⟨g, 0, none⟩) (grown_drewN (World.grownBy.refl w _) q) (.inl rfl) _) (.inl rfl) _) (.inl rfl) _
  refine ⟨rfl, ?_, hg⟩
  rw [Tp.fall_eq, hst]
  exact ⟨A, p, c, h6, (h2.awayOf h4 hg).take hp, by omega, fun h0 => by obtain ⟨ad, e1, e2, e3⟩ := h4 (by omega); exact ⟨ad, e1, .inl e2, e3⟩⟩
set_option maxHeartbeats 1000000 in
theorem rtFall_any (g : Nat) (s : Tp) (P : Nat → Prop) (k : Int) (w : World) (h : RtAt w P g s) (hh : s.held ≤ s.b.length) (hl : s.b.length ≤ 1000000000) :
    Calls Try.prog 44 #[.pointer (some ⟨g, 0, none⟩), .int .i64 k] w (RtPost (.tuple #[]) P g (s.fall k) w) := by
  obtain ⟨A, n, c, h1, h2, h3, h4⟩ := h
  have c0 := h1.c0
  have c1 := h1.c1
  have c4 := h1.c4
  have f0 := h1.fz 0
  have f1 := h1.fz 1
  have f4 := h1.fz 4
  have hn := h2.len
  have hst := Tp.stay_ways s k n hn (by omega)
  have hin : (s.held : Int) ≤ n := by omega
  have hwn : IntKind.i64.wrap ((n : Int) - s.held) = (n : Int) - s.held := IntWalk.i64_in _ (by omega)
  have hww : wrap64 ((n : Int) - s.held) = (n : Int) - s.held := by unfold wrap64; omega
  have kw : IntKind.i64.wrap (s.held : Int) = s.held := IntWalk.i64_in _ (by omega)
  have m1 : (s.held : Int) ≤ c := by omega
  by_cases ha : k ≤ 0
  · have hs0 : s.stay k = 0 := by omega
    have k1 : ((n : Int) - s.held < k) = False := by simp; omega
    have k2 : (0 < k) = False := by simp; omega
    have hin2 : s.held ≤ n := by omega
    clear hst hn
    go_enter Try.func44, Try.ntmps44
    go_wp2
    go_quiet (fail)
    go_wp2
    go_end0
    exact rtFall_fin _ h1 h2 h4 hin2 h3 rfl (by omega)
  · by_cases hb : (n : Int) = s.held
    · have hs0 : s.stay k = 0 := by omega
      have k1 : ((n : Int) - s.held < k) = True := by simp; omega
      have k2 : (0 < (n : Int) - s.held) = False := by simp; omega
      have k3 : (s.held < n) = False := by simp; omega
      have k5 : ((s.held : Int) < n) = False := by simp; omega
      have kw4 : wrap64 ((s.held : Int) + ((n : Int) - s.held)) = s.held := by unfold wrap64; omega
      have hin2 : s.held ≤ n := by omega
      have HB := Lib.hid hb
      clear hst hn hb
      go_enter Try.func44, Try.ntmps44
      go_wp2
      go_quiet (fail)
      go_wp2
      go_end0
      exact rtFall_fin _ h1 h2 h4 hin2 h3 rfl (by omega)
    · by_cases hc : k ≤ (n : Int) - s.held
      · obtain ⟨q, rfl⟩ : ∃ q : Nat, k = (q : Int) := ⟨k.toNat, by omega⟩
        have hs0 : s.stay q = q := by omega
        have k1 : ((n : Int) - s.held < (q : Int)) = False := by simp; omega
        have k2 : (0 < (q : Int)) = True := by simp; omega
        have k2' : (0 < q) = True := by simp; omega
        have kw2 : IntKind.i64.wrap ((s.held : Int) + q) = (s.held : Int) + q := IntWalk.i64_in _ (by omega)
        have m2 : (0 : Int) ≤ (s.held : Int) + q := by omega
        have m3 : (s.held : Int) + q ≤ c := by omega
        have m4 : ((s.held : Int) + q).toNat = s.held + q := by omega
        have hin2 : s.held + q ≤ n := by omega
        clear hst hn hb ha hc
        go_enter Try.func44, Try.ntmps44
        go_wp2
        go_quiet (fail)
        go_wp2
        go_end0
        exact rtFall_fin _ h1 h2 h4 hin2 h3 (by omega) (by rw [hs0])
      · have hs0 : s.held + s.stay k = n := by omega
        have k1 : ((n : Int) - s.held < k) = True := by simp; omega
        have k2 : (0 < (n : Int) - s.held) = True := by simp; omega
        have kw2 : IntKind.i64.wrap ((s.held : Int) + ((n : Int) - s.held)) = n := by rw [IntWalk.i64_in _ (by omega)]; omega
        have k3 : (s.held < n) = True := by simp; omega
        have k5 : ((s.held : Int) < n) = True := by simp; omega
        have kw4 : wrap64 ((s.held : Int) + ((n : Int) - s.held)) = n := by unfold wrap64; omega
        have kw3 : IntKind.i64.wrap (n : Int) = n := IntWalk.i64_in _ (by omega)
        have m3 : (n : Int) ≤ c := by omega
        have HS := Lib.hid hs0
        clear hst hn hb ha hc hs0
        go_enter Try.func44, Try.ntmps44
        go_wp2
        go_quiet (fail)
        go_wp2
        go_end0
        exact rtFall_fin _ h1 h2 h4 (Nat.le_refl _) h3 rfl HS.out
theorem rtRise_any (g : Nat) (s : Tp) (P : Nat → Prop) (w : World) (h : RtAt w P g s) (hh : s.held ≤ s.b.length) :
    Calls Try.prog 45 #[.pointer (some ⟨g, 0, none⟩)] w (RtPost (.tuple #[]) P g s.rise w) := by
  have h' := h
  obtain ⟨A, n, c, h1, h2, h3, h4⟩ := h
  have c0 := h1.c0
  have c1 := h1.c1
  have c4 := h1.c4
  have f0 := h1.fz 0
  have f4 := h1.fz 4
  have hn := h2.len
  have m1 : (s.held : Int) ≤ c := by omega
  have m2 : s.held ≤ n := by omega
  unfold Tp.rise
  by_cases hd : s.down = true
  · rw [if_pos hd]
    rw [hd] at c4
    clear hd hn
    go_enter Try.func45, Try.ntmps45
    go_wp2
    go_region
    all_goals
      go_end0
      have hg : w.grownBy (((w.setCell ⟨g, 0, none⟩ (.slice A s.held c)).setCell ⟨g, 4, none⟩ (.bool false)).drewN 1) (some g) := grown_drewN (grown_setCell (p := ⟨g, 4, none⟩) (grown_setCell (p := ⟨g, 0, none⟩) (World.grownBy.refl w _) (.inl rfl) _) (.inl rfl) _) 1
      have h6 : RtBlk (((w.setCell ⟨g, 0, none⟩ (.slice A s.held c)).setCell ⟨g, 4, none⟩ (.bool false)).drewN 1) g A s.held c { s.cutTo s.held with down := false } := ((h1.set0 A s.held c (s.b.take s.held)).set4 false).drewN 1
      exact ⟨rfl, ⟨A, s.held, c, h6, (h2.awayOf h4 hg).take m2, by omega, fun h0 => by obtain ⟨ad, e1, e2, e3⟩ := h4 (by omega); exact ⟨ad, e1, .inl e2, e3⟩⟩, hg⟩
  · rw [if_neg hd]
    have hd : s.down = false := by simpa using hd
    rw [hd] at c4
    go_enter Try.func45, Try.ntmps45
    go_wp2
    go_end0
    exact ⟨rfl, RtStep.refl h'⟩
end Go.Proofs.Ytdhegecnhglplaa
