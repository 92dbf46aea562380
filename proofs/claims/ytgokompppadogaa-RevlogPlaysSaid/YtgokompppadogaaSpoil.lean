/-
  trestlehelp.Spoil.
-/
import Derived.Test.YtgokompppadogaaOwn
set_option linter.unusedVariables false
set_option linter.unusedSimpArgs false
namespace Go.Proofs.Ytgokompppadogaa
open Go.RowKit

theorem xor_range (x : Int) : ∃ r, bits .xor .u8 x 85 = r ∧ 0 ≤ r ∧ r ≤ 255 := by
  refine ⟨_, rfl, ?_⟩
  show 0 ≤ IntKind.u8.wrap _ ∧ IntKind.u8.wrap _ ≤ 255
  simp only [IntKind.wrap, IntKind.signed, IntKind.bits]
  constructor <;> simp <;> omega
def SpoilPost (base : Nat) (v : Value) (n : Nat) (w : World) (e : Ending) (w' : World) : Prop := e = .returned (.tuple #[]) ∧ (∃ ys, OB w' base v n ys) ∧ w.grownBy w' v.ownBlock
theorem spoil_some (g n c base : Nat) (xs : List Int) (w : World) (h : OB w base (.slice (some ⟨g, 0, none⟩) n c) n xs) (hn : n ≤ 140737488355328) :
    Calls Try.prog 21 #[.slice (some ⟨g, 0, none⟩) n c] w (SpoilPost base (.slice (some ⟨g, 0, none⟩) n c) n w) := by
  go_enter Try.func21, Try.ntmps21
  go_wp2
  go_loopw [2] (fun i wr => ∃ (k : Nat) (zs : List Int), k ≤ n ∧ i = .int .i64 k ∧ OB wr base (.slice (some ⟨g, 0, none⟩) n c) n zs ∧ w.grownBy wr (some g)) (fun i _ => n - (intOf i).toNat)
  case atStart => exact ⟨0, xs, by omega, rfl, h, World.grownBy.refl _ _⟩
  case round =>
    obtain ⟨k, zs, hk, rfl, ho, hg⟩ := hrel
    by_cases h1 : k < n
    · have c0 := ho.cellAt h1
      have f0 := ho.frozenAt k
      obtain ⟨r, hr, r0, r1⟩ := xor_range (gi zs k)
      go_wp2
      go_roundw
      case rel => exact ⟨k + 1, _, by omega, by go_num, ho.store k r0 r1, grown_setCell hg (.inl rfl) _⟩
      case measure => simp [intOf]; omega
    · go_wp2
      go_end0
      exact ⟨rfl, ⟨zs, ho⟩, hg⟩
theorem spoil_none (w : World) (base : Nat) :
    Calls Try.prog 21 #[.slice none 0 0] w (SpoilPost base (.slice none 0 0) 0 w) := by
  go_enter Try.func21, Try.ntmps21
  go_wp2
  refine wp_loop_rounds 1 ?_
  rw [rounds_succ]
  go_wp2
  go_end0
  exact ⟨rfl, ⟨[], OB.nil _ _⟩, World.grownBy.refl _ _⟩
theorem spoil_any (A : Option Addr) (n c base : Nat) (xs : List Int) (w : World) (h : OB w base (.slice A n c) n xs) (hn : n ≤ 140737488355328) :
    Calls Try.prog 21 #[.slice A n c] w (SpoilPost base (.slice A n c) n w) := by
  rcases h.form with ⟨hv, h0, hx⟩ | ⟨g, cap, cur, hv, _⟩
  · injection hv with hA _ hc
    subst hA h0 hx hc
    exact spoil_none w base
  · injection hv with hA _ hc
    subst hA hc
    exact spoil_some g n c base xs w h hn
theorem OwnB.grown {w w' : World} {B g n : Nat} {xs : List Int} {f : Int} {row : Option Nat} (h : OwnB w B g n xs f) (hg : w.grownBy w' row) (hne : some g ≠ row) : OwnB w' B g n xs f := ⟨h.1, h.2.1, h.2.2.grown hg hne⟩
end Go.Proofs.Ytgokompppadogaa
