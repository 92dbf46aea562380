/-
  Arguments: slices of slices of bytes, out of their reading as data.
-/
import Derived.Test.YtecglmbggldhnaaConcat
import Derived.Test.YtecglmbggldhnaaInts
import Derived.Deep.Matrix
set_option linter.unusedVariables false
set_option linter.unusedSimpArgs false
namespace Go.Proofs.Ytecglmbggldhnaa
open Go.RowKit

theorem RBs.byts {w : World} {A : Option Addr} {k : Nat} {ps : List (List Int)} (h : RBs w A k ps) : Byts ps.flatten := by
  obtain ⟨h1, b, off, h2, h3⟩ := h
  intro x hx
  obtain ⟨p, hp, hxp⟩ := List.mem_flatten.1 hx
  obtain ⟨i, hi, rfl⟩ := List.mem_iff_getElem.1 hp
  obtain ⟨Ai, ci, _, _, hr⟩ := h3 i (by omega)
  have := hr.byts
  rw [List.getD_eq_getElem?_getD, List.getElem?_eq_getElem hi] at this
  exact this x hxp
section
variable {H : Type} {enc : TypeId × Value → H} {w : World} {base fuel : Nat} {held : Bool} {cs : List Value} {x : DataW H × List MemPlace}
theorem open_parts (h : DataW.trod enc Try.prog w base (fun _ => true) held fuel 39 cs = some x) : ∃ A k c ps, cs = [.slice A k c] ∧ RBs w A k ps ∧ k ≤ c ∧ c ≤ maxLen := by
  rcases Go.Deep.open_int_rows Try.underlying39 Try.underlying22 Try.underlying5 (by kernel_rfl) (by kernel_rfl) h with ⟨rfl, _⟩ | ⟨a, len, cap, A, L, C, Z, rfl, _, hl, hm, _, hr⟩
  · exact ⟨none, 0, 0, [], rfl, ⟨rfl, 0, 0, fun h => absurd h (by omega), fun i hi => absurd hi (by omega)⟩, Nat.le_refl _, by simp [maxLen]⟩
  · refine ⟨some a, len, cap, (List.range len).map fun r => (Z r).take (L r), rfl, ⟨by simp, a.block, a.off, fun h0 => ?_, fun i hi => ?_⟩, hl, hm⟩
    · obtain ⟨b, o, sp⟩ := a
      have hc := (hr 0 (by omega)).1
      have hsp : sp = none := by
        have := World.cell?_spot hc
        simpa [Addr.add] using this
      rw [hsp]
    · obtain ⟨hc, hL, hC, hZ, hw, hn, hs⟩ := hr i (by omega)
      have hsp : a.spot = none := by
        have := World.cell?_spot (hr 0 (by omega)).1
        simpa [Addr.add] using this
      have hg : ((List.range len).map fun r => (Z r).take (L r)).getD i [] = (Z i).take (L i) := by simp [hi]
      have hlz : ((Z i).take (L i)).length = L i := by rw [List.length_take]; omega
      rw [hg, hlz]
      have hrow : RB w (A i) (L i) ((Z i).take (L i)) ∧ L i ≤ C i := by
        refine RB.of_row ?_
        cases hA : A i with
        | none =>
          have h0 := hn hA
          exact .inl ⟨rfl, by omega, h0, List.eq_nil_of_length_eq_zero (by omega)⟩
        | some a' => exact .inr ⟨a', rfl, hL, hC, hZ, fun j hj => (hs a' hA).2 j (by omega), hw⟩
      refine ⟨A i, C i, ?_, hL, hrow.1⟩
      obtain ⟨b, o, sp⟩ := a
      simp only at hsp
      subst hsp
      rw [add_plain] at hc
      exact hc
end
end Go.Proofs.Ytecglmbggldhnaa
