/-
  delta's first law: awake, and DeltaLeast's walk.
-/
import Derived.Test.YtgokompppadogaaDeltaA
set_option linter.unusedVariables false
set_option linter.unusedSimpArgs false
namespace Go.Proofs.Ytgokompppadogaa
open Go.RowKit

theorem REs.at_ {w : World} {S : Nat → Prop} {A : Option Addr} {n : Nat} {l : List Ed} (h : REs w S A n l) {i : Nat} {x : Ed} (hx : l[i]? = some x) :
    ∃ b off B c, A = some ⟨b, off, none⟩ ∧ S b ∧ w.cell? ⟨b, off + i * 3, none⟩ = some (.int .i64 x.f) ∧ w.cell? ⟨b, off + i * 3 + 1, none⟩ = some (.int .i64 x.t) ∧
      w.cell? ⟨b, off + i * 3 + 2, none⟩ = some (.slice B x.b.length c) ∧ x.b.length ≤ c ∧ RB w B x.b.length x.b ∧ ∀ bd, B = some bd → S bd.block := by
  have hl := h.1
  have hi : i < n := by
    have := (List.getElem?_eq_some_iff.1 hx).1
    omega
  obtain ⟨⟨b, off, sp⟩, e, hs, hc⟩ := h.2 (by omega)
  obtain ⟨x0, hx0⟩ : ∃ x0, l[0]? = some x0 := ⟨l[0]'(by omega), List.getElem?_eq_getElem (by omega)⟩
  obtain ⟨_, _, h0, _⟩ := hc 0 (by omega) x0 hx0
  have hsp : sp = none := by
    have := World.cell?_spot h0
    simpa [Addr.add] using this
  subst hsp
  obtain ⟨B, c, h0, h1, h2, h3⟩ := hc i hi x hx
  rw [add_plain] at h0 h1 h2
  exact ⟨b, off, B, c, e, hs, h0, h1, h2, h3⟩

theorem mk_abc : mkEdits [97, 98, 99] [97, 120, 99] = [⟨1, 2, [120]⟩] := by kernel_rfl


/-- the second length: the common end of what is left. -/
def ce (xs ys : List Int) : Nat := cp (xs.drop (cp xs ys)).reverse (ys.drop (cp xs ys)).reverse
theorem ce_le (xs ys : List Int) : cp xs ys + ce xs ys ≤ xs.length ∧ cp xs ys + ce xs ys ≤ ys.length := by
  have h1 := cp_le xs ys
  have h2 := cp_le (xs.drop (cp xs ys)).reverse (ys.drop (cp xs ys)).reverse
  simp only [List.length_reverse, List.length_drop] at h2
  unfold ce
  omega
theorem gi_reverse {xs : List Int} {i : Nat} (h : i < xs.length) : gi xs.reverse i = gi xs (xs.length - 1 - i) := by
  have h2 : xs.length - 1 - i < xs.length := by omega
  simp [gi, h, h2]
theorem ce_ends (xs ys : List Int) (h1 : cp xs ys + ce xs ys < xs.length) (h2 : cp xs ys + ce xs ys < ys.length) : gi xs (xs.length - ce xs ys - 1) ≠ gi ys (ys.length - ce xs ys - 1) := by
  have h := cp_ends (xs.drop (cp xs ys)).reverse (ys.drop (cp xs ys)).reverse
  have e : cp (xs.drop (cp xs ys)).reverse (ys.drop (cp xs ys)).reverse = ce xs ys := rfl
  rw [e] at h
  simp only [List.length_reverse, List.length_drop] at h
  have h' := h (by omega) (by omega)
  rw [gi_reverse (by simp; omega), gi_reverse (by simp; omega), gi_drop, gi_drop] at h'
  simp only [List.length_drop] at h'
  rw [show cp xs ys + (xs.length - cp xs ys - 1 - ce xs ys) = xs.length - ce xs ys - 1 from by omega, show cp xs ys + (ys.length - cp xs ys - 1 - ce xs ys) = ys.length - ce xs ys - 1 from by omega] at h'
  exact h'
theorem ce_not_both (xs ys : List Int) (hne : xs ≠ ys) : ¬ (cp xs ys + ce xs ys = xs.length ∧ cp xs ys + ce xs ys = ys.length) := by
  rintro ⟨h1, h2⟩
  refine hne (gi_ext (by omega) fun i hi => ?_)
  rcases Nat.lt_or_ge i (cp xs ys) with h | h
  · exact cp_alike xs ys i h
  · have ha := cp_alike (xs.drop (cp xs ys)).reverse (ys.drop (cp xs ys)).reverse (xs.length - 1 - i) (by
      show _ < ce xs ys
      omega)
    rw [gi_reverse (by simp; omega), gi_reverse (by simp; omega), gi_drop, gi_drop] at ha
    simp only [List.length_drop] at ha
    rw [show cp xs ys + (xs.length - cp xs ys - 1 - (xs.length - 1 - i)) = i from by omega, show cp xs ys + (ys.length - cp xs ys - 1 - (xs.length - 1 - i)) = i from by omega] at ha
    exact ha
theorem mkEdits_ne {xs ys : List Int} (h : xs ≠ ys) : mkEdits xs ys = [⟨(cp xs ys : Nat), (xs.length : Int) - (ce xs ys : Nat), (ys.take (ys.length - ce xs ys)).drop (cp xs ys)⟩] := by
  unfold mkEdits
  rw [if_neg h]
  rfl

end Go.Proofs.Ytgokompppadogaa
