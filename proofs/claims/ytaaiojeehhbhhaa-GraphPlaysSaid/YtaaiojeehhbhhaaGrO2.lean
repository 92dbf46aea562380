/-
  Slices of ids, of nodes, out of data.
-/
import Derived.Test.YtaaiojeehhbhhaaGr1
import Derived.Test.YtaaiojeehhbhhaaGrI
import Derived.ChangeSlices
import Derived.Deep.Slices
set_option linter.unusedVariables false
set_option linter.unusedSimpArgs false
namespace Go.Proofs.Ytaaiojeehhbhhaa
open Go.RowKit Go.ChangeShapes Go.WideShapes

instance : Inhabited Nd := ⟨⟨[], []⟩⟩
/-- a slice of nodes. -/
def RNs (w : World) (A : Option Addr) (n : Nat) (l : List Nd) : Prop :=
  l.length = n ∧ (0 < n → ∃ b o, A = some ⟨b, o, none⟩ ∧ ∀ j, j < n → IsId (nd l j).id ∧ w.rangeAt b (o + j * 21) (bv (nd l j).id) ∧
    ∃ B c, w.cell? ⟨b, o + j * 21 + 20, none⟩ = some (.slice B (nd l j).ps.length c) ∧ (nd l j).ps.length ≤ c ∧ RIds w B (nd l j).ps.length (nd l j).ps)
section
variable {H : Type} {enc : TypeId × Value → H} {w : World} {base fuel : Nat} {held : Bool} {cs : List Value} {x : DataW H × List MemPlace}
theorem open_ids (h : DataW.trod enc Try.prog w base (fun _ => true) held fuel 29 cs = some x) :
    ∃ A k c L, cs = [.slice A k c] ∧ RIds w A k L ∧ k ≤ c ∧ c ≤ maxLen := by
  have h20 : Try.prog.cellsOf 27 = 20 := by kernel_rfl
  rcases Go.Deep.open_slice Try.underlying29 h with ⟨rfl, _⟩ | ⟨a, len, cap, m, n, D, Pl, rfl, _, hl, hm, hmm, hx, hel⟩
  · exact ⟨none, 0, 0, [], rfl, RIds.nil _ _, Nat.le_refl _, by simp [maxLen]⟩
  · simp only [if_true] at hmm
    subst hmm
    rw [h20] at hel
    have each : ∀ i, i < len → ∃ xs : List Int, IsId xs ∧ ∀ j, j < 20 → w.cell? (a.add (i * 20 + j)) = (bv xs)[j]? := by
      intro i hi
      obtain ⟨cs', h1, h2⟩ := hel i (by omega)
      obtain ⟨_, hlen, hce⟩ := World.cells?_some h1
      obtain ⟨xs, hxs, e⟩ := trod_id h2
      subst e
      refine ⟨xs, hxs, fun j hj => ?_⟩
      have := hce j (by omega)
      rw [add_of_add] at this
      exact this
    obtain ⟨f, hf⟩ := Go.Deep.choose_lt (p := fun i xs => IsId xs ∧ ∀ j, j < 20 → w.cell? (a.add (i * 20 + j)) = (bv xs)[j]?) each
    have hg : ∀ j, j < len → gid ((List.range len).map f) j = f j := fun j hj => by simp [gid, hj]
    refine ⟨some a, len, m, (List.range len).map f, rfl, ⟨by simp, fun y hy => ?_, fun h0 => ?_⟩, hl, hm⟩
    · obtain ⟨i, hi, rfl⟩ := List.mem_map.1 hy
      exact (hf i (List.mem_range.1 hi)).1
    · obtain ⟨b, o, sp⟩ := a
      have h00 := (hf 0 h0).2 0 (by omega)
      have hl0 : 0 < (bv (f 0)).length := by rw [bv_length, (hf 0 h0).1.1]; omega
      rw [List.getElem?_eq_getElem hl0] at h00
      have hsp : sp = none := by
        have := World.cell?_spot h00
        simpa [Addr.add] using this
      subst hsp
      refine ⟨b, o, rfl, fun j hj i v hv => ?_⟩
      rw [hg j hj] at hv
      have hi : i < 20 := by
        have := (List.getElem?_eq_some_iff.1 hv).1
        rw [bv_length, (hf j hj).1.1] at this
        exact this
      have := (hf j hj).2 i hi
      rw [hv, add_plain] at this
      rw [← this, Nat.add_assoc]
theorem trod_struct2 {P : Program} {spare : Nat → Bool} {t : TypeId} {f0 f1 : Field} (ht : P.underlying t = some (.struct #[f0, f1])) (h : DataW.trod enc P w base spare held fuel t cs = some x) :
    ∃ y0 y1 n, DataW.trod enc P w base spare held n f0.type ((cs.drop f0.offset).take (P.cellsOf f0.type)) = some y0 ∧ DataW.trod enc P w base spare held n f1.type ((cs.drop f1.offset).take (P.cellsOf f1.type)) = some y1 := by
  obtain ⟨xs, n, _, rfl, hl, hlen, hf⟩ := DataW.trod_struct ht h
  match xs, hlen with
  | [y0, y1], _ => exact ⟨y0, y1, n, by simpa using hf 0 f0 rfl, by simpa using hf 1 f1 rfl⟩
theorem open_nodes (h : DataW.trod enc Try.prog w base (fun _ => true) held fuel 36 cs = some x) :
    ∃ A k c l, cs = [.slice A k c] ∧ RNs w A k l ∧ k ≤ c ∧ c ≤ maxLen := by
  have h21 : Try.prog.cellsOf 42 = 21 := by kernel_rfl
  have h20 : Try.prog.cellsOf 27 = 20 := by kernel_rfl
  have h1' : Try.prog.cellsOf 29 = 1 := by kernel_rfl
  rcases Go.Deep.open_slice Try.underlying36 h with ⟨rfl, _⟩ | ⟨a, len, cap, m, n, D, Pl, rfl, _, hl, hm, hmm, hx, hel⟩
  · exact ⟨none, 0, 0, [], rfl, ⟨rfl, fun h => absurd h (by omega)⟩, Nat.le_refl _, by simp [maxLen]⟩
  · simp only [if_true] at hmm
    subst hmm
    rw [h21] at hel
    have each : ∀ i, i < len → ∃ d : Nd, IsId d.id ∧ (∀ j, j < 20 → w.cell? (a.add (i * 21 + j)) = (bv d.id)[j]?) ∧ ∃ B c, w.cell? (a.add (i * 21 + 20)) = some (.slice B d.ps.length c) ∧ d.ps.length ≤ c ∧ RIds w B d.ps.length d.ps := by
      intro i hi
      obtain ⟨cs', h1, h2⟩ := hel i (by omega)
      obtain ⟨_, hlen, hce⟩ := World.cells?_some h1
      obtain ⟨y0, y1, n', g0, g1⟩ := trod_struct2 Try.underlying42 h2
      have g0 : DataW.trod enc Try.prog w base (fun _ => true) held n' 27 ((cs'.drop 0).take (Try.prog.cellsOf 27)) = some y0 := g0
      have g1 : DataW.trod enc Try.prog w base (fun _ => true) held n' 29 ((cs'.drop 20).take (Try.prog.cellsOf 29)) = some y1 := g1
      rw [h20] at g0
      rw [h1'] at g1
      obtain ⟨ys, hys, e0⟩ := trod_id g0
      obtain ⟨B, k, c, L, e1, hL, hkc, _⟩ := open_ids g1
      have hkl := hL.1
      subst hkl
      refine ⟨⟨ys, L⟩, hys, fun j hj => ?_, B, c, ?_, hkc, hL⟩
      · have := hce j (by omega)
        rw [add_of_add] at this
        rw [this]
        show cs'[j]? = (bv ys)[j]?
        rw [← e0]
        simp [hj]
      · have := hce 20 (by omega)
        rw [add_of_add] at this
        rw [this]
        have e2 := congrArg (fun l => l[0]?) e1
        simpa using e2
    obtain ⟨f, hf⟩ := Go.Deep.choose_lt (p := fun i (d : Nd) => IsId d.id ∧ (∀ j, j < 20 → w.cell? (a.add (i * 21 + j)) = (bv d.id)[j]?) ∧ ∃ B c, w.cell? (a.add (i * 21 + 20)) = some (.slice B d.ps.length c) ∧ d.ps.length ≤ c ∧ RIds w B d.ps.length d.ps) each
    have hg : ∀ j, j < len → nd ((List.range len).map f) j = f j := fun j hj => by simp [nd, hj]
    refine ⟨some a, len, m, (List.range len).map f, rfl, ⟨by simp, fun h0 => ?_⟩, hl, hm⟩
    obtain ⟨b, o, sp⟩ := a
    have h00 := (hf 0 h0).2.1 0 (by omega)
    have hl0 : 0 < (bv (f 0).id).length := by rw [bv_length, (hf 0 h0).1.1]; omega
    rw [List.getElem?_eq_getElem hl0] at h00
    have hsp : sp = none := by
      have := World.cell?_spot h00
      simpa [Addr.add] using this
    subst hsp
    refine ⟨b, o, rfl, fun j hj => ?_⟩
    rw [hg j hj]
    obtain ⟨k1, k2, B, c, k3, k4, k5⟩ := hf j hj
    refine ⟨k1, fun i v hv => ?_, B, c, ?_, k4, k5⟩
    · have hi : i < 20 := by
        have := (List.getElem?_eq_some_iff.1 hv).1
        rw [bv_length, k1.1] at this
        exact this
      have := k2 i hi
      rw [hv, add_plain] at this
      rw [← this, Nat.add_assoc]
    · rw [add_plain] at k3
      rw [← k3, Nat.add_assoc]
end
end Go.Proofs.Ytaaiojeehhbhhaa
