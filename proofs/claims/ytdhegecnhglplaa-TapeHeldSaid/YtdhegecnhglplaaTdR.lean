/-
  Arguments: slices of slices of bytes, slices of deeds, out of their reading as data.
-/
import Derived.Test.YtdhegecnhglplaaTd6
import Derived.Test.YtdhegecnhglplaaInts
import Derived.Deep.Strs
import Derived.Deep.Matrix
set_option linter.unusedVariables false
set_option linter.unusedSimpArgs false
namespace Go.Proofs.Ytdhegecnhglplaa
open Go.RowKit

theorem RBs.byts {w : World} {A : Option Addr} {k : Nat} {ps : List (List Int)} (h : RBs w A k ps) : Byts ps.flatten := by
  obtain ⟨h1, b, off, h2, h3⟩ := h
  intro x hx
  obtain ⟨p, hp, hxp⟩ := List.mem_flatten.1 hx
  obtain ⟨i, hi, rfl⟩ := List.mem_iff_getElem.1 hp
  obtain ⟨Ai, ci, _, _, hr⟩ := h3 i (by omega)
  have := hr.byts
  rw [List.getD_eq_getElem?_getD, List.getElem?_eq_getElem hi] at this
  exact this x hxp
section
variable {H : Type} {enc : TypeId × Value → H} {w : World} {base fuel : Nat} {held : Bool} {cs : List Value} {x : DataW H × List MemPlace}
theorem open_parts (h : DataW.trod enc Try.prog w base (fun _ => true) held fuel 39 cs = some x) : ∃ A k c ps, cs = [.slice A k c] ∧ RBs w A k ps ∧ k ≤ c ∧ c ≤ maxLen := by
  rcases Go.Deep.open_int_rows Try.underlying39 Try.underlying28 Try.underlying5 (by kernel_rfl) (by kernel_rfl) h with ⟨rfl, _⟩ | ⟨a, len, cap, A, L, C, Z, rfl, _, hl, hm, _, hr⟩
  · exact ⟨none, 0, 0, [], rfl, ⟨rfl, 0, 0, fun h => absurd h (by omega), fun i hi => absurd hi (by omega)⟩, Nat.le_refl _, by simp [maxLen]⟩
  · refine ⟨some a, len, cap, (List.range len).map fun r => (Z r).take (L r), rfl, ⟨by simp, a.block, a.off, fun h0 => ?_, fun i hi => ?_⟩, hl, hm⟩
    · obtain ⟨b, o, sp⟩ := a
      have hc := (hr 0 (by omega)).1
      have hsp : sp = none := by
        have := World.cell?_spot hc
        simpa [Addr.add] using this
      rw [hsp]
    · obtain ⟨hc, hL, hC, hZ, hw, hn, hs⟩ := hr i (by omega)
      have hsp : a.spot = none := by
        have := World.cell?_spot (hr 0 (by omega)).1
        simpa [Addr.add] using this
      have hg : ((List.range len).map fun r => (Z r).take (L r)).getD i [] = (Z i).take (L i) := by simp [hi]
      have hlz : ((Z i).take (L i)).length = L i := by rw [List.length_take]; omega
      rw [hg, hlz]
      have hrow : RB w (A i) (L i) ((Z i).take (L i)) ∧ L i ≤ C i := by
        refine RB.of_row ?_
        cases hA : A i with
        | none =>
          have h0 := hn hA
          exact .inl ⟨rfl, by omega, h0, List.eq_nil_of_length_eq_zero (by omega)⟩
        | some a' => exact .inr ⟨a', rfl, hL, hC, hZ, fun j hj => (hs a' hA).2 j (by omega), hw⟩
      refine ⟨A i, C i, ?_, hL, hrow.1⟩
      obtain ⟨b, o, sp⟩ := a
      simp only at hsp
      subst hsp
      rw [add_plain] at hc
      exact hc
instance : Inhabited DeedL := ⟨⟨0, 0, []⟩⟩
theorem open_deeds (h : DataW.trod enc Try.prog w base (fun _ => true) held fuel 36 cs = some x) : ∃ A k c ds, cs = [.slice A k c] ∧ RDs w A k ds ∧ k ≤ c ∧ c ≤ maxLen := by
  have hcell : Try.prog.cellsOf 41 = 3 := by kernel_rfl
  rcases Go.Deep.open_slice Try.underlying36 h with ⟨rfl, _⟩ | ⟨a, len, cap, m, n, D, Pl, rfl, _, hl, hm, hmm, _, hel⟩
  · exact ⟨none, 0, 0, [], rfl, ⟨rfl, 0, 0, fun h => absurd h (by omega), fun i d hi => by simp at hi⟩, Nat.le_refl _, by simp [maxLen]⟩
  · simp only [if_true] at hmm
    subst hmm
    rw [hcell] at hel
    have each : ∀ i, i < len → ∃ d : DeedL, d.n ≤ 9223372036854775807 ∧ Byts d.parts.flatten ∧ ∃ Ai ki ci, w.cell? (a.add (i * 3)) = some (.int .i64 d.what) ∧ w.cell? (a.add (i * 3 + 1)) = some (.int .i64 d.n) ∧ w.cell? (a.add (i * 3 + 2)) = some (.slice Ai ki ci) ∧ ki ≤ ci ∧ ci ≤ 9223372036854775807 ∧ RBs w Ai ki d.parts := by
      intro i hi
      obtain ⟨cs', h1, h2⟩ := hel i (by omega)
      obtain ⟨_, hlen, hce⟩ := World.cells?_some h1
      obtain ⟨y0, y1, y2, k, _, _, g0, g1, g2⟩ := Go.Deep.trod_struct3 Try.underlying41 h2
      match cs', hlen with
      | [v0, v1, v2], _ =>
        rw [show Try.prog.cellsOf 3 = 1 from by kernel_rfl] at g0 g1
        rw [show Try.prog.cellsOf 39 = 1 from by kernel_rfl] at g2
        simp only [List.drop_zero, List.take_succ_cons, List.take_zero, List.drop_succ_cons] at g0 g1 g2
        obtain ⟨z0, q0, _, w0⟩ := DataW.trod_int Try.underlying3 g0
        obtain ⟨z1, q1, _, w1⟩ := DataW.trod_int Try.underlying3 g1
        obtain ⟨A2, k2, c2, ps, q2, r2, l2, m2⟩ := open_parts g2
        simp only [List.cons.injEq, and_true] at q0 q1 q2
        subst q0 q1 q2
        have e0 := hce 0 (by omega)
        have e1 := hce 1 (by omega)
        have e2 := hce 2 (by omega)
        rw [add_of_add] at e0 e1 e2
        refine ⟨⟨z0, z1, ps⟩, (wf_int w1).2, r2.byts, A2, k2, c2, by simpa using e0, by simpa using e1, by simpa using e2, l2, by simpa [maxLen] using m2, r2⟩
    have each' : ∃ f : Nat → DeedL, ∀ i, i < len → _ := Go.Deep.choose_lt (p := fun i d => d.n ≤ 9223372036854775807 ∧ Byts d.parts.flatten ∧ ∃ Ai ki ci, w.cell? (a.add (i * 3)) = some (.int .i64 d.what) ∧ w.cell? (a.add (i * 3 + 1)) = some (.int .i64 d.n) ∧ w.cell? (a.add (i * 3 + 2)) = some (.slice Ai ki ci) ∧ ki ≤ ci ∧ ci ≤ 9223372036854775807 ∧ RBs w Ai ki d.parts) each
    obtain ⟨f, hf⟩ := each'
    refine ⟨some a, len, m, (List.range len).map f, rfl, ⟨by simp, a.block, a.off, fun h0 => ?_, fun i d hd => ?_⟩, hl, hm⟩
    · obtain ⟨b, o, sp⟩ := a
      obtain ⟨_, _, _, _, _, hc, _⟩ := hf 0 h0
      have hsp : sp = none := by
        have := World.cell?_spot hc
        simpa [Addr.add] using this
      rw [hsp]
    · have hi : i < len := by
        have := (List.getElem?_eq_some_iff.1 hd).1
        simpa using this
      simp [hi] at hd
      subst hd
      obtain ⟨u1, u2, Ai, ki, ci, c0, c1, c2, u3, u4, u5⟩ := hf i hi
      obtain ⟨b, o, sp⟩ := a
      obtain ⟨_, _, _, _, _, c00, _⟩ := hf 0 (by omega)
      have hsp : sp = none := by
        have := World.cell?_spot c00
        simpa [Addr.add] using this
      subst hsp
      rw [add_plain] at c0 c1 c2
      exact ⟨u1, u2, Ai, ki, ci, c0, by rw [Nat.add_assoc]; exact c1, by rw [Nat.add_assoc]; exact c2, u3, u4, u5⟩
end
end Go.Proofs.Ytdhegecnhglplaa
