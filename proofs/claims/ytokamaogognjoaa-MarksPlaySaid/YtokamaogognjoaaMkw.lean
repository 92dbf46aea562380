/-
  Slices of a script's steps out of data.
-/
import Derived.Test.YtokamaogognjoaaMks
set_option linter.unusedVariables false
set_option linter.unusedSimpArgs false
namespace Go.Proofs.Ytokamaogognjoaa
open Go.RowKit Go.ChangeShapes Go.WideShapes

/-- a step of a script. -/
structure OpL where
  kind : Int
  n : Int
  l : List IdL
  b : List Int
instance : Inhabited OpL := ⟨⟨0, 0, [], []⟩⟩
/-- what lies in a step's cells. -/
def OpAt (w : World) (b off : Nat) (d : OpL) : Prop := ∃ AL nL cL AB nB cB, w.cell? ⟨b, off, none⟩ = some (.int .i64 d.kind) ∧ w.cell? ⟨b, off + 1, none⟩ = some (.int .i64 d.n) ∧ w.cell? ⟨b, off + 2, none⟩ = some (.slice AL nL cL) ∧ w.cell? ⟨b, off + 3, none⟩ = some (.slice AB nB cB) ∧ RPrs w AL nL d.l ∧ nL ≤ cL ∧ RB w AB nB d.b ∧ nB ≤ cB
/-- a slice of steps, read. -/
def ROs (w : World) (A : Option Addr) (k : Nat) (ds : List OpL) : Prop := ds.length = k ∧ ∃ b off, (0 < k → A = some ⟨b, off, none⟩) ∧ ∀ (i : Nat) (d : OpL), ds[i]? = some d → OpAt w b (off + i * 4) d
set_option maxRecDepth 100000 in
theorem OpAt.below {w w' : World} {b off : Nat} {d : OpL} (h : OpAt w b off d) (hb : Below w.heap.size w w') : OpAt w' b off d := by
  obtain ⟨AL, nL, cL, AB, nB, cB, c0, c1, c2, c3, r1, k1, r2, k2⟩ := h
  exact ⟨AL, nL, cL, AB, nB, cB, cell_later hb c0, cell_later hb c1, cell_later hb c2, cell_later hb c3, r1.below hb, k1, r2.below hb, k2⟩
set_option maxRecDepth 100000 in
theorem ROs.below {w w' : World} {A : Option Addr} {k : Nat} {ds : List OpL} (h : ROs w A k ds) (hb : Below w.heap.size w w') : ROs w' A k ds := by
  obtain ⟨h1, b, off, h2, h3⟩ := h
  exact ⟨h1, b, off, h2, fun i d hd => (h3 i d hd).below hb⟩
section
variable {H : Type} {enc : TypeId × Value → H} {w : World} {base fuel : Nat} {held : Bool} {cs : List Value} {x : DataW H × List MemPlace}
set_option maxRecDepth 100000 in
theorem trod_struct4M {P : Program} {spare : Nat → Bool} {t : TypeId} {f0 f1 f2 f3 : Field} (ht : P.underlying t = some (.struct #[f0, f1, f2, f3])) (h : DataW.trod enc P w base spare held fuel t cs = some x) :
    ∃ y0 y1 y2 y3 n, DataW.trod enc P w base spare held n f0.type ((cs.drop f0.offset).take (P.cellsOf f0.type)) = some y0 ∧ DataW.trod enc P w base spare held n f1.type ((cs.drop f1.offset).take (P.cellsOf f1.type)) = some y1 ∧
      DataW.trod enc P w base spare held n f2.type ((cs.drop f2.offset).take (P.cellsOf f2.type)) = some y2 ∧ DataW.trod enc P w base spare held n f3.type ((cs.drop f3.offset).take (P.cellsOf f3.type)) = some y3 := by
  obtain ⟨xs, n, _, rfl, hl, hlen, hf⟩ := DataW.trod_struct ht h
  match xs, hlen with
  | [y0, y1, y2, y3], _ => exact ⟨y0, y1, y2, y3, n, by simpa using hf 0 f0 rfl, by simpa using hf 1 f1 rfl, by simpa using hf 2 f2 rfl, by simpa using hf 3 f3 rfl⟩
set_option maxRecDepth 100000 in
theorem open_bytesM (h : DataW.trod enc Try.prog w base (fun _ => true) held fuel 36 cs = some x) : ∃ A k c xs, cs = [.slice A k c] ∧ RB w A k xs ∧ k ≤ c := by
  rcases open_ints Try.underlying36 Try.underlying5 (by kernel_rfl) h with ⟨hcs, _⟩ | ⟨x, l, c, zs, hcs, _, hl, hm, hz, hxx, hcell, hwz⟩
  · exact ⟨none, 0, 0, [], hcs, RB.nil _ _, Nat.le_refl _⟩
  · obtain ⟨r1, r2⟩ := RB.of_row (w := w) (a := some x) (len := l) (cap := c) (zs := zs) (.inr ⟨_, rfl, hl, hm, by simpa using hz, hcell, hwz⟩)
    exact ⟨some x, l, c, _, hcs, r1, r2⟩
set_option maxRecDepth 100000 in
theorem open_ops (h : DataW.trod enc Try.prog w base (fun _ => true) held fuel 51 cs = some x) : ∃ A k c ds, cs = [.slice A k c] ∧ ROs w A k ds ∧ k ≤ c := by
  have hcell : Try.prog.cellsOf 53 = 4 := by kernel_rfl
  rcases Go.Deep.open_slice Try.underlying51 h with ⟨rfl, _⟩ | ⟨a, len, cap, m, n, D, Pl, rfl, _, hl, hm, hmm, _, hel⟩
  · exact ⟨none, 0, 0, [], rfl, ⟨rfl, 0, 0, fun h => absurd h (by omega), fun i d hi => by simp at hi⟩, Nat.le_refl _⟩
  · simp only [if_true] at hmm
    subst hmm
    rw [hcell] at hel
    have each : ∀ i, i < len → ∃ d : OpL, ∃ AL nL cL AB nB cB, w.cell? (a.add (i * 4)) = some (.int .i64 d.kind) ∧ w.cell? (a.add (i * 4 + 1)) = some (.int .i64 d.n) ∧ w.cell? (a.add (i * 4 + 2)) = some (.slice AL nL cL) ∧ w.cell? (a.add (i * 4 + 3)) = some (.slice AB nB cB) ∧ RPrs w AL nL d.l ∧ nL ≤ cL ∧ RB w AB nB d.b ∧ nB ≤ cB := by
      intro i hi
      obtain ⟨cs', h1, h2⟩ := hel i (by omega)
      obtain ⟨_, hlen, hce⟩ := World.cells?_some h1
      obtain ⟨y0, y1, y2, y3, k, g0, g1, g2, g3⟩ := trod_struct4M Try.underlying53 h2
      match cs', hlen with
      | [v0, v1, v2, v3], _ =>
        rw [show Try.prog.cellsOf 3 = 1 from by kernel_rfl] at g0 g1
        rw [show Try.prog.cellsOf 23 = 1 from by kernel_rfl] at g2
        rw [show Try.prog.cellsOf 36 = 1 from by kernel_rfl] at g3
        simp only [List.drop_zero, List.take_succ_cons, List.take_zero, List.drop_succ_cons] at g0 g1 g2 g3
        obtain ⟨z0, q0, _, w0⟩ := DataW.trod_int Try.underlying3 g0
        obtain ⟨z1, q1, _, w1⟩ := DataW.trod_int Try.underlying3 g1
        obtain ⟨A2, k2, c2, ps, q2, r2, l2, m2⟩ := open_pairs g2
        obtain ⟨A3, k3, c3, bs, q3, r3, l3⟩ := open_bytesM g3
        simp only [List.cons.injEq, and_true] at q0 q1 q2 q3
        subst q0 q1 q2 q3
        have e0 := hce 0 (by omega)
        have e1 := hce 1 (by omega)
        have e2 := hce 2 (by omega)
        have e3 := hce 3 (by omega)
        rw [add_of_add] at e0 e1 e2 e3
        exact ⟨⟨z0, z1, ps, bs⟩, A2, k2, c2, A3, k3, c3, by simpa using e0, by simpa using e1, by simpa using e2, by simpa using e3, r2, l2, r3, l3⟩
    obtain ⟨f, hf⟩ := Go.Deep.choose_lt (p := fun i (d : OpL) => ∃ AL nL cL AB nB cB, w.cell? (a.add (i * 4)) = some (.int .i64 d.kind) ∧ w.cell? (a.add (i * 4 + 1)) = some (.int .i64 d.n) ∧ w.cell? (a.add (i * 4 + 2)) = some (.slice AL nL cL) ∧ w.cell? (a.add (i * 4 + 3)) = some (.slice AB nB cB) ∧ RPrs w AL nL d.l ∧ nL ≤ cL ∧ RB w AB nB d.b ∧ nB ≤ cB) each
    have hsp : 0 < len → a.spot = none := fun h0 => by
      obtain ⟨_, _, _, _, _, _, hc, _⟩ := hf 0 h0
      have := World.cell?_spot hc
      simpa [Addr.add] using this
    refine ⟨some a, len, m, (List.range len).map f, rfl, ⟨by simp, a.block, a.off, fun h0 => ?_, fun i d hd => ?_⟩, hl⟩
    · obtain ⟨b, o, sp⟩ := a
      have := hsp h0
      simp only at this
      subst this
      rfl
    · have hi : i < len := by
        have := (List.getElem?_eq_some_iff.1 hd).1
        simpa using this
      simp [hi] at hd
      subst hd
      obtain ⟨AL, nL, cL, AB, nB, cB, c0, c1, c2, c3, r1, k1, r2, k2⟩ := hf i hi
      have hs := hsp (by omega)
      obtain ⟨b, o, sp⟩ := a
      simp only at hs
      subst hs
      rw [add_plain] at c0 c1 c2 c3
      exact ⟨AL, nL, cL, AB, nB, cB, c0, by rw [Nat.add_assoc]; exact c1, by rw [Nat.add_assoc]; exact c2, by rw [Nat.add_assoc]; exact c3, r1, k1, r2, k2⟩
end
end Go.Proofs.Ytokamaogognjoaa
