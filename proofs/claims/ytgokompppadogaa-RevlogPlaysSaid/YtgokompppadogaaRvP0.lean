/-
  RevlogPlays: both logs under way (Pl); slices of the law's ops, out of data; layer 15's awake; words for the law's walk: ids stored in cells made beside calls, an op out of the script.
-/
import Derived.Test.YtgokompppadogaaRvK
import Derived.Test.YtgokompppadogaaSpoil
import Derived.Test.YtgokompppadogaaRvG
import Derived.OpenShut
import Derived.ChangeSlices
import Derived.Deep.Strs
set_option linter.unusedVariables false
set_option linter.unusedSimpArgs false
namespace Go.Proofs.Ytgokompppadogaa
open Go.RowKit


theorem Chg.rf {P Q : Nat → Prop} {w w' : World} {r : Nat} {L : Lg} (hc : Chg P w w') (h : RfAt w Q r L) (hq : ∀ k, Q k → ¬ P k) : RfAt w' Q r L := by
  obtain ⟨A, n, c, Vs, h⟩ := h
  refine ⟨A, n, c, Vs, hc.blk h.blk (hq _ h.pr), ⟨h.own.1, ?_⟩, h.inv, h.len, h.vl, h.cap, h.pr, h.pi, fun j hj => ?_⟩
  · rcases h.own.2 with h0 | ⟨g, cap, cur, h1, h2, h3, h4⟩
    · exact .inl h0
    · refine .inr ⟨g, cap, cur, h1, h2, ?_, h4⟩
      rw [hc.block g (Array.getElem?_eq_some_iff.1 h3).1 (hq g (h.pi g (by rw [h1]; rfl)))]
      exact h3
  · obtain ⟨B, d, a, b, e, f⟩ := h.held j hj
    refine ⟨B, d, a, b, ⟨e.1, e.2.1, fun h0 => ?_⟩, fun ad e' => ⟨(f ad e').1, (f ad e').2.1, (f ad e').2.2.1, Nat.lt_of_lt_of_le (f ad e').2.2.2 hc.size⟩⟩
    obtain ⟨ad, ea, hcell⟩ := e.2.2 h0
    exact ⟨ad, ea, fun i hi => hc.cell (hcell i hi) (by rw [block_of_add]; exact hq _ (f ad ea).1)⟩
/-- both logs, their blocks the call's own and apart; the blocks F are neither's. -/
structure Pl (w wk : World) (g r : Nat) (F : Nat → Prop) (L M : Lg) : Prop where
  gr : ∃ P Q, LgAt wk P g L ∧ RfAt wk Q r M ∧ (∀ k, P k → w.heap.size ≤ k ∧ k < wk.heap.size ∧ ¬ Q k ∧ ¬ F k) ∧ (∀ k, Q k → w.heap.size ≤ k ∧ k < wk.heap.size ∧ ¬ F k)
  lt : ∀ k, F k → k < wk.heap.size
  bel : Below w.heap.size w wk
section
variable {w wk w' : World} {g r : Nat} {F : Nat → Prop} {L M : Lg}
theorem Pl.next (h : Pl w wk g r F L M) (k : Below wk.heap.size wk w') : Pl w w' g r F L M := by
  obtain ⟨⟨P, Q, hg, hr, hp, hq⟩, hF, hB⟩ := h
  exact ⟨⟨P, Q, hg.below k, hr.below k, fun i hi => ⟨(hp i hi).1, Nat.lt_of_lt_of_le (hp i hi).2.1 k.size, (hp i hi).2.2⟩, fun i hi => ⟨(hq i hi).1, Nat.lt_of_lt_of_le (hq i hi).2.1 k.size, (hq i hi).2.2⟩⟩, fun i hi => Nat.lt_of_lt_of_le (hF i hi) k.size, below_then hB hB.size k⟩
theorem Pl.bare (h : Pl w wk g r F L M) : Pl w wk g r (fun _ => False) L M := by
  obtain ⟨⟨P, Q, hg, hr, hp, hq⟩, hF, hB⟩ := h
  exact ⟨⟨P, Q, hg, hr, fun i hi => ⟨(hp i hi).1, (hp i hi).2.1, (hp i hi).2.2.1, fun h => h⟩, fun i hi => ⟨(hq i hi).1, (hq i hi).2.1, fun h => h⟩⟩, fun i hi => hi.elim, hB⟩
/-- a block that is marked, or made since. -/
abbrev Mk (F : Nat → Prop) (w w' : World) (k : Nat) : Prop := F k ∨ (w.heap.size ≤ k ∧ k < w'.heap.size)
/-- blocks made since. -/
theorem Pl.more (h : Pl w wk g r F L M) (k : Below wk.heap.size wk w') : Pl w w' g r (Mk F wk w') L M := by
  have h1 := h.next k
  obtain ⟨⟨P, Q, hg, hr, hp, hq⟩, hF, hB⟩ := h
  refine ⟨⟨P, Q, hg.below k, hr.below k, fun i hi => ⟨(hp i hi).1, Nat.lt_of_lt_of_le (hp i hi).2.1 k.size, (hp i hi).2.2.1, fun hm => ?_⟩, fun i hi => ⟨(hq i hi).1, Nat.lt_of_lt_of_le (hq i hi).2.1 k.size, fun hm => ?_⟩⟩, fun i hi => ?_, h1.bel⟩
  · rcases hm with h | h
    · exact (hp i hi).2.2.2 h
    · have := (hp i hi).2.1; omega
  · rcases hm with h | h
    · exact (hq i hi).2.2 h
    · have := (hq i hi).2.1; omega
  · rcases hi with h | h
    · exact Nat.lt_of_lt_of_le (hF i h) k.size
    · exact h.2
/-- a step that turns a marked block of the call's own. -/
theorem Pl.turn (h : Pl w wk g r F L M) {row : Option Nat} (hg' : wk.grownBy w' row) (hrow : ∀ k, row = some k → F k ∨ wk.heap.size ≤ k) (hw : ∀ k, row = some k → w.heap.size ≤ k) : Pl w w' g r F L M := by
  obtain ⟨⟨P, Q, hg, hr, hp, hq⟩, hF, hB⟩ := h
  refine ⟨⟨P, Q, hg.grown hg' fun k e hk => ?_, hr.grown hg' fun k e hk => ?_, fun i hi => ⟨(hp i hi).1, Nat.lt_of_lt_of_le (hp i hi).2.1 hg'.size, (hp i hi).2.2⟩, fun i hi => ⟨(hq i hi).1, Nat.lt_of_lt_of_le (hq i hi).2.1 hg'.size, (hq i hi).2.2⟩⟩, fun i hi => Nat.lt_of_lt_of_le (hF i hi) hg'.size, hB.grown hg' hB.size hw⟩
  · rcases hrow k e with e1 | e1
    · exact (hp k hk).2.2.2 e1
    · have := (hp k hk).2.1; omega
  · rcases hrow k e with e1 | e1
    · exact (hq k hk).2.2 e1
    · have := (hq k hk).2.1; omega
theorem pl_add {A : Option Addr} {n c : Nat} {t p1 p2 : List Int} (h : Pl w wk g r F L M) (hA : RB wk A n t) (hnc : n ≤ c) (hn : n ≤ 1500) (h1 : IsId p1) (h2 : IsId p2) (hll : L.length ≤ 90000) :
    Calls Try.prog 9 #[.pointer (some ⟨g, 0, none⟩), .slice A n c, ida p1, ida p2] wk (fun e w' => e = .returned (.tuple #[ida (addX L t p1 p2), .int .i64 (mayE L t p1 p2)]) ∧ Pl w w' g r F (addL L t p1 p2) M ∧ Chg (fun k => ¬ F k) wk w') := by
  obtain ⟨⟨P, Q, hg, hr, hp, hq⟩, hF, hb⟩ := h
  refine (add_any P g L _ n c t p1 p2 wk hg hA hnc hn h1 h2 hll).mono fun e w1 h3 => ?_
  obtain ⟨he, hg1, hc⟩ := h3
  have hc' : Chg (fun k => ¬ F k) wk w1 := ⟨hc.os, hc.tape, hc.output, hc.size, fun i hi hn => hc.block i hi fun hP => hn (hp i hP).2.2.2⟩
  refine ⟨he, ⟨⟨_, Q, hg1.bounded, hc.rf hr fun k hk hP => (hp k hP).2.2.1 hk, fun k hk => ?_, fun k hk => ⟨(hq k hk).1, Nat.lt_of_lt_of_le (hq k hk).2.1 hc.size, (hq k hk).2.2⟩⟩, fun i hi => Nat.lt_of_lt_of_le (hF i hi) hc.size, hc.toBelow hb hb.size fun k hk => (hp k hk).1⟩, hc'⟩
  rcases hk.1 with h | h
  · exact ⟨(hp k h).1, hk.2, (hp k h).2.2⟩
  · exact ⟨Nat.le_trans hb.size h, hk.2, fun hQ => by have := (hq k hQ).2.1; omega, fun hf => by have := hF k hf; omega⟩
theorem pl_radd {A : Option Addr} {n c : Nat} {t p1 p2 : List Int} (h : Pl w wk g r F L M) (hA : RB w A n t) (hnc : n ≤ c) (hn : n ≤ 1500) (h1 : IsId p1) (h2 : IsId p2) (hll : M.length ≤ 90000) :
    Calls Try.prog 17 #[.pointer (some ⟨r, 0, none⟩), .slice A n c, ida p1, ida p2] wk (fun e w' => e = .returned (.tuple #[ida (addX M t p1 p2), .int .i64 (mayE M t p1 p2)]) ∧ Pl w w' g r F L (addL M t p1 p2) ∧ Chg (fun k => ¬ F k) wk w') := by
  obtain ⟨⟨P, Q, hg, hr, hp, hq⟩, hF, hb⟩ := h
  refine (radd_any Q r M A n c t p1 p2 wk hr (hA.below hb) hnc hn h1 h2 hll).mono fun e w1 h3 => ?_
  obtain ⟨he, hr1, hc⟩ := h3
  have hc' : Chg (fun k => ¬ F k) wk w1 := ⟨hc.os, hc.tape, hc.output, hc.size, fun i hi hn => hc.block i hi fun hQ => hn (hq i hQ).2.2⟩
  refine ⟨he, ⟨⟨P, _, hc.lg hg fun k hk hQ => (hp k hk).2.2.1 hQ, hr1.bounded, fun k hk => ⟨(hp k hk).1, Nat.lt_of_lt_of_le (hp k hk).2.1 hc.size, fun hQ => ?_, (hp k hk).2.2.2⟩, fun k hk => ?_⟩, fun i hi => Nat.lt_of_lt_of_le (hF i hi) hc.size, hc.toBelow hb hb.size fun k hk => (hq k hk).1⟩, hc'⟩
  · rcases hQ.1 with h | h
    · exact (hp k hk).2.2.1 h
    · have := (hp k hk).2.1; omega
  · rcases hk.1 with h | h
    · exact ⟨(hq k h).1, hk.2, (hq k h).2.2⟩
    · exact ⟨Nat.le_trans hb.size h, hk.2, fun hf => by have := hF k hf; omega⟩
/-- what lies in a marked block stays. -/
theorem Chg.kept {b o : Nat} {cs : List Value} (h : Chg (fun k => ¬ F k) wk w') (hr : wk.rangeAt b o cs) (hb : F b) : w'.rangeAt b o cs := fun j v hv => h.cell (hr j v hv) (fun hn => hn hb)
theorem Chg.keptBlk {b : Nat} {t : TypeId} {cs : Array Value} (h : Chg (fun k => ¬ F k) wk w') (hr : Blk wk b t cs) (hb : F b) : Blk w' b t cs := h.blk hr (fun hn => hn hb)
end
section
open Go.ChangeShapes Go.WideShapes


/-- a text that is to be added. -/
structure Op15 where
  text : List Int
  a1 : Int
  a2 : Int
  raw : Bool
  r1 : IdL
  r2 : IdL
instance : Inhabited Op15 := ⟨⟨[], 0, 0, false, [], []⟩⟩
def op15 (l : List Op15) (j : Nat) : Op15 := l.getD j ⟨[], 0, 0, false, [], []⟩
def opC (d : Op15) (B : Option Addr) (c : Nat) : List Value := .slice B d.text.length c :: .int .i64 d.a1 :: .int .i64 d.a2 :: .bool d.raw :: (bv d.r1 ++ bv d.r2)
theorem opC_len {d : Op15} {B : Option Addr} {c : Nat} (h1 : IsId d.r1) (h2 : IsId d.r2) : (opC d B c).length = 44 := by simp [opC, bv_length, h1.1, h2.1]
theorem opC_r1 {d : Op15} {B : Option Addr} {c : Nat} (h1 : IsId d.r1) {i : Nat} {v : Value} (hv : (bv d.r1)[i]? = some v) : (opC d B c)[4 + i]? = some v := by
  have hi := (List.getElem?_eq_some_iff.1 hv).1
  rw [show 4 + i = i + 1 + 1 + 1 + 1 from by omega]
  unfold opC
  simp only [List.getElem?_cons_succ]
  rw [List.getElem?_append_left hi]
  exact hv
theorem opC_r2 {d : Op15} {B : Option Addr} {c : Nat} (h1 : IsId d.r1) {i : Nat} {v : Value} (hv : (bv d.r2)[i]? = some v) : (opC d B c)[24 + i]? = some v := by
  rw [show 24 + i = (20 + i) + 1 + 1 + 1 + 1 from by omega]
  unfold opC
  simp only [List.getElem?_cons_succ]
  rw [List.getElem?_append_right (by rw [bv_length, h1.1]; omega), bv_length, h1.1, show 20 + i - 20 = i from by omega]
  exact hv
def ROs (w : World) (A : Option Addr) (n : Nat) (l : List Op15) : Prop :=
  l.length = n ∧ (0 < n → ∃ b o, A = some ⟨b, o, none⟩ ∧ ∀ j, j < n → ∃ B c, w.rangeAt b (o + j * 44) (opC (op15 l j) B c) ∧ IsId (op15 l j).r1 ∧ IsId (op15 l j).r2 ∧ (op15 l j).text.length ≤ c ∧ RB w B (op15 l j).text.length (op15 l j).text)
section
variable {H : Type} {enc : TypeId × Value → H} {w : World} {base fuel : Nat} {held : Bool} {cs : List Value} {x : DataW H × List MemPlace}
theorem trod_struct6 {P : Program} {spare : Nat → Bool} {t : TypeId} {f0 f1 f2 f3 f4 f5 : Field} (ht : P.underlying t = some (.struct #[f0, f1, f2, f3, f4, f5])) (h : DataW.trod enc P w base spare held fuel t cs = some x) :
    ∃ y0 y1 y2 y3 y4 y5 n, DataW.trod enc P w base spare held n f0.type ((cs.drop f0.offset).take (P.cellsOf f0.type)) = some y0 ∧ DataW.trod enc P w base spare held n f1.type ((cs.drop f1.offset).take (P.cellsOf f1.type)) = some y1 ∧
      DataW.trod enc P w base spare held n f2.type ((cs.drop f2.offset).take (P.cellsOf f2.type)) = some y2 ∧ DataW.trod enc P w base spare held n f3.type ((cs.drop f3.offset).take (P.cellsOf f3.type)) = some y3 ∧
      DataW.trod enc P w base spare held n f4.type ((cs.drop f4.offset).take (P.cellsOf f4.type)) = some y4 ∧ DataW.trod enc P w base spare held n f5.type ((cs.drop f5.offset).take (P.cellsOf f5.type)) = some y5 := by
  obtain ⟨xs, n, _, rfl, hl, hlen, hf⟩ := DataW.trod_struct ht h
  match xs, hlen with
  | [y0, y1, y2, y3, y4, y5], _ => exact ⟨y0, y1, y2, y3, y4, y5, n, by simpa using hf 0 f0 rfl, by simpa using hf 1 f1 rfl, by simpa using hf 2 f2 rfl, by simpa using hf 3 f3 rfl, by simpa using hf 4 f4 rfl, by simpa using hf 5 f5 rfl⟩
set_option maxRecDepth 100000 in
set_option maxHeartbeats 2000000 in
theorem open_ops (h : DataW.trod enc Try.prog w base (fun _ => true) held fuel 41 cs = some x) :
    ∃ A k c l, cs = [.slice A k c] ∧ ROs w A k l ∧ k ≤ c ∧ c ≤ maxLen := by
  have h44 : Try.prog.cellsOf 47 = 44 := by kernel_rfl
  have h20 : Try.prog.cellsOf 27 = 20 := by kernel_rfl
  have hb1 : Try.prog.cellsOf 29 = 1 := by kernel_rfl
  have hi1 : Try.prog.cellsOf 3 = 1 := by kernel_rfl
  have ho1 : Try.prog.cellsOf 4 = 1 := by kernel_rfl
  rcases Go.Deep.open_slice Try.underlying41 h with ⟨rfl, _⟩ | ⟨a, len, cap, m, n, D, Pl, rfl, _, hl, hm, hmm, hx, hel⟩
  · exact ⟨none, 0, 0, [], rfl, ⟨rfl, fun h => absurd h (by omega)⟩, Nat.le_refl _, by simp [maxLen]⟩
  · simp only [if_true] at hmm
    subst hmm
    rw [h44] at hel
    have each : ∀ i, i < len → ∃ d : Op15, IsId d.r1 ∧ IsId d.r2 ∧ ∃ B c, (∀ j, j < 44 → w.cell? (a.add (i * 44 + j)) = (opC d B c)[j]?) ∧ d.text.length ≤ c ∧ RB w B d.text.length d.text := by
      intro i hi
      obtain ⟨cs', h1, h2⟩ := hel i (by omega)
      obtain ⟨_, hlen, hce⟩ := World.cells?_some h1
      obtain ⟨y0, y1, y2, y3, y4, y5, n', g0, g1, g2, g3, g4, g5⟩ := trod_struct6 Try.underlying47 h2
      have g0 : DataW.trod enc Try.prog w base (fun _ => true) held n' 29 ((cs'.drop 0).take (Try.prog.cellsOf 29)) = some y0 := g0
      have g1 : DataW.trod enc Try.prog w base (fun _ => true) held n' 3 ((cs'.drop 1).take (Try.prog.cellsOf 3)) = some y1 := g1
      have g2 : DataW.trod enc Try.prog w base (fun _ => true) held n' 3 ((cs'.drop 2).take (Try.prog.cellsOf 3)) = some y2 := g2
      have g3 : DataW.trod enc Try.prog w base (fun _ => true) held n' 4 ((cs'.drop 3).take (Try.prog.cellsOf 4)) = some y3 := g3
      have g4 : DataW.trod enc Try.prog w base (fun _ => true) held n' 27 ((cs'.drop 4).take (Try.prog.cellsOf 27)) = some y4 := g4
      have g5 : DataW.trod enc Try.prog w base (fun _ => true) held n' 27 ((cs'.drop 24).take (Try.prog.cellsOf 27)) = some y5 := g5
      rw [hb1] at g0
      rw [hi1] at g1 g2
      rw [ho1] at g3
      rw [h20] at g4 g5
      obtain ⟨z1, q1, _, _⟩ := DataW.trod_int Try.underlying3 g1
      obtain ⟨z2, q2, _, _⟩ := DataW.trod_int Try.underlying3 g2
      obtain ⟨z3, q3, _⟩ := DataW.trod_bool Try.underlying4 g3
      obtain ⟨x4, hx4, q4⟩ := trod_id g4
      obtain ⟨x5, hx5, q5⟩ := trod_id g5
      obtain ⟨B, k, c, xs, q0, hkc, hr⟩ : ∃ B k c xs, (cs'.drop 0).take 1 = [.slice B k c] ∧ k ≤ c ∧ RB w B k xs := by
        rcases open_ints Try.underlying29 Try.underlying5 (by kernel_rfl) g0 with ⟨hcs, _⟩ | ⟨x, l, c, zs, hcs, _, hl, hm, hz, hxx, hcell, hwz⟩
        · exact ⟨none, 0, 0, [], hcs, Nat.le_refl _, RB.nil _ _⟩
        · obtain ⟨r1, r2⟩ := RB.of_row (w := w) (a := some x) (len := l) (cap := c) (zs := zs) (.inr ⟨_, rfl, hl, hm, by simpa using hz, hcell, hwz⟩)
          exact ⟨some x, l, c, _, hcs, r2, r1⟩
      have hkl := hr.len
      subst hkl
      refine ⟨⟨xs, z1, z2, z3, x4, x5⟩, hx4, hx5, B, c, fun j hj => ?_, hkc, hr⟩
      have hcj := hce j (by omega)
      rw [add_of_add] at hcj
      rw [hcj]
      have key : cs' = opC ⟨xs, z1, z2, z3, x4, x5⟩ B c := by
        match cs', hlen with
        | v0 :: v1 :: v2 :: v3 :: rest, hlen =>
          simp only [List.drop_zero, List.take_succ_cons, List.take_zero, List.drop_succ_cons, List.cons.injEq, and_true] at q0 q1 q2 q3 q4 q5
          subst q0 q1 q2 q3
          unfold opC
          have hrl : rest.length = 40 := by simp at hlen; omega
          rw [← q4, ← q5]
          congr 4
          rw [← List.take_append_drop 20 rest]
          congr 1
          · simp [hrl]
          · rw [List.take_of_length_le (by simp [hrl])]
            simp [hrl]
      rw [key]
    obtain ⟨f, hf⟩ := Go.Deep.choose_lt (p := fun i (d : Op15) => IsId d.r1 ∧ IsId d.r2 ∧ ∃ B c, (∀ j, j < 44 → w.cell? (a.add (i * 44 + j)) = (opC d B c)[j]?) ∧ d.text.length ≤ c ∧ RB w B d.text.length d.text) each
    have hg : ∀ j, j < len → op15 ((List.range len).map f) j = f j := fun j hj => by simp [op15, hj]
    refine ⟨some a, len, m, (List.range len).map f, rfl, ⟨by simp, fun h0 => ?_⟩, hl, hm⟩
    obtain ⟨b, o, sp⟩ := a
    obtain ⟨_, _, B0, c0, h00, _⟩ := hf 0 h0
    have h00 := h00 0 (by omega)
    have hsp : sp = none := by
      have := World.cell?_spot h00
      simpa [Addr.add] using this
    subst hsp
    refine ⟨b, o, rfl, fun j hj => ?_⟩
    rw [hg j hj]
    obtain ⟨k1, k2, B, c, k3, k4, k5⟩ := hf j hj
    refine ⟨B, c, fun i v hv => ?_, k1, k2, k4, k5⟩
    have hi : i < 44 := by
      have := (List.getElem?_eq_some_iff.1 hv).1
      rw [opC_len k1 k2] at this
      exact this
    have := k3 i hi
    rw [hv, add_plain] at this
    rw [← this, Nat.add_assoc]
end
end


def xA : IdL := nodeV [97] zeroL zeroL
def LA : Lg := [⟨xA, zeroL, zeroL, [97], 0⟩]
theorem xA_id : IsId xA := nodeV_id _ _ _
theorem mayA : mayE [] [97] zeroL zeroL = 0 := by
  have h1 : lacksL [] zeroL = false := by simp [lacksL]
  have h2 : posL [] (nodeV [97] zeroL zeroL) = none := posL_no (by simp [nodes])
  unfold mayE
  rw [h1, h2]
  rfl
theorem addXA : addX [] [97] zeroL zeroL = xA := by unfold addX; rw [if_pos mayA]; rfl
theorem addLA : addL [] [97] zeroL zeroL = LA := by
  have h2 : posL [] (nodeV [97] zeroL zeroL) = none := posL_no (by simp [nodes])
  unfold addL
  rw [if_pos ⟨mayA, h2⟩]
  rfl
theorem posA : posL LA xA = some 0 := by
  unfold posL LA nodes
  simp
theorem txtA : txtV LA xA = [97] := by unfold txtV; rw [posA]; rfl
theorem chaA : chaI LA 0 = 0 := rfl
set_option maxRecDepth 100000 in
set_option maxHeartbeats 4000000 in
theorem awake15_any (w : World) : Calls Try.prog 7 #[] w (BoolP true w) := by
  have hzX := id_sz xA_id
  have hsX := id_zs xA_id
  have hX := xA_id
  go_enter Try.func7, Try.ntmps7
  go_wp2_with fail
  refine (new_any _).mono ?_
  rintro e w1 ⟨g, rfl, hg0, hb1⟩
  go_wp2_with fail
  have hal := (Below.refl w1.heap.size w1).alloc (Nat.le_refl _) (.cells #[.int .u8 97] 5 (1, 2))
  refine (add_any _ g [] _ _ _ [97] zeroL zeroL _ (hg0.below hal) (RB.lit_new w1 _ rfl [97] 1 (1, 2) rfl (bytsOf _ rfl)) (by omega) (by omega) zeroL_id zeroL_id (by simp)).mono ?_
  rw [addXA, addLA, mayA]
  rintro e w2 ⟨rfl, hg2, hc2⟩
  have hb2 : Below w.heap.size w w2 := hc2.toBelow (below_two hb1 hal) (below_two hb1 hal).size (fun k hk => hk)
  have htx : ∀ W, LgAt W (fun k => w.heap.size ≤ k) g LA → Calls Try.prog 11 #[.pointer (some ⟨g, 0, none⟩), ida xA] W (TxtP [97] 0 W) := fun W hW => by
    have := text_any _ g LA xA W hW hX (by simp [LA])
    rwa [txtA, (atI_of posA).2.2] at this
  have hg2' : LgAt w2 (fun k => w.heap.size ≤ k) g LA := hg2.mono (fun k hk => by rcases hk with hk | hk; exact hk; exact Nat.le_trans (below_two hb1 hal).size hk)
  have hb3 : Below w2.heap.size w2 (w2.alloc (.cells zid 27)) := (Below.refl _ _).alloc (Nat.le_refl _) _
  have hlenA : ∀ W, LgAt W (fun k => w.heap.size ≤ k) g LA → Calls Try.prog 14 #[.pointer (some ⟨g, 0, none⟩)] W (IntP 1 W) := fun W hW => len_any _ g LA W hW
  have hchA : ∀ W, LgAt W (fun k => w.heap.size ≤ k) g LA → Calls Try.prog 13 #[.pointer (some ⟨g, 0, none⟩), .int .i64 0] W (IntP 0 W) := fun W hW => chain_any _ g LA 0 W hW
  have hstr : (strOfNums [97]).toList = [97] := by rw [ByteArray.toList_eq, strOfNums_data]; rfl
  clear hg2 hc2
  generalize xA = X at *
  go_wp2_with (first
    | ((with_reducible refine st_row 27 2 16 w2.heap.size 27 (bv X).toArray zid ?_ ?_ ?_ hzX hsX (bvArr_all X) ?_); rfl; rfl; exact Blk.new w2 27 zid; intro w4 hb4 hg4 hsz4; have q4 := run_loadId hb4.range hX; have hb24 := hb3.grown hg4 hb3.size (fun k hk => by cases hk; exact Nat.le_refl _); have hg4' := hg2'.below hb24)
    | (go_at_call 11; (refine (htx _ hg4').mono ?_); rintro e w5 ⟨A5, c5, rfl, ho5, hc5, hb5⟩; have hg5 := hg4'.below hb5; have cB := fun c => run_string_RB (P := Try.prog) (show RB w5 A5 1 [97] from ho5.reads) 29 5 9 c Try.underlying29 Try.underlying5 Try.underlying9; have hlen := hlenA w5 hg5)
    | (go_at_call 14; (refine hlen.mono ?_); rintro e w6 ⟨rfl, hb6⟩; have hch := hchA w6 (hg5.below hb6))
    | (go_at_call 13; (refine hch.mono ?_); rintro e w7 ⟨rfl, hb7⟩))
  go_ret
  exact ⟨rfl, below_two (below_two (below_two (below_two hb2 hb24) hb5) hb6) hb7⟩


/-- a store of an id, for a fact of the proof to answer. -/
noncomputable def stId (p : Addr) (v : Value) : Sem Unit := storeVar 27 p v
@[go_sem ↓ high] theorem storeVar_I (p : Addr) (v : Value) : storeVar tyI p v = stId p v := by rw [tyI_eq]; rfl
theorem stI_eq (t u : Tmp) : Op.store 27 (.tmp t) (.tmp u) = Op.store tyI (.tmp t) (.tmp u) := by rw [tyI_eq]
@[go_sem] theorem run_stId (w : World) (b : Nat) (xs : IdL) (h : w.there b 0 20) (hx : IsId xs) : (stId ⟨b, 0, none⟩ (ida xs)).run Try.prog w = .ok () (w.setCells b 0 (bv xs)) := by
  have hl : (bv xs).toArray.size = 20 := by rw [List.size_toArray, bv_length, hx.1]
  have := run_storeVar_mid (P := Try.prog) w b 0 27 (bv xs).toArray (by rw [hl]; exact h) (by rw [hl]; exact idSize) (bvArr_all xs)
  exact this
@[go_sem] theorem there_new (w : World) (b : Nat) (h : b = w.heap.size) : (w.alloc (.cells zlit 27)).there b 0 20 := by
  subst h
  exact (Blk.new w 27 zlit).there rfl
@[go_sem low] theorem there_old (w : World) (b n : Nat) (o : Obj) (h : w.there b 0 n) : (w.alloc o).there b 0 n := there_below h ((Below.refl _ _).alloc (Nat.le_refl _) o)
@[go_sem] theorem there_drew (w : World) (b n : Nat) : w.drew.there b 0 n = w.there b 0 n := rfl
@[go_sem] theorem there_set (w : World) (b n b' o : Nat) (vs : List Value) (h : w.there b 0 n) : (w.setCells b' o vs).there b 0 n := World.there_setCells h b' o vs
theorem there_new1 (w : World) (o : Obj) : ((w.alloc o).alloc (.cells zlit 27)).there (w.heap.size + 1) 0 20 := there_new _ _ (by simp)
theorem there_drewI {w : World} {b n : Nat} (h : w.there b 0 n) : w.drew.there b 0 n := h
theorem there_oldI {w : World} {b n : Nat} {o : Obj} (h : w.there b 0 n) : (w.alloc o).there b 0 n := there_old w b n o h
theorem there_setI {w : World} {b n b' o : Nat} {vs : List Value} (h : w.there b 0 n) : (w.setCells b' o vs).there b 0 n := there_set w b n b' o vs h
/-- two cells, and that all that was there is as it was. -/
abbrev Sk (w : World) (b : Nat) (x y : Int) (W : World) : Prop := W.cell? ⟨b, 1, none⟩ = some (.int .i64 x) ∧ W.cell? ⟨b, 2, none⟩ = some (.int .i64 y) ∧ Below w.heap.size w W
section
variable {w W W' : World} {b : Nat} {x y : Int}
theorem Sk.at_ (hx : w.cell? ⟨b, 1, none⟩ = some (.int .i64 x)) (hy : w.cell? ⟨b, 2, none⟩ = some (.int .i64 y)) (h : Below w.heap.size w W) : Sk w b x y W := ⟨cell_later h hx, cell_later h hy, h⟩
theorem Sk.bel (h : Sk w b x y W) : Below w.heap.size w W := h.2.2
theorem sk_alloc (h : Sk w b x y W) (o : Obj) : Below w.heap.size w (W.alloc o) := h.2.2.alloc h.2.2.size o
theorem sk_call (h : Sk w b x y W) (k : Below W.heap.size W W') : Below w.heap.size w W' := below_two h.2.2 k
theorem sk_set (h : Sk w b x y W) (b' : Nat) (vs : List Value) (hb : w.heap.size ≤ b') : Below w.heap.size w (W.setCells b' 0 vs) := h.2.2.grown (setCells_grown b' vs 0 W) h.2.2.size (fun k hk => by cases hk; exact hb)
end
theorem bk_alloc {w W : World} (h : Below w.heap.size w W) (o : Obj) : Below w.heap.size w (W.alloc o) := h.alloc h.size o
theorem bk_set {w W : World} (h : Below w.heap.size w W) (b' : Nat) (vs : List Value) (hb : w.heap.size ≤ b') : Below w.heap.size w (W.setCells b' 0 vs) := h.grown (setCells_grown b' vs 0 W) h.size (fun k hk => by cases hk; exact hb)
/-- both parents' cells, as region 9 and region 11 leave them. -/
abbrev Par (w : World) (b1 b2 : Nat) (wx : World) : Prop := ∃ y1 y2, IsId y1 ∧ IsId y2 ∧ wx.rangeAt b1 0 (bv y1) ∧ wx.rangeAt b2 0 (bv y2) ∧ wx.there b1 0 20 ∧ wx.there b2 0 20 ∧ Below w.heap.size w wx
theorem par_set {w X : World} {b1 b2 : Nat} {y1 y2 : IdL} (hX : Below w.heap.size w X) (h1 : X.there b1 0 20) (h2 : X.there b2 0 20) (hb1 : w.heap.size ≤ b1) (hb2 : w.heap.size ≤ b2) (hne : b1 ≠ b2) (i1 : IsId y1) (i2 : IsId y2) :
    Par w b1 b2 ((X.setCells b1 0 (bv y1)).setCells b2 0 (bv y2)) := by
  have l1 : (bv y1).length = 20 := by rw [bv_length, i1.1]
  have l2 : (bv y2).length = 20 := by rw [bv_length, i2.1]
  refine ⟨y1, y2, i1, i2, World.rangeAt_setCells_apart (World.rangeAt_setCells_same _ _ _ _ (by rw [l1]; exact h1)) _ _ _ (.inl hne), World.rangeAt_setCells_same _ _ _ _ (by rw [l2]; exact there_setI h2), there_setI (there_setI h1), there_setI (there_setI h2), bk_set (bk_set hX _ _ hb1) _ _ hb2⟩
theorem par_tes {w X : World} {b1 b2 : Nat} {y1 y2 : IdL} (hX : Below w.heap.size w X) (h1 : X.there b1 0 20) (h2 : X.there b2 0 20) (hb1 : w.heap.size ≤ b1) (hb2 : w.heap.size ≤ b2) (hne : b1 ≠ b2) (i1 : IsId y1) (i2 : IsId y2) :
    Par w b1 b2 ((X.setCells b2 0 (bv y2)).setCells b1 0 (bv y1)) := by
  obtain ⟨z1, z2, k1, k2, k3, k4, k5, k6, k7⟩ := par_set (y1 := y2) (y2 := y1) hX h2 h1 hb2 hb1 (Ne.symm hne) i2 i1
  exact ⟨z2, z1, k2, k1, k4, k3, k6, k5, k7⟩
theorem range_aft {w w' : World} {b o : Nat} {cs : List Value} (h : w.rangeAt b o cs) (hb : Below w.heap.size w w') : w'.rangeAt b o cs := fun j v hv => cell_later hb (h j v hv)
theorem lt_of_range {w : World} {b : Nat} {xs : IdL} (h : w.rangeAt b 0 (bv xs)) (hx : IsId xs) : b < w.heap.size := by
  have hl : 0 < (bv xs).length := by rw [bv_length, hx.1]; omega
  have := h 0 _ (List.getElem?_eq_getElem hl)
  exact World.block_lt_of_cell? _ _ this
/-- region 11: both ids of the op, both parents' cells. -/
abbrev S11 (w : World) (c b1 b2 : Nat) (x1 x2 : IdL) (W : World) : Prop := (loadId ⟨c, 4, none⟩).run Try.prog W = .ok (ida x1) W ∧ (loadId ⟨c, 24, none⟩).run Try.prog W = .ok (ida x2) W ∧ W.there b1 0 20 ∧ W.there b2 0 20 ∧ Below w.heap.size w W
theorem s11_at {w W : World} {c b1 b2 : Nat} {x1 x2 : IdL} (h4 : w.rangeAt c 4 (bv x1)) (h5 : w.rangeAt c 24 (bv x2)) (i1 : IsId x1) (i2 : IsId x2) (t1 : W.there b1 0 20) (t2 : W.there b2 0 20) (hB : Below w.heap.size w W) : S11 w c b1 b2 x1 x2 W :=
  ⟨run_loadId (range_aft h4 hB) i1, run_loadId (range_aft h5 hB) i2, t1, t2, hB⟩
theorem s11_set {w W : World} {c b1 b2 : Nat} {x1 x2 : IdL} (h4 : w.rangeAt c 4 (bv x1)) (h5 : w.rangeAt c 24 (bv x2)) (i1 : IsId x1) (i2 : IsId x2) (h : S11 w c b1 b2 x1 x2 W) (b : Nat) (vs : List Value) (hb : w.heap.size ≤ b) : S11 w c b1 b2 x1 x2 (W.setCells b 0 vs) :=
  s11_at h4 h5 i1 i2 (there_setI h.2.2.1) (there_setI h.2.2.2.1) (bk_set h.2.2.2.2 _ _ hb)
theorem ownB_ob {w : World} {B g n : Nat} {xs : List Int} {f : Int} (h : OwnB w B g n xs f) (hx : Byts xs) (hn : n ≤ 1000000000) : OB w B (.slice (some ⟨g, 0, none⟩) n (n + 3)) n xs := by
  refine OB.of_blk h.1 h.2.2 (by omega) (by simp only [maxLen]; omega) (by simp [bv, h.2.1]) ?_ hx
  have hl := h.2.1
  rw [bv_append]
  simp [bv, ← hl]
theorem Chg.own {F : Nat → Prop} {w w' : World} {B g n : Nat} {xs : List Int} {f : Int} (h : Chg (fun k => ¬ F k) w w') (ho : OwnB w B g n xs f) (hg : F g) : OwnB w' B g n xs f := ⟨ho.1, ho.2.1, h.keptBlk ho.2.2 hg⟩
/-- region 15: the ids made, both parents, the text, the reference's row. -/
abbrev S15 (w : World) (a b b1 b2 c r : Nat) (X p1 p2 : IdL) (BT : Option Addr) (n cT : Nat) (AL : Option Addr) (m cL : Nat) (W : World) : Prop :=
  (loadId ⟨a, 0, none⟩).run Try.prog W = .ok (ida X) W ∧ (loadId ⟨b, 0, none⟩).run Try.prog W = .ok (ida X) W ∧ (loadId ⟨b1, 0, none⟩).run Try.prog W = .ok (ida p1) W ∧ (loadId ⟨b2, 0, none⟩).run Try.prog W = .ok (ida p2) W ∧
  W.cell? ⟨c, 0, none⟩ = some (.slice BT n cT) ∧ W.cell? ⟨r, 0, none⟩ = some (.slice AL m cL) ∧ Below w.heap.size w W
theorem S15.bel {w W : World} {a b b1 b2 c r : Nat} {X p1 p2 : IdL} {BT : Option Addr} {n cT : Nat} {AL : Option Addr} {m cL : Nat} (h : S15 w a b b1 b2 c r X p1 p2 BT n cT AL m cL W) : Below w.heap.size w W := h.2.2.2.2.2.2
theorem Pl.refRow {w wk : World} {g r : Nat} {F : Nat → Prop} {L M : Lg} (h : Pl w wk g r F L M) : ∃ A c, wk.cell? ⟨r, 0, none⟩ = some (.slice A M.length c) := by
  obtain ⟨⟨P, Q, hg, ⟨A, n, c, Vs, hm⟩, hp, hq⟩, hF, hB⟩ := h
  have hn := hm.len
  subst hn
  exact ⟨A, c, hm.blk.cell 0⟩
theorem Pl.lenP {w wk : World} {g r : Nat} {F : Nat → Prop} {L M : Lg} (h : Pl w wk g r F L M) : Calls Try.prog 14 #[.pointer (some ⟨g, 0, none⟩)] wk (IntP (L.length : Nat) wk) := by
  obtain ⟨⟨P, Q, hg, _⟩, _⟩ := h
  exact len_any P g L wk hg
section
variable {w wk : World} {g r : Nat} {F : Nat → Prop} {L M : Lg}
theorem Pl.rev (h : Pl w wk g r F L M) {k : Nat} (hk : k < M.length) : ∃ b o cL B d, wk.cell? ⟨r, 0, none⟩ = some (.slice (some ⟨b, o, none⟩) M.length cL) ∧ wk.rangeAt b (o + k * 62) (rfC (rv M k) (.slice B (rv M k).text.length d)) ∧ (rv M k).text.length ≤ d ∧ RB wk B (rv M k).text.length (rv M k).text ∧ LInv M := by
  obtain ⟨⟨P, Q, hg, ⟨A, n, c, Vs, hm⟩, hp, hq⟩, hF, hB⟩ := h
  have hn := hm.len
  subst hn
  obtain ⟨b, o, B, d, rfl, hr, hd, ht⟩ := hm.at_ hk
  exact ⟨b, o, c, B, d, hm.blk.cell 0, hr, hd, ht, hm.inv⟩
theorem Pl.textP (h : Pl w wk g r F L M) {x : IdL} (hx : IsId x) (hL : L.length ≤ 100000) : Calls Try.prog 11 #[.pointer (some ⟨g, 0, none⟩), ida x] wk (TxtP (txtV L x) (findE L x) wk) := by
  obtain ⟨⟨P, Q, hg, _⟩, _⟩ := h
  exact text_any P g L x wk hg hx hL
theorem Pl.parP (h : Pl w wk g r F L M) {x : IdL} (hx : IsId x) : Calls Try.prog 22 #[.pointer (some ⟨g, 0, none⟩), ida x] wk (ParP (parV L x).1 (parV L x).2 (findE L x) wk) := by
  obtain ⟨⟨P, Q, hg, _⟩, _⟩ := h
  exact parents_any P g L x wk hg hx
theorem Pl.nodP (h : Pl w wk g r F L M) (k : Int) : Calls Try.prog 23 #[.pointer (some ⟨g, 0, none⟩), .int .i64 k] wk (NodP (nodI L k) (nodB L k) wk) := by
  obtain ⟨⟨P, Q, hg, _⟩, _⟩ := h
  exact nodeAt_any P g L k wk hg
theorem Pl.chaP (h : Pl w wk g r F L M) (k : Int) : Calls Try.prog 13 #[.pointer (some ⟨g, 0, none⟩), .int .i64 k] wk (IntP (chaI L k) wk) := by
  obtain ⟨⟨P, Q, hg, _⟩, _⟩ := h
  exact chain_any P g L k wk hg
theorem Pl.atP (h : Pl w wk g r F L M) {x : IdL} (hx : IsId x) (hL : M.length ≤ 100000) : Calls Try.prog 24 #[.pointer (some ⟨r, 0, none⟩), ida x] wk (IntP (atX M x) wk) := by
  obtain ⟨⟨P, Q, _, hr, _⟩, _⟩ := h
  exact rat_any Q r M x wk hr hx (by omega)
end
/-- what a text of the log's own reads as. -/
theorem own_rv {L : Lg} (hi : LInv L) {k : Nat} (hk : k < L.length) : txtV L (rv L k).node = (rv L k).text ∧ findE L (rv L k).node = 0 ∧ (parV L (rv L k).node).1 = (rv L k).p1 ∧ (parV L (rv L k).node).2 = (rv L k).p2 ∧ nodI L k = (rv L k).node ∧ nodB L k = true ∧ chaI L k = ((rv L k).chain : Nat) := by
  have hp := posL_of hi.nd hk rfl
  have h2 : (0 : Int) ≤ (k : Int) ∧ (k : Int) < (L.length : Int) := ⟨by omega, by omega⟩
  refine ⟨by unfold txtV; rw [hp], (atI_of hp).2.2, by unfold parV; rw [hp], by unfold parV; rw [hp], ?_, ?_, ?_⟩
  · unfold nodI; rw [if_pos h2]; simp
  · unfold nodB; exact decide_eq_true h2
  · unfold chaI; rw [if_pos h2]; simp
/-- region 25: what was found, and the reference's own. -/
abbrev S25 (w : World) (a b d c : Nat) (X p1 p2 : IdL) (BT : Option Addr) (n cT : Nat) (ch : Int) (W : World) : Prop :=
  (loadId ⟨a, 0, none⟩).run Try.prog W = .ok (ida p1) W ∧ (loadId ⟨b, 0, none⟩).run Try.prog W = .ok (ida p2) W ∧ (loadId ⟨d, 0, none⟩).run Try.prog W = .ok (ida X) W ∧
  (loadId ⟨c, 0, none⟩).run Try.prog W = .ok (ida X) W ∧ (loadId ⟨c, 20, none⟩).run Try.prog W = .ok (ida p1) W ∧ (loadId ⟨c, 40, none⟩).run Try.prog W = .ok (ida p2) W ∧
  W.cell? ⟨c, 60, none⟩ = some (.slice BT n cT) ∧ W.cell? ⟨c, 61, none⟩ = some (.int .i64 ch) ∧ Below w.heap.size w W
theorem S25.bel {w W : World} {a b d c : Nat} {X p1 p2 : IdL} {BT : Option Addr} {n cT : Nat} {ch : Int} (h : S25 w a b d c X p1 p2 BT n cT ch W) : Below w.heap.size w W := h.2.2.2.2.2.2.2.2
theorem rev_cells {W : World} {c : Nat} {R : Rv} {B : Option Addr} {n d : Nat} (hB : Blk W c 54 (rfC R (.slice B n d)).toArray) (hid : RvIds R) :
    (loadId ⟨c, 0, none⟩).run Try.prog W = .ok (ida R.node) W ∧ (loadId ⟨c, 20, none⟩).run Try.prog W = .ok (ida R.p1) W ∧ (loadId ⟨c, 40, none⟩).run Try.prog W = .ok (ida R.p2) W ∧ W.cell? ⟨c, 60, none⟩ = some (.slice B n d) ∧ W.cell? ⟨c, 61, none⟩ = some (.int .i64 (R.chain : Nat)) := by
  have hr : W.rangeAt c 0 (rfC R (.slice B n d)) := fun j v hj => by rw [Nat.zero_add, hB.cell, List.getElem?_toArray]; exact hj
  refine ⟨run_loadId (range_node hid hr) hid.1, ?_, ?_, ?_, ?_⟩
  · have := range_p1 hid hr
    rw [Nat.zero_add] at this
    exact run_loadId this hid.2.1
  · have := range_p2 hid hr
    rw [Nat.zero_add] at this
    exact run_loadId this hid.2.2
  · rw [hB.cell, List.getElem?_toArray]; exact (rfC_t hid).1
  · rw [hB.cell, List.getElem?_toArray]; exact (rfC_t hid).2
theorem ob_ge {w : World} {base n k : Nat} {v : Value} {xs : List Int} (h : OB w base v n xs) (e : v.ownBlock = some k) : base ≤ k := by
  rcases h.form with ⟨rfl, _⟩ | ⟨g, cap, cur, rfl, h1, _⟩
  · simp [Value.ownBlock] at e
  · simp [Value.ownBlock] at e
    omega
theorem ask_cases (L : Lg) (x : IdL) : (atX L x < 0 ∧ findE L x = 6 ∧ (txtV L x).length = 0 ∧ (parV L x).1 = zeroL ∧ (parV L x).2 = zeroL) ∨ ¬ atX L x < 0 := by
  cases hp : posL L x with
  | none =>
    refine .inl ⟨by unfold atX; rw [hp]; decide, ?_, by unfold txtV; rw [hp]; rfl, by unfold parV; rw [hp], by unfold parV; rw [hp]⟩
    unfold findE
    rw [if_neg]
    intro h
    obtain ⟨k, hk⟩ := hasL_iff.1 h
    rw [hp] at hk
    cases hk
  | some k =>
    refine .inr ?_
    unfold atX
    rw [hp]
    show ¬ ((k : Nat) : Int) < 0
    omega
theorem at_cases (L : Lg) (k : Int) : (0 ≤ k ∧ k < L.length) ∨ (¬ (0 ≤ k ∧ k < L.length) ∧ nodB L k = false ∧ nodI L k = zeroL ∧ chaI L k = -1) := by
  by_cases h : 0 ≤ k ∧ k < L.length
  · exact .inl h
  · exact .inr ⟨h, by unfold nodB; exact decide_eq_false h, by unfold nodI; rw [if_neg h], by unfold chaI; rw [if_neg h]⟩
theorem Pl.inv {w wk : World} {g r : Nat} {F : Nat → Prop} {L M : Lg} (h : Pl w wk g r F L M) : LInv M := by
  obtain ⟨⟨P, Q, _, hr, _⟩, _⟩ := h
  exact hr.inv
theorem parV_id {L : Lg} (hi : LInv L) (x : IdL) : IsId (parV L x).1 ∧ IsId (parV L x).2 := by
  unfold parV
  cases hp : posL L x with
  | none => exact ⟨zeroL_id, zeroL_id⟩
  | some k => exact ⟨(hi.ids k (posL_some hp).1).2.1, (hi.ids k (posL_some hp).1).2.2⟩
theorem nodI_id {L : Lg} (hi : LInv L) (k : Int) : IsId (nodI L k) := by
  unfold nodI
  by_cases h : 0 ≤ k ∧ k < L.length
  · rw [if_pos h]
    exact (hi.ids k.toNat (by omega)).1
  · rw [if_neg h]
    exact zeroL_id
/-! ### an op of the script -/
noncomputable def loadOp (p : Addr) : Sem Value := loadVar 47 p
@[go_sem ↓ high] theorem loadVar_op (p : Addr) : loadVar 47 p = loadOp p := rfl
theorem opSz : (Try.prog.info? 47).map (·.size) = some 44 := by kernel_rfl
theorem run_loadOp {w : World} {b o : Nat} {d : Op15} {B : Option Addr} {c : Nat} (h : w.rangeAt b o (opC d B c)) (h1 : IsId d.r1) (h2 : IsId d.r2) : (loadOp ⟨b, o, none⟩).run Try.prog w = .ok (.agg (opC d B c).toArray) w :=
  run_loadVar_mid w b o _ (opC d B c) _ h Try.underlying47 rfl (by rw [opC_len h1 h2]; exact opSz)
abbrev zop : Array Value := #[.slice none 0 0, .int .i64 0, .int .i64 0, .bool false, .int .u8 0, .int .u8 0, .int .u8 0, .int .u8 0, .int .u8 0, .int .u8 0, .int .u8 0, .int .u8 0, .int .u8 0, .int .u8 0, .int .u8 0, .int .u8 0, .int .u8 0, .int .u8 0, .int .u8 0, .int .u8 0, .int .u8 0, .int .u8 0, .int .u8 0, .int .u8 0, .int .u8 0, .int .u8 0, .int .u8 0, .int .u8 0, .int .u8 0, .int .u8 0, .int .u8 0, .int .u8 0, .int .u8 0, .int .u8 0, .int .u8 0, .int .u8 0, .int .u8 0, .int .u8 0, .int .u8 0, .int .u8 0, .int .u8 0, .int .u8 0, .int .u8 0, .int .u8 0]
theorem zop_size : zop.size = 44 := rfl
theorem opC_all (d : Op15) (B : Option Addr) (c : Nat) : (opC d B c).toArray.all (·.oneCell') = true := by
  rw [Array.all_eq_true_iff_forall_mem]
  intro x hx
  have hx : x ∈ opC d B c := by simpa using hx
  unfold opC at hx
  simp only [List.mem_cons, List.mem_append] at hx
  rcases hx with h | h | h | h | h | h
  · rw [h]; rfl
  · rw [h]; rfl
  · rw [h]; rfl
  · rw [h]; rfl
  · exact bv_one _ x h
  · exact bv_one _ x h
/-- an op, laid in a block. -/
theorem op_cells {w : World} {g : Nat} {d : Op15} {B : Option Addr} {c : Nat} (h : Blk w g 47 (opC d B c).toArray) (h1 : IsId d.r1) (h2 : IsId d.r2) :
    w.cell? ⟨g, 0, none⟩ = some (.slice B d.text.length c) ∧ w.cell? ⟨g, 1, none⟩ = some (.int .i64 d.a1) ∧ w.cell? ⟨g, 2, none⟩ = some (.int .i64 d.a2) ∧ w.cell? ⟨g, 3, none⟩ = some (.bool d.raw) ∧ w.rangeAt g 4 (bv d.r1) ∧ w.rangeAt g 24 (bv d.r2) := by
  refine ⟨h.cell 0, h.cell 1, h.cell 2, h.cell 3, fun i v hv => ?_, fun i v hv => ?_⟩
  · rw [h.cell, List.getElem?_toArray]
    exact opC_r1 h1 hv
  · rw [h.cell, List.getElem?_toArray]
    exact opC_r2 h1 hv
end Go.Proofs.Ytgokompppadogaa
