/-
  MarksBack: its state, and what each call does to it.
-/
import Derived.Test.YtokamaogognjoaaMkn
import Derived.Test.YtokamaogognjoaaMkp
set_option linter.unusedVariables false
set_option linter.unusedSimpArgs false
namespace Go.Proofs.Ytokamaogognjoaa
section
open Go.RowKit

/-- the model's cell at p with the row v of M; the fresh row u of o; what is left (rest) at A9; the table g on the tape gt. -/
structure SB (w : World) (p : Nat) (v : Value) (M : Prs) (u : Value) (o : Prs) (A9 : Option Addr) (n9 : Nat) (rest : Prs) (g gt : Nat) (ls : List Prs) (W : World) : Prop where
  ex : ∃ R : Nat → Prop, Tm W R g gt 0 ls.flatten (Tp.clean ls 1048576 0) ∧ ∀ k, R k → w.heap.size ≤ k ∧ k < W.heap.size ∧ k ≠ p ∧ v.ownBlock ≠ some k ∧ u.ownBlock ≠ some k ∧ ∀ ad, A9 = some ad → ad.block ≠ k
  bel : Below w.heap.size w W
  mod : Blk W p 46 #[v]
  lp : w.heap.size ≤ p
  row : OPrs W w.heap.size v M.length M
  new : OPrs W w.heap.size u o.length o
  unp : ∀ k, u.ownBlock = some k → v.ownBlock ≠ some k
  rst : RPrs W A9 n9 rest
  rfar : ∀ ad, A9 = some ad → w.heap.size ≤ ad.block ∧ ad.block < W.heap.size ∧ ad.block ≠ p ∧ v.ownBlock ≠ some ad.block
section
variable {w W w' : World} {p n9 g gt : Nat} {v u : Value} {M o rest : Prs} {A9 : Option Addr} {ls : List Prs}
set_option maxRecDepth 100000 in
theorem SB.below (h : SB w p v M u o A9 n9 rest g gt ls W) (hb : Below W.heap.size W w') : SB w p v M u o A9 n9 rest g gt ls w' := by
  obtain ⟨R, a, b⟩ := h.ex
  have hz := hb.size
  exact ⟨⟨R, a.below hb, fun k hk => ⟨(b k hk).1, Nat.lt_of_lt_of_le (b k hk).2.1 hz, (b k hk).2.2⟩⟩, below_two h.bel hb, h.mod.below hb h.mod.lt, h.lp, h.row.below hb, h.new.below hb, h.unp, h.rst.below hb, fun ad e => ⟨(h.rfar ad e).1, Nat.lt_of_lt_of_le (h.rfar ad e).2.1 hz, (h.rfar ad e).2.2⟩⟩
set_option maxRecDepth 100000 in
theorem SB.fresh (h : SB w p v M u o A9 n9 rest g gt ls W) (hM : M = ls.flatten) (hl : M.length ≤ 1000000) {k c : Nat} (hk : k ≤ n9) (hk1 : k ≤ 1000000) :
    Calls Try.prog 15 #[.pointer (some ⟨p, 0, none⟩), .slice A9 k c] W (fun e w' => ∃ A12 c12, e = .returned (.tuple #[.slice A12 (freshR M (rest.take k)).1.length c12, .int .i64 (freshR M (rest.take k)).2]) ∧ SB w p v M (.slice A12 (freshR M (rest.take k)).1.length c12) (freshR M (rest.take k)).1 A9 n9 rest g gt ls w') := by
  obtain ⟨A, c', rfl, _⟩ := h.row.slice
  obtain ⟨R, a, b⟩ := h.ex
  refine (mfresh_any p A M.length c' M A9 k c (rest.take k) W (h.mod.cell 0) h.row.reads hl (h.rst.take hk) hk1 (by rw [hM]; exact a.bij)).mono fun e w' ⟨v', he, ho, hb⟩ => ?_
  obtain ⟨A12, c12, rfl, _⟩ := ho.slice
  have hz := hb.size
  have h' := h.below hb
  have hzw := h.bel.size
  refine ⟨A12, c12, he, ⟨R, a.below hb, fun k hk => ⟨(b k hk).1, Nat.lt_of_lt_of_le (b k hk).2.1 hz, (b k hk).2.2.1, (b k hk).2.2.2.1, fun e => ?_, (b k hk).2.2.2.2.2⟩⟩, h'.bel, h'.mod, h'.lp, h'.row, ho.lower hzw, fun k e e' => ?_, h'.rst, h'.rfar⟩
  · have := (ho.own k e).1
    have := (b k hk).2.1
    omega
  · have := (ho.own k e).1
    have := (h.row.own k e').2
    omega
set_option maxRecDepth 100000 in
theorem SB.add (h : SB w p v M u o A9 n9 rest g gt ls W) (hg : GoodL ls) (hf : (frL ls).length ≤ 100000) (hL : ls.flatten.length ≤ 1000) {k c : Nat} (hk : k ≤ n9) (hk1 : k ≤ 1000) :
    Calls Try.prog 10 #[.pointer (some ⟨g, 0, none⟩), .slice A9 k c] W (fun e w' => e = .returned (.int .i64 (freshR ls.flatten (rest.take k)).2) ∧ SB w p v M u o A9 n9 rest g gt (stepL ls (rest.take k)) w') := by
  obtain ⟨R, a, b⟩ := h.ex
  have hr := h.rst.take hk
  have hrl := hr.1
  have := tadd_any R g gt 0 ls.flatten (Tp.clean ls 1048576 0) A9 k c (rest.take k) W a (clean_ok hg (by omega) (by omega) (by omega) (by omega)) hr (by omega)
  rw [back_add hr.2.1 (by omega)] at this
  refine this.mono fun e w' ⟨he, h1, h2⟩ => ⟨he, ⟨fun k => (R k ∨ W.heap.size ≤ k) ∧ k < w'.heap.size, h1.mono (fun k hk h => ⟨h, hk⟩), fun k hk => ?_⟩, h2.toBelow h.bel h.bel.size (fun k hk => (b k hk).1), h2.blk h.mod (fun hk => (b p hk).2.2.1 rfl), h.lp, h2.own h.row (fun k e hk => (b k hk).2.2.2.1 e), h2.own h.new (fun k e hk => (b k hk).2.2.2.2.1 e), h.unp, h2.prs h.rst (fun ad e hk => (b _ hk).2.2.2.2.2 ad e rfl), fun ad e => ⟨(h.rfar ad e).1, Nat.lt_of_lt_of_le (h.rfar ad e).2.1 h2.size, (h.rfar ad e).2.2⟩⟩
  have hzw := h.bel.size
  have hpl := h.mod.lt
  rcases hk.1 with h7 | h7
  · exact ⟨(b k h7).1, hk.2, (b k h7).2.2⟩
  · refine ⟨by omega, hk.2, by omega, fun e => ?_, fun e => ?_, fun ad e e' => ?_⟩
    · have := (h.row.own k e).2; omega
    · have := (h.new.own k e).2; omega
    · have := (h.rfar ad e).2.1; omega
set_option maxRecDepth 100000 in
theorem SB.app (h : SB w p v M u o A9 n9 rest g gt ls W) {v' : Value} (ho : OPrs w' w.heap.size v' (M.length + o.length) (M ++ o)) (hg : W.grownBy w' v.ownBlock) (hat : v'.ownBlock = v.ownBlock ∨ v'.ownBlock = some W.heap.size) :
    w'.cell? ⟨p, 0, none⟩ = some v ∧ w'.frozen? ⟨p, 0, none⟩ = false ∧ SB w p v' (M ++ o) (.slice none 0 0) [] A9 n9 rest g gt ls (w'.setCell ⟨p, 0, none⟩ v') := by
  obtain ⟨R, a, b⟩ := h.ex
  have hpl := h.mod.lt
  have hzw := h.bel.size
  have hnp := h.row.notBlk h.mod (by decide)
  have c1 : Chg (fun k => v.ownBlock = some k) W w' := Chg.grown hg (fun k e => e)
  have hs := set_grownQ w' p 0 v'
  have c2 : Chg (fun k => k = p) w' (w'.setCell ⟨p, 0, none⟩ v') := Chg.grown hs (fun k e => by injection e with e; exact e.symm)
  have m1 := c1.blk h.mod (fun e => hnp p e rfl)
  have hvo : ∀ k, v'.ownBlock = some k → v.ownBlock = some k ∨ k = W.heap.size := fun k e => by
    rcases hat with h1 | h1
    · exact .inl (by rw [← h1]; exact e)
    · rw [h1] at e
      injection e with e
      exact .inr e.symm
  have hvp : ∀ k, v'.ownBlock = some k → k ≠ p := fun k e => by
    rcases hvo k e with h1 | h1
    · exact hnp k h1
    · omega
  have s1 := c1.size
  have s2 := c2.size
  have hb1 := c1.toBelow h.bel hzw (fun k e => (h.row.own k e).1)
  refine ⟨m1.cell 0, m1.frozen 0, ⟨R, (a.chg c1 (fun k hk e => (b k hk).2.2.2.1 e)).chg c2 (fun k hk e => (b k hk).2.2.1 e), fun k hk => ⟨(b k hk).1, by have := (b k hk).2.1; omega, (b k hk).2.2.1, fun e => ?_, by simp [Value.ownBlock], (b k hk).2.2.2.2.2⟩⟩, c2.toBelow hb1 (by omega) (fun k e => by rw [e]; exact h.lp), m1.set_ 0 v', h.lp, by rw [List.length_append]; exact c2.own ho (fun k e e' => hvp k e e'), OPrs.nil _ _, fun k e => by simp [Value.ownBlock] at e, (h.rst.grown hg (fun ad e e' => (h.rfar ad e).2.2.2 e'.symm)).grown hs (fun ad e e' => by injection e' with e'; exact (h.rfar ad e).2.2.1 e'), fun ad e => ⟨(h.rfar ad e).1, by have := (h.rfar ad e).2.1; omega, (h.rfar ad e).2.2.1, fun e' => ?_⟩⟩
  · rcases hvo k e with h1 | h1
    · exact (b k hk).2.2.2.1 h1
    · have := (b k hk).2.1; omega
  · rcases hvo _ e' with h1 | h1
    · exact (h.rfar ad e).2.2.2 h1
    · have := (h.rfar ad e).2.1; omega
set_option maxRecDepth 100000 in
/-- what is left, cut. -/
theorem cutP_l (w : World) (A : Option Addr) (n c k : Nat) (hk : k ≤ n) : (Instr.slice 23 (.slice A n c) (some (.int .i64 (k : Int))) none none).run Try.prog w = .ok (.slice (if c = k then A else A.map (·.add (k * 40))) (n - k) (c - k)) w := by
  have hT : Try.prog.underlying 23 = some (.slice (Try.prog.elem 23)) := by kernel_rfl
  have hsz : (sizeOf (Try.prog.elem 23)).run Try.prog w = .ok 40 w := by kernel_rfl
  rw [run_slice_l w 23 A n c hT .i64 (k : Int) (by omega) (by omega), hsz]
  simp [Result.andThen, sliced]
set_option maxRecDepth 100000 in
theorem RPrs.drop {w : World} {A : Option Addr} {n c k : Nat} {L : Prs} (h : RPrs w A n L) (hk : k ≤ n) (hc : n ≤ c) : RPrs w (if c = k then A else A.map (·.add (k * 40))) (n - k) (L.drop k) := by
  refine ⟨by rw [List.length_drop, h.1], fun q hq => h.2.1 q (List.mem_of_mem_drop hq), fun hn => ?_⟩
  obtain ⟨b, o, rfl, hcl⟩ := h.2.2 (by omega)
  rw [if_neg (by omega)]
  refine ⟨b, o + k * 40, by simp [add_plain], fun j hj => ?_⟩
  have e : gp (L.drop k) j = gp L (k + j) := by unfold gp List.getD; rw [List.getElem?_drop]
  rw [e, show o + k * 40 + j * 40 = o + (k + j) * 40 from by omega]
  exact hcl (k + j) (by omega)
set_option maxRecDepth 100000 in
theorem SB.cut (h : SB w p v M u o A9 n9 rest g gt ls W) {k c : Nat} (hk : k ≤ n9) (hc : n9 ≤ c) : SB w p v M u o (if c = k then A9 else A9.map (·.add (k * 40))) (n9 - k) (rest.drop k) g gt ls W := by
  have hbk : ∀ ad, (if c = k then A9 else A9.map (·.add (k * 40))) = some ad → ∃ ad', A9 = some ad' ∧ ad.block = ad'.block := fun ad e => by
    split at e
    · exact ⟨ad, e, rfl⟩
    · cases A9 with
      | none => cases e
      | some ad' =>
        simp at e
        exact ⟨ad', rfl, by rw [← e, block_of_add]⟩
  obtain ⟨R, a, b⟩ := h.ex
  refine ⟨⟨R, a, fun k hk => ⟨(b k hk).1, (b k hk).2.1, (b k hk).2.2.1, (b k hk).2.2.2.1, (b k hk).2.2.2.2.1, fun ad e => ?_⟩⟩, h.bel, h.mod, h.lp, h.row, h.new, h.unp, h.rst.drop hk hc, fun ad e => ?_⟩
  · obtain ⟨ad', e1, e2⟩ := hbk ad e
    rw [e2]
    exact (b k hk).2.2.2.2.2 ad' e1
  · obtain ⟨ad', e1, e2⟩ := hbk ad e
    rw [e2]
    exact h.rfar ad' e1
end
end
end Go.Proofs.Ytokamaogognjoaa
