/-
  Two tables apart; slices of two pairs; MarksSplit's pairs.
-/
import Derived.Test.YtokamaogognjoaaMkk
set_option linter.unusedVariables false
set_option linter.unusedSimpArgs false
namespace Go.Proofs.Ytokamaogognjoaa
open Go.RowKit

set_option maxRecDepth 100000 in
theorem Tm.chg {w w' : World} {R Q : Nat → Prop} {g gt f : Nat} {L : Prs} {s : Tp} (h : Tm w R g gt f L s) (hc : Chg Q w w') (hp : ∀ k, R k → ¬ Q k) : Tm w' R g gt f L s := by
  obtain ⟨P, P', h1, h2, h3, h4, h5⟩ := h
  exact ⟨P, P', h1.chg hc (fun k hk => hp k (h3 k hk).1), h2.chg hc (hp gt h5) (fun k hk => hp k (h4 k hk).1), fun k hk => ⟨(h3 k hk).1, Nat.lt_of_lt_of_le (h3 k hk).2.1 hc.size, (h3 k hk).2.2⟩, fun k hk => ⟨(h4 k hk).1, Nat.lt_of_lt_of_le (h4 k hk).2 hc.size⟩, h5⟩
/-- two tables, their tapes, and a row of pairs, all apart. -/
structure St2 (w : World) (v : Value) (n : Nat) (M : Prs) (g1 t1 : Nat) (L1 : Prs) (s1 : Tp) (g2 t2 : Nat) (L2 : Prs) (s2 : Tp) (W : World) : Prop where
  ex : ∃ R1 R2 : Nat → Prop, Tm W R1 g1 t1 0 L1 s1 ∧ Tm W R2 g2 t2 0 L2 s2 ∧ (∀ k, R1 k → w.heap.size ≤ k ∧ k < W.heap.size ∧ ¬ R2 k ∧ v.ownBlock ≠ some k) ∧ (∀ k, R2 k → w.heap.size ≤ k ∧ k < W.heap.size ∧ v.ownBlock ≠ some k)
  bel : Below w.heap.size w W
  row : OPrs W w.heap.size v n M
section
variable {w W w' : World} {v : Value} {n g1 t1 g2 t2 : Nat} {M L1 L2 : Prs} {s1 s2 : Tp}
set_option maxRecDepth 100000 in
theorem St2.swap (h : St2 w v n M g1 t1 L1 s1 g2 t2 L2 s2 W) : St2 w v n M g2 t2 L2 s2 g1 t1 L1 s1 W := by
  obtain ⟨R1, R2, a, b, c, d⟩ := h.ex
  exact ⟨⟨R2, R1, b, a, fun k hk => ⟨(d k hk).1, (d k hk).2.1, fun h1 => (c k h1).2.2.1 hk, (d k hk).2.2⟩, fun k hk => ⟨(c k hk).1, (c k hk).2.1, (c k hk).2.2.2⟩⟩, h.bel, h.row⟩
set_option maxRecDepth 100000 in
theorem St2.below (h : St2 w v n M g1 t1 L1 s1 g2 t2 L2 s2 W) (hb : Below W.heap.size W w') : St2 w v n M g1 t1 L1 s1 g2 t2 L2 s2 w' := by
  obtain ⟨R1, R2, a, b, c, d⟩ := h.ex
  have hz := hb.size
  exact ⟨⟨R1, R2, a.below hb, b.below hb, fun k hk => ⟨(c k hk).1, Nat.lt_of_lt_of_le (c k hk).2.1 hz, (c k hk).2.2⟩, fun k hk => ⟨(d k hk).1, Nat.lt_of_lt_of_le (d k hk).2.1 hz, (d k hk).2.2⟩⟩, below_two h.bel hb, h.row.below hb⟩
set_option maxRecDepth 100000 in
theorem St2.add (h : St2 w v n M g1 t1 L1 s1 g2 t2 L2 s2 W) (hok : s2.Ok 300000000) {A : Option Addr} {k c : Nat} {l : Prs} (hA : RPrs W A k l) (hk : L2.length + l.length ≤ 3000) {x : Int} {L' : Prs} {s' : Tp} (hr : addR 0 L2 s2 l = (x, L', s')) :
    Calls Try.prog 10 #[.pointer (some ⟨g2, 0, none⟩), .slice A k c] W (fun e w' => e = .returned (.int .i64 x) ∧ St2 w v n M g1 t1 L1 s1 g2 t2 L' s' w') := by
  obtain ⟨R1, R2, a, b, c', d⟩ := h.ex
  have := tadd_any R2 g2 t2 0 L2 s2 A k c l W b hok hA hk
  rw [hr] at this
  refine this.mono fun e w' ⟨he, h1, h2⟩ => ⟨he, ⟨R1, fun k => (R2 k ∨ W.heap.size ≤ k) ∧ k < w'.heap.size, a.chg h2 (fun k hk hq => (c' k hk).2.2.1 hq), h1.mono (fun k hk h => ⟨h, hk⟩), fun k hk => ?_, fun k hk => ?_⟩, h2.toBelow h.bel h.bel.size (fun k hk => (d k hk).1), h2.own h.row fun k e hk => (d k hk).2.2 e⟩
  · have h5 := c' k hk
    have := h2.size
    exact ⟨h5.1, by omega, fun h6 => by rcases h6.1 with h7 | h7; exact h5.2.2.1 h7; omega, h5.2.2.2⟩
  · rcases hk.1 with h7 | h7
    · exact ⟨(d k h7).1, hk.2, (d k h7).2.2⟩
    · exact ⟨Nat.le_trans h.bel.size h7, hk.2, fun e => by have := (h.row.own k e).2; omega⟩
set_option maxRecDepth 100000 in
theorem St2.pairs (h : St2 w v n M g1 t1 L1 s1 g2 t2 L2 s2 W) (hL : L2.length ≤ 1000000) : Calls Try.prog 13 #[.pointer (some ⟨g2, 0, none⟩)] W (fun e w' => ∃ A c, e = .returned (.slice A L2.length c) ∧ RPrs w' A L2.length L2 ∧ Below W.heap.size W w') := by
  obtain ⟨R1, R2, a, ⟨P, Q, h1, _⟩, _⟩ := h.ex
  exact (tbPairs_any P g2 t2 0 L2 W h1 hL).mono fun e w' ⟨A, c, he, ho, hc, hb⟩ => ⟨A, c, he, ho.reads, hb⟩
set_option maxRecDepth 100000 in
theorem St2.bytes (h : St2 w v n M g1 t1 L1 s1 g2 t2 L2 s2 W) (hl : s2.b.length ≤ 1000000000) : Calls Try.prog 11 #[.pointer (some ⟨t2, 0, none⟩)] W (fun e w' => ∃ A c, e = .returned (.slice A s2.b.length c) ∧ Below W.heap.size W w') := by
  obtain ⟨R1, R2, a, ⟨P, Q, h1, h2, _⟩, _⟩ := h.ex
  exact (tpBytes_any t2 s2 Q W h2 hl).mono fun e w' ⟨A, c, he, ho, hc, hb⟩ => ⟨A, c, he, hb⟩
end
set_option maxRecDepth 100000 in
/-- two tables on two new tapes. -/
theorem st2_new {w w0 w1 w2 w3 w4 : World} {v : Value} {n g1 t1 g2 t2 : Nat} {M : Prs} {sa sb : Tp} (hb : Below w.heap.size w w0) (hrow : OPrs w0 w.heap.size v n M)
    (z1 : w0.heap.size ≤ t1) (b1 : Below w0.heap.size w0 w1) (l1 : t1 < w1.heap.size) (z2 : w1.heap.size ≤ t2) (b2 : Below w1.heap.size w1 w2) (l2 : t2 < w2.heap.size)
    (m3 : Tm w3 (fun k => k = t1 ∨ (w0.heap.size ≤ k ∧ k < w1.heap.size) ∨ w2.heap.size ≤ k) g1 t1 0 [] sa) (c3 : Chg (fun k => k = t1) w2 w3)
    (m4 : Tm w4 (fun k => k = t2 ∨ (w1.heap.size ≤ k ∧ k < w2.heap.size) ∨ w3.heap.size ≤ k) g2 t2 0 [] sb) (c4 : Chg (fun k => k = t2) w3 w4) : St2 w v n M g1 t1 [] sa g2 t2 [] sb w4 := by
  have s0 := hb.size
  have s1 := b1.size
  have s2 := b2.size
  have s3 := c3.size
  have s4 := c4.size
  have hown := hrow.own
  have m3' := m3.mono (R' := fun k => (k = t1 ∨ (w0.heap.size ≤ k ∧ k < w1.heap.size) ∨ w2.heap.size ≤ k) ∧ k < w3.heap.size) (fun k hk h => ⟨h, hk⟩)
  have m4' := m4.mono (R' := fun k => (k = t2 ∨ (w1.heap.size ≤ k ∧ k < w2.heap.size) ∨ w3.heap.size ≤ k) ∧ k < w4.heap.size) (fun k hk h => ⟨h, hk⟩)
  have hb2 := below_two (below_two hb b1) b2
  have hr2 := (hrow.below b1).below b2
  refine ⟨⟨_, _, m3'.chg c4 (fun k hk e => by omega), m4', fun k hk => ⟨by omega, by omega, fun h => by omega, fun e => by have := (hown k e).2; omega⟩, fun k hk => ⟨by omega, by omega, fun e => by have := (hown k e).2; omega⟩⟩, c4.toBelow (c3.toBelow hb2 hb2.size (fun k e => by omega)) (by omega) (fun k e => by omega), c4.own (c3.own hr2 fun k e e' => by have := (hown k e).2; omega) fun k e e' => by have := (hown k e).2; omega⟩

/-! ### a slice of two pairs -/
set_option maxRecDepth 100000 in
theorem fill_pairs {a b : List Int} (ha : IsPr a) (hb : IsPr b) (z : Array Value) (hz : z.size = 80) : Instr.fill (fun i => some (i * 40, 40)) z [(0, ida a), (1, ida b)] = some (pv [a, b]).toArray := by
  have la := ha.1
  have lb := hb.1
  have sa : (bv a).toArray.size = 40 := by rw [bvArr_size, la]
  have sb : (bv b).toArray.size = 40 := by rw [bvArr_size, lb]
  have e1 := fold_off 0 (bv a) 0 z (by rw [bv_length, la]; omega)
  have s1 : ((bv a).toArray.zipIdx.foldl (fun (cs : Array Value) (p : Value × Nat) => cs.setIfInBounds (0 * 40 + p.2) p.1) z).toList = bv a ++ z.toList.drop 40 := by
    rw [← Array.foldl_toList]
    simpa [la, bv_length] using e1
  have hs1 : ((bv a).toArray.zipIdx.foldl (fun (cs : Array Value) (p : Value × Nat) => cs.setIfInBounds (0 * 40 + p.2) p.1) z).size = 80 := by
    rw [← Array.length_toList, s1]
    simp [bv_length, la, hz]
  generalize hz1 : (bv a).toArray.zipIdx.foldl (fun (cs : Array Value) (p : Value × Nat) => cs.setIfInBounds (0 * 40 + p.2) p.1) z = z1 at s1 hs1
  have e2 := fold_off 40 (bv b) 0 z1 (by rw [bv_length, lb]; omega)
  have s2 : ((bv b).toArray.zipIdx.foldl (fun (cs : Array Value) (p : Value × Nat) => cs.setIfInBounds (1 * 40 + p.2) p.1) z1) = (pv [a, b]).toArray := by
    apply Array.ext'
    rw [← Array.foldl_toList]
    have e2' : (((bv b).zipIdx 0).foldl (fun (cs : Array Value) (p : Value × Nat) => cs.setIfInBounds (1 * 40 + p.2) p.1) z1).toList = _ := e2
    rw [show ((bv b).toArray.zipIdx).toList = (bv b).zipIdx 0 from by simp, e2', s1]
    have t1 : (bv a ++ z.toList.drop 40).take 40 = bv a := List.take_left' (by rw [bv_length, la])
    have t2 : (bv a ++ z.toList.drop 40).drop 80 = [] := List.drop_eq_nil_of_le (by simp [bv_length, la, hz])
    simp only [Nat.add_zero, bv_length, lb, t1, t2, List.append_nil]
    simp [pv, bv_append]
  unfold Instr.fill
  simp only [ida_cells, sa, hz, ne_eq, not_true_eq_false, decide_false, Bool.false_or]
  rw [if_neg (by decide), hz1]
  unfold Instr.fill
  simp only [ida_cells, sb, hs1, ne_eq, not_true_eq_false, decide_false, Bool.false_or]
  rw [if_neg (by decide), s2]
  unfold Instr.fill
  rfl
/-- a slice of two pairs, for a rule to answer. -/
noncomputable def mkP2 (parts : Array (Nat × Value)) : Sem Value := Instr.buildSlice 23 2 parts
set_option maxRecDepth 100000 in
@[go_sem ↓ high] theorem buildSlice_pr2 (parts : Array (Nat × Value)) : Instr.buildSlice 23 2 parts = mkP2 parts := rfl
set_option maxRecDepth 100000 in
@[go_sem] theorem run_mkP2 (w : World) (a b : List Int) (ha : IsPr a) (hb : IsPr b) : (mkP2 #[(0, .agg (bv a).toArray), (1, .agg (bv b).toArray)]).run Try.prog w = .ok (.slice (some ⟨w.heap.size, 0, none⟩) 2 2) (w.alloc (.cells (pv [a, b]).toArray 27)) := by
  have hz : (zeroValue 27).run Try.prog w = .ok (.agg zpr) w := zeroPr w
  have hs := sizePr w
  have hu := run_underlying underPrs w
  have hf : Instr.fill (fun i => some (i * 40, 40)) ((Array.range (2 * 40)).map (zpr[· % zpr.size]!)) [(0, .agg (bv a).toArray), (1, .agg (bv b).toArray)] = some (pv [a, b]).toArray := fill_pairs ha hb _ (by simp)
  generalize bv a = xa at *
  generalize bv b = xb at *
  generalize pv [a, b] = xab at *
  unfold mkP2 Instr.buildSlice
  simp only [Sem.run_bind, hu, Result.andThen_ok, hs, hz, Sem.run_pure]
  simp [Sem.run_bind, hz, zpr_cells, newRow, newObj, Result.andThen, hf]
  rfl
set_option maxRecDepth 100000 in
theorem RPrs.two {w : World} {g : Nat} {t : TypeId} {x y : List Int} (hb : Blk w g t (pv [x, y]).toArray) (hx : IsPr x) (hy : IsPr y) : RPrs w (some ⟨g, 0, none⟩) 2 [x, y] := by
  have ha : AllPr [x, y] := fun p hp => by
    simp at hp
    rcases hp with rfl | rfl
    · exact hx
    · exact hy
  refine ⟨rfl, ha, fun _ => ⟨g, 0, rfl, fun j hj i v hv => ?_⟩⟩
  have hi : i < 40 := by
    have h1 := (List.getElem?_eq_some_iff.1 hv).1
    rw [bv_length, (ha.at_ (j := j) (by simpa using hj)).1] at h1
    exact h1
  have := pv_get ha (j := j) (i := i) (by simpa using hj) hi
  rw [hv] at this
  have h2 := hb.range (j * 40 + i) v this
  rw [Nat.zero_add] at h2 ⊢
  exact h2

/-! ### the frames of MarksSplit's second table -/
def fr1 (i : Nat) : List Prs := (List.range i).map fun j => [qi j]
set_option maxRecDepth 100000 in
theorem fr1_succ (i : Nat) : fr1 (i + 1) = fr1 i ++ [[qi i]] := by simp [fr1, List.range_succ]
set_option maxRecDepth 100000 in
theorem fr1_flat : ∀ i, (fr1 i).flatten = lst i
  | 0 => rfl
  | i + 1 => by rw [fr1_succ, lst_succ, List.flatten_append, fr1_flat i]; simp
set_option maxRecDepth 100000 in
theorem fr1_good : ∀ {i : Nat}, i ≤ 200 → GoodL (fr1 i)
  | 0, _ => GoodL.nil
  | i + 1, h => by
    rw [fr1_succ]
    refine (fr1_good (by omega)).snoc ?_
    rw [fr1_flat]
    refine ⟨AllPr.one (qi_pr (by omega)), by simp, by simp [zero_qi], fun j hj => ?_⟩
    obtain rfl : j = 0 := by simpa using hj
    simpa [gp] using new_qi i
set_option maxRecDepth 100000 in
theorem fr1_len : ∀ {i : Nat}, i ≤ 200 → (frL (fr1 i)).length = 54 * i
  | 0, _ => rfl
  | i + 1, h => by
    rw [fr1_succ, frL_append, frL_one, List.length_append, fr1_len (by omega), pack_len1 (AllPr.one (qi_pr (by omega)))]
    simp
    omega
set_option maxRecDepth 100000 in
theorem split_add1 {i : Nat} (h : i ≤ 100) : addR 0 (lst i) (Tp.clean (fr1 i) 100000 0) [qi i] = (0, lst (i + 1), Tp.clean (fr1 (i + 1)) 100000 0) := by
  have f1 := fresh_one i
  have := addR_ok (L := lst i) (ls := fr1 i) (r := 100000) (f := 0) (l := [qi i]) (by rw [f1]) (by rw [f1]; simp) (by
    rw [f1]
    simp only
    rw [pack_len1 (AllPr.one (qi_pr (by omega))), fr1_len (by omega)]
    simp
    omega)
  rw [this, f1]
  simp only
  rw [← lst_succ, ← fr1_succ]
set_option maxRecDepth 100000 in
theorem split_old {N : Nat} (h : N ≤ 200) {ls : List Prs} {l : Prs} (hl : ∀ p ∈ l, p ∈ lst N) : addR 0 (lst N) (Tp.clean ls 100000 0) l = (0, lst N, Tp.clean ls 100000 0) := by
  have hz : l.any zeroP = false := by
    rw [List.any_eq_false]
    intro p hp
    obtain ⟨j, _, rfl⟩ := lst_mem.1 (hl p hp)
    rw [zero_qi]
    decide
  have f1 := fresh_old (bij_lst (k := N) (by omega)) hl hz
  have := addR_none (L := lst N) (ls := ls) (r := 100000) (f := 0) (l := l) (by rw [f1]; exact .inr rfl)
  rw [this, f1]
set_option maxRecDepth 100000 in
theorem split_zero {N : Nat} {ls : List Prs} : addR 0 (lst N) (Tp.clean ls 100000 0) [idc 7 0 ++ zeroL] = (1, lst N, Tp.clean ls 100000 0) := by
  have f1 : freshR (lst N) [idc 7 0 ++ zeroL] = ([], 1) := by
    have hz : [idc 7 0 ++ zeroL].any zeroP = true := by decide +kernel
    unfold freshR
    rw [if_pos hz]
  have := addR_none (L := lst N) (ls := ls) (r := 100000) (f := 0) (l := [idc 7 0 ++ zeroL]) (by rw [f1]; exact .inl (by decide))
  rw [this, f1]
/-- the pair that does not fit. -/
def badP (b : Bool) : IdL := if b then idc 9 0 ++ idc 2 0 else idc 1 0 ++ idc 9 0
set_option maxRecDepth 100000 in
theorem badP_pr (b : Bool) : IsPr (badP b) := by
  cases b
  · exact IsPr.mk (idc_id (by omega) (by omega)) (idc_id (by omega) (by omega))
  · exact IsPr.mk (idc_id (by omega) (by omega)) (idc_id (by omega) (by omega))
set_option maxRecDepth 100000 in
theorem fresh_bad {N : Nat} (h0 : 0 < N) (h : N ≤ 200) (b : Bool) : freshR (lst N) [prc 7 8, badP b] = ([], 8) := by
  have hz : [prc 7 8, badP b].any zeroP = false := by cases b <;> decide +kernel
  have hB : Bij (lst N ++ nextL (lst N) [] (prc 7 8)) := Bij.next (by rw [List.append_nil]; exact bij_lst (by omega)) (prc_pr (by omega) (by omega))
  have hq : qi 0 ∈ lst N ++ nextL (lst N) [] (prc 7 8) := List.mem_append_left _ (lst_mem.2 ⟨0, h0, rfl⟩)
  have ht : twP (lst N ++ nextL (lst N) [] (prc 7 8)) (badP b) = true := by
    unfold twP
    cases b
    · have e1 : git (badP false) = git (qi 0) := by decide +kernel
      have e2 : (nod (qi 0) != nod (badP false)) = true := by decide +kernel
      rw [e1, hB.nodeEq hq, e2, hasG_iff.2 ⟨_, hq, rfl⟩]
      rfl
    · have e1 : nod (badP true) = nod (qi 0) := by decide +kernel
      have e2 : (git (qi 0) != git (badP true)) = true := by decide +kernel
      rw [e1, hB.gitEq hq, e2, hasN_iff.2 ⟨_, hq, rfl⟩]
      simp
  unfold freshR
  rw [if_neg (by rw [hz]; decide)]
  have : twL (lst N) [] [prc 7 8, badP b] = true := by
    unfold twL twL
    rw [ht]
    simp
  rw [if_pos this]
set_option maxRecDepth 100000 in
theorem split_bad {N : Nat} (h0 : 0 < N) (h : N ≤ 200) (b : Bool) {ls : List Prs} : addR 0 (lst N) (Tp.clean ls 100000 0) [prc 7 8, badP b] = (8, lst N, Tp.clean ls 100000 0) := by
  have f1 := fresh_bad h0 h b
  have := addR_none (L := lst N) (ls := ls) (r := 100000) (f := 0) (l := [prc 7 8, badP b]) (by rw [f1]; exact .inl (by decide))
  rw [this, f1]
end Go.Proofs.Ytokamaogognjoaa
