/-
  Bytes as pairs.
-/
import Derived.Test.YtokamaogognjoaaMkE
set_option linter.unusedVariables false
set_option linter.unusedSimpArgs false
namespace Go.Proofs.Ytokamaogognjoaa
open Go.RowKit Go.Shelf

attribute [local go_sem] Oper.semAt_some
set_option maxRecDepth 100000 in
theorem blk_cellsRow {w w' : World} {g : Nat} {t : TypeId} {cs : Array Value} {row : Option Nat} {B : Nat} (h : Blk w g t cs) (hg : w.grownBy w' row) (hr : ∀ r, row = some r → B ≤ r ∧ ∃ o : Obj, w.heap[r]? = some o ∧ o.isCells = false) : Blk w' g t cs :=
  h.grown hg fun e => by
    obtain ⟨_, o, ho, hc⟩ := hr g e.symm
    unfold Blk at h
    rw [h] at ho
    injection ho with ho
    subst ho
    cases hc
set_option maxRecDepth 100000 in
theorem own_cellsRow {w w' : World} {base n : Nat} {v : Value} {L : Prs} {row : Option Nat} {B : Nat} (h : OPrs w base v n L) (hg : w.grownBy w' row) (hr : ∀ r, row = some r → B ≤ r ∧ ∃ o : Obj, w.heap[r]? = some o ∧ o.isCells = false) : OPrs w' base v n L := by
  refine h.kept hg ?_
  cases e : v.ownBlock with
  | none => exact .inl rfl
  | some k =>
    refine .inr fun e' => ?_
    rcases h.form with ⟨h0, _⟩ | ⟨g, cap, cur, hv, _, _, _, _, hbk, _⟩
    · rw [h0] at e; simp [Value.ownBlock] at e
    · rw [hv] at e
      simp [Value.ownBlock] at e
      subst e
      obtain ⟨_, o, ho, hc⟩ := hr g e'.symm
      unfold Blk at hbk
      rw [hbk] at ho
      injection ho with ho
      subst ho
      cases hc
/-- what has been collected. -/
def got (L : Prs) {N : Nat} (pre : List { k : Nat // k < N }) : Prs := pre.map fun x => gp L x.1
set_option maxRecDepth 100000 in
theorem got_snoc (L : Prs) {N : Nat} (pre : List { k : Nat // k < N }) (x : { k : Nat // k < N }) : got L (pre ++ [x]) = got L pre ++ [gp L x.1] := by simp [got]
set_option maxRecDepth 100000 in
theorem got_all (L : Prs) {N : Nat} (hN : N = L.length) (ys : List { k : Nat // k < N }) (h : ys.map (·.1) = List.range N) : got L ys = L := by
  have : got L ys = (ys.map (·.1)).map (gp L) := by simp [got]
  rw [this, h, hN]
  apply List.ext_getElem (by simp)
  intro i h1 h2
  simp [gp, h2]
/-- between two rounds. -/
def IPr (w : World) (A : Option Addr) (n c : Nat) (L : Prs) {N : Nat} (pre : List { k : Nat // k < N }) (W : World) : Prop :=
  (∃ v, Blk W (w.heap.size + 1 + 1) 23 #[v] ∧ OPrs W w.heap.size v (got L pre).length (got L pre)) ∧ Blk W w.heap.size 23 #[.slice none 0 0] ∧ Blk W (w.heap.size + 1) 4 #[.bool false] ∧ Below w.heap.size w W ∧ Blk W (w.heap.size + 1 + 1 + 1) 36 #[.slice A n c] ∧ Blk W (w.heap.size + 1 + 1 + 1 + 1) 3 #[.int .i64 40]
set_option maxRecDepth 100000 in
theorem iPr_own (w : World) (A : Option Addr) (n c : Nat) (L : Prs) (N B : Nat) (hB : w.heap.size ≤ B) : OwnFrom B (fun (pre : List { k : Nat // k < N }) W => IPr w A n c L pre W) := fun s W W' row hs hg hr => by
  obtain ⟨⟨v, h1, h2⟩, h3, h4, h5, h6, h7⟩ := hs
  exact ⟨⟨v, blk_cellsRow h1 hg hr, own_cellsRow h2 hg hr⟩, blk_cellsRow h3 hg hr, blk_cellsRow h4 hg hr, h5.grown hg h5.size (fun k e => Nat.le_trans hB (hr k e).1), blk_cellsRow h6 hg hr, blk_cellsRow h7 hg hr⟩
/-- both halves of a chunk. -/
def S6 (b q : Nat) (p : IdL) (W : World) : Prop := (loadId ⟨b, q, none⟩).run Try.prog W = .ok (ida (git p)) W ∧ (loadId ⟨b, q + 20, none⟩).run Try.prog W = .ok (ida (nod p)) W
def PairsPost (L : Prs) (w : World) (e : Ending) (w' : World) : Prop := ∃ B d, e = .returned (.tuple #[.slice B L.length d, .bool (decide (0 < L.length))]) ∧ OPrs w' w.heap.size (.slice B L.length d) L.length L ∧ L.length ≤ d ∧ Below w.heap.size w w'
set_option maxRecDepth 100000 in
/-- what a round leaves. -/
theorem pr_round {w W w6 : World} {A : Option Addr} {n c b q : Nat} {L : Prs} {N : Nat} {pre : List { k : Nat // k < N }} {x : { k : Nat // k < N }} {p : IdL} {v v6 : Value} (hG : True → got L (pre ++ [x]) = got L pre ++ [p]) (hp : IsPr p)
    (hB : Below w.heap.size w W) (ho : OPrs W w.heap.size v (got L pre).length (got L pre)) (b4 : Blk W (w.heap.size + 1 + 1) 23 #[v]) (b2 : Blk W w.heap.size 23 #[.slice none 0 0]) (b3 : Blk W (w.heap.size + 1) 4 #[.bool false])
    (b5 : Blk W (w.heap.size + 1 + 1 + 1) 36 #[.slice A n c]) (b6 : Blk W (w.heap.size + 1 + 1 + 1 + 1) 3 #[.int .i64 40]) (hbw : b < w.heap.size) (hR : W.rangeAt b q (bv p))
    (hg6 : ((W.alloc (.cells (bv p).toArray 27)).drew).grownBy w6 v.ownBlock) (ho6 : OPrs w6 w.heap.size v6 ((got L pre).length + 1) (got L pre ++ [p])) (hat6 : v6.ownBlock = v.ownBlock ∨ v6.ownBlock = some ((W.alloc (.cells (bv p).toArray 27)).drew).heap.size) :
    ∃ w7, w7 = w6.setCell ⟨w.heap.size + 1 + 1, 0, none⟩ v6 ∧ S6 b q p w6 ∧ S6 b q p w7 ∧ w6.cell? ⟨w.heap.size + 1 + 1, 0, none⟩ = some v ∧ w6.frozen? ⟨w.heap.size + 1 + 1, 0, none⟩ = false ∧
      KeepsOthers W w7 ∧ KpB (w.heap.size + 1 + 1 + 1) (w.heap.size + 1 + 1 + 1 + 1) W w7 ∧ IPr w A n c L (pre ++ [x]) w7 := by
  have hba : Below W.heap.size W ((W.alloc (.cells (bv p).toArray 27)).drew) := bd2 W _
  have hW := hB.size
  have l2 := b2.lt
  have l3 := b3.lt
  have l4 := b4.lt
  have l5 := b5.lt
  have l6 := b6.lt
  have n2 := ho.notBlk b2 (by decide)
  have n3 := ho.notBlk b3 (by decide)
  have n4 := ho.notBlk b4 (by decide)
  have n5 := ho.notBlk b5 (by decide)
  have n6 := ho.notBlk b6 (by decide)
  have hown := ho.own
  have far : ∀ {k : Nat}, (∀ j, v.ownBlock = some j → j ≠ k) → some k ≠ v.ownBlock := fun h e => h _ e.symm rfl
  have c2 := (b2.below hba l2).grown hg6 (far n2)
  have c3 := (b3.below hba l3).grown hg6 (far n3)
  have c4 := (b4.below hba l4).grown hg6 (far n4)
  have c5 := (b5.below hba l5).grown hg6 (far n5)
  have c6 := (b6.below hba l6).grown hg6 (far n6)
  have hs7 := set_grownQ w6 (w.heap.size + 1 + 1) 0 v6
  have hR6 : w6.rangeAt b q (bv p) := fun i u hu => hg6.cell (cell_later hba (hR i u hu)) (fun e => by have := (hown b e.symm).1; omega)
  have hR7 : (w6.setCell ⟨w.heap.size + 1 + 1, 0, none⟩ v6).rangeAt b q (bv p) := fun i u hu => hs7.cell (hR6 i u hu) (fun e => by injection e with e; simp at e; omega)
  have mk : ∀ {V : World}, V.rangeAt b q (bv p) → S6 b q p V := fun h => ⟨run_loadId (range_git h) hp.git, run_loadId (range_node h) hp.node⟩
  have own6 : ∀ k, v6.ownBlock = some k → k ≠ w.heap.size + 1 + 1 := fun k e => by
    rcases hat6 with h | h
    · exact n4 k (by rw [← h]; exact e)
    · rw [h] at e
      injection e with e
      simp at e
      omega
  have d4 := c4.set_ 0 v6
  have d2 := c2.grown hs7 (fun e => by injection e with e; omega)
  have d3 := c3.grown hs7 (fun e => by injection e with e; omega)
  have d5 := c5.grown hs7 (fun e => by injection e with e; omega)
  have d6 := c6.grown hs7 (fun e => by injection e with e; omega)
  have hbA := below_two hB hba
  have hb6 := hbA.grown hg6 hbA.size (fun k e => (hown k e).1)
  have hb7 := hb6.grown hs7 hb6.size (fun k e => by injection e with e; omega)
  have hlen : (got L (pre ++ [x])).length = (got L pre).length + 1 := by rw [hG trivial]; simp
  refine ⟨_, rfl, mk hR6, mk hR7, c4.cell 0, c4.frozen 0, ?_, ?_, ⟨v6, d4, by rw [hlen, hG trivial]; exact ho6.kept hs7 (own_far own6)⟩, d2, d3, hb7, d5, d6⟩
  · refine ((KeepsOthers.alloc W (.cells (bv p).toArray 27)).trans (KeepsOthers.drew _)).trans ((?_ : KeepsOthers _ w6).trans (KeepsOthers.setCell _ _ _))
    refine ⟨hg6.size, fun k o hk hc => (hg6.block k (Array.getElem?_eq_some_iff.1 hk).1 (fun e => ?_)).trans hk⟩
    rcases (ho.below hba).form with ⟨h0, _⟩ | ⟨g, cap, cur, hv, _, _, _, _, hbk, _⟩
    · rw [h0] at e; simp [Value.ownBlock] at e
    · rw [hv] at e
      simp [Value.ownBlock] at e
      subst e
      unfold Blk at hbk
      rw [hbk] at hk
      injection hk with hk
      subst hk
      cases hc
  · intro bb u hbb hu
    rcases hbb with rfl | rfl
    · rw [b5.cell 0] at hu
      rw [d5.cell 0]
      exact hu
    · rw [b6.cell 0] at hu
      rw [d6.cell 0]
      exact hu
/-- the world in which the loop begins. -/
abbrev prW (A : Option Addr) (n c : Nat) (w : World) : World := ((((w.alloc (.cells #[.slice none 0 0] 23)).alloc (.cells #[.bool false] 4)).alloc (.cells #[.slice none 0 0] 23)).alloc (.cells #[.slice A n c] 36)).alloc (.cells #[.int .i64 40] 3)
set_option maxRecDepth 100000 in
set_option maxHeartbeats 4000000 in
theorem pairs_any (A : Option Addr) (n c : Nat) (L : Prs) (w : World) (h : RB w A n L.flatten) (hnc : n ≤ c) (hl : AllPr L) (hL : L.length ≤ 100000) :
    Calls Try.prog 49 #[.slice A n c] w (PairsPost L w) := by
  have HN := Lib.hid (show n = 40 * L.length from by rw [← h.1, flatP_len hl]; omega)
  have hB0 : Below w.heap.size w (prW A n c w) := (((((Below.refl _ w).alloc (Nat.le_refl _) _).alloc (by simp) _).alloc (by simp; omega) _).alloc (by simp; omega) _).alloc (by simp; omega) _
  have B0 : Blk (prW A n c w) w.heap.size 23 #[.slice none 0 0] := ((((Blk.new w _ _).alloc _).alloc _).alloc _).alloc _
  have B1 : Blk (prW A n c w) (w.heap.size + 1) 4 #[.bool false] := by
    have := Blk.new (w.alloc (.cells #[.slice none 0 0] 23)) 4 #[.bool false]
    rw [World.size_alloc] at this
    exact ((this.alloc _).alloc _).alloc _
  have B2 : Blk (prW A n c w) (w.heap.size + 1 + 1) 23 #[.slice none 0 0] := by
    have := Blk.new ((w.alloc (.cells #[.slice none 0 0] 23)).alloc (.cells #[.bool false] 4)) 23 #[.slice none 0 0]
    simp only [World.size_alloc] at this
    exact (this.alloc _).alloc _
  have B3 : Blk (prW A n c w) (w.heap.size + 1 + 1 + 1) 36 #[.slice A n c] := by
    have := Blk.new (((w.alloc (.cells #[.slice none 0 0] 23)).alloc (.cells #[.bool false] 4)).alloc (.cells #[.slice none 0 0] 23)) 36 #[.slice A n c]
    simp only [World.size_alloc] at this
    exact this.alloc _
  have B4 : Blk (prW A n c w) (w.heap.size + 1 + 1 + 1 + 1) 3 #[.int .i64 40] := by
    have := Blk.new ((((w.alloc (.cells #[.slice none 0 0] 23)).alloc (.cells #[.bool false] 4)).alloc (.cells #[.slice none 0 0] 23)).alloc (.cells #[.slice A n c] 36)) 3 #[.int .i64 40]
    simp only [World.size_alloc] at this
    exact this
  refine (callsIn_wide (n := 3)).1 ?_
  refine callsIn_of_wp_marks Try.func49 rfl trivial ?_ rfl
  simp only [Try.ntmps49, List.size_toArray, List.length_cons, List.length_nil, Nat.reduceAdd, Nat.reduceSub, Array.replicate_succ, Array.replicate_zero, List.push_toArray, List.append_toArray, List.nil_append, List.cons_append]
  gi_wp2_with (refine ⟨trivial, ?_⟩; gi_at_call 55; refine (callsIn_wide.2 (chunkB_any _ _ _ _)).mono ?_; rintro e w' ⟨rfl, rfl⟩)
  refine wpIn_rangeFunc_ownF (n := 3) rfl (Nat.le_add_left 1 2) (gf := 57) (lb := #[.pointer (some ⟨w.heap.size + 1 + 1 + 1, 0, none⟩), .pointer (some ⟨w.heap.size + 1 + 1 + 1 + 1, 0, none⟩)]) rfl trivial (enters_of Try.func57 (by kernel_rfl) rfl)
    (chunkB_stops 2 (by omega) (w.heap.size + 1 + 1 + 1) (w.heap.size + 1 + 1 + 1 + 1) A n c L.length HN.out hnc hL (prW A n c w) (B3.lt) (B4.lt) (B3.cell 0) (B4.cell 0)) kpB_t (kpB_b B3.lt B4.lt) (Below.refl _ _) (fun _ => rfl)
    (fun pre W => IPr w A n c L pre W) (fun _ _ _ => False) (iPr_own w A n c L _ _ hB0.size) (fun _ _ _ _ _ hs _ _ => hs)
    ⟨⟨_, B2, OPrs.nil _ _⟩, B0, B1, hB0, B3, B4⟩
    (fun x => { tmps := #[.slice A n c, undef, .pointer (some ⟨w.heap.size, 0, none⟩), .pointer (some ⟨w.heap.size + 1, 0, none⟩), .pointer (some ⟨w.heap.size + 1 + 1, 0, none⟩), .slice (A.map (·.add (40 * x.1))) 40 40, .slice A n c, .func (.func 57) #[] #[.pointer (some ⟨w.heap.size + 1 + 1 + 1, 0, none⟩), .pointer (some ⟨w.heap.size + 1 + 1 + 1 + 1, 0, none⟩)], .slice (A.map (·.add (40 * x.1))) 40 40, undef, undef, undef, undef, undef, undef, undef, undef, undef, undef, undef, undef, undef, undef, undef, undef, undef, undef, undef], defers := [] }) ?assign ?body ?done ?stop
  case assign =>
    intro l x W K hK
    gi_wp2
    exact hK
  case body =>
    rintro l pre x W ⟨⟨v, b4, ho⟩, b2, b3, hB, b5, b6⟩ hlt
    have hk := x.2
    obtain ⟨b, o, eA, hcell⟩ := h.plain (by have := HN.out; omega)
    have hp : IsPr (gp L x.1) := hl.at_ hk
    have hR : W.rangeAt b (o + 40 * x.1) (bv (gp L x.1)) := fun i u hu => by
      obtain ⟨hi, rfl⟩ := bv_get hu
      have hi' : i < 40 := by rw [hp.1] at hi; exact hi
      have := cell_later hB (hcell (40 * x.1 + i) (by have := HN.out; omega))
      rw [← Nat.add_assoc] at this
      have e : gi L.flatten (40 * x.1 + i) = gi (gp L x.1) i := by unfold gi List.getD; rw [Nat.mul_comm 40 x.1, flatP_get hl hk hi']
      rw [e] at this
      exact this
    have hbw : b < w.heap.size := World.block_lt_of_cell? w _ (hcell 0 (by have := HN.out; omega))
    have hA : A.map (·.add (40 * x.1)) = some ⟨b, o + 40 * x.1, none⟩ := by rw [eA]; simp [add_plain]
    rw [hA]
    have hG := got_snoc L pre x
    have hgl : (got L pre).length ≤ L.length := by simp [got]; omega
    generalize gp L x.1 = p at *
    generalize o + 40 * x.1 = q at *
    have HG := Lib.hid hG
    clear hG hA hcell eA
    have hpg : IsId (git p) := hp.git
    have hpn : IsId (nod p) := hp.node
    have hgn : git p ++ nod p = p := pr_parts p
    have hcA : cutA (some ⟨b, q, none⟩) 40 20 = some ⟨b, q + 20, none⟩ := by rw [cutA_some rfl (by omega), add_plain]
    have hRG : W.rangeAt b q (bv (git p)) := range_git hR
    have hRN : W.rangeAt b (q + 20) (bv (nod p)) := range_node hR
    have c4 := b4.cell 0
    gi_wp2
    refine region_in (S := S6 b q p) (K := fun a' w' => KeepsOthers W w' ∧ KpB (w.heap.size + 1 + 1 + 1) (w.heap.size + 1 + 1 + 1 + 1) W w' ∧ IPr w A n c L (pre ++ [x]) w') (by kernel_rfl) (by kernel_rfl) (fun a w h => h) ⟨run_loadId (w := W.drew) hRG hpg, run_loadId (w := W.drew) hRN hpn⟩ (fun hHeld => ?_)
    refine wpAnyH_take (i := 1) (oi := _) (v := .slice (some ⟨b, q, none⟩) 40 40) rfl (by kernel_rfl) (by kernel_rfl) (by kernel_rfl) (fun _ _ _ h => h) (Or.inl ⟨by rfl, fun w' hSw => ?_⟩) hHeld ?_
    · obtain ⟨s1, s2⟩ := hSw
      go_simp
    try simp only [Act.put, List.setIfInBounds_toArray, List.set_cons_zero, List.set_cons_succ]
    refine wpAnyH_take (i := 2) (oi := _) (v := .slice (some ⟨b, q, none⟩) 20 40) rfl (by kernel_rfl) (by kernel_rfl) (by kernel_rfl) (fun _ _ _ h => h) (Or.inl ⟨by rfl, fun w' hSw => ?_⟩) hHeld ?_
    · obtain ⟨s1, s2⟩ := hSw
      go_simp
    try simp only [Act.put, List.setIfInBounds_toArray, List.set_cons_zero, List.set_cons_succ]
    refine wpAnyH_take (i := 3) (oi := _) (v := .pointer (some ⟨b, q, none⟩)) rfl (by kernel_rfl) (by kernel_rfl) (by kernel_rfl) (fun _ _ _ h => h) (Or.inl ⟨by rfl, fun w' hSw => ?_⟩) hHeld ?_
    · obtain ⟨s1, s2⟩ := hSw
      go_simp
    try simp only [Act.put, List.setIfInBounds_toArray, List.set_cons_zero, List.set_cons_succ]
    refine wpAnyH_take (i := 4) (oi := _) (v := ida (git p)) rfl (by kernel_rfl) (by kernel_rfl) (by kernel_rfl) (fun _ _ _ h => h) (Or.inl ⟨by rfl, fun w' hSw => ?_⟩) hHeld ?_
    · obtain ⟨s1, s2⟩ := hSw
      go_simp
    try simp only [Act.put, List.setIfInBounds_toArray, List.set_cons_zero, List.set_cons_succ]
    refine wpAnyH_take (i := 5) (oi := _) (v := .slice (some ⟨b, q, none⟩) 40 40) rfl (by kernel_rfl) (by kernel_rfl) (by kernel_rfl) (fun _ _ _ h => h) (Or.inl ⟨by rfl, fun w' hSw => ?_⟩) hHeld ?_
    · obtain ⟨s1, s2⟩ := hSw
      go_simp
    try simp only [Act.put, List.setIfInBounds_toArray, List.set_cons_zero, List.set_cons_succ]
    refine wpAnyH_take (i := 6) (oi := _) (v := .slice (some ⟨b, q + 20, none⟩) 20 20) rfl (by kernel_rfl) (by kernel_rfl) (by kernel_rfl) (fun _ _ _ h => h) (Or.inl ⟨by rfl, fun w' hSw => ?_⟩) hHeld ?_
    · obtain ⟨s1, s2⟩ := hSw
      go_simp
    try simp only [Act.put, List.setIfInBounds_toArray, List.set_cons_zero, List.set_cons_succ]
    refine wpAnyH_take (i := 7) (oi := _) (v := .pointer (some ⟨b, q + 20, none⟩)) rfl (by kernel_rfl) (by kernel_rfl) (by kernel_rfl) (fun _ _ _ h => h) (Or.inl ⟨by rfl, fun w' hSw => ?_⟩) hHeld ?_
    · obtain ⟨s1, s2⟩ := hSw
      go_simp
    try simp only [Act.put, List.setIfInBounds_toArray, List.set_cons_zero, List.set_cons_succ]
    refine wpAnyH_take (i := 8) (oi := _) (v := ida (nod p)) rfl (by kernel_rfl) (by kernel_rfl) (by kernel_rfl) (fun _ _ _ h => h) (Or.inl ⟨by rfl, fun w' hSw => ?_⟩) hHeld ?_
    · obtain ⟨s1, s2⟩ := hSw
      go_simp
    try simp only [Act.put, List.setIfInBounds_toArray, List.set_cons_zero, List.set_cons_succ]
    refine wpAnyH_take (i := 9) (oi := _) (v := ida p) rfl (by kernel_rfl) (by kernel_rfl) (by kernel_rfl) (fun _ _ _ h => h) (Or.inl ⟨by rfl, fun w' hSw => ?_⟩) hHeld ?_
    · obtain ⟨s1, s2⟩ := hSw
      go_simp
    try simp only [Act.put, List.setIfInBounds_toArray, List.set_cons_zero, List.set_cons_succ]
    clear hgn hcA
    have hba : Below W.heap.size W ((W.alloc (.cells (bv p).toArray 27)).drew) := bd2 W _
    have hS1 : S6 b q p ((W.alloc (.cells (bv p).toArray 27)).drew) := ⟨run_loadId (range_aft hRG hba) hpg, run_loadId (range_aft hRN hba) hpn⟩
    have hoA := ho.below hba
    have hszA : w.heap.size ≤ ((W.alloc (.cells (bv p).toArray 27)).drew).heap.size := Nat.le_trans hB.size hba.size
    have hBx : Blk ((W.alloc (.cells (bv p).toArray 27)).drew) W.heap.size 27 (bv p).toArray := (Blk.new W _ _).drew
    have cA : ((W.alloc (.cells (bv p).toArray 27)).drew).cell? ⟨w.heap.size + 1 + 1, 0, none⟩ = some v := (b4.below hba b4.lt).cell 0
    refine wpAnyH_ready (rs := [0, 10]) (by kernel_rfl) (by simp) ?_
    refine AllReadyH.cons (o := _) rfl (fun K hK => ?_) (AllReadyH.cons (o := _) rfl (fun K hK => ?_) AllReadyH.nil)
    · go_simp
      refine hK.out _ _ hHeld (fun h1 => ?_)
      try simp only [Act.put, List.setIfInBounds_toArray, List.set_cons_zero, List.set_cons_succ]
      clear hK K
      refine wpAnyH_ready (rs := [10]) (by kernel_rfl) (by simp) ?_
      refine AllReadyH.cons (o := _) rfl (fun K hK => ?_) AllReadyH.nil
      go_simp
      refine hK.out _ _ hS1 (fun h2 => ?_)
      try simp only [Act.put, List.setIfInBounds_toArray, List.set_cons_zero, List.set_cons_succ]
      clear hK K
      refine wpAnyH_ready (rs := [11]) (by kernel_rfl) (by simp) ?_
      refine AllReadyH.cons (o := _) rfl (fun K hK => ?_) AllReadyH.nil
      refine step_appPrs rfl (.tmp 12) (.tmp 22) rfl w.heap.size v (got L pre).length (got L pre) rfl hoA (some ⟨W.heap.size, 0, none⟩) 1 1 [p] rfl (RPrs.one hBx hp) (by omega) hszA ?_
      intro v6 w6 ho6 hg6 hat6
      obtain ⟨w7, rfl, hS6, hS7, e1, f1, hfin⟩ := pr_round (x := x) (fun _ => HG.out) hp hB ho b4 b2 b3 b5 b6 hbw hR hg6 ho6 hat6
      refine hK.out _ _ hS6 (fun h3 => ?_)
      try simp only [Act.put, List.setIfInBounds_toArray, List.set_cons_zero, List.set_cons_succ]
      clear hK K
      refine wpAnyH_ready (rs := [12]) (by kernel_rfl) (by simp) ?_
      refine AllReadyH.cons (o := _) rfl (fun K hK => ?_) AllReadyH.nil
      obtain ⟨A6, c6, rfl, hc6⟩ := ho6.slice
      go_simp
      refine hK.out _ _ hS7 (fun h4 => ?_)
      refine wpAnyH_done (by kernel_rfl) ?_ _
      exact ⟨rfl, hfin⟩
    · go_simp
      refine hK.out _ _ hS1 (fun h1 => ?_)
      try simp only [Act.put, List.setIfInBounds_toArray, List.set_cons_zero, List.set_cons_succ]
      clear hK K
      refine wpAnyH_ready (rs := [0]) (by kernel_rfl) (by simp) ?_
      refine AllReadyH.cons (o := _) rfl (fun K hK => ?_) AllReadyH.nil
      go_simp
      refine hK.out _ _ hS1 (fun h2 => ?_)
      try simp only [Act.put, List.setIfInBounds_toArray, List.set_cons_zero, List.set_cons_succ]
      clear hK K
      refine wpAnyH_ready (rs := [11]) (by kernel_rfl) (by simp) ?_
      refine AllReadyH.cons (o := _) rfl (fun K hK => ?_) AllReadyH.nil
      refine step_appPrs rfl (.tmp 12) (.tmp 22) rfl w.heap.size v (got L pre).length (got L pre) rfl hoA (some ⟨W.heap.size, 0, none⟩) 1 1 [p] rfl (RPrs.one hBx hp) (by omega) hszA ?_
      intro v6 w6 ho6 hg6 hat6
      obtain ⟨w7, rfl, hS6, hS7, e1, f1, hfin⟩ := pr_round (x := x) (fun _ => HG.out) hp hB ho b4 b2 b3 b5 b6 hbw hR hg6 ho6 hat6
      refine hK.out _ _ hS6 (fun h3 => ?_)
      try simp only [Act.put, List.setIfInBounds_toArray, List.set_cons_zero, List.set_cons_succ]
      clear hK K
      refine wpAnyH_ready (rs := [12]) (by kernel_rfl) (by simp) ?_
      refine AllReadyH.cons (o := _) rfl (fun K hK => ?_) AllReadyH.nil
      obtain ⟨A6, c6, rfl, hc6⟩ := ho6.slice
      go_simp
      refine hK.out _ _ hS7 (fun h4 => ?_)
      refine wpAnyH_done (by kernel_rfl) ?_ _
      exact ⟨rfl, hfin⟩
  case done =>
    rintro D ys W hD hys ⟨⟨v, b4, ho⟩, b2, b3, hB, b5, b6⟩ hK
    rw [got_all L rfl ys hys] at ho
    obtain ⟨A6, c6, rfl, hc6⟩ := ho.slice
    have c4 := b4.cell 0
    have c2 := b2.cell 0
    have c3 := b3.cell 0
    have f2 := b2.frozen 0
    have f3 := b3.frozen 0
    have n2 := ho.notBlk b2 (by decide)
    have n3 := ho.notBlk b3 (by decide)
    gi_wp2
    refine wpIn_wide.2 ?_
    go_region_held3 (fun W' => W'.cell? ⟨w.heap.size + 1 + 1, 0, none⟩ = some (.slice A6 L.length c6))
      (first | exact c4 | exact (cell_set_far W w.heap.size _ 0 0 _ (by omega)).trans c4 | exact (cell_set_far (W.setCell ⟨w.heap.size, 0, none⟩ (.slice A6 L.length c6)) (w.heap.size + 1) _ 0 0 _ (by omega)).trans ((cell_set_far W w.heap.size _ 0 0 _ (by omega)).trans c4))
      (fail)
    all_goals
      gi_wp2
      obtain ⟨W7, e7⟩ : ∃ W7, W7 = (W.setCell ⟨w.heap.size, 0, none⟩ (.slice A6 L.length c6)).setCell ⟨w.heap.size + 1, 0, none⟩ (.bool (decide (0 < L.length))) := ⟨_, rfl⟩
      have hs1 := set_grownQ W w.heap.size 0 (.slice A6 L.length c6)
      have hs2 := set_grownQ (W.setCell ⟨w.heap.size, 0, none⟩ (.slice A6 L.length c6)) (w.heap.size + 1) 0 (.bool (decide (0 < L.length)))
      have hK7 : W7.heap[D]? = some (.deferred (some [])) := by rw [e7]; exact (KeepsOthers.setCell _ _ _).same D _ ((KeepsOthers.setCell W _ _).same D _ hK rfl) rfl
      have d2 : Blk W7 w.heap.size 23 #[.slice A6 L.length c6] := by rw [e7]; exact (b2.set_ 0 _).grown hs2 (fun e => by injection e with e; omega)
      have d3 : Blk W7 (w.heap.size + 1) 4 #[.bool (decide (0 < L.length))] := by rw [e7]; exact (b3.grown hs1 (fun e => by injection e with e; omega)).set_ 0 _
      have ho7 : OPrs W7 w.heap.size (.slice A6 L.length c6) L.length L := by rw [e7]; exact (ho.kept hs1 (own_far n2)).kept hs2 (own_far n3)
      have hb7 : Below w.heap.size w W7 := by
        have h1 := hB.grown hs1 hB.size (fun k e => by injection e with e; omega)
        rw [e7]
        exact h1.grown hs2 h1.size (fun k e => by injection e with e; omega)
      rw [← e7]
      have hg8 := grownBy_putObj' W7.drew D (.deferred none)
      have hr8 : ∀ r, (some D : Option Nat) = some r → 0 ≤ r ∧ ∃ o : Obj, W7.drew.heap[r]? = some o ∧ o.isCells = false := fun r e => by injection e with e; subst e; exact ⟨Nat.zero_le _, _, hK7, rfl⟩
      have q2 := (blk_cellsRow (d2.drewN 1) hg8 hr8).cell 0
      have q3 := (blk_cellsRow (d3.drewN 1) hg8 hr8).cell 0
      have ho8 := own_cellsRow (ho7.drewN 1) hg8 hr8
      have hzD : w.heap.size ≤ D := Nat.le_trans hB0.size hD
      have hb8 := (below_drewN hb7 1).grown hg8 (below_drewN hb7 1).size (fun k e => by injection e with e; omega)
      refine ⟨by simp, .inl ⟨_, _, rfl, run_takeDeferred (w := W7.drew) hK7, ?_⟩⟩
      refine ⟨.tuple #[.slice A6 L.length c6, .bool (decide (0 < L.length))], ?_, ⟨A6, c6, rfl, ho8, hc6, hb8⟩⟩
      simp [results, Try.results49, go_sem, q2, q3]
  case stop =>
    rintro D c pre W _ _ h _
    exact h.elim
end Go.Proofs.Ytokamaogognjoaa
