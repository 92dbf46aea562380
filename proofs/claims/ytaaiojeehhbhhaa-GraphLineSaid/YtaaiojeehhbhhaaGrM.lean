/-
  GraphLine's walk.
-/
import Derived.Test.YtaaiojeehhbhhaaGrL
import Derived.Test.YtaaiojeehhbhhaaGr12
import Derived.Test.YtaaiojeehhbhhaaGr13
set_option linter.unusedVariables false
set_option linter.unusedSimpArgs false
namespace Go.Proofs.Ytaaiojeehhbhhaa
open Go.RowKit

set_option maxHeartbeats 1000000 in
theorem lid_any (x : Int) (m : Nat) (w : World) (hx : x = (m : Int)) (hm : m ≤ 200) : Calls Try.prog 9 #[.int .i64 x] w (fun e w' => e = .returned (ida (lid m)) ∧ Below w.heap.size w w') := by
  subst hx
  have h8 : IntKind.u8.wrap ((m : Int) + 1) = (m : Int) + 1 := IntWalk.u8_in _ (by omega)
  have hzX : (Try.prog.info? 27).map (·.size) = some (bv (lid m)).toArray.size := by rw [bvArr_size, (lid_id hm).1]; exact idSize
  have hsX : zid.size = (bv (lid m)).toArray.size := by rw [bvArr_size, (lid_id hm).1]; rfl
  have hb0 : Below w.heap.size w (w.alloc (.cells zid 27)) := (Below.refl _ _).alloc (Nat.le_refl _) _
  go_enter Try.func9, Try.ntmps9
  go_wp2_with ((with_reducible refine st_row 27 2 6 w.heap.size 27 (bv (lid m)).toArray zid ?_ ?_ ?_ hzX hsX (bvArr_all (lid m)) ?_); rfl; rfl; exact (Blk.new w 27 zid); intro w4 hb4 hg4 hsz4; have hB4 := hb0.grown hg4 hb0.size (fun k hk => by cases hk; exact Nat.le_refl _))
  exact ret_row 2 27 w.heap.size _ _ _ rfl rfl hb4 idTy rfl hzX rfl ⟨rfl, hB4⟩

/-- the line's graph, under way: its blocks are the call's own; the cell of its head lies apart. -/
structure Ln (w wk : World) (g hb : Nat) (x : IdL) (G : Gph) : Prop where
  gr : ∃ P, GrAt wk P g G ∧ (x ≠ [] → ¬ P hb) ∧ ∀ k, P k → w.heap.size ≤ k ∧ k < wk.heap.size
  lt : x ≠ [] → hb < wk.heap.size
  rng : wk.rangeAt hb 0 (bv x)
  bel : Below w.heap.size w wk
section
variable {w wk w' : World} {g hb : Nat} {x : IdL} {G : Gph}
theorem Ln.next (h : Ln w wk g hb x G) (k : Below wk.heap.size wk w') : Ln w w' g hb x G := by
  obtain ⟨⟨P, hg, hn, hp⟩, hl, hr, hB⟩ := h
  exact ⟨⟨P, hg.below k, hn, fun i hi => ⟨(hp i hi).1, Nat.lt_of_lt_of_le (hp i hi).2 k.size⟩⟩, fun e => Nat.lt_of_lt_of_le (hl e) k.size, fun j v hj => cell_later k (hr j v hj), below_then hB hB.size k⟩
theorem Ln.cell (h : Ln w wk g hb x G) (o : Obj) : Ln w (wk.alloc o) g hb x G := h.next ((Below.refl _ _).alloc (Nat.le_refl _) _)
theorem Ln.drewN (h : Ln w wk g hb x G) (n : Nat) : Ln w (wk.drewN n) g hb x G := h.next (drewN_below wk n)
theorem bvs_ne {x : IdL} {j : Nat} {v : Value} (h : (bv x)[j]? = some v) : x ≠ [] := fun e => by subst e; simp [bv] at h
theorem Ln.add {y : Int} {G' : Gph} {e : Ending} {P : Nat → Prop} (hl : x ≠ [] → hb < wk.heap.size) (hr : wk.rangeAt hb 0 (bv x)) (hB : Below w.heap.size w wk) (hn : x ≠ [] → ¬ P hb) (hp : ∀ k, P k → w.heap.size ≤ k ∧ k < wk.heap.size) (h : AddPost y P g G' wk e w') : Ln w w' g hb x G' := by
  obtain ⟨_, hg, hc⟩ := h
  refine ⟨⟨_, hg.bounded, fun e h => ?_, fun k hk => ⟨?_, hk.2⟩⟩, fun e => Nat.lt_of_lt_of_le (hl e) hc.size, fun j v hj => hc.cell (hr j v hj) (hn (bvs_ne hj)), hc.toBelow hB hB.size fun k hk => (hp k hk).1⟩
  · rcases h.1 with h | h
    · exact hn e h
    · have := hl e
      omega
  · rcases hk.1 with h | h
    · exact (hp k h).1
    · exact Nat.le_trans hB.size h
theorem ln_id (h : Ln w wk g hb x G) (z : Int) (m : Nat) (hz : z = (m : Int)) (hm : m ≤ 200) : Calls Try.prog 9 #[.int .i64 z] wk (fun e w' => e = .returned (ida (lid m)) ∧ Ln w w' g hb x G) :=
  (lid_any z m wk hz hm).mono fun e w1 ⟨he, hb⟩ => ⟨he, h.next hb⟩
theorem ln_comes {n i k : Nat} (h : Ln w wk g hb x (lnG n)) (hn : n ≤ 100) (hi : i < n) (hk : k < n) : Calls Try.prog 12 #[.pointer (some ⟨g, 0, none⟩), ida (lid i), ida (lid k)] wk (fun e w' => e = .returned (.bool (decide (k ≤ i))) ∧ Ln w w' g hb x (lnG n)) := by
  obtain ⟨P, hg, _⟩ := h.gr
  refine (comes_any P g (lnG n) (lid i) (lid k) wk hg (line_inv n hn) (lid_id (by omega)) (lid_id (by omega)) 1 (line_ps n) (by rw [lnG_len]; omega)).mono fun e w1 h1 => ?_
  rw [line_comes hn hi hk] at h1
  exact ⟨h1.1, h.next h1.2⟩
theorem ln_close {n i : Nat} (h : Ln w wk g hb x (lnG n)) (hn : n ≤ 100) (hi : i < n) : Calls Try.prog 13 #[.pointer (some ⟨g, 0, none⟩), .slice (some ⟨wk.heap.size, 0, none⟩) 1 1] (wk.alloc (.cells (bv (lid i)).toArray 27)) (fun e w' => ∃ A c, e = .returned (.slice A (i + 1) c) ∧ Ln w w' g hb x (lnG n)) := by
  obtain ⟨P, hg, _⟩ := h.gr
  have h1 := h.cell (.cells (bv (lid i)).toArray 27)
  obtain ⟨P, hg, _⟩ := h1.gr
  refine (closure_any P g (lnG n) _ 1 1 [lid i] _ hg (line_inv n hn) (RIds.one (Blk.new wk _ _) (lid_id (by omega))) (by omega) 1 (line_ps n) (by rw [lnG_len]; omega)).mono fun e w1 h2 => ?_
  rw [line_close hn hi] at h2
  obtain ⟨A, c, he, _, _, hb⟩ := h2
  exact ⟨A, c, he, h1.next hb⟩
theorem ln_add {n : Nat} {y p : Nat} {z : Int} {G' : Gph} (h : Ln w wk g hb x (lnG n)) (hn : n ≤ 100) (hy : y ≤ 200) (hp : p ≤ 200) (he : addE (lnG n) (lid y) [lid p] = z) (hG : addG (lnG n) (lid y) [lid p] = G') :
    Calls Try.prog 10 #[.pointer (some ⟨g, 0, none⟩), ida (lid y), .slice (some ⟨wk.heap.size, 0, none⟩) 1 1] (wk.alloc (.cells (bv (lid p)).toArray 27)) (fun e w' => e = .returned (.int .i64 z) ∧ Ln w w' g hb x G') := by
  have h1 := h.cell (.cells (bv (lid p)).toArray 27)
  obtain ⟨P, hg, hP, hPk⟩ := h.gr
  refine (add_any P g (lnG n) (lid y) _ 1 1 [lid p] _ (hg.below ((Below.refl _ _).alloc (Nat.le_refl _) _)) (line_inv n hn) (lid_id hy) (RIds.one (Blk.new wk _ _) (lid_id hp)) (by omega) (fun ad e hp => by
    cases e
    have := (hPk _ hp).2
    simp at this) (fun j hj => Nat.le_trans (line_ps n j hj) (by omega))).mono fun e w1 h2 => ?_
  rw [he, hG] at h2
  exact ⟨h2.1, Ln.add h1.lt h1.rng h1.bel hP (fun k hk => ⟨(hPk k hk).1, Nat.lt_of_lt_of_le (hPk k hk).2 (by simp)⟩) h2⟩
theorem ln_add0 {G' : Gph} (h : Ln w wk g hb x []) (he : addG [] (lid 0) [] = G') :
    Calls Try.prog 10 #[.pointer (some ⟨g, 0, none⟩), ida (lid 0), .slice none 0 0] wk (fun e w' => e = .returned (.int .i64 0) ∧ Ln w w' g hb x G') := by
  obtain ⟨P, hg, hP, hPk⟩ := h.gr
  refine (add_any P g [] (lid 0) none 0 0 [] wk hg GInv.nil (lid_id (by omega)) (RIds.nil _ _) (by omega) (fun ad e => by cases e) (fun j hj => by simp at hj)).mono fun e w1 h2 => ?_
  rw [show addE [] (lid 0) [] = 0 from line_addE 0 (by omega), he] at h2
  exact ⟨h2.1, Ln.add h.lt h.rng h.bel hP hPk h2⟩
/-- the slice of one id that is about to be handed over, marked. -/
theorem Ln.mark {z : IdL} (h : Ln w wk g hb z G) (y : IdL) : Ln w (wk.alloc (.cells (bv y).toArray 27)) g wk.heap.size y G := by
  obtain ⟨⟨P, hg, hn, hp⟩, hl, hr, hB⟩ := h
  have hb0 : Below wk.heap.size wk (wk.alloc (.cells (bv y).toArray 27)) := (Below.refl _ _).alloc (Nat.le_refl _) _
  exact ⟨⟨P, hg.below hb0, fun _ hP => absurd (hp _ hP).2 (Nat.lt_irrefl _), fun k hk => ⟨(hp k hk).1, Nat.lt_of_lt_of_le (hp k hk).2 hb0.size⟩⟩, fun _ => by simp, (Blk.new wk 27 (bv y).toArray).range, below_then hB hB.size hb0⟩
theorem Ln.forget (h : Ln w wk g hb x G) : Ln w wk g 0 [] G := by
  obtain ⟨⟨P, hg, hn, hp⟩, hl, hr, hB⟩ := h
  exact ⟨⟨P, hg, fun e => absurd rfl e, hp⟩, fun e => absurd rfl e, fun j v hj => absurd rfl (bvs_ne hj), hB⟩
theorem lid_ne (m : Nat) : lid m ≠ [] := by simp [lid]
theorem ln_addH {n : Nat} {y p : Nat} {z : Int} {G' : Gph} (h : Ln w wk g hb (lid p) (lnG n)) (hn : n ≤ 100) (hy : y ≤ 200) (hp : p ≤ 200) (he : addE (lnG n) (lid y) [lid p] = z) (hG : addG (lnG n) (lid y) [lid p] = G') :
    Calls Try.prog 10 #[.pointer (some ⟨g, 0, none⟩), ida (lid y), .slice (some ⟨hb, 0, none⟩) 1 1] wk (fun e w' => e = .returned (.int .i64 z) ∧ Ln w w' g 0 [] G') := by
  obtain ⟨P, hg, hP, hPk⟩ := h.gr
  refine (add_any P g (lnG n) (lid y) _ 1 1 [lid p] _ hg (line_inv n hn) (lid_id hy) ⟨rfl, AllId.one (lid_id hp), fun _ => ⟨hb, 0, rfl, fun j hj => by
    obtain rfl : j = 0 := by omega
    exact h.rng⟩⟩ (by omega) (fun ad e hp => by
    cases e
    exact hP (lid_ne p) hp) (fun j hj => Nat.le_trans (line_ps n j hj) (by omega))).mono fun e w1 h2 => ?_
  rw [he, hG] at h2
  exact ⟨h2.1, (Ln.add h.lt h.rng h.bel hP hPk h2).forget⟩
theorem ln_heads {m : Nat} (h : Ln w wk g hb x (lnG (m + 1))) (hm : m ≤ 90) : Calls Try.prog 11 #[.pointer (some ⟨g, 0, none⟩)] wk (fun e w' => ∃ b c, e = .returned (.slice (some ⟨b, 0, none⟩) 1 c) ∧ Ln w w' g b (lid m) (lnG (m + 1))) := by
  obtain ⟨P, hg, hP, hPk⟩ := h.gr
  refine (heads_any P g (lnG (m + 1)) wk hg (line_inv _ (by omega)) 1 (line_ps _) (by omega)).mono fun e w1 h2 => ?_
  rw [line_heads] at h2
  obtain ⟨A, c, he, ho, hc, hb1⟩ := h2
  have h1 := h.next hb1
  rcases ho.form with ⟨_, h0, _⟩ | ⟨b, cap, cur, hv, hlb, hlt, _⟩
  · simp at h0
  · injection hv with e1 e2 e3
    subst e1
    have hrd := ho.reads
    obtain ⟨b', o', e4, hr⟩ := hrd.2.2 (by simp)
    injection e4 with e4
    injection e4 with e5 e6
    subst e5
    subst e6
    have hr0 := hr 0 (by simp)
    refine ⟨b, c, he, ⟨P, hg.below hb1, fun _ hPb => ?_, fun k hk => ⟨(hPk k hk).1, Nat.lt_of_lt_of_le (hPk k hk).2 hb1.size⟩⟩, fun _ => hlt, hr0, h1.bel⟩
    have := (hPk _ hPb).2
    omega
end
theorem line_G0 : addG [] (lid 0) [] = lnG 1 := line_addG 0 (by omega)
theorem line_Es (m : Nat) (h : m < 4000) : addE (lnG (m + 1)) (lid (m + 1)) [lid m] = 0 := line_addE (m + 1) (by omega)
theorem line_Gs (m : Nat) (h : m < 4000) : addG (lnG (m + 1)) (lid (m + 1)) [lid m] = lnG (m + 2) := line_addG (m + 1) (by omega)
theorem line_G6 (n : Nat) : addG (lnG n) (lid n) [lid (n + 1)] = lnG n := addG_bad (by rw [line_gone]; omega)
theorem wrapL_range (n : Int) : 0 ≤ IntKind.u64.wrap n ∧ IntKind.u64.wrap n < 18446744073709551616 := by
  simp [IntKind.wrap, IntKind.min, IntKind.max, IntKind.signed, IntKind.bits]
  omega
theorem rem_line (x : Int) (m : Nat) (h : 0 < m) : ∃ q : Nat, (IntKind.u64.wrap x).tmod (m : Int) = (q : Int) ∧ q < m := by
  have h1 := (wrapL_range x).1
  rw [Int.tmod_eq_emod_of_nonneg h1]
  have h2 := Int.emod_nonneg (IntKind.u64.wrap x) (show (m : Int) ≠ 0 by omega)
  have h3 := Int.emod_lt_of_pos (IntKind.u64.wrap x) (show 0 < (m : Int) by omega)
  exact ⟨(IntKind.u64.wrap x % (m : Int)).toNat, by omega, by omega⟩
set_option maxRecDepth 100000 in
set_option maxHeartbeats 4000000 in
theorem line_walk (n i k : Int) (w : World) (hn : (Lit.int .i64 n).wf = true) (hi : (Lit.int .i64 i).wf = true) (hk : (Lit.int .i64 k).wf = true) :
    Calls Try.prog 3 #[.int .i64 n, .int .i64 i, .int .i64 k] w (fun e w' => e = .returned (.bool true) ∧ Below w.heap.size w w') := by
  clear hn hi hk
  obtain ⟨N, hN, hNl⟩ := rem_line n 40 (by omega)
  have hN : (IntKind.u64.wrap n).tmod 40 = (N : Int) := hN
  obtain ⟨I, hI, hIl⟩ := rem_line i (N + 1) (by omega)
  obtain ⟨K, hK, hKl⟩ := rem_line k (N + 1) (by omega)
  have eN : ((N + 1 : Nat) : Int) = 1 + (N : Int) := by omega
  rw [eN] at hI hK
  have hwn : IntKind.u64.wrap (1 + (N : Int)) = 1 + (N : Int) := IntWalk.u64_in _ (by omega)
  have hnz : ¬ ((1 : Int) + (N : Int) = 0) := by omega
  go_enter Try.func3, Try.ntmps3
  go_wp2_with fail
  go_quiet (fail)
  go_wp2_with fail
  refine (new_any _).mono ?_
  rintro e w1 ⟨g, rfl, hg0, hb1⟩
  go_wp2_with fail
  refine (awake12_any _).mono ?_
  rintro e w2 ⟨rfl, hb2⟩
  have hb1' : Below w.heap.size w w1 := below_then (drewN_below w _) (Nat.le_refl _) hb1
  have L0 : Ln w w2 g 0 [] (lnG 0) := ⟨⟨_, (hg0.below hb2).bounded, fun h => absurd rfl h, fun k hk => hk⟩, fun h => absurd rfl h, fun j v hj => absurd rfl (bvs_ne hj), below_two hb1' hb2⟩
  clear hg0 hb1 hb2 hb1' hnz
  have HI := Lib.hid hI
  have HK := Lib.hid hK
  have HN := Lib.hid hN
  clear hI hK hN
  go_wp2_with fail
  go_loopw [9] (fun i wr => ∃ j : Nat, j ≤ N + 1 ∧ i = .int .i64 j ∧ Ln w wr g 0 [] (lnG j)) (fun i _ => N + 1 - (intOf i).toNat)
  case atStart => exact ⟨0, by omega, rfl, L0⟩
  case round =>
    obtain ⟨j, hj, rfl, L⟩ := hrel
    by_cases h1 : j < N + 1
    · have j1 : (j : Int) < 1 + (N : Int) := by omega
      cases j with
      | zero =>
        have L : Ln w wr g 0 [] [] := L
        go_wp2_with (first
          | (go_at_call 9; (with_reducible refine (ln_id L _ 0 (by simp) (by omega)).mono ?_); rintro e w5 ⟨rfl, L5⟩)
          | (go_at_call 10; (with_reducible refine (ln_add0 L5 line_G0).mono ?_); rintro e w6 ⟨rfl, L6⟩))
        go_roundw
        case rel => exact ⟨1, by omega, by go_num, L6⟩
        case measure => simp [intOf]
      | succ m =>
        have j0 : (0 : Int) < ((m + 1 : Nat) : Int) := by omega
        have hx1 : IsId (lid m) := lid_id (by omega)
        go_wp2_with (first
          | (go_at_call 9; (with_reducible refine (ln_id L _ m (by omega) (by omega)).mono ?_); rintro e w5 ⟨rfl, L5⟩; have M5 := L5.mark (lid m))
          | (go_at_call 9; (with_reducible refine (ln_id M5 _ (m + 1) (by omega) (by omega)).mono ?_); rintro e w6 ⟨rfl, M6⟩)
          | (go_at_call 10; (with_reducible refine (ln_addH M6 (by omega) (by omega) (by omega) (line_Es m (by omega)) (line_Gs m (by omega))).mono ?_); rintro e w7 ⟨rfl, L7⟩))
        go_roundw
        case rel => exact ⟨m + 2, by omega, by go_num, L7⟩
        case measure => simp [intOf]; omega
    · obtain rfl : j = N + 1 := by omega
      go_wp2_with (go_at_call 11; (with_reducible refine (ln_heads L (by omega)).mono ?_); rintro e w5 ⟨hb, c, rfl, L5⟩)
      have L16 : Ln w w5.drew g hb (lid N) (lnG (N + 1)) := L5.drewN 1
      have hu := idTy
      have hsz := idSz (lid_id (m := N) (by omega))
      have iI : IsId (lid I) := lid_id (by omega)
      have iK : IsId (lid K) := lid_id (by omega)
      have iN : IsId (lid N) := lid_id (by omega)
      have iN1 : IsId (lid (N + 1)) := lid_id (by omega)
      have iN2 : IsId (lid (N + 2)) := lid_id (by omega)
      have hEq : ∀ W, (binOp .eql 27 (ida (lid N)) (ida (lid N))).run Try.prog W = .ok (.bool true) W := fun W => by
        have := ida_eql iN iN W
        rw [beq_self_eq_true] at this
        exact this
      have hTw := line_twice (n := N + 1) (i := I) (by omega) hIl
      have hG6 := line_gone (n := N + 1)
      have hG6' := line_G6 (N + 1)
      have s1 : IntKind.i64.wrap ((I : Int) + 1) = (I : Int) + 1 := IntWalk.i64_in _ (by omega)
      have s2 : IntKind.i64.wrap ((1 : Int) + (N : Int) - 1) = (N : Int) := (IntWalk.i64_in _ (by omega)).trans (by omega)
      have s3 : IntKind.i64.wrap ((1 : Int) + (N : Int) + 1) = (1 : Int) + (N : Int) + 1 := IntWalk.i64_in _ (by omega)
      have s4 : IntKind.i64.wrap (N : Int) = (N : Int) := IntWalk.i64_in _ (by omega)
      clear HI HK HN L L0 L5 hj
      simp only [List.append]
      go_region_held3 (fun w' => w'.rangeAt hb 0 (bv (lid N)))
        (first
          | exact Ln.rng (w := w) (g := g) (hb := hb) (x := lid N) (G := lnG (N + 1)) (by assumption)
          | exact (Ln.cell (w := w) (g := g) (hb := hb) (x := lid N) (G := lnG (N + 1)) (by assumption) _).rng)
        (first
          | (go_at_call 9; (with_reducible refine (ln_id (w := w) (g := g) (hb := hb) (x := lid N) (G := lnG (N + 1)) (by assumption) _ I (by omega) (by omega)).mono ?_); rintro e wz ⟨rfl, Lz⟩)
          | (go_at_call 9; (with_reducible refine (ln_id (w := w) (g := g) (hb := hb) (x := lid N) (G := lnG (N + 1)) (by assumption) _ K (by omega) (by omega)).mono ?_); rintro e wz ⟨rfl, Lz⟩)
          | (go_at_call 9; (with_reducible refine (ln_id (w := w) (g := g) (hb := hb) (x := lid N) (G := lnG (N + 1)) (by assumption) _ N (by omega) (by omega)).mono ?_); rintro e wz ⟨rfl, Lz⟩)
          | (go_at_call 9; (with_reducible refine (ln_id (w := w) (g := g) (hb := hb) (x := lid N) (G := lnG (N + 1)) (by assumption) _ (N + 1) (by omega) (by omega)).mono ?_); rintro e wz ⟨rfl, Lz⟩)
          | (go_at_call 9; (with_reducible refine (ln_id (w := w) (g := g) (hb := hb) (x := lid N) (G := lnG (N + 1)) (by assumption) _ (N + 2) (by omega) (by omega)).mono ?_); rintro e wz ⟨rfl, Lz⟩)
          | (go_at_call 12; (with_reducible refine (ln_comes (w := w) (g := g) (hb := hb) (x := lid N) (by assumption) (by omega) hIl hKl).mono ?_); rintro e wz ⟨rfl, Lz⟩)
          | (go_at_call 13; (with_reducible refine (ln_close (w := w) (g := g) (hb := hb) (x := lid N) (by assumption) (by omega) hIl).mono ?_); rintro e wz ⟨Az, cz, rfl, Lz⟩)
          | (go_at_call 10; (with_reducible refine (ln_add (w := w) (g := g) (hb := hb) (x := lid N) (y := I) (p := N + 1) (by assumption) (by omega) (by omega) (by omega) hTw.1 hTw.2).mono ?_); rintro e wz ⟨rfl, Lz⟩)
          | (go_at_call 10; (with_reducible refine (ln_add (w := w) (g := g) (hb := hb) (x := lid N) (y := N + 1) (p := N + 2) (by assumption) (by omega) (by omega) (by omega) hG6 hG6').mono ?_); rintro e wz ⟨rfl, Lz⟩))
      all_goals
        go_wp2
        go_ret
        exact ⟨rfl, Ln.bel (w := w) (g := g) (hb := hb) (x := lid N) (G := lnG (N + 1)) (by assumption)⟩
end Go.Proofs.Ytaaiojeehhbhhaa
