/-
  trestlehelp.Own, Kept over ids.
-/
import Derived.Test.YtaaiojeehhbhhaaGrO1
import Derived.Test.YtaaiojeehhbhhaaGr6
set_option linter.unusedVariables false
set_option linter.unusedSimpArgs false
namespace Go.Proofs.Ytaaiojeehhbhhaa
open Go.RowKit

theorem setCells_grown (g : Nat) : ∀ (vs : List Value) (o : Nat) (w : World), w.grownBy (w.setCells g o vs) (some g)
  | [], _, w => World.grownBy.refl w _
  | v :: r, o, w => (set_grown w g o v).trans (setCells_grown g r (o + 1) (w.setCell ⟨g, o, none⟩ v))
/-- a copy of ids with spare room behind it. -/
def OwnI (w : World) (g n : Nat) (L : List IdL) (f : IdL) : Prop := RIds w (some ⟨g, 0, none⟩) n L ∧ ∀ k, k < 3 → w.rangeAt g ((n + k) * 20) (bv f)
theorem OwnI.below {w w' : World} {g n : Nat} {L : List IdL} {f : IdL} (h : OwnI w g n L f) (hb : Below w.heap.size w w') : OwnI w' g n L f :=
  ⟨h.1.below hb, fun k hk i v hv => cell_later hb (h.2 k hk i v hv)⟩
def OwnIP (n : Nat) (L : List IdL) (f : IdL) (w : World) (e : Ending) (w' : World) : Prop := ∃ g, e = .returned (.slice (some ⟨g, 0, none⟩) n (n + 3)) ∧ OwnI w' g n L f ∧ w.heap.size ≤ g ∧ Below w.heap.size w w'
/-- the spare room, as far as it has been filled. -/
structure FillI (w : World) (g n k : Nat) (L : List IdL) (f : IdL) : Prop where
  ids : AllId L
  len : L.length = n
  front : ∀ j, j < n → w.rangeAt g (j * 20) (bv (gid L j))
  fill : ∀ j, j < k → w.rangeAt g ((n + j) * 20) (bv f)
  room : ∀ j, j < 3 → w.there g ((n + j) * 20) 20
theorem FillI.step {w : World} {g n k : Nat} {L : List IdL} {f : IdL} (h : FillI w g n k L f) (hf : IsId f) (hk : k < 3) : FillI (w.setCells g ((n + k) * 20) (bv f)) g n (k + 1) L f := by
  have hl : (bv f).length = 20 := by rw [bv_length, hf.1]
  refine ⟨h.ids, h.len, fun j hj => World.rangeAt_setCells_apart (h.front j hj) g _ _ (.inr (.inl ?_)), fun j hj => ?_, fun j hj => World.there_setCells (h.room j hj) g _ _⟩
  · rw [bv_length, (h.ids.at_ (by rw [h.len]; exact hj)).1]
    omega
  · by_cases e : j = k
    · subst e
      exact World.rangeAt_setCells_same w g _ _ (by rw [hl]; exact h.room j hk)
    · exact World.rangeAt_setCells_apart (h.fill j (by omega)) g _ _ (.inr (.inl (by rw [hl]; omega)))
theorem FillI.full {w : World} {g n : Nat} {L : List IdL} {f : IdL} (h : FillI w g n 3 L f) : OwnI w g n L f :=
  ⟨⟨h.len, h.ids, fun _ => ⟨g, 0, rfl, fun j hj => by rw [Nat.zero_add]; exact h.front j hj⟩⟩, h.fill⟩
theorem make_ids (w : World) (c : Nat) (hc : c ≤ 1000000000) : ∃ Z : Array Value, Z.size = c * 20 ∧ (Instr.makeSlice 29 (.int .i64 0) (.int .i64 (c : Int))).run Try.prog w = .ok (.slice (some ⟨w.heap.size, 0, none⟩) 0 c) (w.alloc (.cells Z 27)) := by
  obtain ⟨i0, hi, hz0, hz1, hz2⟩ := info_parts idInfo
  have h := run_make (P := Try.prog) w 29 27 i0 (.agg zid) Try.underlying29 hi hz0 .i64 .i64 0 (c : Int) (by omega) (by omega) (by rw [hz2]; omega) (by omega)
  refine ⟨madeCells (Value.agg zid).cells ((c : Int).toNat * i0.size), ?_, by simpa using h⟩
  rw [hz1]
  simp [madeCells]
theorem made_own (w : World) (c : Nat) (Z : Array Value) (hZ : Z.size = c * 20) (hc : c ≤ 1000000000) : OIds (w.alloc (.cells Z 27)) w.heap.size (.slice (some ⟨w.heap.size, 0, none⟩) 0 c) 0 [] :=
  ⟨⟨rfl, .inr ⟨w.heap.size, c, Z, rfl, Nat.le_refl _, Blk.new w _ Z, Nat.zero_le _, by simp only [maxLen]; omega, hZ, rfl⟩⟩, AllId.nil, rfl⟩
/-- 'append' of ids that fits: the row stays where it is. -/
theorem wpList_appfitI {ops : Array Oper} {rest : List Oper} {o : Oper} {a : Act} {Q : Exit → Act → World → Prop} {w : World} (hgd : o.guard = none) (s x : Operand)
    (ho : o.op = .call { callee := .builtin .append, args := #[s, x], argTypes := #[29, 29] })
    (base g cap : Nat) (hs : a.eval s = .slice (some ⟨g, 0, none⟩) 0 cap) (hown : OIds w base (.slice (some ⟨g, 0, none⟩) 0 cap) 0 [])
    (A : Option Addr) (m c : Nat) (M : List IdL) (hx : a.eval x = .slice A m c) (hr : RIds w A m M) (b1 : m ≤ cap)
    (h : ∀ w', OIds w' base (.slice (some ⟨g, 0, none⟩) m cap) m M → w.grownBy w' (some g) → wpList Try.prog ops Q rest (a.put o.dst (.slice (some ⟨g, 0, none⟩) m cap)) w') : wpList Try.prog ops Q (o :: rest) a w := by
  obtain ⟨i0, hi, hz0, hz1, hz2⟩ := info_parts idInfo
  rcases Nat.eq_zero_or_pos m with h0 | h0
  · subst h0
    have hM : M = [] := List.eq_nil_of_length_eq_zero hr.1
    subst hM
    cases A with
    | none =>
      refine wpList_plain hgd fun K hK' => ?_
      have hrun := run_append_of_nil (P := Try.prog) w base 29 o.type 27 i0 20 underIds hi _ 0 (iv []) hown.1 c
      unfold Oper.wp execOp
      simp only [ho, resolve, invoke, builtin, Sem.run_bind, Sem.run_pure, Result.andThen_ok, List.map_toArray, List.map_cons, List.map_nil, hs, hx, hrun]
      exact hK' _ _ (h w hown (World.grownBy.refl w _))
    | some ad =>
      refine wpList_append_fits w hgd s x 29 ho base 27 i0 20 underIds hi hz1 g 0 cap (iv []) hs hown.1 ad 0 c (iv []) hx rfl (fun j u hj => by simp [iv, bv] at hj) (iv_one []) (by omega) fun w' h2 h3 => ?_
      have h4 := h w' ⟨by simpa [iv, bv] using h2, AllId.nil, rfl⟩ h3
      simpa using h4
  · obtain ⟨b, of, e, _⟩ := hr.2.2 h0
    subst e
    obtain ⟨hsl, hsc⟩ := hr.src
    obtain ⟨ad, e2, hc⟩ := hsc h0
    injection e2 with e2
    subst e2
    refine wpList_append_fits w hgd s x 29 ho base 27 i0 20 underIds hi hz1 g 0 cap (iv []) hs hown.1 _ m c (iv M) hx hsl hc (iv_one M) (by omega) fun w' h2 h3 => ?_
    have h4 := h w' ⟨by simpa [iv, bv] using h2, hr.2.1, hr.1⟩ h3
    simpa using h4
theorem made_fill {w : World} {B g n : Nat} {L : List IdL} {f : IdL} (h : OIds w B (.slice (some ⟨g, 0, none⟩) n (n + 3)) n L) : FillI w g n 0 L f := by
  rcases h.form with ⟨h0, _⟩ | ⟨g', cap, cur, hv, hgb, _, hc, hm, hB, hs, ht⟩
  · cases h0
  · injection hv with hA _ hcc
    injection hA with hA
    injection hA with hA _ _
    subst hA hcc
    have hrd := h.reads
    refine ⟨h.2.1, h.2.2, fun j hj => ?_, fun j hj => absurd hj (by omega), fun j hj i hi => ⟨?_, hB.frozen _⟩⟩
    · obtain ⟨b, o, e, hc⟩ := hrd.2.2 (by omega)
      injection e with e
      injection e with e1 e2
      subst e1 e2
      have := hc j hj
      rwa [Nat.zero_add] at this
    · rw [hB.cell, Array.getElem?_eq_getElem (by omega)]
      rfl
set_option maxRecDepth 100000 in
set_option maxHeartbeats 1000000 in
theorem ownI_any (A : Option Addr) (n c : Nat) (L : List IdL) (f : IdL) (w : World) (h : RIds w A n L) (hn : n ≤ 1000000) (hf : IsId f) :
    Calls Try.prog 14 #[.slice A n c, ida f] w (OwnIP n L f w) := by
  have hb0 : Below w.heap.size w (w.alloc (.cells (bv f).toArray 27)) := (Below.refl _ _).alloc (Nat.le_refl _) _
  have hbx : Blk (w.alloc (.cells (bv f).toArray 27)) w.heap.size 27 (bv f).toArray := Blk.new w _ _
  obtain ⟨Z, hZ, hmk⟩ := make_ids (w.alloc (.cells (bv f).toArray 27)) (n + 3) (by omega)
  have hmk : (Instr.makeSlice 29 (.int .i64 0) (.int .i64 ((n : Int) + 3))).run Try.prog (w.alloc (.cells (bv f).toArray 27)) = .ok (.slice (some ⟨w.heap.size + 1, 0, none⟩) 0 (n + 3)) ((w.alloc (.cells (bv f).toArray 27)).alloc (.cells Z 27)) := by
    have e : ((n + 3 : Nat) : Int) = (n : Int) + 3 := by omega
    rw [e, World.size_alloc] at hmk
    exact hmk
  have hob := made_own (w.alloc (.cells (bv f).toArray 27)) (n + 3) Z hZ (by omega)
  rw [World.size_alloc] at hob
  have hb1 := hb0.alloc hb0.size (.cells Z 27)
  have hA1 := h.below hb1
  have hbx1 := hbx.alloc (.cells Z 27)
  have hu := idTy
  have hsz := idSz hf
  go_enter Try.func14, Try.ntmps14
  go_wp2_with (at_builtin; refine wpList_appfitI rfl (.tmp 12) (.tmp 13) rfl (w.heap.size + 1) (w.heap.size + 1) (n + 3) rfl hob A n c L rfl hA1 (by omega) ?_)
  intro w1 ho1 hg1
  have hB1 := hb1.grown hg1 (by simp; omega) (fun k hk => by cases hk; omega)
  have hF := made_fill (f := f) ho1
  have hbx2 : Blk w1 w.heap.size 27 (bv f).toArray := hbx1.grown hg1 (fun e => by injection e with e; omega)
  clear ho1 hg1 hob hb0 hmk hA1 hbx1
  have e1 : ((n : Int) + 3).toNat = n + 3 := by omega
  have e2 : (0 : Int) ≤ (n : Int) + 3 := by omega
  go_wp2
  have hz20 : (bv f).toArray.size = 20 := by rw [bvArr_size, hf.1]
  have hzX : (Try.prog.info? 27).map (·.size) = some (bv f).toArray.size := by rw [hz20]; exact idSize
  go_loopw [7] (fun i wr => ∃ k : Nat, k ≤ 3 ∧ i = .int .i64 ((n : Int) + k) ∧ FillI wr (w.heap.size + 1) n k L f ∧ Blk wr w.heap.size 27 (bv f).toArray ∧ Below w.heap.size w wr) (fun i _ => n + 3 - (intOf i).toNat)
  case atStart => exact ⟨0, by omega, by simp, hF, hbx2, hB1⟩
  case round =>
    obtain ⟨k, hk, rfl, hF, hbk, hb⟩ := hrel
    by_cases h1 : k < 3
    · have hth := hF.room k h1
      have hst := hF.step hf h1
      have hld := run_loadId hbk.range hf
      have hgr := setCells_grown (w.heap.size + 1) (bv f) ((n + k) * 20) wr
      have hB5 := hb.grown hgr hb.size (fun i hi => by cases hi; omega)
      have hbk5 := hbk.grown hgr (fun e => by injection e with e; omega)
      have n1 : ((n : Int) + k).toNat = n + k := by omega
      have n2 : (0 : Int) ≤ (n : Int) + k := by omega
      have n3 : (n : Int) + k < n + 3 := by omega
      go_wp2_with ((with_reducible refine wpList_store_mid rfl 27 (.tmp 31) (.tmp 30) rfl (w.heap.size + 1) ((n + k) * 20) (bv f).toArray ?_ ?_ (by rw [hz20]; exact hth) hzX (bvArr_all f) ?_); rfl; rfl; rw [List.toList_toArray])
      go_roundw
      case rel => exact ⟨k + 1, by omega, by congr 1, hst, hbk5, hB5⟩
      case measure => simp [intOf]; omega
    · have hk3 : k = 3 := by omega
      rw [hk3] at hF
      have n3 : ¬ ((n : Int) + k < n + 3) := by omega
      go_wp2
      go_ret
      exact ⟨w.heap.size + 1, rfl, hF.full, by omega, hb⟩
set_option maxRecDepth 100000 in
set_option maxHeartbeats 1000000 in
theorem keptI_any (g n d : Nat) (A : Option Addr) (L : List IdL) (f : IdL) (w : World) (h : OwnI w g n L f) (h' : RIds w A n L) (hn : n ≤ 1000000) (hf : IsId f) :
    Calls Try.prog 16 #[.slice (some ⟨g, 0, none⟩) n (n + 3), .slice A n d, ida f] w (BoolP true w) := by
  have hb0 : Below w.heap.size w (w.alloc (.cells (bv f).toArray 27)) := (Below.refl _ _).alloc (Nat.le_refl _) _
  have hbx : Blk (w.alloc (.cells (bv f).toArray 27)) w.heap.size 27 (bv f).toArray := Blk.new w _ _
  have hs := plain_any (some ⟨g, 0, none⟩) A n n (n + 3) d L L _ (h.1.below hb0) (h'.below hb0) (by omega) (by omega)
  rw [decide_eq_true rfl] at hs
  have HS := Lib.hid hs
  clear hs
  have e1 : ((n : Int) + 3).toNat = n + 3 := by omega
  have e0 : (0 : Int) ≤ (n : Int) + 3 := by omega
  have e2 : ¬ ((n : Int) + 3 < (n : Int) + 3) := by omega
  have hu := idTy
  have hsz := idSz hf
  have hne : ∀ W, (binOp .neq 27 (ida f) (ida f)).run Try.prog W = .ok (.bool false) W := fun W => by
    have := ida_neq hf hf W
    rwa [show (f != f) = false from by simp] at this
  go_enter Try.func16, Try.ntmps16
  go_wp2_with (go_at_call 19; (with_reducible refine HS.out.mono ?_); rintro e w1 ⟨rfl, hb1⟩)
  have hB1 := below_then hb0 hb0.size hb1
  have hO := h.below hB1
  have hbx1 := hbx.below hb1 hbx.lt
  have r2 := fun k => run_loadId (w := w1.drewN k) hbx1.range hf
  go_loopw [8] (fun i wr => ∃ k q : Nat, k ≤ 3 ∧ i = .int .i64 ((n : Int) + k) ∧ w1.drewN q = wr) (fun i _ => n + 3 - (intOf i).toNat)
  case atStart => exact ⟨0, 0, by omega, by simp, rfl⟩
  case round =>
    obtain ⟨k, q, hk, rfl, rfl⟩ := hrel
    by_cases h1 : k < 3
    · have r1 := fun k' => run_loadId (w := w1.drewN k') (hO.2 k h1) hf
      have n1 : ((n : Int) + k).toNat = n + k := by omega
      have n2 : (0 : Int) ≤ (n : Int) + k := by omega
      have n3 : (n : Int) + k < n + 3 := by omega
      go_wp2
      go_quiet (fail)
      go_wp2
      go_roundw
      case rel => exact ⟨k + 1, q + nq, by omega, by congr 1, by simp⟩
      case measure => simp [intOf]; omega
    · have n3 : ¬ ((n : Int) + k < n + 3) := by omega
      go_wp2
      go_ret
      exact ⟨rfl, below_drewN hB1 q⟩
end Go.Proofs.Ytaaiojeehhbhhaa
