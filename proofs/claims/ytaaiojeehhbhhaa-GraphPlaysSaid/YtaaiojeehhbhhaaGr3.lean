/-
  Parents, Ids; slices.Equal, ContainsFunc on ids.
-/
import Derived.Test.YtaaiojeehhbhhaaGr2
set_option linter.unusedVariables false
set_option linter.unusedSimpArgs false
namespace Go.Proofs.Ytaaiojeehhbhhaa
open Go.RowKit

@[go_sem] theorem ida_guard (op : BinOp) (x y : Operand) (cs ds : Array Value) (w : World) : (eqGuard op 27 x y (.agg cs) (.agg ds)).run Try.prog w = .ok () w := run_eqGuard_agg w op 27 x y _ _ idGuard
theorem ida_eql {xs ys : List Int} (hx : IsId xs) (hy : IsId ys) (w : World) : (binOp .eql 27 (ida xs) (ida ys)).run Try.prog w = .ok (.bool (xs == ys)) w := idv_eql hx hy w
theorem ida_neq {xs ys : List Int} (hx : IsId xs) (hy : IsId ys) (w : World) : (binOp .neq 27 (ida xs) (ida ys)).run Try.prog w = .ok (.bool (xs != ys)) w := by
  have h := ida_eql hx hy w
  have e1 : (binOp .eql 27 (ida xs) (ida ys)) = (do pure (.bool (← Op.equal 27 (ida xs) (ida ys)))) := rfl
  have e2 : (binOp .neq 27 (ida xs) (ida ys)) = (do pure (.bool (!(← Op.equal 27 (ida xs) (ida ys))))) := rfl
  rw [e1] at h
  rw [e2]
  simp only [Sem.run_bind, Sem.run_pure] at h ⊢
  cases hq : (Op.equal 27 (ida xs) (ida ys)).run Try.prog w with
  | ok b w' =>
    rw [hq] at h
    simp only [Result.andThen_ok, Result.ok.injEq, Value.bool.injEq] at h
    obtain ⟨h1, h2⟩ := h
    simp only [Result.andThen_ok, h1, h2]
    rfl
  | halt h' w' => rw [hq] at h; cases h
/-- a load of an id, for a fact of the proof to answer. -/
noncomputable def loadId (p : Addr) : Sem Value := loadVar 27 p
@[go_sem ↓ high] theorem loadVar_id (p : Addr) : loadVar 27 p = loadId p := rfl
theorem run_loadId {w : World} {b o : Nat} {xs : List Int} (h : w.rangeAt b o (bv xs)) (hx : IsId xs) : (loadId ⟨b, o, none⟩).run Try.prog w = .ok (ida xs) w :=
  run_loadVar_mid w b o _ (bv xs) _ h idTy rfl (idSz hx)
def QuietB (v : Value) (w : World) (e : Ending) (w' : World) : Prop := e = .returned v ∧ ∃ q, w.drewN q = w'
theorem listEq_of {L M : List (List Int)} (hl : L.length = M.length) (h : ∀ i, i < L.length → gid L i = gid M i) : L = M := by
  apply List.ext_getElem hl
  intro i h1 h2
  have := h i h1
  simpa [gid, h1, h2] using this
set_option maxRecDepth 100000 in
set_option maxHeartbeats 1000000 in
theorem eqIds_any (A B : Option Addr) (n m c d : Nat) (L M : List (List Int)) (w : World) (hA : RIds w A n L) (hB : RIds w B m M) (hn : n ≤ 1000000000) (hm : m ≤ 1000000000) :
    Calls Try.prog 31 #[.slice A n c, .slice B m d] w (QuietB (.bool (decide (L = M))) w) := by
  have hl := hA.1
  have hl' := hB.1
  have hu := idTy
  by_cases hnm : n = m
  · subst hnm
    have en : ((n : Int) != n) = false := by simp
    have HD := Lib.hid (show (∀ i, i < n → gid L i = gid M i) → decide (L = M) = true from fun h => decide_eq_true (listEq_of (by rw [hl, hl']) fun i hi => h i (by omega)))
    have HN := Lib.hid (show ∀ i, i < n → gid L i ≠ gid M i → decide (L = M) = false from fun i hi hne => decide_eq_false fun e => hne (by rw [e]))
    have HA := Lib.hid (show ∀ j, j < n → IsId (gid L j) ∧ IsId (gid M j) from fun j hj => ⟨hA.2.1.at_ (by omega), hB.2.1.at_ (by omega)⟩)
    generalize decide (L = M) = r at *
    clear hl hl'
    go_enter Try.func31, Try.ntmps31
    go_wp2
    go_loopw [13] (fun i wr => ∃ j : Nat, j ≤ n ∧ i = .int .i64 j ∧ (∀ i, i < j → gid L i = gid M i) ∧ ∃ q, w.drewN q = wr) (fun i _ => n - (intOf i).toNat)
    case atStart => exact ⟨0, by omega, rfl, fun i hi => absurd hi (by omega), 0, rfl⟩
    case round =>
      obtain ⟨j, hj, rfl, hall, q, rfl⟩ := hrel
      have HALL := Lib.hid hall
      clear hall
      by_cases h1 : j < n
      · obtain ⟨b, o, rfl, hc⟩ := hA.2.2 (by omega)
        obtain ⟨b', o', rfl, hc'⟩ := hB.2.2 (by omega)
        obtain ⟨i1, i2⟩ := HA.out j h1
        have r1 := fun k => run_loadId (w := w.drewN k) (hc j h1) i1
        have r2 := fun k => run_loadId (w := w.drewN k) (hc' j h1) i2
        have sz1 := idSz i1
        have sz2 := idSz i2
        have j0 : (0 : Int) ≤ (j : Int) := by omega
        have j1 : (j : Int) < (n : Int) := by omega
        have hne := fun W => ida_neq i1 i2 W
        clear hc hc'
        by_cases h3 : gid L j = gid M j
        · have hb : (gid L j != gid M j) = false := by simp [h3]
          rw [hb] at hne
          have H3 := Lib.hid (show ∀ i, i = j → gid L i = gid M i from fun i e => by rw [e]; exact h3)
          clear h3 hb
          generalize gid L j = x at *
          generalize gid M j = y at *
          go_wp2
          go_quiet (fail)
          go_wp2
          go_roundw
          case rel => exact ⟨j + 1, by omega, by go_num, fun i hi => by rcases Nat.lt_or_ge i j with h | h; exact HALL.out i h; exact H3.out i (by omega), q + nq, by simp⟩
          case measure => simp [intOf]; omega
        · have hb : (gid L j != gid M j) = true := by simpa using h3
          have hr := HN.out j h1 h3
          rw [hb] at hne
          subst hr
          clear h3 hb
          generalize gid L j = x at *
          generalize gid M j = y at *
          go_wp2
          go_quiet (fail)
          go_wp2
          go_ret
          exact ⟨rfl, q + nq, by simp⟩
      · have hr := HD.out (fun i hi => HALL.out i (by omega))
        subst hr
        go_wp2
        go_ret
        exact ⟨rfl, q, rfl⟩
  · have en : ((n : Int) != m) = true := by rw [bne_iff_ne]; omega
    have hd : decide (L = M) = false := decide_eq_false fun e => hnm (by rw [← hl, ← hl', e])
    rw [hd]
    go_enter Try.func31, Try.ntmps31
    go_wp2
    go_ret
    exact ⟨rfl, 0, rfl⟩
theorem GrMem.lookF {w : World} {P : Nat → Prop} {g : Nat} {A : Option Addr} {n c mb : Nat} {kv : KV} {G : Gph} (h : GrMem w P g A n c mb kv G) {x : IdL} (hx : IsId x) {v : Value} (hv : Hid ((kvGet kv x).getD (.slice none 0 0) = v)) :
    (Instr.lookup 54 (.map (some mb)) (ida x) false).run Try.prog w = .ok v w := by
  have := h.lookRun hx false
  simp only [Bool.false_eq_true, if_false] at this
  rw [hv.out] at this
  exact this
theorem clone_chain {n : Nat} {L : List (List Int)} {w w1 w' : World} {e : Ending} (hb : Below w.heap.size w w1) (h : NewIds n L w1 e w') : NewIds n L w e w' := by
  obtain ⟨A, c, rfl, ho, hc, hb'⟩ := h
  exact ⟨A, c, rfl, ho.lower hb.size, hc, below_two hb hb'⟩
theorem NewIds.nil {w w' : World} (hb : Below w.heap.size w w') : NewIds 0 [] w (.returned (.slice none 0 0)) w' := ⟨none, 0, rfl, OIds.nil _ _, Nat.le_refl _, hb⟩
theorem parents_nil (x : IdL) (w : World) : Calls Try.prog 20 #[.pointer none, ida x] w (NewIds 0 [] w) := by
  go_enter Try.func20, Try.ntmps20
  go_wp2
  go_ret
  exact NewIds.nil ((Below.refl _ _).alloc (Nat.le_refl _) _)
theorem ids_nil (w : World) : Calls Try.prog 22 #[.pointer none] w (NewIds 0 [] w) := by
  go_enter Try.func22, Try.ntmps22
  go_wp2
  go_ret
  exact NewIds.nil (Below.refl _ _)
theorem GInv.nG {G : Gph} (h : GInv G) : (ids G).length ≤ 5000 := by rw [ids_length]; exact h.len
set_option maxHeartbeats 1000000 in
theorem ids_any (P : Nat → Prop) (g : Nat) (G : Gph) (w : World) (h : GrAt w P g G) (hG : GInv G) :
    Calls Try.prog 22 #[.pointer (some ⟨g, 0, none⟩)] w (NewIds (ids G).length (ids G) w) := by
  obtain ⟨A, n, c, mb, kv, h⟩ := h
  have c0 : w.cell? ⟨g, 0, none⟩ = some (.slice A n c) := h.blk.cell 0
  have hn : n ≤ 5000 := by rw [← h.own.2.2]; exact hG.nG
  have hc := cloneIds_any A n c (ids G) w h.own.reads (by omega)
  rw [h.own.2.2]
  unfold NewIds at hc
  have HC := Lib.hid hc
  clear hc
  go_enter Try.func22, Try.ntmps22
  go_wp2_with (go_at_call 33; (with_reducible refine HC.out.mono ?_); rintro e w1 ⟨A1, c1, rfl, ho1, hc1, hb1⟩)
  go_ret
  exact ⟨A1, c1, rfl, ho1, hc1, hb1⟩
set_option maxRecDepth 100000 in
set_option maxHeartbeats 1000000 in
theorem parents_any (P : Nat → Prop) (g : Nat) (G : Gph) (x : IdL) (w : World) (h : GrAt w P g G) (hx : IsId x) (hp : (psOf G x).length ≤ 1000000) :
    Calls Try.prog 20 #[.pointer (some ⟨g, 0, none⟩), ida x] w (NewIds (psOf G x).length (psOf G x) w) := by
  obtain ⟨A, n, c, mb, kv, h⟩ := h
  have hu := idTy
  have hsz := idSz hx
  have hb0 : Below w.heap.size w (w.alloc (.cells (bv x).toArray 27)).drew := below_drewN ((Below.refl _ _).alloc (Nat.le_refl _) _) 1
  have h1 := h.below hb0
  have hr : (w.alloc (.cells (bv x).toArray 27)).drew.rangeAt w.heap.size 0 (bv x) := ((Blk.new w 27 (bv x).toArray).drew).range
  have c1 : (w.alloc (.cells (bv x).toArray 27)).drew.cell? ⟨g, 1, none⟩ = some (.map (some mb)) := h1.blk.cell 1
  have hlk := h1.lookRun hx false
  simp only [Bool.false_eq_true, if_false] at hlk
  obtain ⟨A', k', c', hv, hkc, hra, _⟩ := h1.get x
  rw [hv] at hlk
  have hcl := cloneIds_any A' k' c' (psOf G x) _ hra (by rw [← hra.1]; omega)
  rw [hra.1]
  unfold NewIds at hcl
  have HC := Lib.hid hcl
  have hv0 := Lib.hid hv
  clear hv hcl hp
  go_enter Try.func20, Try.ntmps20
  go_wp2
  go_region_held3 (fun w' => w'.cell? ⟨g, 1, none⟩ = some (.map (some mb)) ∧ w'.rangeAt w.heap.size 0 (bv x) ∧ (Instr.lookup 54 (.map (some mb)) (ida x) false).run Try.prog w' = .ok (.slice A' k' c') w')
    (first | exact ⟨c1, hr, hlk⟩ | exact ⟨d1, e1, f1⟩)
    (first | (go_at_call 33; (with_reducible refine HC.out.mono ?_); rintro e w1 ⟨A1, k1, rfl, ho1, hk1, hb1⟩; have d1 := cell_later hb1 c1; have e1 : w1.rangeAt w.heap.size 0 (bv x) := fun j v hj => cell_later hb1 (hr j v hj); have h2 := h1.below hb1; have f1 : (Instr.lookup 54 (.map (some mb)) (ida x) false).run Try.prog w1 = .ok (.slice A' k' c') w1 := GrMem.lookF h2 hx hv0))
  go_wp2
  go_ret
  exact clone_chain hb0 ⟨A1, k1, rfl, ho1, hk1, hb1⟩
end Go.Proofs.Ytaaiojeehhbhhaa
