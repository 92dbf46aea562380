/-
  Words for the log: loads of ids, the zero id.
-/
import Derived.Test.YtgokompppadogaaGrI
import Derived.Test.YtgokompppadogaaSha6
import Derived.Test.YtgokompppadogaaDlt3
set_option linter.unusedVariables false
set_option linter.unusedSimpArgs false
namespace Go.Proofs.Ytgokompppadogaa
open Go.RowKit

abbrev IdL := List Int
def zeroL : IdL := List.replicate 20 0
theorem zeroL_id : IsId zeroL := ⟨rfl, Byts.rep (by omega) (by omega) 20⟩
@[go_sem] theorem ida_cells (xs : List Int) : (Value.agg (bv xs).toArray).cells = (bv xs).toArray := rfl
@[go_sem] theorem ida_guard (op : BinOp) (x y : Operand) (cs ds : Array Value) (w : World) : (eqGuard op 27 x y (.agg cs) (.agg ds)).run Try.prog w = .ok () w := run_eqGuard_agg w op 27 x y _ _ idGuard
theorem ida_eql {xs ys : List Int} (hx : IsId xs) (hy : IsId ys) (w : World) : (binOp .eql 27 (ida xs) (ida ys)).run Try.prog w = .ok (.bool (xs == ys)) w := idv_eql hx hy w
theorem ida_neq {xs ys : List Int} (hx : IsId xs) (hy : IsId ys) (w : World) : (binOp .neq 27 (ida xs) (ida ys)).run Try.prog w = .ok (.bool (xs != ys)) w := by
  have h := ida_eql hx hy w
  have e1 : (binOp .eql 27 (ida xs) (ida ys)) = (do pure (.bool (← Op.equal 27 (ida xs) (ida ys)))) := rfl
  have e2 : (binOp .neq 27 (ida xs) (ida ys)) = (do pure (.bool (!(← Op.equal 27 (ida xs) (ida ys))))) := rfl
  rw [e1] at h
  rw [e2]
  simp only [Sem.run_bind, Sem.run_pure] at h ⊢
  cases hq : (Op.equal 27 (ida xs) (ida ys)).run Try.prog w with
  | ok b w' =>
    rw [hq] at h
    simp only [Result.andThen_ok, Result.ok.injEq, Value.bool.injEq] at h
    obtain ⟨h1, h2⟩ := h
    simp only [Result.andThen_ok, h1, h2]
    rfl
  | halt h' w' => rw [hq] at h; cases h
/-- a load of an id, for a fact of the proof to answer. -/
noncomputable def loadId (p : Addr) : Sem Value := loadVar 27 p
@[go_sem ↓ high] theorem loadVar_id (p : Addr) : loadVar 27 p = loadId p := rfl
theorem run_loadId {w : World} {b o : Nat} {xs : List Int} (h : w.rangeAt b o (bv xs)) (hx : IsId xs) : (loadId ⟨b, o, none⟩).run Try.prog w = .ok (ida xs) w :=
  run_loadVar_mid w b o _ (bv xs) _ h idTy rfl (idSz hx)
/-- the type of an id under a name that nothing sees through: a load of an id is then taken first as a short one is. -/
noncomputable def tyI : TypeId := Classical.choose (⟨27, rfl⟩ : ∃ t : TypeId, t = 27)
theorem tyI_eq : tyI = 27 := Classical.choose_spec (⟨27, rfl⟩ : ∃ t : TypeId, t = 27)
@[go_sem ↓ high] theorem loadVar_I (p : Addr) : loadVar tyI p = loadId p := by rw [tyI_eq]; rfl
theorem ldI_eq (t : Tmp) : Op.load 27 (.tmp t) = Op.load tyI (.tmp t) := by rw [tyI_eq]
/-- an id's cells, all zero, written out. -/
abbrev zlit : Array Value := #[.int .u8 0, .int .u8 0, .int .u8 0, .int .u8 0, .int .u8 0, .int .u8 0, .int .u8 0, .int .u8 0, .int .u8 0, .int .u8 0, .int .u8 0, .int .u8 0, .int .u8 0, .int .u8 0, .int .u8 0, .int .u8 0, .int .u8 0, .int .u8 0, .int .u8 0, .int .u8 0]
theorem ida_zero : ida zeroL = .agg zlit := rfl
theorem idz_neq {xs : List Int} (hx : IsId xs) (w : World) : (binOp .neq 27 (ida xs) (.agg zlit)).run Try.prog w = .ok (.bool (xs != zeroL)) w := ida_neq hx zeroL_id w
theorem idz_eql {xs : List Int} (hx : IsId xs) (w : World) : (binOp .eql 27 (ida xs) (.agg zlit)).run Try.prog w = .ok (.bool (xs == zeroL)) w := ida_eql hx zeroL_id w
theorem zid_eq : zid = (bv zeroL).toArray := rfl
theorem Blk.readsId {w : World} {g : Nat} {t : TypeId} {xs : List Int} (h : Blk w g t (bv xs).toArray) (hx : IsId xs) : RB w (some ⟨g, 0, none⟩) 20 xs := by
  have hl := hx.1
  refine ⟨hl, hx.2, fun _ => ⟨_, rfl, fun j hj => ?_⟩⟩
  rw [add_plain, Nat.zero_add, h.idCell j (by omega)]
def IdP (x : IdL) (w : World) (e : Ending) (w' : World) : Prop := e = .returned (ida x) ∧ Below w.heap.size w w'
/-- the node of a text with parents. -/
def nodeV (t p1 p2 : List Int) : IdL := sha1 (p1 ++ p2 ++ t)
theorem nodeV_id (t p1 p2 : List Int) : IsId (nodeV t p1 p2) := isId_sha _
theorem cutId (w : World) (g : Nat) : (Instr.sliceAt 27 (.pointer (some ⟨g, 0, none⟩)) none none none).run Try.prog w = .ok (.slice (some ⟨g, 0, none⟩) 20 20) w := by kernel_rfl
/-- the world behind Node's boxes. -/
abbrev ndW (p1 p2 : IdL) (vs : Array Value) (w : World) : World := ((((w.alloc (.cells (bv p1).toArray 27)).alloc (.cells (bv p2).toArray 27)).alloc (.cells zid 27)).alloc (.cells vs 29)).drew
theorem ndW_below (p1 p2 : IdL) (vs : Array Value) (w : World) : Below w.heap.size w (ndW p1 p2 vs w) := below_drewN (((((Below.refl _ _).alloc (Nat.le_refl _) _).alloc (by simp) _).alloc (by simp; omega) _).alloc (by simp; omega) _) 1
theorem ndW_1 (p1 p2 : IdL) (vs : Array Value) (w : World) : Blk (ndW p1 p2 vs w) w.heap.size 27 (bv p1).toArray := ((((Blk.new w _ _).alloc _).alloc _).alloc _).drew
theorem ndW_2 (p1 p2 : IdL) (vs : Array Value) (w : World) : Blk (ndW p1 p2 vs w) (w.heap.size + 1) 27 (bv p2).toArray := by
  have := Blk.new (w.alloc (.cells (bv p1).toArray 27)) 27 (bv p2).toArray
  rw [World.size_alloc] at this
  exact ((this.alloc _).alloc _).drew
theorem ndW_3 (p1 p2 : IdL) (vs : Array Value) (w : World) : Blk (ndW p1 p2 vs w) (w.heap.size + 1 + 1) 27 zid := by
  have := Blk.new ((w.alloc (.cells (bv p1).toArray 27)).alloc (.cells (bv p2).toArray 27)) 27 zid
  rw [World.size_alloc, World.size_alloc] at this
  exact (this.alloc _).drew
theorem ndW_4 (p1 p2 : IdL) (vs : Array Value) (w : World) : Blk (ndW p1 p2 vs w) (w.heap.size + 1 + 1 + 1) 29 vs := by
  have := Blk.new (((w.alloc (.cells (bv p1).toArray 27)).alloc (.cells (bv p2).toArray 27)).alloc (.cells zid 27)) 29 vs
  rw [World.size_alloc, World.size_alloc, World.size_alloc] at this
  exact this.drew
set_option maxRecDepth 100000 in
set_option maxHeartbeats 2000000 in
theorem node_any (A : Option Addr) (n c : Nat) (t p1 p2 : List Int) (w : World) (hA : RB w A n t) (hnc : n ≤ c) (hn : n ≤ 100000) (h1 : IsId p1) (h2 : IsId p2) :
    Calls Try.prog 19 #[.slice A n c, ida p1, ida p2] w (IdP (nodeV t p1 p2) w) := by
  have hcut := cutId
  have hX := nodeV_id t p1 p2
  have hb1 := ndW_below p1 p2 #[.slice (some ⟨w.heap.size, 0, none⟩) 20 20, .slice (some ⟨w.heap.size + 1, 0, none⟩) 20 20, .slice A n c] w
  have hsum : ∀ W, W = ndW p1 p2 #[.slice (some ⟨w.heap.size, 0, none⟩) 20 20, .slice (some ⟨w.heap.size + 1, 0, none⟩) 20 20, .slice A n c] w → Calls Try.prog 37 #[.slice (some ⟨w.heap.size + 1 + 1 + 1, 0, none⟩) 3 3] W (fun e w' => e = .returned (ida (nodeV t p1 p2)) ∧ Below w.heap.size w w' ∧ Blk w' (w.heap.size + 1 + 1) 27 zid) := fun W hW => by
    subst hW
    have := sum_any (some ⟨w.heap.size + 1 + 1 + 1, 0, none⟩) 3 3 [p1, p2, t] _ (RBs.three' (ndW_4 p1 p2 _ w) ((ndW_1 p1 p2 _ w).readsId h1) (Nat.le_refl _) ((ndW_2 p1 p2 _ w).readsId h2) (Nat.le_refl _) (hA.below hb1) hnc) (Nat.le_refl _) (by omega) (by
      have e1 := h1.1
      have e2 := h2.1
      have e3 := hA.len
      simp [e1, e2, e3]
      omega)
    rw [show [p1, p2, t].flatten = p1 ++ p2 ++ t from by simp] at this
    refine this.mono ?_
    rintro e w2 ⟨rfl, hb2⟩
    exact ⟨rfl, below_then hb1 hb1.size hb2, (ndW_3 p1 p2 _ w).below hb2 (ndW_3 p1 p2 _ w).lt⟩
  generalize nodeV t p1 p2 = X at *
  have hzX : (Try.prog.info? 27).map (·.size) = some (bv X).toArray.size := by rw [bvArr_size, hX.1]; exact idSize
  have hsX : zid.size = (bv X).toArray.size := by rw [bvArr_size, hX.1]; rfl
  have hu := idTy
  go_enter Try.func19, Try.ntmps19
  go_wp2
  refine still_tail 3 (by kernel_rfl) (by kernel_rfl) ?_
  simp only [List.take_succ_cons, List.take_zero, List.drop_succ_cons, List.drop_zero]
  repeat still_step
  refine wpStill_nil ?_
  go_wp2_with (first
    | (go_at_call 37; refine (hsum _ rfl).mono ?_; rintro e w2 ⟨rfl, hb2, hB3⟩)
    | ((with_reducible refine st_row 27 6 11 (w.heap.size + 1 + 1) 27 (bv X).toArray zid ?_ ?_ ?_ hzX hsX (bvArr_all X) ?_); rfl; rfl; exact hB3; intro w4 hb4 hg4 hsz4))
  refine ret_row 6 27 (w.heap.size + 1 + 1) 27 (bv X).toArray _ Try.results19 rfl hb4 idTy rfl hzX rfl ?_
  exact ⟨rfl, hb2.grown hg4 hb2.size (fun k hk => by cases hk; omega)⟩
end Go.Proofs.Ytgokompppadogaa
