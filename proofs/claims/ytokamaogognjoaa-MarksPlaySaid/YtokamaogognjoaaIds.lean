/-
  Ids: arrays of twenty bytes, as values.
-/
import Derived.Test.YtokamaogognjoaaMem
import Derived.Test.YtokamaogognjoaaBytesB
import Derived.Stop.BytesEq
set_option linter.unusedVariables false
set_option linter.unusedSimpArgs false
namespace Go.Proofs.Ytokamaogognjoaa
open Go.RowKit

/-- an id, as a value. -/
def idv (xs : List Int) : Value := .agg (bv xs).toArray
def zid : Array Value := (bv (List.replicate 20 0)).toArray
set_option maxRecDepth 100000 in
@[go_sem high] theorem zeroId (w : World) : (zeroValue 25).run Try.prog w = .ok (.agg zid) w := by kernel_rfl
set_option maxRecDepth 100000 in
theorem zid_cells : (Value.agg zid).cells = zid := rfl
/-- a list that is an id. -/
def IsId (xs : List Int) : Prop := xs.length = 20 ∧ Byts xs
set_option maxRecDepth 100000 in
theorem idTy : Try.prog.underlying 25 = some (.array 20 5) := by kernel_rfl
set_option maxRecDepth 100000 in
theorem size5' (w : World) : (sizeOf 5).run Try.prog w = .ok 1 w := by kernel_rfl
def u8s (xs : List Int) : List UInt8 := xs.map fun x => UInt8.ofNat x.toNat
set_option maxRecDepth 100000 in
theorem u8s_cell {xs : List Int} (h : Byts xs) : (u8s xs).map Extern.Stop.cell = bv xs := by
  unfold u8s bv
  rw [List.map_map]
  refine List.map_congr_left fun x hx => ?_
  have hb := h x hx
  simp only [Function.comp, Extern.Stop.cell]
  rw [UInt8.toNat_ofNat_of_lt' (by simp [UInt8.size]; omega)]
  congr 1
  exact Int.toNat_of_nonneg hb.1
set_option maxRecDepth 100000 in
theorem u8s_inj {xs ys : List Int} (hx : Byts xs) (hy : Byts ys) (h : u8s xs = u8s ys) : xs = ys := by
  have := congrArg (List.map Extern.Stop.cell) h
  rw [u8s_cell hx, u8s_cell hy] at this
  exact bv_inj this
set_option maxRecDepth 100000 in
theorem idv_eql {xs ys : List Int} (hx : IsId xs) (hy : IsId ys) (w : World) : (binOp .eql 25 (idv xs) (idv ys)).run Try.prog w = .ok (.bool (xs == ys)) w := by
  have h := run_eql_bytes w 25 5 20 idTy Try.underlying5 size5' (u8s xs) (u8s ys) (by simp [u8s, hx.1]) (by simp [u8s, hy.1])
  rw [u8s_cell hx.2, u8s_cell hy.2] at h
  unfold idv
  rw [h]
  have hb : (u8s xs == u8s ys) = (xs == ys) := by
    rw [Bool.eq_iff_iff, beq_iff_eq, beq_iff_eq]
    exact ⟨u8s_inj hx.2 hy.2, fun e => by rw [e]⟩
  rw [hb]
set_option maxRecDepth 100000 in
theorem idGuard : Try.prog.eqGuardType Try.prog.depth 25 = false := by kernel_rfl
set_option maxRecDepth 100000 in
@[go_sem high] theorem idv_guard (op : BinOp) (x y : Operand) (xs ys : List Int) (w : World) : (eqGuard op 25 x y (idv xs) (idv ys)).run Try.prog w = .ok () w := run_eqGuard_agg w op 25 x y _ _ idGuard
set_option maxRecDepth 100000 in
@[go_sem high] theorem idxId (w : World) (g : Nat) (i : Int) (h0 : 0 ≤ i) (h1 : i < 20) : (Instr.indexAt 25 (.pointer (some ⟨g, 0, none⟩)) (.int .i64 i)).run Try.prog w = .ok (.pointer (some ⟨g, i.toNat, none⟩)) w := by
  have hs := size5' w
  simp [Instr.indexAt, asIntOf, run_underlying idTy, Instr.sureAddr, h0, h1, hs, add_plain]
set_option maxRecDepth 100000 in
theorem Blk.idCell {w : World} {g : Nat} {t : TypeId} {xs : List Int} (h : Blk w g t (bv xs).toArray) (i : Nat) (hi : i < xs.length) : w.cell? ⟨g, i, none⟩ = some (.int .u8 (gi xs i)) := by
  rw [h.cell, List.getElem?_toArray]
  exact bv_some hi
set_option maxRecDepth 100000 in
theorem idSize : (Try.prog.info? 25).map (·.size) = some 20 := by kernel_rfl
set_option maxRecDepth 100000 in
theorem bvArr_size (xs : List Int) : (bv xs).toArray.size = xs.length := by simp [bv]
set_option maxRecDepth 100000 in
theorem bvArr_all (xs : List Int) : (bv xs).toArray.all (·.oneCell') = true := by simp [bv, Value.oneCell']
end Go.Proofs.Ytokamaogognjoaa
