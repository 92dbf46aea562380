/-
  Maps whose keys are ids: the block known whole; look-up, store, at the operation.
-/
import Derived.Test.YtokamaogognjoaaIds
import Derived.Maps.OwnSet
import Derived.Maps.RangeRun
import Derived.DeepKeys4
set_option linter.unusedVariables false
set_option linter.unusedSimpArgs false
namespace Go.Proofs.Ytokamaogognjoaa
open Go.RowKit
open Go.ChangeMaps (setBlock heap_setBlock_same heap_setBlock_other)

set_option maxRecDepth 100000 in
theorem idLaid : laidOutB Try.prog = true := by kernel_rfl
set_option maxRecDepth 100000 in
theorem idRow : (25 : TypeId) < Try.prog.types.size := of_decide_eq_true (by kernel_rfl)
set_option maxRecDepth 100000 in
theorem idKeyed : Go.Maps.Keyed Try.prog 25 := Go.Maps.Keyed.of_law (deep_law_laid idLaid (m := 2) (by omega) idRow (by kernel_rfl) (by rw [idTy]))
set_option maxRecDepth 100000 in
theorem mapM_some {α β : Type} (f : α → Option β) : ∀ l : List α, (∀ x ∈ l, ∃ y, f x = some y) → ∃ ys, l.mapM f = some ys
  | [], _ => ⟨[], rfl⟩
  | x :: l, h => by
    obtain ⟨y, hy⟩ := h x (by simp)
    obtain ⟨ys, hys⟩ := mapM_some f l fun z hz => h z (by simp [hz])
    exact ⟨y :: ys, by simp [List.mapM_cons, hy, hys]⟩
set_option maxRecDepth 100000 in
theorem keyOf_id {xs : List Int} (h : IsId xs) : ∃ l, keyOf Try.prog 25 (idv xs) = some l := by
  have h1 : Try.prog.keyType 25 = true := by kernel_rfl
  have h2 : Try.prog.cellsOf 25 = 20 := by kernel_rfl
  have h3 : Try.prog.cellsOf 5 = 1 := by kernel_rfl
  have h4 : (idv xs).formed Try.prog 25 = true := by simp [idv, Value.formed, idTy, h2, bv, h.1]
  have h6 : (Try.prog.keyLits (Try.prog.types.size + 1) 25 (idv xs).cells.toList) ≠ none := by
    obtain ⟨M, hM⟩ : ∃ M, Try.prog.types.size = M + 1 := ⟨Try.prog.types.size - 1, (Nat.succ_pred_eq_of_pos (Nat.lt_of_le_of_lt (Nat.zero_le _) idRow)).symm⟩
    rw [hM]
    have h5 : (idv xs).cells.toList = bv xs := by simp [idv, Value.cells]
    rw [h5]
    obtain ⟨ys, hys⟩ := mapM_some (fun i => Try.prog.keyLits (M + 1) 5 (((bv xs).drop (i * 1)).take 1)) (List.range 20) fun i hi => by
      have hi' : i < 20 := by simpa using hi
      have hl := h.1
      have hc : ((bv xs).drop (i * 1)).take 1 = [.int .u8 (gi xs i)] := by
        rw [Nat.mul_one, List.take_one, List.head?_drop, bv_some (by omega)]
        rfl
      have hg := h.2.gi i
      have hwf : (Lit.int .u8 (gi xs i)).wf = true := by
        simp [Lit.wf, IntKind.min, IntKind.max, IntKind.signed, IntKind.bits]
        omega
      exact ⟨[.int .u8 (gi xs i)], by
        rw [hc]
        unfold Program.keyLits
        rw [Try.underlying5]
        simp [hwf]⟩
    unfold Program.keyLits
    rw [idTy]
    simp only [bv_length, h.1, h2, h3, if_true]
    rw [hys]
    simp
  unfold keyOf
  rw [idTy]
  simp only [h1, h4, Bool.and_self, if_true]
  cases hk : Try.prog.keyLits (Try.prog.types.size + 1) 25 (idv xs).cells.toList with
  | none => exact absurd hk h6
  | some ls => exact ⟨_, rfl⟩
set_option maxRecDepth 100000 in
theorem idv_inj {xs ys : List Int} (h : idv xs = idv ys) : xs = ys := by
  unfold idv at h
  injection h with h
  exact bv_inj (by simpa using h)

/-- keys and values, in the order in which they came. -/
abbrev KV := List (List Int × Value)
def ents : Nat → KV → List MapEntry
  | _, [] => []
  | i, p :: r => ⟨idv p.1, p.2, i⟩ :: ents (i + 1) r
set_option maxRecDepth 100000 in
theorem ents_get (i : Nat) (kv : KV) (j : Nat) : (ents i kv)[j]? = (kv[j]?).map fun p => ⟨idv p.1, p.2, i + j⟩ := by
  induction kv generalizing i j with
  | nil => simp [ents]
  | cons p r ih =>
    cases j with
    | zero => simp [ents]
    | succ j => simp only [ents, List.getElem?_cons_succ, ih]; rw [show i + 1 + j = i + (j + 1) from by omega]
set_option maxRecDepth 100000 in
theorem ents_length (i : Nat) (kv : KV) : (ents i kv).length = kv.length := by
  induction kv generalizing i with
  | nil => rfl
  | cons p r ih => simp [ents, ih]
set_option maxRecDepth 100000 in
theorem ents_mem {i : Nat} {kv : KV} {e : MapEntry} (h : e ∈ ents i kv) : ∃ j p, kv[j]? = some p ∧ e = ⟨idv p.1, p.2, i + j⟩ := by
  obtain ⟨j, hj⟩ := List.mem_iff_getElem?.1 h
  rw [ents_get] at hj
  cases hp : kv[j]? with
  | none => rw [hp] at hj; cases hj
  | some p => rw [hp] at hj; exact ⟨j, p, hp, by simpa using hj.symm⟩
set_option maxRecDepth 100000 in
theorem ents_snoc (i : Nat) (kv : KV) (p : List Int × Value) : ents i (kv ++ [p]) = ents i kv ++ [⟨idv p.1, p.2, i + kv.length⟩] := by
  induction kv generalizing i with
  | nil => simp [ents]
  | cons q r ih => simp only [List.cons_append, ents, ih, List.length_cons]; rw [show i + 1 + r.length = i + (r.length + 1) from by omega]
def kvGet (kv : KV) (k : List Int) : Option Value := (kv.find? fun p => p.1 == k).map Prod.snd
def kvHas (kv : KV) (k : List Int) : Bool := (kvGet kv k).isSome
def kvSet (kv : KV) (k : List Int) (v : Value) : KV := if kvHas kv k then kv.map fun p => if p.1 = k then (k, v) else p else kv ++ [(k, v)]
set_option maxRecDepth 100000 in
theorem kvGet_none {kv : KV} {k : List Int} (h : ∀ p ∈ kv, p.1 ≠ k) : kvGet kv k = none := by
  unfold kvGet
  rw [List.find?_eq_none.2 fun p hp => by simpa using h p hp]
  rfl
set_option maxRecDepth 100000 in
theorem kv_key_inj {kv : KV} (hn : (kv.map Prod.fst).Nodup) {i j : Nat} {p q : List Int × Value} (hp : kv[i]? = some p) (hq : kv[j]? = some q) (h : p.1 = q.1) : i = j := by
  have h1 : (kv.map Prod.fst)[i]? = some p.1 := by rw [List.getElem?_map, hp]; rfl
  have h2 : (kv.map Prod.fst)[j]? = some q.1 := by rw [List.getElem?_map, hq]; rfl
  have hi := (List.getElem?_eq_some_iff.1 h1).1
  exact (List.getElem?_inj hi hn).1 (by rw [h1, h2, h])
set_option maxRecDepth 100000 in
theorem kvGet_some {kv : KV} (hn : (kv.map Prod.fst).Nodup) {j : Nat} {p : List Int × Value} (hj : kv[j]? = some p) : kvGet kv p.1 = some p.2 := by
  unfold kvGet
  cases hf : kv.find? fun q => q.1 == p.1 with
  | none => exact absurd (List.find?_eq_none.1 hf p (List.mem_of_getElem? hj)) (by simp)
  | some q =>
    have hq := List.find?_some hf
    have hm := List.mem_of_find?_eq_some hf
    obtain ⟨i, hi⟩ := List.mem_iff_getElem?.1 hm
    obtain rfl := kv_key_inj hn hi hj (by simpa using hq)
    rw [hi] at hj
    injection hj with hj
    subst hj
    rfl
set_option maxRecDepth 100000 in
theorem kvHas_iff {kv : KV} {k : List Int} : kvHas kv k = true ↔ ∃ p ∈ kv, p.1 = k := by
  unfold kvHas kvGet
  cases hf : kv.find? fun q => q.1 == k with
  | none =>
    have := List.find?_eq_none.1 hf
    simp only [Option.map_none, Option.isSome_none, Bool.false_eq_true, false_iff, not_exists, not_and]
    intro p hp
    simpa using this p hp
  | some q =>
    have hq := List.find?_some hf
    have hm := List.mem_of_find?_eq_some hf
    simp only [Option.map_some, Option.isSome_some, true_iff]
    exact ⟨q, hm, by simpa using hq⟩
set_option maxRecDepth 100000 in
theorem kvSet_get (kv : KV) (hn : (kv.map Prod.fst).Nodup) (k : List Int) (v : Value) {j : Nat} {p : List Int × Value} (hj : kv[j]? = some p) (hp : p.1 = k) (i : Nat) : (kvSet kv k v)[i]? = if i = j then some (k, v) else kv[i]? := by
  have hh : kvHas kv k = true := kvHas_iff.2 ⟨p, List.mem_of_getElem? hj, hp⟩
  unfold kvSet
  rw [if_pos hh, List.getElem?_map]
  by_cases e : i = j
  · subst e
    rw [if_pos rfl, hj]
    simp [hp]
  · rw [if_neg e]
    cases hi : kv[i]? with
    | none => rfl
    | some q =>
      have : q.1 ≠ k := fun hq => e (kv_key_inj hn hi hj (by rw [hq, hp]))
      simp [this]
set_option maxRecDepth 100000 in
theorem kvSet_nodup {kv : KV} (hn : (kv.map Prod.fst).Nodup) (k : List Int) (v : Value) : ((kvSet kv k v).map Prod.fst).Nodup := by
  unfold kvSet
  by_cases hh : kvHas kv k = true
  · rw [if_pos hh, List.map_map]
    have : (kv.map (Prod.fst ∘ fun p => if p.1 = k then (k, v) else p)) = kv.map Prod.fst := by
      refine List.map_congr_left fun p hp => ?_
      by_cases e : p.1 = k <;> simp [e]
    rw [this]
    exact hn
  · rw [if_neg hh, List.map_append]
    refine List.nodup_append.2 ⟨hn, by simp, fun x hx y hy e => hh (kvHas_iff.2 ?_)⟩
    simp at hy
    subst hy
    subst e
    obtain ⟨p, hp, hpx⟩ := List.mem_map.1 hx
    exact ⟨p, hp, hpx⟩
set_option maxRecDepth 100000 in
theorem kvSet_length (kv : KV) (k : List Int) (v : Value) : (kvSet kv k v).length = if kvHas kv k then kv.length else kv.length + 1 := by
  unfold kvSet
  split <;> simp
set_option maxRecDepth 100000 in
theorem kvSet_mem {kv : KV} {k : List Int} {v : Value} {p : List Int × Value} (h : p ∈ kvSet kv k v) : p ∈ kv ∨ p = (k, v) := by
  unfold kvSet at h
  split at h
  · obtain ⟨q, hq, rfl⟩ := List.mem_map.1 h
    split
    · exact .inr rfl
    · exact .inl hq
  · rcases List.mem_append.1 h with h | h
    · exact .inl h
    · exact .inr (by simpa using h)

def mobj (kv : KV) : Obj := .map (ents 0 kv).toArray kv.length
/-- a map of ids, known whole. -/
structure IMap (w : World) (g : Nat) (kv : KV) : Prop where
  heap : w.heap[g]? = some (mobj kv)
  ids : ∀ p ∈ kv, IsId p.1
  nd : (kv.map Prod.fst).Nodup
section
variable {w w' : World} {g : Nat} {kv : KV}
set_option maxRecDepth 100000 in
theorem IMap.lt (h : IMap w g kv) : g < w.heap.size := (Array.getElem?_eq_some_iff.1 h.heap).1
set_option maxRecDepth 100000 in
theorem IMap.made (w : World) : IMap (w.alloc (.map #[] 0)) w.heap.size [] := ⟨heap_alloc_new w _, fun p hp => by simp at hp, by simp⟩
set_option maxRecDepth 100000 in
theorem IMap.below {B : Nat} (h : IMap w g kv) (hb : Below B w w') (hg : g < B) : IMap w' g kv := ⟨(hb.block g hg).trans h.heap, h.ids, h.nd⟩
set_option maxRecDepth 100000 in
theorem IMap.later (h : IMap w g kv) (hb : Below w.heap.size w w') : IMap w' g kv := h.below hb h.lt
set_option maxRecDepth 100000 in
theorem IMap.grown {row : Option Nat} (h : IMap w g kv) (hb : w.grownBy w' row) (hg : some g ≠ row) : IMap w' g kv := ⟨(hb.block g h.lt hg).trans h.heap, h.ids, h.nd⟩
set_option maxRecDepth 100000 in
theorem IMap.alloc (h : IMap w g kv) (o : Obj) : IMap (w.alloc o) g kv := h.later ((Below.refl _ _).alloc (Nat.le_refl _) o)
set_option maxRecDepth 100000 in
theorem IMap.drewN (h : IMap w g kv) (n : Nat) : IMap (w.drewN n) g kv := ⟨h.heap, h.ids, h.nd⟩
set_option maxRecDepth 100000 in
theorem IMap.keyed (h : IMap w g kv) : ∀ e ∈ ents 0 kv, ∃ l, keyOf Try.prog 25 e.key = some l := fun e he => by
  obtain ⟨j, p, hj, rfl⟩ := ents_mem he
  exact keyOf_id (h.ids p (List.mem_of_getElem? hj))
set_option maxRecDepth 100000 in
theorem IMap.find (h : IMap w g kv) {k : List Int} (hk : IsId k) :
    ((Instr.findKey 25 (idv k) (ents 0 kv)).run Try.prog w = .ok none w ∧ ∀ p ∈ kv, p.1 ≠ k) ∨
    ∃ j p, kv[j]? = some p ∧ p.1 = k ∧ (Instr.findKey 25 (idv k) (ents 0 kv)).run Try.prog w = .ok (some (j, p.2)) w := by
  obtain ⟨l, hl⟩ := keyOf_id hk
  rcases idKeyed.find w hl (ents 0 kv) h.keyed with ⟨h1, h2⟩ | ⟨j, e, h1, h2, h3⟩
  · refine .inl ⟨h1, fun p hp e => ?_⟩
    obtain ⟨j, hj⟩ := List.mem_iff_getElem?.1 hp
    refine h2 ⟨idv p.1, p.2, 0 + j⟩ (List.mem_of_getElem? (i := j) (by rw [ents_get, hj]; rfl)) ?_
    rw [e]
  · rw [ents_get] at h2
    cases hp : kv[j]? with
    | none => rw [hp] at h2; cases h2
    | some p =>
      rw [hp] at h2
      simp at h2
      subst h2
      exact .inr ⟨j, p, hp, idv_inj h3, h1⟩
set_option maxRecDepth 100000 in
theorem IMap.look (h : IMap w g kv) {t e : TypeId} (ht : Try.prog.underlying t = some (.map 25 e)) {z : Value} (hz : (zeroValue e).run Try.prog w = .ok z w) {k : List Int} (hk : IsId k) (c : Bool) :
    (Instr.lookup t (.map (some g)) (idv k) c).run Try.prog w = .ok (if c then .tuple #[(kvGet kv k).getD z, .bool (kvHas kv k)] else (kvGet kv k).getD z) w := by
  obtain ⟨l, hl⟩ := keyOf_id hk
  have hg := MapKept.run_getObj_map (P := Try.prog) h.heap
  have hes : (ents 0 kv).toArray.toList = ents 0 kv := rfl
  rcases h.find hk with ⟨h1, h2⟩ | ⟨j, p, hj, rfl, h1⟩
  · have hn := kvGet_none h2
    simp [Instr.lookup, run_underlying ht, hg, idKeyed.check w _ hl, h1, hz, Result.andThen, hn, kvHas]
  · have hs := kvGet_some h.nd hj
    simp [Instr.lookup, run_underlying ht, hg, idKeyed.check w _ hl, h1, Result.andThen, hs, kvHas]
set_option maxRecDepth 100000 in
theorem IMap.setb (h : IMap w g kv) {kv' : KV} (hi : ∀ p ∈ kv', IsId p.1) (hn : (kv'.map Prod.fst).Nodup) : IMap (setBlock w g (mobj kv')) g kv' := ⟨heap_setBlock_same h.heap _, hi, hn⟩
set_option maxRecDepth 100000 in
theorem IMap.setb_grown (h : IMap w g kv) (o : Obj) : w.grownBy (setBlock w g o) (some g) := ⟨rfl, rfl, rfl, by simp [setBlock], fun i _ hi => heap_setBlock_other h.heap _ (fun e => hi (by rw [e]))⟩
set_option maxRecDepth 100000 in
theorem IMap.upd (h : IMap w g kv) {t e : TypeId} (ht : Try.prog.underlying t = some (.map 25 e)) {k : List Int} (hk : IsId k) (v : Value) :
    (Instr.mapUpdate t (.map (some g)) (idv k) v).run Try.prog w = .ok () (setBlock w g (mobj (kvSet kv k v))) ∧ IMap (setBlock w g (mobj (kvSet kv k v))) g (kvSet kv k v) := by
  obtain ⟨l, hl⟩ := keyOf_id hk
  have hg := MapKept.run_getObj_map (P := Try.prog) h.heap
  refine ⟨?_, h.setb (fun p hp => by rcases kvSet_mem hp with hp | rfl; exact h.ids p hp; exact hk) (kvSet_nodup h.nd k v)⟩
  rcases h.find hk with ⟨h1, h2⟩ | ⟨j, p, hj, rfl, h1⟩
  · have hn : kvHas kv k = false := by unfold kvHas; rw [kvGet_none h2]; rfl
    have hs : kvSet kv k v = kv ++ [(k, v)] := by unfold kvSet; rw [hn]; rfl
    have hm : mobj (kvSet kv k v) = .map ((ents 0 kv).toArray.push ⟨idv k, v, kv.length⟩) (kv.length + 1) := by
      unfold mobj
      rw [hs, ents_snoc]
      simp
    rw [hm]
    simp [Instr.mapUpdate, run_underlying ht, hg, idKeyed.check w false hl, h1, MapKept.run_setObj_map _ h.heap, Result.andThen, setBlock]
  · have hje : (ents 0 kv)[j]? = some ⟨idv p.1, p.2, j⟩ := by rw [ents_get, hj]; simp
    have hlen : (kvSet kv p.1 v).length = kv.length := by rw [kvSet_length, if_pos (kvHas_iff.2 ⟨p, List.mem_of_getElem? hj, rfl⟩)]
    have hm : mobj (kvSet kv p.1 v) = .map ((ents 0 kv).toArray.modify j fun e => { e with key := idv p.1, val := v }) kv.length := by
      unfold mobj
      rw [hlen]
      congr 1
      apply Array.ext_getElem?
      intro i
      rw [List.getElem?_toArray, ents_get, kvSet_get kv h.nd p.1 v hj rfl, Array.getElem?_modify, List.getElem?_toArray, ents_get]
      by_cases e : i = j
      · subst e
        rw [if_pos rfl, if_pos rfl, hj]
        simp
      · rw [if_neg e, if_neg (fun e' => e e'.symm)]
    rw [hm]
    simp [Instr.mapUpdate, run_underlying ht, hg, idKeyed.check w false hl, h1, hje, idKeyed.stays w hl, MapKept.run_setObj_map _ h.heap, Result.andThen, setBlock]
end

/-! ### at the operation -/
section
variable {w : World} {ops : Array Oper} {rest : List Oper} {o : Oper} {a : Act} {Q : Exit → Act → World → Prop}
set_option maxRecDepth 100000 in
theorem wpList_look (t e : TypeId) (m x : Operand) (c : Bool) (g : Nat) (kv : KV) (k : List Int) (z : Value) (hgd : o.guard = none) (hop : o.op = Op.lookup t m x c)
    (ht : Try.prog.underlying t = some (.map 25 e)) (hz : (zeroValue e).run Try.prog w = .ok z w) (hm : a.eval m = .map (some g)) (hx : a.eval x = idv k) (h : IMap w g kv) (hk : IsId k)
    (hK : wpList Try.prog ops Q rest (a.put o.dst (if c then .tuple #[(kvGet kv k).getD z, .bool (kvHas kv k)] else (kvGet kv k).getD z)) w) : wpList Try.prog ops Q (o :: rest) a w := by
  refine wpList_plain hgd fun K' hK' => ?_
  have hrun := h.look ht hz hk c
  unfold Oper.wp
  simp only [execOp, hop, hm, hx, hrun, Sem.run_bind, Sem.run_pure, Result.andThen]
  exact hK' _ _ hK
set_option maxRecDepth 100000 in
theorem wpList_upd (t e : TypeId) (m x v : Operand) (g : Nat) (kv : KV) (k : List Int) (hgd : o.guard = none) (hop : o.op = Op.mapUpdate t m x v)
    (ht : Try.prog.underlying t = some (.map 25 e)) (hm : a.eval m = .map (some g)) (hx : a.eval x = idv k) (h : IMap w g kv) (hk : IsId k)
    (hK : ∀ w', IMap w' g (kvSet kv k (a.eval v)) → w.grownBy w' (some g) → w'.heap.size = w.heap.size → wpList Try.prog ops Q rest (a.put o.dst undef) w') : wpList Try.prog ops Q (o :: rest) a w := by
  refine wpList_plain hgd fun K' hK' => ?_
  obtain ⟨hrun, hmap⟩ := h.upd ht hk (a.eval v)
  unfold Oper.wp
  simp only [execOp, hop, hm, hx, hrun, Sem.run_bind, Sem.run_pure, Result.andThen]
  exact hK' _ _ (hK _ hmap (h.setb_grown _) (by simp [setBlock]))
end
end Go.Proofs.Ytokamaogognjoaa
