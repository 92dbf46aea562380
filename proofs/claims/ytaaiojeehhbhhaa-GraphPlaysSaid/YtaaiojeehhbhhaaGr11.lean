/-
  graph.Heads: a range over a map of ids.
-/
import Derived.Test.YtaaiojeehhbhhaaGr8
set_option linter.unusedVariables false
set_option linter.unusedSimpArgs false
namespace Go.Proofs.Ytaaiojeehhbhhaa
open Go.RowKit
open Go.ChangeMaps (setBlock heap_setBlock_same heap_setBlock_other)

/-- a range over a map, under way. -/
def Iter (w : World) (r mb : Nat) (n : Nat) (seen : Array Nat) : Prop := w.heap[r]? = some (.mapIter (some mb) n seen n)
theorem heap_sb_same {w : World} {r : Nat} {o : Obj} (h : w.heap[r]? = some o) (o' : Obj) : (setBlock w r o').heap[r]? = some o' := by
  have hl := (Array.getElem?_eq_some_iff.1 h).1
  simp [setBlock, hl]
theorem heap_sb_other (w : World) (r : Nat) (o' : Obj) {i : Nat} (h : i ≠ r) : (setBlock w r o').heap[i]? = w.heap[i]? := by
  simp [setBlock, Array.getElem?_setIfInBounds, Ne.symm h]
theorem ents_born {kv : KV} {e : MapEntry} (h : e ∈ ents 0 kv) : ∃ p, kv[e.born]? = some p ∧ e = ⟨idv p.1, p.2, e.born⟩ := by
  obtain ⟨j, p, hj, rfl⟩ := ents_mem h
  exact ⟨p, by simpa using hj, by simp⟩
theorem ents_bornNodup (kv : KV) : ((ents 0 kv).toArray.toList.map (·.born)).Nodup := by
  have : (ents 0 kv).toArray.toList.map (·.born) = List.range kv.length := by
    apply List.ext_getElem?
    intro j
    rw [List.getElem?_map]
    show ((ents 0 kv)[j]?).map _ = _
    rw [ents_get]
    rcases Nat.lt_or_ge j kv.length with h | h
    · rw [List.getElem?_eq_getElem h]
      simp [h]
    · rw [List.getElem?_eq_none h]
      simp [h]
  rw [this]
  exact List.nodup_range
section
variable {w : World} {ops : Array Oper} {rest : List Oper} {o : Oper} {a : Act} {Q : Exit → Act → World → Prop}
theorem wpList_rangeI (t e : TypeId) (m : Operand) (g : Nat) (kv : KV) (hgd : o.guard = none) (hop : o.op = Op.range t m) (ht : Try.prog.underlying t = some (.map 27 e)) (hm : a.eval m = .map (some g)) (h : IMap w g kv)
    (hK : Iter (w.alloc (.mapIter (some g) kv.length #[] kv.length)) w.heap.size g kv.length #[] → wpList Try.prog ops Q rest (a.put o.dst (.pointer (some ⟨w.heap.size, 0, none⟩))) (w.alloc (.mapIter (some g) kv.length #[] kv.length))) : wpList Try.prog ops Q (o :: rest) a w := by
  refine wpList_plain hgd fun K' hK' => ?_
  have hg := MapKept.run_getObj_map (P := Try.prog) h.heap
  have hrun : (Instr.range t (.map (some g))).run Try.prog w = .ok (.pointer (some ⟨w.heap.size, 0, none⟩)) (w.alloc (.mapIter (some g) kv.length #[] kv.length)) := by
    simp [Instr.range, run_underlying ht, hg, Result.andThen]
  unfold Oper.wp
  simp only [execOp, hop, hm, hrun, Sem.run_bind, Sem.run_pure, Result.andThen]
  exact hK' _ _ (hK (heap_alloc_new w _))
theorem wpList_nextI (it : Operand) (r g : Nat) (kv : KV) (seen : Array Nat) (hgd : o.guard = none) (hop : o.op = Op.next it false) (hit : a.eval it = .pointer (some ⟨r, 0, none⟩)) (hr : Iter w r g kv.length seen) (h : IMap w g kv)
    (hDone : (∀ j, j < kv.length → j ∈ seen) → wpList Try.prog ops Q rest (a.put o.dst (.tuple #[.bool false])) w)
    (hMore : ∀ (j : Nat) (p : List Int × Value) (w' : World), kv[j]? = some p → j ∉ seen → Iter w' r g kv.length (seen.push j) → IMap w' g kv → w.grownBy w' (some r) → w'.heap.size = w.heap.size →
      (Instr.entry (.pointer (some ⟨r, 0, none⟩))).run Try.prog w' = .ok (.tuple #[idv p.1, p.2]) w' → wpList Try.prog ops Q rest (a.put o.dst (.tuple #[.bool true, idv p.1, p.2])) w') : wpList Try.prog ops Q (o :: rest) a w := by
  refine wpList_plain hgd fun K' hK' => ?_
  have hne : r ≠ g := fun e => by
    have h1 := h.heap
    unfold Iter at hr
    rw [e, h1] at hr
    simp [mobj] at hr
  have hold : ∀ x ∈ (ents 0 kv).toArray.toList, x.born < kv.length := fun x hx => by
    obtain ⟨p, hp, _⟩ := ents_born hx
    exact (List.getElem?_eq_some_iff.1 hp).1
  unfold Oper.wp
  rcases run_next_at (P := Try.prog) w o.type r g kv.length kv.length seen (ents 0 kv).toArray kv.length hr h.heap hold (Nat.le_refl _) with ⟨h0, hrun⟩ | ⟨e, he, w1, hw1, hrun⟩
  · simp only [execOp, hop, hit, hrun, Sem.run_bind, Sem.run_pure, Result.andThen]
    refine hK' _ _ (hDone fun j hj => ?_)
    have hem : (leftOf (ents 0 kv).toArray seen) = #[] := Array.eq_empty_of_size_eq_zero h0
    unfold leftOf at hem
    rw [Array.filter_eq_empty_iff] at hem
    have hge : (ents 0 kv)[j]? = some ⟨idv (kv[j]'hj).1, (kv[j]'hj).2, j⟩ := by rw [ents_get, List.getElem?_eq_getElem hj]; simp
    have := hem ⟨idv (kv[j]'hj).1, (kv[j]'hj).2, j⟩ (by rw [← Array.mem_toList_iff]; exact List.mem_of_getElem? hge)
    simpa using this
  · simp only [execOp, hop, hit, hrun, Sem.run_bind, Sem.run_pure, Result.andThen]
    have hel : e ∈ (ents 0 kv).toArray.toList ∧ e.born ∉ seen := by
      unfold leftOf at he
      simp at he
      exact ⟨by simpa using he.1, he.2⟩
    obtain ⟨p, hp, hep⟩ := ents_born hel.1
    have hr1 : w1.heap[r]? = some (.mapIter (some g) kv.length seen kv.length) := by rcases hw1 with rfl | rfl <;> exact hr
    have hm1 : w1.heap[g]? = some (mobj kv) := by rcases hw1 with rfl | rfl <;> exact h.heap
    have hr2 : Iter (setBlock w1 r (.mapIter (some g) kv.length (seen.push e.born) kv.length)) r g kv.length (seen.push e.born) := heap_sb_same hr1 _
    have hm2 : (setBlock w1 r (.mapIter (some g) kv.length (seen.push e.born) kv.length)).heap[g]? = some (mobj kv) := by rw [heap_sb_other w1 r _ (fun e => hne e.symm)]; exact hm1
    have hgw : w.grownBy (setBlock w1 r (.mapIter (some g) kv.length (seen.push e.born) kv.length)) (some r) := by
      have h0 : w1.grownBy (setBlock w1 r (.mapIter (some g) kv.length (seen.push e.born) kv.length)) (some r) := ⟨rfl, rfl, rfl, by simp [setBlock], fun i _ hi => heap_sb_other w1 r _ (fun e => hi (by rw [e]))⟩
      rcases hw1 with rfl | rfl
      · exact h0
      · exact ⟨h0.os, h0.tape, h0.output, h0.size, h0.block⟩
    have hen := run_entry_at (P := Try.prog) _ r g kv.length seen (ents 0 kv).toArray kv.length e hr2 hm2 hel.1 (ents_bornNodup kv)
    rw [hep] at hen ⊢
    refine hK' _ _ (hMore e.born p _ hp hel.2 hr2 ⟨hm2, h.ids, h.nd⟩ hgw (by rcases hw1 with rfl | rfl <;> simp [setBlock]) hen)
end
def addS (S : List IdL) (x : IdL) : List IdL := if x ∈ S then S else S ++ [x]
theorem mem_addS {S : List IdL} {x y : IdL} : y ∈ addS S x ↔ y ∈ S ∨ y = x := by
  unfold addS
  split
  · exact ⟨.inl, fun h => by rcases h with h | rfl; exact h; assumption⟩
  · simp
theorem setKV_add (S : List IdL) (x : IdL) : kvSet (setKV S) x (.bool true) = setKV (addS S x) := by
  unfold addS
  by_cases h : x ∈ S
  · rw [if_pos h]
    unfold kvSet
    rw [setKV_has, decide_eq_true h]
    simp only [if_true]
    unfold setKV
    rw [List.map_map]
    refine List.map_congr_left fun y hy => ?_
    by_cases e : y = x <;> simp [e]
  · rw [if_neg h]
    exact setKV_set S x h
def leftN (n : Nat) (seen : Array Nat) : Nat := ((List.range n).filter fun j => decide (j ∉ seen)).length
theorem filter_drop (p q : Nat → Bool) (hpq : ∀ n, q n = true → p n = true) : ∀ (l : List Nat), (l.filter q).length ≤ (l.filter p).length
  | [] => by simp
  | n :: l => by
    have ih := filter_drop p q hpq l
    by_cases hq : q n = true
    · simp only [List.filter_cons, hq, hpq n hq, if_true, List.length_cons]; omega
    · rw [List.filter_cons_of_neg hq]
      by_cases hp : p n = true
      · simp only [List.filter_cons, hp, if_true, List.length_cons]; omega
      · rw [List.filter_cons_of_neg hp]; exact ih
theorem filter_drop_lt (p q : Nat → Bool) (hpq : ∀ n, q n = true → p n = true) : ∀ (l : List Nat) (m : Nat), m ∈ l → p m = true → q m = false → (l.filter q).length < (l.filter p).length
  | [], m, h, _, _ => by simp at h
  | n :: l, m, h, hp, hq => by
    rcases List.mem_cons.1 h with rfl | h
    · have ih := filter_drop p q hpq l
      rw [List.filter_cons_of_neg (by rw [hq]; simp)]
      simp only [List.filter_cons, hp, if_true, List.length_cons]
      omega
    · have ih := filter_drop_lt p q hpq l m h hp hq
      by_cases hqn : q n = true
      · simp only [List.filter_cons, hqn, hpq n hqn, if_true, List.length_cons]; omega
      · rw [List.filter_cons_of_neg hqn]
        by_cases hpn : p n = true
        · simp only [List.filter_cons, hpn, if_true, List.length_cons]; omega
        · rw [List.filter_cons_of_neg hpn]; exact ih
theorem leftN_push {n j : Nat} {seen : Array Nat} (hj : j < n) (hs : j ∉ seen) : leftN n (seen.push j) < leftN n seen := by
  unfold leftN
  refine filter_drop_lt _ _ (fun m hm => ?_) _ j (by simpa using hj) (by simpa using hs) (by simp)
  simp at hm ⊢
  exact hm.1
theorem parB_iff {G : Gph} {x : IdL} : parB G x = true ↔ ∃ j, j < G.length ∧ x ∈ (nd G j).ps := by
  unfold parB
  rw [List.any_eq_true]
  constructor
  · rintro ⟨n, hn, hx⟩
    obtain ⟨j, hj⟩ := List.mem_iff_getElem?.1 hn
    have hl := (List.getElem?_eq_some_iff.1 hj).1
    rw [nd_some hl] at hj
    injection hj with hj
    exact ⟨j, hl, by rw [hj]; simpa using hx⟩
  · rintro ⟨j, hj, hx⟩
    exact ⟨nd G j, List.mem_of_getElem? (nd_some hj), by simpa using hx⟩
end Go.Proofs.Ytaaiojeehhbhhaa
