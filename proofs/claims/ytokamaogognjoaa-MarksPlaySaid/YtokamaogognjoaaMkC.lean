/-
  Tables of pairs in plain Lean, and in memory; one pair more.
-/
import Derived.Test.YtokamaogognjoaaMkA
set_option linter.unusedVariables false
set_option linter.unusedSimpArgs false
namespace Go.Proofs.Ytokamaogognjoaa
section
open Go.RowKit

abbrev Prs := List IdL
def git (p : IdL) : IdL := p.take 20
def nod (p : IdL) : IdL := p.drop 20
def zeroL : IdL := List.replicate 20 0
set_option maxRecDepth 100000 in
theorem zeroL_id : IsId zeroL := ⟨rfl, Byts.rep (by omega) (by omega) 20⟩
set_option maxRecDepth 100000 in
theorem pr_ext {p q : IdL} (h : git p = git q) (h' : nod p = nod q) : p = q := by
  rw [← List.take_append_drop 20 p, ← List.take_append_drop 20 q]
  unfold git at h
  unfold nod at h'
  rw [h, h']
def hasG (L : Prs) (x : IdL) : Bool := L.any fun q => git q == x
def hasN (L : Prs) (x : IdL) : Bool := L.any fun q => nod q == x
def nodeOf (L : Prs) (x : IdL) : IdL := match L.find? (fun q => git q == x) with | some q => nod q | none => zeroL
def gitOf (L : Prs) (x : IdL) : IdL := match L.find? (fun q => nod q == x) with | some q => git q | none => zeroL
/-- each id stands once. -/
structure Bij (L : Prs) : Prop where
  all : AllPr L
  g : (L.map git).Nodup
  n : (L.map nod).Nodup
set_option maxRecDepth 100000 in
theorem Bij.nil : Bij [] := ⟨AllPr.nil, by simp, by simp⟩
set_option maxRecDepth 100000 in
theorem hasG_iff {L : Prs} {x : IdL} : hasG L x = true ↔ ∃ q ∈ L, git q = x := by simp [hasG]
set_option maxRecDepth 100000 in
theorem hasN_iff {L : Prs} {x : IdL} : hasN L x = true ↔ ∃ q ∈ L, nod q = x := by simp [hasN]
set_option maxRecDepth 100000 in
theorem hasG_not {L : Prs} {x : IdL} (h : hasG L x = false) : ∀ q ∈ L, git q ≠ x := fun q hq e => by
  rw [hasG_iff.2 ⟨q, hq, e⟩] at h
  cases h
set_option maxRecDepth 100000 in
theorem hasN_not {L : Prs} {x : IdL} (h : hasN L x = false) : ∀ q ∈ L, nod q ≠ x := fun q hq e => by
  rw [hasN_iff.2 ⟨q, hq, e⟩] at h
  cases h
set_option maxRecDepth 100000 in
theorem hasG_append (L M : Prs) (x : IdL) : hasG (L ++ M) x = (hasG L x || hasG M x) := by simp [hasG]
set_option maxRecDepth 100000 in
theorem hasN_append (L M : Prs) (x : IdL) : hasN (L ++ M) x = (hasN L x || hasN M x) := by simp [hasN]
set_option maxRecDepth 100000 in
theorem nodup_map_inj {f : IdL → IdL} {L : Prs} (h : (L.map f).Nodup) {p q : IdL} (hp : p ∈ L) (hq : q ∈ L) (e : f p = f q) : p = q := by
  obtain ⟨i, hi, rfl⟩ := List.getElem_of_mem hp
  obtain ⟨j, hj, rfl⟩ := List.getElem_of_mem hq
  have h1 : (L.map f)[i]? = some (f L[i]) := by simp [hi]
  have h2 : (L.map f)[j]? = some (f L[j]) := by simp [hj]
  have : i = j := (List.getElem?_inj (l := L.map f) (i := i) (j := j) (by simpa using hi) h).1 (by rw [h1, h2, e])
  subst this
  rfl
set_option maxRecDepth 100000 in
theorem Bij.nodeEq {L : Prs} (h : Bij L) {q : IdL} (hq : q ∈ L) : nodeOf L (git q) = nod q := by
  unfold nodeOf
  cases hf : L.find? (fun r => git r == git q) with
  | none => exact absurd (List.find?_eq_none.1 hf q hq) (by simp)
  | some r =>
    have h1 := List.find?_some hf
    have h2 := List.mem_of_find?_eq_some hf
    rw [nodup_map_inj h.g h2 hq (by simpa using h1)]
set_option maxRecDepth 100000 in
theorem Bij.gitEq {L : Prs} (h : Bij L) {q : IdL} (hq : q ∈ L) : gitOf L (nod q) = git q := by
  unfold gitOf
  cases hf : L.find? (fun r => nod r == nod q) with
  | none => exact absurd (List.find?_eq_none.1 hf q hq) (by simp)
  | some r =>
    have h1 := List.find?_some hf
    have h2 := List.mem_of_find?_eq_some hf
    rw [nodup_map_inj h.n h2 hq (by simpa using h1)]
set_option maxRecDepth 100000 in
theorem nodeOf_none {L : Prs} {x : IdL} (h : hasG L x = false) : nodeOf L x = zeroL := by
  unfold nodeOf
  rw [List.find?_eq_none.2 fun q hq => by simpa using hasG_not h q hq]
set_option maxRecDepth 100000 in
theorem gitOf_none {L : Prs} {x : IdL} (h : hasN L x = false) : gitOf L x = zeroL := by
  unfold gitOf
  rw [List.find?_eq_none.2 fun q hq => by simpa using hasN_not h q hq]
set_option maxRecDepth 100000 in
theorem nodeOf_left {L M : Prs} {x : IdL} (h : hasG L x = true) : nodeOf (L ++ M) x = nodeOf L x := by
  obtain ⟨q, hq, e⟩ := hasG_iff.1 h
  unfold nodeOf
  rw [List.find?_append]
  cases hf : L.find? (fun r => git r == x) with
  | none => exact absurd (List.find?_eq_none.1 hf q hq) (by simp [e])
  | some r => rfl
set_option maxRecDepth 100000 in
theorem nodeOf_right {L M : Prs} {x : IdL} (h : hasG L x = false) : nodeOf (L ++ M) x = nodeOf M x := by
  unfold nodeOf
  rw [List.find?_append, List.find?_eq_none.2 fun q hq => by simpa using hasG_not h q hq]
  rfl
set_option maxRecDepth 100000 in
theorem gitOf_left {L M : Prs} {x : IdL} (h : hasN L x = true) : gitOf (L ++ M) x = gitOf L x := by
  obtain ⟨q, hq, e⟩ := hasN_iff.1 h
  unfold gitOf
  rw [List.find?_append]
  cases hf : L.find? (fun r => nod r == x) with
  | none => exact absurd (List.find?_eq_none.1 hf q hq) (by simp [e])
  | some r => rfl
set_option maxRecDepth 100000 in
theorem gitOf_right {L M : Prs} {x : IdL} (h : hasN L x = false) : gitOf (L ++ M) x = gitOf M x := by
  unfold gitOf
  rw [List.find?_append, List.find?_eq_none.2 fun q hq => by simpa using hasN_not h q hq]
  rfl
set_option maxRecDepth 100000 in
theorem AllPr.gitId {L : Prs} (h : AllPr L) (x : IdL) : IsId (gitOf L x) := by
  unfold gitOf
  cases hf : L.find? (fun r => nod r == x) with
  | none => exact zeroL_id
  | some r => exact (h r (List.mem_of_find?_eq_some hf)).git
set_option maxRecDepth 100000 in
theorem AllPr.nodeId {L : Prs} (h : AllPr L) (x : IdL) : IsId (nodeOf L x) := by
  unfold nodeOf
  cases hf : L.find? (fun r => Ytokamaogognjoaa.git r == x) with
  | none => exact zeroL_id
  | some r => exact (h r (List.mem_of_find?_eq_some hf)).node

/-! ### which pairs are new -/
def zeroP (p : IdL) : Bool := git p == zeroL || nod p == zeroL
def newP (L : Prs) (p : IdL) : Bool := !hasG L (git p) && !hasN L (nod p)
def twP (L : Prs) (p : IdL) : Bool := (hasG L (git p) && nodeOf L (git p) != nod p) || (hasN L (nod p) && gitOf L (nod p) != git p)
def nextL (m o : Prs) (p : IdL) : Prs := if newP (m ++ o) p then o ++ [p] else o
def outL (m : Prs) : Prs → Prs → Prs
  | o, [] => o
  | o, p :: r => outL m (nextL m o p) r
def twL (m : Prs) : Prs → Prs → Bool
  | _, [] => false
  | o, p :: r => twP (m ++ o) p || twL m (nextL m o p) r
def freshR (m l : Prs) : Prs × Int := if l.any zeroP then ([], 1) else if twL m [] l then ([], 8) else (outL m [] l, 0)
set_option maxRecDepth 100000 in
theorem outL_snoc (m : Prs) : ∀ (o l : Prs) (p : IdL), outL m o (l ++ [p]) = nextL m (outL m o l) p
  | o, [], p => rfl
  | o, q :: r, p => outL_snoc m (nextL m o q) r p
set_option maxRecDepth 100000 in
theorem twL_snoc (m : Prs) : ∀ (o l : Prs) (p : IdL), twL m o (l ++ [p]) = (twL m o l || twP (m ++ outL m o l) p)
  | o, [], p => by simp [twL, outL]
  | o, q :: r, p => by simp [twL, outL, twL_snoc m (nextL m o q) r p, Bool.or_assoc]
set_option maxRecDepth 100000 in
theorem Bij.add {L : Prs} (h : Bij L) {p : IdL} (hp : IsPr p) (hn : newP L p = true) : Bij (L ++ [p]) := by
  unfold newP at hn
  rw [Bool.and_eq_true] at hn
  have h1 := hasG_not (by simpa using hn.1)
  have h2 := hasN_not (by simpa using hn.2)
  refine ⟨h.all.append (AllPr.one hp), ?_, ?_⟩
  · rw [List.map_append]
    refine List.nodup_append.2 ⟨h.g, by simp, fun x hx y hy e => ?_⟩
    obtain ⟨q, hq, rfl⟩ := List.mem_map.1 hx
    simp at hy
    exact h1 q hq (by rw [e, hy])
  · rw [List.map_append]
    refine List.nodup_append.2 ⟨h.n, by simp, fun x hx y hy e => ?_⟩
    obtain ⟨q, hq, rfl⟩ := List.mem_map.1 hx
    simp at hy
    exact h2 q hq (by rw [e, hy])
set_option maxRecDepth 100000 in
theorem Bij.next {m o : Prs} (h : Bij (m ++ o)) {p : IdL} (hp : IsPr p) : Bij (m ++ nextL m o p) := by
  unfold nextL
  by_cases hn : newP (m ++ o) p = true
  · rw [if_pos hn, ← List.append_assoc]
    exact h.add hp hn
  · rw [if_neg hn]
    exact h
set_option maxRecDepth 100000 in
theorem Bij.out {m : Prs} : ∀ {o l : Prs}, Bij (m ++ o) → AllPr l → Bij (m ++ outL m o l)
  | o, [], h, _ => h
  | o, p :: r, h, hl => Bij.out (o := nextL m o p) (l := r) (h.next (hl p (by simp))) fun q hq => hl q (by simp [hq])
set_option maxRecDepth 100000 in
theorem nextL_len (m o : Prs) (p : IdL) : (nextL m o p).length ≤ o.length + 1 := by
  unfold nextL
  split <;> simp
set_option maxRecDepth 100000 in
theorem outL_len (m : Prs) : ∀ (o l : Prs), (outL m o l).length ≤ o.length + l.length
  | o, [] => by simp [outL]
  | o, p :: r => by
    have h1 := nextL_len m o p
    have h2 := outL_len m (nextL m o p) r
    simp only [outL, List.length_cons]
    omega
set_option maxRecDepth 100000 in
theorem outL_all {m : Prs} {o l : Prs} (ho : AllPr o) (hl : AllPr l) : AllPr (outL m o l) := by
  induction l generalizing o with
  | nil => exact ho
  | cons p r ih =>
    refine ih ?_ fun q hq => hl q (by simp [hq])
    unfold nextL
    split
    · exact ho.append (AllPr.one (hl p (by simp)))
    · exact ho
/-- what a loop with an early end answers. -/
def modelR (m : Prs) : Prs → Prs → Prs × Int
  | o, [] => (o, 0)
  | o, p :: r => if p ∈ m ++ o then modelR m o r else if newP (m ++ o) p then modelR m (o ++ [p]) r else ([], 8)
set_option maxRecDepth 100000 in
theorem Bij.mem_tw {L : Prs} (h : Bij L) {p : IdL} (hp : p ∈ L) : newP L p = false ∧ twP L p = false := by
  have h1 : hasG L (git p) = true := hasG_iff.2 ⟨p, hp, rfl⟩
  have h2 : hasN L (nod p) = true := hasN_iff.2 ⟨p, hp, rfl⟩
  simp [newP, twP, h1, h2, h.nodeEq hp, h.gitEq hp]
set_option maxRecDepth 100000 in
theorem Bij.new_tw {L : Prs} {p : IdL} (hn : newP L p = true) : p ∉ L ∧ twP L p = false := by
  unfold newP at hn
  rw [Bool.and_eq_true] at hn
  have h1 : hasG L (git p) = false := by simpa using hn.1
  have h2 : hasN L (nod p) = false := by simpa using hn.2
  exact ⟨fun hp => hasG_not h1 p hp rfl, by simp [twP, h1, h2]⟩
set_option maxRecDepth 100000 in
theorem Bij.clash_tw {L : Prs} (h : Bij L) {p : IdL} (hp : p ∉ L) (hn : newP L p = false) : twP L p = true := by
  unfold newP at hn
  unfold twP
  rw [Bool.or_eq_true]
  cases hg : hasG L (git p) with
  | true =>
    left
    obtain ⟨q, hq, e⟩ := hasG_iff.1 hg
    have : nodeOf L (git p) ≠ nod p := fun e2 => by
      rw [← e, h.nodeEq hq] at e2
      exact hp (pr_ext e e2 ▸ hq)
    simp [this]
  | false =>
    right
    have hg' : hasN L (nod p) = true := by simpa [hg] using hn
    obtain ⟨q, hq, e⟩ := hasN_iff.1 hg'
    have : gitOf L (nod p) ≠ git p := fun e2 => by
      rw [← e, h.gitEq hq] at e2
      exact hp (pr_ext e2 e ▸ hq)
    simp [hg', this]
set_option maxRecDepth 100000 in
theorem modelR_eq {m : Prs} : ∀ {o l : Prs}, Bij (m ++ o) → AllPr l → modelR m o l = if twL m o l then ([], 8) else (outL m o l, 0)
  | o, [], _, _ => by simp [modelR, twL, outL]
  | o, p :: r, h, hl => by
    have hr : AllPr r := fun q hq => hl q (by simp [hq])
    have hp := hl p (by simp)
    unfold modelR twL outL
    by_cases hm : p ∈ m ++ o
    · obtain ⟨h1, h2⟩ := h.mem_tw hm
      have hx : nextL m o p = o := by simp [nextL, h1]
      rw [if_pos hm, h2, hx, modelR_eq h hr, Bool.false_or]
    · rw [if_neg hm]
      by_cases hn : newP (m ++ o) p = true
      · have h2 := (Bij.new_tw hn).2
        have hx : nextL m o p = o ++ [p] := by simp [nextL, hn]
        rw [if_pos hn, h2, hx, modelR_eq (by rw [← List.append_assoc]; exact h.add hp hn) hr, Bool.false_or]
      · rw [if_neg hn, h.clash_tw hm (by simpa using hn), Bool.true_or, if_pos rfl]

/-! ### the maps -/
def kvG (L : Prs) : KV := L.map fun p => (git p, ida (nod p))
def kvN (L : Prs) : KV := L.map fun p => (nod p, ida (git p))
set_option maxRecDepth 100000 in
theorem kvG_has (L : Prs) (x : IdL) : kvHas (kvG L) x = hasG L x := by
  rw [Bool.eq_iff_iff, kvHas_iff, hasG_iff]
  exact ⟨fun ⟨p, hp, e⟩ => by obtain ⟨q, hq, rfl⟩ := List.mem_map.1 hp; exact ⟨q, hq, e⟩, fun ⟨q, hq, e⟩ => ⟨_, List.mem_map.2 ⟨q, hq, rfl⟩, e⟩⟩
set_option maxRecDepth 100000 in
theorem kvN_has (L : Prs) (x : IdL) : kvHas (kvN L) x = hasN L x := by
  rw [Bool.eq_iff_iff, kvHas_iff, hasN_iff]
  exact ⟨fun ⟨p, hp, e⟩ => by obtain ⟨q, hq, rfl⟩ := List.mem_map.1 hp; exact ⟨q, hq, e⟩, fun ⟨q, hq, e⟩ => ⟨_, List.mem_map.2 ⟨q, hq, rfl⟩, e⟩⟩
set_option maxRecDepth 100000 in
theorem kvG_get (L : Prs) (x : IdL) : (kvGet (kvG L) x).getD (.agg zid) = ida (nodeOf L x) := by
  induction L with
  | nil => rfl
  | cons p r ih =>
    unfold kvGet kvG nodeOf at ih ⊢
    simp only [List.map_cons, List.find?_cons]
    cases h : (git p == x) with
    | true => rfl
    | false => exact ih
set_option maxRecDepth 100000 in
theorem kvN_get (L : Prs) (x : IdL) : (kvGet (kvN L) x).getD (.agg zid) = ida (gitOf L x) := by
  induction L with
  | nil => rfl
  | cons p r ih =>
    unfold kvGet kvN gitOf at ih ⊢
    simp only [List.map_cons, List.find?_cons]
    cases h : (nod p == x) with
    | true => rfl
    | false => exact ih
set_option maxRecDepth 100000 in
theorem kvG_snoc (L : Prs) (p : IdL) : kvG (L ++ [p]) = kvG L ++ [(git p, ida (nod p))] := by simp [kvG]
set_option maxRecDepth 100000 in
theorem kvN_snoc (L : Prs) (p : IdL) : kvN (L ++ [p]) = kvN L ++ [(nod p, ida (git p))] := by simp [kvN]
set_option maxRecDepth 100000 in
theorem kvG_set {L : Prs} {p : IdL} (h : hasG L (git p) = false) : kvSet (kvG L) (git p) (ida (nod p)) = kvG (L ++ [p]) := by
  rw [kvG_snoc]
  unfold kvSet
  rw [kvG_has, h]
  rfl
set_option maxRecDepth 100000 in
theorem kvN_set {L : Prs} {p : IdL} (h : hasN L (nod p) = false) : kvSet (kvN L) (nod p) (ida (git p)) = kvN (L ++ [p]) := by
  rw [kvN_snoc]
  unfold kvSet
  rw [kvN_has, h]
  rfl
set_option maxRecDepth 100000 in
theorem mapTy : Try.prog.underlying 62 = some (.map 25 25) := by kernel_rfl
set_option maxRecDepth 100000 in
/-- the look-up of a node. -/
theorem look_g {w : World} {g : Nat} {L : Prs} (h : IMap w g (kvG L)) {x : IdL} (hx : IsId x) (c : Bool) :
    (Instr.lookup 62 (.map (some g)) (ida x) c).run Try.prog w = .ok (if c then .tuple #[ida (nodeOf L x), .bool (hasG L x)] else ida (nodeOf L x)) w := by
  have := h.look mapTy (zeroId w) hx c
  rw [kvG_get, kvG_has] at this
  exact this
set_option maxRecDepth 100000 in
theorem look_n {w : World} {g : Nat} {L : Prs} (h : IMap w g (kvN L)) {x : IdL} (hx : IsId x) (c : Bool) :
    (Instr.lookup 62 (.map (some g)) (ida x) c).run Try.prog w = .ok (if c then .tuple #[ida (gitOf L x), .bool (hasN L x)] else ida (gitOf L x)) w := by
  have := h.look mapTy (zeroId w) hx c
  rw [kvN_get, kvN_has] at this
  exact this
end
section
open Go.RowKit
open Go.ChangeMaps (setBlock heap_setBlock_same heap_setBlock_other)

/-- what may have turned: the blocks of P, and new ones. -/
structure Chg (P : Nat → Prop) (w w' : World) : Prop where
  os : w'.os = w.os
  tape : w'.tape = w.tape
  output : w'.output = w.output
  size : w.heap.size ≤ w'.heap.size
  block : ∀ i, i < w.heap.size → ¬ P i → w'.heap[i]? = w.heap[i]?
section
variable {P Q : Nat → Prop} {w w1 w2 w' : World}
set_option maxRecDepth 100000 in
theorem Chg.refl (P : Nat → Prop) (w : World) : Chg P w w := ⟨rfl, rfl, rfl, Nat.le_refl _, fun _ _ _ => rfl⟩
set_option maxRecDepth 100000 in
theorem Chg.below (h : Below w.heap.size w w') : Chg P w w' := ⟨h.os, h.tape, h.output, h.size, fun i hi _ => h.block i hi⟩
set_option maxRecDepth 100000 in
theorem Chg.then (h : Chg P w w1) (k : Chg Q w1 w2) (hq : ∀ i, Q i → P i ∨ w.heap.size ≤ i) : Chg P w w2 :=
  ⟨k.os.trans h.os, k.tape.trans h.tape, k.output.trans h.output, Nat.le_trans h.size k.size, fun i hi hp => (k.block i (Nat.lt_of_lt_of_le hi h.size) (fun hQ => by rcases hq i hQ with h' | h'; exact hp h'; omega)).trans (h.block i hi hp)⟩
set_option maxRecDepth 100000 in
theorem Chg.grown {row : Option Nat} (h : w.grownBy w' row) (hr : ∀ k, row = some k → P k) : Chg P w w' :=
  ⟨h.os, h.tape, h.output, h.size, fun i hi hp => h.block i hi (fun e => hp (hr i e.symm))⟩
set_option maxRecDepth 100000 in
theorem Chg.mono (h : Chg P w w') (hq : ∀ i, P i → Q i ∨ w.heap.size ≤ i) : Chg Q w w' :=
  ⟨h.os, h.tape, h.output, h.size, fun i hi hp => h.block i hi (fun hP => by rcases hq i hP with h' | h'; exact hp h'; omega)⟩
set_option maxRecDepth 100000 in
theorem Chg.toBelow {B : Nat} {w0 : World} (h : Chg P w w') (hb : Below B w0 w) (hz : B ≤ w.heap.size) (hp : ∀ k, P k → B ≤ k) : Below B w0 w' :=
  ⟨h.os.trans hb.os, h.tape.trans hb.tape, h.output.trans hb.output, Nat.le_trans hb.size h.size, fun i hi => (h.block i (by omega) (fun hP => by have := hp i hP; omega)).trans (hb.block i hi)⟩
set_option maxRecDepth 100000 in
theorem Chg.cell (h : Chg P w w') {p : Addr} {v : Value} (hv : w.cell? p = some v) (hp : ¬ P p.block) : w'.cell? p = some v := by
  have hl := World.block_lt_of_cell? _ _ hv
  unfold World.cell? at hv ⊢
  rw [h.block _ hl hp]
  exact hv
set_option maxRecDepth 100000 in
theorem Chg.blk {g : Nat} {t : TypeId} {cs : Array Value} (h : Chg P w w') (hb : Blk w g t cs) (hp : ¬ P g) : Blk w' g t cs := (h.block g hb.lt hp).trans hb
set_option maxRecDepth 100000 in
theorem Chg.imap {g : Nat} {kv : KV} (h : Chg P w w') (hb : IMap w g kv) (hp : ¬ P g) : IMap w' g kv := ⟨(h.block g hb.lt hp).trans hb.heap, hb.ids, hb.nd⟩
set_option maxRecDepth 100000 in
theorem Chg.prs {A : Option Addr} {n : Nat} {L : Prs} (h : Chg P w w') (hA : RPrs w A n L) (hp : ∀ ad, A = some ad → ¬ P ad.block) : RPrs w' A n L :=
  hA.keep fun b o v e i hv => h.cell hv (show ¬ P b from hp ⟨b, o, none⟩ e)
set_option maxRecDepth 100000 in
theorem Chg.own {B n : Nat} {v : Value} {L : Prs} (h : Chg P w w') (ho : OPrs w B v n L) (hp : ∀ k, v.ownBlock = some k → ¬ P k) : OPrs w' B v n L := by
  refine ⟨⟨ho.1.1, ?_⟩, ho.2⟩
  rcases ho.1.2 with h0 | ⟨g, cap, cur, h1, h2, h3, h4⟩
  · exact .inl h0
  · exact .inr ⟨g, cap, cur, h1, h2, (h.block g (Array.getElem?_eq_some_iff.1 h3).1 (hp g (by rw [h1]; rfl))).trans h3, h4⟩
end
set_option maxRecDepth 100000 in
theorem IMap.notBlk {w : World} {g g' : Nat} {kv : KV} {t : TypeId} {cs : Array Value} (h : IMap w g kv) (hb : Blk w g' t cs) : g ≠ g' := fun e => by
  subst e
  have := h.heap
  unfold Blk at hb
  rw [this] at hb
  simp [mobj] at hb
set_option maxRecDepth 100000 in
theorem IMap.notOwn {w : World} {g : Nat} {kv : KV} (h : IMap w g kv) {B n : Nat} {v : Value} {L : Prs} (ho : OPrs w B v n L) : ∀ k, v.ownBlock = some k → k ≠ g := fun k e e' => by
  subst e'
  rcases ho.form with ⟨h0, _⟩ | ⟨gg, cap, cur, hv, _, _, _, _, hbk, _⟩
  · rw [h0] at e; simp [Value.ownBlock] at e
  · rw [hv] at e
    simp [Value.ownBlock] at e
    subst e
    exact h.notBlk hbk rfl
set_option maxRecDepth 100000 in
theorem OPrs.notBlk {w : World} {g : Nat} {t : TypeId} {cs : Array Value} {B n : Nat} {v : Value} {L : Prs} (ho : OPrs w B v n L) (hb : Blk w g t cs) (ht : t ≠ 27) : ∀ k, v.ownBlock = some k → k ≠ g := fun k e e' => by
  subst e'
  rcases ho.form with ⟨h0, _⟩ | ⟨gg, cap, cur, hv, _, _, _, _, hbk, _⟩
  · rw [h0] at e; simp [Value.ownBlock] at e
  · rw [hv] at e
    simp [Value.ownBlock] at e
    subst e
    exact Blk.ne_ hb hbk ht rfl
set_option maxRecDepth 100000 in
theorem own_far {v : Value} {g : Nat} (h : ∀ k, v.ownBlock = some k → k ≠ g) : v.ownBlock = none ∨ v.ownBlock ≠ some g := by
  cases e : v.ownBlock with
  | none => exact .inl rfl
  | some k => exact .inr fun e' => h k e (by injection e')
set_option maxRecDepth 100000 in
theorem IMap.cells {w : World} {g : Nat} {kv : KV} (h : IMap w g kv) (o : Obj) {p : Addr} {v : Value} (hv : w.cell? p = some v) : p.block ≠ g ∧ (setBlock w g o).cell? p = some v := by
  have hne : p.block ≠ g := fun e => by
    unfold World.cell? at hv
    rw [e, h.heap] at hv
    simp [mobj] at hv
  exact ⟨hne, (h.setb_grown o).cell hv (fun e => hne (by injection e))⟩

/-! ### an entry taken, and stored -/
set_option maxRecDepth 100000 in
theorem findIdx_arrM (xs : Array MapEntry) (p : MapEntry → Bool) : xs.findIdx? p = xs.toList.findIdx? p := by
  cases xs
  simp
set_option maxRecDepth 100000 in
theorem modify_lastM {α : Type} (f : α → α) (a : α) : ∀ l : List α, (l ++ [a]).modify l.length f = l ++ [f a]
  | [] => rfl
  | b :: r => by simp [List.modify_succ_cons, modify_lastM f a r]

set_option maxRecDepth 100000 in
theorem IMap.entry {w : World} {g : Nat} {kv : KV} (h : IMap w g kv) {t e : TypeId} (ht : Try.prog.underlying t = some (.map 25 e)) {z : Value} (hz : (zeroValue e).run Try.prog w = .ok z w) {k : List Int} (hk : IsId k) (hn : kvHas kv k = false) :
    (Instr.mapEntry t (.map (some g)) (idv k)).run Try.prog w = .ok (.tuple #[z, .int .i64 (kv.length : Nat)]) (setBlock w g (mobj (kv ++ [(k, z)]))) ∧ IMap (setBlock w g (mobj (kv ++ [(k, z)]))) g (kv ++ [(k, z)]) := by
  obtain ⟨l, hl⟩ := keyOf_id hk
  have hg := MapKept.run_getObj_map (P := Try.prog) h.heap
  have hs : kvSet kv k z = kv ++ [(k, z)] := by unfold kvSet; rw [hn]; rfl
  refine ⟨?_, by rw [← hs]; exact h.setb (fun p hp => by rcases kvSet_mem hp with hp | rfl; exact h.ids p hp; exact hk) (kvSet_nodup h.nd k z)⟩
  rcases h.find hk with ⟨h1, h2⟩ | ⟨j, p, hj, rfl, h1⟩
  · have hm : mobj (kv ++ [(k, z)]) = .map ((ents 0 kv).toArray.push ⟨idv k, z, kv.length⟩) (kv.length + 1) := by
      unfold mobj
      rw [ents_snoc]
      simp
    rw [hm]
    simp [Instr.mapEntry, run_underlying ht, hg, idKeyed.check w false hl, h1, hz, MapKept.run_setObj_map _ h.heap, Result.andThen, setBlock, goInt]
  · rw [kvHas_iff.2 ⟨p, List.mem_of_getElem? hj, rfl⟩] at hn
    cases hn
set_option maxRecDepth 100000 in
theorem ents_born (i : Nat) (kv : KV) : (ents i kv).findIdx? (fun e => (e.born : Int) == ((i + kv.length : Nat) : Int)) = none := by
  rw [List.findIdx?_eq_none_iff]
  intro e he
  obtain ⟨j, p, hj, rfl⟩ := ents_mem he
  have := (List.getElem?_eq_some_iff.1 hj).1
  simp
  omega
set_option maxRecDepth 100000 in
theorem IMap.entryStore {w : World} {g : Nat} {kv : KV} {k : List Int} {z : Value} (h : IMap w g (kv ++ [(k, z)])) (t : TypeId) (v : Value) :
    (Instr.entryStore t (.map (some g)) (.int .i64 (kv.length : Nat)) v).run Try.prog w = .ok () (setBlock w g (mobj (kv ++ [(k, v)]))) ∧ IMap (setBlock w g (mobj (kv ++ [(k, v)]))) g (kv ++ [(k, v)]) := by
  have hg := MapKept.run_getObj_map (P := Try.prog) h.heap
  have hids : ∀ p ∈ kv ++ [(k, v)], IsId p.1 := fun p hp => by
    rcases List.mem_append.1 hp with hp | hp
    · exact h.ids p (List.mem_append.2 (.inl hp))
    · have := h.ids (k, z) (by simp)
      simp at hp
      subst hp
      exact this
  have hnd : ((kv ++ [(k, v)]).map Prod.fst).Nodup := by
    have := h.nd
    simpa using this
  refine ⟨?_, h.setb hids hnd⟩
  have hm : mobj (kv ++ [(k, v)]) = .map ((ents 0 (kv ++ [(k, z)])).toArray.modify kv.length fun e => { e with val := v }) (kv ++ [(k, z)]).length := by
    unfold mobj
    congr 1
    · apply Array.ext'
      rw [Array.toList_modify]
      simp only [ents_snoc]
      have := modify_lastM (fun e : MapEntry => { e with val := v }) ⟨idv k, z, 0 + kv.length⟩ (ents 0 kv)
      rw [ents_length] at this
      exact this.symm
    · simp
  have hidx : ((ents 0 (kv ++ [(k, z)])).toArray).findIdx? (fun e => (e.born : Int) == ((kv.length : Nat) : Int)) = some kv.length := by
    rw [findIdx_arrM]
    simp only [ents_snoc, List.findIdx?_append]
    have := ents_born 0 kv
    rw [Nat.zero_add] at this
    rw [this]
    simp [ents_length]
  rw [hm]
  simp [Instr.entryStore, hg, mobj, asInt, asIntOf, hidx, MapKept.run_setObj_map _ h.heap, Result.andThen, setBlock]

/-! ### the table -/
structure TbMem (w : World) (P : Nat → Prop) (g gt f : Nat) (A : Option Addr) (n c m1 m2 : Nat) (L : Prs) : Prop where
  blk : Blk w g 64 #[.pointer (some ⟨gt, 0, none⟩), .int .i64 (f : Nat), .slice A n c, .map (some m1), .map (some m2)]
  mg : IMap w m1 (kvG L)
  mn : IMap w m2 (kvN L)
  own : OPrs w 0 (.slice A n c) n L
  bij : Bij L
  pg : P g
  p1 : P m1
  p2 : P m2
  pi : ∀ k, (Value.slice A n c).ownBlock = some k → P k
  ne : m1 ≠ m2
def TbAt (w : World) (P : Nat → Prop) (g gt f : Nat) (L : Prs) : Prop := ∃ A n c m1 m2, TbMem w P g gt f A n c m1 m2 L
section
variable {w w' : World} {P Q : Nat → Prop} {g gt f : Nat} {L : Prs} {A : Option Addr} {n c m1 m2 : Nat}
set_option maxRecDepth 100000 in
theorem TbMem.mono (h : TbMem w P g gt f A n c m1 m2 L) (hq : ∀ k, P k → Q k) : TbMem w Q g gt f A n c m1 m2 L :=
  ⟨h.blk, h.mg, h.mn, h.own, h.bij, hq _ h.pg, hq _ h.p1, hq _ h.p2, fun k e => hq _ (h.pi k e), h.ne⟩
set_option maxRecDepth 100000 in
theorem TbAt.mono (h : TbAt w P g gt f L) (hq : ∀ k, P k → Q k) : TbAt w Q g gt f L := by
  obtain ⟨A, n, c, m1, m2, h⟩ := h
  exact ⟨A, n, c, m1, m2, h.mono hq⟩
set_option maxRecDepth 100000 in
theorem TbMem.chg (h : TbMem w P g gt f A n c m1 m2 L) (hc : Chg Q w w') (hp : ∀ k, P k → ¬ Q k) : TbMem w' P g gt f A n c m1 m2 L :=
  ⟨hc.blk h.blk (hp _ h.pg), hc.imap h.mg (hp _ h.p1), hc.imap h.mn (hp _ h.p2), hc.own h.own (fun k e => hp _ (h.pi k e)), h.bij, h.pg, h.p1, h.p2, h.pi, h.ne⟩
set_option maxRecDepth 100000 in
theorem TbAt.chg (h : TbAt w P g gt f L) (hc : Chg Q w w') (hp : ∀ k, P k → ¬ Q k) : TbAt w' P g gt f L := by
  obtain ⟨A, n, c, m1, m2, h⟩ := h
  exact ⟨A, n, c, m1, m2, h.chg hc hp⟩
set_option maxRecDepth 100000 in
theorem TbMem.below (h : TbMem w P g gt f A n c m1 m2 L) (hb : Below w.heap.size w w') : TbMem w' P g gt f A n c m1 m2 L := h.chg (Q := fun _ => False) (Chg.below hb) (fun _ _ h => h)
set_option maxRecDepth 100000 in
theorem TbAt.below (h : TbAt w P g gt f L) (hb : Below w.heap.size w w') : TbAt w' P g gt f L := h.chg (Q := fun _ => False) (Chg.below hb) (fun _ _ h => h)
set_option maxRecDepth 100000 in
theorem TbMem.len (h : TbMem w P g gt f A n c m1 m2 L) : L.length = n := h.own.2.2
set_option maxRecDepth 100000 in
/-- all lies in what there is. -/
theorem TbMem.lt (h : TbMem w P g gt f A n c m1 m2 L) : g < w.heap.size ∧ m1 < w.heap.size ∧ m2 < w.heap.size ∧ ∀ k, (Value.slice A n c).ownBlock = some k → k < w.heap.size :=
  ⟨h.blk.lt, h.mg.lt, h.mn.lt, fun k e => (h.own.own k e).2⟩
set_option maxRecDepth 100000 in
theorem TbMem.bounded (h : TbMem w P g gt f A n c m1 m2 L) : TbMem w (fun k => P k ∧ k < w.heap.size) g gt f A n c m1 m2 L :=
  ⟨h.blk, h.mg, h.mn, h.own, h.bij, ⟨h.pg, h.lt.1⟩, ⟨h.p1, h.lt.2.1⟩, ⟨h.p2, h.lt.2.2.1⟩, fun k e => ⟨h.pi k e, h.lt.2.2.2 k e⟩, h.ne⟩
set_option maxRecDepth 100000 in
theorem TbAt.bounded (h : TbAt w P g gt f L) : TbAt w (fun k => P k ∧ k < w.heap.size) g gt f L := by
  obtain ⟨A, n, c, m1, m2, h⟩ := h
  exact ⟨A, n, c, m1, m2, h.bounded⟩
set_option maxRecDepth 100000 in
theorem TbMem.c0 (h : TbMem w P g gt f A n c m1 m2 L) : w.cell? ⟨g, 0, none⟩ = some (.pointer (some ⟨gt, 0, none⟩)) := h.blk.cell 0
set_option maxRecDepth 100000 in
theorem TbMem.c1 (h : TbMem w P g gt f A n c m1 m2 L) : w.cell? ⟨g, 1, none⟩ = some (.int .i64 (f : Nat)) := h.blk.cell 1
set_option maxRecDepth 100000 in
theorem TbMem.c2 (h : TbMem w P g gt f A n c m1 m2 L) : w.cell? ⟨g, 2, none⟩ = some (.slice A n c) := h.blk.cell 2
set_option maxRecDepth 100000 in
theorem TbMem.c3 (h : TbMem w P g gt f A n c m1 m2 L) : w.cell? ⟨g, 3, none⟩ = some (.map (some m1)) := h.blk.cell 3
set_option maxRecDepth 100000 in
theorem TbMem.c4 (h : TbMem w P g gt f A n c m1 m2 L) : w.cell? ⟨g, 4, none⟩ = some (.map (some m2)) := h.blk.cell 4
end
end
section
open Go.RowKit
open Go.ChangeMaps (setBlock heap_setBlock_same heap_setBlock_other)

/-- each is new when it comes. -/
def NewSeq (m o : Prs) : Prop := ∀ j, j < o.length → newP (m ++ o.take j) (gp o j) = true
set_option maxRecDepth 100000 in
theorem NewSeq.nil (m : Prs) : NewSeq m [] := fun j h => absurd h (by simp)
set_option maxRecDepth 100000 in
theorem gp_left {L M : Prs} {j : Nat} (h : j < L.length) : gp (L ++ M) j = gp L j := by simp [gp, List.getElem?_append, h]
set_option maxRecDepth 100000 in
theorem gp_end (L : Prs) (p : IdL) : gp (L ++ [p]) L.length = p := by simp [gp]
set_option maxRecDepth 100000 in
theorem NewSeq.snoc {m o : Prs} {p : IdL} (h : NewSeq m o) (hp : newP (m ++ o) p = true) : NewSeq m (o ++ [p]) := fun j hj => by
  rw [List.length_append, List.length_singleton] at hj
  rcases Nat.lt_or_ge j o.length with h1 | h1
  · rw [List.take_append_of_le_length (by omega), gp_left h1]
    exact h j h1
  · obtain rfl : j = o.length := by omega
    rw [List.take_left, gp_end]
    exact hp
set_option maxRecDepth 100000 in
theorem NewSeq.out {m : Prs} : ∀ {o l : Prs}, NewSeq m o → NewSeq m (outL m o l)
  | o, [], h => h
  | o, p :: r, h => by
    refine NewSeq.out (o := nextL m o p) (l := r) ?_
    unfold nextL
    by_cases hn : newP (m ++ o) p = true
    · rw [if_pos hn]
      exact h.snoc hn
    · rw [if_neg hn]
      exact h
set_option maxRecDepth 100000 in
theorem take_gp {l : Prs} {j : Nat} (h : j < l.length) : l.take (j + 1) = l.take j ++ [gp l j] := by
  rw [List.take_succ_eq_append_getElem h]
  simp [gp, h]
set_option maxRecDepth 100000 in
theorem Bij.taken {m l : Prs} (h : Bij m) (hl : AllPr l) (hn : NewSeq m l) : ∀ j, j ≤ l.length → Bij (m ++ l.take j)
  | 0, _ => by simpa using h
  | j + 1, hj => by
    rw [take_gp (by omega), ← List.append_assoc]
    exact (Bij.taken h hl hn j (by omega)).add (hl.at_ (by omega)) (hn j (by omega))
set_option maxRecDepth 100000 in
theorem newP_parts {L : Prs} {p : IdL} (h : newP L p = true) : hasG L (git p) = false ∧ hasN L (nod p) = false := by
  unfold newP at h
  rw [Bool.and_eq_true] at h
  exact ⟨by simpa using h.1, by simpa using h.2⟩

set_option maxRecDepth 100000 in
/-- the worlds behind one pair more: the row, the cell of the row, the maps' entries. -/
theorem tb_added {w5 w6 w7 : World} {P : Nat → Prop} {g gt f : Nat} {A A6 : Option Addr} {n c c6 m1 m2 : Nat} {L : Prs} {p : IdL} (hm : TbMem w5 P g gt f A n c m1 m2 L) (hp : IsPr p) (hnew : newP L p = true)
    (hg6 : w5.grownBy w6 (Value.slice A n c).ownBlock) (ho6 : OPrs w6 0 (.slice A6 (n + 1) c6) (n + 1) (L ++ [p])) (hat : (Value.slice A6 (n + 1) c6).ownBlock = (Value.slice A n c).ownBlock ∨ (Value.slice A6 (n + 1) c6).ownBlock = some w5.heap.size)
    (hs7 : w6.grownBy w7 (some g)) (hbl7 : Blk w7 g 64 #[.pointer (some ⟨gt, 0, none⟩), .int .i64 (f : Nat), .slice A6 (n + 1) c6, .map (some m1), .map (some m2)]) :
    ∃ w8 w9 w10 w11 : World, (Instr.mapEntry 62 (.map (some m1)) (ida (git p))).run Try.prog w7 = .ok (.tuple #[ida zeroL, .int .i64 (L.length : Nat)]) w8 ∧
      (Instr.entryStore 62 (.map (some m1)) (.int .i64 (L.length : Nat)) (ida (nod p))).run Try.prog w8 = .ok () w9 ∧
      (Instr.mapEntry 62 (.map (some m2)) (ida (nod p))).run Try.prog w9 = .ok (.tuple #[ida zeroL, .int .i64 (L.length : Nat)]) w10 ∧
      (Instr.entryStore 62 (.map (some m2)) (.int .i64 (L.length : Nat)) (ida (git p))).run Try.prog w10 = .ok () w11 ∧
      (∀ q v, w7.cell? q = some v → w8.cell? q = some v ∧ w9.cell? q = some v ∧ w10.cell? q = some v ∧ w11.cell? q = some v) ∧
      TbMem w11 (fun k => P k ∨ w5.heap.size ≤ k) g gt f A6 (n + 1) c6 m1 m2 (L ++ [p]) ∧ Chg P w5 w11 := by
  obtain ⟨n1, n2⟩ := newP_parts hnew
  have hown : ∀ k, (Value.slice A n c).ownBlock = some k → k ≠ g ∧ k ≠ m1 ∧ k ≠ m2 := fun k e => ⟨hm.own.notBlk hm.blk (by decide) k e, hm.mg.notOwn hm.own k e, hm.mn.notOwn hm.own k e⟩
  have hmg := hm.mg.notBlk hm.blk
  have hng := hm.mn.notBlk hm.blk
  have hlt := hm.lt
  have hown6 : ∀ k, (Value.slice A6 (n + 1) c6).ownBlock = some k → k ≠ g ∧ k ≠ m1 ∧ k ≠ m2 := fun k e => by
    rcases hat with h | h
    · exact hown k (by rw [← h]; exact e)
    · rw [h] at e
      injection e with e
      omega
  have hm6 := hm.mg.grown hg6 (fun e => (hown _ e.symm).2.1 rfl)
  have hn6 := hm.mn.grown hg6 (fun e => (hown _ e.symm).2.2 rfl)
  have ho7 := ho6.kept hs7 (own_far fun k e => (hown6 k e).1)
  have hm7 := hm6.grown hs7 (fun e => hmg (by injection e))
  have hn7 := hn6.grown hs7 (fun e => hng (by injection e))
  have lg : (kvG L).length = L.length := by simp [kvG]
  have ln : (kvN L).length = L.length := by simp [kvN]
  have hz : ida zeroL = .agg zid := rfl
  have q8 := (hm7.entry mapTy (zeroId w7) hp.git (by rw [kvG_has]; exact n1)).1
  have h8 := (hm7.entry mapTy (zeroId w7) hp.git (by rw [kvG_has]; exact n1)).2
  have g8 := hm7.setb_grown (mobj (kvG L ++ [(git p, ida zeroL)]))
  obtain ⟨w8, e8⟩ : ∃ w8, w8 = setBlock w7 m1 (mobj (kvG L ++ [(git p, ida zeroL)])) := ⟨_, rfl⟩
  have h8 : IMap w8 m1 (kvG L ++ [(git p, ida zeroL)]) := by rw [e8]; exact h8
  rw [← e8] at g8
  rw [← hz] at q8
  have hbl8 := hbl7.grown g8 (fun e => hmg (by injection e with e; exact e.symm))
  have ho8 := ho7.kept g8 (own_far fun k e => (hown6 k e).2.1)
  have hn8 := hn7.grown g8 (fun e => hm.ne (by injection e with e; exact e.symm))
  have q9 := (h8.entryStore 62 (ida (nod p))).1
  have h9 := (h8.entryStore 62 (ida (nod p))).2
  have g9 := h8.setb_grown (mobj (kvG (L ++ [p])))
  rw [← kvG_snoc] at h9 q9
  rw [lg] at q8 q9
  obtain ⟨w9, e9⟩ : ∃ w9, w9 = setBlock w8 m1 (mobj (kvG (L ++ [p]))) := ⟨_, rfl⟩
  rw [← e9] at h9 g9
  have hbl9 := hbl8.grown g9 (fun e => hmg (by injection e with e; exact e.symm))
  have ho9 := ho8.kept g9 (own_far fun k e => (hown6 k e).2.1)
  have hn9 := hn8.grown g9 (fun e => hm.ne (by injection e with e; exact e.symm))
  have q10 := (hn9.entry mapTy (zeroId w9) hp.node (by rw [kvN_has]; exact n2)).1
  have h10 := (hn9.entry mapTy (zeroId w9) hp.node (by rw [kvN_has]; exact n2)).2
  have g10 := hn9.setb_grown (mobj (kvN L ++ [(nod p, ida zeroL)]))
  obtain ⟨w10, e10⟩ : ∃ w10, w10 = setBlock w9 m2 (mobj (kvN L ++ [(nod p, ida zeroL)])) := ⟨_, rfl⟩
  have h10 : IMap w10 m2 (kvN L ++ [(nod p, ida zeroL)]) := by rw [e10]; exact h10
  rw [← e10] at g10
  have hbl10 := hbl9.grown g10 (fun e => hng (by injection e with e; exact e.symm))
  have ho10 := ho9.kept g10 (own_far fun k e => (hown6 k e).2.2)
  have hm10 := h9.grown g10 (fun e => hm.ne (by injection e))
  have q11 := (h10.entryStore 62 (ida (git p))).1
  have h11 := (h10.entryStore 62 (ida (git p))).2
  have g11 := h10.setb_grown (mobj (kvN (L ++ [p])))
  rw [← kvN_snoc] at h11 q11
  rw [ln] at q10 q11
  obtain ⟨w11, e11⟩ : ∃ w11, w11 = setBlock w10 m2 (mobj (kvN (L ++ [p]))) := ⟨_, rfl⟩
  rw [← e11] at h11 g11
  have hbl11 := hbl10.grown g11 (fun e => hng (by injection e with e; exact e.symm))
  have ho11 := ho10.kept g11 (own_far fun k e => (hown6 k e).2.2)
  have hm11 := hm10.grown g11 (fun e => hm.ne (by injection e))
  refine ⟨w8, w9, w10, w11, by rw [e8]; exact q8, by rw [e9]; exact q9, by rw [e10]; exact q10, by rw [e11]; exact q11, fun q v hv => ?_, ⟨hbl11, hm11, h11, ho11, hm.bij.add hp hnew, .inl hm.pg, .inl hm.p1, .inl hm.p2, fun k e => ?_, hm.ne⟩, ?_⟩
  · have a8 : w8.cell? q = some v := by rw [e8]; exact (hm7.cells _ hv).2
    have a9 : w9.cell? q = some v := by rw [e9]; exact (h8.cells _ a8).2
    have a10 : w10.cell? q = some v := by rw [e10]; exact (hn9.cells _ a9).2
    exact ⟨a8, a9, a10, by rw [e11]; exact (h10.cells _ a10).2⟩
  · rcases hat with h | h
    · exact .inl (hm.pi k (by rw [← h]; exact e))
    · rw [h] at e
      injection e with e
      exact .inr (by omega)
  · have c6 : Chg P w5 w6 := Chg.grown hg6 fun k e => hm.pi k e
    have c7 : Chg P w6 w7 := Chg.grown hs7 fun k e => by injection e with e; exact e ▸ hm.pg
    have c8 : Chg P w7 w8 := Chg.grown g8 fun k e => by injection e with e; exact e ▸ hm.p1
    have c9 : Chg P w8 w9 := Chg.grown g9 fun k e => by injection e with e; exact e ▸ hm.p1
    have c10 : Chg P w9 w10 := Chg.grown g10 fun k e => by injection e with e; exact e ▸ hm.p2
    have c11 : Chg P w10 w11 := Chg.grown g11 fun k e => by injection e with e; exact e ▸ hm.p2
    have i : ∀ {W : World} i, P i → P i ∨ W.heap.size ≤ i := fun i h => .inl h
    exact ((((c6.then c7 i).then c8 i).then c9 i).then c10 i).then c11 i
end
end Go.Proofs.Ytokamaogognjoaa
