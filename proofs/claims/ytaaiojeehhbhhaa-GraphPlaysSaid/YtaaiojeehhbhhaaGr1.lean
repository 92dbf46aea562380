/-
  Graphs on lists: who is there, what an addition answers, who comes from whom. No Go in sight.
-/
import Derived.Test.YtaaiojeehhbhhaaGr0
set_option linter.unusedVariables false
set_option linter.unusedSimpArgs false
namespace Go.Proofs.Ytaaiojeehhbhhaa

abbrev IdL := List Int
/-- a node: its id, its parents. -/
structure Nd where
  id : IdL
  ps : List IdL
abbrev Gph := List Nd
def nd (G : Gph) (j : Nat) : Nd := G.getD j ⟨[], []⟩
theorem nd_some {G : Gph} {j : Nat} (h : j < G.length) : G[j]? = some (nd G j) := by simp [nd, h]
def ids (G : Gph) : List IdL := G.map Nd.id
theorem ids_length (G : Gph) : (ids G).length = G.length := by simp [ids]
theorem ids_gid {G : Gph} {j : Nat} (h : j < G.length) : gid (ids G) j = (nd G j).id := by simp [gid, ids, nd, h]
theorem ids_snoc (G : Gph) (x : Nd) : ids (G ++ [x]) = ids G ++ [x.id] := by simp [ids]
def look (G : Gph) (x : IdL) : Option (List IdL) := (G.find? fun n => n.id == x).map Nd.ps
def hasB (G : Gph) (x : IdL) : Bool := decide (x ∈ ids G)
def psOf (G : Gph) (x : IdL) : List IdL := (look G x).getD []
def zeroL : IdL := List.replicate 20 0
theorem zeroL_id : IsId zeroL := ⟨by simp [zeroL], fun x hx => by unfold zeroL at hx; rw [List.mem_replicate] at hx; omega⟩
theorem look_none {G : Gph} {x : IdL} (h : x ∉ ids G) : look G x = none := by
  unfold look
  rw [List.find?_eq_none.2 fun n hn => by
    simp only [beq_iff_eq]
    intro e
    exact h (List.mem_map.2 ⟨n, hn, e⟩)]
  rfl
theorem look_some {G : Gph} (hn : (ids G).Nodup) {j : Nat} (hj : j < G.length) : look G (nd G j).id = some (nd G j).ps := by
  unfold look
  cases hf : G.find? fun n => n.id == (nd G j).id with
  | none => exact absurd (List.find?_eq_none.1 hf (nd G j) (List.mem_of_getElem? (nd_some hj))) (by simp)
  | some n =>
    have h1 := List.find?_some hf
    have h2 := List.mem_of_find?_eq_some hf
    obtain ⟨i, hi⟩ := List.mem_iff_getElem?.1 h2
    have hil := (List.getElem?_eq_some_iff.1 hi).1
    have e1 : (ids G)[i]? = some n.id := by simp [ids, hi]
    have e2 : (ids G)[j]? = some (nd G j).id := by simp [ids, nd_some hj]
    simp only [beq_iff_eq] at h1
    have := (List.getElem?_inj (by rw [ids_length]; exact hil) hn).1 (by rw [e1, e2, h1] : (ids G)[i]? = (ids G)[j]?)
    subst this
    rw [nd_some hj] at hi
    injection hi with hi
    rw [← hi]
    rfl
theorem mem_ids {G : Gph} {x : IdL} (h : x ∈ ids G) : ∃ j, j < G.length ∧ (nd G j).id = x := by
  obtain ⟨j, hj⟩ := List.mem_iff_getElem?.1 h
  have hl := (List.getElem?_eq_some_iff.1 hj).1
  rw [ids_length] at hl
  refine ⟨j, hl, ?_⟩
  simp [ids, nd_some hl] at hj
  exact hj
/-- what 'Add' answers. -/
noncomputable def addE (G : Gph) (x : IdL) (ps : List IdL) : Int := by
  classical
  exact match look G x with
  | some was => if was = ps then 0 else 8
  | none => if ∃ p ∈ ps, p ∉ ids G then 6 else if x = zeroL then 1 else if 5000 ≤ G.length then 5 else 0
/-- the graph behind it. -/
noncomputable def addG (G : Gph) (x : IdL) (ps : List IdL) : Gph := by
  classical
  exact match look G x with
  | some _ => G
  | none => if addE G x ps = 0 then G ++ [⟨x, ps⟩] else G
/-- a graph as it may come about. -/
structure GInv (G : Gph) : Prop where
  nd : (ids G).Nodup
  len : G.length ≤ 5000
  idok : ∀ j, j < G.length → IsId (Ytaaiojeehhbhhaa.nd G j).id ∧ (Ytaaiojeehhbhhaa.nd G j).id ≠ zeroL
  par : ∀ j, j < G.length → ∀ p ∈ (Ytaaiojeehhbhhaa.nd G j).ps, IsId p ∧ ∃ i, i < j ∧ (Ytaaiojeehhbhhaa.nd G i).id = p
theorem GInv.nil : GInv [] := ⟨by simp [ids], by simp, fun j hj => by simp at hj, fun j hj => by simp at hj⟩
theorem nd_left {G : Gph} {x : Nd} {j : Nat} (h : j < G.length) : nd (G ++ [x]) j = nd G j := by simp [nd, List.getD_eq_getElem?_getD, List.getElem?_append, h]
theorem nd_end {G : Gph} {x : Nd} : nd (G ++ [x]) G.length = x := by simp [nd, List.getD_eq_getElem?_getD]
theorem GInv.add {G : Gph} (h : GInv G) {x : IdL} {ps : List IdL} (hx : IsId x) (hp : ∀ p ∈ ps, IsId p) (h1 : x ∉ ids G) (h2 : ∀ p ∈ ps, p ∈ ids G) (h3 : x ≠ zeroL) (h4 : G.length < 5000) : GInv (G ++ [⟨x, ps⟩]) := by
  refine ⟨?_, by simp; omega, fun j hj => ?_, fun j hj p hpj => ?_⟩
  · rw [ids_snoc]
    refine List.nodup_append.2 ⟨h.nd, by simp, fun y hy z hz e => ?_⟩
    simp at hz
    subst hz
    subst e
    exact h1 hy
  · simp at hj
    rcases Nat.lt_or_ge j G.length with hl | hl
    · rw [nd_left hl]; exact h.idok j hl
    · obtain rfl : j = G.length := by omega
      rw [nd_end]
      exact ⟨hx, h3⟩
  · simp at hj
    rcases Nat.lt_or_ge j G.length with hl | hl
    · rw [nd_left hl] at hpj
      obtain ⟨a, i, hi, e⟩ := h.par j hl p hpj
      exact ⟨a, i, hi, by rw [nd_left (by omega)]; exact e⟩
    · obtain rfl : j = G.length := by omega
      rw [nd_end] at hpj
      obtain ⟨i, hi, e⟩ := mem_ids (h2 p hpj)
      exact ⟨hp p hpj, i, hi, by rw [nd_left hi]; exact e⟩
theorem addE_some {G : Gph} {x : IdL} {ps was : List IdL} (h : look G x = some was) : addE G x ps = if was = ps then 0 else 8 := by
  unfold addE
  rw [h]
theorem addG_some {G : Gph} {x : IdL} {ps was : List IdL} (h : look G x = some was) : addG G x ps = G := by
  unfold addG
  simp only [h]
theorem addE_none {G : Gph} {x : IdL} {ps : List IdL} (h : look G x = none) [Decidable (∃ p ∈ ps, p ∉ ids G)] : addE G x ps = if ∃ p ∈ ps, p ∉ ids G then 6 else if x = zeroL then 1 else if 5000 ≤ G.length then 5 else 0 := by
  unfold addE
  rw [h]
  by_cases e1 : ∃ p ∈ ps, p ∉ ids G
  · simp only [if_pos e1]
  · simp only [if_neg e1]
theorem addG_ok {G : Gph} {x : IdL} {ps : List IdL} (h : look G x = none) (he : addE G x ps = 0) : addG G x ps = G ++ [⟨x, ps⟩] := by
  unfold addG
  rw [h]
  simp only [he, if_true]
theorem addG_bad {G : Gph} {x : IdL} {ps : List IdL} (he : addE G x ps ≠ 0) : addG G x ps = G := by
  unfold addG
  cases look G x with
  | none => simp only [if_neg he]
  | some w => rfl
theorem look_isSome {G : Gph} {x : IdL} : (look G x).isSome = hasB G x := by
  unfold hasB
  by_cases h : x ∈ ids G
  · rw [decide_eq_true h]
    unfold look
    obtain ⟨j, hj, e⟩ := mem_ids h
    cases hf : G.find? fun n => n.id == x with
    | none => exact absurd (List.find?_eq_none.1 hf (nd G j) (List.mem_of_getElem? (nd_some hj))) (by simp [e])
    | some n => rfl
  · rw [look_none h, decide_eq_false h]
    rfl
theorem GInv.addInv {G : Gph} (h : GInv G) {x : IdL} {ps : List IdL} (hx : IsId x) (hp : ∀ p ∈ ps, IsId p) : GInv (addG G x ps) := by
  classical
  by_cases he : addE G x ps = 0
  · cases hl : look G x with
    | some was => rw [addG_some hl]; exact h
    | none =>
      rw [addG_ok hl he]
      have hnx : x ∉ ids G := fun hm => by
        have := look_isSome (G := G) (x := x)
        rw [hl] at this
        unfold hasB at this
        rw [decide_eq_true hm] at this
        cases this
      rw [addE_none hl] at he
      by_cases e1 : ∃ p ∈ ps, p ∉ ids G
      · rw [if_pos e1] at he; omega
      · rw [if_neg e1] at he
        by_cases e2 : x = zeroL
        · rw [if_pos e2] at he; omega
        · rw [if_neg e2] at he
          by_cases e3 : 5000 ≤ G.length
          · rw [if_pos e3] at he; omega
          · exact h.add hx hp hnx (fun p hpp => Classical.not_not.1 fun hn => e1 ⟨p, hpp, hn⟩) e2 (by omega)
  · rw [addG_bad he]; exact h

/-! ### who comes from whom -/
/-- reached from some. -/
inductive Reach (G : Gph) (S : List IdL) : IdL → Prop
  | base {x : IdL} : x ∈ S → x ∈ ids G → Reach G S x
  | step {x p : IdL} : Reach G S x → p ∈ psOf G x → p ∈ ids G → Reach G S p
theorem Reach.inG {G : Gph} {S : List IdL} {x : IdL} (h : Reach G S x) : x ∈ ids G := by
  cases h with
  | base _ h => exact h
  | step _ _ h => exact h
/-- a set that is closed and holds the beginning holds all. -/
theorem Reach.least {G : Gph} {S T : List IdL} (h1 : ∀ x ∈ S, x ∈ ids G → x ∈ T) (h2 : ∀ x ∈ T, ∀ p ∈ psOf G x, p ∈ ids G → p ∈ T) {x : IdL} (h : Reach G S x) : x ∈ T := by
  induction h with
  | base a b => exact h1 _ a b
  | step _ a b ih => exact h2 _ ih _ a b
noncomputable def reachB (G : Gph) (S : List IdL) (x : IdL) : Bool := by
  classical
  exact decide (Reach G S x)
theorem reachB_true {G : Gph} {S : List IdL} {x : IdL} (h : Reach G S x) : reachB G S x = true := by unfold reachB; simpa using h
theorem reachB_false {G : Gph} {S : List IdL} {x : IdL} (h : ¬ Reach G S x) : reachB G S x = false := by unfold reachB; simpa using h
theorem reachB_iff {G : Gph} {S : List IdL} {x : IdL} : reachB G S x = true ↔ Reach G S x := by unfold reachB; simp
/-- all that some come from, in order. -/
noncomputable def closeG (G : Gph) (S : List IdL) : List IdL := (ids G).filter (reachB G S)
/-- is somebody's parent. -/
def parB (G : Gph) (x : IdL) : Bool := G.any fun n => decide (x ∈ n.ps)
def headsG (G : Gph) : List IdL := (ids G).filter fun x => !parB G x
/-- the search's state: what has been seen, what is to be done; how much is left. -/
def leftM (G : Gph) (seen : List IdL) : Nat := ((G.filter fun n => decide (n.id ∉ seen)).map fun n => 1 + n.ps.length).sum
structure Srch (G : Gph) (S seen todo : List IdL) : Prop where
  sound : ∀ x ∈ seen, Reach G S x
  cand : ∀ x ∈ todo, x ∈ ids G → Reach G S x
  start : ∀ x ∈ S, x ∈ ids G → x ∈ seen ∨ x ∈ todo
  clos : ∀ x ∈ seen, ∀ p ∈ psOf G x, p ∈ ids G → p ∈ seen ∨ p ∈ todo
theorem Srch.init (G : Gph) (S : List IdL) : Srch G S [] S := ⟨fun _ h => by simp at h, fun x h h' => .base h h', fun x h _ => .inr h, fun _ h => by simp at h⟩
theorem Srch.skip {G : Gph} {S seen todo : List IdL} {x : IdL} (h : Srch G S seen (todo ++ [x])) (hx : x ∉ ids G ∨ x ∈ seen) : Srch G S seen todo := by
  refine ⟨h.sound, fun y hy => h.cand y (by simp [hy]), fun y hy hg => ?_, fun y hy p hp hg => ?_⟩
  · rcases h.start y hy hg with h' | h'
    · exact .inl h'
    · rcases List.mem_append.1 h' with h' | h'
      · exact .inr h'
      · simp at h'; subst h'
        rcases hx with hx | hx
        · exact absurd hg hx
        · exact .inl hx
  · rcases h.clos y hy p hp hg with h' | h'
    · exact .inl h'
    · rcases List.mem_append.1 h' with h' | h'
      · exact .inr h'
      · simp at h'; subst h'
        rcases hx with hx | hx
        · exact absurd hg hx
        · exact .inl hx
theorem Srch.visit {G : Gph} {S seen todo : List IdL} {x : IdL} (h : Srch G S seen (todo ++ [x])) (hx : x ∈ ids G) : Srch G S (seen ++ [x]) (todo ++ psOf G x) := by
  have hr := h.cand x (by simp) hx
  refine ⟨fun y hy => ?_, fun y hy hg => ?_, fun y hy hg => ?_, fun y hy p hp hg => ?_⟩
  · rcases List.mem_append.1 hy with hy | hy
    · exact h.sound y hy
    · simp at hy; subst hy; exact hr
  · rcases List.mem_append.1 hy with hy | hy
    · exact h.cand y (by simp [hy]) hg
    · exact .step hr hy hg
  · rcases h.start y hy hg with h' | h'
    · exact .inl (by simp [h'])
    · rcases List.mem_append.1 h' with h' | h'
      · exact .inr (by simp [h'])
      · exact .inl (by simp at h'; simp [h'])
  · rcases List.mem_append.1 hy with hy | hy
    · rcases h.clos y hy p hp hg with h' | h'
      · exact .inl (by simp [h'])
      · rcases List.mem_append.1 h' with h' | h'
        · exact .inr (by simp [h'])
        · exact .inl (by simp at h'; simp [h'])
    · simp at hy; subst hy
      exact .inr (by simp [hp])
theorem Srch.done {G : Gph} {S seen : List IdL} (h : Srch G S seen []) (x : IdL) : x ∈ seen ↔ Reach G S x :=
  ⟨h.sound x, fun hr => Reach.least (fun y hy hg => by simpa using h.start y hy hg) (fun y hy p hp hg => by simpa using h.clos y hy p hp hg) hr⟩
theorem sum_filter_lt (f : Nd → Nat) (p q : Nd → Bool) (hpq : ∀ n, q n = true → p n = true) : ∀ (G : Gph), ((G.filter q).map f).sum ≤ ((G.filter p).map f).sum
  | [] => by simp
  | n :: G => by
    have ih := sum_filter_lt f p q hpq G
    by_cases hq : q n = true
    · simp only [List.filter_cons, hq, hpq n hq, if_true, List.map_cons, List.sum_cons]
      omega
    · rw [List.filter_cons_of_neg hq]
      by_cases hp : p n = true
      · simp only [List.filter_cons, hp, if_true, List.map_cons, List.sum_cons]
        omega
      · rw [List.filter_cons_of_neg hp]
        exact ih
theorem sum_filter_drop (f : Nd → Nat) (p q : Nd → Bool) (hpq : ∀ n, q n = true → p n = true) : ∀ (G : Gph) (m : Nd), m ∈ G → p m = true → q m = false → ((G.filter q).map f).sum + f m ≤ ((G.filter p).map f).sum
  | [], m, h, _, _ => by simp at h
  | n :: G, m, h, hp, hq => by
    rcases List.mem_cons.1 h with rfl | h
    · have ih := sum_filter_lt f p q hpq G
      rw [List.filter_cons_of_neg (by rw [hq]; simp)]
      simp only [List.filter_cons, hp, if_true, List.map_cons, List.sum_cons]
      omega
    · have ih := sum_filter_drop f p q hpq G m h hp hq
      by_cases hqn : q n = true
      · simp only [List.filter_cons, hqn, hpq n hqn, if_true, List.map_cons, List.sum_cons]
        omega
      · rw [List.filter_cons_of_neg hqn]
        by_cases hpn : p n = true
        · simp only [List.filter_cons, hpn, if_true, List.map_cons, List.sum_cons]
          omega
        · rw [List.filter_cons_of_neg hpn]
          exact ih
theorem leftM_visit {G : Gph} (hn : (ids G).Nodup) {seen : List IdL} {x : IdL} (hx : x ∈ ids G) (hs : x ∉ seen) : leftM G (seen ++ [x]) + (1 + (psOf G x).length) ≤ leftM G seen := by
  obtain ⟨j, hj, e⟩ := mem_ids hx
  have hps : psOf G x = (nd G j).ps := by unfold psOf; rw [← e, look_some hn hj]; rfl
  rw [hps]
  unfold leftM
  refine sum_filter_drop (fun n => 1 + n.ps.length) (fun n => decide (n.id ∉ seen)) (fun n => decide (n.id ∉ seen ++ [x])) (fun n h => ?_) G (nd G j) (List.mem_of_getElem? (nd_some hj)) ?_ ?_
  · simp only [decide_eq_true_eq] at h ⊢
    exact fun h' => h (List.mem_append.2 (.inl h'))
  · rw [e]; simpa using hs
  · rw [e]; simp
end Go.Proofs.Ytaaiojeehhbhhaa
