/-
  GraphOrder's plain law.
-/
import Derived.Test.YtaaiojeehhbhhaaGr10
import Derived.Test.YtaaiojeehhbhhaaGr11
set_option linter.unusedVariables false
set_option linter.unusedSimpArgs false
namespace Go.Proofs.Ytaaiojeehhbhhaa
open Go.RowKit

/-- a graph of few, each of few parents. -/
structure Gfew (G : Gph) (N : Nat) : Prop where
  inv : GInv G
  len : G.length ≤ N
  ps : ∀ j, j < G.length → (nd G j).ps.length ≤ 10
theorem Gfew.nil : Gfew [] 0 := ⟨GInv.nil, Nat.le_refl _, fun j hj => by simp at hj⟩
theorem Gfew.more {G : Gph} {N : Nat} (h : Gfew G N) : Gfew G (N + 1) := ⟨h.inv, by have := h.len; omega, h.ps⟩
theorem Gfew.add {G : Gph} {N : Nat} (h : Gfew G N) {x : IdL} {ps : List IdL} (hx : IsId x) (hp : ∀ p ∈ ps, IsId p) (hl : ps.length ≤ 10) : Gfew (addG G x ps) (N + 1) := by
  classical
  by_cases e : addG G x ps = G
  · rw [e]
    exact h.more
  · have hn : look G x = none := by
      cases hk : look G x with
      | none => rfl
      | some w => exact absurd (addG_some hk) e
    have he : addE G x ps = 0 := by
      by_cases h0 : addE G x ps = 0
      · exact h0
      · exact absurd (addG_bad h0) e
    have hG := addG_ok hn he
    have hi := h.inv.addInv hx hp
    have hln := h.len
    refine ⟨hi, by rw [hG]; simp; omega, ?_⟩
    rw [hG]
    intro j hj
    simp at hj
    rcases Nat.lt_or_ge j G.length with hl' | hl'
    · rw [nd_left hl']
      exact h.ps j hl'
    · obtain rfl : j = G.length := by omega
      rw [nd_end]
      exact hl
section
variable {G : Gph} (h : GInv G)
include h
theorem ps_at {j : Nat} (hj : j < G.length) : psOf G (nd G j).id = (nd G j).ps := by
  unfold psOf
  rw [look_some h.nd hj]
  rfl
theorem nd_inj {i j : Nat} (hi : i < G.length) (hj : j < G.length) (e : (nd G i).id = (nd G j).id) : i = j := by
  have hn := h.nd
  have e1 : (ids G)[i]? = (ids G)[j]? := by
    have a1 := gid_some (L := ids G) (j := i) (by rw [ids_length]; exact hi)
    have a2 := gid_some (L := ids G) (j := j) (by rw [ids_length]; exact hj)
    rw [a1, a2, ids_gid hi, ids_gid hj, e]
  exact (List.getElem?_inj (by rw [ids_length]; exact hi) hn).1 e1
theorem par_in {x p : IdL} (hx : x ∈ ids G) (hp : p ∈ psOf G x) : p ∈ ids G := by
  obtain ⟨j, hj, rfl⟩ := mem_ids hx
  rw [ps_at h hj] at hp
  obtain ⟨_, i, hi, e⟩ := h.par j hj p hp
  rw [← e]
  exact List.mem_of_getElem? (by have := gid_some (L := ids G) (j := i) (by rw [ids_length]; omega); rw [ids_gid (by omega)] at this; exact this)
theorem par_isId {x p : IdL} (hx : x ∈ ids G) (hp : p ∈ psOf G x) : IsId p := by
  obtain ⟨j, hj, rfl⟩ := mem_ids hx
  rw [ps_at h hj] at hp
  exact (h.par j hj p hp).1
theorem ps_few (hf : ∀ j, j < G.length → (nd G j).ps.length ≤ 10) {x : IdL} (hx : x ∈ ids G) : (psOf G x).length ≤ 10 := by
  obtain ⟨j, hj, rfl⟩ := mem_ids hx
  rw [ps_at h hj]
  exact hf j hj
theorem comes_self {x : IdL} (hx : x ∈ ids G) : comesB G x x = true := by
  have _ := h
  unfold comesB hasB
  rw [decide_eq_true hx, reachB_true (.base (by simp) hx)]
  rfl
theorem comes_par {x p : IdL} (hx : x ∈ ids G) (hp : p ∈ psOf G x) : comesB G x p = true := by
  have hpi := par_in h hx hp
  unfold comesB hasB
  rw [decide_eq_true hx, decide_eq_true hpi, reachB_true (.step (.base (by simp) hx) hp hpi)]
  rfl
theorem comes_par2 {x p q : IdL} (hx : x ∈ ids G) (hp : p ∈ psOf G x) (hq : q ∈ psOf G p) : comesB G x q = true := by
  have hpi := par_in h hx hp
  have hqi := par_in h hpi hq
  unfold comesB hasB
  rw [decide_eq_true hx, decide_eq_true hqi, reachB_true (.step (.step (.base (by simp) hx) hp hpi) hq hqi)]
  rfl
theorem par_ahead {j : Nat} {p : IdL} (hj : j < G.length) (hp : p ∈ psOf G (nd G j).id) : p ∈ (ids G).take j := by
  rw [ps_at h hj] at hp
  obtain ⟨_, i, hi, e⟩ := h.par j hj p hp
  have := gid_some (L := ids G) (j := i) (by rw [ids_length]; omega)
  rw [ids_gid (by omega), e] at this
  refine List.mem_of_getElem? (i := i) ?_
  rw [List.getElem?_take_of_lt hi]
  exact this
theorem id_mem {j : Nat} (hj : j < G.length) : (nd G j).id ∈ ids G := by
  have _ := h
  have := gid_some (L := ids G) (j := j) (by rw [ids_length]; exact hj)
  rw [ids_gid hj] at this
  exact List.mem_of_getElem? this
theorem heads_reach : ∀ d j, j < G.length → G.length - j ≤ d → Reach G (headsG G) (nd G j).id
  | 0, j, hj, hd => absurd hd (by omega)
  | d + 1, j, hj, hd => by
    by_cases hp : parB G (nd G j).id = true
    · obtain ⟨m, hm, hx⟩ := parB_iff.1 hp
      have hlt : j < m := by
        obtain ⟨_, i, hi, e⟩ := h.par m hm _ hx
        have := nd_inj h (by omega) hj e
        omega
      exact .step (heads_reach d m hm (by omega)) (by rw [ps_at h hm]; exact hx) (id_mem h hj)
    · exact .base (by
        unfold headsG
        rw [List.mem_filter]
        exact ⟨id_mem h hj, by simpa using hp⟩) (id_mem h hj)
theorem close_heads : closeG G (headsG G) = ids G := by
  unfold closeG
  refine List.filter_eq_self.2 fun x hx => ?_
  obtain ⟨j, hj, rfl⟩ := mem_ids hx
  exact reachB_true (heads_reach h G.length j hj (by omega))
end
theorem heads_len (G : Gph) : (headsG G).length ≤ G.length := by
  unfold headsG
  have := List.length_filter_le (fun x => !parB G x) (ids G)
  rw [ids_length] at this
  exact this
end Go.Proofs.Ytaaiojeehhbhhaa
