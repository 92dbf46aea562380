/-
  GraphLine's plain law: a line.
-/
import Derived.Test.YtaaiojeehhbhhaaGr10
import Derived.Test.YtaaiojeehhbhhaaGr11
set_option linter.unusedVariables false
set_option linter.unusedSimpArgs false
namespace Go.Proofs.Ytaaiojeehhbhhaa
open Go.RowKit

def lid (m : Nat) : IdL := ((m : Int) + 1) :: List.replicate 19 0
def lps : Nat → List IdL
  | 0 => []
  | m + 1 => [lid m]
def lnG : Nat → Gph
  | 0 => []
  | m + 1 => lnG m ++ [⟨lid m, lps m⟩]
theorem lid_inj {a b : Nat} (h : lid a = lid b) : a = b := by
  unfold lid at h
  injection h with h _
  omega
theorem lid_id {m : Nat} (h : m ≤ 200) : IsId (lid m) := ⟨by simp [lid], fun x hx => by
  unfold lid at hx
  rcases List.mem_cons.1 hx with rfl | hx
  · omega
  · rw [List.mem_replicate] at hx; omega⟩
theorem lid_zero (m : Nat) : lid m ≠ zeroL := fun h => by
  unfold lid zeroL at h
  rw [show (20 : Nat) = 19 + 1 from rfl, List.replicate_succ] at h
  injection h with h _
  omega
theorem lnG_len : ∀ m, (lnG m).length = m
  | 0 => rfl
  | m + 1 => by simp [lnG, lnG_len m]
theorem lnG_ids : ∀ m, ids (lnG m) = (List.range m).map lid
  | 0 => rfl
  | m + 1 => by
    show ids (lnG m ++ [⟨lid m, lps m⟩]) = _
    rw [ids_snoc, lnG_ids m, List.range_succ, List.map_append]
    rfl
theorem lnG_nd : ∀ m j, j < m → nd (lnG m) j = ⟨lid j, lps j⟩
  | 0, j, h => absurd h (by omega)
  | m + 1, j, h => by
    show nd (lnG m ++ [⟨lid m, lps m⟩]) j = _
    by_cases e : j < m
    · rw [nd_left (by rw [lnG_len]; exact e)]
      exact lnG_nd m j e
    · obtain rfl : j = m := by omega
      have := nd_end (G := lnG j) (x := ⟨lid j, lps j⟩)
      rw [lnG_len] at this
      exact this
theorem lnG_mem {m j : Nat} : lid j ∈ ids (lnG m) ↔ j < m := by
  rw [lnG_ids, List.mem_map]
  constructor
  · rintro ⟨k, hk, e⟩
    have := lid_inj e
    rw [List.mem_range] at hk
    omega
  · exact fun h => ⟨j, List.mem_range.2 h, rfl⟩
theorem lps_in {m : Nat} : ∀ p ∈ lps m, ∃ k, k < m ∧ p = lid k := by
  cases m with
  | zero => intro p hp; simp [lps] at hp
  | succ m => intro p hp; simp [lps] at hp; exact ⟨m, by omega, hp⟩
theorem lnG_none (m : Nat) : look (lnG m) (lid m) = none := look_none (by rw [lnG_mem]; omega)
theorem line_addE (m : Nat) (h : m < 5000) : addE (lnG m) (lid m) (lps m) = 0 := by
  classical
  rw [addE_none (lnG_none m), if_neg, if_neg (lid_zero m), if_neg (by rw [lnG_len]; omega)]
  rintro ⟨p, hp, hn⟩
  obtain ⟨k, hk, rfl⟩ := lps_in p hp
  exact hn (lnG_mem.2 hk)
theorem line_addG (m : Nat) (h : m < 5000) : addG (lnG m) (lid m) (lps m) = lnG (m + 1) := addG_ok (lnG_none m) (line_addE m h)
theorem line_inv : ∀ m, m ≤ 100 → GInv (lnG m)
  | 0, _ => GInv.nil
  | m + 1, h => by
    rw [← line_addG m (by omega)]
    exact (line_inv m (by omega)).addInv (lid_id (by omega)) fun p hp => by
      obtain ⟨k, hk, rfl⟩ := lps_in p hp
      exact lid_id (by omega)
theorem lps_len (m : Nat) : (lps m).length ≤ 1 := by cases m <;> simp [lps]
theorem line_ps (m : Nat) : ∀ j, j < (lnG m).length → (nd (lnG m) j).ps.length ≤ 1 := fun j hj => by
  rw [lnG_len] at hj
  rw [lnG_nd m j hj]
  exact lps_len j
theorem line_look {m j : Nat} (hm : m ≤ 100) (h : j < m) : look (lnG m) (lid j) = some (lps j) := by
  have := look_some (line_inv m hm).nd (j := j) (by rw [lnG_len]; exact h)
  rw [lnG_nd m j h] at this
  exact this
theorem line_psOf {m j : Nat} (hm : m ≤ 100) (h : j < m) : psOf (lnG m) (lid j) = lps j := by
  unfold psOf
  rw [line_look hm h]
  rfl
theorem line_reach {n i j : Nat} (hn : n ≤ 100) (hi : i < n) (hj : j < n) : reachB (lnG n) [lid i] (lid j) = decide (j ≤ i) := by
  by_cases h : j ≤ i
  · rw [decide_eq_true h]
    refine reachB_true ?_
    have hs : ∀ d, d ≤ i → Reach (lnG n) [lid i] (lid (i - d)) := by
      intro d
      induction d with
      | zero => exact fun _ => .base (by simp) (lnG_mem.2 hi)
      | succ d ih =>
        intro hd
        refine .step (ih (by omega)) ?_ (lnG_mem.2 (by omega))
        rw [line_psOf hn (by omega), show i - d = (i - (d + 1)) + 1 from by omega]
        simp [lps]
    have := hs (i - j) (by omega)
    rw [show i - (i - j) = j from by omega] at this
    exact this
  · rw [decide_eq_false h]
    refine reachB_false fun hr => ?_
    have := hr.least (T := (List.range (i + 1)).map lid) (fun x hx _ => by
      rw [List.mem_singleton] at hx
      subst hx
      exact List.mem_map.2 ⟨i, List.mem_range.2 (by omega), rfl⟩) (fun x hx p hp _ => by
      obtain ⟨k, hk, rfl⟩ := List.mem_map.1 hx
      rw [List.mem_range] at hk
      rw [line_psOf hn (by omega)] at hp
      obtain ⟨q, hq, rfl⟩ := lps_in p hp
      exact List.mem_map.2 ⟨q, List.mem_range.2 (by omega), rfl⟩)
    obtain ⟨k, hk, e⟩ := List.mem_map.1 this
    rw [List.mem_range] at hk
    have := lid_inj e
    omega
theorem line_comes {n i k : Nat} (hn : n ≤ 100) (hi : i < n) (hk : k < n) : comesB (lnG n) (lid i) (lid k) = decide (k ≤ i) := by
  unfold comesB hasB
  rw [decide_eq_true (lnG_mem.2 hi), decide_eq_true (lnG_mem.2 hk), line_reach hn hi hk]
  rfl
theorem count_le : ∀ n i, i < n → ((List.range n).filter fun j => decide (j ≤ i)).length = i + 1
  | 0, i, h => absurd h (by omega)
  | n + 1, i, h => by
    rw [List.range_succ, List.filter_append, List.length_append]
    by_cases e : i < n
    · rw [count_le n i e]
      simp; omega
    · obtain rfl : i = n := by omega
      have : ((List.range i).filter fun j => decide (j ≤ i)) = List.range i := List.filter_eq_self.2 fun x hx => by
        rw [List.mem_range] at hx
        simp; omega
      rw [this]
      simp
theorem line_close {n i : Nat} (hn : n ≤ 100) (hi : i < n) : (closeG (lnG n) [lid i]).length = i + 1 := by
  unfold closeG
  rw [lnG_ids, List.filter_map, List.length_map, ← count_le n i hi]
  congr 1
  refine List.filter_congr fun j hj => ?_
  rw [List.mem_range] at hj
  exact line_reach hn hi hj
theorem line_par {n j : Nat} : parB (lnG n) (lid j) = decide (j + 1 < n) := by
  rw [Bool.eq_iff_iff, parB_iff, decide_eq_true_iff, lnG_len]
  constructor
  · rintro ⟨m, hm, h⟩
    rw [lnG_nd n m hm] at h
    cases m with
    | zero => simp [lps] at h
    | succ m =>
      simp [lps] at h
      have := lid_inj h
      omega
  · exact fun h => ⟨j + 1, h, by rw [lnG_nd n (j + 1) h]; simp [lps]⟩
theorem line_heads (m : Nat) : headsG (lnG (m + 1)) = [lid m] := by
  unfold headsG
  rw [lnG_ids, List.filter_map, List.range_succ, List.filter_append]
  have : (List.range m).filter ((fun x => !parB (lnG (m + 1)) x) ∘ lid) = [] := List.filter_eq_nil_iff.2 fun x hx => by
    rw [List.mem_range] at hx
    simp [line_par]; omega
  rw [this]
  simp [line_par]
theorem line_twice {n i : Nat} (hn : n ≤ 100) (hi : i < n) : addE (lnG n) (lid i) [lid n] = 8 ∧ addG (lnG n) (lid i) [lid n] = lnG n := by
  have hl := line_look hn hi
  refine ⟨?_, addG_some hl⟩
  rw [addE_some hl, if_neg]
  intro e
  obtain ⟨k, hk, e2⟩ := lps_in (m := i) (lid n) (by rw [e]; simp)
  have := lid_inj e2
  omega
theorem line_gone {n : Nat} : addE (lnG n) (lid n) [lid (n + 1)] = 6 := by
  classical
  rw [addE_none (lnG_none n), if_pos]
  exact ⟨lid (n + 1), by simp, by rw [lnG_mem]; omega⟩
end Go.Proofs.Ytaaiojeehhbhhaa
