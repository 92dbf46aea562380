/-
  MarksBack, pure: what Adds one after another leave on a tape with room.
-/
import Derived.Test.YtokamaogognjoaaMko
set_option linter.unusedVariables false
set_option linter.unusedSimpArgs false
namespace Go.Proofs.Ytokamaogognjoaa
section
open Go.RowKit

set_option maxRecDepth 100000 in
theorem outL_mem {m : Prs} : ∀ {o l : Prs} {p : IdL}, p ∈ outL m o l → p ∈ o ∨ p ∈ l
  | o, [], p, h => .inl h
  | o, q :: r, p, h => by
    rcases outL_mem (o := nextL m o q) (l := r) h with h1 | h1
    · unfold nextL at h1
      split at h1
      · rcases List.mem_append.1 h1 with h2 | h2
        · exact .inl h2
        · exact .inr (by simp at h2; simp [h2])
      · exact .inl h1
    · exact .inr (by simp [h1])
set_option maxRecDepth 100000 in
theorem fresh_zero {m l : Prs} (h : (freshR m l).2 = 0) : l.any zeroP = false ∧ (freshR m l).1 = outL m [] l := by
  unfold freshR at h ⊢
  cases hz : l.any zeroP with
  | true => rw [hz, if_pos rfl] at h; exact absurd h (by decide)
  | false =>
    rw [hz, if_neg (by decide)] at h
    refine ⟨rfl, ?_⟩
    rw [if_neg (by decide)]
    split at h
    · exact absurd h (by decide)
    · rename_i h1
      rw [if_neg h1]
set_option maxRecDepth 100000 in
theorem fresh_good {m l : Prs} (hl : AllPr l) (h : (freshR m l).2 = 0) (hn : (freshR m l).1 ≠ []) : Good m (freshR m l).1 := by
  obtain ⟨h1, h2, _⟩ := freshR_new m l
  obtain ⟨hz, he⟩ := fresh_zero h
  refine ⟨h2 hl, hn, ?_, h1⟩
  rw [List.any_eq_false] at hz ⊢
  intro p hp
  rw [he] at hp
  rcases outL_mem hp with h3 | h3
  · simp at h3
  · exact hz p h3
set_option maxRecDepth 100000 in
theorem fresh_bij {m l : Prs} (hm : Bij m) (hl : AllPr l) : Bij (m ++ (freshR m l).1) := by
  unfold freshR
  split
  · simpa using hm
  · split
    · simpa using hm
    · exact Bij.out (o := []) (by rw [List.append_nil]; exact hm) hl
/-- the frames behind one more Add. -/
def stepL (ls : List Prs) (l : Prs) : List Prs := if (freshR ls.flatten l).2 = 0 ∧ (freshR ls.flatten l).1 ≠ [] then ls ++ [(freshR ls.flatten l).1] else ls
set_option maxRecDepth 100000 in
theorem fresh_bad_nil {m l : Prs} (h : (freshR m l).2 ≠ 0) : (freshR m l).1 = [] := by
  rcases freshR_cases m l with h1 | h1 | h1
  · exact h1.2
  · exact h1.2
  · exact absurd h1 h
set_option maxRecDepth 100000 in
theorem stepL_flat (ls : List Prs) (l : Prs) : (stepL ls l).flatten = ls.flatten ++ (freshR ls.flatten l).1 := by
  unfold stepL
  split
  · rw [List.flatten_append]; simp
  · rename_i h
    by_cases h0 : (freshR ls.flatten l).1 = []
    · rw [h0, List.append_nil]
    · by_cases h1 : (freshR ls.flatten l).2 = 0
      · exact absurd ⟨h1, h0⟩ h
      · rw [fresh_bad_nil h1, List.append_nil]
set_option maxRecDepth 100000 in
theorem stepL_good {ls : List Prs} {l : Prs} (hg : GoodL ls) (hl : AllPr l) : GoodL (stepL ls l) := by
  unfold stepL
  split
  · rename_i h
    exact hg.snoc (fresh_good hl h.1 h.2)
  · exact hg
set_option maxRecDepth 100000 in
theorem stepL_frL {ls : List Prs} {l : Prs} (hl : AllPr l) : (frL (stepL ls l)).length ≤ (frL ls).length + 14 + 40 * l.length := by
  unfold stepL
  split
  · obtain ⟨h1, h2, h3⟩ := freshR_new ls.flatten l
    rw [frL_append, frL_one, List.length_append, pack_len1 (h2 hl)]
    omega
  · omega
set_option maxRecDepth 100000 in
theorem back_add {ls : List Prs} {l : Prs} {r : Int} (hl : AllPr l) (hr : ((frL ls).length + 14 + 40 * l.length : Nat) ≤ r) :
    addR 0 ls.flatten (Tp.clean ls r 0) l = ((freshR ls.flatten l).2, (stepL ls l).flatten, Tp.clean (stepL ls l) r 0) := by
  by_cases h : (freshR ls.flatten l).2 = 0 ∧ (freshR ls.flatten l).1 ≠ []
  · obtain ⟨h1, h2, h3⟩ := freshR_new ls.flatten l
    rw [addR_ok h.1 h.2 (by rw [pack_len1 (h2 hl)]; omega), stepL_flat, h.1]
    unfold stepL
    rw [if_pos h]
  · have h' : (freshR ls.flatten l).2 ≠ 0 ∨ (freshR ls.flatten l).1 = [] := by
      by_cases h1 : (freshR ls.flatten l).2 = 0
      · by_cases h2 : (freshR ls.flatten l).1 = []
        · exact .inr h2
        · exact absurd ⟨h1, h2⟩ h
      · exact .inl h1
    rw [addR_none h']
    unfold stepL
    rw [if_neg h]

/-! ### all in one frame -/
set_option maxRecDepth 100000 in
theorem newSeq_append {m a b : Prs} (ha : NewSeq m a) (hb : NewSeq (m ++ a) b) : NewSeq m (a ++ b) := fun j hj => by
  rcases Nat.lt_or_ge j a.length with h | h
  · rw [List.take_append_of_le_length (by omega), gp_left h]
    exact ha j h
  · have e1 : (a ++ b).take j = a ++ b.take (j - a.length) := by rw [List.take_append, List.take_of_length_le h]
    have e2 : gp (a ++ b) j = gp b (j - a.length) := by unfold gp List.getD; rw [List.getElem?_append_right h]
    rw [e1, e2, ← List.append_assoc]
    exact hb _ (by rw [List.length_append] at hj; omega)
set_option maxRecDepth 100000 in
theorem good_seq {ls : List Prs} (hg : GoodL ls) : ∀ k, k ≤ ls.length → NewSeq [] (ls.take k).flatten ∧ ((ls.take k).flatten).any zeroP = false
  | 0, _ => ⟨NewSeq.nil _, rfl⟩
  | k + 1, hk => by
    obtain ⟨h1, h2⟩ := good_seq hg k (by omega)
    have h3 := hg k (by omega)
    rw [take_getD (by omega), List.flatten_append]
    have e : [ls.getD k []].flatten = ls.getD k [] := by simp
    rw [e]
    refine ⟨newSeq_append h1 (by rw [List.nil_append]; exact h3.new), ?_⟩
    rw [List.any_append, h2, h3.nz]
    rfl
set_option maxRecDepth 100000 in
theorem good_flat {ls : List Prs} (hg : GoodL ls) (hall : AllPr ls.flatten) (hne : ls.flatten ≠ []) : Good [] ls.flatten := by
  obtain ⟨h1, h2⟩ := good_seq hg ls.length (Nat.le_refl _)
  rw [List.take_length] at h1 h2
  exact ⟨hall, hne, h2, h1⟩
def oneL (L : Prs) : List Prs := if L = [] then [] else [L]
set_option maxRecDepth 100000 in
theorem oneL_flat (L : Prs) : (oneL L).flatten = L := by
  unfold oneL
  split
  · rename_i h; rw [h]; rfl
  · simp
set_option maxRecDepth 100000 in
theorem oneL_good {ls : List Prs} (hg : GoodL ls) (hall : AllPr ls.flatten) : GoodL (oneL ls.flatten) := by
  unfold oneL
  split
  · exact GoodL.nil
  · rename_i h
    have := GoodL.nil.snoc (ls := []) (l := ls.flatten) (good_flat hg hall h)
    simpa using this
set_option maxRecDepth 100000 in
theorem frL_oneL (L : Prs) : frL (oneL L) = cB L L.length := by
  unfold oneL cB
  split
  · rename_i h; rw [h]; rfl
  · rename_i h
    rw [if_neg (by have := List.length_pos_iff.2 h; omega), frL_one]
set_option maxRecDepth 100000 in
theorem frL_len {ls : List Prs} (hall : ∀ l ∈ ls, AllPr l) : (frL ls).length = 14 * ls.length + 40 * ls.flatten.length := by
  induction ls with
  | nil => rfl
  | cons l r ih =>
    have e : frL (l :: r) = packL 1 l.flatten ++ frL r := by simp [frL]
    rw [e, List.length_append, pack_len1 (hall l (by simp)), ih (fun x hx => hall x (by simp [hx]))]
    simp only [List.flatten_cons, List.length_append, List.length_cons]
    omega
set_option maxRecDepth 100000 in
theorem frL_one_le {ls : List Prs} (hall : ∀ l ∈ ls, AllPr l) (hf : AllPr ls.flatten) : (frL (oneL ls.flatten)).length ≤ (frL ls).length := by
  rw [frL_len hall]
  unfold oneL
  split
  · simp [frL]
  · rename_i h
    rw [frL_one, pack_len1 hf]
    have : 0 < ls.length := by
      cases ls with
      | nil => exact absurd rfl h
      | cons a b => simp
    omega
set_option maxRecDepth 100000 in
theorem comp_clean {ls : List Prs} {r : Int} (hall : ∀ l ∈ ls, AllPr l) (hf : AllPr ls.flatten) (hr : (frL ls).length ≤ r) : compR 0 ls.flatten (Tp.clean ls r 0) = (0, Tp.clean (oneL ls.flatten) r 0) := by
  unfold compR
  rw [if_neg (by rw [upV_clean]; decide), ← frL_oneL]
  have h1 := frL_one_le hall hf
  unfold Tp.swap Tp.deed Tp.clean
  simp only []
  rw [if_neg (show ¬ r < ((frL (oneL ls.flatten)).length : Int) from by omega)]
  rfl
end
end Go.Proofs.Ytokamaogognjoaa
