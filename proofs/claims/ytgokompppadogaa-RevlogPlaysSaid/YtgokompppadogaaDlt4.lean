/-
  Edits that change nothing; edits out of order. No Go in sight.
-/
import Derived.Test.YtgokompppadogaaDlt3
set_option linter.unusedVariables false
set_option linter.unusedSimpArgs false
namespace Go.Proofs.Ytgokompppadogaa
open Go.RowKit

theorem atL_left {l l' : List Ed} {i : Nat} (h : i ≤ l.length) : atL (l ++ l') i = atL l i := by
  match i, h with
  | 0, _ => rfl
  | i + 1, h =>
    show (ed (l ++ l') i).t = (ed l i).t
    rw [ed_left (by omega)]
theorem okE_left {n : Nat} {l l' : List Ed} {i : Nat} (h : i < l.length) : okE n (l ++ l') i ↔ okE n l i := by
  unfold okE
  rw [atL_left (by omega), ed_left h]
/-- edits that put back what stands there. -/
def Gd (a : List Int) (l : List Ed) : Prop := MayL a.length l ∧ ∀ i, i < l.length → (ed l i).b = (a.take (ed l i).t.toNat).drop (ed l i).f.toNat
theorem Gd.nil (a : List Int) : Gd a [] := ⟨fun i hi => absurd hi (by simp), fun i hi => absurd hi (by simp)⟩
theorem ed_end {l : List Ed} {x : Ed} : ed (l ++ [x]) l.length = x := by rw [ed_right (Nat.le_refl _), Nat.sub_self]; rfl
theorem Gd.snoc {a : List Int} {l : List Ed} (h : Gd a l) (f t : Nat) (h0 : atL l l.length ≤ f) (h1 : f ≤ t) (h2 : t ≤ a.length) : Gd a (l ++ [⟨f, t, (a.take t).drop f⟩]) := by
  constructor
  · intro i hi
    rw [List.length_append, List.length_singleton] at hi
    by_cases e : i < l.length
    · exact (okE_left e).2 (h.1 i e)
    · obtain rfl : i = l.length := by omega
      unfold okE
      rw [atL_left (Nat.le_refl _), ed_end]
      simp only
      omega
  · intro i hi
    rw [List.length_append, List.length_singleton] at hi
    by_cases e : i < l.length
    · rw [ed_left e]; exact h.2 i e
    · obtain rfl : i = l.length := by omega
      rw [ed_end]
      rfl
theorem atL_snoc {l : List Ed} {x : Ed} {k : Nat} (hk : k = l.length + 1) : atL (l ++ [x]) k = x.t := by
  subst hk
  show (ed (l ++ [x]) l.length).t = _
  rw [ed_end]
theorem take_step (a : List Int) {p f : Nat} (h : p ≤ f) : a.take p ++ (a.take f).drop p = a.take f := by
  have : a.take p = (a.take f).take p := by rw [List.take_take, Nat.min_eq_left h]
  rw [this, List.take_append_drop]
theorem Gd.apTo {a : List Int} {l : List Ed} (h : Gd a l) (k : Nat) (hk : k ≤ l.length) : apTo a l k = a.take (atL l k).toNat := by
  induction k with
  | zero => simp [Go.Proofs.Ytgokompppadogaa.apTo, atL]
  | succ k ih =>
    have h1 := ih (by omega)
    have h2 := h.1 k (by omega)
    have h3 := h.2 k (by omega)
    have h4 := atL_range (n := a.length) (l := l) (k := k) (fun i hi => h.1 i (by omega))
    unfold okE at h2
    show Go.Proofs.Ytgokompppadogaa.apTo a l k ++ ((a.take (ed l k).f.toNat).drop (atL l k).toNat ++ (ed l k).b) = a.take (ed l k).t.toNat
    rw [h1, h3, ← List.append_assoc, take_step a (by omega), take_step a (by omega)]
theorem Gd.apL {a : List Int} {l : List Ed} (h : Gd a l) : apL a l = a := by
  unfold Go.Proofs.Ytgokompppadogaa.apL
  rw [h.apTo _ (Nat.le_refl _), List.take_append_drop]
theorem Gd.applyR {a : List Int} {l : List Ed} (h : Gd a l) (ha : a.length ≤ 65536) : applyR a l = (a, 0) := by
  unfold Go.Proofs.Ytgokompppadogaa.applyR
  rw [if_pos h.1, h.apL, if_neg (by omega)]
theorem Gd.blen {a : List Int} {l : List Ed} (h : Gd a l) {i : Nat} (hi : i < l.length) : (ed l i).b.length ≤ a.length := by
  rw [h.2 i hi, List.length_drop, List.length_take]
  omega
theorem applyR_bad {a : List Int} {l : List Ed} (h : ¬ MayL a.length l) : applyR a l = ([], 11) := by
  unfold applyR
  rw [if_neg h]
theorem bad_end {n : Nat} {l : List Ed} {x : Ed} (h : (n : Int) < x.t ∨ x.t < x.f) : ¬ MayL n (l ++ [x]) := fun hm => by
  have h1 := hm l.length (by simp)
  unfold okE at h1
  rw [ed_end] at h1
  omega
theorem bad_start {n : Nat} {l : List Ed} {x : Ed} (h : x.f < 0) : ¬ MayL n (x :: l) := fun hm => by
  have h1 := hm 0 (by simp)
  unfold okE at h1
  have e1 : atL (x :: l) 0 = 0 := rfl
  have e2 : ed (x :: l) 0 = x := rfl
  rw [e1, e2] at h1
  omega
theorem atL_mono {n : Nat} {l : List Ed} (h : MayL n l) (k : Nat) (hk : k + 1 ≤ l.length) : (ed l 0).t ≤ atL l (k + 1) := by
  induction k with
  | zero => exact Int.le_refl _
  | succ k ih =>
    have h1 := ih (by omega)
    have h2 := h (k + 1) (by omega)
    unfold okE at h2
    have e : atL l (k + 1 + 1) = (ed l (k + 1)).t := rfl
    rw [e]
    omega
theorem bad_wide {n : Nat} {l : List Ed} {x y : Ed} (hx : x.t = n) (hy : y.f < n) : ¬ MayL n (x :: (l ++ [y])) := fun hm => by
  have h1 := hm (l.length + 1) (by simp)
  have h2 := atL_mono hm l.length (by simp)
  have e1 : ed (x :: (l ++ [y])) 0 = x := rfl
  have e2 : ed (x :: (l ++ [y])) (l.length + 1) = y := by
    rw [← List.cons_append]
    exact ed_end (l := x :: l)
  unfold okE at h1
  rw [e1] at h2
  rw [e2] at h1
  omega
end Go.Proofs.Ytgokompppadogaa
