/-
  Edits on lists: in order, applied. No Go in sight.
-/
import Derived.Test.YtgokompppadogaaDeltaB
set_option linter.unusedVariables false
set_option linter.unusedSimpArgs false
namespace Go.Proofs.Ytgokompppadogaa
open Go.RowKit

instance : Inhabited Ed := ⟨⟨0, 0, []⟩⟩
def ed (l : List Ed) (i : Nat) : Ed := l.getD i ⟨0, 0, []⟩
theorem ed_some {l : List Ed} {i : Nat} (h : i < l.length) : l[i]? = some (ed l i) := by simp [ed, h]
/-- where the text stands behind i edits. -/
def atL (l : List Ed) : Nat → Int
  | 0 => 0
  | i + 1 => (ed l i).t
/-- may the i-th be? -/
def okE (n : Nat) (l : List Ed) (i : Nat) : Prop := atL l i ≤ (ed l i).f ∧ (ed l i).f ≤ (ed l i).t ∧ (ed l i).t ≤ n
def MayL (n : Nat) (l : List Ed) : Prop := ∀ i, i < l.length → okE n l i
theorem atL_range {n : Nat} {l : List Ed} {k : Nat} (h : ∀ i, i < k → okE n l i) : 0 ≤ atL l k ∧ atL l k ≤ n := by
  induction k with
  | zero => simp [atL]
  | succ k ih =>
    have h1 := ih fun i hi => h i (by omega)
    have h2 := h k (by omega)
    unfold okE at h2
    simp only [atL]
    omega
/-- the text behind i edits. -/
def apTo (a : List Int) (l : List Ed) : Nat → List Int
  | 0 => []
  | i + 1 => apTo a l i ++ ((a.take (ed l i).f.toNat).drop (atL l i).toNat ++ (ed l i).b)
def apL (a : List Int) (l : List Ed) : List Int := apTo a l l.length ++ a.drop (atL l l.length).toNat
/-- how long the whole text will be, as far as i edits tell. -/
def nTo (n : Nat) (l : List Ed) : Nat → Int
  | 0 => n
  | i + 1 => nTo n l i + (((ed l i).b.length : Int) - ((ed l i).t - (ed l i).f))
theorem apTo_length {a : List Int} {n : Nat} {l : List Ed} (ha : a.length = n) (k : Nat) (h : ∀ i, i < k → okE n l i) : ((apTo a l k).length : Int) + ((n : Int) - atL l k) = nTo n l k := by
  induction k with
  | zero => simp [apTo, atL, nTo]
  | succ k ih =>
    have h1 := ih fun i hi => h i (by omega)
    have h2 := h k (by omega)
    have h3 := atL_range (n := n) (l := l) (k := k) fun i hi => h i (by omega)
    unfold okE at h2
    have e1 : atL l (k + 1) = (ed l k).t := rfl
    have e2 : nTo n l (k + 1) = nTo n l k + (((ed l k).b.length : Int) - ((ed l k).t - (ed l k).f)) := rfl
    have e3 : (apTo a l (k + 1)).length = (apTo a l k).length + ((min (ed l k).f.toNat n - (atL l k).toNat) + (ed l k).b.length) := by simp [apTo, ha]
    rw [e1, e2, e3]
    generalize (ed l k).f = f at *
    generalize (ed l k).t = t at *
    generalize (ed l k).b.length = q at *
    generalize (apTo a l k).length = r at *
    generalize atL l k = p at *
    generalize nTo n l k = u at *
    omega
theorem apL_length {a : List Int} {n : Nat} {l : List Ed} (ha : a.length = n) (h : MayL n l) : ((apL a l).length : Int) = nTo n l l.length := by
  have h1 := apTo_length ha l.length h
  have h3 := atL_range h
  unfold apL
  rw [List.length_append, List.length_drop, ha]
  omega
theorem apTo_byts {a : List Int} {l : List Ed} (ha : Byts a) (hb : ∀ i, i < l.length → Byts (ed l i).b) (k : Nat) (hk : k ≤ l.length) : Byts (apTo a l k) := by
  induction k with
  | zero => exact Byts.nil
  | succ k ih => exact (ih (by omega)).append (((ha.take _).drop _).append (hb k (by omega)))
theorem nTo_range {n : Nat} {l : List Ed} {M : Nat} (hM : ∀ i, i < l.length → (ed l i).b.length ≤ M) (k : Nat) (hk : k ≤ l.length) (h : ∀ i, i < k → okE n l i) : 0 ≤ nTo n l k ∧ nTo n l k ≤ n + k * M := by
  induction k with
  | zero => simp [nTo]
  | succ k ih =>
    have h1 := ih (by omega) fun i hi => h i (by omega)
    have h2 := h k (by omega)
    have h3 := hM k (by omega)
    have h4 := apTo_length (a := List.replicate n 0) (n := n) (l := l) (by simp) (k + 1) h
    have h5 := atL_range h
    unfold okE at h2
    have e2 : nTo n l (k + 1) = nTo n l k + (((ed l k).b.length : Int) - ((ed l k).t - (ed l k).f)) := rfl
    have e3 : (k + 1) * M = k * M + M := by rw [Nat.add_mul, Nat.one_mul]
    rw [← Int.natCast_mul] at h1 ⊢
    rw [e3]
    rw [e2] at h4 ⊢
    generalize k * M = KM at *
    omega
/-- bytes and error of 'Apply'. -/
noncomputable def applyR (a : List Int) (l : List Ed) : List Int × Int := by
  classical
  exact if MayL a.length l then (if 65536 < (apL a l).length then ([], 5) else (apL a l, 0)) else ([], 11)
end Go.Proofs.Ytgokompppadogaa
