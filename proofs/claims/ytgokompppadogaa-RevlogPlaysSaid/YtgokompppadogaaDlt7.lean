/-
  Edits written as bytes, and read: what 'Print' and 'Parse' compute. No Go in sight.
-/
import Derived.Test.YtgokompppadogaaDlt4
set_option linter.unusedVariables false
set_option linter.unusedSimpArgs false
namespace Go.Proofs.Ytgokompppadogaa
open Go.RowKit

/-- a number, as it is written. -/
def clampE (v : Int) : Int := max 0 (min v 2147483647)
theorem clampE_rg (v : Int) : 0 ≤ clampE v ∧ clampE v ≤ 2147483647 := by unfold clampE; omega
theorem clampE_id {v : Int} (h0 : 0 ≤ v) (h1 : v ≤ 2147483647) : clampE v = v := by unfold clampE; omega
def fourE (v : Int) : List Int := [clampE v / 16777216 % 256, clampE v / 65536 % 256, clampE v / 256 % 256, clampE v % 256]
theorem fourE_length (v : Int) : (fourE v).length = 4 := rfl
theorem fourE_byts (v : Int) : Byts (fourE v) := by
  intro x hx
  simp only [fourE, List.mem_cons, List.not_mem_nil, or_false] at hx
  rcases hx with rfl | rfl | rfl | rfl <;> omega
def num4 (b : List Int) : Int := gi b 0 * 16777216 + gi b 1 * 65536 + gi b 2 * 256 + gi b 3
theorem num4_rg {b : List Int} (h : Byts b) : 0 ≤ num4 b ∧ num4 b < 4294967296 := by
  have h0 := h.gi 0
  have h1 := h.gi 1
  have h2 := h.gi 2
  have h3 := h.gi 3
  unfold num4
  omega
theorem num4_four (v : Int) (zs : List Int) : num4 (fourE v ++ zs) = clampE v := by
  have h := clampE_rg v
  simp [num4, fourE, gi]
  omega
theorem four_num4 {b : List Int} (hb : Byts b) (h : 4 ≤ b.length) (hv : num4 b ≤ 2147483647) : fourE (num4 b) ++ b.drop 4 = b := by
  match b, h with
  | x0 :: x1 :: x2 :: x3 :: r, _ =>
    have h0 := hb x0 (by simp)
    have h1 := hb x1 (by simp)
    have h2 := hb x2 (by simp)
    have h3 := hb x3 (by simp)
    have e : num4 (x0 :: x1 :: x2 :: x3 :: r) = x0 * 16777216 + x1 * 65536 + x2 * 256 + x3 := by simp [num4, gi]
    rw [e] at hv ⊢
    unfold fourE
    rw [clampE_id (by omega) hv]
    simp
    omega
/-- an edit, as it is written. -/
def prE (x : Ed) : List Int := fourE x.f ++ (fourE x.t ++ (fourE (x.b.length : Int) ++ x.b))
theorem prE_length (x : Ed) : (prE x).length = 12 + x.b.length := by simp [prE, fourE_length]; omega
def prTo (l : List Ed) : Nat → List Int
  | 0 => []
  | i + 1 => prTo l i ++ prE (ed l i)
def prL (l : List Ed) : List Int := prTo l l.length
theorem prTo_left {l l' : List Ed} (i : Nat) (h : i ≤ l.length) : prTo (l ++ l') i = prTo l i := by
  induction i with
  | zero => rfl
  | succ i ih =>
    show prTo (l ++ l') i ++ prE (ed (l ++ l') i) = prTo l i ++ prE (ed l i)
    rw [ih (by omega), ed_left (by omega)]
theorem prL_nil : prL [] = [] := rfl
theorem prL_snoc (l : List Ed) (x : Ed) : prL (l ++ [x]) = prL l ++ prE x := by
  unfold prL
  rw [List.length_append, List.length_singleton]
  show prTo (l ++ [x]) l.length ++ prE (ed (l ++ [x]) l.length) = _
  rw [prTo_left _ (Nat.le_refl _), ed_end]
theorem prTo_length_le {l : List Ed} {M : Nat} (hM : ∀ i, i < l.length → (ed l i).b.length ≤ M) (k : Nat) (hk : k ≤ l.length) : (prTo l k).length ≤ k * (12 + M) := by
  induction k with
  | zero => simp [prTo]
  | succ k ih =>
    have h1 := ih (by omega)
    have h2 := hM k (by omega)
    have e : (prTo l (k + 1)).length = (prTo l k).length + (12 + (ed l k).b.length) := by
      show (prTo l k ++ prE (ed l k)).length = _
      rw [List.length_append, prE_length]
    rw [e, Nat.add_mul, Nat.one_mul]
    omega
/-- why no number can be read. -/
def numE (b : List Int) : Int := if b.length < 4 then 3 else if 2147483647 < num4 b then 4 else 0
/-- why no edit can be read; the edit; what stands behind it. -/
def stepE (b : List Int) : Int :=
  if numE b ≠ 0 then numE b else if numE (b.drop 4) ≠ 0 then numE (b.drop 4) else if numE (b.drop 8) ≠ 0 then numE (b.drop 8)
  else if ((b.drop 12).length : Int) < num4 (b.drop 8) then 3 else 0
def stepX (b : List Int) : Ed := ⟨num4 b, num4 (b.drop 4), (b.drop 12).take (num4 (b.drop 8)).toNat⟩
def stepR (b : List Int) : List Int := (b.drop 12).drop (num4 (b.drop 8)).toNat
def parseF : Nat → List Ed → List Int → List Ed × Int
  | 0, acc, _ => (acc, 0)
  | k + 1, acc, b => if b = [] then (acc, 0) else if stepE b = 0 then parseF k (acc ++ [stepX b]) (stepR b) else ([], stepE b)
/-- edits and error of 'Parse'. -/
def parseR (b : List Int) : List Ed × Int := parseF b.length [] b
theorem parseF_nil (k : Nat) (acc : List Ed) : parseF k acc [] = (acc, 0) := by cases k <;> simp [parseF]
theorem parseF_err (k : Nat) (acc : List Ed) (b : List Int) (hb : b ≠ []) (h : stepE b ≠ 0) (hk : b.length ≤ k) : parseF k acc b = ([], stepE b) := by
  cases k with
  | zero => exact absurd (List.eq_nil_of_length_eq_zero (by omega)) hb
  | succ k => simp [parseF, hb, h]
theorem parseF_ok (k : Nat) (acc : List Ed) (b : List Int) (hb : b ≠ []) (h : stepE b = 0) : parseF (k + 1) acc b = parseF k (acc ++ [stepX b]) (stepR b) := by simp [parseF, hb, h]
theorem stepE_ok {b : List Int} (hB : Byts b) (h : stepE b = 0) : 12 ≤ b.length ∧ num4 b ≤ 2147483647 ∧ num4 (b.drop 4) ≤ 2147483647 ∧ num4 (b.drop 8) ≤ 2147483647 ∧ (num4 (b.drop 8)).toNat ≤ b.length - 12 := by
  unfold stepE at h
  by_cases h1 : numE b = 0
  · rw [if_neg (by simpa using h1)] at h
    by_cases h2 : numE (b.drop 4) = 0
    · rw [if_neg (by simpa using h2)] at h
      by_cases h3 : numE (b.drop 8) = 0
      · rw [if_neg (by simpa using h3)] at h
        by_cases h4 : ((b.drop 12).length : Int) < num4 (b.drop 8)
        · rw [if_pos h4] at h; omega
        · have p : ∀ c : List Int, numE c = 0 → 4 ≤ c.length ∧ num4 c ≤ 2147483647 := by
            intro c hc
            unfold numE at hc
            by_cases a : c.length < 4
            · rw [if_pos a] at hc; omega
            · rw [if_neg a] at hc
              by_cases a2 : 2147483647 < num4 c
              · rw [if_pos a2] at hc; omega
              · omega
          have p1 := p _ h1
          have p2 := p _ h2
          have p3 := p _ h3
          rw [List.length_drop] at p2 p3 h4
          omega
      · rw [if_pos h3] at h; exact absurd h h3
    · rw [if_pos h2] at h; exact absurd h h2
  · rw [if_pos h1] at h; exact absurd h h1
theorem stepR_length {b : List Int} (hB : Byts b) (h : stepE b = 0) : (stepR b).length < b.length := by
  have := stepE_ok hB h
  unfold stepR
  rw [List.length_drop, List.length_drop]
  omega
theorem step_back {b : List Int} (hB : Byts b) (h : stepE b = 0) : prE (stepX b) ++ stepR b = b := by
  obtain ⟨h1, h2, h3, h4, h5⟩ := stepE_ok hB h
  have r8 := num4_rg (hB.drop 8)
  have e1 := four_num4 hB (by omega) h2
  have e2 := four_num4 (hB.drop 4) (by rw [List.length_drop]; omega) h3
  have e3 := four_num4 (hB.drop 8) (by rw [List.length_drop]; omega) h4
  rw [List.drop_drop] at e2 e3
  have e4 : ((List.drop 12 b).take (num4 (List.drop 8 b)).toNat).length = (num4 (List.drop 8 b)).toNat := by rw [List.length_take, List.length_drop]; omega
  unfold prE stepX stepR
  simp only [List.append_assoc]
  rw [List.take_append_drop, e4, Int.toNat_of_nonneg r8.1, e3, e2, e1]
theorem parse_back (k : Nat) (acc : List Ed) (b : List Int) (l : List Ed) (hB : Byts b) (hk : b.length ≤ k) (h : parseF k acc b = (l, 0)) : prL l = prL acc ++ b := by
  induction k generalizing acc b with
  | zero =>
    obtain rfl := List.eq_nil_of_length_eq_zero (Nat.le_zero.1 hk)
    rw [parseF_nil] at h
    injection h with h _
    subst h
    simp
  | succ k ih =>
    by_cases hb : b = []
    · subst hb
      rw [parseF_nil] at h
      injection h with h _
      subst h
      simp
    · by_cases he : stepE b = 0
      · rw [parseF_ok k acc b hb he] at h
        have hl := stepR_length hB he
        have hr : Byts (stepR b) := (hB.drop 12).drop _
        have := ih _ _ hr (by omega) h
        rw [this, prL_snoc, List.append_assoc, step_back hB he]
      · rw [parseF_err _ acc b hb he hk] at h
        injection h with _ h
        exact absurd h he
/-- may an edit be written? -/
def okW (x : Ed) : Prop := 0 ≤ x.f ∧ x.f ≤ 2147483647 ∧ 0 ≤ x.t ∧ x.t ≤ 2147483647 ∧ x.b.length ≤ 2147483647
theorem numE_four (v : Int) (zs : List Int) : numE (fourE v ++ zs) = 0 := by
  have := clampE_rg v
  unfold numE
  rw [num4_four, if_neg (by rw [List.length_append, fourE_length]; omega), if_neg (by omega)]
theorem drop_four (v : Int) (zs : List Int) : (fourE v ++ zs).drop 4 = zs := rfl
theorem step_print {x : Ed} (h : okW x) (zs : List Int) : stepE (prE x ++ zs) = 0 ∧ stepX (prE x ++ zs) = x ∧ stepR (prE x ++ zs) = zs := by
  obtain ⟨h0, h1, h2, h3, h4⟩ := h
  have e : prE x ++ zs = fourE x.f ++ (fourE x.t ++ (fourE (x.b.length : Int) ++ (x.b ++ zs))) := by simp [prE]
  have d4 : (prE x ++ zs).drop 4 = fourE x.t ++ (fourE (x.b.length : Int) ++ (x.b ++ zs)) := by rw [e]; rfl
  have d8 : (prE x ++ zs).drop 8 = fourE (x.b.length : Int) ++ (x.b ++ zs) := by rw [e]; rfl
  have d12 : (prE x ++ zs).drop 12 = x.b ++ zs := by rw [e]; rfl
  have n0 : num4 (prE x ++ zs) = x.f := by rw [e, num4_four, clampE_id h0 h1]
  refine ⟨?_, ?_, ?_⟩
  · unfold stepE
    rw [d4, d8, d12, if_neg (by rw [e, numE_four]; simp), if_neg (by rw [numE_four]; simp), if_neg (by rw [numE_four]; simp), num4_four, clampE_id (by omega) (by omega), if_neg (by rw [List.length_append]; omega)]
  · unfold stepX
    rw [d4, d8, d12, n0, num4_four, num4_four, clampE_id h2 h3, clampE_id (by omega) (by omega), Int.toNat_natCast, List.take_left]
  · unfold stepR
    rw [d8, d12, num4_four, clampE_id (by omega) (by omega), Int.toNat_natCast, List.drop_left]
theorem parse_cons (k : Nat) (acc : List Ed) (x : Ed) (zs : List Int) (h : okW x) : parseF (k + 1) acc (prE x ++ zs) = parseF k (acc ++ [x]) zs := by
  obtain ⟨h1, h2, h3⟩ := step_print h zs
  have hne : prE x ++ zs ≠ [] := fun e => by
    have := congrArg List.length e
    rw [List.length_append, prE_length] at this
    simp at this
  rw [parseF_ok _ _ _ hne h1, h2, h3]
theorem parse_one (x : Ed) (h : okW x) : parseR (prL [x]) = ([x], 0) := by
  have e : prL [x] = prE x ++ [] := by simp [prL, prTo, ed]
  have hl : (prE x ++ []).length = (11 + x.b.length) + 1 := by rw [List.append_nil, prE_length]; omega
  unfold parseR
  rw [e, hl, parse_cons _ _ _ _ h, parseF_nil, List.nil_append]
theorem parse_none : parseR (prL []) = ([], 0) := rfl
theorem take_cp (xs ys : List Int) : xs.take (cp xs ys) = ys.take (cp xs ys) := by
  have hl := cp_le xs ys
  refine gi_ext (by rw [List.length_take, List.length_take]; omega) fun i hi => ?_
  rw [List.length_take] at hi
  rw [gi_take (by omega), gi_take (by omega)]
  exact cp_alike xs ys i (by omega)
theorem drop_ce (xs ys : List Int) : xs.drop (xs.length - ce xs ys) = ys.drop (ys.length - ce xs ys) := by
  have hl := ce_le xs ys
  refine gi_ext (by rw [List.length_drop, List.length_drop]; omega) fun i hi => ?_
  rw [List.length_drop] at hi
  rw [gi_drop, gi_drop]
  have h := cp_alike (xs.drop (cp xs ys)).reverse (ys.drop (cp xs ys)).reverse (ce xs ys - 1 - i) (by
    have e : cp (xs.drop (cp xs ys)).reverse (ys.drop (cp xs ys)).reverse = ce xs ys := rfl
    rw [e]; omega)
  rw [gi_reverse (by rw [List.length_drop]; omega), gi_reverse (by rw [List.length_drop]; omega), gi_drop, gi_drop, List.length_drop, List.length_drop] at h
  rw [show cp xs ys + (xs.length - cp xs ys - 1 - (ce xs ys - 1 - i)) = xs.length - ce xs ys + i from by omega, show cp xs ys + (ys.length - cp xs ys - 1 - (ce xs ys - 1 - i)) = ys.length - ce xs ys + i from by omega] at h
  exact h
theorem apply_mk (a b : List Int) (hb : b.length ≤ 65536) : applyR a (mkEdits a b) = (b, 0) := by
  have hl := ce_le a b
  by_cases h : a = b
  · subst h
    have e : mkEdits a a = [] := by simp [mkEdits]
    rw [e]
    unfold applyR
    have e2 : apL a [] = a := by simp [apL, apTo, atL]
    have hm0 : MayL a.length [] := fun i hi => absurd hi (by simp)
    rw [if_pos hm0, e2, if_neg (by omega)]
  · have e : mkEdits a b = [⟨(cp a b : Nat), (a.length : Int) - (ce a b : Nat), (b.take (b.length - ce a b)).drop (cp a b)⟩] := by
      unfold mkEdits
      rw [if_neg h]
      rfl
    rw [e]
    have hm : MayL a.length [⟨(cp a b : Nat), (a.length : Int) - (ce a b : Nat), (b.take (b.length - ce a b)).drop (cp a b)⟩] := by
      intro i hi
      obtain rfl : i = 0 := by simp at hi; omega
      show (0 : Int) ≤ _ ∧ _ ∧ _
      simp only [ed, List.getD_cons_zero]
      omega
    have e2 : apL a [⟨(cp a b : Nat), (a.length : Int) - (ce a b : Nat), (b.take (b.length - ce a b)).drop (cp a b)⟩] = b := by
      show ([] ++ ((a.take ((cp a b : Nat) : Int).toNat).drop (0 : Int).toNat ++ (b.take (b.length - ce a b)).drop (cp a b))) ++ a.drop ((a.length : Int) - (ce a b : Nat)).toNat = b
      rw [show ((a.length : Int) - (ce a b : Nat)).toNat = a.length - ce a b from by omega, drop_ce, Int.toNat_natCast, take_cp]
      simp only [List.nil_append, Int.toNat_zero, List.drop_zero]
      have e3 : b.take (cp a b) = (b.take (b.length - ce a b)).take (cp a b) := by rw [List.take_take, Nat.min_eq_left (by omega)]
      rw [e3, List.take_append_drop, List.take_append_drop]
    unfold applyR
    rw [if_pos hm, e2, if_neg (by omega)]
theorem parse_mk (a b : List Int) (ha : a.length ≤ 100000) (hb : b.length ≤ 100000) : parseR (prL (mkEdits a b)) = (mkEdits a b, 0) := by
  by_cases h : a = b
  · have e : mkEdits a b = [] := by unfold mkEdits; rw [if_pos h]
    rw [e]
    exact parse_none
  · have hl := ce_le a b
    have e : mkEdits a b = [⟨(cp a b : Nat), (a.length : Int) - (ce a b : Nat), (b.take (b.length - ce a b)).drop (cp a b)⟩] := by
      unfold mkEdits
      rw [if_neg h]
      rfl
    rw [e]
    refine parse_one _ ⟨?_, ?_, ?_, ?_, ?_⟩
    all_goals simp only [List.length_drop, List.length_take]
    all_goals omega
end Go.Proofs.Ytgokompppadogaa
