/-
  The log of texts, pure: where a node stands, what an Add answers, how the next text is kept.
-/
import Derived.Test.YtgokompppadogaaRv0
import Derived.Test.YtgokompppadogaaDltC
set_option linter.unusedVariables false
set_option linter.unusedSimpArgs false
namespace Go.Proofs.Ytgokompppadogaa
open Go.RowKit

/-- a text, its node and parents, and how many changes stand between it and a text that is kept whole. -/
structure Rv where
  node : IdL
  p1 : IdL
  p2 : IdL
  text : List Int
  chain : Nat
abbrev Lg := List Rv
def rv (L : Lg) (j : Nat) : Rv := L.getD j ⟨[], [], [], [], 0⟩
theorem rv_some {L : Lg} {j : Nat} (h : j < L.length) : L[j]? = some (rv L j) := by simp [rv, h]
theorem rv_left {L M : Lg} {j : Nat} (h : j < L.length) : rv (L ++ M) j = rv L j := by simp [rv, List.getElem?_append, h]
theorem rv_end {L : Lg} {r : Rv} : rv (L ++ [r]) L.length = r := by simp [rv]
def nodes (L : Lg) : List IdL := L.map Rv.node
theorem nodes_get {L : Lg} {j : Nat} (h : j < L.length) : (nodes L)[j]? = some (rv L j).node := by simp [nodes, rv, h]
theorem nodes_length (L : Lg) : (nodes L).length = L.length := by simp [nodes]
theorem nodes_snoc (L : Lg) (r : Rv) : nodes (L ++ [r]) = nodes L ++ [r.node] := by simp [nodes]
def posL (L : Lg) (x : IdL) : Option Nat := (nodes L).findIdx? (· == x)
theorem posL_some {L : Lg} {x : IdL} {k : Nat} (h : posL L x = some k) : k < L.length ∧ (rv L k).node = x := by
  unfold posL at h
  obtain ⟨h1, h2, _⟩ := List.findIdx?_eq_some_iff_getElem.1 h
  rw [nodes_length] at h1
  refine ⟨h1, ?_⟩
  have := nodes_get h1
  rw [List.getElem?_eq_getElem (by rw [nodes_length]; exact h1)] at this
  injection this with this
  rw [← this]
  simpa using h2
theorem posL_none {L : Lg} {x : IdL} (h : posL L x = none) : x ∉ nodes L := by
  unfold posL at h
  rw [List.findIdx?_eq_none_iff] at h
  intro hx
  simpa using h x hx
theorem posL_of {L : Lg} (hn : (nodes L).Nodup) {x : IdL} {j : Nat} (hj : j < L.length) (hx : (rv L j).node = x) : posL L x = some j := by
  cases h : posL L x with
  | none =>
    exact absurd (List.mem_of_getElem? (nodes_get hj)) (by rw [hx]; exact posL_none h)
  | some k =>
    obtain ⟨hk, e⟩ := posL_some h
    have h1 := nodes_get hj
    have h2 := nodes_get hk
    rw [hx] at h1
    rw [e] at h2
    have := (List.getElem?_inj (by rw [nodes_length]; exact hj) hn).1 (h1.trans h2.symm)
    rw [this]
theorem posL_no {L : Lg} {x : IdL} (h : x ∉ nodes L) : posL L x = none := by
  cases hp : posL L x with
  | none => rfl
  | some k =>
    obtain ⟨hk, e⟩ := posL_some hp
    exact absurd (List.mem_of_getElem? (nodes_get hk)) (by rw [e]; exact h)
def hasL (L : Lg) (x : IdL) : Bool := (posL L x).isSome
def lacksL (L : Lg) (p : IdL) : Bool := p != zeroL && !hasL L p
/-- may a text be added where its node is there, at k? -/
def sameB (L : Lg) (k : Nat) (t p1 p2 : List Int) : Bool := decide ((rv L k).text = t) && (rv L k).p1 == p1 && (rv L k).p2 == p2
def mayE (L : Lg) (t p1 p2 : List Int) : Int :=
  if (lacksL L p1 || lacksL L p2) = true then 6 else
  match posL L (nodeV t p1 p2) with
  | some k => if sameB L k t p1 p2 = true then 0 else 7
  | none => if 2000 ≤ L.length then 5 else 0
/-- the last text's chain and the edits from it. -/
def keepC (L : Lg) (t : List Int) : Nat :=
  if L.length = 0 then 0 else
  if (rv L (L.length - 1)).chain < 8 ∧ (prL (mkEdits (rv L (L.length - 1)).text t)).length < t.length then (rv L (L.length - 1)).chain + 1 else 0
def newR (L : Lg) (t p1 p2 : List Int) : Rv := ⟨nodeV t p1 p2, p1, p2, t, keepC L t⟩
def addX (L : Lg) (t p1 p2 : List Int) : IdL := if mayE L t p1 p2 = 0 then nodeV t p1 p2 else zeroL
def addL (L : Lg) (t p1 p2 : List Int) : Lg := if mayE L t p1 p2 = 0 ∧ posL L (nodeV t p1 p2) = none then L ++ [newR L t p1 p2] else L
structure LInv (L : Lg) : Prop where
  nd : (nodes L).Nodup
  ids : ∀ j, j < L.length → IsId (rv L j).node ∧ IsId (rv L j).p1 ∧ IsId (rv L j).p2
  txt : ∀ j, j < L.length → Byts (rv L j).text ∧ (rv L j).text.length ≤ 1500
  chn : ∀ j, j < L.length → (rv L j).chain ≤ 8 ∧ (0 < (rv L j).chain → 0 < j)
theorem LInv.nil : LInv [] := ⟨by simp [nodes], fun j hj => by simp at hj, fun j hj => by simp at hj, fun j hj => by simp at hj⟩
theorem keepC_le (L : Lg) (t : List Int) : keepC L t ≤ 8 ∧ (0 < keepC L t → 0 < L.length) := by
  unfold keepC
  split
  · omega
  · split <;> omega
theorem addX_id (L : Lg) (t p1 p2 : List Int) : IsId (addX L t p1 p2) := by
  unfold addX
  split
  · exact nodeV_id _ _ _
  · exact zeroL_id
theorem LInv.snoc {L : Lg} (h : LInv L) {r : Rv} (hn : r.node ∉ nodes L) (hi : IsId r.node ∧ IsId r.p1 ∧ IsId r.p2) (ht : Byts r.text ∧ r.text.length ≤ 1500) (hc : r.chain ≤ 8 ∧ (0 < r.chain → 0 < L.length)) : LInv (L ++ [r]) := by
  have hl : (L ++ [r]).length = L.length + 1 := by simp
  refine ⟨?_, fun j hj => ?_, fun j hj => ?_, fun j hj => ?_⟩
  · rw [nodes_snoc]
    refine List.nodup_append.2 ⟨h.nd, by simp, fun x hx y hy e => ?_⟩
    rw [List.mem_singleton] at hy
    exact hn (by rw [← hy, ← e]; exact hx)
  all_goals
    rw [hl] at hj
    rcases Nat.lt_or_ge j L.length with h1 | h1
    · rw [rv_left h1]
      first | exact h.ids j h1 | exact h.txt j h1 | exact h.chn j h1
    · obtain rfl : j = L.length := by omega
      rw [rv_end]
      first | exact hi | exact ht | exact hc
theorem LInv.add {L : Lg} (h : LInv L) {t p1 p2 : List Int} (ht : Byts t) (hl : t.length ≤ 1500) (h1 : IsId p1) (h2 : IsId p2) : LInv (addL L t p1 p2) := by
  unfold addL
  split
  · rename_i hc
    exact h.snoc (posL_none hc.2) ⟨nodeV_id _ _ _, h1, h2⟩ ⟨ht, hl⟩ (keepC_le L t)
  · exact h
theorem addL_length (L : Lg) (t p1 p2 : List Int) : L.length ≤ (addL L t p1 p2).length ∧ (addL L t p1 p2).length ≤ L.length + 1 := by
  unfold addL
  split <;> simp
/-- what a text is, of the one ahead. -/
def prevT (L : Lg) (j : Nat) : List Int := (rv L (j - 1)).text
theorem mk_len1 (a b : List Int) : (mkEdits a b).length ≤ 1 := by
  by_cases h : a = b
  · subst h
    simp [mkEdits]
  · rw [mkEdits_ne h]
    simp
theorem mk_blen1 (a b : List Int) (i : Nat) : (ed (mkEdits a b) i).b.length ≤ b.length := by
  by_cases h : a = b
  · subst h
    simp [mkEdits, ed]
  · rw [mkEdits_ne h]
    cases i with
    | zero => simp [ed]; omega
    | succ i => simp [ed]
theorem mkPr_le (a b : List Int) (hb : b.length ≤ 1500) : (prL (mkEdits a b)).length ≤ 2000 := by
  have := prTo_length_le (l := mkEdits a b) (M := 1500) (fun i _ => Nat.le_trans (mk_blen1 a b i) hb) _ (Nat.le_refl _)
  have h1 := mk_len1 a b
  unfold prL
  have h2 : (mkEdits a b).length * (12 + 1500) ≤ 1 * (12 + 1500) := Nat.mul_le_mul_right _ h1
  omega
end Go.Proofs.Ytgokompppadogaa
