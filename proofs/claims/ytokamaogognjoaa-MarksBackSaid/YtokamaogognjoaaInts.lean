/-
  A slice of ints that is read.
-/
import Derived.Test.YtokamaogognjoaaBytesB
set_option linter.unusedVariables false
set_option linter.unusedSimpArgs false
namespace Go.Proofs.Ytokamaogognjoaa
open Go.RowKit

/-- ints that an int can hold. -/
def Nums (xs : List Int) : Prop := ∀ x ∈ xs, -9223372036854775808 ≤ x ∧ x ≤ 9223372036854775807
set_option maxRecDepth 100000 in
theorem wf_int {x : Int} (h : (Lit.int .i64 x).wf = true) : -9223372036854775808 ≤ x ∧ x ≤ 9223372036854775807 := by
  simpa [Lit.wf, IntKind.min, IntKind.max, IntKind.signed, IntKind.bits] using h
set_option maxRecDepth 100000 in
theorem Nums.gi {xs : List Int} (h : Nums xs) (i : Nat) : -9223372036854775808 ≤ gi xs i ∧ gi xs i ≤ 9223372036854775807 := by
  rcases Nat.lt_or_ge i xs.length with hi | hi
  · exact h _ (gi_mem hi)
  · simp [Go.Proofs.Ytokamaogognjoaa.gi, List.getElem?_eq_none hi]
def RI (w : World) (A : Option Addr) (n : Nat) (xs : List Int) : Prop :=
  xs.length = n ∧ Nums xs ∧ (0 < n → ∃ ad, A = some ad ∧ ∀ j, j < n → w.cell? (ad.add j) = some (.int .i64 (gi xs j)))
section
variable {w w' : World} {A : Option Addr} {n : Nat} {xs : List Int}
set_option maxRecDepth 100000 in
theorem RI.len (h : RI w A n xs) : xs.length = n := h.1
set_option maxRecDepth 100000 in
theorem RI.nums (h : RI w A n xs) : Nums xs := h.2.1
set_option maxRecDepth 100000 in
theorem RI.plain (h : RI w A n xs) (hn : 0 < n) : ∃ b o, A = some ⟨b, o, none⟩ ∧ ∀ j, j < n → w.cell? ⟨b, o + j, none⟩ = some (.int .i64 (gi xs j)) := by
  obtain ⟨⟨b, o, sp⟩, e, hc⟩ := h.2.2 hn
  have hsp : sp = none := by
    have := World.cell?_spot (hc 0 hn)
    simpa [Addr.add] using this
  subst hsp
  exact ⟨b, o, e, fun j hj => by have := hc j hj; rwa [add_plain] at this⟩
set_option maxRecDepth 100000 in
theorem RI.keep (h : RI w A n xs) (hk : ∀ (p : Addr) v, w.cell? p = some v → w'.cell? p = some v) : RI w' A n xs :=
  ⟨h.1, h.2.1, fun hn => by
    obtain ⟨ad, e, hc⟩ := h.2.2 hn
    exact ⟨ad, e, fun j hj => hk _ _ (hc j hj)⟩⟩
set_option maxRecDepth 100000 in
theorem RI.below (h : RI w A n xs) (hb : Below w.heap.size w w') : RI w' A n xs := h.keep fun p v hv => cell_later hb hv
end
set_option maxRecDepth 100000 in
theorem RI.of_row {w : World} {a : Option Addr} {len cap : Nat} {zs : List Int}
    (h : (a = none ∧ len = 0 ∧ cap = 0 ∧ zs = []) ∨ ∃ x, a = some x ∧ len ≤ cap ∧ cap ≤ maxLen ∧ zs.length = cap ∧ (∀ i, i < zs.length → w.cell? (x.add i) = some (.int .i64 (zs.getD i 0))) ∧ ∀ n ∈ zs, (Lit.int .i64 n).wf = true) :
    RI w a len (zs.take len) ∧ len ≤ cap := by
  rcases h with ⟨rfl, rfl, rfl, rfl⟩ | ⟨x, rfl, hl, _, hz, hc, hw⟩
  · exact ⟨⟨rfl, fun x hx => absurd hx (by simp), fun h => absurd h (by omega)⟩, Nat.le_refl _⟩
  · refine ⟨⟨by rw [List.length_take]; omega, fun z hz' => wf_int (hw z (List.mem_of_mem_take hz')), fun _ => ⟨x, rfl, fun j hj => ?_⟩⟩, hl⟩
    rw [gi_take hj]
    exact hc j (by omega)
end Go.Proofs.Ytokamaogognjoaa
