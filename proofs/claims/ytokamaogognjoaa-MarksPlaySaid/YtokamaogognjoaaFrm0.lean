/-
  Frames on lists: what 'Pack' and 'Take' compute. No Go in sight.
-/
import Derived.Test.YtokamaogognjoaaSha6
set_option linter.unusedVariables false
set_option linter.unusedSimpArgs false
namespace Go.Proofs.Ytokamaogognjoaa

def headL (k : Int) (n : Nat) : List Int := [254, k % 256, (n : Int) / 16777216 % 256, (n : Int) / 65536 % 256, (n : Int) / 256 % 256, (n : Int) % 256]
def bodyL (k : Int) (b : List Int) : List Int := headL k b.length ++ b
def packL (k : Int) (b : List Int) : List Int := bodyL k b ++ (sha1 (bodyL k b)).take 8
/-- bytes and error of 'Pack'. -/
def packR (k : Int) (b : List Int) : List Int × Int := if k < 0 ∨ 255 < k then ([], 1) else if 131172 < b.length then ([], 5) else (packL k b, 0)
def lenI (b : List Int) : Int := gi b 2 * 16777216 + gi b 3 * 65536 + gi b 4 * 256 + gi b 5
def lenL (b : List Int) : Nat := (lenI b).toNat
/-- kind, bytes, length and error of 'Take'. -/
structure TakeR where
  kind : Int
  body : List Int
  len : Int
  err : Int
def takeR (b : List Int) : TakeR :=
  if b.length = 0 then ⟨0, [], 0, 3⟩
  else if gi b 0 ≠ 254 then ⟨0, [], 0, 4⟩
  else if b.length < 6 then ⟨0, [], 0, 3⟩
  else if 131172 < lenL b then ⟨0, [], 0, 5⟩
  else if b.length < 14 + lenL b then ⟨0, [], 0, 3⟩
  else if (sha1 (b.take (6 + lenL b))).take 8 ≠ (b.drop (6 + lenL b)).take 8 then ⟨0, [], 0, 15⟩
  else ⟨gi b 1, (b.take (6 + lenL b)).drop 6, 14 + lenL b, 0⟩

set_option maxRecDepth 100000 in
theorem headL_length (k : Int) (n : Nat) : (headL k n).length = 6 := rfl
set_option maxRecDepth 100000 in
theorem headL_byts (k : Int) (n : Nat) : Byts (headL k n) := by
  intro x hx
  simp only [headL, List.mem_cons, List.not_mem_nil, or_false] at hx
  rcases hx with rfl | rfl | rfl | rfl | rfl | rfl <;> omega
set_option maxRecDepth 100000 in
theorem lenI_range {b : List Int} (h : Byts b) : 0 ≤ lenI b ∧ lenI b < 4294967296 := by
  have h2 := h.gi 2
  have h3 := h.gi 3
  have h4 := h.gi 4
  have h5 := h.gi 5
  unfold lenI
  omega
set_option maxRecDepth 100000 in
theorem lenL_eq {b : List Int} (h : Byts b) : (lenL b : Int) = lenI b := Int.toNat_of_nonneg (lenI_range h).1
set_option maxRecDepth 100000 in
theorem bodyL_length (k : Int) (b : List Int) : (bodyL k b).length = 6 + b.length := by simp [bodyL, headL_length]
set_option maxRecDepth 100000 in
theorem packL_length (k : Int) (b : List Int) : (packL k b).length = 14 + b.length := by
  have := (isId_sha (bodyL k b)).1
  simp [packL, bodyL_length, this]
  omega
end Go.Proofs.Ytokamaogognjoaa
