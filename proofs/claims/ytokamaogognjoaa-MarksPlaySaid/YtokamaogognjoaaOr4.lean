/-
  Four bytes as one number: 'or' of shifted bytes is their sum.
-/
import Derived.Test.YtokamaogognjoaaMem
set_option linter.unusedVariables false
set_option linter.unusedSimpArgs false
namespace Go.Proofs.Ytokamaogognjoaa
open Go.RowKit

set_option maxRecDepth 100000 in
theorem or_add (x y i : Nat) (hx : x % 2 ^ i = 0) (hy : y < 2 ^ i) (h : x + y < 9223372036854775808) : bits .or .i64 (x : Int) (y : Int) = ((x + y : Nat) : Int) := by
  show IntKind.i64.wrap ((BitVec.ofInt 64 (x : Int) ||| BitVec.ofInt 64 (y : Int)).toNat : Int) = _
  rw [BitVec.ofInt_natCast, BitVec.ofInt_natCast, BitVec.toNat_or, BitVec.toNat_ofNat, BitVec.toNat_ofNat, Nat.mod_eq_of_lt (by omega), Nat.mod_eq_of_lt (by omega)]
  obtain ⟨q, rfl⟩ : ∃ q, x = 2 ^ i * q := ⟨x / 2 ^ i, by rw [Nat.mul_comm]; exact (Nat.div_mul_cancel (Nat.dvd_of_mod_eq_zero hx)).symm⟩
  rw [← Nat.two_pow_add_eq_or_of_lt hy]
  exact IntWalk.i64_in _ (by omega)
set_option maxRecDepth 100000 in
theorem or_1 {a b : Int} (a0 : 0 ≤ a) (a1 : a ≤ 255) (b0 : 0 ≤ b) (b1 : b ≤ 255) : bits .or .i64 (a * 16777216) (b * 65536) = a * 16777216 + b * 65536 := by
  have := or_add (a.toNat * 16777216) (b.toNat * 65536) 24 (by omega) (by omega) (by omega)
  rw [show ((a.toNat * 16777216 : Nat) : Int) = a * 16777216 from by omega, show ((b.toNat * 65536 : Nat) : Int) = b * 65536 from by omega] at this
  rw [this]
  omega
set_option maxRecDepth 100000 in
theorem or_2 {a b : Int} {x : Int} (x0 : 0 ≤ x) (x1 : x < 4294967296) (hx : x % 65536 = 0) (b0 : 0 ≤ b) (b1 : b ≤ 255) : bits .or .i64 x (b * 256) = x + b * 256 := by
  have := or_add x.toNat (b.toNat * 256) 16 (by omega) (by omega) (by omega)
  rw [show ((x.toNat : Nat) : Int) = x from by omega, show ((b.toNat * 256 : Nat) : Int) = b * 256 from by omega] at this
  rw [this]
  omega
set_option maxRecDepth 100000 in
theorem or_3 {b : Int} {x : Int} (x0 : 0 ≤ x) (x1 : x < 4294967296) (hx : x % 256 = 0) (b0 : 0 ≤ b) (b1 : b ≤ 255) : bits .or .i64 x b = x + b := by
  have := or_add x.toNat b.toNat 8 (by omega) (by omega) (by omega)
  rw [show ((x.toNat : Nat) : Int) = x from by omega, show ((b.toNat : Nat) : Int) = b from by omega] at this
  rw [this]
  omega
end Go.Proofs.Ytokamaogognjoaa
