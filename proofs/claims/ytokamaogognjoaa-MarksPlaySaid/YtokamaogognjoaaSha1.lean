/-
  SHA-1's small functions: turns, words, what a round mixes.
-/
import Derived.Test.YtokamaogognjoaaSha0
set_option linter.unusedVariables false
set_option linter.unusedSimpArgs false
namespace Go.Proofs.Ytokamaogognjoaa
open Go.RowKit

set_option maxRecDepth 100000 in
theorem ofInt_U (x : UInt32) : BitVec.ofInt 32 (U x) = x.toBitVec := by
  unfold U
  rw [BitVec.ofInt_natCast]
  exact BitVec.eq_of_toNat_eq (by rw [BitVec.toNat_ofNat]; exact Nat.mod_eq_of_lt x.toNat_lt)
set_option maxRecDepth 100000 in
theorem wrap_nat32 (n : Nat) (h : n < 4294967296) : IntKind.u32.wrap (n : Int) = n := by
  simp [IntKind.wrap, IntKind.signed, IntKind.bits]
  omega
set_option maxRecDepth 100000 in
@[go_sem] theorem bits_and_U (x y : UInt32) : bits .and .u32 (U x) (U y) = U (x &&& y) := by
  show IntKind.u32.wrap ((BitVec.ofInt 32 (U x) &&& BitVec.ofInt 32 (U y)).toNat : Int) = _
  rw [ofInt_U, ofInt_U, wrap_nat32 _ (BitVec.isLt _)]
  rfl
set_option maxRecDepth 100000 in
@[go_sem] theorem bits_or_U (x y : UInt32) : bits .or .u32 (U x) (U y) = U (x ||| y) := by
  show IntKind.u32.wrap ((BitVec.ofInt 32 (U x) ||| BitVec.ofInt 32 (U y)).toNat : Int) = _
  rw [ofInt_U, ofInt_U, wrap_nat32 _ (BitVec.isLt _)]
  rfl
set_option maxRecDepth 100000 in
@[go_sem] theorem bits_xor_U (x y : UInt32) : bits .xor .u32 (U x) (U y) = U (x ^^^ y) := by
  show IntKind.u32.wrap ((BitVec.ofInt 32 (U x) ^^^ BitVec.ofInt 32 (U y)).toNat : Int) = _
  rw [ofInt_U, ofInt_U, wrap_nat32 _ (BitVec.isLt _)]
  rfl
set_option maxRecDepth 100000 in
theorem max_U : IntKind.u32.max = U (~~~0) := by rfl
set_option maxRecDepth 100000 in
@[go_sem] theorem bits_not_U (x : UInt32) : bits .xor .u32 IntKind.u32.max (U x) = U (~~~x) := by
  rw [max_U, bits_xor_U]
  simp
set_option maxRecDepth 100000 in
@[go_sem] theorem wrap_add_U (x y : UInt32) : IntKind.u32.wrap (U x + U y) = U (x + y) := by
  unfold U
  rw [UInt32.toNat_add]
  simp [IntKind.wrap, IntKind.signed, IntKind.bits]
set_option maxRecDepth 100000 in
@[go_sem] theorem wrap_U (x : UInt32) : IntKind.u32.wrap (U x) = U x := by
  unfold U
  exact wrap_nat32 _ x.toNat_lt
set_option maxRecDepth 100000 in
theorem shl_U (x k : UInt32) (n : Nat) (hk : k.toNat = n) (hn : n < 32) : IntKind.u32.wrap (U x * (2 ^ n : Nat)) = U (x <<< k) := by
  unfold U
  rw [UInt32.toNat_shiftLeft, hk, Nat.shiftLeft_eq, Nat.mod_eq_of_lt hn]
  simp [IntKind.wrap, IntKind.signed, IntKind.bits]
set_option maxRecDepth 100000 in
theorem shr_U (x k : UInt32) (n : Nat) (hk : k.toNat = n) (hn : n < 32) : U x / ((2 ^ n : Nat) : Int) = U (x >>> k) := by
  unfold U
  rw [UInt32.toNat_shiftRight, hk, Nat.shiftRight_eq_div_pow, Nat.mod_eq_of_lt hn]
  simp
set_option maxRecDepth 100000 in
@[go_sem] theorem and_5 : bits .and .u64 5 31 = 5 := by decide +kernel
set_option maxRecDepth 100000 in
@[go_sem] theorem and_30 : bits .and .u64 30 31 = 30 := by decide +kernel
set_option maxRecDepth 100000 in
@[go_sem] theorem and_1 : bits .and .u64 1 31 = 1 := by decide +kernel

set_option maxRecDepth 100000 in
theorem shl_form (x k : UInt32) (n : Nat) (c : Int) (hk : k.toNat = n) (hn : n < 32) (hc : c = ((2 ^ n : Nat) : Int)) : U x * c % 4294967296 = U (x <<< k) := by
  rw [hc, ← shl_U x k n hk hn]
  simp [IntKind.wrap, IntKind.signed, IntKind.bits]
set_option maxRecDepth 100000 in
theorem shr_form (x k : UInt32) (n : Nat) (c : Int) (hk : k.toNat = n) (hn : n < 32) (hc : c = ((2 ^ n : Nat) : Int)) : U x / c = U (x >>> k) := by
  rw [hc, shr_U x k n hk hn]
set_option maxRecDepth 100000 in
@[go_sem] theorem shl_5 (x : UInt32) : U x * (32 : Int) % (4294967296 : Int) = U (x <<< 5) := shl_form x 5 5 _ rfl (by omega) rfl
set_option maxRecDepth 100000 in
@[go_sem] theorem shl_30 (x : UInt32) : U x * (1073741824 : Int) % (4294967296 : Int) = U (x <<< 30) := shl_form x 30 30 _ rfl (by omega) rfl
set_option maxRecDepth 100000 in
@[go_sem] theorem shl_1 (x : UInt32) : U x * (2 : Int) % (4294967296 : Int) = U (x <<< 1) := shl_form x 1 1 _ rfl (by omega) rfl
set_option maxRecDepth 100000 in
@[go_sem] theorem shl_24 (x : UInt32) : U x * (16777216 : Int) % (4294967296 : Int) = U (x <<< 24) := shl_form x 24 24 _ rfl (by omega) rfl
set_option maxRecDepth 100000 in
@[go_sem] theorem shl_16 (x : UInt32) : U x * (65536 : Int) % (4294967296 : Int) = U (x <<< 16) := shl_form x 16 16 _ rfl (by omega) rfl
set_option maxRecDepth 100000 in
@[go_sem] theorem shl_8 (x : UInt32) : U x * (256 : Int) % (4294967296 : Int) = U (x <<< 8) := shl_form x 8 8 _ rfl (by omega) rfl
set_option maxRecDepth 100000 in
@[go_sem] theorem shr_27 (x : UInt32) : U x / (134217728 : Int) = U (x >>> 27) := shr_form x 27 27 _ rfl (by omega) rfl
set_option maxRecDepth 100000 in
@[go_sem] theorem shr_2 (x : UInt32) : U x / (4 : Int) = U (x >>> 2) := shr_form x 2 2 _ rfl (by omega) rfl
set_option maxRecDepth 100000 in
@[go_sem] theorem shr_31 (x : UInt32) : U x / (2147483648 : Int) = U (x >>> 31) := shr_form x 31 31 _ rfl (by omega) rfl

set_option maxRecDepth 100000 in
theorem ret_U {k : IntKind} {a b : Int} (h : a = b) : Ending.returned (.int k a) = .returned (.int k b) := by rw [h]
set_option maxRecDepth 100000 in
theorem rot5 (x : UInt32) (w : World) : Calls Try.prog 59 #[.int .u32 (U x), .int .i64 5] w fun e w' => e = .returned (.int .u32 (U (rotl x 5))) ∧ w = w' := by
  go_enter Try.func59, Try.ntmps59
  go_wp2
  go_ret
  exact ⟨rfl, rfl⟩
set_option maxRecDepth 100000 in
theorem rot30 (x : UInt32) (w : World) : Calls Try.prog 59 #[.int .u32 (U x), .int .i64 30] w fun e w' => e = .returned (.int .u32 (U (rotl x 30))) ∧ w = w' := by
  go_enter Try.func59, Try.ntmps59
  go_wp2
  go_ret
  exact ⟨rfl, rfl⟩
set_option maxRecDepth 100000 in
theorem rot1 (x : UInt32) (w : World) : Calls Try.prog 59 #[.int .u32 (U x), .int .i64 1] w fun e w' => e = .returned (.int .u32 (U (rotl x 1))) ∧ w = w' := by
  go_enter Try.func59, Try.ntmps59
  go_wp2
  go_ret
  exact ⟨rfl, rfl⟩

set_option maxRecDepth 100000 in
theorem word_any (A : Option Addr) (n c : Nat) (xs : List Int) (w : World) (h : RB w A n xs) (hn : 4 ≤ n) :
    Calls Try.prog 60 #[.slice A n c] w fun e w' => e = .returned (.int .u32 (U (wordAt xs 0))) ∧ ∃ q, w.drewN q = w' := by
  obtain ⟨b, o, rfl, hc⟩ := h.plain (by omega)
  have hb := h.byts
  have c0 := hc 0 (by omega)
  have c1 := hc 1 (by omega)
  have c2 := hc 2 (by omega)
  have c3 := hc 3 (by omega)
  rw [← U_w8 (hb.gi 0).1 (hb.gi 0).2, Nat.add_zero] at c0
  rw [← U_w8 (hb.gi 1).1 (hb.gi 1).2] at c1
  rw [← U_w8 (hb.gi 2).1 (hb.gi 2).2] at c2
  rw [← U_w8 (hb.gi 3).1 (hb.gi 3).2] at c3
  clear hc h hb
  go_enter Try.func60, Try.ntmps60
  go_wp2
  go_quiet (fail)
  go_wp2
  go_ret
  exact ⟨rfl, _, rfl⟩

set_option maxRecDepth 100000 in
theorem ch_xor (b c d : UInt32) : b &&& c ^^^ ~~~b &&& d = b &&& c ||| ~~~b &&& d := by
  apply UInt32.toBitVec_inj.1
  simp only [UInt32.toBitVec_xor, UInt32.toBitVec_and, UInt32.toBitVec_or, UInt32.toBitVec_not]
  apply BitVec.eq_of_getLsbD_eq
  intro i hi
  simp only [BitVec.getLsbD_xor, BitVec.getLsbD_and, BitVec.getLsbD_or, BitVec.getLsbD_not]
  cases b.toBitVec.getLsbD i <;> cases c.toBitVec.getLsbD i <;> cases d.toBitVec.getLsbD i <;> simp
set_option maxRecDepth 100000 in
theorem maj_xor (b c d : UInt32) : b &&& c ^^^ b &&& d ^^^ c &&& d = b &&& c ||| b &&& d ||| c &&& d := by
  apply UInt32.toBitVec_inj.1
  simp only [UInt32.toBitVec_xor, UInt32.toBitVec_and, UInt32.toBitVec_or]
  apply BitVec.eq_of_getLsbD_eq
  intro i hi
  simp only [BitVec.getLsbD_xor, BitVec.getLsbD_and, BitVec.getLsbD_or]
  cases b.toBitVec.getLsbD i <;> cases c.toBitVec.getLsbD i <;> cases d.toBitVec.getLsbD i <;> simp

def Two (x y : Int) (w : World) (e : Ending) (w' : World) : Prop := e = .returned (.tuple #[.int .u32 x, .int .u32 y]) ∧ w = w'
end Go.Proofs.Ytokamaogognjoaa
