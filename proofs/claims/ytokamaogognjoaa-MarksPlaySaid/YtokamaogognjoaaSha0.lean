/-
  SHA-1 as a plain function on lists: what both the program and the reference compute. No Go in sight.
-/
import Derived.Test.YtokamaogognjoaaBytesB
set_option linter.unusedVariables false
set_option linter.unusedSimpArgs false
namespace Go.Proofs.Ytokamaogognjoaa

/-- a 32-bit word as the number that a cell holds. -/
def U (x : UInt32) : Int := (x.toNat : Int)
set_option maxRecDepth 100000 in
theorem U_range (x : UInt32) : 0 ≤ U x ∧ U x < 4294967296 := by
  have := x.toNat_lt
  unfold U
  omega
set_option maxRecDepth 100000 in
theorem U_inj {x y : UInt32} (h : U x = U y) : x = y := by
  unfold U at h
  exact UInt32.toNat_inj.1 (by omega)
/-- a byte as a word. -/
def w8 (x : Int) : UInt32 := UInt32.ofNat x.toNat
set_option maxRecDepth 100000 in
theorem U_w8 {x : Int} (h0 : 0 ≤ x) (h1 : x ≤ 255) : U (w8 x) = x := by
  unfold U w8
  rw [UInt32.toNat_ofNat_of_lt' (by simp [UInt32.size]; omega)]
  omega

def rotl (x : UInt32) (k : UInt32) : UInt32 := x <<< k ||| x >>> (32 - k)
def wordAt (m : List Int) (p : Nat) : UInt32 := w8 (gi m p) <<< 24 ||| w8 (gi m (p + 1)) <<< 16 ||| w8 (gi m (p + 2)) <<< 8 ||| w8 (gi m (p + 3))
/-- a word of a list (0 beyond). -/
def wi (ws : List UInt32) (i : Nat) : UInt32 := ws.getD i 0
def wstep (m : List Int) (ws : List UInt32) (i : Nat) : UInt32 :=
  if i < 16 then wordAt m (4 * i) else rotl (wi ws (i - 3) ^^^ wi ws (i - 8) ^^^ wi ws (i - 14) ^^^ wi ws (i - 16)) 1
def sched (m : List Int) : Nat → List UInt32
  | 0 => []
  | i + 1 => (fun ws => ws ++ [wstep m ws i]) (sched m i)
structure H5 where
  a : UInt32
  b : UInt32
  c : UInt32
  d : UInt32
  e : UInt32
def fOf (i : Nat) (b c d : UInt32) : UInt32 :=
  if i < 20 then b &&& c ||| ~~~b &&& d else if i < 40 then b ^^^ c ^^^ d else if i < 60 then b &&& c ||| b &&& d ||| c &&& d else b ^^^ c ^^^ d
def kOf (i : Nat) : UInt32 := if i < 20 then 1518500249 else if i < 40 then 1859775393 else if i < 60 then 2400959708 else 3395469782
def round1 (w : UInt32) (i : Nat) : H5 → H5
  | ⟨a, b, c, d, e⟩ => ⟨rotl a 5 + fOf i b c d + e + kOf i + w, a, rotl b 30, c, d⟩
def rounds (ws : List UInt32) (h : H5) : Nat → H5
  | 0 => h
  | i + 1 => round1 (wi ws i) i (rounds ws h i)
def addH : H5 → H5 → H5
  | ⟨a, b, c, d, e⟩, ⟨a', b', c', d', e'⟩ => ⟨a + a', b + b', c + c', d + d', e + e'⟩
def mixedH (h : H5) (m : List Int) : H5 := addH h (rounds (sched m 80) h 80)
def initH : H5 := ⟨1732584193, 4023233417, 2562383102, 271733878, 3285377520⟩
def mixTo (m : List Int) : Nat → H5
  | 0 => initH
  | j + 1 => mixedH (mixTo m j) ((m.drop (64 * j)).take 64)
def lenBytes (n : Nat) : List Int := [(n * 8 / 2 ^ 56 % 256 : Nat), (n * 8 / 2 ^ 48 % 256 : Nat), (n * 8 / 2 ^ 40 % 256 : Nat), (n * 8 / 2 ^ 32 % 256 : Nat), (n * 8 / 2 ^ 24 % 256 : Nat), (n * 8 / 2 ^ 16 % 256 : Nat), (n * 8 / 2 ^ 8 % 256 : Nat), (n * 8 % 256 : Nat)]
/-- how many zeros stand behind the sign. -/
def zerosOf (n : Nat) : Nat := (119 - n % 64) % 64
def padded (xs : List Int) : List Int := xs ++ [128] ++ List.replicate (zerosOf xs.length) 0 ++ lenBytes xs.length
def wordOf : H5 → Nat → UInt32
  | ⟨a, b, c, d, e⟩, i => if i = 0 then a else if i = 1 then b else if i = 2 then c else if i = 3 then d else e
def outByte (h : H5) (i : Nat) : Int := U (wordOf h (i / 4)) / 2 ^ (24 - 8 * (i % 4)) % 256
def outBytes (h : H5) : List Int := (List.range 20).map (outByte h)
def sha1 (xs : List Int) : List Int := outBytes (mixTo (padded xs) ((padded xs).length / 64))

set_option maxRecDepth 100000 in
theorem sha_abc : (gi (sha1 [97, 98, 99]) 0, gi (sha1 [97, 98, 99]) 19) = (169, 157) := by kernel_rfl
set_option maxRecDepth 100000 in
theorem sha_none : (gi (sha1 []) 0, gi (sha1 []) 19) = (218, 9) := by kernel_rfl
end Go.Proofs.Ytokamaogognjoaa
