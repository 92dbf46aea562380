/-
  A tape: its state, how it lies in memory, what each deed makes of it.
-/
import Derived.Test.YtokamaogognjoaaOwn
import Derived.Test.YtokamaogognjoaaConcat
set_option linter.unusedVariables false
set_option linter.unusedSimpArgs false
namespace Go.Proofs.Ytokamaogognjoaa
open Go.RowKit

structure Tp where
  b : List Int
  held : Nat
  room : Int
  fuse : Int
  falls : Nat
  down : Bool
def Tp.sink (s : Tp) : Tp := { s with falls := if s.down then s.falls else s.falls + 1, down := true }
def Tp.cutTo (s : Tp) (n : Nat) : Tp := { s with b := s.b.take n, held := n }
def Tp.burn (s : Tp) : Tp := { s with fuse := max (s.fuse - 1) 0 }
/-- a deed: its answer, and what it leaves. -/
def Tp.deed (s : Tp) (r : Int) (pass leave : Tp → Tp) : Int × Tp :=
  if s.down = true then (16, s) else if r ≠ 0 then (r, s) else if s.fuse = 1 then (16, (leave { s with fuse := 0 }).sink) else (0, pass s.burn)
def Tp.wr (x : List Int) (s : Tp) : Tp := { s with b := s.b ++ x }
def Tp.hd (s : Tp) : Tp := { s with held := s.b.length }
def Tp.sw (x : List Int) (s : Tp) : Tp := { s with b := x, held := x.length }
def Tp.write (s : Tp) (x : List Int) : Int × Tp := s.deed (if 0 < x.length ∧ s.room - s.b.length < x.length then 14 else 0) (Tp.wr x) (Tp.wr x)
def Tp.hold (s : Tp) : Int × Tp := s.deed 0 Tp.hd id
def Tp.cut (s : Tp) (n : Int) : Int × Tp := s.deed (if n < 0 ∨ (s.b.length : Int) < n then 1 else 0) (fun t => t.cutTo n.toNat) id
def Tp.swap (s : Tp) (x : List Int) : Int × Tp := s.deed (if s.room < x.length then 14 else 0) (Tp.sw x) id
def Tp.setRoom (s : Tp) (n : Int) : Tp := { s with room := min (max n 0) 16777216 }
def Tp.setFuse (s : Tp) (n : Int) : Tp := { s with fuse := max n 0 }
def Tp.fall (s : Tp) (k : Int) : Tp := s.sink.cutTo (s.held + (min (max k 0) ((s.b.length : Int) - s.held)).toNat)
def Tp.rise (s : Tp) : Tp := if s.down = true then { s.cutTo s.held with down := false } else s
structure Tp.Ok (s : Tp) (N : Nat) : Prop where
  byts : Byts s.b
  held : s.held ≤ s.b.length
  room0 : 0 ≤ s.room
  room1 : s.room ≤ 16777216
  fuse0 : 0 ≤ s.fuse
  fuse1 : s.fuse ≤ 9223372036854775807
  len : s.b.length ≤ N
  falls : s.falls ≤ N
def Tp.new : Tp := ⟨[], 0, 0, 0, 0, false⟩
end Go.Proofs.Ytokamaogognjoaa
