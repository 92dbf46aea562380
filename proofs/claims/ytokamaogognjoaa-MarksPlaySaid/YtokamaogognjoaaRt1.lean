/-
  trestleref04.Tape in memory. (Printed by gen/rt1.py.)
-/
import Derived.Test.YtokamaogognjoaaTp3a
set_option linter.unusedVariables false
set_option linter.unusedSimpArgs false
namespace Go.Proofs.Ytokamaogognjoaa
open Go.RowKit

def rtC (A : Option Addr) (n c : Nat) (s : Tp) : Array Value := #[.slice A n c, .int .i64 s.held, .int .i64 s.room, .int .i64 s.fuse, .bool s.down]
section
variable {w w' : World} {P Q : Nat → Prop} {g : Nat} {s : Tp} {A : Option Addr} {n c : Nat}
end
section
variable {w w' : World} {P : Nat → Prop} {g : Nat} {s s' : Tp} {A : Option Addr} {n c : Nat}
end
section
variable {w w1 w2 : World} {P : Nat → Prop} {g : Nat} {s s1 s2 : Tp}
end
end Go.Proofs.Ytokamaogognjoaa
