/-
  No cell of these rows narrows 'for every input' (looked for: loops, veiled, ifaces, maps, wideKeys, modest, calm, conditions, laid).
  DERIVED. THE GIVEN ROWS OF THIS SEAT. 5 by the template 'for every input the law returns true; each argument reads behind the call as it read before'; 0 by the template 'total and deterministic' (their statements: YtdhegecnhglplaaTotals.lean).
  GIVEN WITH THE SEED: the statements are not yours to turn. If you find one false, say at which input.
  Laid BY PROGRAM, IN A SANDBOX (cutbox-rows.mjs): the forced cells as the released guide's own fill.sh prints them over the translation 89cde4f6ed2b6d98… (all of the seat's roots in one cut). By AI agents, Wed Nov 11 2026. No macro, syntax, notation, axiom, sorry.
-/
import Derived.Test.YtdhegecnhglplaaChecked
import GoSem.Claim
import GoSem.ClaimJoined
import GoSem.ClaimMapViews
import Derived.JoinedTies
import Derived.KernelRfl
namespace Go.Proofs.Ytdhegecnhglplaa
/- THE CELL 'sum', in the pinned program and in every row, IS THE sha256 OF THE DUMP (.gsa) THAT YtdhegecnhglplaaProg.lean LOADS. Nothing in Lean hashes anything: it is a label: what it is worth is what the hold of that sum in a sandbox is worth. -/
noncomputable def Try.pinned : Pinned := { name := "ytdhegecnhglplaa", sum := "89cde4f6ed2b6d98eb66ba53a58388d0ba5c5181eb93f00b024a12274f4a9c89", checked := Try.checked }
namespace Rows
def none {H : Type} : Left H := { results := [], args := [] }

/-- 'trestlelaw04.TapeRoom': WHATEVER THE INPUT: true; the input reads as it did. -/
def tapeRoomSpec : ChangeSpec := { name := "tapeRoom", fn := fun _ => fun
  | [d1, d2, d3] => { results := [.lit (.bool true)], args := [d1, d2, d3] }
  | _ => none }
def tapeRoomRow : OpenClaim := { program := "ytdhegecnhglplaa", sum := "89cde4f6ed2b6d98eb66ba53a58388d0ba5c5181eb93f00b024a12274f4a9c89", func := "trestle/trestlelaw04.TapeRoom", spec := "tapeRoom", unfollowed := true, recurses := true, apart := false }
def TapeRoomSaid : Prop := tapeRoomRow.holds Try.pinned (OpenSpec.ofChange tapeRoomSpec)

/-- ITS FALSE NEIGHBOUR: 'it returns false'. Refute it at one input. -/
def tapeRoomWrong : ChangeSpec := { name := "tapeRoom", fn := fun _ => fun
  | [d1, d2, d3] => { results := [.lit (.bool false)], args := [d1, d2, d3] }
  | _ => none }
def TapeRoomWrongFalsely : Prop := tapeRoomRow.holds Try.pinned (OpenSpec.ofChange tapeRoomWrong)

/-- 'trestlelaw04.TapeFuse': WHATEVER THE INPUT: true; the input reads as it did. -/
def tapeFuseSpec : ChangeSpec := { name := "tapeFuse", fn := fun _ => fun
  | [d1, d2, d3] => { results := [.lit (.bool true)], args := [d1, d2, d3] }
  | _ => none }
def tapeFuseRow : OpenClaim := { program := "ytdhegecnhglplaa", sum := "89cde4f6ed2b6d98eb66ba53a58388d0ba5c5181eb93f00b024a12274f4a9c89", func := "trestle/trestlelaw04.TapeFuse", spec := "tapeFuse", unfollowed := true, recurses := true, apart := false }
def TapeFuseSaid : Prop := tapeFuseRow.holds Try.pinned (OpenSpec.ofChange tapeFuseSpec)

/-- ITS FALSE NEIGHBOUR: 'it returns false'. Refute it at one input. -/
def tapeFuseWrong : ChangeSpec := { name := "tapeFuse", fn := fun _ => fun
  | [d1, d2, d3] => { results := [.lit (.bool false)], args := [d1, d2, d3] }
  | _ => none }
def TapeFuseWrongFalsely : Prop := tapeFuseRow.holds Try.pinned (OpenSpec.ofChange tapeFuseWrong)

/-- 'trestlelaw04.TapeHeld': WHATEVER THE INPUT: true; the input reads as it did. -/
def tapeHeldSpec : ChangeSpec := { name := "tapeHeld", fn := fun _ => fun
  | [d1, d2] => { results := [.lit (.bool true)], args := [d1, d2] }
  | _ => none }
def tapeHeldRow : OpenClaim := { program := "ytdhegecnhglplaa", sum := "89cde4f6ed2b6d98eb66ba53a58388d0ba5c5181eb93f00b024a12274f4a9c89", func := "trestle/trestlelaw04.TapeHeld", spec := "tapeHeld", unfollowed := true, recurses := true, apart := false }
def TapeHeldSaid : Prop := tapeHeldRow.holds Try.pinned (OpenSpec.ofChange tapeHeldSpec)

/-- ITS FALSE NEIGHBOUR: 'it returns false'. Refute it at one input. -/
def tapeHeldWrong : ChangeSpec := { name := "tapeHeld", fn := fun _ => fun
  | [d1, d2] => { results := [.lit (.bool false)], args := [d1, d2] }
  | _ => none }
def TapeHeldWrongFalsely : Prop := tapeHeldRow.holds Try.pinned (OpenSpec.ofChange tapeHeldWrong)

/-- 'trestlelaw04.TapeDeeds': WHATEVER THE INPUT: true; the input reads as it did. -/
def tapeDeedsSpec : ChangeSpec := { name := "tapeDeeds", fn := fun _ => fun
  | [d1, d2] => { results := [.lit (.bool true)], args := [d1, d2] }
  | _ => none }
def tapeDeedsRow : OpenClaim := { program := "ytdhegecnhglplaa", sum := "89cde4f6ed2b6d98eb66ba53a58388d0ba5c5181eb93f00b024a12274f4a9c89", func := "trestle/trestlelaw04.TapeDeeds", spec := "tapeDeeds", unfollowed := true, recurses := true, apart := false }
def TapeDeedsSaid : Prop := tapeDeedsRow.holds Try.pinned (OpenSpec.ofChange tapeDeedsSpec)

/-- ITS FALSE NEIGHBOUR: 'it returns false'. Refute it at one input. -/
def tapeDeedsWrong : ChangeSpec := { name := "tapeDeeds", fn := fun _ => fun
  | [d1, d2] => { results := [.lit (.bool false)], args := [d1, d2] }
  | _ => none }
def TapeDeedsWrongFalsely : Prop := tapeDeedsRow.holds Try.pinned (OpenSpec.ofChange tapeDeedsWrong)

/-- 'trestlelaw04.TapeNil': WHATEVER THE INPUT: true; the input reads as it did. -/
def tapeNilSpec : ChangeSpec := { name := "tapeNil", fn := fun _ => fun
  | [d1, d2] => { results := [.lit (.bool true)], args := [d1, d2] }
  | _ => none }
def tapeNilRow : OpenClaim := { program := "ytdhegecnhglplaa", sum := "89cde4f6ed2b6d98eb66ba53a58388d0ba5c5181eb93f00b024a12274f4a9c89", func := "trestle/trestlelaw04.TapeNil", spec := "tapeNil", unfollowed := true, recurses := true, apart := false }
def TapeNilSaid : Prop := tapeNilRow.holds Try.pinned (OpenSpec.ofChange tapeNilSpec)

/-- ITS FALSE NEIGHBOUR: 'it returns false'. Refute it at one input. -/
def tapeNilWrong : ChangeSpec := { name := "tapeNil", fn := fun _ => fun
  | [d1, d2] => { results := [.lit (.bool false)], args := [d1, d2] }
  | _ => none }
def TapeNilWrongFalsely : Prop := tapeNilRow.holds Try.pinned (OpenSpec.ofChange tapeNilWrong)

/- THE SECOND FORM. 'bulk': how many values and letters a reading holds, each counted each time it is reached (what is shared counts as often as it is met; a slice's spare places count too). A statement '..UptoSaid' is the law's where the arguments, and the package variables that the reading takes, are together of bulk at most 1048576: NARROWER than '..Said'. Prove '..Said' where nothing that the law and all that it calls make is longer than what came in: it says more and counts as full. Else prove '..UptoSaid'. A law counts once. -/
mutual
def uptoBulk {H : Type} : DataW H → Nat
  | .lit (.string bytes) => bytes.length + 1
  | .lit _ => 1
  | .nil => 1
  | .ptr d => uptoBulk d + 1
  | .slice elems spare => uptoBulkAll elems + uptoBulkAll spare + 1
  | .agg parts => uptoBulkAll parts + 1
  | .iface _ d => uptoBulk d + 1
  | .map entries => uptoBulkEntries entries + 1
  | .held _ => 1
def uptoBulkAll {H : Type} : List (DataW H) → Nat
  | [] => 0
  | d :: r => uptoBulk d + uptoBulkAll r
def uptoBulkEntries {H : Type} : List (Lit × DataW H) → Nat
  | [] => 0
  | x :: r => uptoBulkEntry x + uptoBulkEntries r
def uptoBulkEntry {H : Type} : Lit × DataW H → Nat
  | (.string bytes, d) => bytes.length + uptoBulk d + 1
  | (_, d) => uptoBulk d + 1
 end
def uptoSmall : (H : Type) → List (DataW H) → Bool := fun _ ds => decide (uptoBulkAll ds ≤ 1048576)
def OpenSpec.upto (s : _root_.Go.ChangeSpec) : _root_.Go.OpenSpec := { _root_.Go.OpenSpec.ofChange s with cond := some uptoSmall }

/-- 'trestlelaw04.TapeRoom', WHERE WHAT IT READS IS OF BULK AT MOST 1048576: true; the input reads as it did. -/
def tapeRoomUptoRow : OpenClaim := { program := "ytdhegecnhglplaa", sum := "89cde4f6ed2b6d98eb66ba53a58388d0ba5c5181eb93f00b024a12274f4a9c89", func := "trestle/trestlelaw04.TapeRoom", spec := "tapeRoom", unfollowed := true, recurses := true, apart := false, narrowed := true }
def TapeRoomUptoSaid : Prop := tapeRoomUptoRow.holds Try.pinned (OpenSpec.upto tapeRoomSpec)

/-- 'trestlelaw04.TapeFuse', WHERE WHAT IT READS IS OF BULK AT MOST 1048576: true; the input reads as it did. -/
def tapeFuseUptoRow : OpenClaim := { program := "ytdhegecnhglplaa", sum := "89cde4f6ed2b6d98eb66ba53a58388d0ba5c5181eb93f00b024a12274f4a9c89", func := "trestle/trestlelaw04.TapeFuse", spec := "tapeFuse", unfollowed := true, recurses := true, apart := false, narrowed := true }
def TapeFuseUptoSaid : Prop := tapeFuseUptoRow.holds Try.pinned (OpenSpec.upto tapeFuseSpec)

/-- 'trestlelaw04.TapeHeld', WHERE WHAT IT READS IS OF BULK AT MOST 1048576: true; the input reads as it did. -/
def tapeHeldUptoRow : OpenClaim := { program := "ytdhegecnhglplaa", sum := "89cde4f6ed2b6d98eb66ba53a58388d0ba5c5181eb93f00b024a12274f4a9c89", func := "trestle/trestlelaw04.TapeHeld", spec := "tapeHeld", unfollowed := true, recurses := true, apart := false, narrowed := true }
def TapeHeldUptoSaid : Prop := tapeHeldUptoRow.holds Try.pinned (OpenSpec.upto tapeHeldSpec)

/-- 'trestlelaw04.TapeDeeds', WHERE WHAT IT READS IS OF BULK AT MOST 1048576: true; the input reads as it did. -/
def tapeDeedsUptoRow : OpenClaim := { program := "ytdhegecnhglplaa", sum := "89cde4f6ed2b6d98eb66ba53a58388d0ba5c5181eb93f00b024a12274f4a9c89", func := "trestle/trestlelaw04.TapeDeeds", spec := "tapeDeeds", unfollowed := true, recurses := true, apart := false, narrowed := true }
def TapeDeedsUptoSaid : Prop := tapeDeedsUptoRow.holds Try.pinned (OpenSpec.upto tapeDeedsSpec)

/-- 'trestlelaw04.TapeNil', WHERE WHAT IT READS IS OF BULK AT MOST 1048576: true; the input reads as it did. -/
def tapeNilUptoRow : OpenClaim := { program := "ytdhegecnhglplaa", sum := "89cde4f6ed2b6d98eb66ba53a58388d0ba5c5181eb93f00b024a12274f4a9c89", func := "trestle/trestlelaw04.TapeNil", spec := "tapeNil", unfollowed := true, recurses := true, apart := false, narrowed := true }
def TapeNilUptoSaid : Prop := tapeNilUptoRow.holds Try.pinned (OpenSpec.upto tapeNilSpec)

end Rows
end Go.Proofs.Ytdhegecnhglplaa
