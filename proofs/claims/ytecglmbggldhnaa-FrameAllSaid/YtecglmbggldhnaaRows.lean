/-
  No cell of these rows narrows 'for every input' (looked for: loops, veiled, ifaces, maps, wideKeys, modest, calm, conditions, laid).
  DERIVED. THE GIVEN ROWS OF THIS SEAT. 5 by the template 'for every input the law returns true; each argument reads behind the call as it read before'; 0 by the template 'total and deterministic' (their statements: YtecglmbggldhnaaTotals.lean).
  GIVEN WITH THE SEED: the statements are not yours to turn. If you find one false, say at which input.
  Laid BY PROGRAM, IN A SANDBOX (cutbox-rows.mjs): the forced cells as the released guide's own fill.sh prints them over the translation dbb98af914d16f3f… (all of the seat's roots in one cut). By AI agents, Wed Nov 11 2026. No macro, syntax, notation, axiom, sorry.
-/
import Derived.Test.YtecglmbggldhnaaChecked
import GoSem.Claim
import GoSem.ClaimJoined
import GoSem.ClaimMapViews
import Derived.JoinedTies
import Derived.KernelRfl
namespace Go.Proofs.Ytecglmbggldhnaa
/- THE CELL 'sum', in the pinned program and in every row, IS THE sha256 OF THE DUMP (.gsa) THAT YtecglmbggldhnaaProg.lean LOADS. Nothing in Lean hashes anything: it is a label: what it is worth is what the hold of that sum in a sandbox is worth. -/
noncomputable def Try.pinned : Pinned := { name := "ytecglmbggldhnaa", sum := "dbb98af914d16f3fe04e9071701b42df4ba90e9063d5b95d8a85742a621fcfb0", checked := Try.checked }
namespace Rows
def none {H : Type} : Left H := { results := [], args := [] }

/-- 'trestlelaw05.FramePacks': WHATEVER THE INPUT: true; the input reads as it did. -/
def framePacksSpec : ChangeSpec := { name := "framePacks", fn := fun _ => fun
  | [d1, d2, d3] => { results := [.lit (.bool true)], args := [d1, d2, d3] }
  | _ => none }
def framePacksRow : OpenClaim := { program := "ytecglmbggldhnaa", sum := "dbb98af914d16f3fe04e9071701b42df4ba90e9063d5b95d8a85742a621fcfb0", func := "trestle/trestlelaw05.FramePacks", spec := "framePacks", unfollowed := true, recurses := true, apart := false }
def FramePacksSaid : Prop := framePacksRow.holds Try.pinned (OpenSpec.ofChange framePacksSpec)

/-- ITS FALSE NEIGHBOUR: 'it returns false'. Refute it at one input. -/
def framePacksWrong : ChangeSpec := { name := "framePacks", fn := fun _ => fun
  | [d1, d2, d3] => { results := [.lit (.bool false)], args := [d1, d2, d3] }
  | _ => none }
def FramePacksWrongFalsely : Prop := framePacksRow.holds Try.pinned (OpenSpec.ofChange framePacksWrong)

/-- 'trestlelaw05.FrameCut': WHATEVER THE INPUT: true; the input reads as it did. -/
def frameCutSpec : ChangeSpec := { name := "frameCut", fn := fun _ => fun
  | [d1, d2, d3, d4] => { results := [.lit (.bool true)], args := [d1, d2, d3, d4] }
  | _ => none }
def frameCutRow : OpenClaim := { program := "ytecglmbggldhnaa", sum := "dbb98af914d16f3fe04e9071701b42df4ba90e9063d5b95d8a85742a621fcfb0", func := "trestle/trestlelaw05.FrameCut", spec := "frameCut", apart := false }
def FrameCutSaid : Prop := frameCutRow.holds Try.pinned (OpenSpec.ofChange frameCutSpec)

/-- ITS FALSE NEIGHBOUR: 'it returns false'. Refute it at one input. -/
def frameCutWrong : ChangeSpec := { name := "frameCut", fn := fun _ => fun
  | [d1, d2, d3, d4] => { results := [.lit (.bool false)], args := [d1, d2, d3, d4] }
  | _ => none }
def FrameCutWrongFalsely : Prop := frameCutRow.holds Try.pinned (OpenSpec.ofChange frameCutWrong)

/-- 'trestlelaw05.FrameLimit': WHATEVER THE INPUT: true; the input reads as it did. -/
def frameLimitSpec : ChangeSpec := { name := "frameLimit", fn := fun _ => fun
  | [d] => { results := [.lit (.bool true)], args := [d] }
  | _ => none }
def frameLimitRow : OpenClaim := { program := "ytecglmbggldhnaa", sum := "dbb98af914d16f3fe04e9071701b42df4ba90e9063d5b95d8a85742a621fcfb0", func := "trestle/trestlelaw05.FrameLimit", spec := "frameLimit", apart := false }
def FrameLimitSaid : Prop := frameLimitRow.holds Try.pinned (OpenSpec.ofChange frameLimitSpec)

/-- ITS FALSE NEIGHBOUR: 'it returns false'. Refute it at one input. -/
def frameLimitWrong : ChangeSpec := { name := "frameLimit", fn := fun _ => fun
  | [d] => { results := [.lit (.bool false)], args := [d] }
  | _ => none }
def FrameLimitWrongFalsely : Prop := frameLimitRow.holds Try.pinned (OpenSpec.ofChange frameLimitWrong)

/-- 'trestlelaw05.FrameTurned': WHATEVER THE INPUT: true; the input reads as it did. -/
def frameTurnedSpec : ChangeSpec := { name := "frameTurned", fn := fun _ => fun
  | [d1, d2, d3] => { results := [.lit (.bool true)], args := [d1, d2, d3] }
  | _ => none }
def frameTurnedRow : OpenClaim := { program := "ytecglmbggldhnaa", sum := "dbb98af914d16f3fe04e9071701b42df4ba90e9063d5b95d8a85742a621fcfb0", func := "trestle/trestlelaw05.FrameTurned", spec := "frameTurned", apart := false }
def FrameTurnedSaid : Prop := frameTurnedRow.holds Try.pinned (OpenSpec.ofChange frameTurnedSpec)

/-- ITS FALSE NEIGHBOUR: 'it returns false'. Refute it at one input. -/
def frameTurnedWrong : ChangeSpec := { name := "frameTurned", fn := fun _ => fun
  | [d1, d2, d3] => { results := [.lit (.bool false)], args := [d1, d2, d3] }
  | _ => none }
def FrameTurnedWrongFalsely : Prop := frameTurnedRow.holds Try.pinned (OpenSpec.ofChange frameTurnedWrong)

/-- 'trestlelaw05.FrameAll': WHATEVER THE INPUT: true; the input reads as it did. -/
def frameAllSpec : ChangeSpec := { name := "frameAll", fn := fun _ => fun
  | [d1, d2, d3] => { results := [.lit (.bool true)], args := [d1, d2, d3] }
  | _ => none }
def frameAllRow : OpenClaim := { program := "ytecglmbggldhnaa", sum := "dbb98af914d16f3fe04e9071701b42df4ba90e9063d5b95d8a85742a621fcfb0", func := "trestle/trestlelaw05.FrameAll", spec := "frameAll", unfollowed := true, recurses := true, apart := false }
def FrameAllSaid : Prop := frameAllRow.holds Try.pinned (OpenSpec.ofChange frameAllSpec)

/-- ITS FALSE NEIGHBOUR: 'it returns false'. Refute it at one input. -/
def frameAllWrong : ChangeSpec := { name := "frameAll", fn := fun _ => fun
  | [d1, d2, d3] => { results := [.lit (.bool false)], args := [d1, d2, d3] }
  | _ => none }
def FrameAllWrongFalsely : Prop := frameAllRow.holds Try.pinned (OpenSpec.ofChange frameAllWrong)

/- THE SECOND FORM. 'bulk': how many values and letters a reading holds, each counted each time it is reached (what is shared counts as often as it is met; a slice's spare places count too). A statement '..UptoSaid' is the law's where the arguments, and the package variables that the reading takes, are together of bulk at most 1048576: NARROWER than '..Said'. Prove '..Said' where nothing that the law and all that it calls make is longer than what came in: it says more and counts as full. Else prove '..UptoSaid'. A law counts once. -/
mutual
def uptoBulk {H : Type} : DataW H → Nat
  | .lit (.string bytes) => bytes.length + 1
  | .lit _ => 1
  | .nil => 1
  | .ptr d => uptoBulk d + 1
  | .slice elems spare => uptoBulkAll elems + uptoBulkAll spare + 1
  | .agg parts => uptoBulkAll parts + 1
  | .iface _ d => uptoBulk d + 1
  | .map entries => uptoBulkEntries entries + 1
  | .held _ => 1
def uptoBulkAll {H : Type} : List (DataW H) → Nat
  | [] => 0
  | d :: r => uptoBulk d + uptoBulkAll r
def uptoBulkEntries {H : Type} : List (Lit × DataW H) → Nat
  | [] => 0
  | x :: r => uptoBulkEntry x + uptoBulkEntries r
def uptoBulkEntry {H : Type} : Lit × DataW H → Nat
  | (.string bytes, d) => bytes.length + uptoBulk d + 1
  | (_, d) => uptoBulk d + 1
 end
def uptoSmall : (H : Type) → List (DataW H) → Bool := fun _ ds => decide (uptoBulkAll ds ≤ 1048576)
def OpenSpec.upto (s : _root_.Go.ChangeSpec) : _root_.Go.OpenSpec := { _root_.Go.OpenSpec.ofChange s with cond := some uptoSmall }

/-- 'trestlelaw05.FramePacks', WHERE WHAT IT READS IS OF BULK AT MOST 1048576: true; the input reads as it did. -/
def framePacksUptoRow : OpenClaim := { program := "ytecglmbggldhnaa", sum := "dbb98af914d16f3fe04e9071701b42df4ba90e9063d5b95d8a85742a621fcfb0", func := "trestle/trestlelaw05.FramePacks", spec := "framePacks", unfollowed := true, recurses := true, apart := false, narrowed := true }
def FramePacksUptoSaid : Prop := framePacksUptoRow.holds Try.pinned (OpenSpec.upto framePacksSpec)

/-- 'trestlelaw05.FrameCut', WHERE WHAT IT READS IS OF BULK AT MOST 1048576: true; the input reads as it did. -/
def frameCutUptoRow : OpenClaim := { program := "ytecglmbggldhnaa", sum := "dbb98af914d16f3fe04e9071701b42df4ba90e9063d5b95d8a85742a621fcfb0", func := "trestle/trestlelaw05.FrameCut", spec := "frameCut", apart := false, narrowed := true }
def FrameCutUptoSaid : Prop := frameCutUptoRow.holds Try.pinned (OpenSpec.upto frameCutSpec)

/-- 'trestlelaw05.FrameLimit', WHERE WHAT IT READS IS OF BULK AT MOST 1048576: true; the input reads as it did. -/
def frameLimitUptoRow : OpenClaim := { program := "ytecglmbggldhnaa", sum := "dbb98af914d16f3fe04e9071701b42df4ba90e9063d5b95d8a85742a621fcfb0", func := "trestle/trestlelaw05.FrameLimit", spec := "frameLimit", apart := false, narrowed := true }
def FrameLimitUptoSaid : Prop := frameLimitUptoRow.holds Try.pinned (OpenSpec.upto frameLimitSpec)

/-- 'trestlelaw05.FrameTurned', WHERE WHAT IT READS IS OF BULK AT MOST 1048576: true; the input reads as it did. -/
def frameTurnedUptoRow : OpenClaim := { program := "ytecglmbggldhnaa", sum := "dbb98af914d16f3fe04e9071701b42df4ba90e9063d5b95d8a85742a621fcfb0", func := "trestle/trestlelaw05.FrameTurned", spec := "frameTurned", apart := false, narrowed := true }
def FrameTurnedUptoSaid : Prop := frameTurnedUptoRow.holds Try.pinned (OpenSpec.upto frameTurnedSpec)

/-- 'trestlelaw05.FrameAll', WHERE WHAT IT READS IS OF BULK AT MOST 1048576: true; the input reads as it did. -/
def frameAllUptoRow : OpenClaim := { program := "ytecglmbggldhnaa", sum := "dbb98af914d16f3fe04e9071701b42df4ba90e9063d5b95d8a85742a621fcfb0", func := "trestle/trestlelaw05.FrameAll", spec := "frameAll", unfollowed := true, recurses := true, apart := false, narrowed := true }
def FrameAllUptoSaid : Prop := frameAllUptoRow.holds Try.pinned (OpenSpec.upto frameAllSpec)

end Rows
end Go.Proofs.Ytecglmbggldhnaa
