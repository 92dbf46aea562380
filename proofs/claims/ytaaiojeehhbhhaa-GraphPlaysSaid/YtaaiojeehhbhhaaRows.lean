/-
  No cell of these rows narrows 'for every input' (looked for: loops, veiled, ifaces, maps, wideKeys, modest, calm, conditions, laid).
  DERIVED. THE GIVEN ROWS OF THIS SEAT. 4 by the template 'for every input the law returns true; each argument reads behind the call as it read before'; 0 by the template 'total and deterministic' (their statements: YtaaiojeehhbhhaaTotals.lean).
  GIVEN WITH THE SEED: the statements are not yours to turn. If you find one false, say at which input.
  Laid BY PROGRAM, IN A SANDBOX (cutbox-rows.mjs): the forced cells as the released guide's own fill.sh prints them over the translation 8ccd6d2520375f6c… (all of the seat's roots in one cut). By AI agents, Wed Nov 11 2026. No macro, syntax, notation, axiom, sorry.
-/
import Derived.Test.YtaaiojeehhbhhaaChecked
import GoSem.Claim
import GoSem.ClaimJoined
import GoSem.ClaimMapViews
import Derived.JoinedTies
import Derived.KernelRfl
namespace Go.Proofs.Ytaaiojeehhbhhaa
/- THE CELL 'sum', in the pinned program and in every row, IS THE sha256 OF THE DUMP (.gsa) THAT YtaaiojeehhbhhaaProg.lean LOADS. Nothing in Lean hashes anything: it is a label: what it is worth is what the hold of that sum in a sandbox is worth. -/
noncomputable def Try.pinned : Pinned := { name := "ytaaiojeehhbhhaa", sum := "8ccd6d2520375f6c6d5111b23c78989b83355c5ce17f73ce34a211d68a9e8a36", checked := Try.checked }
namespace Rows
def none {H : Type} : Left H := { results := [], args := [] }

/-- 'trestlelaw12.GraphLine': WHATEVER THE INPUT: true; the input reads as it did. -/
def graphLineSpec : ChangeSpec := { name := "graphLine", fn := fun _ => fun
  | [d1, d2, d3] => { results := [.lit (.bool true)], args := [d1, d2, d3] }
  | _ => none }
def graphLineRow : OpenClaim := { program := "ytaaiojeehhbhhaa", sum := "8ccd6d2520375f6c6d5111b23c78989b83355c5ce17f73ce34a211d68a9e8a36", func := "trestle/trestlelaw12.GraphLine", spec := "graphLine", unfollowed := true, recurses := true, plainKeys := false, apart := false }
def GraphLineSaid : Prop := graphLineRow.holds Try.pinned (OpenSpec.ofChange graphLineSpec)

/-- ITS FALSE NEIGHBOUR: 'it returns false'. Refute it at one input. -/
def graphLineWrong : ChangeSpec := { name := "graphLine", fn := fun _ => fun
  | [d1, d2, d3] => { results := [.lit (.bool false)], args := [d1, d2, d3] }
  | _ => none }
def GraphLineWrongFalsely : Prop := graphLineRow.holds Try.pinned (OpenSpec.ofChange graphLineWrong)

/-- 'trestlelaw12.GraphPlays': WHATEVER THE INPUT: true; the input reads as it did. -/
def graphPlaysSpec : ChangeSpec := { name := "graphPlays", fn := fun _ => fun
  | [d1, d2] => { results := [.lit (.bool true)], args := [d1, d2] }
  | _ => none }
def graphPlaysRow : OpenClaim := { program := "ytaaiojeehhbhhaa", sum := "8ccd6d2520375f6c6d5111b23c78989b83355c5ce17f73ce34a211d68a9e8a36", func := "trestle/trestlelaw12.GraphPlays", spec := "graphPlays", unfollowed := true, recurses := true, plainKeys := false, apart := false }
def GraphPlaysSaid : Prop := graphPlaysRow.holds Try.pinned (OpenSpec.ofChange graphPlaysSpec)

/-- ITS FALSE NEIGHBOUR: 'it returns false'. Refute it at one input. -/
def graphPlaysWrong : ChangeSpec := { name := "graphPlays", fn := fun _ => fun
  | [d1, d2] => { results := [.lit (.bool false)], args := [d1, d2] }
  | _ => none }
def GraphPlaysWrongFalsely : Prop := graphPlaysRow.holds Try.pinned (OpenSpec.ofChange graphPlaysWrong)

/-- 'trestlelaw12.GraphOrder': WHATEVER THE INPUT: true; the input reads as it did. -/
def graphOrderSpec : ChangeSpec := { name := "graphOrder", fn := fun _ => fun
  | [d] => { results := [.lit (.bool true)], args := [d] }
  | _ => none }
def graphOrderRow : OpenClaim := { program := "ytaaiojeehhbhhaa", sum := "8ccd6d2520375f6c6d5111b23c78989b83355c5ce17f73ce34a211d68a9e8a36", func := "trestle/trestlelaw12.GraphOrder", spec := "graphOrder", unfollowed := true, recurses := true, plainKeys := false, apart := false }
def GraphOrderSaid : Prop := graphOrderRow.holds Try.pinned (OpenSpec.ofChange graphOrderSpec)

/-- ITS FALSE NEIGHBOUR: 'it returns false'. Refute it at one input. -/
def graphOrderWrong : ChangeSpec := { name := "graphOrder", fn := fun _ => fun
  | [d] => { results := [.lit (.bool false)], args := [d] }
  | _ => none }
def GraphOrderWrongFalsely : Prop := graphOrderRow.holds Try.pinned (OpenSpec.ofChange graphOrderWrong)

/-- 'trestlelaw12.GraphNil': WHATEVER THE INPUT: true; the input reads as it did. -/
def graphNilSpec : ChangeSpec := { name := "graphNil", fn := fun _ => fun
  | [d1, d2] => { results := [.lit (.bool true)], args := [d1, d2] }
  | _ => none }
def graphNilRow : OpenClaim := { program := "ytaaiojeehhbhhaa", sum := "8ccd6d2520375f6c6d5111b23c78989b83355c5ce17f73ce34a211d68a9e8a36", func := "trestle/trestlelaw12.GraphNil", spec := "graphNil", unfollowed := true, recurses := true, plainKeys := false, apart := false }
def GraphNilSaid : Prop := graphNilRow.holds Try.pinned (OpenSpec.ofChange graphNilSpec)

/-- ITS FALSE NEIGHBOUR: 'it returns false'. Refute it at one input. -/
def graphNilWrong : ChangeSpec := { name := "graphNil", fn := fun _ => fun
  | [d1, d2] => { results := [.lit (.bool false)], args := [d1, d2] }
  | _ => none }
def GraphNilWrongFalsely : Prop := graphNilRow.holds Try.pinned (OpenSpec.ofChange graphNilWrong)

/- THE SECOND FORM. 'bulk': how many values and letters a reading holds, each counted each time it is reached (what is shared counts as often as it is met; a slice's spare places count too). A statement '..UptoSaid' is the law's where the arguments, and the package variables that the reading takes, are together of bulk at most 1048576: NARROWER than '..Said'. Prove '..Said' where nothing that the law and all that it calls make is longer than what came in: it says more and counts as full. Else prove '..UptoSaid'. A law counts once. -/
mutual
def uptoBulk {H : Type} : DataW H → Nat
  | .lit (.string bytes) => bytes.length + 1
  | .lit _ => 1
  | .nil => 1
  | .ptr d => uptoBulk d + 1
  | .slice elems spare => uptoBulkAll elems + uptoBulkAll spare + 1
  | .agg parts => uptoBulkAll parts + 1
  | .iface _ d => uptoBulk d + 1
  | .map entries => uptoBulkEntries entries + 1
  | .held _ => 1
def uptoBulkAll {H : Type} : List (DataW H) → Nat
  | [] => 0
  | d :: r => uptoBulk d + uptoBulkAll r
def uptoBulkEntries {H : Type} : List (Lit × DataW H) → Nat
  | [] => 0
  | x :: r => uptoBulkEntry x + uptoBulkEntries r
def uptoBulkEntry {H : Type} : Lit × DataW H → Nat
  | (.string bytes, d) => bytes.length + uptoBulk d + 1
  | (_, d) => uptoBulk d + 1
 end
def uptoSmall : (H : Type) → List (DataW H) → Bool := fun _ ds => decide (uptoBulkAll ds ≤ 1048576)
def OpenSpec.upto (s : _root_.Go.ChangeSpec) : _root_.Go.OpenSpec := { _root_.Go.OpenSpec.ofChange s with cond := some uptoSmall }

/-- 'trestlelaw12.GraphLine', WHERE WHAT IT READS IS OF BULK AT MOST 1048576: true; the input reads as it did. -/
def graphLineUptoRow : OpenClaim := { program := "ytaaiojeehhbhhaa", sum := "8ccd6d2520375f6c6d5111b23c78989b83355c5ce17f73ce34a211d68a9e8a36", func := "trestle/trestlelaw12.GraphLine", spec := "graphLine", unfollowed := true, recurses := true, plainKeys := false, apart := false, narrowed := true }
def GraphLineUptoSaid : Prop := graphLineUptoRow.holds Try.pinned (OpenSpec.upto graphLineSpec)

/-- 'trestlelaw12.GraphPlays', WHERE WHAT IT READS IS OF BULK AT MOST 1048576: true; the input reads as it did. -/
def graphPlaysUptoRow : OpenClaim := { program := "ytaaiojeehhbhhaa", sum := "8ccd6d2520375f6c6d5111b23c78989b83355c5ce17f73ce34a211d68a9e8a36", func := "trestle/trestlelaw12.GraphPlays", spec := "graphPlays", unfollowed := true, recurses := true, plainKeys := false, apart := false, narrowed := true }
def GraphPlaysUptoSaid : Prop := graphPlaysUptoRow.holds Try.pinned (OpenSpec.upto graphPlaysSpec)

/-- 'trestlelaw12.GraphOrder', WHERE WHAT IT READS IS OF BULK AT MOST 1048576: true; the input reads as it did. -/
def graphOrderUptoRow : OpenClaim := { program := "ytaaiojeehhbhhaa", sum := "8ccd6d2520375f6c6d5111b23c78989b83355c5ce17f73ce34a211d68a9e8a36", func := "trestle/trestlelaw12.GraphOrder", spec := "graphOrder", unfollowed := true, recurses := true, plainKeys := false, apart := false, narrowed := true }
def GraphOrderUptoSaid : Prop := graphOrderUptoRow.holds Try.pinned (OpenSpec.upto graphOrderSpec)

/-- 'trestlelaw12.GraphNil', WHERE WHAT IT READS IS OF BULK AT MOST 1048576: true; the input reads as it did. -/
def graphNilUptoRow : OpenClaim := { program := "ytaaiojeehhbhhaa", sum := "8ccd6d2520375f6c6d5111b23c78989b83355c5ce17f73ce34a211d68a9e8a36", func := "trestle/trestlelaw12.GraphNil", spec := "graphNil", unfollowed := true, recurses := true, plainKeys := false, apart := false, narrowed := true }
def GraphNilUptoSaid : Prop := graphNilUptoRow.holds Try.pinned (OpenSpec.upto graphNilSpec)

end Rows
end Go.Proofs.Ytaaiojeehhbhhaa
