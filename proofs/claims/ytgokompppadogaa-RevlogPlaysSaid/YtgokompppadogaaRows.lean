/-
  No cell of these rows narrows 'for every input' (looked for: loops, veiled, ifaces, maps, wideKeys, modest, calm, conditions, laid).
  DERIVED. THE GIVEN ROWS OF THIS SEAT. 3 by the template 'for every input the law returns true; each argument reads behind the call as it read before'; 0 by the template 'total and deterministic' (their statements: YtgokompppadogaaTotals.lean).
  GIVEN WITH THE SEED: the statements are not yours to turn. If you find one false, say at which input.
  Laid BY PROGRAM, IN A SANDBOX (cutbox-rows.mjs): the forced cells as the released guide's own fill.sh prints them over the translation 7165f3ff48db260f… (all of the seat's roots in one cut). By AI agents, Wed Nov 11 2026. No macro, syntax, notation, axiom, sorry.
-/
import Derived.Test.YtgokompppadogaaChecked
import GoSem.Claim
import GoSem.ClaimJoined
import GoSem.ClaimMapViews
import Derived.JoinedTies
import Derived.KernelRfl
namespace Go.Proofs.Ytgokompppadogaa
/- THE CELL 'sum', in the pinned program and in every row, IS THE sha256 OF THE DUMP (.gsa) THAT YtgokompppadogaaProg.lean LOADS. Nothing in Lean hashes anything: it is a label: what it is worth is what the hold of that sum in a sandbox is worth. -/
noncomputable def Try.pinned : Pinned := { name := "ytgokompppadogaa", sum := "7165f3ff48db260f07e53f2ffe3336af8e33cc3e624654fb060b50d6b7d7d522", checked := Try.checked }
namespace Rows
def none {H : Type} : Left H := { results := [], args := [] }

/-- 'trestlelaw15.RevlogChains': WHATEVER THE INPUT: true; the input reads as it did. -/
def revlogChainsSpec : ChangeSpec := { name := "revlogChains", fn := fun _ => fun
  | [d1, d2] => { results := [.lit (.bool true)], args := [d1, d2] }
  | _ => none }
def revlogChainsRow : OpenClaim := { program := "ytgokompppadogaa", sum := "7165f3ff48db260f07e53f2ffe3336af8e33cc3e624654fb060b50d6b7d7d522", func := "trestle/trestlelaw15.RevlogChains", spec := "revlogChains", unfollowed := true, recurses := true, plainKeys := false, apart := false }
def RevlogChainsSaid : Prop := revlogChainsRow.holds Try.pinned (OpenSpec.ofChange revlogChainsSpec)

/-- ITS FALSE NEIGHBOUR: 'it returns false'. Refute it at one input. -/
def revlogChainsWrong : ChangeSpec := { name := "revlogChains", fn := fun _ => fun
  | [d1, d2] => { results := [.lit (.bool false)], args := [d1, d2] }
  | _ => none }
def RevlogChainsWrongFalsely : Prop := revlogChainsRow.holds Try.pinned (OpenSpec.ofChange revlogChainsWrong)

/-- 'trestlelaw15.RevlogPlays': WHATEVER THE INPUT: true; the input reads as it did. -/
def revlogPlaysSpec : ChangeSpec := { name := "revlogPlays", fn := fun _ => fun
  | [d1, d2, d3] => { results := [.lit (.bool true)], args := [d1, d2, d3] }
  | _ => none }
def revlogPlaysRow : OpenClaim := { program := "ytgokompppadogaa", sum := "7165f3ff48db260f07e53f2ffe3336af8e33cc3e624654fb060b50d6b7d7d522", func := "trestle/trestlelaw15.RevlogPlays", spec := "revlogPlays", unfollowed := true, recurses := true, plainKeys := false, apart := false }
def RevlogPlaysSaid : Prop := revlogPlaysRow.holds Try.pinned (OpenSpec.ofChange revlogPlaysSpec)

/-- ITS FALSE NEIGHBOUR: 'it returns false'. Refute it at one input. -/
def revlogPlaysWrong : ChangeSpec := { name := "revlogPlays", fn := fun _ => fun
  | [d1, d2, d3] => { results := [.lit (.bool false)], args := [d1, d2, d3] }
  | _ => none }
def RevlogPlaysWrongFalsely : Prop := revlogPlaysRow.holds Try.pinned (OpenSpec.ofChange revlogPlaysWrong)

/-- 'trestlelaw15.RevlogNil': WHATEVER THE INPUT: true; the input reads as it did. -/
def revlogNilSpec : ChangeSpec := { name := "revlogNil", fn := fun _ => fun
  | [d1, d2, d3] => { results := [.lit (.bool true)], args := [d1, d2, d3] }
  | _ => none }
def revlogNilRow : OpenClaim := { program := "ytgokompppadogaa", sum := "7165f3ff48db260f07e53f2ffe3336af8e33cc3e624654fb060b50d6b7d7d522", func := "trestle/trestlelaw15.RevlogNil", spec := "revlogNil", unfollowed := true, recurses := true, plainKeys := false, apart := false }
def RevlogNilSaid : Prop := revlogNilRow.holds Try.pinned (OpenSpec.ofChange revlogNilSpec)

/-- ITS FALSE NEIGHBOUR: 'it returns false'. Refute it at one input. -/
def revlogNilWrong : ChangeSpec := { name := "revlogNil", fn := fun _ => fun
  | [d1, d2, d3] => { results := [.lit (.bool false)], args := [d1, d2, d3] }
  | _ => none }
def RevlogNilWrongFalsely : Prop := revlogNilRow.holds Try.pinned (OpenSpec.ofChange revlogNilWrong)

/- THE SECOND FORM. 'bulk': how many values and letters a reading holds, each counted each time it is reached (what is shared counts as often as it is met; a slice's spare places count too). A statement '..UptoSaid' is the law's where the arguments, and the package variables that the reading takes, are together of bulk at most 1048576: NARROWER than '..Said'. Prove '..Said' where nothing that the law and all that it calls make is longer than what came in: it says more and counts as full. Else prove '..UptoSaid'. A law counts once. -/
mutual
def uptoBulk {H : Type} : DataW H → Nat
  | .lit (.string bytes) => bytes.length + 1
  | .lit _ => 1
  | .nil => 1
  | .ptr d => uptoBulk d + 1
  | .slice elems spare => uptoBulkAll elems + uptoBulkAll spare + 1
  | .agg parts => uptoBulkAll parts + 1
  | .iface _ d => uptoBulk d + 1
  | .map entries => uptoBulkEntries entries + 1
  | .held _ => 1
def uptoBulkAll {H : Type} : List (DataW H) → Nat
  | [] => 0
  | d :: r => uptoBulk d + uptoBulkAll r
def uptoBulkEntries {H : Type} : List (Lit × DataW H) → Nat
  | [] => 0
  | x :: r => uptoBulkEntry x + uptoBulkEntries r
def uptoBulkEntry {H : Type} : Lit × DataW H → Nat
  | (.string bytes, d) => bytes.length + uptoBulk d + 1
  | (_, d) => uptoBulk d + 1
 end
def uptoSmall : (H : Type) → List (DataW H) → Bool := fun _ ds => decide (uptoBulkAll ds ≤ 1048576)
def OpenSpec.upto (s : _root_.Go.ChangeSpec) : _root_.Go.OpenSpec := { _root_.Go.OpenSpec.ofChange s with cond := some uptoSmall }

/-- 'trestlelaw15.RevlogChains', WHERE WHAT IT READS IS OF BULK AT MOST 1048576: true; the input reads as it did. -/
def revlogChainsUptoRow : OpenClaim := { program := "ytgokompppadogaa", sum := "7165f3ff48db260f07e53f2ffe3336af8e33cc3e624654fb060b50d6b7d7d522", func := "trestle/trestlelaw15.RevlogChains", spec := "revlogChains", unfollowed := true, recurses := true, plainKeys := false, apart := false, narrowed := true }
def RevlogChainsUptoSaid : Prop := revlogChainsUptoRow.holds Try.pinned (OpenSpec.upto revlogChainsSpec)

/-- 'trestlelaw15.RevlogPlays', WHERE WHAT IT READS IS OF BULK AT MOST 1048576: true; the input reads as it did. -/
def revlogPlaysUptoRow : OpenClaim := { program := "ytgokompppadogaa", sum := "7165f3ff48db260f07e53f2ffe3336af8e33cc3e624654fb060b50d6b7d7d522", func := "trestle/trestlelaw15.RevlogPlays", spec := "revlogPlays", unfollowed := true, recurses := true, plainKeys := false, apart := false, narrowed := true }
def RevlogPlaysUptoSaid : Prop := revlogPlaysUptoRow.holds Try.pinned (OpenSpec.upto revlogPlaysSpec)

/-- 'trestlelaw15.RevlogNil', WHERE WHAT IT READS IS OF BULK AT MOST 1048576: true; the input reads as it did. -/
def revlogNilUptoRow : OpenClaim := { program := "ytgokompppadogaa", sum := "7165f3ff48db260f07e53f2ffe3336af8e33cc3e624654fb060b50d6b7d7d522", func := "trestle/trestlelaw15.RevlogNil", spec := "revlogNil", unfollowed := true, recurses := true, plainKeys := false, apart := false, narrowed := true }
def RevlogNilUptoSaid : Prop := revlogNilUptoRow.holds Try.pinned (OpenSpec.upto revlogNilSpec)

end Rows
end Go.Proofs.Ytgokompppadogaa
