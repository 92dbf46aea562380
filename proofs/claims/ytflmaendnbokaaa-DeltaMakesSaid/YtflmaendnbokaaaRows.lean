/-
  No cell of these rows narrows 'for every input' (looked for: loops, veiled, ifaces, maps, wideKeys, modest, calm, conditions, laid).
  DERIVED. THE GIVEN ROWS OF THIS SEAT. 6 by the template 'for every input the law returns true; each argument reads behind the call as it read before'; 0 by the template 'total and deterministic' (their statements: YtflmaendnbokaaaTotals.lean).
  GIVEN WITH THE SEED: the statements are not yours to turn. If you find one false, say at which input.
  Laid BY PROGRAM, IN A SANDBOX (cutbox-rows.mjs): the forced cells as the released guide's own fill.sh prints them over the translation 256a6b69cd0f4c99… (all of the seat's roots in one cut). By AI agents, Wed Nov 11 2026. No macro, syntax, notation, axiom, sorry.
-/
import Derived.Test.YtflmaendnbokaaaChecked
import GoSem.Claim
import GoSem.ClaimJoined
import GoSem.ClaimMapViews
import Derived.JoinedTies
import Derived.KernelRfl
namespace Go.Proofs.Ytflmaendnbokaaa
/- THE CELL 'sum', in the pinned program and in every row, IS THE sha256 OF THE DUMP (.gsa) THAT YtflmaendnbokaaaProg.lean LOADS. Nothing in Lean hashes anything: it is a label: what it is worth is what the hold of that sum in a sandbox is worth. -/
noncomputable def Try.pinned : Pinned := { name := "ytflmaendnbokaaa", sum := "256a6b69cd0f4c99f9b5db3ad289b381eb49beeba31337bc9740630dd9bfadb6", checked := Try.checked }
namespace Rows
def none {H : Type} : Left H := { results := [], args := [] }

/-- 'trestlelaw14.DeltaLeast': WHATEVER THE INPUT: true; the input reads as it did. -/
def deltaLeastSpec : ChangeSpec := { name := "deltaLeast", fn := fun _ => fun
  | [d1, d2] => { results := [.lit (.bool true)], args := [d1, d2] }
  | _ => none }
def deltaLeastRow : OpenClaim := { program := "ytflmaendnbokaaa", sum := "256a6b69cd0f4c99f9b5db3ad289b381eb49beeba31337bc9740630dd9bfadb6", func := "trestle/trestlelaw14.DeltaLeast", spec := "deltaLeast", apart := false }
def DeltaLeastSaid : Prop := deltaLeastRow.holds Try.pinned (OpenSpec.ofChange deltaLeastSpec)

/-- ITS FALSE NEIGHBOUR: 'it returns false'. Refute it at one input. -/
def deltaLeastWrong : ChangeSpec := { name := "deltaLeast", fn := fun _ => fun
  | [d1, d2] => { results := [.lit (.bool false)], args := [d1, d2] }
  | _ => none }
def DeltaLeastWrongFalsely : Prop := deltaLeastRow.holds Try.pinned (OpenSpec.ofChange deltaLeastWrong)

/-- 'trestlelaw02.ShaOf': WHATEVER THE INPUT: true; the input reads as it did. -/
def shaOfSpec : ChangeSpec := { name := "shaOf", fn := fun _ => fun
  | [d1, d2] => { results := [.lit (.bool true)], args := [d1, d2] }
  | _ => none }
def shaOfRow : OpenClaim := { program := "ytflmaendnbokaaa", sum := "256a6b69cd0f4c99f9b5db3ad289b381eb49beeba31337bc9740630dd9bfadb6", func := "trestle/trestlelaw02.ShaOf", spec := "shaOf", unfollowed := true, recurses := true, apart := false }
def ShaOfSaid : Prop := shaOfRow.holds Try.pinned (OpenSpec.ofChange shaOfSpec)

/-- ITS FALSE NEIGHBOUR: 'it returns false'. Refute it at one input. -/
def shaOfWrong : ChangeSpec := { name := "shaOf", fn := fun _ => fun
  | [d1, d2] => { results := [.lit (.bool false)], args := [d1, d2] }
  | _ => none }
def ShaOfWrongFalsely : Prop := shaOfRow.holds Try.pinned (OpenSpec.ofChange shaOfWrong)

/-- 'trestlelaw02.ShaLengths': WHATEVER THE INPUT: true; the input reads as it did. -/
def shaLengthsSpec : ChangeSpec := { name := "shaLengths", fn := fun _ => fun
  | [d1, d2] => { results := [.lit (.bool true)], args := [d1, d2] }
  | _ => none }
def shaLengthsRow : OpenClaim := { program := "ytflmaendnbokaaa", sum := "256a6b69cd0f4c99f9b5db3ad289b381eb49beeba31337bc9740630dd9bfadb6", func := "trestle/trestlelaw02.ShaLengths", spec := "shaLengths", apart := false }
def ShaLengthsSaid : Prop := shaLengthsRow.holds Try.pinned (OpenSpec.ofChange shaLengthsSpec)

/-- ITS FALSE NEIGHBOUR: 'it returns false'. Refute it at one input. -/
def shaLengthsWrong : ChangeSpec := { name := "shaLengths", fn := fun _ => fun
  | [d1, d2] => { results := [.lit (.bool false)], args := [d1, d2] }
  | _ => none }
def ShaLengthsWrongFalsely : Prop := shaLengthsRow.holds Try.pinned (OpenSpec.ofChange shaLengthsWrong)

/-- 'trestlelaw14.DeltaOrder': WHATEVER THE INPUT: true; the input reads as it did. -/
def deltaOrderSpec : ChangeSpec := { name := "deltaOrder", fn := fun _ => fun
  | [d1, d2, d3] => { results := [.lit (.bool true)], args := [d1, d2, d3] }
  | _ => none }
def deltaOrderRow : OpenClaim := { program := "ytflmaendnbokaaa", sum := "256a6b69cd0f4c99f9b5db3ad289b381eb49beeba31337bc9740630dd9bfadb6", func := "trestle/trestlelaw14.DeltaOrder", spec := "deltaOrder", apart := false }
def DeltaOrderSaid : Prop := deltaOrderRow.holds Try.pinned (OpenSpec.ofChange deltaOrderSpec)

/-- ITS FALSE NEIGHBOUR: 'it returns false'. Refute it at one input. -/
def deltaOrderWrong : ChangeSpec := { name := "deltaOrder", fn := fun _ => fun
  | [d1, d2, d3] => { results := [.lit (.bool false)], args := [d1, d2, d3] }
  | _ => none }
def DeltaOrderWrongFalsely : Prop := deltaOrderRow.holds Try.pinned (OpenSpec.ofChange deltaOrderWrong)

/-- 'trestlelaw14.DeltaMakes': WHATEVER THE INPUT: true; the input reads as it did. -/
def deltaMakesSpec : ChangeSpec := { name := "deltaMakes", fn := fun _ => fun
  | [d1, d2, d3, d4] => { results := [.lit (.bool true)], args := [d1, d2, d3, d4] }
  | _ => none }
def deltaMakesRow : OpenClaim := { program := "ytflmaendnbokaaa", sum := "256a6b69cd0f4c99f9b5db3ad289b381eb49beeba31337bc9740630dd9bfadb6", func := "trestle/trestlelaw14.DeltaMakes", spec := "deltaMakes", unfollowed := true, recurses := true, apart := false }
def DeltaMakesSaid : Prop := deltaMakesRow.holds Try.pinned (OpenSpec.ofChange deltaMakesSpec)

/-- ITS FALSE NEIGHBOUR: 'it returns false'. Refute it at one input. -/
def deltaMakesWrong : ChangeSpec := { name := "deltaMakes", fn := fun _ => fun
  | [d1, d2, d3, d4] => { results := [.lit (.bool false)], args := [d1, d2, d3, d4] }
  | _ => none }
def DeltaMakesWrongFalsely : Prop := deltaMakesRow.holds Try.pinned (OpenSpec.ofChange deltaMakesWrong)

/-- 'trestlelaw14.DeltaBack': WHATEVER THE INPUT: true; the input reads as it did. -/
def deltaBackSpec : ChangeSpec := { name := "deltaBack", fn := fun _ => fun
  | [d1, d2, d3] => { results := [.lit (.bool true)], args := [d1, d2, d3] }
  | _ => none }
def deltaBackRow : OpenClaim := { program := "ytflmaendnbokaaa", sum := "256a6b69cd0f4c99f9b5db3ad289b381eb49beeba31337bc9740630dd9bfadb6", func := "trestle/trestlelaw14.DeltaBack", spec := "deltaBack", unfollowed := true, recurses := true, apart := false }
def DeltaBackSaid : Prop := deltaBackRow.holds Try.pinned (OpenSpec.ofChange deltaBackSpec)

/-- ITS FALSE NEIGHBOUR: 'it returns false'. Refute it at one input. -/
def deltaBackWrong : ChangeSpec := { name := "deltaBack", fn := fun _ => fun
  | [d1, d2, d3] => { results := [.lit (.bool false)], args := [d1, d2, d3] }
  | _ => none }
def DeltaBackWrongFalsely : Prop := deltaBackRow.holds Try.pinned (OpenSpec.ofChange deltaBackWrong)

/- THE SECOND FORM. 'bulk': how many values and letters a reading holds, each counted each time it is reached (what is shared counts as often as it is met; a slice's spare places count too). A statement '..UptoSaid' is the law's where the arguments, and the package variables that the reading takes, are together of bulk at most 1048576: NARROWER than '..Said'. Prove '..Said' where nothing that the law and all that it calls make is longer than what came in: it says more and counts as full. Else prove '..UptoSaid'. A law counts once. -/
mutual
def uptoBulk {H : Type} : DataW H → Nat
  | .lit (.string bytes) => bytes.length + 1
  | .lit _ => 1
  | .nil => 1
  | .ptr d => uptoBulk d + 1
  | .slice elems spare => uptoBulkAll elems + uptoBulkAll spare + 1
  | .agg parts => uptoBulkAll parts + 1
  | .iface _ d => uptoBulk d + 1
  | .map entries => uptoBulkEntries entries + 1
  | .held _ => 1
def uptoBulkAll {H : Type} : List (DataW H) → Nat
  | [] => 0
  | d :: r => uptoBulk d + uptoBulkAll r
def uptoBulkEntries {H : Type} : List (Lit × DataW H) → Nat
  | [] => 0
  | x :: r => uptoBulkEntry x + uptoBulkEntries r
def uptoBulkEntry {H : Type} : Lit × DataW H → Nat
  | (.string bytes, d) => bytes.length + uptoBulk d + 1
  | (_, d) => uptoBulk d + 1
 end
def uptoSmall : (H : Type) → List (DataW H) → Bool := fun _ ds => decide (uptoBulkAll ds ≤ 1048576)
def OpenSpec.upto (s : _root_.Go.ChangeSpec) : _root_.Go.OpenSpec := { _root_.Go.OpenSpec.ofChange s with cond := some uptoSmall }

/-- 'trestlelaw14.DeltaLeast', WHERE WHAT IT READS IS OF BULK AT MOST 1048576: true; the input reads as it did. -/
def deltaLeastUptoRow : OpenClaim := { program := "ytflmaendnbokaaa", sum := "256a6b69cd0f4c99f9b5db3ad289b381eb49beeba31337bc9740630dd9bfadb6", func := "trestle/trestlelaw14.DeltaLeast", spec := "deltaLeast", apart := false, narrowed := true }
def DeltaLeastUptoSaid : Prop := deltaLeastUptoRow.holds Try.pinned (OpenSpec.upto deltaLeastSpec)

/-- 'trestlelaw02.ShaOf', WHERE WHAT IT READS IS OF BULK AT MOST 1048576: true; the input reads as it did. -/
def shaOfUptoRow : OpenClaim := { program := "ytflmaendnbokaaa", sum := "256a6b69cd0f4c99f9b5db3ad289b381eb49beeba31337bc9740630dd9bfadb6", func := "trestle/trestlelaw02.ShaOf", spec := "shaOf", unfollowed := true, recurses := true, apart := false, narrowed := true }
def ShaOfUptoSaid : Prop := shaOfUptoRow.holds Try.pinned (OpenSpec.upto shaOfSpec)

/-- 'trestlelaw02.ShaLengths', WHERE WHAT IT READS IS OF BULK AT MOST 1048576: true; the input reads as it did. -/
def shaLengthsUptoRow : OpenClaim := { program := "ytflmaendnbokaaa", sum := "256a6b69cd0f4c99f9b5db3ad289b381eb49beeba31337bc9740630dd9bfadb6", func := "trestle/trestlelaw02.ShaLengths", spec := "shaLengths", apart := false, narrowed := true }
def ShaLengthsUptoSaid : Prop := shaLengthsUptoRow.holds Try.pinned (OpenSpec.upto shaLengthsSpec)

/-- 'trestlelaw14.DeltaOrder', WHERE WHAT IT READS IS OF BULK AT MOST 1048576: true; the input reads as it did. -/
def deltaOrderUptoRow : OpenClaim := { program := "ytflmaendnbokaaa", sum := "256a6b69cd0f4c99f9b5db3ad289b381eb49beeba31337bc9740630dd9bfadb6", func := "trestle/trestlelaw14.DeltaOrder", spec := "deltaOrder", apart := false, narrowed := true }
def DeltaOrderUptoSaid : Prop := deltaOrderUptoRow.holds Try.pinned (OpenSpec.upto deltaOrderSpec)

/-- 'trestlelaw14.DeltaMakes', WHERE WHAT IT READS IS OF BULK AT MOST 1048576: true; the input reads as it did. -/
def deltaMakesUptoRow : OpenClaim := { program := "ytflmaendnbokaaa", sum := "256a6b69cd0f4c99f9b5db3ad289b381eb49beeba31337bc9740630dd9bfadb6", func := "trestle/trestlelaw14.DeltaMakes", spec := "deltaMakes", unfollowed := true, recurses := true, apart := false, narrowed := true }
def DeltaMakesUptoSaid : Prop := deltaMakesUptoRow.holds Try.pinned (OpenSpec.upto deltaMakesSpec)

/-- 'trestlelaw14.DeltaBack', WHERE WHAT IT READS IS OF BULK AT MOST 1048576: true; the input reads as it did. -/
def deltaBackUptoRow : OpenClaim := { program := "ytflmaendnbokaaa", sum := "256a6b69cd0f4c99f9b5db3ad289b381eb49beeba31337bc9740630dd9bfadb6", func := "trestle/trestlelaw14.DeltaBack", spec := "deltaBack", unfollowed := true, recurses := true, apart := false, narrowed := true }
def DeltaBackUptoSaid : Prop := deltaBackUptoRow.holds Try.pinned (OpenSpec.upto deltaBackSpec)

end Rows
end Go.Proofs.Ytflmaendnbokaaa
