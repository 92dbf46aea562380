/-
  The reference's Add, where a node is added: the node's making.
-/
import Derived.Test.YtaaiojeehhbhhaaGrP8
set_option linter.unusedVariables false
set_option linter.unusedSimpArgs false
namespace Go.Proofs.Ytaaiojeehhbhhaa
open Go.RowKit

/-- the making of a node, of a slice of one: for a rule to answer. -/
noncomputable def mkNode (parts : Array (Nat × Value)) : Sem Value := Instr.build 62 parts
@[go_sem ↓ high] theorem build_node (parts : Array (Nat × Value)) : Instr.build 62 parts = mkNode parts := rfl
noncomputable def mkNodes (parts : Array (Nat × Value)) : Sem Value := Instr.buildSlice 38 1 parts
@[go_sem ↓ high] theorem buildSlice_node (parts : Array (Nat × Value)) : Instr.buildSlice 38 1 parts = mkNodes parts := rfl
def nval (x : IdL) (B : Option Addr) (k c : Nat) : List Value := bv x ++ [.slice B k c]
@[go_sem] theorem run_mkNode (w : World) (x : IdL) (h : IsId x) (B : Option Addr) (k c : Nat) : (mkNode #[(0, .agg (bv x).toArray), (1, .slice B k c)]).run Try.prog w = .ok (.agg (nval x B k c).toArray) w :=
  match x, h.1 with
  | [a0, a1, a2, a3, a4, a5, a6, a7, a8, a9, a10, a11, a12, a13, a14, a15, a16, a17, a18, a19], _ => by kernel_rfl
@[go_sem] theorem run_mkNodes (w : World) (x : IdL) (h : IsId x) (B : Option Addr) (k c : Nat) : (mkNodes #[(0, .agg (nval x B k c).toArray)]).run Try.prog w = .ok (.slice (some ⟨w.heap.size, 0, none⟩) 1 1) (w.alloc (.cells (nval x B k c).toArray 62)) :=
  match x, h.1 with
  | [a0, a1, a2, a3, a4, a5, a6, a7, a8, a9, a10, a11, a12, a13, a14, a15, a16, a17, a18, a19], _ => by kernel_rfl
end Go.Proofs.Ytaaiojeehhbhhaa
