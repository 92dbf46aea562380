/-
  trestlehelp.Own, Kept, Plain, Same of bytes.
-/
import Derived.Test.YtokamaogognjoaaBytesB
set_option linter.unusedVariables false
set_option linter.unusedSimpArgs false
namespace Go.Proofs.Ytokamaogognjoaa
open Go.RowKit

/-- a copy with spare room behind it. -/
def OwnB (w : World) (B g n : Nat) (xs : List Int) (f : Int) : Prop := B ≤ g ∧ xs.length = n ∧ Blk w g 5 (bv (xs ++ [f, f, f])).toArray
def OwnPost (n : Nat) (xs : List Int) (f : Int) (w : World) (e : Ending) (w' : World) : Prop := ∃ g, e = .returned (.slice (some ⟨g, 0, none⟩) n (n + 3)) ∧ OwnB w' w.heap.size g n xs f ∧ Below w.heap.size w w'

set_option maxRecDepth 100000 in
/-- 'append' that fits: the row stays where it is. -/
theorem wpList_appfit {ops : Array Oper} {rest : List Oper} {o : Oper} {a : Act} {Q : Exit → Act → World → Prop} {w : World} (hgd : o.guard = none) (s x : Operand)
    (ho : o.op = .call { callee := .builtin .append, args := #[s, x], argTypes := #[36, 36] })
    (base g k cap : Nat) (xs : List Int) (hs : a.eval s = .slice (some ⟨g, 0, none⟩) k cap) (hown : OB w base (.slice (some ⟨g, 0, none⟩) k cap) k xs)
    (A : Option Addr) (m c : Nat) (ys : List Int) (hx : a.eval x = .slice A m c) (hr : RB w A m ys) (b1 : k + m ≤ cap)
    (h : ∀ w', OB w' base (.slice (some ⟨g, 0, none⟩) (k + m) cap) (k + m) (xs ++ ys) → w.grownBy w' (some g) → wpList Try.prog ops Q rest (a.put o.dst (.slice (some ⟨g, 0, none⟩) (k + m) cap)) w') : wpList Try.prog ops Q (o :: rest) a w := by
  obtain ⟨i0, hi, hz0, hz1, hz2⟩ := info_parts byteInfo
  cases A with
  | none =>
    have hm : m = 0 := by
      rcases Nat.eq_zero_or_pos m with h0 | h0
      · exact h0
      · obtain ⟨ad, h, _⟩ := hr.2.2 h0
        cases h
    subst hm
    have hy : ys = [] := List.eq_nil_of_length_eq_zero hr.1
    subst hy
    refine wpList_plain hgd fun K hK' => ?_
    have hrun := run_append_of_nil (P := Try.prog) w base 36 o.type 5 i0 1 Try.underlying36 hi _ k (bv xs) hown.1 c
    unfold Oper.wp execOp
    simp only [ho, resolve, invoke, builtin, Sem.run_bind, Sem.run_pure, Result.andThen_ok, List.map_toArray, List.map_cons, List.map_nil, hs, hx, hrun]
    exact hK' _ _ (h w (by simpa using hown) (World.grownBy.refl w _))
  | some ad =>
    exact wpList_append_fits w hgd s x 36 ho base 5 i0 1 Try.underlying36 hi hz1 g k cap (bv xs) hs hown.1 ad m c (bv ys) hx hr.src.1 (hr.cells ad rfl) (bv_one ys) b1
      fun w' h2 h3 => h w' ⟨by rw [bv_append]; exact h2, hown.2.append hr.2.1⟩ h3

def FillB (w : World) (g n k : Nat) (xs : List Int) (f : Int) : Prop := ∃ cur, Blk w g 5 cur ∧ cur.size = n + 3 ∧ cur.toList.take (n + k) = bv (xs ++ List.replicate k f)
set_option maxRecDepth 100000 in
theorem FillB.step {w : World} {g n k : Nat} {xs : List Int} {f : Int} (h : FillB w g n k xs f) (hl : xs.length = n) (hk : k < 3) : FillB (w.setCell ⟨g, n + k, none⟩ (.int .u8 f)) g n (k + 1) xs f := by
  obtain ⟨cur, h1, h2, h3⟩ := h
  refine ⟨_, h1.set_ (n + k) _, by simpa using h2, ?_⟩
  rw [Array.toList_setIfInBounds, ← Nat.add_assoc, List.take_succ_eq_append_getElem (by simp; omega), List.getElem_set_self, List.take_set_of_le (Nat.le_refl _), h3, List.replicate_succ', ← List.append_assoc, bv_append (xs ++ _)]
  rfl
set_option maxRecDepth 100000 in
theorem FillB.cell {w : World} {g n k : Nat} {xs : List Int} {f : Int} (h : FillB w g n k xs f) (hk : k < 3) : ∃ v, w.cell? ⟨g, n + k, none⟩ = some v := by
  obtain ⟨cur, h1, h2, h3⟩ := h
  refine ⟨cur[n + k]'(by omega), ?_⟩
  rw [h1.cell]
  exact Array.getElem?_eq_getElem _
set_option maxRecDepth 100000 in
theorem FillB.frozen {w : World} {g n k : Nat} {xs : List Int} {f : Int} (h : FillB w g n k xs f) (i : Nat) : w.frozen? ⟨g, i, none⟩ = false := by
  obtain ⟨cur, h1, h2, h3⟩ := h
  exact h1.frozen i
set_option maxRecDepth 100000 in
theorem FillB.full {w : World} {g n : Nat} {xs : List Int} {f : Int} (h : FillB w g n 3 xs f) : Blk w g 5 (bv (xs ++ [f, f, f])).toArray := by
  obtain ⟨cur, h1, h2, h3⟩ := h
  rw [List.take_of_length_le (by simp; omega)] at h3
  have : (bv (xs ++ [f, f, f])).toArray = cur := by
    apply Array.ext'
    rw [h3]
    rfl
  rw [this]
  exact h1

set_option maxRecDepth 100000 in
theorem OwnB.reads {w : World} {B g n : Nat} {xs : List Int} {f : Int} (h : OwnB w B g n xs f) (hB : Byts xs) : RB w (some ⟨g, 0, none⟩) n xs := by
  refine ⟨h.2.1, hB, fun _ => ⟨_, rfl, fun j hj => ?_⟩⟩
  rw [add_plain, Nat.zero_add, h.2.2.cell, List.getElem?_toArray, bv_some (by rw [List.length_append, h.2.1]; omega), gi_append_left (by rw [h.2.1]; exact hj)]
set_option maxRecDepth 100000 in
theorem OwnB.spare {w : World} {B g n : Nat} {xs : List Int} {f : Int} (h : OwnB w B g n xs f) (k : Nat) (hk : k < 3) : w.cell? ⟨g, n + k, none⟩ = some (.int .u8 f) := by
  have hl := h.2.1
  rw [h.2.2.cell, List.getElem?_toArray, bv_some (by rw [List.length_append, hl]; simp; omega), gi_append_right (by omega), hl, Nat.add_sub_cancel_left]
  match k, hk with
  | 0, _ => rfl
  | 1, _ => rfl
  | 2, _ => rfl
set_option maxRecDepth 100000 in
theorem OwnB.below {w w' : World} {B g n : Nat} {xs : List Int} {f : Int} (h : OwnB w B g n xs f) (hb : Below w.heap.size w w') : OwnB w' B g n xs f := ⟨h.1, h.2.1, h.2.2.below hb h.2.2.lt⟩
/-- nothing but draws. -/
def Quiet (v : Value) (w : World) (e : Ending) (w' : World) : Prop := e = .returned v ∧ ∃ q, w.drewN q = w'
end Go.Proofs.Ytokamaogognjoaa
