/-
  Contracts of small functions over bytes (of the library and of the help package): what each answers, and that old memory stays.
-/
import Derived.Test.YtokamaogognjoaaMem
set_option linter.unusedVariables false
set_option linter.unusedSimpArgs false
namespace Go.Proofs.Ytokamaogognjoaa
open Go.RowKit

set_option maxRecDepth 100000 in
theorem strOfNums_beq {xs ys : List Int} (hx : Byts xs) (hy : Byts ys) : ((strOfNums xs).toList == (strOfNums ys).toList) = decide (xs = ys) := by
  rw [ByteArray.toList_eq, ByteArray.toList_eq]
  by_cases h : xs = ys
  · subst h
    simp
  · rw [decide_eq_false h]
    refine beq_eq_false_iff_ne.2 fun e => h (strOfNums_inj hx hy ?_)
    rw [strOfNums_data, strOfNums_data] at e
    unfold strOfNums
    rw [e]

/-- What a call that makes bytes leaves: a row of its own; old memory stays. -/
def NewB (n : Nat) (xs : List Int) (w : World) (e : Ending) (w' : World) : Prop := ∃ A c, e = .returned (.slice A n c) ∧ OB w' w.heap.size (.slice A n c) n xs ∧ n ≤ c ∧ Below w.heap.size w w'
set_option maxRecDepth 100000 in
theorem NewB.of {n : Nat} {xs : List Int} {w w' : World} {v : Value} (h : OB w' w.heap.size v n xs) (hb : Below w.heap.size w w') : NewB n xs w (.returned v) w' := by
  obtain ⟨A, c, rfl, hc⟩ := h.slice
  exact ⟨A, c, rfl, h, hc, hb⟩

set_option maxRecDepth 100000 in
theorem OB.empty (w : World) (base : Nat) (hb : base ≤ w.heap.size) : OB (w.alloc (.cells #[] 5)) base (.slice (some ⟨w.heap.size, 0, none⟩) 0 0) 0 [] :=
  OB.of_blk hb (Blk.new w 5 #[]) (Nat.le_refl _) (by simp [maxLen]) rfl rfl Byts.nil

set_option maxRecDepth 100000 in
theorem clone_any (A : Option Addr) (n c : Nat) (xs : List Int) (w : World) (hA : RB w A n xs) (hn : n ≤ 140737488351232) :
    Calls Try.prog 35 #[.slice A n c] w (NewB n xs w) := by
  have q22 : ∀ (w : World) (a : Option Addr) (n c n' c' : Nat), (binOp .eql 36 (.slice a n c) (.slice none n' c')).run Try.prog w = .ok (.bool a.isNone) w := fun w a n c n' c' => Lib.run_eql_slice_nil w _ _ a n c n' c' Try.underlying36
  cases A with
  | none =>
    go_enter Try.func35, Try.ntmps35
    go_wp2
    go_ret
    have h0 : n = 0 := by
      rcases Nat.eq_zero_or_pos n with h | h
      · exact h
      · obtain ⟨ad, e, _⟩ := hA.2.2 h
        cases e
    subst h0
    obtain rfl : xs = [] := List.eq_nil_of_length_eq_zero hA.1
    exact NewB.of (OB.nil _ _) (Below.refl _ _)
  | some ad =>
    go_enter Try.func35, Try.ntmps35
    go_wp2_with (at_builtin; refine wpList_app rfl (.tmp 5) (.tmp 6) rfl w.heap.size _ 0 [] rfl (OB.empty w _ (Nat.le_refl _)) (some ad) n c xs rfl (hA.alloc _) ?c1 (by simp) ?_)
    case c1 => omega
    intro v' w' hown hg hat
    go_wp2
    go_ret
    have hb : Below w.heap.size w w' := ((Below.refl w.heap.size w).alloc (Nat.le_refl _) _).grown hg (by simp) (fun k hk => by cases hk; exact Nat.le_refl _)
    exact NewB.of hown hb
end Go.Proofs.Ytokamaogognjoaa
