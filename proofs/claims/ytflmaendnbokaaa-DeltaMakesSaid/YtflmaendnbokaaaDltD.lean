/-
  trestlehelp.Edit, Same of edits; trestleref14.Apply; trestlelaw14.few.
-/
import Derived.Test.YtflmaendnbokaaaDltC
set_option linter.unusedVariables false
set_option linter.unusedSimpArgs false
namespace Go.Proofs.Ytflmaendnbokaaa
open Go.RowKit

def TrueB (b : Bool) (w : World) (e : Ending) (w' : World) : Prop := e = .returned (.bool b) ∧ Below w.heap.size w w'
set_option maxHeartbeats 1000000 in
theorem edit_any (f t : Int) (A B : Option Addr) (n c d : Nat) (xs : List Int) (w : World) (hA : RB w A n xs) (hB : RB w B n xs) :
    Calls Try.prog 24 #[.agg #[.int .i64 f, .int .i64 t, .slice A n c], .agg #[.int .i64 f, .int .i64 t, .slice B n d]] w (TrueB true w) := by
  have hby := fun (W : World) (h1 : RB W A n xs) (h2 : RB W B n xs) => bytes_any A B n n c d xs xs W h1 h2
  rw [decide_eq_true (rfl : xs = xs)] at hby
  have e1 : (f == f) = true := by simp
  have e2 : (t == t) = true := by simp
  go_enter Try.func24, Try.ntmps24
  go_wp2_with (go_at_call 11; (with_reducible refine (hby _ ((hA.alloc _).alloc _) ((hB.alloc _).alloc _)).mono ?_); rintro e w1 ⟨rfl, rfl⟩)
  go_ret
  exact ⟨rfl, ((Below.refl _ _).alloc (Nat.le_refl _) _).alloc (by simp) _⟩
set_option maxHeartbeats 1000000 in
theorem sameEd_any (S S' : Nat → Prop) (A B : Option Addr) (k c d : Nat) (l : List Ed) (w : World) (h : REs w S A k l) (h' : REs w S' B k l) (hk : k ≤ 1000000) :
    Calls Try.prog 22 #[.slice A k c, .slice B k d, .func (Fn.func 24) #[] #[]] w (TrueB true w) := by
  have hlen := h.1
  have e1 : ((k : Int) != k) = false := by simp
  go_enter Try.func22, Try.ntmps22
  go_wp2
  go_loopw [7] (fun i wr => ∃ j : Nat, j ≤ k ∧ i = .int .i64 j ∧ Below w.heap.size w wr) (fun i _ => k - (intOf i).toNat)
  case atStart => exact ⟨0, by omega, rfl, Below.refl _ _⟩
  case round =>
    obtain ⟨j, hj, rfl, hB⟩ := hrel
    by_cases h1 : j < k
    · obtain ⟨b, off, B1, c1, rfl, _, c10, c11, c12, c13, c14, _⟩ := h.at_ (ed_some (l := l) (i := j) (by omega))
      obtain ⟨b2, off2, B2, c2, rfl, _, c20, c21, c22, c23, c24, _⟩ := h'.at_ (ed_some (l := l) (i := j) (by omega))
      have c10 := cell_later hB c10
      have c11 := cell_later hB c11
      have c12 := cell_later hB c12
      have c20 := cell_later hB c20
      have c21 := cell_later hB c21
      have c22 := cell_later hB c22
      have hed := edit_any (ed l j).f (ed l j).t B1 B2 (ed l j).b.length c1 c2 (ed l j).b wr.drew (c14.below (below_drewN hB 1)) (c24.below (below_drewN hB 1))
      have hsz := hB.size
      clear c13 c14 c23 c24
      generalize ed l j = x at *
      obtain ⟨f, t, bs⟩ := x
      simp only at c10 c11 c12 c20 c21 c22 hed
      generalize bs.length = m at *
      have j0 : (0 : Int) ≤ (j : Int) := by omega
      have j1 : (j : Int) < (k : Int) := by omega
      go_wp2
      go_region_held3 (fun w' => w'.cell? ⟨b, off + j * 3, none⟩ = some (.int .i64 f) ∧ w'.cell? ⟨b, off + j * 3 + 1, none⟩ = some (.int .i64 t) ∧ w'.cell? ⟨b, off + j * 3 + 2, none⟩ = some (.slice B1 m c1) ∧ w'.cell? ⟨b2, off2 + j * 3, none⟩ = some (.int .i64 f) ∧ w'.cell? ⟨b2, off2 + j * 3 + 1, none⟩ = some (.int .i64 t) ∧ w'.cell? ⟨b2, off2 + j * 3 + 2, none⟩ = some (.slice B2 m c2))
        (first
          | exact ⟨cell_later hb1 c10, cell_later hb1 c11, cell_later hb1 c12, cell_later hb1 c20, cell_later hb1 c21, cell_later hb1 c22⟩
          | exact ⟨c10, c11, c12, c20, c21, c22⟩)
        (first | (go_at_call 24; (with_reducible refine hed.mono ?_); rintro e w1 ⟨rfl, hb1⟩))
      go_wp2
      go_roundw
      case rel => exact ⟨j + 1, by omega, by go_num, below_then (below_drewN hB 1) hsz hb1⟩
      case measure => simp [intOf]; omega
    · go_wp2
      go_ret
      exact ⟨rfl, hB⟩
/-- how many bytes the first edits bear. -/
def sumTo (l : List Ed) : Nat → Nat
  | 0 => 0
  | i + 1 => sumTo l i + (ed l i).b.length
theorem sumTo_le {l : List Ed} {M : Nat} (j : Nat) (h : ∀ i, i < j → (ed l i).b.length ≤ M) : sumTo l j ≤ j * M := by
  induction j with
  | zero => simp [sumTo]
  | succ j ih =>
    have h1 := ih fun i hi => h i (by omega)
    have h2 := h j (by omega)
    show sumTo l j + (ed l j).b.length ≤ _
    rw [Nat.add_mul, Nat.one_mul]
    omega
theorem le_sumTo {l : List Ed} {j i : Nat} (h : i < j) : (ed l i).b.length ≤ sumTo l j := by
  induction j with
  | zero => omega
  | succ j ih =>
    show _ ≤ sumTo l j + (ed l j).b.length
    rcases Nat.lt_or_ge i j with h' | h'
    · have := ih h'; omega
    · obtain rfl : i = j := by omega
      omega
def fewB (l : List Ed) : Bool := decide (l.length < 60) && decide (sumTo l l.length < 3000)
theorem fewB_len {l : List Ed} (h : fewB l = true) : l.length < 60 ∧ ∀ i, i < l.length → (ed l i).b.length < 3000 := by
  unfold fewB at h
  simp only [Bool.and_eq_true, decide_eq_true_eq] at h
  exact ⟨h.1, fun i hi => Nat.lt_of_le_of_lt (le_sumTo hi) h.2⟩
set_option maxHeartbeats 1000000 in
theorem few_any (S : Nat → Prop) (A : Option Addr) (k c : Nat) (l : List Ed) (w : World) (h : REs w S A k l) (hkm : k ≤ 9223372036854775807) (hl : ∀ i, i < k → (ed l i).b.length ≤ 140737488355328) :
    Calls Try.prog 18 #[.slice A k c] w (fun e w' => e = .returned (.bool (fewB l)) ∧ w = w') := by
  have hlen := h.1
  have HL := Lib.hid hl
  clear hl
  go_enter Try.func18, Try.ntmps18
  go_wp2
  go_loopw [3, 4] (fun n i wr => ∃ j : Nat, j ≤ k ∧ j ≤ 60 ∧ i = .int .i64 j ∧ n = .int .i64 (sumTo l j) ∧ w = wr) (fun _ i _ => k - (intOf i).toNat)
  case atStart => exact ⟨0, by omega, by omega, rfl, rfl, rfl⟩
  case round =>
    obtain ⟨j, hj, hj6, rfl, rfl, rfl⟩ := hrel
    have hs := sumTo_le (l := l) (M := 140737488355328) j (fun i hi => HL.out i (by omega))
    have hs2 : sumTo l j ≤ 60 * 140737488355328 := Nat.le_trans hs (Nat.mul_le_mul_right _ hj6)
    clear hs
    by_cases h1 : j < k
    · by_cases h6 : j < 60
      · obtain ⟨b, off, B', c', rfl, _, c0, c1, c2, c3, c4, _⟩ := h.at_ (ed_some (l := l) (i := j) (by omega))
        have hx := HL.out j h1
        have he : sumTo l (j + 1) = sumTo l j + (ed l j).b.length := rfl
        have HE := Lib.hid he
        clear he c0 c1 c3 c4
        generalize (ed l j).b.length = q at *
        generalize sumTo l j = u at *
        have i6 : (j : Int) < 60 := by omega
        go_wp2
        go_roundw
        case rel => exact ⟨j + 1, by omega, by omega, by go_num, by rw [HE.out]; go_num, trivial⟩
        case measure => simp [intOf]; omega
      · obtain rfl : j = 60 := by omega
        have i6 : ¬ ((60 : Int) < 60) := by omega
        have i7 : ¬ ((k : Int) < 60) := by omega
        have hf : fewB l = false := by
          unfold fewB
          rw [hlen, decide_eq_false (by omega)]
          rfl
        have HF := Lib.hid hf
        clear hf
        generalize sumTo l 60 = u at *
        go_wp2
        go_ret
        exact ⟨by rw [HF.out]; rfl, rfl⟩
    · obtain rfl : j = k := by omega
      have hf : fewB l = (decide (j < 60) && decide (sumTo l j < 3000)) := by unfold fewB; rw [hlen]
      by_cases h6 : j < 60
      · by_cases h3 : sumTo l j < 3000
        · have i6 : (j : Int) < 60 := by omega
          rw [decide_eq_true h6, decide_eq_true h3] at hf
          have HF := Lib.hid hf
          clear hf
          generalize sumTo l j = u at *
          have i7 : (u : Int) < 3000 := by omega
          go_wp2
          go_ret
          exact ⟨by rw [HF.out]; rfl, rfl⟩
        · have i6 : (j : Int) < 60 := by omega
          rw [decide_eq_true h6, decide_eq_false h3] at hf
          have HF := Lib.hid hf
          clear hf
          generalize sumTo l j = u at *
          have i7 : ¬ ((u : Int) < 3000) := by omega
          go_wp2
          go_ret
          exact ⟨by rw [HF.out]; rfl, rfl⟩
      · have i6 : ¬ ((j : Int) < 60) := by omega
        rw [decide_eq_false h6] at hf
        have HF := Lib.hid hf
        clear hf
        generalize sumTo l j = u at *
        go_wp2
        go_ret
        exact ⟨by rw [HF.out]; rfl, rfl⟩
end Go.Proofs.Ytflmaendnbokaaa
