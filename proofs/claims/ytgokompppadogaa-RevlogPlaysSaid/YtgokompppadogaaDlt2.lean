/-
  delta.may.
-/
import Derived.Test.YtgokompppadogaaDlt1
set_option linter.unusedVariables false
set_option linter.unusedSimpArgs false
namespace Go.Proofs.Ytgokompppadogaa
open Go.RowKit

def MayPost (b : Bool) (w : World) (e : Ending) (w' : World) : Prop := e = .returned (.bool b) ∧ Below w.heap.size w w'
set_option maxHeartbeats 2000000 in
theorem may_yes (n : Nat) (S : Nat → Prop) (A : Option Addr) (k c : Nat) (l : List Ed) (w : World) (h : REs w S A k l) (hk : k ≤ 1000000) (hm : MayL n l) :
    Calls Try.prog 74 #[.int .i64 n, .slice A k c] w (MayPost true w) := by
  have hlen := h.1
  go_enter Try.func74, Try.ntmps74
  go_wp2
  go_loopw [5, 10] (fun a i wr => ∃ j : Nat, j ≤ k ∧ i = .int .i64 j ∧ a = .int .i64 (atL l j) ∧ Below w.heap.size w wr) (fun _ i _ => k - (intOf i).toNat)
  case atStart => exact ⟨0, by omega, rfl, rfl, Below.refl _ _⟩
  case round =>
    obtain ⟨j, hj, rfl, rfl, hB⟩ := hrel
    by_cases h1 : j < k
    · obtain ⟨b, off, B, c', rfl, _, c0, c1, c2, _⟩ := h.at_ (ed_some (l := l) (i := j) (by omega))
      have c0 := cell_later hB c0
      have c1 := cell_later hB c1
      have c2 := cell_later hB c2
      have ho := hm j (by omega)
      unfold okE at ho
      have hs : atL l (j + 1) = (ed l j).t := rfl
      obtain ⟨o1, o2, o3⟩ := ho
      have p1 : ¬ ((ed l j).f < atL l j) := by omega
      have p2 : ¬ ((ed l j).t < (ed l j).f) := by omega
      have p3 : ¬ ((n : Int) < (ed l j).t) := by omega
      have HS := Lib.hid hs
      clear hs
      generalize ed l j = x at *
      generalize atL l j = a0 at *
      go_wp2
      go_roundw
      case rel => exact ⟨j + 1, by omega, by go_num, by rw [HS.out], hB.alloc hB.size _⟩
      case measure => simp [intOf]; omega
    · go_wp2
      go_ret
      exact ⟨rfl, hB⟩
set_option maxHeartbeats 2000000 in
theorem may_no (n : Nat) (S : Nat → Prop) (A : Option Addr) (k c : Nat) (l : List Ed) (w : World) (h : REs w S A k l) (hk : k ≤ 1000000) (hm : ¬ MayL n l) :
    Calls Try.prog 74 #[.int .i64 n, .slice A k c] w (MayPost false w) := by
  have hlen := h.1
  have HM := Lib.hid hm
  clear hm
  go_enter Try.func74, Try.ntmps74
  go_wp2
  go_loopw [5, 10] (fun a i wr => ∃ j : Nat, j ≤ k ∧ i = .int .i64 j ∧ a = .int .i64 (atL l j) ∧ (∀ q, q < j → okE n l q) ∧ Below w.heap.size w wr) (fun _ i _ => k - (intOf i).toNat)
  case atStart => exact ⟨0, by omega, rfl, rfl, fun q hq => absurd hq (by omega), Below.refl _ _⟩
  case round =>
    obtain ⟨j, hj, rfl, rfl, hall, hB⟩ := hrel
    by_cases h1 : j < k
    · obtain ⟨b, off, B, c', rfl, _, c0, c1, c2, _⟩ := h.at_ (ed_some (l := l) (i := j) (by omega))
      have c0 := cell_later hB c0
      have c1 := cell_later hB c1
      have c2 := cell_later hB c2
      have hs : atL l (j + 1) = (ed l j).t := rfl
      by_cases ho : okE n l j
      · have hall2 : ∀ q, q < j + 1 → okE n l q := fun q hq => by
          by_cases e : q = j
          · subst e; exact ho
          · exact hall q (by omega)
        unfold okE at ho
        obtain ⟨o1, o2, o3⟩ := ho
        have p1 : ¬ ((ed l j).f < atL l j) := by omega
        have p2 : ¬ ((ed l j).t < (ed l j).f) := by omega
        have p3 : ¬ ((n : Int) < (ed l j).t) := by omega
        have HS := Lib.hid hs
        have HA := Lib.hid hall2
        clear hs hall hall2
        generalize ed l j = x at *
        generalize atL l j = a0 at *
        go_wp2
        go_roundw
        case rel => exact ⟨j + 1, by omega, by go_num, by rw [HS.out], HA.out, hB.alloc hB.size _⟩
        case measure => simp [intOf]; omega
      · unfold okE at ho
        clear hs hall
        generalize ed l j = x at *
        generalize atL l j = a0 at *
        by_cases q1 : x.f < a0
        · clear ho
          go_wp2
          go_ret
          exact ⟨rfl, hB.alloc hB.size _⟩
        · by_cases q2 : x.t < x.f
          · clear ho
            go_wp2
            go_ret
            exact ⟨rfl, hB.alloc hB.size _⟩
          · have q3 : (n : Int) < x.t := by omega
            clear ho
            go_wp2
            go_ret
            exact ⟨rfl, hB.alloc hB.size _⟩
    · exact absurd (fun q hq => hall q (by omega)) HM.out
end Go.Proofs.Ytgokompppadogaa
