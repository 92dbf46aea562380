/-
  frame.length, slices.Equal of bytes.
-/
import Derived.Test.YtokamaogognjoaaFrm0
import Derived.Test.YtokamaogognjoaaOr4
import Derived.Test.YtokamaogognjoaaOwn
set_option linter.unusedVariables false
set_option linter.unusedSimpArgs false
namespace Go.Proofs.Ytokamaogognjoaa
open Go.RowKit

def LenPost (v : Int) (b : Bool) (w : World) (e : Ending) (w' : World) : Prop := e = .returned (.tuple #[.int .i64 v, .bool b]) ∧ ∃ q, w.drewN q = w'
set_option maxRecDepth 100000 in
theorem length_any (A : Option Addr) (n c : Nat) (xs : List Int) (w : World) (h : RB w A n xs) (hn : n ≤ 1000000000) :
    Calls Try.prog 53 #[.slice A n c] w (LenPost (if n < 6 then 0 else lenI xs) (decide (6 ≤ n)) w) := by
  by_cases h6 : n < 6
  · rw [if_pos h6, decide_eq_false (by omega)]
    go_enter Try.func53, Try.ntmps53
    go_wp2
    go_ret2
    exact ⟨rfl, 0, rfl⟩
  · rw [if_neg h6, decide_eq_true (by omega)]
    obtain ⟨b, o, rfl, hc⟩ := h.plain (by omega)
    have hb := h.byts
    have c2 := hc 2 (by omega)
    have c3 := hc 3 (by omega)
    have c4 := hc 4 (by omega)
    have c5 := hc 5 (by omega)
    have r2 := hb.gi 2
    have r3 := hb.gi 3
    have r4 := hb.gi 4
    have r5 := hb.gi 5
    have o1 := or_1 r2.1 r2.2 r3.1 r3.2
    have o2 := or_2 (a := 0) (b := gi xs 4) (x := gi xs 2 * 16777216 + gi xs 3 * 65536) (by omega) (by omega) (by omega) r4.1 r4.2
    have o3 := or_3 (b := gi xs 5) (x := gi xs 2 * 16777216 + gi xs 3 * 65536 + gi xs 4 * 256) (by omega) (by omega) (by omega) r5.1 r5.2
    go_enter Try.func53, Try.ntmps53
    go_wp2
    go_quiet (fail)
    go_wp2
    go_ret2
    exact ⟨rfl, _, rfl⟩
set_option maxRecDepth 100000 in
theorem take_succ_gi {xs : List Int} {k : Nat} (h : k < xs.length) : xs.take (k + 1) = xs.take k ++ [gi xs k] := by
  have e := gi_some h
  rw [List.getElem?_eq_getElem h] at e
  injection e with e
  rw [List.take_succ_eq_append_getElem h, e]
set_option maxRecDepth 100000 in
set_option maxHeartbeats 1000000 in
theorem equalB_any (A B : Option Addr) (n m c d : Nat) (xs ys : List Int) (w : World) (h : RB w A n xs) (h' : RB w B m ys) (hn : n ≤ 1000000000) :
    Calls Try.prog 54 #[.slice A n c, .slice B m d] w (Quiet (.bool (decide (xs = ys))) w) := by
  have hl := h.len
  have hl' := h'.len
  by_cases hnm : n = m
  · subst hnm
    have en : ((n : Int) != n) = false := by simp
    go_enter Try.func54, Try.ntmps54
    go_wp2
    go_loopw [13] (fun i wr => ∃ k q : Nat, k ≤ n ∧ i = .int .i64 k ∧ w.drewN q = wr ∧ xs.take k = ys.take k) (fun i _ => n - (intOf i).toNat)
    case atStart => exact ⟨0, 0, by omega, rfl, rfl, rfl⟩
    case round =>
      obtain ⟨k, q, hk, rfl, rfl, he⟩ := hrel
      by_cases h1 : k < n
      · obtain ⟨b, o, rfl, hc⟩ := h.plain (by omega)
        obtain ⟨b', o', rfl, hc'⟩ := h'.plain (by omega)
        have c0 := hc k h1
        have c1 := hc' k h1
        have HE := Lib.hid he
        clear he hc hc'
        by_cases hx : gi xs k = gi ys k
        · have e0 : (gi ys k != gi ys k) = false := by simp
          have HX := Lib.hid hx
          rw [hx] at c0
          clear hx
          go_wp2
          go_quiet (fail)
          go_wp2
          go_roundw
          case rel =>
            refine ⟨k + 1, _, by omega, by go_num, rfl, ?_⟩
            rw [take_succ_gi (by omega), take_succ_gi (by omega), HE.out, HX.out]
          case measure => simp [intOf]; omega
        · have e0 : (gi xs k != gi ys k) = true := by simp [hx]
          have hne : decide (xs = ys) = false := decide_eq_false fun e => hx (by rw [e])
          rw [hne]
          have HX := Lib.hid hx
          clear hx
          go_wp2
          go_quiet (fail)
          go_wp2
          go_ret
          exact ⟨rfl, q + nq, by rw [World.drewN_drewN]⟩
      · have hkn : k = n := by omega
        have heq : decide (xs = ys) = true := decide_eq_true (by rw [hkn, List.take_of_length_le (by omega), List.take_of_length_le (by omega)] at he; exact he)
        have HQ := Lib.hid heq
        clear hkn heq he
        go_wp2
        go_ret
        exact ⟨congrArg (fun b => Ending.returned (.bool b)) HQ.out.symm, q, rfl⟩
  · have en : ((n : Int) != m) = true := by simp; omega
    have hne : decide (xs = ys) = false := decide_eq_false fun e => hnm (by rw [← hl, ← hl', e])
    rw [hne]
    go_enter Try.func54, Try.ntmps54
    go_wp2
    go_ret
    exact ⟨rfl, 0, rfl⟩
end Go.Proofs.Ytokamaogognjoaa
