/-
  The closure of Add; slices.IndexFunc, ContainsFunc over it.
-/
import Derived.Test.YtaaiojeehhbhhaaGr3
set_option linter.unusedVariables false
set_option linter.unusedSimpArgs false
namespace Go.Proofs.Ytaaiojeehhbhhaa
open Go.RowKit

def BoolP (b : Bool) (w : World) (e : Ending) (w' : World) : Prop := e = .returned (.bool b) ∧ Below w.heap.size w w'
def IntP (x : Int) (w : World) (e : Ending) (w' : World) : Prop := e = .returned (.int .i64 x) ∧ Below w.heap.size w w'
set_option maxHeartbeats 1000000 in
theorem none_any (P : Nat → Prop) (g bx : Nat) (G : Gph) (x : IdL) (w : World) (h : GrAt w P g G) (hx : IsId x) (hb : w.cell? ⟨bx, 0, none⟩ = some (.pointer (some ⟨g, 0, none⟩))) :
    Calls Try.prog 30 #[ida x, .pointer (some ⟨bx, 0, none⟩)] w (BoolP (!hasB G x) w) := by
  have hb0 : Below w.heap.size w (w.alloc (.cells (bv x).toArray 27)) := (Below.refl _ _).alloc (Nat.le_refl _) _
  have hcb := cell_later hb0 hb
  have hld := run_loadId ((Blk.new w 27 (bv x).toArray).range) hx
  have hh := has_any P g G x _ (h.below hb0) hx
  go_enter Try.func30, Try.ntmps30
  go_wp2_with (go_at_call 17; (with_reducible refine hh.mono ?_); rintro e w1 ⟨rfl, hb1⟩)
  go_ret
  exact ⟨rfl, below_two hb0 hb1⟩
set_option maxRecDepth 100000 in
set_option maxHeartbeats 1000000 in
theorem idx_none (P : Nat → Prop) (g bx : Nat) (G : Gph) (A : Option Addr) (n c : Nat) (L : List IdL) (w : World) (h : GrAt w P g G) (hA : RIds w A n L) (hn : n ≤ 1000000000) (hb : w.cell? ⟨bx, 0, none⟩ = some (.pointer (some ⟨g, 0, none⟩))) (hall : ∀ x ∈ L, hasB G x = true) :
    Calls Try.prog 38 #[.slice A n c, .func (Fn.func 30) #[] #[.pointer (some ⟨bx, 0, none⟩)]] w (IntP (-1) w) := by
  have HA := Lib.hid (show ∀ j, j < n → IsId (gid L j) ∧ hasB G (gid L j) = true from fun j hj => ⟨hA.2.1.at_ (by rw [hA.1]; exact hj), hall _ (gid_mem (by rw [hA.1]; exact hj))⟩)
  clear hall
  go_enter Try.func38, Try.ntmps38
  go_wp2
  go_loopw [8] (fun i wr => ∃ j : Nat, j ≤ n ∧ i = .int .i64 j ∧ Below w.heap.size w wr) (fun i _ => n - (intOf i).toNat)
  case atStart => exact ⟨0, by omega, rfl, Below.refl _ _⟩
  case round =>
    obtain ⟨j, hj, rfl, hB⟩ := hrel
    by_cases h1 : j < n
    · obtain ⟨b, o, rfl, hc⟩ := (hA.below hB).2.2 (by omega)
      obtain ⟨i1, i2⟩ := HA.out j h1
      have r1 := run_loadId (hc j h1) i1
      have j0 : (0 : Int) ≤ (j : Int) := by omega
      have j1 : (j : Int) < (n : Int) := by omega
      have hno := none_any P g bx G (gid L j) _ (h.below hB) i1 (cell_later hB hb)
      rw [i2] at hno
      have hsz := hB.size
      clear hc i2
      generalize gid L j = x at *
      unfold BoolP at hno
      simp only [Bool.not_true] at hno
      go_wp2_with (go_at_call 30; (with_reducible refine hno.mono ?_); rintro e w1 ⟨rfl, hb1⟩)
      go_roundw
      case rel => exact ⟨j + 1, by omega, by go_num, below_then hB hsz hb1⟩
      case measure => simp [intOf]; omega
    · go_wp2
      go_ret
      exact ⟨rfl, hB⟩
set_option maxRecDepth 100000 in
set_option maxHeartbeats 1000000 in
theorem idx_some (P : Nat → Prop) (g bx : Nat) (G : Gph) (A : Option Addr) (n c : Nat) (L : List IdL) (w : World) (h : GrAt w P g G) (hA : RIds w A n L) (hn : n ≤ 1000000000) (hb : w.cell? ⟨bx, 0, none⟩ = some (.pointer (some ⟨g, 0, none⟩))) (hex : ¬ ∀ x ∈ L, hasB G x = true) :
    Calls Try.prog 38 #[.slice A n c, .func (Fn.func 30) #[] #[.pointer (some ⟨bx, 0, none⟩)]] w (fun e w' => ∃ r : Nat, IntP r w e w') := by
  have HA := Lib.hid (show ∀ j, j < n → IsId (gid L j) from fun j hj => hA.2.1.at_ (by rw [hA.1]; exact hj))
  have HX := Lib.hid (show (∀ j, j < n → hasB G (gid L j) = true) → False from fun hall => hex fun x hx => by
    obtain ⟨j, hj⟩ := List.mem_iff_getElem?.1 hx
    have hl := (List.getElem?_eq_some_iff.1 hj).1
    rw [gid_some hl] at hj
    injection hj with hj
    rw [← hj]
    exact hall j (by rw [← hA.1]; exact hl))
  clear hex
  go_enter Try.func38, Try.ntmps38
  go_wp2
  go_loopw [8] (fun i wr => ∃ j : Nat, j ≤ n ∧ i = .int .i64 j ∧ (∀ k, k < j → hasB G (gid L k) = true) ∧ Below w.heap.size w wr) (fun i _ => n - (intOf i).toNat)
  case atStart => exact ⟨0, by omega, rfl, fun k hk => absurd hk (by omega), Below.refl _ _⟩
  case round =>
    obtain ⟨j, hj, rfl, hall, hB⟩ := hrel
    have HALL := Lib.hid hall
    clear hall
    by_cases h1 : j < n
    · obtain ⟨b, o, rfl, hc⟩ := (hA.below hB).2.2 (by omega)
      have i1 := HA.out j h1
      have r1 := run_loadId (hc j h1) i1
      have j0 : (0 : Int) ≤ (j : Int) := by omega
      have j1 : (j : Int) < (n : Int) := by omega
      have hno := none_any P g bx G (gid L j) _ (h.below hB) i1 (cell_later hB hb)
      have hsz := hB.size
      clear hc
      cases i2 : hasB G (gid L j) with
      | true =>
        rw [i2] at hno
        have HK := Lib.hid (show ∀ k, k < j + 1 → hasB G (gid L k) = true from fun k hk => by
          rcases Nat.lt_or_ge k j with h | h
          · exact HALL.out k h
          · obtain rfl : k = j := by omega
            exact i2)
        clear i2
        unfold BoolP at hno
        simp only [Bool.not_true] at hno
        generalize hgx : gid L j = x at *
        have HGX := Lib.hid hgx
        clear hgx
        go_wp2_with (go_at_call 30; (with_reducible refine hno.mono ?_); rintro e w1 ⟨rfl, hb1⟩)
        go_roundw
        case rel => exact ⟨j + 1, by omega, by go_num, HK.out, below_then hB hsz hb1⟩
        case measure => simp [intOf]; omega
      | false =>
        rw [i2] at hno
        clear i2
        unfold BoolP at hno
        simp only [Bool.not_false] at hno
        generalize gid L j = x at *
        go_wp2_with (go_at_call 30; (with_reducible refine hno.mono ?_); rintro e w1 ⟨rfl, hb1⟩)
        go_ret
        exact ⟨j, rfl, below_then hB hsz hb1⟩
    · exact absurd (fun k hk => HALL.out k (by omega)) HX.out
theorem contains_any (P : Nat → Prop) (g bx : Nat) (G : Gph) (A : Option Addr) (n c : Nat) (L : List IdL) (w : World) (h : GrAt w P g G) (hA : RIds w A n L) (hn : n ≤ 1000000000) (hb : w.cell? ⟨bx, 0, none⟩ = some (.pointer (some ⟨g, 0, none⟩))) :
    Calls Try.prog 32 #[.slice A n c, .func (Fn.func 30) #[] #[.pointer (some ⟨bx, 0, none⟩)]] w (BoolP (!L.all (hasB G)) w) := by
  by_cases hall : ∀ x ∈ L, hasB G x = true
  · have e : L.all (hasB G) = true := List.all_eq_true.2 hall
    have hi := idx_none P g bx G A n c L w h hA hn hb hall
    rw [e]
    unfold IntP at hi
    have HI := Lib.hid hi
    clear hi e hall
    go_enter Try.func32, Try.ntmps32
    go_wp2_with (go_at_call 38; (with_reducible refine HI.out.mono ?_); rintro e w1 ⟨rfl, hb1⟩)
    go_ret
    exact ⟨rfl, hb1⟩
  · have e : L.all (hasB G) = false := by
      rw [Bool.eq_false_iff]
      exact fun h => hall (List.all_eq_true.1 h)
    have hi := idx_some P g bx G A n c L w h hA hn hb hall
    rw [e]
    unfold IntP at hi
    have HI := Lib.hid hi
    clear hi e hall
    go_enter Try.func32, Try.ntmps32
    go_wp2_with (go_at_call 38; (with_reducible refine HI.out.mono ?_); rintro e w1 ⟨r, rfl, hb1⟩; have hr0 : (0 : Int) ≤ (r : Int) := Int.natCast_nonneg _)
    go_ret
    exact ⟨rfl, hb1⟩
end Go.Proofs.Ytaaiojeehhbhhaa
