/-
  trestlehelp.In, Plain over ids.
-/
import Derived.Test.YtaaiojeehhbhhaaGr4
set_option linter.unusedVariables false
set_option linter.unusedSimpArgs false
namespace Go.Proofs.Ytaaiojeehhbhhaa
open Go.RowKit

set_option maxRecDepth 100000 in
set_option maxHeartbeats 1000000 in
theorem in_any (A : Option Addr) (n c : Nat) (L : List IdL) (x : IdL) (w : World) (hA : RIds w A n L) (hx : IsId x) (hn : n ≤ 1000000000) :
    Calls Try.prog 29 #[.slice A n c, ida x] w (BoolP (decide (x ∈ L)) w) := by
  have hl := hA.1
  have hu := idTy
  have HT := Lib.hid (show ∀ j, j < n → gid L j = x → decide (x ∈ L) = true from fun j hj e => decide_eq_true (by rw [← e]; exact gid_mem (by omega)))
  have HF := Lib.hid (show (∀ j, j < n → gid L j ≠ x) → decide (x ∈ L) = false from fun h => decide_eq_false fun hm => by
    obtain ⟨i, hi, e⟩ := List.getElem_of_mem hm
    exact h i (by omega) (by simp [gid, hi, e]))
  have HA := Lib.hid (show ∀ j, j < n → IsId (gid L j) from fun j hj => hA.2.1.at_ (by omega))
  generalize decide (x ∈ L) = r at *
  have hb0 : Below w.heap.size w (w.alloc (.cells (bv x).toArray 27)) := (Below.refl _ _).alloc (Nat.le_refl _) _
  have hA0 := hA.below hb0
  have hbx : Blk (w.alloc (.cells (bv x).toArray 27)) w.heap.size 27 (bv x).toArray := Blk.new w _ _
  have r2 := fun k => run_loadId (w := (w.alloc (.cells (bv x).toArray 27)).drewN k) hbx.range hx
  have sz2 := idSz hx
  clear hl hA
  go_enter Try.func29, Try.ntmps29
  go_wp2
  go_loopw [5] (fun i wr => ∃ j : Nat, j ≤ n ∧ i = .int .i64 j ∧ (∀ i, i < j → gid L i ≠ x) ∧ ∃ q, (w.alloc (.cells (bv x).toArray 27)).drewN q = wr) (fun i _ => n - (intOf i).toNat)
  case atStart => exact ⟨0, by omega, rfl, fun i hi => absurd hi (by omega), 0, rfl⟩
  case round =>
    obtain ⟨j, hj, rfl, hall, q, rfl⟩ := hrel
    have HALL := Lib.hid hall
    clear hall
    by_cases h1 : j < n
    · obtain ⟨b, o, rfl, hc⟩ := hA0.2.2 (by omega)
      have i1 := HA.out j h1
      have r1 := fun k => run_loadId (w := (w.alloc (.cells (bv x).toArray 27)).drewN k) (hc j h1) i1
      have sz1 := idSz i1
      have j0 : (0 : Int) ≤ (j : Int) := by omega
      have j1 : (j : Int) < (n : Int) := by omega
      have heq := fun W => ida_eql i1 hx W
      clear hc
      by_cases h3 : gid L j = x
      · have hb : (gid L j == x) = true := by simp [h3]
        have hr := HT.out j h1 h3
        rw [hb] at heq
        subst hr
        clear h3 hb
        generalize gid L j = y at *
        go_wp2
        go_quiet (fail)
        go_wp2
        go_ret
        exact ⟨rfl, by first | exact below_drewN hb0 _ | exact below_drewN (below_drewN hb0 _) _⟩
      · have hb : (gid L j == x) = false := by simpa using h3
        rw [hb] at heq
        have H3 := Lib.hid (show ∀ i, i = j → gid L i ≠ x from fun i e => by rw [e]; exact h3)
        clear h3 hb
        generalize gid L j = y at *
        go_wp2
        go_quiet (fail)
        go_wp2
        go_roundw
        case rel => exact ⟨j + 1, by omega, by go_num, fun i hi => by rcases Nat.lt_or_ge i j with h | h; exact HALL.out i h; exact H3.out i (by omega), q + nq, by simp⟩
        case measure => simp [intOf]; omega
    · have hr := HF.out (fun i hi => HALL.out i (by omega))
      subst hr
      go_wp2
      go_ret
      exact ⟨rfl, by first | exact below_drewN hb0 _ | exact below_drewN (below_drewN hb0 _) _⟩
set_option maxHeartbeats 1000000 in
theorem one_any (x y : IdL) (w : World) (hx : IsId x) (hy : IsId y) : Calls Try.prog 37 #[ida x, ida y] w (BoolP (x == y) w) := by
  have hb0 : Below w.heap.size w ((w.alloc (.cells (bv x).toArray 27)).alloc (.cells (bv y).toArray 27)) := ((Below.refl _ _).alloc (Nat.le_refl _) _).alloc (by simp) _
  have b1 : Blk ((w.alloc (.cells (bv x).toArray 27)).alloc (.cells (bv y).toArray 27)) w.heap.size 27 (bv x).toArray := (Blk.new w _ _).alloc _
  have b2 : Blk ((w.alloc (.cells (bv x).toArray 27)).alloc (.cells (bv y).toArray 27)) (w.heap.size + 1) 27 (bv y).toArray := by simpa using Blk.new (w.alloc (.cells (bv x).toArray 27)) 27 (bv y).toArray
  have l1 := run_loadId b1.range hx
  have l2 := run_loadId b2.range hy
  have heq := fun W => ida_eql hx hy W
  go_enter Try.func37, Try.ntmps37
  go_wp2
  go_ret
  exact ⟨rfl, hb0⟩
set_option maxRecDepth 100000 in
set_option maxHeartbeats 1000000 in
theorem same_any (A B : Option Addr) (n m c d : Nat) (L M : List IdL) (w : World) (hA : RIds w A n L) (hB : RIds w B m M) (hn : n ≤ 1000000000) (hm : m ≤ 1000000000) :
    Calls Try.prog 36 #[.slice A n c, .slice B m d, .func (.func 37) #[] #[]] w (BoolP (decide (L = M)) w) := by
  have hl := hA.1
  have hl' := hB.1
  have hu := idTy
  by_cases hnm : n = m
  · subst hnm
    have en : ((n : Int) != n) = false := by simp
    have HD := Lib.hid (show (∀ i, i < n → gid L i = gid M i) → decide (L = M) = true from fun h => decide_eq_true (listEq_of (by rw [hl, hl']) fun i hi => h i (by omega)))
    have HN := Lib.hid (show ∀ i, i < n → gid L i ≠ gid M i → decide (L = M) = false from fun i hi hne => decide_eq_false fun e => hne (by rw [e]))
    have HA := Lib.hid (show ∀ j, j < n → IsId (gid L j) ∧ IsId (gid M j) from fun j hj => ⟨hA.2.1.at_ (by omega), hB.2.1.at_ (by omega)⟩)
    generalize decide (L = M) = r at *
    clear hl hl'
    go_enter Try.func36, Try.ntmps36
    go_wp2
    go_loopw [7] (fun i wr => ∃ j : Nat, j ≤ n ∧ i = .int .i64 j ∧ (∀ i, i < j → gid L i = gid M i) ∧ Below w.heap.size w wr) (fun i _ => n - (intOf i).toNat)
    case atStart => exact ⟨0, by omega, rfl, fun i hi => absurd hi (by omega), Below.refl _ _⟩
    case round =>
      obtain ⟨j, hj, rfl, hall, hbr⟩ := hrel
      have HALL := Lib.hid hall
      clear hall
      by_cases h1 : j < n
      · obtain ⟨b, o, rfl, hc⟩ := (hA.below hbr).2.2 (by omega)
        obtain ⟨b', o', rfl, hc'⟩ := (hB.below hbr).2.2 (by omega)
        obtain ⟨i1, i2⟩ := HA.out j h1
        have r1 : (loadId ⟨b, o + j * 20, none⟩).run Try.prog wr.drew = .ok (ida (gid L j)) wr.drew := run_loadId (w := wr.drew) (hc j h1) i1
        have r2 : (loadId ⟨b', o' + j * 20, none⟩).run Try.prog wr.drew = .ok (ida (gid M j)) wr.drew := run_loadId (w := wr.drew) (hc' j h1) i2
        have sz1 := idSz i1
        have sz2 := idSz i2
        have j0 : (0 : Int) ≤ (j : Int) := by omega
        have j1 : (j : Int) < (n : Int) := by omega
        have HC := Lib.hid (one_any (gid L j) (gid M j) wr.drew i1 i2)
        have hbd : Below w.heap.size w wr.drew := below_drewN hbr 1
        clear hc hc'
        by_cases h3 : gid L j = gid M j
        · have hb : (gid L j == gid M j) = true := by simp [h3]
          rw [hb] at HC
          have H3 := Lib.hid (show ∀ i, i = j → gid L i = gid M i from fun i e => by rw [e]; exact h3)
          clear h3 hb
          generalize gid L j = x at *
          generalize gid M j = y at *
          go_wp2
          refine still_tail 9 (by kernel_rfl) (by kernel_rfl) ?_
          simp only [List.take_succ_cons, List.take_zero, List.drop_succ_cons, List.drop_zero]
          repeat still_step
          refine wpStill_nil ?_
          go_wp2_with (go_at_call 37; (with_reducible refine HC.out.mono ?_); rintro e w5 ⟨rfl, hb5⟩; have hB5 := below_then hbd hbd.size hb5)
          go_roundw
          case rel => exact ⟨j + 1, by omega, by go_num, fun i hi => by rcases Nat.lt_or_ge i j with h | h; exact HALL.out i h; exact H3.out i (by omega), hB5⟩
          case measure => simp [intOf]; omega
        · have hb : (gid L j == gid M j) = false := by simpa using h3
          have hr := HN.out j h1 h3
          rw [hb] at HC
          subst hr
          clear h3 hb
          generalize gid L j = x at *
          generalize gid M j = y at *
          go_wp2
          refine still_tail 9 (by kernel_rfl) (by kernel_rfl) ?_
          simp only [List.take_succ_cons, List.take_zero, List.drop_succ_cons, List.drop_zero]
          repeat still_step
          refine wpStill_nil ?_
          go_wp2_with (go_at_call 37; (with_reducible refine HC.out.mono ?_); rintro e w5 ⟨rfl, hb5⟩; have hB5 := below_then hbd hbd.size hb5)
          go_ret
          exact ⟨rfl, hB5⟩
      · have hr := HD.out (fun i hi => HALL.out i (by omega))
        subst hr
        go_wp2
        go_ret
        exact ⟨rfl, hbr⟩
  · have en : ((n : Int) != m) = true := by rw [bne_iff_ne]; omega
    have hd : decide (L = M) = false := decide_eq_false fun e => hnm (by rw [← hl, ← hl', e])
    rw [hd]
    go_enter Try.func36, Try.ntmps36
    go_wp2
    go_ret
    exact ⟨rfl, Below.refl _ _⟩
theorem plain_any (A B : Option Addr) (n m c d : Nat) (L M : List IdL) (w : World) (hA : RIds w A n L) (hB : RIds w B m M) (hn : n ≤ 1000000000) (hm : m ≤ 1000000000) :
    Calls Try.prog 19 #[.slice A n c, .slice B m d] w (BoolP (decide (L = M)) w) := by
  go_enter Try.func19, Try.ntmps19
  go_wp2_with fail
  refine (same_any A B n m c d L M w hA hB hn hm).mono ?_
  rintro e w1 ⟨rfl, hb⟩
  go_wp2
  go_ret
  exact ⟨rfl, hb⟩
end Go.Proofs.Ytaaiojeehhbhhaa
