/-
  trestleref12.Graph: at, Has, Parents, Ids.
-/
import Derived.Test.YtaaiojeehhbhhaaGrO1
import Derived.Test.YtaaiojeehhbhhaaGrO2
import Derived.Test.YtaaiojeehhbhhaaGrO3
set_option linter.unusedVariables false
set_option linter.unusedSimpArgs false
namespace Go.Proofs.Ytaaiojeehhbhhaa
open Go.RowKit

theorem RNs.below {w w' : World} {A : Option Addr} {n : Nat} {l : List Nd} (h : RNs w A n l) (hb : Below w.heap.size w w') : RNs w' A n l := by
  refine ⟨h.1, fun h0 => ?_⟩
  obtain ⟨b, o, e, hc⟩ := h.2 h0
  refine ⟨b, o, e, fun j hj => ?_⟩
  obtain ⟨k1, k2, B, c, k3, k4, k5⟩ := hc j hj
  exact ⟨k1, fun i v hv => cell_later hb (k2 i v hv), B, c, cell_later hb k3, k4, k5.below hb⟩
/-- the reference's graph, as it reads. -/
def RefRd (w : World) (r : Nat) (G : Gph) : Prop := ∃ A c, Blk w r 40 #[.slice A G.length c] ∧ G.length ≤ c ∧ RNs w A G.length G
theorem RefRd.below {w w' : World} {r : Nat} {G : Gph} (h : RefRd w r G) (hb : Below w.heap.size w w') : RefRd w' r G := by
  obtain ⟨A, c, h1, h2, h3⟩ := h
  exact ⟨A, c, h1.below hb h1.lt, h2, h3.below hb⟩
/-- where an id stands. -/
def AtR (G : Gph) (x : IdL) (k : Int) : Prop := (k = -1 ∧ x ∉ ids G) ∨ ∃ j : Nat, j < G.length ∧ k = (j : Int) ∧ (nd G j).id = x
def AtPost (G : Gph) (x : IdL) (w : World) (e : Ending) (w' : World) : Prop := ∃ k : Int, AtR G x k ∧ e = .returned (.int .i64 k) ∧ Below w.heap.size w w'
set_option maxRecDepth 100000 in
set_option maxHeartbeats 1000000 in
theorem at_any (r : Nat) (G : Gph) (x : IdL) (w : World) (h : RefRd w r G) (hx : IsId x) (hn : G.length ≤ 1000000) :
    Calls Try.prog 35 #[.pointer (some ⟨r, 0, none⟩), ida x] w (AtPost G x w) := by
  have hu := idTy
  have hb0 : Below w.heap.size w (w.alloc (.cells (bv x).toArray 27)) := (Below.refl _ _).alloc (Nat.le_refl _) _
  obtain ⟨A, c, hbk, hlc, hR⟩ := h.below hb0
  have hbx : Blk (w.alloc (.cells (bv x).toArray 27)) w.heap.size 27 (bv x).toArray := Blk.new w _ _
  have r2 := fun k => run_loadId (w := (w.alloc (.cells (bv x).toArray 27)).drewN k) hbx.range hx
  have e0 : (w.alloc (.cells (bv x).toArray 27)).cell? ⟨r, 0, none⟩ = some (.slice A G.length c) := hbk.cell 0
  have sz2 := idSz hx
  have HR := Lib.hid hR.2
  have HNO := Lib.hid (show (∀ j, j < G.length → (nd G j).id ≠ x) → AtR G x (-1) from fun hne => .inl ⟨rfl, fun hm => by
    obtain ⟨j, hj, e⟩ := mem_ids hm
    exact hne j hj e⟩)
  have HYES := Lib.hid (show ∀ j : Nat, j < G.length → (nd G j).id = x → AtR G x (j : Int) from fun j hj e => .inr ⟨j, hj, rfl, e⟩)
  generalize hG : G.length = n at *
  clear hG hR h
  go_enter Try.func35, Try.ntmps35
  go_wp2
  go_loopw [5] (fun i wr => ∃ j : Nat, j ≤ n ∧ i = .int .i64 j ∧ (∀ i, i < j → (nd G i).id ≠ x) ∧ ∃ q, (w.alloc (.cells (bv x).toArray 27)).drewN q = wr) (fun i _ => n - (intOf i).toNat)
  case atStart => exact ⟨0, by omega, rfl, fun i hi => absurd hi (by omega), 0, rfl⟩
  case round =>
    obtain ⟨j, hj, rfl, hall, q, rfl⟩ := hrel
    have HALL := Lib.hid hall
    clear hall
    by_cases h1 : j < n
    · obtain ⟨b, o, rfl, hc⟩ := HR.out (by omega)
      obtain ⟨i1, hr1, _⟩ := hc j h1
      have r1 := fun k => run_loadId (w := (w.alloc (.cells (bv x).toArray 27)).drewN k) hr1 i1
      have sz1 := idSz i1
      have j0 : (0 : Int) ≤ (j : Int) := by omega
      have j1 : (j : Int) < (n : Int) := by omega
      have heq := fun W => ida_eql i1 hx W
      clear hc hr1
      by_cases h3 : (nd G j).id = x
      · have hb : ((nd G j).id == x) = true := by simp [h3]
        have HA := Lib.hid (HYES.out j h1 h3)
        rw [hb] at heq
        clear h3 hb
        generalize (nd G j).id = y at *
        go_wp2
        go_quiet (fail)
        go_wp2
        go_ret
        exact ⟨_, HA.out, rfl, below_drewN (below_drewN hb0 _) _⟩
      · have hb : ((nd G j).id == x) = false := by simpa using h3
        rw [hb] at heq
        have H3 := Lib.hid (show ∀ i, i = j → (nd G i).id ≠ x from fun i e => by rw [e]; exact h3)
        clear h3 hb
        generalize (nd G j).id = y at *
        go_wp2
        go_quiet (fail)
        go_wp2
        go_roundw
        case rel => exact ⟨j + 1, by omega, by go_num, fun i hi => by rcases Nat.lt_or_ge i j with h | h; exact HALL.out i h; exact H3.out i (by omega), q + nq, by simp⟩
        case measure => simp [intOf]; omega
    · have HA := HNO.out (fun i hi => HALL.out i (by omega))
      go_wp2
      go_ret
      exact ⟨_, HA, rfl, below_drewN hb0 _⟩
theorem AtR.has {G : Gph} {x : IdL} {k : Int} (h : AtR G x k) : hasB G x = decide (0 ≤ k) := by
  unfold hasB
  rcases h with ⟨rfl, h⟩ | ⟨j, hj, rfl, e⟩
  · rw [decide_eq_false h]
    rfl
  · have : x ∈ ids G := by
      rw [← e, ← ids_gid hj]
      exact gid_mem (by rw [ids_length]; exact hj)
    rw [decide_eq_true this, decide_eq_true (by omega)]
set_option maxHeartbeats 1000000 in
theorem rhas_any (r : Nat) (G : Gph) (x : IdL) (w : World) (h : RefRd w r G) (hx : IsId x) (hn : G.length ≤ 1000000) :
    Calls Try.prog 18 #[.pointer (some ⟨r, 0, none⟩), ida x] w (BoolP (hasB G x) w) := by
  have hb0 : Below w.heap.size w (w.alloc (.cells (bv x).toArray 27)) := (Below.refl _ _).alloc (Nat.le_refl _) _
  have hbx : Blk (w.alloc (.cells (bv x).toArray 27)) w.heap.size 27 (bv x).toArray := Blk.new w _ _
  have r2 := run_loadId hbx.range hx
  go_enter Try.func18, Try.ntmps18
  go_wp2_with fail
  refine (at_any r G x _ (h.below hb0) hx hn).mono ?_
  rintro e w1 ⟨k, hk, rfl, hb1⟩
  have hB := below_then hb0 hb0.size hb1
  go_wp2
  go_ret
  rw [hk.has]
  exact ⟨by first | rfl | simp, hB⟩
/-- a row as it lies with the graph. -/
def RowP (L : List IdL) (w : World) (e : Ending) (w' : World) : Prop := ∃ A c, e = .returned (.slice A L.length c) ∧ RIds w' A L.length L ∧ L.length ≤ c ∧ Below w.heap.size w w'
set_option maxHeartbeats 1000000 in
theorem rparents_any (r : Nat) (G : Gph) (x : IdL) (w : World) (h : RefRd w r G) (hG : GInv G) (hx : IsId x) :
    Calls Try.prog 21 #[.pointer (some ⟨r, 0, none⟩), ida x] w (RowP (psOf G x) w) := by
  have hb0 : Below w.heap.size w (w.alloc (.cells (bv x).toArray 27)) := (Below.refl _ _).alloc (Nat.le_refl _) _
  have hbx : Blk (w.alloc (.cells (bv x).toArray 27)) w.heap.size 27 (bv x).toArray := Blk.new w _ _
  have r2 := run_loadId hbx.range hx
  have hlen := hG.len
  go_enter Try.func21, Try.ntmps21
  go_wp2_with fail
  refine (at_any r G x _ (h.below hb0) hx (by omega)).mono ?_
  rintro e w1 ⟨k, hk, rfl, hb1⟩
  have hB := below_then hb0 hb0.size hb1
  rcases hk with ⟨rfl, hno⟩ | ⟨j, hj, rfl, he⟩
  · have hp : psOf G x = [] := by
      unfold psOf
      rw [look_none hno]
      rfl
    go_wp2
    go_ret
    rw [hp]
    exact ⟨none, 0, rfl, RIds.nil _ _, Nat.le_refl _, hB⟩
  · obtain ⟨A, c, hbk, hlc, hR⟩ := (h.below hB)
    obtain ⟨b, o, rfl, hc⟩ := hR.2 (by omega)
    obtain ⟨_, _, B, cb, hcell, hkc, hps⟩ := hc j hj
    have e0 : w1.cell? ⟨r, 0, none⟩ = some (.slice (some ⟨b, o, none⟩) G.length c) := hbk.cell 0
    have hpe : psOf G x = (nd G j).ps := by rw [← he]; exact ps_at hG hj
    have HPE := Lib.hid hpe
    clear hpe
    have j0 : (0 : Int) ≤ (j : Int) := by omega
    have j1 : (j : Int) < (G.length : Int) := by omega
    clear hc hbk
    go_wp2
    go_ret
    rw [HPE.out]
    exact ⟨B, cb, rfl, hps, hkc, hB⟩
end Go.Proofs.Ytaaiojeehhbhhaa
