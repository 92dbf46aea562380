/-
  Both tapes side by side; 'joined'.
-/
import Derived.Test.YtdhegecnhglplaaTp6
import Derived.Test.YtdhegecnhglplaaRt3
import Derived.Test.YtdhegecnhglplaaRt4
import Derived.Test.YtdhegecnhglplaaSpoil
set_option linter.unusedVariables false
set_option linter.unusedSimpArgs false
namespace Go.Proofs.Ytdhegecnhglplaa
open Go.RowKit

section
variable {w w' : World} {P Q : Nat → Prop} {g g' : Nat} {s s' : Tp}
theorem two_ne (h : TpAt w P g s) (h' : RtAt w Q g' s') : g ≠ g' := by
  obtain ⟨A, n, c, h1, _⟩ := h
  obtain ⟨A', n', c', h1', _⟩ := h'
  exact Blk.ne_ h1 h1' (by decide)
theorem TpAt.overRt (h : TpAt w P g s) (h' : RtAt w Q g' s') (hg : w.grownBy w' (some g')) : TpAt w' P g s := by
  have hne := two_ne h h'
  obtain ⟨A, n, c, h1, h2, h3, h4⟩ := h
  exact ⟨A, n, c, h1.grown hg (fun e => by injection e with e; exact hne e), h2.overRt h' hg, h3, h4⟩
theorem RtAt.overTp (h : RtAt w Q g' s') (h' : TpAt w P g s) (hg : w.grownBy w' (some g)) : RtAt w' Q g' s' := by
  have hne := two_ne h' h
  obtain ⟨A, n, c, h1, h2, h3, h4⟩ := h
  exact ⟨A, n, c, h1.grown hg (fun e => by injection e with e; exact hne e.symm), h2.overTp h' hg, h3, h4⟩
end
def jok (ps : List (List Int)) : Bool := decide (ps.length ≤ 8) && ps.all (fun p => decide (p.length ≤ 200))
theorem jok_bad1 {ps : List (List Int)} (h : 8 < ps.length) : jok ps = false := by simp [jok]; omega
theorem jok_bad2 {ps : List (List Int)} {i : Nat} (hi : i < ps.length) (h : 200 < (ps.getD i []).length) : jok ps = false := by
  rw [List.getD_eq_getElem?_getD, List.getElem?_eq_getElem hi] at h
  simp only [Option.getD_some] at h
  simp only [jok, Bool.and_eq_false_iff, List.all_eq_false]
  exact .inr ⟨ps[i], List.getElem_mem hi, by simp; omega⟩
theorem jok_good {ps : List (List Int)} (h1 : ps.length ≤ 8) (h2 : ∀ i, i < ps.length → (ps.getD i []).length ≤ 200) : jok ps = true := by
  simp only [jok, Bool.and_eq_true, decide_eq_true_eq, List.all_eq_true]
  refine ⟨h1, fun p hp => ?_⟩
  obtain ⟨i, hi, rfl⟩ := List.mem_iff_getElem.1 hp
  have := h2 i hi
  rwa [List.getD_eq_getElem?_getD, List.getElem?_eq_getElem hi] at this
theorem joined_small {ps : List (List Int)} (i : Nat) (h : ∀ j, j < i → j < ps.length → (ps.getD j []).length ≤ 200) : (joined ps i).length ≤ 200 * i := by
  induction i with
  | zero => simp [joined]
  | succ i ih =>
    have h1 := ih fun j hj hl => h j (by omega) hl
    by_cases hi : i < ps.length
    · rw [joined_succ hi, List.length_append]
      have := h i (by omega) hi
      omega
    · have : joined ps (i + 1) = joined ps i := by
        unfold joined
        rw [List.take_of_length_le (by omega), List.take_of_length_le (by omega)]
      rw [this]
      omega
theorem jok_len {ps : List (List Int)} (h : jok ps = true) : ps.length ≤ 8 ∧ ps.flatten.length ≤ 1600 := by
  simp only [jok, Bool.and_eq_true, decide_eq_true_eq, List.all_eq_true] at h
  refine ⟨h.1, ?_⟩
  have := joined_small (ps := ps) ps.length (fun j _ hj => by
    rw [List.getD_eq_getElem?_getD, List.getElem?_eq_getElem hj]
    exact h.2 _ (List.getElem_mem hj))
  rw [joined_all] at this
  omega
def JoinPost (ps : List (List Int)) (w : World) (e : Ending) (w' : World) : Prop := ∃ A m c, e = .returned (.tuple #[.slice A m c, .bool (jok ps)]) ∧ m = (if jok ps then ps.flatten else []).length ∧ OB w' w.heap.size (.slice A m c) m (if jok ps then ps.flatten else []) ∧ m ≤ c ∧ Below w.heap.size w w'
set_option maxHeartbeats 2000000 in
theorem joined_any (A : Option Addr) (k c : Nat) (ps : List (List Int)) (w : World) (h : RBs w A k ps) (hkc : k ≤ c) (hk : k ≤ 9223372036854775807) :
    Calls Try.prog 38 #[.slice A k c] w (JoinPost ps w) := by
  have hlen := h.1
  obtain ⟨b, off, hA, hcells⟩ := h.2
  go_enter Try.func38, Try.ntmps38
  go_wp2
  go_loopw [4, 5] (fun v i wr => ∃ j : Nat, j ≤ k ∧ j ≤ 8 ∧ i = .int .i64 j ∧ (∀ q, q < j → (ps.getD q []).length ≤ 200) ∧ OB wr w.heap.size v (joined ps j).length (joined ps j) ∧ Below w.heap.size w wr) (fun _ i _ => k - (intOf i).toNat)
  case atStart => exact ⟨0, by omega, by omega, rfl, fun q hq => absurd hq (by omega), OB.nil _ _, Below.refl _ _⟩
  case round =>
    obtain ⟨j, hj, hj8, rfl, hall, hob, hbl⟩ := hrel
    have HALL := Lib.hid hall
    clear hall
    by_cases h1 : j < k
    · obtain rfl := hA (by omega)
      obtain ⟨Ai, ci, hc, hle, hr⟩ := hcells j h1
      have hc := (hbl.cell (World.block_lt_of_cell? _ _ hc)).trans hc
      have hr := hr.below hbl
      by_cases h8 : 8 ≤ j
      · have hbad : jok ps = false := jok_bad1 (by omega)
        have i8 : (8 : Int) ≤ j := by omega
        have HB := Lib.hid hbad
        clear hbad
        go_wp2
        go_ret2
        refine ⟨none, 0, 0, ?_, ?_, ?_, Nat.le_refl _, hbl⟩ <;> rw [HB.out]
        · rfl
        · rfl
        · exact OB.nil _ _
      · have i8 : ¬ ((8 : Int) ≤ j) := by omega
        by_cases h2 : 200 < (ps.getD j []).length
        · have hbad : jok ps = false := jok_bad2 (by omega) h2
          have HB := Lib.hid hbad
          have i2 : (200 : Int) < ((ps.getD j []).length : Int) := by omega
          clear hbad h2
          generalize ps.getD j [] = xs at *
          go_wp2
          go_ret2
          refine ⟨none, 0, 0, ?_, ?_, ?_, Nat.le_refl _, hbl⟩ <;> rw [HB.out]
          · rfl
          · rfl
          · exact OB.nil _ _
        · have i2 : ¬ ((200 : Int) < ((ps.getD j []).length : Int)) := by omega
          have hs := joined_succ (ps := ps) (i := j) (by omega)
          have hsm := joined_small (ps := ps) j (fun q hq _ => HALL.out q hq)
          have hsl2 : (joined ps (j + 1)).length = (joined ps j).length + (ps.getD j []).length := by rw [hs, List.length_append]
          have hall2 : ∀ q, q < j + 1 → (ps.getD q []).length ≤ 200 := fun q hq => by
            by_cases e : q = j
            · subst e; omega
            · exact HALL.out q (by omega)
          have HA2 := Lib.hid hall2
          have f1 : (joined ps j).length + (ps.getD j []).length ≤ 140737488355328 := by omega
          have HS := Lib.hid hs
          have HS2 := Lib.hid hsl2
          clear hs hsl2 hall2 h2 hsm HALL
          generalize hxs : ps.getD j [] = xs at *
          clear hxs
          generalize hyy : joined ps j = ys at *
          clear hyy
          go_wp2_with (at_builtin; refine wpList_app rfl (.tmp 22) (.tmp 26) rfl w.heap.size _ _ _ rfl hob Ai xs.length ci xs rfl hr f1 hbl.size ?_)
          intro v' w' hown hg hat
          go_wp2
          go_roundw
          case rel => exact ⟨j + 1, by omega, by omega, by go_num, HA2.out, by rw [HS2.out, HS.out]; exact hown, hbl.grown hg hbl.size (fun k hk => (hob.own k hk).1)⟩
          case measure => simp [intOf]; omega
    · obtain rfl : j = k := by omega
      have hgood : jok ps = true := jok_good (by omega) (fun i hi => HALL.out i (by omega))
      have HG := Lib.hid hgood
      obtain ⟨A', c', rfl, hc'⟩ := hob.slice
      clear hgood HALL
      go_wp2
      go_ret2
      rw [show joined ps j = ps.flatten from by rw [← hlen]; exact joined_all] at hob hc'
      refine ⟨A', ps.flatten.length, c', ?_, ?_, ?_, hc', hbl⟩ <;> rw [HG.out]
      · rw [show joined ps j = ps.flatten from by rw [← hlen]; exact joined_all]; rfl
      · rfl
      · exact hob
end Go.Proofs.Ytdhegecnhglplaa
