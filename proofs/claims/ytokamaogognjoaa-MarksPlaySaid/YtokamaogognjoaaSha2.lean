/-
  SHA-1: the words of a block ('schedule').
-/
import Derived.Test.YtokamaogognjoaaSha1
set_option linter.unusedVariables false
set_option linter.unusedSimpArgs false
namespace Go.Proofs.Ytokamaogognjoaa
open Go.RowKit

/-- words as cells. -/
def uv (ws : List UInt32) : List Value := ws.map fun x => Value.int .u32 (U x)
set_option maxRecDepth 100000 in
theorem uv_length (ws : List UInt32) : (uv ws).length = ws.length := by simp [uv]
set_option maxRecDepth 100000 in
theorem uv_append (xs ys : List UInt32) : uv (xs ++ ys) = uv xs ++ uv ys := by simp [uv]
set_option maxRecDepth 100000 in
theorem uv_get {ws : List UInt32} {i : Nat} (h : i < ws.length) : (uv ws)[i]? = some (.int .u32 (U (wi ws i))) := by simp [uv, wi, h]
/-- the first words of a row of eighty, the rest zero. -/
def arr (ws : List UInt32) : Array Value := (uv ws ++ List.replicate (80 - ws.length) (Value.int .u32 0)).toArray
set_option maxRecDepth 100000 in
theorem arr_get {ws : List UInt32} {i : Nat} (h : i < ws.length) : (arr ws)[i]? = some (.int .u32 (U (wi ws i))) := by
  unfold arr
  simp only [List.getElem?_toArray]
  rw [List.getElem?_append_left (by rw [uv_length]; exact h), uv_get h]
set_option maxRecDepth 100000 in
theorem arr_get_zero {ws : List UInt32} {i : Nat} (h : ws.length ≤ i) (hi : i < 80) : (arr ws)[i]? = some (.int .u32 0) := by
  unfold arr
  simp only [List.getElem?_toArray]
  rw [List.getElem?_append_right (by rw [uv_length]; exact h), uv_length, List.getElem?_replicate, if_pos (by omega)]
set_option maxRecDepth 100000 in
theorem arr_set {ws : List UInt32} (x : UInt32) (h : ws.length < 80) : (arr ws).setIfInBounds ws.length (.int .u32 (U x)) = arr (ws ++ [x]) := by
  unfold arr
  apply Array.ext'
  simp only [Array.toList_setIfInBounds, uv_append, List.length_append, List.length_cons, List.length_nil]
  obtain ⟨k, hk⟩ : ∃ k, 80 - ws.length = k + 1 := ⟨79 - ws.length, by omega⟩
  rw [hk, List.replicate_succ, List.set_append, if_neg (by rw [uv_length]; omega), uv_length, Nat.sub_self, List.set_cons_zero]
  rw [show 80 - (ws.length + (0 + 1)) = k from by omega]
  simp [uv]
set_option maxRecDepth 100000 in
theorem arr_full {ws : List UInt32} (h : ws.length = 80) : arr ws = (uv ws).toArray := by
  unfold arr
  rw [h]
  simp
set_option maxRecDepth 100000 in
theorem sched_length (m : List Int) : ∀ i, (sched m i).length = i
  | 0 => rfl
  | i + 1 => by simp [sched, sched_length m i]
set_option maxRecDepth 100000 in
theorem sched_succ (m : List Int) (i : Nat) : sched m (i + 1) = sched m i ++ [wstep m (sched m i) i] := rfl
set_option maxRecDepth 100000 in
theorem arr_size (ws : List UInt32) (h : ws.length ≤ 80) : (arr ws).size = 80 := by
  unfold arr
  simp [uv_length]
  omega

set_option maxRecDepth 100000 in
@[go_sem high] theorem zero80 (w : World) : (zeroValue 118).run Try.prog w = .ok (.agg (arr [])) w := by kernel_rfl
set_option maxRecDepth 100000 in
theorem size57 (w : World) : (sizeOf 114).run Try.prog w = .ok 1 w := by kernel_rfl
set_option maxRecDepth 100000 in
@[go_sem high] theorem idx80 (w : World) (g : Nat) (i : Int) (h0 : 0 ≤ i) (h1 : i < 80) : (Instr.indexAt 118 (.pointer (some ⟨g, 0, none⟩)) (.int .i64 i)).run Try.prog w = .ok (.pointer (some ⟨g, i.toNat, none⟩)) w := by
  have hu : Try.prog.underlying 118 = some (.array 80 114) := by kernel_rfl
  simp [Instr.indexAt, asIntOf, run_underlying hu, Instr.sureAddr, h0, h1, size57, add_plain]
def SchedPost (m : List Int) (w : World) (e : Ending) (w' : World) : Prop := e = .returned (.agg (uv (sched m 80)).toArray) ∧ Below w.heap.size w w'

set_option maxHeartbeats 1000000 in
set_option maxRecDepth 100000 in
theorem schedule_any (A : Option Addr) (c : Nat) (xs : List Int) (w : World) (h : RB w A 64 xs) (hnc : 64 ≤ c) :
    Calls Try.prog 58 #[.slice A 64 c] w (SchedPost xs w) := by
  go_enter Try.func58, Try.ntmps58
  go_wp2
  go_loopw [4, 5] (fun _ i wr => ∃ k : Nat, k ≤ 80 ∧ i = .int .i64 k ∧ Below w.heap.size w wr ∧ Blk wr w.heap.size 118 (arr []) ∧ Blk wr (w.heap.size + 1) 118 (arr (sched xs k))) (fun _ i _ => 80 - (intOf i).toNat)
  case atStart => exact ⟨0, by omega, rfl, ((Below.refl _ _).alloc (Nat.le_refl _) _).alloc (by simp) _, (Blk.new w _ _).alloc _, by have := Blk.new (w.alloc (.cells (arr []) 118)) 118 (arr []); rw [show (w.alloc (.cells (arr []) 118)).heap.size = w.heap.size + 1 from by simp] at this; exact this⟩
  case round =>
    obtain ⟨k, hk, rfl, hb, hB0, hB1⟩ := hrel
    have hlen := sched_length xs k
    by_cases h1 : k < 80
    · by_cases h2 : k < 16
      · have hcut := (h.below hb).cut (k := 4 * k) (c := c) (by omega) hnc
        have cz := hB1.cell k
        rw [arr_get_zero (by omega) h1] at cz
        have fz := hB1.frozen k
        have e4 : (4 : Int) * k ≤ 64 := by omega
        go_wp2_with (go_at_call 60; (with_reducible refine (word_any _ _ _ _ _ hcut (by omega)).mono ?_); rintro e w1 ⟨rfl, q, rfl⟩)
        go_roundw
        case rel =>
          refine ⟨k + 1, by omega, by go_num, (below_drewN hb q).setCell (p := ⟨w.heap.size + 1, k, none⟩) (by simp) _, (hB0.drewN q).far (p := ⟨w.heap.size + 1, k, none⟩) (by simp) _, ?_⟩
          have hs := (hB1.drewN q).set_ k (.int .u32 (U (wordAt (xs.drop (4 * k)) 0)))
          have he : (arr (sched xs k)).setIfInBounds k (.int .u32 (U (wordAt (xs.drop (4 * k)) 0))) = arr (sched xs (k + 1)) := by
            have he := arr_set (wordAt (xs.drop (4 * k)) 0) (ws := sched xs k) (by omega)
            rw [hlen] at he
            rw [he, show wordAt (xs.drop (4 * k)) 0 = wstep xs (sched xs k) k from by unfold wstep wordAt; rw [if_pos h2]; simp only [gi_drop, Nat.add_zero], ← sched_succ]
          rw [he] at hs
          exact hs
        case measure => simp [intOf]; omega
      · have cz := hB1.cell k
        rw [arr_get_zero (by omega) h1] at cz
        have fz := hB1.frozen k
        have c3 := hB1.cell (k - 3)
        have c8 := hB1.cell (k - 8)
        have c14 := hB1.cell (k - 14)
        have c16 := hB1.cell (k - 16)
        rw [arr_get (by omega)] at c3 c8 c14 c16
        have b1 : (0 : Int) ≤ (k : Int) - 3 := by omega
        have b2 : (0 : Int) ≤ (k : Int) - 8 := by omega
        have b3 : (0 : Int) ≤ (k : Int) - 14 := by omega
        have b4 : (0 : Int) ≤ (k : Int) - 16 := by omega
        have b5 : (k : Int) - 3 < 80 := by omega
        have b6 : (k : Int) - 8 < 80 := by omega
        have b7 : (k : Int) - 14 < 80 := by omega
        have b8 : (k : Int) - 16 < 80 := by omega
        have d1 : (3 : Int) ≤ k := by omega
        have d2 : (8 : Int) ≤ k := by omega
        have d3 : (14 : Int) ≤ k := by omega
        have d4 : (16 : Int) ≤ k := by omega
        have d5 : (k : Int) < 80 := by omega
        have d6 : (0 : Int) ≤ k := by omega
        go_wp2
        have w3 : IntKind.i64.wrap ((k : Int) - 3) = (k : Int) - 3 := IntWalk.i64_in _ (by omega)
        have w8 : IntKind.i64.wrap ((k : Int) - 8) = (k : Int) - 8 := IntWalk.i64_in _ (by omega)
        have w14 : IntKind.i64.wrap ((k : Int) - 14) = (k : Int) - 14 := IntWalk.i64_in _ (by omega)
        have w16 : IntKind.i64.wrap ((k : Int) - 16) = (k : Int) - 16 := IntWalk.i64_in _ (by omega)
        have n3 : ((k : Int) - 3).toNat = k - 3 := by omega
        have n8 : ((k : Int) - 8).toNat = k - 8 := by omega
        have n14 : ((k : Int) - 14).toNat = k - 14 := by omega
        have n16 : ((k : Int) - 16).toNat = k - 16 := by omega
        refine still_tail 22 (by kernel_rfl) (by kernel_rfl) ?_
        simp only [List.take_succ_cons, List.take_zero, List.drop_succ_cons, List.drop_zero]
        repeat still_step
        still_call (still_of (rot1 _ _))
        repeat still_step
        refine wpStill_nil ?_
        go_wp2
        go_roundw
        case rel =>
          refine ⟨k + 1, by omega, by go_num, (below_drewN (hb.setCell (p := ⟨w.heap.size + 1, k, none⟩) (by simp) _) 1), (hB0.far (p := ⟨w.heap.size + 1, k, none⟩) (by simp) _).drewN 1, ?_⟩
          have hs := (hB1.set_ k (.int .u32 (U (rotl (wi (sched xs k) (k - 3) ^^^ wi (sched xs k) (k - 8) ^^^ wi (sched xs k) (k - 14) ^^^ wi (sched xs k) (k - 16)) 1)))).drewN 1
          have he : (arr (sched xs k)).setIfInBounds k (.int .u32 (U (rotl (wi (sched xs k) (k - 3) ^^^ wi (sched xs k) (k - 8) ^^^ wi (sched xs k) (k - 14) ^^^ wi (sched xs k) (k - 16)) 1))) = arr (sched xs (k + 1)) := by
            have he := arr_set (wstep xs (sched xs k) k) (ws := sched xs k) (by omega)
            rw [hlen, ← sched_succ] at he
            rw [← he]
            unfold wstep
            rw [if_neg h2]
          rw [he] at hs
          exact hs
        case measure => simp [intOf]; omega
    · obtain rfl : k = 80 := by omega
      have hz : (Try.prog.info? 118).map (·.size) = some (arr (sched xs 80)).size := by rw [arr_size _ (by omega)]; kernel_rfl
      have hu : Try.prog.underlying 118 = some (.array 80 114) := by kernel_rfl
      have h1c : (arr (sched xs 80)).all (·.oneCell') = true := by
        rw [arr_full hlen]
        simp [uv, Value.oneCell']
      have hfull := arr_full hlen
      have hs80 : (arr []).size = (arr (sched xs 80)).size := (arr_size [] (Nat.zero_le _)).trans (arr_size _ (by omega)).symm
      generalize arr (sched xs 80) = C at *
      go_wp2_with (first
        | ((with_reducible refine ld_row 118 3 (w.heap.size + 1) _ C _ ?_ hB1 hu ?_ hz ?_); rfl; rfl)
        | ((with_reducible refine st_row 118 2 40 w.heap.size _ C _ ?_ ?_ hB0 hz ?_ h1c ?_); rfl; rfl; exact hs80; intro w2 hb2 hg2 hsz2))
      refine ret_row 2 118 w.heap.size _ C _ rfl rfl hb2 hu rfl hz rfl ⟨by rw [hfull], ?_⟩
      exact hb.grown hg2 hb.size fun k hk => by cases hk; exact Nat.le_refl _
end Go.Proofs.Ytokamaogognjoaa
