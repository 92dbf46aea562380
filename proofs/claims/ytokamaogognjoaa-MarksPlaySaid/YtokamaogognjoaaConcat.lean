/-
  'slices.Grow' at the nil slice, 'slices.Concat' of bytes.
-/
import Derived.Test.YtokamaogognjoaaBytesB
import Derived.Lib.AppendZeros
set_option linter.unusedVariables false
set_option linter.unusedSimpArgs false
namespace Go.Proofs.Ytokamaogognjoaa
open Go.RowKit

/-- a slice of slices of bytes, read. -/
def RBs (w : World) (A : Option Addr) (k : Nat) (ps : List (List Int)) : Prop :=
  ps.length = k ∧ ∃ b off, (0 < k → A = some ⟨b, off, none⟩) ∧ ∀ i, i < k → ∃ Ai ci, w.cell? ⟨b, off + i, none⟩ = some (.slice Ai (ps.getD i []).length ci) ∧ (ps.getD i []).length ≤ ci ∧ RB w Ai (ps.getD i []).length (ps.getD i [])

set_option maxRecDepth 100000 in
theorem RBs.below {w w' : World} {A : Option Addr} {k : Nat} {ps : List (List Int)} (h : RBs w A k ps) (hb : Below w.heap.size w w') : RBs w' A k ps := by
  obtain ⟨h1, b, off, h2, h3⟩ := h
  refine ⟨h1, b, off, h2, fun i hi => ?_⟩
  obtain ⟨Ai, ci, h4, h5, h6⟩ := h3 i hi
  exact ⟨Ai, ci, (hb.cell (World.block_lt_of_cell? _ _ h4)).trans h4, h5, h6.below hb⟩

def joined (ps : List (List Int)) (i : Nat) : List Int := (ps.take i).flatten
set_option maxRecDepth 100000 in
theorem joined_zero (ps : List (List Int)) : joined ps 0 = [] := rfl
set_option maxRecDepth 100000 in
theorem joined_succ {ps : List (List Int)} {i : Nat} (hi : i < ps.length) : joined ps (i + 1) = joined ps i ++ ps.getD i [] := by
  unfold joined
  rw [List.take_succ_eq_append_getElem hi, List.flatten_append, List.getD_eq_getElem?_getD, List.getElem?_eq_getElem hi]
  simp
set_option maxRecDepth 100000 in
theorem joined_all {ps : List (List Int)} : joined ps ps.length = ps.flatten := by unfold joined; rw [List.take_length]
set_option maxRecDepth 100000 in
theorem joined_le (ps : List (List Int)) (i : Nat) : (joined ps i).length ≤ ps.flatten.length := by
  have : ps.flatten = (ps.take i).flatten ++ (ps.drop i).flatten := by rw [← List.flatten_append, List.take_append_drop]
  unfold joined
  rw [this, List.length_append]
  omega

def GrowPost (w : World) (e : Ending) (w' : World) : Prop := ∃ v, e = .returned v ∧ OB w' w.heap.size v 0 [] ∧ Below w.heap.size w w'
set_option maxRecDepth 100000 in
set_option maxHeartbeats 2000000 in
theorem grow_any (n : Nat) (hn : n ≤ 1000000000) (w : World) : Calls Try.prog 52 #[.slice none 0 0, .int .i64 n] w (GrowPost w) := by
  obtain ⟨i0, hi, hz0, hz1, hz2⟩ := info_parts byteInfo
  rcases Nat.eq_zero_or_pos n with h0 | h0
  · subst h0
    go_enter Try.func52, Try.ntmps52
    go_wp2
    go_ret
    exact ⟨_, rfl, OB.nil _ _, Below.refl _ _⟩
  · have happ := Lib.run_append_nil_zeros (P := Try.prog) w 36 3 36 5 i0 (.int .u8 0) .i64 .i64 Try.underlying36 Try.underlying3 hi hz0 n h0 (by omega) (by omega) (by rw [hz2]; omega)
    have hc : n ≤ grownCap w n 0 5 ∧ grownCap w n 0 5 ≤ maxLen := ⟨grownCap_ge w n 0 5, grownCap_le_maxLen w n 0 5 (by simp only [maxLen]; omega)⟩
    have hB0 := (Blk.new w 5 (Builtin.zeroCells (Value.int .u8 0).cells n ++ Builtin.zeroCells (Value.int .u8 0).cells (grownCap w n 0 5 - n))).drew
    have hsz : (Builtin.zeroCells (Value.int .u8 0).cells n ++ Builtin.zeroCells (Value.int .u8 0).cells (grownCap w n 0 5 - n)).size = grownCap w n 0 5 := by
      simp [Builtin.zeroCells, Value.cells]
      omega
    generalize Builtin.zeroCells (Value.int .u8 0).cells n ++ Builtin.zeroCells (Value.int .u8 0).cells (grownCap w n 0 5 - n) = C at *
    generalize grownCap w n 0 5 = cap at *
    have hb : Below w.heap.size w (w.drew.alloc (.cells C 5)) := ((drewN_below w 1).alloc (by simp) _)
    have hn0 : ¬ ((n : Int) < 0) := by omega
    go_enter Try.func52, Try.ntmps52
    go_wp2_with (at_builtin; refine Lib.wpList_append_run _ rfl _ _ _ _ rfl _ _ rfl rfl _ _ happ ?_)
    go_ret
    exact ⟨_, rfl, OB.of_blk (by simp) hB0 (Nat.zero_le _) hc.2 hsz (by simp [bv]) Byts.nil, hb⟩

set_option maxRecDepth 100000 in
set_option maxHeartbeats 2000000 in
theorem concat_any (A : Option Addr) (k c : Nat) (ps : List (List Int)) (w : World) (h : RBs w A k ps) (hkc : k ≤ c) (hk : k ≤ 1000000000) (hbig : ps.flatten.length ≤ 1000000000) :
    Calls Try.prog 44 #[.slice A k c] w (fun e w' => ∃ v n, e = .returned v ∧ OB w' w.heap.size v n ps.flatten ∧ Below w.heap.size w w') := by
  have hlen := h.1
  obtain ⟨b, off, hA, hcells⟩ := h.2
  have hA := hA
  go_enter Try.func44, Try.ntmps44
  go_wp2
  go_loopw [3, 11] (fun t i wr => w = wr ∧ ∃ j : Nat, j ≤ k ∧ i = .int .i64 j ∧ t = .int .i64 (joined ps j).length) (fun _ i _ => k - (intOf i).toNat)
  case atStart => exact ⟨rfl, 0, by omega, rfl, rfl⟩
  case round =>
    obtain ⟨rfl, j, hj, rfl, rfl⟩ := hrel
    by_cases h1 : j < k
    · obtain rfl := hA (by omega)
      obtain ⟨Ai, ci, hc, hle, hr⟩ := hcells j h1
      have hs := joined_succ (ps := ps) (i := j) (by omega)
      have hsl := joined_le ps (j + 1)
      rw [hs, List.length_append] at hsl
      generalize hxs : ps.getD j [] = xs at *
      have hn0 : ¬ (((joined ps j).length : Int) + (xs.length : Int) < 0) := by omega
      go_wp2
      go_roundw
      case rel => exact ⟨trivial, j + 1, by omega, by go_num, by rw [hs, List.length_append]; go_num⟩
      case measure => simp [intOf]; omega
    · obtain rfl : j = k := by omega
      have hfl : (joined ps j).length ≤ 1000000000 := Nat.le_trans (joined_le ps j) hbig
      go_wp2_with (go_at_call 52; (with_reducible refine (grow_any _ hfl _).mono ?_); rintro e w1 ⟨v, rfl, ho, hb⟩)
      go_loopw [6, 27] (fun v i wr => ∃ m : Nat, m ≤ j ∧ i = .int .i64 m ∧ OB wr w.heap.size v (joined ps m).length (joined ps m) ∧ Below w.heap.size w wr) (fun _ i _ => j - (intOf i).toNat)
      case atStart => exact ⟨0, by omega, rfl, ho, hb⟩
      case round =>
        obtain ⟨m, hm, rfl, hob, hbl⟩ := hrel
        by_cases h2 : m < j
        · obtain rfl := hA (by omega)
          obtain ⟨Ai, ci, hc, hle, hr⟩ := hcells m h2
          have hc := (hbl.cell (World.block_lt_of_cell? _ _ hc)).trans hc
          have hr := hr.below hbl
          have hs := joined_succ (ps := ps) (i := m) (by omega)
          have hsl := joined_le ps (m + 1)
          have hsl2 : (joined ps (m + 1)).length = (joined ps m).length + (ps.getD m []).length := by rw [hs, List.length_append]
          generalize hxs : ps.getD m [] = xs at *
          generalize joined ps m = ys at *
          go_wp2_with (at_builtin; refine wpList_app rfl (.tmp 31) (.tmp 32) rfl w.heap.size _ _ _ rfl hob Ai xs.length ci xs rfl hr ?c1 hbl.size ?_)
          case c1 => omega
          intro v' w' hown hg hat
          go_wp2
          go_roundw
          case rel => exact ⟨m + 1, by omega, by go_num, by rw [hsl2, hs]; exact hown, hbl.grown hg hbl.size (fun k hk => (hob.own k hk).1)⟩
          case measure => simp [intOf]; omega
        · obtain rfl : m = j := by omega
          go_wp2
          go_ret
          have := hob
          rw [show joined ps m = ps.flatten from by rw [← hlen]; exact joined_all] at this
          exact ⟨_, _, rfl, this, hbl⟩
end Go.Proofs.Ytokamaogognjoaa
