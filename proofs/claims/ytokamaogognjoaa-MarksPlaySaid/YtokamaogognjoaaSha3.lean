/-
  SHA-1: what a block does to a state ('mixed').
-/
import Derived.Test.YtokamaogognjoaaSha2
set_option linter.unusedVariables false
set_option linter.unusedSimpArgs false
namespace Go.Proofs.Ytokamaogognjoaa
open Go.RowKit

/-- a state as cells. -/
def c5 (h : H5) : Array Value := #[.int .u32 (U h.a), .int .u32 (U h.b), .int .u32 (U h.c), .int .u32 (U h.d), .int .u32 (U h.e)]
set_option maxRecDepth 100000 in
theorem c5_size (h : H5) : (c5 h).size = 5 := rfl
set_option maxRecDepth 100000 in
@[go_sem high] theorem zero5 (w : World) : (zeroValue 115).run Try.prog w = .ok (.agg #[.int .u32 0, .int .u32 0, .int .u32 0, .int .u32 0, .int .u32 0]) w := by kernel_rfl
set_option maxRecDepth 100000 in
@[go_sem high] theorem idx5 (w : World) (g : Nat) (i : Int) (h0 : 0 ≤ i) (h1 : i < 5) : (Instr.indexAt 115 (.pointer (some ⟨g, 0, none⟩)) (.int .i64 i)).run Try.prog w = .ok (.pointer (some ⟨g, i.toNat, none⟩)) w := by
  have hu : Try.prog.underlying 115 = some (.array 5 114) := by kernel_rfl
  simp [Instr.indexAt, asIntOf, run_underlying hu, Instr.sureAddr, h0, h1, size57, add_plain]
set_option maxRecDepth 100000 in
theorem index80 (ws : List UInt32) (hl : ws.length = 80) (w : World) (i : Nat) (h1 : i < 80) : (Instr.index 118 (.agg (uv ws).toArray) (.int .i64 i)).run Try.prog w = .ok (.int .u32 (U (wi ws i))) w := by
  have hu : Try.prog.underlying 118 = some (.array 80 114) := by kernel_rfl
  have hc := uv_get (ws := ws) (i := i) (by omega)
  have ha : ∀ w, (isAgg 114).run Try.prog w = .ok false w := fun w => by kernel_rfl
  have hl : (i : Int) < 80 := by omega
  simp only [Instr.index, asIntOf, Sem.run_bind, run_underlying hu, Result.andThen_ok, Sem.run_pure, size57, part, ha]
  rw [if_pos ⟨by omega, hl⟩]
  simp [size57, part, ha, hc]
set_option maxRecDepth 100000 in
@[go_sem] theorem wrap_k0 (x : UInt32) : IntKind.u32.wrap (U x + 1518500249) = U (x + 1518500249) := wrap_add_U x 1518500249
set_option maxRecDepth 100000 in
@[go_sem] theorem wrap_k1 (x : UInt32) : IntKind.u32.wrap (U x + 1859775393) = U (x + 1859775393) := wrap_add_U x 1859775393
set_option maxRecDepth 100000 in
@[go_sem] theorem wrap_k2 (x : UInt32) : IntKind.u32.wrap (U x + 2400959708) = U (x + 2400959708) := wrap_add_U x 2400959708
set_option maxRecDepth 100000 in
@[go_sem] theorem wrap_k3 (x : UInt32) : IntKind.u32.wrap (U x + 3395469782) = U (x + 3395469782) := wrap_add_U x 3395469782
set_option maxRecDepth 100000 in
theorem c5_all (h : H5) : (c5 h).all (·.oneCell') = true := by simp [c5, Value.oneCell']

set_option maxRecDepth 100000 in
theorem round1_0 {k : Nat} (q : k < 20) (x : UInt32) (s : H5) : round1 x k s = ⟨rotl s.a 5 + (s.b &&& s.c ||| ~~~s.b &&& s.d) + s.e + 1518500249 + x, s.a, rotl s.b 30, s.c, s.d⟩ := by
  cases s; simp only [round1, fOf, kOf]; rw [if_pos q, if_pos q]
set_option maxRecDepth 100000 in
theorem round1_1 {k : Nat} (q0 : ¬ k < 20) (q : k < 40) (x : UInt32) (s : H5) : round1 x k s = ⟨rotl s.a 5 + (s.b ^^^ s.c ^^^ s.d) + s.e + 1859775393 + x, s.a, rotl s.b 30, s.c, s.d⟩ := by
  cases s; simp only [round1, fOf, kOf]; rw [if_neg q0, if_neg q0, if_pos q, if_pos q]
set_option maxRecDepth 100000 in
theorem round1_2 {k : Nat} (q0 : ¬ k < 20) (q1 : ¬ k < 40) (q : k < 60) (x : UInt32) (s : H5) : round1 x k s = ⟨rotl s.a 5 + (s.b &&& s.c ||| s.b &&& s.d ||| s.c &&& s.d) + s.e + 2400959708 + x, s.a, rotl s.b 30, s.c, s.d⟩ := by
  cases s; simp only [round1, fOf, kOf]; rw [if_neg q0, if_neg q0, if_neg q1, if_neg q1, if_pos q, if_pos q]
set_option maxRecDepth 100000 in
theorem round1_3 {k : Nat} (q0 : ¬ k < 20) (q1 : ¬ k < 40) (q : ¬ k < 60) (x : UInt32) (s : H5) : round1 x k s = ⟨rotl s.a 5 + (s.b ^^^ s.c ^^^ s.d) + s.e + 3395469782 + x, s.a, rotl s.b 30, s.c, s.d⟩ := by
  cases s; simp only [round1, fOf, kOf]; rw [if_neg q0, if_neg q0, if_neg q1, if_neg q1, if_neg q, if_neg q]
set_option maxRecDepth 100000 in
theorem set5_below {w w' : World} {B g : Nat} (h : Below B w w') (hg : B ≤ g) (n : Nat) (a b c d e : Value) : Below B w (World.setCell (World.setCell (World.setCell (World.setCell (World.setCell (w'.drewN n) ⟨g, 0, none⟩ a) ⟨g, 1, none⟩ b) ⟨g, 2, none⟩ c) ⟨g, 3, none⟩ d) ⟨g, 4, none⟩ e) :=
  (((((below_drewN h n).setCell (p := ⟨g, 0, none⟩) hg _).setCell (p := ⟨g, 1, none⟩) hg _).setCell (p := ⟨g, 2, none⟩) hg _).setCell (p := ⟨g, 3, none⟩) hg _).setCell (p := ⟨g, 4, none⟩) hg _
set_option maxRecDepth 100000 in
theorem set5_far {w : World} {g g' : Nat} {t : TypeId} {cs : Array Value} (h : Blk w g' t cs) (hg : g' ≠ g) (n : Nat) (a b c d e : Value) : Blk (World.setCell (World.setCell (World.setCell (World.setCell (World.setCell (w.drewN n) ⟨g, 0, none⟩ a) ⟨g, 1, none⟩ b) ⟨g, 2, none⟩ c) ⟨g, 3, none⟩ d) ⟨g, 4, none⟩ e) g' t cs :=
  (((((h.drewN n).far (p := ⟨g, 0, none⟩) hg _).far (p := ⟨g, 1, none⟩) hg _).far (p := ⟨g, 2, none⟩) hg _).far (p := ⟨g, 3, none⟩) hg _).far (p := ⟨g, 4, none⟩) hg _
set_option maxRecDepth 100000 in
theorem set5 {w : World} {g : Nat} {t : TypeId} {s : H5} (h : Blk w g t (c5 s)) (n : Nat) (r : H5) : Blk (World.setCell (World.setCell (World.setCell (World.setCell (World.setCell (w.drewN n) ⟨g, 0, none⟩ (.int .u32 (U r.a))) ⟨g, 1, none⟩ (.int .u32 (U r.b))) ⟨g, 2, none⟩ (.int .u32 (U r.c))) ⟨g, 3, none⟩ (.int .u32 (U r.d))) ⟨g, 4, none⟩ (.int .u32 (U r.e))) g t (c5 r) :=
  (((((h.drewN n).set_ 0 _).set_ 1 _).set_ 2 _).set_ 3 _).set_ 4 _

def addK (h s : H5) : Nat → H5
  | 0 => h
  | 1 => ⟨h.a + s.a, h.b, h.c, h.d, h.e⟩
  | 2 => ⟨h.a + s.a, h.b + s.b, h.c, h.d, h.e⟩
  | 3 => ⟨h.a + s.a, h.b + s.b, h.c + s.c, h.d, h.e⟩
  | 4 => ⟨h.a + s.a, h.b + s.b, h.c + s.c, h.d + s.d, h.e⟩
  | _ => ⟨h.a + s.a, h.b + s.b, h.c + s.c, h.d + s.d, h.e + s.e⟩
set_option maxRecDepth 100000 in
theorem addK_step (h s : H5) (k : Nat) (hk : k < 5) : ∃ x y, (c5 (addK h s k))[k]? = some (.int .u32 (U x)) ∧ (c5 s)[k]? = some (.int .u32 (U y)) ∧ (c5 (addK h s k)).setIfInBounds k (.int .u32 (U (x + y))) = c5 (addK h s (k + 1)) := by
  match k, hk with
  | 0, _ => exact ⟨h.a, s.a, rfl, rfl, rfl⟩
  | 1, _ => exact ⟨h.b, s.b, rfl, rfl, rfl⟩
  | 2, _ => exact ⟨h.c, s.c, rfl, rfl, rfl⟩
  | 3, _ => exact ⟨h.d, s.d, rfl, rfl, rfl⟩
  | 4, _ => exact ⟨h.e, s.e, rfl, rfl, rfl⟩
  | n + 5, hk => omega

set_option maxRecDepth 100000 in
theorem addK_5 (h s : H5) : addK h s 5 = addH h s := by cases h; cases s; rfl

def MixPost (h : H5) (w : World) (e : Ending) (w' : World) : Prop := e = .returned (.agg (c5 h)) ∧ Below w.heap.size w w'

set_option maxRecDepth 100000 in
set_option maxHeartbeats 2000000 in
theorem mixed_any (h : H5) (A : Option Addr) (c : Nat) (xs : List Int) (w : World) (hx : RB w A 64 xs) (hnc : 64 ≤ c) :
    Calls Try.prog 56 #[.agg #[.int .u32 (U h.a), .int .u32 (U h.b), .int .u32 (U h.c), .int .u32 (U h.d), .int .u32 (U h.e)], .slice A 64 c] w (MixPost (mixedH h xs) w) := by
  have hm : mixedH h xs = addH h (rounds (sched xs 80) h 80) := rfl
  rw [hm]
  clear hm
  go_enter Try.func56, Try.ntmps56
  go_wp2_with (go_at_call 58; (with_reducible refine (schedule_any _ _ _ _ (hx.below (((((Below.refl _ _).alloc (Nat.le_refl _) _).alloc (by simp) _).alloc (by simp; omega) _))) hnc).mono ?_); rintro e w1 ⟨rfl, hb1⟩)
  have hl := sched_length xs 80
  have hix := index80 (sched xs 80) hl
  generalize sched xs 80 = ws at *
  have hB : Below w.heap.size w w1 := below_two (((((Below.refl _ _).alloc (Nat.le_refl _) _).alloc (by simp) _).alloc (by simp; omega) _)) hb1
  have e0 : Blk w1 w.heap.size 115 (c5 h) := (((Blk.new w _ (c5 h)).alloc _).alloc _).below hb1 (by simp; omega)
  have e1 : Blk w1 (w.heap.size + 1) 115 (c5 ⟨0, 0, 0, 0, 0⟩) := by
    have := ((Blk.new (w.alloc (.cells (c5 h) 115)) 115 (c5 ⟨0, 0, 0, 0, 0⟩)).alloc (.cells (c5 h) 115)).below hb1 (by simp)
    simpa using this
  have e2 : Blk w1 (w.heap.size + 1 + 1) 115 (c5 h) := by
    have := (Blk.new ((w.alloc (.cells (c5 h) 115)).alloc (.cells (c5 ⟨0, 0, 0, 0, 0⟩) 115)) 115 (c5 h)).below hb1 (by simp)
    simpa using this
  clear hb1
  go_loopw [15] (fun i wr => ∃ k : Nat, k ≤ 80 ∧ i = .int .i64 k ∧ Below w.heap.size w wr ∧ Blk wr w.heap.size 115 (c5 h) ∧ Blk wr (w.heap.size + 1) 115 (c5 ⟨0, 0, 0, 0, 0⟩) ∧ Blk wr (w.heap.size + 1 + 1) 115 (c5 (rounds ws h k))) (fun i _ => 80 - (intOf i).toNat)
  case atStart => exact ⟨0, by omega, rfl, hB, e0, e1, e2⟩
  case round =>
    obtain ⟨k, hk, rfl, hb, hB0, hB1, hB2⟩ := hrel
    by_cases h1 : k < 80
    · have hix' := fun w => hix w k h1
      clear hix
      have hr : rounds ws h (k + 1) = round1 (wi ws k) k (rounds ws h k) := rfl
      generalize rounds ws h k = s at *
      have c0 : wr.cell? ⟨w.heap.size + 1 + 1, 0, none⟩ = some (.int .u32 (U s.a)) := hB2.cell 0
      have c1 : wr.cell? ⟨w.heap.size + 1 + 1, 1, none⟩ = some (.int .u32 (U s.b)) := hB2.cell 1
      have c2 : wr.cell? ⟨w.heap.size + 1 + 1, 2, none⟩ = some (.int .u32 (U s.c)) := hB2.cell 2
      have c3 : wr.cell? ⟨w.heap.size + 1 + 1, 3, none⟩ = some (.int .u32 (U s.d)) := hB2.cell 3
      have c4 : wr.cell? ⟨w.heap.size + 1 + 1, 4, none⟩ = some (.int .u32 (U s.e)) := hB2.cell 4
      have hz : (Try.prog.info? 115).map (·.size) = some (c5 s).size := by kernel_rfl
      have bz : (if k < 20 then ((k : Int) / 20 == 0) = true else if k < 40 then ((k : Int) / 20 == 0) = false ∧ ((k : Int) / 20 == 1) = true else if k < 60 then ((k : Int) / 20 == 0) = false ∧ ((k : Int) / 20 == 1) = false ∧ ((k : Int) / 20 == 2) = true else ((k : Int) / 20 == 0) = false ∧ ((k : Int) / 20 == 1) = false ∧ ((k : Int) / 20 == 2) = false) := by
        split
        · exact beq_iff_eq.2 (by omega)
        · split
          · exact ⟨beq_eq_false_iff_ne.2 (by omega), beq_iff_eq.2 (by omega)⟩
          · split
            · exact ⟨beq_eq_false_iff_ne.2 (by omega), beq_eq_false_iff_ne.2 (by omega), beq_iff_eq.2 (by omega)⟩
            · exact ⟨beq_eq_false_iff_ne.2 (by omega), beq_eq_false_iff_ne.2 (by omega), beq_eq_false_iff_ne.2 (by omega)⟩
      have HR := Lib.hid hr
      clear hr
      have f0 := hB2.frozen 0
      have f1 := hB2.frozen 1
      have f2 := hB2.frozen 2
      have f3 := hB2.frozen 3
      have f4 := hB2.frozen 4
      by_cases q0 : k < 20
      · rw [if_pos q0] at bz
        have hq := round1_0 q0 (wi ws k) s
        rw [← HR.out] at hq
        have HQ := Lib.hid hq
        clear hq HR
        go_wp2
        go_quiet ((go_at_call 59; exact quiet_left (rot5 _ _)))
        go_wp2
        refine still_tail 11 (by kernel_rfl) (by kernel_rfl) ?_
        simp only [List.take_succ_cons, List.take_zero, List.drop_succ_cons, List.drop_zero]
        repeat still_step
        still_call (still_of (rot30 _ _))
        repeat still_step
        refine wpStill_nil ?_
        go_wp2
        go_roundw
        case rel =>
          refine ⟨k + 1, by omega, by go_num, set5_below hb (by omega) _ _ _ _ _ _, set5_far hB0 (by omega) _ _ _ _ _ _, set5_far hB1 (by omega) _ _ _ _ _ _, ?_⟩
          rw [HQ.out]
          exact set5 hB2 _ ⟨_, _, _, _, _⟩
        case measure => simp [intOf]; omega
      · rw [if_neg q0] at bz
        by_cases q1 : k < 40
        · rw [if_pos q1] at bz
          obtain ⟨bz0, bz1⟩ := bz
          have hq := round1_1 q0 q1 (wi ws k) s
          rw [← HR.out] at hq
          have HQ := Lib.hid hq
          clear hq HR
          go_wp2
          go_quiet ((go_at_call 59; exact quiet_left (rot5 _ _)))
          go_wp2
          refine still_tail 11 (by kernel_rfl) (by kernel_rfl) ?_
          simp only [List.take_succ_cons, List.take_zero, List.drop_succ_cons, List.drop_zero]
          repeat still_step
          still_call (still_of (rot30 _ _))
          repeat still_step
          refine wpStill_nil ?_
          go_wp2
          go_roundw
          case rel =>
            refine ⟨k + 1, by omega, by go_num, set5_below hb (by omega) _ _ _ _ _ _, set5_far hB0 (by omega) _ _ _ _ _ _, set5_far hB1 (by omega) _ _ _ _ _ _, ?_⟩
            rw [HQ.out]
            exact set5 hB2 _ ⟨_, _, _, _, _⟩
          case measure => simp [intOf]; omega
        · rw [if_neg q1] at bz
          by_cases q2 : k < 60
          · rw [if_pos q2] at bz
            obtain ⟨bz0, bz1, bz2⟩ := bz
            have hq := round1_2 q0 q1 q2 (wi ws k) s
            rw [← HR.out] at hq
            have HQ := Lib.hid hq
            clear hq HR
            go_wp2
            go_quiet ((go_at_call 59; exact quiet_left (rot5 _ _)))
            go_wp2
            refine still_tail 11 (by kernel_rfl) (by kernel_rfl) ?_
            simp only [List.take_succ_cons, List.take_zero, List.drop_succ_cons, List.drop_zero]
            repeat still_step
            still_call (still_of (rot30 _ _))
            repeat still_step
            refine wpStill_nil ?_
            go_wp2
            go_roundw
            case rel =>
              refine ⟨k + 1, by omega, by go_num, set5_below hb (by omega) _ _ _ _ _ _, set5_far hB0 (by omega) _ _ _ _ _ _, set5_far hB1 (by omega) _ _ _ _ _ _, ?_⟩
              rw [HQ.out]
              exact set5 hB2 _ ⟨_, _, _, _, _⟩
            case measure => simp [intOf]; omega
          · rw [if_neg q2] at bz
            obtain ⟨bz0, bz1, bz2⟩ := bz
            have hq := round1_3 q0 q1 q2 (wi ws k) s
            rw [← HR.out] at hq
            have HQ := Lib.hid hq
            clear hq HR
            go_wp2
            go_quiet ((go_at_call 59; exact quiet_left (rot5 _ _)))
            go_wp2
            refine still_tail 11 (by kernel_rfl) (by kernel_rfl) ?_
            simp only [List.take_succ_cons, List.take_zero, List.drop_succ_cons, List.drop_zero]
            repeat still_step
            still_call (still_of (rot30 _ _))
            repeat still_step
            refine wpStill_nil ?_
            go_wp2
            go_roundw
            case rel =>
              refine ⟨k + 1, by omega, by go_num, set5_below hb (by omega) _ _ _ _ _ _, set5_far hB0 (by omega) _ _ _ _ _ _, set5_far hB1 (by omega) _ _ _ _ _ _, ?_⟩
              rw [HQ.out]
              exact set5 hB2 _ ⟨_, _, _, _, _⟩
            case measure => simp [intOf]; omega
    · have hk80 : k = 80 := by omega
      rw [hk80] at hB2
      clear hix hk80
      generalize rounds ws h 80 = s at *
      go_wp2
      go_loopw [96] (fun i wr => ∃ k : Nat, k ≤ 5 ∧ i = .int .i64 k ∧ Below w.heap.size w wr ∧ Blk wr w.heap.size 115 (c5 (addK h s k)) ∧ Blk wr (w.heap.size + 1) 115 (c5 ⟨0, 0, 0, 0, 0⟩) ∧ Blk wr (w.heap.size + 1 + 1) 115 (c5 s)) (fun i _ => 5 - (intOf i).toNat)
      case atStart => exact ⟨0, by omega, rfl, hb, hB0, hB1, hB2⟩
      case round =>
        obtain ⟨k, hk, rfl, hb, hB0, hB1, hB2⟩ := hrel
        by_cases h1 : k < 5
        · obtain ⟨x, y, hx1, hy1, hs⟩ := addK_step h s k h1
          have c0 := hB0.cell k
          have c2 := hB2.cell k
          have f0 := hB0.frozen k
          rw [hx1] at c0
          rw [hy1] at c2
          have HS := Lib.hid hs
          clear hs
          go_wp2
          refine still_tail 7 (by kernel_rfl) (by kernel_rfl) ?_
          simp only [List.take_succ_cons, List.take_zero, List.drop_succ_cons, List.drop_zero]
          repeat still_step
          refine wpStill_nil ?_
          go_wp2
          go_roundw
          case rel =>
            refine ⟨k + 1, by omega, by go_num, (below_drewN (hb.setCell (p := ⟨w.heap.size, k, none⟩) (Nat.le_refl _) _) _), ?_, (hB1.far (p := ⟨w.heap.size, k, none⟩) (by simp) _), (hB2.far (p := ⟨w.heap.size, k, none⟩) (by simp; omega) _)⟩
            rw [← HS.out]
            exact hB0.set_ k _
          case measure => simp [intOf]; omega
        · obtain rfl : k = 5 := by omega
          have hz : (Try.prog.info? 115).map (·.size) = some (c5 (addK h s 5)).size := by rw [c5_size]; kernel_rfl
          have hu : Try.prog.underlying 115 = some (.array 5 114) := by kernel_rfl
          have h1c := c5_all (addK h s 5)
          have hfull : c5 (addK h s 5) = c5 (addH h s) := by rw [addK_5]
          have hs5 : (c5 ⟨0, 0, 0, 0, 0⟩).size = (c5 (addK h s 5)).size := by rw [c5_size, c5_size]
          generalize c5 (addK h s 5) = C at *
          go_wp2_with (first
            | ((with_reducible refine ld_row 115 2 w.heap.size _ C _ ?_ hB0 hu ?_ hz ?_); rfl; rfl)
            | ((with_reducible refine st_row 115 4 108 (w.heap.size + 1) _ C _ ?_ ?_ hB1 hz ?_ h1c ?_); rfl; rfl; exact hs5; intro w2 hb2 hg2 hsz2))
          refine ret_row 4 115 (w.heap.size + 1) _ C _ rfl rfl hb2 hu rfl hz rfl ⟨by rw [hfull], ?_⟩
          exact hb.grown hg2 hb.size fun k hk => by cases hk; omega
end Go.Proofs.Ytokamaogognjoaa
