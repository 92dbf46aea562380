/-
  SHA-1: the document's 'trestleref02.Sum'.
-/
import Derived.Test.YtgokompppadogaaSha4
set_option linter.unusedVariables false
set_option linter.unusedSimpArgs false
namespace Go.Proofs.Ytgokompppadogaa
open Go.RowKit

/-- how the document's sum stands: the row of its own, the result's block, the state's block. -/
def RS (w : World) (v : Value) (m : Nat) (ys : List Int) (s : H5) (wr : World) : Prop :=
  OB wr (w.heap.size + 2) v m ys ∧ Blk wr w.heap.size 27 zid ∧ Blk wr (w.heap.size + 1) 75 (c5 s) ∧ Below w.heap.size w wr ∧ w.heap.size + 2 ≤ wr.heap.size
theorem RS.later {w wr w' : World} {v : Value} {m : Nat} {ys : List Int} {s : H5} (h : RS w v m ys s wr) (hb : Below wr.heap.size wr w') : RS w v m ys s w' := by
  have hs := h.2.2.2.2
  have hz := hb.size
  exact ⟨h.1.below hb, h.2.1.below hb (by omega), h.2.2.1.below hb (by omega), below_then h.2.2.2.1 (by omega) hb, by omega⟩
theorem RS.move {w wr w' : World} {v v' : Value} {m m' : Nat} {ys ys' : List Int} {s : H5} (h : RS w v m ys s wr) (ho : OB w' (w.heap.size + 2) v' m' ys') (hg : wr.grownBy w' v.ownBlock) : RS w v' m' ys' s w' := by
  have hz := hg.size
  have hs := h.2.2.2.2
  refine ⟨ho, h.2.1.grown hg (fun e => ?_), h.2.2.1.grown hg (fun e => ?_), h.2.2.2.1.grown hg (by omega) (fun k hk => ?_), by omega⟩
  · have := (h.1.own _ e.symm).1
    omega
  · have := (h.1.own _ e.symm).1
    omega
  · have := (h.1.own _ hk).1
    omega
theorem RS.app {w wr w' : World} {v v' : Value} {m : Nat} {ys : List Int} {b : Int} {s : H5} {o : Obj} (h : RS w v m ys s wr) (ho : OB w' (w.heap.size + 2) v' (m + 1) (ys ++ [b])) (hg : (wr.alloc o).grownBy w' v.ownBlock) : RS w v' (m + 1) (ys ++ [b]) s w' :=
  (h.later ((Below.refl _ _).alloc (Nat.le_refl _) o)).move ho hg
theorem RS.turn {w wr : World} {v : Value} {m : Nat} {ys : List Int} {s s' : H5} (h : RS w v m ys s wr) {i : Nat} {u : Value} (hb : Blk (wr.setCell ⟨w.heap.size + 1, i, none⟩ u) (w.heap.size + 1) 75 (c5 s')) : RS w v m ys s' (wr.setCell ⟨w.heap.size + 1, i, none⟩ u) := by
  have hs := h.2.2.2.2
  have hg : wr.grownBy (wr.setCell ⟨w.heap.size + 1, i, none⟩ u) (some (w.heap.size + 1)) := grown_setCell (World.grownBy.refl wr _) (.inl rfl) u
  refine ⟨h.1.kept hg ?_, h.2.1.far (by simp) _, hb, h.2.2.2.1.setCell (p := ⟨w.heap.size + 1, i, none⟩) (by simp) _, by simp; omega⟩
  cases e : v.ownBlock with
  | none => exact .inl rfl
  | some k =>
    refine .inr fun e' => ?_
    have := (h.1.own k e).1
    injection e' with e'
    omega

set_option maxRecDepth 100000 in
set_option maxHeartbeats 4000000 in
theorem refsum_any (A : Option Addr) (n c : Nat) (xs : List Int) (w : World) (hr : RB w A n xs) (hnc : n ≤ c) (hbig : n ≤ 1000000000) :
    Calls Try.prog 10 #[.slice A n c] w (SumPost xs w) := by
  have hn := hr.len
  have hmw : IntKind.u64.wrap (n : Int) = (n : Int) := IntWalk.u64_in _ (by omega)
  have hm8 : IntKind.u64.wrap ((n : Int) * 8) = (n : Int) * 8 := IntWalk.u64_in _ (by omega)
  have hpad : padded xs = xs ++ [128] ++ List.replicate (zerosOf n) 0 ++ lenBytes n := by rw [← hn]; rfl
  have hsha : sha1 xs = outBytes (mixTo (padded xs) ((padded xs).length / 64)) := rfl
  have hpl := padded_length xs
  have hp64 := padded_64 xs
  have hpB : Byts (padded xs) := padded_byts xs hr.byts
  rw [hn] at hpl
  generalize padded xs = pd at *
  rw [show SumPost xs w = OutPost (mixTo pd (pd.length / 64)) w from by funext e w'; unfold SumPost OutPost; rw [hsha]]
  clear hsha
  have hzl : zerosOf n < 64 := Nat.mod_lt _ (by omega)
  have hb1 : Blk (w.alloc (.cells zid 27)) w.heap.size 27 zid := Blk.new _ _ _
  have hb2 : Below w.heap.size w (w.alloc (.cells zid 27)) := (Below.refl _ _).alloc (Nat.le_refl _) _
  have hb3 := hb1.alloc (.cells (c5 initH) 75)
  have hb4 : Blk ((w.alloc (.cells zid 27)).alloc (.cells (c5 initH) 75)) (w.heap.size + 1) 75 (c5 initH) := by
    have := Blk.new (w.alloc (.cells zid 27)) 75 (c5 initH)
    simpa using this
  have hb5 := hb2.alloc (by simp) (.cells (c5 initH) 75)
  have hr5 := (hr.alloc (.cells zid 27)).alloc (.cells (c5 initH) 75)
  have hRS : RS w (.slice none 0 0) 0 [] initH ((w.alloc (.cells zid 27)).alloc (.cells (c5 initH) 75)) := ⟨OB.nil _ _, hb3, hb4, hb5, by simp⟩
  go_enter Try.func10, Try.ntmps10
  go_wp2_with (first
    | (at_builtin; refine wpList_app rfl (.const (.slice none 0 0)) (.tmp 20) rfl (w.heap.size + 2) _ 0 [] rfl (OB.nil _ _) A n c xs rfl hr5 (by omega) (by simp) ?_; intro v1 w2 ho1 hg1 hat1; rw [Nat.zero_add, List.nil_append] at ho1)
    | (at_builtin; refine wpList_app rfl (.tmp 21) (.tmp 22) rfl (w.heap.size + 2) _ _ _ rfl (ho1.alloc _) _ 1 1 [128] rfl (RB.lit_new _ _ rfl [128] 1 (0, 0) rfl (bytsOf _ rfl)) (by omega) (by have := hg1.size; simp at this; simp; omega) ?_))
  intro v3 w3 ho3 hg3 hat3
  have hst : RS w v3 (n + 1) (xs ++ [128]) initH w3 := (RS.move hRS ho1 hg1).app ho3 hg3
  clear ho3 hg3 hat3 ho1 hg1 hat1 hRS hb1 hb2 hb3 hb4 hb5 hr5 hr
  go_wp2
  go_loopw [4] (fun v wr => ∃ z : Nat, z ≤ zerosOf n ∧ RS w v (n + 1 + z) (xs ++ [128] ++ List.replicate z 0) initH wr) (fun v _ => n + 100 - lenV v)
  case atStart => exact ⟨0, by omega, by simpa using hst⟩
  case round =>
    obtain ⟨z, hz, hst⟩ := hrel
    obtain ⟨V', C', rfl, hcc⟩ := hst.1.slice
    by_cases h1 : z = zerosOf n
    · have hq : ((n + 1 + z : Nat) : Int) % 64 = 56 := by have := zeros_spec hz; omega
      have hpl2 : pd.length = n + 1 + z + 8 := by rw [hpl, h1]
      have hpad2 : pd = xs ++ [128] ++ List.replicate z 0 ++ lenBytes n := by rw [hpad, h1]
      have hm : n + 1 + z ≤ n + 100 := by omega
      clear hpad hpl hz h1 hzl
      generalize xs ++ [128] ++ List.replicate z 0 = ys at *
      generalize n + 1 + z = m at *
      have hq1 : ((m : Int) % 64 == 56) = true := beq_iff_eq.2 hq
      have hq2 : ((m : Int) % 64 != 56) = false := by rw [hq]; rfl
      go_wp2
      clear hq hq1 hq2
      go_loopw [4, 6] (fun v i wr => ∃ j : Nat, j ≤ 8 ∧ i = .int .i64 (7 - j) ∧ RS w v (m + j) (ys ++ (lenBytes n).take j) initH wr) (fun v i _ => (intOf i + 1).toNat)
      case atStart => exact ⟨0, by omega, rfl, by simpa using hst⟩
      case round =>
        obtain ⟨j, hj, rfl, hst⟩ := hrel
        obtain ⟨V', C', rfl, hcc⟩ := hst.1.slice
        by_cases h1 : j < 8
        · have hi0 : (0 : Int) ≤ 7 - j := by omega
          have hi1 : ¬ ((7 : Int) - j < 0) := by omega
          have hi2 : 8 * ((7 : Int) - j) < 64 := by omega
          have hi3 : (8 * ((7 : Int) - j)).toNat = 56 - 8 * j := by omega
          have hi6 : IntKind.u64.wrap (8 * ((7 : Int) - j)) = 8 * (7 - (j : Int)) := IntWalk.u64_in _ (by omega)
          have hi4 := lenBytes_take n j h1
          have hi5 : ys ++ (lenBytes n).take (j + 1) = ys ++ (lenBytes n).take j ++ [(n : Int) * 8 / 2 ^ (56 - 8 * j) % 256] := by rw [hi4, ← List.append_assoc]
          clear hi4
          generalize ys ++ (lenBytes n).take j = Y at *
          have hst2 := hst.2.2.2.2
          go_wp2_with (at_builtin; refine wpList_app rfl (.tmp 39) (.tmp 46) rfl (w.heap.size + 2) _ _ _ rfl (hst.1.alloc _) _ 1 1 [(n : Int) * 8 / 2 ^ (56 - 8 * j) % 256] rfl (RB.lit_new _ _ rfl [(n : Int) * 8 / 2 ^ (56 - 8 * j) % 256] 1 (0, 0) rfl (byt_mod _)) (by omega) (by simp; omega) ?_)
          intro v1 w2 ho1 hg1 hat1
          have hst' := hst.app ho1 hg1
          rw [← hi5] at hst'
          have hi6 : IntKind.i64.wrap (7 - (j : Int) - 1) = 7 - (j : Int) - 1 := IntWalk.i64_in _ (by omega)
          go_wp2
          go_roundw
          case rel => exact ⟨j + 1, by omega, by congr 1; omega, by rw [← Nat.add_assoc]; exact hst'⟩
          case measure => simp [intOf]; omega
        · have hj8 : j = 8 := by omega
          have hpd : ys ++ (lenBytes n).take j = pd := by rw [hj8, hpad2]; rfl
          have hmj : m + j = pd.length := by omega
          have hN : m + j ≤ n + 108 := by omega
          have hneg : ¬ ((0 : Int) ≤ 7 - (j : Int)) := by omega
          have hneg2 : (7 : Int) - (j : Int) < 0 := by omega
          rw [hpd] at hst
          rw [← hmj] at hp64
          clear hpd hpad2 hpl2 hm hj8 h1
          generalize m + j = N at *
          have HM := Lib.hid hmj
          clear hmj
          go_wp2
          go_loopw [7] (fun i wr => ∃ q : Nat, 64 * q ≤ N ∧ i = .int .i64 (64 * (q : Int)) ∧ RS w (.slice V' N C') N pd (mixTo pd q) wr) (fun i _ => N + 64 - (intOf i).toNat)
          case atStart => exact ⟨0, by omega, rfl, hst⟩
          case round =>
            obtain ⟨q, hq, rfl, hst⟩ := hrel
            have hsucc : mixTo pd (q + 1) = addH (mixTo pd q) (rounds (sched ((pd.drop (64 * q)).take 64) 80) (mixTo pd q) 80) := rfl
            by_cases h1 : 64 * q < N
            · have hq2 : 64 * q + 64 ≤ N := by omega
              have hq3 : 64 * (q : Int) < N := by omega
              have HS := Lib.hid hsucc
              clear hsucc
              generalize mixTo pd q = s at *
              obtain ⟨w0, rfl⟩ : ∃ x, x = wr := ⟨wr, rfl⟩
              obtain ⟨b, o, rfl, hcells⟩ := hst.1.reads.plain (by omega)
              have hms : ∀ i, i < 64 → gi ((pd.drop (64 * q)).take 64) i = gi pd (64 * q + i) := fun i hi => by rw [gi_take hi, gi_drop]
              generalize (pd.drop (64 * q)).take 64 = ms at *
              go_wp2
              go_loopw [9] (fun i wr => ∃ k : Nat, k ≤ 80 ∧ i = .int .i64 k ∧ Below w0.heap.size w0 wr ∧ Blk wr w0.heap.size 77 (arr (sched ms k))) (fun i _ => 80 - (intOf i).toNat)
              case atStart => exact ⟨0, by omega, rfl, (Below.refl _ _).alloc (Nat.le_refl _) _, Blk.new _ _ _⟩
              case round =>
                obtain ⟨k, hk, rfl, hb, hB1⟩ := hrel
                have hlen := sched_length ms k
                by_cases h2 : k < 80
                · by_cases h3 : k < 16
                  · have cz := hB1.cell k
                    rw [arr_get_zero (by omega) h2] at cz
                    have fz := hB1.frozen k
                    have cc : ∀ i, i < 4 → wr.cell? ⟨b, o + (64 * q + 4 * k + i), none⟩ = some (.int .u8 (U (w8 (gi ms (4 * k + i))))) := fun i hi => by
                      have := hcells (64 * q + 4 * k + i) (by omega)
                      have hmi : gi ms (4 * k + i) = gi pd (64 * q + 4 * k + i) := by rw [hms _ (by omega), Nat.add_assoc]
                      rw [hmi, U_w8 (hpB.gi _).1 (hpB.gi _).2]
                      exact (hb.cell (World.block_lt_of_cell? _ _ this)).trans this
                    have cc0 := cc 0 (by omega)
                    have cc1 := cc 1 (by omega)
                    have cc2 := cc 2 (by omega)
                    have cc3 := cc 3 (by omega)
                    rw [Nat.add_zero, Nat.add_zero] at cc0
                    have n0 : (64 * (q : Int) + 4 * (k : Int)).toNat = 64 * q + 4 * k := by omega
                    have n1 : (64 * (q : Int) + 4 * (k : Int) + 1).toNat = 64 * q + 4 * k + 1 := by omega
                    have n2 : (64 * (q : Int) + 4 * (k : Int) + 2).toNat = 64 * q + 4 * k + 2 := by omega
                    have n3 : (64 * (q : Int) + 4 * (k : Int) + 3).toNat = 64 * q + 4 * k + 3 := by omega
                    have p0 : (0 : Int) ≤ 64 * (q : Int) + 4 * (k : Int) := by omega
                    have p1 : (0 : Int) ≤ 64 * (q : Int) + 4 * (k : Int) + 1 := by omega
                    have p2 : (0 : Int) ≤ 64 * (q : Int) + 4 * (k : Int) + 2 := by omega
                    have p3 : (0 : Int) ≤ 64 * (q : Int) + 4 * (k : Int) + 3 := by omega
                    have l0 : 64 * (q : Int) + 4 * (k : Int) < N := by omega
                    have l1 : 64 * (q : Int) + 4 * (k : Int) + 1 < N := by omega
                    have l2 : 64 * (q : Int) + 4 * (k : Int) + 2 < N := by omega
                    have l3 : 64 * (q : Int) + 4 * (k : Int) + 3 < N := by omega
                    have i1 : IntKind.i64.wrap (64 * (q : Int) + 4 * (k : Int) + 1) = 64 * (q : Int) + 4 * (k : Int) + 1 := IntWalk.i64_in _ (by omega)
                    have i2 : IntKind.i64.wrap (64 * (q : Int) + 4 * (k : Int) + 2) = 64 * (q : Int) + 4 * (k : Int) + 2 := IntWalk.i64_in _ (by omega)
                    have i3 : IntKind.i64.wrap (64 * (q : Int) + 4 * (k : Int) + 3) = 64 * (q : Int) + 4 * (k : Int) + 3 := IntWalk.i64_in _ (by omega)
                    have p9 : (0 : Int) ≤ k := by omega
                    have l9 : (k : Int) < 80 := by omega
                    clear cc
                    go_wp2
                    refine still_tail 30 (by kernel_rfl) (by kernel_rfl) ?_
                    simp only [List.take_succ_cons, List.take_zero, List.drop_succ_cons, List.drop_zero]
                    repeat still_step
                    refine wpStill_nil ?_
                    go_wp2
                    go_roundw
                    case rel =>
                      refine ⟨k + 1, by omega, by go_num, (below_drewN (hb.setCell (p := ⟨w0.heap.size, k, none⟩) (by simp) _) 1), ?_⟩
                      have hs := (hB1.set_ k (.int .u32 (U (wordAt ms (4 * k))))).drewN 1
                      have he : (arr (sched ms k)).setIfInBounds k (.int .u32 (U (wordAt ms (4 * k)))) = arr (sched ms (k + 1)) := by
                        have he := arr_set (wordAt ms (4 * k)) (ws := sched ms k) (by omega)
                        rw [hlen] at he
                        rw [he, sched_succ, show wstep ms (sched ms k) k = wordAt ms (4 * k) from by unfold wstep; rw [if_pos h3]]
                      rw [he] at hs
                      exact hs
                    case measure => simp [intOf]; omega
                  · have cz := hB1.cell k
                    rw [arr_get_zero (by omega) h2] at cz
                    have fz := hB1.frozen k
                    have c3 := hB1.cell (k - 3)
                    have c8 := hB1.cell (k - 8)
                    have c14 := hB1.cell (k - 14)
                    have c16 := hB1.cell (k - 16)
                    rw [arr_get (by omega)] at c3 c8 c14 c16
                    have b1 : (0 : Int) ≤ (k : Int) - 3 := by omega
                    have b2 : (0 : Int) ≤ (k : Int) - 8 := by omega
                    have b3 : (0 : Int) ≤ (k : Int) - 14 := by omega
                    have b4 : (0 : Int) ≤ (k : Int) - 16 := by omega
                    have b5 : (k : Int) - 3 < 80 := by omega
                    have b6 : (k : Int) - 8 < 80 := by omega
                    have b7 : (k : Int) - 14 < 80 := by omega
                    have b8 : (k : Int) - 16 < 80 := by omega
                    have d1 : (3 : Int) ≤ k := by omega
                    have d2 : (8 : Int) ≤ k := by omega
                    have d3 : (14 : Int) ≤ k := by omega
                    have d4 : (16 : Int) ≤ k := by omega
                    have d5 : (k : Int) < 80 := by omega
                    have d6 : (0 : Int) ≤ k := by omega
                    go_wp2
                    have w3 : IntKind.i64.wrap ((k : Int) - 3) = (k : Int) - 3 := IntWalk.i64_in _ (by omega)
                    have w8 : IntKind.i64.wrap ((k : Int) - 8) = (k : Int) - 8 := IntWalk.i64_in _ (by omega)
                    have w14 : IntKind.i64.wrap ((k : Int) - 14) = (k : Int) - 14 := IntWalk.i64_in _ (by omega)
                    have w16 : IntKind.i64.wrap ((k : Int) - 16) = (k : Int) - 16 := IntWalk.i64_in _ (by omega)
                    have n3 : ((k : Int) - 3).toNat = k - 3 := by omega
                    have n8 : ((k : Int) - 8).toNat = k - 8 := by omega
                    have n14 : ((k : Int) - 14).toNat = k - 14 := by omega
                    have n16 : ((k : Int) - 16).toNat = k - 16 := by omega
                    refine still_tail 21 (by kernel_rfl) (by kernel_rfl) ?_
                    simp only [List.take_succ_cons, List.take_zero, List.drop_succ_cons, List.drop_zero]
                    repeat still_step
                    still_call (still_of (left1 _ _))
                    repeat still_step
                    refine wpStill_nil ?_
                    go_wp2
                    go_roundw
                    case rel =>
                      refine ⟨k + 1, by omega, by go_num, (below_drewN (hb.setCell (p := ⟨w0.heap.size, k, none⟩) (by simp) _) 1), ?_⟩
                      have hs := (hB1.set_ k (.int .u32 (U (rotl (wi (sched ms k) (k - 3) ^^^ wi (sched ms k) (k - 8) ^^^ wi (sched ms k) (k - 14) ^^^ wi (sched ms k) (k - 16)) 1)))).drewN 1
                      have he : (arr (sched ms k)).setIfInBounds k (.int .u32 (U (rotl (wi (sched ms k) (k - 3) ^^^ wi (sched ms k) (k - 8) ^^^ wi (sched ms k) (k - 14) ^^^ wi (sched ms k) (k - 16)) 1))) = arr (sched ms (k + 1)) := by
                        have he := arr_set (wstep ms (sched ms k) k) (ws := sched ms k) (by omega)
                        rw [hlen, ← sched_succ] at he
                        rw [← he]
                        unfold wstep
                        rw [if_neg h3]
                      rw [he] at hs
                      exact hs
                    case measure => simp [intOf]; omega
                · have hk80 : k = 80 := by omega
                  rw [hk80] at hB1
                  clear hk80
                  have hl80 := sched_length ms 80
                  generalize sched ms 80 = ws at *
                  rw [arr_full hl80] at hB1
                  have hst := hst.later hb
                  have cs := hst.2.2.1
                  have c0 : wr.cell? ⟨w.heap.size + 1, 0, none⟩ = some (.int .u32 (U s.a)) := cs.cell 0
                  have c1 : wr.cell? ⟨w.heap.size + 1, 1, none⟩ = some (.int .u32 (U s.b)) := cs.cell 1
                  have c2 : wr.cell? ⟨w.heap.size + 1, 2, none⟩ = some (.int .u32 (U s.c)) := cs.cell 2
                  have c3 : wr.cell? ⟨w.heap.size + 1, 3, none⟩ = some (.int .u32 (U s.d)) := cs.cell 3
                  have c4 : wr.cell? ⟨w.heap.size + 1, 4, none⟩ = some (.int .u32 (U s.e)) := cs.cell 4
                  obtain ⟨w1, rfl⟩ : ∃ x, x = wr := ⟨wr, rfl⟩
                  clear hcells hb
                  go_wp2
                  go_loopw [12] (fun i wr => ∃ k : Nat, k ≤ 80 ∧ i = .int .i64 k ∧ Below w1.heap.size w1 wr ∧ Blk wr w1.heap.size 75 (c5 (rounds ws s k))) (fun i _ => 80 - (intOf i).toNat)
                  case atStart =>
                    clear c0 c1 c2 c3 c4
                    exact ⟨0, by omega, rfl, (Below.refl _ _).alloc (Nat.le_refl _) _, Blk.new _ _ _⟩
                  case round =>
                    obtain ⟨k, hk, rfl, hb, hB2⟩ := hrel
                    have hB8 := hB1.below hb (hB1.lt)
                    by_cases h2 : k < 80
                    · have hr1 : rounds ws s (k + 1) = round1 (wi ws k) k (rounds ws s k) := rfl
                      generalize rounds ws s k = r at *
                      have c0 : wr.cell? ⟨w1.heap.size, 0, none⟩ = some (.int .u32 (U r.a)) := hB2.cell 0
                      have c1 : wr.cell? ⟨w1.heap.size, 1, none⟩ = some (.int .u32 (U r.b)) := hB2.cell 1
                      have c2 : wr.cell? ⟨w1.heap.size, 2, none⟩ = some (.int .u32 (U r.c)) := hB2.cell 2
                      have c3 : wr.cell? ⟨w1.heap.size, 3, none⟩ = some (.int .u32 (U r.d)) := hB2.cell 3
                      have c4 : wr.cell? ⟨w1.heap.size, 4, none⟩ = some (.int .u32 (U r.e)) := hB2.cell 4
                      have cw := hB8.cell k
                      have hcw : (uv ws).toArray[k]? = some (.int .u32 (U (wi ws k))) := by
                        rw [List.getElem?_toArray]
                        exact uv_get (by omega)
                      rw [hcw] at cw
                      have f0 := hB2.frozen 0
                      have f1 := hB2.frozen 1
                      have f2 := hB2.frozen 2
                      have f3 := hB2.frozen 3
                      have f4 := hB2.frozen 4
                      have hq1 : rounds ws s (k + 1) = ⟨rotl r.a 5 + fOf k r.b r.c r.d + r.e + kOf k + wi ws k, r.a, rotl r.b 30, r.c, r.d⟩ := by rw [hr1]; cases r; rfl
                      have HQ := Lib.hid hq1
                      have hmix := mix_any k r.b r.c r.d wr h2
                      clear hr1 hq1 hcw
                      generalize fOf k r.b r.c r.d = fk at *
                      generalize kOf k = kk at *
                      have d5 : (k : Int) < 80 := by omega
                      have d6 : (0 : Int) ≤ k := by omega
                      go_wp2_with (go_at_call 30; (with_reducible refine hmix.mono ?_); rintro e w2 ⟨rfl, rfl⟩)
                      go_quiet ((go_at_call 29; exact quiet_left (left5 _ _)))
                      go_wp2
                      refine still_tail 11 (by kernel_rfl) (by kernel_rfl) ?_
                      simp only [List.take_succ_cons, List.take_zero, List.drop_succ_cons, List.drop_zero]
                      repeat still_step
                      still_call (still_of (left30 _ _))
                      repeat still_step
                      refine wpStill_nil ?_
                      go_wp2
                      go_roundw
                      case rel =>
                        refine ⟨k + 1, by omega, by go_num, set5_below hb (Nat.le_refl _) _ _ _ _ _ _, ?_⟩
                        rw [HQ.out]
                        exact set5 hB2 _ ⟨_, _, _, _, _⟩
                      case measure => simp [intOf]; omega
                    · have hk80 : k = 80 := by omega
                      rw [hk80] at hB2
                      clear hk80
                      have HS2 := Lib.hid (show mixTo pd (q + 1) = addH s (rounds ws s 80) from HS.out)
                      clear HS
                      generalize rounds ws s 80 = r at *
                      have hst := hst.later hb
                      clear hB8 hb
                      have hlt : w.heap.size + 1 < w1.heap.size := by have := hst.2.2.1; have := Blk.lt cs; omega
                      go_wp2
                      go_loopw [16] (fun i wr => ∃ k : Nat, k ≤ 5 ∧ i = .int .i64 k ∧ RS w (.slice (some ⟨b, o, none⟩) N C') N pd (addK s r k) wr ∧ Blk wr w1.heap.size 75 (c5 r)) (fun i _ => 5 - (intOf i).toNat)
                      case atStart => exact ⟨0, by omega, rfl, hst, hB2⟩
                      case round =>
                        obtain ⟨k, hk, rfl, hst, hB2⟩ := hrel
                        by_cases h3 : k < 5
                        · obtain ⟨x, y, hx1, hy1, hs⟩ := addK_step s r k h3
                          have c0 := hst.2.2.1.cell k
                          have c2 := hB2.cell k
                          have f0 := hst.2.2.1.frozen k
                          rw [hx1] at c0
                          rw [hy1] at c2
                          have HS := Lib.hid hs
                          clear hs hx1 hy1
                          have d5 : (k : Int) < 5 := by omega
                          have d6 : (0 : Int) ≤ k := by omega
                          go_wp2
                          refine still_tail 8 (by kernel_rfl) (by kernel_rfl) ?_
                          simp only [List.take_succ_cons, List.take_zero, List.drop_succ_cons, List.drop_zero]
                          repeat still_step
                          refine wpStill_nil ?_
                          go_wp2
                          go_roundw
                          case rel =>
                            refine ⟨k + 1, by omega, by go_num, RS.later (hst.turn (i := k) (u := .int .u32 (U (x + y))) ?_) (drewN_below _ 1), (hB2.far (p := ⟨w.heap.size + 1, k, none⟩) (by simp; omega) _).drewN 1⟩
                            rw [← HS.out]
                            exact hst.2.2.1.set_ k _
                          case measure => simp [intOf]; omega
                        · have hk5 : k = 5 := by omega
                          rw [hk5, addK_5] at hst
                          go_wp2
                          go_roundw
                          case rel => exact ⟨q + 1, by omega, by congr 1, by rw [HS2.out]; exact hst⟩
                          case measure => simp [intOf]; omega
            · have hq64 : q = N / 64 := by omega
              have hres : mixTo pd q = mixTo pd (pd.length / 64) := by rw [hq64, HM.out]
              have HR := Lib.hid hres
              have hq3 : ¬ (64 * (q : Int) < N) := by omega
              clear hres hq64 hsucc
              generalize mixTo pd q = s at *
              obtain ⟨wC, rfl⟩ : ∃ x, x = wr := ⟨wr, rfl⟩
              have hb9 := (Blk.new wC 27 zid)
              have hlt := hst.2.2.2.2
              go_wp2
              go_loopw [18] (fun i w' => ∃ q : Nat, q ≤ 20 ∧ i = .int .i64 q ∧ Blk w' wC.heap.size 27 (bv (outK s q)).toArray ∧ Below wC.heap.size wC w') (fun i _ => 20 - (intOf i).toNat)
              case atStart =>
                exact ⟨0, by omega, rfl, hb9, (Below.refl _ _).alloc (Nat.le_refl _) _⟩
              case round =>
                obtain ⟨p, hp, rfl, hBo, hbw⟩ := hrel
                have hst := hst.later hbw
                have hBs := hst.2.2.1
                by_cases h1 : p < 20
                · have c5w := hBs.cell (p / 4)
                  rw [c5_word _ _ (by omega)] at c5w
                  have c8 := hBo.cell p
                  have f8 := hBo.frozen p
                  rw [out_zero _ _ h1] at c8
                  have n1 : ((p : Int) / 4).toNat = p / 4 := by omega
                  have n2 : (p : Int) / 4 < 5 := by omega
                  have n3 : (0 : Int) ≤ (p : Int) / 4 := by omega
                  have n4 : (24 - 8 * ((p : Int) % 4)).toNat = 24 - 8 * (p % 4) := by omega
                  have n5 : (0 : Int) ≤ 24 - 8 * ((p : Int) % 4) := by omega
                  have n6 : ¬ (24 - 8 * ((p : Int) % 4) < 0) := by omega
                  have n7 : 24 - 8 * ((p : Int) % 4) < 32 := by omega
                  have n8 : (p : Int) < 20 := by omega
                  have n9 : IntKind.u64.wrap (24 - 8 * ((p : Int) % 4)) = 24 - 8 * ((p : Int) % 4) := IntWalk.u64_in _ (by omega)
                  go_wp2
                  go_roundw
                  case rel =>
                    refine ⟨p + 1, by omega, by go_num, ?_, hbw.setCell (p := ⟨wC.heap.size, p, none⟩) (Nat.le_refl _) _⟩
                    rw [← out_set s p h1]
                    exact hBo.set_ p _
                  case measure => simp [intOf]; omega
                · have hp20 : p = 20 := by omega
                  rw [hp20, out_all] at hBo
                  clear hp20
                  have hBR : Blk wr w.heap.size 27 zid := hst.2.1
                  have hz : (Try.prog.info? 27).map (·.size) = some (bv (outBytes s)).toArray.size := by
                    rw [show (bv (outBytes s)).toArray.size = 20 from by simp [bv, outBytes]]
                    kernel_rfl
                  have hu : Try.prog.underlying 27 = some (.array 20 5) := by kernel_rfl
                  have h1c : (bv (outBytes s)).toArray.all (·.oneCell') = true := by simp [bv, Value.oneCell']
                  have hs5 : zid.size = (bv (outBytes s)).toArray.size := by simp [bv, outBytes, zid]
                  have hfull : idv (outBytes s) = .agg (bv (outBytes s)).toArray := rfl
                  have hBw : Below w.heap.size w wr := hst.2.2.2.1
                  have hsw : w.heap.size ≤ wr.heap.size := hBw.size
                  generalize (bv (outBytes s)).toArray = C at *
                  go_wp2_with (first
                    | ((with_reducible refine ld_row 27 17 wC.heap.size _ C _ ?_ hBo hu ?_ hz ?_); rfl; rfl)
                    | ((with_reducible refine st_row 27 2 188 w.heap.size _ C _ ?_ ?_ hBR hz ?_ h1c ?_); rfl; rfl; exact hs5; intro w2 hb2 hg2 hsz2))
                  refine ret_row 2 27 w.heap.size _ C _ rfl rfl hb2 hu rfl hz rfl ⟨?_, ?_⟩
                  · rw [← HR.out, hfull]
                  · exact hBw.grown hg2 hsw fun k hk => by cases hk; exact Nat.le_refl _
    · have hq : ((n + 1 + z : Nat) : Int) % 64 ≠ 56 := by have := zeros_spec hz; omega
      have hs2 : xs ++ [128] ++ List.replicate (z + 1) 0 = xs ++ [128] ++ List.replicate z 0 ++ [0] := by rw [List.replicate_succ', ← List.append_assoc]
      have hm : n + 1 + z ≤ n + 100 := by omega
      have hm2 : n + 1 + (z + 1) = n + 1 + z + 1 := rfl
      have hz2 : n + 1 + z < n + 100 := by omega
      generalize xs ++ [128] ++ List.replicate z 0 = ys at *
      generalize n + 1 + z = m at *
      have hq1 : ((m : Int) % 64 == 56) = false := beq_eq_false_iff_ne.2 hq
      have hq2 : ((m : Int) % 64 != 56) = true := bne_iff_ne.2 hq
      go_wp2_with (at_builtin; refine wpList_app rfl (.tmp 28) (.tmp 29) rfl (w.heap.size + 2) _ _ _ rfl (hst.1.alloc _) _ 1 1 [0] rfl (RB.lit_new _ _ rfl [0] 1 (0, 0) rfl (bytsOf _ rfl)) (by omega) (by have := hst.2.2.2.2; simp; omega) ?_)
      intro v1 w2 ho1 hg1 hat1
      have hst' := hst.app ho1 hg1
      go_wp2
      go_roundw
      case rel => exact ⟨z + 1, by omega, by rw [hm2, hs2]; exact hst'⟩
      case measure =>
        obtain ⟨V2, C2, rfl, hcc2⟩ := hst'.1.slice
        simp [lenV]; omega
end Go.Proofs.Ytgokompppadogaa
