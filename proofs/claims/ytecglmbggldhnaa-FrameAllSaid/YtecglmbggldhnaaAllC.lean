/-
  FrameAll, the walk.
-/
import Derived.Test.YtecglmbggldhnaaAllB
import Derived.Test.YtecglmbggldhnaaFrm6
set_option linter.unusedVariables false
set_option linter.unusedSimpArgs false
namespace Go.Proofs.Ytecglmbggldhnaa
open Go.RowKit

/-- the kinds of the frames. -/
def kindsL (kds : List Int) (m k : Nat) : List Int := (List.range k).map fun i => if i < m then bits .and .i64 (gi kds i) 255 else 0
theorem kindsL_length (kds : List Int) (m k : Nat) : (kindsL kds m k).length = k := by simp [kindsL]
theorem kindsL_gi (kds : List Int) (m k : Nat) {i : Nat} (h : i < k) : gi (kindsL kds m k) i = if i < m then bits .and .i64 (gi kds i) 255 else 0 := by simp [kindsL, gi, h]
theorem kindsL_range (kds : List Int) (m k : Nat) {i : Nat} (h : i < k) : 0 ≤ gi (kindsL kds m k) i ∧ gi (kindsL kds m k) i ≤ 255 := by
  rw [kindsL_gi kds m k h]
  split
  · obtain ⟨r, hr, h0, h1⟩ := and_range (gi kds i)
    rw [hr]
    exact ⟨h0, h1⟩
  · omega
set_option maxRecDepth 100000 in
set_option maxHeartbeats 8000000 in
theorem frameAll_walk (A : Option Addr) (k c : Nat) (ps : List (List Int)) (B : Option Addr) (m d : Nat) (kds : List Int) (C : Option Addr) (p e : Nat) (ms : List Int) (w : World) (h : RBs w A k ps) (hkc : k ≤ c) (h' : RI w B m kds) (hmd : m ≤ d) (h'' : RB w C p ms) (hpe : p ≤ e) :
    Calls Try.prog 7 #[.slice A k c, .slice B m d, .slice C p e] w (fun e w' => e = .returned (.bool true) ∧ Below w.heap.size w w') := by
  by_cases hb1 : 12 < k
  · have e1 : (12 : Int) < k := by omega
    go_enter Try.func7, Try.ntmps7
    go_wp2_with (go_at_call 8; (with_reducible refine (awake05_any _).mono ?_); rintro e w1 ⟨rfl, hb1⟩)
    go_ret
    exact ⟨rfl, hb1⟩
  · have e1 : ¬ ((12 : Int) < k) := by omega
    by_cases hb2 : 100 < p
    · have e2 : (100 : Int) < p := by omega
      go_enter Try.func7, Try.ntmps7
      go_wp2_with (go_at_call 8; (with_reducible refine (awake05_any _).mono ?_); rintro e w1 ⟨rfl, hb1⟩)
      go_ret
      exact ⟨rfl, hb1⟩
    · have e2 : ¬ ((100 : Int) < p) := by omega
      have hlen := h.1
      have hkl := kindsL_length kds m k
      have hkg := fun i (hi : i < k) => kindsL_gi kds m k hi
      have hkr := fun i (hi : i < k) => kindsL_range kds m k hi
      generalize kindsL kds m k = kA at *
      have hfl := framesL_length kA ps
      have hfg := fun i hi => framesL_get kA ps (i := i) hi
      have hall := fun (W : World) (V : Option Addr) (n C : Nat) (hW : RB W V n ((framesL kA ps).flatten ++ ms)) (hn : n ≤ C) (hn2 : n ≤ 1000000) (hps : ∀ i, i < ps.length → (ps.getD i []).length ≤ 300) (he : (takeR ms).err ≠ 0) => all_any V n C kA ps ms W hW hn hn2 (by omega) (fun i hi => hkr i (by omega)) hps he (by omega)
      generalize framesL kA ps = fs at *
      have HKG := Lib.hid hkg
      have HKR := Lib.hid hkr
      have HFG := Lib.hid hfg
      have HALL := Lib.hid hall
      have HLEN := Lib.hid hlen
      have HKL := Lib.hid hkl
      have HFL := Lib.hid hfl
      have hk12 : k ≤ 12 := by omega
      have hp100 : p ≤ 100 := by omega
      clear hkg hkr hfg hall hlen hkl hfl hb1 hb2
      go_enter Try.func7, Try.ntmps7
      go_wp2
      go_loopw [7, 8, 9] (fun v7 v8 i wr => ∃ j : Nat, j ≤ k ∧ i = .int .i64 j ∧ (∀ q, q < j → (ps.getD q []).length ≤ 300) ∧ (joined fs j).length ≤ 314 * j ∧ OB wr w.heap.size v7 (joined fs j).length (joined fs j) ∧ OI wr w.heap.size v8 j (kA.take j) ∧ Below w.heap.size w wr) (fun _ _ i _ => k - (intOf i).toNat)
      case atStart => exact ⟨0, by omega, rfl, fun q hq => absurd hq (by omega), by simp [joined], OB.nil _ _, OI.nil _ _, Below.refl _ _⟩
      case round =>
        obtain ⟨j, hj, rfl, hsm, hjl, hob, hoi, hB⟩ := hrel
        have HSM := Lib.hid hsm
        clear hsm
        by_cases h1 : j < k
        · have hrb := h.below hB
          obtain ⟨_, b, off, hA, hcells⟩ := hrb
          obtain rfl := hA (by omega)
          obtain ⟨Ai, ci, c0, hle, hr⟩ := hcells j h1
          have hfs : joined fs (j + 1) = joined fs j ++ packL (gi kA j) (ps.getD j []) := by rw [joined_succ (by rw [HFL.out, HLEN.out]; exact h1), HFG.out j (by rw [HLEN.out]; exact h1)]
          have hkt : kA.take (j + 1) = kA.take j ++ [gi kA j] := take_succ_gi (by rw [HKL.out]; exact h1)
          have hkgj := HKG.out j h1
          have hkrj := HKR.out j h1
          have hsm2 : (ps.getD j []).length ≤ 300 → ∀ q, q < j + 1 → (ps.getD q []).length ≤ 300 := fun hx q hq => by
            by_cases e : q = j
            · subst e; exact hx
            · exact HSM.out q (by omega)
          have HSM2 := Lib.hid hsm2
          clear hcells hsm2 HSM
          generalize ps.getD j [] = xs at *
          by_cases h3 : 300 < xs.length
          · have i3 : (300 : Int) < xs.length := by omega
            clear hfs hkt hkgj hkrj h3
            go_wp2_with (go_at_call 8; (with_reducible refine (awake05_any _).mono ?_); rintro e w1 ⟨rfl, hb1⟩)
            go_ret
            exact ⟨rfl, below_two hB hb1⟩
          · have i3 : ¬ ((300 : Int) < xs.length) := by omega
            have hx3 : xs.length ≤ 300 := by omega
            have kp := fun (W : World) (hW : RB W Ai xs.length xs) => (refPack_any (gi kA j) Ai xs.length ci xs W hW hle (by omega)).mono fun e w' hh => PackOk.of hkrj.1 hkrj.2 rfl (by omega) hh
            have hpl := packL_length (gi kA j) xs
            have f1 : (joined fs j).length + (xs.length + 14) ≤ 140737488355328 := by omega
            have f2 : (joined fs j).length + (xs.length + 14) ≤ 314 * (j + 1) := by omega
            have f3 : j ≤ 1000000 := by omega
            have f4 : (joined fs (j + 1)).length = (joined fs j).length + (xs.length + 14) := by rw [hfs, List.length_append, hpl]; omega
            have HFS := Lib.hid hfs
            have HKT := Lib.hid hkt
            have HF4 := Lib.hid f4
            have hk3 : -9223372036854775808 ≤ gi kA j ∧ gi kA j ≤ 9223372036854775807 := by omega
            unfold PackOk at kp
            clear hfs hkt h3 hpl f4
            generalize packL (gi kA j) xs = P at *
            generalize hjj : joined fs j = J at *
            clear hjj
            by_cases h2 : j < m
            · have hri := h'.below hB
              obtain ⟨b2, o2, rfl, hcl⟩ := hri.plain (by omega)
              have c2 := hcl j h2
              rw [if_pos h2] at hkgj
              have hkg2 : bits .and .i64 (gi kds j) 255 = gi kA j := hkgj.symm
              clear hcl hkgj hri
              generalize gi kA j = kk at *
              go_wp2_with (first
                | (go_at_call 11; (with_reducible refine (kp _ hr).mono ?_); rintro e w1 ⟨A1, c1, rfl, ho1, hc1, hb1⟩; have hB1 : Below w.heap.size w w1 := below_two hB hb1; have hob1 := hob.below hb1; have hoi1 := hoi.below hb1; have hz0 := hB.size; have hz1 := hb1.size)
                | (at_builtin; refine wpList_app rfl (.tmp 63) (.tmp 64) rfl w.heap.size _ _ _ rfl hob1 A1 (xs.length + 14) c1 P rfl ho1.reads f1 (by omega) ?_; intro v2 w2 ho2 hg2 hat2; have hoi2 := hoi1.grown hob1.kind (by decide) hg2; have hB2 : Below w.heap.size w w2 := hB1.grown hg2 hB1.size (fun k hk => (hob1.own k hk).1); have hz2 := hB2.size)
                | (at_builtin; refine wpList_appInt rfl (.tmp 66) (.tmp 68) rfl w.heap.size _ j _ rfl (hoi2.below ((Below.refl _ _).alloc (Nat.le_refl _) _)) w2.heap.size kk rfl (Blk.new w2 3 _) hk3 f3 (by simp; omega) ?_; intro v3 w3 ho3 hg3))
              have hob3 := (ho2.below ((Below.refl w2.heap.size w2).alloc (Nat.le_refl _) (.cells #[.int .i64 kk] 3))).grownK ((hoi2.below ((Below.refl w2.heap.size w2).alloc (Nat.le_refl _) (.cells #[.int .i64 kk] 3))).kind) (by decide) hg3
              have hB3 : Below w.heap.size w w3 := (hB2.alloc hz2 _).grown hg3 (by simp; omega) (fun k hk => (hoi2.own k hk).1)
              go_roundw
              case rel => exact ⟨j + 1, by omega, by go_num, HSM2.out hx3, by rw [HF4.out]; exact f2, by rw [HF4.out, HFS.out]; exact hob3, by rw [HKT.out]; exact ho3, hB3⟩
              case measure => simp [intOf]; omega
            · rw [if_neg h2] at hkgj
              have i2 : ¬ ((j : Int) < m) := by omega
              rw [hkgj] at kp HKT hkrj hk3
              clear hkgj
              go_wp2_with (first
                | (go_at_call 11; (with_reducible refine (kp _ hr).mono ?_); rintro e w1 ⟨A1, c1, rfl, ho1, hc1, hb1⟩; have hB1 : Below w.heap.size w w1 := below_two hB hb1; have hob1 := hob.below hb1; have hoi1 := hoi.below hb1; have hz0 := hB.size; have hz1 := hb1.size)
                | (at_builtin; refine wpList_app rfl (.tmp 63) (.tmp 64) rfl w.heap.size _ _ _ rfl hob1 A1 (xs.length + 14) c1 P rfl ho1.reads f1 (by omega) ?_; intro v2 w2 ho2 hg2 hat2; have hoi2 := hoi1.grown hob1.kind (by decide) hg2; have hB2 : Below w.heap.size w w2 := hB1.grown hg2 hB1.size (fun k hk => (hob1.own k hk).1); have hz2 := hB2.size)
                | (at_builtin; refine wpList_appInt rfl (.tmp 66) (.tmp 68) rfl w.heap.size _ j _ rfl (hoi2.below ((Below.refl _ _).alloc (Nat.le_refl _) _)) w2.heap.size 0 rfl (Blk.new w2 3 _) hk3 f3 (by simp; omega) ?_; intro v3 w3 ho3 hg3))
              have hob3 := (ho2.below ((Below.refl w2.heap.size w2).alloc (Nat.le_refl _) (.cells #[.int .i64 0] 3))).grownK ((hoi2.below ((Below.refl w2.heap.size w2).alloc (Nat.le_refl _) (.cells #[.int .i64 0] 3))).kind) (by decide) hg3
              have hB3 : Below w.heap.size w w3 := (hB2.alloc hz2 _).grown hg3 (by simp; omega) (fun k hk => (hoi2.own k hk).1)
              go_roundw
              case rel => exact ⟨j + 1, by omega, by go_num, HSM2.out hx3, by rw [HF4.out]; exact f2, by rw [HF4.out, HFS.out]; exact hob3, by rw [HKT.out]; exact ho3, hB3⟩
              case measure => simp [intOf]; omega
        · obtain rfl : j = k := by omega
          have hja : joined fs j = fs.flatten := by
            have := joined_all (ps := fs)
            rw [HFL.out, HLEN.out] at this
            exact this
          have hps := HSM.out
          have hall := HALL.out
          rw [HLEN.out] at hall
          rw [hja] at hob hjl
          rw [show kA.take j = kA from by rw [← HKL.out]; exact List.take_length] at hoi
          have hflat : fs.flatten = fs.flatten := rfl
          obtain ⟨N, hN⟩ : ∃ N, N = fs.flatten.length := ⟨_, rfl⟩
          have hN4 : N ≤ 3768 := by omega
          rw [← hN] at hob hall
          generalize fs.flatten = F at *
          have HN := Lib.hid hN
          clear hN hja hflat hjl HSM HALL
          obtain ⟨A7, c7, rfl, hc7⟩ := hob.slice
          obtain ⟨A8, c8, rfl, hc8, hri8⟩ := hoi.reads
          have kt := fun (W : World) (hW : RB W C p ms) => refTake_any C p e ms W hW hpe (by omega)
          unfold TakePost at kt
          have hm1 := h''.below hB
          have hz0 := hB.size
          by_cases he : (takeR ms).err = 0
          · rw [he] at kt
            clear hall
            generalize takeR ms = t at *
            clear he
            go_wp2_with (first
              | (go_at_call 13; (with_reducible refine (kt _ hm1).mono ?_); rintro e w1 ⟨A1, c1, rfl, ho1, hc1, hb1⟩; have hB1 : Below w.heap.size w w1 := below_two hB hb1)
              | (go_at_call 8; (with_reducible refine (awake05_any _).mono ?_); rintro e w2 ⟨rfl, hb2⟩))
            go_ret
            exact ⟨rfl, below_two hB1 hb2⟩
          · have kall := fun (W : World) (V : Option Addr) (C : Nat) (hW : RB W V (N + p) (F ++ ms)) (hC : N + p ≤ C) => hall W V (N + p) C hW hC (by omega) hps he
            unfold AllPost at kall
            rw [HLEN.out] at kall
            have i4 : ((takeR ms).err == 0) = false := by simpa using he
            have i5 : ((takeR ms).err != 0) = true := by simpa using he
            have hHE := Lib.hid he
            have kcp := fun (W : World) (hW : RB W A7 N F) => copyBytes_any A7 N c7 F W hW (by omega)
            have f1 : N + p ≤ 140737488355328 := by omega
            have HP := Lib.hid hps
            clear hall he hps
            generalize takeR ms = t at *
            have hr7 := hob.reads
            go_wp2_with (first
              | (go_at_call 13; (with_reducible refine (kt _ hm1).mono ?_); rintro e w1 ⟨A1, c1, rfl, ho1, hc1, hb1⟩; have hB1 : Below w.heap.size w w1 := below_two hB hb1; have hr71 := hr7.below hb1)
              | (go_at_call 17; (with_reducible refine (kcp _ hr71).mono ?_); rintro e w2 ⟨A2, c2, rfl, ho2, hc2, hb2⟩; have hB2 : Below w.heap.size w w2 := below_two hB1 hb2; have hm2 := (hm1.below hb1).below hb2)
              | (at_builtin; refine wpList_app rfl (.tmp 82) (.tmp 83) rfl w1.heap.size _ _ _ rfl ho2 C p e ms rfl hm2 f1 hb2.size ?_; intro v3 w3 ho3 hg3 hat3; obtain ⟨A3, c3, rfl, hc3⟩ := ho3.slice; have hb13 : Below w1.heap.size w1 w3 := hb2.grown hg3 hb2.size (fun k hk => (ho2.own k hk).1); have hB3 : Below w.heap.size w w3 := below_two hB1 hb13)
              | (go_at_call 18; (with_reducible refine (kall _ _ _ ho3.reads hc3).mono ?_); rintro e w4 ⟨v4, v5, rfl, hoi4, how4, hb4⟩; have hB4 : Below w.heap.size w w4 := below_two hB3 hb4; obtain ⟨A4, c4, rfl, hc4, hri4⟩ := hoi4.reads; obtain ⟨A5, c5, rfl, hc5, hrb5⟩ := how4.reads)
              | (go_at_call 8; (with_reducible refine (awake05_any _).mono ?_); rintro e w6 ⟨rfl, hb6⟩; have hB6 : Below w.heap.size w w6 := below_two hB4 hb6; have kpl := plainI_any A4 A8 j c4 c8 kA w6 (hri4.below hb6) ((((hri8.below hb1).below hb13).below hb4).below hb6) (by omega); have ksr := fun q => sameR_any A5 A j c5 c ps (w6.drewN q) ((hrb5.below hb6).below (drewN_below w6 q)) (h.below (below_two hB6 (drewN_below w6 q))) (by omega))
              | (go_at_call 19; (with_reducible refine kpl.mono ?_); rintro e w7 ⟨rfl, q7, rfl⟩)
              | (go_at_call 20; (with_reducible refine (ksr _).mono ?_); rintro e w8 ⟨rfl, q8, rfl⟩))
            go_ret
            exact ⟨rfl, below_drewN hB6 _⟩
end Go.Proofs.Ytecglmbggldhnaa
