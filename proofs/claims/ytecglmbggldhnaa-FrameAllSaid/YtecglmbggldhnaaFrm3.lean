/-
  trestleref05.Take.
-/
import Derived.Test.YtecglmbggldhnaaFrm2
set_option linter.unusedVariables false
set_option linter.unusedSimpArgs false
namespace Go.Proofs.Ytecglmbggldhnaa
open Go.RowKit

set_option maxHeartbeats 2000000 in
theorem refTake_any (A : Option Addr) (n c : Nat) (xs : List Int) (w : World) (h : RB w A n xs) (hnc : n ≤ c) (hn : n ≤ 1000000000) :
    Calls Try.prog 13 #[.slice A n c] w (TakePost (takeR xs) w) := by
  have hl := h.len
  unfold takeR
  rw [hl]
  by_cases h0 : n = 0
  · rw [if_pos h0]
    subst h0
    go_enter Try.func13, Try.ntmps13
    go_wp2
    ((try simp only [Exit.inBlock, Exit.then]); refine bodyPost_ret (results_tmp4 rfl _ _ _) rfl ?_)
    exact TakePost.bad (Below.refl _ _)
  · rw [if_neg h0]
    obtain ⟨b, o, rfl, hc⟩ := h.plain (by omega)
    have hb := h.byts
    have c0 : w.cell? ⟨b, o, none⟩ = some (.int .u8 (gi xs 0)) := by simpa using hc 0 (by omega)
    have hn0 : (0 : Int) < n := by omega
    have hn0' : 0 < n := by omega
    have hn1 : ((n : Int) == 0) = false := by simpa using h0
    by_cases h1 : gi xs 0 ≠ 254
    · rw [if_pos h1]
      have e1 : (gi xs 0 != 254) = true := by simpa using h1
      have e2 : (gi xs 0 == 254) = false := by simpa using h1
      clear h1 hc hl h0
      go_enter Try.func13, Try.ntmps13
      go_wp2
      ((try simp only [Exit.inBlock, Exit.then]); refine bodyPost_ret (results_tmp4 rfl _ _ _) rfl ?_)
      exact TakePost.bad (Below.refl _ _)
    · rw [if_neg h1]
      have h1 : gi xs 0 = 254 := by simpa using h1
      rw [h1] at c0
      clear h1
      by_cases h6 : n < 6
      · rw [if_pos h6]
        clear hc hl h0
        go_enter Try.func13, Try.ntmps13
        go_wp2
        ((try simp only [Exit.inBlock, Exit.then]); refine bodyPost_ret (results_tmp4 rfl _ _ _) rfl ?_)
        exact TakePost.bad (Below.refl _ _)
      · rw [if_neg h6]
        have c1 := hc 1 (by omega)
        have c2 := hc 2 (by omega)
        have c3 := hc 3 (by omega)
        have c4 := hc 4 (by omega)
        have c5 := hc 5 (by omega)
        have r2 := hb.gi 2
        have r3 := hb.gi 3
        have r4 := hb.gi 4
        have r5 := hb.gi 5
        have o1 := or_1 r2.1 r2.2 r3.1 r3.2
        have o2 := or_2 (a := 0) (b := gi xs 4) (x := gi xs 2 * 16777216 + gi xs 3 * 65536) (by omega) (by omega) (by omega) r4.1 r4.2
        have o3 := or_3 (b := gi xs 5) (x := gi xs 2 * 16777216 + gi xs 3 * 65536 + gi xs 4 * 256) (by omega) (by omega) (by omega) r5.1 r5.2
        have hL : gi xs 2 * 16777216 + gi xs 3 * 65536 + gi xs 4 * 256 + gi xs 5 = (lenL xs : Int) := (lenL_eq hb).symm
        rw [hL] at o3
        clear hL
        generalize lenL xs = L at *
        have hn6 : ¬ ((n : Int) < 6) := by omega
        by_cases h2 : 131172 < L
        · rw [if_pos h2]
          have i2 : (131172 : Int) < L := by omega
          clear hc hl h0 h6
          go_enter Try.func13, Try.ntmps13
          go_wp2
          go_quiet (fail)
          go_wp2
          ((try simp only [Exit.inBlock, Exit.then]); refine bodyPost_ret (results_tmp4 rfl _ _ _) rfl ?_)
          exact TakePost.bad (drewN_b _ _)
        · rw [if_neg h2]
          have i2 : ¬ ((131172 : Int) < L) := by omega
          have b2 : L ≤ 131172 := by omega
          by_cases h3 : n < 14 + L
          · rw [if_pos h3]
            have i3 : (n : Int) < 14 + L := by omega
            clear hc hl h0 h6 h2
            go_enter Try.func13, Try.ntmps13
            go_wp2
            go_quiet (fail)
            go_wp2
            ((try simp only [Exit.inBlock, Exit.then]); refine bodyPost_ret (results_tmp4 rfl _ _ _) rfl ?_)
            exact TakePost.bad (drewN_b _ _)
          · rw [if_neg h3]
            have i3 : ¬ ((n : Int) < 14 + L) := by omega
            have hsum : ∀ q : Nat, Calls Try.prog 23 #[.slice (some ⟨b, o, none⟩) (6 + L) c] (w.drewN q) (SumPost (xs.take (6 + L)) (w.drewN q)) := fun q => refsum_any (some ⟨b, o, none⟩) (6 + L) c (xs.take (6 + L)) (w.drewN q) ((h.take (k := 6 + L) (by omega)).drewN q) (by omega) (by omega)
            have hid := isId_sha (xs.take (6 + L))
            unfold SumPost at hsum
            generalize sha1 (xs.take (6 + L)) = X at *
            have hzX : (Try.prog.info? 48).map (·.size) = some (bv X).toArray.size := by rw [bvArr_size, hid.1]; exact idSize
            have hsX : zid.size = (bv X).toArray.size := by rw [bvArr_size, hid.1]; rfl
            have hcut := cut48
            have n1 : (6 + (L : Int)).toNat = 6 + L := by omega
            have n2 : (14 + (L : Int)).toNat = 14 + L := by omega
            have n3 : 14 + L - (6 + L) = 8 := by omega
            have n4 : 6 + L - 6 = L := by omega
            have m1 : (0 : Int) ≤ 6 + L := by omega
            have m2 : (6 : Int) + L ≤ c := by omega
            have m3 : (6 : Int) + L ≤ 14 + L := by omega
            have m4 : (14 : Int) + L ≤ c := by omega
            have m5 : (6 : Int) ≤ 6 + L := by omega
            have k3 : IntKind.i64.wrap (gi xs 1) = gi xs 1 := IntWalk.i64_in _ (by have := hb.gi 1; omega)
            have k1 : IntKind.i64.wrap (6 + (L : Int)) = 6 + L := IntWalk.i64_in _ (by omega)
            have k2 : IntKind.i64.wrap (14 + (L : Int)) = 14 + L := IntWalk.i64_in _ (by omega)
            have hmid : RB w (cutA (some ⟨b, o, none⟩) c (6 + L)) 8 ((xs.drop (6 + L)).take 8) := by
              have := (h.cut (k := 6 + L) (by omega) hnc).take (k := 8) (by omega)
              exact this
            have hbody : RB w (cutA (some ⟨b, o, none⟩) c 6) L ((xs.take (6 + L)).drop 6) := by
              have := h.mid (l := 6) (k := 6 + L) (by omega) (by omega) hnc
              rwa [n4] at this
            have hbl : ((xs.take (6 + L)).drop 6).length = L := by simp; omega
            have hlt := World.block_lt_of_cell? _ _ c1
            clear h hc hl h0 h6 h2 h3
            generalize (xs.take (6 + L)).drop 6 = body at *
            generalize (xs.drop (6 + L)).take 8 = ys at *
            have hX8 : X.length = 20 := hid.1
            have hXb : Byts X := hid.2
            clear hid
            generalize hR : (if X.take 8 ≠ ys then (⟨0, [], 0, 15⟩ : TakeR) else ⟨gi xs 1, body, 14 + L, 0⟩) = R
            have HR := Lib.hid hR
            clear hR
            go_enter Try.func13, Try.ntmps13
            go_wp2
            go_quiet (fail)
            go_wp2_with (first
              | (go_at_call 23; (with_reducible refine (hsum _).mono ?_); rintro e w2 ⟨rfl, hb2⟩)
              | ((with_reducible refine st_row 48 7 51 w2.heap.size 48 (bv X).toArray zid ?_ ?_ ?_ hzX hsX (bvArr_all X) ?_); rfl; rfl; exact (Blk.new w2 48 zid); intro w4 hb4 hg4 hsz4))
            have hz2 := hb2.size
            have hb24 : Below w.heap.size w w4 := ((below_drewN' hb2).alloc (by simpa using hz2) _).grown hg4 (by simp; simpa using Nat.le_succ_of_le hz2) (fun k hk => by cases hk; simpa using hz2)
            have hid8 := hb4.readsTake hXb 8 (by omega)
            have hm4 := hmid.below hb24
            have hbd4 := hbody.below hb24
            have c14 := (hb24.cell hlt).trans c1
            have ca := fun q c => run_string_RB (P := Try.prog) (hid8.drewN q) 22 5 9 c Try.underlying22 Try.underlying5 Try.underlying9
            have cb := fun q c => run_string_RB (P := Try.prog) (hm4.drewN q) 22 5 9 c Try.underlying22 Try.underlying5 Try.underlying9
            have hys : Byts ys := hm4.byts
            have hss := strOfNums_beq (hXb.take 8) hys
            clear hsum hb2 hg4 hsz4 hz2 hid8 hm4 hmid hb4
            generalize strOfNums (X.take 8) = sx at *
            generalize strOfNums ys = sy at *
            by_cases hxy : X.take 8 = ys
            · rw [decide_eq_true hxy] at hss
              have e8 : (sx.toList != sy.toList) = false := by simpa using hss
              have HX := Lib.hid hxy
              clear hxy
              go_quiet (fail)
              go_wp2
              go_region_with (go_at_call 17; (with_reducible refine (copyBytes_any _ L _ body _ (hbd4.drewN _) (by omega)).mono ?_); rintro e w5 ⟨A5, c5, rfl, ho5, hc5, hb5⟩; have c15 := (hb5.cell (World.block_lt_of_cell? w4 _ c14)).trans c14)
              all_goals
                go_wp2
                (try simp only [Exit.inBlock, Exit.then])
                refine bodyPost_ret (v := .tuple #[.int .i64 (gi xs 1), .slice A5 L c5, .int .i64 (14 + L), .int .i64 0]) ?_ rfl ?_
                · simp [results, Try.results13, go_sem, k3]
                rw [← HR.out, if_neg (by simpa using HX.out)]
                exact TakePost.good' hbl (ho5.lower hb24.size) hc5 (below_then (below_drewN hb24 _) hb24.size hb5)
            · rw [decide_eq_false hxy] at hss
              have e8 : (sx.toList != sy.toList) = true := by simpa using hss
              have HX := Lib.hid hxy
              clear hxy
              go_quiet (fail)
              go_wp2
              ((try simp only [Exit.inBlock, Exit.then]); refine bodyPost_ret (results_tmp4 rfl _ _ _) rfl ?_)
              rw [← HR.out, if_pos (by simpa using HX.out)]
              exact TakePost.bad (below_drewN hb24 _)
end Go.Proofs.Ytecglmbggldhnaa
