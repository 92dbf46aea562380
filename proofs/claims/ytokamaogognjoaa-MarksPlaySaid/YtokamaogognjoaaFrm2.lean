/-
  frame.Take.
-/
import Derived.Test.YtokamaogognjoaaFrm1
set_option linter.unusedVariables false
set_option linter.unusedSimpArgs false
namespace Go.Proofs.Ytokamaogognjoaa
open Go.RowKit

set_option maxRecDepth 100000 in
theorem results_tmp4 {fn : Func} {t u v x : Tmp} (h : fn.results = #[.tmp t, .tmp u, .tmp v, .tmp x]) (tmps : Array Value) (P : Program) (w : World) :
    (results fn tmps).run P w = .ok (.tuple #[tmps.getD t undef, tmps.getD u undef, tmps.getD v undef, tmps.getD x undef]) w := by
  simp [results, h]
def TakePost (r : TakeR) (w : World) (e : Ending) (w' : World) : Prop := ∃ A c, e = .returned (.tuple #[.int .i64 r.kind, .slice A r.body.length c, .int .i64 r.len, .int .i64 r.err]) ∧ OB w' w.heap.size (.slice A r.body.length c) r.body.length r.body ∧ r.body.length ≤ c ∧ Below w.heap.size w w'
set_option maxRecDepth 100000 in
theorem TakePost.bad {w w' : World} {x : Int} (hb : Below w.heap.size w w') : TakePost ⟨0, [], 0, x⟩ w (.returned (.tuple #[.int .i64 0, .slice none 0 0, .int .i64 0, .int .i64 x])) w' := ⟨_, _, rfl, OB.nil _ _, Nat.le_refl _, hb⟩
set_option maxRecDepth 100000 in
theorem TakePost.good {w w' : World} {A : Option Addr} {L c : Nat} {k : Int} {body : List Int} (hl : body.length = L) (ho : OB w' w.heap.size (.slice A L c) L body) (hc : L ≤ c) (hb : Below w.heap.size w w') :
    TakePost ⟨k, body, 14 + L, 0⟩ w (.returned (.tuple #[.int .i64 k, .slice A L c, .int .i64 (6 + L + 8), .int .i64 0])) w' := by
  subst hl
  refine ⟨A, c, ?_, ho, hc, hb⟩
  rw [show (6 : Int) + (body.length : Int) + 8 = 14 + body.length from by omega]
set_option maxRecDepth 100000 in
theorem TakePost.good' {w w' : World} {A : Option Addr} {L c : Nat} {k : Int} {body : List Int} (hl : body.length = L) (ho : OB w' w.heap.size (.slice A L c) L body) (hc : L ≤ c) (hb : Below w.heap.size w w') :
    TakePost ⟨k, body, 14 + L, 0⟩ w (.returned (.tuple #[.int .i64 k, .slice A L c, .int .i64 (14 + L), .int .i64 0])) w' := by
  subst hl
  exact ⟨A, c, rfl, ho, hc, hb⟩
set_option maxRecDepth 100000 in
theorem drewN_b (w : World) (q : Nat) : Below w.heap.size w (w.drewN q) := drewN_below w q
set_option maxRecDepth 100000 in
theorem Blk.readsTake {w : World} {g : Nat} {t : TypeId} {xs : List Int} (h : Blk w g t (bv xs).toArray) (hx : Byts xs) (k : Nat) (hk : k ≤ xs.length) : RB w (some ⟨g, 0, none⟩) k (xs.take k) := by
  refine ⟨by rw [List.length_take]; omega, hx.take k, fun _ => ⟨_, rfl, fun j hj => ?_⟩⟩
  rw [add_plain, Nat.zero_add, h.idCell j (by omega), gi_take hj]
set_option maxRecDepth 100000 in
theorem below_drewN' {w w' : World} {q : Nat} (h : Below (w.drewN q).heap.size (w.drewN q) w') : Below w.heap.size w w' := ⟨h.os, h.tape, h.output, h.size, h.block⟩
set_option maxRecDepth 100000 in
theorem cut48 (w : World) (g : Nat) : (Instr.sliceAt 25 (.pointer (some ⟨g, 0, none⟩)) none (some (.int .i64 8)) none).run Try.prog w = .ok (.slice (some ⟨g, 0, none⟩) 8 20) w := by kernel_rfl

set_option maxRecDepth 100000 in
set_option maxHeartbeats 2000000 in
theorem take_any (A : Option Addr) (n c : Nat) (xs : List Int) (w : World) (h : RB w A n xs) (hnc : n ≤ c) (hn : n ≤ 1000000000) :
    Calls Try.prog 48 #[.slice A n c] w (TakePost (takeR xs) w) := by
  have hl := h.len
  have hlen := length_any A n c xs w h hn
  unfold takeR
  rw [hl]
  by_cases h0 : n = 0
  · rw [if_pos h0]
    subst h0
    rw [if_pos (by omega), decide_eq_false (by omega)] at hlen
    go_enter Try.func48, Try.ntmps48
    go_wp2_with (go_at_call 53; (with_reducible refine hlen.mono ?_); rintro e w1 ⟨rfl, q, rfl⟩)
    ((try simp only [Exit.inBlock, Exit.then]); refine bodyPost_ret (results_tmp4 rfl _ _ _) rfl ?_)
    exact TakePost.bad (drewN_b _ _)
  · rw [if_neg h0]
    obtain ⟨b, o, rfl, hc⟩ := h.plain (by omega)
    have hb := h.byts
    have c0 : w.cell? ⟨b, o, none⟩ = some (.int .u8 (gi xs 0)) := by simpa using hc 0 (by omega)
    have hn0 : (0 : Int) < n := by omega
    have hn0' : 0 < n := by omega
    by_cases h1 : gi xs 0 ≠ 254
    · rw [if_pos h1]
      have e1 : (gi xs 0 != 254) = true := by simpa using h1
      have e2 : (gi xs 0 == 254) = false := by simpa using h1
      clear h1 hlen hc hl
      go_enter Try.func48, Try.ntmps48
      go_wp2
      ((try simp only [Exit.inBlock, Exit.then]); refine bodyPost_ret (results_tmp4 rfl _ _ _) rfl ?_)
      exact TakePost.bad (Below.refl _ _)
    · rw [if_neg h1]
      have h1 : gi xs 0 = 254 := by simpa using h1
      rw [h1] at c0
      clear h1
      by_cases h6 : n < 6
      · rw [if_pos h6]
        rw [if_pos h6, decide_eq_false (by omega)] at hlen
        clear hc hl
        go_enter Try.func48, Try.ntmps48
        go_wp2_with (go_at_call 53; (with_reducible refine hlen.mono ?_); rintro e w1 ⟨rfl, q, rfl⟩)
        ((try simp only [Exit.inBlock, Exit.then]); refine bodyPost_ret (results_tmp4 rfl _ _ _) rfl ?_)
        exact TakePost.bad (drewN_b _ _)
      · rw [if_neg h6]
        rw [if_neg h6, decide_eq_true (by omega), ← lenL_eq hb] at hlen
        have c1 := hc 1 (by omega)
        generalize lenL xs = L at *
        by_cases h2 : 131172 < L
        · rw [if_pos h2]
          have i2 : (131172 : Int) < L := by omega
          clear hc hl
          go_enter Try.func48, Try.ntmps48
          go_wp2_with (go_at_call 53; (with_reducible refine hlen.mono ?_); rintro e w1 ⟨rfl, q, rfl⟩)
          ((try simp only [Exit.inBlock, Exit.then]); refine bodyPost_ret (results_tmp4 rfl _ _ _) rfl ?_)
          exact TakePost.bad (drewN_b _ _)
        · rw [if_neg h2]
          have i2 : ¬ ((131172 : Int) < L) := by omega
          have b2 : L ≤ 131172 := by omega
          by_cases h3 : n < 14 + L
          · rw [if_pos h3]
            have i3 : (n : Int) < 6 + L + 8 := by omega
            clear hc hl
            go_enter Try.func48, Try.ntmps48
            go_wp2_with (go_at_call 53; (with_reducible refine hlen.mono ?_); rintro e w1 ⟨rfl, q, rfl⟩)
            ((try simp only [Exit.inBlock, Exit.then]); refine bodyPost_ret (results_tmp4 rfl _ _ _) rfl ?_)
            exact TakePost.bad (drewN_b _ _)
          · rw [if_neg h3]
            have i3 : ¬ ((n : Int) < 6 + L + 8) := by omega
            have hsum : ∀ q : Nat, Calls Try.prog 50 #[.slice (some ⟨w.heap.size, 0, none⟩) 1 1] ((w.drewN q).alloc (.cells #[.slice (some ⟨b, o, none⟩) (6 + L) c] 36)) (SumPost (xs.take (6 + L)) (w.drewN q)) := fun q => sum_one (some ⟨b, o, none⟩) (6 + L) c (xs.take (6 + L)) (w.drewN q) ((h.take (k := 6 + L) (by omega)).drewN q) (by omega) (by omega)
            have hid := isId_sha (xs.take (6 + L))
            unfold SumPost at hsum
            generalize sha1 (xs.take (6 + L)) = X at *
            have hzX : (Try.prog.info? 25).map (·.size) = some (bv X).toArray.size := by rw [bvArr_size, hid.1]; exact idSize
            have hsX : zid.size = (bv X).toArray.size := by rw [bvArr_size, hid.1]; rfl
            have hcut := cut48
            have n1 : (6 + (L : Int)).toNat = 6 + L := by omega
            have n2 : (6 + (L : Int) + 8).toNat = 14 + L := by omega
            have n3 : 14 + L - (6 + L) = 8 := by omega
            have n4 : 6 + L - 6 = L := by omega
            have m1 : (0 : Int) ≤ 6 + L := by omega
            have m2 : (6 : Int) + L ≤ c := by omega
            have m3 : (6 : Int) + L ≤ 6 + L + 8 := by omega
            have m4 : (6 : Int) + L + 8 ≤ c := by omega
            have m5 : (6 : Int) ≤ 6 + L := by omega
            have k3 : IntKind.i64.wrap (gi xs 1) = gi xs 1 := IntWalk.i64_in _ (by have := hb.gi 1; omega)
            have k1 : IntKind.i64.wrap (6 + (L : Int)) = 6 + L := IntWalk.i64_in _ (by omega)
            have k2 : IntKind.i64.wrap (6 + (L : Int) + 8) = 6 + L + 8 := IntWalk.i64_in _ (by omega)
            have hmid : RB w (cutA (some ⟨b, o, none⟩) c (6 + L)) 8 ((xs.drop (6 + L)).take 8) := by
              have := (h.cut (k := 6 + L) (by omega) hnc).take (k := 8) (by omega)
              exact this
            have hbody : RB w (cutA (some ⟨b, o, none⟩) c 6) L ((xs.take (6 + L)).drop 6) := by
              have := h.mid (l := 6) (k := 6 + L) (by omega) (by omega) hnc
              rwa [n4] at this
            have hbl : ((xs.take (6 + L)).drop 6).length = L := by simp; omega
            have hlt := World.block_lt_of_cell? _ _ c1
            clear h hc hl
            generalize (xs.take (6 + L)).drop 6 = body at *
            generalize (xs.drop (6 + L)).take 8 = ys at *
            have hX8 : X.length = 20 := hid.1
            have hXb : Byts X := hid.2
            clear hid
            generalize hR : (if X.take 8 ≠ ys then (⟨0, [], 0, 15⟩ : TakeR) else ⟨gi xs 1, body, 14 + L, 0⟩) = R
            have HR := Lib.hid hR
            clear hR
            go_enter Try.func48, Try.ntmps48
            go_wp2_with (first
              | (go_at_call 53; (with_reducible refine hlen.mono ?_); rintro e w1 ⟨rfl, q, rfl⟩)
              | (go_at_call 50; (with_reducible refine (hsum _).mono ?_); rintro e w2 ⟨rfl, hb2⟩)
              | ((with_reducible refine st_row 25 8 41 w2.heap.size 25 (bv X).toArray zid ?_ ?_ ?_ hzX hsX (bvArr_all X) ?_); rfl; rfl; exact (Blk.new w2 25 zid); intro w4 hb4 hg4 hsz4))
            have hz2 := hb2.size
            have hb24 : Below w.heap.size w w4 := ((below_drewN' hb2).alloc (by simpa using hz2) _).grown hg4 (by simp; simpa using Nat.le_succ_of_le hz2) (fun k hk => by cases hk; simpa using hz2)
            have hid8 := hb4.readsTake hXb 8 (by omega)
            have hm4 := hmid.below hb24
            have hbd4 := hbody.below hb24
            have c14 := (hb24.cell hlt).trans c1
            have hEq := fun q => equalB_any (some ⟨w2.heap.size, 0, none⟩) (cutA (some ⟨b, o, none⟩) c (6 + L)) 8 8 20 (c - (6 + L)) (X.take 8) ys (w4.drewN q) (hid8.drewN q) (hm4.drewN q) (by omega)
            unfold Quiet at hEq
            clear hsum hlen hb2 hg4 hsz4 hz2 hid8 hm4 hmid hb4
            by_cases hxy : X.take 8 = ys
            · rw [decide_eq_true hxy] at hEq
              have HX := Lib.hid hxy
              clear hxy
              go_quiet (first | exact quiet_some (hEq _) | exact quiet_add_some (hEq _) | exact hEq _)
              go_wp2
              go_region_with (go_at_call 35; (with_reducible refine (clone_any _ L _ body _ (hbd4.drewN _) (by omega)).mono ?_); rintro e w5 ⟨A5, c5, rfl, ho5, hc5, hb5⟩; have c15 := (hb5.cell (World.block_lt_of_cell? w4 _ c14)).trans c14)
              all_goals
                go_wp2
                (try simp only [Exit.inBlock, Exit.then])
                refine bodyPost_ret (v := .tuple #[.int .i64 (gi xs 1), .slice A5 L c5, .int .i64 (6 + L + 8), .int .i64 0]) ?_ rfl ?_
                · simp [results, Try.results48, go_sem, k3]
                rw [← HR.out, if_neg (by simpa using HX.out)]
                exact TakePost.good hbl (ho5.lower hb24.size) hc5 (below_then (below_drewN hb24 _) hb24.size hb5)
            · rw [decide_eq_false hxy] at hEq
              have HX := Lib.hid hxy
              clear hxy
              go_quiet (first | exact quiet_some (hEq _) | exact quiet_add_some (hEq _) | exact hEq _)
              go_wp2
              ((try simp only [Exit.inBlock, Exit.then]); refine bodyPost_ret (results_tmp4 rfl _ _ _) rfl ?_)
              rw [← HR.out, if_pos (by simpa using HX.out)]
              exact TakePost.bad (below_drewN hb24 _)
end Go.Proofs.Ytokamaogognjoaa
