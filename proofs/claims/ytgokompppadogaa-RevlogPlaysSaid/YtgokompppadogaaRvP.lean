/-
  RevlogPlays' walk.
-/
import Derived.Test.YtgokompppadogaaRvP0
set_option linter.unusedVariables false
set_option linter.unusedSimpArgs false
namespace Go.Proofs.Ytgokompppadogaa
open Go.RowKit

theorem rf_new (w : World) : RfAt (w.alloc (.cells #[.slice none 0 0] 45)) (fun k => k = w.heap.size) w.heap.size [] :=
  ⟨none, 0, 0, [], Blk.new w _ _, ⟨rfl, .inl ⟨rfl, rfl⟩⟩, LInv.nil, rfl, rfl, Nat.le_refl _, rfl, fun k e => by simp [Value.ownBlock] at e, fun j hj => absurd hj (by omega)⟩
theorem pl_new {w w1 w2 : World} {g : Nat} (hg : LgAt w1 (w.heap.size ≤ ·) g []) (hb : Below w.heap.size w w1) (h2 : Below (w1.alloc (.cells #[.slice none 0 0] 45)).heap.size (w1.alloc (.cells #[.slice none 0 0] 45)) w2) : Pl w w2 g w1.heap.size (fun _ => False) [] [] := by
  have ha : Below w1.heap.size w1 (w1.alloc (.cells #[.slice none 0 0] 45)) := (Below.refl _ _).alloc (Nat.le_refl _) _
  have hz := h2.size
  rw [World.size_alloc] at hz
  have hz1 := hb.size
  refine ⟨⟨_, _, (hg.bounded.below ha).below h2, (rf_new w1).below h2, fun k hk => ⟨hk.1, ?_, ?_, fun h => h⟩, fun k hk => ?_⟩, fun _ h => h.elim, below_then (below_then hb hb.size ha) (below_then hb hb.size ha).size h2⟩
  · have := hk.2; omega
  · intro e
    have := hk.2
    omega
  · subst hk
    exact ⟨hz1, by omega, fun h => h⟩
set_option maxRecDepth 100000 in
set_option maxHeartbeats 40000000 in
theorem plays_walk (A : Option Addr) (n c : Nat) (l : List Op15) (ask : IdL) (at' : Int) (w : World) (hl : ROs w A n l) (hask : IsId ask) :
    Calls Try.prog 4 #[.slice A n c, ida ask, .int .i64 at'] w (BoolP true w) := by
  have hu := idTy
  have hb0 := idW_below ask w
  have HL := Lib.hid (show ∀ W, Below (idW ask w).heap.size (idW ask w) W → ∀ j, j < n → ∃ b o B c', A = some ⟨b, o, none⟩ ∧ W.rangeAt b (o + j * 44) (opC (op15 l j) B c') ∧ IsId (op15 l j).r1 ∧ IsId (op15 l j).r2 ∧ (op15 l j).text.length ≤ c' ∧ RB W B (op15 l j).text.length (op15 l j).text from fun W hW j hj => by
    obtain ⟨b, o, e, hc⟩ := hl.2 (by omega)
    obtain ⟨B, c', k1, k2, k3, k4, k5⟩ := hc j hj
    have hB := below_two hb0 hW
    exact ⟨b, o, B, c', e, fun i v hv => cell_later hB (k1 i v hv), k2, k3, k4, k5.below hB⟩)
  have HASK := Lib.hid (show ∀ W, Below (idW ask w).heap.size (idW ask w) W → (loadId ⟨w.heap.size, 0, none⟩).run Try.prog W = .ok (ida ask) W from fun W hW => run_loadId ((idW_blk ask w).below hW (idW_blk ask w).lt).range hask)
  clear hl
  go_enter Try.func4, Try.ntmps4
  go_wp2_with fail
  refine (new_any _).mono ?_
  rintro e w1 ⟨g, rfl, hg0, hb1⟩
  go_wp2_with fail
  refine (awake15_any _).mono ?_
  rintro e w2 ⟨rfl, hb2⟩
  have L0 : Pl (idW ask w) w2 g w1.heap.size (fun _ => False) [] [] := pl_new hg0 hb1 hb2
  generalize hr : w1.heap.size = r at *
  clear hg0 hb1 hb2 hr
  generalize hw0 : idW ask w = w0 at *
  clear hw0
  go_upto_block 0 with fail
  go_cut [9] (fun i wx => ∃ L, L.length ≤ 40 ∧ Pl w0 wx g r (fun _ => False) L L)
  case first => as_aux_lemma =>
    go_wp2_with fail
    go_loopw [9] (fun i wr => ∃ (j : Nat) (L : Lg), j ≤ n ∧ j ≤ 40 ∧ i = .int .i64 j ∧ L.length ≤ j ∧ Pl w0 wr g r (fun _ => False) L L) (fun i _ => n - (intOf i).toNat)
    case atStart => exact ⟨0, [], by omega, by omega, rfl, Nat.le_refl _, L0⟩
    case round =>
      obtain ⟨j, L, hj, hj40, rfl, hL, LP⟩ := hrel
      by_cases h1 : j < n
      · by_cases h25 : j < 40
        · obtain ⟨bs, o, BT, cT, rfl, hrow0, hi1, hi2, hTc, hTr⟩ := HL.out _ (Below.refl _ _) j h1
          have hrow := fun i v hv => cell_later LP.bel (hrow0 i v hv)
          have HTR := Lib.hid (show ∀ W, Below w0.heap.size w0 W → RB W BT (op15 l j).text.length (op15 l j).text from fun W hW => hTr.below hW)
          have r7 := run_loadOp hrow hi1 hi2
          have hrz : (Try.prog.info? 47).map (·.size) = some (opC (op15 l j) BT cT).toArray.size := by rw [List.size_toArray, opC_len hi1 hi2]; exact opSz
          have hrs : zop.size = (opC (op15 l j) BT cT).toArray.size := by rw [zop_size, List.size_toArray, opC_len hi1 hi2]
          have hra := opC_all (op15 l j) BT cT
          have HOC := Lib.hid (show ∀ (W : World) (g' : Nat), Blk W g' 47 (opC (op15 l j) BT cT).toArray → W.cell? ⟨g', 0, none⟩ = some (.slice BT (op15 l j).text.length cT) ∧ W.cell? ⟨g', 1, none⟩ = some (.int .i64 (op15 l j).a1) ∧ W.cell? ⟨g', 2, none⟩ = some (.int .i64 (op15 l j).a2) ∧ W.cell? ⟨g', 3, none⟩ = some (.bool (op15 l j).raw) ∧ W.rangeAt g' 4 (bv (op15 l j).r1) ∧ W.rangeAt g' 24 (bv (op15 l j).r2) from fun W g' hB => op_cells hB hi1 hi2)
          have j0 : (0 : Int) ≤ (j : Int) := by omega
          have j1 : (j : Int) < (n : Int) := by omega
          have j2 : (j : Int) < 40 := by omega
          have hTB := hTr.byts
          clear hrow hrow0 hTr
          generalize hOC : opC (op15 l j) BT cT = OC at *
          clear hOC
          generalize op15 l j = d at *
          obtain ⟨t, a1, a2, raw, x1, x2⟩ := d
          simp only at *
          have hwl := LP.bel.size
          by_cases hbig : 1000 < t.length
          · have hbig' : (1000 : Int) < (t.length : Int) := by omega
            go_wp2_with ((with_reducible refine st_row 47 10 56 wr.heap.size 47 OC.toArray zop ?_ ?_ ?_ hrz hrs hra ?_); rfl; rfl; exact Blk.new wr 47 zop; intro w10 hb10 hg10 hsz10; have q0 := (HOC.out _ _ hb10).1)
            go_roundw
            case rel =>
              have hbw : Below wr.heap.size wr w10 := ((Below.refl wr.heap.size wr).alloc (Nat.le_refl _) (.cells zop 47)).grown hg10 (by simp) (fun k hk => by cases hk; exact Nat.le_refl _)
              exact ⟨j + 1, L, by omega, by omega, by go_num, by omega, LP.next hbw⟩
            case measure => simp [intOf]; omega
          · have hbig' : ¬ (1000 : Int) < (t.length : Int) := by omega
            go_upto_region 9 with ((with_reducible refine st_row 47 10 56 wr.heap.size 47 OC.toArray zop ?_ ?_ ?_ hrz hrs hra ?_); rfl; rfl; exact Blk.new wr 47 zop; intro w10 hb10 hg10 hsz10; have q0 := (HOC.out _ _ hb10).1)
            obtain ⟨_, q1, q2, q3, q4, q5⟩ := HOC.out _ _ hb10
            have hbw : Below wr.heap.size wr w10 := ((Below.refl wr.heap.size wr).alloc (Nat.le_refl _) (.cells zop 47)).grown hg10 (by simp) (fun k hk => by cases hk; exact Nat.le_refl _)
            have LPw := LP.next hbw
            have HPA := Lib.hid (show ∀ W, Below w10.heap.size w10 W → ∀ x, Calls Try.prog 15 #[.pointer (some ⟨r, 0, none⟩), .int .i64 x] W (fun e w' => ∃ y, IsId y ∧ e = .returned (ida y) ∧ Below W.heap.size W w') from fun W hW x => by
              obtain ⟨⟨P, Q, _, hr, _⟩, _⟩ := LPw.next hW
              exact parent_any Q r L x W hr (by omega))
            have hd0 : Below w10.heap.size w10 w10.drew := below_drewN (Below.refl _ _) 1
            have hd1 : Below w10.heap.size w10 (w10.alloc (.cells zlit 27)).drew := below_drewN ((Below.refl _ _).alloc (Nat.le_refl _) _) 1
            have hd2 : Below w10.heap.size w10 ((w10.alloc (.cells zlit 27)).alloc (.cells zlit 27)).drew := below_drewN (((Below.refl _ _).alloc (Nat.le_refl _) _).alloc (by simp) _) 1
            clear hsz10
            go_cut [11, 12] (fun v1 v2 wx => ∃ b1 b2, v1 = .pointer (some ⟨b1, 0, none⟩) ∧ v2 = .pointer (some ⟨b2, 0, none⟩) ∧ w10.heap.size ≤ b1 ∧ w10.heap.size ≤ b2 ∧ b1 ≠ b2 ∧ Par w10 b1 b2 wx)
            case first => as_aux_lemma =>
              rw [stI_eq 11 64, stI_eq 12 68]
              go_region_held3 (fun W => W.cell? ⟨wr.heap.size, 1, none⟩ = some (.int .i64 a1) ∧ W.cell? ⟨wr.heap.size, 2, none⟩ = some (.int .i64 a2) ∧ Below w10.heap.size w10 W)
                (first | exact Sk.at_ q1 q2 hd0 | exact Sk.at_ q1 q2 hk2 | exact Sk.at_ q1 q2 hk1 | exact Sk.at_ q1 q2 (sk_alloc (by assumption) _) | exact Sk.at_ q1 q2 (sk_set (by assumption) _ _ (by omega)))
                (first
                  | (go_at_call 15; (fail_if_success have := hy1); refine (HPA.out _ (Sk.bel (by with_reducible assumption)) _).mono ?_; rintro e w11 ⟨y1, hy1, rfl, hc1⟩; have hk1 : Below w10.heap.size w10 w11 := sk_call (by with_reducible assumption) hc1; have hz11 := hc1.size; (try simp at hz11); have hz1 := hk1.size; have ht1 := (fun (b : Nat) (h : World.there _ b 0 20) => there_below h hc1); (try (refine (have t1 : w11.there w10.heap.size 0 20 := ?val; ?_); case val => (refine ht1 _ ?_; (repeat (first | with_reducible assumption | with_reducible exact there_new _ _ rfl | with_reducible exact there_new1 _ _ | with_reducible apply there_drewI | with_reducible apply there_setI | with_reducible apply there_oldI)); done))); (try (refine (have t2 : w11.there (w10.heap.size + 1) 0 20 := ?val; ?_); case val => (refine ht1 _ ?_; (repeat (first | with_reducible assumption | with_reducible exact there_new _ _ rfl | with_reducible exact there_new1 _ _ | with_reducible apply there_drewI | with_reducible apply there_setI | with_reducible apply there_oldI)); done))); (try (refine (have t5 : World.there (w11.alloc (.cells zlit 27)) w10.heap.size 0 20 := ?val; ?_); case val => ((repeat (first | with_reducible assumption | with_reducible exact there_new _ _ rfl | with_reducible exact there_new1 _ _ | with_reducible apply there_drewI | with_reducible apply there_setI | with_reducible apply there_oldI)); done))); (try (refine (have t6 : World.there (w11.alloc (.cells zlit 27)) (w10.heap.size + 1) 0 20 := ?val; ?_); case val => ((repeat (first | with_reducible assumption | with_reducible exact there_new _ _ rfl | with_reducible exact there_new1 _ _ | with_reducible apply there_drewI | with_reducible apply there_setI | with_reducible apply there_oldI)); done))); (try (refine (have t7 : World.there (w11.alloc (.cells zlit 27)) w11.heap.size 0 20 := ?val; ?_); case val => ((repeat (first | with_reducible assumption | with_reducible exact there_new _ _ rfl | with_reducible exact there_new1 _ _ | with_reducible apply there_drewI | with_reducible apply there_setI | with_reducible apply there_oldI)); done))); (try (refine (have t8 : World.there (w11.alloc (.cells zlit 27)) (w11.heap.size + 1) 0 20 := ?val; ?_); case val => ((repeat (first | with_reducible assumption | with_reducible exact there_new _ _ rfl | with_reducible exact there_new1 _ _ | with_reducible apply there_drewI | with_reducible apply there_setI | with_reducible apply there_oldI)); done))); (try (refine (have t9 : World.there ((w11.alloc (.cells zlit 27)).alloc (.cells zlit 27)) w10.heap.size 0 20 := ?val; ?_); case val => ((repeat (first | with_reducible assumption | with_reducible exact there_new _ _ rfl | with_reducible exact there_new1 _ _ | with_reducible apply there_drewI | with_reducible apply there_setI | with_reducible apply there_oldI)); done))); (try (refine (have t10 : World.there ((w11.alloc (.cells zlit 27)).alloc (.cells zlit 27)) (w10.heap.size + 1) 0 20 := ?val; ?_); case val => ((repeat (first | with_reducible assumption | with_reducible exact there_new _ _ rfl | with_reducible exact there_new1 _ _ | with_reducible apply there_drewI | with_reducible apply there_setI | with_reducible apply there_oldI)); done))); (try (refine (have t11 : World.there ((w11.alloc (.cells zlit 27)).alloc (.cells zlit 27)) w11.heap.size 0 20 := ?val; ?_); case val => ((repeat (first | with_reducible assumption | with_reducible exact there_new _ _ rfl | with_reducible exact there_new1 _ _ | with_reducible apply there_drewI | with_reducible apply there_setI | with_reducible apply there_oldI)); done))); (try (refine (have t12 : World.there ((w11.alloc (.cells zlit 27)).alloc (.cells zlit 27)) (w11.heap.size + 1) 0 20 := ?val; ?_); case val => ((repeat (first | with_reducible assumption | with_reducible exact there_new _ _ rfl | with_reducible exact there_new1 _ _ | with_reducible apply there_drewI | with_reducible apply there_setI | with_reducible apply there_oldI)); done))))
                  | (go_at_call 15; refine (HPA.out _ (Sk.bel (by with_reducible assumption)) _).mono ?_; rintro e w12 ⟨y2, hy2, rfl, hc2⟩; have hk2 : Below w10.heap.size w10 w12 := sk_call (by with_reducible assumption) hc2; have hz12 := hc2.size; (try simp at hz12); have hz2 := hk2.size; have ht2 := (fun (b : Nat) (h : World.there _ b 0 20) => there_below h hc2); (try (refine (have t13 : w12.there w10.heap.size 0 20 := ?val; ?_); case val => (refine ht2 _ ?_; (repeat (first | with_reducible assumption | with_reducible exact there_new _ _ rfl | with_reducible exact there_new1 _ _ | with_reducible apply there_drewI | with_reducible apply there_setI | with_reducible apply there_oldI)); done))); (try (refine (have t14 : w12.there (w10.heap.size + 1) 0 20 := ?val; ?_); case val => (refine ht2 _ ?_; (repeat (first | with_reducible assumption | with_reducible exact there_new _ _ rfl | with_reducible exact there_new1 _ _ | with_reducible apply there_drewI | with_reducible apply there_setI | with_reducible apply there_oldI)); done))); (try (refine (have t15 : w12.there w11.heap.size 0 20 := ?val; ?_); case val => (refine ht2 _ ?_; (repeat (first | with_reducible assumption | with_reducible exact there_new _ _ rfl | with_reducible exact there_new1 _ _ | with_reducible apply there_drewI | with_reducible apply there_setI | with_reducible apply there_oldI)); done))); (try (refine (have t16 : w12.there (w11.heap.size + 1) 0 20 := ?val; ?_); case val => (refine ht2 _ ?_; (repeat (first | with_reducible assumption | with_reducible exact there_new _ _ rfl | with_reducible exact there_new1 _ _ | with_reducible apply there_drewI | with_reducible apply there_setI | with_reducible apply there_oldI)); done))); (try (refine (have t19 : World.there (w12.alloc (.cells zlit 27)) w10.heap.size 0 20 := ?val; ?_); case val => ((repeat (first | with_reducible assumption | with_reducible exact there_new _ _ rfl | with_reducible exact there_new1 _ _ | with_reducible apply there_drewI | with_reducible apply there_setI | with_reducible apply there_oldI)); done))); (try (refine (have t20 : World.there (w12.alloc (.cells zlit 27)) (w10.heap.size + 1) 0 20 := ?val; ?_); case val => ((repeat (first | with_reducible assumption | with_reducible exact there_new _ _ rfl | with_reducible exact there_new1 _ _ | with_reducible apply there_drewI | with_reducible apply there_setI | with_reducible apply there_oldI)); done))); (try (refine (have t21 : World.there (w12.alloc (.cells zlit 27)) w11.heap.size 0 20 := ?val; ?_); case val => ((repeat (first | with_reducible assumption | with_reducible exact there_new _ _ rfl | with_reducible exact there_new1 _ _ | with_reducible apply there_drewI | with_reducible apply there_setI | with_reducible apply there_oldI)); done))); (try (refine (have t22 : World.there (w12.alloc (.cells zlit 27)) (w11.heap.size + 1) 0 20 := ?val; ?_); case val => ((repeat (first | with_reducible assumption | with_reducible exact there_new _ _ rfl | with_reducible exact there_new1 _ _ | with_reducible apply there_drewI | with_reducible apply there_setI | with_reducible apply there_oldI)); done))); (try (refine (have t23 : World.there (w12.alloc (.cells zlit 27)) w12.heap.size 0 20 := ?val; ?_); case val => ((repeat (first | with_reducible assumption | with_reducible exact there_new _ _ rfl | with_reducible exact there_new1 _ _ | with_reducible apply there_drewI | with_reducible apply there_setI | with_reducible apply there_oldI)); done))); (try (refine (have t24 : World.there (w12.alloc (.cells zlit 27)) (w12.heap.size + 1) 0 20 := ?val; ?_); case val => ((repeat (first | with_reducible assumption | with_reducible exact there_new _ _ rfl | with_reducible exact there_new1 _ _ | with_reducible apply there_drewI | with_reducible apply there_setI | with_reducible apply there_oldI)); done))); (try (refine (have t25 : World.there ((w12.alloc (.cells zlit 27)).alloc (.cells zlit 27)) w10.heap.size 0 20 := ?val; ?_); case val => ((repeat (first | with_reducible assumption | with_reducible exact there_new _ _ rfl | with_reducible exact there_new1 _ _ | with_reducible apply there_drewI | with_reducible apply there_setI | with_reducible apply there_oldI)); done))); (try (refine (have t26 : World.there ((w12.alloc (.cells zlit 27)).alloc (.cells zlit 27)) (w10.heap.size + 1) 0 20 := ?val; ?_); case val => ((repeat (first | with_reducible assumption | with_reducible exact there_new _ _ rfl | with_reducible exact there_new1 _ _ | with_reducible apply there_drewI | with_reducible apply there_setI | with_reducible apply there_oldI)); done))); (try (refine (have t27 : World.there ((w12.alloc (.cells zlit 27)).alloc (.cells zlit 27)) w11.heap.size 0 20 := ?val; ?_); case val => ((repeat (first | with_reducible assumption | with_reducible exact there_new _ _ rfl | with_reducible exact there_new1 _ _ | with_reducible apply there_drewI | with_reducible apply there_setI | with_reducible apply there_oldI)); done))); (try (refine (have t28 : World.there ((w12.alloc (.cells zlit 27)).alloc (.cells zlit 27)) (w11.heap.size + 1) 0 20 := ?val; ?_); case val => ((repeat (first | with_reducible assumption | with_reducible exact there_new _ _ rfl | with_reducible exact there_new1 _ _ | with_reducible apply there_drewI | with_reducible apply there_setI | with_reducible apply there_oldI)); done))); (try (refine (have t29 : World.there ((w12.alloc (.cells zlit 27)).alloc (.cells zlit 27)) w12.heap.size 0 20 := ?val; ?_); case val => ((repeat (first | with_reducible assumption | with_reducible exact there_new _ _ rfl | with_reducible exact there_new1 _ _ | with_reducible apply there_drewI | with_reducible apply there_setI | with_reducible apply there_oldI)); done))); (try (refine (have t30 : World.there ((w12.alloc (.cells zlit 27)).alloc (.cells zlit 27)) (w12.heap.size + 1) 0 20 := ?val; ?_); case val => ((repeat (first | with_reducible assumption | with_reducible exact there_new _ _ rfl | with_reducible exact there_new1 _ _ | with_reducible apply there_drewI | with_reducible apply there_setI | with_reducible apply there_oldI)); done)))))
              all_goals go_wp2
              all_goals go_meet
              all_goals first
                | exact ⟨_, _, rfl, rfl, by omega, by omega, by omega, par_set (by first | exact hk2 | exact bk_alloc hk2 _ | exact bk_alloc (bk_alloc hk2 _) _) (by (repeat (first | with_reducible assumption | with_reducible exact there_new _ _ rfl | with_reducible exact there_new1 _ _ | with_reducible apply there_drewI | with_reducible apply there_setI | with_reducible apply there_oldI)); done) (by (repeat (first | with_reducible assumption | with_reducible exact there_new _ _ rfl | with_reducible exact there_new1 _ _ | with_reducible apply there_drewI | with_reducible apply there_setI | with_reducible apply there_oldI)); done) (by omega) (by omega) (by omega) hy1 hy2⟩
                | exact ⟨_, _, rfl, rfl, by omega, by omega, by omega, par_tes (by first | exact hk2 | exact bk_alloc hk2 _ | exact bk_alloc (bk_alloc hk2 _) _) (by (repeat (first | with_reducible assumption | with_reducible exact there_new _ _ rfl | with_reducible exact there_new1 _ _ | with_reducible apply there_drewI | with_reducible apply there_setI | with_reducible apply there_oldI)); done) (by (repeat (first | with_reducible assumption | with_reducible exact there_new _ _ rfl | with_reducible exact there_new1 _ _ | with_reducible apply there_drewI | with_reducible apply there_setI | with_reducible apply there_oldI)); done) (by omega) (by omega) (by omega) hy1 hy2⟩
            case rest =>
              obtain ⟨b1, b2, rfl, rfl, hb1w, hb2w, hne, y1, y2, hy1, hy2, hr1, hr2, ht1, ht2, hbN⟩ := hcut
              rename World => wN
              have c3 := cell_later hbN q3
              have hdN : Below w10.heap.size w10 wN.drew := below_drewN hbN 1
              have hA1 : w10.heap.size ≤ b1 := hb1w
              have hA2 : w10.heap.size ≤ b2 := hb2w
              go_upto_if 70 with fail
              go_cut [] (fun wx => Par w10 b1 b2 wx)
              case first => as_aux_lemma =>
                cases raw with
                | false =>
                  go_wp2
                  go_meet
                  exact ⟨y1, y2, hy1, hy2, hr1, hr2, ht1, ht2, hbN⟩
                | true =>
                  go_upto_region 11 with fail
                  rw [stI_eq 11 72, stI_eq 12 74, ldI_eq 71, ldI_eq 73]
                  go_region_held3 (fun W => (loadId ⟨wr.heap.size, 4, none⟩).run Try.prog W = .ok (ida x1) W ∧ (loadId ⟨wr.heap.size, 24, none⟩).run Try.prog W = .ok (ida x2) W ∧ W.there b1 0 20 ∧ W.there b2 0 20 ∧ Below w10.heap.size w10 W)
                    (first | exact s11_at q4 q5 hi1 hi2 ht1 ht2 hdN | exact s11_at q4 q5 hi1 hi2 ht1 ht2 hbN | exact s11_set q4 q5 hi1 hi2 (by assumption) _ _ (by omega))
                    (fail)
                  all_goals go_wp2
                  all_goals go_meet
                  all_goals first
                    | exact par_set hbN ht1 ht2 (by omega) (by omega) hne hi1 hi2
                    | exact par_tes hbN ht1 ht2 (by omega) (by omega) hne hi1 hi2
                    | exact par_set hdN ht1 ht2 (by omega) (by omega) hne hi1 hi2
                    | exact par_tes hdN ht1 ht2 (by omega) (by omega) hne hi1 hi2
              case rest =>
                clear ht1 ht2 hr1 hr2 hbN hdN c3
                obtain ⟨p1, p2, hp1, hp2, hr1, hr2, _, _, hbM⟩ := hcut
                rename World => wM
                have mT := cell_later hbM q0
                have hbrM := below_two hbw hbM
                have zM := hbM.size
                have z10 := hbw.size
                clear y1 y2 hy1 hy2 HPA hd0 hd1 hd2 q1 q2 q3 q4 q5
                have hX := addX_id L t p1 p2
                have hzX := id_sz hX
                have hsX := id_zs hX
                have hlt1 := r7
                clear r7 hlt1
                go_upto_region 15 with (first
                  | (go_at_call 16; refine (own_any BT t.length cT t 71 _ (HTR.out _ (LP.next hbrM).bel) (by omega) (by omega) (by omega)).mono ?_; rintro e w13 ⟨bc, rfl, ho13, hb13⟩; have LP13 := LP.more (below_two hbrM hb13); have k1 := range_aft hr1 hb13; have k2 := range_aft hr2 hb13; have l1 := run_loadId k1 hp1; have l2 := run_loadId k2 hp2; have n13 := cell_later hb13 mT; have z13 := hb13.size; have y1 : Mk (fun _ => False) wr w13 b1 := .inr ⟨by omega, lt_of_range k1 hp1⟩; have y2 : Mk (fun _ => False) wr w13 b2 := .inr ⟨by omega, lt_of_range k2 hp2⟩; have yc : Mk (fun _ => False) wr w13 bc := .inr ⟨by have := ho13.1; omega, ho13.2.2.lt⟩; have yt : Mk (fun _ => False) wr w13 wr.heap.size := .inr ⟨Nat.le_refl _, World.block_lt_of_cell? _ _ n13⟩)
                  | (go_at_call 9; refine (pl_add LP13 (ho13.reads hTB) (by omega) (by omega) hp1 hp2 (by omega)).mono ?_; rintro e w14 ⟨rfl, LP14, hc14⟩; have g1 := hc14.kept k1 y1; have g2 := hc14.kept k2 y2; have n14 := hc14.cell n13 (fun h => h yt); have o14 := hc14.own ho13 yc)
                  | ((with_reducible refine st_row 27 14 84 w14.heap.size 27 (bv (addX L t p1 p2)).toArray zid ?_ ?_ ?_ hzX hsX (bvArr_all (addX L t p1 p2)) ?_); rfl; rfl; exact Blk.new w14 27 zid; intro w15 hk15 hg15 hsz15; have hb15 : Below w14.heap.size w14 w15 := ((Below.refl w14.heap.size w14).alloc (Nat.le_refl _) (.cells zid 27)).grown hg15 (by simp) (fun k hk => by cases hk; exact Nat.le_refl _); have LP15 := LP14.more hb15; have f1 := range_aft g1 hb15; have f2 := range_aft g2 hb15; have e1 := run_loadId f1 hp1; have e2 := run_loadId f2 hp2; have n15 := cell_later hb15 n14; have o15 := o14.below hb15; have ya : Mk (Mk (fun _ => False) wr w13) w14 w15 w14.heap.size := .inr ⟨Nat.le_refl _, hk15.lt⟩)
                  | (go_at_call 17; refine (pl_radd LP15 (HTR.out _ (Below.refl _ _)) hTc (by omega) hp1 hp2 (by omega)).mono ?_; rintro e w16 ⟨rfl, LP16, hc16⟩; have d1 := hc16.kept f1 (.inl y1); have d2 := hc16.kept f2 (.inl y2); have n16 := hc16.cell n15 (fun h => h (.inl yt)); have o16 := hc16.own o15 (.inl yc); have k16 := hc16.keptBlk hk15 ya)
                  | ((with_reducible refine st_row 27 16 93 w16.heap.size 27 (bv (addX L t p1 p2)).toArray zid ?_ ?_ ?_ hzX hsX (bvArr_all (addX L t p1 p2)) ?_); rfl; rfl; exact Blk.new w16 27 zid; intro w17 hk17 hg17 hsz17; have hb17 : Below w16.heap.size w16 w17 := ((Below.refl w16.heap.size w16).alloc (Nat.le_refl _) (.cells zid 27)).grown hg17 (by simp) (fun k hk => by cases hk; exact Nat.le_refl _)))
                have LP17 := LP16.next hb17
                obtain ⟨AL, cL, hAL⟩ := LP17.refRow
                have o17 := o16.below hb17
                have hL1 := (addL_length L t p1 p2).2
                have HS := Lib.hid (show ∀ W, Below w17.heap.size w17 W → S15 w17 w14.heap.size w16.heap.size b1 b2 wr.heap.size r (addX L t p1 p2) p1 p2 BT t.length cT AL (addL L t p1 p2).length cL W from fun W hW =>
                  have hB := below_two hb17 hW
                  ⟨run_loadId (k16.below hB k16.lt).range hX, run_loadId (hk17.below hW hk17.lt).range hX, run_loadId (range_aft d1 hB) hp1, run_loadId (range_aft d2 hB) hp2, cell_later hB n16, cell_later hW hAL, hW⟩)
                have HK := Lib.hid (show ∀ W, Below w17.heap.size w17 W → Calls Try.prog 18 #[.slice (some ⟨bc, 0, none⟩) t.length (t.length + 3), .slice BT t.length cT, .int .u8 71] W (Quiet (.bool true) W) from fun W hW => kept_any wM.heap.size bc t.length cT BT t 71 W (o17.below hW) hTB (HTR.out W (LP17.next hW).bel) (by omega))
                have HLN := Lib.hid (show ∀ W, Below w17.heap.size w17 W → Calls Try.prog 14 #[.pointer (some ⟨g, 0, none⟩)] W (IntP ((addL L t p1 p2).length : Nat) W) from fun W hW => (LP17.next hW).lenP)
                have HND := Lib.hid (show ∀ W, Below w17.heap.size w17 W → Calls Try.prog 19 #[.slice BT t.length cT, ida p1, ida p2] W (IdP (nodeV t p1 p2) W) from fun W hW => node_any BT t.length cT t p1 p2 W (HTR.out W (LP17.next hW).bel) hTc (by omega) hp1 hp2)
                have HRN := Lib.hid (show ∀ W, Below w17.heap.size w17 W → Calls Try.prog 20 #[.slice BT t.length cT, ida p1, ida p2] W (IdP (nodeV t p1 p2) W) from fun W hW => rnode_any BT t.length cT t p1 p2 W (HTR.out W (LP17.next hW).bel) hTc (by omega) hp1 hp2)
                have hXX : ∀ W, (binOp .neq 27 (ida (addX L t p1 p2)) (ida (addX L t p1 p2))).run Try.prog W = .ok (.bool false) W := fun W => by simpa using ida_neq hX hX W
                have hZZ : ∀ W, (binOp .neq 27 (ida (nodeV t p1 p2)) (ida (nodeV t p1 p2))).run Try.prog W = .ok (.bool false) W := fun W => by simpa using ida_neq (nodeV_id t p1 p2) (nodeV_id t p1 p2) W
                have hd17 : Below w17.heap.size w17 w17.drew := below_drewN (Below.refl _ _) 1
                have HO := Lib.hid (show ∀ W, Below w17.heap.size w17 W → OB W wM.heap.size (.slice (some ⟨bc, 0, none⟩) t.length (t.length + 3)) t.length t from fun W hW => ownB_ob (o17.below hW) hTB (by omega))
                have HY := Lib.hid (show Mk (Mk (fun _ => False) wr w13) w14 w15 bc ∧ w0.heap.size ≤ bc from ⟨.inl yc, by have := ho13.1; omega⟩)
                clear hk17 k16 hk15 n16 n15 n14 n13 mT d1 d2 f1 f2 g1 g2 e1 e2 k1 k2 l1 l2 hr1 hr2 o17 o16 o15 o14 ho13 hAL y1 y2 yc yt ya hc16 hc14 hsz15 hsz17 hg15 hg17 hzX hsX LP16 LP15 LP14 LP13
                generalize addL L t p1 p2 = L1 at *
                generalize addX L t p1 p2 = X at *
                generalize nodeV t p1 p2 = Z at *
                generalize mayE L t p1 p2 = mE at *
                go_cut [132] (fun v wx => v = .bool false ∧ Below w17.heap.size w17 wx)
                case first => as_aux_lemma =>
                  rw [ldI_eq 14, ldI_eq 16, ldI_eq 11, ldI_eq 12]
                  go_region_held3 (fun W => (loadId ⟨w14.heap.size, 0, none⟩).run Try.prog W = .ok (ida X) W ∧ (loadId ⟨w16.heap.size, 0, none⟩).run Try.prog W = .ok (ida X) W ∧ (loadId ⟨b1, 0, none⟩).run Try.prog W = .ok (ida p1) W ∧ (loadId ⟨b2, 0, none⟩).run Try.prog W = .ok (ida p2) W ∧ W.cell? ⟨wr.heap.size, 0, none⟩ = some (.slice BT t.length cT) ∧ W.cell? ⟨r, 0, none⟩ = some (.slice AL L1.length cL) ∧ Below w17.heap.size w17 W)
                    (first | exact HS.out _ (by with_reducible assumption) | exact HS.out _ (below_drewN (Below.refl _ _) _))
                    (first
                      | (go_at_call 18; refine (HK.out _ (S15.bel (by with_reducible assumption))).mono ?_; rintro e w18 ⟨rfl, qk, rfl⟩; have hb18 := below_drewN (S15.bel (by with_reducible assumption)) qk)
                      | (go_at_call 14; refine (HLN.out _ (S15.bel (by with_reducible assumption))).mono ?_; rintro e w19 ⟨rfl, hb19⟩; have hb19 := below_two (S15.bel (by with_reducible assumption)) hb19)
                      | (go_at_call 19; refine (HND.out _ (S15.bel (by with_reducible assumption))).mono ?_; rintro e w20 ⟨rfl, hb20⟩; have hb20 := below_two (S15.bel (by with_reducible assumption)) hb20)
                      | (go_at_call 20; refine (HRN.out _ (S15.bel (by with_reducible assumption))).mono ?_; rintro e w21 ⟨rfl, hb21⟩; have hb21 := below_two (S15.bel (by with_reducible assumption)) hb21))
                  all_goals go_wp2
                  all_goals go_meet
                  all_goals exact ⟨rfl, by assumption⟩
                case rest =>
                  obtain ⟨rfl, hb22⟩ := hcut
                  rename World => w22
                  have hob := HO.out _ hb22
                  have LP22 := LP17.next hb22
                  go_wp2_with (go_at_call 21; refine (spoil_any _ _ _ _ _ _ hob (by omega)).mono ?_; rintro e w23 ⟨rfl, _, hgr⟩)
                  go_roundw
                  case rel =>
                    refine ⟨j + 1, L1, by omega, by omega, by go_num, by omega, (LP22.turn hgr ?_ ?_).bare⟩
                    · intro k e
                      cases e
                      exact .inl HY.out.1
                    · intro k e
                      cases e
                      exact HY.out.2
                  case measure => simp [intOf]; omega
        · obtain rfl : j = 40 := by omega
          have j1 : (40 : Int) < (n : Int) := by omega
          go_wp2
          go_meet
          exact ⟨L, hL, LP⟩
      · obtain rfl : j = n := by omega
        go_wp2
        go_meet
        exact ⟨L, Nat.le_trans hL hj40, LP⟩
  case rest =>
    obtain ⟨L, hL, LP⟩ := hcut
    rename World => wa
    clear L0 HL
    go_upto_block 2 with fail
    go_cut [18] (fun i wx => Pl w0 wx g r (fun _ => False) L L)
    case first => as_aux_lemma =>
      clear HASK
      go_wp2_with fail
      go_loopw [18] (fun i wr => ∃ k : Nat, k ≤ L.length ∧ i = .int .i64 k ∧ Pl w0 wr g r (fun _ => False) L L) (fun i _ => L.length - (intOf i).toNat)
      case atStart => exact ⟨0, by omega, rfl, LP⟩
      case round =>
        obtain ⟨k, hk, rfl, LPr⟩ := hrel
        clear LP
        by_cases h1 : k < L.length
        · obtain ⟨bl, ol, cL, BT, dT, cell0, hrow, hdT, hrT, hinv⟩ := LPr.rev h1
          have hid := hinv.ids k h1
          obtain ⟨v1, v2, v3, v4, v5, v6, v7⟩ := own_rv hinv h1
          have k0 : (0 : Int) ≤ (k : Int) := by omega
          have k1 : (k : Int) < (L.length : Int) := by omega
          have hBe := Lib.hid (show ∀ W, Below wr.heap.size wr W → Pl w0 W g r (fun _ => False) L L from fun W hW => LPr.next hW)
          have HT := Lib.hid (show ∀ W, Below wr.heap.size wr W → Calls Try.prog 11 #[.pointer (some ⟨g, 0, none⟩), ida (rv L k).node] W (TxtP (rv L k).text 0 W) from fun W hW => by
            have := (LPr.next hW).textP hid.1 (by omega)
            rwa [v1, v2] at this)
          have HP := Lib.hid (show ∀ W, Below wr.heap.size wr W → Calls Try.prog 22 #[.pointer (some ⟨g, 0, none⟩), ida (rv L k).node] W (ParP (rv L k).p1 (rv L k).p2 0 W) from fun W hW => by
            have := (LPr.next hW).parP hid.1
            rwa [v2, v3, v4] at this)
          have HN := Lib.hid (show ∀ W, Below wr.heap.size wr W → Calls Try.prog 23 #[.pointer (some ⟨g, 0, none⟩), .int .i64 k] W (NodP (rv L k).node true W) from fun W hW => by
            have := (LPr.next hW).nodP k
            rwa [v5, v6] at this)
          have HC := Lib.hid (show ∀ W, Below wr.heap.size wr W → Calls Try.prog 13 #[.pointer (some ⟨g, 0, none⟩), .int .i64 k] W (IntP ((rv L k).chain : Nat) W) from fun W hW => by
            have := (LPr.next hW).chaP k
            rwa [v7] at this)
          have HRT := Lib.hid (show ∀ W, Below wr.heap.size wr W → RB W BT (rv L k).text.length (rv L k).text from fun W hW => hrT.below hW)
          have r7 := run_loadRev hrow hid
          have hrz : (Try.prog.info? 54).map (·.size) = some (rfC (rv L k) (.slice BT (rv L k).text.length dT)).toArray.size := by rw [List.size_toArray, rfC_len hid]; exact revSz
          have hrs : zrf.size = (rfC (rv L k) (.slice BT (rv L k).text.length dT)).toArray.size := by rw [zrf_size, List.size_toArray, rfC_len hid]
          have hra := rfC_all (rv L k) BT (rv L k).text.length dT
          have HFL := Lib.hid (show ∀ (W : World) (g' : Nat), Blk W g' 54 (rfC (rv L k) (.slice BT (rv L k).text.length dT)).toArray → (loadId ⟨g', 0, none⟩).run Try.prog W = .ok (ida (rv L k).node) W ∧ (loadId ⟨g', 20, none⟩).run Try.prog W = .ok (ida (rv L k).p1) W ∧ (loadId ⟨g', 40, none⟩).run Try.prog W = .ok (ida (rv L k).p2) W ∧ W.cell? ⟨g', 60, none⟩ = some (.slice BT (rv L k).text.length dT) ∧ W.cell? ⟨g', 61, none⟩ = some (.int .i64 ((rv L k).chain : Nat)) from fun W g' hB => rev_cells hB hid)
          obtain ⟨iX, i1, i2⟩ := hid
          have htl : (rv L k).text.length ≤ 1500 := (hinv.txt k h1).2
          have hzX := id_sz iX
          have hsX := id_zs iX
          have hz1 := id_sz i1
          have hs1 := id_zs i1
          have hz2 := id_sz i2
          have hs2 := id_zs i2
          have hXX : ∀ W, (binOp .neq 27 (ida (rv L k).node) (ida (rv L k).node)).run Try.prog W = .ok (.bool false) W := fun W => by simpa using ida_neq iX iX W
          have h11 : ∀ W, (binOp .neq 27 (ida (rv L k).p1) (ida (rv L k).p1)).run Try.prog W = .ok (.bool false) W := fun W => by simpa using ida_neq i1 i1 W
          have h22 : ∀ W, (binOp .neq 27 (ida (rv L k).p2) (ida (rv L k).p2)).run Try.prog W = .ok (.bool false) W := fun W => by simpa using ida_neq i2 i2 W
          have HLP := Lib.hid (show Pl w0 wr g r (fun _ => False) L L from LPr)
          clear hrow hrT hinv v1 v2 v3 v4 v5 v6 v7 LPr
          generalize hRC : rfC (rv L k) (.slice BT (rv L k).text.length dT) = RC at *
          clear hRC
          generalize (rv L k).node = X at *
          generalize (rv L k).text = tx at *
          generalize (rv L k).p1 = p1 at *
          generalize (rv L k).p2 = p2 at *
          generalize (rv L k).chain = ch at *
          have hnz : ∀ W : World, Blk (W.alloc (.cells zlit 27)) W.heap.size 27 zid := fun W => Blk.new W 27 zlit
          go_upto_region 25 with (first
            | ((with_reducible refine st_row 54 19 150 wr.heap.size 54 RC.toArray zrf ?_ ?_ ?_ hrz hrs hra ?_); rfl; rfl; exact Blk.new wr 54 zrf; intro w1' hk19 hg1 hsz1; have hb1 : Below wr.heap.size wr w1' := ((Below.refl wr.heap.size wr).alloc (Nat.le_refl _) (.cells zrf 54)).grown hg1 (by simp) (fun k hk => by cases hk; exact Nat.le_refl _); have q1 := (HFL.out _ _ hk19).1)
            | (go_at_call 11; refine (HT.out _ hb1).mono ?_; rintro e w3 ⟨A3, c3, rfl, ho3, hc3, hb13⟩; have hb3 := below_two hb1 hb13; have hk3 := hk19.below hb13 hk19.lt; have q3 := (HFL.out _ _ hk3).1)
            | (go_at_call 22; refine (HP.out _ hb3).mono ?_; rintro e w4 ⟨rfl, hb34⟩; have hb4 := below_two hb3 hb34; have hk4 := hk3.below hb34 hk3.lt)
            | ((with_reducible refine st_row 27 22 163 w4.heap.size 27 (bv p1).toArray zid ?_ ?_ ?_ hz1 hs1 (bvArr_all p1) ?_); rfl; rfl; exact (hnz w4).alloc _; intro w5 hk5 hg5 hsz5; have hb45 := (((Below.refl w4.heap.size w4).alloc (Nat.le_refl _) (.cells zlit 27)).alloc (by simp) (.cells zlit 27)).grown hg5 (by simp; omega) (fun k hk => by cases hk; exact Nat.le_refl _); have hk13 : Blk w5 (w4.heap.size + 1) 27 zid := (show Blk ((w4.alloc (.cells zlit 27)).alloc (.cells zlit 27)) (w4.heap.size + 1) 27 zid from by have := hnz (w4.alloc (.cells zlit 27)); rwa [World.size_alloc] at this).grown hg5 (by intro e; injection e with e; omega))
            | ((with_reducible refine st_row 27 23 164 (w4.heap.size + 1) 27 (bv p2).toArray zid ?_ ?_ ?_ hz2 hs2 (bvArr_all p2) ?_); rfl; rfl; exact hk13; intro w6 hk6 hg6 hsz6; have hb46 := hb45.grown hg6 hb45.size (fun k hk => by cases hk; omega); have hk12 := hk5.grown hg6 (by intro e; injection e with e; omega); have hb6 := below_two hb4 hb46)
            | (go_at_call 23; refine (HN.out _ hb6).mono ?_; rintro e w7 ⟨rfl, hb67⟩; have hb7 := below_two hb6 hb67)
            | ((with_reducible refine st_row 27 25 170 w7.heap.size 27 (bv X).toArray zid ?_ ?_ ?_ hzX hsX (bvArr_all X) ?_); rfl; rfl; exact hnz w7; intro w8 hk25 hg8 hsz8; have hb78 := ((Below.refl w7.heap.size w7).alloc (Nat.le_refl _) (.cells zlit 27)).grown hg8 (by simp) (fun k hk => by cases hk; exact Nat.le_refl _)))
          have hb8 := below_two hb7 hb78
          have b38 := below_two (below_two hb34 hb46) (below_two hb67 hb78)
          have b68 := below_two hb67 hb78
          have HS := Lib.hid (show ∀ W, Below w8.heap.size w8 W → S25 w8 w4.heap.size (w4.heap.size + 1) w7.heap.size wr.heap.size X p1 p2 BT tx.length dT (ch : Nat) W from fun W hW =>
            have hB := below_two b68 hW
            have hR := HFL.out _ _ (hk3.below (below_two b38 hW) hk3.lt)
            ⟨run_loadId (hk12.below hB hk12.lt).range i1, run_loadId (hk6.below hB hk6.lt).range i2, run_loadId (hk25.below hW hk25.lt).range iX, hR.1, hR.2.1, hR.2.2.1, hR.2.2.2.1, hR.2.2.2.2, hW⟩)
          have HBY := Lib.hid (show ∀ W, Below w8.heap.size w8 W → Calls Try.prog 12 #[.slice A3 tx.length c3, .slice BT tx.length dT] W (fun e w' => e = .returned (.bool true) ∧ W = w') from fun W hW => by
            have := bytes_any A3 BT tx.length tx.length c3 dT tx tx W ((ho3.below (below_two b38 hW)).reads) (HRT.out _ (below_two hb8 hW))
            rwa [decide_eq_true rfl] at this)
          have HO := Lib.hid (show ∀ W, Below w8.heap.size w8 W → OB W w1'.heap.size (.slice A3 tx.length c3) tx.length tx from fun W hW => ho3.below (below_two b38 hW))
          have HCC := Lib.hid (show ∀ W, Below w8.heap.size w8 W → Calls Try.prog 13 #[.pointer (some ⟨g, 0, none⟩), .int .i64 k] W (IntP (ch : Nat) W) from fun W hW => HC.out _ (below_two hb8 hW))
          have z1 := hb1.size
          have hd8 : Below w8.heap.size w8 w8.drew := below_drewN (Below.refl _ _) 1
          clear ho3 hk3 hk19 hk4 hk5 hk6 hk12 hk13 hk25 q1 q3 hsz1 hsz5 hsz6 hsz8 hg1 hg5 hg6 hg8 b38 b68 hb1 hb3 hb4 hb6 hb7 hb13 hb34 hb46 hb45 hb67 hb78 hzX hsX hz1 hs1 hz2 hs2 hrz hrs hra r7 cell0
          go_cut [214] (fun v wx => v = .bool false ∧ Below w8.heap.size w8 wx)
          case first => as_aux_lemma =>
            rw [ldI_eq 22, ldI_eq 187, ldI_eq 23, ldI_eq 193, ldI_eq 25, ldI_eq 203]
            go_region_held3 (fun W => (loadId ⟨w4.heap.size, 0, none⟩).run Try.prog W = .ok (ida p1) W ∧ (loadId ⟨w4.heap.size + 1, 0, none⟩).run Try.prog W = .ok (ida p2) W ∧ (loadId ⟨w7.heap.size, 0, none⟩).run Try.prog W = .ok (ida X) W ∧ (loadId ⟨wr.heap.size, 0, none⟩).run Try.prog W = .ok (ida X) W ∧ (loadId ⟨wr.heap.size, 20, none⟩).run Try.prog W = .ok (ida p1) W ∧ (loadId ⟨wr.heap.size, 40, none⟩).run Try.prog W = .ok (ida p2) W ∧ W.cell? ⟨wr.heap.size, 60, none⟩ = some (.slice BT tx.length dT) ∧ W.cell? ⟨wr.heap.size, 61, none⟩ = some (.int .i64 (ch : Nat)) ∧ Below w8.heap.size w8 W)
              (first | exact HS.out _ (by with_reducible assumption) | exact HS.out _ (below_drewN (Below.refl _ _) _))
              (first
                | (go_at_call 12; refine (HBY.out _ (S25.bel (by with_reducible assumption))).mono ?_; rintro e w9 ⟨rfl, rfl⟩)
                | (go_at_call 13; refine (HCC.out _ (S25.bel (by with_reducible assumption))).mono ?_; rintro e w10 ⟨rfl, hb10⟩; have hb10 := below_two (S25.bel (by with_reducible assumption)) hb10))
            all_goals go_wp2
            all_goals go_meet
            all_goals exact ⟨rfl, by assumption⟩
          case rest =>
            obtain ⟨rfl, hb22⟩ := hcut
            rename World => w22
            have hob := HO.out _ hb22
            go_wp2_with (go_at_call 21; refine (spoil_any _ _ _ _ _ _ hob (by omega)).mono ?_; rintro e w23 ⟨rfl, _, hgr⟩)
            go_roundw
            case rel =>
              have hB := below_two hb8 hb22
              exact ⟨k + 1, by omega, by go_num, HLP.out.next (hB.grown hgr hB.size (fun k e => Nat.le_trans z1 (ob_ge hob e)))⟩
            case measure => simp [intOf]; omega
        · obtain rfl : k = L.length := by omega
          obtain ⟨AL, cL, cell0⟩ := LPr.refRow
          go_wp2
          go_meet
          exact LPr
    case rest => as_aux_lemma =>
      rename World => wb
      have LPb : Pl w0 wb g r (fun _ => False) L L := hcut
      clear LP hcut
      have hinv := LPb.inv
      obtain ⟨i1, i2⟩ := parV_id hinv ask
      have iN := nodI_id hinv at'
      obtain ⟨AL, cL, hAL⟩ := LPb.refRow
      have HAS := Lib.hid (show ∀ W, Below wb.heap.size wb W → (loadId ⟨w.heap.size, 0, none⟩).run Try.prog W = .ok (ida ask) W from fun W hW => HASK.out _ (LPb.next hW).bel)
      have HCL := Lib.hid (show ∀ W, Below wb.heap.size wb W → W.cell? ⟨r, 0, none⟩ = some (.slice AL L.length cL) from fun W hW => cell_later hW hAL)
      have HT := Lib.hid (show ∀ W, Below wb.heap.size wb W → Calls Try.prog 11 #[.pointer (some ⟨g, 0, none⟩), ida ask] W (TxtP (txtV L ask) (findE L ask) W) from fun W hW => (LPb.next hW).textP hask (by omega))
      have HP := Lib.hid (show ∀ W, Below wb.heap.size wb W → Calls Try.prog 22 #[.pointer (some ⟨g, 0, none⟩), ida ask] W (ParP (parV L ask).1 (parV L ask).2 (findE L ask) W) from fun W hW => (LPb.next hW).parP hask)
      have HN := Lib.hid (show ∀ W, Below wb.heap.size wb W → Calls Try.prog 23 #[.pointer (some ⟨g, 0, none⟩), .int .i64 at'] W (NodP (nodI L at') (nodB L at') W) from fun W hW => (LPb.next hW).nodP at')
      have HC := Lib.hid (show ∀ W, Below wb.heap.size wb W → Calls Try.prog 13 #[.pointer (some ⟨g, 0, none⟩), .int .i64 at'] W (IntP (chaI L at') W) from fun W hW => (LPb.next hW).chaP at')
      have HA := Lib.hid (show ∀ W, Below wb.heap.size wb W → Calls Try.prog 24 #[.pointer (some ⟨r, 0, none⟩), ida ask] W (IntP (atX L ask) W) from fun W hW => (LPb.next hW).atP hask (by omega))
      have HB := Lib.hid (show ∀ W, Below wb.heap.size wb W → Below w.heap.size w W from fun W hW => below_two hb0 (LPb.next hW).bel)
      have r0 := HAS.out _ (Below.refl _ _)
      have hzn : ∀ W, (binOp .neq 27 (ida zeroL) (.agg zlit)).run Try.prog W = .ok (.bool false) W := fun W => by simpa using idz_neq zeroL_id W
      have hze : ∀ W, (binOp .eql 27 (ida zeroL) (.agg zlit)).run Try.prog W = .ok (.bool true) W := fun W => by simpa using idz_eql zeroL_id W
      have hnz : ∀ W : World, Blk (W.alloc (.cells zlit 27)) W.heap.size 27 zid := fun W => Blk.new W 27 zlit
      have hac := ask_cases L ask
      have hat := at_cases L at'
      clear hAL hinv LPb HASK
      generalize txtV L ask = ty at *
      generalize findE L ask = ee at *
      generalize (parV L ask).1 = y1 at *
      generalize (parV L ask).2 = y2 at *
      generalize nodI L at' = yn at *
      generalize nodB L at' = nb at *
      generalize chaI L at' = ca at *
      generalize atX L ask = aa at *
      have hz1 := id_sz i1
      have hs1 := id_zs i1
      have hz2 := id_sz i2
      have hs2 := id_zs i2
      have hzX := id_sz iN
      have hsX := id_zs iN
      rcases hac with ⟨ha, rfl, ht, rfl, rfl⟩ | ha
      · obtain rfl : ty = [] := List.eq_nil_of_length_eq_zero ht
        clear ht
        go_upto_region 33 with (first
          | (go_at_call 11; refine (HT.out _ (Below.refl _ _)).mono ?_; rintro e w3 ⟨A3, c3, rfl, ho3, hc3, hb3⟩; have r3 := HAS.out _ hb3)
          | (go_at_call 22; refine (HP.out _ hb3).mono ?_; rintro e w4 ⟨rfl, hb34⟩; have hb4 := below_two hb3 hb34)
          | ((with_reducible refine st_row 27 29 227 w4.heap.size 27 (bv zeroL).toArray zid ?_ ?_ ?_ hz1 hs1 (bvArr_all zeroL) ?_); rfl; rfl; exact (hnz w4).alloc _; intro w5 hk5 hg5 hsz5; have hb45 := (((Below.refl w4.heap.size w4).alloc (Nat.le_refl _) (.cells zlit 27)).alloc (by simp) (.cells zlit 27)).grown hg5 (by simp; omega) (fun k hk => by cases hk; exact Nat.le_refl _); have hk13 : Blk w5 (w4.heap.size + 1) 27 zid := (show Blk ((w4.alloc (.cells zlit 27)).alloc (.cells zlit 27)) (w4.heap.size + 1) 27 zid from by have := hnz (w4.alloc (.cells zlit 27)); rwa [World.size_alloc] at this).grown hg5 (by intro e; injection e with e; omega))
          | ((with_reducible refine st_row 27 30 228 (w4.heap.size + 1) 27 (bv zeroL).toArray zid ?_ ?_ ?_ hz2 hs2 (bvArr_all zeroL) ?_); rfl; rfl; exact hk13; intro w6 hk6 hg6 hsz6; have hb46 := hb45.grown hg6 hb45.size (fun k hk => by cases hk; omega); have hk12 := hk5.grown hg6 (by intro e; injection e with e; omega); have hb6 := below_two hb4 hb46)
          | (go_at_call 23; refine (HN.out _ hb6).mono ?_; rintro e w7 ⟨rfl, hb67⟩; have hb7 := below_two hb6 hb67)
          | ((with_reducible refine st_row 27 32 234 w7.heap.size 27 (bv yn).toArray zid ?_ ?_ ?_ hzX hsX (bvArr_all yn) ?_); rfl; rfl; exact hnz w7; intro w8 hk25 hg8 hsz8; have hb78 := ((Below.refl w7.heap.size w7).alloc (Nat.le_refl _) (.cells zlit 27)).grown hg8 (by simp) (fun k hk => by cases hk; exact Nat.le_refl _); have hb8 := below_two hb7 hb78; have r8 := HAS.out _ hb8; have b68 := below_two hb67 hb78)
          | (go_at_call 24; refine (HA.out _ hb8).mono ?_; rintro e w9 ⟨rfl, hb89⟩; have hb9 := below_two hb8 hb89; have q29 := run_loadId (hk12.below (below_two b68 hb89) hk12.lt).range i1; have q30 := run_loadId (hk6.below (below_two b68 hb89) hk6.lt).range i2; have q32 := run_loadId (hk25.below hb89 hk25.lt).range iN; have cr := HCL.out _ hb9))
        rcases hat with ⟨a0, a1⟩ | ⟨hn, rfl, rfl, rfl⟩
        · go_wp2
          go_ret
          exact ⟨rfl, HB.out _ hb9⟩
        · by_cases a0 : 0 ≤ at'
          · have a1 : ¬ at' < (L.length : Int) := fun h => hn ⟨a0, h⟩
            clear hn
            go_wp2_with (go_at_call 13; refine (HC.out _ hb9).mono ?_; rintro e w10 ⟨rfl, hb10⟩)
            go_ret
            exact ⟨rfl, HB.out _ (below_two hb9 hb10)⟩
          · clear hn
            go_wp2_with (go_at_call 13; refine (HC.out _ hb9).mono ?_; rintro e w10 ⟨rfl, hb10⟩)
            go_ret
            exact ⟨rfl, HB.out _ (below_two hb9 hb10)⟩
      · go_upto_region 33 with (first
          | (go_at_call 11; refine (HT.out _ (Below.refl _ _)).mono ?_; rintro e w3 ⟨A3, c3, rfl, ho3, hc3, hb3⟩; have r3 := HAS.out _ hb3)
          | (go_at_call 22; refine (HP.out _ hb3).mono ?_; rintro e w4 ⟨rfl, hb34⟩; have hb4 := below_two hb3 hb34)
          | ((with_reducible refine st_row 27 29 227 w4.heap.size 27 (bv y1).toArray zid ?_ ?_ ?_ hz1 hs1 (bvArr_all y1) ?_); rfl; rfl; exact (hnz w4).alloc _; intro w5 hk5 hg5 hsz5; have hb45 := (((Below.refl w4.heap.size w4).alloc (Nat.le_refl _) (.cells zlit 27)).alloc (by simp) (.cells zlit 27)).grown hg5 (by simp; omega) (fun k hk => by cases hk; exact Nat.le_refl _); have hk13 : Blk w5 (w4.heap.size + 1) 27 zid := (show Blk ((w4.alloc (.cells zlit 27)).alloc (.cells zlit 27)) (w4.heap.size + 1) 27 zid from by have := hnz (w4.alloc (.cells zlit 27)); rwa [World.size_alloc] at this).grown hg5 (by intro e; injection e with e; omega))
          | ((with_reducible refine st_row 27 30 228 (w4.heap.size + 1) 27 (bv y2).toArray zid ?_ ?_ ?_ hz2 hs2 (bvArr_all y2) ?_); rfl; rfl; exact hk13; intro w6 hk6 hg6 hsz6; have hb46 := hb45.grown hg6 hb45.size (fun k hk => by cases hk; omega); have hk12 := hk5.grown hg6 (by intro e; injection e with e; omega); have hb6 := below_two hb4 hb46)
          | (go_at_call 23; refine (HN.out _ hb6).mono ?_; rintro e w7 ⟨rfl, hb67⟩; have hb7 := below_two hb6 hb67)
          | ((with_reducible refine st_row 27 32 234 w7.heap.size 27 (bv yn).toArray zid ?_ ?_ ?_ hzX hsX (bvArr_all yn) ?_); rfl; rfl; exact hnz w7; intro w8 hk25 hg8 hsz8; have hb78 := ((Below.refl w7.heap.size w7).alloc (Nat.le_refl _) (.cells zlit 27)).grown hg8 (by simp) (fun k hk => by cases hk; exact Nat.le_refl _); have hb8 := below_two hb7 hb78; have r8 := HAS.out _ hb8; have b68 := below_two hb67 hb78)
          | (go_at_call 24; refine (HA.out _ hb8).mono ?_; rintro e w9 ⟨rfl, hb89⟩; have hb9 := below_two hb8 hb89; have q29 := run_loadId (hk12.below (below_two b68 hb89) hk12.lt).range i1; have q30 := run_loadId (hk6.below (below_two b68 hb89) hk6.lt).range i2; have q32 := run_loadId (hk25.below hb89 hk25.lt).range iN; have cr := HCL.out _ hb9))
        rcases hat with ⟨a0, a1⟩ | ⟨hn, rfl, rfl, rfl⟩
        · go_wp2
          go_ret
          exact ⟨rfl, HB.out _ hb9⟩
        · by_cases a0 : 0 ≤ at'
          · have a1 : ¬ at' < (L.length : Int) := fun h => hn ⟨a0, h⟩
            clear hn
            go_wp2_with (go_at_call 13; refine (HC.out _ hb9).mono ?_; rintro e w10 ⟨rfl, hb10⟩)
            go_ret
            exact ⟨rfl, HB.out _ (below_two hb9 hb10)⟩
          · clear hn
            go_wp2_with (go_at_call 13; refine (HC.out _ hb9).mono ?_; rintro e w10 ⟨rfl, hb10⟩)
            go_ret
            exact ⟨rfl, HB.out _ (below_two hb9 hb10)⟩
end Go.Proofs.Ytgokompppadogaa
