/-
  MarksPlay: the walk.
-/
import Derived.Test.YtokamaogognjoaaMkv
import Derived.Test.YtokamaogognjoaaMkw
set_option linter.unusedVariables false
set_option linter.unusedSimpArgs false
namespace Go.Proofs.Ytokamaogognjoaa
open Go.RowKit

set_option maxRecDepth 100000 in
set_option maxHeartbeats 4000000 in
theorem play_walk (A : Option Addr) (k c : Nat) (ops : List OpL) (rm : Int) (x : IdL) (w : World) (hA : ROs w A k ops) (hkc : k ≤ c) (hx : IsId x) : Calls Try.prog 6 #[.slice A k c, .int .i64 rm, ida x] w (BoolP true w) := by
  have HAW := Lib.hid (fun W => awake26_any W)
  unfold BoolP at HAW
  obtain ⟨N, hN, N1⟩ : ∃ N : Nat, (IntKind.u64.wrap rm).tmod 200000 = (N : Int) ∧ N < 200000 := rem_modM 200000 rm (by omega)
  have hwN : IntKind.i64.wrap (N : Int) = (N : Int) := by simp [IntKind.wrap, IntKind.signed, IntKind.bits]; omega
  have hb0 : Below w.heap.size w (w.alloc (.cells (bv x).toArray 25)) := (Below.refl _ _).alloc (Nat.le_refl _) _
  have hX0 : (w.alloc (.cells (bv x).toArray 25)).rangeAt w.heap.size 0 (bv x) := (Blk.new w _ _).range
  have hA0 := hA.below hb0
  have hszx := idSz hx
  have HO := Lib.hid (show ∀ (W : World) (gt : Nat) (Q : Nat → Prop), TpAt W Q gt (Tp.new.setRoom (2000 + (N : Int))) → Calls Try.prog 8 #[.pointer (some ⟨gt, 0, none⟩)] W (OpenPost Q gt [] (Tp.clean [] (2000 + (N : Int)) 0) (Tp.clean [] (2000 + (N : Int)) 0) W) from fun W gt Q h => by
    have := open_new (2000 + (N : Int)) gt Q W h
    rwa [show min (max (2000 + (N : Int)) 0) 16777216 = 2000 + (N : Int) from by omega] at this)
  unfold OpenPost at HO
  go_enter Try.func6, Try.ntmps6
  go_upto_region 2 with (go_at_call 7; (with_reducible refine (tpNew_any (2000 + (N : Int)) _).mono ?_); rintro e w1 ⟨gt, rfl, z1, ht1, b1⟩; have l1 := ht1.lt; have q1 := ht1.bounded)
  clear hN hwN
  generalize hwb : w.alloc (.cells (bv x).toArray 25) = wb at *
  clear hwb
  go_upto_region 6 with (first
    | (go_at_call 8; (with_reducible refine (HO.out _ _ _ q1).mono ?_); rintro e w2 ⟨g0, rfl, zg, m2, c2⟩; have hb2 := c2.toBelow b1 b1.size (fun k e => by omega))
    | (go_at_call 9; (with_reducible refine (HAW.out _).mono ?_); rintro e w3 ⟨rfl, hb3⟩))
  have S0 : PlayAt wb w2.heap.size gt 0 g0 (.slice none 0 0) false w3 := by
    have hz1 := b1.size
    have hz2 := c2.size
    have hz3 := hb3.size
    rw [World.size_alloc] at hz3
    have hbA : Below w2.heap.size w2 w3 := below_two ((Below.refl _ w2).alloc (Nat.le_refl _) (.cells #[.slice none 0 0] 46)) hb3
    have hBk : Blk w3 w2.heap.size 46 #[.slice none 0 0] := (Blk.new w2 _ _).below hb3 (Blk.new w2 _ _).lt
    refine ⟨0, .slice none 0 0, [], [], Tp.clean [] (2000 + (N : Int)) 0, ⟨⟨_, (m2.mono (R' := fun k => (k = gt ∨ (wb.heap.size ≤ k ∧ k < w1.heap.size) ∨ w1.heap.size ≤ k) ∧ k < w2.heap.size) (fun k hk h => ⟨h, hk⟩)).below hbA, fun k hk => ⟨by omega, by omega, by omega, by simp [Value.ownBlock], by simp [Value.ownBlock], fun h => h⟩⟩, below_two hb2 hbA, hBk, by omega, OPrs.nil _ _, OPrs.nil _ _, fun k e => by simp [Value.ownBlock] at e, fun k h => h.elim⟩, fun _ => rfl, ⟨rfl, rfl, fun _ => ⟨rfl, rfl⟩, fun h => absurd rfl h, GoodL.nil, ?_, ?_, Int.le_refl _, by show (0 : Int) ≤ 6; decide, by simp⟩, ⟨by simp, by simp [frL, oneL], Nat.le_refl _⟩, rfl⟩
    · show (0 : Int) ≤ 2000 + (N : Int); omega
    · show (2000 + (N : Int)) ≤ 16777216; omega
  generalize w2.heap.size = p at *
  clear m2 c2 hb2 q1 ht1 l1 z1 b1 zg HO HAW N1 hb3
  go_wp2
  go_loopw [8, 11, 12, 13] (fun v8 v11 v12 i wr => ∃ (j g : Nat) (u : Value) (dn : Bool), j ≤ 40 ∧ v8 = .pointer (some ⟨g, 0, none⟩) ∧ v11 = u ∧ v12 = .bool dn ∧ i = .int .i64 j ∧ PlayAt wb p gt j g u dn wr) (fun _ _ _ i _ => 41 - (intOf i).toNat)
  case atStart => exact ⟨0, g0, _, false, by omega, rfl, rfl, rfl, rfl, S0⟩
  case round => as_aux_lemma =>
    obtain ⟨j, g, u, dn, hj, rfl, rfl, rfl, rfl, hS⟩ := hrel
    have j0 : (0 : Int) ≤ (j : Int) := by omega
    by_cases h1 : j < k
    · have j1 : (j : Int) < (k : Int) := by omega
      by_cases h2 : j < 40
      · have j2 : (j : Int) < 40 := by omega
        obtain ⟨f, v, ls, o, s, S, hnil, hW, hC, hdn⟩ := hS
        obtain ⟨hlen, b, off, hAe, hcells⟩ := hA0
        obtain rfl := hAe (by omega)
        have hdj : ops[j]? = some ops[j] := List.getElem?_eq_getElem (by omega)
        generalize ops[j] = d at hdj
        obtain ⟨AL, nL, cL, AB, nB, cB, e0, e1, e2, e3, rL, kL, rB, kB⟩ := hcells j d hdj
        have c0 := cell_later S.bel e0
        have c1 := cell_later S.bel e1
        have c2 := cell_later S.bel e2
        have c3 := cell_later S.bel e3
        clear hcells hdj e0 e1 e2 e3 hlen hAe
        obtain ⟨q, nn, dl, db⟩ := d
        simp only at c0 c1 c2 c3 rL rB
        go_upto_region 12 with fail
        have hB4 : Below wr.heap.size wr (wr.alloc (.cells #[.int .i64 q, .int .i64 nn, .slice AL nL cL, .slice AB nB cB] 53)) := (Below.refl _ _).alloc (Nat.le_refl _) _
        have hP4 : Blk (wr.alloc (.cells #[.int .i64 q, .int .i64 nn, .slice AL nL cL, .slice AB nB cB] 53)) wr.heap.size 53 #[.int .i64 q, .int .i64 nn, .slice AL nL cL, .slice AB nB cB] := Blk.new wr _ _
        have S4 := S.later (G' := fun k => k = wr.heap.size) hB4 (fun k hk => ⟨by rw [hk]; exact hP4.lt, .inr (by rw [hk]; exact Nat.le_refl _)⟩)
        clear S c0 c1 c2 c3 hB4
        generalize (wr.alloc (.cells #[.int .i64 q, .int .i64 nn, .slice AL nL cL, .slice AB nB cB] 53)) = w4 at *
        generalize wr.heap.size = p4 at *
        have c0 := hP4.cell 0
        go_upto_block 2 with fail
        go_cut [11] (fun v11 wx => ∃ re, SwAt wb p gt j g p4 dn re v11 wx)
        case first => as_aux_lemma =>
          have hoa : o ≠ [] → AllPr o := fun h => (hW.good h).all
          have hok : s.Ok 300000000 := (hW.ok hC (by omega)).mono (by omega)
          have hn20 : ls.flatten.length ≤ 800 := by have := hC.n; omega
          have hhl : s.held ≤ s.b.length := hok.held
          have c1 : w4.cell? ⟨p4, 1, none⟩ = some (.int .i64 nn) := hP4.cell 1
          have c2 : w4.cell? ⟨p4, 2, none⟩ = some (.slice AL nL cL) := hP4.cell 2
          have c3 : w4.cell? ⟨p4, 3, none⟩ = some (.slice AB nB cB) := hP4.cell 3
          have HCONT := Lib.hid (show PlayAt wb p gt (j + 1) g u11 dn w4 from ⟨f, v, ls, o, s, S4.fewer (fun k h => h.elim), hnil, hW, hC.next (by omega), hdn⟩)
          by_cases k1 : q = 1
          · as_aux_lemma =>
            subst k1
            obtain ⟨ls2, hW2, hfl, hle, hfa, hout⟩ := hW.comp
            have HC := Lib.hid (S4.comp hok (by omega))
            have hC2 : Cn (j + 1) ls2 o (compR f ls.flatten s).2 := ⟨by have := hC.n; rw [hfl]; omega, by have := hC.l; omega, by have := hC.f; omega⟩
            have HF := Lib.hid (show ∀ W, (dn = true → (compR f ls.flatten s).2.down = true) → SP wb (fun k => k = p4) p v ls.flatten u11 (lateL ls.flatten o) g gt f ls.flatten (compR f ls.flatten s).2 W → Chg (fun k => ¬ k = p4) w4 W → ∃ re, SwAt wb p gt j g p4 dn re u11 W from fun W hd h hc => ⟨false, f, v, ls2, o, _, 1, by rw [hfl]; exact h, hnil, hc.cell c0 (fun h => h rfl), hd, hC2, hoa, .inr ⟨rfl, by decide, by decide, hW2⟩⟩)
            clear hC2 hW2 hle hfa hfl hn20 hok hC hW HCONT S4 hhl hP4 c1 c2 c3
            generalize compR f ls.flatten s = r at *
            obtain ⟨e1, s2⟩ := r
            simp only at HC HF hout
            rcases hout with ⟨hd, rfl, hs2⟩ | ⟨hd, rfl | rfl | rfl⟩
            · rw [hdn] at hd
              have hd2 : s2.down = true := by rw [hs2, hdn, hd]
              subst hd
              clear hs2
              go_wp2_with (go_at_call 16; (with_reducible refine (HC.out).mono ?_); rintro e w5 ⟨rfl, S5, C5⟩)
              go_meet
              exact HF.out _ (fun _ => hd2) S5 C5
            · rw [hdn] at hd
              subst hd
              go_wp2_with (go_at_call 16; (with_reducible refine (HC.out).mono ?_); rintro e w5 ⟨rfl, S5, C5⟩)
              go_meet
              exact HF.out _ (fun h => by cases h) S5 C5
            · rw [hdn] at hd
              subst hd
              go_wp2_with (go_at_call 16; (with_reducible refine (HC.out).mono ?_); rintro e w5 ⟨rfl, S5, C5⟩)
              go_meet
              exact HF.out _ (fun h => by cases h) S5 C5
            · rw [hdn] at hd
              subst hd
              go_wp2_with (go_at_call 16; (with_reducible refine (HC.out).mono ?_); rintro e w5 ⟨rfl, S5, C5⟩)
              go_meet
              exact HF.out _ (fun h => by cases h) S5 C5
          by_cases k4 : q = 4
          · as_aux_lemma =>
            subst k4
            obtain ⟨m, hm, hm6⟩ : ∃ m : Nat, (IntKind.u64.wrap nn).tmod 6 = (m : Int) ∧ m < 6 := rem_modM 6 nn (by omega)
            have hwm : IntKind.i64.wrap (m : Int) = (m : Int) := by simp [IntKind.wrap, IntKind.signed, IntKind.bits]; omega
            have HF := Lib.hid (show ∀ W, SP wb (fun k => k = p4) p v ls.flatten u11 (lateL ls.flatten o) g gt f ls.flatten (s.setFuse (1 + (m : Int))) W → Chg (fun k => ¬ k = p4) w4 W → ∃ re, SwAt wb p gt j g p4 dn re u11 W from fun W h hc => ⟨false, f, v, ls, o, _, 4, h, hnil, hc.cell c0 (fun h => h rfl), fun h => by show s.down = true; rw [hdn, h], hC.next (by show s.falls ≤ _; omega), hoa, .inr ⟨rfl, by decide, by decide, hW.setFuse (by omega) (by omega)⟩⟩)
            have HS := Lib.hid S4
            clear hn20 hok hC hW HCONT S4 hhl hP4 c2 c3 hoa hnil
            go_wp2_with (go_at_call 17; (with_reducible refine (HS.out.fuse (1 + (m : Int))).mono ?_); rintro e w5 ⟨rfl, S5, C5⟩)
            go_meet
            exact HF.out _ S5 C5
          by_cases k5 : q = 5
          · as_aux_lemma =>
            subst k5
            have rB4 := rB.below S4.bel
            have hD := S4.down
            rw [hdn] at hD
            have HD := Lib.hid hD
            clear hD
            by_cases hl60 : 60 < nB
            · have l60 : (60 : Int) < (nB : Int) := by omega
              go_wp2
              go_roundw
              case rel => exact ⟨j + 1, g, _, dn, by omega, rfl, rfl, rfl, by go_num, HCONT.out⟩
              case measure => simp [intOf]; omega
            · have l60 : ¬ (60 : Int) < (nB : Int) := by omega
              by_cases hz : nB = 0
              · have lz : ¬ (0 : Int) < (nB : Int) := by omega
                have hno : db = [] ∨ gi db 0 ≠ 254 := .inl (List.eq_nil_of_length_eq_zero (by have := rB.len; omega))
                clear hz
                cases dn with
                | true =>
                  go_wp2_with (go_at_call 18; (with_reducible refine (HD.out).mono ?_); rintro e w6 ⟨rfl, rfl⟩)
                  go_roundw
                  case rel => exact ⟨j + 1, g, _, true, by omega, rfl, rfl, rfl, by go_num, HCONT.out⟩
                  case measure => simp [intOf]; omega
                | false =>
                  have hB := rB.byts
                  have HWR := Lib.hid (S4.write hok rB4 kB (by omega))
                  have HF := Lib.hid (show ∀ W, SP wb (fun k => k = p4) p v ls.flatten u11 (lateL ls.flatten o) g gt f ls.flatten (s.write db).2 W → Chg (fun k => ¬ k = p4) w4 W → ∃ re, SwAt wb p gt j g p4 false re u11 (W.setCell ⟨p4, 0, none⟩ (.int .i64 3)) from fun W h hc => by
                    obtain ⟨n1, n2, n3⟩ := hW.noise hdn hB (by have := rB.len; omega) hno
                    exact ⟨true, f, v, ls, o, _, 3, h.poke rfl 0 _, hnil, ((hc.blk hP4 (fun h => h rfl)).set_ 0 (.int .i64 3)).cell 0, (fun e => by cases e), hC.next n2, hoa, .inl ⟨rfl, .inr rfl, n1, n3⟩⟩)
                  clear hn20 hok hC hW HCONT S4 hhl hoa hnil hB hno rB4 rB
                  go_wp2_with (first
                    | (go_at_call 18; (with_reducible refine (HD.out).mono ?_); rintro e w6 ⟨rfl, rfl⟩)
                    | (go_at_call 19; (with_reducible refine (HWR.out).mono ?_); rintro e w5 ⟨rfl, S5, C5⟩; have q0 : w5.cell? ⟨p4, 0, none⟩ = some (.int .i64 5) := C5.cell c0 (fun h => h rfl); have q0f : w5.frozen? ⟨p4, 0, none⟩ = false := (C5.blk hP4 (fun h => h rfl)).frozen 0))
                  go_meet
                  exact HF.out _ S5 C5
              · have lz : (0 : Int) < (nB : Int) := by omega
                obtain ⟨bb, oo, rfl, hcb⟩ := rB4.plain (by omega)
                have b0 : w4.cell? ⟨bb, oo, none⟩ = some (.int .u8 (gi db 0)) := by simpa using hcb 0 (by omega)
                clear hcb hz
                by_cases h254 : gi db 0 = 254
                · rw [h254] at b0
                  go_wp2
                  go_roundw
                  case rel => exact ⟨j + 1, g, _, dn, by omega, rfl, rfl, rfl, by go_num, HCONT.out⟩
                  case measure => simp [intOf]; omega
                · have hno : db = [] ∨ gi db 0 ≠ 254 := .inr h254
                  have b254 : (gi db 0 == 254) = false := by simpa using h254
                  clear h254
                  cases dn with
                  | true =>
                    go_wp2_with (go_at_call 18; (with_reducible refine (HD.out).mono ?_); rintro e w6 ⟨rfl, rfl⟩)
                    go_roundw
                    case rel => exact ⟨j + 1, g, _, true, by omega, rfl, rfl, rfl, by go_num, HCONT.out⟩
                    case measure => simp [intOf]; omega
                  | false =>
                    have hB := rB.byts
                    have HWR := Lib.hid (S4.write hok rB4 kB (by omega))
                    have HF := Lib.hid (show ∀ W, SP wb (fun k => k = p4) p v ls.flatten u11 (lateL ls.flatten o) g gt f ls.flatten (s.write db).2 W → Chg (fun k => ¬ k = p4) w4 W → ∃ re, SwAt wb p gt j g p4 false re u11 (W.setCell ⟨p4, 0, none⟩ (.int .i64 3)) from fun W h hc => by
                      obtain ⟨n1, n2, n3⟩ := hW.noise hdn hB (by have := rB.len; omega) hno
                      exact ⟨true, f, v, ls, o, _, 3, h.poke rfl 0 _, hnil, ((hc.blk hP4 (fun h => h rfl)).set_ 0 (.int .i64 3)).cell 0, (fun e => by cases e), hC.next n2, hoa, .inl ⟨rfl, .inr rfl, n1, n3⟩⟩)
                    clear hn20 hok hC hW HCONT S4 hhl hoa hnil hB hno rB4 rB
                    go_wp2_with (first
                      | (go_at_call 18; (with_reducible refine (HD.out).mono ?_); rintro e w6 ⟨rfl, rfl⟩)
                      | (go_at_call 19; (with_reducible refine (HWR.out).mono ?_); rintro e w5 ⟨rfl, S5, C5⟩; have q0 : w5.cell? ⟨p4, 0, none⟩ = some (.int .i64 5) := C5.cell c0 (fun h => h rfl); have q0f : w5.frozen? ⟨p4, 0, none⟩ = false := (C5.blk hP4 (fun h => h rfl)).frozen 0))
                    go_meet
                    exact HF.out _ S5 C5
          by_cases k2 : q = 2
          · as_aux_lemma =>
            subst k2
            have hfh : (s.fall nn).held ≤ (s.fall nn).b.length := by
              have hst := Tp.stay_le (s := s) (k := nn) hhl
              rw [Tp.fall_eq]
              show s.held + s.stay nn ≤ (s.b.take (s.held + s.stay nn)).length
              rw [List.length_take]
              omega
            have HF := Lib.hid (show ∀ W, SP wb (fun k => k = p4) p v ls.flatten u11 (lateL ls.flatten o) g gt f ls.flatten (s.fall nn) W → Chg (fun k => ¬ k = p4) w4 W → ∃ re, SwAt wb p gt j g p4 dn re u11 W from fun W h hc => ⟨true, f, v, ls, o, _, 2, h, hnil, hc.cell c0 (fun h => h rfl), fun _ => rfl, hC.next (stay_falls s nn), hoa, .inl ⟨rfl, .inl rfl, hW.crash nn, hfh⟩⟩)
            have HS := Lib.hid (S4.fall nn hok)
            clear hn20 hok hC hW HCONT S4 hhl hP4 c2 c3 hoa hnil hfh
            go_wp2_with (go_at_call 20; (with_reducible refine (HS.out).mono ?_); rintro e w5 ⟨rfl, S5, C5⟩)
            go_meet
            exact HF.out _ S5 C5
          by_cases k3 : q = 3
          · as_aux_lemma =>
            subst k3
            have HF := Lib.hid (show ∃ re, SwAt wb p gt j g p4 dn re u11 w4 from ⟨true, f, v, ls, o, s, 3, S4, hnil, c0, fun h => by rw [hdn, h], hC.next (by omega), hoa, .inl ⟨rfl, .inr rfl, hW.reopen, hhl⟩⟩)
            clear hn20 hok hC hW HCONT S4 hhl hP4 c1 c2 c3 hoa hnil
            go_wp2
            go_meet
            exact HF.out
          · as_aux_lemma =>
            have b1 : (q == 1) = false := by simpa using k1
            have b2 : (q == 2) = false := by simpa using k2
            have b3 : (q == 3) = false := by simpa using k3
            have b4 : (q == 4) = false := by simpa using k4
            have b5 : (q == 5) = false := by simpa using k5
            have hnl := Lib.hid rL.1
            by_cases hl20 : 20 < nL
            · have l20 : (20 : Int) < (nL : Int) := by omega
              clear hnl k1 k4 k5
              go_wp2
              go_roundw
              case rel => exact ⟨j + 1, g, _, dn, by omega, rfl, rfl, rfl, by go_num, HCONT.out⟩
              case measure => simp [intOf]; omega
            · have l20 : ¬ (20 : Int) < (nL : Int) := by omega
              have hqf : IsPr (idc 71 0 ++ zeroL) := IsPr.mk (idc_id (by omega) (by omega)) zeroL_id
              have hall := rL.2.1
              have hdl : dl.length ≤ 20 := by have := hnl.out; omega
              have HOW := Lib.hid (ownP_any AL nL cL dl (idc 71 0 ++ zeroL) w4 (rL.below S4.bel) (by omega) hqf)
              unfold OwnQP at HOW
              have hb71 : ∀ W, (bldPr #[(0, .agg (bv (idc 71 0)).toArray)]).run Try.prog W = .ok (ida (idc 71 0 ++ zeroL)) W := fun W => by kernel_rfl
              have HAR := Lib.hid (show ∃ r, addR f ls.flatten s dl = r from ⟨_, rfl⟩)
              go_upto_block 3 with (first
                | (go_at_call 21; (with_reducible refine (HOW.out).mono ?_); rintro e w5 ⟨g5, rfl, ho5, hg5, hb5⟩; have S5 := S4.later (G' := fun k => k = p4 ∨ k = g5) hb5 (fun k hk => by have := hP4.lt; have := hb5.size; rcases hk with hk | hk; exact ⟨by omega, .inl hk⟩; exact ⟨by rw [hk]; exact OwnQ.lt ho5 hqf, .inr (by omega)⟩); have c25 := cell_later hb5 c2)
                | (go_at_call 15; (with_reducible refine (S5.fresh (A := AL) (k := nL) (c := cL) (l := dl) rfl (by omega) (rL.below S5.bel) (by omega)).mono ?_); rintro e w6 ⟨A6, c6, rfl, ho6, hb6⟩; have S6 := S5.later (G' := fun k => k = p4 ∨ k = g5 ∨ (Value.slice A6 (freshR ls.flatten dl).1.length c6).ownBlock = some k) hb6 (fun k hk => by rcases hk with hk | hk | hk; exact ⟨by have := (S5.gk p4 (.inl rfl)).2.1; have := hb6.size; omega, .inl (.inl hk)⟩; exact ⟨by have := (S5.gk g5 (.inr rfl)).2.1; have := hb6.size; omega, .inl (.inr hk)⟩; exact ⟨(ho6.own k hk).2, .inr (ho6.own k hk).1⟩); have ho5' := ho5.below hb6; have hP6 := (hP4.below hb5 hP4.lt).below hb6 (hP4.below hb5 hP4.lt).lt; have r56 := ho5'.1)
                | (go_at_call 10; (with_reducible refine (S6.add (A := some ⟨g5, 0, none⟩) (k := nL) (c := nL + 3) (l := dl) hok r56 (by omega)).mono ?_); rintro e w7 ⟨rfl, S7, C7⟩; have ho7 := ho5'.chg C7 (fun h => h (.inr (.inl rfl))); have hP7 := C7.blk hP6 (fun h => h (.inl rfl)); have hf7 := C7.prs ho6.reads (fun ad e h => h (.inr (.inr (by rw [e]; rfl)))); have c27 : w7.cell? ⟨p4, 2, none⟩ = some (.slice AL nL cL) := hP7.cell 2)
                | (go_at_call 22; (with_reducible refine (keptP_any g5 nL cL AL dl (idc 71 0 ++ zeroL) w7 ho7 (rL.below S7.bel) (by omega) hqf).mono ?_); rintro e w8 ⟨rfl, hb8⟩; have S8 := S7.below hb8; have hP8 := hP7.below hb8 hP7.lt; have hn6 := hf7.below hb8))
              clear hb71 HOW
              cases dn with
              | true =>
                have e1 := Wt.add_down (f := f) hdn dl ls.flatten
                rw [e1] at S8 ⊢
                have HSM := Lib.hid (show ∃ re, SwAt wb p gt j g p4 true re u11 w8 from ⟨false, f, v, ls, o, s, q, S8.fewer (fun k hk => .inl hk), hnil, hP8.cell 0, fun _ => hdn, hC.next (by omega), hoa, .inr ⟨rfl, k2, k3, hW⟩⟩)
                clear e1 S8 hn20 hok hC hW HCONT S4 hhl hP4 hP8 c1 c2 c3 hoa hnil k1 k2 k3 k4 k5 hn6 hnl
                go_wp2
                go_meet
                exact HSM.out
              | false =>
                have ho0 : o = [] := (hW.up hdn).2
                subst ho0
                obtain rfl := hnil rfl
                by_cases he : (freshR ls.flatten dl).2 = 0
                · have hoall := (freshR_new ls.flatten dl).2.1 hall
                  have hol := (freshR_new ls.flatten dl).2.2
                  have hfl2 : (ls ++ [(freshR ls.flatten dl).1]).flatten = ls.flatten ++ (freshR ls.flatten dl).1 := by rw [List.flatten_append]; simp
                  have hpk2 : (frL (ls ++ [(freshR ls.flatten dl).1])).length ≤ (frL ls).length + 814 := by rw [frL_append, frL_one, List.length_append, pack_len1 hoall]; omega
                  have hpk := oneL_len hoall
                  have hres : (∃ s' ls2, addR f ls.flatten s dl = (0, ls.flatten ++ (freshR ls.flatten dl).1, s') ∧ ls2.flatten = ls.flatten ++ (freshR ls.flatten dl).1 ∧ Wt ls2 [] f s' ∧ (frL ls2).length ≤ (frL ls).length + 814 ∧ s'.falls = s.falls) ∨
                      addR f ls.flatten s dl = (14, ls.flatten, s) ∨ (∃ s', addR f ls.flatten s dl = (16, ls.flatten, s') ∧ Wt ls (freshR ls.flatten dl).1 f s' ∧ s'.falls ≤ s.falls + 1 ∧ s'.down = true ∧ (freshR ls.flatten dl).1 ≠ []) := by
                    by_cases hn : (freshR ls.flatten dl).1 = []
                    · have := hW.add_none hdn (l := dl) (.inr hn)
                      rw [he] at this
                      exact .inl ⟨s, ls, by rw [this, hn, List.append_nil], by rw [hn, List.append_nil], hW, by omega, rfl⟩
                    · rcases hW.add_new hdn hall hdl he hn with ⟨s', h1, h2, h3, h4⟩ | h | ⟨s', h1, h2, h3, h4⟩
                      · exact .inl ⟨s', _, h1, hfl2, h2, hpk2, h3⟩
                      · exact .inr (.inl h)
                      · exact .inr (.inr ⟨s', h1, h2, h3, h4, hn⟩)
                  clear HAR hpk2 hfl2
                  generalize freshR ls.flatten dl = fr at *
                  obtain ⟨o6, e6⟩ := fr
                  simp only at he hres hoall hol hpk hn6
                  subst he
                  obtain ⟨Av, cv, rfl, hcv⟩ := S8.row.slice
                  have hmr := S8.row.reads
                  have m8 : w8.cell? ⟨p, 0, none⟩ = some (.slice Av ls.flatten.length cv) := S8.mod.cell 0
                  have hcn := hC.n
                  have hcl := hC.l
                  have hcf := hC.f
                  simp only [List.length_nil, frL_one0] at hcn hcl
                  have h30 : ls.flatten.length + o6.length ≤ 1000000000 := by omega
                  have hfr := hn6
                  rcases hres with ⟨s', ls2, hr, hfl, hW2, hl2, hf2⟩ | hr | ⟨s', hr, hW2, hf2, hd2, hne⟩
                  · rw [hr] at S8 ⊢
                    simp only at S8 ⊢
                    have HF := Lib.hid (show ∀ (v' : Value) W, (∀ k, v'.ownBlock = some k → k ≠ p4) → SP wb (fun k => k = p4 ∨ v'.ownBlock = some k) p (.slice Av ls.flatten.length cv) ls.flatten (.slice none 0 0) (lateL ls.flatten []) g gt f (ls.flatten ++ o6) s' W → OPrs W wb.heap.size v' (ls.flatten ++ o6).length (ls.flatten ++ o6) → Blk W p4 53 #[.int .i64 q, .int .i64 nn, .slice AL nL cL, .slice AB nB cB] → ∃ re, SwAt wb p gt j g p4 false re (.slice none 0 0) (W.setCell ⟨p, 0, none⟩ v') from fun v' W hk h ho hP => by
                      obtain ⟨h1, h2, h3⟩ := h.setm (G' := fun k => k = p4) ho (fun k e => .inr e) (fun k e => ⟨.inl e, fun e' => hk k e' e⟩)
                      have hpp : p4 ≠ p := (h.gk p4 (.inl rfl)).2.2.1
                      have el : lateL ls.flatten [] = lateL ls2.flatten [] := by unfold lateL; rw [if_pos rfl, if_pos rfl]
                      rw [el, ← hfl] at h3
                      have hlen2 := congrArg List.length hfl
                      rw [List.length_append] at hlen2
                      exact ⟨false, f, v', ls2, [], s', q, h3, fun _ => rfl, (hP.far (p := ⟨p, 0, none⟩) hpp v').cell 0, (fun e => by cases e), ⟨by simp only [List.length_nil]; omega, by rw [frL_one0]; simp only [List.length_nil]; omega, by omega⟩, hoa, .inr ⟨rfl, k2, k3, hW2⟩⟩)
                    clear hr hfl hW2 hl2 hf2 hoall hol hpk hcn hcl hcf hn20 hok hC hW HCONT S4 hhl hP4 c1 c2 c3 hoa hnil k1 k2 k3 k4 k5 hnl hdl hn6
                    generalize ls.flatten = M at *
                    go_wp2_with (first
                      | (at_builtin; refine wpList_appPrs rfl (.const (.slice none 0 0)) (.tmp 102) rfl w8.heap.size _ 0 [] rfl (OPrs.nil _ _) Av M.length cv M rfl hmr (by omega) (Nat.le_refl _) ?_; intro v9 w9 ho9 hg9 hat9; rw [Nat.zero_add, List.nil_append] at ho9; obtain ⟨A9, c9, rfl, hc9⟩ := ho9.slice; have hr9 := hfr.grown hg9 (fun ad e e' => by cases e'); have z9 := hg9.size)
                      | (at_builtin; refine wpList_appPrs rfl (.tmp 103) (.tmp 104) rfl w8.heap.size (.slice A9 M.length c9) M.length M rfl ho9 A6 o6.length c6 o6 rfl hr9 h30 z9 ?_; intro v10 w10 ho10 hg10 hat10; obtain ⟨A10, c10, rfl, hc10⟩ := ho10.slice; obtain ⟨S10, hn10, hP10, hl10, hge10⟩ := S8.app2 hP8 (.inl rfl) ho9 hg9 ho10 hg10 hat10; have m10 : w10.cell? ⟨p, 0, none⟩ = some (.slice Av M.length cv) := S10.mod.cell 0; have y10 := S10.mod.frozen 0; have hfin := HF.out _ w10 hn10 S10 hl10 hP10))
                    go_meet
                    exact hfin
                  · rw [hr] at S8 ⊢
                    simp only at S8 ⊢
                    have HSM := Lib.hid (show ∃ re, SwAt wb p gt j g p4 false re (.slice none 0 0) w8 from ⟨false, f, _, ls, [], s, q, S8.fewer (fun k hk => .inl hk), fun _ => rfl, hP8.cell 0, (fun e => by cases e), hC.next (by omega), hoa, .inr ⟨rfl, k2, k3, hW⟩⟩)
                    clear hr hoall hol hpk hcn hcl hcf hn20 hok hC hW HCONT S4 hhl hP4 c1 c2 c3 hoa hnil k1 k2 k3 k4 k5 hnl hdl hn6 S8 hP8 hmr m8 h30 hfr
                    go_wp2
                    go_meet
                    exact HSM.out
                  · rw [hr] at S8 ⊢
                    simp only at S8 ⊢
                    have HF := Lib.hid (show ∀ (v' : Value) W, (∀ k, v'.ownBlock = some k → k ≠ p4) → SP wb (fun k => k = p4 ∨ v'.ownBlock = some k) p (.slice Av ls.flatten.length cv) ls.flatten (.slice none 0 0) (lateL ls.flatten []) g gt f ls.flatten s' W → OPrs W wb.heap.size v' (ls.flatten ++ o6).length (ls.flatten ++ o6) → Blk W p4 53 #[.int .i64 q, .int .i64 nn, .slice AL nL cL, .slice AB nB cB] → ∃ re, SwAt wb p gt j g p4 false re v' W from fun v' W hk h ho hP => by
                      have h3 := h.setl (G' := fun k => k = p4) ho (fun k e => .inr e) (fun k e => ⟨.inl e, fun e' => hk k e' e⟩)
                      have el : ls.flatten ++ o6 = lateL ls.flatten o6 := by unfold lateL; rw [if_neg hne]
                      rw [el] at h3
                      exact ⟨false, f, _, ls, o6, s', q, h3, fun e => absurd e hne, hP.cell 0, (fun e => by cases e), ⟨by omega, by omega, by omega⟩, fun _ => hoall, .inr ⟨rfl, k2, k3, hW2⟩⟩)
                    clear hr hW2 hf2 hd2 hoall hol hpk hcn hcl hcf hn20 hok hC hW HCONT S4 hhl hP4 c1 c2 c3 hoa hnil k1 k2 k3 k4 k5 hnl hdl hn6 hne
                    generalize ls.flatten = M at *
                    go_wp2_with (first
                      | (at_builtin; refine wpList_appPrs rfl (.const (.slice none 0 0)) (.tmp 117) rfl w8.heap.size _ 0 [] rfl (OPrs.nil _ _) Av M.length cv M rfl hmr (by omega) (Nat.le_refl _) ?_; intro v9 w9 ho9 hg9 hat9; rw [Nat.zero_add, List.nil_append] at ho9; obtain ⟨A9, c9, rfl, hc9⟩ := ho9.slice; have hr9 := hfr.grown hg9 (fun ad e e' => by cases e'); have z9 := hg9.size)
                      | (at_builtin; refine wpList_appPrs rfl (.tmp 118) (.tmp 119) rfl w8.heap.size (.slice A9 M.length c9) M.length M rfl ho9 A6 o6.length c6 o6 rfl hr9 h30 z9 ?_; intro v10 w10 ho10 hg10 hat10; obtain ⟨A10, c10, rfl, hc10⟩ := ho10.slice; obtain ⟨S10, hn10, hP10, hl10, hge10⟩ := S8.app2 hP8 (.inl rfl) ho9 hg9 ho10 hg10 hat10; have m10 : w10.cell? ⟨p, 0, none⟩ = some (.slice Av M.length cv) := S10.mod.cell 0; have y10 := S10.mod.frozen 0; have hfin := HF.out _ w10 hn10 S10 hl10 hP10))
                    go_meet
                    exact hfin
                · have hr := hW.add_none hdn (l := dl) (.inl he)
                  rw [hr] at S8 ⊢
                  simp only at S8 ⊢
                  have HSM := Lib.hid (show ∃ re, SwAt wb p gt j g p4 false re (.slice none 0 0) w8 from ⟨false, f, v, ls, [], s, q, S8.fewer (fun k hk => .inl hk), fun _ => rfl, hP8.cell 0, (fun e => by cases e), hC.next (by omega), hoa, .inr ⟨rfl, k2, k3, hW⟩⟩)
                  have hb6 : ((freshR ls.flatten dl).2 != 0) = true := by simpa using he
                  clear HAR hr S8 hn20 hok hC hW HCONT S4 hhl hP4 hP8 c1 c2 c3 hoa hnil k1 k2 k3 k4 k5 hn6 hnl he
                  generalize freshR ls.flatten dl = fr at *
                  obtain ⟨o6, e6⟩ := fr
                  simp only at hb6 ⊢
                  go_wp2
                  go_meet
                  exact HSM.out
        case rest => as_aux_lemma =>
          clear c0 hP4 S4 hnil hW hC hdn
          obtain ⟨re, f5, v5, ls5, o5, s5, q5, S5, hnil, c5, hdn, hC, hoa, hre⟩ := hcut
          go_upto_region 44 with fail
          go_cut [12] (fun v12 wx => v12 = .bool s5.down ∧ wc = wx)
          case first => as_aux_lemma =>
            cases dn with
            | true =>
              have := hdn rfl
              go_wp2
              go_meet
              exact ⟨by rw [this], rfl⟩
            | false =>
              go_wp2_with (go_at_call 18; (with_reducible refine (S5.down).mono ?_); rintro e w6 ⟨rfl, rfl⟩)
              go_meet
              exact ⟨rfl, rfl⟩
          case rest => as_aux_lemma =>
            obtain ⟨rfl, rfl⟩ := hcut
            rename World => w5
            clear hdn
            go_upto_region 45 with fail
            go_cut [201] (fun v201 wx => v201 = .bool re ∧ w5 = wx)
            case first => as_aux_lemma =>
              rcases hre with ⟨rfl, hq | hq, _⟩ | ⟨rfl, hq2, hq3, _⟩
              · subst hq
                go_wp2
                go_meet
                exact ⟨rfl, rfl⟩
              · subst hq
                go_wp2
                go_meet
                exact ⟨rfl, rfl⟩
              · have b2 : (q5 == 2) = false := by simpa using hq2
                have b3 : (q5 == 3) = false := by simpa using hq3
                go_wp2
                go_meet
                exact ⟨rfl, rfl⟩
            case rest => as_aux_lemma =>
              obtain ⟨rfl, rfl⟩ := hcut
              rename World => w5
              clear c5
              go_upto_if 201 with fail
              go_cut [8, 11, 12] (fun v8 v11 v12 wx => ∃ (g6 : Nat) (dn6 : Bool), v8 = .pointer (some ⟨g6, 0, none⟩) ∧ v12 = .bool dn6 ∧ PlayAt wb p gt (j + 1) g6 v11 dn6 wx)
              case first => as_aux_lemma =>
                rcases hre with ⟨rfl, hq, hO, hh⟩ | ⟨rfl, hq2, hq3, hWt⟩
                · skip
                  have hfa : (s5.setFuse 0).rise.falls ≤ j + 1 := by
                    have h0 := hC.f
                    have h1 : (s5.setFuse 0).rise.falls = s5.falls := by
                      cases hd : s5.down with
                      | true => rw [rise_down hd]
                      | false => rw [rise_up hd]
                    omega
                  have HRI := Lib.hid (show ∀ (W : World), SP wb (fun k => k = p4) p v5 ls5.flatten u11 (lateL ls5.flatten o5) g gt f5 ls5.flatten (s5.setFuse 0) W → Calls Try.prog 23 #[.pointer (some ⟨gt, 0, none⟩)] W (fun e w' => e = .returned (.tuple #[]) ∧ SP wb (fun k => k = p4) p v5 ls5.flatten u11 (lateL ls5.flatten o5) g gt f5 ls5.flatten (s5.setFuse 0).rise w' ∧ Chg (fun k => ¬ k = p4) W w') from fun W h => h.rise hh)
                  have HOP := Lib.hid (show ∀ (W : World), SP wb (fun k => k = p4) p v5 ls5.flatten u11 (lateL ls5.flatten o5) g gt f5 ls5.flatten (s5.setFuse 0).rise W → Calls Try.prog 8 #[.pointer (some ⟨gt, 0, none⟩)] W (fun e w' => ∃ g' ls2 s3, e = .returned (.tuple #[.pointer (some ⟨g', 0, none⟩), .int .i64 0]) ∧ SP wb (fun k => k = p4) p v5 ls5.flatten u11 (lateL ls5.flatten o5) g' gt (s5.setFuse 0).rise.falls ls2.flatten s3 w' ∧ Chg (fun k => ¬ k = p4) W w' ∧ Wt ls2 [] (s5.setFuse 0).rise.falls s3 ∧ Cn (j + 1) ls2 [] s3 ∧ (ls2 = ls5 ∨ o5 ≠ [] ∧ ls2 = ls5 ++ [o5]) ∧ s3.down = false) from fun W h => h.reopen hO hC hfa (by omega) hoa)
                  clear hh hO hfa hq
                  go_upto_region 51 with (first
                    | (go_at_call 17; (with_reducible refine (S5.fuse 0).mono ?_); rintro e wA ⟨rfl, SA, CA⟩)
                    | (go_at_call 23; (with_reducible refine (HRI.out _ SA).mono ?_); rintro e wB ⟨rfl, SB7, CB⟩)
                    | (go_at_call 8; (with_reducible refine (HOP.out _ SB7).mono ?_); rintro e wC ⟨g7, ls2, s7, rfl, SC, CC, hWt7, hC7, hls, hdn7⟩))
                  by_cases ho : o5 = []
                  · subst ho
                    obtain rfl := hnil rfl
                    have hls' : ls2 = ls5 := by
                      rcases hls with h | h
                      · exact h
                      · exact absurd rfl h.1
                    subst hls'
                    clear hls hnil HRI HOP
                    go_wp2
                    go_meet
                    exact ⟨g7, false, rfl, rfl, _, v5, ls2, [], s7, (SC.noLate).fewer (fun k h => h.elim), fun _ => rfl, hWt7, hC7, hdn7⟩
                  · have hD : lateL ls5.flatten o5 = ls5.flatten ++ o5 := by unfold lateL; rw [if_neg ho]
                    have hn5 := hC7.n
                    obtain ⟨A5, c5, rfl, hcc⟩ := SC.lat.slice
                    have hrd := SC.lat.reads
                    obtain ⟨ad, rfl⟩ : ∃ ad, A5 = some ad := by
                      cases A5 with
                      | some ad => exact ⟨ad, rfl⟩
                      | none => exact absurd (hrd.empty rfl) (by rw [hD, List.length_append]; have := List.length_pos_iff.2 ho; omega)
                    have HPR := Lib.hid (SC.pairs (by simp only [List.length_nil] at hn5; omega))
                    have hlD : (lateL ls5.flatten o5).length ≤ 1000000 := by
                      have := hC.n
                      rw [hD, List.length_append]
                      omega
                    have HPL := Lib.hid (show ∀ (W : World) (A' : Option Addr) (c' : Nat), RPrs W A' ls2.flatten.length ls2.flatten → RPrs W (some ad) (lateL ls5.flatten o5).length (lateL ls5.flatten o5) → Calls Try.prog 12 #[.slice A' ls2.flatten.length c', .slice (some ad) (lateL ls5.flatten o5).length c5] W (BoolP (decide (ls2.flatten = lateL ls5.flatten o5)) W) from fun W A' c' h h' => plainP_any A' (some ad) _ _ c' c5 _ _ W h h' (by simp only [List.length_nil] at hn5; omega) (by omega))
                    unfold BoolP at HPL
                    have HR5 := Lib.hid (show ∀ W, Below wC.heap.size wC W → RPrs W (some ad) (lateL ls5.flatten o5).length (lateL ls5.flatten o5) from fun W h => hrd.below h)
                    have HSC := Lib.hid (show ∀ W, Below wC.heap.size wC W → SP wb (fun k => k = p4) p v5 ls5.flatten (.slice (some ad) (lateL ls5.flatten o5).length c5) (lateL ls5.flatten o5) g7 gt (s5.setFuse 0).rise.falls ls2.flatten s7 W from fun W h => SC.below h)
                    rcases hls with hls | hls
                    · subst hls
                      have hne : decide (ls2.flatten = lateL ls2.flatten o5) = false := by
                        refine decide_eq_false fun e => ho ?_
                        rw [hD] at e
                        have := congrArg List.length e
                        rw [List.length_append] at this
                        exact List.eq_nil_of_length_eq_zero (by omega)
                      rw [hne] at HPL
                      have HF := Lib.hid (show ∀ W, Below wC.heap.size wC W → ∃ (g6 : Nat) (dn6 : Bool), Value.pointer (some ⟨g7, 0, none⟩) = .pointer (some ⟨g6, 0, none⟩) ∧ Value.bool false = .bool dn6 ∧ PlayAt wb p gt (j + 1) g6 (.slice none 0 0) dn6 W from fun W h => ⟨g7, false, rfl, rfl, _, v5, ls2, [], s7, ((HSC.out W h).noLate).fewer (fun k h => h.elim), fun _ => rfl, hWt7, hC7, hdn7⟩)
                      clear hD hlD hrd SC hne hn5 hcc HRI HOP HSC hWt7 hC7 hdn7 hnil hoa hC
                      generalize (lateL ls2.flatten o5).length = nD at *
                      generalize lateL ls2.flatten o5 = D at *
                      generalize ls2.flatten.length = nM at *
                      generalize ls2.flatten = M at *
                      go_wp2_with (first
                        | (go_at_call 13; (with_reducible refine (HPR.out).mono ?_); rintro e w8 ⟨A8, c8, rfl, r8, hb8⟩; have r5 := HR5.out _ hb8)
                        | (go_at_call 12; (with_reducible refine (HPL.out _ _ _ r8 r5).mono ?_); rintro e w9 ⟨rfl, hb9⟩; have hb89 := below_two hb8 hb9))
                      go_meet
                      exact HF.out _ hb89
                    · obtain ⟨_, rfl⟩ := hls
                      have heq : (ls5 ++ [o5]).flatten = lateL ls5.flatten o5 := by rw [hD, List.flatten_append]; simp
                      rw [decide_eq_true heq] at HPL
                      have HF := Lib.hid (show ∀ W, Below wC.heap.size wC W → W.cell? ⟨p, 0, none⟩ = some v5 ∧ W.frozen? ⟨p, 0, none⟩ = false ∧ ∃ (g6 : Nat) (dn6 : Bool), Value.pointer (some ⟨g7, 0, none⟩) = .pointer (some ⟨g6, 0, none⟩) ∧ Value.bool false = .bool dn6 ∧ PlayAt wb p gt (j + 1) g6 (.slice none 0 0) dn6 (W.setCell ⟨p, 0, none⟩ (.slice (some ad) (lateL ls5.flatten o5).length c5)) from fun W h => by
                        obtain ⟨h1, h2, h3⟩ := (HSC.out W h).take
                        rw [← heq] at h3 ⊢
                        exact ⟨h1, h2, g7, false, rfl, rfl, _, _, ls5 ++ [o5], [], s7, h3.fewer (fun k h => h.elim), fun _ => rfl, hWt7, hC7, hdn7⟩)
                      clear hD hlD hrd SC heq hn5 hcc HRI HOP HSC hWt7 hC7 hdn7 hnil hoa hC
                      generalize (lateL ls5.flatten o5).length = nD at *
                      generalize lateL ls5.flatten o5 = D at *
                      generalize (ls5 ++ [o5]).flatten.length = nM at *
                      generalize (ls5 ++ [o5]).flatten = M at *
                      go_wp2_with (first
                        | (go_at_call 13; (with_reducible refine (HPR.out).mono ?_); rintro e w8 ⟨A8, c8, rfl, r8, hb8⟩; have r5 := HR5.out _ hb8)
                        | (go_at_call 12; (with_reducible refine (HPL.out _ _ _ r8 r5).mono ?_); rintro e w9 ⟨rfl, hb9⟩; obtain ⟨k1, k2, hfin⟩ := HF.out _ (below_two hb8 hb9)))
                      go_meet
                      exact hfin
                · go_wp2
                  go_meet
                  exact ⟨g, s5.down, rfl, rfl, f5, v5, ls5, o5, s5, S5.fewer (fun k h => h.elim), hnil, hWt, hC, rfl⟩
              case rest => as_aux_lemma =>
                clear hre S5 hnil hC hoa
                obtain ⟨g6, dn6, rfl, rfl, hS⟩ := hcut
                rename World => w6
                go_upto_region 54 with fail
                cases dn6 with
                | true =>
                  obtain ⟨f6, v6, ls6, o6, s6, S6, h61, h62, h63, h64⟩ := id hS
                  go_quiet (fail)
                  go_wp2
                  go_roundw
                  case rel => exact ⟨j + 1, g6, _, true, by omega, rfl, rfl, rfl, by go_num, f6, v6, ls6, o6, s6, S6.below (below_drewN (Below.refl _ _) _), h61, h62, h63, h64⟩
                  case measure => simp [intOf]; omega
                | false =>
                  obtain ⟨f6, v6, ls6, o6, s6, S6, h61, h62, h63, h64⟩ := id hS
                  obtain ⟨A6, c6, rfl, hc6⟩ := S6.row.slice
                  have S7 := S6.below (bd1 w6)
                  have hM7 : ls6.flatten.length ≤ 1000000 := by
                    have := h63.n
                    omega
                  have HT := Lib.hid (S7.tells rfl hM7 rfl hx)
                  have HF := Lib.hid (show ∀ W, Below w6.drew.heap.size w6.drew W → PlayAt wb p gt (j + 1) g6 u11 false W from fun W h => ⟨f6, _, ls6, o6, s6, S7.below h, h61, h62, h63, h64⟩)
                  have l1 : w6.drew.cell? ⟨p, 0, none⟩ = some (.slice A6 ls6.flatten.length c6) := S7.mod.cell 0
                  have l2 : (loadId ⟨w.heap.size, 0, none⟩).run Try.prog w6.drew = .ok (ida x) w6.drew := run_loadId (range_aft hX0 S7.bel) hx
                  unfold BoolP at HT
                  clear S6 S7 hM7 hc6 h61 h62 h63 h64 hS
                  generalize ls6.flatten.length = nM at *
                  generalize ls6.flatten = M at *
                  go_wp2
                  refine still_tail 9 (by kernel_rfl) (by kernel_rfl) ?_
                  simp only [List.take_succ_cons, List.take_zero, List.drop_succ_cons, List.drop_zero]
                  repeat still_step
                  refine wpStill_nil ?_
                  go_wp2_with (go_at_call 24; (with_reducible refine HT.out.mono ?_); rintro e w7 ⟨rfl, hb7⟩)
                  go_roundw
                  case rel => exact ⟨j + 1, g6, _, false, by omega, rfl, rfl, rfl, by go_num, HF.out _ hb7⟩
                  case measure => simp [intOf]; omega
      · have j2 : ¬ (j : Int) < 40 := by omega
        obtain ⟨f, v, ls, o, s, S, _⟩ := hS
        go_wp2
        go_ret
        exact ⟨rfl, below_two hb0 S.bel⟩
    · have j1 : ¬ (j : Int) < (k : Int) := by omega
      obtain ⟨f, v, ls, o, s, S, _⟩ := hS
      go_wp2
      go_ret
      exact ⟨rfl, below_two hb0 S.bel⟩
end Go.Proofs.Ytokamaogognjoaa
