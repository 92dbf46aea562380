/-
  The reference's Add.
-/
import Derived.Test.YtgokompppadogaaRvK0
set_option linter.unusedVariables false
set_option linter.unusedSimpArgs false
namespace Go.Proofs.Ytgokompppadogaa
open Go.RowKit

noncomputable def loadRev (p : Addr) : Sem Value := loadVar 54 p
@[go_sem ↓ high] theorem loadVar_rev (p : Addr) : loadVar 54 p = loadRev p := rfl
theorem revSz : (Try.prog.info? 54).map (·.size) = some 62 := by kernel_rfl
theorem run_loadRev {w : World} {b o : Nat} {r : Rv} {V : Value} (h : w.rangeAt b o (rfC r V)) (hi : RvIds r) : (loadRev ⟨b, o, none⟩).run Try.prog w = .ok (.agg (rfC r V).toArray) w :=
  run_loadVar_mid w b o _ (rfC r V) _ h Try.underlying54 rfl (by rw [rfC_len hi]; exact revSz)
/-- a text of the reference, zero, written out. -/
abbrev zrf : Array Value := #[.int .u8 0, .int .u8 0, .int .u8 0, .int .u8 0, .int .u8 0, .int .u8 0, .int .u8 0, .int .u8 0, .int .u8 0, .int .u8 0, .int .u8 0, .int .u8 0, .int .u8 0, .int .u8 0, .int .u8 0, .int .u8 0, .int .u8 0, .int .u8 0, .int .u8 0, .int .u8 0, .int .u8 0, .int .u8 0, .int .u8 0, .int .u8 0, .int .u8 0, .int .u8 0, .int .u8 0, .int .u8 0, .int .u8 0, .int .u8 0, .int .u8 0, .int .u8 0, .int .u8 0, .int .u8 0, .int .u8 0, .int .u8 0, .int .u8 0, .int .u8 0, .int .u8 0, .int .u8 0, .int .u8 0, .int .u8 0, .int .u8 0, .int .u8 0, .int .u8 0, .int .u8 0, .int .u8 0, .int .u8 0, .int .u8 0, .int .u8 0, .int .u8 0, .int .u8 0, .int .u8 0, .int .u8 0, .int .u8 0, .int .u8 0, .int .u8 0, .int .u8 0, .int .u8 0, .int .u8 0, .slice none 0 0, .int .i64 0]
theorem zrf_size : zrf.size = 62 := rfl
theorem rfC_all (r : Rv) (B : Option Addr) (n d : Nat) : (rfC r (.slice B n d)).toArray.all (·.oneCell') = true := by
  rw [Array.all_eq_true_iff_forall_mem]
  intro x hx
  exact rfC_one r B n d x (by simpa using hx)
/-- the load of the reference's row, under a name. -/
def ldRf : Op := .load 43 (.tmp 129)
@[go_sem] theorem ldRf_def : ldRf = .load 43 (.tmp 129) := rfl
theorem ob_ne {w : World} {base k : Nat} {v : Value} {n : Nat} {xs : List Int} (h : OB w base v n xs) (hk : ∀ j, base ≤ j → j < w.heap.size → j ≠ k) : v.ownBlock = none ∨ v.ownBlock ≠ some k := by
  cases e : v.ownBlock with
  | none => exact .inl rfl
  | some j => exact .inr (fun e' => hk j (h.own j e).1 (h.own j e).2 (by injection e'))
theorem atX_has {L : Lg} {x : IdL} : (hasL L x = true → (0 : Int) ≤ atX L x) ∧ (hasL L x = false → atX L x < 0) := by
  unfold hasL atX
  cases posL L x with
  | none => simp
  | some k => simp
def RAddP (x : IdL) (y : Int) (Q : Nat → Prop) (r : Nat) (L : Lg) (w : World) (e : Ending) (w' : World) : Prop := e = .returned (.tuple #[ida x, .int .i64 y]) ∧ RfAt w' (fun k => Q k ∨ w.heap.size ≤ k) r L ∧ Chg Q w w'
/-- the world behind the reference's Add's boxes, the none id laid too. -/
abbrev raW (p1 p2 : IdL) (w : World) : World := (adW p1 p2 w).alloc (.cells zlit 27)
set_option maxRecDepth 100000 in
set_option maxHeartbeats 8000000 in
theorem radd_any (Q : Nat → Prop) (r : Nat) (L : Lg) (A : Option Addr) (n c : Nat) (t p1 p2 : List Int) (w : World) (h : RfAt w Q r L) (hA : RB w A n t) (hnc : n ≤ c) (hn : n ≤ 1500) (h1 : IsId p1) (h2 : IsId p2) (hll : L.length ≤ 90000) :
    Calls Try.prog 17 #[.pointer (some ⟨r, 0, none⟩), .slice A n c, ida p1, ida p2] w (RAddP (addX L t p1 p2) (mayE L t p1 p2) Q r (addL L t p1 p2) w) := by
  have hb0 := adW_below p1 p2 w
  have hu := idTy
  have hn5 : ¬ (65536 : Int) < (n : Int) := by omega
  have hz0 := id_sz zeroL_id
  have hs0 := id_zs zeroL_id
  have HB := Lib.hid (show ∀ W, Below (adW p1 p2 w).heap.size (adW p1 p2 w) W → (loadId ⟨w.heap.size, 0, none⟩).run Try.prog W = .ok (ida p1) W ∧ (loadId ⟨w.heap.size + 1, 0, none⟩).run Try.prog W = .ok (ida p2) W ∧ Blk W (w.heap.size + 1 + 1) 27 zid from fun W hW =>
    ⟨run_loadId ((adW_1 p1 p2 w).below hW (adW_1 p1 p2 w).lt).range h1, run_loadId ((adW_2 p1 p2 w).below hW (adW_2 p1 p2 w).lt).range h2, (adW_3 p1 p2 w).below hW (adW_3 p1 p2 w).lt⟩)
  have hz3 : (adW p1 p2 w).heap.size = w.heap.size + 1 + 1 + 1 := by simp
  have HAT1 := Lib.hid (show ∀ W, Below w.heap.size w W → Calls Try.prog 24 #[.pointer (some ⟨r, 0, none⟩), ida p1] W (fun e w' => e = .returned (.int .i64 (atX L p1)) ∧ Below W.heap.size W w') from fun W hW => rat_any Q r L p1 W (h.below hW) h1 (by omega))
  have HAT2 := Lib.hid (show ∀ W, Below w.heap.size w W → Calls Try.prog 24 #[.pointer (some ⟨r, 0, none⟩), ida p2] W (fun e w' => e = .returned (.int .i64 (atX L p2)) ∧ Below W.heap.size W w') from fun W hW => rat_any Q r L p2 W (h.below hW) h2 (by omega))
  have HH1 := Lib.hid (atX_has (L := L) (x := p1))
  have HH2 := Lib.hid (atX_has (L := L) (x := p2))
  have HL1 := Lib.hid (show lacksL L p1 = (p1 != zeroL && !hasL L p1) from rfl)
  have HL2 := Lib.hid (show lacksL L p2 = (p2 != zeroL && !hasL L p2) from rfl)
  have n1 := fun W => ida_neq h1 zeroL_id W
  have n2 := fun W => ida_neq h2 zeroL_id W
  have N1 := Lib.hid n1
  have N2 := Lib.hid n2
  clear n1 n2
  generalize hy1 : atX L p1 = y1 at *
  generalize hy2 : atX L p2 = y2 at *
  clear hy1 hy2
  go_enter Try.func17, Try.ntmps17
  have hr0 := (HB.out _ (Below.refl _ _)).1
  have hr1 := (HB.out _ (Below.refl _ _)).2.1
  go_upto_region 4 with ((with_reducible refine st_row 27 10 20 (w.heap.size + 1 + 1 + 1) 27 (bv zeroL).toArray zid ?_ ?_ ?_ hz0 hs0 (bvArr_all zeroL) ?_); rfl; rfl; exact (show Blk (raW p1 p2 w) (w.heap.size + 1 + 1 + 1) 27 zid from by rw [← hz3]; exact Blk.new (adW p1 p2 w) 27 zlit); intro w4 hb4 hg4 hsz4)
  have hb4' : Below (adW p1 p2 w).heap.size (adW p1 p2 w) w4 := ((Below.refl (adW p1 p2 w).heap.size (adW p1 p2 w)).alloc (Nat.le_refl _) (.cells zlit 27)).grown hg4 (by simp) (fun k hk => by cases hk; omega)
  have hb04 := below_two hb0 hb4'
  have HW := Lib.hid (show ∀ W, Below w4.heap.size w4 W → Below w.heap.size w W ∧ (loadId ⟨w.heap.size, 0, none⟩).run Try.prog W = .ok (ida p1) W ∧ (loadId ⟨w.heap.size + 1, 0, none⟩).run Try.prog W = .ok (ida p2) W ∧ Blk W (w.heap.size + 1 + 1) 27 zid ∧ (loadId ⟨w.heap.size + 1 + 1 + 1, 0, none⟩).run Try.prog W = .ok (ida zeroL) W from fun W hW => by
    have h5 := HB.out W (below_two hb4' hW)
    exact ⟨below_two hb04 hW, h5.1, h5.2.1, h5.2.2, run_loadId (hb4.below hW hb4.lt).range zeroL_id⟩)
  clear hr0 hr1
  (try simp only [Act.put, List.setIfInBounds_toArray, List.set_cons_succ, List.set_cons_zero])
  go_cut [40] (fun c wx => c = .bool (lacksL L p1 || lacksL L p2) ∧ Below w4.heap.size w4 wx)
  case first =>
    have q0 := HW.out _ (Below.refl _ _)
    have l0 := q0.2.1
    have l1 := q0.2.2.1
    have lz := q0.2.2.2.2
    cases hz1 : (p1 != zeroL) with
    | false =>
      have n1 := N1.out
      rw [hz1] at n1
      cases hz2 : (p2 != zeroL) with
      | false =>
        have n2 := N2.out
        rw [hz2] at n2
        have HV := Lib.hid (show (lacksL L p1 || lacksL L p2) = false by rw [HL1.out, HL2.out, hz1, hz2]; rfl)
        clear hz1 hz2
        go_wp2
        go_meet
        exact ⟨by rw [HV.out] <;> (first | rfl | (simp; omega)), Below.refl _ _⟩
      | true =>
        have n2 := N2.out
        rw [hz2] at n2
        have hat2 := HAT2.out _ q0.1
        cases hh2 : hasL L p2 with
        | true =>
          have y20 := HH2.out.1 hh2
          have y2n : ¬ y2 < 0 := by omega
          have HV := Lib.hid (show (lacksL L p1 || lacksL L p2) = false by rw [HL1.out, HL2.out, hz1, hz2, hh2]; rfl)
          clear hz1 hz2 hh2
          go_wp2_with (go_at_call 24; refine hat2.mono ?_; rintro e w5 ⟨rfl, hb5⟩)
          go_meet
          exact ⟨by rw [HV.out] <;> (first | rfl | (simp; omega)), hb5⟩
        | false =>
          have y2n := HH2.out.2 hh2
          have HV := Lib.hid (show (lacksL L p1 || lacksL L p2) = true by rw [HL1.out, HL2.out, hz1, hz2, hh2]; rfl)
          clear hz1 hz2 hh2
          go_wp2_with (go_at_call 24; refine hat2.mono ?_; rintro e w5 ⟨rfl, hb5⟩)
          go_meet
          exact ⟨by rw [HV.out] <;> (first | rfl | (simp; omega)), hb5⟩
    | true =>
      have n1 := N1.out
      rw [hz1] at n1
      have hat1 := HAT1.out _ q0.1
      cases hh1 : hasL L p1 with
      | false =>
        have y1n := HH1.out.2 hh1
        have HV := Lib.hid (show (lacksL L p1 || lacksL L p2) = true by rw [HL1.out, hz1, hh1]; rfl)
        clear hz1 hh1
        go_wp2_with (go_at_call 24; refine hat1.mono ?_; rintro e w5 ⟨rfl, hb5⟩)
        go_meet
        exact ⟨by rw [HV.out] <;> (first | rfl | (simp; omega)), hb5⟩
      | true =>
        have y10 := HH1.out.1 hh1
        have y1n : ¬ y1 < 0 := by omega
        cases hz2 : (p2 != zeroL) with
        | false =>
          have n2 := N2.out
          rw [hz2] at n2
          have HV := Lib.hid (show (lacksL L p1 || lacksL L p2) = false by rw [HL1.out, HL2.out, hz1, hz2, hh1]; rfl)
          clear hz1 hz2 hh1
          go_wp2_with (go_at_call 24; refine hat1.mono ?_; rintro e w5 ⟨rfl, hb5⟩; have q5 := HW.out _ hb5; have m0 := q5.2.1; have m1 := q5.2.2.1; have mz := q5.2.2.2.2)
          go_meet
          exact ⟨by rw [HV.out] <;> (first | rfl | (simp; omega)), hb5⟩
        | true =>
          have n2 := N2.out
          rw [hz2] at n2
          cases hh2 : hasL L p2 with
          | true =>
            have y20 := HH2.out.1 hh2
            have y2n : ¬ y2 < 0 := by omega
            have HV := Lib.hid (show (lacksL L p1 || lacksL L p2) = false by rw [HL1.out, HL2.out, hz1, hz2, hh1, hh2]; rfl)
            clear hz1 hz2 hh1 hh2
            go_wp2_with (first
              | (go_at_call 24; (with_reducible refine hat1.mono ?_); rintro e w5 ⟨rfl, hb5⟩; have q5 := HW.out _ hb5; have m0 := q5.2.1; have m1 := q5.2.2.1; have mz := q5.2.2.2.2; have hat2 := HAT2.out _ q5.1)
              | (go_at_call 24; (with_reducible refine hat2.mono ?_); rintro e w6 ⟨rfl, hb6⟩))
            go_meet
            exact ⟨by rw [HV.out] <;> (first | rfl | (simp; omega)), below_two hb5 hb6⟩
          | false =>
            have y2n := HH2.out.2 hh2
            have HV := Lib.hid (show (lacksL L p1 || lacksL L p2) = true by rw [HL1.out, HL2.out, hz1, hz2, hh1, hh2]; rfl)
            clear hz1 hz2 hh1 hh2
            go_wp2_with (first
              | (go_at_call 24; (with_reducible refine hat1.mono ?_); rintro e w5 ⟨rfl, hb5⟩; have q5 := HW.out _ hb5; have m0 := q5.2.1; have m1 := q5.2.2.1; have mz := q5.2.2.2.2; have hat2 := HAT2.out _ q5.1)
              | (go_at_call 24; (with_reducible refine hat2.mono ?_); rintro e w6 ⟨rfl, hb6⟩))
            go_meet
            exact ⟨by rw [HV.out] <;> (first | rfl | (simp; omega)), below_two hb5 hb6⟩
  case rest =>
    obtain ⟨rfl, hbc⟩ := hcut
    have q0 := HW.out _ hbc
    have HADDB := Lib.hid (show ∀ W, Below w.heap.size w W → mayE L t p1 p2 ≠ 0 ∨ posL L (nodeV t p1 p2) ≠ none → RfAt W (fun k => Q k ∨ w.heap.size ≤ k) r (addL L t p1 p2) ∧ Chg Q w W from fun W hW hne => by
      unfold addL
      rw [if_neg (fun e => by rcases hne with hne | hne; exact hne e.1; exact hne e.2)]
      exact ⟨(h.below hW).mono fun k hk => .inl hk, Chg.below hW⟩)
    cases hL : (lacksL L p1 || lacksL L p2) with
    | true =>
      have hm : mayE L t p1 p2 = 6 := by unfold mayE; rw [if_pos hL]
      have HM := Lib.hid hm
      have z8 := q0.2.2.2.1
      clear hL hm
      go_wp2_with ((with_reducible refine st_row 27 8 41 (w.heap.size + 1 + 1) 27 (bv zeroL).toArray zid ?_ ?_ ?_ hz0 hs0 (bvArr_all zeroL) ?_); rfl; rfl; exact z8; intro w5 hb5 hg5 hsz5)
      (try simp only [Exit.inBlock, Exit.then])
      refine ret_ct 8 9 (w.heap.size + 1 + 1) zeroL Try.results17 rfl hb5.range zeroL_id rfl ?_
      have hbb := q0.1.grown hg5 q0.1.size (fun k hk => by cases hk; omega)
      have := HADDB.out _ hbb (.inl (by rw [HM.out]; omega))
      unfold addX
      rw [HM.out, if_neg (by omega)]
      exact ⟨rfl, this⟩
    | false =>
      have HL := Lib.hid hL
      have hnd := rnode_any A n c t p1 p2 wc (hA.below q0.1) hnc (by omega) h1 h2
      have hX := nodeV_id t p1 p2
      have HAX := Lib.hid (show ∀ W, Below w.heap.size w W → Calls Try.prog 24 #[.pointer (some ⟨r, 0, none⟩), ida (nodeV t p1 p2)] W (fun e w' => e = .returned (.int .i64 (atX L (nodeV t p1 p2))) ∧ Below W.heap.size W w') from fun W hW => rat_any Q r L _ W (h.below hW) hX (by omega))
      have HME := Lib.hid (show mayE L t p1 p2 = match posL L (nodeV t p1 p2) with | some k => if sameB L k t p1 p2 = true then 0 else 7 | none => if 2000 ≤ L.length then 5 else 0 from by unfold mayE; rw [if_neg (by rw [hL]; simp)]; rfl)
      have HXX := Lib.hid (show addX L t p1 p2 = if mayE L t p1 p2 = 0 then nodeV t p1 p2 else zeroL from rfl)
      have c1 := q0.2.1
      have c2 := q0.2.2.1
      clear hL
      unfold IdP at hnd
      have HND := Lib.hid hnd
      clear hnd
      have hzX := id_sz hX
      have hsX := id_zs hX
      have HA9 := Lib.hid (show ∀ (w7 w8 : World), Below wc.heap.size wc w7 → Blk w8 w7.heap.size 27 (bv (nodeV t p1 p2)).toArray → (w7.alloc (.cells zlit 27)).grownBy w8 (some w7.heap.size) → Below w4.heap.size w4 w8 from fun w7 w8 h7 _ hg8 => by
        have := (below_two hbc h7).alloc (below_two hbc h7).size (.cells zlit 27)
        exact this.grown hg8 (Nat.le_trans (below_two hbc h7).size (by simp)) (fun k hk => by cases hk; exact (below_two hbc h7).size))
      cases hp : posL L (nodeV t p1 p2) with
      | some k =>
        have hk := (posL_some hp).1
        have hax : atX L (nodeV t p1 p2) = (k : Nat) := by unfold atX; rw [hp]
        rw [hax] at HAX
        have HPN := Lib.hid (show posL L (nodeV t p1 p2) ≠ none from by rw [hp]; simp)
        rw [hp] at HME
        have k0 : (0 : Int) ≤ (k : Int) := by omega
        have k1 : (k : Int) < (L.length : Int) := by omega
        have kge : ¬ (k : Int) < 0 := by omega
        obtain ⟨AL, nL, cL, Vs, hmm⟩ := h
        have hnL := hmm.len
        subst hnL
        obtain ⟨bl, ol, BT, dT, rfl, hrow, hdT, hrT⟩ := hmm.at_ hk
        have hid := hmm.inv.ids k hk
        have cell0 : w.cell? ⟨r, 0, none⟩ = some (.slice (some ⟨bl, ol, none⟩) L.length cL) := hmm.blk.cell 0
        have HRW := Lib.hid (show ∀ W, Below w.heap.size w W → W.cell? ⟨r, 0, none⟩ = some (.slice (some ⟨bl, ol, none⟩) L.length cL) ∧ (loadRev ⟨bl, ol + k * 62, none⟩).run Try.prog W = .ok (.agg (rfC (rv L k) (.slice BT (rv L k).text.length dT)).toArray) W from fun W hW => ⟨cell_later hW cell0, run_loadRev (fun i v hv => cell_later hW (hrow i v hv)) hid⟩)
        have hrz : (Try.prog.info? 54).map (·.size) = some (rfC (rv L k) (.slice BT (rv L k).text.length dT)).toArray.size := by rw [List.size_toArray, rfC_len hid]; exact revSz
        have hrs : zrf.size = (rfC (rv L k) (.slice BT (rv L k).text.length dT)).toArray.size := by rw [zrf_size, List.size_toArray, rfC_len hid]
        have hra := rfC_all (rv L k) BT (rv L k).text.length dT
        have HBY := Lib.hid (show ∀ W, Below w.heap.size w W → Calls Try.prog 12 #[.slice BT (rv L k).text.length dT, .slice A n c] W (fun e w' => e = .returned (.bool (decide ((rv L k).text = t))) ∧ W = w') from fun W hW => bytes_any BT A _ n dT c _ t W (hrT.below hW) (hA.below hW))
        have HFL := Lib.hid (show ∀ (W : World) (g' : Nat), Blk W g' 54 (rfC (rv L k) (.slice BT (rv L k).text.length dT)).toArray → W.cell? ⟨g', 60, none⟩ = some (.slice BT (rv L k).text.length dT) ∧ (loadId ⟨g', 20, none⟩).run Try.prog W = .ok (ida (rv L k).p1) W ∧ (loadId ⟨g', 40, none⟩).run Try.prog W = .ok (ida (rv L k).p2) W from fun W g' hB => by
          have hr : W.rangeAt g' 0 (rfC (rv L k) (.slice BT (rv L k).text.length dT)) := fun j v hj => by rw [Nat.zero_add, hB.cell, List.getElem?_toArray]; exact hj
          refine ⟨by rw [hB.cell, List.getElem?_toArray]; exact (rfC_t hid).1, ?_, ?_⟩
          · have := range_p1 hid hr
            rw [Nat.zero_add] at this
            exact run_loadId this hid.2.1
          · have := range_p2 hid hr
            rw [Nat.zero_add] at this
            exact run_loadId this hid.2.2)
        have m1 := fun W => ida_neq hid.2.1 h1 W
        have m2 := fun W => ida_neq hid.2.2 h2 W
        have HSB := Lib.hid (show sameB L k t p1 p2 = (decide ((rv L k).text = t) && (rv L k).p1 == p1 && (rv L k).p2 == p2) from rfl)
        generalize nodeV t p1 p2 = X at *
        generalize (rv L k).text = tx at *
        generalize (rv L k).p1 = x1 at *
        generalize (rv L k).p2 = x2 at *
        generalize hRC : rfC (rv L k) (.slice BT tx.length dT) = RC at *
        clear hRC hrow hrT hmm hid
        have HARM := Lib.hid (show True from trivial)
        have z8 := q0.2.2.2.1
        by_cases hd1 : tx = t
        · have b1 : decide (tx = t) = true := decide_eq_true hd1
          rw [b1] at HBY
          by_cases hd2 : x1 = p1
          · have b2 : (x1 != p1) = false := by simpa using hd2
            rw [b2] at m1
            by_cases hd3 : x2 = p2
            · have b3 : (x2 != p2) = false := by simpa using hd3
              rw [b3] at m2
              have HM := Lib.hid (show mayE L t p1 p2 = 0 by rw [HME.out]; simp [HSB.out, hd1, hd2, hd3])
              clear hd1 hd2 hd3 b1 b2 b3
              go_wp2_with (first
                | (go_at_call 20; (with_reducible refine HND.out.mono ?_); rintro e w7 ⟨rfl, hb7⟩)
                | ((with_reducible refine st_row 27 11 45 w7.heap.size 27 (bv X).toArray zid ?_ ?_ ?_ hzX hsX (bvArr_all X) ?_); rfl; rfl; exact Blk.new w7 27 zid; intro w8 hb8 hg8 hsz8; have q8 := run_loadId hb8.range hX; have hb48 := HA9.out w7 w8 hb7 hb8 hg8; have hax := HAX.out _ (HW.out _ hb48).1)
                | (go_at_call 24; (with_reducible refine hax.mono ?_); rintro e w9 ⟨rfl, hb9⟩; have hb49 := below_two hb48 hb9; have q9 := HW.out _ hb49; have r9 := (HRW.out _ q9.1).1; have r9' := (HRW.out _ q9.1).2; have x9 := hb8.below hb9 hb8.lt)
                | ((with_reducible refine st_row 54 13 57 w9.heap.size 54 RC.toArray zrf ?_ ?_ ?_ hrz hrs hra ?_); rfl; rfl; exact Blk.new w9 54 zrf; intro w10 hb10 hg10 hsz10; have hb4a := (hb49.alloc hb49.size (.cells zrf 54)).grown hg10 (Nat.le_trans hb49.size ((Below.refl w9.heap.size w9).alloc (Nat.le_refl _) (.cells zrf 54)).size) (fun k hk => by cases hk; exact hb49.size); have q10 := HW.out _ hb4a; have f10 := HFL.out _ _ hb10; have f1 := f10.1; have f2 := f10.2.1; have f3 := f10.2.2; have f4 := q10.2.1; have f5 := q10.2.2.1; have z10 := q10.2.2.2.1; have hbb := HBY.out _ q10.1; have x10 := x9.alloc (.cells zrf 54); have x10' := x10.grown hg10 (by intro e; injection e with e; have := x9.lt; omega); have l10 := run_loadId x10'.range hX)
                | (go_at_call 12; (with_reducible refine hbb.mono ?_); rintro e w11 ⟨rfl, rfl⟩)
                | ((with_reducible refine st_row 27 8 76 (w.heap.size + 1 + 1) 27 (bv X).toArray zid ?_ ?_ ?_ hzX hsX (bvArr_all X) ?_); rfl; rfl; exact z10; intro w12 hb12 hg12 hsz12))
              (try simp only [Exit.inBlock, Exit.then])
              refine ret_ct 8 9 (w.heap.size + 1 + 1) X Try.results17 rfl hb12.range hX rfl ?_
              have hbe := q10.1.grown hg12 q10.1.size (fun k hk => by cases hk; omega)
              rw [HXX.out, HM.out, if_pos rfl]
              exact ⟨rfl, HADDB.out _ hbe (.inr HPN.out)⟩
            · have b3 : (x2 != p2) = true := by simpa using hd3
              rw [b3] at m2
              have HM := Lib.hid (show mayE L t p1 p2 = 7 by rw [HME.out]; simp [HSB.out, hd3])
              clear hd1 hd2 hd3 b1 b2 b3
              go_wp2_with (first
                | (go_at_call 20; (with_reducible refine HND.out.mono ?_); rintro e w7 ⟨rfl, hb7⟩)
                | ((with_reducible refine st_row 27 11 45 w7.heap.size 27 (bv X).toArray zid ?_ ?_ ?_ hzX hsX (bvArr_all X) ?_); rfl; rfl; exact Blk.new w7 27 zid; intro w8 hb8 hg8 hsz8; have q8 := run_loadId hb8.range hX; have hb48 := HA9.out w7 w8 hb7 hb8 hg8; have hax := HAX.out _ (HW.out _ hb48).1)
                | (go_at_call 24; (with_reducible refine hax.mono ?_); rintro e w9 ⟨rfl, hb9⟩; have hb49 := below_two hb48 hb9; have q9 := HW.out _ hb49; have r9 := (HRW.out _ q9.1).1; have r9' := (HRW.out _ q9.1).2; have x9 := hb8.below hb9 hb8.lt)
                | ((with_reducible refine st_row 54 13 57 w9.heap.size 54 RC.toArray zrf ?_ ?_ ?_ hrz hrs hra ?_); rfl; rfl; exact Blk.new w9 54 zrf; intro w10 hb10 hg10 hsz10; have hb4a := (hb49.alloc hb49.size (.cells zrf 54)).grown hg10 (Nat.le_trans hb49.size ((Below.refl w9.heap.size w9).alloc (Nat.le_refl _) (.cells zrf 54)).size) (fun k hk => by cases hk; exact hb49.size); have q10 := HW.out _ hb4a; have f10 := HFL.out _ _ hb10; have f1 := f10.1; have f2 := f10.2.1; have f3 := f10.2.2; have f4 := q10.2.1; have f5 := q10.2.2.1; have z10 := q10.2.2.2.1; have hbb := HBY.out _ q10.1; have x10 := x9.alloc (.cells zrf 54); have x10' := x10.grown hg10 (by intro e; injection e with e; have := x9.lt; omega); have l10 := run_loadId x10'.range hX)
                | (go_at_call 12; (with_reducible refine hbb.mono ?_); rintro e w11 ⟨rfl, rfl⟩)
                | ((with_reducible refine st_row 27 8 75 (w.heap.size + 1 + 1) 27 (bv zeroL).toArray zid ?_ ?_ ?_ hz0 hs0 (bvArr_all zeroL) ?_); rfl; rfl; exact z10; intro w12 hb12 hg12 hsz12))
              (try simp only [Exit.inBlock, Exit.then])
              refine ret_ct 8 9 (w.heap.size + 1 + 1) zeroL Try.results17 rfl hb12.range zeroL_id rfl ?_
              have hbe := q10.1.grown hg12 q10.1.size (fun k hk => by cases hk; omega)
              rw [HXX.out, HM.out, if_neg (by omega)]
              exact ⟨rfl, HADDB.out _ hbe (.inr HPN.out)⟩
          · have b2 : (x1 != p1) = true := by simpa using hd2
            rw [b2] at m1
            have HM := Lib.hid (show mayE L t p1 p2 = 7 by rw [HME.out]; simp [HSB.out, hd2])
            clear hd1 hd2 b1 b2
            go_wp2_with (first
              | (go_at_call 20; (with_reducible refine HND.out.mono ?_); rintro e w7 ⟨rfl, hb7⟩)
              | ((with_reducible refine st_row 27 11 45 w7.heap.size 27 (bv X).toArray zid ?_ ?_ ?_ hzX hsX (bvArr_all X) ?_); rfl; rfl; exact Blk.new w7 27 zid; intro w8 hb8 hg8 hsz8; have q8 := run_loadId hb8.range hX; have hb48 := HA9.out w7 w8 hb7 hb8 hg8; have hax := HAX.out _ (HW.out _ hb48).1)
              | (go_at_call 24; (with_reducible refine hax.mono ?_); rintro e w9 ⟨rfl, hb9⟩; have hb49 := below_two hb48 hb9; have q9 := HW.out _ hb49; have r9 := (HRW.out _ q9.1).1; have r9' := (HRW.out _ q9.1).2; have x9 := hb8.below hb9 hb8.lt)
              | ((with_reducible refine st_row 54 13 57 w9.heap.size 54 RC.toArray zrf ?_ ?_ ?_ hrz hrs hra ?_); rfl; rfl; exact Blk.new w9 54 zrf; intro w10 hb10 hg10 hsz10; have hb4a := (hb49.alloc hb49.size (.cells zrf 54)).grown hg10 (Nat.le_trans hb49.size ((Below.refl w9.heap.size w9).alloc (Nat.le_refl _) (.cells zrf 54)).size) (fun k hk => by cases hk; exact hb49.size); have q10 := HW.out _ hb4a; have f10 := HFL.out _ _ hb10; have f1 := f10.1; have f2 := f10.2.1; have f3 := f10.2.2; have f4 := q10.2.1; have f5 := q10.2.2.1; have z10 := q10.2.2.2.1; have hbb := HBY.out _ q10.1; have x10 := x9.alloc (.cells zrf 54); have x10' := x10.grown hg10 (by intro e; injection e with e; have := x9.lt; omega); have l10 := run_loadId x10'.range hX)
              | (go_at_call 12; (with_reducible refine hbb.mono ?_); rintro e w11 ⟨rfl, rfl⟩)
              | ((with_reducible refine st_row 27 8 75 (w.heap.size + 1 + 1) 27 (bv zeroL).toArray zid ?_ ?_ ?_ hz0 hs0 (bvArr_all zeroL) ?_); rfl; rfl; exact z10; intro w12 hb12 hg12 hsz12))
            (try simp only [Exit.inBlock, Exit.then])
            refine ret_ct 8 9 (w.heap.size + 1 + 1) zeroL Try.results17 rfl hb12.range zeroL_id rfl ?_
            have hbe := q10.1.grown hg12 q10.1.size (fun k hk => by cases hk; omega)
            rw [HXX.out, HM.out, if_neg (by omega)]
            exact ⟨rfl, HADDB.out _ hbe (.inr HPN.out)⟩
        · have b1 : decide (tx = t) = false := decide_eq_false hd1
          rw [b1] at HBY
          have HM := Lib.hid (show mayE L t p1 p2 = 7 by rw [HME.out]; simp [HSB.out, hd1])
          clear hd1 b1
          go_wp2_with (first
            | (go_at_call 20; (with_reducible refine HND.out.mono ?_); rintro e w7 ⟨rfl, hb7⟩)
            | ((with_reducible refine st_row 27 11 45 w7.heap.size 27 (bv X).toArray zid ?_ ?_ ?_ hzX hsX (bvArr_all X) ?_); rfl; rfl; exact Blk.new w7 27 zid; intro w8 hb8 hg8 hsz8; have q8 := run_loadId hb8.range hX; have hb48 := HA9.out w7 w8 hb7 hb8 hg8; have hax := HAX.out _ (HW.out _ hb48).1)
            | (go_at_call 24; (with_reducible refine hax.mono ?_); rintro e w9 ⟨rfl, hb9⟩; have hb49 := below_two hb48 hb9; have q9 := HW.out _ hb49; have r9 := (HRW.out _ q9.1).1; have r9' := (HRW.out _ q9.1).2; have x9 := hb8.below hb9 hb8.lt)
            | ((with_reducible refine st_row 54 13 57 w9.heap.size 54 RC.toArray zrf ?_ ?_ ?_ hrz hrs hra ?_); rfl; rfl; exact Blk.new w9 54 zrf; intro w10 hb10 hg10 hsz10; have hb4a := (hb49.alloc hb49.size (.cells zrf 54)).grown hg10 (Nat.le_trans hb49.size ((Below.refl w9.heap.size w9).alloc (Nat.le_refl _) (.cells zrf 54)).size) (fun k hk => by cases hk; exact hb49.size); have q10 := HW.out _ hb4a; have f10 := HFL.out _ _ hb10; have f1 := f10.1; have f2 := f10.2.1; have f3 := f10.2.2; have f4 := q10.2.1; have f5 := q10.2.2.1; have z10 := q10.2.2.2.1; have hbb := HBY.out _ q10.1; have x10 := x9.alloc (.cells zrf 54); have x10' := x10.grown hg10 (by intro e; injection e with e; have := x9.lt; omega); have l10 := run_loadId x10'.range hX)
            | (go_at_call 12; (with_reducible refine hbb.mono ?_); rintro e w11 ⟨rfl, rfl⟩)
            | ((with_reducible refine st_row 27 8 75 (w.heap.size + 1 + 1) 27 (bv zeroL).toArray zid ?_ ?_ ?_ hz0 hs0 (bvArr_all zeroL) ?_); rfl; rfl; exact z10; intro w12 hb12 hg12 hsz12))
          (try simp only [Exit.inBlock, Exit.then])
          refine ret_ct 8 9 (w.heap.size + 1 + 1) zeroL Try.results17 rfl hb12.range zeroL_id rfl ?_
          have hbe := q10.1.grown hg12 q10.1.size (fun k hk => by cases hk; omega)
          rw [HXX.out, HM.out, if_neg (by omega)]
          exact ⟨rfl, HADDB.out _ hbe (.inr HPN.out)⟩
      | none =>
        have hax : atX L (nodeV t p1 p2) = -1 := by unfold atX; rw [hp]
        rw [hax] at HAX
        rw [hp] at HME
        have z8 := q0.2.2.2.1
        obtain ⟨AL, nL, cL, Vs, hmm⟩ := h.bounded
        have hnL := hmm.len
        subst hnL
        have HC0 := Lib.hid (show ∀ W, Below w.heap.size w W → W.cell? ⟨r, 0, none⟩ = some (.slice AL L.length cL) from fun W hW => cell_later hW (hmm.blk.cell 0))
        by_cases hbig : 2000 ≤ L.length
        · have hbig' : (2000 : Int) ≤ (L.length : Int) := by omega
          have HM := Lib.hid (show mayE L t p1 p2 = 5 by rw [HME.out]; simp only [if_pos hbig])
          generalize nodeV t p1 p2 = X at *
          clear hbig
          go_wp2_with (first
            | (go_at_call 20; (with_reducible refine HND.out.mono ?_); rintro e w7 ⟨rfl, hb7⟩)
            | ((with_reducible refine st_row 27 11 45 w7.heap.size 27 (bv X).toArray zid ?_ ?_ ?_ hzX hsX (bvArr_all X) ?_); rfl; rfl; exact Blk.new w7 27 zid; intro w8 hb8 hg8 hsz8; have q8 := run_loadId hb8.range hX; have hb48 := HA9.out w7 w8 hb7 hb8 hg8; have hax := HAX.out _ (HW.out _ hb48).1)
            | (go_at_call 24; (with_reducible refine hax.mono ?_); rintro e w9 ⟨rfl, hb9⟩; have hb49 := below_two hb48 hb9; have q9 := HW.out _ hb49; have r9 := HC0.out _ q9.1; have z9 := q9.2.2.2.1)
            | ((with_reducible refine st_row 27 8 83 (w.heap.size + 1 + 1) 27 (bv zeroL).toArray zid ?_ ?_ ?_ hz0 hs0 (bvArr_all zeroL) ?_); rfl; rfl; exact z9; intro w12 hb12 hg12 hsz12))
          (try simp only [Exit.inBlock, Exit.then])
          refine ret_ct 8 9 (w.heap.size + 1 + 1) zeroL Try.results17 rfl hb12.range zeroL_id rfl ?_
          have hbe := q9.1.grown hg12 q9.1.size (fun k hk => by cases hk; omega)
          rw [HXX.out, HM.out, if_neg (by omega)]
          exact ⟨rfl, HADDB.out _ hbe (.inl (by rw [HM.out]; omega))⟩
        · have hbig' : ¬ (2000 : Int) ≤ (L.length : Int) := by omega
          have HM := Lib.hid (show mayE L t p1 p2 = 0 by rw [HME.out]; simp only [if_neg hbig])
          have HAL := Lib.hid (show addL L t p1 p2 = L ++ [newR L t p1 p2] by unfold addL; rw [if_pos ⟨HM.out, hp⟩])
          have HINV := Lib.hid (show LInv (L ++ [newR L t p1 p2]) from hmm.inv.snoc (posL_none hp) ⟨nodeV_id _ _ _, h1, h2⟩ ⟨hA.byts, by show t.length ≤ 1500; rw [hA.len]; exact hn⟩ (keepC_le L t))
          have HNR := Lib.hid (show newR L t p1 p2 = ⟨nodeV t p1 p2, p1, p2, t, keepC L t⟩ from rfl)
          have HMM := Lib.hid hmm
          clear hp hmm
          generalize nodeV t p1 p2 = X at *
          go_upto_region 15 with (first
            | (go_at_call 20; (with_reducible refine HND.out.mono ?_); rintro e w7 ⟨rfl, hb7⟩)
            | ((with_reducible refine st_row 27 11 45 w7.heap.size 27 (bv X).toArray zid ?_ ?_ ?_ hzX hsX (bvArr_all X) ?_); rfl; rfl; exact Blk.new w7 27 zid; intro w8 hb8 hg8 hsz8; have q8 := run_loadId hb8.range hX; have hb48 := HA9.out w7 w8 hb7 hb8 hg8; have hax := HAX.out _ (HW.out _ hb48).1)
            | (go_at_call 24; (with_reducible refine hax.mono ?_); rintro e w9 ⟨rfl, hb9⟩; have hb49 := below_two hb48 hb9; have q9 := HW.out _ hb49; have r9 := HC0.out _ q9.1; have x9 := hb8.below hb9 hb8.lt))
          have hb09 := q9.1
          have hbXg : w.heap.size ≤ w7.heap.size := (below_two q0.1 hb7).size
          have z9 := q9.2.2.2.1
          generalize w7.heap.size = bX at *
          have HS9 := Lib.hid (show ∀ W, Below w9.heap.size w9 W → (loadId ⟨bX, 0, none⟩).run Try.prog W = .ok (ida X) W ∧ (loadId ⟨w.heap.size, 0, none⟩).run Try.prog W = .ok (ida p1) W ∧ (loadId ⟨w.heap.size + 1, 0, none⟩).run Try.prog W = .ok (ida p2) W from fun W hW => ⟨run_loadId (x9.below hW x9.lt).range hX, (HW.out _ (below_two hb49 hW)).2.1, (HW.out _ (below_two hb49 hW)).2.2.1⟩)
          have hb9d : Below w9.heap.size w9 w9.drew := below_drewN (Below.refl _ _) 1
          have hbB : Below w9.heap.size w9 (w9.alloc (.cells zrf 54)).drew := below_drewN ((Below.refl _ _).alloc (Nat.le_refl _) _) 1
          have HCB := Lib.hid (show ∀ W, Below w9.heap.size w9 W → Calls Try.prog 8 #[.slice A n c] W (fun e w' => ∃ B d, e = .returned (.slice B n d) ∧ OB w' W.heap.size (.slice B n d) n t ∧ n ≤ d ∧ Below W.heap.size W w') from fun W hW => copyBytes_any A n c t W (hA.below (below_two hb09 hW)) (by omega))
          have hl62 := fun (B : Option Addr) (d : Nat) => rfV_len X p1 p2 hX h1 h2 B n d 0
          have hone := fun (B : Option Addr) (d : Nat) => rfV_one X p1 p2 B n d 0
          have mk1 := run_mkRf
          go_cut [14] (fun v wx => ∃ b B d, v = .pointer (some ⟨b, 0, none⟩) ∧ w9.heap.size ≤ b ∧ Below w9.heap.size w9 wx ∧ wx.there b 0 62 ∧ wx.rangeAt b 0 (rfV X p1 p2 B n d 0) ∧ OB wx w9.heap.size (.slice B n d) n t ∧ n ≤ d ∧ ((Value.slice B n d).ownBlock = none ∨ (Value.slice B n d).ownBlock ≠ some b))
          case first =>
            rw [ldI_eq 11, ldI_eq 6, ldI_eq 7]
            go_region_held3 (fun W => (loadId ⟨bX, 0, none⟩).run Try.prog W = .ok (ida X) W ∧ (loadId ⟨w.heap.size, 0, none⟩).run Try.prog W = .ok (ida p1) W ∧ (loadId ⟨w.heap.size + 1, 0, none⟩).run Try.prog W = .ok (ida p2) W)
              (first | exact HS9.out _ hb912 | exact HS9.out _ hb911a | exact HS9.out _ hb911 | exact HS9.out _ hbB | exact HS9.out _ hb9d)
              (first
                | (go_at_call 8; (with_reducible refine (HCB.out w9.drew hb9d).mono ?_); rintro e w11 ⟨BT, dT, rfl, hoT, hdT, hb11⟩; have hb911 : Below w9.heap.size w9 w11 := below_two hb9d hb11; have hb911a := hb911.alloc hb911.size (.cells zrf 54); have hbz := Blk.new w11 54 zrf; have hl := hl62 BT dT; have tz : (w11.alloc (.cells zrf 54)).there w11.heap.size 0 62 := hbz.there rfl; have hst := run_stRf tz hl (hone BT dT); have hb912 := hb911a.grown (setCells_grown w11.heap.size (rfV X p1 p2 BT n dT 0) 0 _) hb911a.size (fun k hk => by cases hk; exact hb911.size))
                | (go_at_call 8; (with_reducible refine (HCB.out _ hbB).mono ?_); rintro e w11 ⟨BT, dT, rfl, hoT, hdT, hb11⟩; have hb911 : Below w9.heap.size w9 w11 := below_two hbB hb11; have hbz := ((Blk.new w9 54 zrf).drew).below hb11 (by simp); have hl := hl62 BT dT; have tz : w11.there w9.heap.size 0 62 := hbz.there rfl; have hst := run_stRf tz hl (hone BT dT); have hb912 := hb911.grown (setCells_grown w9.heap.size (rfV X p1 p2 BT n dT 0) 0 _) hb911.size (fun k hk => by cases hk; exact Nat.le_refl _)))
            all_goals
              go_wp2
              go_meet
              first
                | exact ⟨_, BT, dT, rfl, hb911.size, hb912, World.there_setCells tz _ _ _, World.rangeAt_setCells_same _ _ _ _ (by rw [hl]; exact tz), OB.lower ((hoT.alloc (.cells zrf 54)).kept (setCells_grown w11.heap.size _ 0 _) (ob_ne hoT (fun k h1 h2 => Nat.ne_of_lt h2))) (Nat.le_refl _), hdT, ob_ne hoT (fun k h1 h2 => Nat.ne_of_lt h2)⟩
                | exact ⟨_, BT, dT, rfl, Nat.le_refl _, hb912, World.there_setCells tz _ _ _, World.rangeAt_setCells_same _ _ _ _ (by rw [hl]; exact tz), OB.lower (hoT.kept (setCells_grown w9.heap.size _ 0 _) (ob_ne hoT (fun k h1 h2 => by simp at h1; omega))) (by simp), hdT, ob_ne hoT (fun k h1 h2 => by simp at h1; omega)⟩
          case rest =>
            obtain ⟨b14, BT, dT, rfl, hb14, hb9c, ht14, hr14, hoT, hdT, hneT⟩ := hcut
            rename World => w13
            clear HCB hbB hb9d mk1 hone
            have hb0c := below_two hb09 hb9c
            have c0 := HC0.out _ hb0c
            have HML := Lib.hid (show L.length ≤ 90000 from hll)
            go_upto_if 95 with fail
            go_cut [9] (fun v wx => v = .int .i64 0 ∧ Below w9.heap.size w9 wx ∧ wx.rangeAt b14 0 (rfV X p1 p2 BT n dT (keepC L t : Nat)) ∧ OB wx w9.heap.size (.slice BT n dT) n t ∧ b14 < wx.heap.size)
            case first =>
              have hlt14 : b14 < w13.heap.size := World.block_lt_of_cell? w13 ⟨b14, 61, none⟩ (by have := hr14 61 _ (rfV_get hX h1 h2 BT n dT 0 0 0).1; rw [Nat.zero_add] at this; exact this)
              by_cases h0 : L.length = 0
              · have hl0 : ¬ (0 : Int) < (L.length : Int) := by omega
                have HKC := Lib.hid (show keepC L t = 0 from by unfold keepC; rw [if_pos h0])
                clear h0
                go_wp2
                go_meet
                exact ⟨rfl, hb9c, by rw [HKC.out]; exact hr14, hoT, hlt14⟩
              · have hl0 : (0 : Int) < (L.length : Int) := by omega
                obtain ⟨bl, ol, BP, dP, hALe, hrow, hdP, hrP⟩ := HMM.out.at_ (j := L.length - 1) (by omega)
                subst hALe
                have hid := HINV.out.ids (L.length - 1) (by simp; omega)
                rw [rv_left (by omega)] at hid
                have htP := HINV.out.txt (L.length - 1) (by simp; omega)
                rw [rv_left (by omega)] at htP
                have hcP := (HINV.out.chn (L.length - 1) (by simp; omega)).1
                rw [rv_left (by omega)] at hcP
                have HKC := Lib.hid (show keepC L t = if (rv L (L.length - 1)).chain < 8 ∧ (prL (mkEdits (rv L (L.length - 1)).text t)).length < t.length then (rv L (L.length - 1)).chain + 1 else 0 from by unfold keepC; rw [if_neg h0])
                have HRW := Lib.hid (show ∀ W, Below w.heap.size w W → W.cell? ⟨r, 0, none⟩ = some (.slice (some ⟨bl, ol, none⟩) L.length cL) ∧ (loadRev ⟨bl, ol + (L.length - 1) * 62, none⟩).run Try.prog W = .ok (.agg (rfC (rv L (L.length - 1)) (.slice BP (rv L (L.length - 1)).text.length dP)).toArray) W from fun W hW => ⟨HC0.out W hW, run_loadRev (fun i v hv => cell_later hW (hrow i v hv)) hid⟩)
                have hcl62 : (rfC (rv L (L.length - 1)) (.slice BP (rv L (L.length - 1)).text.length dP)).length = 62 := rfC_len hid
                have hcone := rfC_one (rv L (L.length - 1)) BP (rv L (L.length - 1)).text.length dP
                have HFT := Lib.hid (rfC_t (V := .slice BP (rv L (L.length - 1)).text.length dP) hid)
                have HRP := Lib.hid (show ∀ W, Below w.heap.size w W → RB W BP (rv L (L.length - 1)).text.length (rv L (L.length - 1)).text from fun W hW => hrP.below hW)
                have n1 : ((L.length : Int) - 1).toNat = L.length - 1 := by omega
                have n2 : (0 : Int) ≤ (L.length : Int) - 1 := by omega
                have n3 : (L.length : Int) - 1 < (L.length : Int) := by omega
                have n4 : (1 : Int) ≤ (L.length : Int) := by omega
                have n5 : 0 < L.length := by omega
                have n6 : 1 ≤ L.length := by omega
                have nw : IntKind.i64.wrap ((L.length : Int) - 1) = (L.length : Int) - 1 := IntWalk.i64_in _ (by omega)
                have hp2 := mkPr_le (rv L (L.length - 1)).text t (by rw [hA.len]; exact hn)
                have HMK := Lib.hid (show ∀ W, Below w.heap.size w W → Calls Try.prog 35 #[.slice BP (rv L (L.length - 1)).text.length dP, .slice A n c] W (fun e w' => ∃ A' k, e = .returned (.slice A' k k) ∧ REs w' (W.heap.size ≤ ·) A' k (mkEdits (rv L (L.length - 1)).text t) ∧ Below W.heap.size W w') from fun W hW => refMake_any BP A _ n dP c _ t W (hrP.below hW) (hA.below hW) hdP hnc (by have := htP.2; omega) (by omega))
                have HPR := Lib.hid (show ∀ (W : World) (B : Nat) (E : Option Addr) (k : Nat), REs W (B ≤ ·) E k (mkEdits (rv L (L.length - 1)).text t) → Calls Try.prog 34 #[.slice E k k] W (NewB (prL (mkEdits (rv L (L.length - 1)).text t)).length (prL (mkEdits (rv L (L.length - 1)).text t)) W) from fun W B E k rr => refPrint_any _ E k k _ W rr (by have := rr.1; have := mk_len1 (rv L (L.length - 1)).text t; omega) (fun i _ => by have := mk_blen1 (rv L (L.length - 1)).text t i; have := hA.len; omega))
                unfold NewB at HPR
                have htn := hA.len
                clear hrow hrP htP hid
                generalize hRC : rfC (rv L (L.length - 1)) (.slice BP (rv L (L.length - 1)).text.length dP) = RC at *
                generalize (rv L (L.length - 1)).text = a at *
                generalize (rv L (L.length - 1)).chain = ch at *
                generalize mkEdits a t = E at *
                generalize prL E = pe at *
                clear hRC
                go_upto_region 17 with fail
                go_cut [15] (fun v wx => ∃ b, v = .pointer (some ⟨b, 0, none⟩) ∧ w13.heap.size ≤ b ∧ Below w13.heap.size w13 wx ∧ wx.rangeAt b 0 RC)
                case first =>
                  have hbd : Below w13.heap.size w13 w13.drew := below_drewN (Below.refl _ _) 1
                  have hbda := below_drewN ((Below.refl w13.heap.size w13).alloc (Nat.le_refl _) (.cells zrf 54)) 1
                  have hbz := (Blk.new w13 54 zrf).drew
                  have tz : (w13.alloc (.cells zrf 54)).drew.there w13.heap.size 0 62 := hbz.there rfl
                  have hst := run_stRf tz hcl62 hcone
                  have hbs := hbda.grown (setCells_grown w13.heap.size RC 0 _) hbda.size (fun k hk => by cases hk; exact Nat.le_refl _)
                  go_region_held3 (fun W => W.cell? ⟨r, 0, none⟩ = some (.slice (some ⟨bl, ol, none⟩) L.length cL) ∧ (loadRev ⟨bl, ol + (L.length - 1) * 62, none⟩).run Try.prog W = .ok (.agg RC.toArray) W)
                    (first | exact HRW.out _ (below_two hb0c hbs) | exact HRW.out _ (below_two hb0c hbda) | exact HRW.out _ (below_two hb0c hbd)) (fail)
                  all_goals
                    go_wp2
                    go_meet
                    exact ⟨_, rfl, Nat.le_refl _, hbs, World.rangeAt_setCells_same _ _ _ _ (by rw [hcl62]; exact tz)⟩
                case rest =>
                  obtain ⟨b15, rfl, hb15, hb1315, hr15⟩ := hcut
                  rename World => w15
                  have hb915 := below_two hb9c hb1315
                  have hb015 := below_two hb09 hb915
                  have q61 : w15.cell? ⟨b15, 61, none⟩ = some (.int .i64 (ch : Int)) := by have := hr15 61 _ HFT.out.2; rwa [Nat.zero_add] at this
                  have q60 : w15.cell? ⟨b15, 60, none⟩ = some (.slice BP a.length dP) := by have := hr15 60 _ HFT.out.1; rwa [Nat.zero_add] at this
                  have hr14' : w15.rangeAt b14 0 (rfV X p1 p2 BT n dT 0) := fun i v hv => cell_later hb1315 (hr14 i v hv)
                  have hmk := HMK.out _ hb015
                  have hoT' := hoT.below hb1315
                  have hw2 : IntKind.i64.wrap ((ch : Int) + 1) = (ch : Int) + 1 := IntWalk.i64_in _ (by omega)
                  rw [htn] at HKC
                  by_cases hlt : ch < 8 ∧ pe.length < n
                  · have HK1 := Lib.hid (show keepC L t = ch + 1 from by rw [HKC.out, if_pos hlt])
                    have k1 : (ch : Int) < 8 := by omega
                    have k2 : (pe.length : Int) < (n : Int) := by omega
                    clear hlt HKC
                    go_wp2_with (first
                      | (go_at_call 35; (with_reducible refine hmk.mono ?_); rintro e w16 ⟨A4, k4, rfl, hr4, hb4e⟩; have hpr := HPR.out _ _ _ _ hr4)
                      | (go_at_call 34; (with_reducible refine hpr.mono ?_); rintro e w17 ⟨A5, c5, rfl, ho5, hc5, hb5e⟩; have hb1517 := below_two hb4e hb5e; have g61 := cell_later hb1517 q61; have g14 := cell_later (below_two hb1315 hb1517) (by have := hr14 61 _ (rfV_get hX h1 h2 BT n dT 0 0 0).1; rw [Nat.zero_add] at this; exact this); have gf := (there_below ht14 (below_two hb1315 hb1517) 61 (by omega)).2; rw [Nat.zero_add] at gf))
                    go_meet
                    have hb917 := below_two hb915 hb1517
                    refine ⟨rfl, hb917.grown (setC_grown _ b14 61 _) hb917.size (fun k hk => by cases hk; exact hb14), ?_, ?_, ?_⟩
                    · rw [HK1.out]
                      have := rfV_set hX h1 h2 (((ch + 1 : Nat) : Int)) (show w17.rangeAt b14 0 (rfV X p1 p2 BT n dT 0) from fun i v hv => cell_later hb1517 (hr14' i v hv))
                      simpa using this
                    · exact (hoT'.below hb1517).kept (setC_grown _ b14 61 _) hneT
                    · have := (below_two hb1315 hb1517).size
                      simp
                      omega
                  · have HK1 := Lib.hid (show keepC L t = 0 from by rw [HKC.out, if_neg hlt])
                    by_cases hc8 : ch < 8
                    · have k1 : (ch : Int) < 8 := by omega
                      have k2 : ¬ (pe.length : Int) < (n : Int) := by omega
                      clear hlt HKC
                      go_wp2_with (first
                        | (go_at_call 35; (with_reducible refine hmk.mono ?_); rintro e w16 ⟨A4, k4, rfl, hr4, hb4e⟩; have hpr := HPR.out _ _ _ _ hr4)
                        | (go_at_call 34; (with_reducible refine hpr.mono ?_); rintro e w17 ⟨A5, c5, rfl, ho5, hc5, hb5e⟩; have hb1517 := below_two hb4e hb5e))
                      go_meet
                      exact ⟨rfl, below_two hb915 hb1517, by rw [HK1.out]; exact fun i v hv => cell_later hb1517 (hr14' i v hv), hoT'.below hb1517, Nat.lt_of_lt_of_le hlt14 (below_two hb1315 hb1517).size⟩
                    · have k1 : ¬ (ch : Int) < 8 := by omega
                      clear hlt HKC
                      go_wp2
                      go_meet
                      exact ⟨rfl, hb915, by rw [HK1.out]; exact hr14', hoT', Nat.lt_of_lt_of_le hlt14 hb1315.size⟩
            case rest =>
              obtain ⟨rfl, hb9f, hr14f, hoTf, hlt14⟩ := hcut
              rename World => w20
              have hb020 := below_two hb09 hb9f
              have htn := hA.len
              subst htn
              have hids : RvIds ⟨X, p1, p2, t, keepC L t⟩ := ⟨hX, h1, h2⟩
              have hm20 := HMM.out.below hb020
              have hrl : r < w.heap.size := HMM.out.blk.lt
              have hrow : ∀ k, (Value.slice AL L.length cL).ownBlock = some k → k < w.heap.size ∧ k ≠ r := fun k e => HMM.out.rowLt e
              have hz9 := hb09.size
              have hb20a : Below w20.heap.size w20 (w20.alloc (.cells (rfV X p1 p2 BT t.length dT (keepC L t : Nat)).toArray 54)).drew := below_drewN ((Below.refl _ _).alloc (Nat.le_refl _) _) 1
              have hm20a := hm20.below hb20a
              have hbN : Blk (w20.alloc (.cells (rfV X p1 p2 BT t.length dT (keepC L t : Nat)).toArray 54)).drew w20.heap.size 54 (rfV X p1 p2 BT t.length dT (keepC L t : Nat)).toArray := (Blk.new w20 _ _).drew
              have c20 : w20.drew.cell? ⟨r, 0, none⟩ = some (.slice AL L.length cL) := hm20.blk.cell 0
              have c20a : (w20.alloc (.cells (rfV X p1 p2 BT t.length dT (keepC L t : Nat)).toArray 54)).drew.cell? ⟨r, 0, none⟩ = some (.slice AL L.length cL) := hm20a.blk.cell 0
              have HLR := Lib.hid (show ∀ W, W.rangeAt b14 0 (rfV X p1 p2 BT t.length dT (keepC L t : Nat)) → (loadRev ⟨b14, 0, none⟩).run Try.prog W = .ok (.agg (rfV X p1 p2 BT t.length dT (keepC L t : Nat)).toArray) W from fun W hW => run_loadRev (r := ⟨X, p1, p2, t, keepC L t⟩) (V := .slice BT t.length dT) hW hids)
              have g0 : w20.drew.rangeAt b14 0 (rfV X p1 p2 BT t.length dT (keepC L t : Nat)) := hr14f
              have g1 : (w20.alloc (.cells (rfV X p1 p2 BT t.length dT (keepC L t : Nat)).toArray 54)).drew.rangeAt b14 0 (rfV X p1 p2 BT t.length dT (keepC L t : Nat)) := fun i v hv => cell_later hb20a (hr14f i v hv)
              have mk2 := run_mkRfs
              have hlL : L.length ≤ 100000 := by omega
              go_upto_region 20 with fail
              rw [← ldRf_def]
              go_region_held3 (fun W => (loadRev ⟨b14, 0, none⟩).run Try.prog W = .ok (.agg (rfV X p1 p2 BT t.length dT (keepC L t : Nat)).toArray) W)
                (first | exact HLR.out _ g8 | exact HLR.out _ g7 | exact HLR.out _ g1 | exact HLR.out _ g0)
                (first
                  | (refine step_appRf rfl (.tmp 130) (.tmp 132) rfl 0 (.slice AL L.length cL) L.length (rlC L Vs) rfl hm20a.own w20.heap.size (rfV X p1 p2 BT t.length dT (keepC L t : Nat)) rfl hbN (rfV_len X p1 p2 hX h1 h2 _ _ _ _) (rfV_one X p1 p2 _ _ _ _) hlL (Nat.zero_le _) ?_; intro v7 w27 ho7 hg7 hat7; obtain ⟨A7, c7, rfl, hc7⟩ := rf_form ho7; have hblk7 := hm20a.blk.grown hg7 (fun e => (hrow _ e.symm).2 rfl); have e7 : w27.cell? ⟨r, 0, none⟩ = some (.slice AL L.length cL) := hblk7.cell 0; have f7 := hblk7.frozen 0; have g7 : w27.rangeAt b14 0 (rfV X p1 p2 BT t.length dT (keepC L t : Nat)) := (fun i v hv => hg7.cell (g1 i v hv) (fun e => absurd (hrow _ e.symm).1 (by simp only; omega))); have g8 : (w27.setCell ⟨r, 0, none⟩ (.slice A7 (L.length + 1) c7)).rangeAt b14 0 (rfV X p1 p2 BT t.length dT (keepC L t : Nat)) := (fun i v hv => (setC_grown w27 r 0 _).cell (g7 i v hv) (by intro e; injection e with e; simp only at e; omega))))
              all_goals
                have x27 := (((x9.below hb9f x9.lt).below hb20a (Nat.lt_of_lt_of_le x9.lt hb9f.size)).grown hg7 (fun e => absurd (hrow _ e.symm).1 (by omega))).grown (setC_grown w27 r 0 (.slice A7 (L.length + 1) c7)) (by intro e; injection e with e; omega)
                have z27 := (((z9.below hb9f z9.lt).below hb20a (Nat.lt_of_lt_of_le z9.lt hb9f.size)).grown hg7 (fun e => absurd (hrow _ e.symm).1 (by omega))).grown (setC_grown w27 r 0 (.slice A7 (L.length + 1) c7)) (by intro e; injection e with e; omega)
                have lX := run_loadId x27.range hX
                go_wp2_with ((with_reducible refine st_row 27 8 136 (w.heap.size + 1 + 1) 27 (bv X).toArray zid ?_ ?_ ?_ hzX hsX (bvArr_all X) ?_); rfl; rfl; exact z27; intro w28 hb28 hg28 hsz28)
                (try simp only [Exit.inBlock, Exit.then])
                refine ret_ct 8 9 (w.heap.size + 1 + 1) X Try.results17 rfl hb28.range hX rfl ?_
                have hfin := rf_added (w := w9) (W := w20.drew) (x := ⟨X, p1, p2, t, keepC L t⟩) (B := BT) (d := dT) (o := .cells (rfV X p1 p2 BT t.length dT (keepC L t : Nat)).toArray 54) (HMM.out.below hb09) (by rw [← HNR.out]; exact HINV.out) (below_drewN hb9f 1) hoTf.reads hdT (fun ad e => hoTf.own ad.block (by subst e; rfl)) hg7 ho7 hc7 hat7
                obtain ⟨hf1, hf2⟩ := hfin
                have hz5 := z9.lt
                rw [HXX.out, HM.out, HAL.out, HNR.out, if_pos rfl]
                refine ⟨rfl, (hf1.grown hg28 (fun k e hk => ?_)).mono (fun k hk => ?_), ((Chg.below hb09).then hf2 (fun i hi => .inl hi.1)).then (Chg.grown (P := fun k => k = w.heap.size + 1 + 1) hg28 (fun k e => by injection e with e; exact e.symm)) (fun i hi => .inr (by omega))⟩
                · injection e with e
                  subst e
                  rcases hk with hk | hk
                  · have := hk.2; omega
                  · omega
                · rcases hk with hk | hk
                  · exact .inl hk.1
                  · exact .inr (Nat.le_trans hz9 hk)
end Go.Proofs.Ytgokompppadogaa
