/-
  The log's Add of a new text; Add, all ways.
-/
import Derived.Test.YtgokompppadogaaRvF
set_option linter.unusedVariables false
set_option linter.unusedSimpArgs false
namespace Go.Proofs.Ytgokompppadogaa
open Go.RowKit
open Go.ChangeMaps (setBlock heap_setBlock_same heap_setBlock_other)

/-- the cells of a world are there, but those of one block. -/
def Kp (w : World) (g : Nat) (W : World) : Prop := ∀ (p : Addr) v, w.cell? p = some v → p.block ≠ g → W.cell? p = some v
theorem Kp.drew {w W : World} {g : Nat} (h : Kp w g W) : Kp w g W.drew := fun p v hv hp => h p v hv hp
theorem Kp.refl (w : World) (g : Nat) : Kp w g w := fun _ _ hv _ => hv
theorem Kp.below {w W W' : World} {g : Nat} (h : Kp w g W) (hb : Below W.heap.size W W') : Kp w g W' := fun p v hv hp => cell_later hb (h p v hv hp)
theorem Kp.set_ {w W : World} {g i : Nat} (h : Kp w g W) (u : Value) : Kp w g (W.setCell ⟨g, i, none⟩ u) := fun p v hv hp => by
  have hg : W.grownBy (W.setCell ⟨g, i, none⟩ u) (some g) := ⟨rfl, rfl, rfl, by simp [World.setCell], fun k _ hk => Below.heap_setCell W _ u k (fun e => hk (by rw [e]))⟩
  exact hg.cell (h p v hv hp) (fun e => hp (by injection e))
theorem Kp.map {w W : World} {g mb : Nat} {kv : KV} (h : Kp w g W) (hm : IMap W mb kv) (o : Obj) : Kp w g (setBlock W mb o) := fun p v hv hp => (hm.cells o (h p v hv hp)).2
theorem rev_form {w : World} {base : Nat} {v : Value} {n : Nat} {xs : List Value} (h : w.ownsRow base 72 61 v (n + 1) xs) : ∃ g' cap, v = .slice (some ⟨g', 0, none⟩) (n + 1) cap ∧ base ≤ g' ∧ g' < w.heap.size ∧ n + 1 ≤ cap ∧ ∀ i u, xs[i]? = some u → w.cell? ⟨g', i, none⟩ = some u := by
  have hl := h.1
  rcases h.2 with ⟨_, e⟩ | ⟨g', cap, cur, e, h1, h2, h3, h4, h5, h6⟩
  · omega
  · refine ⟨g', cap, e, h1, (Array.getElem?_eq_some_iff.1 h2).1, h3, fun i u hu => ?_⟩
    have hi := (List.getElem?_eq_some_iff.1 hu).1
    rw [Blk.cell h2]
    rw [← h6, List.getElem?_take_of_lt (by omega)] at hu
    simpa using hu
/-- the load of the row of revisions, under a name: the walk of the region leaves it where it stands. -/
def ldAll : Op := .load 63 (.tmp 32)
@[go_sem] theorem ldAll_def : ldAll = .load 63 (.tmp 32) := rfl
theorem set_grown (w : World) (g i : Nat) (v : Value) : w.grownBy (w.setCell ⟨g, i, none⟩ v) (some g) := ⟨rfl, rfl, rfl, by simp [World.setCell], fun k _ hk => Below.heap_setCell w _ v k (fun e => hk (by rw [e]))⟩
set_option maxRecDepth 100000 in
set_option maxHeartbeats 4000000 in
theorem add_new (P : Nat → Prop) (g : Nat) (L : Lg) (A : Option Addr) (n c : Nat) (t p1 p2 : List Int) (w : World) (h : LgAt w P g L) (hA : RB w A n t) (hnc : n ≤ c) (hn : n ≤ 1500) (h1 : IsId p1) (h2 : IsId p2) (hll : L.length ≤ 90000) (hm0 : mayE L t p1 p2 = 0) (hp : posL L (nodeV t p1 p2) = none) :
    Calls Try.prog 9 #[.pointer (some ⟨g, 0, none⟩), .slice A n c, ida p1, ida p2] w (AddPost (nodeV t p1 p2) 0 P g (L ++ [newR L t p1 p2]) w) := by
  have hb0 := adW_below p1 p2 w
  have r1 := run_loadId (adW_1 p1 p2 w).range h1
  have r2 := run_loadId (adW_2 p1 p2 w).range h2
  have hu := idTy
  have hinv : LInv (L ++ [newR L t p1 p2]) := by
    obtain ⟨_, _, _, _, _, _, hm⟩ := h
    exact hm.inv.snoc (posL_none hp) ⟨nodeV_id _ _ _, h1, h2⟩ ⟨hA.byts, by show t.length ≤ 1500; rw [hA.len]; exact hn⟩ (keepC_le L t)
  have hmay := may_any P g L A n c t p1 p2 _ (h.below hb0) (hA.below hb0) hnc hn h1 h2 (by omega)
  rw [hm0] at hmay
  unfold IntP at hmay
  have HB := Lib.hid (show ∀ W, Below (adW p1 p2 w).heap.size (adW p1 p2 w) W → (loadId ⟨w.heap.size, 0, none⟩).run Try.prog W = .ok (ida p1) W ∧ (loadId ⟨w.heap.size + 1, 0, none⟩).run Try.prog W = .ok (ida p2) W ∧ Blk W (w.heap.size + 1 + 1) 27 zid ∧ Blk W w.heap.size 27 (bv p1).toArray ∧ Blk W (w.heap.size + 1) 27 (bv p2).toArray from fun W hW =>
    ⟨run_loadId ((adW_1 p1 p2 w).below hW (adW_1 p1 p2 w).lt).range h1, run_loadId ((adW_2 p1 p2 w).below hW (adW_2 p1 p2 w).lt).range h2, (adW_3 p1 p2 w).below hW (adW_3 p1 p2 w).lt, (adW_1 p1 p2 w).below hW (adW_1 p1 p2 w).lt, (adW_2 p1 p2 w).below hW (adW_2 p1 p2 w).lt⟩)
  have HN := Lib.hid (show ∀ W, Below w.heap.size w W → Calls Try.prog 19 #[.slice A n c, ida p1, ida p2] W (IdP (nodeV t p1 p2) W) from fun W hW => node_any A n c t p1 p2 W (hA.below hW) hnc (by omega) h1 h2)
  have hX := nodeV_id t p1 p2
  have HH := Lib.hid (show ∀ W, Below w.heap.size w W → Calls Try.prog 26 #[.pointer (some ⟨g, 0, none⟩), ida (nodeV t p1 p2)] W (fun e w' => e = .returned (.bool false) ∧ Below W.heap.size W w') from fun W hW => by
    have := has_any P g L _ W (h.below hW) hX
    rwa [(atI_no hp).1] at this)
  have HKE := Lib.hid (show ∀ W, Below w.heap.size w W → Calls Try.prog 28 #[.pointer (some ⟨g, 0, none⟩), .slice A n c] W (KeepP g (prevT L L.length) t (keepC L t) W) from fun W hW => keep_any P g L A n c t W (h.below hW) (hA.below hW) hnc hn (by omega))
  unfold KeepP at HKE
  obtain ⟨A0, n0, c0, mb, kv, Vs, hm⟩ := h.bounded
  have hn0 := hm.len
  subst hn0
  have HNR := Lib.hid (show newR L t p1 p2 = ⟨nodeV t p1 p2, p1, p2, t, keepC L t⟩ from rfl)
  have HCH := Lib.hid (show L.length = 0 → keepC L t = 0 from fun h0 => by unfold keepC; rw [if_pos h0])
  have HP := Lib.hid hp
  have HI := Lib.hid hinv
  clear hm0 hp hinv
  generalize nodeV t p1 p2 = X at *
  generalize keepC L t = ch at *
  have hzX := id_sz hX
  have hsX := id_zs hX
  have hgl := hm.blk.lt
  have hml := hm.map.lt
  have HM := Lib.hid hm
  have HLC := Lib.hid (lgC_len hm.inv hm.vl)
  have hfull : L.length ≤ c0 := hm.cap
  have HNU := Lib.hid hm.nul
  have HRW := Lib.hid (show ∀ W, Below w.heap.size w W → 0 < L.length → ∃ b o, A0 = some ⟨b, o, none⟩ ∧ ∀ i v, (lgC L Vs)[i]? = some v → W.cell? ⟨b, o + i, none⟩ = some v from fun W hW h0 => by
    obtain ⟨b, o, e, _, _, _, hc⟩ := hm.row h0
    exact ⟨b, o, e, fun i v hv => cell_later hW (hc i v hv)⟩)
  clear hm
  go_enter Try.func9, Try.ntmps9
  go_wp2_with (first
    | (go_at_call 25; (with_reducible refine hmay.mono ?_); rintro e w1 ⟨rfl, hb1⟩; have s1 := (HB.out _ hb1).1; have s2 := (HB.out _ hb1).2.1; have hb01 := below_two hb0 hb1)
    | (go_at_call 19; (refine (HN.out _ hb01).mono ?_); rintro e w2 ⟨rfl, hb2⟩; have hb12 := below_two hb1 hb2; have hb02 := below_two hb01 hb2)
    | ((with_reducible refine st_row 27 11 24 w2.heap.size 27 (bv X).toArray zid ?_ ?_ ?_ hzX hsX (bvArr_all X) ?_); rfl; rfl; exact Blk.new w2 27 zid; intro w4 hb4 hg4 hsz4; have q4 := run_loadId hb4.range hX; have hz2 := hb2.size; have hb14 := (hb12.alloc hb12.size (.cells zid 27)).grown hg4 (Nat.le_trans hb12.size ((Below.refl w2.heap.size w2).alloc (Nat.le_refl _) (.cells zid 27)).size) (fun k hk => by cases hk; exact hb12.size); have hb04 := below_two hb0 hb14)
    | (go_at_call 26; (refine (HH.out _ hb04).mono ?_); rintro e w5 ⟨rfl, hb5⟩; have hb15 := below_two hb14 hb5; have hb05 := below_two hb04 hb5))
  have x5 := hb4.below hb5 hb4.lt
  have k5 := HB.out _ hb15
  have hbX : w2.heap.size ≠ g := by have := hb02.size; omega
  generalize w2.heap.size = bX at *
  have HSV := Lib.hid (show ∀ W, Kp w5 g W → (loadId ⟨bX, 0, none⟩).run Try.prog W = .ok (ida X) W ∧ (loadId ⟨w.heap.size, 0, none⟩).run Try.prog W = .ok (ida p1) W ∧ (loadId ⟨w.heap.size + 1, 0, none⟩).run Try.prog W = .ok (ida p2) W from fun W hW =>
    ⟨run_loadId (fun i v hv => hW _ v (x5.range i v hv) hbX) hX, run_loadId (fun i v hv => hW _ v (k5.2.2.2.1.range i v hv) (by show w.heap.size ≠ g; omega)) h1, run_loadId (fun i v hv => hW _ v (k5.2.2.2.2.range i v hv) (by show w.heap.size + 1 ≠ g; omega)) h2⟩)
  have kp5 : Kp w5 g w5.drew := (Kp.refl w5 g).drew
  have hb5d : Below w.heap.size w w5.drew := below_drewN hb05 1
  have a5 : w5.drew.cell? ⟨g, 0, none⟩ = some (.slice A0 L.length c0) := (HM.out.below hb5d).blk.cell 0
  have hclip : ∀ W, Calls Try.prog 27 #[.slice A0 L.length c0] W (fun e w' => e = .returned (.slice A0 L.length L.length) ∧ W = w') := fun W => clip_any A0 L.length c0 W hfull HNU.out (by omega)
  have HC := Lib.hid hclip
  clear hclip s1 s2
  rw [← ldAll_def, ldI_eq 11, ldI_eq 6, ldI_eq 7]
  go_region_held3 (fun W => (loadId ⟨bX, 0, none⟩).run Try.prog W = .ok (ida X) W ∧ (loadId ⟨w.heap.size, 0, none⟩).run Try.prog W = .ok (ida p1) W ∧ (loadId ⟨w.heap.size + 1, 0, none⟩).run Try.prog W = .ok (ida p2) W)
    (first | exact HSV.out _ kp9 | exact HSV.out _ kp8 | exact HSV.out _ kp7a | exact HSV.out _ kp7 | exact HSV.out _ kp5)
    (first
      | (go_at_call 27; (with_reducible refine (HC.out _).mono ?_); rintro e wC ⟨rfl, rfl⟩)
      | (go_at_call 28; (with_reducible refine (HKE.out _ hb5d).mono ?_); rintro e w7 ⟨T, XX, rfl, hk7, hb7⟩; have hb07 := below_two hb5d hb7; have kp7 := kp5.below hb7; have a7 : w7.cell? ⟨g, 0, none⟩ = some (.slice A0 L.length c0) := cell_later hb7 a5; have al7 := (Below.refl w7.heap.size w7).alloc (Nat.le_refl _) (.cells (revC X p1 p2 T XX).toArray 72); have kp7a := kp7.below al7; have hb07a := below_two hb07 al7; have nb7 := Blk.new w7 72 (revC X p1 p2 T XX).toArray; have mk1 := run_mkRev; have mk2 := run_mkRevs)
      | (refine step_appRev rfl (.tmp 34) (.tmp 42) rfl A0 L.length (lgC L Vs) rfl (fun h0 => (HNU.out h0).1) HLC.out (HRW.out _ hb07a) w7.heap.size (revC X p1 p2 T XX) rfl nb7 (revC_len X p1 p2 hX h1 h2 T XX) (revC_one X p1 p2 T XX) (by omega) ?_; intro v8 w8 ho8 hg8; obtain ⟨g', cap, rfl, hg1, hg2, hcap, hrow⟩ := rev_form ho8; have al8 : Below (w7.alloc (.cells (revC X p1 p2 T XX).toArray 72)).heap.size (w7.alloc (.cells (revC X p1 p2 T XX).toArray 72)) w8 := ⟨hg8.os, hg8.tape, hg8.output, hg8.size, fun i hi => hg8.block i hi (by simp)⟩; have kp8 := kp7a.below al8; have hb08 := below_two hb07a al8; have kp9 := kp8.set_ (i := 0) (.slice (some ⟨g', 0, none⟩) (L.length + 1) cap); have m8 := HM.out.below hb08; have c8 : w8.cell? ⟨g, 0, none⟩ = some (.slice A0 L.length c0) := m8.blk.cell 0; have f8 := m8.blk.frozen 0))
  all_goals
    go_wp2
    have hmg : mb ≠ g := m8.map.notBlk m8.blk
    have b9 : Blk (w8.setCell ⟨g, 0, none⟩ (.slice (some ⟨g', 0, none⟩) (L.length + 1) cap)) g 65 #[.slice (some ⟨g', 0, none⟩) (L.length + 1) cap, .map (some mb)] := by
      have := m8.blk.set_ 0 (.slice (some ⟨g', 0, none⟩) (L.length + 1) cap)
      simpa using this
    have m9 : IMap (w8.setCell ⟨g, 0, none⟩ (.slice (some ⟨g', 0, none⟩) (L.length + 1) cap)).drew mb kv := (m8.map.grown (set_grown w8 g 0 _) (fun e => hmg (by injection e))).drewN 1
    have c90 : (w8.setCell ⟨g, 0, none⟩ (.slice (some ⟨g', 0, none⟩) (L.length + 1) cap)).drew.cell? ⟨g, 0, none⟩ = some (.slice (some ⟨g', 0, none⟩) (L.length + 1) cap) := b9.drew.cell 0
    have c91 : (w8.setCell ⟨g, 0, none⟩ (.slice (some ⟨g', 0, none⟩) (L.length + 1) cap)).drew.cell? ⟨g, 1, none⟩ = some (.map (some mb)) := b9.drew.cell 1
    have kp9d := kp9.drew
    have hup : (Instr.mapUpdate 62 (.map (some mb)) (ida X) (.int .i64 (L.length : Int))).run Try.prog (w8.setCell ⟨g, 0, none⟩ (.slice (some ⟨g', 0, none⟩) (L.length + 1) cap)).drew = .ok () (setBlock (w8.setCell ⟨g, 0, none⟩ (.slice (some ⟨g', 0, none⟩) (L.length + 1) cap)).drew mb (mobj (kvSet kv X (.int .i64 (L.length : Nat))))) := (m9.upd placeTy hX _).1
    have kp10 := kp9d.map m9 (mobj (kvSet kv X (.int .i64 (L.length : Nat))))
    have hw1 : IntKind.i64.wrap (L.length : Int) = (L.length : Int) := IntWalk.i64_in _ (by omega)
    rw [ldI_eq 11]
    go_region_held3 (fun W => W.cell? ⟨g, 0, none⟩ = some (.slice (some ⟨g', 0, none⟩) (L.length + 1) cap) ∧ W.cell? ⟨g, 1, none⟩ = some (.map (some mb)) ∧ (loadId ⟨bX, 0, none⟩).run Try.prog W = .ok (ida X) W)
      (first | exact ⟨c90, c91, (HSV.out _ kp9d).1⟩ | exact ⟨(m9.cells _ c90).2, (m9.cells _ c91).2, (HSV.out _ kp10).1⟩) (fail)
    all_goals
      have lX := (HSV.out _ kp10).1
      have z0 := k5.2.2.1
      have hz58 : w5.heap.size ≤ w8.heap.size := Nat.le_trans hb7.size (Nat.le_trans al7.size al8.size)
      have z8 : Blk w8 (w.heap.size + 1 + 1) 27 zid := (((show Blk w5.drew (w.heap.size + 1 + 1) 27 zid from z0).below hb7 z0.lt).below al7 (Nat.lt_of_lt_of_le z0.lt hb7.size)).below al8 (Nat.lt_of_lt_of_le z0.lt (Nat.le_trans hb7.size al7.size))
      have z9 : Blk (w8.setCell ⟨g, 0, none⟩ (.slice (some ⟨g', 0, none⟩) (L.length + 1) cap)).drew (w.heap.size + 1 + 1) 27 zid := (z8.grown (set_grown w8 g 0 _) (by intro e; injection e with e; omega)).drew
      have z10 := z9.grown (m9.setb_grown (mobj (kvSet kv X (.int .i64 (L.length : Nat))))) (by intro e; injection e with e; omega)
      go_wp2_with ((with_reducible refine st_row 27 8 57 (w.heap.size + 1 + 1) 27 (bv X).toArray zid ?_ ?_ ?_ hzX hsX (bvArr_all X) ?_); rfl; rfl; exact z10; intro w11 hb11 hg11 hsz11)
      (try simp only [Exit.inBlock, Exit.then])
      refine ret_ct 8 9 (w.heap.size + 1 + 1) X Try.results9 rfl hb11.range hX rfl ?_
      have hfin := lg_added (w := w5) (W9 := (w8.setCell ⟨g, 0, none⟩ (.slice (some ⟨g', 0, none⟩) (L.length + 1) cap)).drew) (r := newR L t p1 p2) (V := .iface T XX) (HM.out.below hb05) HI.out (by rw [HNR.out]; exact HP.out)
        (show Below w5.heap.size w5 w8 from below_two (below_two (show Below w5.heap.size w5 w7 from ⟨hb7.os, hb7.tape, hb7.output, hb7.size, hb7.block⟩) al7) al8)
        (by rw [HNR.out]; exact ((hk7.keep (Nat.le_trans al7.size al8.size) (fun p v hv _ _ => cell_later al8 (cell_later al7 hv)))))
        (by rw [HNR.out]; exact HCH.out) (Nat.le_trans hb7.size (Nat.le_trans al7.size hg1)) hg2 hcap (by rw [HNR.out]; exact hrow) (grown_drewN (set_grown w8 g 0 _) 1) b9.drew
      rw [HNR.out] at hfin
      obtain ⟨hf1, hf2⟩ := hfin
      rw [HNR.out]
      have hz5 := z0.lt
      refine ⟨rfl, (hf1.grown hg11 (fun k e hk => ?_)).mono (fun k hk => ?_), ((Chg.below hb05).then hf2 (fun i hi => .inl hi.1)).then (Chg.grown (P := fun k => k = w.heap.size + 1 + 1) hg11 (fun k e => by injection e with e; exact e.symm)) (fun i hi => .inr (by omega))⟩
      · injection e with e
        subst e
        rcases hk with hk | hk
        · have := hk.2; omega
        · omega
      · rcases hk with hk | hk
        · exact .inl hk.1
        · exact .inr (Nat.le_trans hb05.size hk)
/-- Add, all ways. -/
theorem add_any (P : Nat → Prop) (g : Nat) (L : Lg) (A : Option Addr) (n c : Nat) (t p1 p2 : List Int) (w : World) (h : LgAt w P g L) (hA : RB w A n t) (hnc : n ≤ c) (hn : n ≤ 1500) (h1 : IsId p1) (h2 : IsId p2) (hll : L.length ≤ 90000) :
    Calls Try.prog 9 #[.pointer (some ⟨g, 0, none⟩), .slice A n c, ida p1, ida p2] w (AddPost (addX L t p1 p2) (mayE L t p1 p2) P g (addL L t p1 p2) w) := by
  unfold addX addL
  by_cases hm : mayE L t p1 p2 = 0
  · rw [if_pos hm, hm]
    cases hp : posL L (nodeV t p1 p2) with
    | none =>
      rw [if_pos ⟨rfl, rfl⟩]
      exact add_new P g L A n c t p1 p2 w h hA hnc hn h1 h2 hll hm hp
    | some k =>
      rw [if_neg (by simp)]
      refine (add_was P g L A n c t p1 p2 w h hA hnc hn h1 h2 (by omega) hm (atI_of hp).1).mono ?_
      rintro e w1 ⟨rfl, hb⟩
      exact ⟨rfl, (h.below hb).mono fun k hk => .inl hk, Chg.below hb⟩
  · rw [if_neg hm, if_neg (fun e => hm e.1)]
    refine (add_bad _ A n c p1 p2 _ w h1 h2 (by simpa using hm) (may_any P g L A n c t p1 p2 _ (h.below (adW_below p1 p2 w)) (hA.below (adW_below p1 p2 w)) hnc hn h1 h2 (by omega))).mono ?_
    rintro e w1 ⟨rfl, hb⟩
    exact ⟨rfl, (h.below hb).mono fun k hk => .inl hk, Chg.below hb⟩
end Go.Proofs.Ytgokompppadogaa
