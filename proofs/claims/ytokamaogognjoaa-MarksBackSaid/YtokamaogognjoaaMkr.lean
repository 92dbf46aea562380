/-
  MarksBack.
-/
import Derived.Test.YtokamaogognjoaaMkq
import Derived.Test.YtokamaogognjoaaInts
set_option linter.unusedVariables false
set_option linter.unusedSimpArgs false
namespace Go.Proofs.Ytokamaogognjoaa
open Go.RowKit

set_option maxRecDepth 100000 in
theorem SB.nou {w W : World} {p n9 g gt : Nat} {v u : Value} {M o rest : Prs} {A9 : Option Addr} {ls : List Prs} (h : SB w p v M u o A9 n9 rest g gt ls W) : SB w p v M (.slice none 0 0) [] A9 n9 rest g gt ls W := by
  obtain ⟨R, a, b⟩ := h.ex
  exact ⟨⟨R, a, fun k hk => ⟨(b k hk).1, (b k hk).2.1, (b k hk).2.2.1, (b k hk).2.2.2.1, by simp [Value.ownBlock], (b k hk).2.2.2.2.2⟩⟩, h.bel, h.mod, h.lp, h.row, OPrs.nil _ _, fun k e => by simp [Value.ownBlock] at e, h.rst, h.rfar⟩
section
variable {w W w' : World} {p n9 g gt : Nat} {v u : Value} {M o rest : Prs} {A9 : Option Addr} {ls : List Prs}
/-- with no rows beside the model's. -/
abbrev SE (w : World) (p : Nat) (v : Value) (M : Prs) (g gt : Nat) (ls : List Prs) (W : World) : Prop := SB w p v M (.slice none 0 0) [] none 0 [] g gt ls W
set_option maxRecDepth 100000 in
theorem SB.last (h : SB w p v M u o A9 n9 rest g gt ls W) : SE w p v M g gt ls W := by
  have h := h.nou
  obtain ⟨R, a, b⟩ := h.ex
  exact ⟨⟨R, a, fun k hk => ⟨(b k hk).1, (b k hk).2.1, (b k hk).2.2.1, (b k hk).2.2.2.1, by simp [Value.ownBlock], fun ad e => by cases e⟩⟩, h.bel, h.mod, h.lp, h.row, h.new, h.unp, RPrs.nil _ _, fun ad e => by cases e⟩
set_option maxRecDepth 100000 in
theorem SE.bytes (h : SE w p v M g gt ls W) (hl : (frL ls).length ≤ 1000000000) : Calls Try.prog 11 #[.pointer (some ⟨gt, 0, none⟩)] W (fun e w' => ∃ A c, e = .returned (.slice A (frL ls).length c) ∧ SE w p v M g gt ls w') := by
  obtain ⟨R, ⟨P, Q, h1, h2, _⟩, _⟩ := h.ex
  exact (tpBytes_any gt _ Q W h2 hl).mono fun e w' ⟨A, c, he, ho, hc, hb⟩ => ⟨A, c, he, h.below hb⟩
set_option maxRecDepth 100000 in
theorem SE.pairs (h : SE w p v M g gt ls W) (hM : M = ls.flatten) (hl : M.length ≤ 1000000) : Calls Try.prog 13 #[.pointer (some ⟨g, 0, none⟩)] W (fun e w' => ∃ A c, e = .returned (.slice A M.length c) ∧ RPrs w' A M.length M ∧ Below W.heap.size W w' ∧ SE w p v M g gt ls w') := by
  subst hM
  obtain ⟨R, ⟨P, Q, h1, _⟩, _⟩ := h.ex
  exact (tbPairs_any P g gt 0 _ W h1 hl).mono fun e w' ⟨A, c, he, ho, hc, hb⟩ => ⟨A, c, he, ho.reads, hb, h.below hb⟩
set_option maxRecDepth 100000 in
theorem SE.turn {R R' : Nat → Prop} {g' : Nat} {ls' : List Prs} (h : SE w p v M g gt ls W) (hR : ∀ k, R k → w.heap.size ≤ k ∧ k < W.heap.size ∧ k ≠ p ∧ v.ownBlock ≠ some k) (ht : Tm w' R' g' gt 0 ls'.flatten (Tp.clean ls' 1048576 0)) (hc : Chg R W w') (hr' : ∀ k, R' k → R k ∨ W.heap.size ≤ k) : SE w p v M g' gt ls' w' := by
  have hzw := h.bel.size
  have hpl := h.mod.lt
  refine ⟨⟨fun k => R' k ∧ k < w'.heap.size, ht.mono (fun k hk h => ⟨h, hk⟩), fun k hk => ?_⟩, hc.toBelow h.bel h.bel.size (fun k hk => (hR k hk).1), hc.blk h.mod (fun hk => (hR p hk).2.2.1 rfl), h.lp, hc.own h.row (fun k e hk => (hR k hk).2.2.2 e), OPrs.nil _ _, h.unp, RPrs.nil _ _, fun ad e => by cases e⟩
  rcases hr' k hk.1 with h7 | h7
  · exact ⟨(hR k h7).1, hk.2, (hR k h7).2.2.1, (hR k h7).2.2.2, by simp [Value.ownBlock], fun ad e => by cases e⟩
  · exact ⟨by omega, hk.2, by omega, fun e => by have := (h.row.own k e).2; omega, by simp [Value.ownBlock], fun ad e => by cases e⟩
set_option maxRecDepth 100000 in
theorem SE.open (h : SE w p v M g gt ls W) (hg : GoodL ls) (hf : (frL ls).length ≤ 100000) (hl : ls.flatten.length ≤ 3000) : Calls Try.prog 8 #[.pointer (some ⟨gt, 0, none⟩)] W (fun e w' => ∃ g', e = .returned (.tuple #[.pointer (some ⟨g', 0, none⟩), .int .i64 0]) ∧ SE w p v M g' gt ls w') := by
  obtain ⟨R, ⟨P, Q, h1, h2, h3, h4, h5⟩, b⟩ := h.ex
  refine (open_any gt _ Q ls [] W h2 (clean_ok hg (by omega) (by omega) (by omega) (by omega)) rfl rfl (by simp [Tp.clean]) hg hl takeR_nil).mono fun e w' ⟨g', he, hz, ht, hc⟩ => ⟨g', he, ?_⟩
  rw [clean_opened] at ht
  refine h.turn (R := R) (fun k hk => ⟨(b k hk).1, (b k hk).2.1, (b k hk).2.2.1, (b k hk).2.2.2.1⟩) ht (hc.mono fun i e => .inl (by rw [e]; exact h5)) fun k hk => ?_
  rcases hk with hk | hk | hk
  · exact .inl (by rw [hk]; exact h5)
  · exact .inl (h4 k hk).1
  · exact .inr hk
set_option maxRecDepth 100000 in
theorem SE.comp (h : SE w p v M g gt ls W) (hg : GoodL ls) (hf : (frL ls).length ≤ 100000) (hl : ls.flatten.length ≤ 3000) : Calls Try.prog 16 #[.pointer (some ⟨g, 0, none⟩)] W (fun e w' => e = .returned (.int .i64 0) ∧ SE w p v M g gt (oneL ls.flatten) w') := by
  obtain ⟨R, a, b⟩ := h.ex
  have := tcompact_any R g gt 0 ls.flatten _ W a (clean_ok hg (by omega) (by omega) (by omega) (by omega)) hl
  rw [comp_clean hg.allPr a.bij.all (by omega)] at this
  refine this.mono fun e w' ⟨he, ht, hc⟩ => ⟨he, ?_⟩
  have ht' : Tm w' (fun k => R k ∨ W.heap.size ≤ k) g gt 0 (oneL ls.flatten).flatten (Tp.clean (oneL ls.flatten) 1048576 0) := by rw [oneL_flat]; exact ht
  exact h.turn (fun k hk => ⟨(b k hk).1, (b k hk).2.1, (b k hk).2.2.1, (b k hk).2.2.2.1⟩) ht' hc fun k hk => hk
end
set_option maxRecDepth 100000 in
set_option maxHeartbeats 4000000 in
theorem back_walk (A : Option Addr) (n c : Nat) (L : Prs) (B : Option Addr) (k d : Nat) (zs : List Int) (w : World) (hA : RPrs w A n L) (hnc : n ≤ c) (hB : RI w B k zs) (hkd : k ≤ d) : Calls Try.prog 5 #[.slice A n c, .slice B k d] w (BoolP true w) := by
  have HAW := Lib.hid (fun W => awake26_any W)
  unfold BoolP at HAW
  by_cases hn : 60 < n
  · have h1 : (60 : Int) < (n : Int) := by omega
    go_enter Try.func5, Try.ntmps5
    go_wp2_with (go_at_call 9; (with_reducible refine (HAW.out _).mono ?_); rintro e wa ⟨rfl, hba⟩)
    go_ret
    exact ⟨rfl, hba⟩
  · have h1 : ¬ (60 : Int) < (n : Int) := by omega
    have HO := Lib.hid (show ∀ (W : World) (gt : Nat) (Q : Nat → Prop), TpAt W Q gt (Tp.new.setRoom 1048576) → Calls Try.prog 8 #[.pointer (some ⟨gt, 0, none⟩)] W (OpenPost Q gt [] (Tp.clean [] 1048576 0) (Tp.clean [] 1048576 0) W) from fun W gt Q h => open_new 1048576 gt Q W h)
    unfold OpenPost at HO
    go_enter Try.func5, Try.ntmps5
    go_upto_region 9 with (first
      | (go_at_call 7; (with_reducible refine (tpNew_any 1048576 _).mono ?_); rintro e w1 ⟨gt, rfl, z1, ht1, b1⟩; have l1 := ht1.lt; have q1 := ht1.bounded)
      | (go_at_call 8; (with_reducible refine (HO.out _ _ _ q1).mono ?_); rintro e w2 ⟨g, rfl, zg, m2, c2⟩; have hb2 := c2.toBelow b1 b1.size (fun k e => by omega))
      | (go_at_call 9; (with_reducible refine (HAW.out _).mono ?_); rintro e w3 ⟨rfl, hb3⟩; have hA3 := ((hA.below hb2).alloc (.cells #[.slice none 0 0] 46)).below hb3)
      | (at_builtin; refine wpList_appPrs rfl (.const (.slice none 0 0)) (.tmp 41) rfl w3.heap.size _ 0 [] rfl (OPrs.nil _ _) A n c L rfl hA3 (by omega) (Nat.le_refl _) ?_; intro v9 w4 ho4 hg4 hat4; rw [Nat.zero_add, List.nil_append] at ho4; obtain ⟨A9, c9, rfl, hc9⟩ := ho4.slice))
    have hb4 := (Below.refl w3.heap.size w3).grown hg4 (Nat.le_refl _) (fun k e => by cases e)
    have S0 : SB w w2.heap.size (.slice none 0 0) [] (.slice none 0 0) [] A9 n L g gt [] w4 := by
      have hz1 := b1.size
      have hz2 := c2.size
      have hz3 := hb3.size
      have hz4 := hb4.size
      rw [World.size_alloc] at hz3
      have hbA : Below w2.heap.size w2 w4 := below_two (below_two ((Below.refl _ w2).alloc (Nat.le_refl _) (.cells #[.slice none 0 0] 46)) hb3) hb4
      have hBk : Blk w4 w2.heap.size 46 #[.slice none 0 0] := (((Blk.new w2 _ _).below hb3 (Blk.new w2 _ _).lt)).below hb4 (((Blk.new w2 _ _).below hb3 (Blk.new w2 _ _).lt)).lt
      have hown : ∀ ad, A9 = some ad → w3.heap.size ≤ ad.block ∧ ad.block < w4.heap.size := fun ad e => ho4.own ad.block (by subst e; rfl)
      refine ⟨⟨_, (m2.mono (R' := fun k => (k = gt ∨ (w.heap.size ≤ k ∧ k < w1.heap.size) ∨ w1.heap.size ≤ k) ∧ k < w2.heap.size) (fun k hk h => ⟨h, hk⟩)).below hbA, fun k hk => ⟨by omega, by omega, by omega, by simp [Value.ownBlock], by simp [Value.ownBlock], fun ad e => by have := hown ad e; omega⟩⟩, below_two hb2 hbA, hBk, by omega, OPrs.nil _ _, OPrs.nil _ _, fun k e => by simp [Value.ownBlock] at e, ho4.reads, fun ad e => ⟨by have := hown ad e; omega, (hown ad e).2, by have := hown ad e; omega, by simp [Value.ownBlock]⟩⟩
    have hBr : ∀ W, Below w.heap.size w W → RI W B k zs := fun W h => hB.below h
    clear m2 c2 hb2 hb3 hb4 hg4 hat4 ho4 hA3 q1 ht1 l1 z1 b1 zg HO HAW hB
    generalize w2.heap.size = p at *
    go_wp2
    go_loopw [9, 10] (fun v9 i wr => ∃ (j : Nat) (v : Value) (A9 : Option Addr) (n9 c9 : Nat) (rest : Prs) (ls : List Prs), j ≤ 20 ∧ v9 = .slice A9 n9 c9 ∧ n9 ≤ c9 ∧ i = .int .i64 j ∧ SB w p v ls.flatten (.slice none 0 0) [] A9 n9 rest g gt ls wr ∧ GoodL ls ∧ ls.flatten.length + n9 ≤ 60 ∧ (frL ls).length ≤ 3000 * j) (fun _ i _ => 21 - (intOf i).toNat)
    case atStart => exact ⟨0, _, A9, n, c9, L, [], by omega, rfl, hc9, rfl, S0, GoodL.nil, by simp; omega, by simp [frL]⟩
    case round =>
      obtain ⟨j, v, A9, n9, c9, rest, ls, hj, rfl, hnc9, rfl, hS, hG, hlen, hfl⟩ := hrel
      have j0 : (0 : Int) ≤ (j : Int) := by omega
      by_cases hc : j ≤ k ∧ j < 20
      · have j1 : (j : Int) ≤ (k : Int) := by omega
        have j2 : (j : Int) < 20 := by omega
        go_upto_if 58 with fail
        go_cut [11] (fun v11 wx => ∃ m : Nat, m ≤ n9 ∧ v11 = .int .i64 m ∧ wr = wx)
        case first =>
          by_cases hjk : j < k
          · have j3 : (j : Int) < (k : Int) := by omega
            obtain ⟨b, o, rfl, hcl⟩ := (hBr wr hS.bel).plain (by omega)
            have hcj := hcl j hjk
            obtain ⟨m, hm, hmn⟩ : ∃ m : Nat, (IntKind.u64.wrap (gi zs j)).tmod ((n9 : Int) + 1) = (m : Int) ∧ m < n9 + 1 := by
              have := rem_modM (n9 + 1) (gi zs j) (by omega)
              simpa using this
            have n90 : (n9 : Int) ≤ 60 := by omega
            have hwi : IntKind.i64.wrap ((n9 : Int) + 1) = (n9 : Int) + 1 := by simp [IntKind.wrap, IntKind.signed, IntKind.bits]; omega
            have hwu : IntKind.u64.wrap ((n9 : Int) + 1) = (n9 : Int) + 1 := by simp [IntKind.wrap, IntKind.signed, IntKind.bits]; omega
            have hwk : IntKind.i64.wrap (m : Int) = (m : Int) := by simp [IntKind.wrap, IntKind.signed, IntKind.bits]; omega
            have hne : ¬ ((n9 : Int) + 1 = 0) := by omega
            go_wp2
            go_meet
            exact ⟨m, by omega, rfl, rfl⟩
          · have j3 : ¬ (j : Int) < (k : Int) := by omega
            go_wp2
            go_meet
            exact ⟨n9, Nat.le_refl _, rfl, rfl⟩
        case rest =>
          obtain ⟨m, hm, rfl, rfl⟩ := hcut
          have m0 : (0 : Int) ≤ (m : Int) := by omega
          have m1 : (m : Int) ≤ (n9 : Int) := by omega
          obtain ⟨Av, cv, rfl, hcv⟩ := hS.row.slice
          have hrl := (hS.rst.take hm).1
          have hal := (hS.rst.take hm).2.1
          have hcA : ∀ W, (Instr.slice 23 (.slice A9 n9 c9) none (some (.int .i64 (m : Int))) none).run Try.prog W = .ok (.slice A9 m c9) W := fun W => by
            have := run_cut_h W 23 27 40 A9 n9 c9 underPrs sizePr .i64 (m : Int) (by omega) (by omega)
            simpa using this
          have hcL := fun W => cutP_l W A9 n9 c9 m hm
          obtain ⟨h1n, h2n, h3n⟩ := freshR_new ls.flatten (rest.take m)
          have hfr := stepL_flat ls (rest.take m)
          have hgS := stepL_good hG hal
          have hfS := stepL_frL (ls := ls) hal
          have hbad := fresh_bad_nil (m := ls.flatten) (l := rest.take m)
          have HFR := Lib.hid (hS.fresh rfl (by omega) (c := c9) hm (by omega))
          have HAD := Lib.hid (show ∀ W u o, SB w p (.slice Av ls.flatten.length cv) ls.flatten u o A9 n9 rest g gt ls W → Calls Try.prog 10 #[.pointer (some ⟨g, 0, none⟩), .slice A9 m c9] W (fun e w' => e = .returned (.int .i64 (freshR ls.flatten (rest.take m)).2) ∧ SB w p (.slice Av ls.flatten.length cv) ls.flatten u o A9 n9 rest g gt (stepL ls (rest.take m)) w') from fun W u o h => h.add hG (by omega) (by omega) hm (by omega))
          have HLS := Lib.hid (show (stepL ls (rest.take m)).flatten.length + (n9 - m) ≤ 60 from by rw [hfr, List.length_append]; omega)
          have HFS := Lib.hid (show (frL (stepL ls (rest.take m))).length ≤ 3000 * (j + 1) from by omega)
          have HGS := Lib.hid hgS
          have HFL := Lib.hid hfr
          have HBD := Lib.hid hbad
          have HLO := Lib.hid (show ls.flatten.length + (freshR ls.flatten (rest.take m)).1.length ≤ 1000 from by omega)
          clear hfr hgS hfS hbad h1n h2n h3n hrl hal hG hfl
          generalize stepL ls (rest.take m) = ls2 at *
          generalize freshR ls.flatten (rest.take m) = r at *
          obtain ⟨o, er⟩ := r
          simp only at HFR HAD HFL HBD HLO
          obtain ⟨M, hM⟩ : ∃ M, ls.flatten = M := ⟨_, rfl⟩
          rw [hM] at HFR HAD HFL HLO hS
          clear hM hlen
          go_upto_region 18 with (first
            | (go_at_call 15; (with_reducible refine HFR.out.mono ?_); rintro e w5 ⟨A12, c12, rfl, S5⟩)
            | (go_at_call 10; (with_reducible refine (HAD.out _ _ _ S5).mono ?_); rintro e w6 ⟨rfl, S6⟩))
          by_cases he : er = 0
          · subst he
            have q1 := S6.mod.cell 0
            have hnr := S6.new.reads
            have hor := S6.row
            have hzS := S6.bel.size
            go_wp2_with (at_builtin; refine wpList_appPrs rfl (.tmp 91) (.tmp 92) rfl w.heap.size (.slice Av M.length cv) M.length M rfl hor A12 o.length c12 o rfl hnr ?c1 hzS ?_)
            case c1 => have := HLO.out; omega
            intro v7 w7 ho7 hg7 hat7
            obtain ⟨A7, c7, rfl, hc7⟩ := ho7.slice
            obtain ⟨e1, e2, S7⟩ := S6.app ho7 hg7 hat7
            have S8 := S7.cut hm hnc9
            go_wp2
            go_roundw
            case rel => exact ⟨j + 1, _, _, n9 - m, c9 - m, rest.drop m, ls2, by omega, rfl, by omega, by go_num, by rw [HFL.out]; exact S8, HGS.out, HLS.out, HFS.out⟩
            case measure => simp [intOf]; omega
          · have hne : (er == 0) = false := by simpa using he
            have ho := HBD.out he
            subst ho
            have S8 := (S6.nou).cut hm hnc9
            go_wp2
            go_roundw
            case rel => exact ⟨j + 1, _, _, n9 - m, c9 - m, rest.drop m, ls2, by omega, rfl, by omega, by go_num, by rw [HFL.out, List.append_nil]; exact S8, HGS.out, HLS.out, HFS.out⟩
            case measure => simp [intOf]; omega
      · obtain ⟨Av, cv, rfl, hcv⟩ := hS.row.slice
        have hE := hS.last
        obtain ⟨R, a, _⟩ := hE.ex
        have hall := a.bij.all
        have hga := hG.allPr
        have hU := frL_one_le hga hall
        have hg1 : GoodL (oneL ls.flatten) := oneL_good hG hall
        have hf0 : (frL ls).length ≤ 100000 := by omega
        have hf1 : (frL (oneL ls.flatten)).length ≤ 100000 := by omega
        have hl0 : ls.flatten.length ≤ 3000 := by omega
        have hl1 : (oneL ls.flatten).flatten.length ≤ 3000 := by rw [oneL_flat]; exact hl0
        have HBY0 := Lib.hid (fun W (h : SE w p (.slice Av ls.flatten.length cv) ls.flatten g gt ls W) => h.bytes (by omega))
        have HOP0 := Lib.hid (fun W (h : SE w p (.slice Av ls.flatten.length cv) ls.flatten g gt ls W) => h.open hG hf0 hl0)
        have HPR0 := Lib.hid (fun W g (h : SE w p (.slice Av ls.flatten.length cv) ls.flatten g gt ls W) => h.pairs rfl (by omega))
        have HCP := Lib.hid (fun W g (h : SE w p (.slice Av ls.flatten.length cv) ls.flatten g gt ls W) => h.comp hG hf0 hl0)
        have HBY1 := Lib.hid (fun W g (h : SE w p (.slice Av ls.flatten.length cv) ls.flatten g gt (oneL ls.flatten) W) => h.bytes (by omega))
        have HPR1 := Lib.hid (fun W g (h : SE w p (.slice Av ls.flatten.length cv) ls.flatten g gt (oneL ls.flatten) W) => h.pairs (oneL_flat _).symm (by omega))
        have HOP1 := Lib.hid (fun W g (h : SE w p (.slice Av ls.flatten.length cv) ls.flatten g gt (oneL ls.flatten) W) => h.open hg1 hf1 hl1)
        have HPL := Lib.hid (show ∀ W (A : Option Addr) (c : Nat), RPrs W A ls.flatten.length ls.flatten → RPrs W Av ls.flatten.length ls.flatten → Calls Try.prog 12 #[.slice A ls.flatten.length c, .slice Av ls.flatten.length cv] W (BoolP true W) from fun W A c h h' => by have := plainP_any A Av _ _ c cv _ _ W h h' (by omega) (by omega); rwa [decide_eq_true rfl] at this)
        unfold BoolP at HPL
        have hU' : ¬ (((frL (oneL ls.flatten)).length : Int) > ((frL ls).length : Int)) := by omega
        have hU2 : ¬ (((frL ls).length : Int) < ((frL (oneL ls.flatten)).length : Int)) := by omega
        have hU3 : ((frL (oneL ls.flatten)).length : Int) ≤ ((frL ls).length : Int) := by omega
        clear hall hga hU hg1 hf0 hf1 hl0 hl1 a hS hG hlen hfl
        generalize (frL (oneL ls.flatten)).length = U1 at *
        generalize oneL ls.flatten = ls1 at *
        generalize (frL ls).length = U0 at *
        have hU4 : ¬ (U0 < U1) := by omega
        have hU5 : U1 ≤ U0 := by omega
        have hU6 : decide ((U0 : Int) < (U1 : Int)) = false := by simp; omega
        have hU7 : decide (U0 < U1) = false := by simp; omega
        generalize ls.flatten = M at *
        have hx : (j : Int) ≤ (k : Int) → ¬ (j : Int) < 20 := fun h1 h2 => hc ⟨by omega, by omega⟩
        clear hc
        by_cases hjk : (j : Int) ≤ (k : Int)
        · have hj2 := hx hjk
          clear hx
          go_upto_region 23 with (first
            | (go_at_call 11; (with_reducible refine (HBY0.out _ hE).mono ?_); rintro e x1 ⟨A1, d1, rfl, E1⟩)
            | (go_at_call 8; (with_reducible refine (HOP0.out _ E1).mono ?_); rintro e x2 ⟨g2, rfl, E2⟩))
          have Ed := E2.below (bd1 x2)
          go_region_held3 (fun W => W.cell? ⟨p, 0, none⟩ = some (.slice Av M.length cv))
            (first | exact Ed.mod.cell 0 | exact E3.mod.cell 0 | exact E4.mod.cell 0 | exact E5.mod.cell 0 | exact E6.mod.cell 0 | exact E7.mod.cell 0 | exact E8.mod.cell 0)
            (first
              | (go_at_call 13; (with_reducible refine (HPR0.out _ _ Ed).mono ?_); rintro e x3 ⟨A3, d3, rfl, r3, hb3, E3⟩)
              | (go_at_call 12; (with_reducible refine (HPL.out _ _ _ r3 E3.row.reads).mono ?_); rintro e x4 ⟨rfl, hb4⟩; have E4 := E3.below hb4)
              | (go_at_call 16; (with_reducible refine (HCP.out _ _ E4).mono ?_); rintro e x5 ⟨rfl, E5⟩)
              | (go_at_call 11; (with_reducible refine (HBY1.out _ _ E5).mono ?_); rintro e x6 ⟨A6, d6, rfl, E6⟩)
              | (go_at_call 13; (with_reducible refine (HPR1.out _ _ E6).mono ?_); rintro e x7 ⟨A7, d7, rfl, r7, hb7, E7⟩)
              | (go_at_call 12; (with_reducible refine (HPL.out _ _ _ r7 E7.row.reads).mono ?_); rintro e x8 ⟨rfl, hb8⟩; have E8 := E7.below hb8))
          all_goals
            go_upto_region 26 with (go_at_call 8; (with_reducible refine (HOP1.out _ _ E8).mono ?_); rintro e x9 ⟨g3, rfl, E9⟩)
            have Ef := E9.below (bd1 x9)
            go_region_held3 (fun W => W.cell? ⟨p, 0, none⟩ = some (.slice Av M.length cv))
              (first | exact Ef.mod.cell 0 | exact E10.mod.cell 0 | exact E11.mod.cell 0)
              (first
                | (go_at_call 13; (with_reducible refine (HPR1.out _ _ Ef).mono ?_); rintro e y3 ⟨A10, d10, rfl, r10, hb10, E10⟩)
                | (go_at_call 12; (with_reducible refine (HPL.out _ _ _ r10 E10.row.reads).mono ?_); rintro e y4 ⟨rfl, hb11⟩; have E11 := E10.below hb11))
            all_goals
              go_wp2
              go_ret
              exact ⟨rfl, E11.bel⟩
        · clear hx
          go_upto_region 23 with (first
            | (go_at_call 11; (with_reducible refine (HBY0.out _ hE).mono ?_); rintro e x1 ⟨A1, d1, rfl, E1⟩)
            | (go_at_call 8; (with_reducible refine (HOP0.out _ E1).mono ?_); rintro e x2 ⟨g2, rfl, E2⟩))
          have Ed := E2.below (bd1 x2)
          go_region_held3 (fun W => W.cell? ⟨p, 0, none⟩ = some (.slice Av M.length cv))
            (first | exact Ed.mod.cell 0 | exact E3.mod.cell 0 | exact E4.mod.cell 0 | exact E5.mod.cell 0 | exact E6.mod.cell 0 | exact E7.mod.cell 0 | exact E8.mod.cell 0)
            (first
              | (go_at_call 13; (with_reducible refine (HPR0.out _ _ Ed).mono ?_); rintro e x3 ⟨A3, d3, rfl, r3, hb3, E3⟩)
              | (go_at_call 12; (with_reducible refine (HPL.out _ _ _ r3 E3.row.reads).mono ?_); rintro e x4 ⟨rfl, hb4⟩; have E4 := E3.below hb4)
              | (go_at_call 16; (with_reducible refine (HCP.out _ _ E4).mono ?_); rintro e x5 ⟨rfl, E5⟩)
              | (go_at_call 11; (with_reducible refine (HBY1.out _ _ E5).mono ?_); rintro e x6 ⟨A6, d6, rfl, E6⟩)
              | (go_at_call 13; (with_reducible refine (HPR1.out _ _ E6).mono ?_); rintro e x7 ⟨A7, d7, rfl, r7, hb7, E7⟩)
              | (go_at_call 12; (with_reducible refine (HPL.out _ _ _ r7 E7.row.reads).mono ?_); rintro e x8 ⟨rfl, hb8⟩; have E8 := E7.below hb8))
          all_goals
            go_upto_region 26 with (go_at_call 8; (with_reducible refine (HOP1.out _ _ E8).mono ?_); rintro e x9 ⟨g3, rfl, E9⟩)
            have Ef := E9.below (bd1 x9)
            go_region_held3 (fun W => W.cell? ⟨p, 0, none⟩ = some (.slice Av M.length cv))
              (first | exact Ef.mod.cell 0 | exact E10.mod.cell 0 | exact E11.mod.cell 0)
              (first
                | (go_at_call 13; (with_reducible refine (HPR1.out _ _ Ef).mono ?_); rintro e y3 ⟨A10, d10, rfl, r10, hb10, E10⟩)
                | (go_at_call 12; (with_reducible refine (HPL.out _ _ _ r10 E10.row.reads).mono ?_); rintro e y4 ⟨rfl, hb11⟩; have E11 := E10.below hb11))
            all_goals
              go_wp2
              go_ret
              exact ⟨rfl, E11.bel⟩
end Go.Proofs.Ytokamaogognjoaa
