/-
  MarksSplit.
-/
import Derived.Test.YtokamaogognjoaaMkl
set_option linter.unusedVariables false
set_option linter.unusedSimpArgs false
namespace Go.Proofs.Ytokamaogognjoaa
open Go.RowKit

set_option maxRecDepth 100000 in
theorem row_at {W : World} {b o n j : Nat} {L : Prs} (h : RPrs W (some ⟨b, o, none⟩) n L) (hj : j < n) : W.rangeAt b (o + j * 40) (bv (gp L j)) := by
  obtain ⟨b', o', e, hc⟩ := h.2.2 (by omega)
  cases e
  exact hc j hj
set_option maxRecDepth 100000 in
theorem row_pr {W : World} {b n j : Nat} {L : Prs} (h : RPrs W (some ⟨b, 0, none⟩) n L) (hj : j < n) : (loadPr ⟨b, j * 40, none⟩).run Try.prog W = .ok (ida (gp L j)) W := by
  have := row_at h hj
  rw [Nat.zero_add] at this
  exact run_loadPr this (h.2.1.at_ (by rw [h.1]; exact hj))
set_option maxRecDepth 100000 in
theorem run_bldPr1 (w : World) : (bldPr #[(0, .agg (bv (idc 7 0)).toArray)]).run Try.prog w = .ok (ida (idc 7 0 ++ zeroL)) w := by kernel_rfl
/-- what the last part of MarksSplit wants to know of its state. -/
structure SKit (w : World) (S : World → Prop) (b N c g1 g2 t2 : Nat) (M : Prs) : Prop where
  below : ∀ W W', S W → Below W.heap.size W W' → S W'
  bel : ∀ W, S W → Below w.heap.size w W
  row : ∀ W, S W → RPrs W (some ⟨b, 0, none⟩) N M
  by2 : ∃ U : Nat, ∀ W, S W → Calls Try.prog 11 #[.pointer (some ⟨t2, 0, none⟩)] W (fun e w' => ∃ A c, e = .returned (.slice A U c) ∧ S w')
  pa : ∀ W, S W → Calls Try.prog 13 #[.pointer (some ⟨g1, 0, none⟩)] W (fun e w' => ∃ A c, e = .returned (.slice A N c) ∧ RPrs w' A N M ∧ Below W.heap.size W w' ∧ S w')
  pb : ∀ W, S W → Calls Try.prog 13 #[.pointer (some ⟨g2, 0, none⟩)] W (fun e w' => ∃ A c, e = .returned (.slice A N c) ∧ RPrs w' A N M ∧ Below W.heap.size W w' ∧ S w')
  add : ∀ W, S W → Calls Try.prog 10 #[.pointer (some ⟨g2, 0, none⟩), .slice (some ⟨b, 0, none⟩) N c] W (fun e w' => e = .returned (.int .i64 0) ∧ S w')
  bad : ∀ W q, S W → Calls Try.prog 10 #[.pointer (some ⟨g2, 0, none⟩), .slice (some ⟨W.heap.size, 0, none⟩) 2 2] (W.alloc (.cells (pv [prc 7 8, badP q]).toArray 27)) (fun e w' => e = .returned (.int .i64 8) ∧ S w')
  zero : ∀ W, S W → Calls Try.prog 10 #[.pointer (some ⟨g2, 0, none⟩), .slice (some ⟨W.heap.size, 0, none⟩) 1 1] (W.alloc (.cells (bv (idc 7 0 ++ zeroL)).toArray 27)) (fun e w' => e = .returned (.int .i64 1) ∧ S w')
set_option maxRecDepth 100000 in
theorem skit {w : World} {b N c g1 t1 g2 t2 : Nat} (s1 : Tp) (h0 : 0 < N) (h1 : N ≤ 100) (hc : N ≤ c) :
    SKit w (St2 w (.slice (some ⟨b, 0, none⟩) N c) N (lst N) g1 t1 (lst N) s1 g2 t2 (lst N) (Tp.clean (fr1 N) 100000 0)) b N c g1 g2 t2 (lst N) := by
  have hl := lst_len N
  have hok : (Tp.clean (fr1 N) 100000 0).Ok 300000000 := clean_ok (fr1_good (by omega)) (by omega) (by omega) (by rw [fr1_len (by omega)]; omega) (by omega)
  refine ⟨fun W W' h hb => h.below hb, fun W h => h.bel, fun W h => h.row.reads, ⟨(Tp.clean (fr1 N) 100000 0).b.length, fun W h => ?_⟩, fun W h => ?_, fun W h => ?_, fun W h => ?_, fun W q h => ?_, fun W h => ?_⟩
  · exact (h.bytes (by simp only [Tp.clean]; rw [fr1_len (by omega)]; omega)).mono fun e w' ⟨A, c, he, hb⟩ => ⟨A, c, he, h.below hb⟩
  · have := h.swap.pairs (by omega)
    rw [hl] at this
    exact this.mono fun e w' ⟨A, c, he, hr, hb⟩ => ⟨A, c, he, hr, hb, h.below hb⟩
  · have := h.pairs (by omega)
    rw [hl] at this
    exact this.mono fun e w' ⟨A, c, he, hr, hb⟩ => ⟨A, c, he, hr, hb, h.below hb⟩
  · exact h.add hok h.row.reads (by omega) (split_old (by omega) fun p hp => hp)
  · exact (h.below ((Below.refl _ _).alloc (Nat.le_refl _) _)).add hok (RPrs.two (Blk.new W _ _) (prc_pr (by omega) (by omega)) (badP_pr q)) (by simp; omega) (split_bad h0 (by omega) q)
  · exact (h.below ((Below.refl _ _).alloc (Nat.le_refl _) _)).add hok (RPrs.one (Blk.new W _ _) (IsPr.mk (idc_id (by omega) (by omega)) zeroL_id)) (by simp; omega) split_zero
set_option maxRecDepth 100000 in
set_option maxHeartbeats 8000000 in
theorem split_walk (x y : Int) (gb : Bool) (w : World) (hx : (Lit.int .i64 x).wf = true) (hy : (Lit.int .i64 y).wf = true) : Calls Try.prog 3 #[.int .i64 x, .int .i64 y, .bool gb] w (BoolP true w) := by
  obtain ⟨m, hm, hm3⟩ : ∃ m : Nat, (IntKind.u64.wrap x).tmod 30 = (m : Int) ∧ m < 30 := rem_modM 30 x (by omega)
  obtain ⟨N, hN, N0, N1⟩ : ∃ N : Nat, (1 : Int) + (m : Int) = (N : Int) ∧ 0 < N ∧ N ≤ 30 := ⟨m + 1, by omega, by omega, by omega⟩
  go_enter Try.func3, Try.ntmps3
  go_upto_region 2 with fail
  clear hm hN hm3
  go_wp2_with fail
  go_loopw [7, 8] (fun v i wr => ∃ j : Nat, j ≤ N ∧ i = .int .i64 j ∧ OPrs wr w.heap.size v j (lst j) ∧ Below w.heap.size w wr) (fun _ i _ => N - (intOf i).toNat)
  case atStart => exact ⟨0, by omega, rfl, OPrs.nil _ _, Below.refl _ _⟩
  case round =>
    obtain ⟨j, hj, rfl, hown, hb⟩ := hrel
    by_cases h1 : j < N
    · obtain ⟨A6, c6, rfl, hc6⟩ := hown.slice
      have j1 : (j : Int) < (N : Int) := by omega
      have hwj : IntKind.u8.wrap (j : Int) = (j : Int) := by simp [IntKind.wrap, IntKind.signed, IntKind.bits]; omega
      have hq := qi_pr (i := j) (by omega)
      have hbq : ∀ W, (bldPr #[(0, .agg (bv (idc 1 j)).toArray), (1, .agg (bv (idc 2 j)).toArray)]).run Try.prog W = .ok (ida (qi j)) W := fun W => run_bldPr W _ _ (idc_id (by omega) (by omega)) (idc_id (by omega) (by omega))
      have HS := Lib.hid (lst_succ j)
      generalize qi j = q at *
      go_wp2_with (at_builtin; refine wpList_appPrs rfl (.tmp 28) (.tmp 36) rfl w.heap.size (.slice A6 j c6) j (lst j) rfl (hown.alloc _) (some ⟨wr.heap.size, 0, none⟩) 1 1 [q] rfl (RPrs.one (Blk.new wr _ _) hq) ?c1 ?c2 ?_)
      case c1 => omega
      case c2 => have := hb.size; simp; omega
      intro v' w3 ho3 hg3 hat3
      have hba := hb.alloc hb.size (.cells (bv q).toArray 27)
      have hb3 := hba.grown hg3 hba.size (fun k e => (hown.own k e).1)
      go_wp2
      go_roundw
      case rel => exact ⟨j + 1, by omega, by go_num, by rw [HS.out]; exact ho3, hb3⟩
      case measure => simp [intOf]; omega
    · obtain rfl : N = j := by omega
      obtain ⟨_, h0, _⟩ | ⟨b, c, cur, rfl, _, _, hc7, _⟩ := hown.form
      · omega
      have hNN : ¬ ((N : Int) < (N : Int)) := by omega
      have HO := Lib.hid (show ∀ (W : World) (gt : Nat) (Q : Nat → Prop), TpAt W Q gt (Tp.new.setRoom 100000) → Calls Try.prog 8 #[.pointer (some ⟨gt, 0, none⟩)] W (OpenPost Q gt [] (Tp.clean [] 100000 0) (Tp.clean [] 100000 0) W) from fun W gt Q h => open_new 100000 gt Q W h)
      unfold OpenPost at HO
      go_upto_region 10 with (first
        | (go_at_call 7; (with_reducible refine (tpNew_any 100000 w1).mono ?_); rintro e w2 ⟨t2, rfl, z2, ht2, b2⟩; have l2 := ht2.lt; have q2 := ht2.bounded; have q1' := q1.below b2)
        | (go_at_call 7; (with_reducible refine (tpNew_any 100000 _).mono ?_); rintro e w1 ⟨t1, rfl, z1, ht1, b1⟩; have l1 := ht1.lt; have q1 := ht1.bounded)
        | (go_at_call 8; (with_reducible refine (HO.out _ _ _ q1').mono ?_); rintro e w3 ⟨g1, rfl, zg1, m3, c3⟩; have q2' := q2.chg c3 (fun e => by omega) (fun k hk e => by omega))
        | (go_at_call 8; (with_reducible refine (HO.out _ _ _ q2').mono ?_); rintro e w4 ⟨g2, rfl, zg2, m4, c4⟩))
      have S0 : St2 w (.slice (some ⟨b, 0, none⟩) N c) N (lst N) g1 t1 [] (Tp.clean [] 100000 0) g2 t2 [] (Tp.clean [] 100000 0) w4 := st2_new hb hown z1 b1 l1 z2 b2 l2 m3 c3 m4 c4
      clear m3 c3 m4 c4 q1 q2 q1' q2' ht1 ht2 l1 l2 z1 z2 zg1 zg2 b1 b2 HO hown hb
      have HAW := Lib.hid (fun W => awake26_any W)
      unfold BoolP at HAW
      have ok0 : (Tp.clean [] 100000 0).Ok 300000000 := clean_ok GoodL.nil (by omega) (by omega) (by simp [frL]) (by omega)
      have f2 := (good_lst (k := N) (by omega) (by omega)).fresh
      have e1 : addR 0 [] (Tp.clean [] 100000 0) (lst N) = (0, lst N, Tp.clean [lst N] 100000 0) := by
        have := addR_ok (L := []) (ls := []) (r := 100000) (f := 0) (l := lst N) (by rw [f2]) (by rw [f2]; exact (good_lst (k := N) (by omega) (by omega)).ne) (by
          rw [f2]
          simp only
          rw [pack_len1 (lst_all (by omega)), lst_len]
          simp [frL]
          omega)
        rw [f2] at this
        exact this
      have HA := Lib.hid (show ∀ W, St2 w (.slice (some ⟨b, 0, none⟩) N c) N (lst N) g1 t1 [] (Tp.clean [] 100000 0) g2 t2 [] (Tp.clean [] 100000 0) W → Calls Try.prog 10 #[.pointer (some ⟨g1, 0, none⟩), .slice (some ⟨b, 0, none⟩) N c] W (fun e w' => e = .returned (.int .i64 0) ∧ St2 w (.slice (some ⟨b, 0, none⟩) N c) N (lst N) g1 t1 (lst N) (Tp.clean [lst N] 100000 0) g2 t2 [] (Tp.clean [] 100000 0) w') from fun W h => (h.swap.add ok0 h.row.reads (by rw [lst_len]; simp; omega) e1).mono fun e w' ⟨he, h'⟩ => ⟨he, h'.swap⟩)
      clear e1 f2 ok0
      go_upto_region 12 with (first
        | (go_at_call 9; (with_reducible refine (HAW.out _).mono ?_); rintro e wa ⟨rfl, hba⟩; have Sa := S0.below hba)
        | (go_at_call 10; (with_reducible refine (HA.out _ Sa).mono ?_); rintro e wb ⟨rfl, S1⟩))
      clear HAW HA
      go_wp2
      go_loopw [15] (fun i wr => ∃ j : Nat, j ≤ N ∧ i = .int .i64 j ∧ St2 w (.slice (some ⟨b, 0, none⟩) N c) N (lst N) g1 t1 (lst N) (Tp.clean [lst N] 100000 0) g2 t2 (lst j) (Tp.clean (fr1 j) 100000 0) wr) (fun i _ => N - (intOf i).toNat)
      case atStart => exact ⟨0, by omega, rfl, S1⟩
      case round =>
        obtain ⟨i, hi, rfl, hS⟩ := hrel
        by_cases h1 : i < N
        · obtain ⟨k, hk, hki⟩ : ∃ k : Nat, (IntKind.u64.wrap y).tmod ((i : Int) + 1) = (k : Int) ∧ k < i + 1 := by
            have := rem_modM (i + 1) y (by omega)
            simpa using this
          have i0 : (0 : Int) ≤ (i : Int) := by omega
          have i1 : (i : Int) < (N : Int) := by omega
          have k0 : (0 : Int) ≤ (k : Int) := by omega
          have k1 : (k : Int) < (N : Int) := by omega
          have hwi : IntKind.i64.wrap ((i : Int) + 1) = (i : Int) + 1 := by simp [IntKind.wrap, IntKind.signed, IntKind.bits]; omega
          have hwu : IntKind.u64.wrap ((i : Int) + 1) = (i : Int) + 1 := by simp [IntKind.wrap, IntKind.signed, IntKind.bits]; omega
          have hwk : IntKind.i64.wrap (k : Int) = (k : Int) := by simp [IntKind.wrap, IntKind.signed, IntKind.bits]; omega
          have hne : ¬ ((i : Int) + 1 = 0) := by omega
          have hq := qi_pr (i := i) (by omega)
          have hqk := qi_pr (i := k) (by omega)
          have hok : ∀ j, j ≤ 31 → (Tp.clean (fr1 j) 100000 0).Ok 300000000 := fun j hj => clean_ok (fr1_good (by omega)) (by omega) (by omega) (by rw [fr1_len (by omega)]; omega) (by omega)
          have HL := Lib.hid (show ∀ (W : World) (L : Prs) (s : Tp), St2 w (.slice (some ⟨b, 0, none⟩) N c) N (lst N) g1 t1 (lst N) (Tp.clean [lst N] 100000 0) g2 t2 L s W → ((loadPr ⟨b, i * 40, none⟩).run Try.prog W = .ok (ida (qi i)) W ∧ (loadPr ⟨b, k * 40, none⟩).run Try.prog W = .ok (ida (qi k)) W) from fun W L s h => by
            have a1 := row_pr h.row.reads (j := i) h1
            have a2 := row_pr h.row.reads (j := k) (by omega)
            rw [gp_lst h1] at a1
            rw [gp_lst (by omega)] at a2
            exact ⟨a1, a2⟩)
          have H1 := Lib.hid (show ∀ W, St2 w (.slice (some ⟨b, 0, none⟩) N c) N (lst N) g1 t1 (lst N) (Tp.clean [lst N] 100000 0) g2 t2 (lst i) (Tp.clean (fr1 i) 100000 0) W → Calls Try.prog 10 #[.pointer (some ⟨g2, 0, none⟩), .slice (some ⟨W.heap.size, 0, none⟩) 1 1] ((W.alloc (.cells (bv (qi i)).toArray 27)).drew) (fun e w' => e = .returned (.int .i64 0) ∧ St2 w (.slice (some ⟨b, 0, none⟩) N c) N (lst N) g1 t1 (lst N) (Tp.clean [lst N] 100000 0) g2 t2 (lst (i + 1)) (Tp.clean (fr1 (i + 1)) 100000 0) w') from fun W h =>
            (h.below (below_drewN ((Below.refl _ _).alloc (Nat.le_refl _) _) 1)).add (hok i (by omega)) (RPrs.one ((Blk.new W _ _).drew) hq) (by rw [lst_len]; simp; omega) (split_add1 (by omega)))
          have H2 := Lib.hid (show ∀ W, St2 w (.slice (some ⟨b, 0, none⟩) N c) N (lst N) g1 t1 (lst N) (Tp.clean [lst N] 100000 0) g2 t2 (lst (i + 1)) (Tp.clean (fr1 (i + 1)) 100000 0) W → Calls Try.prog 10 #[.pointer (some ⟨g2, 0, none⟩), .slice (some ⟨W.heap.size, 0, none⟩) 2 2] (W.alloc (.cells (pv [qi i, qi k]).toArray 27)) (fun e w' => e = .returned (.int .i64 0) ∧ St2 w (.slice (some ⟨b, 0, none⟩) N c) N (lst N) g1 t1 (lst N) (Tp.clean [lst N] 100000 0) g2 t2 (lst (i + 1)) (Tp.clean (fr1 (i + 1)) 100000 0) w') from fun W h =>
            (h.below ((Below.refl _ _).alloc (Nat.le_refl _) _)).add (hok (i + 1) (by omega)) (RPrs.two (Blk.new W _ _) hq hqk) (by rw [lst_len]; simp; omega) (split_old (by omega) fun p hp => by
              simp at hp
              rcases hp with rfl | rfl
              · exact lst_mem.2 ⟨i, by omega, rfl⟩
              · exact lst_mem.2 ⟨k, by omega, rfl⟩))
          have HSN := Lib.hid (show (i + 1) ≤ N from h1)
          clear hok S1 S0
          generalize qi i = q at *
          generalize qi k = q' at *
          obtain ⟨s2, hs2⟩ : ∃ s2, Tp.clean (fr1 (i + 1)) 100000 0 = s2 := ⟨_, rfl⟩
          obtain ⟨L2, hL2⟩ : ∃ L2, lst (i + 1) = L2 := ⟨_, rfl⟩
          rw [hs2, hL2] at H1 H2
          replace hs2 := Lib.hid hs2
          replace hL2 := Lib.hid hL2
          generalize Tp.clean (fr1 i) 100000 0 = s1 at *
          generalize lst i = L1 at *
          generalize Tp.clean [lst N] 100000 0 = sA at *
          generalize lst N = M at *
          have Sd := hS.below (bd1 wr)
          have Sb := hS.below (below_drewN ((Below.refl wr.heap.size wr).alloc (Nat.le_refl _) (.cells (bv q).toArray 27)) 1)
          go_upto_region 15 with fail
          rw [ldP_eq 82, ldP_eq 91, ldP_eq 101]
          go_region_held3 (fun W => (loadPr ⟨b, i * 40, none⟩).run Try.prog W = .ok (ida q) W ∧ (loadPr ⟨b, k * 40, none⟩).run Try.prog W = .ok (ida q') W)
            (first
              | exact HL.out _ _ _ Sd
              | exact HL.out _ _ _ Sb
              | exact HL.out _ _ _ S2
              | exact HL.out _ _ _ (S2.below ((Below.refl _ _).alloc (Nat.le_refl _) _))
              | exact HL.out _ _ _ S3)
            (first
              | (go_at_call 10; (with_reducible refine (H1.out _ hS).mono ?_); rintro e w2 ⟨rfl, S2⟩)
              | (go_at_call 10; (with_reducible refine (H2.out _ S2).mono ?_); rintro e w3 ⟨rfl, S3⟩))
          all_goals
            go_wp2
            go_roundw
            case rel => exact ⟨i + 1, HSN.out, by go_num, by rw [hs2.out, hL2.out]; exact S3⟩
            case measure => simp [intOf]; omega
        · obtain rfl : N = i := by omega
          have i1 : ¬ ((N : Int) < (N : Int)) := by omega
          obtain ⟨S, hSr, K⟩ : ∃ S : World → Prop, S wr ∧ SKit w S b N c g1 g2 t2 (lst N) := ⟨_, hS, skit (Tp.clean [lst N] 100000 0) N0 (by omega) hc7⟩
          have HQ0 := Lib.hid (show ∀ W, S W → (loadId ⟨b, 0, none⟩).run Try.prog W = .ok (ida (idc 1 0)) W ∧ (loadId ⟨b, 20, none⟩).run Try.prog W = .ok (ida (idc 2 0)) W from fun W h => by
            have h0 := row_at (K.row W h) N0
            rw [gp_lst N0] at h0
            have e1 := range_git h0
            have e2 := range_node h0
            rw [show (qi 0).take 20 = idc 1 0 from git_qi 0] at e1
            rw [show (qi 0).drop 20 = idc 2 0 from nod_qi 0] at e2
            exact ⟨run_loadId e1 (idc_id (by omega) (by omega)), run_loadId e2 (idc_id (by omega) (by omega))⟩)
          have HPL := Lib.hid (show ∀ W (A : Option Addr) (c : Nat) (A' : Option Addr) (c' : Nat), RPrs W A N (lst N) → RPrs W A' N (lst N) → Calls Try.prog 12 #[.slice A N c, .slice A' N c'] W (BoolP true W) from fun W A c A' c' h h' => by have := plainP_any A A' N N c c' _ _ W h h' (by omega) (by omega); rwa [decide_eq_true rfl] at this)
          unfold BoolP at HPL
          obtain ⟨U, HBY'⟩ := K.by2
          have HBY := Lib.hid HBY'
          have HPA := Lib.hid K.pa
          have HPB := Lib.hid K.pb
          have HAD := Lib.hid K.add
          have HBL := Lib.hid K.below
          have HBE := Lib.hid K.bel
          have HRW := Lib.hid K.row
          have HBD0 := Lib.hid (fun W h => K.bad W false h)
          have HBD1 := Lib.hid (fun W h => K.bad W true h)
          have HZR := Lib.hid K.zero
          have hp0 := badP_pr false
          have hp1 := badP_pr true
          have hp78 : IsPr (prc 7 8) := prc_pr (by omega) (by omega)
          have hpz : IsPr (idc 7 0 ++ zeroL) := IsPr.mk (idc_id (by omega) (by omega)) zeroL_id
          have hb0 : ∀ W, (bldPr #[(0, .agg (bv (idc 1 0)).toArray), (1, .agg (bv (idc 9 0)).toArray)]).run Try.prog W = .ok (ida (badP false)) W := fun W => run_bldPr W _ _ (idc_id (by omega) (by omega)) (idc_id (by omega) (by omega))
          have hb1 : ∀ W, (bldPr #[(0, .agg (bv (idc 9 0)).toArray), (1, .agg (bv (idc 2 0)).toArray)]).run Try.prog W = .ok (ida (badP true)) W := fun W => run_bldPr W _ _ (idc_id (by omega) (by omega)) (idc_id (by omega) (by omega))
          have hb78 : ∀ W, (bldPr #[(0, .agg (bv (idc 7 0)).toArray), (1, .agg (bv (idc 8 0)).toArray)]).run Try.prog W = .ok (ida (prc 7 8)) W := fun W => run_bldPr W _ _ (idc_id (by omega) (by omega)) (idc_id (by omega) (by omega))
          have hbz := run_bldPr1
          have hz0 := pr_sz hp0
          have hs0 := pr_zs hp0
          have hz1 := pr_sz hp1
          have hs1 : (bv (badP false)).toArray.size = (bv (badP true)).toArray.size := by rw [bvArr_size, bvArr_size, hp0.1, hp1.1]
          clear HBY' K hS S0 S1 hj hi
          generalize badP false = p0 at *
          generalize badP true = p1 at *
          generalize prc 7 8 = p78 at *
          generalize idc 7 0 ++ zeroL = pz at *
          generalize lst N = M at *
          have hpos : (0 : Int) < (N : Int) := by omega
          go_upto_region 20 with (first
            | (go_at_call 11; (with_reducible refine (HBY.out _ hSr).mono ?_); rintro e x1 ⟨A1, d1, rfl, Z1⟩)
            | (go_at_call 10; (with_reducible refine (HAD.out _ Z1).mono ?_); rintro e x2 ⟨rfl, Z2⟩)
            | (go_at_call 11; (with_reducible refine (HBY.out _ Z2).mono ?_); rintro e x3 ⟨A3, d3, rfl, Z3⟩)
            | (go_at_call 13; (with_reducible refine (HPA.out _ Z3).mono ?_); rintro e x4 ⟨A4, d4, rfl, r4, hb4, Z4⟩)
            | (go_at_call 13; (with_reducible refine (HPB.out _ Z4).mono ?_); rintro e x5 ⟨A5, d5, rfl, r5, hb5, Z5⟩; have r4' := r4.below hb5)
            | (go_at_call 12; (with_reducible refine (HPL.out _ _ _ _ _ r4' r5).mono ?_); rintro e x6 ⟨rfl, hb6⟩; have Z6 := HBL.out _ _ Z5 hb6)
            | (go_at_call 13; (with_reducible refine (HPA.out _ Z6).mono ?_); rintro e x7 ⟨A7, d7, rfl, r7, hb7, Z7⟩)
            | (go_at_call 12; (with_reducible refine (HPL.out _ _ _ _ _ r7 (HRW.out _ Z7)).mono ?_); rintro e x8 ⟨rfl, hb8⟩; have Z8 := HBL.out _ _ Z7 hb8))
          obtain ⟨la, lb⟩ := HQ0.out x8 Z8
          go_upto_region 21 with ((with_reducible refine st_row 27 17 141 x8.heap.size 27 (bv p0).toArray zpr ?_ ?_ ?_ hz0 hs0 (bvArr_all p0) ?_); rfl; rfl; exact Blk.new x8 _ zpr; intro x9 hk9 hg9 hsz9)
          have hb9 := ((Below.refl x8.heap.size x8).alloc (Nat.le_refl _) _).grown hg9 (by simp) (fun k hk => by cases hk; exact Nat.le_refl _)
          have Z9 := HBL.out _ _ Z8 hb9
          clear hsz9 la lb
          cases gb with
          | false =>
            have lp := run_loadPr hk9.range hp0
            go_wp2_with (first
              | (go_at_call 10; (with_reducible refine (HBD0.out x9 Z9).mono ?_); rintro e y1 ⟨rfl, Y1⟩)
              | (go_at_call 13; (with_reducible refine (HPB.out _ Y1).mono ?_); rintro e y2 ⟨A2, d2, rfl, q2, hc2, Y2⟩)
              | (go_at_call 12; (with_reducible refine (HPL.out _ _ _ _ _ q2 (HRW.out _ Y2)).mono ?_); rintro e y3 ⟨rfl, hc3⟩; have Y3 := HBL.out _ _ Y2 hc3)
              | (go_at_call 10; (with_reducible refine (HZR.out y3 Y3).mono ?_); rintro e y4 ⟨rfl, Y4⟩))
            go_ret
            exact ⟨rfl, HBE.out _ Y4⟩
          | true =>
            obtain ⟨la, lb⟩ := HQ0.out x9 Z9
            go_upto_region 23 with ((with_reducible refine st_row 27 17 148 x8.heap.size 27 (bv p1).toArray (bv p0).toArray ?_ ?_ hk9 hz1 hs1 (bvArr_all p1) ?_); rfl; rfl; intro y0 hk0 hg0 hsz0)
            have hby := hb9.grown hg0 hb9.size (fun k hk => by cases hk; exact Nat.le_refl _)
            have Y0 := HBL.out _ _ Z8 hby
            have lp := run_loadPr hk0.range hp1
            clear hsz0 la lb
            go_wp2_with (first
              | (go_at_call 10; (with_reducible refine (HBD1.out y0 Y0).mono ?_); rintro e y1 ⟨rfl, Y1⟩)
              | (go_at_call 13; (with_reducible refine (HPB.out _ Y1).mono ?_); rintro e y2 ⟨A2, d2, rfl, q2, hc2, Y2⟩)
              | (go_at_call 12; (with_reducible refine (HPL.out _ _ _ _ _ q2 (HRW.out _ Y2)).mono ?_); rintro e y3 ⟨rfl, hc3⟩; have Y3 := HBL.out _ _ Y2 hc3)
              | (go_at_call 10; (with_reducible refine (HZR.out y3 Y3).mono ?_); rintro e y4 ⟨rfl, Y4⟩))
            go_ret
            exact ⟨rfl, HBE.out _ Y4⟩
end Go.Proofs.Ytokamaogognjoaa
