/-
  GraphOrder's walk.
-/
import Derived.Test.YtaaiojeehhbhhaaGrO1
import Derived.Test.YtaaiojeehhbhhaaGrO2
import Derived.Test.YtaaiojeehhbhhaaGrO3
import Derived.Test.YtaaiojeehhbhhaaGrW
import Derived.Test.YtaaiojeehhbhhaaGr12
import Derived.Test.YtaaiojeehhbhhaaGr13
set_option linter.unusedVariables false
set_option linter.unusedSimpArgs false
namespace Go.Proofs.Ytaaiojeehhbhhaa
open Go.RowKit

/-- the graph under way: all its blocks are the call's own. -/
structure Gw (w wk : World) (g : Nat) (G : Gph) : Prop where
  gr : ∃ P, GrAt wk P g G ∧ ∀ k, P k → w.heap.size ≤ k ∧ k < wk.heap.size
  bel : Below w.heap.size w wk
theorem Gw.next {w wk w' : World} {g : Nat} {G : Gph} (h : Gw w wk g G) (k : Below wk.heap.size wk w') : Gw w w' g G := by
  obtain ⟨⟨P, hg, hp⟩, hB⟩ := h
  exact ⟨⟨P, hg.below k, fun i hi => ⟨(hp i hi).1, Nat.lt_of_lt_of_le (hp i hi).2 k.size⟩⟩, below_then hB hB.size k⟩
theorem RIds.old {w : World} {A : Option Addr} {n : Nat} {L : List IdL} (h : RIds w A n L) (h0 : 0 < n) {ad : Addr} (e : A = some ad) : ad.block < w.heap.size := by
  obtain ⟨b, o, e1, hc⟩ := h.2.2 h0
  rw [e] at e1
  injection e1 with e1
  subst e1
  have hx := h.2.1.at_ (j := 0) (by rw [h.1]; exact h0)
  have hl : 0 < (bv (gid L 0)).length := by rw [bv_length, hx.1]; omega
  have := hc 0 h0 0 _ (List.getElem?_eq_getElem hl)
  exact World.block_lt_of_cell? w _ this
theorem gw_add {w wk : World} {g : Nat} {G : Gph} {x : IdL} {A : Option Addr} {n c : Nat} {ps : List IdL} {N : Nat} (h : Gw w wk g G) (hG : Gfew G N) (hx : IsId x) (hA : RIds w A n ps) (hn : n ≤ 10) :
    Calls Try.prog 10 #[.pointer (some ⟨g, 0, none⟩), ida x, .slice A n c] wk (fun e w' => ∃ z, e = .returned (.int .i64 z) ∧ Gw w w' g (addG G x ps)) := by
  obtain ⟨⟨P, hg, hp⟩, hB⟩ := h
  refine (add_anyW P g G x A n c ps wk hg hG.inv hx (hA.below hB) (by omega) (fun h0 ad e hP => by
    have h1 := hA.old h0 e
    have h2 := (hp _ hP).1
    omega) (fun j hj => Nat.le_trans (hG.ps j hj) (by omega))).mono fun e w1 h2 => ?_
  obtain ⟨he, hg1, hc⟩ := h2
  refine ⟨_, he, ⟨_, hg1.bounded, fun k hk => ⟨?_, hk.2⟩⟩, hc.toBelow hB hB.size fun k hk => (hp k hk).1⟩
  rcases hk.1 with h | h
  · exact (hp k h).1
  · exact Nat.le_trans hB.size h
/-- the loads of the three ids, under names: the walk of the region leaves them where they stand. -/
def ldA : Op := .load 27 (.tmp 72)
def ldB : Op := .load 27 (.tmp 80)
def ldC : Op := .load 27 (.tmp 84)
@[go_sem] theorem ldA_def : ldA = .load 27 (.tmp 72) := rfl
@[go_sem] theorem ldB_def : ldB = .load 27 (.tmp 80) := rfl
@[go_sem] theorem ldC_def : ldC = .load 27 (.tmp 84) := rfl
theorem bel_drew (w : World) : Below w.heap.size w w.drew := drewN_below w 1

set_option maxRecDepth 100000 in
set_option maxHeartbeats 4000000 in
theorem order_walk (A : Option Addr) (n c : Nat) (l : List Nd) (w : World) (hl : RNs w A n l) (hnc : n ≤ c) :
    Calls Try.prog 5 #[.slice A n c] w (fun e w' => e = .returned (.bool true) ∧ Below w.heap.size w w') := by
  have hu := idTy
  have HL := Lib.hid hl.2
  clear hl hnc
  go_enter Try.func5, Try.ntmps5
  go_wp2_with fail
  refine (new_any _).mono ?_
  rintro e w1 ⟨g, rfl, hg0, hb1⟩
  go_wp2_with fail
  refine (awake12_any _).mono ?_
  rintro e w2 ⟨rfl, hb2⟩
  have L0 : Gw w w2 g [] := ⟨⟨_, (hg0.below hb2).bounded, fun k hk => hk⟩, below_two hb1 hb2⟩
  clear hg0 hb1 hb2
  go_upto_block 0 with fail
  go_cut [4] (fun i wx => ∃ G, Gfew G 25 ∧ Gw w wx g G)
  case first =>
    go_wp2_with fail
    go_loopw [4] (fun i wr => ∃ (j : Nat) (G : Gph), j ≤ n ∧ j ≤ 25 ∧ i = .int .i64 j ∧ Gfew G j ∧ Gw w wr g G) (fun i _ => n - (intOf i).toNat)
    case atStart => exact ⟨0, [], by omega, by omega, rfl, Gfew.nil, L0⟩
    case round =>
      obtain ⟨j, G, hj, hj25, rfl, hG, L⟩ := hrel
      by_cases h1 : j < n
      · by_cases h25 : j < 25
        · obtain ⟨b, o, rfl, hc⟩ := HL.out (by omega)
          obtain ⟨hxi, hrx, B, cp, hsl, hkc, hps⟩ := hc j h1
          have c1 := cell_later L.bel hsl
          have c1d : wr.drew.cell? ⟨b, o + j * 21 + 20, none⟩ = some (.slice B (nd l j).ps.length cp) := c1
          have r1 : (loadId ⟨b, o + j * 21, none⟩).run Try.prog wr.drew = .ok (ida (nd l j).id) wr.drew := run_loadId (fun i v hv => cell_later (below_drewN L.bel 1) (hrx i v hv)) hxi
          have j0 : (0 : Int) ≤ (j : Int) := by omega
          have j1 : (j : Int) < (n : Int) := by omega
          have j2 : (j : Int) < 25 := by omega
          have Ld : Gw w wr.drew g G := L.next (bel_drew wr)
          have hpi := hps.2.1
          clear hc hrx hsl
          by_cases hk10 : (nd l j).ps.length ≤ 10
          · have hk10' : ((nd l j).ps.length : Int) ≤ 10 := by omega
            have hsz := idSz hxi
            generalize (nd l j).id = x at *
            generalize (nd l j).ps = ps at *
            have HP10 := Lib.hid hk10
            generalize hKK : ps.length = K at *
            go_wp2
            refine still_tail 11 (by kernel_rfl) (by kernel_rfl) ?_
            simp only [List.take_succ_cons, List.take_zero, List.drop_succ_cons, List.drop_zero]
            repeat still_step
            refine wpStill_nil ?_
            go_wp2_with (go_at_call 10; (with_reducible refine (gw_add Ld hG hxi hps HP10.out).mono ?_); rintro e w5 ⟨z, rfl, L5⟩)
            go_roundw
            case rel => exact ⟨j + 1, addG G x ps, by omega, by omega, by go_num, hG.add hxi hpi (by rw [hKK]; exact HP10.out), L5⟩
            case measure => simp [intOf]; omega
          · have hk10' : ¬ ((nd l j).ps.length : Int) ≤ 10 := by omega
            go_wp2
            go_roundw
            case rel => exact ⟨j + 1, G, by omega, by omega, by go_num, hG.more, L⟩
            case measure => simp [intOf]; omega
        · obtain rfl : j = 25 := by omega
          have j1 : (25 : Int) < (n : Int) := by omega
          go_wp2
          go_meet
          exact ⟨G, hG, L⟩
      · obtain rfl : j = n := by omega
        go_wp2
        go_meet
        exact ⟨G, ⟨hG.inv, Nat.le_trans hG.len hj25, hG.ps⟩, L⟩
  case rest =>
    obtain ⟨G, hG, L⟩ := hcut
    obtain ⟨⟨P, hg, _⟩, hB⟩ := L
    have hgl := hG.len
    have HG := Lib.hid hG
    clear hG
    go_wp2_with (go_at_call 22; (with_reducible refine (ids_any P g G wc hg HG.out.inv).mono ?_); rintro e w3 ⟨AI, cI, rfl, hoI, hcI, hb3⟩)
    have hg3 := hg.below hb3
    have hB3 := below_then hB hB.size hb3
    have hrI := hoI.reads
    clear hoI hb3 hB hg
    generalize hN : (ids G).length = N at *
    have HN := Lib.hid hN
    clear hN
    have HGL := Lib.hid (show N = G.length from by rw [← HN.out]; exact ids_length G)
    have hN25 : N ≤ 25 := by rw [HGL.out]; exact hgl
    go_loopw [6] (fun i wr => ∃ j : Nat, j ≤ N ∧ i = .int .i64 j ∧ Below w3.heap.size w3 wr) (fun i _ => N - (intOf i).toNat)
    case atStart => exact ⟨0, by omega, rfl, Below.refl _ _⟩
    case round =>
      obtain ⟨j, hj, rfl, hbr⟩ := hrel
      by_cases h1 : j < N
      · obtain ⟨b, o, rfl, hcI'⟩ := hrI.2.2 (by omega)
        have hjG : j < G.length := by rw [← HGL.out]; exact h1
        have hxe : gid (ids G) j = (nd G j).id := ids_gid hjG
        have hxi : IsId (gid (ids G) j) := hrI.2.1.at_ (by rw [HN.out]; exact h1)
        have HX := Lib.hid (show gid (ids G) j ∈ ids G by rw [hxe]; exact id_mem HG.out.inv hjG)
        have hpsl : (psOf G (gid (ids G) j)).length ≤ 10 := by rw [hxe, ps_at HG.out.inv hjG]; exact HG.out.ps j hjG
        have HAH := Lib.hid (show ∀ p, p ∈ psOf G (gid (ids G) j) → p ∈ (ids G).take j from fun p hp => par_ahead HG.out.inv hjG (by rw [← hxe]; exact hp))
        have HPI := Lib.hid (show ∀ p, p ∈ psOf G (gid (ids G) j) → IsId p from fun p hp => by
          rw [hxe, ps_at HG.out.inv hjG] at hp
          exact (HG.out.inv.par j hjG p hp).1)
        have HRA := Lib.hid (show ∀ W, Below w3.heap.size w3 W → (loadId ⟨b, o + j * 20, none⟩).run Try.prog W = .ok (ida (gid (ids G) j)) W from fun W hW => run_loadId (fun i v hv => cell_later hW (hcI' j h1 i v hv)) hxi)
        have r1 := HRA.out wr hbr
        have j0 : (0 : Int) ≤ (j : Int) := by omega
        have j1 : (j : Int) < (N : Int) := by omega
        have jc : (j : Int) ≤ (cI : Int) := by omega
        have hsz := idSz hxi
        clear hcI' hxe
        generalize gid (ids G) j = x at *
        have HC0 := Lib.hid (show ∀ W y, Below w3.heap.size w3 W → IsId y → comesB G x y = true → Calls Try.prog 12 #[.pointer (some ⟨g, 0, none⟩), ida x, ida y] W (BoolP true W) from fun W y hW hy hc => by
          have := comes_any P g G x y W (hg3.below hW) HG.out.inv hxi hy 10 HG.out.ps (by omega)
          rwa [hc] at this)
        go_wp2_with (go_at_call 20; (with_reducible refine (parents_any P g G x wr (hg3.below hbr) hxi (by omega)).mono ?_); rintro e w4 ⟨A4, c4, rfl, ho4, hc4, hb4⟩)
        have hb34 := below_then hbr hbr.size hb4
        have hr4 := ho4.reads
        clear ho4 hb4 hbr r1
        have HK0 := hr4.1
        generalize hKx : (psOf G x).length = K at *
        have HKX := Lib.hid hKx
        clear hKx HK0
        go_loopw [8] (fun i wr => ∃ q : Nat, q ≤ K ∧ i = .int .i64 q ∧ Below w4.heap.size w4 wr) (fun i _ => K - (intOf i).toNat)
        case atStart => exact ⟨0, by omega, rfl, Below.refl _ _⟩
        case round =>
          obtain ⟨q, hq, rfl, hbq⟩ := hrel
          have hb3q := below_then hb34 hb34.size hbq
          by_cases h2 : q < K
          · obtain ⟨b', o', rfl, hc4'⟩ := hr4.2.2 (by omega)
            have HP := Lib.hid (show gid (psOf G x) q ∈ psOf G x from gid_mem (by rw [HKX.out]; exact h2))
            have hpi : IsId (gid (psOf G x) q) := HPI.out _ HP.out
            have HS := Lib.hid (show ∀ W, Below w4.heap.size w4 W → (loadId ⟨b, o + j * 20, none⟩).run Try.prog W = .ok (ida x) W ∧ (loadId ⟨b', o' + q * 20, none⟩).run Try.prog W = .ok (ida (gid (psOf G x) q)) W from fun W hW => ⟨HRA.out W (below_then hb34 hb34.size hW), run_loadId (fun i v hv => cell_later hW (hc4' q h2 i v hv)) hpi⟩)
            have q0 : (0 : Int) ≤ (q : Int) := by omega
            have q1 : (q : Int) < (K : Int) := by omega
            have hsz2 := idSz hpi
            clear hc4'
            generalize gid (psOf G x) q = p at *
            have hbA : Below w4.heap.size w4 wr.drew := below_drewN hbq 1
            have hb3A : Below w3.heap.size w3 wr.drew := below_drewN hb3q 1
            have HIN := Lib.hid (show ∀ cc, Calls Try.prog 29 #[.slice (some ⟨b, o, none⟩) j cc, ida p] wr.drew (BoolP true wr.drew) from fun cc => by
              have hpre : RIds wr.drew (some ⟨b, o, none⟩) j ((ids G).take j) := (hrI.below hb3A).take (by omega)
              have := in_any (some ⟨b, o, none⟩) j cc ((ids G).take j) p wr.drew hpre hpi (by omega)
              rwa [decide_eq_true (HAH.out p HP.out)] at this)
            have HCP := Lib.hid (comes_par HG.out.inv HX.out HP.out)
            go_wp2
            rw [← ldA_def, ← ldB_def, ← ldC_def]
            go_region_held3 (fun W => (loadId ⟨b, o + j * 20, none⟩).run Try.prog W = .ok (ida x) W ∧ (loadId ⟨b', o' + q * 20, none⟩).run Try.prog W = .ok (ida p) W)
              (first | exact HS.out _ hbC | exact HS.out _ hbB | exact HS.out _ hbA)
              (first
                | (go_at_call 29; (with_reducible refine (HIN.out _).mono ?_); rintro e w5 ⟨rfl, hb5⟩; have hbB := below_then hbA hbA.size hb5; have hb3B := below_then hb3A hb3A.size hb5)
                | (go_at_call 12; (with_reducible refine (HC0.out _ _ hb3B hpi HCP.out).mono ?_); rintro e w6 ⟨rfl, hb6⟩; have hbC := below_then hbB hbB.size hb6; have hb3C := below_then hb3B hb3B.size hb6))
            all_goals
              have r6 := (HS.out _ hbC).2
              have hpm := par_in HG.out.inv HX.out HP.out
              have hpl := ps_few HG.out.inv HG.out.ps hpm
              have HPM := Lib.hid hpm
              clear hpm
              go_wp2_with (go_at_call 20; (with_reducible refine (parents_any P g G p _ (hg3.below hb3C) hpi (by omega)).mono ?_); rintro e w7 ⟨A7, c7, rfl, ho7, hc7, hb7⟩)
              have hb47 := below_then hbC hbC.size hb7
              have hb37 := below_then hb3C hb3C.size hb7
              have hr7 := ho7.reads
              clear ho7 hb7 r6
              generalize hKp : (psOf G p).length = K2 at *
              have HKP := Lib.hid hKp
              clear hKp
              go_loopw [10] (fun i wr => ∃ m : Nat, m ≤ K2 ∧ i = .int .i64 m ∧ Below w7.heap.size w7 wr) (fun i _ => K2 - (intOf i).toNat)
              case atStart => exact ⟨0, by omega, rfl, Below.refl _ _⟩
              case round =>
                obtain ⟨m, hm, rfl, hbm⟩ := hrel
                have hb3m := below_then hb37 hb37.size hbm
                by_cases h3 : m < K2
                · obtain ⟨b7, o7, rfl, hc7'⟩ := hr7.2.2 (by omega)
                  have HU := Lib.hid (show gid (psOf G p) m ∈ psOf G p from gid_mem (by rw [HKP.out]; exact h3))
                  have hui : IsId (gid (psOf G p) m) := par_isId HG.out.inv HPM.out HU.out
                  have hb3d : Below w3.heap.size w3 wr.drew := below_drewN hb3m 1
                  have hb7d : Below w7.heap.size w7 wr.drew := below_drewN hbm 1
                  have r1 : (loadId ⟨b, o + j * 20, none⟩).run Try.prog wr.drew = .ok (ida x) wr.drew := HRA.out _ hb3d
                  have r2 : (loadId ⟨b7, o7 + m * 20, none⟩).run Try.prog wr.drew = .ok (ida (gid (psOf G p) m)) wr.drew := run_loadId (fun i v hv => cell_later hb7d (hc7' m h3 i v hv)) hui
                  have m0 : (0 : Int) ≤ (m : Int) := by omega
                  have m1 : (m : Int) < (K2 : Int) := by omega
                  have hsz3 := idSz hui
                  clear hc7'
                  generalize gid (psOf G p) m = u at *
                  have HCC := Lib.hid (comes_par2 HG.out.inv HX.out HP.out HU.out)
                  go_wp2
                  refine still_tail 9 (by kernel_rfl) (by kernel_rfl) ?_
                  simp only [List.take_succ_cons, List.take_zero, List.drop_succ_cons, List.drop_zero]
                  repeat still_step
                  refine wpStill_nil ?_
                  go_wp2_with (go_at_call 12; (with_reducible refine (HC0.out _ _ hb3d hui HCC.out).mono ?_); rintro e w8 ⟨rfl, hb8⟩)
                  go_roundw
                  case rel => exact ⟨m + 1, by omega, by go_num, below_then hb7d hb7d.size hb8⟩
                  case measure => simp [intOf]; omega
                · obtain rfl : m = K2 := by omega
                  go_wp2
                  go_roundw
                  case rel => exact ⟨q + 1, by omega, by go_num, below_then hb47 hb47.size hbm⟩
                  case measure => simp [intOf]; omega
          · obtain rfl : q = K := by omega
            have hb3d : Below w3.heap.size w3 wr.drew := below_drewN hb3q 1
            have r1 : (loadId ⟨b, o + j * 20, none⟩).run Try.prog wr.drew = .ok (ida x) wr.drew := HRA.out _ hb3d
            have HCS := Lib.hid (comes_self HG.out.inv HX.out)
            go_wp2
            refine still_tail 9 (by kernel_rfl) (by kernel_rfl) ?_
            simp only [List.take_succ_cons, List.take_zero, List.drop_succ_cons, List.drop_zero]
            repeat still_step
            refine wpStill_nil ?_
            go_wp2_with (go_at_call 12; (with_reducible refine (HC0.out _ _ hb3d hxi HCS.out).mono ?_); rintro e w8 ⟨rfl, hb8⟩)
            go_roundw
            case rel => exact ⟨j + 1, by omega, by go_num, below_then hb3d hb3d.size hb8⟩
            case measure => simp [intOf]; omega
      · obtain rfl : j = N := by omega
        have hhl := heads_len G
        have HHD := Lib.hid (heads_any P g G wr (hg3.below hbr) HG.out.inv 10 HG.out.ps (by omega))
        have HCL := Lib.hid (show ∀ W A c, Below w3.heap.size w3 W → RIds W A (headsG G).length (headsG G) → Calls Try.prog 13 #[.pointer (some ⟨g, 0, none⟩), .slice A (headsG G).length c] W (NewIds j (ids G) W) from fun W A c hW hR => by
          have := closure_any P g G A (headsG G).length c (headsG G) W (hg3.below hW) HG.out.inv hR (by omega) 10 HG.out.ps (by omega)
          rwa [close_heads HG.out.inv, HN.out] at this)
        have HPL := Lib.hid (show ∀ W A c, Below w3.heap.size w3 W → RIds W A j (ids G) → Calls Try.prog 19 #[.slice A j c, .slice AI j cI] W (BoolP true W) from fun W A c hW hR => by
          have := plain_any A AI j j c cI (ids G) (ids G) W hR (hrI.below hW) (by omega) (by omega)
          rwa [decide_eq_true rfl] at this)
        go_wp2_with (first
          | (go_at_call 11; (with_reducible refine HHD.out.mono ?_); rintro e w5 ⟨A5, c5, rfl, ho5, hc5, hb5⟩; have hb35 := below_then hbr hbr.size hb5)
          | (go_at_call 13; (with_reducible refine (HCL.out _ _ _ hb35 ho5.reads).mono ?_); rintro e w6 ⟨A6, c6, rfl, ho6, hc6, hb6⟩; have hb36 := below_then hb35 hb35.size hb6)
          | (go_at_call 19; (with_reducible refine (HPL.out _ _ _ hb36 ho6.reads).mono ?_); rintro e w7 ⟨rfl, hb7⟩; have hb37 := below_then hb36 hb36.size hb7))
        go_ret
        exact ⟨rfl, below_then hB3 hB3.size hb37⟩
end Go.Proofs.Ytaaiojeehhbhhaa
