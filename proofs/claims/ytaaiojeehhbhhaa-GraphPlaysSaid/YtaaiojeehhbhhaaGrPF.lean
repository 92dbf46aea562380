/-
  GraphPlays' walk: the nodes are added.
-/
import Derived.Test.YtaaiojeehhbhhaaGrPE
import Derived.Test.YtaaiojeehhbhhaaGrPG
set_option linter.unusedVariables false
set_option linter.unusedSimpArgs false
namespace Go.Proofs.Ytaaiojeehhbhhaa
open Go.RowKit

def f71 : IdL := [71, 0, 0, 0, 0, 0, 0, 0, 0, 0, 0, 0, 0, 0, 0, 0, 0, 0, 0, 0]
theorem f71_id : IsId f71 := ⟨rfl, fun x hx => by simp [f71] at hx; omega⟩
theorem OwnI.lt {w : World} {b n : Nat} {L : List IdL} (h : OwnI w b n L f71) : b < w.heap.size := by
  have := h.2 0 (by omega) 0 (.int .u8 71) rfl
  exact World.block_lt_of_cell? w _ this
set_option maxRecDepth 100000 in
set_option maxHeartbeats 8000000 in
theorem plays_walk (A : Option Addr) (n c : Nat) (l : List Nd) (A' : Option Addr) (n' c' : Nat) (ask : List IdL) (w : World) (hl : RNs w A n l) (ha : RIds w A' n' ask) (hs : n' ≤ 10) :
    Calls Try.prog 4 #[.slice A n c, .slice A' n' c'] w (fun e w' => e = .returned (.bool true) ∧ Below w.heap.size w w') := by
  have hu := idTy
  have HL := Lib.hid hl.2
  have hs' : ¬ (10 : Int) < (n' : Int) := by omega
  clear hl
  go_enter Try.func4, Try.ntmps4
  go_wp2_with fail
  refine (new_any _).mono ?_
  rintro e w1 ⟨g, rfl, hg0, hb1⟩
  go_wp2_with fail
  refine (awake12_any _).mono ?_
  rintro e w2 ⟨rfl, hb2⟩
  have L0 := pl_new hg0 hb1 hb2
  generalize hr : w1.heap.size = r at *
  clear hg0 hb1 hb2 hr
  go_upto_block 0 with fail
  go_cut [7] (fun i wx => ∃ G b, Gfew G 40 ∧ Pl w wx g r b G G)
  case first =>
    go_wp2_with fail
    go_loopw [7] (fun i wr => ∃ (j : Nat) (G : Gph) (b : Nat), j ≤ n ∧ j ≤ 40 ∧ i = .int .i64 j ∧ Gfew G j ∧ Pl w wr g r b G G) (fun i _ => n - (intOf i).toNat)
    case atStart => exact ⟨0, [], _, by omega, by omega, rfl, Gfew.nil, L0⟩
    case round =>
      obtain ⟨j, G, b, hj, hj40, rfl, hG, L⟩ := hrel
      by_cases h1 : j < n
      · by_cases h25 : j < 40
        · obtain ⟨b0, o, rfl, hc⟩ := HL.out (by omega)
          obtain ⟨hxi, hrx, B, cp, hsl, hkc, hps⟩ := hc j h1
          have HSL := Lib.hid (show ∀ W, Below w.heap.size w W → (loadId ⟨b0, o + j * 21, none⟩).run Try.prog W = .ok (ida (nd l j).id) W ∧ W.cell? ⟨b0, o + j * 21 + 20, none⟩ = some (.slice B (nd l j).ps.length cp) from fun W hW => ⟨run_loadId (fun i v hv => cell_later hW (hrx i v hv)) hxi, cell_later hW hsl⟩)
          have c1 := (HSL.out _ L.bel).2
          have j0 : (0 : Int) ≤ (j : Int) := by omega
          have j1 : (j : Int) < (n : Int) := by omega
          have j2 : (j : Int) < 40 := by omega
          have hpi := hps.2.1
          clear hc hrx hsl
          by_cases hk10 : (nd l j).ps.length ≤ 10
          · have hk10' : ¬ (10 : Int) < ((nd l j).ps.length : Int) := by omega
            have hsz := idSz hxi
            generalize (nd l j).id = x at *
            generalize (nd l j).ps = ps at *
            have HP10 := Lib.hid hk10
            generalize hKK : ps.length = K at *
            go_wp2_with fail
            refine (ownI_any B K cp ps f71 _ (hps.below L.bel) (by omega) f71_id).mono ?_
            rintro e w5 ⟨b5, rfl, hO5, hb5z, hb5⟩
            have L5 := L.mark hb5 hb5z
            have hbl5 : b5 < w5.heap.size := hO5.lt
            have Ld : Pl w w5.drew g r b5 G G := L5.next (drewN_below w5 1)
            have hOd : OwnI w5.drew b5 K ps f71 := hO5.below (drewN_below w5 1)
            have hbld : b5 < w5.drew.heap.size := hbl5
            have hlen10 : ps.length ≤ 10 := by rw [hKK]; exact HP10.out
            have hG' : Gfew (addG G x ps) (j + 1) := hG.add hxi hpi hlen10
            have hps0 : RIds w B K ps := hps
            have HPP := Lib.hid (show (psOf (addG G x ps) x).length ≤ 1000000 from by
              by_cases hm : x ∈ ids (addG G x ps)
              · have := ps_few hG'.inv hG'.ps hm
                omega
              · unfold psOf
                rw [look_none hm]
                simp)
            clear hO5 hbl5 L c1
            go_wp2_with fail
            simp only [List.append]
            rw [ldI_eq 58, ldI_eq 66, ldI_eq 91, ldI_eq 98, ldI_eq 108, ldI_eq 115]
            go_region_held3 (fun W => (loadId ⟨b0, o + j * 21, none⟩).run Try.prog W = .ok (ida x) W ∧ W.cell? ⟨b0, o + j * 21 + 20, none⟩ = some (.slice B K cp))
              (first | exact HSL.out _ Lh.bel | exact HSL.out _ Lg.bel | exact HSL.out _ Lf.bel | exact HSL.out _ Le.bel | exact HSL.out _ Lc.bel | exact HSL.out _ Lb.bel | exact HSL.out _ La.bel | exact HSL.out _ Lk.bel | exact HSL.out _ Ld.bel)
              (first
                | (go_at_call 10; (with_reducible refine (pl_add Ld hbld hG hxi hOd HP10.out).mono ?_); rintro e wa ⟨rfl, Lk, hOa, hbla⟩)
                | (go_at_call 15; (with_reducible refine (pl_radd Lk hbla hG hxi hps0 HP10.out hOa).mono ?_); rintro e wb ⟨rfl, La, hOb, hblb⟩)
                | (go_at_call 16; (refine (keptI_any b5 K cp B ps f71 wb hOb (hps0.below La.bel) (by omega) f71_id).mono ?_); rintro e wc ⟨rfl, hbc⟩; have Lb := La.next hbc)
                | (go_at_call 17; (with_reducible refine (pl_has Lb hxi).mono ?_); rintro e wd ⟨rfl, hbd⟩; have Lc := Lb.next hbd)
                | (go_at_call 18; (with_reducible refine (pl_rhas Lc hG'.inv hxi).mono ?_); rintro e we ⟨rfl, hbe⟩; have Le := Lc.next hbe)
                | (go_at_call 20; (with_reducible refine (pl_parents Le hxi HPP.out).mono ?_); rintro e wf ⟨Af, cf, rfl, hof, hcf, hbf⟩; have Lf := Le.next hbf)
                | (go_at_call 21; (with_reducible refine (pl_rparents Lf hG'.inv hxi).mono ?_); rintro e wg ⟨Ag, cg, rfl, hrg, hcg, hbg⟩; have Lg := Lf.next hbg; have hrf := hof.reads.below hbg)
                | (go_at_call 19; (with_reducible refine (plain_any Af Ag _ _ cf cg _ _ wg hrf hrg (by have := HPP.out; omega) (by have := HPP.out; omega)).mono ?_); rw [decide_eq_true rfl]; rintro e wh ⟨rfl, hbh⟩; have Lh := Lg.next hbh))
            all_goals
              go_wp2
              go_roundw
              case rel => exact ⟨j + 1, addG G x ps, b5, by omega, by omega, by go_num, hG', Lh⟩
              case measure => simp [intOf]; omega
          · have hk10' : (10 : Int) < ((nd l j).ps.length : Int) := by omega
            go_wp2
            go_roundw
            case rel => exact ⟨j + 1, G, b, by omega, by omega, by go_num, hG.more, L⟩
            case measure => simp [intOf]; omega
        · obtain rfl : j = 40 := by omega
          have j1 : (40 : Int) < (n : Int) := by omega
          go_wp2
          go_meet
          exact ⟨G, b, hG, L⟩
      · obtain rfl : j = n := by omega
        go_wp2
        go_meet
        exact ⟨G, b, ⟨hG.inv, Nat.le_trans hG.len hj40, hG.ps⟩, L⟩
  case rest =>
    obtain ⟨G, b, hG, L0⟩ := hcut
    have HG := Lib.hid hG
    have hn6 : n' ≤ 1000000 := by omega
    have HB1 := Lib.hid (show (ids G).length ≤ 1000000 from by have := hG.len; rw [ids_length]; omega)
    have HB2 := Lib.hid (show (headsG G).length ≤ 1000000 from by have := hG.len; have := heads_len G; omega)
    have HB3 := Lib.hid (show (closeG G ask).length ≤ 1000000 from by
      have h1 := hG.len
      unfold closeG
      have h2 := List.length_filter_le (reachB G ask) (ids G)
      rw [ids_length] at h2
      omega)
    have HPL := Lib.hid (show ∀ (W : World) (A B : Option Addr) (c d : Nat) (M : List IdL), M.length ≤ 1000000 → RIds W A M.length M → RIds W B M.length M → Calls Try.prog 19 #[.slice A M.length c, .slice B M.length d] W (BoolP true W) from fun W A B c d M hM hA hB => by
      have := plain_any A B M.length M.length c d M M W hA hB (by omega) (by omega)
      rwa [decide_eq_true rfl] at this)
    have haR : ∀ W, Below w.heap.size w W → RIds W A' n' ask := fun W hW => ha.below hW
    clear hG
    go_wp2_with (first
      | (go_at_call 22; (with_reducible refine (pl_ids L0 HG.out.inv).mono ?_); rintro e x1 ⟨A1, c1, rfl, ho1, hc1, h1⟩; have L1 := L0.next h1)
      | (go_at_call 23; (with_reducible refine (pl_rids L1 HG.out.inv).mono ?_); rintro e x2 ⟨A2, c2, rfl, ho2, hc2, h2⟩; have L2 := L1.next h2; have hr1 := ho1.reads.below h2)
      | (go_at_call 19; (with_reducible refine (HPL.out _ _ _ _ _ _ HB1.out hr1 ho2.reads).mono ?_); rintro e x3 ⟨rfl, h3⟩; have L3 := L2.next h3)
      | (go_at_call 11; (with_reducible refine (pl_heads L3 HG.out).mono ?_); rintro e x4 ⟨A4, c4, rfl, ho4, hc4, h4⟩; have L4 := L3.next h4)
      | (go_at_call 24; (with_reducible refine (pl_rheads L4 HG.out).mono ?_); rintro e x5 ⟨A5, c5, rfl, ho5, hc5, h5⟩; have L5 := L4.next h5; have hr4 := ho4.reads.below h5)
      | (go_at_call 19; (with_reducible refine (HPL.out _ _ _ _ _ _ HB2.out hr4 ho5.reads).mono ?_); rintro e x6 ⟨rfl, h6⟩; have L6 := L5.next h6)
      | (go_at_call 13; (with_reducible refine (pl_closure L6 HG.out (haR _ L6.bel) hn6).mono ?_); rintro e x7 ⟨A7, c7, rfl, ho7, hc7, h7⟩; have L7 := L6.next h7)
      | (go_at_call 25; (with_reducible refine (pl_rclosure L7 HG.out (haR _ L7.bel) hn6).mono ?_); rintro e x8 ⟨A8, c8, rfl, ho8, hc8, h8⟩; have L8 := L7.next h8; have hr7 := ho7.reads.below h8)
      | (go_at_call 19; (with_reducible refine (HPL.out _ _ _ _ _ _ HB3.out hr7 ho8.reads).mono ?_); rintro e x9 ⟨rfl, h9⟩; have L9 := L8.next h9)
      | (go_at_call 26; (with_reducible refine (pl_missing L9 HG.out (haR _ L9.bel) hn6).mono ?_); rintro e x10 ⟨A10, c10, rfl, ho10, hc10, h10⟩; have L10 := L9.next h10)
      | (go_at_call 25; (with_reducible refine (pl_rclosure L10 HG.out (haR _ L10.bel) hn6).mono ?_); rintro e x11 ⟨A11, c11, rfl, ho11, hc11, h11⟩; have L11 := L10.next h11; have hr10 := ho10.reads.below h11)
      | (go_at_call 19; (with_reducible refine (HPL.out _ _ _ _ _ _ HB3.out hr10 ho11.reads).mono ?_); rintro e x12 ⟨rfl, h12⟩; have L12 := L11.next h12)
      | (go_at_call 25; (with_reducible refine (pl_rclosure L12 HG.out (haR _ L12.bel) hn6).mono ?_); rintro e x13 ⟨A13, c13, rfl, ho13, hc13, h13⟩; have L13 := L12.next h13))
    have hr13 := ho13.reads
    have HNI := Lib.hid (show NewIds (missG G ask (fun x => !evB x)).length (missG G ask (fun x => !evB x)) = NewIds ((closeG G ask).filter fun x => !evB x).length ((closeG G ask).filter fun x => !evB x) by rw [miss_filter])
    have HMH := Lib.hid (show ∀ W, Pl w W g r b G G → Calls Try.prog 26 #[.pointer (some ⟨g, 0, none⟩), .func (.func 27) #[] #[], .slice A' n' c'] W (NewIds ((closeG G ask).filter fun x => !evB x).length ((closeG G ask).filter fun x => !evB x) W) from fun W hW => by
      have := pl_missing_have hW HG.out (c := c') (haR _ hW.bel) hn6
      rw [HNI.out] at this
      exact this)
    clear ho1 ho2 ho4 ho5 ho7 ho8 ho10 ho11 hr1 hr4 hr7 hr10 ho13
    have hC3 := HB3.out
    generalize closeG G ask = C at *
    go_loopw [10, 12] (fun v i wr => ∃ (j m : Nat), j ≤ C.length ∧ i = .int .i64 j ∧ OIds wr x13.heap.size v m ((C.take j).filter fun x => !evB x) ∧ Below x13.heap.size x13 wr) (fun _ i _ => C.length - (intOf i).toNat)
    case atStart => exact ⟨0, 0, by omega, rfl, OIds.nil _ _, Below.refl _ _⟩
    case round =>
      obtain ⟨j, m, hj, rfl, ho, hb⟩ := hrel
      have hml : m ≤ j := by
        rw [← ho.2.2]
        exact Nat.le_trans (List.length_filter_le _ _) (by rw [List.length_take]; omega)
      by_cases h1 : j < C.length
      · obtain ⟨b1, o1, rfl, hc⟩ := hr13.2.2 (by omega)
        have hxi : IsId (gid C j) := hr13.2.1.at_ h1
        have HLD := Lib.hid (show ∀ W, Below x13.heap.size x13 W → (loadId ⟨b1, o1 + j * 20, none⟩).run Try.prog W = .ok (ida (gid C j)) W from fun W hW => by
          have := run_loadId (w := W) (fun i v hv => cell_later hW (hc j h1 i v hv)) hxi
          simpa using this)
        have r1 := HLD.out _ hb
        have j0 : (0 : Int) ≤ (j : Int) := by omega
        have j1 : (j : Int) < (C.length : Int) := by omega
        have HTK := Lib.hid (show (C.take (j + 1)).filter (fun x => !evB x) = (C.take j).filter (fun x => !evB x) ++ (if !evB (gid C j) then [gid C j] else []) from by
          rw [take_snoc_gid h1, List.filter_append]
          congr 1
          by_cases h : (!evB (gid C j)) = true
          · simp [List.filter_cons, h]
          · simp [List.filter_cons, h])
        have HEV := Lib.hid (ev_any (gid C j) wr hxi)
        clear hc
        generalize gid C j = x at *
        generalize (C.take j).filter (fun x => !evB x) = ys at *
        obtain ⟨Av, cv, rfl, hcv⟩ := ho.slice
        cases he : evB x with
        | true =>
          rw [he] at HEV
          have HE := Lib.hid he
          clear he
          go_wp2_with (go_at_call 27; (with_reducible refine HEV.out.mono ?_); rintro e w5 ⟨rfl, hb5⟩)
          go_roundw
          case rel => exact ⟨j + 1, m, by omega, by go_num, by rw [HTK.out, HE.out]; simpa using ho.below hb5, below_then hb hb.size hb5⟩
          case measure => simp [intOf]; omega
        | false =>
          rw [he] at HEV
          have HE := Lib.hid he
          clear he
          go_wp2_with (first
            | (go_at_call 27; (with_reducible refine HEV.out.mono ?_); rintro e w5 ⟨rfl, hb5⟩; have hb5' := below_then hb hb.size hb5; have r5 := HLD.out _ hb5'; have ho5 := ho.below hb5; have hB5 := hb5'.alloc hb5'.size (.cells (bv x).toArray 27))
            | (at_builtin; refine wpList_appIds rfl (.tmp 171) (.tmp 176) rfl x13.heap.size (.slice Av m cv) m ys rfl (ho5.alloc (.cells (bv x).toArray 27)) (some ⟨w5.heap.size, 0, none⟩) 1 1 [x] rfl (RIds.one (Blk.new w5 _ _) hxi) (by omega) hB5.size ?_; intro v7 w7 ho7 hg7 hat7; have hB7 := hB5.grown hg7 hB5.size (fun k hk => (ho5.own k hk).1)))
          go_roundw
          case rel => exact ⟨j + 1, m + 1, by omega, by go_num, by rw [HTK.out, HE.out]; simpa using ho7, hB7⟩
          case measure => simp [intOf]; omega
      · obtain rfl : j = C.length := by omega
        rw [List.take_length] at ho
        obtain ⟨Av, cv, rfl, hcv⟩ := ho.slice
        have hml2 := ho.2.2
        have LW := L13.next hb
        have HM := Lib.hid (HMH.out _ LW)
        generalize C.filter (fun x => !evB x) = D at *
        subst hml2
        have hD : D.length ≤ 1000000 := by omega
        go_wp2_with (first
          | (go_at_call 26; (with_reducible refine HM.out.mono ?_); rintro e y1 ⟨B1, d1, rfl, hp1, hd1, k1⟩; have M1 := LW.next k1; have hq1 := ho.reads.below k1)
          | (go_at_call 19; (with_reducible refine (HPL.out _ _ _ _ _ _ hD hp1.reads hq1).mono ?_); rintro e y2 ⟨rfl, k2⟩; have M2 := M1.next k2))
        go_loopw [13] (fun i wr => ∃ p : Nat, p ≤ n' ∧ i = .int .i64 p ∧ Below y2.heap.size y2 wr) (fun i _ => n' - (intOf i).toNat)
        case atStart => exact ⟨0, by omega, rfl, Below.refl _ _⟩
        case round =>
          obtain ⟨p, hp, rfl, hbp⟩ := hrel
          by_cases h2 : p < n'
          · obtain ⟨ba, oa, rfl, hca⟩ := ha.2.2 (by omega)
            have HLA := Lib.hid (show ∀ W, Below w.heap.size w W → ∀ q, q < n' → IsId (gid ask q) ∧ (loadId ⟨ba, oa + q * 20, none⟩).run Try.prog W = .ok (ida (gid ask q)) W from fun W hW q hq => by
              have hid := ha.2.1.at_ (j := q) (by rw [ha.1]; exact hq)
              exact ⟨hid, run_loadId (fun i v hv => cell_later hW (hca q hq i v hv)) hid⟩)
            have p0 : (0 : Int) ≤ (p : Int) := by omega
            have p1 : (p : Int) < (n' : Int) := by omega
            clear hca
            go_wp2
            go_loopw [14] (fun i wr => ∃ q : Nat, q ≤ n' ∧ i = .int .i64 q ∧ Below y2.heap.size y2 wr) (fun i _ => n' - (intOf i).toNat)
            case atStart => exact ⟨0, by omega, rfl, hbp⟩
            case round =>
              obtain ⟨q, hq, rfl, hbq⟩ := hrel
              by_cases h3 : q < n'
              · have N0 : Pl w wr.drew g r b G G := M2.next (below_drewN hbq 1)
                have hxi := (HLA.out _ N0.bel p h2).1
                have hyi := (HLA.out _ N0.bel q h3).1
                have HS := Lib.hid (show ∀ W, Below w.heap.size w W → (loadId ⟨ba, oa + p * 20, none⟩).run Try.prog W = .ok (ida (gid ask p)) W ∧ (loadId ⟨ba, oa + q * 20, none⟩).run Try.prog W = .ok (ida (gid ask q)) W from fun W hW => ⟨(HLA.out W hW p h2).2, (HLA.out W hW q h3).2⟩)
                have q0 : (0 : Int) ≤ (q : Int) := by omega
                have q1 : (q : Int) < (n' : Int) := by omega
                have hz1 := idSz hxi
                have hz2 := idSz hyi
                generalize gid ask p = x at *
                generalize gid ask q = y at *
                have HC1 := Lib.hid (pl_comes N0 HG.out hxi hyi)
                have HC2 := Lib.hid (show ∀ W, Pl w W g r b G G → Calls Try.prog 28 #[.pointer (some ⟨r, 0, none⟩), ida x, ida y] W (BoolP (comesB G x y) W) from fun W hW => pl_rcomes hW HG.out hxi hyi)
                generalize comesB G x y = cb at *
                have hcb : (cb != cb) = false := by simp
                go_wp2
                rw [ldI_eq 200, ldI_eq 204, ldI_eq 210, ldI_eq 214]
                go_region_held3 (fun W => (loadId ⟨ba, oa + p * 20, none⟩).run Try.prog W = .ok (ida x) W ∧ (loadId ⟨ba, oa + q * 20, none⟩).run Try.prog W = .ok (ida y) W)
                  (first | exact HS.out _ N2.bel | exact HS.out _ N1.bel | exact HS.out _ N0.bel)
                  (first
                    | (go_at_call 12; (with_reducible refine HC1.out.mono ?_); rintro e z1 ⟨rfl, g1⟩; have N1 := N0.next g1)
                    | (go_at_call 28; (with_reducible refine (HC2.out _ N1).mono ?_); rintro e z2 ⟨rfl, g2⟩; have N2 := N1.next g2))
                all_goals
                  go_wp2
                  go_roundw
                  case rel => exact ⟨q + 1, by omega, by go_num, below_then (below_then (below_drewN hbq 1) hbq.size g1) (Nat.le_trans hbq.size g1.size) g2⟩
                  case measure => simp [intOf]; omega
              · have hqn : q = n' := by omega
                have hnq : ¬ (q : Int) < (n' : Int) := by omega
                go_wp2
                go_roundw
                case rel => exact ⟨p + 1, by omega, by go_num, hbq⟩
                case measure => simp [intOf]; omega
          · have hnp : ¬ (p : Int) < (n' : Int) := by omega
            go_wp2
            go_ret
            exact ⟨rfl, (M2.next hbp).bel⟩
end Go.Proofs.Ytaaiojeehhbhhaa
