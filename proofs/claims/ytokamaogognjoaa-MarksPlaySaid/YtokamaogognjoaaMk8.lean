/-
  The table's fresh.
-/
import Derived.Test.YtokamaogognjoaaMkD
set_option linter.unusedVariables false
set_option linter.unusedSimpArgs false
namespace Go.Proofs.Ytokamaogognjoaa
open Go.RowKit
open Go.ChangeMaps (setBlock heap_setBlock_same heap_setBlock_other)

/-- what a look-up's region reads. -/
abbrev S7 (w : World) (g i mb b d : Nat) (y x : IdL) (is : Bool) (W : World) : Prop := W.cell? ⟨g, i, none⟩ = some (.map (some mb)) ∧ (loadId ⟨b, d, none⟩).run Try.prog W = .ok (ida y) W ∧
  (Instr.lookup 62 (.map (some mb)) (ida y) true).run Try.prog W = .ok (.tuple #[ida x, .bool is]) W ∧ Below w.heap.size w W
set_option maxRecDepth 100000 in
theorem lookG_ (L o : Prs) (x : IdL) : (if hasG L x then nodeOf L x else nodeOf o x) = nodeOf (L ++ o) x ∧ (if hasG L x then true else hasG o x) = hasG (L ++ o) x := by
  cases h : hasG L x with
  | true => exact ⟨(nodeOf_left h).symm, by rw [hasG_append, h]; rfl⟩
  | false => exact ⟨(nodeOf_right h).symm, by rw [hasG_append, h]; rfl⟩
set_option maxRecDepth 100000 in
theorem lookN_ (L o : Prs) (x : IdL) : (if hasN L x then gitOf L x else gitOf o x) = gitOf (L ++ o) x ∧ (if hasN L x then true else hasN o x) = hasN (L ++ o) x := by
  cases h : hasN L x with
  | true => exact ⟨(gitOf_left h).symm, by rw [hasN_append, h]; rfl⟩
  | false => exact ⟨(gitOf_right h).symm, by rw [hasN_append, h]; rfl⟩
/-- both ids of the pair at hand. -/
abbrev S16 (b : Nat) (p : IdL) (W : World) : Prop := (loadId ⟨b, 0, none⟩).run Try.prog W = .ok (ida (git p)) W ∧ (loadId ⟨b, 20, none⟩).run Try.prog W = .ok (ida (nod p)) W
set_option maxRecDepth 100000 in
theorem newP_right {L o : Prs} {p : IdL} (h : newP (L ++ o) p = true) : hasG o (git p) = false ∧ hasN o (nod p) = false := by
  obtain ⟨h1, h2⟩ := newP_parts h
  rw [hasG_append] at h1
  rw [hasN_append] at h2
  exact ⟨(Bool.or_eq_false_iff.1 h1).2, (Bool.or_eq_false_iff.1 h2).2⟩
set_option maxRecDepth 100000 in
/-- both maps of what is new, with a pair more. -/
theorem fr_added {w wB : World} {m1 m2 n : Nat} {v : Value} {L o : Prs} {p : IdL} (h1 : IMap wB m1 (kvG o)) (h2 : IMap wB m2 (kvN o)) (hne : m1 ≠ m2) (hown : OPrs wB w.heap.size v n o) (hp : IsPr p) (hn : newP (L ++ o) p = true) (hb : Below w.heap.size w wB) (b1 : w.heap.size ≤ m1) (b2 : w.heap.size ≤ m2) :
    ∃ W1 W2, (Instr.mapUpdate 62 (.map (some m1)) (ida (git p)) (ida (nod p))).run Try.prog wB.drew = .ok () W1 ∧ (Instr.mapUpdate 62 (.map (some m2)) (ida (nod p)) (ida (git p))).run Try.prog W1 = .ok () W2 ∧
      IMap W2 m1 (kvG (o ++ [p])) ∧ IMap W2 m2 (kvN (o ++ [p])) ∧ OPrs W2 w.heap.size v n o ∧ (∀ q u, wB.cell? q = some u → W1.cell? q = some u ∧ W2.cell? q = some u) ∧ Below w.heap.size w W2 := by
  obtain ⟨n1, n2⟩ := newP_right hn
  have h1d := h1.drewN 1
  have h2d := h2.drewN 1
  have hod := hown.drewN 1
  have u1 := h1d.upd mapTy hp.git (ida (nod p))
  have g1 := h1d.setb_grown (mobj (kvSet (kvG o) (git p) (ida (nod p))))
  have e1 := kvG_set n1
  have u1r : (Instr.mapUpdate 62 (.map (some m1)) (ida (git p)) (ida (nod p))).run Try.prog wB.drew = .ok () (setBlock (wB.drewN 1) m1 (mobj (kvSet (kvG o) (git p) (ida (nod p))))) := u1.1
  have u1m : IMap (setBlock (wB.drewN 1) m1 (mobj (kvSet (kvG o) (git p) (ida (nod p))))) m1 (kvSet (kvG o) (git p) (ida (nod p))) := u1.2
  rw [e1] at u1r u1m g1
  obtain ⟨W1, eW1⟩ : ∃ W1, W1 = setBlock (wB.drewN 1) m1 (mobj (kvG (o ++ [p]))) := ⟨_, rfl⟩
  rw [← eW1] at u1r u1m g1
  have h21 := h2d.grown g1 (fun e => hne (by injection e with e; exact e.symm))
  have ho1 := hod.kept g1 (own_far fun k e => h1d.notOwn hod k e)
  have u2 := h21.upd mapTy hp.node (ida (git p))
  have g2 := h21.setb_grown (mobj (kvSet (kvN o) (nod p) (ida (git p))))
  have u2r : (Instr.mapUpdate 62 (.map (some m2)) (ida (nod p)) (ida (git p))).run Try.prog W1 = .ok () (setBlock W1 m2 (mobj (kvSet (kvN o) (nod p) (ida (git p))))) := u2.1
  have u2m : IMap (setBlock W1 m2 (mobj (kvSet (kvN o) (nod p) (ida (git p))))) m2 (kvSet (kvN o) (nod p) (ida (git p))) := u2.2
  have e2 := kvN_set n2
  rw [e2] at u2r u2m g2
  obtain ⟨W2, eW2⟩ : ∃ W2, W2 = setBlock W1 m2 (mobj (kvN (o ++ [p]))) := ⟨_, rfl⟩
  rw [← eW2] at u2r u2m g2
  have h12 := u1m.grown g2 (fun e => hne (by injection e))
  have ho2 := ho1.kept g2 (own_far fun k e => h21.notOwn ho1 k e)
  have hbd : Below w.heap.size w (wB.drewN 1) := below_drewN hb 1
  have hb1 := hbd.grown g1 hbd.size (fun k e => by injection e with e; omega)
  have hb2 := hb1.grown g2 hb1.size (fun k e => by injection e with e; omega)
  refine ⟨W1, W2, u1r, u2r, h12, u2m, ho2, fun q u hq => ?_, hb2⟩
  have a1 : W1.cell? q = some u := by rw [eW1]; exact (h1d.cells _ hq).2
  exact ⟨a1, by rw [eW2]; exact (h21.cells _ a1).2⟩
set_option maxRecDepth 100000 in
set_option maxHeartbeats 8000000 in
theorem tfresh_any (P : Nat → Prop) (g gt f : Nat) (L : Prs) (B : Option Addr) (k c : Nat) (l : Prs) (w : World) (h : TbAt w P g gt f L) (hB : RPrs w B k l) (hk : L.length + l.length ≤ 3000) :
    Calls Try.prog 30 #[.pointer (some ⟨g, 0, none⟩), .slice B k c] w (FreshPost (freshR L l) w) := by
  have hl := hB.1
  subst hl
  obtain ⟨A, n, cc, m1, m2, hm⟩ := h
  have hmm := @run_makeMap Try.prog
  have hid1 := hm.bij
  have hnl := hm.len
  subst hnl
  have hb0 : Below w.heap.size w ((w.alloc (.map #[] 0)).alloc (.map #[] 0)) := ((Below.refl _ _).alloc (Nat.le_refl _) _).alloc (by simp) _
  have hM1 : IMap ((w.alloc (.map #[] 0)).alloc (.map #[] 0)) w.heap.size (kvG []) := (IMap.made w).alloc _
  have hM2 : IMap ((w.alloc (.map #[] 0)).alloc (.map #[] 0)) (w.heap.size + 1) (kvN []) := by have := IMap.made (w.alloc (.map #[] 0)); rwa [World.size_alloc] at this
  go_enter Try.func30, Try.ntmps30
  go_wp2
  go_loopw [6, 9, 10, 21] (fun v6 v9 v10 v21 wr => ∃ (j : Nat) (z t : Bool) (o : Prs), j ≤ l.length ∧ v21 = .int .i64 j ∧ v9 = .bool z ∧ v10 = .bool t ∧ z = (l.take j).any zeroP ∧ t = twL L [] (l.take j) ∧ o = outL L [] (l.take j) ∧
    OPrs wr w.heap.size v6 o.length o ∧ IMap wr w.heap.size (kvG o) ∧ IMap wr (w.heap.size + 1) (kvN o) ∧ Below w.heap.size w wr) (fun _ _ _ i _ => l.length - (intOf i).toNat)
  case atStart => exact ⟨0, false, false, [], by omega, rfl, rfl, rfl, rfl, rfl, rfl, OPrs.nil _ _, hM1, hM2, hb0⟩
  case round =>
    obtain ⟨j, z, t, o, hj, rfl, rfl, rfl, hz, ht, ho, hown, hk1, hk2, hb⟩ := hrel
    obtain ⟨A6, c6, rfl, hc6⟩ := hown.slice
    by_cases h1 : j < l.length
    · have hBr := hB.below hb
      obtain ⟨b, off, rfl, hcells⟩ := hBr.2.2 (by omega)
      have hp : IsPr (gp l j) := hB.2.1.at_ h1
      have r1 := run_loadPr (hcells j h1) hp
      have hol : o.length ≤ j := by
        have := outL_len L [] (l.take j)
        rw [← ho] at this
        simp at this
        omega
      have hall : AllPr (L ++ o) := hm.bij.all.append hown.2.1
      have HZ := Lib.hid (show (l.take (j + 1)).any zeroP = (z || zeroP (gp l j)) from by rw [take_gp h1, List.any_append, ← hz]; simp)
      have HT := Lib.hid (show twL L [] (l.take (j + 1)) = (t || twP (L ++ o) (gp l j)) from by rw [take_gp h1, twL_snoc, ← ht, ← ho])
      have HO := Lib.hid (show outL L [] (l.take (j + 1)) = nextL L o (gp l j) from by rw [take_gp h1, outL_snoc, ← ho])
      have hmr := hm.below hb
      have hw2 : w.heap.size + 1 < wr.heap.size := hk2.lt
      have j0 : (0 : Int) ≤ (j : Int) := by omega
      have j1 : (j : Int) < (l.length : Int) := by omega
      have hzX := pr_sz hp
      have hsX := pr_zs hp
      clear hcells hz ht ho hb0 hM1 hM2
      generalize gp l j = p at *
      have hpg : IsId (git p) := hp.git
      have hpn : IsId (nod p) := hp.node
      go_upto_region 7 with ((with_reducible refine st_row 27 12 24 wr.heap.size 27 (bv p).toArray zpr ?_ ?_ ?_ hzX hsX (bvArr_all p) ?_); rfl; rfl; exact Blk.new wr _ zpr; intro w5 hb5 hg5 hsz5)
      have hB5 : Below wr.heap.size wr w5 := ((Below.refl _ wr).alloc (Nat.le_refl _) _).grown hg5 (by simp) (fun k e => by injection e with e; omega)
      have z5 : wr.heap.size < w5.heap.size := by rw [hsz5, World.size_alloc]; omega
      clear hsz5 hg5
      have hm5 := hmr.below hB5
      have hpR : w5.rangeAt wr.heap.size 0 (bv p) := hb5.range
      have hpN : w5.rangeAt wr.heap.size 20 (bv (nod p)) := by have := range_node hpR; rwa [Nat.zero_add] at this
      have hpG : w5.rangeAt wr.heap.size 0 (bv (git p)) := range_git hpR
      have HS := Lib.hid (show ∀ W, Below w5.heap.size w5 W → S7 w5 g 3 m1 wr.heap.size 0 (git p) (nodeOf L (git p)) (hasG L (git p)) W from fun W hW =>
        ⟨cell_later hW hm5.c3, run_loadId (range_aft (range_git hpR) hW) hpg, by have := look_g (hm5.below hW).mg hpg true; rwa [if_pos rfl] at this, hW⟩)
      have hx0 : IsId (nodeOf L (git p)) := hm.bij.all.nodeId _
      rw [ldI_eq 30, stI_eq 13 33]
      simp only [Act.put, List.setIfInBounds_toArray, List.set_cons_succ, List.set_cons_zero]
      go_cut [13, 14] (fun v13 v14 wx => ∃ b13, v13 = .pointer (some ⟨b13, 0, none⟩) ∧ v14 = .bool (hasG L (git p)) ∧ IdAt w5 b13 (nodeOf L (git p)) wx)
      case first =>
        go_region_held3 (S7 w5 g 3 m1 wr.heap.size 0 (git p) (nodeOf L (git p)) (hasG L (git p)))
          (first | exact HS.out _ (bd1 _) | exact HS.out _ (bd2 _ _) | exact HS.out _ (bd3 _ _ _))
          (fail)
        all_goals go_wp2
        all_goals go_meet
        all_goals exact ⟨_, rfl, rfl, idAt_new hx0⟩
      case rest =>
        obtain ⟨b13, rfl, rfl, hA7⟩ := hcut
        rename World => w7
        obtain ⟨hz13, hr13, ht13, hB7⟩ := hA7
        obtain ⟨eG1, eG2⟩ := lookG_ L o (git p)
        have EG := Lib.hid (And.intro eG1 eG2)
        clear eG1 eG2
        have hx1 : IsId (nodeOf o (git p)) := hown.2.1.nodeId _
        have hk17 := (hk1.later hB5).later hB7
        have r9 := run_loadId (range_aft hpG hB7) hpg
        have l9 : (Instr.lookup 62 (.map (some w.heap.size)) (ida (git p)) true).run Try.prog w7 = .ok (.tuple #[ida (nodeOf o (git p)), .bool (hasG o (git p))]) w7 := by have := look_g hk17 hpg true; rwa [if_pos rfl] at this
        have hB97 := bk_set hB7 b13 (bv (nodeOf o (git p))) hz13
        go_upto_if 36 with fail
        go_cut [14] (fun v14 wx => v14 = .bool (hasG (L ++ o) (git p)) ∧ IdAt w5 b13 (nodeOf (L ++ o) (git p)) wx)
        case first =>
          cases hq : hasG L (git p) with
          | true =>
            have e := EG.out
            rw [hq, if_pos rfl, if_pos rfl] at e
            have E := Lib.hid e
            clear e
            go_wp2
            go_meet
            exact ⟨by rw [← E.out.2], by rw [← E.out.1]; exact ⟨hz13, hr13, ht13, hB7⟩⟩
          | false =>
            have e := EG.out
            rw [hq, if_neg (by decide), if_neg (by decide)] at e
            have E := Lib.hid e
            clear e
            go_upto_region 9 with fail
            rw [ldI_eq 39, stI_eq 13 42]
            go_wp2
            go_meet
            exact ⟨by rw [← E.out.2], by rw [← E.out.1]; exact idAt_set hx1 hB7 ht13 hz13⟩
        case rest =>
          clear EG hz13 hr13 ht13 hB7 hB97 r9 l9 hk17 hx0 hx1 HS
          obtain ⟨rfl, hz13, hr13, ht13, hBA⟩ := hcut
          rename World => wA
          have hmA := hm5.below hBA
          have hpA := range_aft hpR hBA
          have hpnA := range_aft hpN hBA
          have hpgA := range_aft hpG hBA
          have HS := Lib.hid (show ∀ W, Below wA.heap.size wA W → S7 wA g 4 m2 wr.heap.size 20 (nod p) (gitOf L (nod p)) (hasN L (nod p)) W from fun W hW =>
            ⟨cell_later hW hmA.c4, run_loadId (range_aft hpnA hW) hpn, by have := look_n (hmA.below hW).mn hpn true; rwa [if_pos rfl] at this, hW⟩)
          have hx0 : IsId (gitOf L (nod p)) := hm.bij.all.gitId _
          go_upto_region 10 with fail
          rw [ldI_eq 49, stI_eq 15 52]
          go_cut [15, 16] (fun v15 v16 wx => ∃ b15, v15 = .pointer (some ⟨b15, 0, none⟩) ∧ v16 = .bool (hasN L (nod p)) ∧ IdAt wA b15 (gitOf L (nod p)) wx)
          case first =>
            go_region_held3 (S7 wA g 4 m2 wr.heap.size 20 (nod p) (gitOf L (nod p)) (hasN L (nod p)))
              (first | exact HS.out _ (bd1 _) | exact HS.out _ (bd2 _ _) | exact HS.out _ (bd3 _ _ _))
              (fail)
            all_goals go_wp2
            all_goals go_meet
            all_goals exact ⟨_, rfl, rfl, idAt_new hx0⟩
          case rest =>
            clear HS
            obtain ⟨b15, rfl, rfl, hz15, hr15, ht15, hB10⟩ := hcut
            rename World => w10
            obtain ⟨eG1, eG2⟩ := lookN_ L o (nod p)
            have EG := Lib.hid (And.intro eG1 eG2)
            clear eG1 eG2
            have hx1 : IsId (gitOf o (nod p)) := hown.2.1.gitId _
            have hk27 := ((hk2.later hB5).later hBA).later hB10
            have r9 := run_loadId (range_aft hpnA hB10) hpn
            have l9 : (Instr.lookup 62 (.map (some (w.heap.size + 1))) (ida (nod p)) true).run Try.prog w10 = .ok (.tuple #[ida (gitOf o (nod p)), .bool (hasN o (nod p))]) w10 := by have := look_n hk27 hpn true; rwa [if_pos rfl] at this
            go_upto_if 55 with fail
            go_cut [16] (fun v16 wx => v16 = .bool (hasN (L ++ o) (nod p)) ∧ IdAt wA b15 (gitOf (L ++ o) (nod p)) wx)
            case first =>
              cases hq : hasN L (nod p) with
              | true =>
                have e := EG.out
                rw [hq, if_pos rfl, if_pos rfl] at e
                have E := Lib.hid e
                clear e
                go_wp2
                go_meet
                exact ⟨by rw [← E.out.2], by rw [← E.out.1]; exact ⟨hz15, hr15, ht15, hB10⟩⟩
              | false =>
                have e := EG.out
                rw [hq, if_neg (by decide), if_neg (by decide)] at e
                have E := Lib.hid e
                clear e
                go_upto_region 12 with fail
                rw [ldI_eq 58, stI_eq 15 61]
                go_wp2
                go_meet
                exact ⟨by rw [← E.out.2], by rw [← E.out.1]; exact idAt_set hx1 hB10 ht15 hz15⟩
            case rest =>
              clear EG hz15 hr15 ht15 hB10 r9 l9 hk27 hx0 hx1
              obtain ⟨rfl, hz15, hr15, ht15, hBB⟩ := hcut
              rename World => wB
              have hB5B := below_two hB5 (below_two hBA hBB)
              have qg := run_loadId (range_aft hpgA hBB) hpg
              have qn := run_loadId (range_aft hpnA hBB) hpn
              have hxG : IsId (nodeOf (L ++ o) (git p)) := hall.nodeId _
              have hxN : IsId (gitOf (L ++ o) (nod p)) := hall.gitId _
              have q13 := run_loadId (range_aft hr13 hBB) hxG
              have q15 := run_loadId hr15 hxN
              have n1 := fun W => ida_neq hxG hpn W
              have n2 := fun W => ida_neq hxN hpg W
              have z1 := fun W => idz_eql hpg W
              have z2 := fun W => idz_eql hpn W
              have HZP := Lib.hid (show zeroP p = ((git p == zeroL) || (nod p == zeroL)) from rfl)
              have HTW := Lib.hid (show twP (L ++ o) p = ((hasG (L ++ o) (git p) && (nodeOf (L ++ o) (git p) != nod p)) || (hasN (L ++ o) (nod p) && (gitOf (L ++ o) (nod p) != git p))) from rfl)
              have HNW := Lib.hid (show newP (L ++ o) p = (!hasG (L ++ o) (git p) && !hasN (L ++ o) (nod p)) from rfl)
              clear hr13 ht13 hr15 ht15 hz13 hz15 hxG hxN
              generalize (git p == zeroL) = zg at *
              generalize (nod p == zeroL) = zn at *
              generalize (nodeOf (L ++ o) (git p) != nod p) = ne1 at *
              generalize (gitOf (L ++ o) (nod p) != git p) = ne2 at *
              generalize nodeOf (L ++ o) (git p) = xg at *
              generalize gitOf (L ++ o) (nod p) = xn at *
              generalize hasG (L ++ o) (git p) = is at *
              generalize hasN (L ++ o) (nod p) = has at *
              go_upto_region 13 with fail
              go_cut [9] (fun v9 wx => v9 = .bool (z || zeroP p) ∧ wB = wx)
              case first =>
                cases z with
                | true => go_wp2; go_meet; exact ⟨by rw [HZP.out]; rfl, rfl⟩
                | false =>
                  cases zg with
                  | true => go_wp2; go_meet; exact ⟨by rw [HZP.out]; rfl, rfl⟩
                  | false => cases zn <;> (go_wp2; go_meet; exact ⟨by rw [HZP.out]; rfl, rfl⟩)
              case rest =>
                obtain ⟨rfl, rfl⟩ := hcut
                go_upto_region 14 with fail
                go_cut [10] (fun v10 wx => v10 = .bool (t || twP (L ++ o) p) ∧ wB = wx)
                case first =>
                  cases t with
                  | true => go_wp2; go_meet; exact ⟨by rw [HTW.out]; rfl, rfl⟩
                  | false =>
                    cases is with
                    | true =>
                      cases ne1 with
                      | true => go_wp2; go_meet; exact ⟨by rw [HTW.out]; rfl, rfl⟩
                      | false =>
                        cases has with
                        | true => cases ne2 <;> (go_wp2; go_meet; exact ⟨by rw [HTW.out]; rfl, rfl⟩)
                        | false => go_wp2; go_meet; exact ⟨by rw [HTW.out]; rfl, rfl⟩
                    | false =>
                      cases has with
                      | true => cases ne2 <;> (go_wp2; go_meet; exact ⟨by rw [HTW.out]; rfl, rfl⟩)
                      | false => go_wp2; go_meet; exact ⟨by rw [HTW.out]; rfl, rfl⟩
                case rest =>
                  obtain ⟨rfl, rfl⟩ := hcut
                  clear HZP HTW n1 n2 z1 z2 q13 q15
                  have hk1B := hk1.later hB5B
                  have hk2B := hk2.later hB5B
                  have hoB := hown.below hB5B
                  have hbB := below_two hb hB5B
                  have hpB : wB.rangeAt wr.heap.size 0 (bv p) := range_aft hpA hBB
                  have hpnB : wB.rangeAt wr.heap.size 20 (bv (nod p)) := range_aft hpnA hBB
                  have hpgB : wB.rangeAt wr.heap.size 0 (bv (git p)) := range_aft hpgA hBB
                  clear qg qn hpA hpnA hpgA
                  cases is with
                  | true =>
                    go_wp2
                    go_roundw
                    case rel => exact ⟨j + 1, z || zeroP p, t || twP (L ++ o) p, o, by omega, by go_num, rfl, rfl, HZ.out.symm, HT.out.symm, by rw [HO.out]; unfold nextL; rw [HNW.out]; rfl, hoB, hk1B, hk2B, hbB⟩
                    case measure => simp [intOf]; omega
                  | false =>
                    cases has with
                    | true =>
                      go_wp2
                      go_roundw
                      case rel => exact ⟨j + 1, z || zeroP p, t || twP (L ++ o) p, o, by omega, by go_num, rfl, rfl, HZ.out.symm, HT.out.symm, by rw [HO.out]; unfold nextL; rw [HNW.out]; rfl, hoB, hk1B, hk2B, hbB⟩
                      case measure => simp [intOf]; omega
                    | false =>
                      have hnew : newP (L ++ o) p = true := by rw [HNW.out]; rfl
                      have HNX := Lib.hid (show nextL L o p = o ++ [p] from by unfold nextL; rw [if_pos hnew])
                      obtain ⟨W1, W2, u1, u2, k1, k2, ho2, hkc, hb2⟩ := fr_added hk1B hk2B (by omega) hoB hp hnew hbB (Nat.le_refl _) (by omega)
                      have H0 := Lib.hid (show S16 wr.heap.size p wB.drew from ⟨run_loadId (w := wB.drew) hpgB hpg, run_loadId (w := wB.drew) hpnB hpn⟩)
                      have H1 := Lib.hid (show S16 wr.heap.size p W1 from ⟨run_loadId (fun i v hi => (hkc _ _ (hpgB i v hi)).1) hpg, run_loadId (fun i v hi => (hkc _ _ (hpnB i v hi)).1) hpn⟩)
                      have H2 := Lib.hid (show S16 wr.heap.size p W2 from ⟨run_loadId (fun i v hi => (hkc _ _ (hpgB i v hi)).2) hpg, run_loadId (fun i v hi => (hkc _ _ (hpnB i v hi)).2) hpn⟩)
                      have r17 : (loadPr ⟨wr.heap.size, 0, none⟩).run Try.prog W2 = .ok (ida p) W2 := run_loadPr (fun i v hi => (hkc _ _ (hpB i v hi)).2) hp
                      have HOW := Lib.hid (And.intro (k1.notOwn ho2) (k2.notOwn ho2))
                      clear hkc hnew
                      go_upto_region 16 with fail
                      rw [ldI_eq 102, ldI_eq 105, ldI_eq 107, ldI_eq 109]
                      go_region_held3 (S16 wr.heap.size p)
                        (first | exact H0.out | exact H1.out | exact H2.out)
                        (fail)
                      all_goals
                        go_wp2_with (at_builtin; refine wpList_appPrs rfl (.tmp 111) (.tmp 113) rfl w.heap.size (.slice A6 o.length c6) o.length o rfl (ho2.alloc _) (some ⟨W2.heap.size, 0, none⟩) 1 1 [p] rfl (RPrs.one (Blk.new W2 _ _) hp) ?c1 ?c2 ?_)
                        case c1 => omega
                        case c2 => have := hb2.size; simp; omega
                        intro v' w17 ho17 hg17 hat17
                        have hba := hb2.alloc hb2.size (.cells (bv p).toArray 27)
                        have hbE := hba.grown hg17 hba.size (fun k e => (ho2.own k e).1)
                        have kE1 := (k1.alloc (.cells (bv p).toArray 27)).grown hg17 (fun e => HOW.out.1 _ e.symm rfl)
                        have kE2 := (k2.alloc (.cells (bv p).toArray 27)).grown hg17 (fun e => HOW.out.2 _ e.symm rfl)
                        go_wp2
                        go_roundw
                        case rel => exact ⟨j + 1, z || zeroP p, t || twP (L ++ o) p, o ++ [p], by omega, by go_num, rfl, rfl, HZ.out.symm, HT.out.symm, by rw [HO.out, HNX.out], by rw [List.length_append]; exact ho17, kE1, kE2, hbE⟩
                        case measure => simp [intOf]; omega
    · obtain rfl : j = l.length := by omega
      rw [List.take_length] at hz ht ho
      have hol := outL_len L [] l
      rw [← ho] at hol
      have HF := Lib.hid (show freshR L l = if z then ([], 1) else if t then ([], 8) else (o, 0) from by unfold freshR; rw [← hz, ← ht, ← ho])
      have c2 := (hm.below hb).c2
      have n1 : (L.length : Int) + (o.length : Int) ≤ 5000 := by simp at hol; omega
      have n2 : (o.length : Int) ≤ 3279 := by simp at hol; omega
      clear hz ht ho hol
      cases z with
      | true =>
        go_wp2
        go_ret2
        rw [HF.out]
        exact FreshPost.bad hb
      | false =>
        cases t with
        | true =>
          go_wp2
          go_ret2
          rw [HF.out]
          exact FreshPost.bad hb
        | false =>
          go_wp2
          go_ret2
          rw [HF.out]
          exact FreshPost.good hown hb
end Go.Proofs.Ytokamaogognjoaa
