/-
  tells: a table tells just these pairs.
-/
import Derived.Test.YtokamaogognjoaaMkl
set_option linter.unusedVariables false
set_option linter.unusedSimpArgs false
namespace Go.Proofs.Ytokamaogognjoaa
open Go.RowKit

set_option maxRecDepth 100000 in
theorem gp_mem'' {L : Prs} {i : Nat} (h : i < L.length) : gp L i ∈ L := by
  have : gp L i = L[i] := by simp [gp, h]
  rw [this]
  exact List.getElem_mem h
set_option maxRecDepth 100000 in
set_option maxHeartbeats 4000000 in
theorem tells_any (P : Nat → Prop) (g gt f : Nat) (A : Option Addr) (n c : Nat) (L : Prs) (x : IdL) (w : World) (h : TbAt w P g gt f L) (hA : RPrs w A n L) (hL : L.length ≤ 1000000) (hx : IsId x) :
    Calls Try.prog 24 #[.pointer (some ⟨g, 0, none⟩), .slice A n c, ida x] w (BoolP true w) := by
  have hl := hA.1
  subst hl
  have hbij : Bij L := by obtain ⟨A', n', c', m1, m2, hm⟩ := h; exact hm.bij
  have hb0 : Below w.heap.size w (w.alloc (.cells (bv x).toArray 25)) := (Below.refl _ _).alloc (Nat.le_refl _) _
  have hT0 := h.below hb0
  have hA0 := hA.below hb0
  have hX0 : (w.alloc (.cells (bv x).toArray 25)).rangeAt w.heap.size 0 (bv x) := (Blk.new w _ _).range
  have HND := Lib.hid (show ∀ W y, Below (w.alloc (.cells (bv x).toArray 25)).heap.size (w.alloc (.cells (bv x).toArray 25)) W → IsId y → Calls Try.prog 28 #[.pointer (some ⟨g, 0, none⟩), ida y] W (IdB (nodeOf L y) (hasG L y) W) from fun W y hW hy => tnode_any P g gt f L y W (hT0.below hW) hy)
  have HGT := Lib.hid (show ∀ W y, Below (w.alloc (.cells (bv x).toArray 25)).heap.size (w.alloc (.cells (bv x).toArray 25)) W → IsId y → Calls Try.prog 47 #[.pointer (some ⟨g, 0, none⟩), ida y] W (IdB (gitOf L y) (hasN L y) W) from fun W y hW hy => tgit_any P g gt f L y W (hT0.below hW) hy)
  have HPR := Lib.hid (tbPairs_any P g gt f L (w.alloc (.cells (bv x).toArray 25)) hT0 hL)
  have HPL := Lib.hid (show ∀ W (A' : Option Addr) (c' : Nat), RPrs W A' L.length L → RPrs W A L.length L → Calls Try.prog 12 #[.slice A' L.length c', .slice A L.length c] W (BoolP true W) from fun W A' c' h h' => by have := plainP_any A' A _ _ c' c _ _ W h h' (by omega) (by omega); rwa [decide_eq_true rfl] at this)
  unfold NewPrs at HPR
  unfold BoolP at HPL
  unfold IdB at HND HGT
  have hszx := idSz hx
  go_enter Try.func24, Try.ntmps24
  go_upto_region 3 with (first
    | (go_at_call 13; (with_reducible refine HPR.out.mono ?_); rintro e w1 ⟨A1, c1, rfl, ho1, hc1, hb1⟩; have hA1 := hA0.below hb1)
    | (go_at_call 12; (with_reducible refine (HPL.out _ _ _ ho1.reads hA1).mono ?_); rintro e w2 ⟨rfl, hb2⟩))
  have hb12 := below_two hb1 hb2
  clear hb1 hb2 ho1 hA1 HPR HPL hc1
  generalize hwb : w.alloc (.cells (bv x).toArray 25) = wb at *
  clear hwb
  go_wp2
  go_loopw [7, 8, 9] (fun v7 v8 i wr => ∃ j : Nat, j ≤ L.length ∧ i = .int .i64 j ∧ v7 = .bool (hasG (L.take j) x) ∧ v8 = .bool (hasN (L.take j) x) ∧ Below wb.heap.size wb wr) (fun _ _ i _ => L.length - (intOf i).toNat)
  case atStart => exact ⟨0, by omega, rfl, rfl, rfl, hb12⟩
  case round =>
    obtain ⟨j, hj, rfl, rfl, rfl, hbr⟩ := hrel
    have j0 : (0 : Int) ≤ (j : Int) := by omega
    by_cases h1 : j < L.length
    · have j1 : (j : Int) < (L.length : Int) := by omega
      have hmem := gp_mem'' h1
      have hp : IsPr (gp L j) := hA.2.1.at_ h1
      have e1 := hbij.nodeEq hmem
      have e2 := hbij.gitEq hmem
      have e3 : hasG L (git (gp L j)) = true := hasG_iff.2 ⟨_, hmem, rfl⟩
      have e4 : hasN L (nod (gp L j)) = true := hasN_iff.2 ⟨_, hmem, rfl⟩
      have HN1 := Lib.hid (fun W hW => HND.out W (git (gp L j)) hW hp.git)
      have HG1 := Lib.hid (fun W hW => HGT.out W (nod (gp L j)) hW hp.node)
      rw [e1, e3] at HN1
      rw [e2, e4] at HG1
      have HK1 := Lib.hid (show hasG (L.take (j + 1)) x = (hasG (L.take j) x || (git (gp L j) == x)) from by rw [take_gp h1, hasG_append]; simp [hasG])
      have HK2 := Lib.hid (show hasN (L.take (j + 1)) x = (hasN (L.take j) x || (nod (gp L j) == x)) from by rw [take_gp h1, hasN_append]; simp [hasN])
      obtain ⟨b, o, rfl, hcells⟩ := hA0.2.2 (by omega)
      have hpg : IsId (git (gp L j)) := hp.git
      have hpn : IsId (nod (gp L j)) := hp.node
      have HLD := Lib.hid (show ∀ W, Below wb.heap.size wb W → (loadId ⟨b, o + j * 40, none⟩).run Try.prog W = .ok (ida (git (gp L j))) W ∧ (loadId ⟨b, o + j * 40 + 20, none⟩).run Try.prog W = .ok (ida (nod (gp L j))) W ∧ (loadId ⟨w.heap.size, 0, none⟩).run Try.prog W = .ok (ida x) W from fun W hW =>
        ⟨run_loadId (range_git (range_aft (hcells j h1) hW)) hpg, run_loadId (range_node (range_aft (hcells j h1) hW)) hpn, run_loadId (range_aft hX0 hW) hx⟩)
      obtain ⟨l1, l2, l3⟩ := HLD.out wr hbr
      have hzG := id_sz hpg
      have hsG := id_zs hpg
      have hzN := id_sz hpn
      have hsN := id_zs hpn
      have ng := fun W => ida_neq hpg hpg W
      have nn := fun W => ida_neq hpn hpn W
      have bg : (git (gp L j) != git (gp L j)) = false := by simp
      have bn : (nod (gp L j) != nod (gp L j)) = false := by simp
      rw [bg] at ng
      rw [bn] at nn
      have qg := fun W => ida_eql hpg hx W
      have qn := fun W => ida_eql hpn hx W
      clear hcells e1 e2 e3 e4 hmem bg bn
      generalize hasG (L.take j) x = v7 at *
      generalize hasN (L.take j) x = v8 at *
      generalize (git (gp L j) == x) = fg at *
      generalize (nod (gp L j) == x) = fn at *
      generalize git (gp L j) = pg at *
      generalize nod (gp L j) = pn at *
      go_upto_region 9 with (first
        | (go_at_call 28; (with_reducible refine (HN1.out _ hbr).mono ?_); rintro e w3 ⟨rfl, hb3⟩; have hb3' := below_two hbr hb3)
        | ((with_reducible refine st_row 25 10 37 w3.heap.size 25 (bv pn).toArray zid ?_ ?_ ?_ hzN hsN (bvArr_all pn) ?_); rfl; rfl; exact Blk.new w3 25 zid; intro w4 hk4 hg4 hsz4; have hb4 := ((Below.refl w3.heap.size w3).alloc (Nat.le_refl _) (.cells zlit 25)).grown hg4 (by simp) (fun k hk => by cases hk; exact Nat.le_refl _); have hb4' := below_two hb3' hb4; clear hsz4; obtain ⟨m1, m2, m3⟩ := HLD.out w4 hb4')
        | (go_at_call 47; (with_reducible refine (HG1.out _ hb4').mono ?_); rintro e w5 ⟨rfl, hb5⟩; have hb5' := below_two hb4' hb5)
        | ((with_reducible refine st_row 25 12 47 w5.heap.size 25 (bv pg).toArray zid ?_ ?_ ?_ hzG hsG (bvArr_all pg) ?_); rfl; rfl; exact Blk.new w5 25 zid; intro w6 hk6 hg6 hsz6; have hb6 := ((Below.refl w5.heap.size w5).alloc (Nat.le_refl _) (.cells zlit 25)).grown hg6 (by simp) (fun k hk => by cases hk; exact Nat.le_refl _); have hb6' := below_two hb5' hb6; clear hsz6))
      have hk4' := ((hk4.below hb5 hk4.lt).below hb6 (hk4.below hb5 hk4.lt).lt)
      have f1 : ∀ k, (loadId ⟨w3.heap.size, 0, none⟩).run Try.prog (w6.drewN k) = .ok (ida pn) (w6.drewN k) := fun k => run_loadId (w := w6.drewN k) hk4'.range hpn
      have f2 : ∀ k, (loadId ⟨w5.heap.size, 0, none⟩).run Try.prog (w6.drewN k) = .ok (ida pg) (w6.drewN k) := fun k => run_loadId (w := w6.drewN k) hk6.range hpg
      have f3 := fun k => (HLD.out (w6.drewN k) (below_drewN hb6' k)).1
      have f4 := fun k => (HLD.out (w6.drewN k) (below_drewN hb6' k)).2.1
      have f5 := fun k => (HLD.out (w6.drewN k) (below_drewN hb6' k)).2.2
      clear l1 l2 l3 m1 m2 m3 hk4 hg4 hg6 hk4'
      go_wp2
      go_quiet (fail)
      generalize nq = q1 at *
      go_upto_region 11 with fail
      go_cut [7] (fun u7 wx => u7 = .bool (v7 || fg) ∧ ∃ q, w6.drewN q = wx)
      case first =>
        cases v7 with
        | true => go_wp2; go_quiet (fail); go_wp2; go_meet; exact ⟨by simp, q1 + nq, by simp⟩
        | false =>
          cases fg with
          | true => go_wp2; go_quiet (fail); go_wp2; go_meet; exact ⟨by simp, q1 + nq, by simp⟩
          | false => go_wp2; go_quiet (fail); go_wp2; go_meet; exact ⟨by simp, q1 + nq, by simp⟩
      case rest =>
        obtain ⟨rfl, q2, rfl⟩ := hcut
        cases v8 with
        | true =>
          go_wp2
          go_quiet (fail)
          go_wp2
          go_roundw
          case rel => exact ⟨j + 1, by omega, by go_num, by rw [HK1.out], by rw [HK2.out]; simp, below_drewN hb6' (q2 + nq)⟩
          case measure => simp [intOf]; omega
        | false =>
          cases fn with
          | true =>
            go_wp2
            go_quiet (fail)
            go_wp2
            go_roundw
            case rel => exact ⟨j + 1, by omega, by go_num, by rw [HK1.out], by rw [HK2.out]; simp, below_drewN hb6' (q2 + nq)⟩
            case measure => simp [intOf]; omega
          | false =>
            go_wp2
            go_quiet (fail)
            go_wp2
            go_roundw
            case rel => exact ⟨j + 1, by omega, by go_num, by rw [HK1.out], by rw [HK2.out]; simp, below_drewN hb6' (q2 + nq)⟩
            case measure => simp [intOf]; omega
    · have hjn : j = L.length := by omega
      have j1 : ¬ ((j : Int) < (L.length : Int)) := by omega
      rw [hjn, List.take_length]
      clear hjn hj
      have HN1 := Lib.hid (fun W hW => HND.out W x hW hx)
      have HG1 := Lib.hid (fun W hW => HGT.out W x hW hx)
      have HLX := Lib.hid (show ∀ W, Below wb.heap.size wb W → (loadId ⟨w.heap.size, 0, none⟩).run Try.prog W = .ok (ida x) W from fun W hW => run_loadId (range_aft hX0 hW) hx)
      have l1 := HLX.out wr hbr
      have hy := hbij.all.nodeId x
      have hz := hbij.all.gitId x
      have hy0 : hasG L x = false → nodeOf L x = zeroL := nodeOf_none
      have hz0 : hasN L x = false → gitOf L x = zeroL := gitOf_none
      clear HND HGT hA0 hT0 hbij
      generalize hasG L x = fa at *
      generalize hasN L x = fb at *
      generalize nodeOf L x = y at *
      generalize gitOf L x = z at *
      have hzy := id_sz hy
      have hsy := id_zs hy
      have hzz := id_sz hz
      have hsz := id_zs hz
      go_upto_region 15 with (first
        | (go_at_call 28; (with_reducible refine (HN1.out _ hbr).mono ?_); rintro e w3 ⟨rfl, hb3⟩; have hb3' := below_two hbr hb3)
        | ((with_reducible refine st_row 25 14 97 w3.heap.size 25 (bv y).toArray zid ?_ ?_ ?_ hzy hsy (bvArr_all y) ?_); rfl; rfl; exact Blk.new w3 25 zid; intro w4 hk4 hg4 hsz4; have hb4 := ((Below.refl w3.heap.size w3).alloc (Nat.le_refl _) (.cells zlit 25)).grown hg4 (by simp) (fun k hk => by cases hk; exact Nat.le_refl _); have hb4' := below_two hb3' hb4; clear hsz4; have l2 := HLX.out w4 hb4')
        | (go_at_call 47; (with_reducible refine (HG1.out _ hb4').mono ?_); rintro e w5 ⟨rfl, hb5⟩; have hb5' := below_two hb4' hb5)
        | ((with_reducible refine st_row 25 16 103 w5.heap.size 25 (bv z).toArray zid ?_ ?_ ?_ hzz hsz (bvArr_all z) ?_); rfl; rfl; exact Blk.new w5 25 zid; intro w6 hk6 hg6 hsz6; have hb6 := ((Below.refl w5.heap.size w5).alloc (Nat.le_refl _) (.cells zlit 25)).grown hg6 (by simp) (fun k hk => by cases hk; exact Nat.le_refl _); have hb6' := below_two hb5' hb6; clear hsz6))
      have hk4' := ((hk4.below hb5 hk4.lt).below hb6 (hk4.below hb5 hk4.lt).lt)
      have f1 : (loadId ⟨w3.heap.size, 0, none⟩).run Try.prog w6 = .ok (ida y) w6 := run_loadId hk4'.range hy
      have f2 : (loadId ⟨w5.heap.size, 0, none⟩).run Try.prog w6 = .ok (ida z) w6 := run_loadId hk6.range hz
      have q0 := fun W => idz_eql zeroL_id W
      have qz : (zeroL == zeroL) = true := by decide
      rw [qz] at q0
      have hfin : Below w.heap.size w w6 := below_two (hb0) hb6'
      clear l1 l2 hk4 hg4 hg6 hk4' hk6 hb6 hb6' hb5 hb5' hb4 hb4' hb3 hb3' HN1 HG1 HLX hX0
      cases fa with
      | true =>
        cases fb with
        | true =>
          go_wp2
          go_ret
          exact ⟨rfl, hfin⟩
        | false =>
          obtain rfl := hz0 rfl
          go_wp2
          go_ret
          exact ⟨rfl, hfin⟩
      | false =>
        obtain rfl := hy0 rfl
        cases fb with
        | true =>
          go_wp2
          go_ret
          exact ⟨rfl, hfin⟩
        | false =>
          obtain rfl := hz0 rfl
          go_wp2
          go_ret
          exact ⟨rfl, hfin⟩
end Go.Proofs.Ytokamaogognjoaa
