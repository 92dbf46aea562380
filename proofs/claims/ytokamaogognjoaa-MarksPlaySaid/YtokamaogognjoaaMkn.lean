/-
  The law's own fresh.
-/
import Derived.Test.YtokamaogognjoaaMkl
set_option linter.unusedVariables false
set_option linter.unusedSimpArgs false
namespace Go.Proofs.Ytokamaogognjoaa
open Go.RowKit

def MfPost (r : Prs × Int) (w : World) (e : Ending) (w' : World) : Prop := ∃ v, e = .returned (.tuple #[v, .int .i64 r.2]) ∧ OPrs w' w.heap.size v r.1.length r.1 ∧ Below w.heap.size w w'
set_option maxRecDepth 100000 in
theorem clash_new {L : Prs} {p q : IdL} (hq : q ∈ L) (h : git q = git p ∨ nod q = nod p) : newP L p = false := by
  unfold newP
  rcases h with h | h
  · rw [hasG_iff.2 ⟨q, hq, h⟩]; rfl
  · rw [hasN_iff.2 ⟨q, hq, h⟩]; simp
set_option maxRecDepth 100000 in
theorem none_new {L : Prs} {p : IdL} (h : ∀ q ∈ L, git q ≠ git p ∧ nod q ≠ nod p) : newP L p = true := by
  unfold newP
  have h1 : hasG L (git p) = false := by
    cases e : hasG L (git p) with
    | false => rfl
    | true => obtain ⟨q, hq, e'⟩ := hasG_iff.1 e; exact absurd e' (h q hq).1
  have h2 : hasN L (nod p) = false := by
    cases e : hasN L (nod p) with
    | false => rfl
    | true => obtain ⟨q, hq, e'⟩ := hasN_iff.1 e; exact absurd e' (h q hq).2
  rw [h1, h2]
  rfl
set_option maxRecDepth 100000 in
theorem twL_mono {m : Prs} : ∀ {o l l' : Prs}, twL m o l = true → twL m o (l ++ l') = true
  | o, [], l', h => by simp [twL] at h
  | o, p :: r, l', h => by
    rw [List.cons_append]
    unfold twL at h ⊢
    rw [Bool.or_eq_true] at h ⊢
    rcases h with h | h
    · exact .inl h
    · exact .inr (twL_mono h)
set_option maxRecDepth 100000 in
theorem gp_mem' {L : Prs} {i : Nat} (h : i < L.length) : gp L i ∈ L := by
  have : gp L i = L[i] := by simp [gp, h]
  rw [this]
  exact List.getElem_mem h
set_option maxRecDepth 100000 in
theorem mem_gp {L : Prs} {q : IdL} (h : q ∈ L) : ∃ i, i < L.length ∧ gp L i = q := by
  obtain ⟨i, hi, e⟩ := List.getElem_of_mem h
  exact ⟨i, hi, by simp [gp, hi, e]⟩
set_option maxRecDepth 100000 in
set_option maxHeartbeats 4000000 in
theorem mfresh_any (p : Nat) (A : Option Addr) (n c : Nat) (M : Prs) (B : Option Addr) (k d : Nat) (l : Prs) (w : World) (hc : w.cell? ⟨p, 0, none⟩ = some (.slice A n c)) (hA : RPrs w A n M) (hn : n ≤ 1000000) (hB : RPrs w B k l) (hk : k ≤ 1000000) (hM : Bij M) :
    Calls Try.prog 15 #[.pointer (some ⟨p, 0, none⟩), .slice B k d] w (MfPost (freshR M l) w) := by
  have hl := hB.1
  subst hl
  have HRZ := Lib.hid (show l.any zeroP = true → freshR M l = ([], 1) from fun h => by unfold freshR; rw [if_pos h])
  have HRT := Lib.hid (show l.any zeroP = false → twL M [] l = true → freshR M l = ([], 8) from fun h h' => by unfold freshR; rw [if_neg (by rw [h]; decide), if_pos h'])
  have HRO := Lib.hid (show l.any zeroP = false → twL M [] l = false → freshR M l = (outL M [] l, 0) from fun h h' => by unfold freshR; rw [if_neg (by rw [h]; decide), if_neg (by rw [h']; decide)])
  generalize freshR M l = R at *
  unfold MfPost
  go_enter Try.func15, Try.ntmps15
  go_wp2
  go_loopw [7] (fun i wr => ∃ j : Nat, j ≤ l.length ∧ i = .int .i64 j ∧ (l.take j).any zeroP = false ∧ w = wr) (fun i _ => l.length - (intOf i).toNat)
  case atStart => exact ⟨0, by omega, rfl, rfl, rfl⟩
  case round =>
    obtain ⟨j, hj, rfl, hz, rfl⟩ := hrel
    have HZ := Lib.hid hz
    clear hz
    by_cases h1 : j < l.length
    · obtain ⟨b, o, rfl, hcells⟩ := hB.2.2 (by omega)
      have hp : IsPr (gp l j) := hB.2.1.at_ h1
      have hpg : IsId (git (gp l j)) := hp.git
      have hpn : IsId (nod (gp l j)) := hp.node
      have hrj := hcells j h1
      have r1 : (loadId ⟨b, o + j * 40, none⟩).run Try.prog w = .ok (ida (git (gp l j))) w := run_loadId (range_git hrj) hpg
      have r2 : (loadId ⟨b, o + j * 40 + 20, none⟩).run Try.prog w = .ok (ida (nod (gp l j))) w := run_loadId (range_node hrj) hpn
      have z1 := fun W => idz_eql hpg W
      have z2 := fun W => idz_eql hpn W
      have HZP := Lib.hid (show zeroP (gp l j) = ((git (gp l j) == zeroL) || (nod (gp l j) == zeroL)) from rfl)
      have HMEM := Lib.hid (gp_mem' h1)
      have HTK := Lib.hid (take_gp h1)
      have j0 : (0 : Int) ≤ (j : Int) := by omega
      have j1 : (j : Int) < (l.length : Int) := by omega
      clear hcells hrj
      generalize (git (gp l j) == zeroL) = zg at *
      generalize (nod (gp l j) == zeroL) = zn at *
      generalize gp l j = q at *
      cases zg with
      | true =>
        go_wp2
        go_ret2
        have := HRZ.out (List.any_eq_true.2 ⟨q, HMEM.out, by rw [HZP.out]; rfl⟩)
        subst this
        exact ⟨_, rfl, OPrs.nil _ _, Below.refl _ _⟩
      | false =>
        cases zn with
        | true =>
          go_wp2
          go_ret2
          have := HRZ.out (List.any_eq_true.2 ⟨q, HMEM.out, by rw [HZP.out]; rfl⟩)
          subst this
          exact ⟨_, rfl, OPrs.nil _ _, Below.refl _ _⟩
        | false =>
          go_wp2
          go_roundw
          case rel => exact ⟨j + 1, by omega, by go_num, by rw [HTK.out, List.any_append, HZ.out]; simp [HZP.out], trivial⟩
          case measure => simp [intOf]; omega
    · have HZ0 : l.any zeroP = false := by have := HZ.out; rwa [show j = l.length from by omega, List.take_length] at this
      have HRT' := Lib.hid (HRT.out HZ0)
      have HRO' := Lib.hid (HRO.out HZ0)
      clear HRT HRO HRZ HZ HZ0
      have j1 : ¬ ((j : Int) < (l.length : Int)) := by omega
      go_wp2
      go_loopw [6, 8] (fun v6 i wr => ∃ j : Nat, j ≤ l.length ∧ i = .int .i64 j ∧ twL M [] (l.take j) = false ∧ OPrs wr w.heap.size v6 (outL M [] (l.take j)).length (outL M [] (l.take j)) ∧ Below w.heap.size w wr) (fun _ i _ => l.length - (intOf i).toNat)
      case atStart => exact ⟨0, by omega, rfl, rfl, OPrs.nil _ _, Below.refl _ _⟩
      case round =>
        obtain ⟨j, hj, rfl, htw, hown, hb⟩ := hrel
        by_cases h1 : j < l.length
        · obtain ⟨b, o, rfl, hcells⟩ := hB.2.2 (by omega)
          have hp : IsPr (gp l j) := hB.2.1.at_ h1
          have hbij : Bij (M ++ outL M [] (l.take j)) := Bij.out (o := []) (by rw [List.append_nil]; exact hM) (hB.2.1.take j)
          have hol := outL_len M [] (l.take j)
          have HO : outL M [] (l.take (j + 1)) = nextL M (outL M [] (l.take j)) (gp l j) := by rw [take_gp h1, outL_snoc]
          have HT : twL M [] (l.take (j + 1)) = twP (M ++ outL M [] (l.take j)) (gp l j) := by rw [take_gp h1, twL_snoc, htw, Bool.false_or]
          have HTA : twP (M ++ outL M [] (l.take j)) (gp l j) = true → twL M [] l = true := fun h => by
            have := twL_mono (l' := l.drop (j + 1)) (HT.trans h)
            rwa [List.take_append_drop] at this
          have hol' : (outL M [] (l.take j)).length ≤ 1000000 := by simp at hol; omega
          replace HO := Lib.hid HO
          replace HT := Lib.hid HT
          replace HTA := Lib.hid HTA
          clear hol htw
          generalize outL M [] (l.take j) = out at *
          obtain ⟨A6, c6, rfl, hc6⟩ := hown.slice
          have c0 := cell_later hb hc
          have hMr := hA.below hb
          have hXr := range_aft (hcells j h1) hb
          have j0 : (0 : Int) ≤ (j : Int) := by omega
          have j1 : (j : Int) < (l.length : Int) := by omega
          clear hcells
          generalize gp l j = x at *
          go_upto_region 11 with (first
            | (at_builtin; refine wpList_appPrs rfl (.const (.slice none 0 0)) (.tmp 42) rfl wr.heap.size _ 0 [] rfl (OPrs.nil _ _) A n c M rfl hMr (by omega) (Nat.le_refl _) ?_; intro v1 w1 ho1 hg1 hat1; rw [Nat.zero_add, List.nil_append] at ho1; obtain ⟨A1, c1, rfl, hc1⟩ := ho1.slice; have hB1 := (Below.refl wr.heap.size wr).grown hg1 (Nat.le_refl _) (fun k e => by cases e))
            | (at_builtin; refine wpList_appPrs rfl (.tmp 43) (.tmp 44) rfl wr.heap.size (.slice A1 n c1) n M rfl ho1 A6 out.length c6 out rfl (hown.reads.below hB1) (by omega) hB1.size ?_; intro v2 w2 ho2 hg2 hat2; obtain ⟨A2, c2, rfl, hc2⟩ := ho2.slice; have hB2 := hB1.grown hg2 hB1.size (fun k e => (ho1.own k e).1)))
          have hX2 := range_aft hXr hB2
          have rp := run_loadPr hX2 hp
          have hown2 := hown.below hB2
          have hbw := below_two hb hB2
          by_cases hin : x ∈ M ++ out
          · have hcl := inP_any A2 (n + out.length) c2 (M ++ out) x w2 ho2.reads hp (by omega)
            rw [decide_eq_true hin] at hcl
            unfold BoolP at hcl
            have hmt := hbij.mem_tw hin
            go_wp2_with (go_at_call 40; (with_reducible refine hcl.mono ?_); rintro e w3 ⟨rfl, hb3⟩)
            go_roundw
            case rel => exact ⟨j + 1, by omega, by go_num, by rw [HT.out, hmt.2], by rw [HO.out]; unfold nextL; rw [hmt.1]; exact hown2.below hb3, below_two hbw hb3⟩
            case measure => simp [intOf]; omega
          · have hcl := inP_any A2 (n + out.length) c2 (M ++ out) x w2 ho2.reads hp (by omega)
            rw [decide_eq_false hin] at hcl
            unfold BoolP at hcl
            have hL2 := ho2.reads
            have HCL := Lib.hid (show newP (M ++ out) x = false → twL M [] l = true from fun h => HTA.out (hbij.clash_tw hin h))
            have HLN := Lib.hid (show (M ++ out).length = n + out.length from hL2.1)
            go_wp2_with (go_at_call 40; (with_reducible refine hcl.mono ?_); rintro e w3 ⟨rfl, hb3⟩)
            have hL3 := hL2.below hb3
            have hX3 := range_aft hX2 hb3
            have hown3 := hown2.below hb3
            have hbw3 := below_two hbw hb3
            clear hL2 hX2 hown2 hbw rp hcl c0 hMr hXr hown hb hB2 ho2 hin
            go_loopw [10] (fun i wr => ∃ q : Nat, q ≤ n + out.length ∧ i = .int .i64 q ∧ (∀ i, i < q → git (gp (M ++ out) i) ≠ git x ∧ nod (gp (M ++ out) i) ≠ nod x) ∧ ∃ z, w3.drewN z = wr) (fun i _ => n + out.length - (intOf i).toNat)
            case atStart => exact ⟨0, by omega, rfl, fun i hi => absurd hi (by omega), 0, rfl⟩
            case round =>
              obtain ⟨q, hq, rfl, hall, z, rfl⟩ := hrel
              have HALL := Lib.hid hall
              clear hall
              have q0 : (0 : Int) ≤ (q : Int) := by omega
              by_cases h2 : q < n + out.length
              · obtain ⟨b2, o2, rfl, hc2'⟩ := hL3.2.2 (by omega)
                have ha : IsPr (gp (M ++ out) q) := hL3.2.1.at_ (by rw [HLN.out]; exact h2)
                have hga : IsId (git (gp (M ++ out) q)) := ha.git
                have hna : IsId (nod (gp (M ++ out) q)) := ha.node
                have hgx : IsId (git x) := hp.git
                have hnx : IsId (nod x) := hp.node
                have r1 : ∀ k, (loadId ⟨b2, o2 + q * 40, none⟩).run Try.prog (w3.drewN k) = .ok (ida (git (gp (M ++ out) q))) (w3.drewN k) := fun k => run_loadId (w := w3.drewN k) (range_git (hc2' q h2)) hga
                have r2 : ∀ k, (loadId ⟨b2, o2 + q * 40 + 20, none⟩).run Try.prog (w3.drewN k) = .ok (ida (nod (gp (M ++ out) q))) (w3.drewN k) := fun k => run_loadId (w := w3.drewN k) (range_node (hc2' q h2)) hna
                have r3 : ∀ k, (loadId ⟨b, o + j * 40, none⟩).run Try.prog (w3.drewN k) = .ok (ida (git x)) (w3.drewN k) := fun k => run_loadId (w := w3.drewN k) (range_git hX3) hgx
                have r4 : ∀ k, (loadId ⟨b, o + j * 40 + 20, none⟩).run Try.prog (w3.drewN k) = .ok (ida (nod x)) (w3.drewN k) := fun k => run_loadId (w := w3.drewN k) (range_node hX3) hnx
                have e1 := fun W => ida_eql hga hgx W
                have e2 := fun W => ida_eql hna hnx W
                have q1 : (q : Int) < (n : Int) + (out.length : Int) := by omega
                have HMM := Lib.hid (gp_mem' (L := M ++ out) (i := q) (by rw [HLN.out]; exact h2))
                have HE1 := Lib.hid (show (git (gp (M ++ out) q) == git x) = true → git (gp (M ++ out) q) = git x from fun h => by simpa using h)
                have HE2 := Lib.hid (show (nod (gp (M ++ out) q) == nod x) = true → nod (gp (M ++ out) q) = nod x from fun h => by simpa using h)
                have HF1 := Lib.hid (show (git (gp (M ++ out) q) == git x) = false → ∀ i, i = q → git (gp (M ++ out) i) ≠ git x from fun h i e => by subst e; simpa using h)
                have HF2 := Lib.hid (show (nod (gp (M ++ out) q) == nod x) = false → ∀ i, i = q → nod (gp (M ++ out) i) ≠ nod x from fun h i e => by subst e; simpa using h)
                clear hc2'
                generalize (git (gp (M ++ out) q) == git x) = ge at *
                generalize (nod (gp (M ++ out) q) == nod x) = ne at *
                generalize gp (M ++ out) q = a at *
                cases ge with
                | true =>
                  have hR := HRT'.out (HCL.out (clash_new HMM.out (.inl (HE1.out rfl))))
                  subst hR
                  go_wp2
                  go_quiet (fail)
                  go_wp2
                  go_ret2
                  exact ⟨_, rfl, OPrs.nil _ _, by first | exact below_drewN hbw3 _ | exact below_drewN (below_drewN hbw3 _) _⟩
                | false =>
                  cases ne with
                  | true =>
                    have hR := HRT'.out (HCL.out (clash_new HMM.out (.inr (HE2.out rfl))))
                    subst hR
                    go_wp2
                    go_quiet (fail)
                    go_wp2
                    go_ret2
                    exact ⟨_, rfl, OPrs.nil _ _, by first | exact below_drewN hbw3 _ | exact below_drewN (below_drewN hbw3 _) _⟩
                  | false =>
                    go_wp2
                    go_quiet (fail)
                    go_wp2
                    go_roundw
                    case rel => exact ⟨q + 1, by omega, by go_num, fun i hi => by rcases Nat.lt_or_ge i q with h | h; exact HALL.out i h; exact ⟨HF1.out (by simp) i (by omega), HF2.out (by simp) i (by omega)⟩, z + nq, by simp⟩
                    case measure => simp [intOf]; omega
              · have hnew : newP (M ++ out) x = true := none_new fun y hy => by
                  obtain ⟨i, hi, rfl⟩ := mem_gp hy
                  exact HALL.out i (by rw [HLN.out] at hi; omega)
                have hntw := (Bij.new_tw hnew).2
                have q1 : ¬ ((q : Int) < (n : Int) + (out.length : Int)) := by omega
                have rpz : (loadPr ⟨b, o + j * 40, none⟩).run Try.prog (w3.drewN z) = .ok (ida x) (w3.drewN z) := run_loadPr (w := w3.drewN z) hX3 hp
                have hownz := hown3.drewN z
                have hbz := below_drewN hbw3 z
                clear hX3 hL3 hown3 hbw3
                generalize w3.drewN z = w4 at *
                go_wp2_with (at_builtin; refine wpList_appPrs rfl (.tmp 82) (.tmp 87) rfl w.heap.size (.slice A6 out.length c6) out.length out rfl (hownz.alloc _) (some ⟨w4.heap.size, 0, none⟩) 1 1 [x] rfl (RPrs.one (Blk.new w4 _ _) hp) ?c1 ?c2 ?_)
                case c1 => omega
                case c2 => have := hbz.size; simp; omega
                intro v' w5 ho5 hg5 hat5
                have hba := hbz.alloc hbz.size (.cells (bv x).toArray 27)
                have hb5 := hba.grown hg5 hba.size (fun k e => (hownz.own k e).1)
                have hnx : nextL M out x = out ++ [x] := by unfold nextL; rw [if_pos hnew]
                go_wp2
                go_roundw
                case rel => exact ⟨j + 1, by omega, by go_num, by rw [HT.out, hntw], by rw [HO.out, hnx, List.length_append]; exact ho5, hb5⟩
                case measure => simp [intOf]; omega
        · have j1 : ¬ ((j : Int) < (l.length : Int)) := by omega
          rw [show j = l.length from by omega, List.take_length] at htw hown
          have hR := HRO'.out htw
          subst hR
          go_wp2
          go_ret2
          exact ⟨_, by rfl, hown, hb⟩
end Go.Proofs.Ytokamaogognjoaa
