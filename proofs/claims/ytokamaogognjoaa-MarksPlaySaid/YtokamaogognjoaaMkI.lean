/-
  Tapes that hold just a table's frames; awake; the laws' own pairs.
-/
import Derived.Test.YtokamaogognjoaaMkH
set_option linter.unusedVariables false
set_option linter.unusedSimpArgs false
namespace Go.Proofs.Ytokamaogognjoaa
section
open Go.RowKit

/-- a tape that holds the frames, and no more. -/
def Tp.clean (ls : List Prs) (room : Int) (falls : Nat) : Tp := ⟨frL ls, (frL ls).length, room, 0, falls, false⟩
set_option maxRecDepth 100000 in
theorem clean_new (r : Int) : Tp.new.setRoom r = Tp.clean [] (min (max r 0) 16777216) 0 := rfl
set_option maxRecDepth 100000 in
theorem clean_opened (ls : List Prs) (r : Int) (f : Nat) : (Tp.clean ls r f).opened (frL ls) = Tp.clean ls r f := rfl
set_option maxRecDepth 100000 in
theorem Tp.ok_new (r : Int) : (Tp.new.setRoom r).Ok 0 := ⟨Byts.nil, Nat.le_refl _, by simp [Tp.setRoom]; omega, by simp [Tp.setRoom]; omega, Int.le_refl _, by simp [Tp.setRoom, Tp.new], Nat.le_refl _, Nat.le_refl _⟩
set_option maxRecDepth 100000 in
theorem frL_byts : ∀ {ls : List Prs}, (∀ l ∈ ls, AllPr l) → Byts (frL ls)
  | [], _ => Byts.nil
  | l :: r, h => by
    have e : frL (l :: r) = packL 1 l.flatten ++ frL r := by simp [frL]
    rw [e]
    refine (packL_bytsB fun z hz => ?_).append (frL_byts fun l hl => h l (by simp [hl]))
    obtain ⟨p, hp, hzp⟩ := List.mem_flatten.1 hz
    exact (h l (by simp) p hp).2 z hzp
set_option maxRecDepth 100000 in
theorem GoodL.allPr {ls : List Prs} (h : GoodL ls) : ∀ l ∈ ls, AllPr l := fun l hl => by
  obtain ⟨j, hj, rfl⟩ := List.getElem_of_mem hl
  have := (h j hj).all
  simpa [hj] using this
set_option maxRecDepth 100000 in
theorem clean_ok {ls : List Prs} {r : Int} {f : Nat} (h : GoodL ls) (h0 : 0 ≤ r) (h1 : r ≤ 16777216) (hl : (frL ls).length ≤ 200000000) (hf : f ≤ 200000000) : (Tp.clean ls r f).Ok 300000000 :=
  ⟨frL_byts h.allPr, Nat.le_refl _, h0, h1, Int.le_refl _, by simp [Tp.clean], by simp only [Tp.clean]; omega, by simp only [Tp.clean]; omega⟩
set_option maxRecDepth 100000 in
theorem upV_clean (ls : List Prs) (r : Int) (f : Nat) : upV f (Tp.clean ls r f) = 0 := by simp [upV, Tp.clean]
set_option maxRecDepth 100000 in
theorem addR_none {L : Prs} {ls : List Prs} {r : Int} {f : Nat} {l : Prs} (h : (freshR L l).2 ≠ 0 ∨ (freshR L l).1 = []) : addR f L (Tp.clean ls r f) l = ((freshR L l).2, L, Tp.clean ls r f) := by
  unfold addR
  rw [if_neg (by rw [upV_clean]; decide), if_pos h]
set_option maxRecDepth 100000 in
theorem addR_full {L : Prs} {ls : List Prs} {r : Int} {f : Nat} {l : Prs} (h : (freshR L l).2 = 0) (h' : (freshR L l).1 ≠ []) (hr : r < (frL ls).length + (packL 1 (freshR L l).1.flatten).length) : addR f L (Tp.clean ls r f) l = (14, L, Tp.clean ls r f) := by
  have hp : 0 < (packL 1 (freshR L l).1.flatten).length := by rw [packL_length]; omega
  have hw : (Tp.clean ls r f).write (packL 1 (freshR L l).1.flatten) = (14, Tp.clean ls r f) := by
    unfold Tp.write Tp.deed Tp.clean
    simp only []
    have hc : (if 0 < (packL 1 (freshR L l).1.flatten).length ∧ r - ((frL ls).length : Int) < ((packL 1 (freshR L l).1.flatten).length : Int) then (14 : Int) else 0) = 14 := if_pos ⟨hp, by omega⟩
    rw [hc]
    rfl
  unfold addR
  rw [if_neg (by rw [upV_clean]; decide), if_neg (by rintro (h0 | h0); exact h0 h; exact h' h0), hw]
  rfl
set_option maxRecDepth 100000 in
theorem addR_ok {L : Prs} {ls : List Prs} {r : Int} {f : Nat} {l : Prs} (h : (freshR L l).2 = 0) (h' : (freshR L l).1 ≠ []) (hr : (frL ls).length + (packL 1 (freshR L l).1.flatten).length ≤ r) : addR f L (Tp.clean ls r f) l = (0, L ++ (freshR L l).1, Tp.clean (ls ++ [(freshR L l).1]) r f) := by
  have e : frL (ls ++ [(freshR L l).1]) = frL ls ++ packL 1 (freshR L l).1.flatten := by rw [frL_append, frL_one]
  have hw : (Tp.clean ls r f).write (packL 1 (freshR L l).1.flatten) = (0, ⟨frL ls ++ packL 1 (freshR L l).1.flatten, (frL ls).length, r, 0, f, false⟩) := by
    unfold Tp.write Tp.deed Tp.clean
    simp only []
    have hc : (if 0 < (packL 1 (freshR L l).1.flatten).length ∧ r - ((frL ls).length : Int) < ((packL 1 (freshR L l).1.flatten).length : Int) then (14 : Int) else 0) = 0 := if_neg (by rintro ⟨_, h2⟩; omega)
    rw [hc]
    rfl
  have hh : Tp.hold ⟨frL ls ++ packL 1 (freshR L l).1.flatten, (frL ls).length, r, 0, f, false⟩ = (0, Tp.clean (ls ++ [(freshR L l).1]) r f) := by
    unfold Tp.hold Tp.deed Tp.clean
    rw [e]
    rfl
  unfold addR
  rw [if_neg (by rw [upV_clean]; decide), if_neg (by rintro (h0 | h0); exact h0 h; exact h' h0), hw]
  simp only []
  rw [hh]
  rfl

/-! ### constants -/
def idc (a b : Int) : IdL := a :: b :: List.replicate 18 0
set_option maxRecDepth 100000 in
theorem idc_id {a b : Int} (ha : 0 ≤ a ∧ a ≤ 255) (hb : 0 ≤ b ∧ b ≤ 255) : IsId (idc a b) := ⟨rfl, Byts.cons ha.1 ha.2 (Byts.cons hb.1 hb.2 (Byts.rep (by omega) (by omega) 18))⟩
noncomputable def bldId (parts : Array (Nat × Value)) : Sem Value := Instr.build 25 parts
set_option maxRecDepth 100000 in
@[go_sem ↓ high] theorem build_id (parts : Array (Nat × Value)) : Instr.build 25 parts = bldId parts := rfl
set_option maxRecDepth 100000 in
@[go_sem] theorem run_bldId0 (w : World) : (bldId #[]).run Try.prog w = .ok (.agg zlit) w := by kernel_rfl
set_option maxRecDepth 100000 in
@[go_sem] theorem run_bldId1 (w : World) (a : Int) : (bldId #[(0, .int .u8 a)]).run Try.prog w = .ok (ida (idc a 0)) w := by kernel_rfl
set_option maxRecDepth 100000 in
@[go_sem] theorem run_bldId2 (w : World) (a b : Int) : (bldId #[(0, .int .u8 a), (1, .int .u8 b)]).run Try.prog w = .ok (ida (idc a b)) w := by kernel_rfl
def prc (a b : Int) : IdL := idc a 0 ++ idc b 0
set_option maxRecDepth 100000 in
theorem prc_pr {a b : Int} (ha : 0 ≤ a ∧ a ≤ 255) (hb : 0 ≤ b ∧ b ≤ 255) : IsPr (prc a b) := IsPr.mk (idc_id ha (by omega)) (idc_id hb (by omega))
end
section
open Go.RowKit

set_option maxRecDepth 100000 in
theorem takeR_nil : (takeR []).err ≠ 0 := by decide
set_option maxRecDepth 100000 in
/-- a tape made, and a table opened on it. -/
theorem open_new (r : Int) (gt : Nat) (Q : Nat → Prop) (w : World) (ht : TpAt w Q gt (Tp.new.setRoom r)) : Calls Try.prog 8 #[.pointer (some ⟨gt, 0, none⟩)] w (OpenPost Q gt [] (Tp.clean [] (min (max r 0) 16777216) 0) (Tp.clean [] (min (max r 0) 16777216) 0) w) := by
  rw [clean_new] at ht
  exact open_any gt _ Q [] [] w ht ((Tp.ok_new r).mono (by omega)) rfl rfl rfl GoodL.nil (by simp) takeR_nil
abbrev p12 : IdL := prc 1 2
set_option maxRecDepth 100000 in
theorem p12_pr : IsPr p12 := prc_pr (by omega) (by omega)
set_option maxRecDepth 100000 in
theorem fresh12 : freshR [] [p12] = ([p12], 0) := by decide +kernel
set_option maxRecDepth 100000 in
theorem node12 : nodeOf [p12] (idc 1 0) = idc 2 0 := by decide +kernel
set_option maxRecDepth 100000 in
theorem has12 : hasG [p12] (idc 1 0) = true := by decide +kernel
set_option maxRecDepth 100000 in
theorem id_sz {xs : List Int} (h : IsId xs) : (Try.prog.info? 25).map (·.size) = some (bv xs).toArray.size := by rw [bvArr_size, h.1]; exact idSize
set_option maxRecDepth 100000 in
theorem id_zs {xs : List Int} (h : IsId xs) : zid.size = (bv xs).toArray.size := by rw [bvArr_size, h.1]; rfl
set_option maxRecDepth 100000 in
theorem pack_len1 {l : Prs} (hl : AllPr l) : (packL 1 l.flatten).length = 14 + l.length * 40 := by rw [packL_length, flatP_len hl]
set_option maxRecDepth 100000 in
set_option maxHeartbeats 4000000 in
theorem awake26_any (w : World) : Calls Try.prog 9 #[] w (BoolP true w) := by
  have hp := p12_pr
  have hid1 : IsId (idc 1 0) := idc_id (by omega) (by omega)
  have hid2 : IsId (idc 2 0) := idc_id (by omega) (by omega)
  have hb12 : ∀ W, (bldPr #[(0, .agg (bv (idc 1 0)).toArray), (1, .agg (bv (idc 2 0)).toArray)]).run Try.prog W = .ok (ida p12) W := fun W => run_bldPr W _ _ hid1 hid2
  have HO := Lib.hid (show ∀ (W : World) (gt : Nat) (Q : Nat → Prop), TpAt W Q gt (Tp.new.setRoom 1000) → Calls Try.prog 8 #[.pointer (some ⟨gt, 0, none⟩)] W (OpenPost Q gt [] (Tp.clean [] 1000 0) (Tp.clean [] 1000 0) W) from fun W gt Q h => open_new 1000 gt Q W h)
  have HAD := Lib.hid (show ∀ (W : World) (g gt : Nat) (R : Nat → Prop), Tm W R g gt 0 [] (Tp.clean [] 1000 0) → Calls Try.prog 10 #[.pointer (some ⟨g, 0, none⟩), .slice (some ⟨W.heap.size, 0, none⟩) 1 1] (W.alloc (.cells (bv p12).toArray 27)) (TmPost (0, [p12], Tp.clean [[p12]] 1000 0) R g gt 0 (W.alloc (.cells (bv p12).toArray 27))) from fun W g gt R h => by
    have := tadd_any R g gt 0 [] (Tp.clean [] 1000 0) (some ⟨W.heap.size, 0, none⟩) 1 1 [p12] (W.alloc (.cells (bv p12).toArray 27)) (h.below ((Below.refl _ _).alloc (Nat.le_refl _) _)) (clean_ok GoodL.nil (by omega) (by omega) (by simp [frL]) (by omega)) (RPrs.one (Blk.new W _ _) hp) (by simp)
    rw [addR_ok (by rw [fresh12]) (by rw [fresh12]; simp) (by rw [fresh12, pack_len1 (AllPr.one hp)]; simp [frL]), fresh12] at this
    exact this)
  have HN := Lib.hid (show ∀ (W : World) (g gt : Nat) (R : Nat → Prop) (s : Tp), Tm W R g gt 0 [p12] s → Calls Try.prog 28 #[.pointer (some ⟨g, 0, none⟩), ida (idc 1 0)] W (IdB (idc 2 0) true W) from fun W g gt R s h => by
    obtain ⟨P, Q, h1, _⟩ := h
    have := tnode_any P g gt 0 [p12] (idc 1 0) W h1 hid1
    rwa [node12, has12] at this)
  have HP := Lib.hid (show ∀ (W : World) (g gt : Nat) (R : Nat → Prop) (s : Tp), Tm W R g gt 0 [p12] s → Calls Try.prog 13 #[.pointer (some ⟨g, 0, none⟩)] W (NewPrs 1 [p12] W) from fun W g gt R s h => by
    obtain ⟨P, Q, h1, _⟩ := h
    exact tbPairs_any P g gt 0 [p12] W h1 (by simp))
  have heq : ∀ W, (binOp .eql 25 (ida (idc 2 0)) (ida (idc 2 0))).run Try.prog W = .ok (.bool true) W := fun W => by have := ida_eql hid2 hid2 W; rwa [beq_self_eq_true] at this
  have hz2 := id_sz hid2
  have hs2 := id_zs hid2
  generalize p12 = p at *
  unfold OpenPost at HO
  unfold TmPost at HAD
  unfold IdB at HN
  unfold NewPrs at HP
  simp only at HAD
  go_enter Try.func9, Try.ntmps9
  go_wp2_with (first
    | (go_at_call 7; (with_reducible refine (tpNew_any 1000 _).mono ?_); rintro e w1 ⟨gt, rfl, hz1, ht1, hb1⟩)
    | (go_at_call 8; (with_reducible refine (HO.out _ _ _ ht1).mono ?_); rintro e w2 ⟨g, rfl, hz2', t2, c2⟩; have b2 := c2.toBelow hb1 hb1.size (fun k e => by omega))
    | (go_at_call 10; (with_reducible refine (HAD.out _ _ _ _ t2).mono ?_); rintro e w3 ⟨rfl, t3, c3⟩)
    | (go_at_call 28; (with_reducible refine (HN.out _ _ _ _ _ t3).mono ?_); rintro e w4 ⟨rfl, hb4⟩; have t4 := t3.below hb4)
    | ((with_reducible refine st_row 25 3 29 w4.heap.size 25 (bv (idc 2 0)).toArray zid ?_ ?_ ?_ hz2 hs2 (bvArr_all (idc 2 0)) ?_); rfl; rfl; exact Blk.new w4 25 zid; intro w5 hk5 hg5 hsz5; have hb5 := ((Below.refl w4.heap.size w4).alloc (Nat.le_refl _) (.cells zlit 25)).grown hg5 (by simp) (fun k hk => by cases hk; exact Nat.le_refl _); have l5 := run_loadId hk5.range hid2; have t5 := t4.below hb5)
    | (go_at_call 13; (with_reducible refine (HP.out _ _ _ _ _ t5).mono ?_); rintro e w6 ⟨A6, c6, rfl, ho6, hc6, hb6⟩))
  go_ret
  have hz := hb1.size
  have b3 := b2.alloc b2.size (.cells (bv p).toArray 27)
  have b3' := c3.toBelow b3 b3.size (fun k hk => by rcases hk with hk | hk | hk <;> omega)
  exact ⟨rfl, below_two (below_two (below_two b3' hb4) hb5) hb6⟩
end
section
open Go.RowKit

def qi (i : Nat) : IdL := idc 1 i ++ idc 2 i
def lst (k : Nat) : Prs := (List.range k).map qi
set_option maxRecDepth 100000 in
theorem lst_succ (k : Nat) : lst (k + 1) = lst k ++ [qi k] := by simp [lst, List.range_succ]
set_option maxRecDepth 100000 in
theorem lst_len (k : Nat) : (lst k).length = k := by simp [lst]
set_option maxRecDepth 100000 in
theorem gp_lst {j k : Nat} (h : j < k) : gp (lst k) j = qi j := by simp [gp, lst, h]
set_option maxRecDepth 100000 in
theorem qi_pr {i : Nat} (h : i ≤ 255) : IsPr (qi i) := IsPr.mk (idc_id (by omega) (by omega)) (idc_id (by omega) (by omega))
set_option maxRecDepth 100000 in
theorem lst_mem {k : Nat} {p : IdL} : p ∈ lst k ↔ ∃ j, j < k ∧ p = qi j := by
  simp only [lst, List.mem_map, List.mem_range]
  exact ⟨fun ⟨a, b, c⟩ => ⟨a, b, c.symm⟩, fun ⟨a, b, c⟩ => ⟨a, b, c.symm⟩⟩
set_option maxRecDepth 100000 in
theorem lst_all {k : Nat} (h : k ≤ 256) : AllPr (lst k) := fun p hp => by
  obtain ⟨j, hj, rfl⟩ := lst_mem.1 hp
  exact qi_pr (by omega)
set_option maxRecDepth 100000 in
theorem git_qi (i : Nat) : git (qi i) = idc 1 i := by unfold git qi; exact List.take_left' rfl
set_option maxRecDepth 100000 in
theorem nod_qi (i : Nat) : nod (qi i) = idc 2 i := by unfold nod qi; exact List.drop_left' rfl
set_option maxRecDepth 100000 in
theorem idc_inj {a b b' : Int} (h : idc a b = idc a b') : b = b' := by
  unfold idc at h
  injection h with _ h
  injection h
set_option maxRecDepth 100000 in
theorem new_qi (k : Nat) : newP (lst k) (qi k) = true := by
  unfold newP
  have h1 : hasG (lst k) (git (qi k)) = false := by
    cases h : hasG (lst k) (git (qi k)) with
    | false => rfl
    | true =>
      obtain ⟨q, hq, e⟩ := hasG_iff.1 h
      obtain ⟨j, hj, rfl⟩ := lst_mem.1 hq
      rw [git_qi, git_qi] at e
      have := idc_inj e
      omega
  have h2 : hasN (lst k) (nod (qi k)) = false := by
    cases h : hasN (lst k) (nod (qi k)) with
    | false => rfl
    | true =>
      obtain ⟨q, hq, e⟩ := hasN_iff.1 h
      obtain ⟨j, hj, rfl⟩ := lst_mem.1 hq
      rw [nod_qi, nod_qi] at e
      have := idc_inj e
      omega
  rw [h1, h2]
  rfl
set_option maxRecDepth 100000 in
theorem bij_lst : ∀ {k : Nat}, k ≤ 256 → Bij (lst k)
  | 0, _ => Bij.nil
  | k + 1, h => by rw [lst_succ]; exact (bij_lst (by omega)).add (qi_pr (by omega)) (new_qi k)
set_option maxRecDepth 100000 in
theorem zero_idc {a b : Int} (h : a ≠ 0) : (idc a b == zeroL) = false := by
  have : idc a b ≠ zeroL := fun e => by
    have e : a :: b :: List.replicate 18 0 = 0 :: List.replicate 19 0 := e
    injection e with e
    exact h e
  simpa using this
set_option maxRecDepth 100000 in
theorem zero_qi (i : Nat) : zeroP (qi i) = false := by
  unfold zeroP
  rw [git_qi, nod_qi, zero_idc (by omega), zero_idc (by omega)]
  rfl
set_option maxRecDepth 100000 in
theorem zero_lst (k : Nat) : (lst k).any zeroP = false := by
  rw [List.any_eq_false]
  intro p hp
  obtain ⟨j, hj, rfl⟩ := lst_mem.1 hp
  rw [zero_qi]
  decide
set_option maxRecDepth 100000 in
/-- nothing is new among what is there. -/
theorem old_tw {L : Prs} (h : Bij L) : ∀ {l : Prs}, (∀ p ∈ l, p ∈ L) → twL L [] l = false ∧ outL L [] l = []
  | [], _ => ⟨rfl, rfl⟩
  | p :: r, hp => by
    obtain ⟨h1, h2⟩ := h.mem_tw (hp p (by simp))
    have hn : nextL L [] p = [] := by unfold nextL; rw [List.append_nil, h1]; rfl
    have hr := old_tw h (l := r) fun q hq => hp q (by simp [hq])
    unfold twL outL
    rw [hn, List.append_nil, h2, Bool.false_or]
    exact hr
set_option maxRecDepth 100000 in
theorem fresh_old {L l : Prs} (h : Bij L) (hl : ∀ p ∈ l, p ∈ L) (hz : l.any zeroP = false) : freshR L l = ([], 0) := by
  obtain ⟨h1, h2⟩ := old_tw h hl
  unfold freshR
  rw [if_neg (by rw [hz]; decide), h1, if_neg (by decide), h2]
set_option maxRecDepth 100000 in
theorem fresh_next (n : Nat) (h : n ≤ 200) : freshR (lst n) (lst (n + 1)) = ([qi n], 0) := by
  obtain ⟨h1, h2⟩ := old_tw (bij_lst (k := n) (by omega)) (l := lst n) fun p hp => hp
  have hz := zero_lst (n + 1)
  unfold freshR
  rw [if_neg (by rw [hz]; decide), lst_succ, twL_snoc, outL_snoc, h1, h2, List.append_nil, (Bij.new_tw (new_qi n)).2]
  rw [if_neg (by decide)]
  unfold nextL
  rw [List.append_nil, new_qi]
  rfl
set_option maxRecDepth 100000 in
theorem fresh_one (n : Nat) : freshR (lst n) [qi n] = ([qi n], 0) := by
  unfold freshR
  have hz : [qi n].any zeroP = false := by simp [zero_qi]
  rw [if_neg (by rw [hz]; decide)]
  have ht : twL (lst n) [] [qi n] = false := by unfold twL twL; rw [List.append_nil, (Bij.new_tw (new_qi n)).2]; rfl
  have ho : outL (lst n) [] [qi n] = [qi n] := by unfold outL outL nextL; rw [List.append_nil, new_qi]; rfl
  rw [ht, if_neg (by decide), ho]
set_option maxRecDepth 100000 in
theorem lst_take {j k : Nat} (h : j ≤ k) : (lst k).take j = lst j := by
  unfold lst
  rw [← List.map_take, List.take_range, Nat.min_eq_left h]
set_option maxRecDepth 100000 in
theorem good_lst {k : Nat} (h0 : 0 < k) (h : k ≤ 200) : Good [] (lst k) :=
  ⟨lst_all (by omega), fun e => by have := congrArg List.length e; rw [lst_len] at this; simp at this; omega, zero_lst k, fun j hj => by
    rw [lst_len] at hj
    rw [lst_take (by omega), gp_lst hj, List.nil_append]
    exact new_qi j⟩
end
end Go.Proofs.Ytokamaogognjoaa
