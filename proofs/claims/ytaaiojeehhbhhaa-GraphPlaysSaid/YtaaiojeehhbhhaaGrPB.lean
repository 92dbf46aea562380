/-
  trestleref12.Graph: Add, an id that is not there; Add, all ways.
-/
import Derived.Test.YtaaiojeehhbhhaaGrPA
set_option linter.unusedVariables false
set_option linter.unusedSimpArgs false
namespace Go.Proofs.Ytaaiojeehhbhhaa
open Go.RowKit

/-- the load of the row of nodes, under a name. -/
def ldNs : Op := .load 38 (.tmp 54)
@[go_sem] theorem ldNs_def : ldNs = .load 38 (.tmp 54) := rfl
theorem rowSlice {w : World} {base n : Nat} {v : Value} {cs : List Value} (h : w.ownsRow base 62 21 v (n + 1) cs) : ∃ A c, v = .slice A (n + 1) c ∧ n + 1 ≤ c := by
  rcases h.2 with ⟨e1, e2⟩ | ⟨g, cap, cur, e1, _, _, hnc, _⟩
  · exact absurd e2 (by omega)
  · exact ⟨_, cap, e1, hnc⟩
def RAddP (x : Int) (Q : Nat → Prop) (r : Nat) (G : Gph) (w : World) (e : Ending) (w' : World) : Prop := e = .returned (.int .i64 x) ∧ RefAt w' (fun k => Q k ∨ w.heap.size ≤ k) r G ∧ Chg Q w w'
set_option maxRecDepth 100000 in
set_option maxHeartbeats 4000000 in
theorem radd_none (Q : Nat → Prop) (r : Nat) (G : Gph) (x : IdL) (A : Option Addr) (n c : Nat) (ps : List IdL) (w : World) (h : RefAt w Q r G) (hG : GInv G) (hx : IsId x) (hA : RIds w A n ps) (hn : n ≤ 1000000) (hap : 0 < n → ∀ ad, A = some ad → ¬ Q ad.block) (hl : look G x = none) :
    Calls Try.prog 15 #[.pointer (some ⟨r, 0, none⟩), ida x, .slice A n c] w (RAddP (addE G x ps) Q r (addG G x ps) w) := by
  classical
  have hlen := hG.len
  have hb0 := raW_below x w
  have hbx : Blk (raW x w) w.heap.size 27 (bv x).toArray := Blk.new w _ _
  have r0 := run_loadId hbx.range hx
  have HAT := Lib.hid (at_any r G x _ (h.rd.below hb0) hx (by omega))
  have HNO := Lib.hid (show x ∉ ids G from fun hm => by
    have := look_isSome (G := G) (x := x)
    rw [hl] at this
    unfold hasB at this
    rw [decide_eq_true hm] at this
    cases this)
  have hzz : ∀ W, (binOp .eql 27 (ida x) (.agg #[.int .u8 0, .int .u8 0, .int .u8 0, .int .u8 0, .int .u8 0, .int .u8 0, .int .u8 0, .int .u8 0, .int .u8 0, .int .u8 0, .int .u8 0, .int .u8 0, .int .u8 0, .int .u8 0, .int .u8 0, .int .u8 0, .int .u8 0, .int .u8 0, .int .u8 0, .int .u8 0])).run Try.prog W = .ok (.bool (x == zeroL)) W := fun W => ida_eql hx zeroL_id W
  have HE := Lib.hid (addE_none (ps := ps) hl)
  have HB := Lib.hid (show ∀ W, Below w.heap.size w W → addE G x ps ≠ 0 → RAddP (addE G x ps) Q r (addG G x ps) w (.returned (.int .i64 (addE G x ps))) W from fun W hW he => by
    rw [addG_bad he]
    exact ⟨rfl, (h.below hW).mono fun k hk => .inl hk, Chg.below hW⟩)
  go_enter Try.func15, Try.ntmps15
  go_wp2_with fail
  refine HAT.out.mono ?_
  rintro e w1 ⟨k, hk, rfl, hb1⟩
  have hB1 := below_then hb0 hb0.size hb1
  rcases hk with ⟨rfl, _⟩ | ⟨j, hj, _, he⟩
  case inr => exact absurd (by rw [← he]; exact id_mem hG hj) HNO.out
  go_wp2_with fail
  go_loopw [8] (fun i wr => ∃ q : Nat, q ≤ n ∧ i = .int .i64 q ∧ (∀ i, i < q → hasB G (gid ps i) = true) ∧ Below w.heap.size w wr ∧ Blk wr w.heap.size 27 (bv x).toArray) (fun i _ => n - (intOf i).toNat)
  case atStart => exact ⟨0, by omega, rfl, fun i hi => absurd hi (by omega), hB1, hbx.below hb1 hbx.lt⟩
  case round =>
    obtain ⟨q, hq, rfl, hall, hbq, hbkq⟩ := hrel
    have HALL := Lib.hid hall
    clear hall
    by_cases h2 : q < n
    · obtain ⟨b', o', rfl, hcp⟩ := (hA.below hbq).2.2 (by omega)
      have hpi : IsId (gid ps q) := hA.2.1.at_ (by rw [hA.1]; exact h2)
      have r3 := run_loadId (hcp q h2) hpi
      have hhas := rhas_any r G (gid ps q) wr (h.rd.below hbq) hpi (by omega)
      have q0 : (0 : Int) ≤ (q : Int) := by omega
      have q1 : (q : Int) < (n : Int) := by omega
      clear hcp
      cases hph : hasB G (gid ps q) with
      | true =>
        rw [hph] at hhas
        have HAS := Lib.hid hhas
        have HPH := Lib.hid (show ∀ i, i = q → hasB G (gid ps i) = true from fun i e => by rw [e]; exact hph)
        clear hhas hph
        generalize gid ps q = pp at *
        go_wp2_with (go_at_call 18; (with_reducible refine HAS.out.mono ?_); rintro e w6 ⟨rfl, hb6⟩)
        go_roundw
        case rel => exact ⟨q + 1, by omega, by go_num, fun i hi => by rcases Nat.lt_or_ge i q with h | h; exact HALL.out i h; exact HPH.out i (by omega), below_then hbq hbq.size hb6, hbkq.below hb6 hbkq.lt⟩
        case measure => simp [intOf]; omega
      | false =>
        rw [hph] at hhas
        have HAS := Lib.hid hhas
        have HRES := Lib.hid (show addE G x ps = 6 by
          rw [HE.out, if_pos]
          refine ⟨gid ps q, gid_mem (by rw [hA.1]; exact h2), ?_⟩
          unfold hasB at hph
          exact of_decide_eq_false hph)
        clear hhas hph
        generalize gid ps q = pp at *
        go_wp2_with (go_at_call 18; (with_reducible refine HAS.out.mono ?_); rintro e w6 ⟨rfl, hb6⟩)
        go_ret
        have := HB.out _ (below_then hbq hbq.size hb6) (by rw [HRES.out]; omega)
        rw [HRES.out] at this ⊢
        exact this
    · obtain rfl : q = n := by omega
      have r4 := run_loadId hbkq.range hx
      have hne : ¬ ∃ p ∈ ps, p ∉ ids G := fun hp => by
        have := all_has.1 hp
        rw [gid_has fun i hi => HALL.out i (by rw [← hA.1]; exact hi)] at this
        cases this
      have hE := HE.out
      rw [if_neg hne] at hE
      by_cases hz : x = zeroL
      · rw [if_pos hz] at hE
        have HRES := Lib.hid hE
        have hzb : (x == zeroL) = true := by simp [hz]
        simp only [hzb] at hzz
        clear hE hz hne hzb
        go_wp2
        go_ret
        have := HB.out _ hbq (by rw [HRES.out]; omega)
        rw [HRES.out] at this ⊢
        exact this
      · rw [if_neg hz] at hE
        have hzb : (x == zeroL) = false := by simpa using hz
        simp only [hzb] at hzz
        obtain ⟨AL, nL, cL, vs, hm⟩ := h
        have hmq := hm.below hbq
        have e0 : wr.cell? ⟨r, 0, none⟩ = some (.slice AL nL cL) := hmq.blk.cell 0
        have hnL := hm.len
        by_cases hbig : 5000 ≤ G.length
        · rw [if_pos hbig] at hE
          have hb5 : (5000 : Int) ≤ (nL : Int) := by omega
          have HRES := Lib.hid hE
          clear hE hz hne hzb
          go_wp2
          go_ret
          have := HB.out _ hbq (by rw [HRES.out]; omega)
          rw [HRES.out] at this ⊢
          exact this
        · rw [if_neg hbig] at hE
          have hb5 : ¬ (5000 : Int) ≤ (nL : Int) := by omega
          have HRES := Lib.hid hE
          have HADD := Lib.hid (addG_ok hl hE)
          have hnL5 : nL ≤ 1000000 := by omega
          clear hE hz hne hzb HB
          have s0 : wr.drew.rangeAt w.heap.size 0 (bv x) := hbkq.range
          have c0 : wr.drew.cell? ⟨r, 0, none⟩ = some (.slice AL nL cL) := e0
          have hm0 := hmq.below (drewN_below wr 1)
          have hB0 : Below w.heap.size w wr.drew := below_drewN hbq 1
          have hA0 : RIds wr.drew A q ps := hA.below hB0
          have hsz := idSz hx
          have hu := idTy
          have hown : some w.heap.size ≠ (Value.slice AL nL cL).ownBlock := fun e => absurd (hm.rowLt e.symm).1 (Nat.lt_irrefl _)
          have hrown : some r ≠ (Value.slice AL nL cL).ownBlock := fun e => (hm.rowLt e.symm).2 rfl
          have hrl : w.heap.size ≠ r := by have := hm.blk.lt; omega
          clear hmq r0 hbkq
          go_wp2
          rw [← ldNs_def]
          go_region_held3 (fun W => W.rangeAt w.heap.size 0 (bv x))
            (first | exact s8 | exact s7 | exact s6a | exact s6 | exact s0)
            (first
              | (refine step_appIds rfl (.const (.slice none 0 0)) (.tmp 57) rfl w.heap.size (.slice none 0 0) 0 [] rfl (OIds.nil _ _) A q c ps rfl hA0 (by omega) hB0.size ?_; intro v6 w6 ho6 hg6 hat6; rw [Nat.zero_add, List.nil_append] at ho6; obtain ⟨B6, c6, rfl, hc6⟩ := ho6.slice; have hg6 : wr.drew.grownBy w6 none := hg6; have hb6 : Below wr.drew.heap.size wr.drew w6 := ⟨hg6.os, hg6.tape, hg6.output, hg6.size, fun i hi => hg6.block i hi (by simp)⟩; have s6 : w6.rangeAt w.heap.size 0 (bv x) := (fun j v hj => cell_later hb6 (s0 j v hj)); have c6' := cell_later hb6 c0; have hba : Below w6.heap.size w6 (w6.alloc (.cells (nval x B6 q c6).toArray 62)) := (Below.refl _ _).alloc (Nat.le_refl _) _; have s6a : (w6.alloc (.cells (nval x B6 q c6).toArray 62)).rangeAt w.heap.size 0 (bv x) := (fun j v hj => cell_later hba (s6 j v hj)); have c6a := cell_later hba c6'; have hm6a := (hm0.below hb6).below hba; have hbN := Blk.new w6 62 (nval x B6 q c6).toArray)
              | (refine step_appNode rfl (.tmp 55) (.tmp 60) rfl 0 (.slice AL nL cL) nL ((ids G).zip vs) rfl hm6a.own w6.heap.size 1 x (.slice B6 q c6) hx rfl hbN rfl hnL5 (Nat.zero_le _) ?_; intro v7 w7 ho7 hg7 hat7; obtain ⟨A7, c7, rfl, hc7⟩ := rowSlice ho7; have hblk7 := hm6a.blk.grown hg7 hrown; have f7 := hblk7.frozen 0; have e7 : w7.cell? ⟨r, 0, none⟩ = some (.slice AL nL cL) := hblk7.cell 0; have s7 : w7.rangeAt w.heap.size 0 (bv x) := (fun j v hj => hg7.cell (s6a j v hj) hown); have s8 : (w7.setCell ⟨r, 0, none⟩ (.slice A7 (nL + 1) c7)).rangeAt w.heap.size 0 (bv x) := (fun j v hj => (cell_set_far w7 r _ _ 0 _ hrl).trans (s7 j v hj))))
          all_goals
            go_wp2
            go_ret
            rw [HRES.out, HADD.out]
            have hfin := ref_added (ps := ps) hm hx hB0 (OIds.nil _ _) hg6 ho6 hc6 hg7 ho7 hc7 hat7
            exact ⟨rfl, hfin.1, hfin.2⟩
theorem radd_any (Q : Nat → Prop) (r : Nat) (G : Gph) (x : IdL) (A : Option Addr) (n c : Nat) (ps : List IdL) (w : World) (h : RefAt w Q r G) (hG : GInv G) (hx : IsId x) (hA : RIds w A n ps) (hn : n ≤ 1000000) (hap : 0 < n → ∀ ad, A = some ad → ¬ Q ad.block) (hps : ∀ j, j < G.length → (nd G j).ps.length ≤ 1000000) :
    Calls Try.prog 15 #[.pointer (some ⟨r, 0, none⟩), ida x, .slice A n c] w (RAddP (addE G x ps) Q r (addG G x ps) w) := by
  cases hl : look G x with
  | some was =>
    refine (radd_some r G x A n c ps was w h.rd hG hx hA hn hl hps).mono fun e w1 ⟨he, hb⟩ => ?_
    rw [addG_some hl]
    exact ⟨he, (h.below hb).mono fun k hk => .inl hk, Chg.below hb⟩
  | none => exact radd_none Q r G x A n c ps w h hG hx hA hn hap hl
end Go.Proofs.Ytaaiojeehhbhhaa
