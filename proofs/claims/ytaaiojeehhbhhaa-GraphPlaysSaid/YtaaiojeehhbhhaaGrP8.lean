/-
  trestleref12.Graph: Add, where nothing is added.
-/
import Derived.Test.YtaaiojeehhbhhaaGrP7
import Derived.Test.YtaaiojeehhbhhaaGrO3
set_option linter.unusedVariables false
set_option linter.unusedSimpArgs false
namespace Go.Proofs.Ytaaiojeehhbhhaa
open Go.RowKit

/-- the world behind Add's box. -/
abbrev raW (x : IdL) (w : World) : World := w.alloc (.cells (bv x).toArray 27)
theorem raW_below (x : IdL) (w : World) : Below w.heap.size w (raW x w) := (Below.refl _ _).alloc (Nat.le_refl _) _
theorem gid_has {ps : List IdL} {G : Gph} (h : ∀ i, i < ps.length → hasB G (gid ps i) = true) : ps.all (hasB G) = true := by
  rw [List.all_eq_true]
  intro p hp
  obtain ⟨i, hi, e⟩ := List.getElem_of_mem hp
  have := h i hi
  rwa [show gid ps i = p from by simp [gid, hi, e]] at this
set_option maxRecDepth 100000 in
set_option maxHeartbeats 4000000 in
theorem radd_some (r : Nat) (G : Gph) (x : IdL) (A : Option Addr) (n c : Nat) (ps was : List IdL) (w : World) (h : RefRd w r G) (hG : GInv G) (hx : IsId x) (hA : RIds w A n ps) (hn : n ≤ 1000000) (hl : look G x = some was) (hps : ∀ j, j < G.length → (nd G j).ps.length ≤ 1000000) :
    Calls Try.prog 15 #[.pointer (some ⟨r, 0, none⟩), ida x, .slice A n c] w (fun e w' => e = .returned (.int .i64 (addE G x ps)) ∧ Below w.heap.size w w') := by
  have hlen := hG.len
  have hb0 := raW_below x w
  have hbx : Blk (raW x w) w.heap.size 27 (bv x).toArray := Blk.new w _ _
  have r0 := run_loadId hbx.range hx
  have HAT := Lib.hid (at_any r G x _ (h.below hb0) hx (by omega))
  have hxm : x ∈ ids G := by
    have := look_isSome (G := G) (x := x)
    rw [hl] at this
    unfold hasB at this
    simpa using this.symm
  have hnz : x ≠ zeroL := by
    obtain ⟨j, hj, e⟩ := mem_ids hxm
    rw [← e]
    exact (hG.idok j hj).2
  have hzz : ∀ W, (binOp .eql 27 (ida x) (.agg #[.int .u8 0, .int .u8 0, .int .u8 0, .int .u8 0, .int .u8 0, .int .u8 0, .int .u8 0, .int .u8 0, .int .u8 0, .int .u8 0, .int .u8 0, .int .u8 0, .int .u8 0, .int .u8 0, .int .u8 0, .int .u8 0, .int .u8 0, .int .u8 0, .int .u8 0, .int .u8 0])).run Try.prog W = .ok (.bool false) W := fun W => by
    have := ida_eql hx zeroL_id W
    rw [show (x == zeroL) = false from by simpa using hnz] at this
    exact this
  have HXM := Lib.hid hxm
  have HE := Lib.hid (addE_some (ps := ps) hl)
  clear hnz hxm
  go_enter Try.func15, Try.ntmps15
  go_wp2_with fail
  refine HAT.out.mono ?_
  rintro e w1 ⟨k, hk, rfl, hb1⟩
  have hB1 := below_then hb0 hb0.size hb1
  rcases hk with ⟨_, hno⟩ | ⟨j, hj, rfl, he⟩
  · exact absurd HXM.out hno
  have hwas : was = (nd G j).ps := by
    have := look_some hG.nd hj
    rw [he, hl] at this
    injection this
  obtain ⟨AL, cL, hbkL, hlcL, hRL⟩ := h.below hB1
  have e0 : w1.cell? ⟨r, 0, none⟩ = some (.slice AL G.length cL) := hbkL.cell 0
  obtain ⟨b, o, rfl, hc⟩ := hRL.2 (by omega)
  obtain ⟨_, _, B, cb, hcell, hkc, hpj⟩ := hc j hj
  have j0 : (0 : Int) ≤ (j : Int) := by omega
  have j1 : (j : Int) < (G.length : Int) := by omega
  have hpl := plain_any B A (nd G j).ps.length n cb c (nd G j).ps ps w1 hpj (hA.below hB1) (by have := hps j hj; omega) (by omega)
  have HPL := Lib.hid hpl
  clear hpl hc hbkL hRL
  by_cases hw : was = ps
  · have HRES := Lib.hid (show addE G x ps = 0 by rw [HE.out, if_pos hw])
    have hd : decide ((nd G j).ps = ps) = true := decide_eq_true (by rw [← hwas]; exact hw)
    rw [hd] at HPL
    have HH := Lib.hid (show ∀ i, i < n → IsId (gid ps i) ∧ hasB G (gid ps i) = true from fun i hi => by
      have hm : gid ps i ∈ (nd G j).ps := by
        rw [← hwas, hw]
        exact gid_mem (by rw [hA.1]; exact hi)
      obtain ⟨hid, a, ha, e⟩ := hG.par j hj _ hm
      refine ⟨hid, ?_⟩
      unfold hasB
      rw [← e]
      exact decide_eq_true (by rw [← ids_gid (by omega)]; exact gid_mem (by rw [ids_length]; omega)))
    clear hwas hw hd
    go_wp2_with (go_at_call 19; (with_reducible refine HPL.out.mono ?_); rintro e w2 ⟨rfl, hb2⟩)
    have hB2 := below_then hB1 hB1.size hb2
    go_loopw [8] (fun i wr => ∃ q : Nat, q ≤ n ∧ i = .int .i64 q ∧ Below w.heap.size w wr ∧ Blk wr w.heap.size 27 (bv x).toArray) (fun i _ => n - (intOf i).toNat)
    case atStart => exact ⟨0, by omega, rfl, hB2, (hbx.below hb1 hbx.lt).below hb2 (hbx.below hb1 hbx.lt).lt⟩
    case round =>
      obtain ⟨q, hq, rfl, hbq, hbkq⟩ := hrel
      by_cases h2 : q < n
      · obtain ⟨b', o', rfl, hcp⟩ := (hA.below hbq).2.2 (by omega)
        obtain ⟨hpi, hph⟩ := HH.out q h2
        have r3 := run_loadId (hcp q h2) hpi
        have hhas := rhas_any r G (gid ps q) wr (h.below hbq) hpi (by omega)
        rw [hph] at hhas
        have HAS := Lib.hid hhas
        have q0 : (0 : Int) ≤ (q : Int) := by omega
        have q1 : (q : Int) < (n : Int) := by omega
        clear hcp hhas hph
        generalize gid ps q = pp at *
        go_wp2_with (go_at_call 18; (with_reducible refine HAS.out.mono ?_); rintro e w6 ⟨rfl, hb6⟩)
        go_roundw
        case rel => exact ⟨q + 1, by omega, by go_num, below_then hbq hbq.size hb6, hbkq.below hb6 hbkq.lt⟩
        case measure => simp [intOf]; omega
      · obtain rfl : q = n := by omega
        have r4 := run_loadId hbkq.range hx
        go_wp2
        go_ret
        rw [HRES.out]
        exact ⟨rfl, hbq⟩
  · have HRES := Lib.hid (show addE G x ps = 8 by rw [HE.out, if_neg hw])
    have hd : decide ((nd G j).ps = ps) = false := decide_eq_false (by rw [← hwas]; exact hw)
    rw [hd] at HPL
    clear hwas hw hd
    go_wp2_with (go_at_call 19; (with_reducible refine HPL.out.mono ?_); rintro e w2 ⟨rfl, hb2⟩)
    go_ret
    rw [HRES.out]
    exact ⟨rfl, below_then hB1 hB1.size hb2⟩
end Go.Proofs.Ytaaiojeehhbhhaa
