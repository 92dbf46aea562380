/-
  trestleref12.Graph: Closure, walked.
-/
import Derived.Test.YtaaiojeehhbhhaaGrP3
set_option linter.unusedVariables false
set_option linter.unusedSimpArgs false
namespace Go.Proofs.Ytaaiojeehhbhhaa
open Go.RowKit

noncomputable def closeTo (G : Gph) (S : List IdL) (j : Nat) : List IdL := ((ids G).take j).filter (reachB G S)
theorem closeTo_succ (G : Gph) (S : List IdL) (j : Nat) (hj : j < (ids G).length) : closeTo G S (j + 1) = closeTo G S j ++ (if reachB G S (gid (ids G) j) then [gid (ids G) j] else []) := by
  unfold closeTo
  rw [take_snoc_gid hj, List.filter_append]
  congr 1
  by_cases h : reachB G S (gid (ids G) j) = true
  · simp [List.filter_cons, h]
  · simp [List.filter_cons, h]
theorem closeTo_all (G : Gph) (S : List IdL) : closeTo G S (ids G).length = closeG G S := by unfold closeTo closeG; rw [List.take_length]
theorem closeTo_le (G : Gph) (S : List IdL) (j : Nat) : (closeTo G S j).length ≤ j := Nat.le_trans (List.length_filter_le _ _) (by rw [List.length_take]; omega)
set_option maxRecDepth 100000 in
set_option maxHeartbeats 4000000 in
theorem rclosure_any (r : Nat) (G : Gph) (A : Option Addr) (n c : Nat) (S : List IdL) (w : World) (h : RefRd w r G) (hG : GInv G) (hps : ∀ j, j < G.length → (nd G j).ps.length ≤ 1000000) (hA : RIds w A n S) (hn : n ≤ 1000000) :
    Calls Try.prog 25 #[.pointer (some ⟨r, 0, none⟩), .slice A n c] w (NewIds (closeG G S).length (closeG G S) w) := by
  have hu := idTy
  have hlen := hG.len
  have HPS := Lib.hid hps
  have HG := Lib.hid hG
  have HIL := Lib.hid (ids_length G)
  have hmb := make_bools w G.length (by omega)
  have hb0 : Below w.heap.size w (w.alloc (.cells (arrB G.length fun _ => false) 4)) := (Below.refl _ _).alloc (Nat.le_refl _) _
  have hbk0 := Blk.new w 4 (arrB G.length fun _ => false)
  have hm0 := Mk.init G S
  obtain ⟨AL, cL, hbkL, hlcL, hRL⟩ := h
  have e0 : w.cell? ⟨r, 0, none⟩ = some (.slice AL G.length cL) := hbkL.cell 0
  have h : RefRd w r G := ⟨AL, cL, hbkL, hlcL, hRL⟩
  have HE := Lib.hid (show ∀ W, Below w.heap.size w W → W.cell? ⟨r, 0, none⟩ = some (.slice AL G.length cL) from fun W hW => cell_later hW e0)
  have e1 := HE.out _ hb0
  have HC := Lib.hid hRL.2
  clear hps hG hRL hbkL
  go_enter Try.func25, Try.ntmps25
  go_upto_block 0 with fail
  go_cut [6] (fun i wx => ∃ f, Mk G S 0 f ∧ Blk wx w.heap.size 4 (arrB G.length f) ∧ Below w.heap.size w wx)
  case first =>
    go_wp2_with fail
    go_loopw [6] (fun i wr => ∃ (j : Nat) (f : Nat → Bool), j ≤ G.length ∧ i = .int .i64 ((j : Int) - 1) ∧ Mk G S j f ∧ Blk wr w.heap.size 4 (arrB G.length f) ∧ Below w.heap.size w wr) (fun i _ => (intOf i + 1).toNat)
    case atStart => exact ⟨G.length, _, Nat.le_refl _, by go_num, hm0, hbk0, hb0⟩
    case round =>
      obtain ⟨j, f, hj, rfl, hmk, hbk, hB⟩ := hrel
      cases j with
      | zero =>
        go_wp2
        go_meet
        exact ⟨f, hmk, hbk, hB⟩
      | succ m =>
        have im : (((m + 1 : Nat) : Int) - 1) = (m : Int) := by omega
        rw [im]
        have hj : m < G.length := hj
        obtain ⟨b, o, rfl, hc⟩ := HC.out (by omega)
        obtain ⟨hxi, hrx, B, cb, hsl, hkc, hpsm⟩ := hc m hj
        have r1 := run_loadId (w := wr) (fun i v hv => cell_later hB (hrx i v hv)) hxi
        have e2 := HE.out _ hB
        have g1 : wr.cell? ⟨w.heap.size, m, none⟩ = some (.bool (f m)) := (hbk.cell m).trans (arrB_get hj)
        have fr1 := hbk.frozen m
        have m0 : (0 : Int) ≤ (m : Int) := by omega
        have m1 : (m : Int) < (G.length : Int) := by omega
        have HMF := Lib.hid (MkIn.first hj hmk)
        have HIN := Lib.hid (in_any A n c S (nd G m).id wr (hA.below hB) hxi (by omega))
        have hks : (nd G m).ps.length ≤ 1000000 := HPS.out m hj
        clear hc hrx hmk
        cases hf : f m with
        | true =>
          rw [hf] at g1
          have hmf := HMF.out
          rw [hf, Bool.true_or] at hmf
          have HMI := Lib.hid hmf
          clear hf hmf
          go_wp2
          obtain ⟨f5, hmi, hbk5⟩ : ∃ f5, MkIn G S m 0 f5 ∧ Blk (wr.setCell ⟨w.heap.size, m, none⟩ (.bool true)) w.heap.size 4 (arrB G.length f5) := ⟨_, HMI.out, by rw [← arrB_set]; exact hbk.set_ m (.bool true)⟩
          have hB5 : Below w.heap.size w (wr.setCell ⟨w.heap.size, m, none⟩ (.bool true)) := hB.setCell (p := ⟨w.heap.size, m, none⟩) (Nat.le_refl _) _
          clear hbk hB g1 fr1 r1 e2
          go_loopw [7] (fun i wx => ∃ (q : Nat) (f' : Nat → Bool), q ≤ (nd G m).ps.length ∧ i = .int .i64 q ∧ MkIn G S m q f' ∧ (f' m = true ∨ q = 0) ∧ Blk wx w.heap.size 4 (arrB G.length f') ∧ Below w.heap.size w wx) (fun i _ => (nd G m).ps.length - (intOf i).toNat)
          case atStart => exact ⟨0, f5, Nat.zero_le _, rfl, hmi, .inr rfl, hbk5, hB5⟩
          case round =>
            obtain ⟨q, f', hq, rfl, hmq, hor, hbq, hBq⟩ := hrel
            have hsl1 := cell_later hBq hsl
            have e3 := HE.out _ hBq
            have g3 : wr.cell? ⟨w.heap.size, m, none⟩ = some (.bool (f' m)) := (hbq.cell m).trans (arrB_get hj)
            cases hfm : f' m with
            | false =>
              rw [hfm] at g3
              have hq0 : q = 0 := by
                rcases hor with h1 | h1
                · rw [hfm] at h1; cases h1
                · exact h1
              subst hq0
              have HD := Lib.hid (hmq.dark hj hfm)
              clear hor hfm
              go_wp2
              go_roundw
              case rel => exact ⟨m, f', by omega, by go_num, HD.out, hbq, hBq⟩
              case measure => simp [intOf]
            | true =>
              rw [hfm] at g3
              have HFM := Lib.hid hfm
              clear hor hfm
              by_cases h2 : q < (nd G m).ps.length
              · obtain ⟨b', o', rfl, hcp⟩ := (hpsm.below hBq).2.2 (by omega)
                have hpi : IsId (gid (nd G m).ps q) := hpsm.2.1.at_ h2
                have r3 := run_loadId (hcp q h2) hpi
                have HPIN := Lib.hid (show gid (nd G m).ps q ∈ ids G from par_in HG.out (x := (nd G m).id) (id_mem HG.out hj) (by rw [ps_at HG.out hj]; exact gid_mem h2))
                have hat := at_any r G (gid (nd G m).ps q) wr (h.below hBq) hpi (by omega)
                have HAT := Lib.hid hat
                have HNX := Lib.hid (show ∀ j, j < G.length → (nd G j).id = gid (nd G m).ps q → MkIn G S m (q + 1) (setB f' j true) from fun j h3 h4 => hmq.next HG.out hj h2 HFM.out h3 h4)
                have q0 : (0 : Int) ≤ (q : Int) := by omega
                have q1 : (q : Int) < ((nd G m).ps.length : Int) := by omega
                clear hcp hat
                generalize gid (nd G m).ps q = pp at *
                go_wp2_with (go_at_call 35; (with_reducible refine HAT.out.mono ?_); rintro e w6 ⟨k6, hk6, rfl, hb6⟩; (rcases hk6 with ⟨_, hno⟩ | ⟨j6, hj6, rfl, he6⟩; exact absurd HPIN.out hno); have hbk6 := hbq.below hb6 hbq.lt; have g6 : w6.cell? ⟨w.heap.size, j6, none⟩ = some (.bool (f' j6)) := (hbk6.cell j6).trans (arrB_get hj6); have f6 := hbk6.frozen j6; have j60 : (0 : Int) ≤ (j6 : Int) := (by omega); have j61 : (j6 : Int) < (G.length : Int) := (by omega); have hB6 := below_then hBq hBq.size hb6)
                go_roundw
                case rel => exact ⟨q + 1, setB f' j6 true, by omega, by go_num, HNX.out j6 hj6 he6, .inl (by unfold setB; split; rfl; exact HFM.out), by rw [← arrB_set]; exact hbk6.set_ j6 (.bool true), hB6.setCell (p := ⟨w.heap.size, j6, none⟩) (Nat.le_refl _) _⟩
                case measure => simp [intOf]; omega
              · have hqe : q = (nd G m).ps.length := by omega
                have HD := Lib.hid (show Mk G S m f' from MkIn.last hj (by rw [← hqe]; exact hmq))
                have hnq : ¬ ((q : Int) < ((nd G m).ps.length : Int)) := by omega
                clear hqe
                go_wp2
                go_roundw
                case rel => exact ⟨m, f', by omega, by go_num, HD.out, hbq, hBq⟩
                case measure => simp [intOf]
        | false =>
          rw [hf] at g1
          have hmf := HMF.out
          rw [hf, Bool.false_or] at hmf
          have HMI := Lib.hid hmf
          clear hf hmf
          generalize decide ((nd G m).id ∈ S) = d at *
          go_wp2_with (go_at_call 29; (with_reducible refine HIN.out.mono ?_); rintro e w4 ⟨rfl, hb4⟩; have hbk4 := hbk.below hb4 hbk.lt; have g4 : w4.cell? ⟨w.heap.size, m, none⟩ = some (.bool (f m)) := (hbk4.cell m).trans (arrB_get hj); have f4 := hbk4.frozen m)
          obtain ⟨f5, hmi, hbk5⟩ : ∃ f5, MkIn G S m 0 f5 ∧ Blk (w4.setCell ⟨w.heap.size, m, none⟩ (.bool d)) w.heap.size 4 (arrB G.length f5) := ⟨_, HMI.out, by rw [← arrB_set]; exact hbk4.set_ m (.bool d)⟩
          have hB5 : Below w.heap.size w (w4.setCell ⟨w.heap.size, m, none⟩ (.bool d)) := (below_then hB hB.size hb4).setCell (p := ⟨w.heap.size, m, none⟩) (Nat.le_refl _) _
          clear hbk hB g1 fr1 r1 e2 hbk4 g4 f4 hb4
          go_loopw [7] (fun i wx => ∃ (q : Nat) (f' : Nat → Bool), q ≤ (nd G m).ps.length ∧ i = .int .i64 q ∧ MkIn G S m q f' ∧ (f' m = true ∨ q = 0) ∧ Blk wx w.heap.size 4 (arrB G.length f') ∧ Below w.heap.size w wx) (fun i _ => (nd G m).ps.length - (intOf i).toNat)
          case atStart => exact ⟨0, f5, Nat.zero_le _, rfl, hmi, .inr rfl, hbk5, hB5⟩
          case round =>
            obtain ⟨q, f', hq, rfl, hmq, hor, hbq, hBq⟩ := hrel
            have hsl1 := cell_later hBq hsl
            have e3 := HE.out _ hBq
            have g3 : wr.cell? ⟨w.heap.size, m, none⟩ = some (.bool (f' m)) := (hbq.cell m).trans (arrB_get hj)
            cases hfm : f' m with
            | false =>
              rw [hfm] at g3
              have hq0 : q = 0 := by
                rcases hor with h1 | h1
                · rw [hfm] at h1; cases h1
                · exact h1
              subst hq0
              have HD := Lib.hid (hmq.dark hj hfm)
              clear hor hfm
              go_wp2
              go_roundw
              case rel => exact ⟨m, f', by omega, by go_num, HD.out, hbq, hBq⟩
              case measure => simp [intOf]
            | true =>
              rw [hfm] at g3
              have HFM := Lib.hid hfm
              clear hor hfm
              by_cases h2 : q < (nd G m).ps.length
              · obtain ⟨b', o', rfl, hcp⟩ := (hpsm.below hBq).2.2 (by omega)
                have hpi : IsId (gid (nd G m).ps q) := hpsm.2.1.at_ h2
                have r3 := run_loadId (hcp q h2) hpi
                have HPIN := Lib.hid (show gid (nd G m).ps q ∈ ids G from par_in HG.out (x := (nd G m).id) (id_mem HG.out hj) (by rw [ps_at HG.out hj]; exact gid_mem h2))
                have hat := at_any r G (gid (nd G m).ps q) wr (h.below hBq) hpi (by omega)
                have HAT := Lib.hid hat
                have HNX := Lib.hid (show ∀ j, j < G.length → (nd G j).id = gid (nd G m).ps q → MkIn G S m (q + 1) (setB f' j true) from fun j h3 h4 => hmq.next HG.out hj h2 HFM.out h3 h4)
                have q0 : (0 : Int) ≤ (q : Int) := by omega
                have q1 : (q : Int) < ((nd G m).ps.length : Int) := by omega
                clear hcp hat
                generalize gid (nd G m).ps q = pp at *
                go_wp2_with (go_at_call 35; (with_reducible refine HAT.out.mono ?_); rintro e w6 ⟨k6, hk6, rfl, hb6⟩; (rcases hk6 with ⟨_, hno⟩ | ⟨j6, hj6, rfl, he6⟩; exact absurd HPIN.out hno); have hbk6 := hbq.below hb6 hbq.lt; have g6 : w6.cell? ⟨w.heap.size, j6, none⟩ = some (.bool (f' j6)) := (hbk6.cell j6).trans (arrB_get hj6); have f6 := hbk6.frozen j6; have j60 : (0 : Int) ≤ (j6 : Int) := (by omega); have j61 : (j6 : Int) < (G.length : Int) := (by omega); have hB6 := below_then hBq hBq.size hb6)
                go_roundw
                case rel => exact ⟨q + 1, setB f' j6 true, by omega, by go_num, HNX.out j6 hj6 he6, .inl (by unfold setB; split; rfl; exact HFM.out), by rw [← arrB_set]; exact hbk6.set_ j6 (.bool true), hB6.setCell (p := ⟨w.heap.size, j6, none⟩) (Nat.le_refl _) _⟩
                case measure => simp [intOf]; omega
              · have hqe : q = (nd G m).ps.length := by omega
                have HD := Lib.hid (show Mk G S m f' from MkIn.last hj (by rw [← hqe]; exact hmq))
                have hnq : ¬ ((q : Int) < ((nd G m).ps.length : Int)) := by omega
                clear hqe
                go_wp2
                go_roundw
                case rel => exact ⟨m, f', by omega, by go_num, HD.out, hbq, hBq⟩
                case measure => simp [intOf]
  case rest =>
    obtain ⟨f, hmk, hbk, hB⟩ := hcut
    have HF := Lib.hid (show ∀ i, i < G.length → f i = reachB G S (nd G i).id from fun i hi => hmk.done HG.out hi)
    clear hmk
    go_wp2_with fail
    go_loopw [8, 9] (fun v i wr => ∃ (j m : Nat), j ≤ G.length ∧ i = .int .i64 j ∧ OIds wr (w.heap.size + 1) v m (closeTo G S j) ∧ Blk wr w.heap.size 4 (arrB G.length f) ∧ Below w.heap.size w wr) (fun _ i _ => G.length - (intOf i).toNat)
    case atStart => exact ⟨0, 0, by omega, rfl, OIds.nil _ _, hbk, hB⟩
    case round =>
      obtain ⟨j, m, hj, rfl, ho, hbk, hB⟩ := hrel
      have e3 := HE.out _ hB
      have hml : m ≤ j := by rw [← ho.2.2]; exact closeTo_le G S j
      by_cases h1 : j < G.length
      · obtain ⟨b, o, rfl, hc⟩ := HC.out (by omega)
        obtain ⟨hxi, hrx, _⟩ := hc j h1
        have hld := run_loadId (w := wr) (fun i v hv => cell_later hB (hrx i v hv)) hxi
        have HSC := Lib.hid (show closeTo G S (j + 1) = closeTo G S j ++ (if reachB G S (nd G j).id then [(nd G j).id] else []) from by rw [← ids_gid h1]; exact closeTo_succ G S j (by rw [ids_length]; exact h1))
        have g3 : wr.cell? ⟨w.heap.size, j, none⟩ = some (.bool (reachB G S (nd G j).id)) := by rw [← HF.out j h1]; exact (hbk.cell j).trans (arrB_get h1)
        have j0 : (0 : Int) ≤ (j : Int) := by omega
        have j1 : (j : Int) < (G.length : Int) := by omega
        have hlt := hbk.lt
        clear hc hrx
        generalize (nd G j).id = x at *
        generalize closeTo G S j = ys at *
        obtain ⟨Av, cv, rfl, hcv⟩ := ho.slice
        have hB1 := hB.alloc hB.size (.cells (bv x).toArray 27)
        have hbk1 := hbk.alloc (.cells (bv x).toArray 27)
        have hnb : some w.heap.size ≠ (Value.slice Av m cv).ownBlock := fun e => by
          have := (ho.own _ e.symm).1
          omega
        cases hr : reachB G S x with
        | true =>
          rw [hr] at g3
          have HR := Lib.hid hr
          clear hr
          go_wp2_with (at_builtin; refine wpList_appIds rfl (.tmp 92) (.tmp 101) rfl (w.heap.size + 1) (.slice Av m cv) m ys rfl (ho.alloc (.cells (bv x).toArray 27)) (some ⟨wr.heap.size, 0, none⟩) 1 1 [x] rfl (RIds.one (Blk.new wr _ _) hxi) (by omega) (by simp; omega) ?_; intro v7 w7 ho7 hg7 hat7; have hB7 := hB1.grown hg7 hB1.size (fun k hk => by have := (ho.own k hk).1; omega); have hbk7 := hbk1.grown hg7 hnb)
          go_roundw
          case rel => exact ⟨j + 1, m + 1, by omega, by go_num, by rw [HSC.out, HR.out]; simpa using ho7, hbk7, hB7⟩
          case measure => simp [intOf]; omega
        | false =>
          rw [hr] at g3
          have HR := Lib.hid hr
          clear hr
          go_wp2
          go_roundw
          case rel => exact ⟨j + 1, m, by omega, by go_num, by rw [HSC.out, HR.out]; simpa using ho, hbk, hB⟩
          case measure => simp [intOf]; omega
      · obtain rfl : j = G.length := by omega
        go_wp2
        go_ret
        have hta := closeTo_all G S
        rw [HIL.out] at hta
        rw [hta] at ho
        rw [ho.2.2]
        exact NewIds.of (ho.lower (Nat.le_succ _)) hB
end Go.Proofs.Ytaaiojeehhbhhaa
