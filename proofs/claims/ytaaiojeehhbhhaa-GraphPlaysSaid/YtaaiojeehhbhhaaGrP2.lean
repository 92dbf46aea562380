/-
  trestleref12.Graph: Ids, Heads.
-/
import Derived.Test.YtaaiojeehhbhhaaGrP1
import Derived.Test.YtaaiojeehhbhhaaGr12
set_option linter.unusedVariables false
set_option linter.unusedSimpArgs false
namespace Go.Proofs.Ytaaiojeehhbhhaa
open Go.RowKit

theorem take_snoc_gid {L : List IdL} {j : Nat} (hj : j < L.length) : L.take (j + 1) = L.take j ++ [gid L j] := by
  rw [List.take_succ_eq_append_getElem hj]
  congr 1
  simp [gid, hj]
set_option maxRecDepth 100000 in
set_option maxHeartbeats 1000000 in
theorem rids_any (r : Nat) (G : Gph) (w : World) (h : RefRd w r G) (hG : GInv G) :
    Calls Try.prog 23 #[.pointer (some ⟨r, 0, none⟩)] w (NewIds (ids G).length (ids G) w) := by
  have hu := idTy
  have hlen := hG.len
  have HTS := Lib.hid (show ∀ j, j < G.length → (ids G).take (j + 1) = (ids G).take j ++ [(nd G j).id] from fun j hj => by rw [take_snoc_gid (by rw [ids_length]; exact hj), ids_gid hj])
  have HTA := Lib.hid (show (ids G).take G.length = ids G from List.take_of_length_le (by rw [ids_length]; exact Nat.le_refl _))
  have HIL := Lib.hid (ids_length G)
  go_enter Try.func23, Try.ntmps23
  go_wp2
  go_loopw [3, 4] (fun v i wr => ∃ j : Nat, j ≤ G.length ∧ i = .int .i64 j ∧ OIds wr w.heap.size v j ((ids G).take j) ∧ Below w.heap.size w wr) (fun _ i _ => G.length - (intOf i).toNat)
  case atStart => exact ⟨0, by omega, rfl, OIds.nil _ _, Below.refl _ _⟩
  case round =>
    obtain ⟨j, hj, rfl, ho, hB⟩ := hrel
    obtain ⟨A, c, hbk, hlc, hR⟩ := h.below hB
    have e0 : wr.cell? ⟨r, 0, none⟩ = some (.slice A G.length c) := hbk.cell 0
    by_cases h1 : j < G.length
    · obtain ⟨b, o, rfl, hc⟩ := hR.2 (by omega)
      obtain ⟨hxi, hrx, _⟩ := hc j h1
      have hld := run_loadId hrx hxi
      have HSC := Lib.hid (HTS.out j h1)
      have j0 : (0 : Int) ≤ (j : Int) := by omega
      have j1 : (j : Int) < (G.length : Int) := by omega
      clear hc hrx hbk hR
      generalize (nd G j).id = x at *
      generalize (ids G).take j = ys at *
      obtain ⟨Av, cv, rfl, hcv⟩ := ho.slice
      have hzz := hB.size
      have hB1 := hB.alloc hzz (.cells (bv x).toArray 27)
      go_wp2_with (at_builtin; refine wpList_appIds rfl (.tmp 14) (.tmp 23) rfl w.heap.size (.slice Av j cv) j ys rfl (ho.alloc (.cells (bv x).toArray 27)) (some ⟨wr.heap.size, 0, none⟩) 1 1 [x] rfl (RIds.one (Blk.new wr _ _) hxi) (by omega) hB1.size ?_; intro v7 w7 ho7 hg7 hat7; have hB7 := hB1.grown hg7 hB1.size (fun k hk => (ho.own k hk).1))
      go_roundw
      case rel => exact ⟨j + 1, by omega, by go_num, by rw [HSC.out]; simpa using ho7, hB7⟩
      case measure => simp [intOf]; omega
    · obtain rfl : j = G.length := by omega
      go_wp2
      go_ret
      rw [HTA.out] at ho
      rw [HIL.out]
      exact NewIds.of ho hB
def parTo (G : Gph) (m : Nat) (x : IdL) : Bool := (G.take m).any fun n => decide (x ∈ n.ps)
theorem parTo_all (G : Gph) (x : IdL) : parTo G G.length x = parB G x := by unfold parTo parB; rw [List.take_length]
theorem parTo_succ {G : Gph} {m : Nat} (hm : m < G.length) (x : IdL) : parTo G (m + 1) x = (parTo G m x || decide (x ∈ (nd G m).ps)) := by
  unfold parTo
  rw [List.take_succ_eq_append_getElem hm, List.any_append]
  have e : G[m] = nd G m := by simp [nd, hm]
  rw [e]
  simp
set_option maxRecDepth 100000 in
set_option maxHeartbeats 4000000 in
theorem rheads_any (r : Nat) (G : Gph) (w : World) (h : RefRd w r G) (hG : GInv G) (hps : ∀ j, j < G.length → (nd G j).ps.length ≤ 1000000) :
    Calls Try.prog 24 #[.pointer (some ⟨r, 0, none⟩)] w (NewIds (headsG G).length (headsG G) w) := by
  have hu := idTy
  have hlen := hG.len
  have HPS := Lib.hid hps
  have HIL := Lib.hid (ids_length G)
  clear hps
  go_enter Try.func24, Try.ntmps24
  go_wp2
  go_loopw [3, 4] (fun v i wr => ∃ (j m : Nat), j ≤ G.length ∧ i = .int .i64 j ∧ OIds wr w.heap.size v m (headTo G j) ∧ Below w.heap.size w wr) (fun _ i _ => G.length - (intOf i).toNat)
  case atStart => exact ⟨0, 0, by omega, rfl, OIds.nil _ _, Below.refl _ _⟩
  case round =>
    obtain ⟨j, m, hj, rfl, ho, hB⟩ := hrel
    have hml : m ≤ j := by rw [← ho.2.2]; exact headTo_le G j
    obtain ⟨A, c, hbk, hlc, hR⟩ := h.below hB
    have e0 : wr.cell? ⟨r, 0, none⟩ = some (.slice A G.length c) := hbk.cell 0
    by_cases h1 : j < G.length
    · obtain ⟨b, o, rfl, hc⟩ := hR.2 (by omega)
      obtain ⟨hxi, hrx, _⟩ := hc j h1
      have HHS := Lib.hid (show headTo G (j + 1) = headTo G j ++ (if !parB G (nd G j).id then [(nd G j).id] else []) from by rw [← ids_gid h1]; exact headTo_succ G j (by rw [ids_length]; exact h1))
      have j0 : (0 : Int) ≤ (j : Int) := by omega
      have j1 : (j : Int) < (G.length : Int) := by omega
      have HCE := Lib.hid hc
      have HRX := Lib.hid hrx
      have HPT := Lib.hid (show ∀ m, m < G.length → parTo G (m + 1) (nd G j).id = (parTo G m (nd G j).id || decide ((nd G j).id ∈ (nd G m).ps)) from fun m hm => parTo_succ hm _)
      have HPA := Lib.hid (parTo_all G (nd G j).id)
      have hsz := idSz hxi
      clear hc hrx hR
      have HBD := Lib.hid (show ∀ W, Below wr.heap.size wr W → Below wr.heap.size wr W.drew from fun W hW => below_drewN hW 1)
      go_wp2
      go_loopw [5, 6] (fun v i wx => ∃ q : Nat, q ≤ G.length ∧ i = .int .i64 q ∧ v = .bool (parTo G q (nd G j).id) ∧ Below wr.heap.size wr wx) (fun _ i _ => G.length - (intOf i).toNat)
      case atStart => exact ⟨0, by omega, rfl, rfl, Below.refl _ _⟩
      case round =>
        obtain ⟨q, hq, rfl, rfl, hb⟩ := hrel
        have e1 := cell_later hb e0
        have hBq := below_then hB hB.size hb
        by_cases h2 : q < G.length
        · obtain ⟨_, _, B, cb, hcell, hkc, hpsq⟩ := HCE.out q h2
          have hbd := HBD.out _ hb
          have e1d : wr.drew.cell? ⟨r, 0, none⟩ = some (.slice (some ⟨b, o, none⟩) G.length c) := e1
          have c1d : wr.drew.cell? ⟨b, o + q * 21 + 20, none⟩ = some (.slice B (nd G q).ps.length cb) := cell_later hbd hcell
          have r1 : (loadId ⟨b, o + j * 21, none⟩).run Try.prog wr.drew = .ok (ida (nd G j).id) wr.drew := run_loadId (fun i v hv => cell_later hbd (HRX.out i v hv)) hxi
          have HIN := Lib.hid (in_any B (nd G q).ps.length cb (nd G q).ps (nd G j).id wr.drew (hpsq.below hbd) hxi (by have := HPS.out q h2; omega))
          have q0 : (0 : Int) ≤ (q : Int) := by omega
          have q1 : (q : Int) < (G.length : Int) := by omega
          have HPQ := Lib.hid (HPT.out q h2)
          clear hcell hkc hpsq
          cases hp : parTo G q (nd G j).id with
          | true =>
            have HP := Lib.hid hp
            clear hp
            go_wp2
            go_quiet (fail)
            go_wp2
            go_roundw
            case rel => exact ⟨q + 1, by omega, by go_num, by rw [HPQ.out, HP.out]; rfl, below_drewN hb _⟩
            case measure => simp [intOf]; omega
          | false =>
            have HP := Lib.hid hp
            clear hp
            go_wp2
            refine still_tail 18 (by kernel_rfl) (by kernel_rfl) ?_
            simp only [List.take_succ_cons, List.take_zero, List.drop_succ_cons, List.drop_zero]
            repeat still_step
            refine wpStill_nil ?_
            go_wp2_with (go_at_call 29; (with_reducible refine HIN.out.mono ?_); rintro e w5 ⟨rfl, hb5⟩)
            go_roundw
            case rel => exact ⟨q + 1, by omega, by go_num, by rw [HPQ.out, HP.out]; rfl, below_then hbd hbd.size hb5⟩
            case measure => simp [intOf]; omega
        · obtain rfl : q = G.length := by omega
          have hpa := HPA.out
          rw [hpa]
          have ho1 := ho.below hb
          have hld := run_loadId (w := wr) (fun i v hv => cell_later hb (HRX.out i v hv)) hxi
          clear hpa
          generalize (nd G j).id = x at *
          generalize headTo G j = ys at *
          obtain ⟨Av, cv, rfl, hcv⟩ := ho1.slice
          have hB1 := hBq.alloc hBq.size (.cells (bv x).toArray 27)
          cases hpb : parB G x with
          | true =>
            have HPB := Lib.hid hpb
            clear hpb
            go_wp2
            go_roundw
            case rel => exact ⟨j + 1, m, by omega, by go_num, by rw [HHS.out, HPB.out]; simpa using ho1, hBq⟩
            case measure => simp [intOf]; omega
          | false =>
            have HPB := Lib.hid hpb
            clear hpb
            go_wp2_with (at_builtin; refine wpList_appIds rfl (.tmp 47) (.tmp 56) rfl w.heap.size (.slice Av m cv) m ys rfl (ho1.alloc (.cells (bv x).toArray 27)) (some ⟨wr.heap.size, 0, none⟩) 1 1 [x] rfl (RIds.one (Blk.new wr _ _) hxi) (by omega) hB1.size ?_; intro v7 w7 ho7 hg7 hat7; have hB7 := hB1.grown hg7 hB1.size (fun k hk => (ho1.own k hk).1))
            go_roundw
            case rel => exact ⟨j + 1, m + 1, by omega, by go_num, by rw [HHS.out, HPB.out]; simpa using ho7, hB7⟩
            case measure => simp [intOf]; omega
    · obtain rfl : j = G.length := by omega
      go_wp2
      go_ret
      have hta := headTo_all G
      rw [HIL.out] at hta
      rw [hta] at ho
      rw [ho.2.2]
      exact NewIds.of ho hB
end Go.Proofs.Ytaaiojeehhbhhaa
