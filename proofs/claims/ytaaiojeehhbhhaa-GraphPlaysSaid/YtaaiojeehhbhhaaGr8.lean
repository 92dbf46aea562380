/-
  graph.Missing, Closure, Comes.
-/
import Derived.Test.YtaaiojeehhbhhaaGr7
set_option linter.unusedVariables false
set_option linter.unusedSimpArgs false
namespace Go.Proofs.Ytaaiojeehhbhhaa
open Go.RowKit

noncomputable def missP (G : Gph) (L : List IdL) (keep : IdL → Bool) (x : IdL) : Bool := reachB G L x && keep x
noncomputable def missG (G : Gph) (L : List IdL) (keep : IdL → Bool) : List IdL := (ids G).filter (missP G L keep)
theorem missG_all (G : Gph) (L : List IdL) : missG G L (fun _ => true) = closeG G L := by
  unfold missG closeG
  congr 1
  funext x
  simp [missP]
noncomputable def missTo (G : Gph) (L : List IdL) (keep : IdL → Bool) (j : Nat) : List IdL := ((ids G).take j).filter (missP G L keep)
theorem missTo_succ (G : Gph) (L : List IdL) (keep : IdL → Bool) (j : Nat) (hj : j < (ids G).length) : missTo G L keep (j + 1) = missTo G L keep j ++ (if missP G L keep (gid (ids G) j) then [gid (ids G) j] else []) := by
  unfold missTo
  have e := gid_some hj
  rw [List.getElem?_eq_getElem hj] at e
  injection e with e
  rw [List.take_succ_eq_append_getElem hj, e, List.filter_append]
  congr 1
  by_cases h : missP G L keep (gid (ids G) j) = true
  · simp [List.filter_cons, h]
  · simp [List.filter_cons, h]
theorem missTo_all (G : Gph) (L : List IdL) (keep : IdL → Bool) : missTo G L keep (ids G).length = missG G L keep := by unfold missTo missG; rw [List.take_length]
theorem missTo_le (G : Gph) (L : List IdL) (keep : IdL → Bool) (j : Nat) : (missTo G L keep j).length ≤ j := Nat.le_trans (List.length_filter_le _ _) (by rw [List.length_take]; omega)
theorem closure_nil (A : Option Addr) (n c : Nat) (w : World) : Calls Try.prog 13 #[.pointer none, .slice A n c] w (NewIds 0 [] w) := by
  have hm : ∀ W, Calls Try.prog 26 #[.pointer none, .nilFunc, .slice A n c] W (NewIds 0 [] W) := fun W => by
    go_enter Try.func26, Try.ntmps26
    go_wp2
    go_ret
    exact NewIds.nil (Below.refl _ _)
  unfold NewIds at hm
  go_enter Try.func13, Try.ntmps13
  go_wp2_with (go_at_call 26; (with_reducible refine (hm _).mono ?_); rintro e w1 ⟨A1, c1, rfl, ho1, hc1, hb1⟩)
  go_ret
  exact ⟨A1, c1, rfl, ho1, hc1, hb1⟩
theorem missing_nil (A : Option Addr) (n c : Nat) (w : World) : Calls Try.prog 26 #[.pointer none, .nilFunc, .slice A n c] w (NewIds 0 [] w) := by
  go_enter Try.func26, Try.ntmps26
  go_wp2
  go_ret
  exact NewIds.nil (Below.refl _ _)
set_option maxRecDepth 100000 in
set_option maxHeartbeats 4000000 in
theorem missing_all (P : Nat → Prop) (g : Nat) (G : Gph) (A : Option Addr) (n c : Nat) (L : List IdL) (w : World) (h : GrAt w P g G) (hG : GInv G) (hA : RIds w A n L) (hn : n ≤ 1000000) (M : Nat) (hM : ∀ j, j < G.length → (nd G j).ps.length ≤ M) (hGM : G.length * (1 + M) ≤ 100000000) :
    Calls Try.prog 26 #[.pointer (some ⟨g, 0, none⟩), .nilFunc, .slice A n c] w (NewIds (missG G L (fun _ => true)).length (missG G L (fun _ => true)) w) := by
  have hfr := from_any P g G A n c L w h hG hA hn M hM hGM
  unfold FromPost at hfr
  have HFR := Lib.hid hfr
  obtain ⟨A0, n0, c0, mb, kv, hm⟩ := h
  have hn0 : n0 = (ids G).length := hm.own.2.2.symm
  have hn5 : n0 ≤ 5000 := by rw [hn0]; exact hG.nG
  have HN0 := Lib.hid hn0
  have HTS := Lib.hid (missTo_succ G L (fun _ => true))
  have HTL := Lib.hid (missTo_le G L (fun _ => true))
  have HTA := Lib.hid (missTo_all G L (fun _ => true))
  have HID := Lib.hid (show ∀ j, j < n0 → IsId (gid (ids G) j) from fun j hj => hm.own.2.1.at_ (by omega))
  have hu := idTy
  have hnf : ∀ W, (binOp .eql 46 .nilFunc .nilFunc).run Try.prog W = .ok (.bool true) W := fun W => by kernel_rfl
  clear hfr hn0 hG hM
  go_enter Try.func26, Try.ntmps26
  go_wp2_with (go_at_call 34; (with_reducible refine HFR.out.mono ?_); rintro e w1 ⟨ms, S, rfl, hms, hSR, hmz, hb1⟩; have d0 : w1.cell? ⟨g, 0, none⟩ = some (.slice A0 n0 c0) := (hm.below hb1).blk.cell 0; have HSR := Lib.hid hSR; clear hSR)
  have hzn : (0 : Int) ≤ (n0 : Int) := by omega
  go_loopw [8, 21] (fun v i wr => ∃ (j m : Nat), j ≤ n0 ∧ i = .int .i64 j ∧ OIds wr w.heap.size v m (missTo G L (fun _ => true) j) ∧ IMap wr ms (setKV S) ∧ Below w.heap.size w wr) (fun _ i _ => n0 - (intOf i).toNat)
  case atStart => exact ⟨0, 0, by omega, rfl, OIds.nil _ _, hms, hb1⟩
  case round =>
    obtain ⟨j, m, hj, rfl, ho, hmp, hB⟩ := hrel
    have hml : m ≤ j := by rw [← ho.2.2]; exact HTL.out j
    by_cases h1 : j < n0
    · have hxi := HID.out j h1
      obtain ⟨b, o, rfl, hc⟩ := (hm.below hB).own.reads.2.2 (by omega)
      have hld := run_loadId (hc j h1) hxi
      have hsc := HTS.out j (by rw [← HN0.out]; exact h1)
      have HSC := Lib.hid hsc
      have hp : missP G L (fun _ => true) (gid (ids G) j) = (decide (gid (ids G) j ∈ S) && true) := by
        unfold missP
        have e : reachB G L (gid (ids G) j) = decide (gid (ids G) j ∈ S) := by
          rw [Bool.eq_iff_iff, reachB_iff, decide_eq_true_iff, HSR.out]
        rw [e]
      have j0 : (0 : Int) ≤ (j : Int) := by omega
      have j1 : (j : Int) < (n0 : Int) := by omega
      have HP := Lib.hid hp
      clear hc hsc hp
      generalize gid (ids G) j = x at *
      generalize missTo G L (fun _ => true) j = ys at *
      obtain ⟨Av, cv, rfl, hcv⟩ := ho.slice
      have hzX : (Try.prog.info? 27).map (·.size) = some (bv x).toArray.size := by rw [bvArr_size, hxi.1]; exact idSize
      have hsX : zid.size = (bv x).toArray.size := by rw [bvArr_size, hxi.1]; rfl
      have hzz := hB.size
      have hB1 := hB.alloc hzz (.cells zid 27)
      have ho1 := ho.alloc (.cells zid 27)
      have hmp1 := hmp.alloc (.cells zid 27)
      have hnb : some wr.heap.size ≠ (Value.slice Av m cv).ownBlock := fun e => absurd (ho.own _ e.symm).2 (Nat.lt_irrefl _)
      have hnm : ms ≠ wr.heap.size := fun e => by have := hmp.lt; omega
      by_cases hxs : x ∈ S
      · have hsd : decide (x ∈ S) = true := decide_eq_true hxs
        rw [hsd] at HP
        clear hxs
        go_wp2_with (first
          | ((with_reducible refine st_row 27 10 24 wr.heap.size 27 (bv x).toArray zid ?_ ?_ ?_ hzX hsX (bvArr_all x) ?_); rfl; rfl; exact (Blk.new wr 27 zid); intro w4 hb4 hg4 hsz4; have l4 := run_loadId hb4.range hxi; have hB4 := hB1.grown hg4 hB1.size (fun k hk => by cases hk; omega); have ho4 := ho1.kept hg4 (own_ne' hnb); have hmp4 := hmp1.grown hg4 (fun e => hnm (by injection e)); have k4 := hmp4.seen hxi; rw [hsd] at k4; have hz4 : w4.heap.size = wr.heap.size + 1 := (by rw [hsz4]; simp); have hN4 : Blk (w4.alloc (.cells (bv x).toArray 27)) (wr.heap.size + 1) 27 (bv x).toArray := hz4 ▸ Blk.new w4 27 (bv x).toArray)
          | (at_builtin; refine wpList_appIds rfl (.tmp 38) (.tmp 40) rfl w.heap.size (.slice Av m cv) m ys rfl (ho4.alloc (.cells (bv x).toArray 27)) (some ⟨wr.heap.size + 1, 0, none⟩) 1 1 [x] rfl (RIds.one hN4 hxi) (by omega) (hB4.alloc hB4.size (.cells (bv x).toArray 27)).size ?_; intro v7 w7 ho7 hg7 hat7; have hmp7 := (hmp4.alloc (.cells (bv x).toArray 27)).grown hg7 (hmp4.notOwn ho4); have hB7 := (hB4.alloc hB4.size (.cells (bv x).toArray 27)).grown hg7 (hB4.alloc hB4.size (.cells (bv x).toArray 27)).size (fun k hk => (ho4.own k hk).1)))
        go_roundw
        case rel => exact ⟨j + 1, m + 1, by omega, by go_num, by rw [HSC.out, HP.out]; simpa using ho7, hmp7, hB7⟩
        case measure => simp [intOf]; omega
      · have hsd : decide (x ∈ S) = false := decide_eq_false hxs
        rw [hsd] at HP
        clear hxs
        go_wp2_with (((with_reducible refine st_row 27 10 24 wr.heap.size 27 (bv x).toArray zid ?_ ?_ ?_ hzX hsX (bvArr_all x) ?_); rfl; rfl; exact (Blk.new wr 27 zid); intro w4 hb4 hg4 hsz4; have l4 := run_loadId hb4.range hxi; have hB4 := hB1.grown hg4 hB1.size (fun k hk => by cases hk; omega); have ho4 := ho1.kept hg4 (own_ne' hnb); have hmp4 := hmp1.grown hg4 (fun e => hnm (by injection e)); have k4 := hmp4.seen hxi; rw [hsd] at k4; have hz4 : w4.heap.size = wr.heap.size + 1 := (by rw [hsz4]; simp); have hN4 : Blk (w4.alloc (.cells (bv x).toArray 27)) (wr.heap.size + 1) 27 (bv x).toArray := hz4 ▸ Blk.new w4 27 (bv x).toArray))
        go_roundw
        case rel => exact ⟨j + 1, m, by omega, by go_num, by rw [HSC.out, HP.out]; simpa using ho4, hmp4, hB4⟩
        case measure => simp [intOf]; omega
    · obtain rfl : j = n0 := by omega
      go_wp2
      go_ret
      have hta := HTA.out
      rw [← HN0.out] at hta
      rw [hta] at ho
      rw [ho.2.2]
      exact NewIds.of ho hB
set_option maxHeartbeats 1000000 in
theorem closure_any (P : Nat → Prop) (g : Nat) (G : Gph) (A : Option Addr) (n c : Nat) (L : List IdL) (w : World) (h : GrAt w P g G) (hG : GInv G) (hA : RIds w A n L) (hn : n ≤ 1000000) (M : Nat) (hM : ∀ j, j < G.length → (nd G j).ps.length ≤ M) (hGM : G.length * (1 + M) ≤ 100000000) :
    Calls Try.prog 13 #[.pointer (some ⟨g, 0, none⟩), .slice A n c] w (NewIds (closeG G L).length (closeG G L) w) := by
  have hm := missing_all P g G A n c L w h hG hA hn M hM hGM
  rw [missG_all] at hm
  unfold NewIds at hm
  have HM := Lib.hid hm
  clear hm hM hG
  go_enter Try.func13, Try.ntmps13
  go_wp2_with (go_at_call 26; (with_reducible refine HM.out.mono ?_); rintro e w1 ⟨A1, c1, rfl, ho1, hc1, hb1⟩)
  go_ret
  exact ⟨A1, c1, rfl, ho1, hc1, hb1⟩
/-- is the first byte even? -/
def evB (x : IdL) : Bool := gi x 0 % 2 == 0
theorem ev_any (x : IdL) (w : World) (hx : IsId x) : Calls Try.prog 27 #[ida x] w (fun e w' => e = .returned (.bool (evB x)) ∧ Below w.heap.size w w') := by
  have hb := (Blk.new w 27 (bv x).toArray)
  have c0 := hb.idCell 0 (by rw [hx.1]; omega)
  have hg := hx.2.gi 0
  go_enter Try.func27, Try.ntmps27
  go_wp2
  go_ret
  exact ⟨rfl, (Below.refl _ _).alloc (Nat.le_refl _) _⟩
set_option maxRecDepth 100000 in
set_option maxHeartbeats 4000000 in
theorem missing_have (P : Nat → Prop) (g : Nat) (G : Gph) (A : Option Addr) (n c : Nat) (L : List IdL) (w : World) (h : GrAt w P g G) (hG : GInv G) (hA : RIds w A n L) (hn : n ≤ 1000000) (M : Nat) (hM : ∀ j, j < G.length → (nd G j).ps.length ≤ M) (hGM : G.length * (1 + M) ≤ 100000000) :
    Calls Try.prog 26 #[.pointer (some ⟨g, 0, none⟩), .func (Fn.func 27) #[] #[], .slice A n c] w (NewIds (missG G L (fun x => !evB x)).length (missG G L (fun x => !evB x)) w) := by
  have hfr := from_any P g G A n c L w h hG hA hn M hM hGM
  unfold FromPost at hfr
  have HFR := Lib.hid hfr
  obtain ⟨A0, n0, c0, mb, kv, hm⟩ := h
  have hn0 : n0 = (ids G).length := hm.own.2.2.symm
  have hn5 : n0 ≤ 5000 := by rw [hn0]; exact hG.nG
  have HN0 := Lib.hid hn0
  have HTS := Lib.hid (missTo_succ G L (fun x => !evB x))
  have HTL := Lib.hid (missTo_le G L (fun x => !evB x))
  have HTA := Lib.hid (missTo_all G L (fun x => !evB x))
  have HID := Lib.hid (show ∀ j, j < n0 → IsId (gid (ids G) j) from fun j hj => hm.own.2.1.at_ (by omega))
  have hu := idTy
  have hnf : ∀ W, (binOp .eql 46 (.func (Fn.func 27) #[] #[]) .nilFunc).run Try.prog W = .ok (.bool false) W := fun W => by kernel_rfl
  clear hfr hn0 hG hM
  go_enter Try.func26, Try.ntmps26
  go_wp2_with (go_at_call 34; (with_reducible refine HFR.out.mono ?_); rintro e w1 ⟨ms, S, rfl, hms, hSR, hmz, hb1⟩; have d0 : w1.cell? ⟨g, 0, none⟩ = some (.slice A0 n0 c0) := (hm.below hb1).blk.cell 0; have HSR := Lib.hid hSR; clear hSR)
  have hzn : (0 : Int) ≤ (n0 : Int) := by omega
  go_loopw [8, 21] (fun v i wr => ∃ (j m : Nat), j ≤ n0 ∧ i = .int .i64 j ∧ OIds wr w.heap.size v m (missTo G L (fun x => !evB x) j) ∧ IMap wr ms (setKV S) ∧ Below w.heap.size w wr) (fun _ i _ => n0 - (intOf i).toNat)
  case atStart => exact ⟨0, 0, by omega, rfl, OIds.nil _ _, hms, hb1⟩
  case round =>
    obtain ⟨j, m, hj, rfl, ho, hmp, hB⟩ := hrel
    have hml : m ≤ j := by rw [← ho.2.2]; exact HTL.out j
    by_cases h1 : j < n0
    · have hxi := HID.out j h1
      obtain ⟨b, o, rfl, hc⟩ := (hm.below hB).own.reads.2.2 (by omega)
      have hld := run_loadId (hc j h1) hxi
      have hsc := HTS.out j (by rw [← HN0.out]; exact h1)
      have HSC := Lib.hid hsc
      have hp : missP G L (fun x => !evB x) (gid (ids G) j) = (decide (gid (ids G) j ∈ S) && !evB (gid (ids G) j)) := by
        unfold missP
        have e : reachB G L (gid (ids G) j) = decide (gid (ids G) j ∈ S) := by
          rw [Bool.eq_iff_iff, reachB_iff, decide_eq_true_iff, HSR.out]
        rw [e]
      have j0 : (0 : Int) ≤ (j : Int) := by omega
      have j1 : (j : Int) < (n0 : Int) := by omega
      have HP := Lib.hid hp
      clear hc hsc hp
      generalize gid (ids G) j = x at *
      generalize missTo G L (fun x => !evB x) j = ys at *
      obtain ⟨Av, cv, rfl, hcv⟩ := ho.slice
      have hzX : (Try.prog.info? 27).map (·.size) = some (bv x).toArray.size := by rw [bvArr_size, hxi.1]; exact idSize
      have hsX : zid.size = (bv x).toArray.size := by rw [bvArr_size, hxi.1]; rfl
      have hzz := hB.size
      have hB1 := hB.alloc hzz (.cells zid 27)
      have ho1 := ho.alloc (.cells zid 27)
      have hmp1 := hmp.alloc (.cells zid 27)
      have hnb : some wr.heap.size ≠ (Value.slice Av m cv).ownBlock := fun e => absurd (ho.own _ e.symm).2 (Nat.lt_irrefl _)
      have hnm : ms ≠ wr.heap.size := fun e => by have := hmp.lt; omega
      by_cases hxs : x ∈ S
      · have hsd : decide (x ∈ S) = true := decide_eq_true hxs
        rw [hsd] at HP
        clear hxs
        have hcl := ev_any x
        have hev : evB x = evB x := rfl
        cases he : evB x with
        | true =>
          rw [he] at HP hcl
          clear he
          go_wp2_with (first
            | ((with_reducible refine st_row 27 10 24 wr.heap.size 27 (bv x).toArray zid ?_ ?_ ?_ hzX hsX (bvArr_all x) ?_); rfl; rfl; exact (Blk.new wr 27 zid); intro w4 hb4 hg4 hsz4; have l4 := run_loadId hb4.range hxi; have hB4 := hB1.grown hg4 hB1.size (fun k hk => by cases hk; omega); have ho4 := ho1.kept hg4 (own_ne' hnb); have hmp4 := hmp1.grown hg4 (fun e => hnm (by injection e)); have k4 := hmp4.seen hxi; rw [hsd] at k4; have hz4 : w4.heap.size = wr.heap.size + 1 := (by rw [hsz4]; simp); have hN4 : Blk (w4.alloc (.cells (bv x).toArray 27)) (wr.heap.size + 1) 27 (bv x).toArray := hz4 ▸ Blk.new w4 27 (bv x).toArray)
            | (go_at_call 27; (with_reducible refine (hcl _ hxi).mono ?_); rintro e w5 ⟨rfl, hb5⟩; have hB5 := below_then hB4 hB4.size hb5; have ho5 := ho4.below hb5; have hmp5 := hmp4.later hb5))
          go_roundw
          case rel => exact ⟨j + 1, m, by omega, by go_num, by rw [HSC.out, HP.out]; simpa using ho5, hmp5, hB5⟩
          case measure => simp [intOf]; omega
        | false =>
          rw [he] at HP hcl
          clear he
          go_wp2_with (first
            | ((with_reducible refine st_row 27 10 24 wr.heap.size 27 (bv x).toArray zid ?_ ?_ ?_ hzX hsX (bvArr_all x) ?_); rfl; rfl; exact (Blk.new wr 27 zid); intro w4 hb4 hg4 hsz4; have l4 := run_loadId hb4.range hxi; have hB4 := hB1.grown hg4 hB1.size (fun k hk => by cases hk; omega); have ho4 := ho1.kept hg4 (own_ne' hnb); have hmp4 := hmp1.grown hg4 (fun e => hnm (by injection e)); have k4 := hmp4.seen hxi; rw [hsd] at k4; have hz4 : w4.heap.size = wr.heap.size + 1 := (by rw [hsz4]; simp); have hN4 : Blk (w4.alloc (.cells (bv x).toArray 27)) (wr.heap.size + 1) 27 (bv x).toArray := hz4 ▸ Blk.new w4 27 (bv x).toArray)
            | (go_at_call 27; (with_reducible refine (hcl _ hxi).mono ?_); rintro e w5 ⟨rfl, hb5⟩; have hB5 := below_then hB4 hB4.size hb5; have ho5 := ho4.below hb5; have hmp5 := hmp4.later hb5; have hb45 := hb4.below hb5 hb4.lt; have l5 := run_loadId hb45.range hxi)
            | (at_builtin; refine wpList_appIds rfl (.tmp 38) (.tmp 40) rfl w.heap.size (.slice Av m cv) m ys rfl (ho5.alloc (.cells (bv x).toArray 27)) (some ⟨w5.heap.size, 0, none⟩) 1 1 [x] rfl (RIds.one (Blk.new w5 27 (bv x).toArray) hxi) (by omega) (hB5.alloc hB5.size (.cells (bv x).toArray 27)).size ?_; intro v7 w7 ho7 hg7 hat7; have hmp7 := (hmp5.alloc (.cells (bv x).toArray 27)).grown hg7 (hmp5.notOwn ho5); have hB7 := (hB5.alloc hB5.size (.cells (bv x).toArray 27)).grown hg7 (hB5.alloc hB5.size (.cells (bv x).toArray 27)).size (fun k hk => (ho5.own k hk).1)))
          go_roundw
          case rel => exact ⟨j + 1, m + 1, by omega, by go_num, by rw [HSC.out, HP.out]; simpa using ho7, hmp7, hB7⟩
          case measure => simp [intOf]; omega
      · have hsd : decide (x ∈ S) = false := decide_eq_false hxs
        rw [hsd] at HP
        clear hxs
        go_wp2_with (((with_reducible refine st_row 27 10 24 wr.heap.size 27 (bv x).toArray zid ?_ ?_ ?_ hzX hsX (bvArr_all x) ?_); rfl; rfl; exact (Blk.new wr 27 zid); intro w4 hb4 hg4 hsz4; have l4 := run_loadId hb4.range hxi; have hB4 := hB1.grown hg4 hB1.size (fun k hk => by cases hk; omega); have ho4 := ho1.kept hg4 (own_ne' hnb); have hmp4 := hmp1.grown hg4 (fun e => hnm (by injection e)); have k4 := hmp4.seen hxi; rw [hsd] at k4; have hz4 : w4.heap.size = wr.heap.size + 1 := (by rw [hsz4]; simp); have hN4 : Blk (w4.alloc (.cells (bv x).toArray 27)) (wr.heap.size + 1) 27 (bv x).toArray := hz4 ▸ Blk.new w4 27 (bv x).toArray))
        go_roundw
        case rel => exact ⟨j + 1, m, by omega, by go_num, by rw [HSC.out, HP.out]; simpa using ho4, hmp4, hB4⟩
        case measure => simp [intOf]; omega
    · obtain rfl : j = n0 := by omega
      go_wp2
      go_ret
      have hta := HTA.out
      rw [← HN0.out] at hta
      rw [hta] at ho
      rw [ho.2.2]
      exact NewIds.of ho hB
end Go.Proofs.Ytaaiojeehhbhhaa
