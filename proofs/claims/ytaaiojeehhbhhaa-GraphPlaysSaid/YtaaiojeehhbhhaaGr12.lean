/-
  graph.Heads, walked.
-/
import Derived.Test.YtaaiojeehhbhhaaGr11
import Derived.Test.YtaaiojeehhbhhaaGr12n
set_option linter.unusedVariables false
set_option linter.unusedSimpArgs false
namespace Go.Proofs.Ytaaiojeehhbhhaa
open Go.RowKit

section
variable {w : World} {ops : Array Oper} {rest : List Oper} {o : Oper} {a : Act} {Q : Exit → Act → World → Prop}
theorem wpList_nextDone (it : Operand) (r g : Nat) (kv : KV) (seen : Array Nat) (hgd : o.guard = none) (hop : o.op = Op.next it false) (hit : a.eval it = .pointer (some ⟨r, 0, none⟩)) (hr : Iter w r g kv.length seen) (h : IMap w g kv) (hall : ∀ j, j < kv.length → j ∈ seen)
    (hK : wpList Try.prog ops Q rest (a.put o.dst (.tuple #[.bool false])) w) : wpList Try.prog ops Q (o :: rest) a w :=
  wpList_nextI it r g kv seen hgd hop hit hr h (fun _ => hK) fun j p w' hj hs => absurd (hall j (List.getElem?_eq_some_iff.1 hj).1) hs
theorem wpList_nextMore (it : Operand) (r g : Nat) (kv : KV) (seen : Array Nat) (hgd : o.guard = none) (hop : o.op = Op.next it false) (hit : a.eval it = .pointer (some ⟨r, 0, none⟩)) (hr : Iter w r g kv.length seen) (h : IMap w g kv) (hex : ¬ ∀ j, j < kv.length → j ∈ seen)
    (hMore : ∀ (j : Nat) (p : List Int × Value) (w' : World), kv[j]? = some p → j ∉ seen → Iter w' r g kv.length (seen.push j) → IMap w' g kv → w.grownBy w' (some r) → w'.heap.size = w.heap.size →
      (Instr.entry (.pointer (some ⟨r, 0, none⟩))).run Try.prog w' = .ok (.tuple #[idv p.1, p.2]) w' → wpList Try.prog ops Q rest (a.put o.dst (.tuple #[.bool true, idv p.1, p.2])) w') : wpList Try.prog ops Q (o :: rest) a w :=
  wpList_nextI it r g kv seen hgd hop hit hr h (fun hall => absurd hall hex) hMore
end
theorem Iter.grown {w w' : World} {r mb n : Nat} {seen : Array Nat} {row : Option Nat} (h : Iter w r mb n seen) (hg : w.grownBy w' row) (hne : some r ≠ row) : Iter w' r mb n seen := (hg.block r (Array.getElem?_eq_some_iff.1 h).1 hne).trans h
theorem Iter.lt {w : World} {r mb n : Nat} {seen : Array Nat} (h : Iter w r mb n seen) : r < w.heap.size := (Array.getElem?_eq_some_iff.1 h).1
theorem mem_gid {L : List (List Int)} {p : List Int} (h : p ∈ L) : ∃ i, i < L.length ∧ gid L i = p := by
  obtain ⟨i, hi, e⟩ := List.getElem_of_mem h
  exact ⟨i, hi, by simp [gid, hi, e]⟩
def headTo (G : Gph) (j : Nat) : List IdL := ((ids G).take j).filter fun x => !parB G x
theorem headTo_succ (G : Gph) (j : Nat) (hj : j < (ids G).length) : headTo G (j + 1) = headTo G j ++ (if !parB G (gid (ids G) j) then [gid (ids G) j] else []) := by
  unfold headTo
  have e := gid_some hj
  rw [List.getElem?_eq_getElem hj] at e
  injection e with e
  rw [List.take_succ_eq_append_getElem hj, e, List.filter_append]
  congr 1
  by_cases h : (!parB G (gid (ids G) j)) = true
  · simp [List.filter_cons, h]
  · simp [List.filter_cons, h]
theorem headTo_all (G : Gph) : headTo G (ids G).length = headsG G := by unfold headTo headsG; rw [List.take_length]
theorem headTo_le (G : Gph) (j : Nat) : (headTo G j).length ≤ j := Nat.le_trans (List.length_filter_le _ _) (by rw [List.length_take]; omega)

set_option maxRecDepth 100000 in
set_option maxHeartbeats 4000000 in
theorem heads_any (P : Nat → Prop) (g : Nat) (G : Gph) (w : World) (h : GrAt w P g G) (hG : GInv G) (M : Nat) (hM : ∀ j, j < G.length → (nd G j).ps.length ≤ M) (hM2 : M ≤ 1000000000) :
    Calls Try.prog 11 #[.pointer (some ⟨g, 0, none⟩)] w (NewIds (headsG G).length (headsG G) w) := by
  have hmm := @run_makeMap Try.prog
  obtain ⟨A0, n0, c0, mb, kv, hm⟩ := h
  have hu := idTy
  have hn0 : n0 = (ids G).length := hm.own.2.2.symm
  have hn5 : n0 ≤ 5000 := by rw [hn0]; exact hG.nG
  have hkl : kv.length = G.length := hm.len
  have hb0 : Below w.heap.size w (w.alloc (.map #[] 0)) := (Below.refl _ _).alloc (Nat.le_refl _) _
  have hm0 := hm.below hb0
  have d1 : (w.alloc (.map #[] 0)).cell? ⟨g, 1, none⟩ = some (.map (some mb)) := hm0.blk.cell 1
  have hp0 : IMap (w.alloc (.map #[] 0)) w.heap.size (setKV []) := IMap.made w
  have HN0 := Lib.hid hn0
  have HKL := Lib.hid hkl
  have HG := Lib.hid hG
  have HM := Lib.hid hM
  have HPS := Lib.hid (show ∀ j, j < G.length → ∀ q, q < (nd G j).ps.length → IsId (gid (nd G j).ps q) from fun j hj q hq => (hG.par j hj _ (gid_mem hq)).1)
  have HID := Lib.hid (show ∀ j, j < n0 → IsId (gid (ids G) j) from fun j hj => hm.own.2.1.at_ (by omega))
  have hzp : w.heap.size ≤ w.heap.size + 1 := by omega
  clear hn0 hkl hG hM
  go_enter Try.func11, Try.ntmps11
  go_wp2_with ((with_reducible refine wpList_rangeI 54 29 (.tmp 17) mb kv rfl rfl parTy ?_ hm0.map ?_); rfl; intro hit0; have hb1 := hb0.alloc hb0.size (.mapIter (some mb) kv.length #[] kv.length); have hp1 := hp0.alloc (.mapIter (some mb) kv.length #[] kv.length))
  have hz1 : (w.alloc (.map #[] 0)).heap.size = w.heap.size + 1 := by simp
  simp only [Act.put, List.setIfInBounds_toArray, List.set_cons_succ, List.set_cons_zero, hz1]
  rw [hz1] at hit0
  clear hmm
  go_loopg [5] (leftN kv.length #[]) (fun k l wr => ∃ (seen : Array Nat) (T : List IdL), Iter wr (w.heap.size + 1) mb kv.length seen ∧ IMap wr w.heap.size (setKV T) ∧ Below w.heap.size w wr ∧ (∀ x ∈ T, parB G x = true) ∧ (∀ j ∈ seen, ∀ p ∈ (nd G j).ps, p ∈ T) ∧ leftN kv.length seen ≤ k)
  case atStart => exact ⟨#[], [], hit0, hp1, hb1, fun x hx => by simp at hx, fun j hj => by simp at hj, Nat.le_refl _⟩
  case round =>
    obtain ⟨seen, T, hit, hpm, hB, hsound, hcomp, hk⟩ := hrel
    have HSO := Lib.hid hsound
    have HCO := Lib.hid hcomp
    have HK := Lib.hid hk
    clear hsound hcomp hk
    by_cases hall : ∀ j, j < kv.length → j ∈ seen
    · have hT : ∀ x, decide (x ∈ T) = parB G x := fun x => by
        rw [Bool.eq_iff_iff, decide_eq_true_iff, parB_iff]
        constructor
        · exact fun hx => parB_iff.1 (HSO.out x hx)
        · rintro ⟨j, hj, hx⟩
          exact HCO.out j (hall j (by rw [HKL.out]; exact hj)) x hx
      have HT := Lib.hid hT
      have HALL := Lib.hid hall
      clear hT hall
      have hmW := hm.below hB
      have e0 : wr.cell? ⟨g, 0, none⟩ = some (.slice A0 n0 c0) := hmW.blk.cell 0
      go_wp2_with ((with_reducible refine wpList_nextDone (.tmp 18) (w.heap.size + 1) mb kv seen rfl rfl ?_ hit hmW.map HALL.out ?_); rfl)
      go_loopw [8, 37] (fun v i wr => ∃ (j m : Nat), j ≤ n0 ∧ i = .int .i64 j ∧ OIds wr w.heap.size v m (headTo G j) ∧ IMap wr w.heap.size (setKV T) ∧ Below w.heap.size w wr) (fun _ i _ => n0 - (intOf i).toNat)
      case atStart => exact ⟨0, 0, by omega, rfl, OIds.nil _ _, hpm, hB⟩
      case round =>
        obtain ⟨j, m, hj, rfl, ho, hmp, hBx⟩ := hrel
        have hml : m ≤ j := by rw [← ho.2.2]; exact headTo_le G j
        by_cases h1 : j < n0
        · have hxi := HID.out j h1
          obtain ⟨b, o, rfl, hc⟩ := (hm.below hBx).own.reads.2.2 (by omega)
          have hld := run_loadId (hc j h1) hxi
          have hsc := headTo_succ G j (by rw [← HN0.out]; exact h1)
          have HSC := Lib.hid hsc
          have hp := HT.out (gid (ids G) j)
          have j0 : (0 : Int) ≤ (j : Int) := by omega
          have j1 : (j : Int) < (n0 : Int) := by omega
          have HP := Lib.hid hp
          clear hc hsc hp
          generalize gid (ids G) j = x at *
          generalize headTo G j = ys at *
          obtain ⟨Av, cv, rfl, hcv⟩ := ho.slice
          have hzX : (Try.prog.info? 27).map (·.size) = some (bv x).toArray.size := by rw [bvArr_size, hxi.1]; exact idSize
          have hsX : zid.size = (bv x).toArray.size := by rw [bvArr_size, hxi.1]; rfl
          have hzz := hBx.size
          have hB1 := hBx.alloc hzz (.cells zid 27)
          have ho1 := ho.alloc (.cells zid 27)
          have hmp1 := hmp.alloc (.cells zid 27)
          have hnb : some wr.heap.size ≠ (Value.slice Av m cv).ownBlock := fun e => absurd (ho.own _ e.symm).2 (Nat.lt_irrefl _)
          have hnm : w.heap.size ≠ wr.heap.size := fun e => by have := hmp.lt; omega
          cases hsd : parB G x with
          | false =>
            have hsd' : decide (x ∈ T) = false := HP.out.trans hsd
            have HSD := Lib.hid hsd
            clear hsd
            go_wp2_with (first
              | ((with_reducible refine st_row 27 10 40 wr.heap.size 27 (bv x).toArray zid ?_ ?_ ?_ hzX hsX (bvArr_all x) ?_); rfl; rfl; exact (Blk.new wr 27 zid); intro w4 hb4 hg4 hsz4; have l4 := run_loadId hb4.range hxi; have hB4 := hB1.grown hg4 hB1.size (fun k hk => by cases hk; omega); have ho4 := ho1.kept hg4 (own_ne' hnb); have hmp4 := hmp1.grown hg4 (fun e => hnm (by injection e)); have k4 := hmp4.seen hxi; rw [hsd'] at k4; have hz4 : w4.heap.size = wr.heap.size + 1 := (by rw [hsz4]; simp); have hN4 : Blk (w4.alloc (.cells (bv x).toArray 27)) (wr.heap.size + 1) 27 (bv x).toArray := hz4 ▸ Blk.new w4 27 (bv x).toArray)
              | (at_builtin; refine wpList_appIds rfl (.tmp 45) (.tmp 47) rfl w.heap.size (.slice Av m cv) m ys rfl (ho4.alloc (.cells (bv x).toArray 27)) (some ⟨wr.heap.size + 1, 0, none⟩) 1 1 [x] rfl (RIds.one hN4 hxi) (by omega) (hB4.alloc hB4.size (.cells (bv x).toArray 27)).size ?_; intro v7 w7 ho7 hg7 hat7; have hmp7 := (hmp4.alloc (.cells (bv x).toArray 27)).grown hg7 (hmp4.notOwn ho4); have hB7 := (hB4.alloc hB4.size (.cells (bv x).toArray 27)).grown hg7 (hB4.alloc hB4.size (.cells (bv x).toArray 27)).size (fun k hk => (ho4.own k hk).1)))
            go_roundw
            case rel => exact ⟨j + 1, m + 1, by omega, by go_num, by rw [HSC.out, HSD.out]; simpa using ho7, hmp7, hB7⟩
            case measure => simp [intOf]; omega
          | true =>
            have hsd' : decide (x ∈ T) = true := HP.out.trans hsd
            have HSD := Lib.hid hsd
            clear hsd
            go_wp2_with (((with_reducible refine st_row 27 10 40 wr.heap.size 27 (bv x).toArray zid ?_ ?_ ?_ hzX hsX (bvArr_all x) ?_); rfl; rfl; exact (Blk.new wr 27 zid); intro w4 hb4 hg4 hsz4; have l4 := run_loadId hb4.range hxi; have hB4 := hB1.grown hg4 hB1.size (fun k hk => by cases hk; omega); have ho4 := ho1.kept hg4 (own_ne' hnb); have hmp4 := hmp1.grown hg4 (fun e => hnm (by injection e)); have k4 := hmp4.seen hxi; rw [hsd'] at k4))
            go_roundw
            case rel => exact ⟨j + 1, m, by omega, by go_num, by rw [HSC.out, HSD.out]; simpa using ho4, hmp4, hB4⟩
            case measure => simp [intOf]; omega
        · obtain rfl : j = n0 := by omega
          go_wp2
          go_ret
          have hta := headTo_all G
          rw [← HN0.out] at hta
          rw [hta] at ho
          rw [ho.2.2]
          exact NewIds.of ho hBx
    · have HEX := Lib.hid hall
      clear hall
      have hmW := hm.below hB
      go_wp2_with ((with_reducible refine wpList_nextMore (.tmp 18) (w.heap.size + 1) mb kv seen rfl rfl ?_ hit hmW.map HEX.out ?_); rfl; intro j p w3 hj hjs hit3 hmap3 hg3 hz3 hen; have hjl : j < kv.length := (List.getElem?_eq_some_iff.1 hj).1; obtain ⟨A', k', c', hpar, hkc, hrp, _⟩ := hm.par j (by rw [← HKL.out]; exact hjl); rw [hpar] at hj; injection hj with hj; subst hj)
      have hit3w := hit3
      have hpm3 : IMap w3 w.heap.size (setKV T) := hpm.grown hg3 (fun e => by injection e with e; omega)
      have hB3 : Below w.heap.size w w3 := hB.grown hg3 hB.size (fun k hk => by cases hk; omega)
      have hkl' := hrp.1
      have HKL2 := Lib.hid hkl'
      have hjG : j < G.length := by rw [← HKL.out]; exact hjl
      have hk9 : k' ≤ 1000000000 := by rw [← hkl']; exact Nat.le_trans (HM.out j hjG) hM2
      have HJS := Lib.hid (leftN_push hjl hjs)
      have HPJ := Lib.hid (show ∀ q, q < k' → IsId (gid (nd G j).ps q) from fun q hq => HPS.out j hjG q (by rw [hkl']; exact hq))
      have HPB := Lib.hid (show ∀ q, q < k' → parB G (gid (nd G j).ps q) = true from fun q hq => parB_iff.2 ⟨j, hjG, gid_mem (by rw [hkl']; exact hq)⟩)
      clear hkl' hjs hpar hjG
      go_loopw [25] (fun i wr => ∃ (q : Nat) (T' : List IdL), q ≤ k' ∧ i = .int .i64 q ∧ IMap wr w.heap.size (setKV T') ∧ Iter wr (w.heap.size + 1) mb kv.length (seen.push j) ∧ Below w.heap.size w wr ∧ (∀ x ∈ T', parB G x = true) ∧ (∀ x ∈ T, x ∈ T') ∧ (∀ i, i < q → gid (nd G j).ps i ∈ T')) (fun i _ => k' - (intOf i).toNat)
      case atStart => exact ⟨0, T, by omega, rfl, hpm3, hit3w, hB3, HSO.out, fun x hx => hx, fun i hi => absurd hi (by omega)⟩
      case round =>
        obtain ⟨q, T', hq, rfl, hmp, hitx, hBx, hso, hin, hdo⟩ := hrel
        have HS2 := Lib.hid hso
        have HIN := Lib.hid hin
        have HDO := Lib.hid hdo
        clear hso hin hdo
        by_cases h1 : q < k'
        · have hxi := HPJ.out q h1
          have hpx := HPB.out q h1
          obtain ⟨b, o, rfl, hc⟩ := (hrp.below hBx).2.2 (by omega)
          have hld := run_loadId (hc q h1) hxi
          obtain ⟨x, hxe⟩ : ∃ x, x = gid (nd G j).ps q := ⟨_, rfl⟩
          rw [← hxe] at hld hxi hpx
          have HPX := Lib.hid hpx
          have HXE := Lib.hid hxe
          have j0 : (0 : Int) ≤ (q : Int) := by omega
          have j1 : (q : Int) < (k' : Int) := by omega
          have hzX : (Try.prog.info? 27).map (·.size) = some (bv x).toArray.size := by rw [bvArr_size, hxi.1]; exact idSize
          have hsX : zid.size = (bv x).toArray.size := by rw [bvArr_size, hxi.1]; rfl
          have hzz := hBx.size
          have hB1 := hBx.alloc hzz (.cells zid 27)
          have hit1 : Iter (wr.alloc (.cells zid 27)) (w.heap.size + 1) mb kv.length (seen.push j) := hitx.grown (row := none) (grown_below ((Below.refl _ _).alloc (Nat.le_refl _) _) none) (by simp)
          have hmp1 := hmp.alloc (.cells zid 27)
          have hnm : w.heap.size ≠ wr.heap.size := fun e => by have := hmp.lt; omega
          have hni : w.heap.size + 1 ≠ wr.heap.size := fun e => by have := hitx.lt; omega
          have HSET := Lib.hid (setKV_add T' x)
          clear hc hxe hpx
          go_wp2_with (first
            | ((with_reducible refine st_row 27 7 28 wr.heap.size 27 (bv x).toArray zid ?_ ?_ ?_ hzX hsX (bvArr_all x) ?_); rfl; rfl; exact (Blk.new wr 27 zid); intro w4 hb4 hg4 hsz4; have l4 := run_loadId hb4.range hxi; have hB4 := hB1.grown hg4 hB1.size (fun k hk => by cases hk; omega); have hmp4 := hmp1.grown hg4 (fun e => hnm (by injection e)); have hit4 := hit1.grown hg4 (fun e => hni (by injection e)))
            | (at_mapUpdate; refine wpList_upd 59 4 (.tmp 29) (.tmp 30) (.const (.bool true)) w.heap.size (setKV T') x rfl rfl setTy rfl rfl hmp4 hxi ?_; intro w6 hmp6 hg6 hz6; have hmp6 : IMap w6 w.heap.size (setKV (addS T' x)) := HSET.out ▸ hmp6; have hB6 := hB4.grown hg6 hB4.size (fun k hk => by cases hk; exact Nat.le_refl _); have hit6 := hit4.grown hg6 (fun e => by injection e with e; omega)))
          go_roundw
          case rel => exact ⟨q + 1, addS T' x, by omega, by go_num, hmp6, hit6, hB6, fun y hy => (mem_addS.1 hy).elim (HS2.out y) (fun e => by rw [e]; exact HPX.out), fun y hy => mem_addS.2 (.inl (HIN.out y hy)), fun i hi => by
            by_cases e : i = q
            · subst e
              exact mem_addS.2 (.inr HXE.out.symm)
            · exact mem_addS.2 (.inl (HDO.out i (by omega)))⟩
          case measure => simp [intOf]; omega
        · obtain rfl : q = k' := by omega
          go_wp2
          go_roundg (leftN kv.length (seen.push j))
          case measure => have h1 := HJS.out; have h2 := HK.out; omega
          case rel => exact ⟨seen.push j, T', hitx, hmp, hBx, HS2.out, fun j' hj' p hp => by
            rcases Array.mem_push.1 hj' with h | rfl
            · exact HIN.out p (HCO.out j' h p hp)
            · obtain ⟨i, hi, e⟩ := mem_gid hp
              rw [← e]
              exact HDO.out i (by rw [← HKL2.out]; exact hi), Nat.le_refl _⟩
end Go.Proofs.Ytaaiojeehhbhhaa
