/-
  graph.from: the search.
-/
import Derived.Test.YtaaiojeehhbhhaaGr6
set_option linter.unusedVariables false
set_option linter.unusedSimpArgs false
namespace Go.Proofs.Ytaaiojeehhbhhaa
open Go.RowKit

@[go_sem high] theorem cutIds_h (w : World) (A : Option Addr) (n c : Nat) (k : IntKind) (h : Int) (h0 : 0 ≤ h) (h1 : h ≤ c) : (Instr.slice 29 (.slice A n c) none (some (.int k h)) none).run Try.prog w = .ok (.slice A h.toNat c) w :=
  run_cut_h w 29 27 20 A n c underIds sizeId k h h0 h1
def setKV (S : List IdL) : KV := S.map fun k => (k, .bool true)
theorem setKV_get (S : List IdL) (x : IdL) : (kvGet (setKV S) x).getD (.bool false) = .bool (decide (x ∈ S)) := by
  unfold kvGet setKV
  induction S with
  | nil => simp
  | cons y S ih =>
    simp only [List.map_cons, List.find?_cons]
    by_cases h : y = x
    · subst h; simp
    · have h' : (y == x) = false := by simpa using h
      have h2 : ¬ x = y := fun e => h e.symm
      simp only [h', List.mem_cons, h2, false_or]
      exact ih
theorem setKV_has (S : List IdL) (x : IdL) : kvHas (setKV S) x = decide (x ∈ S) := by
  rw [Bool.eq_iff_iff, kvHas_iff, decide_eq_true_iff]
  unfold setKV
  constructor
  · rintro ⟨p, hp, e⟩
    obtain ⟨k, hk, rfl⟩ := List.mem_map.1 hp
    exact e ▸ hk
  · exact fun h => ⟨(x, .bool true), List.mem_map.2 ⟨x, h, rfl⟩, rfl⟩
theorem setKV_set (S : List IdL) (x : IdL) (h : x ∉ S) : kvSet (setKV S) x (.bool true) = setKV (S ++ [x]) := by
  unfold kvSet
  rw [setKV_has, decide_eq_false h]
  simp [setKV]
theorem setTy : Try.prog.underlying 59 = some (.map 27 4) := by kernel_rfl
theorem zeroBool (w : World) : (zeroValue 4).run Try.prog w = .ok (.bool false) w := by kernel_rfl
theorem IMap.seen {w : World} {m : Nat} {S : List IdL} (h : IMap w m (setKV S)) {x : IdL} (hx : IsId x) :
    (Instr.lookup 59 (.map (some m)) (ida x) false).run Try.prog w = .ok (.bool (decide (x ∈ S))) w := by
  have := h.look setTy (zeroBool w) hx false
  simp only [Bool.false_eq_true, if_false] at this
  rw [setKV_get] at this
  exact this
theorem own_ne' {v : Value} {k : Nat} (h : some k ≠ v.ownBlock) : v.ownBlock = none ∨ v.ownBlock ≠ some k := by
  cases e : v.ownBlock with
  | none => exact .inl rfl
  | some j => exact .inr (fun e' => h (by rw [e]; exact e'.symm))
def FromPost (G : Gph) (L : List IdL) (w : World) (e : Ending) (w' : World) : Prop :=
  ∃ m S, e = .returned (.map (some m)) ∧ IMap w' m (setKV S) ∧ (∀ x, x ∈ S ↔ Reach G L x) ∧ w.heap.size ≤ m ∧ Below w.heap.size w w'
theorem leftM_le (G : Gph) (M : Nat) (hM : ∀ j, j < G.length → (nd G j).ps.length ≤ M) : leftM G [] ≤ G.length * (1 + M) := by
  have hall : ∀ n ∈ G, n.ps.length ≤ M := fun n hn => by
    obtain ⟨j, hj⟩ := List.mem_iff_getElem?.1 hn
    have hl := (List.getElem?_eq_some_iff.1 hj).1
    rw [nd_some hl] at hj
    injection hj with hj
    rw [← hj]
    exact hM j hl
  have hsum : ∀ H : Gph, (∀ n ∈ H, n.ps.length ≤ M) → (H.map fun n => 1 + n.ps.length).sum ≤ H.length * (1 + M) := by
    intro H
    induction H with
    | nil => intro _; simp
    | cons n H ih =>
      intro hH
      have := ih fun m hm => hH m (by simp [hm])
      have h1 := hH n (by simp)
      simp only [List.map_cons, List.sum_cons, List.length_cons, Nat.add_mul, Nat.one_mul] at this ⊢
      omega
  have hf := hsum (G.filter fun n => decide (n.id ∉ ([] : List IdL))) fun n hn => hall n (List.mem_filter.1 hn).1
  have hl : (G.filter fun n => decide (n.id ∉ ([] : List IdL))).length ≤ G.length := List.length_filter_le _ _
  exact Nat.le_trans hf (Nat.mul_le_mul_right _ hl)

set_option maxRecDepth 100000 in
set_option maxHeartbeats 4000000 in
theorem from_any (P : Nat → Prop) (g : Nat) (G : Gph) (A : Option Addr) (n c : Nat) (L : List IdL) (w : World) (h : GrAt w P g G) (hG : GInv G) (hA : RIds w A n L) (hn : n ≤ 1000000) (M : Nat) (hM : ∀ j, j < G.length → (nd G j).ps.length ≤ M) (hGM : G.length * (1 + M) ≤ 100000000) :
    Calls Try.prog 34 #[.pointer (some ⟨g, 0, none⟩), .slice A n c] w (FromPost G L w) := by
  have hmm := @run_makeMap Try.prog
  have hlm := leftM_le G M hM
  have hu := idTy
  have hms : IMap (w.alloc (.map #[] 0)) w.heap.size (setKV []) := IMap.made w
  have hb0 : Below w.heap.size w (w.alloc (.map #[] 0)) := (Below.refl _ _).alloc (Nat.le_refl _) _
  have hcl := cloneIds_any A n c L _ (hA.alloc (.map #[] 0)) (by omega)
  unfold NewIds at hcl
  have HCL := Lib.hid hcl
  have hln := hA.1
  have HLN := Lib.hid hln
  have HG := Lib.hid hG
  have HM := Lib.hid hM
  clear hcl hln hG hM
  go_enter Try.func34, Try.ntmps34
  go_wp2_with (go_at_call 33; (with_reducible refine HCL.out.mono ?_); rintro e w1 ⟨A1, c1, rfl, ho1, hc1, hb1⟩)
  have hms1 := hms.later hb1
  have hb01 := below_then hb0 hb0.size hb1
  go_loopg [6] (leftM G [] + n) (fun k todo wr => ∃ (seen td : List IdL) (nt : Nat), OIds wr w.heap.size todo nt td ∧ IMap wr w.heap.size (setKV seen) ∧ Srch G L seen td ∧ Below w.heap.size w wr ∧ leftM G seen + nt ≤ k ∧ k ≤ 200000000)
  case atStart => exact ⟨[], L, n, ho1.lower (by simp), hms1, Srch.init G L, hb01, Nat.le_refl _, by omega⟩
  case round =>
    obtain ⟨seen, td, nt, ho, hmp, hs, hB, hk, hk2⟩ := hrel
    obtain ⟨At, ct, rfl, hct⟩ := ho.slice
    have HS := Lib.hid hs
    have HK := Lib.hid hk
    have hntl := ho.2.2
    have HNT := Lib.hid hntl
    have hnt2 : (nt : Int) ≤ 200000000 := by omega
    clear hs hk hntl
    by_cases h1 : 0 < nt
    · obtain ⟨b, o, rfl, hc⟩ := ho.reads.2.2 h1
      have hx : IsId (gid td (nt - 1)) := ho.2.1.at_ (by rw [ho.2.2]; omega)
      have htd : td = td.take (nt - 1) ++ [gid td (nt - 1)] := by
        have e := gid_some (L := td) (j := nt - 1) (by rw [ho.2.2]; omega)
        have h2 : nt - 1 < td.length := by rw [ho.2.2]; omega
        rw [List.getElem?_eq_getElem h2] at e
        injection e with e
        have := List.take_succ_eq_append_getElem h2
        rw [e, show nt - 1 + 1 = td.length from by rw [ho.2.2]; omega, List.take_length] at this
        exact this
      have hld := run_loadId (hc (nt - 1) (by omega)) hx
      have hcut := ho.cutEnd (k := nt - 1) (by omega)
      have hS2 : Srch G L seen (td.take (nt - 1) ++ [gid td (nt - 1)]) := by rw [← htd]; exact HS.out
      have hTL : (td.take (nt - 1)).length = nt - 1 := hcut.2.2
      have HS2 := Lib.hid hS2
      have HTL := Lib.hid hTL
      clear hS2 htd hc HS hTL ho HNT
      generalize gid td (nt - 1) = x at *
      generalize td.take (nt - 1) = tt at *
      have i1 : ((nt : Int) - 1).toNat = nt - 1 := by omega
      have i2 : (0 : Int) ≤ (nt : Int) - 1 := by omega
      have i3 : (nt : Int) - 1 < (nt : Int) := by omega
      have i4 : (0 : Int) < (nt : Int) := by omega
      have i5 : (nt : Int) - 1 ≤ (ct : Int) := by omega
      have hzX : (Try.prog.info? 27).map (·.size) = some (bv x).toArray.size := by rw [bvArr_size, hx.1]; exact idSize
      have hsX : zid.size = (bv x).toArray.size := by rw [bvArr_size, hx.1]; rfl
      have hzz := hB.size
      have hcut1 := hcut.alloc (.cells zid 27)
      have hmp1 := hmp.alloc (.cells zid 27)
      have hB1 := hB.alloc hzz (.cells zid 27)
      have hnb : some wr.heap.size ≠ (Value.slice (some ⟨b, o, none⟩) (nt - 1) ct).ownBlock := fun e => absurd (hcut.own _ e.symm).2 (Nat.lt_irrefl _)
      have hnm : w.heap.size ≠ wr.heap.size := fun e => by have := hmp.lt; omega
      by_cases hxG : x ∈ ids G
      · have hhB : hasB G x = true := by unfold hasB; exact decide_eq_true hxG
        by_cases hxs : x ∈ seen
        · have HS3 := Lib.hid (HS2.out.skip (.inr hxs))
          have hsd : decide (x ∈ seen) = true := decide_eq_true hxs
          clear hxs HS2
          go_wp2_with (first
            | ((with_reducible refine st_row 27 7 19 wr.heap.size 27 (bv x).toArray zid ?_ ?_ ?_ hzX hsX (bvArr_all x) ?_); rfl; rfl; exact (Blk.new wr 27 zid); intro w4 hb4 hg4 hsz4; have l4 := run_loadId hb4.range hx; have hB4 := hB1.grown hg4 hB1.size (fun k hk => by cases hk; omega); have hcut4 := hcut1.kept hg4 (own_ne' hnb); have hmp4 := hmp1.grown hg4 (fun e => hnm (by injection e)))
            | (go_at_call 17; (with_reducible refine (has_any P g G x _ (h.below hB4) hx).mono ?_); rintro e w5 ⟨rfl, hb5⟩; have hB5 := below_then hB4 hB4.size hb5; have hcut5 := hcut4.below hb5; have hmp5 := hmp4.later hb5; have hb45 := hb4.below hb5 hb4.lt; have l5 := run_loadId hb45.range hx; have k5 := hmp5.seen hx; rw [hhB]; rw [hsd] at k5))
          go_roundg (gk - 1)
          case measure => have := HK.out; omega
          case rel => exact ⟨seen, tt, nt - 1, hcut5, hmp5, HS3.out, hB5, by have := HK.out; omega, by omega⟩
        · have hsd : decide (x ∈ seen) = false := decide_eq_false hxs
          have HS3 := Lib.hid (HS2.out.visit hxG)
          have HLM := Lib.hid (leftM_visit HG.out.nd hxG hxs)
          have HSET := Lib.hid (setKV_set seen x hxs)
          obtain ⟨j, hj, hje⟩ := mem_ids hxG
          have hpl : (psOf G x).length ≤ 100000000 := by
            have e : psOf G x = (nd G j).ps := by unfold psOf; rw [← hje, look_some HG.out.nd hj]; rfl
            rw [e]
            have h1 := HM.out j hj
            have h2 : 1 * (1 + M) ≤ G.length * (1 + M) := Nat.mul_le_mul_right _ (by omega)
            omega
          have HPL := Lib.hid hpl
          obtain ⟨A0, n0, c0, mb, kv, hm⟩ := h
          obtain ⟨A', k', c', hv, hkc, hra, _⟩ := hm.get x
          have hv0 := Lib.hid hv
          have hraL := hra.1
          have HRL := Lib.hid hraL
          have hk8 : k' ≤ 100000000 := by omega
          have h : GrAt w P g G := ⟨A0, n0, c0, mb, kv, hm⟩
          clear hxs HS2 hpl hje hv hraL hj
          go_wp2_with (first
            | ((with_reducible refine st_row 27 7 19 wr.heap.size 27 (bv x).toArray zid ?_ ?_ ?_ hzX hsX (bvArr_all x) ?_); rfl; rfl; exact (Blk.new wr 27 zid); intro w4 hb4 hg4 hsz4; have l4 := run_loadId hb4.range hx; have hB4 := hB1.grown hg4 hB1.size (fun k hk => by cases hk; omega); have hcut4 := hcut1.kept hg4 (own_ne' hnb); have hmp4 := hmp1.grown hg4 (fun e => hnm (by injection e)))
            | (go_at_call 17; (with_reducible refine (has_any P g G x _ (h.below hB4) hx).mono ?_); rintro e w5 ⟨rfl, hb5⟩; have hB5 := below_then hB4 hB4.size hb5; have hcut5 := hcut4.below hb5; have hmp5 := hmp4.later hb5; have hb45 := hb4.below hb5 hb4.lt; have l5 := run_loadId hb45.range hx; have k5 := hmp5.seen hx; rw [hhB]; rw [hsd] at k5)
            | (at_mapUpdate; refine wpList_upd 59 4 (.tmp 34) (.tmp 35) (.const (.bool true)) w.heap.size (setKV seen) x rfl rfl setTy rfl rfl hmp5 hx ?_; intro w6 hmp6 hg6 hz6; have hmp6 : IMap w6 w.heap.size (setKV (seen ++ [x])) := HSET.out ▸ hmp6; have hB6 := hB5.grown hg6 hB5.size (fun k hk => by cases hk; exact Nat.le_refl _); have hcut6 := hcut5.kept hg6 (own_ne' (hmp5.notOwn hcut5)); have hb46 := hb45.grown hg6 (fun e => hnm (by injection e with e; exact e.symm)); have hm6 := hm.below hB6; have hra6 := hra.below hB6))
          have s1 : w6.drew.cell? ⟨g, 1, none⟩ = some (.map (some mb)) := hm6.blk.cell 1
          have s2 : w6.drew.rangeAt wr.heap.size 0 (bv x) := hb46.range
          have hm6d := hm6.below (drewN_below w6 1)
          have s3 : (Instr.lookup 54 (.map (some mb)) (ida x) false).run Try.prog w6.drew = .ok (.slice A' k' c') w6.drew := hm6d.lookF hx hv0
          have hsz := idSz hx
          have hzd : w.heap.size ≤ w6.drew.heap.size := hB6.size
          go_region_held3 (fun w' => w'.cell? ⟨g, 1, none⟩ = some (.map (some mb)) ∧ w'.rangeAt wr.heap.size 0 (bv x) ∧ (Instr.lookup 54 (.map (some mb)) (ida x) false).run Try.prog w' = .ok (.slice A' k' c') w')
            (first | exact ⟨u1, u2, u3⟩ | exact ⟨s1, s2, s3⟩)
            (first | (refine step_appIds rfl (.tmp 36) (.tmp 42) rfl w.heap.size (.slice (some ⟨b, o, none⟩) (nt - 1) ct) (nt - 1) tt rfl (hcut6.drewN 1) A' k' c' (psOf G x) rfl (hra6.drewN 1) (by omega) hzd ?_; intro v7 w7 ho7 hg7 hat7; have hB7 : Below w.heap.size w w7 := (below_drewN hB6 1).grown hg7 hzd (fun k hk => (hcut6.own k hk).1); have hm7 := hm.below hB7; have u1 : w7.cell? ⟨g, 1, none⟩ = some (.map (some mb)) := hm7.blk.cell 1; have u2 : w7.rangeAt wr.heap.size 0 (bv x) := (hb46.drewN 1).grown hg7 hnb |>.range; have u3 : (Instr.lookup 54 (.map (some mb)) (ida x) false).run Try.prog w7 = .ok (.slice A' k' c') w7 := hm7.lookF hx hv0; have hmp7 := (hmp6.drewN 1).grown hg7 (hmp6.notOwn hcut6)))
          go_wp2
          go_roundg (gk - 1)
          case measure => have := HK.out; omega
          case rel => exact ⟨seen ++ [x], tt ++ psOf G x, nt - 1 + k', ho7, hmp7, HS3.out, hB7, by have h1 := HK.out; have h2 := HLM.out; have h3 := HRL.out; omega, by omega⟩
      · have HS3 := Lib.hid (HS2.out.skip (.inl hxG))
        have hhB : hasB G x = false := by unfold hasB; exact decide_eq_false hxG
        clear HS2
        go_wp2_with (first
          | ((with_reducible refine st_row 27 7 19 wr.heap.size 27 (bv x).toArray zid ?_ ?_ ?_ hzX hsX (bvArr_all x) ?_); rfl; rfl; exact (Blk.new wr 27 zid); intro w4 hb4 hg4 hsz4; have l4 := run_loadId hb4.range hx; have hB4 := hB1.grown hg4 hB1.size (fun k hk => by cases hk; omega); have hcut4 := hcut1.kept hg4 (own_ne' hnb); have hmp4 := hmp1.grown hg4 (fun e => hnm (by injection e)))
          | (go_at_call 17; (with_reducible refine (has_any P g G x _ (h.below hB4) hx).mono ?_); rintro e w5 ⟨rfl, hb5⟩; have hB5 := below_then hB4 hB4.size hb5; have hcut5 := hcut4.below hb5; have hmp5 := hmp4.later hb5; have hb45 := hb4.below hb5 hb4.lt; have l5 := run_loadId hb45.range hx; rw [hhB]))
        go_roundg (gk - 1)
        case measure => have := HK.out; omega
        case rel => exact ⟨seen, tt, nt - 1, hcut5, hmp5, HS3.out, hB5, by have := HK.out; omega, by omega⟩
    · obtain rfl : nt = 0 := by omega
      obtain rfl : td = [] := List.eq_nil_of_length_eq_zero HNT.out
      go_wp2
      go_ret
      exact ⟨_, seen, rfl, hmp, HS.out.done, Nat.le_refl _, hB⟩
end Go.Proofs.Ytaaiojeehhbhhaa
