/-
  The log: Parents, Node, Chain.
-/
import Derived.Test.YtgokompppadogaaRv4
set_option linter.unusedVariables false
set_option linter.unusedSimpArgs false
namespace Go.Proofs.Ytgokompppadogaa
open Go.RowKit

/-- the world behind Parents' box and cells. -/
abbrev paW (x : IdL) (w : World) : World := ((idW x w).alloc (.cells zlit 27)).alloc (.cells zlit 27)
theorem paW_below (x : IdL) (w : World) : Below w.heap.size w (paW x w) := ((idW_below x w).alloc (by simp) _).alloc (by simp; omega) _
theorem paW_0 (x : IdL) (w : World) : Blk (paW x w) w.heap.size 27 (bv x).toArray := ((idW_blk x w).alloc _).alloc _
theorem paW_1 (x : IdL) (w : World) : Blk (paW x w) (w.heap.size + 1) 27 zid := by
  have := Blk.new (idW x w) 27 zlit
  rw [World.size_alloc] at this
  exact this.alloc _
theorem paW_2 (x : IdL) (w : World) : Blk (paW x w) (w.heap.size + 1 + 1) 27 zid := by
  have := Blk.new ((idW x w).alloc (.cells zlit 27)) 27 zlit
  rw [World.size_alloc, World.size_alloc] at this
  exact this
theorem id_sz {x : IdL} (h : IsId x) : (Try.prog.info? 27).map (·.size) = some (bv x).toArray.size := by rw [bvArr_size, h.1]; exact idSize
theorem id_zs {x : IdL} (h : IsId x) : zid.size = (bv x).toArray.size := by rw [bvArr_size, h.1]; rfl
def ParP (x y : IdL) (z : Int) (w : World) (e : Ending) (w' : World) : Prop := e = .returned (.tuple #[ida x, ida y, .int .i64 z]) ∧ Below w.heap.size w w'
set_option maxRecDepth 100000 in
set_option maxHeartbeats 2000000 in
theorem parents_bad (v : Value) (x : IdL) (z y : Int) (w : World) (hx : IsId x) (hz : (z != 0) = true) (hf : Calls Try.prog 31 #[v, ida x] (paW x w) (FindP y z (paW x w))) :
    Calls Try.prog 22 #[v, ida x] w (ParP zeroL zeroL z w) := by
  have r0 := run_loadId (paW_0 x w).range hx
  have hb0 := paW_below x w
  have h1 := paW_1 x w
  have h2 := paW_2 x w
  have hu := idTy
  have hzX := id_sz zeroL_id
  have hsX := id_zs zeroL_id
  unfold FindP at hf
  go_enter Try.func22, Try.ntmps22
  go_wp2_with (first
    | (go_at_call 31; refine hf.mono ?_; rintro e w1 ⟨rfl, hb1⟩; have k1 := h1.below hb1 h1.lt; have k2 := h2.below hb1 h2.lt)
    | ((with_reducible refine st_row 27 4 17 (w.heap.size + 1) 27 (bv zeroL).toArray zid ?_ ?_ ?_ hzX hsX (bvArr_all zeroL) ?_); rfl; rfl; exact k1; intro w4 hb4 hg4 hsz4; have k24 := k2.grown hg4 (by intro e; injection e with e; omega))
    | ((with_reducible refine st_row 27 5 18 (w.heap.size + 1 + 1) 27 (bv zeroL).toArray zid ?_ ?_ ?_ hzX hsX (bvArr_all zeroL) ?_); rfl; rfl; exact k24; intro w5 hb5 hg5 hsz5; have k45 := hb4.grown hg5 (by intro e; injection e with e; omega)))
  (try simp only [Exit.inBlock, Exit.then])
  refine ret_cct 4 5 6 (w.heap.size + 1) (w.heap.size + 1 + 1) zeroL zeroL Try.results22 rfl rfl k45.range zeroL_id hb5.range zeroL_id rfl ?_
  have hbb := below_two hb0 hb1
  have hb6 := hbb.grown hg4 hbb.size (fun k hk => by cases hk; omega)
  exact ⟨rfl, hb6.grown hg5 hb6.size (fun k hk => by cases hk; omega)⟩
theorem parents_nil (x : IdL) (w : World) (hx : IsId x) : Calls Try.prog 22 #[.pointer none, ida x] w (ParP zeroL zeroL 2 w) := parents_bad _ x 2 0 w hx rfl (find_nil x _)
set_option maxRecDepth 100000 in
set_option maxHeartbeats 2000000 in
theorem parents_some (P : Nat → Prop) (g : Nat) (L : Lg) (x : IdL) (k : Nat) (w : World) (h : LgAt w P g L) (hx : IsId x) (hp : posL L x = some k) :
    Calls Try.prog 22 #[.pointer (some ⟨g, 0, none⟩), ida x] w (ParP (rv L k).p1 (rv L k).p2 0 w) := by
  have r0 := run_loadId (paW_0 x w).range hx
  have hb0 := paW_below x w
  have h1 := paW_1 x w
  have h2 := paW_2 x w
  have hu := idTy
  have hf := find_any P g L x _ (h.below hb0) hx
  rw [(atI_of hp).2.1, (atI_of hp).2.2] at hf
  unfold FindP at hf
  have hk := (posL_some hp).1
  obtain ⟨A, n, c, mb, kv, Vs, hm⟩ := h
  have hn := hm.len
  subst hn
  obtain ⟨b, o, V, rfl, _, _, q1, q2, _⟩ := hm.at_ hk
  have hi := hm.inv.ids k hk
  have i1 := hi.2.1
  have i2 := hi.2.2
  have c0 : w.cell? ⟨g, 0, none⟩ = some (.slice (some ⟨b, o, none⟩) L.length c) := hm.blk.cell 0
  have HS := Lib.hid (show ∀ W, Below w.heap.size w W → W.cell? ⟨g, 0, none⟩ = some (.slice (some ⟨b, o, none⟩) L.length c) ∧ (loadId ⟨b, o + k * 61 + 20, none⟩).run Try.prog W = .ok (ida (rv L k).p1) W ∧ (loadId ⟨b, o + k * 61 + 40, none⟩).run Try.prog W = .ok (ida (rv L k).p2) W from fun W hW =>
    ⟨cell_later hW c0, run_loadId (fun i v hv => cell_later hW (q1 i v hv)) i1, run_loadId (fun i v hv => cell_later hW (q2 i v hv)) i2⟩)
  have k0 : (0 : Int) ≤ (k : Int) := by omega
  have k1 : (k : Int) < (L.length : Int) := by omega
  clear hi c0 q1 q2 hm
  generalize (rv L k).p1 = p1 at *
  generalize (rv L k).p2 = p2 at *
  go_enter Try.func22, Try.ntmps22
  go_wp2_with (go_at_call 31; refine hf.mono ?_; rintro e w1 ⟨rfl, hb1⟩)
  have hb01 := below_two hb0 hb1
  have hbb : Below w.heap.size w w1.drew := below_drewN hb01 1
  have m1 := (h1.below hb1 h1.lt).drew
  have m2 := (h2.below hb1 h2.lt).drew
  have hz1 := id_sz i1
  have hs1 := id_zs i1
  have hz2 := id_sz i2
  have hs2 := id_zs i2
  have o1 := bv_one p1
  have o2 := bv_one p2
  have t1 : w1.drew.there (w.heap.size + 1) 0 (bv p1).length := m1.there (by rw [bv_length, i1.1]; rfl)
  have t2 : w1.drew.there (w.heap.size + 1 + 1) 0 (bv p2).length := m2.there (by rw [bv_length, i2.1]; rfl)
  have t3 : (w1.drew.setCells (w.heap.size + 1) 0 (bv p1)).there (w.heap.size + 1 + 1) 0 (bv p2).length := World.there_setCells t2 _ _ _
  have g1 := setCells_grown (w.heap.size + 1) (bv p1) 0 w1.drew
  have hb6 := hbb.grown g1 hbb.size (fun k hk => by cases hk; omega)
  have hb7 := hb6.grown (setCells_grown (w.heap.size + 1 + 1) (bv p2) 0 _) hb6.size (fun k hk => by cases hk; omega)
  rw [ldI_eq 26, ldI_eq 34]
  go_region_held3 (fun W => W.cell? ⟨g, 0, none⟩ = some (.slice (some ⟨b, o, none⟩) L.length c) ∧ (loadId ⟨b, o + k * 61 + 20, none⟩).run Try.prog W = .ok (ida p1) W ∧ (loadId ⟨b, o + k * 61 + 40, none⟩).run Try.prog W = .ok (ida p2) W)
    (first | exact HS.out _ hbb | exact HS.out _ hb6 | exact HS.out _ hb7) (fail)
  all_goals
    go_wp2
    (try simp only [Exit.inBlock, Exit.then])
    refine ret_cct 4 5 6 (w.heap.size + 1) (w.heap.size + 1 + 1) p1 p2 Try.results22 rfl rfl (World.rangeAt_setCells_apart (World.rangeAt_setCells_same _ _ _ _ t1) _ _ _ (.inl (by omega))) i1 (World.rangeAt_setCells_same _ _ _ _ t3) i2 rfl ?_
    exact ⟨rfl, hb7⟩
def parV (L : Lg) (x : IdL) : IdL × IdL := match posL L x with | some k => ((rv L k).p1, (rv L k).p2) | none => (zeroL, zeroL)
theorem parents_any (P : Nat → Prop) (g : Nat) (L : Lg) (x : IdL) (w : World) (h : LgAt w P g L) (hx : IsId x) :
    Calls Try.prog 22 #[.pointer (some ⟨g, 0, none⟩), ida x] w (ParP (parV L x).1 (parV L x).2 (findE L x) w) := by
  unfold parV
  cases hp : posL L x with
  | none =>
    have hf := find_any P g L x _ (h.below (paW_below x w)) hx
    rw [(atI_no hp).2.2] at hf ⊢
    exact parents_bad _ x 6 _ w hx rfl hf
  | some k =>
    rw [(atI_of hp).2.2]
    exact parents_some P g L x k w h hx hp
end Go.Proofs.Ytgokompppadogaa
