/-
  The log's Add, where nothing is added.
-/
import Derived.Test.YtgokompppadogaaRvD
set_option linter.unusedVariables false
set_option linter.unusedSimpArgs false
namespace Go.Proofs.Ytgokompppadogaa
open Go.RowKit

/-- what may have turned: the blocks of P, and new ones. -/
structure Chg (P : Nat → Prop) (w w' : World) : Prop where
  os : w'.os = w.os
  tape : w'.tape = w.tape
  output : w'.output = w.output
  size : w.heap.size ≤ w'.heap.size
  block : ∀ i, i < w.heap.size → ¬ P i → w'.heap[i]? = w.heap[i]?
section
variable {P Q : Nat → Prop} {w w1 w2 w' : World}
theorem Chg.refl (P : Nat → Prop) (w : World) : Chg P w w := ⟨rfl, rfl, rfl, Nat.le_refl _, fun _ _ _ => rfl⟩
theorem Chg.below (h : Below w.heap.size w w') : Chg P w w' := ⟨h.os, h.tape, h.output, h.size, fun i hi _ => h.block i hi⟩
theorem Chg.then (h : Chg P w w1) (k : Chg Q w1 w2) (hq : ∀ i, Q i → P i ∨ w.heap.size ≤ i) : Chg P w w2 :=
  ⟨k.os.trans h.os, k.tape.trans h.tape, k.output.trans h.output, Nat.le_trans h.size k.size, fun i hi hp => (k.block i (Nat.lt_of_lt_of_le hi h.size) (fun hQ => by rcases hq i hQ with h' | h'; exact hp h'; omega)).trans (h.block i hi hp)⟩
theorem Chg.grown {row : Option Nat} (h : w.grownBy w' row) (hr : ∀ k, row = some k → P k) : Chg P w w' :=
  ⟨h.os, h.tape, h.output, h.size, fun i hi hp => h.block i hi (fun e => hp (hr i e.symm))⟩
theorem Chg.toBelow {B : Nat} {w0 : World} (h : Chg P w w') (hb : Below B w0 w) (hz : B ≤ w.heap.size) (hp : ∀ k, P k → B ≤ k) : Below B w0 w' :=
  ⟨h.os.trans hb.os, h.tape.trans hb.tape, h.output.trans hb.output, Nat.le_trans hb.size h.size, fun i hi => (h.block i (by omega) (fun hP => by have := hp i hP; omega)).trans (hb.block i hi)⟩
theorem Chg.cell (h : Chg P w w') {p : Addr} {v : Value} (hv : w.cell? p = some v) (hp : ¬ P p.block) : w'.cell? p = some v := by
  have hl := World.block_lt_of_cell? _ _ hv
  unfold World.cell? at hv ⊢
  rw [h.block _ hl hp]
  exact hv
theorem Chg.blk {g : Nat} {t : TypeId} {cs : Array Value} (h : Chg P w w') (hb : Blk w g t cs) (hp : ¬ P g) : Blk w' g t cs := (h.block g hb.lt hp).trans hb
theorem Chg.imap {g : Nat} {kv : KV} (h : Chg P w w') (hb : IMap w g kv) (hp : ¬ P g) : IMap w' g kv := ⟨(h.block g hb.lt hp).trans hb.heap, hb.ids, hb.nd⟩
theorem Chg.lg {R : Nat → Prop} {g : Nat} {L : Lg} (h : Chg P w w') (hg : LgAt w R g L) (hp : ∀ k, R k → ¬ P k) : LgAt w' R g L := by
  obtain ⟨A, n, c, mb, kv, Vs, hm⟩ := hg
  refine ⟨A, n, c, mb, kv, Vs, h.blk hm.blk (hp _ hm.pg), h.imap hm.map (hp _ hm.pm), hm.inv, hm.len, hm.vl, hm.cap, fun h0 => ?_, hm.nul, hm.pg, hm.pm, hm.kl, hm.kvs, fun j hj => ?_⟩
  · obtain ⟨b, o, e, h1, h2, h3, h4⟩ := hm.row h0
    exact ⟨b, o, e, h1, h2, Nat.lt_of_lt_of_le h3 h.size, fun i v hv => h.cell (h4 i v hv) (hp b h1)⟩
  · obtain ⟨V, e, h1⟩ := hm.held j hj
    exact ⟨V, e, h1.keep h.size fun p v hv hP _ => h.cell hv (hp _ hP)⟩
end
def AddPost (x : IdL) (y : Int) (P : Nat → Prop) (g : Nat) (L : Lg) (w : World) (e : Ending) (w' : World) : Prop := e = .returned (.tuple #[ida x, .int .i64 y]) ∧ LgAt w' (fun k => P k ∨ w.heap.size ≤ k) g L ∧ Chg P w w'
def AddNil (w : World) (e : Ending) (w' : World) : Prop := e = .returned (.tuple #[ida zeroL, .int .i64 2]) ∧ Below w.heap.size w w'
/-- the world behind Add's boxes. -/
abbrev adW (p1 p2 : IdL) (w : World) : World := ((w.alloc (.cells (bv p1).toArray 27)).alloc (.cells (bv p2).toArray 27)).alloc (.cells zlit 27)
theorem adW_below (p1 p2 : IdL) (w : World) : Below w.heap.size w (adW p1 p2 w) := (((Below.refl _ _).alloc (Nat.le_refl _) _).alloc (by simp) _).alloc (by simp; omega) _
theorem adW_1 (p1 p2 : IdL) (w : World) : Blk (adW p1 p2 w) w.heap.size 27 (bv p1).toArray := ((Blk.new w _ _).alloc _).alloc _
theorem adW_2 (p1 p2 : IdL) (w : World) : Blk (adW p1 p2 w) (w.heap.size + 1) 27 (bv p2).toArray := by
  have := Blk.new (w.alloc (.cells (bv p1).toArray 27)) 27 (bv p2).toArray
  rw [World.size_alloc] at this
  exact this.alloc _
theorem adW_3 (p1 p2 : IdL) (w : World) : Blk (adW p1 p2 w) (w.heap.size + 1 + 1) 27 zid := by
  have := Blk.new ((w.alloc (.cells (bv p1).toArray 27)).alloc (.cells (bv p2).toArray 27)) 27 zlit
  rw [World.size_alloc, World.size_alloc] at this
  exact this
theorem may_nil (A : Option Addr) (n c : Nat) (p1 p2 : IdL) (w : World) : Calls Try.prog 25 #[.pointer none, .slice A n c, ida p1, ida p2] w (IntP 2 w) := by
  go_enter Try.func25, Try.ntmps25
  go_wp2
  go_ret
  exact ⟨rfl, (((Below.refl _ _).alloc (Nat.le_refl _) _).alloc (by simp) _).alloc (by simp; omega) _⟩
set_option maxRecDepth 100000 in
set_option maxHeartbeats 2000000 in
/-- Add where May says no. -/
theorem add_bad (v : Value) (A : Option Addr) (n c : Nat) (p1 p2 : IdL) (y : Int) (w : World) (h1 : IsId p1) (h2 : IsId p2) (hy : (y != 0) = true)
    (hmay : Calls Try.prog 25 #[v, .slice A n c, ida p1, ida p2] (adW p1 p2 w) (IntP y (adW p1 p2 w))) :
    Calls Try.prog 9 #[v, .slice A n c, ida p1, ida p2] w (fun e w' => e = .returned (.tuple #[ida zeroL, .int .i64 y]) ∧ Below w.heap.size w w') := by
  have hb0 := adW_below p1 p2 w
  have r1 := run_loadId (adW_1 p1 p2 w).range h1
  have r2 := run_loadId (adW_2 p1 p2 w).range h2
  have h3 := adW_3 p1 p2 w
  have hu := idTy
  have hzX := id_sz zeroL_id
  have hsX := id_zs zeroL_id
  unfold IntP at hmay
  go_enter Try.func9, Try.ntmps9
  go_wp2_with (first
    | (go_at_call 25; (with_reducible refine hmay.mono ?_); rintro e w1 ⟨rfl, hb1⟩; have k3 := h3.below hb1 h3.lt)
    | ((with_reducible refine st_row 27 8 19 (w.heap.size + 1 + 1) 27 (bv zeroL).toArray zid ?_ ?_ ?_ hzX hsX (bvArr_all zeroL) ?_); rfl; rfl; exact k3; intro w4 hb4 hg4 hsz4))
  (try simp only [Exit.inBlock, Exit.then])
  refine ret_ct 8 9 (w.heap.size + 1 + 1) zeroL Try.results9 rfl hb4.range zeroL_id rfl ?_
  have hbb := below_two hb0 hb1
  exact ⟨rfl, hbb.grown hg4 hbb.size (fun k hk => by cases hk; omega)⟩
theorem add_nil (A : Option Addr) (n c : Nat) (p1 p2 : IdL) (w : World) (h1 : IsId p1) (h2 : IsId p2) : Calls Try.prog 9 #[.pointer none, .slice A n c, ida p1, ida p2] w (AddNil w) :=
  add_bad _ A n c p1 p2 2 w h1 h2 rfl (may_nil A n c p1 p2 _)
set_option maxRecDepth 100000 in
set_option maxHeartbeats 2000000 in
/-- Add of what is there. -/
theorem add_was (P : Nat → Prop) (g : Nat) (L : Lg) (A : Option Addr) (n c : Nat) (t p1 p2 : List Int) (w : World) (h : LgAt w P g L) (hA : RB w A n t) (hnc : n ≤ c) (hn : n ≤ 1500) (h1 : IsId p1) (h2 : IsId p2) (hll : L.length ≤ 100000) (hm : mayE L t p1 p2 = 0) (hp : hasL L (nodeV t p1 p2) = true) :
    Calls Try.prog 9 #[.pointer (some ⟨g, 0, none⟩), .slice A n c, ida p1, ida p2] w (fun e w' => e = .returned (.tuple #[ida (nodeV t p1 p2), .int .i64 0]) ∧ Below w.heap.size w w') := by
  have hb0 := adW_below p1 p2 w
  have r1 := run_loadId (adW_1 p1 p2 w).range h1
  have r2 := run_loadId (adW_2 p1 p2 w).range h2
  have hu := idTy
  have hmay := may_any P g L A n c t p1 p2 _ (h.below hb0) (hA.below hb0) hnc hn h1 h2 hll
  rw [hm] at hmay
  unfold IntP at hmay
  have HB := Lib.hid (show ∀ W, Below (adW p1 p2 w).heap.size (adW p1 p2 w) W → (loadId ⟨w.heap.size, 0, none⟩).run Try.prog W = .ok (ida p1) W ∧ (loadId ⟨w.heap.size + 1, 0, none⟩).run Try.prog W = .ok (ida p2) W ∧ Blk W (w.heap.size + 1 + 1) 27 zid from fun W hW =>
    ⟨run_loadId ((adW_1 p1 p2 w).below hW (adW_1 p1 p2 w).lt).range h1, run_loadId ((adW_2 p1 p2 w).below hW (adW_2 p1 p2 w).lt).range h2, (adW_3 p1 p2 w).below hW (adW_3 p1 p2 w).lt⟩)
  have HN := Lib.hid (show ∀ W, Below w.heap.size w W → Calls Try.prog 19 #[.slice A n c, ida p1, ida p2] W (IdP (nodeV t p1 p2) W) from fun W hW => node_any A n c t p1 p2 W (hA.below hW) hnc (by omega) h1 h2)
  have hX := nodeV_id t p1 p2
  have HH := Lib.hid (show ∀ W, Below w.heap.size w W → Calls Try.prog 26 #[.pointer (some ⟨g, 0, none⟩), ida (nodeV t p1 p2)] W (fun e w' => e = .returned (.bool true) ∧ Below W.heap.size W w') from fun W hW => by
    have := has_any P g L _ W (h.below hW) hX
    rwa [hp] at this)
  clear hm hp
  generalize nodeV t p1 p2 = X at *
  have hzX := id_sz hX
  have hsX := id_zs hX
  go_enter Try.func9, Try.ntmps9
  go_wp2_with (first
    | (go_at_call 25; (with_reducible refine hmay.mono ?_); rintro e w1 ⟨rfl, hb1⟩; have s1 := (HB.out _ hb1).1; have s2 := (HB.out _ hb1).2.1; have hb01 := below_two hb0 hb1)
    | (go_at_call 19; (refine (HN.out _ hb01).mono ?_); rintro e w2 ⟨rfl, hb2⟩; have hb12 := below_two hb1 hb2; have hb02 := below_two hb01 hb2)
    | ((with_reducible refine st_row 27 11 24 w2.heap.size 27 (bv X).toArray zid ?_ ?_ ?_ hzX hsX (bvArr_all X) ?_); rfl; rfl; exact Blk.new w2 27 zid; intro w4 hb4 hg4 hsz4; have q4 := run_loadId hb4.range hX; have hz2 := hb2.size; have hb14 := (hb12.alloc hb12.size (.cells zid 27)).grown hg4 (Nat.le_trans hb12.size ((Below.refl w2.heap.size w2).alloc (Nat.le_refl _) (.cells zid 27)).size) (fun k hk => by cases hk; exact hb12.size); have hb04 := below_two hb0 hb14)
    | (go_at_call 26; (refine (HH.out _ hb04).mono ?_); rintro e w5 ⟨rfl, hb5⟩; have hb15 := below_two hb14 hb5; have hb05 := below_two hb04 hb5; have q5 := run_loadId (hb4.below hb5 hb4.lt).range hX; have k5 := (HB.out _ hb15).2.2)
    | ((with_reducible refine st_row 27 8 57 (w.heap.size + 1 + 1) 27 (bv X).toArray zid ?_ ?_ ?_ hzX hsX (bvArr_all X) ?_); rfl; rfl; exact k5; intro w6 hb6 hg6 hsz6))
  (try simp only [Exit.inBlock, Exit.then])
  refine ret_ct 8 9 (w.heap.size + 1 + 1) X Try.results9 rfl hb6.range hX rfl ?_
  exact ⟨rfl, hb05.grown hg6 hb05.size (fun k hk => by cases hk; omega)⟩
end Go.Proofs.Ytgokompppadogaa
