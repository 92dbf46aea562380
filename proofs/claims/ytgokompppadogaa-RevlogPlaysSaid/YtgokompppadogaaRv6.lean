/-
  The log: Node of a place, Chain.
-/
import Derived.Test.YtgokompppadogaaRv5
set_option linter.unusedVariables false
set_option linter.unusedSimpArgs false
namespace Go.Proofs.Ytgokompppadogaa
open Go.RowKit

abbrev zW (w : World) : World := w.alloc (.cells zlit 27)
theorem zW_below (w : World) : Below w.heap.size w (zW w) := (Below.refl _ _).alloc (Nat.le_refl _) _
theorem zW_blk (w : World) : Blk (zW w) w.heap.size 27 zid := Blk.new w 27 zlit
def NodP (x : IdL) (b : Bool) (w : World) (e : Ending) (w' : World) : Prop := e = .returned (.tuple #[ida x, .bool b]) ∧ Below w.heap.size w w'
set_option maxRecDepth 100000 in
set_option maxHeartbeats 2000000 in
theorem node_out (v : Value) (k m : Int) (w : World) (hlen : Calls Try.prog 14 #[v] (zW w) (IntP m (zW w))) (hk : k < 0 ∨ m ≤ k) :
    Calls Try.prog 23 #[v, .int .i64 k] w (NodP zeroL false w) := by
  have hb0 := zW_below w
  have h1 := zW_blk w
  have hu := idTy
  have hzX := id_sz zeroL_id
  have hsX := id_zs zeroL_id
  unfold IntP at hlen
  by_cases h0 : k < 0
  · go_enter Try.func23, Try.ntmps23
    go_wp2_with ((with_reducible refine st_row 27 4 14 w.heap.size 27 (bv zeroL).toArray zid ?_ ?_ ?_ hzX hsX (bvArr_all zeroL) ?_); rfl; rfl; exact h1; intro w4 hb4 hg4 hsz4)
    (try simp only [Exit.inBlock, Exit.then])
    refine ret_ct 4 5 w.heap.size zeroL Try.results23 rfl hb4.range zeroL_id rfl ?_
    exact ⟨rfl, hb0.grown hg4 hb0.size (fun k hk => by cases hk; omega)⟩
  · have hk' : m ≤ k := by omega
    go_enter Try.func23, Try.ntmps23
    go_wp2_with (first
      | (go_at_call 14; refine hlen.mono ?_; rintro e w1 ⟨rfl, hb1⟩; have h2 := h1.below hb1 h1.lt)
      | ((with_reducible refine st_row 27 4 14 w.heap.size 27 (bv zeroL).toArray zid ?_ ?_ ?_ hzX hsX (bvArr_all zeroL) ?_); rfl; rfl; exact h2; intro w4 hb4 hg4 hsz4))
    (try simp only [Exit.inBlock, Exit.then])
    refine ret_ct 4 5 w.heap.size zeroL Try.results23 rfl hb4.range zeroL_id rfl ?_
    have hbb := below_two hb0 hb1
    exact ⟨rfl, hbb.grown hg4 hbb.size (fun k hk => by cases hk; omega)⟩
set_option maxRecDepth 100000 in
set_option maxHeartbeats 2000000 in
theorem node_in (P : Nat → Prop) (g : Nat) (L : Lg) (k : Nat) (w : World) (h : LgAt w P g L) (hk : k < L.length) :
    Calls Try.prog 23 #[.pointer (some ⟨g, 0, none⟩), .int .i64 (k : Int)] w (NodP (rv L k).node true w) := by
  have hb0 := zW_below w
  have h1 := zW_blk w
  have hu := idTy
  have hlen := len_any P g L _ (h.below hb0)
  unfold IntP at hlen
  obtain ⟨A, n, c, mb, kv, Vs, hm⟩ := h
  have hn := hm.len
  subst hn
  obtain ⟨b, o, V, rfl, _, q0, _⟩ := hm.at_ hk
  have i0 := (hm.inv.ids k hk).1
  have c0 : w.cell? ⟨g, 0, none⟩ = some (.slice (some ⟨b, o, none⟩) L.length c) := hm.blk.cell 0
  have HS := Lib.hid (show ∀ W, Below w.heap.size w W → W.cell? ⟨g, 0, none⟩ = some (.slice (some ⟨b, o, none⟩) L.length c) ∧ (loadId ⟨b, o + k * 61, none⟩).run Try.prog W = .ok (ida (rv L k).node) W from fun W hW =>
    ⟨cell_later hW c0, run_loadId (fun i v hv => cell_later hW (q0 i v hv)) i0⟩)
  have k0 : (0 : Int) ≤ (k : Int) := by omega
  have k00 : ¬ (k : Int) < 0 := by omega
  have k1 : (k : Int) < (L.length : Int) := by omega
  have hzX := id_sz i0
  have hsX := id_zs i0
  clear hm c0 q0
  generalize (rv L k).node = x at *
  go_enter Try.func23, Try.ntmps23
  go_wp2_with (first
    | (go_at_call 14; refine hlen.mono ?_; rintro e w1 ⟨rfl, hb1⟩; have h2 := h1.below hb1 h1.lt; have hb01 := below_two hb0 hb1; have s0 := (HS.out _ hb01).1; have s1 := (HS.out _ hb01).2)
    | ((with_reducible refine st_row 27 4 22 w.heap.size 27 (bv x).toArray zid ?_ ?_ ?_ hzX hsX (bvArr_all x) ?_); rfl; rfl; exact h2; intro w4 hb4 hg4 hsz4))
  (try simp only [Exit.inBlock, Exit.then])
  refine ret_ct 4 5 w.heap.size x Try.results23 rfl hb4.range i0 rfl ?_
  exact ⟨rfl, hb01.grown hg4 hb01.size (fun k hk => by cases hk; omega)⟩
def nodI (L : Lg) (k : Int) : IdL := if 0 ≤ k ∧ k < L.length then (rv L k.toNat).node else zeroL
def nodB (L : Lg) (k : Int) : Bool := decide (0 ≤ k ∧ k < L.length)
theorem nodeAt_any (P : Nat → Prop) (g : Nat) (L : Lg) (k : Int) (w : World) (h : LgAt w P g L) : Calls Try.prog 23 #[.pointer (some ⟨g, 0, none⟩), .int .i64 k] w (NodP (nodI L k) (nodB L k) w) := by
  unfold nodI nodB
  by_cases hk : 0 ≤ k ∧ k < L.length
  · rw [if_pos hk, decide_eq_true hk]
    have e : ((k.toNat : Nat) : Int) = k := by omega
    have := node_in P g L k.toNat w h (by omega)
    rwa [e] at this
  · rw [if_neg hk, decide_eq_false hk]
    exact node_out _ k _ w (len_any P g L _ (h.below (zW_below w))) (by omega)
theorem nodeAt_nil (k : Int) (w : World) : Calls Try.prog 23 #[.pointer none, .int .i64 k] w (NodP zeroL false w) := node_out _ k 0 w (len_nil _) (by omega)
/-! ### Chain -/
theorem chain_out (v : Value) (k m : Int) (w : World) (hlen : Calls Try.prog 14 #[v] w (IntP m w)) (hk : k < 0 ∨ m ≤ k) :
    Calls Try.prog 13 #[v, .int .i64 k] w (IntP (-1) w) := by
  unfold IntP at hlen
  by_cases h0 : k < 0
  · go_enter Try.func13, Try.ntmps13
    go_wp2
    go_ret
    exact ⟨rfl, Below.refl _ _⟩
  · have hk' : m ≤ k := by omega
    go_enter Try.func13, Try.ntmps13
    go_wp2_with (go_at_call 14; refine hlen.mono ?_; rintro e w1 ⟨rfl, hb1⟩)
    go_ret
    exact ⟨rfl, hb1⟩
theorem as_whole (A : Option Addr) (n c : Nat) (w : World) : (Instr.typeAssert (.iface 93 (.agg #[.slice A n c])) 70 85 true).run Try.prog w = .ok (.tuple #[.agg #[.slice none 0 0, .int .i64 0], .bool false]) w := by kernel_rfl
theorem as_changed (A : Option Addr) (n c : Nat) (x : Int) (w : World) : (Instr.typeAssert (.iface 85 (.agg #[.slice A n c, .int .i64 x])) 70 85 true).run Try.prog w = .ok (.tuple #[.agg #[.slice A n c, .int .i64 x], .bool true]) w := by kernel_rfl
set_option maxRecDepth 100000 in
set_option maxHeartbeats 2000000 in
theorem chain_in (P : Nat → Prop) (g : Nat) (L : Lg) (k : Nat) (w : World) (h : LgAt w P g L) (hk : k < L.length) :
    Calls Try.prog 13 #[.pointer (some ⟨g, 0, none⟩), .int .i64 (k : Int)] w (IntP ((rv L k).chain : Nat) w) := by
  have hlen := len_any P g L _ h
  unfold IntP at hlen
  obtain ⟨A, n, c, mb, kv, Vs, hm⟩ := h
  have hn := hm.len
  subst hn
  obtain ⟨b, o, V, rfl, _, _, _, _, q0, B, kk, d, body, _, _, _, hV⟩ := hm.at_ hk
  have c0 : w.cell? ⟨g, 0, none⟩ = some (.slice (some ⟨b, o, none⟩) L.length c) := hm.blk.cell 0
  have k0 : (0 : Int) ≤ (k : Int) := by omega
  have k00 : ¬ (k : Int) < 0 := by omega
  have k1 : (k : Int) < (L.length : Int) := by omega
  have a1 := as_whole
  have a2 := as_changed
  rcases hV with ⟨hc, _, rfl⟩ | ⟨hc, _, rfl⟩
  · rw [hc]
    clear hm hc
    go_enter Try.func13, Try.ntmps13
    go_wp2_with (go_at_call 14; refine hlen.mono ?_; rintro e w1 ⟨rfl, hb1⟩; have s0 := cell_later hb1 c0; have s1 := cell_later hb1 q0)
    go_ret
    exact ⟨rfl, hb1.alloc hb1.size _⟩
  · clear hm hc
    generalize ((rv L k).chain : Nat) = ch at *
    go_enter Try.func13, Try.ntmps13
    go_wp2_with (go_at_call 14; refine hlen.mono ?_; rintro e w1 ⟨rfl, hb1⟩; have s0 := cell_later hb1 c0; have s1 := cell_later hb1 q0)
    go_ret
    exact ⟨rfl, hb1.alloc hb1.size _⟩
def chaI (L : Lg) (k : Int) : Int := if 0 ≤ k ∧ k < L.length then ((rv L k.toNat).chain : Nat) else -1
theorem chain_any (P : Nat → Prop) (g : Nat) (L : Lg) (k : Int) (w : World) (h : LgAt w P g L) : Calls Try.prog 13 #[.pointer (some ⟨g, 0, none⟩), .int .i64 k] w (IntP (chaI L k) w) := by
  unfold chaI
  by_cases hk : 0 ≤ k ∧ k < L.length
  · rw [if_pos hk]
    have e : ((k.toNat : Nat) : Int) = k := by omega
    have := chain_in P g L k.toNat w h (by omega)
    rwa [e] at this
  · rw [if_neg hk]
    exact chain_out _ k _ w (len_any P g L _ h) (by omega)
theorem chain_nil (k : Int) (w : World) : Calls Try.prog 13 #[.pointer none, .int .i64 k] w (IntP (-1) w) := chain_out _ k 0 w (len_nil _) (by omega)
end Go.Proofs.Ytgokompppadogaa
