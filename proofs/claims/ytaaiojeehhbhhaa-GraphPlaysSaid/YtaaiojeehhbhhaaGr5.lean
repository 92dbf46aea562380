/-
  graph.Add.
-/
import Derived.Test.YtaaiojeehhbhhaaGr4
set_option linter.unusedVariables false
set_option linter.unusedSimpArgs false
namespace Go.Proofs.Ytaaiojeehhbhhaa
open Go.RowKit

/-- what may have turned: the blocks of P, and new ones. -/
structure Chg (P : Nat → Prop) (w w' : World) : Prop where
  os : w'.os = w.os
  tape : w'.tape = w.tape
  output : w'.output = w.output
  size : w.heap.size ≤ w'.heap.size
  block : ∀ i, i < w.heap.size → ¬ P i → w'.heap[i]? = w.heap[i]?
section
variable {P Q : Nat → Prop} {w w1 w2 w' : World}
theorem Chg.refl (P : Nat → Prop) (w : World) : Chg P w w := ⟨rfl, rfl, rfl, Nat.le_refl _, fun _ _ _ => rfl⟩
theorem Chg.below (h : Below w.heap.size w w') : Chg P w w' := ⟨h.os, h.tape, h.output, h.size, fun i hi _ => h.block i hi⟩
theorem Chg.then (h : Chg P w w1) (k : Chg Q w1 w2) (hq : ∀ i, Q i → P i ∨ w.heap.size ≤ i) : Chg P w w2 :=
  ⟨k.os.trans h.os, k.tape.trans h.tape, k.output.trans h.output, Nat.le_trans h.size k.size, fun i hi hp => (k.block i (Nat.lt_of_lt_of_le hi h.size) (fun hQ => by rcases hq i hQ with h' | h'; exact hp h'; omega)).trans (h.block i hi hp)⟩
theorem Chg.grown {row : Option Nat} (h : w.grownBy w' row) (hr : ∀ k, row = some k → P k) : Chg P w w' :=
  ⟨h.os, h.tape, h.output, h.size, fun i hi hp => h.block i hi (fun e => hp (hr i e.symm))⟩
theorem Chg.toBelow {B : Nat} {w0 : World} (h : Chg P w w') (hb : Below B w0 w) (hz : B ≤ w.heap.size) (hp : ∀ k, P k → B ≤ k) : Below B w0 w' :=
  ⟨h.os.trans hb.os, h.tape.trans hb.tape, h.output.trans hb.output, Nat.le_trans hb.size h.size, fun i hi => (h.block i (by omega) (fun hP => by have := hp i hP; omega)).trans (hb.block i hi)⟩
theorem Chg.cell (h : Chg P w w') {p : Addr} {v : Value} (hv : w.cell? p = some v) (hp : ¬ P p.block) : w'.cell? p = some v := by
  have hl := World.block_lt_of_cell? _ _ hv
  unfold World.cell? at hv ⊢
  rw [h.block _ hl hp]
  exact hv
theorem Chg.blk {g : Nat} {t : TypeId} {cs : Array Value} (h : Chg P w w') (hb : Blk w g t cs) (hp : ¬ P g) : Blk w' g t cs := (h.block g hb.lt hp).trans hb
theorem Chg.imap {g : Nat} {kv : KV} (h : Chg P w w') (hb : IMap w g kv) (hp : ¬ P g) : IMap w' g kv := ⟨(h.block g hb.lt hp).trans hb.heap, hb.ids, hb.nd⟩
theorem Chg.rids {A : Option Addr} {n : Nat} {L : List (List Int)} (h : Chg P w w') (hr : RIds w A n L) (hp : ∀ ad, A = some ad → ¬ P ad.block) : RIds w' A n L :=
  hr.keep fun b o v e i hv => h.cell hv (by have := hp _ e; exact this)
theorem Chg.oids {B n : Nat} {v : Value} {L : List (List Int)} (h : Chg P w w') (ho : OIds w B v n L) (hp : ∀ k, v.ownBlock = some k → ¬ P k) : OIds w' B v n L := by
  refine ⟨⟨ho.1.1, ?_⟩, ho.2⟩
  rcases ho.1.2 with h0 | ⟨g, cap, cur, h1, h2, h3, h4⟩
  · exact .inl h0
  · refine .inr ⟨g, cap, cur, h1, h2, ?_, h4⟩
    rw [h.block g (Array.getElem?_eq_some_iff.1 h3).1 (hp g (by rw [h1]; rfl))]
    exact h3
theorem Chg.gr {R : Nat → Prop} {g : Nat} {G : Gph} (h : Chg P w w') (hg : GrAt w R g G) (hp : ∀ k, R k → ¬ P k) : GrAt w' R g G := by
  obtain ⟨A, n, c, mb, kv, hg⟩ := hg
  refine ⟨A, n, c, mb, kv, h.blk hg.blk (hp _ hg.pg), h.imap hg.map (hp _ hg.pm), h.oids hg.own fun k e => hp _ (hg.pi k e), hg.pg, hg.pm, hg.pi, hg.len, fun j hj => ?_⟩
  obtain ⟨A', k', c', a, b, d, e⟩ := hg.par j hj
  exact ⟨A', k', c', a, b, h.rids d fun ad e' => hp _ (e ad e').1, fun ad e' => ⟨(e ad e').1, (e ad e').2.1, (e ad e').2.2.1, Nat.lt_of_lt_of_le (e ad e').2.2.2 h.size⟩⟩
end
def AddPost (x : Int) (P : Nat → Prop) (g : Nat) (G : Gph) (w : World) (e : Ending) (w' : World) : Prop := e = .returned (.int .i64 x) ∧ GrAt w' (fun k => P k ∨ w.heap.size ≤ k) g G ∧ Chg P w w'
theorem add_nil (x : IdL) (A : Option Addr) (n c : Nat) (w : World) : Calls Try.prog 10 #[.pointer none, ida x, .slice A n c] w (IntP 2 w) := by
  go_enter Try.func10, Try.ntmps10
  go_wp2
  go_ret
  exact ⟨rfl, ((Below.refl _ _).alloc (Nat.le_refl _) _).alloc (by simp) _⟩
/-- the world behind the boxes of Add. -/
abbrev addW (g : Nat) (x : IdL) (w : World) : World := ((w.alloc (.cells #[.pointer (some ⟨g, 0, none⟩)] 23)).alloc (.cells (bv x).toArray 27)).drew
theorem addW_below (g : Nat) (x : IdL) (w : World) : Below w.heap.size w (addW g x w) := below_drewN (((Below.refl _ _).alloc (Nat.le_refl _) _).alloc (by simp) _) 1
theorem addW_size (g : Nat) (x : IdL) (w : World) : (addW g x w).heap.size = w.heap.size + 2 := by simp [addW]
theorem addW_box (g : Nat) (x : IdL) (w : World) : Blk (addW g x w) w.heap.size 23 #[.pointer (some ⟨g, 0, none⟩)] := ((Blk.new w 23 _).alloc _).drew
theorem addW_id (g : Nat) (x : IdL) (w : World) : Blk (addW g x w) (w.heap.size + 1) 27 (bv x).toArray := by
  have := Blk.new (w.alloc (.cells #[.pointer (some ⟨g, 0, none⟩)] 23)) 27 (bv x).toArray
  rw [World.size_alloc] at this
  exact this.drew
/-- an id that is there already. -/
theorem add_was (P : Nat → Prop) (g : Nat) (G : Gph) (x : IdL) (A : Option Addr) (n c : Nat) (ps was : List IdL) (w : World) (h : GrAt w P g G) (hx : IsId x) (hA : RIds w A n ps) (hn : n ≤ 1000000000) (hl : look G x = some was) (hw : was.length ≤ 1000000000) :
    Calls Try.prog 10 #[.pointer (some ⟨g, 0, none⟩), ida x, .slice A n c] w (AddPost (addE G x ps) P g (addG G x ps) w) := by
  rw [addE_some hl, addG_some hl]
  obtain ⟨A0, n0, c0, mb, kv, hm⟩ := h
  have hb0 := addW_below g x w
  have h1 := hm.below hb0
  have k0 : (addW g x w).cell? ⟨w.heap.size, 0, none⟩ = some (.pointer (some ⟨g, 0, none⟩)) := (addW_box g x w).cell 0
  have k1 : (addW g x w).cell? ⟨g, 1, none⟩ = some (.map (some mb)) := h1.blk.cell 1
  have k2 := (addW_id g x w).range
  have hlk := h1.lookRun hx true
  have hps : psOf G x = was := by unfold psOf; rw [hl]; rfl
  have hhas : hasB G x = true := by rw [← look_isSome, hl]; rfl
  obtain ⟨A', k', c', hv, hkc, hra, _⟩ := h1.get x
  rw [hv, hhas] at hlk
  simp only [if_true] at hlk
  rw [hps] at hra
  have heq := eqIds_any A' A k' n c' c was ps (addW g x w) hra (hA.below hb0) (by rw [← hra.1]; omega) hn
  have hfin : ∀ (r : Int) (q : Nat), AddPost r P g G w (.returned (.int .i64 r)) (((w.alloc (.cells #[.pointer (some ⟨g, 0, none⟩)] 23)).alloc (.cells (bv x).toArray 27)).drewN q) := fun r q =>
    have hbq := below_drewN (((Below.refl w.heap.size w).alloc (Nat.le_refl _) (.cells #[.pointer (some ⟨g, 0, none⟩)] 23)).alloc (by simp) (.cells (bv x).toArray 27)) q
    ⟨rfl, ⟨A0, n0, c0, mb, kv, ((hm.below hbq).mono fun k hk => .inl hk)⟩, Chg.below hbq⟩
  have hu := idTy
  have hsz := idSz hx
  unfold QuietB at heq
  have HEQ := Lib.hid heq
  have HF := Lib.hid hfin
  clear heq hfin hv hps hhas hl hw
  by_cases he : was = ps
  · rw [if_pos he]
    have hq := HEQ.out
    rw [decide_eq_true he] at hq
    have HQ := Lib.hid hq
    clear hq HEQ
    go_enter Try.func10, Try.ntmps10
    go_wp2
    go_region_held3 (fun w' => w'.cell? ⟨w.heap.size, 0, none⟩ = some (.pointer (some ⟨g, 0, none⟩)) ∧ w'.cell? ⟨g, 1, none⟩ = some (.map (some mb)) ∧ w'.rangeAt (w.heap.size + 1) 0 (bv x) ∧ (Instr.lookup 54 (.map (some mb)) (ida x) true).run Try.prog w' = .ok (.tuple #[.slice A' k' c', .bool true]) w')
      (exact ⟨k0, k1, k2, hlk⟩) (fail)
    go_wp2_with (go_at_call 31; (with_reducible refine HQ.out.mono ?_); rintro e w1 ⟨rfl, q, rfl⟩)
    go_ret
    exact HF.out _ _
  · rw [if_neg he]
    have hq := HEQ.out
    rw [decide_eq_false he] at hq
    have HQ := Lib.hid hq
    clear hq HEQ
    go_enter Try.func10, Try.ntmps10
    go_wp2
    go_region_held3 (fun w' => w'.cell? ⟨w.heap.size, 0, none⟩ = some (.pointer (some ⟨g, 0, none⟩)) ∧ w'.cell? ⟨g, 1, none⟩ = some (.map (some mb)) ∧ w'.rangeAt (w.heap.size + 1) 0 (bv x) ∧ (Instr.lookup 54 (.map (some mb)) (ida x) true).run Try.prog w' = .ok (.tuple #[.slice A' k' c', .bool true]) w')
      (exact ⟨k0, k1, k2, hlk⟩) (fail)
    go_wp2_with (go_at_call 31; (with_reducible refine HQ.out.mono ?_); rintro e w1 ⟨rfl, q, rfl⟩)
    go_ret
    exact HF.out _ _
set_option maxRecDepth 100000 in
set_option maxHeartbeats 2000000 in
theorem add_none (P : Nat → Prop) (g : Nat) (G : Gph) (x : IdL) (A : Option Addr) (n c : Nat) (ps : List IdL) (w : World) (h : GrAt w P g G) (hx : IsId x) (hA : RIds w A n ps) (hn : n ≤ 1000000000) (hl : look G x = none) (hall : ps.all (hasB G) = false) :
    Calls Try.prog 10 #[.pointer (some ⟨g, 0, none⟩), ida x, .slice A n c] w (AddPost 6 P g G w) := by
  obtain ⟨A0, n0, c0, mb, kv, hm⟩ := h
  have hb0 := addW_below g x w
  have h1 := hm.below hb0
  have k0 : (addW g x w).cell? ⟨w.heap.size, 0, none⟩ = some (.pointer (some ⟨g, 0, none⟩)) := (addW_box g x w).cell 0
  have k1 : (addW g x w).cell? ⟨g, 1, none⟩ = some (.map (some mb)) := h1.blk.cell 1
  have k2 := (addW_id g x w).range
  have hlk := h1.lookRun hx true
  have hhas : hasB G x = false := by rw [← look_isSome, hl]; rfl
  obtain ⟨A', k', c', hv, hkc, hra, hnn, _⟩ := h1.get x
  obtain ⟨rfl, rfl, rfl⟩ := hnn hl
  rw [hv, hhas] at hlk
  simp only [if_true] at hlk
  have hcf := contains_any P g w.heap.size G A n c ps (addW g x w) ⟨A0, n0, c0, mb, kv, h1⟩ (hA.below hb0) hn k0
  rw [hall] at hcf
  have hu := idTy
  have hsz := idSz hx
  unfold BoolP at hcf
  simp only [Bool.not_true, Bool.not_false] at hcf
  have HCF := Lib.hid hcf
  clear hcf hv hhas hnn hra
  go_enter Try.func10, Try.ntmps10
  go_wp2
  go_region_held3 (fun w' => w'.cell? ⟨w.heap.size, 0, none⟩ = some (.pointer (some ⟨g, 0, none⟩)) ∧ w'.cell? ⟨g, 1, none⟩ = some (.map (some mb)) ∧ w'.rangeAt (w.heap.size + 1) 0 (bv x) ∧ (Instr.lookup 54 (.map (some mb)) (ida x) true).run Try.prog w' = .ok (.tuple #[.slice none 0 0, .bool false]) w')
    (exact ⟨k0, k1, k2, hlk⟩) (fail)
  go_wp2_with (go_at_call 32; (with_reducible refine HCF.out.mono ?_); rintro e w5 ⟨rfl, hb5⟩; have hb05 := below_then hb0 hb0.size hb5; have l5 := run_loadId (w := w5) (b := w.heap.size + 1) (o := 0) (fun j v hj => cell_later hb5 (k2 j v hj)) hx)
  go_ret
  exact ⟨rfl, ⟨A0, n0, c0, mb, kv, (hm.below hb05).mono fun k hk => .inl hk⟩, Chg.below hb05⟩
set_option maxRecDepth 100000 in
set_option maxHeartbeats 2000000 in
theorem add_zeroId (P : Nat → Prop) (g : Nat) (G : Gph) (x : IdL) (A : Option Addr) (n c : Nat) (ps : List IdL) (w : World) (h : GrAt w P g G) (hx : IsId x) (hA : RIds w A n ps) (hn : n ≤ 1000000000) (hl : look G x = none) (hall : ps.all (hasB G) = true) (hz : x = zeroL) :
    Calls Try.prog 10 #[.pointer (some ⟨g, 0, none⟩), ida x, .slice A n c] w (AddPost 1 P g G w) := by
  have hzz : ∀ W, (binOp .eql 27 (ida x) (.agg #[.int .u8 0, .int .u8 0, .int .u8 0, .int .u8 0, .int .u8 0, .int .u8 0, .int .u8 0, .int .u8 0, .int .u8 0, .int .u8 0, .int .u8 0, .int .u8 0, .int .u8 0, .int .u8 0, .int .u8 0, .int .u8 0, .int .u8 0, .int .u8 0, .int .u8 0, .int .u8 0])).run Try.prog W = .ok (.bool true) W := fun W => by
    have := ida_eql hx zeroL_id W
    rw [show (x == zeroL) = true from by simp [hz]] at this
    exact this
  clear hz
  obtain ⟨A0, n0, c0, mb, kv, hm⟩ := h
  have hb0 := addW_below g x w
  have h1 := hm.below hb0
  have k0 : (addW g x w).cell? ⟨w.heap.size, 0, none⟩ = some (.pointer (some ⟨g, 0, none⟩)) := (addW_box g x w).cell 0
  have k1 : (addW g x w).cell? ⟨g, 1, none⟩ = some (.map (some mb)) := h1.blk.cell 1
  have k2 := (addW_id g x w).range
  have hlk := h1.lookRun hx true
  have hhas : hasB G x = false := by rw [← look_isSome, hl]; rfl
  obtain ⟨A', k', c', hv, hkc, hra, hnn, _⟩ := h1.get x
  obtain ⟨rfl, rfl, rfl⟩ := hnn hl
  rw [hv, hhas] at hlk
  simp only [if_true] at hlk
  have hcf := contains_any P g w.heap.size G A n c ps (addW g x w) ⟨A0, n0, c0, mb, kv, h1⟩ (hA.below hb0) hn k0
  rw [hall] at hcf
  have hu := idTy
  have hsz := idSz hx
  unfold BoolP at hcf
  simp only [Bool.not_true, Bool.not_false] at hcf
  have HCF := Lib.hid hcf
  clear hcf hv hhas hnn hra
  go_enter Try.func10, Try.ntmps10
  go_wp2
  go_region_held3 (fun w' => w'.cell? ⟨w.heap.size, 0, none⟩ = some (.pointer (some ⟨g, 0, none⟩)) ∧ w'.cell? ⟨g, 1, none⟩ = some (.map (some mb)) ∧ w'.rangeAt (w.heap.size + 1) 0 (bv x) ∧ (Instr.lookup 54 (.map (some mb)) (ida x) true).run Try.prog w' = .ok (.tuple #[.slice none 0 0, .bool false]) w')
    (exact ⟨k0, k1, k2, hlk⟩) (fail)
  go_wp2_with (go_at_call 32; (with_reducible refine HCF.out.mono ?_); rintro e w5 ⟨rfl, hb5⟩; have hb05 := below_then hb0 hb0.size hb5; have l5 := run_loadId (w := w5) (b := w.heap.size + 1) (o := 0) (fun j v hj => cell_later hb5 (k2 j v hj)) hx)
  go_ret
  exact ⟨rfl, ⟨A0, n0, c0, mb, kv, (hm.below hb05).mono fun k hk => .inl hk⟩, Chg.below hb05⟩
set_option maxRecDepth 100000 in
set_option maxHeartbeats 2000000 in
theorem add_full (P : Nat → Prop) (g : Nat) (G : Gph) (x : IdL) (A : Option Addr) (n c : Nat) (ps : List IdL) (w : World) (h : GrAt w P g G) (hx : IsId x) (hA : RIds w A n ps) (hn : n ≤ 1000000000) (hl : look G x = none) (hall : ps.all (hasB G) = true) (hz : x ≠ zeroL) (hbig : 5000 ≤ G.length) :
    Calls Try.prog 10 #[.pointer (some ⟨g, 0, none⟩), ida x, .slice A n c] w (AddPost 5 P g G w) := by
  have hzz : ∀ W, (binOp .eql 27 (ida x) (.agg #[.int .u8 0, .int .u8 0, .int .u8 0, .int .u8 0, .int .u8 0, .int .u8 0, .int .u8 0, .int .u8 0, .int .u8 0, .int .u8 0, .int .u8 0, .int .u8 0, .int .u8 0, .int .u8 0, .int .u8 0, .int .u8 0, .int .u8 0, .int .u8 0, .int .u8 0, .int .u8 0])).run Try.prog W = .ok (.bool false) W := fun W => by
    have := ida_eql hx zeroL_id W
    rw [show (x == zeroL) = false from by simpa using hz] at this
    exact this
  clear hz
  obtain ⟨A0, n0, c0, mb, kv, hm⟩ := h
  have hb0 := addW_below g x w
  have h1 := hm.below hb0
  have k0 : (addW g x w).cell? ⟨w.heap.size, 0, none⟩ = some (.pointer (some ⟨g, 0, none⟩)) := (addW_box g x w).cell 0
  have k1 : (addW g x w).cell? ⟨g, 1, none⟩ = some (.map (some mb)) := h1.blk.cell 1
  have k2 := (addW_id g x w).range
  have hlk := h1.lookRun hx true
  have hhas : hasB G x = false := by rw [← look_isSome, hl]; rfl
  obtain ⟨A', k', c', hv, hkc, hra, hnn, _⟩ := h1.get x
  obtain ⟨rfl, rfl, rfl⟩ := hnn hl
  rw [hv, hhas] at hlk
  simp only [if_true] at hlk
  have hcf := contains_any P g w.heap.size G A n c ps (addW g x w) ⟨A0, n0, c0, mb, kv, h1⟩ (hA.below hb0) hn k0
  rw [hall] at hcf
  have hu := idTy
  have hsz := idSz hx
  unfold BoolP at hcf
  simp only [Bool.not_true, Bool.not_false] at hcf
  have HCF := Lib.hid hcf
  clear hcf hv hhas hnn hra
  have hn0 : (5000 : Int) ≤ (n0 : Int) := by
    have := hm.own.2.2
    rw [ids_length] at this
    omega
  go_enter Try.func10, Try.ntmps10
  go_wp2
  go_region_held3 (fun w' => w'.cell? ⟨w.heap.size, 0, none⟩ = some (.pointer (some ⟨g, 0, none⟩)) ∧ w'.cell? ⟨g, 1, none⟩ = some (.map (some mb)) ∧ w'.rangeAt (w.heap.size + 1) 0 (bv x) ∧ (Instr.lookup 54 (.map (some mb)) (ida x) true).run Try.prog w' = .ok (.tuple #[.slice none 0 0, .bool false]) w')
    (exact ⟨k0, k1, k2, hlk⟩) (fail)
  go_wp2_with (go_at_call 32; (with_reducible refine HCF.out.mono ?_); rintro e w5 ⟨rfl, hb5⟩; have hb05 := below_then hb0 hb0.size hb5; have l5 := run_loadId (w := w5) (b := w.heap.size + 1) (o := 0) (fun j v hj => cell_later hb5 (k2 j v hj)) hx; have m0 := cell_later hb5 k0; have h5 := h1.below hb5; have m1 : w5.cell? ⟨g, 0, none⟩ = some (.slice A0 n0 c0) := h5.blk.cell 0)
  go_ret
  exact ⟨rfl, ⟨A0, n0, c0, mb, kv, (hm.below hb05).mono fun k hk => .inl hk⟩, Chg.below hb05⟩
end Go.Proofs.Ytaaiojeehhbhhaa
