/-
  graph.Add: an id that goes.
-/
import Derived.Test.YtaaiojeehhbhhaaGr5
set_option linter.unusedVariables false
set_option linter.unusedSimpArgs false
namespace Go.Proofs.Ytaaiojeehhbhhaa
open Go.RowKit
open Go.ChangeMaps (setBlock heap_setBlock_same heap_setBlock_other)
theorem set_grown (w : World) (g i : Nat) (v : Value) : w.grownBy (w.setCell ⟨g, i, none⟩ v) (some g) := ⟨rfl, rfl, rfl, by simp [World.setCell], fun k _ hk => Below.heap_setCell w _ v k (fun e => hk (by rw [e]))⟩

theorem cell_set_far (w : World) (g b i j : Nat) (v : Value) (h : b ≠ g) : (w.setCell ⟨g, j, none⟩ v).cell? ⟨b, i, none⟩ = w.cell? ⟨b, i, none⟩ := by
  unfold World.cell?
  rw [show (w.setCell ⟨g, j, none⟩ v).heap[b]? = w.heap[b]? from heap_setCell_other w _ b v h]
theorem IMap.cells {w : World} {g : Nat} {kv : KV} (h : IMap w g kv) (o : Obj) {p : Addr} {v : Value} (hv : w.cell? p = some v) : p.block ≠ g ∧ (setBlock w g o).cell? p = some v := by
  have hne : p.block ≠ g := fun e => by
    unfold World.cell? at hv
    rw [e, h.heap] at hv
    simp [mobj] at hv
  exact ⟨hne, (h.setb_grown o).cell hv (fun e => hne (by injection e))⟩
theorem IMap.notOwn {w : World} {g : Nat} {kv : KV} (h : IMap w g kv) {B n : Nat} {v : Value} {L : List (List Int)} (ho : OIds w B v n L) : some g ≠ v.ownBlock := fun e => by
  rcases ho.form with ⟨h0, _⟩ | ⟨gg, cap, cur, hv, _, _, _, _, hbk, _⟩
  · rw [h0] at e; simp [Value.ownBlock] at e
  · rw [hv] at e
    simp [Value.ownBlock] at e
    subst e
    have := h.heap
    unfold Blk at hbk
    rw [this] at hbk
    simp [mobj] at hbk
theorem IMap.notBlk {w : World} {g g' : Nat} {kv : KV} {t : TypeId} {cs : Array Value} (h : IMap w g kv) (hb : Blk w g' t cs) : g ≠ g' := fun e => by
  subst e
  have := h.heap
  unfold Blk at hb
  rw [this] at hb
  simp [mobj] at hb
/-- an id added: the graph behind it. -/
theorem gr_added {w wa w6 w8 : World} {P : Nat → Prop} {g : Nat} {A0 A6 A8 : Option Addr} {n0 c0 c6 n c8 mb : Nat} {kv : KV} {G : Gph} {x : IdL} {ps : List IdL} (hm : GrMem w P g A0 n0 c0 mb kv G) (hx : IsId x) (hl : look G x = none)
    (hb : Below w.heap.size w wa) (hg6 : wa.grownBy w6 (Value.slice A0 n0 c0).ownBlock) (ho6 : OIds w6 0 (.slice A6 (n0 + 1) c6) (n0 + 1) (ids G ++ [x]))
    (hat : (Value.slice A6 (n0 + 1) c6).ownBlock = (Value.slice A0 n0 c0).ownBlock ∨ (Value.slice A6 (n0 + 1) c6).ownBlock = some wa.heap.size)
    (h7 : IMap (w6.setCell ⟨g, 0, none⟩ (.slice A6 (n0 + 1) c6)) mb kv) (hb8 : Below w6.heap.size (w6.setCell ⟨g, 0, none⟩ (.slice A6 (n0 + 1) c6)) w8) (ho8 : OIds w8 w6.heap.size (.slice A8 n c8) n ps) (hc8 : n ≤ c8)
    (hblk : Blk w6 g 56 #[.slice A0 n0 c0, .map (some mb)]) :
    GrAt (setBlock w8 mb (mobj (kvSet kv x (.slice A8 n c8)))) (fun k => P k ∨ w.heap.size ≤ k) g (G ++ [⟨x, ps⟩]) ∧ Chg P w (setBlock w8 mb (mobj (kvSet kv x (.slice A8 n c8)))) := by
  have hz7 : (w6.setCell ⟨g, 0, none⟩ (.slice A6 (n0 + 1) c6)).heap.size = w6.heap.size := by simp
  have h7b := hblk.set_ 0 (.slice A6 (n0 + 1) c6)
  have hgl : g < w6.heap.size := hblk.lt
  have h8b := h7b.below hb8 hgl
  have h8m : IMap w8 mb kv := h7.below hb8 (by have := h7.lt; rw [hz7] at this; exact this)
  have hmg : mb ≠ g := h8m.notBlk h8b
  have hkn : kvHas kv x = false := by
    rw [hm.has]
    have := look_isSome (G := G) (x := x)
    rw [hl] at this
    exact this.symm
  have hks : kvSet kv x (.slice A8 n c8) = kv ++ [(x, .slice A8 n c8)] := by unfold kvSet; rw [hkn]; rfl
  have hsg := h8m.setb_grown (mobj (kvSet kv x (.slice A8 n c8)))
  have ho7 : OIds (w6.setCell ⟨g, 0, none⟩ (.slice A6 (n0 + 1) c6)) 0 (.slice A6 (n0 + 1) c6) (n0 + 1) (ids G ++ [x]) := ho6.kept (set_grown w6 g 0 _) (by
    cases e : (Value.slice A6 (n0 + 1) c6).ownBlock with
    | none => exact .inl rfl
    | some k =>
      refine .inr fun e' => ?_
      injection e' with e'
      subst e'
      rcases ho6.form with ⟨h0, _⟩ | ⟨gg, cap, cur, hv, _, _, _, _, hbk, _⟩
      · rw [h0] at e; simp [Value.ownBlock] at e
      · rw [hv] at e
        simp [Value.ownBlock] at e
        subst e
        exact Blk.ne_ hblk hbk (by decide) rfl)
  have ho8' : OIds w8 0 (.slice A6 (n0 + 1) c6) (n0 + 1) (ids G ++ [x]) := ho7.below (by rw [hz7]; exact hb8)
  have ho9 := ho8'.kept hsg (by
    have := h8m.notOwn ho8'
    cases e : (Value.slice A6 (n0 + 1) c6).ownBlock with
    | none => exact .inl rfl
    | some k => exact .inr (fun e' => this (by rw [e]; exact e'.symm)))
  have hown0 : ∀ k, (Value.slice A0 n0 c0).ownBlock = some k → P k ∧ k < w.heap.size := fun k e => ⟨hm.pi k e, (hm.own.own k e).2⟩
  have hsz : w.heap.size ≤ wa.heap.size := hb.size
  have hown6 : ∀ k, (Value.slice A6 (n0 + 1) c6).ownBlock = some k → P k ∨ w.heap.size ≤ k := fun k e => by
    rcases hat with h | h
    · rw [h] at e; exact .inl (hown0 k e).1
    · rw [h] at e; injection e with e; exact .inr (by omega)
  have hcell9 : ∀ (q : Addr) v, w.cell? q = some v → some q.block ≠ (Value.slice A0 n0 c0).ownBlock → q.block ≠ g → (setBlock w8 mb (mobj (kvSet kv x (.slice A8 n c8)))).cell? q = some v := fun q v hv h1 h2 => by
    have e1 := hg6.cell (cell_later hb hv) h1
    have e2 := (set_grown w6 g 0 (.slice A6 (n0 + 1) c6)).cell e1 (fun e => h2 (by injection e))
    have e3 := cell_later (by rw [hz7]; exact hb8) e2
    exact (h8m.cells _ e3).2
  have hz9 : (setBlock w8 mb (mobj (kvSet kv x (.slice A8 n c8)))).heap.size = w8.heap.size := by simp [setBlock]
  have hle : w.heap.size ≤ w8.heap.size := Nat.le_trans hsz (Nat.le_trans hg6.size (Nat.le_trans (Nat.le_of_eq hz7.symm) hb8.size))
  refine ⟨⟨A6, n0 + 1, c6, mb, kvSet kv x (.slice A8 n c8), ?_, ?_, ?_, .inl hm.pg, .inl hm.pm, hown6, ?_, ?_⟩, ?_⟩
  · have := h8b.grown hsg (fun e => hmg (by injection e with e; exact e.symm))
    exact this
  · exact h8m.setb (fun p hp => by rcases kvSet_mem hp with hp | rfl; exact h8m.ids p hp; exact hx) (kvSet_nodup h8m.nd _ _)
  · rw [ids_snoc]; exact ho9
  · rw [hks, List.length_append, List.length_append, hm.len]; rfl
  · intro j hj
    rw [List.length_append, List.length_singleton] at hj
    rcases Nat.lt_or_ge j G.length with hlt | hge
    · obtain ⟨A', k', c', a, b, d, e⟩ := hm.par j hlt
      rw [nd_left hlt]
      refine ⟨A', k', c', by rw [hks, List.getElem?_append_left (by rw [hm.len]; exact hlt)]; exact a, b, d.keep fun bb o v e' i hv => hcell9 _ v hv (by have := (e _ e').2.1; exact this) (by have := (e _ e').2.2.1; exact this), fun ad e' => ?_⟩
      obtain ⟨e1, e2, e3, e4⟩ := e ad e'
      refine ⟨.inl e1, ?_, e3, by rw [hz9]; omega⟩
      rcases hat with h | h
      · rw [h]; exact e2
      · rw [h]; intro e5; injection e5 with e5; omega
    · obtain rfl : j = G.length := by omega
      rw [nd_end]
      refine ⟨A8, n, c8, by rw [hks, List.getElem?_append_right (by rw [hm.len]; exact Nat.le_refl _), hm.len]; simp, hc8, (ho8.kept hsg ?_).reads, fun ad e' => ?_⟩
      · have := h8m.notOwn ho8
        cases e : (Value.slice A8 n c8).ownBlock with
        | none => exact .inl rfl
        | some k => exact .inr (fun e' => this (by rw [e]; exact e'.symm))
      · have hk := ho8.own ad.block (by subst e'; rfl)
        refine ⟨.inr (by have := hg6.size; omega), fun e5 => ?_, by omega, by rw [hz9]; exact hk.2⟩
        have := (ho6.own _ e5.symm).2
        omega
  · refine ⟨?_, ?_, ?_, by rw [hz9]; exact hle, fun i hi hp => ?_⟩
    · exact hsg.os.trans (hb8.os.trans (hg6.os.trans hb.os))
    · exact hsg.tape.trans (hb8.tape.trans (hg6.tape.trans hb.tape))
    · exact hsg.output.trans (hb8.output.trans (hg6.output.trans hb.output))
    · have e1 := hb.block i hi
      have e2 := hg6.block i (by omega) (fun e => hp (hown0 i e.symm).1)
      have e3 := (set_grown w6 g 0 (.slice A6 (n0 + 1) c6)).block i (by have := hg6.size; omega) (fun e => hp (by injection e with e; rw [e]; exact hm.pg))
      have e4 := hb8.block i (by have := hg6.size; omega)
      have e5 := hsg.block i (by omega) (fun e => hp (by injection e with e; rw [e]; exact hm.pm))
      exact e5.trans (e4.trans (e3.trans (e2.trans e1)))
/-- the load of the row of ids, under a name: the walk of the region leaves it where it stands. -/
def ldIds : Op := .load 29 (.tmp 50)
@[go_sem] theorem ldIds_def : ldIds = .load 29 (.tmp 50) := rfl
set_option maxRecDepth 100000 in
set_option maxHeartbeats 2000000 in
theorem add_ok (P : Nat → Prop) (g : Nat) (G : Gph) (x : IdL) (A : Option Addr) (n c : Nat) (ps : List IdL) (w : World) (h : GrAt w P g G) (hx : IsId x) (hA : RIds w A n ps) (hn : n ≤ 1000000000) (hl : look G x = none) (hall : ps.all (hasB G) = true) (hz : x ≠ zeroL) (hbig : G.length < 5000) (hap : ∀ ad, A = some ad → ¬ P ad.block) :
    Calls Try.prog 10 #[.pointer (some ⟨g, 0, none⟩), ida x, .slice A n c] w (AddPost 0 P g (G ++ [⟨x, ps⟩]) w) := by
  have hzz : ∀ W, (binOp .eql 27 (ida x) (.agg #[.int .u8 0, .int .u8 0, .int .u8 0, .int .u8 0, .int .u8 0, .int .u8 0, .int .u8 0, .int .u8 0, .int .u8 0, .int .u8 0, .int .u8 0, .int .u8 0, .int .u8 0, .int .u8 0, .int .u8 0, .int .u8 0, .int .u8 0, .int .u8 0, .int .u8 0, .int .u8 0])).run Try.prog W = .ok (.bool false) W := fun W => by
    have := ida_eql hx zeroL_id W
    rw [show (x == zeroL) = false from by simpa using hz] at this
    exact this
  clear hz
  obtain ⟨A0, n0, c0, mb, kv, hm⟩ := h
  have hb0 := addW_below g x w
  have h1 := hm.below hb0
  have k0 : (addW g x w).cell? ⟨w.heap.size, 0, none⟩ = some (.pointer (some ⟨g, 0, none⟩)) := (addW_box g x w).cell 0
  have k1 : (addW g x w).cell? ⟨g, 1, none⟩ = some (.map (some mb)) := h1.blk.cell 1
  have k2 := (addW_id g x w).range
  have hlk := h1.lookRun hx true
  have hhas : hasB G x = false := by rw [← look_isSome, hl]; rfl
  obtain ⟨A', k', c', hv, hkc, hra, hnn, _⟩ := h1.get x
  obtain ⟨rfl, rfl, rfl⟩ := hnn hl
  rw [hv, hhas] at hlk
  simp only [if_true] at hlk
  have hcf := contains_any P g w.heap.size G A n c ps (addW g x w) ⟨A0, n0, c0, mb, kv, h1⟩ (hA.below hb0) hn k0
  rw [hall] at hcf
  have hu := idTy
  have hsz := idSz hx
  unfold BoolP at hcf
  simp only [Bool.not_true, Bool.not_false] at hcf
  have HCF := Lib.hid hcf
  clear hcf hv hhas hnn hra
  have hn0 : ¬ ((5000 : Int) ≤ (n0 : Int)) := by
    have := hm.own.2.2
    rw [ids_length] at this
    omega
  go_enter Try.func10, Try.ntmps10
  go_wp2
  go_region_held3 (fun w' => w'.cell? ⟨w.heap.size, 0, none⟩ = some (.pointer (some ⟨g, 0, none⟩)) ∧ w'.cell? ⟨g, 1, none⟩ = some (.map (some mb)) ∧ w'.rangeAt (w.heap.size + 1) 0 (bv x) ∧ (Instr.lookup 54 (.map (some mb)) (ida x) true).run Try.prog w' = .ok (.tuple #[.slice none 0 0, .bool false]) w')
    (exact ⟨k0, k1, k2, hlk⟩) (fail)
  go_wp2_with (go_at_call 32; (with_reducible refine HCF.out.mono ?_); rintro e w5 ⟨rfl, hb5⟩; have hb05 := below_then hb0 hb0.size hb5; have l5 := run_loadId (w := w5) (b := w.heap.size + 1) (o := 0) (fun j v hj => cell_later hb5 (k2 j v hj)) hx; have m0 := cell_later hb5 k0; have h5 := h1.below hb5; have m1 : w5.cell? ⟨g, 0, none⟩ = some (.slice A0 n0 c0) := h5.blk.cell 0)
  have hz5 := hb05.size
  have hn5 : n0 ≤ 5000 := by omega
  have hz05 := hb5.size
  rw [addW_size] at hz05
  have hpw : g < w.heap.size := hm.blk.lt
  have hBx : Blk ((w5.alloc (.cells (bv x).toArray 27)).drew) w5.heap.size 27 (bv x).toArray := (Blk.new w5 _ _).drew
  have hba : Below w5.heap.size w5 ((w5.alloc (.cells (bv x).toArray 27)).drew) := below_drewN ((Below.refl _ _).alloc (Nat.le_refl _) _) 1
  have h5a := h5.below hba
  have hoA := h5a.own
  have a0 : ((w5.alloc (.cells (bv x).toArray 27)).drew).cell? ⟨w.heap.size, 0, none⟩ = some (.pointer (some ⟨g, 0, none⟩)) := cell_later hba m0
  have a1 : ((w5.alloc (.cells (bv x).toArray 27)).drew).cell? ⟨g, 0, none⟩ = some (.slice A0 n0 c0) := h5a.blk.cell 0
  have d2 : (loadId ⟨w.heap.size + 1, 0, none⟩).run Try.prog w5.drew = .ok (ida x) w5.drew := run_loadId (w := w5.drew) (b := w.heap.size + 1) (o := 0) (fun j v hj => show w5.cell? _ = _ from cell_later hb5 (k2 j v hj)) hx
  have hbw : w.heap.size ≠ g := by omega
  have hob : some w.heap.size ≠ (Value.slice A0 n0 c0).ownBlock := fun e => absurd (hm.own.own _ e.symm).2 (Nat.lt_irrefl _)
  have hobg : some g ≠ (Value.slice A0 n0 c0).ownBlock := fun e => by
    rcases hm.own.form with ⟨h0, _⟩ | ⟨gg, cap, cur, hv, _, _, _, _, hbk, _⟩
    · rw [h0] at e; simp [Value.ownBlock] at e
    · rw [hv] at e
      simp [Value.ownBlock] at e
      subst e
      exact Blk.ne_ hm.blk hbk (by decide) rfl
  have r5 : w5.drew.rangeAt (w.heap.size + 1) 0 (bv x) := fun j v hj => show w5.cell? _ = _ from cell_later hb5 (k2 j v hj)
  have rA : ((w5.alloc (.cells (bv x).toArray 27)).drew).rangeAt (w.heap.size + 1) 0 (bv x) := fun j v hj => cell_later hba (r5 j v hj)
  have hob1 : some (w.heap.size + 1) ≠ (Value.slice A0 n0 c0).ownBlock := fun e => absurd (hm.own.own _ e.symm).2 (by omega)
  have hbw1 : w.heap.size + 1 ≠ g := by omega
  rw [← ldIds_def]
  go_region_held3 (fun w' => w'.cell? ⟨w.heap.size, 0, none⟩ = some (.pointer (some ⟨g, 0, none⟩)) ∧ w'.rangeAt (w.heap.size + 1) 0 (bv x))
    (first
      | exact ⟨(cell_set_far w6 g _ 0 0 _ hbw).trans e0, fun j v hj => (cell_set_far w6 g _ _ 0 _ hbw1).trans (r6 j v hj)⟩
      | exact ⟨e0, r6⟩
      | exact ⟨a0, rA⟩
      | exact ⟨m0, r5⟩)
    (first
      | (refine step_appIds rfl (.tmp 51) (.tmp 53) rfl 0 (.slice A0 n0 c0) n0 (ids G) rfl hoA (some ⟨w5.heap.size, 0, none⟩) 1 1 [x] rfl (RIds.one hBx hx) (by omega) (Nat.zero_le _) ?_; intro v6 w6 ho6 hg6 hat6; obtain ⟨A6, c6, rfl, hc6⟩ := ho6.slice; have e0 : w6.cell? ⟨w.heap.size, 0, none⟩ = some (.pointer (some ⟨g, 0, none⟩)) := hg6.cell a0 hob; have h6b : Blk w6 g 56 #[.slice A0 n0 c0, .map (some mb)] := h5a.blk.grown hg6 hobg; have e1 : w6.cell? ⟨g, 0, none⟩ = some (.slice A0 n0 c0) := h6b.cell 0; have f1 := h6b.frozen 0; have r6 : w6.rangeAt (w.heap.size + 1) 0 (bv x) := (fun j v hj => hg6.cell (rA j v hj) hob1)))
  all_goals
    go_wp2
    have h7m : IMap (w6.setCell ⟨g, 0, none⟩ (.slice A6 (n0 + 1) c6)) mb kv := ((h5a.map.grown hg6 (h5a.map.notOwn h5a.own))).grown (set_grown w6 g 0 _) (fun e => (h5a.map.grown hg6 (h5a.map.notOwn h5a.own)).notBlk h6b (by injection e))
    have h7b := (h6b.set_ 0 (.slice A6 (n0 + 1) c6)).drew
    have t0 : ((w6.setCell ⟨g, 0, none⟩ (.slice A6 (n0 + 1) c6)).drew).cell? ⟨w.heap.size, 0, none⟩ = some (.pointer (some ⟨g, 0, none⟩)) := (cell_set_far w6 g _ 0 0 _ hbw).trans e0
    have t1 : ((w6.setCell ⟨g, 0, none⟩ (.slice A6 (n0 + 1) c6)).drew).cell? ⟨g, 1, none⟩ = some (.map (some mb)) := h7b.cell 1
    have t2 : ((w6.setCell ⟨g, 0, none⟩ (.slice A6 (n0 + 1) c6)).drew).rangeAt (w.heap.size + 1) 0 (bv x) := fun j v hj => (cell_set_far w6 g _ _ 0 _ hbw1).trans (r6 j v hj)
    have hA7 : RIds ((w6.setCell ⟨g, 0, none⟩ (.slice A6 (n0 + 1) c6)).drew) A n ps := ((((hA.below hb05).below hba).grown hg6 (fun ad e e' => hap ad e (hm.pi _ e'.symm))).grown (set_grown w6 g 0 _) (fun ad e e' => hap ad e (by injection e' with e'; rw [e']; exact hm.pg))).drewN 1
    have hcl := cloneIds_any A n c ps _ hA7 hn
    unfold NewIds at hcl
    have HCL := Lib.hid hcl
    have hzz7 : ((w6.setCell ⟨g, 0, none⟩ (.slice A6 (n0 + 1) c6)).drew).heap.size = w6.heap.size := by simp
    clear hcl hlk d2 hzz HCF
    go_region_held3 (fun w' => w'.cell? ⟨w.heap.size, 0, none⟩ = some (.pointer (some ⟨g, 0, none⟩)) ∧ w'.cell? ⟨g, 1, none⟩ = some (.map (some mb)) ∧ w'.rangeAt (w.heap.size + 1) 0 (bv x))
      (first
        | exact ⟨(h8m.cells _ u0).2, (h8m.cells _ u1).2, fun j v hj => (h8m.cells _ (u2 j v hj)).2⟩
        | exact ⟨u0, u1, u2⟩
        | exact ⟨t0, t1, t2⟩)
      (first | (go_at_call 33; (with_reducible refine HCL.out.mono ?_); rintro e w8 ⟨A8, c8, rfl, ho8, hc8, hb8⟩; have u0 := cell_later hb8 t0; have u1 := cell_later hb8 t1; have u2 : w8.rangeAt (w.heap.size + 1) 0 (bv x) := (fun j v hj => cell_later hb8 (t2 j v hj)); have h8m : IMap w8 mb kv := IMap.later (w := (w6.setCell ⟨g, 0, none⟩ (.slice A6 (n0 + 1) c6)).drew) ⟨h7m.heap, h7m.ids, h7m.nd⟩ hb8; have hup : (Instr.mapUpdate 54 (.map (some mb)) (ida x) (.slice A8 n c8)).run Try.prog w8 = .ok () (setBlock w8 mb (mobj (kvSet kv x (.slice A8 n c8)))) := (h8m.upd parTy hx _).1))
    go_wp2
    go_ret
    have hfin := gr_added (ps := ps) (n := n) (c8 := c8) (A8 := A8) hm hx hl (below_then hb05 hz5 hba) hg6 ho6 hat6 h7m (show Below w6.heap.size (w6.setCell ⟨g, 0, none⟩ (.slice A6 (n0 + 1) c6)) w8 from ⟨hb8.os, hb8.tape, hb8.output, hb8.size, by rw [← hzz7]; exact hb8.block⟩) (by rw [← hzz7]; exact ho8) hc8 h6b
    exact ⟨rfl, hfin.1, hfin.2⟩
theorem all_has {G : Gph} {ps : List IdL} : (∃ p ∈ ps, p ∉ ids G) ↔ ps.all (hasB G) = false := by
  rw [List.all_eq_false]
  simp [hasB]
/-- Add, all ways. -/
theorem add_any (P : Nat → Prop) (g : Nat) (G : Gph) (x : IdL) (A : Option Addr) (n c : Nat) (ps : List IdL) (w : World) (h : GrAt w P g G) (hG : GInv G) (hx : IsId x) (hA : RIds w A n ps) (hn : n ≤ 1000000000) (hap : ∀ ad, A = some ad → ¬ P ad.block) (hpl : ∀ j, j < G.length → (nd G j).ps.length ≤ 1000000000) :
    Calls Try.prog 10 #[.pointer (some ⟨g, 0, none⟩), ida x, .slice A n c] w (AddPost (addE G x ps) P g (addG G x ps) w) := by
  classical
  cases hl : look G x with
  | some was =>
    refine add_was P g G x A n c ps was w h hx hA hn hl ?_
    have hxm : x ∈ ids G := by
      have := look_isSome (G := G) (x := x)
      rw [hl] at this
      unfold hasB at this
      simpa using this.symm
    obtain ⟨j, hj, e⟩ := mem_ids hxm
    rw [← e, look_some hG.nd hj] at hl
    injection hl with hl
    rw [← hl]
    exact hpl j hj
  | none =>
    by_cases hall : ps.all (hasB G) = true
    · have hne : ¬ ∃ p ∈ ps, p ∉ ids G := fun h => by rw [all_has.1 h] at hall; cases hall
      by_cases hz : x = zeroL
      · have e : addE G x ps = 1 := by rw [addE_none hl, if_neg hne, if_pos hz]
        rw [e, addG_bad (by rw [e]; omega)]
        exact add_zeroId P g G x A n c ps w h hx hA hn hl hall hz
      · by_cases hbig : 5000 ≤ G.length
        · have e : addE G x ps = 5 := by rw [addE_none hl, if_neg hne, if_neg hz, if_pos hbig]
          rw [e, addG_bad (by rw [e]; omega)]
          exact add_full P g G x A n c ps w h hx hA hn hl hall hz hbig
        · have e : addE G x ps = 0 := by rw [addE_none hl, if_neg hne, if_neg hz, if_neg hbig]
          rw [e, addG_ok hl e]
          exact add_ok P g G x A n c ps w h hx hA hn hl hall hz (by omega) hap
    · have hall' : ps.all (hasB G) = false := by simpa using hall
      have e : addE G x ps = 6 := by rw [addE_none hl, if_pos (all_has.2 hall')]
      rw [e, addG_bad (by rw [e]; omega)]
      exact add_none P g G x A n c ps w h hx hA hn hl hall'
end Go.Proofs.Ytaaiojeehhbhhaa
