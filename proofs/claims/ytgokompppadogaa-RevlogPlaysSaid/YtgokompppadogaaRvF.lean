/-
  The log with one text more: the memory behind Add.
-/
import Derived.Test.YtgokompppadogaaRvE
set_option linter.unusedVariables false
set_option linter.unusedSimpArgs false
namespace Go.Proofs.Ytgokompppadogaa
open Go.RowKit
open Go.ChangeMaps (setBlock heap_setBlock_same heap_setBlock_other)

theorem IMap.cells {w : World} {g : Nat} {kv : KV} (h : IMap w g kv) (o : Obj) {p : Addr} {v : Value} (hv : w.cell? p = some v) : p.block ≠ g ∧ (setBlock w g o).cell? p = some v := by
  have hne : p.block ≠ g := fun e => by
    unfold World.cell? at hv
    rw [e, h.heap] at hv
    simp [mobj] at hv
  exact ⟨hne, (h.setb_grown o).cell hv (fun e => hne (by injection e))⟩
theorem IMap.notBlk {w : World} {g g' : Nat} {kv : KV} {t : TypeId} {cs : Array Value} (h : IMap w g kv) (hb : Blk w g' t cs) : g ≠ g' := fun e => by
  subst e
  have := h.heap
  unfold Blk at hb
  rw [this] at hb
  simp [mobj] at hb
theorem KeptV.whole_any {w : World} {P : Nat → Prop} {g : Nat} {a a' t : List Int} {ch : Nat} {V : Value} (h : KeptV w P g a t ch V) (h0 : ch = 0) : KeptV w P g a' t ch V := by
  obtain ⟨B, k, d, body, h1, h2, h3, h4⟩ := h
  refine ⟨B, k, d, body, h1, h2, h3, ?_⟩
  rcases h4 with h4 | h4
  · exact .inl h4
  · omega
theorem prevT_left {L : Lg} {r : Rv} {j : Nat} (hj : j < L.length) : prevT (L ++ [r]) j = prevT L j := by unfold prevT; rw [rv_left (by omega)]
theorem prevT_end {L : Lg} {r : Rv} (h0 : 0 < L.length) : prevT (L ++ [r]) L.length = prevT L L.length := by unfold prevT; rw [rv_left (by omega)]
/-- a text more. -/
theorem lg_added {w w8 W9 : World} {P : Nat → Prop} {g : Nat} {A : Option Addr} {n c mb : Nat} {kv : KV} {Vs : List Value} {L : Lg} {r : Rv} {V : Value} {g' cap : Nat} (hm : LgMem w P g A n c mb kv Vs L) (hinv : LInv (L ++ [r])) (hp : posL L r.node = none)
    (hb : Below w.heap.size w w8) (hk : KeptV w8 (w.heap.size ≤ ·) g (prevT L n) r.text r.chain V) (hch : n = 0 → r.chain = 0)
    (hg1 : w.heap.size ≤ g') (hg2 : g' < w8.heap.size) (hcap : n + 1 ≤ cap) (hrow : ∀ i v, (lgC L Vs ++ rvC r V)[i]? = some v → w8.cell? ⟨g', i, none⟩ = some v)
    (h9 : w8.grownBy W9 (some g)) (hb9 : Blk W9 g 65 #[.slice (some ⟨g', 0, none⟩) (n + 1) cap, .map (some mb)]) :
    LgAt (setBlock W9 mb (mobj (kvSet kv r.node (.int .i64 (n : Nat))))) (fun k => P k ∨ w.heap.size ≤ k) g (L ++ [r]) ∧ Chg P w (setBlock W9 mb (mobj (kvSet kv r.node (.int .i64 (n : Nat))))) := by
  have hn := hm.len
  subst hn
  have hgl := hm.blk.lt
  have hml := hm.map.lt
  have hmg := hm.map.notBlk hm.blk
  have hid := (hinv.ids L.length (by simp))
  rw [rv_end] at hid
  have hm9 : IMap W9 mb kv := (hm.map.below hb hml).grown h9 (fun e => hmg (by injection e))
  have hkn : kvHas kv r.node = false := by
    unfold kvHas
    rw [hm.get, hp]
    rfl
  have hks : kvSet kv r.node (.int .i64 (L.length : Nat)) = kv ++ [(r.node, .int .i64 (L.length : Nat))] := by unfold kvSet; rw [hkn]; rfl
  have hsg := hm9.setb_grown (mobj (kvSet kv r.node (.int .i64 (L.length : Nat))))
  have hz : (setBlock W9 mb (mobj (kvSet kv r.node (.int .i64 (L.length : Nat))))).heap.size = W9.heap.size := by simp [setBlock]
  have h89 := h9.size
  have hsz := hb.size
  have key : ∀ (p : Addr) v, w8.cell? p = some v → p.block ≠ g → (setBlock W9 mb (mobj (kvSet kv r.node (.int .i64 (L.length : Nat))))).cell? p = some v := fun p v hv hne =>
    (hm9.cells _ (h9.cell hv (fun e => hne (by injection e)))).2
  have hset : IMap (setBlock W9 mb (mobj (kvSet kv r.node (.int .i64 (L.length : Nat))))) mb (kvSet kv r.node (.int .i64 (L.length : Nat))) :=
    hm9.setb (fun p hp' => by rcases kvSet_mem hp' with hp' | rfl; exact hm9.ids p hp'; exact hid.1) (kvSet_nodup hm9.nd _ _)
  refine ⟨⟨some ⟨g', 0, none⟩, L.length + 1, cap, mb, kvSet kv r.node (.int .i64 (L.length : Nat)), Vs ++ [V], ?_, hset, hinv, by simp, by simp [hm.vl], hcap, fun _ => ⟨g', 0, rfl, .inr hg1, by omega, by rw [hz]; omega, fun i v hv => ?_⟩, fun h0 => absurd h0 (by omega), .inl hm.pg, .inl hm.pm, ?_, fun j hj => ?_, fun j hj => ?_⟩, ?_⟩
  · exact hb9.grown hsg (fun e => hmg (by injection e with e; exact e.symm))
  · rw [lgC_snoc hm.vl] at hv
    rw [Nat.zero_add]
    exact key _ v (hrow i v hv) (by show g' ≠ g; omega)
  · rw [hks, List.length_append, hm.kl]
    rfl
  · rcases Nat.lt_or_ge j L.length with h1 | h1
    · rw [rv_left h1, hks, List.getElem?_append_left (by rw [hm.kl]; exact h1)]
      exact hm.kvs j h1
    · obtain rfl : j = L.length := by omega
      rw [rv_end, hks, List.getElem?_append_right (by rw [hm.kl]; exact Nat.le_refl _), hm.kl]
      simp
  · rcases Nat.lt_or_ge j L.length with h1 | h1
    · obtain ⟨U, e, hU⟩ := hm.held j h1
      rw [rv_left h1, prevT_left h1]
      refine ⟨U, by rw [List.getElem?_append_left (by rw [hm.vl]; exact h1)]; exact e, (hU.keep (by rw [hz]; omega) fun p v hv hP hne => key p v (cell_later hb hv) hne).mono fun k hk' => .inl hk'⟩
    · obtain rfl : j = L.length := by omega
      rw [rv_end]
      refine ⟨V, by rw [List.getElem?_append_right (by rw [hm.vl]; exact Nat.le_refl _), hm.vl]; simp, ?_⟩
      have h2 := (hk.keep (w' := setBlock W9 mb (mobj (kvSet kv r.node (.int .i64 (L.length : Nat))))) (by rw [hz]; omega) fun p v hv hP hne => key p v hv hne).mono (Q := fun k => P k ∨ w.heap.size ≤ k) fun k hk' => .inr hk'
      rcases Nat.eq_zero_or_pos L.length with h0 | h0
      · exact h2.whole_any (hch h0)
      · rw [prevT_end h0]
        exact h2
  · refine ⟨hsg.os.trans (h9.os.trans hb.os), hsg.tape.trans (h9.tape.trans hb.tape), hsg.output.trans (h9.output.trans hb.output), by rw [hz]; omega, fun i hi hP => ?_⟩
    rw [hsg.block i (by omega) (fun e => hP (by injection e with e; rw [e]; exact hm.pm)), h9.block i (by omega) (fun e => hP (by injection e with e; rw [e]; exact hm.pg)), hb.block i hi]
/-! ### the making of a revision -/
noncomputable def mkRev (parts : Array (Nat × Value)) : Sem Value := Instr.build 72 parts
@[go_sem ↓ high] theorem build_rev (parts : Array (Nat × Value)) : Instr.build 72 parts = mkRev parts := rfl
noncomputable def mkRevs (parts : Array (Nat × Value)) : Sem Value := Instr.buildSlice 63 1 parts
@[go_sem ↓ high] theorem buildSlice_rev (parts : Array (Nat × Value)) : Instr.buildSlice 63 1 parts = mkRevs parts := rfl
def revC (x p1 p2 : IdL) (T : TypeId) (X : Value) : List Value := bv x ++ (bv p1 ++ (bv p2 ++ [.iface T X]))
@[go_sem] theorem run_mkRev (w : World) (x p1 p2 : IdL) (h : IsId x) (h1 : IsId p1) (h2 : IsId p2) (T : TypeId) (X : Value) : (mkRev #[(0, .agg (bv x).toArray), (1, .agg (bv p1).toArray), (2, .agg (bv p2).toArray), (3, .iface T X)]).run Try.prog w = .ok (.agg (revC x p1 p2 T X).toArray) w :=
  match x, h.1, p1, h1.1, p2, h2.1 with
  | [a0, a1, a2, a3, a4, a5, a6, a7, a8, a9, a10, a11, a12, a13, a14, a15, a16, a17, a18, a19], _, [b0, b1, b2, b3, b4, b5, b6, b7, b8, b9, b10, b11, b12, b13, b14, b15, b16, b17, b18, b19], _, [c0, c1, c2, c3, c4, c5, c6, c7, c8, c9, c10, c11, c12, c13, c14, c15, c16, c17, c18, c19], _ => by kernel_rfl
@[go_sem] theorem run_mkRevs (w : World) (x p1 p2 : IdL) (h : IsId x) (h1 : IsId p1) (h2 : IsId p2) (T : TypeId) (X : Value) : (mkRevs #[(0, .agg (revC x p1 p2 T X).toArray)]).run Try.prog w = .ok (.slice (some ⟨w.heap.size, 0, none⟩) 1 1) (w.alloc (.cells (revC x p1 p2 T X).toArray 72)) :=
  match x, h.1, p1, h1.1, p2, h2.1 with
  | [a0, a1, a2, a3, a4, a5, a6, a7, a8, a9, a10, a11, a12, a13, a14, a15, a16, a17, a18, a19], _, [b0, b1, b2, b3, b4, b5, b6, b7, b8, b9, b10, b11, b12, b13, b14, b15, b16, b17, b18, b19], _, [c0, c1, c2, c3, c4, c5, c6, c7, c8, c9, c10, c11, c12, c13, c14, c15, c16, c17, c18, c19], _ => by kernel_rfl
theorem revC_len (x p1 p2 : IdL) (h : IsId x) (h1 : IsId p1) (h2 : IsId p2) (T : TypeId) (X : Value) : (revC x p1 p2 T X).length = 61 := by simp [revC, bv_length, h.1, h1.1, h2.1]
theorem revC_one (x p1 p2 : IdL) (T : TypeId) (X : Value) : ∀ e ∈ revC x p1 p2 T X, e.oneCell' = true := fun e he => by
  unfold revC at he
  simp only [List.mem_append, List.mem_singleton] at he
  rcases he with h | h | h | h
  · exact bv_one _ e h
  · exact bv_one _ e h
  · exact bv_one _ e h
  · rw [h]; rfl
def zrev : Array Value := (bv (List.replicate 60 0) ++ [Value.nilIface]).toArray
theorem revInfo : (Try.prog.info? 72).map (fun i => (i.zero, i.size, i.bytes)) = some (some (.agg zrev), 61, 80) := by kernel_rfl
theorem underRevs : Try.prog.underlying 63 = some (.slice 72) := by kernel_rfl
/-- 'append' of one revision onto a slice that is full, at a step of a region that draws. -/
theorem step_appRev {ops : Array Oper} {o : Oper} {a : Act} {w : World} {K : Act → World → Prop} {Q : Exit → Act → World → Prop} {E : Prop} (hgd : o.guard = none) (s x : Operand)
    (ho : o.op = .call { callee := .builtin .append, args := #[s, x], argTypes := #[63, 63] })
    (A : Option Addr) (n : Nat) (olds : List Value) (hs : a.eval s = .slice A n n) (h0 : n = 0 → A = none) (hlo : olds.length = n * 61) (holds : 0 < n → ∃ b o, A = some ⟨b, o, none⟩ ∧ ∀ i v, olds[i]? = some v → w.cell? ⟨b, o + i, none⟩ = some v) (q : Nat) (news : List Value)
    (hx : a.eval x = .slice (some ⟨q, 0, none⟩) 1 1) (hr : Blk w q 72 news.toArray) (hl : news.length = 61) (hone : ∀ e ∈ news, e.oneCell' = true) (hn : n ≤ 100000)
    (h : ∀ v' w', w'.ownsRow w.heap.size 72 61 v' (n + 1) (olds ++ news) → w.grownBy w' none → K (a.put o.dst v') w') :
    if Region.wanted o (yielded ops a.tmps) = true then Oper.wp Try.prog o a w K Q else E := by
  have hw : Region.wanted o (yielded ops a.tmps) = true := by simp [Region.wanted, hgd]
  rw [if_pos hw]
  obtain ⟨i0, hi, hz0, hz1, hz2⟩ := info_parts revInfo
  have hnews : ∀ j u, news[j]? = some u → w.cell? ((⟨q, 0, none⟩ : Addr).add j) = some u := fun j u hj => by
    rw [add_plain, Nat.zero_add, hr.cell]
    simpa using hj
  rcases Nat.eq_zero_or_pos n with e0 | e0
  · subst e0
    obtain rfl := h0 rfl
    obtain rfl : olds = [] := List.eq_nil_of_length_eq_zero (by simpa using hlo)
    obtain ⟨v', w', hrun, r1, r2, _⟩ := run_append_own (P := Try.prog) w w.heap.size 63 o.type 72 i0 _ 61 80 underRevs hi hz0 hz1 hz2 (by simp [Value.cells, zrev, bv]) (by omega) (.slice none 0 0) 0 [] (World.ownsRow_nil w _ _ 61) ⟨q, 0, none⟩ 1 1 news hl hnews hone (by simp [maxLen]) (by omega) (Nat.le_refl _)
    unfold Oper.wp execOp
    simp only [ho, resolve, invoke, builtin, Sem.run_bind, Sem.run_pure, Result.andThen_ok, List.map_toArray, List.map_cons, List.map_nil, hs, hx, hrun]
    exact h v' w' r1 r2
  · obtain ⟨b, off, rfl, hc⟩ := holds e0
    obtain ⟨v', w', hrun, r1, r2⟩ := run_append_arg_grows (P := Try.prog) w 63 o.type 72 i0 _ 61 80 underRevs hi hz0 hz1 hz2 (by simp [Value.cells, zrev, bv]) (by omega) ⟨b, off, none⟩ n n olds hlo (fun j u hj => by rw [add_plain]; exact hc j u hj) ⟨q, 0, none⟩ 1 1 news hl hnews (by omega) (by simp only [maxLen]; omega) (by omega)
    unfold Oper.wp execOp
    simp only [ho, resolve, invoke, builtin, Sem.run_bind, Sem.run_pure, Result.andThen_ok, List.map_toArray, List.map_cons, List.map_nil, hs, hx, hrun]
    exact h v' w' r1 r2
end Go.Proofs.Ytgokompppadogaa
