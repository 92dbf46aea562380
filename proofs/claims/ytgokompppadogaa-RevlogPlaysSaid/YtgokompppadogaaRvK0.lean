/-
  The reference's log with one text more: the making of it, append, the memory behind.
-/
import Derived.Test.YtgokompppadogaaRvJ
set_option linter.unusedVariables false
set_option linter.unusedSimpArgs false
namespace Go.Proofs.Ytgokompppadogaa
open Go.RowKit

noncomputable def mkRf (parts : Array (Nat × Value)) : Sem Value := Instr.build 54 parts
@[go_sem ↓ high] theorem build_rf (parts : Array (Nat × Value)) : Instr.build 54 parts = mkRf parts := rfl
noncomputable def mkRfs (parts : Array (Nat × Value)) : Sem Value := Instr.buildSlice 43 1 parts
@[go_sem ↓ high] theorem buildSlice_rf (parts : Array (Nat × Value)) : Instr.buildSlice 43 1 parts = mkRfs parts := rfl
/-- a text's cells, its parts. -/
def rfV (x p1 p2 : IdL) (B : Option Addr) (k d : Nat) (z : Int) : List Value := bv x ++ (bv p1 ++ (bv p2 ++ [.slice B k d, .int .i64 z]))
@[go_sem] theorem run_mkRf (w : World) (x p1 p2 : IdL) (h : IsId x) (h1 : IsId p1) (h2 : IsId p2) (B : Option Addr) (k d : Nat) : (mkRf #[(0, .agg (bv x).toArray), (1, .agg (bv p1).toArray), (2, .agg (bv p2).toArray), (3, .slice B k d)]).run Try.prog w = .ok (.agg (rfV x p1 p2 B k d 0).toArray) w :=
  match x, h.1, p1, h1.1, p2, h2.1 with
  | [a0, a1, a2, a3, a4, a5, a6, a7, a8, a9, a10, a11, a12, a13, a14, a15, a16, a17, a18, a19], _, [b0, b1, b2, b3, b4, b5, b6, b7, b8, b9, b10, b11, b12, b13, b14, b15, b16, b17, b18, b19], _, [c0, c1, c2, c3, c4, c5, c6, c7, c8, c9, c10, c11, c12, c13, c14, c15, c16, c17, c18, c19], _ => by kernel_rfl
@[go_sem] theorem run_mkRfs (w : World) (x p1 p2 : IdL) (h : IsId x) (h1 : IsId p1) (h2 : IsId p2) (B : Option Addr) (k d : Nat) (z : Int) : (mkRfs #[(0, .agg (rfV x p1 p2 B k d z).toArray)]).run Try.prog w = .ok (.slice (some ⟨w.heap.size, 0, none⟩) 1 1) (w.alloc (.cells (rfV x p1 p2 B k d z).toArray 54)) :=
  match x, h.1, p1, h1.1, p2, h2.1 with
  | [a0, a1, a2, a3, a4, a5, a6, a7, a8, a9, a10, a11, a12, a13, a14, a15, a16, a17, a18, a19], _, [b0, b1, b2, b3, b4, b5, b6, b7, b8, b9, b10, b11, b12, b13, b14, b15, b16, b17, b18, b19], _, [c0, c1, c2, c3, c4, c5, c6, c7, c8, c9, c10, c11, c12, c13, c14, c15, c16, c17, c18, c19], _ => by kernel_rfl
theorem rfV_len (x p1 p2 : IdL) (h : IsId x) (h1 : IsId p1) (h2 : IsId p2) (B : Option Addr) (k d : Nat) (z : Int) : (rfV x p1 p2 B k d z).length = 62 := by simp [rfV, bv_length, h.1, h1.1, h2.1]
theorem rfV_one (x p1 p2 : IdL) (B : Option Addr) (k d : Nat) (z : Int) : ∀ e ∈ rfV x p1 p2 B k d z, e.oneCell' = true := fun e he => by
  unfold rfV at he
  simp only [List.mem_append, List.mem_cons, List.not_mem_nil, or_false] at he
  rcases he with h | h | h | h | h
  · exact bv_one _ e h
  · exact bv_one _ e h
  · exact bv_one _ e h
  · rw [h]; rfl
  · rw [h]; rfl
def zrf1 : Array Value := (bv (List.replicate 60 0) ++ [Value.slice none 0 0, Value.int .i64 0]).toArray
theorem rfInfo : (Try.prog.info? 54).map (fun i => (i.zero, i.size, i.bytes)) = some (some (.agg zrf1), 62, 96) := by kernel_rfl
theorem underRfs : Try.prog.underlying 43 = some (.slice 54) := by kernel_rfl
/-- 'append' of one text onto the reference's own row, at a step of a region that draws. -/
theorem step_appRf {ops : Array Oper} {o : Oper} {a : Act} {w : World} {K : Act → World → Prop} {Q : Exit → Act → World → Prop} {E : Prop} (hgd : o.guard = none) (s x : Operand)
    (ho : o.op = .call { callee := .builtin .append, args := #[s, x], argTypes := #[43, 43] })
    (base : Nat) (v : Value) (n : Nat) (olds : List Value) (hs : a.eval s = v) (hown : w.ownsRow base 54 62 v n olds) (q : Nat) (news : List Value)
    (hx : a.eval x = .slice (some ⟨q, 0, none⟩) 1 1) (hr : Blk w q 54 news.toArray) (hl : news.length = 62) (hone : ∀ e ∈ news, e.oneCell' = true) (hn : n ≤ 100000) (hbase : base ≤ w.heap.size)
    (h : ∀ v' w', w'.ownsRow base 54 62 v' (n + 1) (olds ++ news) → w.grownBy w' v.ownBlock → (v'.ownBlock = v.ownBlock ∨ v'.ownBlock = some w.heap.size) → K (a.put o.dst v') w') :
    if Region.wanted o (yielded ops a.tmps) = true then Oper.wp Try.prog o a w K Q else E := by
  have hw : Region.wanted o (yielded ops a.tmps) = true := by simp [Region.wanted, hgd]
  rw [if_pos hw]
  obtain ⟨i0, hi, hz0, hz1, hz2⟩ := info_parts rfInfo
  have hsrc : Src w 62 (some ⟨q, 0, none⟩) 1 news := by
    refine ⟨hl, fun _ => ⟨_, rfl, fun j u' hj => ?_⟩⟩
    rw [add_plain, Nat.zero_add, hr.cell]
    simpa using hj
  exact wp_append_any w s x 43 ho base 54 i0 _ 62 96 underRfs hi hz0 hz1 hz2 (by simp [Value.cells, zrf1, bv]) (by omega) v n olds hs hown (some ⟨q, 0, none⟩) 1 1 news hx hsrc hone
    (by simp only [maxLen]; omega) (by omega) hbase fun v' w' h4 h5 h6 => h v' w' h4 h5 h6
theorem run_stRf {w : World} {b : Nat} {cs : List Value} (ht : w.there b 0 62) (hl : cs.length = 62) (h1 : ∀ e ∈ cs, e.oneCell' = true) : (storeCells ⟨b, 0, none⟩ cs).run Try.prog w = .ok () (w.setCells b 0 cs) := by
  have := run_storeCells_cells (P := Try.prog) b 0 cs 0 w (fun j hj => by simpa using (ht j (by omega)).1) (fun j hj => by simpa using (ht j (by omega)).2) h1
  simpa using this
theorem rfV_get {x p1 p2 : IdL} (h : IsId x) (h1 : IsId p1) (h2 : IsId p2) (B : Option Addr) (k d : Nat) (z z' : Int) (i : Nat) : (rfV x p1 p2 B k d z)[61]? = some (.int .i64 z) ∧ (rfV x p1 p2 B k d z)[60]? = some (.slice B k d) ∧ (i ≠ 61 → (rfV x p1 p2 B k d z)[i]? = (rfV x p1 p2 B k d z')[i]?) := by
  have e : ∀ z, rfV x p1 p2 B k d z = (bv x ++ bv p1 ++ bv p2 ++ [.slice B k d]) ++ [.int .i64 z] := fun z => by simp [rfV]
  have hl : (bv x ++ bv p1 ++ bv p2 ++ [Value.slice B k d]).length = 61 := by simp [bv_length, h.1, h1.1, h2.1]
  have hl' : (bv x ++ bv p1 ++ bv p2).length = 60 := by simp [bv_length, h.1, h1.1, h2.1]
  refine ⟨?_, ?_, fun hi => ?_⟩
  · rw [e, List.getElem?_append_right (by rw [hl]; omega), hl]; rfl
  · rw [e, List.getElem?_append_left (by rw [hl]; omega), List.getElem?_append_right (by rw [hl']; omega), hl']; rfl
  · rw [e, e]
    rcases Nat.lt_or_ge i 61 with h3 | h3
    · exact (List.getElem?_append_left (by rw [hl]; exact h3)).trans (List.getElem?_append_left (by rw [hl]; exact h3)).symm
    · rw [List.getElem?_eq_none (by simp only [List.length_append, hl, List.length_singleton]; omega), List.getElem?_eq_none (by simp only [List.length_append, hl, List.length_singleton]; omega)]
theorem rfV_set {w : World} {b : Nat} {x p1 p2 : IdL} (h : IsId x) (h1 : IsId p1) (h2 : IsId p2) {B : Option Addr} {k d : Nat} {z : Int} (z' : Int) (hr : w.rangeAt b 0 (rfV x p1 p2 B k d z)) : (w.setCell ⟨b, 61, none⟩ (.int .i64 z')).rangeAt b 0 (rfV x p1 p2 B k d z') := fun i v hv => by
  by_cases hi : i = 61
  · subst hi
    rw [(rfV_get h h1 h2 B k d z' z' 0).1] at hv
    injection hv with hv
    subst hv
    have h0 := hr 61 _ (rfV_get h h1 h2 B k d z z 0).1
    rw [Nat.zero_add] at h0 ⊢
    exact World.cell?_setCell_same' w _ _ (by rw [h0]; rfl)
  · rw [← (rfV_get h h1 h2 B k d z z' i).2.2 hi] at hv
    have h0 := hr i v hv
    rw [Nat.zero_add] at h0 ⊢
    refine (World.cell?_setCell_other w _ _ _ ?_).trans h0
    intro e
    injection e with _ e
    omega
theorem there_below {w w' : World} {b n : Nat} (h : w.there b 0 n) (hb : Below w.heap.size w w') : w'.there b 0 n := fun j hj => by
  obtain ⟨h1, h2⟩ := h j hj
  obtain ⟨v, hv⟩ := Option.isSome_iff_exists.1 h1
  have hl := World.block_lt_of_cell? _ _ hv
  refine ⟨by rw [cell_later hb hv]; rfl, ?_⟩
  unfold World.frozen? at h2 ⊢
  rw [hb.block _ hl]
  exact h2
theorem rf_form {w : World} {base : Nat} {v : Value} {n : Nat} {xs : List Value} (h : w.ownsRow base 54 62 v (n + 1) xs) : ∃ A c, v = .slice A (n + 1) c ∧ n + 1 ≤ c := by
  rcases h.2 with ⟨_, e2⟩ | ⟨g, cap, cur, e1, _, _, hnc, _⟩
  · exact absurd e2 (by omega)
  · exact ⟨_, cap, e1, hnc⟩
theorem setC_grown (w : World) (g i : Nat) (v : Value) : w.grownBy (w.setCell ⟨g, i, none⟩ v) (some g) := ⟨rfl, rfl, rfl, by simp [World.setCell], fun k _ hk => Below.heap_setCell w _ v k (fun e => hk (by rw [e]))⟩
/-- a text more. -/
theorem rf_added {w W w7 : World} {Q : Nat → Prop} {r : Nat} {A A7 B : Option Addr} {n c c7 d : Nat} {Vs : List Value} {L : Lg} {x : Rv} {o : Obj} (h : RfMem w Q r A n c Vs L) (hinv : LInv (L ++ [x]))
    (h0 : Below w.heap.size w W) (hB : RB W B x.text.length x.text) (hd : x.text.length ≤ d) (hBn : ∀ ad, B = some ad → w.heap.size ≤ ad.block ∧ ad.block < W.heap.size)
    (hg7 : (W.alloc o).grownBy w7 (Value.slice A n c).ownBlock) (ho7 : w7.ownsRow 0 54 62 (.slice A7 (n + 1) c7) (n + 1) (rlC L Vs ++ rfC x (.slice B x.text.length d))) (hc7 : n + 1 ≤ c7)
    (hat7 : (Value.slice A7 (n + 1) c7).ownBlock = (Value.slice A n c).ownBlock ∨ (Value.slice A7 (n + 1) c7).ownBlock = some (W.alloc o).heap.size) :
    RfAt (w7.setCell ⟨r, 0, none⟩ (.slice A7 (n + 1) c7)) (fun k => Q k ∨ w.heap.size ≤ k) r (L ++ [x]) ∧ Chg Q w (w7.setCell ⟨r, 0, none⟩ (.slice A7 (n + 1) c7)) := by
  have hLl := h.len
  have hvl := h.vl
  have ha6 : Below W.heap.size W (W.alloc o) := (Below.refl _ _).alloc (Nat.le_refl _) _
  have h6a : Below w.heap.size w (W.alloc o) := below_two h0 ha6
  have hma := h.below h6a
  have hsa := h6a.size
  have hsW : (W.alloc o).heap.size = W.heap.size + 1 := by simp
  have hrl : r < w.heap.size := h.blk.lt
  have hrown : some r ≠ (Value.slice A n c).ownBlock := fun e => (h.rowLt e.symm).2 rfl
  have hblk7 := hma.blk.grown hg7 hrown
  have hs7 := hg7.size
  have hset := setC_grown w7 r 0 (.slice A7 (n + 1) c7)
  have hnew : ∀ k, (Value.slice A7 (n + 1) c7).ownBlock = some k → (Q k ∨ w.heap.size ≤ k) ∧ k ≠ r ∧ ((Value.slice A n c).ownBlock = some k ∨ (W.heap.size < k ∧ w.heap.size ≤ k)) := fun k e => by
    rcases hat7 with e7 | e7
    · rw [e7] at e
      exact ⟨.inl (h.pi k e), (h.rowLt e).2, .inl e⟩
    · rw [e7] at e
      injection e with e
      subst e
      exact ⟨.inr hsa, by omega, .inr ⟨by omega, hsa⟩⟩
  refine ⟨⟨A7, n + 1, c7, Vs ++ [.slice B x.text.length d], ?_, ?_, hinv, by simp [hLl], by simp [hvl], hc7, .inl h.pr, fun k e => (hnew k e).1, fun j hj => ?_⟩, ?_⟩
  · have := hblk7.set_ 0 (.slice A7 (n + 1) c7)
    simpa using this
  · rw [rlC_snoc (by rw [hvl, hLl])]
    refine ho7.kept hset ?_
    cases e : (Value.slice A7 (n + 1) c7).ownBlock with
    | none => exact .inl rfl
    | some k => exact .inr fun e2 => (hnew k e).2.1 (by injection e2)
  · by_cases hjn : j < n
    · obtain ⟨B', d', a, b, e, f⟩ := hma.held j hjn
      obtain ⟨B'', d'', a2, _, _, f2⟩ := h.held j hjn
      have hBB : B'' = B' := by
        rw [a] at a2
        injection a2 with a2
        injection a2 with a2
        exact a2.symm
      subst hBB
      rw [rv_left (by omega)]
      refine ⟨B'', d', by rw [List.getElem?_append_left (by omega)]; exact a, b, (e.grown hg7 fun ad e' => (f ad e').2.1).grown hset fun ad e' e3 => (f ad e').2.2.1 (by injection e3), fun ad e' => ⟨.inl (f ad e').1, fun e3 => ?_, (f ad e').2.2.1, ?_⟩⟩
      · rcases (hnew ad.block e3.symm).2.2 with e4 | e4
        · exact (f2 ad e').2.1 e4.symm
        · have := (f2 ad e').2.2.2
          omega
      · have h1 := (f ad e').2.2.2
        have h2 := hset.size
        omega
    · obtain rfl : j = n := by omega
      have hrv : rv (L ++ [x]) j = x := by rw [← hLl]; exact rv_end
      rw [hrv]
      refine ⟨B, d, by rw [List.getElem?_append_right (by omega), hvl]; simp, hd, ((hB.below ha6).grown hg7 fun ad e e3 => ?_).grown hset fun ad e e3 => ?_, fun ad e => ⟨.inr (hBn ad e).1, fun e3 => ?_, ?_, ?_⟩⟩
      · have h1 := (h.rowLt e3.symm).1
        have h2 := (hBn ad e).1
        omega
      · injection e3 with e3
        have h2 := (hBn ad e).1
        omega
      · rcases (hnew ad.block e3.symm).2.2 with e4 | e4
        · have h1 := (h.rowLt e4).1
          have h2 := (hBn ad e).1
          omega
        · have h2 := (hBn ad e).2
          omega
      · have h2 := (hBn ad e).1
        omega
      · have h1 := (hBn ad e).2
        have h2 := hset.size
        omega
  · have c1 : Chg Q w (W.alloc o) := Chg.below h6a
    have c2 : Chg Q (W.alloc o) w7 := Chg.grown hg7 fun k e => h.pi k e
    have c3 : Chg Q w7 (w7.setCell ⟨r, 0, none⟩ (.slice A7 (n + 1) c7)) := Chg.grown hset fun k e => by cases e; exact h.pr
    exact (c1.then c2 fun i hi => .inl hi).then c3 fun i hi => .inl hi
end Go.Proofs.Ytgokompppadogaa
