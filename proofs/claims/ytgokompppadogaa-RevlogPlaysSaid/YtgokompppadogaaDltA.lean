/-
  Rows of edits whose bytes are the call's own; delta.taken; delta.Parse.
-/
import Derived.Test.YtgokompppadogaaDlt9
import Derived.Test.YtgokompppadogaaOr4
set_option linter.unusedVariables false
set_option linter.unusedSimpArgs false
namespace Go.Proofs.Ytgokompppadogaa
open Go.RowKit

/-- the byte slices among cells lie in blocks of their own. -/
def Ap (base : Nat) (w : World) (v : Value) (cs : List Value) : Prop := ∀ bd n c, Value.slice (some bd) n c ∈ cs → base ≤ bd.block ∧ bd.block < w.heap.size ∧ some bd.block ≠ v.ownBlock
def OEb (w : World) (base : Nat) (v : Value) (n : Nat) (l : List Ed) : Prop := ∃ cs, EdC w cs l ∧ l.length = n ∧ w.ownsRow base 96 3 v n cs ∧ Ap base w v cs
theorem EdC.keep {w w' : World} {cs : List Value} {l : List Ed} (h : EdC w cs l) (hk : ∀ A n c xs, Value.slice A n c ∈ cs → RB w A n xs → RB w' A n xs) : EdC w' cs l := by
  refine ⟨h.1, fun i hi => ?_⟩
  obtain ⟨B, c, h0, h1, h2, h3, h4⟩ := h.2 i hi
  exact ⟨B, c, h0, h1, h2, h3, hk _ _ _ _ (List.mem_of_getElem? h2) h4⟩
section
variable {w w' : World} {base n : Nat} {v : Value} {l : List Ed}
theorem OEb.nil (w : World) (base : Nat) : OEb w base (.slice none 0 0) 0 [] := ⟨[], EdC.nil w, rfl, World.ownsRow_nil w base _ 3, fun _ _ _ h => by simp at h⟩
theorem OEb.own (h : OEb w base v n l) : ∀ k, v.ownBlock = some k → base ≤ k ∧ k < w.heap.size := by
  obtain ⟨cs, _, _, h3, _⟩ := h
  exact h3.lt
theorem OEb.kept (h : OEb w base v n l) {row : Option Nat} (hg : w.grownBy w' row) (hr : row = none ∨ ∃ g, row = some g ∧ w.heap.size ≤ g) : OEb w' base v n l := by
  obtain ⟨cs, h1, h2, h3, h4⟩ := h
  refine ⟨cs, h1.keep fun A k c xs hm hr' => hr'.grown hg fun ad e => ?_, h2, h3.kept hg ?_, fun bd k c hm => ⟨(h4 bd k c hm).1, Nat.lt_of_lt_of_le (h4 bd k c hm).2.1 hg.size, (h4 bd k c hm).2.2⟩⟩
  · subst e
    have := (h4 ad k c hm).2.1
    rcases hr with rfl | ⟨g, rfl, hg'⟩
    · simp
    · intro e; injection e with e; omega
  · cases e : v.ownBlock with
    | none => exact .inl rfl
    | some k =>
      refine .inr fun e' => ?_
      have := h3.lt k e
      rcases hr with rfl | ⟨g, rfl, hg'⟩
      · cases e'
      · injection e' with e'; omega
theorem OEb.below (h : OEb w base v n l) (hb : Below w.heap.size w w') : OEb w' base v n l := h.kept (grown_below hb none) (.inl rfl)
theorem OEb.slice (h : OEb w base v n l) : ∃ A c, v = .slice A n c ∧ n ≤ c := by
  obtain ⟨cs, h1, h2, h3, h4⟩ := h
  rcases h3.2 with ⟨h0, h5⟩ | ⟨g, cap, cur, h5, h6, h7, h8, h9, h10⟩
  · exact ⟨none, 0, by rw [h5, h0], Nat.le_of_eq h5⟩
  · exact ⟨_, cap, h5, h8⟩
theorem OEb.reads {A : Option Addr} {c : Nat} (h : OEb w base (.slice A n c) n l) : REs w (base ≤ ·) A n l := by
  obtain ⟨cs, h1, h2, h3, h4⟩ := h
  refine ⟨h2, fun hn => ?_⟩
  rcases h3.2 with ⟨_, h5⟩ | ⟨g, cap, cur, h5, h6, h7, h8, h9, h10⟩
  · omega
  · injection h5 with hA _ _
    subst hA
    refine ⟨_, rfl, h6, fun i hi x hx => ?_⟩
    have hx' : x = ed l i := by
      have := ed_some (l := l) (i := i) (by omega)
      rw [hx] at this
      injection this
    subst hx'
    obtain ⟨B, c', a0, a1, a2, a3, a4⟩ := h1.2 i (by omega)
    have hce : ∀ j u, cs[j]? = some u → w.cell? ((⟨g, 0, none⟩ : Addr).add j) = some u := fun j u hj => by
      rw [add_plain, Nat.zero_add, cell_of_row w g j cur _ (0, 0) h7]
      have hjl : j < cs.length := (List.getElem?_eq_some_iff.1 hj).1
      rw [h1.1, h2] at hjl
      rw [← h10.2, List.getElem?_take, if_pos hjl] at hj
      simpa using hj
    exact ⟨B, c', hce _ _ a0, hce _ _ a1, hce _ _ a2, a3, a4, fun bd e => (h4 bd _ _ (by subst e; exact List.mem_of_getElem? a2)).1⟩
end
/-- 'append' of an edit with bytes of its own, at a step of a region that draws. -/
theorem step_appEd {ops : Array Oper} {o : Oper} {a : Act} {w : World} {K : Act → World → Prop} {Q : Exit → Act → World → Prop} {E : Prop} (hgd : o.guard = none) (s x : Operand)
    (ho : o.op = .call { callee := .builtin .append, args := #[s, x], argTypes := #[88, 88] })
    (base : Nat) (v : Value) (n : Nat) (l : List Ed) (hs : a.eval s = v) (hown : OEb w base v n l)
    (g c : Nat) (f t : Int) (B : Option Addr) (m d : Nat) (ys : List Int) (hx : a.eval x = .slice (some ⟨g, 0, none⟩) 1 c) (hb : Blk w g 96 #[.int .i64 f, .int .i64 t, .slice B m d])
    (hr : RB w B m ys) (hmd : m ≤ d) (hB : ∀ bd, B = some bd → base ≤ bd.block ∧ bd.block < w.heap.size ∧ some bd.block ≠ v.ownBlock) (hn : n + 1 ≤ 1000000) (hbase : base ≤ w.heap.size)
    (h : ∀ v' w', OEb w' base v' (n + 1) (l ++ [⟨f, t, ys⟩]) → w.grownBy w' v.ownBlock → K (a.put o.dst v') w') :
    if Region.wanted o (yielded ops a.tmps) = true then Oper.wp Try.prog o a w K Q else E := by
  have hw : Region.wanted o (yielded ops a.tmps) = true := by simp [Region.wanted, hgd]
  rw [if_pos hw]
  obtain ⟨i0, hi, hz0, hz1, hz2⟩ := info_parts edInfo
  obtain ⟨cs, h1, h2, h3, h4⟩ := hown
  have hsrc : Src w 3 (some ⟨g, 0, none⟩) 1 [.int .i64 f, .int .i64 t, .slice B m d] := ⟨rfl, fun _ => ⟨_, rfl, fun j u hj => by rw [add_plain, Nat.zero_add, hb.cell]; simpa using hj⟩⟩
  have hA' : Ap base w v [.int .i64 f, .int .i64 t, .slice B m d] := fun bd k c hm => by
    simp at hm
    obtain ⟨e, _, _⟩ := hm
    exact hB bd e.symm
  have hE : EdC w [.int .i64 f, .int .i64 t, .slice B m d] [⟨f, t, ys⟩] := EdC.one f t hr hmd
  refine wp_append_any w s x 88 ho base 96 i0 _ 3 40 underEds hi hz0 hz1 hz2 rfl (by omega) v n cs hs h3 _ 1 c _ hx hsrc hE.oneCell
    (by simp only [maxLen]; omega) (by omega) hbase fun v' w' h5 h6 h7 => h v' w' ⟨_, (h1.append hE).keep fun A k c xs hm hr' => hr'.grown h6 fun ad e => ?_, by rw [List.length_append, h2]; rfl, h5, fun bd k c hm => ?_⟩ h6
  · subst e
    rcases List.mem_append.1 hm with hm | hm
    · exact (h4 ad k c hm).2.2
    · exact (hA' ad k c hm).2.2
  · have hh : base ≤ bd.block ∧ bd.block < w.heap.size ∧ some bd.block ≠ v.ownBlock := by
      rcases List.mem_append.1 hm with hm | hm
      · exact h4 bd k c hm
      · exact hA' bd k c hm
    refine ⟨hh.1, Nat.lt_of_lt_of_le hh.2.1 h6.size, ?_⟩
    rcases h7 with h7 | h7
    · rw [h7]; exact hh.2.2
    · rw [h7]; intro e; injection e with e; omega
theorem taken_any (A : Option Addr) (n c : Nat) (xs : List Int) (w : World) (h : RB w A n xs) (hn : n ≤ 1000000000) :
    Calls Try.prog 73 #[.slice A n c] w (fun e w' => e = .returned (.tuple #[.int .i64 (if n < 4 then 0 else num4 xs), .bool (decide (4 ≤ n))]) ∧ ∃ q, w.drewN q = w') := by
  by_cases h6 : n < 4
  · rw [if_pos h6, decide_eq_false (by omega)]
    go_enter Try.func73, Try.ntmps73
    go_wp2
    go_ret2
    exact ⟨rfl, 0, rfl⟩
  · rw [if_neg h6, decide_eq_true (by omega)]
    obtain ⟨b, o, rfl, hc⟩ := h.plain (by omega)
    have hb := h.byts
    have c0 := hc 0 (by omega)
    have c1 := hc 1 (by omega)
    have c2 := hc 2 (by omega)
    have c3 := hc 3 (by omega)
    rw [Nat.add_zero] at c0
    have r0 := hb.gi 0
    have r1 := hb.gi 1
    have r2 := hb.gi 2
    have r3 := hb.gi 3
    have o1 := or_1 r0.1 r0.2 r1.1 r1.2
    have o2 := or_2 (a := 0) (b := gi xs 2) (x := gi xs 0 * 16777216 + gi xs 1 * 65536) (by omega) (by omega) (by omega) r2.1 r2.2
    have o3 := or_3 (b := gi xs 3) (x := gi xs 0 * 16777216 + gi xs 1 * 65536 + gi xs 2 * 256) (by omega) (by omega) (by omega) r3.1 r3.2
    go_enter Try.func73, Try.ntmps73
    go_wp2
    go_quiet (fail)
    go_wp2
    go_ret2
    exact ⟨rfl, _, rfl⟩
end Go.Proofs.Ytgokompppadogaa
