/-
  Rows of edits of the call's own; append of edits.
-/
import Derived.Test.YtgokompppadogaaDlt0
set_option linter.unusedVariables false
set_option linter.unusedSimpArgs false
namespace Go.Proofs.Ytgokompppadogaa
open Go.RowKit

/-- the cells of edits, their bytes read in the world W0. -/
def EdC (W0 : World) (cs : List Value) (l : List Ed) : Prop :=
  cs.length = l.length * 3 ∧ ∀ i, i < l.length → ∃ B c, cs[i * 3]? = some (.int .i64 (ed l i).f) ∧ cs[i * 3 + 1]? = some (.int .i64 (ed l i).t) ∧ cs[i * 3 + 2]? = some (.slice B (ed l i).b.length c) ∧ (ed l i).b.length ≤ c ∧ RB W0 B (ed l i).b.length (ed l i).b
theorem EdC.nil (W0 : World) : EdC W0 [] [] := ⟨rfl, fun i hi => absurd hi (by simp)⟩
theorem EdC.one {W0 : World} {B : Option Addr} {n c : Nat} {xs : List Int} (f t : Int) (h : RB W0 B n xs) (hc : n ≤ c) : EdC W0 [.int .i64 f, .int .i64 t, .slice B n c] [⟨f, t, xs⟩] := by
  have hl := h.len
  subst hl
  refine ⟨rfl, fun i hi => ?_⟩
  obtain rfl : i = 0 := by simp at hi; omega
  exact ⟨B, c, rfl, rfl, rfl, hc, h⟩
theorem ed_left {l l' : List Ed} {i : Nat} (h : i < l.length) : ed (l ++ l') i = ed l i := by simp [ed, List.getD_eq_getElem?_getD, List.getElem?_append, h]
theorem ed_right {l l' : List Ed} {i : Nat} (h : l.length ≤ i) : ed (l ++ l') i = ed l' (i - l.length) := by simp [ed, List.getD_eq_getElem?_getD, List.getElem?_append, Nat.not_lt.2 h]
theorem EdC.append {W0 : World} {cs cs' : List Value} {l l' : List Ed} (h : EdC W0 cs l) (h' : EdC W0 cs' l') : EdC W0 (cs ++ cs') (l ++ l') := by
  refine ⟨by rw [List.length_append, List.length_append, h.1, h'.1]; omega, fun i hi => ?_⟩
  rw [List.length_append] at hi
  have hl := h.1
  by_cases h1 : i < l.length
  · obtain ⟨B, c, a0, a1, a2, a3⟩ := h.2 i h1
    rw [ed_left h1]
    exact ⟨B, c, by rw [List.getElem?_append_left (by omega)]; exact a0, by rw [List.getElem?_append_left (by omega)]; exact a1, by rw [List.getElem?_append_left (by omega)]; exact a2, a3⟩
  · obtain ⟨B, c, a0, a1, a2, a3⟩ := h'.2 (i - l.length) (by omega)
    rw [ed_right (by omega)]
    refine ⟨B, c, ?_, ?_, ?_, a3⟩
    · rw [List.getElem?_append_right (by omega), hl, show i * 3 - l.length * 3 = (i - l.length) * 3 from by omega]; exact a0
    · rw [List.getElem?_append_right (by omega), hl, show i * 3 + 1 - l.length * 3 = (i - l.length) * 3 + 1 from by omega]; exact a1
    · rw [List.getElem?_append_right (by omega), hl, show i * 3 + 2 - l.length * 3 = (i - l.length) * 3 + 2 from by omega]; exact a2
theorem EdC.oneCell {W0 : World} {cs : List Value} {l : List Ed} (h : EdC W0 cs l) : ∀ u ∈ cs, u.oneCell' = true := by
  intro u hu
  obtain ⟨j, hj, rfl⟩ := List.mem_iff_getElem.1 hu
  have hl := h.1
  obtain ⟨B, c, a0, a1, a2, _⟩ := h.2 (j / 3) (by omega)
  rcases (by omega : j = j / 3 * 3 ∨ j = j / 3 * 3 + 1 ∨ j = j / 3 * 3 + 2) with e | e | e
  · rw [← e, List.getElem?_eq_getElem hj] at a0
    injection a0 with a0
    rw [a0]; rfl
  · rw [← e, List.getElem?_eq_getElem hj] at a1
    injection a1 with a1
    rw [a1]; rfl
  · rw [← e, List.getElem?_eq_getElem hj] at a2
    injection a2 with a2
    rw [a2]; rfl
/-- edits that are read: their cells, their bytes in an elder world. -/
def SEs (W0 w : World) (A : Option Addr) (n : Nat) (l : List Ed) : Prop := ∃ cs, EdC W0 cs l ∧ l.length = n ∧ Src w 3 A n cs
/-- an own row of edits. -/
def OEs (W0 w : World) (base : Nat) (v : Value) (n : Nat) (l : List Ed) : Prop := ∃ cs, EdC W0 cs l ∧ l.length = n ∧ w.ownsRow base 96 3 v n cs
section
variable {W0 w w' : World} {base n : Nat} {v : Value} {l : List Ed}
theorem OEs.nil (W0 w : World) (base : Nat) : OEs W0 w base (.slice none 0 0) 0 [] := ⟨[], EdC.nil W0, rfl, World.ownsRow_nil w base _ 3⟩
theorem OEs.own (h : OEs W0 w base v n l) : ∀ k, v.ownBlock = some k → base ≤ k ∧ k < w.heap.size := by
  obtain ⟨cs, _, _, h3⟩ := h
  exact h3.lt
theorem OEs.below (h : OEs W0 w base v n l) (hb : Below w.heap.size w w') : OEs W0 w' base v n l := by
  obtain ⟨cs, h1, h2, h3⟩ := h
  exact ⟨cs, h1, h2, h3.kept (grown_below hb none) (by cases v.ownBlock <;> simp)⟩
theorem OEs.src (h : OEs W0 w base v n l) : ∃ A c, v = .slice A n c ∧ n ≤ c ∧ SEs W0 w A n l := by
  obtain ⟨cs, h1, h2, h3⟩ := h
  rcases h3.2 with ⟨h0, h4⟩ | ⟨g, cap, cur, h4, h5, h6, h7, h8, h9, h10⟩
  · subst h4
    obtain rfl : l = [] := List.eq_nil_of_length_eq_zero h2
    obtain rfl : cs = [] := List.eq_nil_of_length_eq_zero (by have := h1.1; simpa using this)
    exact ⟨none, 0, h0, Nat.le_refl _, [], h1, rfl, rfl, fun h => absurd h (by omega)⟩
  · refine ⟨_, cap, h4, h7, cs, h1, h2, by rw [h1.1, h2], fun _ => ⟨_, rfl, fun j u hj => ?_⟩⟩
    rw [add_plain, Nat.zero_add, cell_of_row w g j cur _ (0, 0) h6]
    have hjl : j < cs.length := (List.getElem?_eq_some_iff.1 hj).1
    rw [h1.1, h2] at hjl
    rw [← h10, List.getElem?_take, if_pos hjl] at hj
    simpa using hj
theorem SEs.reads {A : Option Addr} (h : SEs W0 w A n l) (hb : Below W0.heap.size W0 w) : REs w (fun _ => True) A n l := by
  obtain ⟨cs, h1, h2, h3, h4⟩ := h
  refine ⟨h2, fun hn => ?_⟩
  obtain ⟨ad, e, hc⟩ := h4 hn
  refine ⟨ad, e, trivial, fun i hi x hx => ?_⟩
  have hx' : x = ed l i := by
    have := ed_some (l := l) (i := i) (by omega)
    rw [hx] at this
    injection this
  subst hx'
  obtain ⟨B, c, a0, a1, a2, a3, a4⟩ := h1.2 i (by omega)
  exact ⟨B, c, hc _ _ a0, hc _ _ a1, hc _ _ a2, a3, a4.below hb, fun _ _ => trivial⟩
end
theorem edInfo : (Try.prog.info? 96).map (fun i => (i.zero, i.size, i.bytes)) = some (some (.agg #[.int .i64 0, .int .i64 0, .slice none 0 0]), 3, 40) := by kernel_rfl
theorem underEds : Try.prog.underlying 88 = some (.slice 96) := by kernel_rfl
/-- 'append' of edits. -/
theorem wpList_appEds {ops : Array Oper} {rest : List Oper} {o : Oper} {a : Act} {Q : Exit → Act → World → Prop} {w : World} (hgd : o.guard = none) (s x : Operand)
    (ho : o.op = .call { callee := .builtin .append, args := #[s, x], argTypes := #[88, 88] })
    (W0 : World) (base : Nat) (v : Value) (n : Nat) (l : List Ed) (hs : a.eval s = v) (hown : OEs W0 w base v n l) (A : Option Addr) (m c : Nat) (l' : List Ed)
    (hx : a.eval x = .slice A m c) (hr : SEs W0 w A m l') (hn : n + m ≤ 1000000) (hbase : base ≤ w.heap.size)
    (h : ∀ v' w', OEs W0 w' base v' (n + m) (l ++ l') → w.grownBy w' v.ownBlock → wpList Try.prog ops Q rest (a.put o.dst v') w') : wpList Try.prog ops Q (o :: rest) a w := by
  obtain ⟨i0, hi, hz0, hz1, hz2⟩ := info_parts edInfo
  obtain ⟨cs, h1, h2, h3⟩ := hown
  obtain ⟨cs', h1', h2', h3'⟩ := hr
  exact wpList_plain hgd fun _ hK => wp_append_any w s x 88 ho base 96 i0 _ 3 40 underEds hi hz0 hz1 hz2 rfl (by omega) v n cs hs h3 A m c cs' hx h3' h1'.oneCell
    (by simp only [maxLen]; omega) (by omega) hbase fun v' w' h4 h5 h6 => hK _ _ (h v' w' ⟨_, h1.append h1', by rw [List.length_append, h2, h2'], h4⟩ h5)
end Go.Proofs.Ytgokompppadogaa
