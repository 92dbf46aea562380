/-
  Rows of the call's own: of ints, of slices of bytes; appends; Plain of ints, Same of slices of bytes.
-/
import Derived.Test.YtecglmbggldhnaaConcat
import Derived.Test.YtecglmbggldhnaaOwn
import Derived.Test.YtecglmbggldhnaaInts
import Derived.Deep.Matrix
set_option linter.unusedVariables false
set_option linter.unusedSimpArgs false
namespace Go.Proofs.Ytecglmbggldhnaa
open Go.RowKit

def iv (xs : List Int) : List Value := xs.map (Value.int .i64)
theorem iv_append (xs ys : List Int) : iv (xs ++ ys) = iv xs ++ iv ys := by simp [iv]
/-- an own row of ints. -/
def OI (w : World) (base : Nat) (v : Value) (n : Nat) (xs : List Int) : Prop := w.ownsRow base 3 1 v n (iv xs) ∧ Nums xs
/-- an own row of own rows of bytes. -/
def OWs (w : World) (base : Nat) (v : Value) (k : Nat) (ps : List (List Int)) : Prop :=
  ∃ cs : List Value, w.ownsRow base 22 1 v k cs ∧ ps.length = k ∧ ∀ i, i < k → ∃ vi, cs[i]? = some vi ∧ OB w base vi (ps.getD i []).length (ps.getD i [])
/-- a row of what kind a value's own block is. -/
def KindOf (w : World) (v : Value) (E : TypeId) : Prop := ∀ g, v.ownBlock = some g → ∃ cs, Blk w g E cs
theorem kind_of {w : World} {base n : Nat} {E : TypeId} {v : Value} {cs : List Value} (h : w.ownsRow base E 1 v n cs) : KindOf w v E := by
  intro g hg
  rcases h.2 with ⟨h0, _⟩ | ⟨g', cap, cur, h1, _, h3, _⟩
  · subst h0; cases hg
  · subst h1
    injection hg with hg
    subst hg
    exact ⟨cur, h3⟩
section
variable {w w' : World} {base : Nat} {v v' : Value} {n : Nat} {xs : List Int} {ps : List (List Int)}
theorem OI.kind (h : OI w base v n xs) : KindOf w v 3 := kind_of h.1
theorem OWs.kind (h : OWs w base v n ps) : KindOf w v 22 := by
  obtain ⟨cs, h1, _⟩ := h
  exact kind_of h1
theorem OB.kind (h : OB w base v n xs) : KindOf w v 5 := kind_of h.1
theorem own_ne {E E' : TypeId} (h : KindOf w v E) (h' : KindOf w v' E') (hne : E ≠ E') : v.ownBlock = none ∨ v.ownBlock ≠ v'.ownBlock := by
  cases e : v.ownBlock with
  | none => exact .inl rfl
  | some g =>
    refine .inr fun e' => ?_
    obtain ⟨cs, h1⟩ := h g e
    obtain ⟨cs', h2⟩ := h' g e'.symm
    exact Blk.ne_ h1 h2 hne rfl
theorem OI.nil (w : World) (base : Nat) : OI w base (.slice none 0 0) 0 [] := ⟨World.ownsRow_nil w base 3 1, fun x hx => by cases hx⟩
theorem OWs.nil (w : World) (base : Nat) : OWs w base (.slice none 0 0) 0 [] := ⟨[], World.ownsRow_nil w base 22 1, rfl, fun i hi => absurd hi (by omega)⟩
theorem OI.grown {E : TypeId} (h : OI w base v n xs) (hk : KindOf w v' E) (hE : 3 ≠ E) (hg : w.grownBy w' v'.ownBlock) : OI w' base v n xs := ⟨h.1.kept hg (own_ne h.kind hk hE), h.2⟩
theorem OB.grownK {E : TypeId} (h : OB w base v n xs) (hk : KindOf w v' E) (hE : 5 ≠ E) (hg : w.grownBy w' v'.ownBlock) : OB w' base v n xs := h.kept hg (own_ne h.kind hk hE)
theorem OWs.grown {E : TypeId} (h : OWs w base v n ps) (hk : KindOf w v' E) (hE : 22 ≠ E) (hE' : 5 ≠ E) (hg : w.grownBy w' v'.ownBlock) : OWs w' base v n ps := by
  have hkd := h.kind
  obtain ⟨cs, h1, h2, h3⟩ := h
  refine ⟨cs, h1.kept hg (own_ne hkd hk hE), h2, fun i hi => ?_⟩
  obtain ⟨vi, e, ho⟩ := h3 i hi
  exact ⟨vi, e, ho.grownK hk hE' hg⟩
theorem OI.below (h : OI w base v n xs) (hb : Below w.heap.size w w') : OI w' base v n xs := ⟨h.1.kept (grown_below hb none) (by cases v.ownBlock <;> simp), h.2⟩
theorem OWs.below (h : OWs w base v n ps) (hb : Below w.heap.size w w') : OWs w' base v n ps := by
  obtain ⟨cs, h1, h2, h3⟩ := h
  refine ⟨cs, h1.kept (grown_below hb none) (by cases v.ownBlock <;> simp), h2, fun i hi => ?_⟩
  obtain ⟨vi, e, ho⟩ := h3 i hi
  exact ⟨vi, e, ho.below hb⟩
theorem OI.own (h : OI w base v n xs) : ∀ k, v.ownBlock = some k → base ≤ k ∧ k < w.heap.size := h.1.lt
theorem OWs.own (h : OWs w base v n ps) : ∀ k, v.ownBlock = some k → base ≤ k ∧ k < w.heap.size := by
  obtain ⟨cs, h1, _⟩ := h
  exact h1.lt
theorem OI.reads (h : OI w base v n xs) : ∃ A c, v = .slice A n c ∧ n ≤ c ∧ RI w A n xs := by
  have hl : xs.length = n := by
    have := h.1.1
    simp [iv] at this
    omega
  rcases h.1.2 with ⟨h0, h1⟩ | ⟨g, cap, cur, h1, h2, h3, h4, h5, h6, h7⟩
  · subst h1
    have : xs = [] := List.eq_nil_of_length_eq_zero hl
    subst this
    exact ⟨none, 0, h0, Nat.le_refl _, rfl, h.2, fun hh => absurd hh (by omega)⟩
  · refine ⟨_, cap, h1, h4, hl, h.2, fun _ => ⟨_, rfl, fun j hj => ?_⟩⟩
    rw [add_plain, Nat.zero_add, cell_of_row w g j cur 3 (0, 0) h3]
    have e : (iv xs)[j]? = some (.int .i64 (gi xs j)) := by simp [iv, gi, hl, hj]
    rw [← h7, Nat.mul_one, List.getElem?_take, if_pos hj] at e
    simpa using e
theorem OWs.reads (h : OWs w base v n ps) : ∃ A c, v = .slice A n c ∧ n ≤ c ∧ RBs w A n ps := by
  obtain ⟨cs, h1, h2, h3⟩ := h
  rcases h1.2 with ⟨h0, h4⟩ | ⟨g, cap, cur, h4, h5, h6, h7, h8, h9, h10⟩
  · subst h4
    have : ps = [] := List.eq_nil_of_length_eq_zero h2
    subst this
    exact ⟨none, 0, h0, Nat.le_refl _, rfl, 0, 0, fun h => absurd h (by omega), fun i hi => absurd hi (by omega)⟩
  · refine ⟨_, cap, h4, h7, h2, g, 0, fun _ => rfl, fun i hi => ?_⟩
    obtain ⟨vi, e, ho⟩ := h3 i hi
    obtain ⟨Ai, ci, rfl, hc⟩ := ho.slice
    refine ⟨Ai, ci, ?_, hc, ho.reads⟩
    rw [cell_of_row w g _ cur 22 (0, 0) h6, Nat.zero_add, ← e, ← h10]
    rw [Nat.mul_one, List.getElem?_take, if_pos hi]
    simp
end
theorem intInfo : (Try.prog.info? 3).map (fun i => (i.zero, i.size, i.bytes)) = some (some (.int .i64 0), 1, 8) := by kernel_rfl
theorem rowInfo : (Try.prog.info? 22).map (fun i => (i.zero, i.size, i.bytes)) = some (some (.slice none 0 0), 1, 24) := by kernel_rfl
theorem underInts : Try.prog.underlying 40 = some (.slice 3) := by kernel_rfl
theorem underRows : Try.prog.underlying 39 = some (.slice 22) := by kernel_rfl
theorem wpList_appInt {ops : Array Oper} {rest : List Oper} {o : Oper} {a : Act} {Q : Exit → Act → World → Prop} {w : World} (hgd : o.guard = none) (s x : Operand)
    (ho : o.op = .call { callee := .builtin .append, args := #[s, x], argTypes := #[40, 40] })
    (base : Nat) (v : Value) (n : Nat) (xs : List Int) (hs : a.eval s = v) (hown : OI w base v n xs) (g : Nat) (k : Int)
    (hx : a.eval x = .slice (some ⟨g, 0, none⟩) 1 1) (hg : Blk w g 3 #[.int .i64 k]) (hk : -9223372036854775808 ≤ k ∧ k ≤ 9223372036854775807) (hn : n ≤ 1000000) (hbase : base ≤ w.heap.size)
    (h : ∀ v' w', OI w' base v' (n + 1) (xs ++ [k]) → w.grownBy w' v.ownBlock → wpList Try.prog ops Q rest (a.put o.dst v') w') : wpList Try.prog ops Q (o :: rest) a w := by
  obtain ⟨i0, hi, hz0, hz1, hz2⟩ := info_parts intInfo
  refine wpList_plain hgd fun _ hK => wp_append_any w s x 40 ho base 3 i0 _ 1 8 underInts hi hz0 hz1 hz2 rfl (by omega) v n (iv xs) hs hown.1 (some ⟨g, 0, none⟩) 1 1 [.int .i64 k] hx
    ⟨rfl, fun _ => ⟨_, rfl, fun j u hj => ?_⟩⟩ (by simp [Value.oneCell']) (by simp only [maxLen]; omega) (by omega) hbase fun v' w' h4 h5 h6 => hK _ _ (h v' w' ⟨by rw [iv_append]; exact h4, fun y hy => ?_⟩ h5)
  · rw [add_plain, Nat.zero_add, hg.cell]
    simpa using hj
  · rcases List.mem_append.1 hy with hy | hy
    · exact hown.2 y hy
    · simp at hy; subst hy; exact hk
theorem wpList_appRow {ops : Array Oper} {rest : List Oper} {o : Oper} {a : Act} {Q : Exit → Act → World → Prop} {w : World} (hgd : o.guard = none) (s x : Operand)
    (ho : o.op = .call { callee := .builtin .append, args := #[s, x], argTypes := #[39, 39] })
    (base : Nat) (v : Value) (k : Nat) (ps : List (List Int)) (hs : a.eval s = v) (hown : OWs w base v k ps) (g : Nat) (vx : Value) (n : Nat) (xs : List Int)
    (hx : a.eval x = .slice (some ⟨g, 0, none⟩) 1 1) (hg : Blk w g 22 #[vx]) (hr : OB w base vx n xs) (hk : k ≤ 1000000) (hbase : base ≤ w.heap.size)
    (h : ∀ v' w', OWs w' base v' (k + 1) (ps ++ [xs]) → w.grownBy w' v.ownBlock → wpList Try.prog ops Q rest (a.put o.dst v') w') : wpList Try.prog ops Q (o :: rest) a w := by
  obtain ⟨i0, hi, hz0, hz1, hz2⟩ := info_parts rowInfo
  have hkd := hown.kind
  have hl := hr.len
  have h1c : vx.oneCell' = true := by
    obtain ⟨A', c', rfl, _⟩ := hr.slice
    rfl
  obtain ⟨cs, h1, h2, h3⟩ := hown
  have hcl := h1.1
  refine wpList_plain hgd fun _ hK => wp_append_any w s x 39 ho base 22 i0 _ 1 24 underRows hi hz0 hz1 hz2 rfl (by omega) v k cs hs h1 (some ⟨g, 0, none⟩) 1 1 [vx] hx
    ⟨rfl, fun _ => ⟨_, rfl, fun j u hj => ?_⟩⟩ (by simp [h1c]) (by simp only [maxLen]; omega) (by omega) hbase fun v' w' h4 h5 h6 => hK _ _ (h v' w' ⟨_, h4, by simp [h2], fun i hi => ?_⟩ h5)
  · rw [add_plain, Nat.zero_add, hg.cell]
    simpa using hj
  · rw [Nat.mul_one] at hcl
    by_cases hik : i < k
    · obtain ⟨vi, h7, h8⟩ := h3 i hik
      have e : (ps ++ [xs]).getD i [] = ps.getD i [] := by simp [List.getD_eq_getElem?_getD, List.getElem?_append, h2, hik]
      rw [e]
      exact ⟨vi, by rw [List.getElem?_append_left (by omega)]; exact h7, h8.grownK hkd (by decide) h5⟩
    · obtain rfl : i = k := by omega
      have e : (ps ++ [xs]).getD i [] = xs := by simp [List.getD_eq_getElem?_getD, List.getElem?_append, h2]
      rw [e, hl]
      exact ⟨vx, by rw [List.getElem?_append_right (by omega), hcl]; simp, hr.grownK hkd (by decide) h5⟩
end Go.Proofs.Ytecglmbggldhnaa
