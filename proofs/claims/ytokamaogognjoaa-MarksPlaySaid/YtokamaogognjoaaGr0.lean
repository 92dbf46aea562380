/-
  Slices of ids: read, owned, appended to; loads of ids.
-/
import Derived.Test.YtokamaogognjoaaIMap
import Derived.Deep.MidRow
set_option linter.unusedVariables false
set_option linter.unusedSimpArgs false
namespace Go.Proofs.Ytokamaogognjoaa
open Go.RowKit

/-- an id's value, open to unification. -/
abbrev ida (xs : List Int) : Value := .agg (bv xs).toArray
set_option maxRecDepth 100000 in
theorem idSz {xs : List Int} (h : IsId xs) : (Try.prog.info? 25).map (·.size) = some (bv xs).length := by rw [bv_length, h.1]; exact idSize
set_option maxRecDepth 100000 in
/-- a load of an id that lies somewhere. -/
theorem ld_id {w : World} {b o : Nat} {xs : List Int} (h : w.rangeAt b o (bv xs)) (hx : IsId xs) : (Instr.loadAt 25 (.pointer (some ⟨b, o, none⟩))).run Try.prog w = .ok (ida xs) w :=
  run_loadAt_mid w b o _ (bv xs) _ h idTy rfl (idSz hx)
set_option maxRecDepth 100000 in
theorem Blk.range {w : World} {g : Nat} {t : TypeId} {xs : List Int} (h : Blk w g t (bv xs).toArray) : w.rangeAt g 0 (bv xs) := fun j v hj => by
  rw [Nat.zero_add, h.cell, List.getElem?_toArray]
  exact hj
set_option maxRecDepth 100000 in
theorem Blk.ldId {w : World} {g : Nat} {t : TypeId} {xs : List Int} (h : Blk w g t (bv xs).toArray) (hx : IsId xs) : (Instr.loadAt 25 (.pointer (some ⟨g, 0, none⟩))).run Try.prog w = .ok (ida xs) w := ld_id h.range hx

/-! ### lists of ids -/
def AllId (L : List (List Int)) : Prop := ∀ x ∈ L, IsId x
def gid (L : List (List Int)) (j : Nat) : List Int := L.getD j []
set_option maxRecDepth 100000 in
theorem gid_some {L : List (List Int)} {j : Nat} (h : j < L.length) : L[j]? = some (gid L j) := by simp [gid, h]
set_option maxRecDepth 100000 in
theorem gid_mem {L : List (List Int)} {j : Nat} (h : j < L.length) : gid L j ∈ L := List.mem_of_getElem? (gid_some h)
set_option maxRecDepth 100000 in
theorem AllId.at_ {L : List (List Int)} (h : AllId L) {j : Nat} (hj : j < L.length) : IsId (gid L j) := h _ (gid_mem hj)
set_option maxRecDepth 100000 in
theorem AllId.nil : AllId [] := fun _ h => by simp at h
set_option maxRecDepth 100000 in
theorem AllId.append {L M : List (List Int)} (h : AllId L) (h' : AllId M) : AllId (L ++ M) := fun x hx => by
  rcases List.mem_append.1 hx with hx | hx
  · exact h x hx
  · exact h' x hx
set_option maxRecDepth 100000 in
theorem AllId.one {x : List Int} (h : IsId x) : AllId [x] := fun y hy => by
  rw [List.mem_singleton] at hy
  exact hy ▸ h
set_option maxRecDepth 100000 in
theorem AllId.take {L : List (List Int)} (h : AllId L) (k : Nat) : AllId (L.take k) := fun x hx => h x (List.mem_of_mem_take hx)
def iv (L : List (List Int)) : List Value := bv L.flatten
set_option maxRecDepth 100000 in
theorem flat_len : ∀ {L : List (List Int)}, AllId L → L.flatten.length = L.length * 20
  | [], _ => rfl
  | x :: L, h => by
    have h1 := (h x (by simp)).1
    have h2 := flat_len (L := L) fun y hy => h y (by simp [hy])
    simp only [List.flatten_cons, List.length_append, List.length_cons, h1, h2]
    omega
set_option maxRecDepth 100000 in
theorem flat_get : ∀ {L : List (List Int)}, AllId L → ∀ {j i : Nat}, j < L.length → i < 20 → L.flatten[j * 20 + i]? = (gid L j)[i]?
  | [], _, j, i, hj, _ => by simp at hj
  | x :: L, h, 0, i, _, hi => by
    have h1 := (h x (by simp)).1
    rw [List.flatten_cons, Nat.zero_mul, Nat.zero_add, List.getElem?_append_left (by omega)]
    rfl
  | x :: L, h, j + 1, i, hj, hi => by
    have h1 := (h x (by simp)).1
    rw [List.flatten_cons, List.getElem?_append_right (by omega), h1, show (j + 1) * 20 + i - 20 = j * 20 + i from by omega,
      flat_get (L := L) (fun y hy => h y (by simp [hy])) (by simpa using hj) hi]
    rfl
set_option maxRecDepth 100000 in
theorem iv_len {L : List (List Int)} (h : AllId L) : (iv L).length = L.length * 20 := by unfold iv; rw [bv_length, flat_len h]
set_option maxRecDepth 100000 in
theorem iv_get {L : List (List Int)} (h : AllId L) {j i : Nat} (hj : j < L.length) (hi : i < 20) : (iv L)[j * 20 + i]? = (bv (gid L j))[i]? := by
  unfold iv bv
  rw [List.getElem?_map, flat_get h hj hi, List.getElem?_map]
set_option maxRecDepth 100000 in
theorem iv_append (L M : List (List Int)) : iv (L ++ M) = iv L ++ iv M := by unfold iv; rw [List.flatten_append, bv_append]
set_option maxRecDepth 100000 in
theorem iv_one (L : List (List Int)) : ∀ u ∈ iv L, u.oneCell' = true := bv_one _

/-! ### slices of ids -/
def RIds (w : World) (A : Option Addr) (n : Nat) (L : List (List Int)) : Prop :=
  L.length = n ∧ AllId L ∧ (0 < n → ∃ b o, A = some ⟨b, o, none⟩ ∧ ∀ j, j < n → w.rangeAt b (o + j * 20) (bv (gid L j)))
section
variable {w w' : World} {A : Option Addr} {n : Nat} {L : List (List Int)}
set_option maxRecDepth 100000 in
theorem RIds.nil (w : World) (A : Option Addr) : RIds w A 0 [] := ⟨rfl, AllId.nil, fun h => absurd h (by omega)⟩
set_option maxRecDepth 100000 in
theorem RIds.keep (h : RIds w A n L) (hk : ∀ b o v, A = some ⟨b, o, none⟩ → ∀ i, w.cell? ⟨b, i, none⟩ = some v → w'.cell? ⟨b, i, none⟩ = some v) : RIds w' A n L :=
  ⟨h.1, h.2.1, fun hn => by
    obtain ⟨b, o, e, hc⟩ := h.2.2 hn
    exact ⟨b, o, e, fun j hj i v hv => hk b o v e _ (hc j hj i v hv)⟩⟩
set_option maxRecDepth 100000 in
theorem RIds.below (h : RIds w A n L) (hb : Below w.heap.size w w') : RIds w' A n L := h.keep fun b o v e i hv => cell_later hb hv
set_option maxRecDepth 100000 in
theorem RIds.alloc (h : RIds w A n L) (o : Obj) : RIds (w.alloc o) A n L := h.below ((Below.refl _ _).alloc (Nat.le_refl _) o)
set_option maxRecDepth 100000 in
theorem RIds.drewN (h : RIds w A n L) (k : Nat) : RIds (w.drewN k) A n L := h
set_option maxRecDepth 100000 in
theorem RIds.grown (h : RIds w A n L) {row : Option Nat} (hg : w.grownBy w' row) (hne : ∀ ad, A = some ad → some ad.block ≠ row) : RIds w' A n L :=
  h.keep fun b o v e i hv => hg.cell hv (by have := hne _ e; exact this)
set_option maxRecDepth 100000 in
theorem RIds.src (h : RIds w A n L) : Src w 20 A n (iv L) := by
  refine ⟨by rw [iv_len h.2.1, h.1], fun hn => ?_⟩
  obtain ⟨b, o, e, hc⟩ := h.2.2 hn
  refine ⟨_, e, fun j u hj => ?_⟩
  have hjl : j < (iv L).length := (List.getElem?_eq_some_iff.1 hj).1
  rw [iv_len h.2.1, h.1] at hjl
  have hq : j / 20 < n := by omega
  have hjm : j = j / 20 * 20 + j % 20 := by omega
  rw [hjm, iv_get h.2.1 (by rw [h.1]; exact hq) (by omega)] at hj
  have := hc (j / 20) hq (j % 20) u hj
  rw [add_plain, show o + j = o + j / 20 * 20 + j % 20 from by omega]
  exact this
set_option maxRecDepth 100000 in
theorem RIds.take {k : Nat} (h : RIds w A n L) (hk : k ≤ n) : RIds w A k (L.take k) := by
  refine ⟨by rw [List.length_take, h.1]; omega, h.2.1.take k, fun hn => ?_⟩
  obtain ⟨b, o, e, hc⟩ := h.2.2 (by omega)
  refine ⟨b, o, e, fun j hj => ?_⟩
  have : gid (L.take k) j = gid L j := by simp [gid, List.getElem?_take, hj]
  rw [this]
  exact hc j (by omega)
set_option maxRecDepth 100000 in
theorem RIds.one {g : Nat} {t : TypeId} {x : List Int} (hb : Blk w g t (bv x).toArray) (hx : IsId x) : RIds w (some ⟨g, 0, none⟩) 1 [x] :=
  ⟨rfl, AllId.one hx, fun _ => ⟨g, 0, rfl, fun j hj => by
    obtain rfl : j = 0 := by omega
    exact hb.range⟩⟩
set_option maxRecDepth 100000 in
theorem RIds.empty (h : RIds w A n L) (hA : A = none) : n = 0 := by
  rcases Nat.eq_zero_or_pos n with h0 | h0
  · exact h0
  · obtain ⟨b, o, e, _⟩ := h.2.2 h0
    rw [hA] at e
    cases e
end
set_option maxRecDepth 100000 in
theorem idInfo : (Try.prog.info? 25).map (fun i => (i.zero, i.size, i.bytes)) = some (some (.agg zid), 20, 20) := by kernel_rfl
set_option maxRecDepth 100000 in
theorem sizeId (w : World) : (sizeOf 25).run Try.prog w = .ok 20 w := by kernel_rfl
/-- a row of ids of the call's own. -/
def OIds (w : World) (base : Nat) (v : Value) (n : Nat) (L : List (List Int)) : Prop := w.ownsRow base 25 20 v n (iv L) ∧ AllId L ∧ L.length = n
section
variable {w w' : World} {base n : Nat} {v : Value} {L : List (List Int)}
set_option maxRecDepth 100000 in
theorem OIds.nil (w : World) (base : Nat) : OIds w base (.slice none 0 0) 0 [] := ⟨World.ownsRow_nil w base _ 20, AllId.nil, rfl⟩
set_option maxRecDepth 100000 in
theorem OIds.own (h : OIds w base v n L) : ∀ k, v.ownBlock = some k → base ≤ k ∧ k < w.heap.size := h.1.lt
set_option maxRecDepth 100000 in
theorem OIds.kept (h : OIds w base v n L) {row : Option Nat} (hg : w.grownBy w' row) (hne : v.ownBlock = none ∨ v.ownBlock ≠ row) : OIds w' base v n L := ⟨h.1.kept hg hne, h.2⟩
set_option maxRecDepth 100000 in
theorem OIds.alloc (h : OIds w base v n L) (o : Obj) : OIds (w.alloc o) base v n L := ⟨h.1.alloc o, h.2⟩
set_option maxRecDepth 100000 in
theorem OIds.below (h : OIds w base v n L) (hb : Below w.heap.size w w') : OIds w' base v n L := h.kept (grown_below hb none) (by cases v.ownBlock <;> simp)
set_option maxRecDepth 100000 in
theorem OIds.drewN (h : OIds w base v n L) (k : Nat) : OIds (w.drewN k) base v n L := h.below ⟨rfl, rfl, rfl, Nat.le_refl _, fun _ _ => rfl⟩
set_option maxRecDepth 100000 in
theorem OIds.lower {base' : Nat} (h : OIds w base v n L) (hb : base' ≤ base) : OIds w base' v n L := by
  refine ⟨⟨h.1.1, ?_⟩, h.2⟩
  rcases h.1.2 with h0 | ⟨g, cap, cur, h1, h2, h3⟩
  · exact .inl h0
  · exact .inr ⟨g, cap, cur, h1, Nat.le_trans hb h2, h3⟩
set_option maxRecDepth 100000 in
theorem OIds.form (h : OIds w base v n L) : (v = .slice none 0 0 ∧ n = 0 ∧ L = []) ∨ ∃ g cap cur, v = .slice (some ⟨g, 0, none⟩) n cap ∧ base ≤ g ∧ g < w.heap.size ∧ n ≤ cap ∧ cap ≤ maxLen ∧ Blk w g 25 cur ∧ cur.size = cap * 20 ∧ cur.toList.take (n * 20) = iv L := by
  rcases h.1.2 with ⟨h0, h1⟩ | ⟨g, cap, cur, h1, h2, h3, h4, h5, h6, h7⟩
  · subst h1
    exact .inl ⟨h0, rfl, List.eq_nil_of_length_eq_zero h.2.2⟩
  · exact .inr ⟨g, cap, cur, h1, h2, (Array.getElem?_eq_some_iff.1 h3).1, h4, h5, h3, h6, h7⟩
set_option maxRecDepth 100000 in
theorem OIds.slice (h : OIds w base v n L) : ∃ A c, v = .slice A n c ∧ n ≤ c := by
  rcases h.form with ⟨rfl, rfl, _⟩ | ⟨g, cap, cur, rfl, _, _, hc, _⟩
  · exact ⟨none, 0, rfl, Nat.le_refl _⟩
  · exact ⟨_, cap, rfl, hc⟩
set_option maxRecDepth 100000 in
theorem OIds.max (h : OIds w base v n L) : n ≤ 9223372036854775807 := by
  rcases h.form with ⟨_, rfl, _⟩ | ⟨g, cap, cur, rfl, _, _, hc, hm, _⟩
  · omega
  · simp only [maxLen] at hm
    omega
set_option maxRecDepth 100000 in
theorem OIds.reads {A : Option Addr} {c : Nat} (h : OIds w base (.slice A n c) n L) : RIds w A n L := by
  refine ⟨h.2.2, h.2.1, fun hn => ?_⟩
  rcases h.form with ⟨h0, h1, _⟩ | ⟨g, cap, cur, hv, _, _, hc, _, hb, hs, ht⟩
  · omega
  · injection hv with hA
    subst hA
    refine ⟨g, 0, rfl, fun j hj i v hv => ?_⟩
    rw [Nat.zero_add, hb.cell]
    have hi : i < 20 := by
      have := (List.getElem?_eq_some_iff.1 hv).1
      rw [bv_length, (h.2.1.at_ (by rw [h.2.2]; exact hj)).1] at this
      exact this
    rw [← iv_get h.2.1 (by rw [h.2.2]; exact hj) hi, ← ht, List.getElem?_take, if_pos (by omega)] at hv
    simpa using hv
set_option maxRecDepth 100000 in
theorem OIds.cutEnd {A : Option Addr} {c k : Nat} (h : OIds w base (.slice A n c) n L) (hk : k ≤ n) : OIds w base (.slice A k c) k (L.take k) := by
  have hl : (L.take k).length = k := by rw [List.length_take, h.2.2]; omega
  refine ⟨⟨by rw [iv_len (h.2.1.take k), hl], ?_⟩, h.2.1.take k, hl⟩
  rcases h.form with ⟨h0, h1, h2⟩ | ⟨g, cap, cur, hv, hb, _, hc, hm, hB, hs, ht⟩
  · injection h0 with hA _ hc
    subst hA
    obtain rfl : k = 0 := by omega
    subst hc
    exact .inl ⟨rfl, rfl⟩
  · injection hv with hA _ hcc
    subst hA hcc
    refine .inr ⟨g, c, cur, rfl, hb, hB, by omega, hm, hs, ?_⟩
    have : (cur.toList.take (n * 20)).take (k * 20) = (iv L).take (k * 20) := by rw [ht]
    rw [List.take_take, Nat.min_eq_left (by omega)] at this
    rw [this]
    have e : iv L = iv (L.take k) ++ iv (L.drop k) := by rw [← iv_append, List.take_append_drop]
    rw [e, List.take_left' (by rw [iv_len (h.2.1.take k), hl])]
end
set_option maxRecDepth 100000 in
theorem OIds.empty (w : World) (base : Nat) (hb : base ≤ w.heap.size) : OIds (w.alloc (.cells #[] 25)) base (.slice (some ⟨w.heap.size, 0, none⟩) 0 0) 0 [] :=
  ⟨⟨rfl, .inr ⟨w.heap.size, 0, #[], rfl, hb, Blk.new w _ #[], Nat.le_refl _, by simp [maxLen], rfl, rfl⟩⟩, AllId.nil, rfl⟩
/-- what a call that makes ids leaves. -/
def NewIds (n : Nat) (L : List (List Int)) (w : World) (e : Ending) (w' : World) : Prop := ∃ A c, e = .returned (.slice A n c) ∧ OIds w' w.heap.size (.slice A n c) n L ∧ n ≤ c ∧ Below w.heap.size w w'
set_option maxRecDepth 100000 in
theorem NewIds.of {n : Nat} {L : List (List Int)} {w w' : World} {v : Value} (h : OIds w' w.heap.size v n L) (hb : Below w.heap.size w w') : NewIds n L w (.returned v) w' := by
  obtain ⟨A, c, rfl, hc⟩ := h.slice
  exact ⟨A, c, rfl, h, hc, hb⟩
/-! ### a slice of one id -/
set_option maxRecDepth 100000 in
theorem fold_set : ∀ (l : List Value) (k : Nat) (z : Array Value), z.size = k + l.length → ((l.zipIdx k).foldl (fun (cs : Array Value) (p : Value × Nat) => cs.setIfInBounds p.2 p.1) z).toList = z.toList.take k ++ l
  | [], k, z, h => by
    simp only [List.zipIdx_nil, List.foldl_nil, List.append_nil]
    rw [List.take_of_length_le]
    simp at h ⊢
    omega
  | c :: l, k, z, h => by
    rw [List.zipIdx_cons, List.foldl_cons, fold_set l (k + 1) _ (by simp at h ⊢; omega)]
    have hk : k < z.toList.length := by simp at h ⊢; omega
    rw [Array.toList_setIfInBounds, List.take_succ_eq_append_getElem (by simpa using hk), List.getElem_set_self, List.take_set_of_le (Nat.le_refl _), List.append_assoc]
    rfl
end Go.Proofs.Ytokamaogognjoaa
