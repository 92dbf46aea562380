/-
  revlog.Log in memory: the block, the map, the rows of revisions, how each text is kept.
-/
import Derived.Test.YtgokompppadogaaRv1
set_option linter.unusedVariables false
set_option linter.unusedSimpArgs false
namespace Go.Proofs.Ytgokompppadogaa
open Go.RowKit

/-! ### rows of cells -/
theorem rows_len {s : Nat} : ∀ (l : List (List Value)), (∀ x ∈ l, x.length = s) → l.flatten.length = l.length * s
  | [], _ => by simp
  | x :: l, h => by
    have h1 := rows_len l fun q hq => h q (List.mem_cons_of_mem _ hq)
    have h2 := h x List.mem_cons_self
    rw [List.flatten_cons, List.length_append, h1, h2, List.length_cons, Nat.add_mul]
    omega
theorem rows_get {s : Nat} : ∀ (l : List (List Value)), (∀ x ∈ l, x.length = s) → ∀ (j : Nat) (x : List Value), l[j]? = some x → ∀ i, i < s → l.flatten[j * s + i]? = x[i]?
  | [], _, j, x, hx, _, _ => by simp at hx
  | q :: l, h, j, x, hx, i, hi => by
    have h2 := h q List.mem_cons_self
    rw [List.flatten_cons]
    cases j with
    | zero =>
      simp at hx
      subst hx
      rw [Nat.zero_mul, Nat.zero_add, List.getElem?_append_left (by omega)]
    | succ j =>
      rw [Nat.add_mul, List.getElem?_append_right (by omega), show j * s + 1 * s + i - q.length = j * s + i from by omega]
      exact rows_get l (fun r hr => h r (List.mem_cons_of_mem _ hr)) j x (by simpa using hx) i hi
/-- the cells of a revision. -/
def rvC (r : Rv) (V : Value) : List Value := bv r.node ++ (bv r.p1 ++ (bv r.p2 ++ [V]))
def RvIds (r : Rv) : Prop := IsId r.node ∧ IsId r.p1 ∧ IsId r.p2
theorem rvC_len {r : Rv} {V : Value} (h : RvIds r) : (rvC r V).length = 61 := by simp [rvC, bv_length, h.1.1, h.2.1.1, h.2.2.1]
theorem rvC_node {r : Rv} {V : Value} (h : RvIds r) {i : Nat} {v : Value} (hv : (bv r.node)[i]? = some v) : i < 61 ∧ (rvC r V)[i]? = some v := by
  have hi := (List.getElem?_eq_some_iff.1 hv).1
  rw [bv_length, h.1.1] at hi
  exact ⟨by omega, by rw [rvC, List.getElem?_append_left (by rw [bv_length, h.1.1]; exact hi)]; exact hv⟩
theorem rvC_p1 {r : Rv} {V : Value} (h : RvIds r) {i : Nat} {v : Value} (hv : (bv r.p1)[i]? = some v) : 20 + i < 61 ∧ (rvC r V)[20 + i]? = some v := by
  have hi := (List.getElem?_eq_some_iff.1 hv).1
  rw [bv_length, h.2.1.1] at hi
  refine ⟨by omega, ?_⟩
  rw [rvC, List.getElem?_append_right (by rw [bv_length, h.1.1]; omega), bv_length, h.1.1, show 20 + i - 20 = i from by omega, List.getElem?_append_left (by rw [bv_length, h.2.1.1]; exact hi)]
  exact hv
theorem rvC_p2 {r : Rv} {V : Value} (h : RvIds r) {i : Nat} {v : Value} (hv : (bv r.p2)[i]? = some v) : 40 + i < 61 ∧ (rvC r V)[40 + i]? = some v := by
  have hi := (List.getElem?_eq_some_iff.1 hv).1
  rw [bv_length, h.2.2.1] at hi
  refine ⟨by omega, ?_⟩
  rw [rvC, List.getElem?_append_right (by rw [bv_length, h.1.1]; omega), bv_length, h.1.1, show 40 + i - 20 = 20 + i from by omega, List.getElem?_append_right (by rw [bv_length, h.2.1.1]; omega), bv_length, h.2.1.1, show 20 + i - 20 = i from by omega, List.getElem?_append_left (by rw [bv_length, h.2.2.1]; exact hi)]
  exact hv
theorem rvC_k {r : Rv} {V : Value} (h : RvIds r) : (rvC r V)[60]? = some V := by
  rw [rvC, List.getElem?_append_right (by rw [bv_length, h.1.1]; omega), bv_length, h.1.1, List.getElem?_append_right (by rw [bv_length, h.2.1.1]; omega), bv_length, h.2.1.1, List.getElem?_append_right (by rw [bv_length, h.2.2.1]; omega), bv_length, h.2.2.1]
  rfl
def rows (L : Lg) (Vs : List Value) : List (List Value) := (L.zip Vs).map fun p => rvC p.1 p.2
def lgC (L : Lg) (Vs : List Value) : List Value := (rows L Vs).flatten
theorem rows_at {L : Lg} {Vs : List Value} {j : Nat} {V : Value} (hj : j < L.length) (hV : Vs[j]? = some V) : (rows L Vs)[j]? = some (rvC (rv L j) V) := by
  unfold rows
  rw [List.getElem?_map, (List.getElem?_zip_eq_some (z := (rv L j, V))).2 ⟨rv_some hj, hV⟩]
  rfl
theorem rows_all {L : Lg} {Vs : List Value} (h : LInv L) : ∀ x ∈ rows L Vs, x.length = 61 := fun x hx => by
  obtain ⟨p, hp, rfl⟩ := List.mem_map.1 hx
  obtain ⟨j, hj, e⟩ := List.getElem_of_mem (List.of_mem_zip hp).1
  have := h.ids j hj
  have e2 : rv L j = p.1 := by simp [rv, hj, e]
  rw [e2] at this
  exact rvC_len this
theorem lgC_len {L : Lg} {Vs : List Value} (h : LInv L) (hl : Vs.length = L.length) : (lgC L Vs).length = L.length * 61 := by
  unfold lgC
  rw [rows_len _ (rows_all h)]
  simp [rows, hl]
theorem lgC_get {L : Lg} {Vs : List Value} (h : LInv L) {j : Nat} {V : Value} (hj : j < L.length) (hV : Vs[j]? = some V) {i : Nat} (hi : i < 61) : (lgC L Vs)[j * 61 + i]? = (rvC (rv L j) V)[i]? :=
  rows_get _ (rows_all h) j _ (rows_at hj hV) i hi
theorem lgC_snoc {L : Lg} {Vs : List Value} (hl : Vs.length = L.length) (r : Rv) (V : Value) : lgC (L ++ [r]) (Vs ++ [V]) = lgC L Vs ++ rvC r V := by
  unfold lgC rows
  rw [List.zip_append hl.symm]
  simp
/-! ### memory -/
/-- how a text is kept: V. -/
def KeptV (w : World) (P : Nat → Prop) (g : Nat) (a t : List Int) (ch : Nat) (V : Value) : Prop :=
  ∃ B k d body, RB w B k body ∧ k ≤ d ∧ (∀ ad, B = some ad → P ad.block ∧ ad.block ≠ g ∧ ad.block < w.heap.size) ∧
    ((ch = 0 ∧ body = t ∧ V = .iface 93 (.agg #[.slice B k d])) ∨ (0 < ch ∧ body = prL (mkEdits a t) ∧ V = .iface 85 (.agg #[.slice B k d, .int .i64 (ch : Nat)])))
structure LgMem (w : World) (P : Nat → Prop) (g : Nat) (A : Option Addr) (n c mb : Nat) (kv : KV) (Vs : List Value) (L : Lg) : Prop where
  blk : Blk w g 65 #[.slice A n c, .map (some mb)]
  map : IMap w mb kv
  inv : LInv L
  len : L.length = n
  vl : Vs.length = n
  cap : n ≤ c
  row : 0 < n → ∃ b o, A = some ⟨b, o, none⟩ ∧ P b ∧ b ≠ g ∧ b < w.heap.size ∧ ∀ i v, (lgC L Vs)[i]? = some v → w.cell? ⟨b, o + i, none⟩ = some v
  nul : n = 0 → A = none ∧ c = 0
  pg : P g
  pm : P mb
  kl : kv.length = n
  kvs : ∀ j, j < n → kv[j]? = some ((rv L j).node, .int .i64 (j : Nat))
  held : ∀ j, j < n → ∃ V, Vs[j]? = some V ∧ KeptV w P g (prevT L j) (rv L j).text (rv L j).chain V
def LgAt (w : World) (P : Nat → Prop) (g : Nat) (L : Lg) : Prop := ∃ A n c mb kv Vs, LgMem w P g A n c mb kv Vs L
section
variable {w w' : World} {P Q : Nat → Prop} {g : Nat} {A : Option Addr} {n c mb : Nat} {kv : KV} {Vs : List Value} {L : Lg} {a t : List Int} {ch : Nat} {V : Value}
theorem KeptV.mono (h : KeptV w P g a t ch V) (hq : ∀ k, P k → Q k) : KeptV w Q g a t ch V := by
  obtain ⟨B, k, d, body, h1, h2, h3, h4⟩ := h
  exact ⟨B, k, d, body, h1, h2, fun ad e => ⟨hq _ (h3 ad e).1, (h3 ad e).2⟩, h4⟩
theorem KeptV.keep (h : KeptV w P g a t ch V) (hs : w.heap.size ≤ w'.heap.size) (hk : ∀ p v, w.cell? p = some v → P p.block → p.block ≠ g → w'.cell? p = some v) : KeptV w' P g a t ch V := by
  obtain ⟨B, k, d, body, h1, h2, h3, h4⟩ := h
  refine ⟨B, k, d, body, ⟨h1.1, h1.2.1, fun h0 => ?_⟩, h2, fun ad e => ⟨(h3 ad e).1, (h3 ad e).2.1, Nat.lt_of_lt_of_le (h3 ad e).2.2 hs⟩, h4⟩
  obtain ⟨ad, e, hc⟩ := h1.2.2 h0
  exact ⟨ad, e, fun j hj => hk _ _ (hc j hj) (by rw [block_of_add]; exact (h3 ad e).1) (by rw [block_of_add]; exact (h3 ad e).2.1)⟩
theorem LgMem.mono (h : LgMem w P g A n c mb kv Vs L) (hq : ∀ k, P k → Q k) : LgMem w Q g A n c mb kv Vs L :=
  ⟨h.blk, h.map, h.inv, h.len, h.vl, h.cap, fun h0 => by
    obtain ⟨b, o, e, h1, h2⟩ := h.row h0
    exact ⟨b, o, e, hq _ h1, h2⟩, h.nul, hq _ h.pg, hq _ h.pm, h.kl, h.kvs, fun j hj => by
    obtain ⟨V, e, h1⟩ := h.held j hj
    exact ⟨V, e, h1.mono hq⟩⟩
theorem LgMem.grown {row : Option Nat} (h : LgMem w P g A n c mb kv Vs L) (hg : w.grownBy w' row) (hr : ∀ k, row = some k → ¬ P k) : LgMem w' P g A n c mb kv Vs L := by
  have hne : ∀ k, P k → some k ≠ row := fun k hk e => hr k e.symm hk
  refine ⟨h.blk.grown hg (hne _ h.pg), h.map.grown hg (hne _ h.pm), h.inv, h.len, h.vl, h.cap, fun h0 => ?_, h.nul, h.pg, h.pm, h.kl, h.kvs, fun j hj => ?_⟩
  · obtain ⟨b, o, e, h1, h2, h3, h4⟩ := h.row h0
    exact ⟨b, o, e, h1, h2, Nat.lt_of_lt_of_le h3 hg.size, fun i v hv => hg.cell (h4 i v hv) (hne b h1)⟩
  · obtain ⟨V, e, h1⟩ := h.held j hj
    exact ⟨V, e, h1.keep hg.size fun p v hv hp _ => hg.cell hv (hne _ hp)⟩
theorem LgMem.below (h : LgMem w P g A n c mb kv Vs L) (hb : Below w.heap.size w w') : LgMem w' P g A n c mb kv Vs L := h.grown (grown_below hb none) (fun k e => by cases e)
theorem LgAt.below (h : LgAt w P g L) (hb : Below w.heap.size w w') : LgAt w' P g L := by
  obtain ⟨A, n, c, mb, kv, Vs, h⟩ := h
  exact ⟨A, n, c, mb, kv, Vs, h.below hb⟩
theorem LgAt.mono (h : LgAt w P g L) (hq : ∀ k, P k → Q k) : LgAt w Q g L := by
  obtain ⟨A, n, c, mb, kv, Vs, h⟩ := h
  exact ⟨A, n, c, mb, kv, Vs, h.mono hq⟩
theorem LgAt.grown {row : Option Nat} (h : LgAt w P g L) (hg : w.grownBy w' row) (hr : ∀ k, row = some k → ¬ P k) : LgAt w' P g L := by
  obtain ⟨A, n, c, mb, kv, Vs, h⟩ := h
  exact ⟨A, n, c, mb, kv, Vs, h.grown hg hr⟩
theorem LgAt.bounded (h : LgAt w P g L) : LgAt w (fun k => P k ∧ k < w.heap.size) g L := by
  obtain ⟨A, n, c, mb, kv, Vs, h⟩ := h
  refine ⟨A, n, c, mb, kv, Vs, h.blk, h.map, h.inv, h.len, h.vl, h.cap, fun h0 => ?_, h.nul, ⟨h.pg, h.blk.lt⟩, ⟨h.pm, h.map.lt⟩, h.kl, h.kvs, fun j hj => ?_⟩
  · obtain ⟨b, o, e, h1, h2, h3, h4⟩ := h.row h0
    exact ⟨b, o, e, ⟨h1, h3⟩, h2, h3, h4⟩
  · obtain ⟨V, e, B, k, d, body, h1, h2, h3, h4⟩ := h.held j hj
    exact ⟨V, e, B, k, d, body, h1, h2, fun ad e' => ⟨⟨(h3 ad e').1, (h3 ad e').2.2⟩, (h3 ad e').2⟩, h4⟩
theorem LgMem.at_ (h : LgMem w P g A n c mb kv Vs L) {j : Nat} (hj : j < n) : ∃ b o V, A = some ⟨b, o, none⟩ ∧ Vs[j]? = some V ∧ w.rangeAt b (o + j * 61) (bv (rv L j).node) ∧ w.rangeAt b (o + j * 61 + 20) (bv (rv L j).p1) ∧ w.rangeAt b (o + j * 61 + 40) (bv (rv L j).p2) ∧
    w.cell? ⟨b, o + j * 61 + 60, none⟩ = some V ∧ KeptV w P g (prevT L j) (rv L j).text (rv L j).chain V := by
  obtain ⟨b, o, e, _, _, _, hc⟩ := h.row (by omega)
  obtain ⟨V, hV, hk⟩ := h.held j hj
  have hjL : j < L.length := by rw [h.len]; exact hj
  have hi := h.inv.ids j hjL
  have key : ∀ i v, i < 61 → (rvC (rv L j) V)[i]? = some v → w.cell? ⟨b, o + j * 61 + i, none⟩ = some v := fun i v hi hv => by
    rw [Nat.add_assoc]
    exact hc _ v (by rw [lgC_get h.inv hjL hV hi]; exact hv)
  refine ⟨b, o, V, e, hV, fun i v hv => ?_, fun i v hv => ?_, fun i v hv => ?_, key 60 V (by omega) (rvC_k hi), hk⟩
  · exact key i v (rvC_node (V := V) hi hv).1 (rvC_node (V := V) hi hv).2
  · rw [Nat.add_assoc (o + j * 61)]
    exact key _ v (rvC_p1 (V := V) hi hv).1 (rvC_p1 (V := V) hi hv).2
  · rw [Nat.add_assoc (o + j * 61)]
    exact key _ v (rvC_p2 (V := V) hi hv).1 (rvC_p2 (V := V) hi hv).2
theorem LgMem.get (h : LgMem w P g A n c mb kv Vs L) (x : IdL) : kvGet kv x = (posL L x).map fun k => Value.int .i64 (k : Nat) := by
  cases hp : posL L x with
  | some k =>
    obtain ⟨hk, e⟩ := posL_some hp
    have := kvGet_some h.map.nd (h.kvs k (by rw [← h.len]; exact hk))
    rw [e] at this
    exact this
  | none =>
    refine kvGet_none fun p hp' e => posL_none hp ?_
    obtain ⟨j, hj⟩ := List.mem_iff_getElem?.1 hp'
    have hjn : j < n := by
      have := (List.getElem?_eq_some_iff.1 hj).1
      rw [h.kl] at this
      exact this
    rw [h.kvs j hjn] at hj
    injection hj with hj
    rw [← hj] at e
    exact e ▸ List.mem_of_getElem? (nodes_get (by rw [h.len]; exact hjn))
end
theorem placeTy : Try.prog.underlying 62 = some (.map 27 3) := by kernel_rfl
theorem zeroInt (w : World) : (zeroValue 3).run Try.prog w = .ok (.int .i64 0) w := by kernel_rfl
def atI (L : Lg) (x : IdL) : Int := ((posL L x).getD 0 : Nat)
/-- the look-up of a place. -/
theorem LgMem.look {w : World} {P : Nat → Prop} {g : Nat} {A : Option Addr} {n c mb : Nat} {kv : KV} {Vs : List Value} {L : Lg} (h : LgMem w P g A n c mb kv Vs L) {x : IdL} (hx : IsId x) :
    (Instr.lookup 62 (.map (some mb)) (ida x) true).run Try.prog w = .ok (.tuple #[.int .i64 (atI L x), .bool (hasL L x)]) w := by
  have := h.map.look placeTy (zeroInt w) hx true
  rw [if_pos rfl] at this
  refine this.trans ?_
  unfold kvHas atI hasL
  rw [h.get x]
  cases posL L x <;> rfl
end Go.Proofs.Ytgokompppadogaa
