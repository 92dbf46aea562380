/-
  graph.Graph in memory; New, Has.
-/
import Derived.Test.YtaaiojeehhbhhaaGr1
set_option linter.unusedVariables false
set_option linter.unusedSimpArgs false
namespace Go.Proofs.Ytaaiojeehhbhhaa
open Go.RowKit

structure GrMem (w : World) (P : Nat → Prop) (g : Nat) (A : Option Addr) (n c mb : Nat) (kv : KV) (G : Gph) : Prop where
  blk : Blk w g 56 #[.slice A n c, .map (some mb)]
  map : IMap w mb kv
  own : OIds w 0 (.slice A n c) n (ids G)
  pg : P g
  pm : P mb
  pi : ∀ k, (Value.slice A n c).ownBlock = some k → P k
  len : kv.length = G.length
  par : ∀ j, j < G.length → ∃ A' k' c', kv[j]? = some ((nd G j).id, .slice A' k' c') ∧ k' ≤ c' ∧ RIds w A' k' (nd G j).ps ∧ ∀ ad, A' = some ad → P ad.block ∧ some ad.block ≠ (Value.slice A n c).ownBlock ∧ ad.block ≠ g ∧ ad.block < w.heap.size
def GrAt (w : World) (P : Nat → Prop) (g : Nat) (G : Gph) : Prop := ∃ A n c mb kv, GrMem w P g A n c mb kv G
section
variable {w w' : World} {P Q : Nat → Prop} {g : Nat} {G : Gph} {A : Option Addr} {n c mb : Nat} {kv : KV}
theorem GrMem.mono (h : GrMem w P g A n c mb kv G) (hq : ∀ k, P k → Q k) : GrMem w Q g A n c mb kv G :=
  ⟨h.blk, h.map, h.own, hq _ h.pg, hq _ h.pm, fun k e => hq _ (h.pi k e), h.len, fun j hj => by
    obtain ⟨A', k', c', a, b, d, e⟩ := h.par j hj
    exact ⟨A', k', c', a, b, d, fun ad e' => ⟨hq _ (e ad e').1, (e ad e').2⟩⟩⟩
theorem GrAt.mono (h : GrAt w P g G) (hq : ∀ k, P k → Q k) : GrAt w Q g G := by
  obtain ⟨A, n, c, mb, kv, h⟩ := h
  exact ⟨A, n, c, mb, kv, h.mono hq⟩
theorem GrMem.grown {row : Option Nat} (h : GrMem w P g A n c mb kv G) (hg : w.grownBy w' row) (hr : ∀ k, row = some k → ¬ P k) : GrMem w' P g A n c mb kv G := by
  have hne : ∀ k, P k → some k ≠ row := fun k hk e => hr k e.symm hk
  refine ⟨h.blk.grown hg (hne _ h.pg), h.map.grown hg (hne _ h.pm), h.own.kept hg ?_, h.pg, h.pm, h.pi, h.len, fun j hj => ?_⟩
  · cases e : (Value.slice A n c).ownBlock with
    | none => exact .inl rfl
    | some k => exact .inr (hne _ (h.pi k e))
  · obtain ⟨A', k', c', a, b, d, e⟩ := h.par j hj
    exact ⟨A', k', c', a, b, d.grown hg fun ad e' => hne _ (e ad e').1, fun ad e' => ⟨(e ad e').1, (e ad e').2.1, (e ad e').2.2.1, Nat.lt_of_lt_of_le (e ad e').2.2.2 hg.size⟩⟩
theorem GrAt.grown {row : Option Nat} (h : GrAt w P g G) (hg : w.grownBy w' row) (hr : ∀ k, row = some k → ¬ P k) : GrAt w' P g G := by
  obtain ⟨A, n, c, mb, kv, h⟩ := h
  exact ⟨A, n, c, mb, kv, h.grown hg hr⟩
theorem GrMem.below (h : GrMem w P g A n c mb kv G) (hb : Below w.heap.size w w') : GrMem w' P g A n c mb kv G := h.grown (grown_below hb none) (fun k e => by cases e)
theorem GrAt.below (h : GrAt w P g G) (hb : Below w.heap.size w w') : GrAt w' P g G := h.grown (grown_below hb none) (fun k e => by cases e)
theorem GrMem.kvids (h : GrMem w P g A n c mb kv G) : kv.map Prod.fst = ids G := by
  apply List.ext_getElem?
  intro j
  rw [List.getElem?_map]
  rcases Nat.lt_or_ge j G.length with hj | hj
  · obtain ⟨A', k', c', a, _⟩ := h.par j hj
    rw [a]
    simp [ids, nd_some hj]
  · rw [List.getElem?_eq_none (by rw [h.len]; exact hj), List.getElem?_eq_none (by rw [ids_length]; exact hj)]
    rfl
theorem GrMem.nodup (h : GrMem w P g A n c mb kv G) : (ids G).Nodup := by rw [← h.kvids]; exact h.map.nd
theorem GrMem.has (h : GrMem w P g A n c mb kv G) (x : IdL) : kvHas kv x = hasB G x := by
  rw [Bool.eq_iff_iff, kvHas_iff]
  unfold hasB
  rw [decide_eq_true_iff, ← h.kvids]
  exact ⟨fun ⟨p, hp, e⟩ => List.mem_map.2 ⟨p, hp, e⟩, fun hm => by obtain ⟨p, hp, e⟩ := List.mem_map.1 hm; exact ⟨p, hp, e⟩⟩
/-- what the map holds of an id. -/
theorem GrMem.get (h : GrMem w P g A n c mb kv G) (x : IdL) : ∃ A' k' c', (kvGet kv x).getD (.slice none 0 0) = .slice A' k' c' ∧ k' ≤ c' ∧ RIds w A' k' (psOf G x) ∧ (look G x = none → A' = none ∧ k' = 0 ∧ c' = 0) ∧ ∀ ad, A' = some ad → P ad.block ∧ some ad.block ≠ (Value.slice A n c).ownBlock ∧ ad.block ≠ g ∧ ad.block < w.heap.size := by
  by_cases hx : x ∈ ids G
  · obtain ⟨j, hj, e⟩ := mem_ids hx
    obtain ⟨A', k', c', a, b, d, e'⟩ := h.par j hj
    have hg := kvGet_some h.map.nd a
    simp only [e] at hg
    have hp : psOf G x = (nd G j).ps := by unfold psOf; rw [← e, look_some h.nodup hj]; rfl
    refine ⟨A', k', c', by rw [hg]; rfl, b, by rw [hp]; exact d, fun hl => ?_, e'⟩
    rw [← e, look_some h.nodup hj] at hl
    cases hl
  · have hg : kvGet kv x = none := kvGet_none fun p hp e => hx (by rw [← h.kvids]; exact List.mem_map.2 ⟨p, hp, e⟩)
    have hp : psOf G x = [] := by unfold psOf; rw [look_none hx]; rfl
    exact ⟨none, 0, 0, by rw [hg]; rfl, Nat.le_refl _, by rw [hp]; exact RIds.nil _ _, fun _ => ⟨rfl, rfl, rfl⟩, fun ad e => by cases e⟩
end
theorem parTy : Try.prog.underlying 54 = some (.map 27 29) := by kernel_rfl
theorem zeroIds (w : World) : (zeroValue 29).run Try.prog w = .ok (.slice none 0 0) w := by kernel_rfl
@[go_sem] theorem ida_cells (xs : List Int) : (Value.agg (bv xs).toArray).cells = (bv xs).toArray := rfl
/-- the look-up among parents, in whatever world holds the graph. -/
theorem GrMem.lookRun {w : World} {P : Nat → Prop} {g : Nat} {A : Option Addr} {n c mb : Nat} {kv : KV} {G : Gph} (h : GrMem w P g A n c mb kv G) {x : IdL} (hx : IsId x) (cm : Bool) :
    (Instr.lookup 54 (.map (some mb)) (ida x) cm).run Try.prog w = .ok (if cm then .tuple #[(kvGet kv x).getD (.slice none 0 0), .bool (hasB G x)] else (kvGet kv x).getD (.slice none 0 0)) w := by
  have := h.map.look parTy (zeroIds w) hx cm
  rw [h.has] at this
  exact this
theorem new_any (w : World) : Calls Try.prog 7 #[] w (fun e w' => ∃ g, e = .returned (.pointer (some ⟨g, 0, none⟩)) ∧ GrAt w' (w.heap.size ≤ ·) g [] ∧ Below w.heap.size w w') := by
  have hmm := @run_makeMap Try.prog
  go_enter Try.func7, Try.ntmps7
  go_wp2
  go_ret
  have hb : Below w.heap.size w ((w.alloc (.map #[] 0)).alloc (.cells #[.slice none 0 0, .map (some w.heap.size)] 56)) := ((Below.refl _ _).alloc (Nat.le_refl _) _).alloc (by simp) _
  refine ⟨_, rfl, ⟨none, 0, 0, w.heap.size, [], ?_⟩, hb⟩
  have hB := Blk.new (w.alloc (.map #[] 0)) 56 #[.slice none 0 0, .map (some w.heap.size)]
  rw [World.size_alloc] at hB
  exact ⟨hB, (IMap.made w).alloc _, OIds.nil _ _, by simp, Nat.le_refl _, fun k e => by simp [Value.ownBlock] at e, rfl, fun j hj => by simp at hj⟩
theorem has_nil (x : IdL) (w : World) : Calls Try.prog 17 #[.pointer none, ida x] w (fun e w' => e = .returned (.bool false) ∧ Below w.heap.size w w') := by
  go_enter Try.func17, Try.ntmps17
  go_wp2
  go_ret
  exact ⟨rfl, (Below.refl _ _).alloc (Nat.le_refl _) _⟩
set_option maxRecDepth 100000 in
set_option maxHeartbeats 1000000 in
theorem has_any (P : Nat → Prop) (g : Nat) (G : Gph) (x : IdL) (w : World) (h : GrAt w P g G) (hx : IsId x) :
    Calls Try.prog 17 #[.pointer (some ⟨g, 0, none⟩), ida x] w (fun e w' => e = .returned (.bool (hasB G x)) ∧ Below w.heap.size w w') := by
  obtain ⟨A, n, c, mb, kv, h⟩ := h
  have hu := idTy
  have hsz := idSz hx
  have hb0 : Below w.heap.size w (w.alloc (.cells (bv x).toArray 27)).drew := below_drewN ((Below.refl _ _).alloc (Nat.le_refl _) _) 1
  have h1 := h.below hb0
  have hr : (w.alloc (.cells (bv x).toArray 27)).drew.rangeAt w.heap.size 0 (bv x) := ((Blk.new w 27 (bv x).toArray).drew).range
  have c1 : (w.alloc (.cells (bv x).toArray 27)).drew.cell? ⟨g, 1, none⟩ = some (.map (some mb)) := h1.blk.cell 1
  have hlk := h1.lookRun hx true
  simp only [if_true] at hlk
  obtain ⟨A', k', c', hv, _⟩ := h1.get x
  rw [hv] at hlk
  clear hv
  go_enter Try.func17, Try.ntmps17
  go_wp2
  go_region_held3 (fun w' => w'.cell? ⟨g, 1, none⟩ = some (.map (some mb)) ∧ w'.rangeAt w.heap.size 0 (bv x) ∧ (Instr.lookup 54 (.map (some mb)) (ida x) true).run Try.prog w' = .ok (.tuple #[.slice A' k' c', .bool (hasB G x)]) w')
    (exact ⟨c1, hr, hlk⟩) (fail)
  go_wp2
  go_ret
  exact ⟨rfl, hb0⟩
end Go.Proofs.Ytaaiojeehhbhhaa
