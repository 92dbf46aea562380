/-
  The reference's graph: kept, and one more.
-/
import Derived.Test.YtaaiojeehhbhhaaGrP9
set_option linter.unusedVariables false
set_option linter.unusedSimpArgs false
namespace Go.Proofs.Ytaaiojeehhbhhaa
open Go.RowKit

section
variable {w w' : World} {Q R : Nat → Prop} {r : Nat} {A : Option Addr} {n c : Nat} {vs : List Value} {G : Gph}
theorem RefMem.grown {row : Option Nat} (h : RefMem w Q r A n c vs G) (hg : w.grownBy w' row) (hr : ∀ k, row = some k → ¬ Q k) : RefMem w' Q r A n c vs G := by
  have hne : ∀ k, Q k → some k ≠ row := fun k hk e => hr k e.symm hk
  refine ⟨h.blk.grown hg (hne _ h.pr), h.own.kept hg ?_, h.len, h.vl, h.cap, h.allId, h.pr, h.pi, fun j hj => ?_⟩
  · cases e : (Value.slice A n c).ownBlock with
    | none => exact .inl rfl
    | some k => exact .inr (hne _ (h.pi k e))
  · obtain ⟨A', c', a, b, d, e⟩ := h.par j hj
    exact ⟨A', c', a, b, d.grown hg fun ad e' => hne _ (e ad e').1, fun ad e' => ⟨(e ad e').1, (e ad e').2.1, (e ad e').2.2.1, Nat.lt_of_lt_of_le (e ad e').2.2.2 hg.size⟩⟩
theorem RefMem.below (h : RefMem w Q r A n c vs G) (hb : Below w.heap.size w w') : RefMem w' Q r A n c vs G := h.grown (grown_below hb none) (fun k e => by cases e)
theorem RefMem.mono (h : RefMem w Q r A n c vs G) (hq : ∀ k, Q k → R k) : RefMem w R r A n c vs G :=
  ⟨h.blk, h.own, h.len, h.vl, h.cap, h.allId, hq _ h.pr, fun k e => hq _ (h.pi k e), fun j hj => by
    obtain ⟨A', c', a, b, d, e⟩ := h.par j hj
    exact ⟨A', c', a, b, d, fun ad e' => ⟨hq _ (e ad e').1, (e ad e').2⟩⟩⟩
theorem RefMem.rowLt (h : RefMem w Q r A n c vs G) {k : Nat} (e : (Value.slice A n c).ownBlock = some k) : k < w.heap.size ∧ k ≠ r := by
  rcases h.own.2 with ⟨e1, _⟩ | ⟨g, cap, cur, e1, _, hB, _⟩
  · rw [e1] at e; simp [Value.ownBlock] at e
  · rw [e1] at e
    simp [Value.ownBlock] at e
    subst e
    exact ⟨(Array.getElem?_eq_some_iff.1 hB).1, Blk.ne_ hB h.blk (by decide)⟩
end
def RefAt (w : World) (Q : Nat → Prop) (r : Nat) (G : Gph) : Prop := ∃ A n c vs, RefMem w Q r A n c vs G
theorem RefAt.rd {w : World} {Q : Nat → Prop} {r : Nat} {G : Gph} (h : RefAt w Q r G) : RefRd w r G := by
  obtain ⟨A, n, c, vs, h⟩ := h
  exact h.rd
theorem RefAt.below {w w' : World} {Q : Nat → Prop} {r : Nat} {G : Gph} (h : RefAt w Q r G) (hb : Below w.heap.size w w') : RefAt w' Q r G := by
  obtain ⟨A, n, c, vs, h⟩ := h
  exact ⟨A, n, c, vs, h.below hb⟩
theorem RefAt.mono {w : World} {Q R : Nat → Prop} {r : Nat} {G : Gph} (h : RefAt w Q r G) (hq : ∀ k, Q k → R k) : RefAt w R r G := by
  obtain ⟨A, n, c, vs, h⟩ := h
  exact ⟨A, n, c, vs, h.mono hq⟩
theorem RefAt.grown {w w' : World} {Q : Nat → Prop} {r : Nat} {G : Gph} {row : Option Nat} (h : RefAt w Q r G) (hg : w.grownBy w' row) (hr : ∀ k, row = some k → ¬ Q k) : RefAt w' Q r G := by
  obtain ⟨A, n, c, vs, h⟩ := h
  exact ⟨A, n, c, vs, h.grown hg hr⟩
theorem RefAt.bounded {w : World} {Q : Nat → Prop} {r : Nat} {G : Gph} (h : RefAt w Q r G) : RefAt w (fun k => Q k ∧ k < w.heap.size) r G := by
  obtain ⟨A, n, c, vs, h⟩ := h
  refine ⟨A, n, c, vs, h.blk, h.own, h.len, h.vl, h.cap, h.allId, ⟨h.pr, h.blk.lt⟩, fun k e => ⟨h.pi k e, (h.rowLt e).1⟩, fun j hj => ?_⟩
  obtain ⟨A', c', a, b, d, e⟩ := h.par j hj
  exact ⟨A', c', a, b, d, fun ad e' => ⟨⟨(e ad e').1, (e ad e').2.2.2⟩, (e ad e').2⟩⟩
/-- a node more. -/
theorem ref_added {w W0 w6 w7 : World} {Q : Nat → Prop} {r : Nat} {A A7 B6 : Option Addr} {n c c7 k6 c6 : Nat} {vs : List Value} {G : Gph} {x : IdL} {ps : List IdL} (h : RefMem w Q r A n c vs G) (hx : IsId x)
    (h0 : Below w.heap.size w W0) (ho6 : OIds W0 w.heap.size (.slice none 0 0) 0 []) (hg6 : W0.grownBy w6 none) (ho : OIds w6 w.heap.size (.slice B6 k6 c6) k6 ps) (hk6 : k6 ≤ c6)
    (hg7 : (w6.alloc (.cells (nval x B6 k6 c6).toArray 62)).grownBy w7 (Value.slice A n c).ownBlock)
    (ho7 : w7.ownsRow 0 62 21 (.slice A7 (n + 1) c7) (n + 1) (ncs ((ids G).zip vs ++ [(x, .slice B6 k6 c6)]))) (hc7 : n + 1 ≤ c7)
    (hat7 : (Value.slice A7 (n + 1) c7).ownBlock = (Value.slice A n c).ownBlock ∨ (Value.slice A7 (n + 1) c7).ownBlock = some (w6.alloc (.cells (nval x B6 k6 c6).toArray 62)).heap.size) :
    RefAt (w7.setCell ⟨r, 0, none⟩ (.slice A7 (n + 1) c7)) (fun k => Q k ∨ w.heap.size ≤ k) r (G ++ [⟨x, ps⟩]) ∧ Chg Q w (w7.setCell ⟨r, 0, none⟩ (.slice A7 (n + 1) c7)) := by
  have hkl : k6 = ps.length := ho.2.2.symm
  subst hkl
  have hGl := h.len
  have hvl := h.vl
  have hB6 : Below W0.heap.size W0 w6 := ⟨hg6.os, hg6.tape, hg6.output, hg6.size, fun i hi => hg6.block i hi (by simp)⟩
  have h06 := below_then h0 h0.size hB6
  have h6a : Below w.heap.size w (w6.alloc (.cells (nval x B6 ps.length c6).toArray 62)) := h06.alloc h06.size _
  have ha6 : Below w6.heap.size w6 (w6.alloc (.cells (nval x B6 ps.length c6).toArray 62)) := (Below.refl _ _).alloc (Nat.le_refl _) _
  have hma := h.below h6a
  have hsa := h6a.size
  have hrl : r < w.heap.size := h.blk.lt
  have hrown : some r ≠ (Value.slice A n c).ownBlock := fun e => (h.rowLt e.symm).2 rfl
  have hblk7 := hma.blk.grown hg7 hrown
  have hs7 := hg7.size
  have hset := set_grown w7 r 0 (.slice A7 (n + 1) c7)
  have hnew : ∀ k, (Value.slice A7 (n + 1) c7).ownBlock = some k → (Q k ∨ w.heap.size ≤ k) ∧ k ≠ r ∧ ((Value.slice A n c).ownBlock = some k ∨ w.heap.size ≤ k) := fun k e => by
    rcases hat7 with e7 | e7
    · rw [e7] at e
      exact ⟨.inl (h.pi k e), (h.rowLt e).2, .inl e⟩
    · rw [e7] at e
      injection e with e
      subst e
      exact ⟨.inr hsa, by omega, .inr hsa⟩
  refine ⟨⟨A7, n + 1, c7, vs ++ [.slice B6 ps.length c6], ?_, ?_, by simp [hGl], by simp [hvl], hc7, ?_, .inl h.pr, fun k e => (hnew k e).1, fun j hj => ?_⟩, ?_⟩
  · have := hblk7.set_ 0 (.slice A7 (n + 1) c7)
    simpa using this
  · have hz : (ids (G ++ [⟨x, ps⟩])).zip (vs ++ [.slice B6 ps.length c6]) = (ids G).zip vs ++ [(x, .slice B6 ps.length c6)] := by
      rw [ids_snoc, List.zip_append (by rw [ids_length, hGl, hvl])]
      rfl
    rw [hz]
    refine ho7.kept hset ?_
    cases e : (Value.slice A7 (n + 1) c7).ownBlock with
    | none => exact .inl rfl
    | some k => exact .inr fun e2 => (hnew k e).2.1 (by injection e2)
  · rw [ids_snoc]
    exact h.allId.append (AllId.one hx)
  · by_cases hjn : j < n
    · obtain ⟨A', c', a, b, d, e⟩ := hma.par j hjn
      obtain ⟨A'', c'', a2, _, _, e2⟩ := h.par j hjn
      have hA : A'' = A' := by
        rw [a] at a2
        injection a2 with a2
        injection a2 with a2
        exact a2.symm
      subst hA
      rw [nd_left (by omega)]
      refine ⟨A'', c', by rw [List.getElem?_append_left (by omega)]; exact a, b, (d.grown hg7 fun ad e' => (e ad e').2.1).grown hset fun ad e' e3 => (e ad e').2.2.1 (by injection e3), fun ad e' => ⟨.inl (e ad e').1, fun e3 => ?_, (e ad e').2.2.1, ?_⟩⟩
      · rcases (hnew ad.block e3.symm).2.2 with e4 | e4
        · exact (e2 ad e').2.1 e4.symm
        · have := (e2 ad e').2.2.2
          omega
      · have h1 := (e ad e').2.2.2
        have h2 := hset.size
        omega
    · obtain rfl : j = n := by omega
      have hnd : nd (G ++ [⟨x, ps⟩]) j = ⟨x, ps⟩ := by rw [← hGl]; exact nd_end
      rw [hnd]
      have hrd := (ho.reads.below ha6)
      have hown6 : ∀ ad, B6 = some ad → w.heap.size ≤ ad.block ∧ ad.block < w6.heap.size := fun ad e => by
        subst e
        exact ho.own ad.block rfl
      refine ⟨B6, c6, by rw [List.getElem?_append_right (by omega), hvl]; simp, hk6, (hrd.grown hg7 fun ad e e3 => ?_).grown hset fun ad e e3 => ?_, fun ad e => ⟨.inr (hown6 ad e).1, fun e3 => ?_, ?_, ?_⟩⟩
      · have h1 := (h.rowLt e3.symm).1
        have h2 := (hown6 ad e).1
        omega
      · injection e3 with e3
        have h2 := (hown6 ad e).1
        omega
      · rcases hat7 with e7 | e7
        · rw [e7] at e3
          have h1 := (h.rowLt e3.symm).1
          have h2 := (hown6 ad e).1
          omega
        · rw [e7] at e3
          injection e3 with e3
          rw [World.size_alloc] at e3
          have h2 := (hown6 ad e).2
          omega
      · have h2 := (hown6 ad e).1
        omega
      · have h1 := (hown6 ad e).2
        have h2 := hset.size
        have h3 := ha6.size
        omega
  · have c1 : Chg Q w (w6.alloc (.cells (nval x B6 ps.length c6).toArray 62)) := Chg.below h6a
    have c2 : Chg Q (w6.alloc (.cells (nval x B6 ps.length c6).toArray 62)) w7 := Chg.grown hg7 fun k e => h.pi k e
    have c3 : Chg Q w7 (w7.setCell ⟨r, 0, none⟩ (.slice A7 (n + 1) c7)) := Chg.grown hset fun k e => by cases e; exact h.pr
    exact (c1.then c2 fun i hi => .inl hi).then c3 fun i hi => .inl hi
end Go.Proofs.Ytaaiojeehhbhhaa
