/-
  trestleref04.Tape in memory. (Printed by gen/rt1.py.)
-/
import Derived.Test.YtdhegecnhglplaaTp3a
set_option linter.unusedVariables false
set_option linter.unusedSimpArgs false
namespace Go.Proofs.Ytdhegecnhglplaa
open Go.RowKit

def rtC (A : Option Addr) (n c : Nat) (s : Tp) : Array Value := #[.slice A n c, .int .i64 s.held, .int .i64 s.room, .int .i64 s.fuse, .bool s.down]
def RtBlk (w : World) (g : Nat) (A : Option Addr) (n c : Nat) (s : Tp) : Prop := Blk w g 47 (rtC A n c s)
/-- a tape at a block; P: where its bytes may lie. -/
def RtAt (w : World) (P : Nat → Prop) (g : Nat) (s : Tp) : Prop := ∃ A n c, RtBlk w g A n c s ∧ RB w A n s.b ∧ n ≤ c ∧ (0 < n → ∃ ad, A = some ad ∧ P ad.block ∧ ad.block ≠ g)
def RtPost (v : Value) (P : Nat → Prop) (g : Nat) (s : Tp) (w : World) (e : Ending) (w' : World) : Prop := e = .returned v ∧ RtAt w' (fun k => P k ∨ w.heap.size ≤ k) g s ∧ w.grownBy w' (some g)

section
variable {w w' : World} {P Q : Nat → Prop} {g : Nat} {s : Tp} {A : Option Addr} {n c : Nat}
theorem RtBlk.c0 (h : RtBlk w g A n c s) : w.cell? ⟨g, 0, none⟩ = some (.slice A n c) := h.cell 0
theorem RtBlk.c1 (h : RtBlk w g A n c s) : w.cell? ⟨g, 1, none⟩ = some (.int .i64 s.held) := h.cell 1
theorem RtBlk.c2 (h : RtBlk w g A n c s) : w.cell? ⟨g, 2, none⟩ = some (.int .i64 s.room) := h.cell 2
theorem RtBlk.c3 (h : RtBlk w g A n c s) : w.cell? ⟨g, 3, none⟩ = some (.int .i64 s.fuse) := h.cell 3
theorem RtBlk.c4 (h : RtBlk w g A n c s) : w.cell? ⟨g, 4, none⟩ = some (.bool s.down) := h.cell 4
theorem RtBlk.fz (h : RtBlk w g A n c s) (i : Nat) : w.frozen? ⟨g, i, none⟩ = false := Blk.frozen h i
theorem RtBlk.below (h : RtBlk w g A n c s) (hb : Below w.heap.size w w') : RtBlk w' g A n c s := Blk.below h hb (Blk.lt h)
theorem RtBlk.grown (h : RtBlk w g A n c s) {row : Option Nat} (hg : w.grownBy w' row) (hne : some g ≠ row) : RtBlk w' g A n c s := Blk.grown h hg hne
theorem RtBlk.alloc (h : RtBlk w g A n c s) (o : Obj) : RtBlk (w.alloc o) g A n c s := Blk.alloc h o
theorem RtBlk.drewN (h : RtBlk w g A n c s) (k : Nat) : RtBlk (w.drewN k) g A n c s := h
theorem RtBlk.set0 (h : RtBlk w g A n c s) (B : Option Addr) (m d : Nat) (b : List Int) : RtBlk (w.setCell ⟨g, 0, none⟩ (.slice B m d)) g B m d { s with b := b } := Blk.set_ h 0 _
theorem RtBlk.set1 (h : RtBlk w g A n c s) (x : Nat) : RtBlk (w.setCell ⟨g, 1, none⟩ (.int .i64 x)) g A n c { s with held := x } := Blk.set_ h 1 _
theorem RtBlk.set2 (h : RtBlk w g A n c s) (x : Int) : RtBlk (w.setCell ⟨g, 2, none⟩ (.int .i64 x)) g A n c { s with room := x } := Blk.set_ h 2 _
theorem RtBlk.set3 (h : RtBlk w g A n c s) (x : Int) : RtBlk (w.setCell ⟨g, 3, none⟩ (.int .i64 x)) g A n c { s with fuse := x } := Blk.set_ h 3 _
theorem RtBlk.set4 (h : RtBlk w g A n c s) (x : Bool) : RtBlk (w.setCell ⟨g, 4, none⟩ (.bool x)) g A n c { s with down := x } := Blk.set_ h 4 _
theorem RtAt.mono (h : RtAt w P g s) (hq : ∀ k, P k → Q k) : RtAt w Q g s := by
  obtain ⟨A, n, c, h1, h2, h3, h4⟩ := h
  exact ⟨A, n, c, h1, h2, h3, fun h0 => by obtain ⟨ad, e1, e2, e3⟩ := h4 h0; exact ⟨ad, e1, hq _ e2, e3⟩⟩
/-- its bytes are anew. -/
theorem RtAt.fresh {B : Nat} {b : List Int} (h : RtBlk w g A n c s) (hs : s.b = b) (ho : OB w B (.slice A n c) n b) (hg : g < B) (hP : ∀ k, B ≤ k → P k) : RtAt w P g s := by
  subst hs
  obtain ⟨A', c', e, hc⟩ := ho.slice
  injection e with e1 e2 e3
  subst e1 e3
  refine ⟨A, n, c, h, ho.reads, hc, fun h0 => ?_⟩
  obtain ⟨ad, e, _⟩ := ho.reads.2.2 h0
  subst e
  rcases ho.form with ⟨h0', h1, _⟩ | ⟨k, cap, cur, hv, hgb, _⟩
  · omega
  · injection hv with hA
    injection hA with hA
    subst hA
    exact ⟨_, rfl, hP _ hgb, by show k ≠ g; omega⟩
theorem RtAt.old (h : RtBlk w g A n c s) (hr : RB w A n s.b) (hc : n ≤ c) (hp : 0 < n → ∃ ad, A = some ad ∧ P ad.block ∧ ad.block ≠ g) : RtAt w P g s := ⟨A, n, c, h, hr, hc, hp⟩
theorem RtAt.grown {row : Option Nat} (h : RtAt w P g s) (hg : w.grownBy w' row) (hne : some g ≠ row) (hp : ∀ k, row = some k → ¬ P k) : RtAt w' P g s := by
  obtain ⟨A, n, c, h1, h2, h3, h4⟩ := h
  refine ⟨A, n, c, h1.grown hg hne, ⟨h2.1, h2.2.1, fun h0 => ?_⟩, h3, h4⟩
  obtain ⟨ad, e, hc⟩ := h2.2.2 h0
  obtain ⟨ad', e', hP, _⟩ := h4 h0
  rw [e] at e'
  injection e' with e'
  subst e'
  exact ⟨ad, e, fun j hj => hg.cell (hc j hj) (by rw [block_of_add]; intro h; exact hp _ h.symm hP)⟩
theorem RtAt.below (h : RtAt w P g s) (hb : Below w.heap.size w w') : RtAt w' P g s := h.grown (grown_below hb none) (by simp) (fun k hk => by cases hk)
theorem RtAt.lt (h : RtAt w P g s) : g < w.heap.size := by
  obtain ⟨A, n, c, h1, _⟩ := h
  exact Blk.lt h1
/-- where the bytes lie: somewhere old. -/
theorem RtAt.toOld (h : RtAt w P g s) : RtAt w (fun k => k < w.heap.size) g s := by
  obtain ⟨A, n, c, h1, h2, h3, h4⟩ := h
  refine ⟨A, n, c, h1, h2, h3, fun h0 => ?_⟩
  obtain ⟨ad, e, hP, hne⟩ := h4 h0
  obtain ⟨ad', e', hl⟩ := h2.block h0
  rw [e] at e'
  injection e' with e'
  subst e'
  exact ⟨ad, e, hl, hne⟩
end
section
variable {w w' : World} {P : Nat → Prop} {g : Nat} {s s' : Tp} {A : Option Addr} {n c : Nat}
theorem RtAt.keep (h2 : RB w A n s.b) (h3 : n ≤ c) (h4 : 0 < n → ∃ ad, A = some ad ∧ P ad.block ∧ ad.block ≠ g) (hg : w.grownBy w' (some g)) (hb : RtBlk w' g A n c s') (hs : s'.b = s.b) : RtAt w' (fun k => P k ∨ w.heap.size ≤ k) g s' :=
  ⟨A, n, c, hb, by rw [hs]; exact h2.awayOf h4 hg, h3, fun h0 => by obtain ⟨ad, e1, e2, e3⟩ := h4 h0; exact ⟨ad, e1, .inl e2, e3⟩⟩
theorem RtAt.keepTake {k : Nat} (h2 : RB w A n s.b) (hk : k ≤ n) (h4 : 0 < n → ∃ ad, A = some ad ∧ P ad.block ∧ ad.block ≠ g) (hg : w.grownBy w' (some g)) (hb : RtBlk w' g A k k s') (hs : s'.b = s.b.take k) : RtAt w' (fun k => P k ∨ w.heap.size ≤ k) g s' :=
  ⟨A, k, k, hb, by rw [hs]; exact (h2.awayOf h4 hg).take hk, Nat.le_refl _, fun h0 => by obtain ⟨ad, e1, e2, e3⟩ := h4 (by omega); exact ⟨ad, e1, .inl e2, e3⟩⟩
end
/-- a step of a tape. -/
def RtStep (P : Nat → Prop) (g : Nat) (s : Tp) (w w' : World) : Prop := RtAt w' (fun k => P k ∨ w.heap.size ≤ k) g s ∧ w.grownBy w' (some g)
section
variable {w w1 w2 : World} {P : Nat → Prop} {g : Nat} {s s1 s2 : Tp}
theorem RtStep.refl (h : RtAt w P g s) : RtStep P g s w w := ⟨h.mono fun k hk => .inl hk, World.grownBy.refl _ _⟩
theorem RtStep.below (h : RtAt w P g s) (hb : Below w.heap.size w w1) : RtStep P g s w w1 := ⟨(h.below hb).mono fun k hk => .inl hk, grown_below hb _⟩
theorem RtStep.trans (h : RtStep P g s1 w w1) (h' : RtStep (fun k => P k ∨ w.heap.size ≤ k) g s2 w1 w2) : RtStep P g s2 w w2 :=
  ⟨h'.1.mono fun k hk => by
    rcases hk with hk | hk
    · exact hk
    · exact .inr (Nat.le_trans h.2.size hk), h.2.trans h'.2⟩
theorem RtStep.fuse (h : RtAt w P g s) (x : Int) : RtStep P g { s with fuse := x } w (w.setCell ⟨g, 3, none⟩ (.int .i64 x)) := by
  obtain ⟨A, n, c, h1, h2, h3, h4⟩ := h
  exact ⟨RtAt.keep h2 h3 h4 (set_grown w g 3 _) (h1.set3 x) rfl, set_grown w g 3 _⟩
theorem RB.ne_rt {A A' : Option Addr} {n n' c' : Nat} {xs : List Int} (h : RB w A n xs) (hb : RtBlk w g A' n' c' s) : ∀ ad, A = some ad → 0 < n → ad.block ≠ g := by
  intro ad hA h0 e
  obtain ⟨b, o, e1, hc⟩ := h.plain h0
  rw [hA] at e1
  injection e1 with e1
  subst e1
  simp only at e
  subst e
  have := hc 0 h0
  rw [Nat.add_zero, hb.cell o] at this
  match o with
  | 0 => simp [rtC] at this
  | 1 => simp [rtC] at this
  | 2 => simp [rtC] at this
  | 3 => simp [rtC] at this
  | 4 => simp [rtC] at this
  | q + 5 => simp [rtC] at this
theorem RB.overRt {A : Option Addr} {n : Nat} {xs : List Int} (h : RB w A n xs) (ht : RtAt w P g s) (hg : w.grownBy w1 (some g)) : RB w1 A n xs := by
  obtain ⟨A', n', c', hb, _⟩ := ht
  rcases Nat.eq_zero_or_pos n with h0 | h0
  · exact ⟨h.1, h.2.1, fun hp => by omega⟩
  · exact h.grown hg fun ad hA e => by injection e with e; exact h.ne_rt hb ad hA h0 e
end
end Go.Proofs.Ytdhegecnhglplaa
