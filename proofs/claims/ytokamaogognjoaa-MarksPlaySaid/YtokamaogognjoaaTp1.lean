/-
  tape.Tape in memory; the deeds' own methods.
-/
import Derived.Test.YtokamaogognjoaaTp0
set_option linter.unusedVariables false
set_option linter.unusedSimpArgs false
namespace Go.Proofs.Ytokamaogognjoaa
open Go.RowKit

def tpC (A : Option Addr) (n c : Nat) (s : Tp) : Array Value := #[.slice A n c, .int .i64 s.held, .int .i64 s.room, .int .i64 s.fuse, .int .i64 s.falls, .bool s.down]
def TpBlk (w : World) (g : Nat) (A : Option Addr) (n c : Nat) (s : Tp) : Prop := Blk w g 60 (tpC A n c s)
/-- a tape at a block; P: where its bytes may lie. -/
def TpAt (w : World) (P : Nat → Prop) (g : Nat) (s : Tp) : Prop := ∃ A n c, TpBlk w g A n c s ∧ RB w A n s.b ∧ n ≤ c ∧ (0 < n → ∃ ad, A = some ad ∧ P ad.block ∧ ad.block ≠ g)
def TpPost (v : Value) (P : Nat → Prop) (g : Nat) (s : Tp) (w : World) (e : Ending) (w' : World) : Prop := e = .returned v ∧ TpAt w' (fun k => P k ∨ w.heap.size ≤ k) g s ∧ w.grownBy w' (some g)

section
variable {w w' : World} {P Q : Nat → Prop} {g : Nat} {s : Tp} {A : Option Addr} {n c : Nat}
set_option maxRecDepth 100000 in
theorem TpBlk.c0 (h : TpBlk w g A n c s) : w.cell? ⟨g, 0, none⟩ = some (.slice A n c) := h.cell 0
set_option maxRecDepth 100000 in
theorem TpBlk.c1 (h : TpBlk w g A n c s) : w.cell? ⟨g, 1, none⟩ = some (.int .i64 s.held) := h.cell 1
set_option maxRecDepth 100000 in
theorem TpBlk.c2 (h : TpBlk w g A n c s) : w.cell? ⟨g, 2, none⟩ = some (.int .i64 s.room) := h.cell 2
set_option maxRecDepth 100000 in
theorem TpBlk.c3 (h : TpBlk w g A n c s) : w.cell? ⟨g, 3, none⟩ = some (.int .i64 s.fuse) := h.cell 3
set_option maxRecDepth 100000 in
theorem TpBlk.c4 (h : TpBlk w g A n c s) : w.cell? ⟨g, 4, none⟩ = some (.int .i64 s.falls) := h.cell 4
set_option maxRecDepth 100000 in
theorem TpBlk.c5 (h : TpBlk w g A n c s) : w.cell? ⟨g, 5, none⟩ = some (.bool s.down) := h.cell 5
set_option maxRecDepth 100000 in
theorem TpBlk.fz (h : TpBlk w g A n c s) (i : Nat) : w.frozen? ⟨g, i, none⟩ = false := Blk.frozen h i
set_option maxRecDepth 100000 in
theorem TpBlk.below (h : TpBlk w g A n c s) (hb : Below w.heap.size w w') : TpBlk w' g A n c s := Blk.below h hb (Blk.lt h)
set_option maxRecDepth 100000 in
theorem TpBlk.grown (h : TpBlk w g A n c s) {row : Option Nat} (hg : w.grownBy w' row) (hne : some g ≠ row) : TpBlk w' g A n c s := Blk.grown h hg hne
set_option maxRecDepth 100000 in
theorem TpBlk.alloc (h : TpBlk w g A n c s) (o : Obj) : TpBlk (w.alloc o) g A n c s := Blk.alloc h o
set_option maxRecDepth 100000 in
theorem TpBlk.drewN (h : TpBlk w g A n c s) (k : Nat) : TpBlk (w.drewN k) g A n c s := h
set_option maxRecDepth 100000 in
theorem TpBlk.set0 (h : TpBlk w g A n c s) (B : Option Addr) (m d : Nat) (b : List Int) : TpBlk (w.setCell ⟨g, 0, none⟩ (.slice B m d)) g B m d { s with b := b } := Blk.set_ h 0 _
set_option maxRecDepth 100000 in
theorem TpBlk.set1 (h : TpBlk w g A n c s) (x : Nat) : TpBlk (w.setCell ⟨g, 1, none⟩ (.int .i64 x)) g A n c { s with held := x } := Blk.set_ h 1 _
set_option maxRecDepth 100000 in
theorem TpBlk.set2 (h : TpBlk w g A n c s) (x : Int) : TpBlk (w.setCell ⟨g, 2, none⟩ (.int .i64 x)) g A n c { s with room := x } := Blk.set_ h 2 _
set_option maxRecDepth 100000 in
theorem TpBlk.set3 (h : TpBlk w g A n c s) (x : Int) : TpBlk (w.setCell ⟨g, 3, none⟩ (.int .i64 x)) g A n c { s with fuse := x } := Blk.set_ h 3 _
set_option maxRecDepth 100000 in
theorem TpBlk.set4 (h : TpBlk w g A n c s) (x : Nat) : TpBlk (w.setCell ⟨g, 4, none⟩ (.int .i64 x)) g A n c { s with falls := x } := Blk.set_ h 4 _
set_option maxRecDepth 100000 in
theorem TpBlk.set5 (h : TpBlk w g A n c s) (x : Bool) : TpBlk (w.setCell ⟨g, 5, none⟩ (.bool x)) g A n c { s with down := x } := Blk.set_ h 5 _
set_option maxRecDepth 100000 in
theorem set_grown (w : World) (g i : Nat) (v : Value) : w.grownBy (w.setCell ⟨g, i, none⟩ v) (some g) := grown_setCell (World.grownBy.refl w _) (.inl rfl) v
set_option maxRecDepth 100000 in
theorem TpAt.mono (h : TpAt w P g s) (hq : ∀ k, P k → Q k) : TpAt w Q g s := by
  obtain ⟨A, n, c, h1, h2, h3, h4⟩ := h
  exact ⟨A, n, c, h1, h2, h3, fun h0 => by obtain ⟨ad, e1, e2, e3⟩ := h4 h0; exact ⟨ad, e1, hq _ e2, e3⟩⟩
set_option maxRecDepth 100000 in
/-- its bytes are anew. -/
theorem TpAt.fresh {B : Nat} {b : List Int} (h : TpBlk w g A n c s) (hs : s.b = b) (ho : OB w B (.slice A n c) n b) (hg : g < B) (hP : ∀ k, B ≤ k → P k) : TpAt w P g s := by
  subst hs
  obtain ⟨A', c', e, hc⟩ := ho.slice
  injection e with e1 e2 e3
  subst e1 e3
  refine ⟨A, n, c, h, ho.reads, hc, fun h0 => ?_⟩
  obtain ⟨ad, e, _⟩ := ho.reads.2.2 h0
  subst e
  rcases ho.form with ⟨h0', h1, _⟩ | ⟨k, cap, cur, hv, hgb, _⟩
  · omega
  · injection hv with hA
    injection hA with hA
    subst hA
    exact ⟨_, rfl, hP _ hgb, by show k ≠ g; omega⟩
set_option maxRecDepth 100000 in
theorem TpAt.old (h : TpBlk w g A n c s) (hr : RB w A n s.b) (hc : n ≤ c) (hp : 0 < n → ∃ ad, A = some ad ∧ P ad.block ∧ ad.block ≠ g) : TpAt w P g s := ⟨A, n, c, h, hr, hc, hp⟩
set_option maxRecDepth 100000 in
theorem RB.awayOf {b : List Int} (hr : RB w A n b) (hp : 0 < n → ∃ ad, A = some ad ∧ P ad.block ∧ ad.block ≠ g) (hg : w.grownBy w' (some g)) : RB w' A n b := by
  refine ⟨hr.1, hr.2.1, fun h0 => ?_⟩
  obtain ⟨ad, e, hc⟩ := hr.2.2 h0
  obtain ⟨ad', e', _, hne⟩ := hp h0
  rw [e] at e'
  injection e' with e'
  subst e'
  exact ⟨ad, e, fun j hj => hg.cell (hc j hj) (by rw [block_of_add]; intro h; injection h with h; exact hne h)⟩
set_option maxRecDepth 100000 in
theorem OB.setFar {B : Nat} {v : Value} {b : List Int} (h : OB w B v n b) (hg : g < B) (i : Nat) (u : Value) : OB (w.setCell ⟨g, i, none⟩ u) B v n b := by
  refine h.kept (set_grown w g i u) ?_
  cases e : v.ownBlock with
  | none => exact .inl rfl
  | some k =>
    refine .inr fun e' => ?_
    injection e' with e'
    have := (h.own _ e).1
    omega
set_option maxRecDepth 100000 in
theorem TpAt.grown {row : Option Nat} (h : TpAt w P g s) (hg : w.grownBy w' row) (hne : some g ≠ row) (hp : ∀ k, row = some k → ¬ P k) : TpAt w' P g s := by
  obtain ⟨A, n, c, h1, h2, h3, h4⟩ := h
  refine ⟨A, n, c, h1.grown hg hne, ⟨h2.1, h2.2.1, fun h0 => ?_⟩, h3, h4⟩
  obtain ⟨ad, e, hc⟩ := h2.2.2 h0
  obtain ⟨ad', e', hP, _⟩ := h4 h0
  rw [e] at e'
  injection e' with e'
  subst e'
  exact ⟨ad, e, fun j hj => hg.cell (hc j hj) (by rw [block_of_add]; intro h; exact hp _ h.symm hP)⟩
set_option maxRecDepth 100000 in
theorem TpAt.below (h : TpAt w P g s) (hb : Below w.heap.size w w') : TpAt w' P g s := h.grown (grown_below hb none) (by simp) (fun k hk => by cases hk)
set_option maxRecDepth 100000 in
theorem TpAt.lt (h : TpAt w P g s) : g < w.heap.size := by
  obtain ⟨A, n, c, h1, _⟩ := h
  exact Blk.lt h1
set_option maxRecDepth 100000 in
/-- where the bytes lie: somewhere old. -/
theorem TpAt.toOld (h : TpAt w P g s) : TpAt w (fun k => k < w.heap.size) g s := by
  obtain ⟨A, n, c, h1, h2, h3, h4⟩ := h
  refine ⟨A, n, c, h1, h2, h3, fun h0 => ?_⟩
  obtain ⟨ad, e, hP, hne⟩ := h4 h0
  obtain ⟨ad', e', hl⟩ := h2.block h0
  rw [e] at e'
  injection e' with e'
  subst e'
  exact ⟨ad, e, hl, hne⟩
end
set_option maxRecDepth 100000 in
theorem RBs.two' {w : World} {g : Nat} {t : TypeId} {A B : Option Addr} {n c m d : Nat} {xs ys : List Int} (hb : Blk w g t #[.slice A n c, .slice B m d]) (h : RB w A n xs) (hc : n ≤ c) (h' : RB w B m ys) (hd : m ≤ d) : RBs w (some ⟨g, 0, Option.none⟩) 2 [xs, ys] := by
  refine ⟨rfl, g, 0, fun _ => rfl, fun i hi => ?_⟩
  have hl := h.len
  have hl' := h'.len
  subst hl hl'
  match i, hi with
  | 0, _ => exact ⟨A, c, hb.cell 0, hc, h⟩
  | 1, _ => exact ⟨B, d, hb.cell 1, hd, h'⟩
set_option maxRecDepth 100000 in
theorem concat_two (A B : Option Addr) (n c m d : Nat) (xs ys : List Int) (g : Nat) (w : World) (hb : Blk w g 36 #[.slice A n c, .slice B m d]) (h : RB w A n xs) (hc : n ≤ c) (h' : RB w B m ys) (hd : m ≤ d) (hn : n + m ≤ 1000000000) :
    Calls Try.prog 44 #[.slice (some ⟨g, 0, none⟩) 2 2] w (NewB (n + m) (xs ++ ys) w) := by
  have hf : [xs, ys].flatten = xs ++ ys := by simp
  have hl := h.len
  have hl' := h'.len
  have hc := concat_any (some ⟨g, 0, none⟩) 2 2 _ w (RBs.two' hb h hc h' hd) (Nat.le_refl _) (by omega) (by rw [hf, List.length_append]; omega)
  rw [hf] at hc
  refine hc.mono ?_
  rintro e w' ⟨v, k, rfl, ho, hb'⟩
  have hk := ho.len
  rw [List.length_append] at hk
  obtain rfl : k = n + m := by omega
  exact NewB.of ho hb'
set_option maxRecDepth 100000 in
theorem writePass_any (g : Nat) (s : Tp) (P : Nat → Prop) (X : Option Addr) (m d : Nat) (ys : List Int) (w : World) (h : TpAt w P g s) (hx : RB w X m ys) (hmd : m ≤ d) (hs : s.b.length ≤ 400000000) (hm : m ≤ 400000000) :
    Calls Try.prog 77 #[.agg #[.slice X m d], .pointer (some ⟨g, 0, none⟩)] w (TpPost (.tuple #[]) P g (s.wr ys) w) := by
  obtain ⟨A, n, c, h1, h2, h3, h4⟩ := h
  have c0 := h1.c0
  have f0 := h1.fz 0
  have hgl := Blk.lt h1
  have hl := h2.len
  have hl' := hx.len
  have hBk : Blk (((w.alloc (.cells #[.slice X m d] 87)).alloc (.cells #[.slice A n c, .slice X m d] 36)).drew) (w.heap.size + 1) 36 #[.slice A n c, .slice X m d] := by
    have := Blk.new (w.alloc (.cells #[.slice X m d] 87)) 36 #[.slice A n c, .slice X m d]
    rw [World.size_alloc] at this
    exact this
  have hcat := concat_two A X n c m d s.b ys (w.heap.size + 1) _ hBk ((h2.alloc _).alloc _) h3 ((hx.alloc _).alloc _) hmd (by omega)
  have hb0 : Below w.heap.size w (((w.alloc (.cells #[.slice X m d] 87)).alloc (.cells #[.slice A n c, .slice X m d] 36)).drew) := below_drewN (((Below.refl _ _).alloc (Nat.le_refl _) _).alloc (by simp) _) 1
  have hz0 : (((w.alloc (.cells #[.slice X m d] 87)).alloc (.cells #[.slice A n c, .slice X m d] 36)).drew).heap.size = w.heap.size + 2 := by simp
  clear hl hl' hm hs
  go_enter Try.func77, Try.ntmps77
  go_wp2
  go_region_with (go_at_call 44; (with_reducible refine hcat.mono ?_); rintro e w1 ⟨V, C0, rfl, ho, hc0, hb1⟩; have hb2 := below_two hb0 hb1; have h5 := h1.below hb2; have c0' := h5.c0; have f0' := h5.fz 0)
  all_goals
    go_end0
    refine ⟨rfl, TpAt.fresh (h5.set0 V (n + m) C0 (s.b ++ ys)) rfl (ho.setFar (by rw [hz0]; omega) 0 _) (by rw [hz0]; omega) (fun k hk => .inr (by rw [hz0] at hk; omega)), grown_setCell (grown_below hb2 _) (.inl rfl) _⟩
end Go.Proofs.Ytokamaogognjoaa
