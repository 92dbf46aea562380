/-
  trestlelaw04.do at the deeds without bytes.
-/
import Derived.Test.YtdhegecnhglplaaTd1
set_option linter.unusedVariables false
set_option linter.unusedSimpArgs false
namespace Go.Proofs.Ytdhegecnhglplaa
open Go.RowKit

/-- both tapes, alike. -/
def Both (w : World) (g g' : Nat) (s : Tp) : Prop := (∃ P, TpAt w P g s) ∧ ∃ Q, RtAt w Q g' s
theorem Both.below {w w' : World} {g g' : Nat} {s : Tp} (h : Both w g g' s) (hb : Below w.heap.size w w') : Both w' g g' s := by
  obtain ⟨⟨P, h1⟩, Q, h2⟩ := h
  exact ⟨⟨P, h1.below hb⟩, Q, h2.below hb⟩
def DoPost (B g g' : Nat) (s : Tp) (w : World) (e : Ending) (w' : World) : Prop := e = .returned (.bool true) ∧ Both w' g g' s ∧ Below B w w'
/-- the block of the deed. -/
def boxD (what n : Int) (A : Option Addr) (k c : Nat) : Obj := .cells #[.int .i64 what, .int .i64 n, .slice A k c] 41

section
variable (B g g' : Nat) (s : Tp) (what n : Int) (A : Option Addr) (k c : Nat) (ps : List (List Int)) (w : World)
theorem joinBox (h : RBs w A k ps) (hkc : k ≤ c) (hk : k ≤ 9223372036854775807) : Calls Try.prog 38 #[.slice A k c] (w.alloc (.cells #[.int .i64 what, .int .i64 n, .slice A k c] 41)) (fun e w' => JoinPost ps (w.alloc (boxD what n A k c)) e w' ∧ Blk w' w.heap.size 41 #[.int .i64 what, .int .i64 n, .slice A k c]) := by
  have hb := Blk.new w 41 #[.int .i64 what, .int .i64 n, .slice A k c]
  refine (joined_any A k c ps _ (h.below ((Below.refl _ _).alloc (Nat.le_refl _) _)) hkc hk).mono ?_
  rintro e w' ⟨A1, m, c1, h1, h2, h3, h4, h5⟩
  exact ⟨⟨A1, m, c1, h1, h2, h3, h4, h5⟩, hb.below h5 hb.lt⟩
theorem do_bad (h : Both w g g' s) (hps : RBs w A k ps) (hkc : k ≤ c) (hk : k ≤ 9223372036854775807) (hB : B ≤ w.heap.size) (hj : jok ps = false) :
    Calls Try.prog 23 #[.pointer (some ⟨g, 0, none⟩), .pointer (some ⟨g', 0, none⟩), .agg #[.int .i64 what, .int .i64 n, .slice A k c]] w (DoPost B g g' s w) := by
  have hjo := joinBox what n A k c ps w hps hkc hk
  unfold JoinPost at hjo
  rw [hj] at hjo
  clear hj
  go_enter Try.func23, Try.ntmps23
  go_wp2_with (go_at_call 38; (with_reducible refine hjo.mono ?_); rintro e w1 ⟨⟨A1, m1, c1, rfl, hm1, ho1, hc1, hb1⟩, hx1⟩)
  go_ret
  have hbb : Below w.heap.size w w1 := below_two ((Below.refl _ _).alloc (Nat.le_refl _) _) hb1
  exact ⟨rfl, h.below hbb, hbb.mono hB⟩
theorem do_other (h : Both w g g' s) (hps : RBs w A k ps) (hkc : k ≤ c) (hk : k ≤ 9223372036854775807) (hB : B ≤ w.heap.size) (hj : jok ps = true) (hw : ∀ q : Int, 0 ≤ q → q ≤ 7 → (what == q) = false) :
    Calls Try.prog 23 #[.pointer (some ⟨g, 0, none⟩), .pointer (some ⟨g', 0, none⟩), .agg #[.int .i64 what, .int .i64 n, .slice A k c]] w (DoPost B g g' s w) := by
  have hjo := joinBox what n A k c ps w hps hkc hk
  unfold JoinPost at hjo
  rw [hj] at hjo
  have k0 := hw 0 (by omega) (by omega)
  have k1 := hw 1 (by omega) (by omega)
  have k2 := hw 2 (by omega) (by omega)
  have k3 := hw 3 (by omega) (by omega)
  have k4 := hw 4 (by omega) (by omega)
  have k5 := hw 5 (by omega) (by omega)
  have k6 := hw 6 (by omega) (by omega)
  have k7 := hw 7 (by omega) (by omega)
  clear hj hw
  go_enter Try.func23, Try.ntmps23
  go_wp2_with (go_at_call 38; (with_reducible refine hjo.mono ?_); rintro e w1 ⟨⟨A1, m1, c1, rfl, hm1, ho1, hc1, hb1⟩, hx1⟩; clear hm1; have cb0 := hx1.cell 0; simp only [List.getElem?_toArray, List.getElem?_cons_zero] at cb0)
  go_ret
  have hbb : Below w.heap.size w w1 := below_two ((Below.refl _ _).alloc (Nat.le_refl _) _) hb1
  exact ⟨rfl, h.below hbb, hbb.mono hB⟩
theorem do_hold (h : Both w g g' s) (hok : s.Ok 400000000) (hps : RBs w A k ps) (hkc : k ≤ c) (hk : k ≤ 9223372036854775807) (hB : B ≤ w.heap.size) (hg : B ≤ g) (hg' : B ≤ g') (hj : jok ps = true) :
    Calls Try.prog 23 #[.pointer (some ⟨g, 0, none⟩), .pointer (some ⟨g', 0, none⟩), .agg #[.int .i64 1, .int .i64 n, .slice A k c]] w (DoPost B g g' s.hold.2 w) := by
  have hjo := joinBox 1 n A k c ps w hps hkc hk
  unfold JoinPost at hjo
  rw [hj] at hjo
  clear hj
  obtain ⟨⟨P, hT⟩, Q, hR⟩ := h
  have kT := fun (W : World) (P : Nat → Prop) (hW : TpAt W P g s) => tpHold_any g s P W hW hok
  have kR := fun (W : World) (Q : Nat → Prop) (hW : RtAt W Q g' s) => rtHold_any g' s Q W hW hok
  generalize s.hold = r at *
  go_enter Try.func23, Try.ntmps23
  go_wp2_with (first
    | (go_at_call 38; (with_reducible refine hjo.mono ?_); rintro e w1 ⟨⟨A1, m1, c1, rfl, hm1, ho1, hc1, hb1⟩, hx1⟩; clear hm1; have cb0 := hx1.cell 0; simp only [List.getElem?_toArray, List.getElem?_cons_zero] at cb0; have hbb : Below w.heap.size w w1 := below_two ((Below.refl _ _).alloc (Nat.le_refl _) _) hb1; have hT1 := hT.below hbb; have hR1 := hR.below hbb)
    | (go_at_call 16; (with_reducible refine (kT _ _ hT1).mono ?_); rintro e w2 ⟨rfl, t2, hg2⟩; have hR2 := hR1.overTp hT1 hg2)
    | (go_at_call 22; (with_reducible refine (kR _ _ hR2).mono ?_); rintro e w3 ⟨rfl, t3, hg3⟩; have hT3 := t2.overRt hR2 hg3))
  go_ret
  have hz1 := hbb.size
  have hz2 := hg2.size
  exact ⟨by simp, ⟨⟨_, hT3⟩, _, t3⟩, ((hbb.mono hB).grown hg2 (by omega) (fun k hk => by cases hk; exact hg)).grown hg3 (by omega) (fun k hk => by cases hk; exact hg')⟩
end
end Go.Proofs.Ytdhegecnhglplaa
