/-
  Steps of a tape; which method a deed has. (Printed by gen/tp3.py.)
-/
import Derived.Test.YtokamaogognjoaaTp2
set_option linter.unusedVariables false
set_option linter.unusedSimpArgs false
namespace Go.Proofs.Ytokamaogognjoaa
open Go.RowKit

/-- a step of a tape. -/
def TpStep (P : Nat → Prop) (g : Nat) (s : Tp) (w w' : World) : Prop := TpAt w' (fun k => P k ∨ w.heap.size ≤ k) g s ∧ w.grownBy w' (some g)
section
variable {w w1 w2 : World} {P : Nat → Prop} {g : Nat} {s s1 s2 : Tp}
set_option maxRecDepth 100000 in
theorem TpStep.refl (h : TpAt w P g s) : TpStep P g s w w := ⟨h.mono fun k hk => .inl hk, World.grownBy.refl _ _⟩
set_option maxRecDepth 100000 in
theorem TpStep.below (h : TpAt w P g s) (hb : Below w.heap.size w w1) : TpStep P g s w w1 := ⟨(h.below hb).mono fun k hk => .inl hk, grown_below hb _⟩
set_option maxRecDepth 100000 in
theorem TpStep.trans (h : TpStep P g s1 w w1) (h' : TpStep (fun k => P k ∨ w.heap.size ≤ k) g s2 w1 w2) : TpStep P g s2 w w2 :=
  ⟨h'.1.mono fun k hk => by
    rcases hk with hk | hk
    · exact hk
    · exact .inr (Nat.le_trans h.2.size hk), h.2.trans h'.2⟩
set_option maxRecDepth 100000 in
theorem TpStep.fuse (h : TpAt w P g s) (x : Int) : TpStep P g { s with fuse := x } w (w.setCell ⟨g, 3, none⟩ (.int .i64 x)) := by
  obtain ⟨A, n, c, h1, h2, h3, h4⟩ := h
  exact ⟨TpAt.keep h2 h3 h4 (set_grown w g 3 _) (h1.set3 x) rfl, set_grown w g 3 _⟩
set_option maxRecDepth 100000 in
theorem RB.ne_tp {A A' : Option Addr} {n n' c' : Nat} {xs : List Int} (h : RB w A n xs) (hb : TpBlk w g A' n' c' s) : ∀ ad, A = some ad → 0 < n → ad.block ≠ g := by
  intro ad hA h0 e
  obtain ⟨b, o, e1, hc⟩ := h.plain h0
  rw [hA] at e1
  injection e1 with e1
  subst e1
  simp only at e
  subst e
  have := hc 0 h0
  rw [Nat.add_zero, hb.cell o] at this
  match o with
  | 0 => simp [tpC] at this
  | 1 => simp [tpC] at this
  | 2 => simp [tpC] at this
  | 3 => simp [tpC] at this
  | 4 => simp [tpC] at this
  | 5 => simp [tpC] at this
  | q + 6 => simp [tpC] at this
set_option maxRecDepth 100000 in
theorem RB.overTp {A : Option Addr} {n : Nat} {xs : List Int} (h : RB w A n xs) (ht : TpAt w P g s) (hg : w.grownBy w1 (some g)) : RB w1 A n xs := by
  obtain ⟨A', n', c', hb, _⟩ := ht
  rcases Nat.eq_zero_or_pos n with h0 | h0
  · exact ⟨h.1, h.2.1, fun hp => by omega⟩
  · exact h.grown hg fun ad hA e => by injection e with e; exact h.ne_tp hb ad hA h0 e
end
set_option maxRecDepth 100000 in
theorem meth_write_refused (F : Nat) (A : Option Addr) (n c : Nat) (w : World) : (method (F + 1) 87 (.agg #[.slice A n c]) "trestle/tape.refused").run Try.prog w = .ok (78, .agg #[.slice A n c]) w := by kernel_rfl
set_option maxRecDepth 100000 in
theorem meth_write_pass (F : Nat) (A : Option Addr) (n c : Nat) (w : World) : (method (F + 1) 87 (.agg #[.slice A n c]) "trestle/tape.pass").run Try.prog w = .ok (77, .agg #[.slice A n c]) w := by kernel_rfl
set_option maxRecDepth 100000 in
theorem meth_write_leave (F : Nat) (A : Option Addr) (n c : Nat) (w : World) : (method (F + 1) 87 (.agg #[.slice A n c]) "trestle/tape.leave").run Try.prog w = .ok (76, .agg #[.slice A n c]) w := by kernel_rfl
set_option maxRecDepth 100000 in
theorem meth_hold_refused (F : Nat)  (w : World) : (method (F + 1) 97 (.agg #[]) "trestle/tape.refused").run Try.prog w = .ok (81, .agg #[]) w := by kernel_rfl
set_option maxRecDepth 100000 in
theorem meth_hold_pass (F : Nat)  (w : World) : (method (F + 1) 97 (.agg #[]) "trestle/tape.pass").run Try.prog w = .ok (80, .agg #[]) w := by kernel_rfl
set_option maxRecDepth 100000 in
theorem meth_cut_refused (F : Nat) (k : Int) (w : World) : (method (F + 1) 89 (.agg #[.int .i64 k]) "trestle/tape.refused").run Try.prog w = .ok (79, .agg #[.int .i64 k]) w := by kernel_rfl
set_option maxRecDepth 100000 in
theorem meth_cut_pass (F : Nat) (k : Int) (w : World) : (method (F + 1) 89 (.agg #[.int .i64 k]) "trestle/tape.pass").run Try.prog w = .ok (46, .agg #[.int .i64 k]) w := by kernel_rfl
set_option maxRecDepth 100000 in
theorem meth_swap_refused (F : Nat) (A : Option Addr) (n c : Nat) (w : World) : (method (F + 1) 99 (.agg #[.slice A n c]) "trestle/tape.refused").run Try.prog w = .ok (83, .agg #[.slice A n c]) w := by kernel_rfl
set_option maxRecDepth 100000 in
theorem meth_swap_pass (F : Nat) (A : Option Addr) (n c : Nat) (w : World) : (method (F + 1) 99 (.agg #[.slice A n c]) "trestle/tape.pass").run Try.prog w = .ok (82, .agg #[.slice A n c]) w := by kernel_rfl
set_option maxRecDepth 100000 in
theorem missing_one (want : Array (String × TypeId)) (got : Array Method) (nm : String) (h : (want.toList.filter fun (name, sig) => !got.any fun m => m.name == name && m.sig == sig).map (·.1) = [nm]) : ∃ m, Instr.missingMethod want got = some m := by
  unfold Instr.missingMethod
  rw [h]
  cases hc : nm.contains '.' <;> simp [List.partition, List.partition.loop, hc, Instr.least]
set_option maxRecDepth 100000 in
theorem halfTy : ∃ want, Try.prog.underlying 104 = some (.interface want) ∧ ∀ T, T = 99 ∨ T = 97 ∨ T = 89 → ∃ i, Try.prog.info? T = some i ∧ (want.toList.filter fun (name, sig) => !i.methods.any fun m => m.name == name && m.sig == sig).map (·.1) = ["trestle/tape.leave"] := by
  refine ⟨_, Try.underlying104, fun T hT => ?_⟩
  refine Option.map_eq_some_iff.1 (?_ : (Try.prog.info? T).map _ = _)
  rcases hT with rfl | rfl | rfl
  · kernel_rfl
  · kernel_rfl
  · kernel_rfl
set_option maxRecDepth 100000 in
theorem half_no (T : TypeId) (V : Value) (hT : T = 99 ∨ T = 97 ∨ T = 89) (w : World) : (Instr.typeAssert (.iface T V) 101 104 true).run Try.prog w = .ok (.tuple #[.nilIface, .bool false]) w := by
  obtain ⟨want, hw, ht⟩ := halfTy
  obtain ⟨i, hi, hf⟩ := ht T hT
  obtain ⟨m, hm⟩ := missing_one want i.methods _ hf
  have hz : (zeroValue 104).run Try.prog w = .ok .nilIface w := by kernel_rfl
  simp [Instr.typeAssert, run_underlying hw, typeInfo, hi, hm, hz]
set_option maxRecDepth 100000 in
theorem half_write (A : Option Addr) (n c : Nat) (w : World) : (Instr.typeAssert (.iface 87 (.agg #[.slice A n c])) 101 104 true).run Try.prog w = .ok (.tuple #[.iface 87 (.agg #[.slice A n c]), .bool true]) w := by kernel_rfl
set_option maxRecDepth 100000 in
theorem half_swap (V : Value) (w : World) : (Instr.typeAssert (.iface 99 V) 101 104 true).run Try.prog w = .ok (.tuple #[.nilIface, .bool false]) w := half_no _ V (.inl rfl) w
set_option maxRecDepth 100000 in
theorem half_hold (V : Value) (w : World) : (Instr.typeAssert (.iface 97 V) 101 104 true).run Try.prog w = .ok (.tuple #[.nilIface, .bool false]) w := half_no _ V (.inr (.inl rfl)) w
set_option maxRecDepth 100000 in
theorem half_cut (V : Value) (w : World) : (Instr.typeAssert (.iface 89 V) 101 104 true).run Try.prog w = .ok (.tuple #[.nilIface, .bool false]) w := half_no _ V (.inr (.inr rfl)) w
end Go.Proofs.Ytokamaogognjoaa
