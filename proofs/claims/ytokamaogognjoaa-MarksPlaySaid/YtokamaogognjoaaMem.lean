/-
  Words for memory, whatever the program: a slice of bytes that is read (RB), a row of bytes that the call owns (OB), a block known whole (Blk), what a step may turn (Below, grownBy). Plain definitions and lemmas; no condition.
-/
import Derived.Test.YtokamaogognjoaaProg
import Derived.WalkKit
import Derived.WalkSpells
import Derived.WalkLawsBesides
import Derived.Deep.QuietTactic
import Derived.BigQuiet
import Derived.Deep.Draws
import Derived.Deep.AppendLies
import Derived.Maps.AppendAt
import Derived.RegionTactic
import Derived.Deep.RegionWith
import Derived.Deep.RegionLaw
import Derived.Deep.RegionHeld3
import Derived.Deep.DeepCutAuto
import Derived.Deep.CutBlock
import Derived.Deep.LoopGhost
import Derived.Deep.DeepFit
import Derived.Deep.DeepMust
import Derived.OwnWalk
import Derived.Lib.Hide
import Derived.StillTailTactics
import Derived.Lib.SlBytesConst
set_option linter.unusedVariables false
set_option linter.unusedSimpArgs false
namespace Go.Proofs.Ytokamaogognjoaa
open Go.RowKit

/-! ### Lists of numbers -/
/-- The number at a place (0 beyond the end). Not to be opened by simp. -/
def gi (xs : List Int) (i : Nat) : Int := xs.getD i 0
/-- Each is a byte. -/
def Byts (xs : List Int) : Prop := ∀ x ∈ xs, 0 ≤ x ∧ x ≤ 255
/-- The cells of bytes. -/
def bv (xs : List Int) : List Value := xs.map (Value.int .u8)

set_option maxRecDepth 100000 in
theorem gi_some {xs : List Int} {i : Nat} (h : i < xs.length) : xs[i]? = some (gi xs i) := by simp [gi, h]
set_option maxRecDepth 100000 in
theorem gi_append_left {xs ys : List Int} {i : Nat} (h : i < xs.length) : gi (xs ++ ys) i = gi xs i := by simp [gi, List.getElem?_append, h]
set_option maxRecDepth 100000 in
theorem gi_append_right {xs ys : List Int} {i : Nat} (h : xs.length ≤ i) : gi (xs ++ ys) i = gi ys (i - xs.length) := by simp [gi, List.getElem?_append, Nat.not_lt.2 h]
set_option maxRecDepth 100000 in
theorem gi_drop (xs : List Int) (k i : Nat) : gi (xs.drop k) i = gi xs (k + i) := by simp [gi]
set_option maxRecDepth 100000 in
theorem gi_take {xs : List Int} {k i : Nat} (h : i < k) : gi (xs.take k) i = gi xs i := by simp [gi, List.getElem?_take, h]
set_option maxRecDepth 100000 in
theorem gi_mem {xs : List Int} {i : Nat} (h : i < xs.length) : gi xs i ∈ xs := by
  simp [gi, h]
set_option maxRecDepth 100000 in
theorem gi_ext {xs ys : List Int} (hl : xs.length = ys.length) (h : ∀ i, i < xs.length → gi xs i = gi ys i) : xs = ys := by
  apply List.ext_getElem hl
  intro i h1 h2
  have := h i h1
  simpa [gi, h1, h2] using this
set_option maxRecDepth 100000 in
theorem Byts.nil : Byts [] := fun _ h => by cases h
set_option maxRecDepth 100000 in
theorem Byts.append {xs ys : List Int} (hx : Byts xs) (hy : Byts ys) : Byts (xs ++ ys) := fun z hz => by
  rcases List.mem_append.1 hz with h | h
  · exact hx z h
  · exact hy z h
set_option maxRecDepth 100000 in
theorem Byts.drop {xs : List Int} (h : Byts xs) (k : Nat) : Byts (xs.drop k) := fun z hz => h z (List.mem_of_mem_drop hz)
set_option maxRecDepth 100000 in
theorem Byts.take {xs : List Int} (h : Byts xs) (k : Nat) : Byts (xs.take k) := fun z hz => h z (List.mem_of_mem_take hz)
set_option maxRecDepth 100000 in
theorem Byts.reverse {xs : List Int} (h : Byts xs) : Byts xs.reverse := fun z hz => h z (List.mem_reverse.1 hz)
set_option maxRecDepth 100000 in
theorem Byts.cons {x : Int} {xs : List Int} (h0 : 0 ≤ x) (h1 : x ≤ 255) (h : Byts xs) : Byts (x :: xs) := fun z hz => by
  rcases List.mem_cons.1 hz with rfl | hz
  · exact ⟨h0, h1⟩
  · exact h z hz
set_option maxRecDepth 100000 in
theorem Byts.one {x : Int} (h0 : 0 ≤ x) (h1 : x ≤ 255) : Byts [x] := Byts.cons h0 h1 Byts.nil
set_option maxRecDepth 100000 in
theorem Byts.rep {x : Int} (h0 : 0 ≤ x) (h1 : x ≤ 255) (n : Nat) : Byts (List.replicate n x) := fun z hz => by
  rw [List.mem_replicate] at hz
  obtain ⟨_, rfl⟩ := hz
  exact ⟨h0, h1⟩
set_option maxRecDepth 100000 in
theorem Byts.left {xs ys : List Int} (h : Byts (xs ++ ys)) : Byts xs := fun z hz => h z (List.mem_append.2 (.inl hz))
set_option maxRecDepth 100000 in
theorem Byts.right {xs ys : List Int} (h : Byts (xs ++ ys)) : Byts ys := fun z hz => h z (List.mem_append.2 (.inr hz))
set_option maxRecDepth 100000 in
theorem Byts.gi {xs : List Int} (h : Byts xs) (i : Nat) : 0 ≤ gi xs i ∧ gi xs i ≤ 255 := by
  rcases Nat.lt_or_ge i xs.length with hi | hi
  · exact h _ (gi_mem hi)
  · have : Ytokamaogognjoaa.gi xs i = 0 := by simp [Ytokamaogognjoaa.gi, hi]
    omega
set_option maxRecDepth 100000 in
theorem bv_length (xs : List Int) : (bv xs).length = xs.length := by simp [bv]
set_option maxRecDepth 100000 in
theorem bv_get {xs : List Int} {j : Nat} {u : Value} (h : (bv xs)[j]? = some u) : j < xs.length ∧ u = .int .u8 (gi xs j) := by
  have hj : j < xs.length := by
    rcases Nat.lt_or_ge j xs.length with h' | h'
    · exact h'
    · rw [List.getElem?_eq_none (by rw [bv_length]; exact h')] at h
      cases h
  refine ⟨hj, ?_⟩
  simp [bv, hj] at h
  simp [gi, hj, h]
set_option maxRecDepth 100000 in
theorem bv_some {xs : List Int} {j : Nat} (h : j < xs.length) : (bv xs)[j]? = some (.int .u8 (gi xs j)) := by simp [bv, gi, h]
set_option maxRecDepth 100000 in
theorem bv_one (xs : List Int) : ∀ u ∈ bv xs, u.oneCell' = true := fun u hu => by
  simp [bv] at hu
  obtain ⟨x, _, rfl⟩ := hu
  rfl
set_option maxRecDepth 100000 in
theorem bv_append (xs ys : List Int) : bv (xs ++ ys) = bv xs ++ bv ys := by simp [bv]
set_option maxRecDepth 100000 in
theorem bv_inj {xs ys : List Int} (h : bv xs = bv ys) : xs = ys := by
  have hi : Function.Injective (Value.int .u8) := fun a b h => by injection h
  exact (List.map_inj_right (fun a b h => hi h)).1 h

/-! ### Addresses -/
set_option maxRecDepth 100000 in
theorem block_of_add (a : Addr) (n : Nat) : (a.add n).block = a.block := by unfold Addr.add; split <;> rfl
set_option maxRecDepth 100000 in
theorem add_of_add (a : Addr) (i j : Nat) : (a.add i).add j = a.add (i + j) := by
  unfold Addr.add
  by_cases hi : i = 0 <;> by_cases hj : j = 0 <;> simp [hi, hj, Nat.add_assoc]
set_option maxRecDepth 100000 in
theorem add_plain (g i j : Nat) : (⟨g, i, none⟩ : Addr).add j = ⟨g, i + j, none⟩ := by unfold Addr.add; split <;> simp_all
set_option maxRecDepth 100000 in
theorem add_zero (a : Addr) : a.add 0 = a := by simp [Addr.add]

/-! ### Slice expressions, the address under one name -/
/-- the address of 's[k:]' of a slice of capacity c (the model doesn't point behind the end). -/
def cutA (A : Option Addr) (c k : Nat) : Option Addr := if c = k then A else A.map (·.add k)
set_option maxRecDepth 100000 in
theorem cutA_some {A : Option Addr} {ad : Addr} {c k : Nat} (h : A = some ad) (hk : k < c) : cutA A c k = some (ad.add k) := by
  subst h
  unfold cutA
  rw [if_neg (by omega)]
  rfl
set_option maxRecDepth 100000 in
theorem cutA_block {A : Option Addr} {c k : Nat} {bd : Addr} (h : cutA A c k = some bd) : ∃ ad, A = some ad ∧ bd.block = ad.block := by
  unfold cutA at h
  split at h
  · exact ⟨bd, h, rfl⟩
  · cases A with
    | none => cases h
    | some ad =>
      simp at h
      exact ⟨ad, rfl, by rw [← h, block_of_add]⟩
section
variable {P : Program} (w : World) (t e s : Nat) (A : Option Addr) (n c : Nat) (ht : P.underlying t = some (.slice e)) (hz : ∀ w, (sizeOf e).run P w = .ok s w)
include ht hz
set_option maxRecDepth 100000 in
theorem run_cut_l (k : IntKind) (l : Int) (h0 : 0 ≤ l) (h1 : l ≤ n) (hs : s = 1) : (Instr.slice t (.slice A n c) (some (.int k l)) none none).run P w = .ok (.slice (cutA A c l.toNat) (n - l.toNat) (c - l.toNat)) w := by
  subst hs
  have ht' : P.underlying t = some (.slice (P.elem t)) := by simp [Program.elem, ht]
  have he : P.elem t = e := by simp [Program.elem, ht]
  rw [run_slice_l w t A n c ht' k l h0 h1, he, hz]
  simp [Result.andThen, sliced, cutA]
set_option maxRecDepth 100000 in
theorem run_cut_h (k : IntKind) (h : Int) (h0 : 0 ≤ h) (h1 : h ≤ c) : (Instr.slice t (.slice A n c) none (some (.int k h)) none).run P w = .ok (.slice A h.toNat c) w := by
  have ht' : P.underlying t = some (.slice (P.elem t)) := by simp [Program.elem, ht]
  have he : P.elem t = e := by simp [Program.elem, ht]
  rw [run_slice_h w t A n c ht' k h h0 h1, he, hz]
  cases A <;> simp [Result.andThen, sliced, Addr.add]
set_option maxRecDepth 100000 in
theorem run_cut_lh (k k' : IntKind) (l h : Int) (h0 : 0 ≤ l) (h1 : l ≤ h) (h2 : h ≤ c) (hs : s = 1) : (Instr.slice t (.slice A n c) (some (.int k l)) (some (.int k' h)) none).run P w = .ok (.slice (cutA A c l.toNat) (h.toNat - l.toNat) (c - l.toNat)) w := by
  subst hs
  have ht' : P.underlying t = some (.slice (P.elem t)) := by simp [Program.elem, ht]
  have he : P.elem t = e := by simp [Program.elem, ht]
  rw [run_slice_lh w t A n c ht' k k' l h h0 h1 h2, he, hz]
  simp [Result.andThen, sliced, cutA]
end
set_option maxRecDepth 100000 in
/-- a byte takes one cell. -/
theorem size5 (w : World) : (sizeOf 5).run Try.prog w = .ok 1 w := by kernel_rfl
section
variable {P : Program} (w : World) (t e s : Nat) (A : Option Addr) (n c : Nat) (ht : P.underlying t = some (.slice e)) (hz : ∀ w, (sizeOf e).run P w = .ok s w)
include ht hz
set_option maxRecDepth 100000 in
theorem run_cut_l_if (k : IntKind) (l : Int) (hs : s = 1) : (Instr.slice t (.slice A n c) (some (.int k l)) none none).run P w = if 0 ≤ l ∧ l ≤ n then .ok (.slice (cutA A c l.toNat) (n - l.toNat) (c - l.toNat)) w else
    ((Instr.sliceBounds true n c (some (.int k l)) none none).run P w).andThen fun b w => ((sizeOf (P.elem t)).run P w).andThen fun s w => .ok (sliced A b.1 b.2.1 b.2.2 s) w := by
  by_cases h : 0 ≤ l ∧ l ≤ (n : Int)
  · rw [if_pos h]
    exact run_cut_l w t e s A n c ht hz k l h.1 h.2 hs
  · rw [if_neg h]
    exact run_slice_any w t A n c (by simp [Program.elem, ht]) _ _ _
set_option maxRecDepth 100000 in
theorem run_cut_h_if (k : IntKind) (h : Int) : (Instr.slice t (.slice A n c) none (some (.int k h)) none).run P w = if 0 ≤ h ∧ h ≤ c then .ok (.slice A h.toNat c) w else
    ((Instr.sliceBounds true n c none (some (.int k h)) none).run P w).andThen fun b w => ((sizeOf (P.elem t)).run P w).andThen fun s w => .ok (sliced A b.1 b.2.1 b.2.2 s) w := by
  by_cases h0 : 0 ≤ h ∧ h ≤ (c : Int)
  · rw [if_pos h0]
    exact run_cut_h w t e s A n c ht hz k h h0.1 h0.2
  · rw [if_neg h0]
    exact run_slice_any w t A n c (by simp [Program.elem, ht]) _ _ _
end
set_option maxRecDepth 100000 in
@[go_sem high] theorem cut22_l (w : World) (A : Option Addr) (n c : Nat) (k : IntKind) (l : Int) : (Instr.slice 36 (.slice A n c) (some (.int k l)) none none).run Try.prog w = if 0 ≤ l ∧ l ≤ n then .ok (.slice (cutA A c l.toNat) (n - l.toNat) (c - l.toNat)) w else
    ((Instr.sliceBounds true n c (some (.int k l)) none none).run Try.prog w).andThen fun b w => ((sizeOf (Try.prog.elem 36)).run Try.prog w).andThen fun s w => .ok (sliced A b.1 b.2.1 b.2.2 s) w :=
  run_cut_l_if w 36 5 1 A n c Try.underlying36 size5 k l rfl
set_option maxRecDepth 100000 in
@[go_sem high] theorem cut22_h (w : World) (A : Option Addr) (n c : Nat) (k : IntKind) (h : Int) : (Instr.slice 36 (.slice A n c) none (some (.int k h)) none).run Try.prog w = if 0 ≤ h ∧ h ≤ c then .ok (.slice A h.toNat c) w else
    ((Instr.sliceBounds true n c none (some (.int k h)) none).run Try.prog w).andThen fun b w => ((sizeOf (Try.prog.elem 36)).run Try.prog w).andThen fun s w => .ok (sliced A b.1 b.2.1 b.2.2 s) w :=
  run_cut_h_if w 36 5 1 A n c Try.underlying36 size5 k h
set_option maxRecDepth 100000 in
@[go_sem high] theorem cut22_lh (w : World) (A : Option Addr) (n c : Nat) (k k' : IntKind) (l h : Int) (h0 : 0 ≤ l) (h1 : l ≤ h) (h2 : h ≤ c) : (Instr.slice 36 (.slice A n c) (some (.int k l)) (some (.int k' h)) none).run Try.prog w = .ok (.slice (cutA A c l.toNat) (h.toNat - l.toNat) (c - l.toNat)) w :=
  run_cut_lh w 36 5 1 A n c Try.underlying36 size5 k k' l h h0 h1 h2 rfl

/-! ### A slice of bytes that is read -/
def RB (w : World) (A : Option Addr) (n : Nat) (xs : List Int) : Prop :=
  xs.length = n ∧ Byts xs ∧ (0 < n → ∃ ad, A = some ad ∧ ∀ j, j < n → w.cell? (ad.add j) = some (.int .u8 (gi xs j)))

section
variable {w w' : World} {A : Option Addr} {n : Nat} {xs : List Int}
set_option maxRecDepth 100000 in
theorem RB.len (h : RB w A n xs) : xs.length = n := h.1
set_option maxRecDepth 100000 in
theorem RB.byts (h : RB w A n xs) : Byts xs := h.2.1
set_option maxRecDepth 100000 in
theorem RB.at_ (h : RB w A n xs) {k : Nat} (hk : k < n) : ∃ ad, A = some ad ∧ w.cell? (ad.add k) = some (.int .u8 (gi xs k)) := by
  obtain ⟨ad, e, hc⟩ := h.2.2 (by omega)
  exact ⟨ad, e, hc k hk⟩
set_option maxRecDepth 100000 in
theorem RB.plain (h : RB w A n xs) (hn : 0 < n) : ∃ b o, A = some ⟨b, o, none⟩ ∧ ∀ j, j < n → w.cell? ⟨b, o + j, none⟩ = some (.int .u8 (gi xs j)) := by
  obtain ⟨⟨b, o, sp⟩, e, hc⟩ := h.2.2 hn
  have hsp : sp = none := by
    have := World.cell?_spot (hc 0 hn)
    simpa [Addr.add] using this
  subst hsp
  exact ⟨b, o, e, fun j hj => by have := hc j hj; rwa [add_plain] at this⟩
set_option maxRecDepth 100000 in
theorem RB.nil (w : World) (A : Option Addr) : RB w A 0 [] := ⟨rfl, Byts.nil, fun h => absurd h (by omega)⟩
set_option maxRecDepth 100000 in
theorem RB.keep (h : RB w A n xs) (hk : ∀ (p : Addr) v, w.cell? p = some v → w'.cell? p = some v) : RB w' A n xs :=
  ⟨h.1, h.2.1, fun hn => by
    obtain ⟨ad, e, hc⟩ := h.2.2 hn
    exact ⟨ad, e, fun j hj => hk _ _ (hc j hj)⟩⟩
set_option maxRecDepth 100000 in
theorem RB.below (h : RB w A n xs) (hb : Below w.heap.size w w') : RB w' A n xs := h.keep fun p v hv => cell_later hb hv
set_option maxRecDepth 100000 in
theorem RB.drewN (h : RB w A n xs) (k : Nat) : RB (w.drewN k) A n xs := h
set_option maxRecDepth 100000 in
theorem RB.alloc (h : RB w A n xs) (o : Obj) : RB (w.alloc o) A n xs := h.below ((Below.refl _ _).alloc (Nat.le_refl _) o)
set_option maxRecDepth 100000 in
/-- where it lies, if there is a byte. -/
theorem RB.block (h : RB w A n xs) (hn : 0 < n) : ∃ ad, A = some ad ∧ ad.block < w.heap.size := by
  obtain ⟨ad, e, hc⟩ := h.2.2 hn
  exact ⟨ad, e, by have := World.block_lt_of_cell? w _ (hc 0 hn); rwa [block_of_add] at this⟩
set_option maxRecDepth 100000 in
theorem RB.grown (h : RB w A n xs) {row : Option Nat} (hg : w.grownBy w' row) (hne : ∀ ad, A = some ad → some ad.block ≠ row) : RB w' A n xs :=
  ⟨h.1, h.2.1, fun hn => by
    obtain ⟨ad, e, hc⟩ := h.2.2 hn
    exact ⟨ad, e, fun j hj => hg.cell (hc j hj) (by rw [block_of_add]; exact hne ad e)⟩⟩
set_option maxRecDepth 100000 in
/-- a cut at the front, 's[k:]'. -/
theorem RB.cut {c k : Nat} (h : RB w A n xs) (hk : k ≤ n) (hc : n ≤ c) : RB w (cutA A c k) (n - k) (xs.drop k) := by
  refine ⟨by rw [List.length_drop, h.1], h.2.1.drop k, fun hn => ?_⟩
  obtain ⟨ad, e, hcell⟩ := h.2.2 (by omega)
  refine ⟨_, cutA_some e (by omega), fun j hj => ?_⟩
  rw [add_of_add, gi_drop]
  exact hcell _ (by omega)
set_option maxRecDepth 100000 in
theorem RB.take {k : Nat} (h : RB w A n xs) (hk : k ≤ n) : RB w A k (xs.take k) := by
  refine ⟨by rw [List.length_take, h.1]; omega, h.2.1.take k, fun hn => ?_⟩
  obtain ⟨ad, rfl, hcell⟩ := h.2.2 (by omega)
  exact ⟨ad, rfl, fun j hj => by rw [gi_take hj]; exact hcell _ (by omega)⟩
set_option maxRecDepth 100000 in
theorem RB.mid {c l k : Nat} (h : RB w A n xs) (hlk : l ≤ k) (hk : k ≤ n) (hc : n ≤ c) : RB w (cutA A c l) (k - l) ((xs.take k).drop l) := (h.take hk).cut hlk (by omega)
set_option maxRecDepth 100000 in
theorem RB.cells (h : RB w A n xs) (ad : Addr) (hA : A = some ad) : ∀ j u, (bv xs)[j]? = some u → w.cell? (ad.add j) = some u := by
  intro j u hu
  obtain ⟨hj, rfl⟩ := bv_get hu
  have hl := h.1
  obtain ⟨ad', e, hc⟩ := h.2.2 (by omega)
  rw [hA] at e
  injection e with e
  subst e
  exact hc j (by omega)
set_option maxRecDepth 100000 in
theorem RB.congr {A' : Option Addr} {n' : Nat} {xs' : List Int} (h : RB w A n xs) (hA : A = A') (hn : n = n') (hx : xs = xs') : RB w A' n' xs' := by
  subst hA hn hx
  exact h
set_option maxRecDepth 100000 in
/-- Two readings of one slice are one. -/
theorem RB.unique {ys : List Int} (h : RB w A n xs) (h' : RB w A n ys) : xs = ys := by
  refine gi_ext (h.1.trans h'.1.symm) fun i hi => ?_
  have hl := h.1
  obtain ⟨ad, e, hc⟩ := h.at_ (k := i) (by omega)
  obtain ⟨ad', e', hc'⟩ := h'.at_ (k := i) (by omega)
  rw [e] at e'
  injection e' with e'
  subst e'
  rw [hc] at hc'
  injection hc' with hc'
  injection hc'
end

set_option maxRecDepth 100000 in
/-- an argument's slice of bytes, out of its reading as data. -/
theorem RB.of_row {w : World} {a : Option Addr} {len cap : Nat} {zs : List Int}
    (h : (a = none ∧ len = 0 ∧ cap = 0 ∧ zs = []) ∨ ∃ x, a = some x ∧ len ≤ cap ∧ cap ≤ maxLen ∧ zs.length = cap ∧ (∀ i, i < zs.length → w.cell? (x.add i) = some (.int .u8 (zs.getD i 0))) ∧ ∀ n ∈ zs, (Lit.int .u8 n).wf = true) :
    RB w a len (zs.take len) ∧ len ≤ cap := by
  rcases h with ⟨rfl, rfl, rfl, rfl⟩ | ⟨x, rfl, hl, _, hz, hc, hw⟩
  · exact ⟨RB.nil w none, Nat.le_refl _⟩
  · refine ⟨⟨by rw [List.length_take]; omega, fun z hz' => ?_, fun _ => ⟨x, rfl, fun j hj => ?_⟩⟩, hl⟩
    · have := hw z (List.mem_of_mem_take hz')
      simp [Lit.wf, IntKind.min, IntKind.max, IntKind.signed, IntKind.bits] at this
      omega
    · rw [gi_take hj]
      exact hc j (by omega)

/-! ### A region that draws its order: all but its end only reads -/
set_option maxRecDepth 100000 in
theorem still_tail {P : Program} {id : Nat} {Q : Exit → Act → World → Prop} {a : Act} {w : World} {l : List Oper} (n : Nat) (hm : P.follows .mixedOrders = true) (hB : Region.lexTailB .any l.toArray n = true)
    (h : wpStill P l.toArray w.drew (fun a' => wpList P l.toArray Q (l.drop n) a' w.drew) (l.take n) a) : (Code.region id l.toArray true).wp P Q a w := wp_region_still_tail n hm hB h
set_option maxRecDepth 100000 in
theorem still_of {P : Program} {f : FuncId} {args : Array Value} {w : World} {v : Value} (h : Calls P f args w fun e w' => e = .returned v ∧ w = w') : Calls P f args w fun e w' => e = .returned v ∧ w' = w :=
  h.mono fun _ _ ⟨h1, h2⟩ => ⟨h1, h2.symm⟩

set_option maxRecDepth 100000 in
theorem quiet_left {P : Program} {f : FuncId} {args : Array Value} {w : World} {n : Nat} {v : Value} (h : Calls P f args (w.drewN n) fun e w' => e = .returned v ∧ w.drewN n = w') :
    Calls P f args (w.drewN n) fun e w'' => e = .returned v ∧ ∃ m, w'' = w.drewN m := h.mono fun _ _ ⟨he, hm⟩ => ⟨he, n, hm.symm⟩
set_option maxRecDepth 100000 in
theorem quiet_add_left {P : Program} {f : FuncId} {args : Array Value} {w : World} {a n : Nat} {v : Value} (h : Calls P f args (w.drewN (a + n)) fun e w' => e = .returned v ∧ w.drewN (a + n) = w') :
    Calls P f args (w.drewN (a + n)) fun e w'' => e = .returned v ∧ ∃ m, w'' = w.drewN (a + m) := h.mono fun _ _ ⟨he, hm⟩ => ⟨he, n, hm.symm⟩
set_option maxRecDepth 100000 in
theorem quiet_some {P : Program} {f : FuncId} {args : Array Value} {w : World} {n : Nat} {v : Value} (h : Calls P f args (w.drewN n) fun e w' => e = .returned v ∧ ∃ q, (w.drewN n).drewN q = w') :
    Calls P f args (w.drewN n) fun e w'' => e = .returned v ∧ ∃ m, w'' = w.drewN m := h.mono fun _ _ ⟨he, q, hm⟩ => ⟨he, n + q, by rw [← hm, World.drewN_drewN]⟩
set_option maxRecDepth 100000 in
theorem quiet_add_some {P : Program} {f : FuncId} {args : Array Value} {w : World} {a n : Nat} {v : Value} (h : Calls P f args (w.drewN (a + n)) fun e w' => e = .returned v ∧ ∃ q, (w.drewN (a + n)).drewN q = w') :
    Calls P f args (w.drewN (a + n)) fun e w'' => e = .returned v ∧ ∃ m, w'' = w.drewN (a + m) := h.mono fun _ _ ⟨he, q, hm⟩ => ⟨he, n + q, by rw [← hm, World.drewN_drewN, Nat.add_assoc]⟩

/-! ### Strings of bytes -/
set_option maxRecDepth 100000 in
theorem strOfNums_inj {xs ys : List Int} (hx : Byts xs) (hy : Byts ys) (h : strOfNums xs = strOfNums ys) : xs = ys := by
  have h1 : xs.map (fun n => UInt8.ofNat n.toNat) = ys.map (fun n => UInt8.ofNat n.toNat) := by
    have := congrArg (fun s : ByteArray => s.data.toList) h
    simpa [strOfNums_data] using this
  have hl : xs.length = ys.length := by simpa using congrArg List.length h1
  refine List.ext_getElem hl fun i h2 h3 => ?_
  have h4 : (xs.map (fun n => UInt8.ofNat n.toNat))[i]? = (ys.map (fun n => UInt8.ofNat n.toNat))[i]? := by rw [h1]
  simp [h2, h3] at h4
  have hxi := hx _ (List.getElem_mem h2)
  have hyi := hy _ (List.getElem_mem h3)
  have h5 := congrArg UInt8.toNat h4
  simp at h5
  omega
section
variable {P : Program} {w : World} {A : Option Addr} {n : Nat} {xs : List Int}
set_option maxRecDepth 100000 in
theorem run_string_RB (h : RB w A n xs) (src e dst : TypeId) (c : Nat) (hs : P.underlying src = some (.slice e)) (he : P.underlying e = some (.int .u8)) (hd : P.underlying dst = some .string) :
    (convert src dst (.slice A n c)).run P w = .ok (.string (strOfNums xs)) w := by
  have hl := h.1
  rcases Nat.eq_zero_or_pos n with h0 | h0
  · subst h0
    have hx : xs = [] := List.eq_nil_of_length_eq_zero hl
    subst hx
    cases A with
    | none => exact run_convert_bytes_nil w src e hs he 0 c dst hd
    | some a =>
      rw [run_convert_bytes_string w src dst e _ 0 c hs he hd]
      have hl0 : (loadCells a 0).run P w = .ok #[] w := by simpa using run_loadCells_list (P := P) w a [] (fun j v hj => by simp at hj)
      simp [Conv.bytesToString, hl0, strOfNums]
      rfl
  · obtain ⟨ad, rfl, hc⟩ := h.2.2 h0
    obtain ⟨b, off, sp⟩ := ad
    have hsp : sp = none := by
      have := World.cell?_spot (hc 0 h0)
      simpa [Addr.add] using this
    subst hsp
    exact run_convert_bytes_arg w src e hs he b off n c xs hl (fun i hi => by have := hc i hi; rw [add_plain] at this; exact this) dst hd
end

/-! ### A block known whole -/
def Blk (w : World) (g : Nat) (t : TypeId) (cs : Array Value) : Prop := w.heap[g]? = some (.cells cs t (0, 0))

section
variable {w w' : World} {g : Nat} {t : TypeId} {cs : Array Value}
set_option maxRecDepth 100000 in
theorem Blk.lt (h : Blk w g t cs) : g < w.heap.size := by
  rcases Nat.lt_or_ge g w.heap.size with hlt | hge
  · exact hlt
  · unfold Blk at h; rw [Array.getElem?_eq_none hge] at h; cases h
set_option maxRecDepth 100000 in
theorem Blk.cell (h : Blk w g t cs) (i : Nat) : w.cell? ⟨g, i, none⟩ = cs[i]? := cell_of_row w g i cs t (0, 0) h
set_option maxRecDepth 100000 in
theorem Blk.frozen (h : Blk w g t cs) (i : Nat) : w.frozen? ⟨g, i, none⟩ = false := by
  unfold Blk at h
  simp [World.frozen?, h]
set_option maxRecDepth 100000 in
theorem Blk.new (w : World) (t : TypeId) (cs : Array Value) : Blk (w.alloc (.cells cs t)) w.heap.size t cs := heap_alloc_new w _
set_option maxRecDepth 100000 in
theorem Blk.drew (h : Blk w g t cs) : Blk w.drew g t cs := h
set_option maxRecDepth 100000 in
theorem Blk.drewN (h : Blk w g t cs) (n : Nat) : Blk (w.drewN n) g t cs := h
set_option maxRecDepth 100000 in
theorem Blk.alloc (h : Blk w g t cs) (o : Obj) : Blk (w.alloc o) g t cs := (Below.heap_alloc w o g h.lt).trans h
set_option maxRecDepth 100000 in
theorem Blk.set_ (h : Blk w g t cs) (i : Nat) (u : Value) : Blk (w.setCell ⟨g, i, none⟩ u) g t (cs.setIfInBounds i u) := by
  unfold Blk at h ⊢
  simp [World.setCell, Array.getElem?_modify, h]
set_option maxRecDepth 100000 in
theorem Blk.far (h : Blk w g t cs) {p : Addr} (hp : g ≠ p.block) (u : Value) : Blk (w.setCell p u) g t cs := (Below.heap_setCell w p u g hp).trans h
set_option maxRecDepth 100000 in
theorem Blk.below {B : Nat} (h : Blk w g t cs) (hb : Below B w w') (hg : g < B) : Blk w' g t cs := (hb.block g hg).trans h
set_option maxRecDepth 100000 in
theorem Blk.grown {row : Option Nat} (h : Blk w g t cs) (hb : w.grownBy w' row) (hg : some g ≠ row) : Blk w' g t cs := (hb.block g h.lt hg).trans h
set_option maxRecDepth 100000 in
theorem Blk.ne_ {g' : Nat} {t' : TypeId} {cs' : Array Value} (h : Blk w g t cs) (h' : Blk w g' t' cs') (hne : t ≠ t') : g ≠ g' := by
  rintro rfl
  unfold Blk at h h'
  rw [h] at h'
  injection h' with h'
  injection h' with _ ht
  exact hne ht
end

/-! ### A whole array or struct loaded from, or stored into, a block of its own; fast to fail where it doesn't fit -/
def isRow : TypeDesc → Bool
  | .struct _ => true
  | .array _ _ => true
  | _ => false
set_option maxRecDepth 100000 in
theorem ld_row {ops : Array Oper} {rest : List Oper} {dst : Option Tmp} {t2 : TypeId} {pos : String} {af : Array Edge} {a : Act} {w : World} {Q : Exit → Act → World → Prop} (ty : TypeId) (x : Tmp)
    (g : Nat) (t : TypeId) (cs : Array Value) (d : TypeDesc) (hx : a.eval (.tmp x) = .pointer (some ⟨g, 0, none⟩)) (hg : Blk w g t cs)
    (hu : Try.prog.underlying ty = some d) (hd : isRow d = true) (hi : (Try.prog.info? ty).map (·.size) = some cs.size)
    (h : wpList Try.prog ops Q rest (a.put dst (.agg cs)) w) : wpList Try.prog ops Q (⟨dst, .load ty (.tmp x), t2, pos, af, none⟩ :: rest) a w :=
  wpList_load_row rfl ty (.tmp x) rfl g hx t cs (0, 0) d hg hu (by cases d <;> first | rfl | (simp [isRow] at hd)) hi h
set_option maxRecDepth 100000 in
theorem st_row {ops : Array Oper} {rest : List Oper} {dst : Option Tmp} {t2 : TypeId} {pos : String} {af : Array Edge} {a : Act} {w : World} {Q : Exit → Act → World → Prop} (ty : TypeId) (x y : Tmp)
    (g : Nat) (t : TypeId) (cs old : Array Value) (hx : a.eval (.tmp x) = .pointer (some ⟨g, 0, none⟩)) (hy : a.eval (.tmp y) = .agg cs) (hg : Blk w g t old)
    (hi : (Try.prog.info? ty).map (·.size) = some cs.size) (hold : old.size = cs.size) (h1 : cs.all (·.oneCell') = true)
    (h : ∀ w', Blk w' g t cs → w.grownBy w' (some g) → w'.heap.size = w.heap.size → wpList Try.prog ops Q rest (a.put dst undef) w') : wpList Try.prog ops Q (⟨dst, .store ty (.tmp x) (.tmp y), t2, pos, af, none⟩ :: rest) a w := by
  refine wpList_store_row rfl ty (.tmp x) (.tmp y) rfl g cs hx hy t old hg hi hold h1 (h _ ?_ ?_ (by simp))
  · exact setRow_heap w g old cs t (0, 0) hg
  · exact ⟨rfl, rfl, rfl, by simp, fun k _ hk => setRow_other w g k _ (fun e => hk (by rw [e]))⟩

set_option maxRecDepth 100000 in
/-- a result that lies in a cell of its own. -/
theorem ret_row {fn : Func} {R : Ending → World → Prop} {a : Act} {w : World} (p : Tmp) (ty : TypeId) (g : Nat) (t : TypeId) (cs : Array Value) (d : TypeDesc) (hr : fn.results = #[.cell p ty]) (hp : a.tmps.getD p undef = .pointer (some ⟨g, 0, none⟩)) (hg : Blk w g t cs)
    (hu : Try.prog.underlying ty = some d) (hd : isRow d = true) (hi : (Try.prog.info? ty).map (·.size) = some cs.size) (hdf : a.defers = []) (hR : R (.returned (.agg cs)) w) : bodyPost Try.prog fn R .ret a w :=
  bodyPost_ret (results_cell_row hr _ w g t cs (0, 0) d hp hg hu (by cases d <;> first | rfl | (simp [isRow] at hd)) hi) hdf hR

/-! ### A row of bytes of the call's own -/
def OB (w : World) (base : Nat) (v : Value) (n : Nat) (xs : List Int) : Prop := w.ownsRow base 5 1 v n (bv xs) ∧ Byts xs

section
variable {w w' : World} {base : Nat} {v : Value} {n : Nat} {xs : List Int}
set_option maxRecDepth 100000 in
theorem OB.len (h : OB w base v n xs) : xs.length = n := by
  have := h.1.1
  rw [bv_length] at this
  omega
set_option maxRecDepth 100000 in
theorem OB.nil (w : World) (base : Nat) : OB w base (.slice none 0 0) 0 [] := ⟨World.ownsRow_nil w base 5 1, Byts.nil⟩
set_option maxRecDepth 100000 in
theorem OB.kept (h : OB w base v n xs) {row : Option Nat} (hg : w.grownBy w' row) (hne : v.ownBlock = none ∨ v.ownBlock ≠ row) : OB w' base v n xs := ⟨h.1.kept hg hne, h.2⟩
set_option maxRecDepth 100000 in
theorem OB.alloc (h : OB w base v n xs) (o : Obj) : OB (w.alloc o) base v n xs := ⟨h.1.alloc o, h.2⟩
set_option maxRecDepth 100000 in
theorem grown_below (h : Below w.heap.size w w') (row : Option Nat) : w.grownBy w' row := ⟨h.os, h.tape, h.output, h.size, fun i hi _ => h.block i hi⟩
set_option maxRecDepth 100000 in
theorem OB.below (h : OB w base v n xs) (hb : Below w.heap.size w w') : OB w' base v n xs := h.kept (grown_below hb none) (by cases v.ownBlock <;> simp)
set_option maxRecDepth 100000 in
theorem OB.drewN (h : OB w base v n xs) (k : Nat) : OB (w.drewN k) base v n xs := h.below ⟨rfl, rfl, rfl, Nat.le_refl _, fun _ _ => rfl⟩
set_option maxRecDepth 100000 in
theorem OB.lower {base' : Nat} (h : OB w base v n xs) (hb : base' ≤ base) : OB w base' v n xs := by
  refine ⟨⟨h.1.1, ?_⟩, h.2⟩
  rcases h.1.2 with h0 | ⟨g, cap, cur, h1, h2, h3⟩
  · exact .inl h0
  · exact .inr ⟨g, cap, cur, h1, Nat.le_trans hb h2, h3⟩
set_option maxRecDepth 100000 in
/-- The shape of what is owned: where it lies, what its block holds. -/
theorem OB.form (h : OB w base v n xs) : (v = .slice none 0 0 ∧ n = 0 ∧ xs = []) ∨ ∃ g cap cur, v = .slice (some ⟨g, 0, none⟩) n cap ∧ base ≤ g ∧ g < w.heap.size ∧ n ≤ cap ∧ cap ≤ maxLen ∧ Blk w g 5 cur ∧ cur.size = cap ∧ cur.toList.take n = bv xs := by
  have hl := h.len
  rcases h.1.2 with ⟨h0, h1⟩ | ⟨g, cap, cur, h1, h2, h3, h4, h5, h6, h7⟩
  · subst h1
    exact .inl ⟨h0, rfl, List.eq_nil_of_length_eq_zero hl⟩
  · exact .inr ⟨g, cap, cur, h1, h2, (Array.getElem?_eq_some_iff.1 h3).1, h4, h5, h3, by omega, by rw [Nat.mul_one] at h7; exact h7⟩
set_option maxRecDepth 100000 in
theorem OB.of_blk {g cap : Nat} {cur : Array Value} (hb : base ≤ g) (h : Blk w g 5 cur) (hn : n ≤ cap) (hc : cap ≤ maxLen) (hs : cur.size = cap) (hx : cur.toList.take n = bv xs) (hB : Byts xs) :
    OB w base (.slice (some ⟨g, 0, none⟩) n cap) n xs := by
  refine ⟨⟨?_, .inr ⟨g, cap, cur, rfl, hb, h, hn, hc, by omega, by rw [Nat.mul_one]; exact hx⟩⟩, hB⟩
  have := congrArg List.length hx
  simp at this
  rw [← this]
  omega
set_option maxRecDepth 100000 in
theorem OB.slice (h : OB w base v n xs) : ∃ A c, v = .slice A n c ∧ n ≤ c := by
  rcases h.form with ⟨rfl, rfl, _⟩ | ⟨g, cap, cur, rfl, _, _, hc, _⟩
  · exact ⟨none, 0, rfl, Nat.le_refl _⟩
  · exact ⟨_, cap, rfl, hc⟩
set_option maxRecDepth 100000 in
theorem OB.own (h : OB w base v n xs) : ∀ k, v.ownBlock = some k → base ≤ k ∧ k < w.heap.size := h.1.lt
set_option maxRecDepth 100000 in
theorem OB.max (h : OB w base v n xs) : n ≤ 9223372036854775807 := by
  rcases h.form with ⟨_, rfl, _⟩ | ⟨g, cap, cur, rfl, _, _, hc, hm, _⟩
  · omega
  · simp only [maxLen] at hm
    omega
set_option maxRecDepth 100000 in
/-- what is owned is read. -/
theorem OB.reads {A : Option Addr} {c : Nat} (h : OB w base (.slice A n c) n xs) : RB w A n xs := by
  refine ⟨h.len, h.2, fun hn => ?_⟩
  rcases h.form with ⟨h0, h1, _⟩ | ⟨g, cap, cur, hv, _, _, hc, _, hb, hs, ht⟩
  · omega
  · injection hv with hA
    subst hA
    refine ⟨_, rfl, fun j hj => ?_⟩
    rw [add_plain, Nat.zero_add, hb.cell]
    have hlen := h.len
    have h1 : (bv xs)[j]? = some (.int .u8 (gi xs j)) := bv_some (by omega)
    rw [← ht, List.getElem?_take, if_pos hj] at h1
    simpa using h1
set_option maxRecDepth 100000 in
/-- It owns less: a cut at the end. -/
theorem OB.cutEnd {A : Option Addr} {c k : Nat} (h : OB w base (.slice A n c) n xs) (hk : k ≤ n) : OB w base (.slice A k c) k (xs.take k) := by
  rcases h.form with ⟨h0, h1, h2⟩ | ⟨g, cap, cur, hv, hb, _, hc, hm, hB, hs, ht⟩
  · injection h0 with hA _ hc
    subst hA h1 h2
    obtain rfl : k = 0 := by omega
    rw [hc]
    simpa using OB.nil w base
  · injection hv with hA _ hcc
    subst hA hcc
    refine OB.of_blk hb hB (by omega) hm hs ?_ (h.2.take k)
    have : (cur.toList.take n).take k = (bv xs).take k := by rw [ht]
    rw [List.take_take, Nat.min_eq_left hk] at this
    rw [this]
    simp [bv]
end
set_option maxRecDepth 100000 in
theorem own_apart {wa wb : World} {ba : Nat} {v v' : Value} {n m : Nat} {xs ys : List Int} (h : OB wa ba v n xs) (h' : OB wb wa.heap.size v' m ys) : v'.ownBlock = none ∨ v'.ownBlock ≠ v.ownBlock := by
  cases e' : v'.ownBlock with
  | none => exact .inl rfl
  | some k' =>
    refine .inr fun e => ?_
    have h1 := h'.own k' e'
    have h2 := h.own k' e.symm
    omega
set_option maxRecDepth 100000 in
theorem own_apart' {wa wb : World} {ba : Nat} {v v' : Value} {n m : Nat} {xs ys : List Int} (h : OB wa ba v n xs) (h' : OB wb wa.heap.size v' m ys) : v.ownBlock = none ∨ v.ownBlock ≠ v'.ownBlock := by
  cases e : v.ownBlock with
  | none => exact .inl rfl
  | some k =>
    refine .inr fun e' => ?_
    have h1 := h'.own k e'.symm
    have h2 := h.own k e
    omega
set_option maxRecDepth 100000 in
theorem drewN_below (w : World) (n : Nat) : Below w.heap.size w (w.drewN n) := ⟨rfl, rfl, rfl, Nat.le_refl _, fun _ _ => rfl⟩
set_option maxRecDepth 100000 in
theorem below_drewN {B : Nat} {a w : World} (h : Below B a w) (n : Nat) : Below B a (w.drewN n) := ⟨h.os, h.tape, h.output, h.size, h.block⟩
set_option maxRecDepth 100000 in
theorem below_then {B : Nat} {w w1 w2 : World} (h : Below B w w1) (hB : B ≤ w1.heap.size) (k : Below w1.heap.size w1 w2) : Below B w w2 := h.trans (k.mono hB)
set_option maxRecDepth 100000 in
theorem below_two {w w1 w2 : World} (h : Below w.heap.size w w1) (k : Below w1.heap.size w1 w2) : Below w.heap.size w w2 := below_then h h.size k

/-! ### append onto a row of bytes of the call's own -/
section
variable {P : Program} (w : World)
set_option maxRecDepth 100000 in
theorem run_append_of_nil (base : Nat) (t ty e : TypeId) (i : TypeInfo) (size : Nat) (ht : P.underlying t = some (.slice e)) (hi : P.info? e = some i)
    (v : Value) (n : Nat) (xs : List Value) (hown : w.ownsRow base e size v n xs) (c : Nat) : (Builtin.append_ #[t, t] ty #[v, .slice none 0 c]).run P w = .ok v w := by
  rcases hown.2 with ⟨rfl, rfl⟩ | ⟨g, cap, cur, rfl, _, _, hnc, _⟩
  · simp [Builtin.append_, run_underlying ht, sizeOf, typeInfo, hi, Builtin.lenOf, Builtin.firstCells]
  · simp [Builtin.append_, run_underlying ht, sizeOf, typeInfo, hi, Builtin.lenOf, Builtin.firstCells, hnc, storeCells]

/-- The source: cells that are read, whatever the address where there is none. -/
def Src (w : World) (size : Nat) (A : Option Addr) (m : Nat) (news : List Value) : Prop := news.length = m * size ∧ (0 < m → ∃ ad, A = some ad ∧ ∀ j u, news[j]? = some u → w.cell? (ad.add j) = some u)

set_option maxRecDepth 100000 in
theorem run_append_any (base : Nat) (t ty e : TypeId) (i : TypeInfo) (z : Value) (size bytes : Nat) (ht : P.underlying t = some (.slice e)) (hi : P.info? e = some i) (hz : i.zero = some z)
    (hsize : i.size = size) (hby : i.bytes = bytes) (hzs : z.cells.size = size) (hsz : 0 < size)
    (v : Value) (n : Nat) (xs : List Value) (hown : w.ownsRow base e size v n xs)
    (A : Option Addr) (m c : Nat) (news : List Value) (hr : Src w size A m news) (h1 : ∀ u ∈ news, u.oneCell' = true)
    (h63 : n + m ≤ maxLen) (hbytes : (n + m) * bytes ≤ 140737488355328) (hbase : base ≤ w.heap.size) :
    ∃ v' w', (Builtin.append_ #[t, t] ty #[v, .slice A m c]).run P w = .ok v' w' ∧ w'.ownsRow base e size v' (n + m) (xs ++ news) ∧ w.grownBy w' v.ownBlock ∧
      (v'.ownBlock = v.ownBlock ∨ v'.ownBlock = some w.heap.size) := by
  rcases A with _ | ad
  · have hm : m = 0 := by
      rcases Nat.eq_zero_or_pos m with h0 | h0
      · exact h0
      · obtain ⟨ad, h, _⟩ := hr.2 h0
        cases h
    subst hm
    have hn : news = [] := List.eq_nil_of_length_eq_zero (by simpa using hr.1)
    subst hn
    exact ⟨v, w, run_append_of_nil w base t ty e i size ht hi v n xs hown c, by simpa using hown, World.grownBy.refl w _, .inl rfl⟩
  · have hcells : ∀ j u, news[j]? = some u → w.cell? (ad.add j) = some u := by
      intro j u hu
      rcases Nat.eq_zero_or_pos m with h0 | h0
      · subst h0
        have hn : news = [] := List.eq_nil_of_length_eq_zero (by simpa using hr.1)
        subst hn
        simp at hu
      · obtain ⟨ad', h, hc⟩ := hr.2 h0
        injection h with h
        subst h
        exact hc j u hu
    obtain ⟨v', w', hrun, h2, h3, _, h5⟩ := run_append_own_at (P := P) w base t ty e i z size bytes ht hi hz hsize hby hzs hsz v n xs hown ad m c news hr.1 hcells h1 h63 hbytes hbase
    exact ⟨v', w', hrun, h2, h3, h5⟩

set_option maxRecDepth 100000 in
theorem wp_append_any {o : Oper} {a : Act} {K : Act → World → Prop} {Q : Exit → Act → World → Prop} (s x : Operand) (t : TypeId)
    (ho : o.op = .call { callee := .builtin .append, args := #[s, x], argTypes := #[t, t] })
    (base : Nat) (e : TypeId) (i : TypeInfo) (z : Value) (size bytes : Nat) (ht : P.underlying t = some (.slice e)) (hi : P.info? e = some i) (hz : i.zero = some z)
    (hsize : i.size = size) (hby : i.bytes = bytes) (hzs : z.cells.size = size) (hsz : 0 < size)
    (v : Value) (n : Nat) (xs : List Value) (hs : a.eval s = v) (hown : w.ownsRow base e size v n xs)
    (A : Option Addr) (m c : Nat) (news : List Value) (hx : a.eval x = .slice A m c) (hr : Src w size A m news) (h1 : ∀ u ∈ news, u.oneCell' = true)
    (h63 : n + m ≤ maxLen) (hbytes : (n + m) * bytes ≤ 140737488355328) (hbase : base ≤ w.heap.size)
    (h : ∀ v' w', w'.ownsRow base e size v' (n + m) (xs ++ news) → w.grownBy w' v.ownBlock → (v'.ownBlock = v.ownBlock ∨ v'.ownBlock = some w.heap.size) → K (a.put o.dst v') w') : o.wp P a w K Q := by
  obtain ⟨v', w', hrun, h2, h3, h4⟩ := run_append_any (P := P) w base t o.type e i z size bytes ht hi hz hsize hby hzs hsz v n xs hown A m c news hr h1 h63 hbytes hbase
  unfold Oper.wp execOp
  simp only [ho, resolve, invoke, builtin, Sem.run_bind, Sem.run_pure, Result.andThen_ok, List.map_toArray, List.map_cons, List.map_nil, hs, hx, hrun]
  exact h v' w' h2 h3 h4
end

set_option maxRecDepth 100000 in
theorem RB.src {w : World} {A : Option Addr} {n : Nat} {xs : List Int} (h : RB w A n xs) : Src w 1 A n (bv xs) :=
  ⟨by rw [bv_length, h.1]; omega, fun hn => by
    obtain ⟨ad, e, _⟩ := h.2.2 hn
    exact ⟨ad, e, h.cells ad e⟩⟩

set_option maxRecDepth 100000 in
/-- the row of the table for a byte. -/
theorem byteInfo : (Try.prog.info? 5).map (fun i => (i.zero, i.size, i.bytes)) = some (some (.int .u8 0), 1, 1) := by kernel_rfl

set_option maxRecDepth 100000 in
/-- 'append' of bytes, its slots named: what comes of it. -/
theorem wpList_app {ops : Array Oper} {rest : List Oper} {o : Oper} {a : Act} {Q : Exit → Act → World → Prop} {w : World} (hgd : o.guard = none) (s x : Operand)
    (ho : o.op = .call { callee := .builtin .append, args := #[s, x], argTypes := #[36, 36] })
    (base : Nat) (v : Value) (n : Nat) (xs : List Int) (hs : a.eval s = v) (hown : OB w base v n xs)
    (A : Option Addr) (m c : Nat) (ys : List Int) (hx : a.eval x = .slice A m c) (hr : RB w A m ys)
    (h47 : n + m ≤ 140737488355328) (hbase : base ≤ w.heap.size)
    (h : ∀ v' w', OB w' base v' (n + m) (xs ++ ys) → w.grownBy w' v.ownBlock → (v'.ownBlock = v.ownBlock ∨ v'.ownBlock = some w.heap.size) → wpList Try.prog ops Q rest (a.put o.dst v') w') : wpList Try.prog ops Q (o :: rest) a w := by
  obtain ⟨i0, hi, hz0, hz1, hz2⟩ := info_parts byteInfo
  exact wpList_plain hgd fun _ hK => wp_append_any w s x 36 ho base 5 i0 _ 1 1 Try.underlying36 hi hz0 hz1 hz2 rfl (by omega) v n (bv xs) hs hown.1 A m c (bv ys) hx hr.src (bv_one ys)
    (by simp only [maxLen]; omega) (by omega) hbase fun v' w' h2 h3 h4 => hK _ _ (h v' w' ⟨by rw [bv_append]; exact h2, hown.2.append hr.2.1⟩ h3 h4)
end Go.Proofs.Ytokamaogognjoaa
