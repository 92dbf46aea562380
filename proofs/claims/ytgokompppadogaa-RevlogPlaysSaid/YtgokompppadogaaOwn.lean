/-
  trestlehelp.Own, Kept, Plain, Same of bytes.
-/
import Derived.Test.YtgokompppadogaaBytesB
set_option linter.unusedVariables false
set_option linter.unusedSimpArgs false
namespace Go.Proofs.Ytgokompppadogaa
open Go.RowKit

/-- a copy with spare room behind it. -/
def OwnB (w : World) (B g n : Nat) (xs : List Int) (f : Int) : Prop := B ≤ g ∧ xs.length = n ∧ Blk w g 5 (bv (xs ++ [f, f, f])).toArray
def OwnPost (n : Nat) (xs : List Int) (f : Int) (w : World) (e : Ending) (w' : World) : Prop := ∃ g, e = .returned (.slice (some ⟨g, 0, none⟩) n (n + 3)) ∧ OwnB w' w.heap.size g n xs f ∧ Below w.heap.size w w'

/-- 'append' that fits: the row stays where it is. -/
theorem wpList_appfit {ops : Array Oper} {rest : List Oper} {o : Oper} {a : Act} {Q : Exit → Act → World → Prop} {w : World} (hgd : o.guard = none) (s x : Operand)
    (ho : o.op = .call { callee := .builtin .append, args := #[s, x], argTypes := #[29, 29] })
    (base g k cap : Nat) (xs : List Int) (hs : a.eval s = .slice (some ⟨g, 0, none⟩) k cap) (hown : OB w base (.slice (some ⟨g, 0, none⟩) k cap) k xs)
    (A : Option Addr) (m c : Nat) (ys : List Int) (hx : a.eval x = .slice A m c) (hr : RB w A m ys) (b1 : k + m ≤ cap)
    (h : ∀ w', OB w' base (.slice (some ⟨g, 0, none⟩) (k + m) cap) (k + m) (xs ++ ys) → w.grownBy w' (some g) → wpList Try.prog ops Q rest (a.put o.dst (.slice (some ⟨g, 0, none⟩) (k + m) cap)) w') : wpList Try.prog ops Q (o :: rest) a w := by
  obtain ⟨i0, hi, hz0, hz1, hz2⟩ := info_parts byteInfo
  cases A with
  | none =>
    have hm : m = 0 := by
      rcases Nat.eq_zero_or_pos m with h0 | h0
      · exact h0
      · obtain ⟨ad, h, _⟩ := hr.2.2 h0
        cases h
    subst hm
    have hy : ys = [] := List.eq_nil_of_length_eq_zero hr.1
    subst hy
    refine wpList_plain hgd fun K hK' => ?_
    have hrun := run_append_of_nil (P := Try.prog) w base 29 o.type 5 i0 1 Try.underlying29 hi _ k (bv xs) hown.1 c
    unfold Oper.wp execOp
    simp only [ho, resolve, invoke, builtin, Sem.run_bind, Sem.run_pure, Result.andThen_ok, List.map_toArray, List.map_cons, List.map_nil, hs, hx, hrun]
    exact hK' _ _ (h w (by simpa using hown) (World.grownBy.refl w _))
  | some ad =>
    exact wpList_append_fits w hgd s x 29 ho base 5 i0 1 Try.underlying29 hi hz1 g k cap (bv xs) hs hown.1 ad m c (bv ys) hx hr.src.1 (hr.cells ad rfl) (bv_one ys) b1
      fun w' h2 h3 => h w' ⟨by rw [bv_append]; exact h2, hown.2.append hr.2.1⟩ h3

def FillB (w : World) (g n k : Nat) (xs : List Int) (f : Int) : Prop := ∃ cur, Blk w g 5 cur ∧ cur.size = n + 3 ∧ cur.toList.take (n + k) = bv (xs ++ List.replicate k f)
theorem FillB.step {w : World} {g n k : Nat} {xs : List Int} {f : Int} (h : FillB w g n k xs f) (hl : xs.length = n) (hk : k < 3) : FillB (w.setCell ⟨g, n + k, none⟩ (.int .u8 f)) g n (k + 1) xs f := by
  obtain ⟨cur, h1, h2, h3⟩ := h
  refine ⟨_, h1.set_ (n + k) _, by simpa using h2, ?_⟩
  rw [Array.toList_setIfInBounds, ← Nat.add_assoc, List.take_succ_eq_append_getElem (by simp; omega), List.getElem_set_self, List.take_set_of_le (Nat.le_refl _), h3, List.replicate_succ', ← List.append_assoc, bv_append (xs ++ _)]
  rfl
theorem FillB.cell {w : World} {g n k : Nat} {xs : List Int} {f : Int} (h : FillB w g n k xs f) (hk : k < 3) : ∃ v, w.cell? ⟨g, n + k, none⟩ = some v := by
  obtain ⟨cur, h1, h2, h3⟩ := h
  refine ⟨cur[n + k]'(by omega), ?_⟩
  rw [h1.cell]
  exact Array.getElem?_eq_getElem _
theorem FillB.frozen {w : World} {g n k : Nat} {xs : List Int} {f : Int} (h : FillB w g n k xs f) (i : Nat) : w.frozen? ⟨g, i, none⟩ = false := by
  obtain ⟨cur, h1, h2, h3⟩ := h
  exact h1.frozen i
theorem FillB.full {w : World} {g n : Nat} {xs : List Int} {f : Int} (h : FillB w g n 3 xs f) : Blk w g 5 (bv (xs ++ [f, f, f])).toArray := by
  obtain ⟨cur, h1, h2, h3⟩ := h
  rw [List.take_of_length_le (by simp; omega)] at h3
  have : (bv (xs ++ [f, f, f])).toArray = cur := by
    apply Array.ext'
    rw [h3]
    rfl
  rw [this]
  exact h1

set_option maxHeartbeats 1000000 in
theorem own_any (A : Option Addr) (n c : Nat) (xs : List Int) (f : Int) (w : World) (h : RB w A n xs) (hn : n ≤ 1000000000) (f0 : 0 ≤ f) (f1 : f ≤ 255) :
    Calls Try.prog 16 #[.slice A n c, .int .u8 f] w (OwnPost n xs f w) := by
  have hmk : ∀ W : World, (Instr.makeSlice 29 (.int .i64 0) (.int .i64 ((n : Int) + 3))).run Try.prog W = .ok (.slice (some ⟨W.heap.size, 0, none⟩) 0 (n + 3)) (W.alloc (.cells (bv (List.replicate (n + 3) 0)).toArray 5)) := fun W => make_bytes W .i64 .i64 0 (n + 3) (by omega) (by omega)
  have hob := OB.made w w.heap.size 0 (n + 3) (Nat.le_refl _) (by omega) (by omega)
  have hb0 : Below w.heap.size w (w.alloc (.cells (bv (List.replicate (n + 3) 0)).toArray 5)) := (Below.refl _ _).alloc (Nat.le_refl _) _
  have hl := h.len
  go_enter Try.func16, Try.ntmps16
  go_wp2_with (at_builtin; refine wpList_appfit rfl (.tmp 12) (.tmp 13) rfl w.heap.size w.heap.size 0 (n + 3) [] rfl hob A n c xs rfl (h.alloc _) (by omega) ?_)
  intro w1 ho1 hg1
  have hb1 := hb0.grown hg1 (by simp) (fun k hk => by cases hk; exact Nat.le_refl _)
  have hF : FillB w1 w.heap.size n 0 xs f := by
    rcases ho1.form with ⟨h0, h1, h2⟩ | ⟨g, cap, cur, hv, hgb, _, hc, hm, hB, hs, ht⟩
    · cases h0
    · injection hv with hA _ hcc
      injection hA with hA
      injection hA with hA _ _
      subst hA hcc
      exact ⟨cur, hB, hs, by simpa using ht⟩
  clear ho1 hg1 hob hb0
  have e1 : ((n : Int) + 3).toNat = n + 3 := by omega
  go_wp2
  go_loopw [7] (fun i wr => ∃ k : Nat, k ≤ 3 ∧ i = .int .i64 ((n : Int) + k) ∧ FillB wr w.heap.size n k xs f ∧ Below w.heap.size w wr) (fun i _ => n + 3 - (intOf i).toNat)
  case atStart => exact ⟨0, by omega, by simp, hF, hb1⟩
  case round =>
    obtain ⟨k, hk, rfl, hF, hb⟩ := hrel
    by_cases h1 : k < 3
    · obtain ⟨cv, hcv⟩ := hF.cell h1
      have hfz := hF.frozen (n + k)
      have hst := hF.step hl h1
      have n1 : ((n : Int) + k).toNat = n + k := by omega
      have n2 : (0 : Int) ≤ (n : Int) + k := by omega
      have n3 : (n : Int) + k < n + 3 := by omega
      go_wp2
      go_roundw
      case rel => exact ⟨k + 1, by omega, by congr 1, hst, hb.setCell (p := ⟨w.heap.size, n + k, none⟩) (Nat.le_refl _) _⟩
      case measure => simp [intOf]; omega
    · have hk3 : k = 3 := by omega
      rw [hk3] at hF
      have n3 : ¬ ((n : Int) + k < n + 3) := by omega
      go_wp2
      go_ret
      exact ⟨w.heap.size, rfl, ⟨Nat.le_refl _, hl, hF.full⟩, hb⟩
theorem OwnB.reads {w : World} {B g n : Nat} {xs : List Int} {f : Int} (h : OwnB w B g n xs f) (hB : Byts xs) : RB w (some ⟨g, 0, none⟩) n xs := by
  refine ⟨h.2.1, hB, fun _ => ⟨_, rfl, fun j hj => ?_⟩⟩
  rw [add_plain, Nat.zero_add, h.2.2.cell, List.getElem?_toArray, bv_some (by rw [List.length_append, h.2.1]; omega), gi_append_left (by rw [h.2.1]; exact hj)]
theorem OwnB.spare {w : World} {B g n : Nat} {xs : List Int} {f : Int} (h : OwnB w B g n xs f) (k : Nat) (hk : k < 3) : w.cell? ⟨g, n + k, none⟩ = some (.int .u8 f) := by
  have hl := h.2.1
  rw [h.2.2.cell, List.getElem?_toArray, bv_some (by rw [List.length_append, hl]; simp; omega), gi_append_right (by omega), hl, Nat.add_sub_cancel_left]
  match k, hk with
  | 0, _ => rfl
  | 1, _ => rfl
  | 2, _ => rfl
theorem OwnB.below {w w' : World} {B g n : Nat} {xs : List Int} {f : Int} (h : OwnB w B g n xs f) (hb : Below w.heap.size w w') : OwnB w' B g n xs f := ⟨h.1, h.2.1, h.2.2.below hb h.2.2.lt⟩
/-- nothing but draws. -/
def Quiet (v : Value) (w : World) (e : Ending) (w' : World) : Prop := e = .returned v ∧ ∃ q, w.drewN q = w'
theorem peq_any (x y : Int) (w : World) : Calls Try.prog 44 #[.int .u8 x, .int .u8 y] w fun e w' => e = .returned (.bool (x == y)) ∧ w = w' := by
  go_enter Try.func44, Try.ntmps44
  go_wp2
  go_ret
  exact ⟨rfl, rfl⟩
set_option maxHeartbeats 1000000 in
theorem same_any (A B : Option Addr) (n c d : Nat) (xs : List Int) (w : World) (h : RB w A n xs) (h' : RB w B n xs) (hn : n ≤ 1000000000) :
    Calls Try.prog 43 #[.slice A n c, .slice B n d, .func (Fn.func 44) #[] #[]] w (Quiet (.bool true) w) := by
  go_enter Try.func43, Try.ntmps43
  go_wp2
  go_loopw [7] (fun i wr => ∃ k q : Nat, k ≤ n ∧ i = .int .i64 k ∧ w.drewN q = wr) (fun i _ => n - (intOf i).toNat)
  case atStart => exact ⟨0, 0, by omega, rfl, rfl⟩
  case round =>
    obtain ⟨k, q, hk, rfl, rfl⟩ := hrel
    by_cases h1 : k < n
    · obtain ⟨b, o, rfl, hc⟩ := h.plain (by omega)
      obtain ⟨b', o', rfl, hc'⟩ := h'.plain (by omega)
      have c0 := hc k h1
      have c1 := hc' k h1
      have e0 : (gi xs k == gi xs k) = true := beq_self_eq_true _
      go_wp2
      go_quiet (exact quiet_add_left (peq_any _ _ _))
      go_wp2
      go_roundw
      case rel => exact ⟨k + 1, _, by omega, by go_num, rfl⟩
      case measure => simp [intOf]; omega
    · go_wp2
      go_ret
      exact ⟨rfl, _, rfl⟩
theorem plain_any (A B : Option Addr) (n c d : Nat) (xs : List Int) (w : World) (h : RB w A n xs) (h' : RB w B n xs) (hn : n ≤ 1000000000) :
    Calls Try.prog 36 #[.slice A n c, .slice B n d] w (Quiet (.bool true) w) := by
  have hs := same_any A B n c d xs w h h' hn
  go_enter Try.func36, Try.ntmps36
  go_wp2_with (go_at_call 43; (with_reducible refine hs.mono ?_); rintro e w1 ⟨rfl, q, rfl⟩)
  go_ret
  exact ⟨rfl, _, rfl⟩
/-- what was copied is as it was. -/
theorem kept_any (B g n d : Nat) (A : Option Addr) (xs : List Int) (f : Int) (w : World) (h : OwnB w B g n xs f) (hB : Byts xs) (h' : RB w A n xs) (hn : n ≤ 1000000000) :
    Calls Try.prog 18 #[.slice (some ⟨g, 0, none⟩) n (n + 3), .slice A n d, .int .u8 f] w (Quiet (.bool true) w) := by
  have hl := h.2.1
  have hr : RB w (some ⟨g, 0, none⟩) n xs := h.reads hB
  have hcell : ∀ k, k < 3 → w.cell? ⟨g, n + k, none⟩ = some (.int .u8 f) := h.spare
  have hs := plain_any (some ⟨g, 0, none⟩) A n (n + 3) d xs w hr h' hn
  have e1 : ((n : Int) + 3).toNat = n + 3 := by omega
  have e2 : ¬ ((n : Int) + 3 < (n : Int) + 3) := by omega
  go_enter Try.func18, Try.ntmps18
  go_wp2_with (go_at_call 36; (with_reducible refine hs.mono ?_); rintro e w1 ⟨rfl, q, rfl⟩)
  go_loopw [8] (fun i wr => ∃ k q : Nat, k ≤ 3 ∧ i = .int .i64 ((n : Int) + k) ∧ w.drewN q = wr) (fun i _ => n + 3 - (intOf i).toNat)
  case atStart => exact ⟨0, q, by omega, by simp, rfl⟩
  case round =>
    obtain ⟨k, q, hk, rfl, rfl⟩ := hrel
    by_cases h1 : k < 3
    · have c0 := hcell k h1
      have n1 : ((n : Int) + k).toNat = n + k := by omega
      have n2 : (0 : Int) ≤ (n : Int) + k := by omega
      have n3 : (n : Int) + k < n + 3 := by omega
      have e0 : (f != f) = false := by simp
      go_wp2
      go_roundw
      case rel => exact ⟨k + 1, _, by omega, by congr 1, rfl⟩
      case measure => simp [intOf]; omega
    · have n3 : ¬ ((n : Int) + k < n + 3) := by omega
      go_wp2
      go_ret
      exact ⟨rfl, _, rfl⟩
end Go.Proofs.Ytgokompppadogaa
