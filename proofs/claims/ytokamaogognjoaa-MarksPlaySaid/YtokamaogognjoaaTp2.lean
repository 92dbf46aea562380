/-
  The deeds' own methods, more.
-/
import Derived.Test.YtokamaogognjoaaTp1
set_option linter.unusedVariables false
set_option linter.unusedSimpArgs false
namespace Go.Proofs.Ytokamaogognjoaa
open Go.RowKit

set_option maxRecDepth 100000 in
@[go_sem high] theorem cut22_hm (w : World) (A : Option Addr) (n c : Nat) (k k' : IntKind) (h : Int) (h0 : 0 ≤ h) (h1 : h ≤ c) : (Instr.slice 36 (.slice A n c) none (some (.int k h)) (some (.int k' h))).run Try.prog w = .ok (.slice A h.toNat h.toNat) w := by
  have ht' : Try.prog.underlying 36 = some (.slice (Try.prog.elem 36)) := by simp [Program.elem, Try.underlying36]
  have he : Try.prog.elem 36 = 5 := by simp [Program.elem, Try.underlying36]
  rw [run_slice_hm w 36 A n c ht' k k' h h h0 (Int.le_refl _) h1, he, size5]
  cases A <;> simp [Result.andThen, sliced, Addr.add]
section
variable {w w' : World} {P : Nat → Prop} {g : Nat} {s s' : Tp} {A : Option Addr} {n c : Nat}
set_option maxRecDepth 100000 in
theorem TpAt.keep (h2 : RB w A n s.b) (h3 : n ≤ c) (h4 : 0 < n → ∃ ad, A = some ad ∧ P ad.block ∧ ad.block ≠ g) (hg : w.grownBy w' (some g)) (hb : TpBlk w' g A n c s') (hs : s'.b = s.b) : TpAt w' (fun k => P k ∨ w.heap.size ≤ k) g s' :=
  ⟨A, n, c, hb, by rw [hs]; exact h2.awayOf h4 hg, h3, fun h0 => by obtain ⟨ad, e1, e2, e3⟩ := h4 h0; exact ⟨ad, e1, .inl e2, e3⟩⟩
set_option maxRecDepth 100000 in
theorem TpAt.keepTake {k : Nat} (h2 : RB w A n s.b) (hk : k ≤ n) (h4 : 0 < n → ∃ ad, A = some ad ∧ P ad.block ∧ ad.block ≠ g) (hg : w.grownBy w' (some g)) (hb : TpBlk w' g A k k s') (hs : s'.b = s.b.take k) : TpAt w' (fun k => P k ∨ w.heap.size ≤ k) g s' :=
  ⟨A, k, k, hb, by rw [hs]; exact (h2.awayOf h4 hg).take hk, Nat.le_refl _, fun h0 => by obtain ⟨ad, e1, e2, e3⟩ := h4 (by omega); exact ⟨ad, e1, .inl e2, e3⟩⟩
end
def RefPost (r : Int) (w : World) (e : Ending) (w' : World) : Prop := e = .returned (.int .i64 r) ∧ Below w.heap.size w w'
set_option maxRecDepth 100000 in
set_option maxHeartbeats 1000000 in
theorem writeRefused_any (g : Nat) (s : Tp) (A : Option Addr) (n c : Nat) (X : Option Addr) (m d : Nat) (w : World) (h1 : TpBlk w g A n c s) (hs : n ≤ 1000000000) (hm : m ≤ 1000000000) (r0 : 0 ≤ s.room) (r1 : s.room ≤ 16777216) :
    Calls Try.prog 78 #[.agg #[.slice X m d], .pointer (some ⟨g, 0, none⟩)] w (RefPost (if 0 < m ∧ s.room - n < m then 14 else 0) w) := by
  have c0 := (h1.alloc (.cells #[.slice X m d] 87)).c0
  have c2 := (h1.alloc (.cells #[.slice X m d] 87)).c2
  have hgl := Blk.lt h1
  have hw : IntKind.i64.wrap (s.room - n) = s.room - n := IntWalk.i64_in _ (by omega)
  by_cases hm0 : 0 < m
  · have i0 : (0 : Int) < m := by omega
    have i1 : decide ((0 : Int) < m) = true := decide_eq_true i0
    by_cases hf : s.room - n < m
    · rw [if_pos ⟨hm0, hf⟩]
      go_enter Try.func78, Try.ntmps78
      go_wp2
      go_quiet (fail)
      go_wp2
      go_ret
      exact ⟨rfl, below_drewN ((Below.refl _ _).alloc (Nat.le_refl _) _) _⟩
    · rw [if_neg (by omega)]
      have i2 : decide (s.room - n < m) = false := decide_eq_false hf
      go_enter Try.func78, Try.ntmps78
      go_wp2
      go_quiet (fail)
      go_wp2
      go_ret
      exact ⟨rfl, below_drewN ((Below.refl _ _).alloc (Nat.le_refl _) _) _⟩
  · rw [if_neg (by omega)]
    obtain rfl : m = 0 := by omega
    go_enter Try.func78, Try.ntmps78
    go_wp2
    go_quiet (fail)
    go_wp2
    go_ret
    exact ⟨rfl, below_drewN ((Below.refl _ _).alloc (Nat.le_refl _) _) _⟩
set_option maxRecDepth 100000 in
theorem swapRefused_any (g : Nat) (s : Tp) (A : Option Addr) (n c : Nat) (X : Option Addr) (m d : Nat) (w : World) (h1 : TpBlk w g A n c s) :
    Calls Try.prog 83 #[.agg #[.slice X m d], .pointer (some ⟨g, 0, none⟩)] w (RefPost (if s.room < m then 14 else 0) w) := by
  have c2 := (h1.alloc (.cells #[.slice X m d] 99)).c2
  have hgl := Blk.lt h1
  by_cases hf : s.room < m
  · rw [if_pos hf]
    go_enter Try.func83, Try.ntmps83
    go_wp2
    go_quiet (fail)
    go_wp2
    go_ret
    exact ⟨rfl, below_drewN ((Below.refl _ _).alloc (Nat.le_refl _) _) _⟩
  · rw [if_neg hf]
    have i2 : decide (s.room < m) = false := decide_eq_false hf
    go_enter Try.func83, Try.ntmps83
    go_wp2
    go_quiet (fail)
    go_wp2
    go_ret
    exact ⟨rfl, below_drewN ((Below.refl _ _).alloc (Nat.le_refl _) _) _⟩
set_option maxRecDepth 100000 in
theorem holdRefused_any (g : Nat) (w : World) :
    Calls Try.prog 81 #[.agg #[], .pointer (some ⟨g, 0, none⟩)] w (RefPost 0 w) := by
  go_enter Try.func81, Try.ntmps81
  go_wp2
  go_ret
  exact ⟨rfl, (Below.refl _ _).alloc (Nat.le_refl _) _⟩
set_option maxRecDepth 100000 in
theorem cutRefused_any (g : Nat) (s : Tp) (A : Option Addr) (n c : Nat) (k : Int) (w : World) (h1 : TpBlk w g A n c s) :
    Calls Try.prog 79 #[.agg #[.int .i64 k], .pointer (some ⟨g, 0, none⟩)] w (RefPost (if k < 0 ∨ (n : Int) < k then 1 else 0) w) := by
  have c0 := (h1.alloc (.cells #[.int .i64 k] 89)).c0
  have hgl := Blk.lt h1
  by_cases hk : k < 0
  · rw [if_pos (.inl hk)]
    have i1 : decide (k < 0) = true := decide_eq_true hk
    go_enter Try.func79, Try.ntmps79
    go_wp2
    go_quiet (fail)
    go_wp2
    go_ret
    exact ⟨rfl, below_drewN ((Below.refl _ _).alloc (Nat.le_refl _) _) _⟩
  · have i1 : decide (k < 0) = false := decide_eq_false hk
    by_cases hf : (n : Int) < k
    · rw [if_pos (.inr hf)]
      go_enter Try.func79, Try.ntmps79
      go_wp2
      go_quiet (fail)
      go_wp2
      go_ret
      exact ⟨rfl, below_drewN ((Below.refl _ _).alloc (Nat.le_refl _) _) _⟩
    · rw [if_neg (by omega)]
      have i2 : decide ((n : Int) < k) = false := decide_eq_false hf
      go_enter Try.func79, Try.ntmps79
      go_wp2
      go_quiet (fail)
      go_wp2
      go_ret
      exact ⟨rfl, below_drewN ((Below.refl _ _).alloc (Nat.le_refl _) _) _⟩
set_option maxRecDepth 100000 in
theorem writeLeave_any (g : Nat) (s : Tp) (P : Nat → Prop) (X : Option Addr) (m d : Nat) (ys : List Int) (w : World) (h : TpAt w P g s) (hx : RB w X m ys) (hmd : m ≤ d) (hs : s.b.length ≤ 400000000) (hm : m ≤ 400000000) :
    Calls Try.prog 76 #[.agg #[.slice X m d], .pointer (some ⟨g, 0, none⟩)] w (TpPost (.tuple #[]) P g (s.wr ys) w) := by
  have hp := writePass_any g s P X m d ys (w.alloc (.cells #[.slice X m d] 87)) (h.below ((Below.refl _ _).alloc (Nat.le_refl _) _)) (hx.alloc _) hmd hs hm
  have hgl := h.lt
  unfold TpPost at hp
  go_enter Try.func76, Try.ntmps76
  go_wp2_with (go_at_call 77; (with_reducible refine hp.mono ?_); rintro e w1 ⟨rfl, h1, hg1⟩)
  go_end0
  exact ⟨rfl, h1.mono (fun k hk => hk.imp id (fun h => by simp at h; omega)), (grown_below ((Below.refl _ _).alloc (Nat.le_refl _) _) _).trans hg1⟩
set_option maxRecDepth 100000 in
theorem holdPass_any (g : Nat) (s : Tp) (P : Nat → Prop) (w : World) (h : TpAt w P g s) :
    Calls Try.prog 80 #[.agg #[], .pointer (some ⟨g, 0, none⟩)] w (TpPost (.tuple #[]) P g s.hd w) := by
  obtain ⟨A, n, c, h1, h2, h3, h4⟩ := h
  have h5 := h1.alloc (.cells #[] 97)
  have c0 := h5.c0
  have c1 := h5.c1
  have f1 := h5.fz 1
  have hgl := Blk.lt h1
  have hl := h2.len
  go_enter Try.func80, Try.ntmps80
  go_wp2
  go_end0
  have hg := grown_alloc (set_grown w g 1 (.int .i64 n)) (.cells #[] 97)
  exact ⟨rfl, TpAt.keep h2 h3 h4 hg (by have := (h1.set1 n).alloc (.cells #[] 97); unfold Tp.hd; rw [hl]; exact this) rfl, hg⟩
set_option maxRecDepth 100000 in
theorem cutPass_any (g : Nat) (s : Tp) (P : Nat → Prop) (k : Nat) (w : World) (h : TpAt w P g s) (hk : k ≤ s.b.length) :
    Calls Try.prog 46 #[.agg #[.int .i64 k], .pointer (some ⟨g, 0, none⟩)] w (TpPost (.tuple #[]) P g (s.cutTo k) w) := by
  obtain ⟨A, n, c, h1, h2, h3, h4⟩ := h
  have c0 := h1.c0
  have c1 := h1.c1
  have f0 := h1.fz 0
  have f1 := h1.fz 1
  have hgl := Blk.lt h1
  have hl := h2.len
  have hkn : k ≤ n := by omega
  have hkc : (k : Int) ≤ c := by omega
  go_enter Try.func46, Try.ntmps46
  go_wp2
  go_region
  all_goals
    go_end0
    have hg := grown_drewN (grown_alloc (grown_setCell (set_grown w g 0 (.slice A k k)) (p := ⟨g, 1, none⟩) (.inl rfl) (.int .i64 k)) (.cells #[.int .i64 k] 89)) 1
    have h6 : TpBlk ((((w.setCell ⟨g, 0, none⟩ (.slice A k k)).setCell ⟨g, 1, none⟩ (.int .i64 k)).alloc (.cells #[.int .i64 k] 89)).drewN 1) g A k k (s.cutTo k) := ((((h1.set0 A k k (s.b.take k)).set1 k).alloc (.cells #[.int .i64 k] 89)).drewN 1)
    exact ⟨rfl, TpAt.keepTake h2 hkn h4 hg h6 rfl, hg⟩
set_option maxRecDepth 100000 in
set_option maxHeartbeats 2000000 in
theorem swapPass_any (g : Nat) (s : Tp) (P : Nat → Prop) (X : Option Addr) (m d : Nat) (ys : List Int) (w : World) (h : TpAt w P g s) (hx : RB w X m ys) (hmd : m ≤ d) (hm : m ≤ 400000000) :
    Calls Try.prog 82 #[.agg #[.slice X m d], .pointer (some ⟨g, 0, none⟩)] w (TpPost (.tuple #[]) P g (s.sw ys) w) := by
  obtain ⟨A, n, c, h1, h2, h3, h4⟩ := h
  have hgl := Blk.lt h1
  have hl' := hx.len
  have hBox := (Blk.new w 99 #[.slice X m d]).drew
  have hcl := clone_any X m d ys ((w.alloc (.cells #[.slice X m d] 99)).drew) (hx.alloc _) (by omega)
  have hb0 : Below w.heap.size w ((w.alloc (.cells #[.slice X m d] 99)).drew) := below_drewN ((Below.refl _ _).alloc (Nat.le_refl _) _) 1
  have hz0 : ((w.alloc (.cells #[.slice X m d] 99)).drew).heap.size = w.heap.size + 1 := by simp
  have HL := Lib.hid hl'
  clear hl' hm
  go_enter Try.func82, Try.ntmps82
  go_wp2
  go_region_with (go_at_call 35; (with_reducible refine hcl.mono ?_); rintro e w1 ⟨V, C0, rfl, ho, hc0, hb1⟩; have hb2 := below_two hb0 hb1; have h5 := h1.below hb2; have c0' := h5.c0; have c1' := h5.c1; have f0' := h5.fz 0; have f1' := h5.fz 1; have cb := (hBox.below hb1 hBox.lt).cell 0; simp only [List.getElem?_toArray, List.getElem?_cons_zero] at cb)
  all_goals
    go_end0
    have hlm := HL.out
    have h6 : TpBlk ((w1.setCell ⟨g, 0, none⟩ (.slice V m C0)).setCell ⟨g, 1, none⟩ (.int .i64 m)) g V m C0 (s.sw ys) := by
      have := (h5.set0 V m C0 ys).set1 m
      unfold Tp.sw
      rw [hlm]
      exact this
    have ho6 : OB ((w1.setCell ⟨g, 0, none⟩ (.slice V m C0)).setCell ⟨g, 1, none⟩ (.int .i64 m)) (w.heap.size + 1) (.slice V m C0) m ys := by
      rw [hz0] at ho
      exact (ho.setFar (by omega) 0 _).setFar (by omega) 1 _
    have hg6 : w.grownBy ((w1.setCell ⟨g, 0, none⟩ (.slice V m C0)).setCell ⟨g, 1, none⟩ (.int .i64 m)) (some g) := grown_setCell (p := ⟨g, 1, none⟩) (grown_setCell (p := ⟨g, 0, none⟩) (grown_below hb2 _) (.inl rfl) _) (.inl rfl) _
    exact ⟨rfl, TpAt.fresh h6 rfl ho6 (by omega) (fun k hk => .inr (by omega)), hg6⟩
set_option maxRecDepth 100000 in
theorem sink_any (g : Nat) (s : Tp) (P : Nat → Prop) (w : World) (h : TpAt w P g s) (hf : s.falls ≤ 1000000000) :
    Calls Try.prog 45 #[.pointer (some ⟨g, 0, none⟩)] w (TpPost (.tuple #[]) P g s.sink w) := by
  obtain ⟨A, n, c, h1, h2, h3, h4⟩ := h
  have c4 := h1.c4
  have f4 := h1.fz 4
  have c5 := h1.c5
  have f5 := h1.fz 5
  have e1 : ((s.falls + 1 : Nat) : Int) = (s.falls : Int) + 1 := by omega
  cases hd : s.down
  · rw [hd] at c5
    have hsk : s.sink = { s with falls := s.falls + 1, down := true } := by unfold Tp.sink; rw [hd]; rfl
    have h6 := (h1.set4 (s.falls + 1)).set5 true
    rw [e1] at h6
    rw [hsk]
    clear hsk hd e1
    go_enter Try.func45, Try.ntmps45
    go_wp2
    go_end0
    have hg : w.grownBy ((w.setCell ⟨g, 4, none⟩ (.int .i64 ((s.falls : Int) + 1))).setCell ⟨g, 5, none⟩ (.bool true)) (some g) := grown_setCell (set_grown w g 4 _) (.inl rfl) _
    exact ⟨rfl, TpAt.keep h2 h3 h4 hg h6 rfl, hg⟩
  · rw [hd] at c5
    have hsk : s.sink = { s with down := true } := by unfold Tp.sink; rw [hd]; rfl
    have h6 := h1.set5 true
    rw [hsk]
    clear hsk hd e1
    go_enter Try.func45, Try.ntmps45
    go_wp2
    go_end0
    have hg : w.grownBy (w.setCell ⟨g, 5, none⟩ (.bool true)) (some g) := set_grown w g 5 _
    exact ⟨rfl, TpAt.keep h2 h3 h4 hg h6 rfl, hg⟩
end Go.Proofs.Ytokamaogognjoaa
