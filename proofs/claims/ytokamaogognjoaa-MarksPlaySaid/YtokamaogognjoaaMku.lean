/-
  MarksPlay, pure: the tape under the deeds of a script.
-/
import Derived.Test.YtokamaogognjoaaMkp
set_option linter.unusedVariables false
set_option linter.unusedSimpArgs false
namespace Go.Proofs.Ytokamaogognjoaa
section
open Go.RowKit

/-- what an Add that was cut short would have left. -/
def lateL (M o : Prs) : Prs := if o = [] then [] else M ++ o
set_option maxRecDepth 100000 in
theorem frL_one0 : frL (oneL []) = [] := rfl
set_option maxRecDepth 100000 in
theorem frL_oneP {o : Prs} (h : o ≠ []) : frL (oneL o) = packL 1 o.flatten := by
  unfold oneL
  rw [if_neg h, frL_one]
set_option maxRecDepth 100000 in
theorem oneL_len {o : Prs} (h : AllPr o) : (frL (oneL o)).length ≤ 14 + 40 * o.length := by
  by_cases h0 : o = []
  · subst h0; simp [frL_one0]
  · rw [frL_oneP h0, pack_len1 h]; omega
set_option maxRecDepth 100000 in
theorem GoodL.allF {ls : List Prs} (h : GoodL ls) : AllPr ls.flatten := fun p hp => by
  obtain ⟨l, hl, hpl⟩ := List.mem_flatten.1 hp
  exact h.allPr l hl p hpl
/-- the tape: the frames, and what waits behind them. -/
structure Wt (ls : List Prs) (o : Prs) (f : Nat) (s : Tp) : Prop where
  b : s.b = frL ls ++ frL (oneL o)
  held : s.held = (frL ls).length
  up : s.down = false → s.falls = f ∧ o = []
  good : o ≠ [] → Good ls.flatten o
  gl : GoodL ls
  r0 : 0 ≤ s.room
  r1 : s.room ≤ 16777216
  f0 : 0 ≤ s.fuse
  f1 : s.fuse ≤ 6
  ol : o.length ≤ 20
/-- how much there may be. -/
structure Cn (j : Nat) (ls : List Prs) (o : Prs) (s : Tp) : Prop where
  n : ls.flatten.length + o.length ≤ 20 * j
  l : (frL ls).length + (frL (oneL o)).length ≤ 900 * j
  f : s.falls ≤ j
/-- what Open will find. -/
def Opn (ls : List Prs) (o : Prs) (s : Tp) : Prop := ∃ ls2 tail, s.b = frL ls2 ++ tail ∧ (takeR tail).err ≠ 0 ∧ Byts tail ∧ tail.length ≤ 1000 ∧ s.down = false ∧ s.fuse = 0 ∧ (ls2 = ls ∨ o ≠ [] ∧ ls2 = ls ++ [o]) ∧ GoodL ls2 ∧ s.held ≤ s.b.length ∧ 0 ≤ s.room ∧ s.room ≤ 16777216
section
variable {ls : List Prs} {o : Prs} {f j : Nat} {s : Tp}
set_option maxRecDepth 100000 in
theorem Wt.byts (h : Wt ls o f s) : Byts s.b := by
  rw [h.b]
  refine (frL_byts h.gl.allPr).append ?_
  by_cases h0 : o = []
  · subst h0; exact Byts.nil
  · refine frL_byts fun l hl => ?_
    unfold oneL at hl
    rw [if_neg h0] at hl
    simp at hl
    subst hl
    exact (h.good h0).all
set_option maxRecDepth 100000 in
theorem Wt.ok (h : Wt ls o f s) (hc : Cn j ls o s) (hj : j ≤ 1000) : s.Ok 200000000 := by
  have h1 := hc.l
  have h2 := hc.f
  have h3 := congrArg List.length h.b
  have h4 := h.held
  have h5 := h.r1
  have h6 := h.f1
  rw [List.length_append] at h3
  exact ⟨h.byts, by omega, h.r0, h5, h.f0, by omega, by omega, by omega⟩
set_option maxRecDepth 100000 in
theorem Cn.next (h : Cn j ls o s) {s' : Tp} (hf : s'.falls ≤ s.falls + 1) : Cn (j + 1) ls o s' := ⟨by have := h.n; omega, by have := h.l; omega, by have := h.f; omega⟩
set_option maxRecDepth 100000 in
theorem Wt.setFuse (h : Wt ls o f s) {k : Int} (h0 : 0 ≤ k) (h1 : k ≤ 6) : Wt ls o f (s.setFuse k) :=
  ⟨h.b, h.held, h.up, h.good, h.gl, h.r0, h.r1, by unfold Tp.setFuse; simp; omega, by unfold Tp.setFuse; simp; omega, h.ol⟩

/-! ### what Open finds -/
set_option maxRecDepth 100000 in
theorem rise_down {s : Tp} (h : s.down = true) : (s.setFuse 0).rise = ⟨s.b.take s.held, s.held, s.room, 0, s.falls, false⟩ := by
  unfold Tp.rise Tp.setFuse Tp.cutTo
  simp only []
  rw [if_pos h]
  rfl
set_option maxRecDepth 100000 in
theorem rise_up {s : Tp} (h : s.down = false) : (s.setFuse 0).rise = ⟨s.b, s.held, s.room, 0, s.falls, false⟩ := by
  unfold Tp.rise Tp.setFuse
  simp only []
  rw [if_neg (by rw [h]; decide), h]
  rfl
set_option maxRecDepth 100000 in
theorem take_frames0 {a b : List Int} : (a ++ b).take a.length = a := by rw [List.take_left]
set_option maxRecDepth 100000 in
theorem Wt.reopen (h : Wt ls o f s) : Opn ls o (s.setFuse 0).rise := by
  have hr0 := h.r0
  have hr1 := h.r1
  cases hd : s.down with
  | true =>
    rw [rise_down hd]
    refine ⟨ls, [], ?_, takeR_nil, Byts.nil, by simp, rfl, rfl, .inl rfl, h.gl, ?_, hr0, hr1⟩
    · show s.b.take s.held = _
      rw [h.held, h.b, take_frames0, List.append_nil]
    · show s.held ≤ (s.b.take s.held).length
      have h3 := congrArg List.length h.b
      rw [List.length_append] at h3
      have h4 := h.held
      rw [List.length_take]
      omega
  | false =>
    obtain ⟨h1, h2⟩ := h.up hd
    rw [rise_up hd]
    refine ⟨ls, [], ?_, takeR_nil, Byts.nil, by simp, rfl, rfl, .inl rfl, h.gl, ?_, hr0, hr1⟩
    · show s.b = _
      rw [h.b, h2, frL_one0]
    · show s.held ≤ s.b.length
      have h3 := congrArg List.length h.b
      rw [List.length_append] at h3
      have h4 := h.held
      omega
set_option maxRecDepth 100000 in
theorem fall_rise (s : Tp) (k : Int) : ((s.fall k).setFuse 0).rise = ⟨s.b.take (s.held + s.stay k), s.held + s.stay k, s.room, 0, s.sink.falls, false⟩ := by
  rw [rise_down (by rfl), Tp.fall_eq]
  unfold Tp.cutTo
  simp only []
  rw [List.take_take, Nat.min_self]
  rfl
set_option maxRecDepth 100000 in
theorem Wt.crash (h : Wt ls o f s) (k : Int) : Opn ls o ((s.fall k).setFuse 0).rise := by
  have hr0 := h.r0
  have hr1 := h.r1
  have h3 := congrArg List.length h.b
  rw [List.length_append] at h3
  have h4 := h.held
  have hst := Tp.stay_le (s := s) (k := k) (by omega)
  rw [fall_rise]
  generalize s.stay k = t at *
  have hb : s.b.take (s.held + t) = frL ls ++ (frL (oneL o)).take t := by
    rw [h4, h.b, List.take_append]
    congr 1
    · rw [List.take_of_length_le (by omega)]
    · congr 1; omega
  have hle : s.held + t ≤ (s.b.take (s.held + t)).length := by rw [List.length_take]; omega
  by_cases h0 : o = []
  · subst h0
    refine ⟨ls, [], ?_, takeR_nil, Byts.nil, by simp, rfl, rfl, .inl rfl, h.gl, hle, hr0, hr1⟩
    show s.b.take (s.held + t) = _
    rw [hb, frL_one0]
    simp
  · have hg := h.good h0
    have hpl := pack_len1 hg.all
    rw [frL_oneP h0] at hb h3
    have hol := h.ol
    have hfl := flatP_len hg.all
    by_cases ht : t < (packL 1 o.flatten).length
    · refine ⟨ls, (packL 1 o.flatten).take t, hb, ?_, ?_, ?_, rfl, rfl, .inl rfl, h.gl, hle, hr0, hr1⟩
      · rw [takeR_cut 1 o.flatten t (by omega) (by omega)]
        simp
      · exact (frL_oneP h0 ▸ frL_byts (ls := oneL o) fun l hl => by
          unfold oneL at hl
          rw [if_neg h0] at hl
          simp at hl
          subst hl
          exact hg.all).take _
      · rw [List.length_take]
        omega
    · refine ⟨ls ++ [o], [], ?_, takeR_nil, Byts.nil, by simp, rfl, rfl, .inr ⟨h0, rfl⟩, h.gl.snoc hg, hle, hr0, hr1⟩
      show s.b.take (s.held + t) = _
      rw [hb, List.take_of_length_le (by omega), frL_append, frL_one, List.append_nil]
set_option maxRecDepth 100000 in
theorem noise_err {B : List Int} (h : B = [] ∨ gi B 0 ≠ 254) : (takeR B).err ≠ 0 := by
  rcases h with rfl | h
  · exact takeR_nil
  · unfold takeR
    split
    · simp
    · simp
set_option maxRecDepth 100000 in
theorem Wt.noise (h : Wt ls o f s) (hu : s.down = false) {B : List Int} (hB : Byts B) (hl : B.length ≤ 60) (he : B = [] ∨ gi B 0 ≠ 254) :
    Opn ls o ((s.write B).2.setFuse 0).rise ∧ (s.write B).2.falls ≤ s.falls + 1 ∧ (s.write B).2.held ≤ (s.write B).2.b.length := by
  obtain ⟨h1, h2⟩ := h.up hu
  have hr0 := h.r0
  have hr1 := h.r1
  have hb := h.b
  rw [h2, frL_one0, List.append_nil] at hb
  have h4 := h.held
  have hlen := congrArg List.length hb
  unfold Tp.write Tp.deed
  rw [if_neg (by rw [hu]; decide)]
  by_cases hc : 0 < B.length ∧ s.room - (s.b.length : Int) < (B.length : Int)
  · rw [if_pos hc, if_pos (by decide)]
    exact ⟨h.reopen, by show s.falls ≤ _; omega, by show s.held ≤ s.b.length; omega⟩
  · rw [if_neg hc, if_neg (by decide)]
    by_cases h5 : s.fuse = 1
    · rw [if_pos h5]
      refine ⟨?_, ?_, ?_⟩
      · rw [rise_down (by rfl)]
        refine ⟨ls, [], ?_, takeR_nil, Byts.nil, by simp, rfl, rfl, .inl rfl, h.gl, ?_, hr0, hr1⟩
        · show (s.b ++ B).take s.held = _
          rw [h4, hb, take_frames0, List.append_nil]
        · show s.held ≤ ((s.b ++ B).take s.held).length
          rw [List.length_take, List.length_append]
          omega
      · show (if s.down = true then s.falls else s.falls + 1) ≤ _
        split <;> omega
      · show s.held ≤ (s.b ++ B).length
        rw [List.length_append]
        omega
    · rw [if_neg h5]
      refine ⟨?_, ?_, ?_⟩
      · rw [rise_up (by exact hu)]
        refine ⟨ls, B, ?_, noise_err he, hB, by omega, rfl, rfl, .inl rfl, h.gl, ?_, hr0, hr1⟩
        · show s.b ++ B = _
          rw [hb]
        · show s.held ≤ (s.b ++ B).length
          rw [List.length_append]
          omega
      · show s.falls ≤ _
        omega
      · show s.held ≤ (s.b ++ B).length
        rw [List.length_append]
        omega
set_option maxRecDepth 100000 in
theorem stay_falls (s : Tp) (k : Int) : (s.fall k).falls ≤ s.falls + 1 := by
  show s.sink.falls ≤ _
  unfold Tp.sink
  simp only []
  split <;> omega
set_option maxRecDepth 100000 in
/-- a table opened anew. -/
theorem Opn.open {ls2 : List Prs} {tail : List Int} (hb : s.b = frL ls2 ++ tail) (hd : s.down = false) (hg : GoodL ls2) (hr0 : 0 ≤ s.room) (hr1 : s.room ≤ 16777216) : Wt ls2 [] s.falls (s.opened (frL ls2)) :=
  ⟨by show frL ls2 = _; rw [frL_one0, List.append_nil], rfl, fun _ => ⟨rfl, rfl⟩, fun h => absurd rfl h, hg, hr0, hr1, Int.le_refl _, by show (0 : Int) ≤ 6; decide, by simp⟩
set_option maxRecDepth 100000 in
theorem Opn.cn {ls2 : List Prs} {s0 s' : Tp} (hc : Cn j ls o s0) (hw : o ≠ [] → AllPr o) (h : ls2 = ls ∨ o ≠ [] ∧ ls2 = ls ++ [o]) (hf : s'.falls ≤ j) : Cn j ls2 [] s' := by
  have h1 := hc.n
  have h2 := hc.l
  rcases h with rfl | ⟨h0, rfl⟩
  · exact ⟨by simp only [List.length_nil]; omega, by rw [frL_one0]; simp only [List.length_nil]; omega, hf⟩
  · rw [frL_oneP h0] at h2
    refine ⟨?_, ?_, hf⟩
    · rw [List.flatten_append, List.length_append]
      have e : [o].flatten = o := by simp
      rw [e]
      simp only [List.length_nil]
      omega
    · rw [frL_append, frL_one, frL_one0, List.length_append]
      simp
      omega

/-! ### Compact -/
set_option maxRecDepth 100000 in
theorem Wt.comp (h : Wt ls o f s) : ∃ ls2, Wt ls2 o f (compR f ls.flatten s).2 ∧ ls2.flatten = ls.flatten ∧ (frL ls2).length ≤ (frL ls).length ∧ (compR f ls.flatten s).2.falls ≤ s.falls + 1 ∧
    ((s.down = true ∧ (compR f ls.flatten s).1 = 16 ∧ (compR f ls.flatten s).2 = s) ∨ (s.down = false ∧ ((compR f ls.flatten s).1 = 0 ∨ (compR f ls.flatten s).1 = 14 ∨ (compR f ls.flatten s).1 = 16))) := by
  unfold compR
  cases hd : s.down with
  | true =>
    have hu : upV f s = 16 := by unfold upV; rw [hd, if_pos rfl]
    rw [hu, if_pos (by decide)]
    exact ⟨ls, h, rfl, Nat.le_refl _, by simp, .inl ⟨rfl, rfl, rfl⟩⟩
  | false =>
    obtain ⟨h1, h2⟩ := h.up hd
    subst h2
    have hu : upV f s = 0 := by unfold upV; rw [hd, if_neg (by decide), if_pos h1]
    have hb := h.b
    rw [frL_one0, List.append_nil] at hb
    have hr0 := h.r0
    have hr1 := h.r1
    have hf0 := h.f0
    have hf1 := h.f1
    rw [hu, if_neg (by decide), ← frL_oneL]
    have hall := h.gl.allF
    have hle := frL_one_le h.gl.allPr hall
    unfold Tp.swap Tp.deed
    rw [if_neg (by rw [hd]; decide)]
    by_cases hc : s.room < ((frL (oneL ls.flatten)).length : Int)
    · rw [if_pos hc, if_pos (by decide)]
      exact ⟨ls, h, rfl, Nat.le_refl _, by show s.falls ≤ _; omega, .inr ⟨rfl, .inr (.inl rfl)⟩⟩
    · rw [if_neg hc, if_neg (by decide)]
      by_cases h5 : s.fuse = 1
      · rw [if_pos h5]
        refine ⟨ls, ⟨?_, h.held, fun e => absurd e (by simp [Tp.sink]), h.good, h.gl, hr0, hr1, Int.le_refl _, by simp [Tp.sink], h.ol⟩, rfl, Nat.le_refl _, ?_, .inr ⟨rfl, .inr (.inr rfl)⟩⟩
        · show s.b = _
          rw [hb, frL_one0, List.append_nil]
        · show (if s.down = true then s.falls else s.falls + 1) ≤ _
          split <;> omega
      · rw [if_neg h5]
        refine ⟨oneL ls.flatten, ⟨?_, rfl, fun _ => ⟨h1, rfl⟩, fun e => absurd rfl e, oneL_good h.gl hall, hr0, hr1, ?_, ?_, h.ol⟩, oneL_flat _, hle, ?_, .inr ⟨rfl, .inl rfl⟩⟩
        · show frL _ = _
          rw [frL_one0, List.append_nil]
        · show (0 : Int) ≤ max (s.fuse - 1) 0
          omega
        · show max (s.fuse - 1) 0 ≤ (6 : Int)
          omega
        · show s.falls ≤ _
          omega
set_option maxRecDepth 100000 in
theorem lateL_flat {ls ls2 : List Prs} (h : ls2.flatten = ls.flatten) (o : Prs) : lateL ls2.flatten o = lateL ls.flatten o := by rw [h]

/-! ### Add -/
set_option maxRecDepth 100000 in
theorem write_full {X : List Int} (hu : s.down = false) (hc : 0 < X.length ∧ s.room - (s.b.length : Int) < (X.length : Int)) : s.write X = (14, s) := by
  unfold Tp.write Tp.deed
  rw [if_neg (by rw [hu]; decide), if_pos hc, if_pos (by decide)]
set_option maxRecDepth 100000 in
theorem write_burn {X : List Int} (hu : s.down = false) (hc : ¬ (0 < X.length ∧ s.room - (s.b.length : Int) < (X.length : Int))) (hf : s.fuse = 1) : s.write X = (16, (Tp.wr X { s with fuse := 0 }).sink) := by
  unfold Tp.write Tp.deed
  rw [if_neg (by rw [hu]; decide), if_neg hc, if_neg (by decide), if_pos hf]
set_option maxRecDepth 100000 in
theorem write_ok {X : List Int} (hu : s.down = false) (hc : ¬ (0 < X.length ∧ s.room - (s.b.length : Int) < (X.length : Int))) (hf : ¬ s.fuse = 1) : s.write X = (0, Tp.wr X s.burn) := by
  unfold Tp.write Tp.deed
  rw [if_neg (by rw [hu]; decide), if_neg hc, if_neg (by decide), if_neg hf]
set_option maxRecDepth 100000 in
theorem hold_burn (hu : s.down = false) (hf : s.fuse = 1) : s.hold = (16, ({ s with fuse := 0 } : Tp).sink) := by
  unfold Tp.hold Tp.deed
  rw [if_neg (by rw [hu]; decide), if_neg (by decide), if_pos hf]
  rfl
set_option maxRecDepth 100000 in
theorem hold_ok (hu : s.down = false) (hf : ¬ s.fuse = 1) : s.hold = (0, Tp.hd s.burn) := by
  unfold Tp.hold Tp.deed
  rw [if_neg (by rw [hu]; decide), if_neg (by decide), if_neg hf]
set_option maxRecDepth 100000 in
theorem Wt.add_down (h : s.down = true) (l : Prs) (M : Prs) : addR f M s l = (16, M, s) := by
  have hu : upV f s = 16 := by unfold upV; rw [h, if_pos rfl]
  unfold addR
  rw [hu, if_pos (by decide)]
set_option maxRecDepth 100000 in
theorem Wt.upV0 (h : Wt ls o f s) (hu : s.down = false) : upV f s = 0 := by
  unfold upV
  rw [hu, if_neg (by decide), if_pos (h.up hu).1]
set_option maxRecDepth 100000 in
theorem Wt.add_none (h : Wt ls o f s) (hu : s.down = false) {l : Prs} (hf : (freshR ls.flatten l).2 ≠ 0 ∨ (freshR ls.flatten l).1 = []) : addR f ls.flatten s l = ((freshR ls.flatten l).2, ls.flatten, s) := by
  unfold addR
  rw [if_neg (by rw [h.upV0 hu]; decide), if_pos hf]
set_option maxRecDepth 100000 in
/-- an Add of something new: it is there, there is no room, or it falls. -/
theorem Wt.add_new (h : Wt ls o f s) (hu : s.down = false) {l : Prs} (hl : AllPr l) (hn : l.length ≤ 20) (hz : (freshR ls.flatten l).2 = 0) (hne : (freshR ls.flatten l).1 ≠ []) :
    (∃ s', addR f ls.flatten s l = (0, ls.flatten ++ (freshR ls.flatten l).1, s') ∧ Wt (ls ++ [(freshR ls.flatten l).1]) [] f s' ∧ s'.falls = s.falls ∧ s'.down = false) ∨
    addR f ls.flatten s l = (14, ls.flatten, s) ∨
    (∃ s', addR f ls.flatten s l = (16, ls.flatten, s') ∧ Wt ls (freshR ls.flatten l).1 f s' ∧ s'.falls ≤ s.falls + 1 ∧ s'.down = true) := by
  have hgd := fresh_good hl hz hne
  obtain ⟨h1, h2⟩ := h.up hu
  have h3 := (freshR_new ls.flatten l).2.2
  have hb := h.b
  rw [h2, frL_one0, List.append_nil] at hb
  have hr0 := h.r0
  have hr1 := h.r1
  have hf0 := h.f0
  have hf1 := h.f1
  have hgl := h.gl
  have hheld := h.held
  unfold addR
  rw [if_neg (by rw [h.upV0 hu]; decide), if_neg (by rintro (h0 | h0); exact h0 hz; exact hne h0)]
  generalize (freshR ls.flatten l).1 = n at *
  have hX : frL (oneL n) = packL 1 n.flatten := frL_oneP hne
  generalize packL 1 n.flatten = X at *
  have hS : frL (ls ++ [n]) = frL ls ++ X := by rw [frL_append, frL_one, ← hX, frL_oneP hne]
  by_cases hc : 0 < X.length ∧ s.room - (s.b.length : Int) < (X.length : Int)
  · rw [write_full hu hc, if_pos (show ((14 : Int) ≠ 0) by decide)]
    exact .inr (.inl rfl)
  · by_cases h4 : s.fuse = 1
    · rw [write_burn hu hc h4, if_pos (show ((16 : Int) ≠ 0) by decide)]
      refine .inr (.inr ⟨_, rfl, ⟨?_, hheld, fun e => absurd e (by simp [Tp.sink]), fun _ => hgd, hgl, hr0, hr1, Int.le_refl _, by show (0 : Int) ≤ 6; decide, by omega⟩, ?_, rfl⟩)
      · show s.b ++ X = _
        rw [hb, hX]
      · show (if s.down = true then s.falls else s.falls + 1) ≤ _
        split <;> omega
    · have hd2 : (Tp.wr X s.burn).down = false := hu
      rw [write_ok hu hc h4, if_neg (show ¬ ((0 : Int) ≠ 0) by decide)]
      by_cases h5 : (Tp.wr X s.burn).fuse = 1
      · rw [hold_burn hd2 h5, if_pos (show ((16 : Int) ≠ 0) by decide)]
        refine .inr (.inr ⟨_, rfl, ⟨?_, hheld, fun e => absurd e (by simp [Tp.sink]), fun _ => hgd, hgl, hr0, hr1, Int.le_refl _, by show (0 : Int) ≤ 6; decide, by omega⟩, ?_, rfl⟩)
        · show s.b ++ X = _
          rw [hb, hX]
        · show (if s.down = true then s.falls else s.falls + 1) ≤ _
          split <;> omega
      · rw [hold_ok hd2 h5, if_neg (show ¬ ((0 : Int) ≠ 0) by decide)]
        refine .inl ⟨_, rfl, ⟨?_, ?_, fun _ => ⟨h1, rfl⟩, fun e => absurd rfl e, hgl.snoc hgd, hr0, hr1, ?_, ?_, by simp⟩, rfl, hu⟩
        · show s.b ++ X = _
          rw [hS, hb, frL_one0, List.append_nil]
        · show (s.b ++ X).length = _
          rw [hS, hb]
        · show (0 : Int) ≤ max (max (s.fuse - 1) 0 - 1) 0
          omega
        · show max (max (s.fuse - 1) 0 - 1) 0 ≤ (6 : Int)
          omega
end
end
end Go.Proofs.Ytokamaogognjoaa
