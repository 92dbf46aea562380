/-
  delta's first law: awake, and DeltaLeast's walk.
-/
import Derived.Test.YtflmaendnbokaaaDeltaA
set_option linter.unusedVariables false
set_option linter.unusedSimpArgs false
namespace Go.Proofs.Ytflmaendnbokaaa
open Go.RowKit

theorem REs.at_ {w : World} {S : Nat → Prop} {A : Option Addr} {n : Nat} {l : List Ed} (h : REs w S A n l) {i : Nat} {x : Ed} (hx : l[i]? = some x) :
    ∃ b off B c, A = some ⟨b, off, none⟩ ∧ S b ∧ w.cell? ⟨b, off + i * 3, none⟩ = some (.int .i64 x.f) ∧ w.cell? ⟨b, off + i * 3 + 1, none⟩ = some (.int .i64 x.t) ∧
      w.cell? ⟨b, off + i * 3 + 2, none⟩ = some (.slice B x.b.length c) ∧ x.b.length ≤ c ∧ RB w B x.b.length x.b ∧ ∀ bd, B = some bd → S bd.block := by
  have hl := h.1
  have hi : i < n := by
    have := (List.getElem?_eq_some_iff.1 hx).1
    omega
  obtain ⟨⟨b, off, sp⟩, e, hs, hc⟩ := h.2 (by omega)
  obtain ⟨x0, hx0⟩ : ∃ x0, l[0]? = some x0 := ⟨l[0]'(by omega), List.getElem?_eq_getElem (by omega)⟩
  obtain ⟨_, _, h0, _⟩ := hc 0 (by omega) x0 hx0
  have hsp : sp = none := by
    have := World.cell?_spot h0
    simpa [Addr.add] using this
  subst hsp
  obtain ⟨B, c, h0, h1, h2, h3⟩ := hc i hi x hx
  rw [add_plain] at h0 h1 h2
  exact ⟨b, off, B, c, e, hs, h0, h1, h2, h3⟩

theorem mk_abc : mkEdits [97, 98, 99] [97, 120, 99] = [⟨1, 2, [120]⟩] := by kernel_rfl

set_option maxHeartbeats 1000000 in
theorem awake14_any (w : World) : Calls Try.prog 9 #[] w fun e w' => e = .returned (.bool true) ∧ Below w.heap.size w w' := by
  go_enter Try.func9, Try.ntmps9
  go_wp2_with fail
  refine (make_any _ _ _ _ _ _ [97, 98, 99] [97, 120, 99] _ ((RB.lit_new w _ rfl [97, 98, 99] 3 (3, 4) rfl (bytsOf _ rfl)).alloc _) (RB.lit_new _ _ (by simp) [97, 120, 99] 3 (3, 4) rfl (bytsOf _ rfl)) (by decide) (by decide) (by decide) (by decide)).mono ?_
  rintro e w1 ⟨A, k, rfl, hr, hb⟩
  rw [mk_abc] at hr
  obtain rfl : k = 1 := hr.1.symm
  obtain ⟨b, off, B, c, rfl, _, h0, h1, h2, _, hB, _⟩ := hr.at_ (i := 0) rfl
  change RB w1 B 1 [120] at hB
  have cB := fun c => run_string_RB (P := Try.prog) hB 22 5 9 c Try.underlying22 Try.underlying5 Try.underlying9
  simp only [Nat.zero_mul, Nat.add_zero, List.length_cons, List.length_nil, Nat.zero_add] at h0 h1 h2
  go_wp2
  go_ret
  exact ⟨ret_bool (by rw [ByteArray.toList_eq, strOfNums_data]; rfl), below_two (((Below.refl _ _).alloc (Nat.le_refl _) _).alloc (by simp) _) hb⟩

/-- the second length: the common end of what is left. -/
def ce (xs ys : List Int) : Nat := cp (xs.drop (cp xs ys)).reverse (ys.drop (cp xs ys)).reverse
theorem ce_le (xs ys : List Int) : cp xs ys + ce xs ys ≤ xs.length ∧ cp xs ys + ce xs ys ≤ ys.length := by
  have h1 := cp_le xs ys
  have h2 := cp_le (xs.drop (cp xs ys)).reverse (ys.drop (cp xs ys)).reverse
  simp only [List.length_reverse, List.length_drop] at h2
  unfold ce
  omega
theorem gi_reverse {xs : List Int} {i : Nat} (h : i < xs.length) : gi xs.reverse i = gi xs (xs.length - 1 - i) := by
  have h2 : xs.length - 1 - i < xs.length := by omega
  simp [gi, h, h2]
theorem ce_ends (xs ys : List Int) (h1 : cp xs ys + ce xs ys < xs.length) (h2 : cp xs ys + ce xs ys < ys.length) : gi xs (xs.length - ce xs ys - 1) ≠ gi ys (ys.length - ce xs ys - 1) := by
  have h := cp_ends (xs.drop (cp xs ys)).reverse (ys.drop (cp xs ys)).reverse
  have e : cp (xs.drop (cp xs ys)).reverse (ys.drop (cp xs ys)).reverse = ce xs ys := rfl
  rw [e] at h
  simp only [List.length_reverse, List.length_drop] at h
  have h' := h (by omega) (by omega)
  rw [gi_reverse (by simp; omega), gi_reverse (by simp; omega), gi_drop, gi_drop] at h'
  simp only [List.length_drop] at h'
  rw [show cp xs ys + (xs.length - cp xs ys - 1 - ce xs ys) = xs.length - ce xs ys - 1 from by omega, show cp xs ys + (ys.length - cp xs ys - 1 - ce xs ys) = ys.length - ce xs ys - 1 from by omega] at h'
  exact h'
theorem ce_not_both (xs ys : List Int) (hne : xs ≠ ys) : ¬ (cp xs ys + ce xs ys = xs.length ∧ cp xs ys + ce xs ys = ys.length) := by
  rintro ⟨h1, h2⟩
  refine hne (gi_ext (by omega) fun i hi => ?_)
  rcases Nat.lt_or_ge i (cp xs ys) with h | h
  · exact cp_alike xs ys i h
  · have ha := cp_alike (xs.drop (cp xs ys)).reverse (ys.drop (cp xs ys)).reverse (xs.length - 1 - i) (by
      show _ < ce xs ys
      omega)
    rw [gi_reverse (by simp; omega), gi_reverse (by simp; omega), gi_drop, gi_drop] at ha
    simp only [List.length_drop] at ha
    rw [show cp xs ys + (xs.length - cp xs ys - 1 - (xs.length - 1 - i)) = i from by omega, show cp xs ys + (ys.length - cp xs ys - 1 - (xs.length - 1 - i)) = i from by omega] at ha
    exact ha
theorem mkEdits_ne {xs ys : List Int} (h : xs ≠ ys) : mkEdits xs ys = [⟨(cp xs ys : Nat), (xs.length : Int) - (ce xs ys : Nat), (ys.take (ys.length - ce xs ys)).drop (cp xs ys)⟩] := by
  unfold mkEdits
  rw [if_neg h]
  rfl

set_option maxHeartbeats 1000000 in
theorem least_same (A B : Option Addr) (n m c d : Nat) (xs : List Int) (w : World) (hA : RB w A n xs) (hB : RB w B m xs) (hn : n ≤ c) (hm : m ≤ d) (hn1 : n ≤ 1500) (hm1 : m ≤ 1500) :
    Calls Try.prog 3 #[.slice A n c, .slice B m d] w fun e w' => e = .returned (.bool true) ∧ Below w.heap.size w w' := by
  go_enter Try.func3, Try.ntmps3
  go_wp2_with fail
  refine (make_any _ _ _ _ _ _ xs xs _ hA hB hn hm (by omega) (by omega)).mono ?_
  rintro e w1 ⟨A1, k, rfl, hr, hb⟩
  have hk : k = 0 := by
    have := hr.1
    simpa [mkEdits] using this.symm
  subst hk
  go_wp2_with fail
  refine (awake14_any _).mono ?_
  rintro e w2 ⟨rfl, hb2⟩
  go_wp2_with fail
  refine (bytes_any _ _ _ _ _ _ xs xs _ (hA.below (below_two hb hb2)) (hB.below (below_two hb hb2))).mono ?_
  rintro e w3 ⟨rfl, rfl⟩
  go_wp2
  go_ret
  exact ⟨rfl, below_two hb hb2⟩

set_option maxHeartbeats 1000000 in
theorem least_other (A B : Option Addr) (n m c d : Nat) (xs ys : List Int) (w : World) (hA : RB w A n xs) (hB : RB w B m ys) (hn : n ≤ c) (hm : m ≤ d) (hn1 : n ≤ 1500) (hm1 : m ≤ 1500) (hxy : xs ≠ ys) :
    Calls Try.prog 3 #[.slice A n c, .slice B m d] w fun e w' => e = .returned (.bool true) ∧ Below w.heap.size w w' := by
  have hle := ce_le xs ys
  have hno := ce_not_both xs ys hxy
  have hends := cp_ends xs ys
  have hlast := ce_ends xs ys
  rw [hA.1] at hle hno hlast hends
  rw [hB.1] at hle hno hlast hends
  have hx := mkEdits_ne hxy
  rw [hA.1, hB.1] at hx
  have hG := fun k (h1 : cp xs ys ≤ k) (h2 : k ≤ n) => hA.mid (c := c) h1 h2 hn
  obtain ⟨f, hf⟩ : ∃ f, cp xs ys = f := ⟨_, rfl⟩
  obtain ⟨g, hg⟩ : ∃ g, ce xs ys = g := ⟨_, rfl⟩
  rw [hf, hg] at hx
  simp only [hf, hg] at hle hno hlast hends hG
  clear hf hg
  have HL := Lib.hid hlast
  have HE := Lib.hid hends
  have HG := Lib.hid hG
  clear hlast hends hG
  obtain ⟨hl1, hl2⟩ := hle
  have hdn : decide (xs = ys) = false := decide_eq_false hxy
  go_enter Try.func3, Try.ntmps3
  go_wp2_with fail
  refine (make_any _ _ _ _ _ _ xs ys _ hA hB hn hm (by omega) (by omega)).mono ?_
  rintro e w1 ⟨A1, k, rfl, hr, hb⟩
  rw [hx] at hr
  obtain rfl : k = 1 := hr.1.symm
  obtain ⟨b, off, B3, c3, rfl, _, h0, h1, h2, hc3, hB3, _⟩ := hr.at_ (i := 0) rfl
  clear hx
  simp only [Nat.zero_mul, Nat.add_zero] at h0 h1 h2
  have hbl : ((ys.take (m - g)).drop f).length = m - g - f := by
    rw [List.length_drop, List.length_take, hB.1]
    omega
  rw [hbl] at h2 hB3
  clear hbl
  go_wp2_with fail
  refine (awake14_any _).mono ?_
  rintro e w2 ⟨rfl, hb2⟩
  replace h0 := cell_later hb2 h0
  replace h1 := cell_later hb2 h1
  replace h2 := cell_later hb2 h2
  have hbb := below_two hb hb2
  have t1 : (f : Int) ≤ (n : Int) - g := by omega
  have t2 : (n : Int) - g ≤ c := by omega
  have t3 : (0 : Int) ≤ (n : Int) - g := by omega
  have t4 : (n : Int) - g ≤ n := by omega
  go_wp2_with fail
  refine (bytes_any _ _ _ _ _ _ xs ys _ (hA.below hbb) (hB.below hbb)).mono ?_
  rintro e w3 ⟨rfl, rfl⟩
  by_cases hp : n - g - f = 0
  · have hq : 0 < m - g - f := by omega
    go_wp2
    go_ret
    exact ⟨rfl, hbb.alloc hbb.size _⟩
  · by_cases hq : m - g - f = 0
    · go_wp2
      go_ret
      exact ⟨ret_bool (decide_eq_true (by omega)), hbb.alloc hbb.size _⟩
    · have hG := (HG.out (n - g) (by omega) (by omega)).below hbb
      obtain ⟨b2, o2, hcut, hcG⟩ := hG.plain (by omega)
      obtain ⟨b4, o4, rfl, hcB⟩ := (hB3.below hb2).plain (by omega)
      have g0 := hcG 0 (by omega)
      have g1 := hcG (n - g - f - 1) (by omega)
      have k0 := hcB 0 (by omega)
      have k1 := hcB (m - g - f - 1) (by omega)
      rw [Nat.add_zero] at g0 k0
      have e1 : (gi ((xs.take (n - g)).drop f) 0 == gi ((ys.take (m - g)).drop f) 0) = false := by
        rw [gi_drop, gi_drop, gi_take (by omega), gi_take (by omega)]
        exact beq_eq_false_iff_ne.2 (HE.out (by omega) (by omega))
      have e2 : (gi ((xs.take (n - g)).drop f) (n - g - f - 1) == gi ((ys.take (m - g)).drop f) (m - g - f - 1)) = false := by
        rw [gi_drop, gi_drop, gi_take (by omega), gi_take (by omega), show f + (n - g - f - 1) = n - g - 1 from by omega, show f + (m - g - f - 1) = m - g - 1 from by omega]
        exact beq_eq_false_iff_ne.2 (HL.out (by omega) (by omega))
      have q1 : b2 < w2.heap.size := World.block_lt_of_cell? _ _ g0
      have q2 : b4 < w2.heap.size := World.block_lt_of_cell? _ _ k0
      have z1 : (((n - g - f : Nat) : Int) == 0) = false := beq_eq_false_iff_ne.2 (by omega)
      have z2 : (((m - g - f : Nat) : Int) == 0) = false := beq_eq_false_iff_ne.2 (by omega)
      have p1 : 0 < n - g - f := by omega
      have p2 : 0 < m - g - f := by omega
      generalize gi ((xs.take (n - g)).drop f) 0 = x0 at g0 e1
      generalize gi ((ys.take (m - g)).drop f) 0 = y0 at k0 e1
      generalize gi ((xs.take (n - g)).drop f) (n - g - f - 1) = x1 at g1 e2
      generalize gi ((ys.take (m - g)).drop f) (m - g - f - 1) = y1 at k1 e2
      have e3 : (x0 != y0) = true := by rw [bne, e1]; rfl
      have e4 : (x1 != y1) = true := by rw [bne, e2]; rfl
      clear hcG hcB hr hB3 hG hA hB hno
      go_wp2
      go_quiet (fail)
      go_wp2
      go_ret
      exact ⟨rfl, below_drewN (hbb.alloc hbb.size _) _⟩

set_option maxHeartbeats 400000 in
theorem least_great (A B : Option Addr) (n m c d : Nat) (w : World) (h : 1500 < n ∨ 1500 < m) :
    Calls Try.prog 3 #[.slice A n c, .slice B m d] w fun e w' => e = .returned (.bool true) ∧ Below w.heap.size w w' := by
  by_cases h1 : 1500 < n
  · go_enter Try.func3, Try.ntmps3
    go_wp2_with (go_at_call 9; refine (awake14_any _).mono ?_; rintro e w1 ⟨rfl, hb⟩)
    go_ret
    exact ⟨rfl, hb⟩
  · have h2 : 1500 < m := by omega
    have h1' : n ≤ 1500 := by omega
    go_enter Try.func3, Try.ntmps3
    go_wp2_with (go_at_call 9; refine (awake14_any _).mono ?_; rintro e w1 ⟨rfl, hb⟩)
    go_ret
    exact ⟨rfl, hb⟩

theorem least_walk (A : Option Addr) (n c : Nat) (xs : List Int) (B : Option Addr) (m d : Nat) (ys : List Int) (w : World) (hA : RB w A n xs) (hn : n ≤ c) (hB : RB w B m ys) (hm : m ≤ d) :
    Calls Try.prog 3 #[.slice A n c, .slice B m d] w fun e w' => e = .returned (.bool true) ∧ Below w.heap.size w w' := by
  by_cases h : 1500 < n ∨ 1500 < m
  · exact least_great A B n m c d w h
  · by_cases hxy : xs = ys
    · subst hxy
      exact least_same A B n m c d xs w hA hB hn hm (by omega) (by omega)
    · exact least_other A B n m c d xs ys w hA hB hn hm (by omega) (by omega) hxy
end Go.Proofs.Ytflmaendnbokaaa
