/-
  frame.All; Plain of ints, Same of slices of bytes.
-/
import Derived.Test.YtecglmbggldhnaaAllA
import Derived.Test.YtecglmbggldhnaaFrm5
set_option linter.unusedVariables false
set_option linter.unusedSimpArgs false
namespace Go.Proofs.Ytecglmbggldhnaa
open Go.RowKit

theorem peqI_any (x y : Int) (w : World) : Calls Try.prog 29 #[.int .i64 x, .int .i64 y] w fun e w' => e = .returned (.bool (x == y)) ∧ w = w' := by
  go_enter Try.func29, Try.ntmps29
  go_wp2
  go_ret
  exact ⟨rfl, rfl⟩
theorem sameI_any (A B : Option Addr) (n c d : Nat) (xs : List Int) (w : World) (h : RI w A n xs) (h' : RI w B n xs) (hn : n ≤ 1000000000) :
    Calls Try.prog 28 #[.slice A n c, .slice B n d, .func (Fn.func 29) #[] #[]] w (Quiet (.bool true) w) := by
  go_enter Try.func28, Try.ntmps28
  go_wp2
  go_loopw [7] (fun i wr => ∃ k q : Nat, k ≤ n ∧ i = .int .i64 k ∧ w.drewN q = wr) (fun i _ => n - (intOf i).toNat)
  case atStart => exact ⟨0, 0, by omega, rfl, rfl⟩
  case round =>
    obtain ⟨k, q, hk, rfl, rfl⟩ := hrel
    by_cases h1 : k < n
    · obtain ⟨b, o, rfl, hc⟩ := h.plain (by omega)
      obtain ⟨b', o', rfl, hc'⟩ := h'.plain (by omega)
      have c0 := hc k h1
      have c1 := hc' k h1
      have e0 : (gi xs k == gi xs k) = true := beq_self_eq_true _
      go_wp2
      go_quiet (exact quiet_add_left (peqI_any _ _ _))
      go_wp2
      go_roundw
      case rel => exact ⟨k + 1, _, by omega, by go_num, rfl⟩
      case measure => simp [intOf]; omega
    · go_wp2
      go_ret
      exact ⟨rfl, _, rfl⟩
theorem plainI_any (A B : Option Addr) (n c d : Nat) (xs : List Int) (w : World) (h : RI w A n xs) (h' : RI w B n xs) (hn : n ≤ 1000000000) :
    Calls Try.prog 19 #[.slice A n c, .slice B n d] w (Quiet (.bool true) w) := by
  have hs := sameI_any A B n c d xs w h h' hn
  go_enter Try.func19, Try.ntmps19
  go_wp2_with (go_at_call 28; (with_reducible refine hs.mono ?_); rintro e w1 ⟨rfl, q, rfl⟩)
  go_ret
  exact ⟨rfl, _, rfl⟩
theorem sameR_any (A B : Option Addr) (n c d : Nat) (ps : List (List Int)) (w : World) (h : RBs w A n ps) (h' : RBs w B n ps) (hn : n ≤ 1000000000) :
    Calls Try.prog 20 #[.slice A n c, .slice B n d, .func (Fn.func 14) #[] #[]] w (Quiet (.bool true) w) := by
  obtain ⟨_, b, o, hA, hcells⟩ := h
  obtain ⟨_, b', o', hA', hcells'⟩ := h'
  go_enter Try.func20, Try.ntmps20
  go_wp2
  go_loopw [7] (fun i wr => ∃ k q : Nat, k ≤ n ∧ i = .int .i64 k ∧ w.drewN q = wr) (fun i _ => n - (intOf i).toNat)
  case atStart => exact ⟨0, 0, by omega, rfl, rfl⟩
  case round =>
    obtain ⟨k, q, hk, rfl, rfl⟩ := hrel
    by_cases h1 : k < n
    · obtain rfl := hA (by omega)
      obtain rfl := hA' (by omega)
      obtain ⟨Ai, ci, c0, _, r0⟩ := hcells k h1
      obtain ⟨Bi, di, c1, _, r1⟩ := hcells' k h1
      generalize ps.getD k [] = xs at *
      have kb := fun q => bytes_any Ai Bi xs.length xs.length ci di xs xs (w.drewN q) (r0.drewN q) (r1.drewN q)
      have e1 : decide (xs = xs) = true := decide_eq_true rfl
      rw [e1] at kb
      clear e1
      go_wp2
      go_quiet (exact quiet_add_left (kb _))
      go_wp2
      go_roundw
      case rel => exact ⟨k + 1, _, by omega, by go_num, rfl⟩
      case measure => simp [intOf]; omega
    · go_wp2
      go_ret
      exact ⟨rfl, _, rfl⟩
def AllPost (ks : List Int) (ps : List (List Int)) (n : Nat) (w : World) (e : Ending) (w' : World) : Prop := ∃ v1 v2, e = .returned (.tuple #[v1, v2, .int .i64 (n : Int)]) ∧ OI w' w.heap.size v1 ps.length ks ∧ OWs w' w.heap.size v2 ps.length ps ∧ Below w.heap.size w w'
theorem getD_take_succ {ps : List (List Int)} {j : Nat} (h : j < ps.length) : ps.take (j + 1) = ps.take j ++ [ps.getD j []] := by
  rw [List.take_succ_eq_append_getElem h, List.getD_eq_getElem?_getD, List.getElem?_eq_getElem h]
  rfl
set_option maxRecDepth 100000 in
set_option maxHeartbeats 4000000 in
theorem all_any (A : Option Addr) (n c : Nat) (ks : List Int) (ps : List (List Int)) (more : List Int) (w : World) (h : RB w A n ((framesL ks ps).flatten ++ more)) (hnc : n ≤ c) (hn : n ≤ 1000000)
    (hkl : ks.length = ps.length) (hks : ∀ i, i < ps.length → 0 ≤ gi ks i ∧ gi ks i ≤ 255) (hps : ∀ i, i < ps.length → (ps.getD i []).length ≤ 300) (he : (takeR more).err ≠ 0) (hpl : ps.length ≤ 1000) :
    Calls Try.prog 18 #[.slice A n c] w (AllPost ks ps (framesL ks ps).flatten.length w) := by
  have hl := h.len
  rw [List.length_append] at hl
  have hft : ∀ j, j < ps.length → takeR (((framesL ks ps).flatten ++ more).drop (joined (framesL ks ps) j).length) = ⟨gi ks j, ps.getD j [], 14 + (ps.getD j []).length, 0⟩ := fun j hj => take_frames ks ps more j hj (hks j hj).1 (hks j hj).2 (by have := hps j hj; omega)
  have hmo := take_more ks ps more
  have hjs := fun j hj => joined_frames ks ps j hj
  have hjl := fun j => joined_le (framesL ks ps) j
  have hja : joined (framesL ks ps) ps.length = (framesL ks ps).flatten := by rw [← framesL_length ks ps]; exact joined_all
  have hz := takeR_err_zero he
  obtain ⟨hz1, hz2, hz3⟩ := hz
  generalize framesL ks ps = fs at *
  generalize hY : fs.flatten ++ more = Y at *
  have HFT := Lib.hid hft
  have HMO := Lib.hid hmo
  have HJS := Lib.hid hjs
  have HJL := Lib.hid hjl
  have HJA := Lib.hid hja
  have HKS := Lib.hid hks
  have HPS := Lib.hid hps
  have HE := Lib.hid he
  have HZ1 := Lib.hid hz1
  have HZ2 := Lib.hid hz2
  have HZ3 := Lib.hid hz3
  have HY := Lib.hid hY
  have HL := Lib.hid hl
  clear hft hmo hjs hjl hja hks hps he hz1 hz2 hz3 hY hl
  go_enter Try.func18, Try.ntmps18
  go_wp2
  go_loopw [5, 6, 7] (fun v5 v6 i wr => ∃ j : Nat, j ≤ ps.length ∧ i = .int .i64 (joined fs j).length ∧ OI wr w.heap.size v5 j (ks.take j) ∧ OWs wr w.heap.size v6 j (ps.take j) ∧ Below w.heap.size w wr) (fun _ _ i _ => n + 1 - (intOf i).toNat)
  case atStart => exact ⟨0, by omega, rfl, OI.nil _ _, OWs.nil _ _, Below.refl _ _⟩
  case round =>
    obtain ⟨j, hj, rfl, hoi, how, hB⟩ := hrel
    have hat := HJL.out j
    have hl := HL.out
    have hatn : (joined fs j).length ≤ n := by omega
    have hr := ((h.below hB).cut (c := c) hatn hnc)
    have kt := take_any (cutA A c (joined fs j).length) (n - (joined fs j).length) (c - (joined fs j).length) _ wr hr (by omega) (by omega)
    have i1 : (((joined fs j).length : Nat) : Int) ≤ n := by omega
    by_cases h1 : j < ps.length
    · rw [HFT.out j h1] at kt
      have hs := HJS.out j h1
      have hp3 := HPS.out j h1
      have hk3 := HKS.out j h1
      have hat2 := HJL.out (j + 1)
      have htk : ks.take (j + 1) = ks.take j ++ [gi ks j] := take_succ_gi (by omega)
      have htp : ps.take (j + 1) = ps.take j ++ [ps.getD j []] := getD_take_succ h1
      unfold TakePost at kt
      simp only [] at kt
      generalize ps.getD j [] = xs at *
      generalize gi ks j = kk at *
      generalize hjj : (joined fs j).length = aj at *
      have kw : IntKind.i64.wrap ((aj : Int) + (14 + (xs.length : Int))) = (aj : Int) + (14 + (xs.length : Int)) := IntWalk.i64_in _ (by omega)
      have hjn : j ≤ 1000000 := by omega
      have HS := Lib.hid hs
      have HTK := Lib.hid htk
      have HTP := Lib.hid htp
      have hzB := hB.size
      clear hs htk htp hl hat hat2 hjj
      go_wp2_with (first
        | (go_at_call 12; (with_reducible refine kt.mono ?_); rintro e w1 ⟨A1, c1, rfl, ho1, hc1, hb1⟩; have hoi1 := hoi.below hb1; have how1 := how.below hb1; have hB1 : Below w.heap.size w w1 := below_two hB hb1; have hz1 := hb1.size)
        | (at_builtin; refine wpList_appInt rfl (.tmp 26) (.tmp 28) rfl w.heap.size _ j _ rfl (hoi1.below ((Below.refl _ _).alloc (Nat.le_refl _) _)) w1.heap.size kk rfl (Blk.new w1 3 _) (by omega) hjn (by simp; omega) ?_; intro v2 w2 ho2 hg2; have hkd := (hoi1.below ((Below.refl w1.heap.size w1).alloc (Nat.le_refl _) (.cells #[.int .i64 kk] 3))).kind; have how2 := (how1.below ((Below.refl w1.heap.size w1).alloc (Nat.le_refl _) (.cells #[.int .i64 kk] 3))).grown hkd (by decide) (by decide) hg2; have hox2 := ((ho1.lower hB.size).below ((Below.refl w1.heap.size w1).alloc (Nat.le_refl _) (.cells #[.int .i64 kk] 3))).grownK hkd (by decide) hg2; have hB2 : Below w.heap.size w w2 := (hB1.alloc (by omega) _).grown hg2 (by simp; omega) (fun k hk => (hoi1.own k hk).1); have hz2 := hg2.size)
        | (at_builtin; refine wpList_appRow rfl (.tmp 30) (.tmp 32) rfl w.heap.size _ j _ rfl (how2.below ((Below.refl _ _).alloc (Nat.le_refl _) _)) w2.heap.size _ _ xs rfl (Blk.new w2 22 _) (hox2.below ((Below.refl _ _).alloc (Nat.le_refl _) _)) hjn (by simp at hz2 ⊢; omega) ?_; intro v3 w3 ho3 hg3))
      have hkd2 := (how2.below ((Below.refl w2.heap.size w2).alloc (Nat.le_refl _) (.cells #[.slice A1 xs.length c1] 22))).kind
      have ho4 := (ho2.below ((Below.refl w2.heap.size w2).alloc (Nat.le_refl _) (.cells #[.slice A1 xs.length c1] 22))).grown hkd2 (by decide) hg3
      simp at hz2
      have hB3 : Below w.heap.size w w3 := (hB2.alloc (by omega) _).grown hg3 (by simp; omega) (fun k hk => (how2.own k hk).1)
      go_roundw
      case rel => exact ⟨j + 1, by omega, by rw [HS.out]; go_num, by rw [HTK.out]; exact ho4, by rw [HTP.out]; exact ho3, hB3⟩
      case measure => simp [intOf]; omega
    · obtain rfl : j = ps.length := by omega
      rw [HMO.out] at kt
      have hze := HE.out
      generalize takeR more = t at *
      obtain ⟨tk, tb, tl, te⟩ := t
      have z1 := HZ1.out
      have z2 := HZ2.out
      have z3 := HZ3.out
      simp only at z1 z2 z3 hze
      subst z1 z2 z3
      have hte : (te != 0) = true := by simpa using hze
      have hte2 : (te == 0) = false := by simpa using hze
      unfold TakePost at kt
      simp only [List.length_nil] at kt
      clear hze HE HZ1 HZ2 HZ3
      rw [show ks.take ps.length = ks from by rw [← hkl]; exact List.take_length] at hoi
      rw [List.take_length] at how
      have hja := HJA.out
      rw [hja] at kt i1 ⊢
      obtain ⟨N, hN⟩ : ∃ N, N = fs.flatten.length := ⟨_, rfl⟩
      rw [← hN] at kt i1 ⊢
      have HN := Lib.hid hN
      clear hja hat hatn hl hr hN
      go_wp2_with (go_at_call 12; (with_reducible refine kt.mono ?_); rintro e w1 ⟨A1, c1, rfl, ho1, hc1, hb1⟩)
      go_ret3
      exact ⟨_, _, rfl, hoi.below hb1, how.below hb1, below_two hB hb1⟩
end Go.Proofs.Ytecglmbggldhnaa
