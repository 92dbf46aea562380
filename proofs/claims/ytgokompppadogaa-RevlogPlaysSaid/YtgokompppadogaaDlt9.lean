/-
  delta.Print; trestleref14.Print.
-/
import Derived.Test.YtgokompppadogaaDlt8
set_option linter.unusedVariables false
set_option linter.unusedSimpArgs false
namespace Go.Proofs.Ytgokompppadogaa
open Go.RowKit

/-- 'append' of bytes, at a step of a region that draws. -/
theorem step_app {ops : Array Oper} {o : Oper} {a : Act} {w : World} {K : Act → World → Prop} {Q : Exit → Act → World → Prop} {E : Prop} (hgd : o.guard = none) (s x : Operand)
    (ho : o.op = .call { callee := .builtin .append, args := #[s, x], argTypes := #[29, 29] })
    (base : Nat) (v : Value) (n : Nat) (xs : List Int) (hs : a.eval s = v) (hown : OB w base v n xs)
    (A : Option Addr) (m c : Nat) (ys : List Int) (hx : a.eval x = .slice A m c) (hr : RB w A m ys)
    (h47 : n + m ≤ 140737488355328) (hbase : base ≤ w.heap.size)
    (h : ∀ v' w', OB w' base v' (n + m) (xs ++ ys) → w.grownBy w' v.ownBlock → (v'.ownBlock = v.ownBlock ∨ v'.ownBlock = some w.heap.size) → K (a.put o.dst v') w') :
    if Region.wanted o (yielded ops a.tmps) = true then Oper.wp Try.prog o a w K Q else E := by
  have hw : Region.wanted o (yielded ops a.tmps) = true := by simp [Region.wanted, hgd]
  rw [if_pos hw]
  obtain ⟨i0, hi, hz0, hz1, hz2⟩ := info_parts byteInfo
  exact wp_append_any w s x 29 ho base 5 i0 _ 1 1 Try.underlying29 hi hz0 hz1 hz2 rfl (by omega) v n (bv xs) hs hown.1 A m c (bv ys) hx hr.src (bv_one ys)
    (by simp only [maxLen]; omega) (by omega) hbase fun v' w' h2 h3 h4 => h v' w' ⟨by rw [bv_append]; exact h2, hown.2.append hr.2.1⟩ h3 h4
theorem prTo_succ (l : List Ed) (j : Nat) : prTo l (j + 1) = (((prTo l j ++ fourE (ed l j).f) ++ fourE (ed l j).t) ++ fourE ((ed l j).b.length : Int)) ++ (ed l j).b := by
  show prTo l j ++ prE (ed l j) = _
  simp [prE]

theorem own_ne {v v1 : Value} {z W : Nat} (h0 : v.ownBlock ≠ some z) (hz : z < W) (h : v1.ownBlock = v.ownBlock ∨ ∃ g, v1.ownBlock = some g ∧ W ≤ g) : v1.ownBlock ≠ some z := by
  rcases h with h | ⟨g, h, hg⟩
  · rw [h]; exact h0
  · rw [h]
    intro e
    injection e with e
    omega
set_option maxRecDepth 100000 in
set_option maxHeartbeats 4000000 in
theorem print_any (S : Nat → Prop) (A : Option Addr) (k c : Nat) (l : List Ed) (w : World) (h : REs w S A k l) (hk : k ≤ 1000) (hM : ∀ i, i < k → (ed l i).b.length ≤ 100000) :
    Calls Try.prog 40 #[.slice A k c] w (NewB (prL l).length (prL l) w) := by
  have hlen := h.1
  have HM := Lib.hid hM
  have HL := Lib.hid (fun j (hj : j ≤ k) => prTo_length_le (l := l) (M := 100000) (fun i hi => hM i (by omega)) j (by omega))
  clear hM
  go_enter Try.func40, Try.ntmps40
  go_wp2
  go_loopw [3, 8] (fun b i wr => ∃ j m : Nat, j ≤ k ∧ i = .int .i64 j ∧ OB wr w.heap.size b m (prTo l j) ∧ Below w.heap.size w wr) (fun _ i _ => k - (intOf i).toNat)
  case atStart => exact ⟨0, 0, by omega, rfl, OB.nil _ _, Below.refl _ _⟩
  case round =>
    obtain ⟨j, m, hj, rfl, ho, hB⟩ := hrel
    by_cases h1 : j < k
    · obtain ⟨b, off, B', c', rfl, _, c0, c1, c2, c3, c4, _⟩ := h.at_ (ed_some (l := l) (i := j) (by omega))
      have c0 := cell_later hB c0
      have c1 := cell_later hB c1
      have c2 := cell_later hB c2
      have hm := ho.len
      have hml := HL.out j (by omega)
      have hxl := HM.out j h1
      have hs := prTo_succ l j
      have hsz := hB.size
      have hm2 : m ≤ 200000000 := by
        have : j * (12 + 100000) ≤ 1000 * (12 + 100000) := Nat.mul_le_mul_right _ (by omega)
        omega
      have HS := Lib.hid hs
      clear hs hm hml
      generalize ed l j = x at *
      generalize prTo l j = ys at *
      obtain ⟨f, t, bs⟩ := x
      simp only at c0 c1 c2 c3 c4 hxl HS
      have hoD : OB (wr.alloc (.cells #[.int .i64 f, .int .i64 t, .slice B' bs.length c'] 96)).drew w.heap.size _ m ys := (ho.alloc _).drewN 1
      have hD : Blk (wr.alloc (.cells #[.int .i64 f, .int .i64 t, .slice B' bs.length c'] 96)).drew wr.heap.size 96 #[.int .i64 f, .int .i64 t, .slice B' bs.length c'] := (Blk.new wr 96 _).drew
      have hBD : Below w.heap.size w (wr.alloc (.cells #[.int .i64 f, .int .i64 t, .slice B' bs.length c'] 96)).drew := below_drewN (hB.alloc hsz _) 1
      have hn0 : Value.ownBlock _ ≠ some wr.heap.size := fun e => absurd (ho.own _ e).2 (Nat.lt_irrefl _)
      go_wp2
      go_region_held3 (fun w' => w'.cell? ⟨wr.heap.size, 0, none⟩ = some (.int .i64 f) ∧ w'.cell? ⟨wr.heap.size, 1, none⟩ = some (.int .i64 t) ∧ w'.cell? ⟨wr.heap.size, 2, none⟩ = some (.slice B' bs.length c'))
        (first
          | exact ⟨hD4.cell 0, hD4.cell 1, hD4.cell 2⟩
          | exact ⟨hD3.cell 0, hD3.cell 1, hD3.cell 2⟩
          | exact ⟨hD2.cell 0, hD2.cell 1, hD2.cell 2⟩
          | exact ⟨hD1.cell 0, hD1.cell 1, hD1.cell 2⟩
          | exact ⟨hD.cell 0, hD.cell 1, hD.cell 2⟩)
        (first
          | (refine step_app rfl (.tmp 22) (.tmp 24) rfl w.heap.size _ _ _ rfl ho3 B' bs.length c' bs rfl (c4.below hB3) (by omega) hB3.size ?_; intro v4 w4 ho4 hg4 hat4; have hB4 := hB3.grown hg4 hB3.size (fun k hk => (ho3.own k hk).1); have hD4 := hD3.grown hg4 (Ne.symm hn3))
          | (go_at_call 47; (with_reducible refine (put_any w.heap.size _ _ _ _ _ ho2 hB2.size (by omega)).mono ?_); rintro e w3 ⟨v3, rfl, ho3, hg3, hat3⟩; have hD3 := hD2.grown hg3 (Ne.symm hn2); have hn3 := own_ne hn2 hD2.lt hat3; have hB3 := hB2.grown hg3 hB2.size (fun k hk => (ho2.own k hk).1))
          | (go_at_call 47; (with_reducible refine (put_any w.heap.size _ _ _ _ _ ho1 hB1.size (by omega)).mono ?_); rintro e w2 ⟨v2, rfl, ho2, hg2, hat2⟩; have hD2 := hD1.grown hg2 (Ne.symm hn1); have hn2 := own_ne hn1 hD1.lt hat2; have hB2 := hB1.grown hg2 hB1.size (fun k hk => (ho1.own k hk).1))
          | (go_at_call 47; (with_reducible refine (put_any w.heap.size _ _ _ _ _ hoD hBD.size (by omega)).mono ?_); rintro e w1 ⟨v1, rfl, ho1, hg1, hat1⟩; have hD1 := hD.grown hg1 (Ne.symm hn0); have hn1 := own_ne hn0 hD.lt hat1; have hB1 := hBD.grown hg1 hBD.size (fun k hk => (hoD.own k hk).1)))
      go_wp2
      go_roundw
      case rel => exact ⟨j + 1, _, by omega, by go_num, by rw [HS.out]; exact ho4, hB4⟩
      case measure => simp [intOf]; omega
    · obtain rfl : j = k := by omega
      go_wp2
      go_ret
      have hp : prL l = prTo l j := by unfold prL; rw [hlen]
      have hl := ho.len
      rw [hp, hl]
      exact NewB.of ho hB
set_option maxRecDepth 100000 in
set_option maxHeartbeats 4000000 in
theorem refPrint_any (S : Nat → Prop) (A : Option Addr) (k c : Nat) (l : List Ed) (w : World) (h : REs w S A k l) (hk : k ≤ 1000) (hM : ∀ i, i < k → (ed l i).b.length ≤ 100000) :
    Calls Try.prog 34 #[.slice A k c] w (NewB (prL l).length (prL l) w) := by
  have hlen := h.1
  have HM := Lib.hid hM
  have HL := Lib.hid (fun j (hj : j ≤ k) => prTo_length_le (l := l) (M := 100000) (fun i hi => hM i (by omega)) j (by omega))
  clear hM
  go_enter Try.func34, Try.ntmps34
  go_wp2
  go_loopw [3, 4] (fun b i wr => ∃ j m : Nat, j ≤ k ∧ i = .int .i64 j ∧ OB wr w.heap.size b m (prTo l j) ∧ Below w.heap.size w wr) (fun _ i _ => k - (intOf i).toNat)
  case atStart => exact ⟨0, 0, by omega, rfl, OB.nil _ _, Below.refl _ _⟩
  case round =>
    obtain ⟨j, m, hj, rfl, ho, hB⟩ := hrel
    by_cases h1 : j < k
    · obtain ⟨b, off, B', c', rfl, _, c0w, c1w, c2w, c3, c4, _⟩ := h.at_ (ed_some (l := l) (i := j) (by omega))
      have c0 := cell_later hB c0w
      have c1 := cell_later hB c1w
      have c2 := cell_later hB c2w
      have hm := ho.len
      have hml := HL.out j (by omega)
      have hxl := HM.out j h1
      have hs := prTo_succ l j
      have hsz := hB.size
      have hm2 : m ≤ 200000000 := by
        have : j * (12 + 100000) ≤ 1000 * (12 + 100000) := Nat.mul_le_mul_right _ (by omega)
        omega
      have HS := Lib.hid hs
      clear hs hm hml
      generalize ed l j = x at *
      generalize prTo l j = ys at *
      obtain ⟨f, t, bs⟩ := x
      simp only at c0 c1 c2 c3 c4 hxl HS c0w c1w c2w
      go_wp2_with (first
        | (at_builtin; refine wpList_app rfl (.tmp 11) (.tmp 17) rfl w.heap.size _ _ _ rfl hoa A1 4 k1 _ rfl ho1.reads (by omega) hBa.size ?_; intro v2 w2 ho hg hat; have hB := hBa.grown hg hBa.size (fun k hk => (hoa.own k hk).1); have c1 := cell_later hB c1w; have c2 := cell_later hB c2w; clear hg hat)
        | (at_builtin; refine wpList_app rfl (.tmp 19) (.tmp 25) rfl w.heap.size _ _ _ rfl hoa A1 4 k1 _ rfl ho1.reads (by omega) hBa.size ?_; intro v2 w2 ho hg hat; have hB := hBa.grown hg hBa.size (fun k hk => (hoa.own k hk).1); have c1 := cell_later hB c1w; have c2 := cell_later hB c2w; clear hg hat)
        | (at_builtin; refine wpList_app rfl (.tmp 27) (.tmp 34) rfl w.heap.size _ _ _ rfl hoa A1 4 k1 _ rfl ho1.reads (by omega) hBa.size ?_; intro v2 w2 ho hg hat; have hB := hBa.grown hg hBa.size (fun k hk => (hoa.own k hk).1); have c1 := cell_later hB c1w; have c2 := cell_later hB c2w; clear hg hat)
        | (at_builtin; refine wpList_app rfl (.tmp 36) (.tmp 41) rfl w.heap.size _ _ _ rfl ho B' bs.length c' bs rfl (c4.below hB) (by omega) hB.size ?_; intro v2 w2 ho4 hg4 hat4; have hB4 := hB.grown hg4 hB.size (fun k hk => (ho.own k hk).1))
        | (go_at_call 42; (with_reducible refine (four_any _ _).mono ?_); rintro e w1 ⟨A1, k1, rfl, ho1, hk1, hb1⟩; have hBa := below_then hB hB.size hb1; have hoa := ho.below hb1; have c1 := cell_later hBa c1w; have c2 := cell_later hBa c2w; clear hb1))
      go_roundw
      case rel => exact ⟨j + 1, _, by omega, by go_num, by rw [HS.out]; exact ho4, hB4⟩
      case measure => simp [intOf]; omega
    · obtain rfl : j = k := by omega
      go_wp2
      go_ret
      have hp : prL l = prTo l j := by unfold prL; rw [hlen]
      have hl := ho.len
      rw [hp, hl]
      exact NewB.of ho hB
end Go.Proofs.Ytgokompppadogaa
