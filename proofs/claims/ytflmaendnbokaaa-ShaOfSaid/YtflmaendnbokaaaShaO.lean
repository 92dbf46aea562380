/-
  'trestlelaw02.ShaOf'.
-/
import Derived.Test.YtflmaendnbokaaaShaL
import Derived.Test.YtflmaendnbokaaaOwn
import Derived.Test.YtflmaendnbokaaaInts
set_option linter.unusedVariables false
set_option linter.unusedSimpArgs false
namespace Go.Proofs.Ytflmaendnbokaaa
open Go.RowKit

/-- a row of parts of the call's own: each part is read in an elder world. -/
def OPs (W0 w : World) (v : Value) (k : Nat) (ps : List (List Int)) : Prop :=
  ∃ cs : List Value, w.ownsRow W0.heap.size 22 1 v k cs ∧ ps.length = k ∧ ∀ i, i < k → ∃ Ai ci, cs[i]? = some (.slice Ai (ps.getD i []).length ci) ∧ (ps.getD i []).length ≤ ci ∧ RB W0 Ai (ps.getD i []).length (ps.getD i [])
theorem OPs.nil (W0 w : World) : OPs W0 w (.slice none 0 0) 0 [] := ⟨[], World.ownsRow_nil w _ 22 1, rfl, fun i hi => absurd hi (by omega)⟩
theorem OPs.own {W0 w : World} {v : Value} {k : Nat} {ps : List (List Int)} (h : OPs W0 w v k ps) : ∀ b, v.ownBlock = some b → W0.heap.size ≤ b ∧ b < w.heap.size := by
  obtain ⟨cs, h1, _⟩ := h
  exact h1.lt
theorem OPs.later {W0 w w' : World} {v : Value} {k : Nat} {ps : List (List Int)} (h : OPs W0 w v k ps) (hb : Below w.heap.size w w') : OPs W0 w' v k ps := by
  obtain ⟨cs, h1, h2, h3⟩ := h
  exact ⟨cs, h1.kept (grown_below hb none) (by cases v.ownBlock <;> simp), h2, h3⟩
theorem OPs.slice {W0 w : World} {v : Value} {k : Nat} {ps : List (List Int)} (h : OPs W0 w v k ps) (hb : Below W0.heap.size W0 w) : ∃ A c, v = .slice A k c ∧ k ≤ c ∧ RBs w A k ps := by
  obtain ⟨cs, h1, h2, h3⟩ := h
  rcases h1.2 with ⟨h0, h4⟩ | ⟨g, cap, cur, h4, h5, h6, h7, h8, h9, h10⟩
  · subst h4
    exact ⟨none, 0, h0, Nat.le_refl _, by rw [List.eq_nil_of_length_eq_zero h2]; exact RBs.none w⟩
  · refine ⟨_, cap, h4, h7, h2, g, 0, fun _ => rfl, fun i hi => ?_⟩
    obtain ⟨Ai, ci, h11, h12, h13⟩ := h3 i hi
    refine ⟨Ai, ci, ?_, h12, h13.below hb⟩
    rw [cell_of_row w g _ cur 22 (0, 0) h6, Nat.zero_add, ← h11, ← h10]
    rw [Nat.mul_one, List.getElem?_take, if_pos hi]
    simp
theorem partInfo : (Try.prog.info? 22).map (fun i => (i.zero, i.size, i.bytes)) = some (some (.slice none 0 0), 1, 24) := by kernel_rfl
theorem under31 : Try.prog.underlying 31 = some (.slice 22) := by kernel_rfl
/-- 'append' of a part. -/
theorem wpList_appPart {ops : Array Oper} {rest : List Oper} {o : Oper} {a : Act} {Q : Exit → Act → World → Prop} {w : World} (hgd : o.guard = none) (s x : Operand)
    (ho : o.op = .call { callee := .builtin .append, args := #[s, x], argTypes := #[31, 31] })
    (W0 : World) (v : Value) (k : Nat) (ps : List (List Int)) (hs : a.eval s = v) (hown : OPs W0 w v k ps) (g : Nat) (A : Option Addr) (n c : Nat) (xs : List Int)
    (hx : a.eval x = .slice (some ⟨g, 0, none⟩) 1 1) (hg : Blk w g 22 #[.slice A n c]) (hr : RB W0 A n xs) (hnc : n ≤ c) (hk : k ≤ 1000000) (hbase : W0.heap.size ≤ w.heap.size)
    (h : ∀ v' w', OPs W0 w' v' (k + 1) (ps ++ [xs]) → w.grownBy w' v.ownBlock → wpList Try.prog ops Q rest (a.put o.dst v') w') : wpList Try.prog ops Q (o :: rest) a w := by
  obtain ⟨i0, hi, hz0, hz1, hz2⟩ := info_parts partInfo
  obtain ⟨cs, h1, h2, h3⟩ := hown
  have hcl := h1.1
  refine wpList_plain hgd fun _ hK => wp_append_any w s x 31 ho W0.heap.size 22 i0 _ 1 24 under31 hi hz0 hz1 hz2 rfl (by omega) v k cs hs h1 (some ⟨g, 0, none⟩) 1 1 [.slice A n c] hx
    ⟨rfl, fun _ => ⟨_, rfl, fun j u hj => ?_⟩⟩ (by simp [Value.oneCell']) (by simp only [maxLen]; omega) (by omega) hbase fun v' w' h4 h5 h6 => hK _ _ (h v' w' ⟨_, h4, by simp [h2], fun i hi => ?_⟩ h5)
  · rw [add_plain, Nat.zero_add, hg.cell]
    simpa using hj
  · rw [Nat.mul_one] at hcl
    by_cases hik : i < k
    · obtain ⟨Ai, ci, h7, h8, h9⟩ := h3 i hik
      refine ⟨Ai, ci, ?_⟩
      have e : (ps ++ [xs]).getD i [] = ps.getD i [] := by simp [List.getD_eq_getElem?_getD, List.getElem?_append, h2, hik]
      rw [e]
      exact ⟨by rw [List.getElem?_append_left (by omega)]; exact h7, h8, h9⟩
    · obtain rfl : i = k := by omega
      have e : (ps ++ [xs]).getD i [] = xs := by simp [List.getD_eq_getElem?_getD, List.getElem?_append, h2]
      have hl := hr.len
      rw [e, hl]
      exact ⟨A, c, by rw [List.getElem?_append_right (by omega), hcl]; simp, hnc, hr⟩

/-- a load of an id, for a fact of the proof to answer. -/
noncomputable def loadId (p : Addr) : Sem Value := loadVar 34 p
@[go_sem ↓ high] theorem loadVar_id (p : Addr) : loadVar 34 p = loadId p := rfl
theorem run_load_id (w : World) (g : Nat) (xs : List Int) (h : Blk w g 34 (bv xs).toArray) (hl : xs.length = 20) : (loadId ⟨g, 0, none⟩).run Try.prog w = .ok (idv xs) w :=
  run_loadVar_row w g _ 34 _ _ _ h idTy rfl (by rw [bvArr_size, hl]; exact idSize)
theorem cut_mod (n at' : Nat) (x : Int) (h : at' ≤ n) (hn : n ≤ 2000) : ∃ m : Nat, (IntKind.u64.wrap x).tmod ((n : Int) - at' + 1) = (m : Int) ∧ at' + m ≤ n := by
  have h0 := (wrap64_range x).1
  rw [Int.tmod_eq_emod_of_nonneg h0]
  have h1 := Int.emod_nonneg (IntKind.u64.wrap x) (show ((n : Int) - at' + 1) ≠ 0 by omega)
  have h2 := Int.emod_lt_of_pos (IntKind.u64.wrap x) (show 0 < ((n : Int) - at' + 1) by omega)
  exact ⟨(IntKind.u64.wrap x % ((n : Int) - at' + 1)).toNat, by omega, by omega⟩

set_option maxHeartbeats 2000000 in
theorem shaOf_walk (A : Option Addr) (n c : Nat) (xs : List Int) (B : Option Addr) (m d : Nat) (cs : List Int) (w : World) (h : RB w A n xs) (hnc : n ≤ c) (h' : RI w B m cs) (hmd : m ≤ d) :
    Calls Try.prog 4 #[.slice A n c, .slice B m d] w (fun e w' => e = .returned (.bool true) ∧ Below w.heap.size w w') := by
  by_cases hbig : 2000 < n ∨ 12 < m
  · by_cases hb1 : 2000 < n
    · have e1 : (2000 : Int) < n := by omega
      go_enter Try.func4, Try.ntmps4
      go_wp2_with (go_at_call 12; (with_reducible refine (awake02_any _).mono ?_); rintro e w1 ⟨rfl, hb1⟩)
      go_ret
      exact ⟨rfl, hb1⟩
    · have e1 : ¬ ((2000 : Int) < n) := by omega
      have e2 : (12 : Int) < m := by omega
      go_enter Try.func4, Try.ntmps4
      go_wp2_with (go_at_call 12; (with_reducible refine (awake02_any _).mono ?_); rintro e w1 ⟨rfl, hb1⟩)
      go_ret
      exact ⟨rfl, hb1⟩
  · have hn : n ≤ 2000 := by omega
    have hm : m ≤ 12 := by omega
    have e1 : ¬ ((2000 : Int) < n) := by omega
    have e2 : ¬ ((12 : Int) < m) := by omega
    have hl := h.len
    have hown := own_any A n c xs 71 w h (by omega) (by omega) (by omega)
    go_enter Try.func4, Try.ntmps4
    go_wp2_with (go_at_call 13; (with_reducible refine hown.mono ?_); rintro e w1 ⟨g, rfl, ho, hb1⟩)
    have hr := h.below hb1
    have hi := h'.below hb1
    have hrw := ho.reads h.byts
    go_loopw [6, 7, 8] (fun v a i wr => ∃ j p : Nat, ∃ ps : List (List Int), j ≤ m ∧ i = .int .i64 j ∧ p ≤ n ∧ a = .int .i64 p ∧ OPs w1 wr v j ps ∧ ps.flatten = xs.take p ∧ Below w1.heap.size w1 wr) (fun _ _ i _ => m - (intOf i).toNat)
    case atStart => exact ⟨0, 0, [], by omega, rfl, by omega, rfl, OPs.nil _ _, by simp, Below.refl _ _⟩
    case round =>
      obtain ⟨j, p, ps, hj, rfl, hp, rfl, hps, hfl, hb⟩ := hrel
      by_cases h1 : j < m
      · obtain ⟨b, o, rfl, hcells⟩ := hi.plain (by omega)
        have cj := hcells j h1
        have cj := (hb.cell (World.block_lt_of_cell? _ _ cj)).trans cj
        obtain ⟨q, hq1, hq2⟩ := cut_mod n p (gi cs j) hp hn
        have HQ := Lib.hid hq1
        clear hq1
        have w1' : IntKind.u64.wrap ((n : Int) - p + 1) = (n : Int) - p + 1 := IntWalk.u64_in _ (by omega)
        have w2' : wrap64 (q : Int) = q := by unfold wrap64; omega
        have nz : ((n : Int) - p + 1 == 0) = false := beq_eq_false_iff_ne.2 (by omega)
        have q0 : (0 : Int) ≤ p := by omega
        have q1 : (p : Int) ≤ (p : Int) + q := by omega
        have q2 : (p : Int) + q ≤ (n : Int) + 3 := by omega
        have q3 : ((p : Int) + q).toNat = p + q := by omega
        have q4 : p + q - p = q := by omega
        have hpart : RB w1 (cutA (some ⟨g, 0, none⟩) (n + 3) p) q ((xs.take (p + q)).drop p) := by
          have := hrw.mid (c := n + 3) (l := p) (k := p + q) (by omega) (by omega) (by omega)
          rwa [q4] at this
        have hflat : (ps ++ [(xs.take (p + q)).drop p]).flatten = xs.take (p + q) := by
          rw [List.flatten_append, hfl, List.flatten_cons, List.flatten_nil, List.append_nil]
          have : xs.take p = (xs.take (p + q)).take p := by rw [List.take_take, Nat.min_eq_left (by omega)]
          rw [this, List.take_append_drop]
        have hq1 := HQ.out
        clear HQ
        have hz1 := hb.size
        go_wp2_with (at_builtin; refine wpList_appPart rfl (.tmp 41) (.tmp 48) rfl w1 _ j ps rfl (hps.later ((Below.refl _ _).alloc (Nat.le_refl _) _)) wr.heap.size _ q _ _ rfl (Blk.new wr 22 _) hpart (by omega) (by omega) (by simp; omega) ?_)
        intro v2 w2 hps2 hg2
        have hb2 : Below w1.heap.size w1 w2 := (hb.alloc hb.size _).grown hg2 (by simp; omega) (fun k hk => (hps.own k hk).1)
        go_wp2
        go_roundw
        case rel => exact ⟨j + 1, p + q, _, by omega, by go_num, by omega, by go_num, hps2, hflat, hb2⟩
        case measure => simp [intOf]; omega
      · have q0 : (0 : Int) ≤ p := by omega
        have q2 : (p : Int) ≤ n := by omega
        have hz1 := hb.size
        have hpart : RB w1 (cutA (some ⟨g, 0, none⟩) (n + 3) p) (n - p) (xs.drop p) := hrw.cut (c := n + 3) (k := p) (by omega) (by omega)
        have hflat : (ps ++ [xs.drop p]).flatten = xs := by
          rw [List.flatten_append, hfl, List.flatten_cons, List.flatten_nil, List.append_nil, List.take_append_drop]
        go_wp2_with (at_builtin; refine wpList_appPart rfl (.tmp 53) (.tmp 57) rfl w1 _ j ps rfl (hps.later ((Below.refl _ _).alloc (Nat.le_refl _) _)) wr.heap.size _ (n - p) _ _ rfl (Blk.new wr 22 _) hpart (by omega) (by omega) (by simp; omega) ?_)
        intro v2 w2 hps2 hg2
        have hb2 : Below w1.heap.size w1 w2 := (hb.alloc hb.size _).grown hg2 (by simp; omega) (fun k hk => (hps.own k hk).1)
        obtain ⟨A', c', hv, hk', hrbs⟩ := hps2.slice hb2
        subst hv
        have hsum := sum_any A' (j + 1) c' _ w2 hrbs hk' (by omega) (by rw [hflat, hl]; omega)
        rw [hflat] at hsum
        have href := fun (W : World) (hW : RB W A n xs) => refsum_any A n c xs W hW hnc (by omega)
        unfold SumPost at hsum href
        have hid := isId_sha xs
        generalize sha1 xs = X at *
        have heq := fun W => idv_eql hid hid W
        rw [beq_self_eq_true] at heq
        have hzX : (Try.prog.info? 34).map (·.size) = some (bv X).toArray.size := by rw [bvArr_size, hid.1]; exact idSize
        have hsX : zid.size = (bv X).toArray.size := by rw [bvArr_size, hid.1]; rfl
        go_wp2_with (first
          | (go_at_call 14; (with_reducible refine hsum.mono ?_); rintro e w3 ⟨rfl, hb3⟩)
          | ((with_reducible refine st_row 34 10 59 w3.heap.size 34 (bv X).toArray zid ?_ ?_ ?_ hzX hsX (bvArr_all X) ?_); rfl; rfl; exact (Blk.new w3 34 zid); intro w4 hb4 hg4 hsz4))
        have hz2 := hb2.size
        have hz3 := hb3.size
        have hb14 : Below w1.heap.size w1 w4 := ((below_then hb2 hb2.size hb3).alloc (by omega) _).grown hg4 (by simp; omega) (fun k hk => by cases hk; omega)
        have hr4 := hr.below hb14
        have ho4 := ho.below hb14
        have hlt4 := hb4.lt
        go_region_with (first
          | (go_at_call 12; (with_reducible refine (awake02_any _).mono ?_); rintro e w5 ⟨rfl, hb5⟩; have hB5 := (hb4.drewN 1).below hb5 hlt4; have hld := run_load_id w5 w3.heap.size X hB5 hid.1; have hr5 : RB w5 A n xs := RB.below (w := w4.drew) hr4 hb5; have ho5 : OwnB w5 w.heap.size g n xs 71 := OwnB.below (w := w4.drew) ho4 hb5)
          | (go_at_call 15; (with_reducible refine (href _ hr5).mono ?_); rintro e w6 ⟨rfl, hb6⟩; have hld6 := run_load_id w6 w3.heap.size X (hB5.below hb6 hB5.lt) hid.1; have hk6 := kept_any w.heap.size g n c A xs 71 w6 (ho5.below hb6) h.byts (hr5.below hb6) (by omega))
          | (go_at_call 16; (with_reducible refine hk6.mono ?_); rintro e w7 ⟨rfl, q7, rfl⟩))
        all_goals
          go_wp2
          go_ret
          have hs5 := hb5.size
          have hs6 := hb6.size
          have hs1 := hb1.size
          have hs4 := hb14.size
          refine ⟨rfl, below_drewN ?_ q7⟩
          have hs45 : w4.heap.size ≤ w5.heap.size := hs5
          exact below_then (below_then (below_drewN (below_then hb1 hs1 hb14) 1) (show w.heap.size ≤ w4.heap.size by omega) hb5) (by omega) hb6
end Go.Proofs.Ytflmaendnbokaaa
