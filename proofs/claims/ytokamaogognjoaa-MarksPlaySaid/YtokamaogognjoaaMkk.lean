/-
  MarksRoom.
-/
import Derived.Test.YtokamaogognjoaaMkI
set_option linter.unusedVariables false
set_option linter.unusedSimpArgs false
namespace Go.Proofs.Ytokamaogognjoaa
open Go.RowKit

set_option maxRecDepth 100000 in
theorem wrapM_range (n : Int) : 0 ≤ IntKind.u64.wrap n ∧ IntKind.u64.wrap n < 18446744073709551616 := by
  simp [IntKind.wrap, IntKind.signed, IntKind.bits]
  omega
set_option maxRecDepth 100000 in
theorem rem_modM (n : Nat) (x : Int) (h0 : 0 < n) : ∃ m : Nat, (IntKind.u64.wrap x).tmod (n : Int) = (m : Int) ∧ m < n := by
  have h1 := (wrapM_range x).1
  rw [Int.tmod_eq_emod_of_nonneg h1]
  have h2 := Int.emod_nonneg (IntKind.u64.wrap x) (show (n : Int) ≠ 0 by omega)
  have h3 := Int.emod_lt_of_pos (IntKind.u64.wrap x) (show 0 < (n : Int) by omega)
  exact ⟨(IntKind.u64.wrap x % (n : Int)).toNat, by omega, by omega⟩
/-- the blocks of a table and its tape: made since, and not the row's. -/
def RR (w : World) (v : Value) (k : Nat) : Prop := w.heap.size ≤ k ∧ ∀ j, v.ownBlock = some j → k ≠ j
/-- a table, its tape, and a row of pairs apart from them. -/
structure St (w : World) (v : Value) (n : Nat) (M : Prs) (g gt f : Nat) (L : Prs) (s : Tp) (W : World) : Prop where
  tm : Tm W (RR w v) g gt f L s
  bel : Below w.heap.size w W
  row : OPrs W w.heap.size v n M
section
variable {w W w' : World} {v : Value} {n g gt f : Nat} {M L : Prs} {s : Tp}
set_option maxRecDepth 100000 in
theorem St.below (h : St w v n M g gt f L s W) (hb : Below W.heap.size W w') : St w v n M g gt f L s w' := ⟨h.tm.below hb, below_two h.bel hb, h.row.below hb⟩
set_option maxRecDepth 100000 in
theorem St.next (h : St w v n M g gt f L s W) {L' : Prs} {s' : Tp} (ht : Tm w' (fun k => RR w v k ∨ W.heap.size ≤ k) g gt f L' s') (hc : Chg (RR w v) W w') : St w v n M g gt f L' s' w' := by
  have hz := h.bel.size
  refine ⟨ht.mono fun k _ hk => ?_, hc.toBelow h.bel hz (fun k hk => hk.1), hc.own h.row fun k e hk => hk.2 k e rfl⟩
  rcases hk with hk | hk
  · exact hk
  · exact ⟨by omega, fun j e => by have := (h.row.own j e).2; omega⟩
set_option maxRecDepth 100000 in
theorem St.tape (h : St w v n M g gt f L s W) {u : Value} {s' : Tp} {F : FuncId} {args : Array Value} (hc : ∀ Q, TpAt W Q gt s → Calls Try.prog F args W (TpPost u Q gt s' W)) : Calls Try.prog F args W (fun e w' => e = .returned u ∧ St w v n M g gt f L s' w') := by
  obtain ⟨P, Q, t1, t2, t3, t4, t5⟩ := id h.tm
  refine (hc Q t2).mono fun e w' hp => ?_
  obtain ⟨he, h1, h2⟩ := Tm.tape' t1 t2 t3 t4 t5 hp
  exact ⟨he, h.next h1 h2⟩
set_option maxRecDepth 100000 in
theorem St.add (h : St w v n M g gt f L s W) (hok : s.Ok 300000000) {A : Option Addr} {k c : Nat} {l : Prs} (hA : RPrs W A k l) (hk : L.length + l.length ≤ 3000) {x : Int} {L' : Prs} {s' : Tp} (hr : addR f L s l = (x, L', s')) :
    Calls Try.prog 10 #[.pointer (some ⟨g, 0, none⟩), .slice A k c] W (fun e w' => e = .returned (.int .i64 x) ∧ St w v n M g gt f L' s' w') := by
  have := tadd_any (RR w v) g gt f L s A k c l W h.tm hok hA hk
  rw [hr] at this
  refine this.mono fun e w' ⟨he, h1, h2⟩ => ⟨he, h.next h1 h2⟩
set_option maxRecDepth 100000 in
theorem St.pairs (h : St w v n M g gt f L s W) (hL : L.length ≤ 1000000) : Calls Try.prog 13 #[.pointer (some ⟨g, 0, none⟩)] W (fun e w' => ∃ A c, e = .returned (.slice A L.length c) ∧ RPrs w' A L.length L ∧ St w v n M g gt f L s w') := by
  obtain ⟨P, Q, h1, _⟩ := id h.tm
  exact (tbPairs_any P g gt f L W h1 hL).mono fun e w' ⟨A, c, he, ho, hc, hb⟩ => ⟨A, c, he, ho.reads, h.below hb⟩
set_option maxRecDepth 100000 in
theorem St.bytes (h : St w v n M g gt f L s W) (hl : s.b.length ≤ 1000000000) : Calls Try.prog 11 #[.pointer (some ⟨gt, 0, none⟩)] W (fun e w' => ∃ A c, e = .returned (.slice A s.b.length c) ∧ St w v n M g gt f L s w') := by
  obtain ⟨P, Q, h1, h2, _⟩ := id h.tm
  exact (tpBytes_any gt s Q W h2 hl).mono fun e w' ⟨A, c, he, ho, hc, hb⟩ => ⟨A, c, he, h.below hb⟩
end
set_option maxRecDepth 100000 in
set_option maxHeartbeats 8000000 in
theorem room_walk (x : Int) (w : World) (hx : (Lit.int .i64 x).wf = true) : Calls Try.prog 4 #[.int .i64 x] w (BoolP true w) := by
  obtain ⟨N, hN, N1⟩ : ∃ N : Nat, (IntKind.u64.wrap x).tmod 10 = (N : Int) ∧ N < 10 := rem_modM 10 x (by omega)
  go_enter Try.func4, Try.ntmps4
  go_upto_region 2 with fail
  clear hN
  go_wp2_with (first
    | (go_at_call 7; (with_reducible refine (tpNew_any (14 + 40 * (N : Int) + 13) _).mono ?_); rintro e w1 ⟨gt, rfl, hz1, ht1, hb1⟩)
    | (go_at_call 8; (with_reducible refine (open_new _ _ _ _ ht1).mono ?_); rintro e w2 ⟨g, rfl, hz2, t2, c2⟩))
  have hb2 := c2.toBelow hb1 hb1.size (fun k e => by omega)
  have hzz := hb1.size
  have T2 : Tm w2 (fun k => w.heap.size ≤ k ∧ k < w2.heap.size) g gt 0 [] (Tp.clean [] (min (max (14 + 40 * (N : Int) + 13) 0) 16777216) 0) := t2.mono fun k hk h => ⟨by rcases h with h | h | h <;> omega, hk⟩
  rw [show min (max (14 + 40 * (N : Int) + 13) 0) 16777216 = 27 + 40 * (N : Int) from by omega] at T2
  clear t2 c2 ht1
  go_loopw [6, 7] (fun v i wr => ∃ j : Nat, j ≤ N + 1 ∧ i = .int .i64 j ∧ OPrs wr w2.heap.size v j (lst j) ∧ Below w2.heap.size w2 wr) (fun _ i _ => N + 1 - (intOf i).toNat)
  case atStart => exact ⟨0, by omega, rfl, OPrs.nil _ _, Below.refl _ _⟩
  case round =>
    obtain ⟨j, hj, rfl, hown, hb⟩ := hrel
    obtain ⟨A6, c6, rfl, hc6⟩ := hown.slice
    by_cases h1 : j ≤ N
    · have j1 : (j : Int) ≤ (N : Int) := by omega
      have hwj : IntKind.u8.wrap (j : Int) = (j : Int) := by simp [IntKind.wrap, IntKind.signed, IntKind.bits]; omega
      have hq := qi_pr (i := j) (by omega)
      have hbq : ∀ W, (bldPr #[(0, .agg (bv (idc 1 j)).toArray), (1, .agg (bv (idc 2 j)).toArray)]).run Try.prog W = .ok (ida (qi j)) W := fun W => run_bldPr W _ _ (idc_id (by omega) (by omega)) (idc_id (by omega) (by omega))
      have HS := Lib.hid (lst_succ j)
      generalize qi j = q at *
      go_wp2_with (at_builtin; refine wpList_appPrs rfl (.tmp 27) (.tmp 35) rfl w2.heap.size (.slice A6 j c6) j (lst j) rfl (hown.alloc _) (some ⟨wr.heap.size, 0, none⟩) 1 1 [q] rfl (RPrs.one (Blk.new wr _ _) hq) ?c1 ?c2 ?_)
      case c1 => omega
      case c2 => have := hb.size; simp; omega
      intro v' w3 ho3 hg3 hat3
      have hba := hb.alloc hb.size (.cells (bv q).toArray 27)
      have hb3 := hba.grown hg3 hba.size (fun k e => (hown.own k e).1)
      go_wp2
      go_roundw
      case rel => exact ⟨j + 1, by omega, by go_num, by rw [HS.out]; exact ho3, hb3⟩
      case measure => simp [intOf]; omega
    · obtain rfl : j = N + 1 := by omega
      have j1 : ¬ ((N : Int) + 1 ≤ (N : Int)) := by omega
      have hbw := below_two hb2 hb
      have hz2' := hb2.size
      have S0 : St w (.slice A6 (N + 1) c6) (N + 1) (lst (N + 1)) g gt 0 [] (Tp.clean [] (27 + 40 * (N : Int)) 0) wr :=
        ⟨(T2.below hb).mono fun k _ hk => ⟨hk.1, fun j e => by have := (hown.own j e).1; have := hk.2; omega⟩, hbw, hown.lower hz2'⟩
      have hA1 : AllPr (lst (N + 1)) := lst_all (by omega)
      have hA0 : AllPr (lst N) := lst_all (by omega)
      have f1 := (good_lst (k := N + 1) (by omega) (by omega)).fresh
      have e1 : addR 0 [] (Tp.clean [] (27 + 40 * (N : Int)) 0) (lst (N + 1)) = (14, [], Tp.clean [] (27 + 40 * (N : Int)) 0) := by
        refine addR_full (by rw [f1]) (by rw [f1]; exact (good_lst (k := N + 1) (by omega) (by omega)).ne) ?_
        rw [f1]
        simp only
        rw [pack_len1 hA1, lst_len]
        simp [frL]
        omega
      have ok0 : (Tp.clean [] (27 + 40 * (N : Int)) 0).Ok 300000000 := clean_ok GoodL.nil (by omega) (by omega) (by simp [frL]) (by omega)
      have HAW := Lib.hid (fun W => awake26_any W)
      have H1 := Lib.hid (show ∀ W, St w (.slice A6 (N + 1) c6) (N + 1) (lst (N + 1)) g gt 0 [] (Tp.clean [] (27 + 40 * (N : Int)) 0) W → Calls Try.prog 10 #[.pointer (some ⟨g, 0, none⟩), .slice A6 (N + 1) c6] W (fun e w' => e = .returned (.int .i64 14) ∧ St w (.slice A6 (N + 1) c6) (N + 1) (lst (N + 1)) g gt 0 [] (Tp.clean [] (27 + 40 * (N : Int)) 0) w') from fun W h => h.add ok0 h.row.reads (by rw [lst_len]; simp; omega) e1)
      have HP0 := Lib.hid (show ∀ W, St w (.slice A6 (N + 1) c6) (N + 1) (lst (N + 1)) g gt 0 [] (Tp.clean [] (27 + 40 * (N : Int)) 0) W → Calls Try.prog 13 #[.pointer (some ⟨g, 0, none⟩)] W (fun e w' => ∃ A c, e = .returned (.slice A 0 c) ∧ RPrs w' A 0 [] ∧ St w (.slice A6 (N + 1) c6) (N + 1) (lst (N + 1)) g gt 0 [] (Tp.clean [] (27 + 40 * (N : Int)) 0) w') from fun W h => h.pairs (by simp))
      have HB0 := Lib.hid (show ∀ W, St w (.slice A6 (N + 1) c6) (N + 1) (lst (N + 1)) g gt 0 [] (Tp.clean [] (27 + 40 * (N : Int)) 0) W → Calls Try.prog 11 #[.pointer (some ⟨gt, 0, none⟩)] W (fun e w' => ∃ A c, e = .returned (.slice A 0 c) ∧ St w (.slice A6 (N + 1) c6) (N + 1) (lst (N + 1)) g gt 0 [] (Tp.clean [] (27 + 40 * (N : Int)) 0) w') from fun W h => h.bytes (by simp [Tp.clean, frL]))
      have HP3 := Lib.hid (show ∀ W (s : Tp), St w (.slice A6 (N + 1) c6) (N + 1) (lst (N + 1)) g gt 0 (lst (N + 1)) s W → Calls Try.prog 13 #[.pointer (some ⟨g, 0, none⟩)] W (fun e w' => ∃ A c, e = .returned (.slice A (N + 1) c) ∧ RPrs w' A (N + 1) (lst (N + 1)) ∧ St w (.slice A6 (N + 1) c6) (N + 1) (lst (N + 1)) g gt 0 (lst (N + 1)) s w') from fun W s h => by have := h.pairs (by rw [lst_len]; omega); rwa [lst_len] at this)
      have HPL := Lib.hid (show ∀ W (A : Option Addr) (c : Nat), RPrs W A (N + 1) (lst (N + 1)) → RPrs W A6 (N + 1) (lst (N + 1)) → Calls Try.prog 12 #[.slice A (N + 1) c, .slice A6 (N + 1) c6] W (BoolP true W) from fun W A c h h' => by have := plainP_any A A6 (N + 1) (N + 1) c c6 _ _ W h h' (by omega) (by omega); rwa [decide_eq_true rfl] at this)
      unfold BoolP at HAW HPL
      have f3 := fresh_next N (by omega)
      have mk3 : ∀ ls : List Prs, GoodL ls → (frL ls).length ≤ 1000 → addR 0 (lst N) (Tp.clean ls 100000 0) (lst (N + 1)) = (0, lst (N + 1), Tp.clean (ls ++ [[qi N]]) 100000 0) := fun ls hg hl => by
        have := addR_ok (L := lst N) (ls := ls) (r := 100000) (f := 0) (l := lst (N + 1)) (by rw [f3]) (by rw [f3]; simp) (by
          rw [f3]
          simp only
          rw [pack_len1 (AllPr.one (qi_pr (by omega)))]
          simp
          omega)
        rw [f3] at this
        simp only at this
        rw [← lst_succ] at this
        exact this
      have hwM : True := trivial
      by_cases hN0 : N = 0
      · have hE : lst N = [] := by rw [hN0]; rfl
        have hg0 : GoodL [] := GoodL.nil
        have hl0 : (frL []).length ≤ 1000 := by simp [frL]
        have e3 := mk3 [] hg0 hl0
        have hpos : ¬ (0 : Int) < (N : Int) := by omega
        clear hN0
        have HRM := Lib.hid (show ∀ W, St w (.slice A6 (N + 1) c6) (N + 1) (lst (N + 1)) g gt 0 [] (Tp.clean [] (27 + 40 * (N : Int)) 0) W → Calls Try.prog 14 #[.pointer (some ⟨gt, 0, none⟩), .int .i64 100000] W (fun e w' => e = .returned (.tuple #[]) ∧ St w (.slice A6 (N + 1) c6) (N + 1) (lst (N + 1)) g gt 0 (lst N) (Tp.clean [] 100000 0) w') from fun W h => by rw [hE]; exact h.tape fun Q t => tpRoom_any gt _ Q 100000 W t)
        have H3 := Lib.hid (show ∀ W, St w (.slice A6 (N + 1) c6) (N + 1) (lst (N + 1)) g gt 0 (lst N) (Tp.clean [] 100000 0) W → Calls Try.prog 10 #[.pointer (some ⟨g, 0, none⟩), .slice A6 (N + 1) c6] W (fun e w' => e = .returned (.int .i64 0) ∧ St w (.slice A6 (N + 1) c6) (N + 1) (lst (N + 1)) g gt 0 (lst (N + 1)) (Tp.clean ([] ++ [[qi N]]) 100000 0) w') from fun W h => h.add (clean_ok hg0 (by omega) (by omega) (by omega) (by omega)) h.row.reads (by rw [lst_len, lst_len]; omega) e3)
        have nz : N ≤ 9 := by omega
        clear e1 ok0 f1 f3 mk3 e3 hg0 hl0 hA0 hA1 hwM T2 hE
        generalize lst (N + 1) = M at *
        generalize lst N = M0 at *
        go_wp2_with (first
          | (go_at_call 9; (with_reducible refine (HAW.out _).mono ?_); rintro e wa ⟨rfl, hba⟩; have Sa := S0.below hba)
          | (go_at_call 10; (with_reducible refine (H1.out _ Sa).mono ?_); rintro e wb ⟨rfl, S1⟩)
          | (go_at_call 13; (with_reducible refine (HP0.out _ S1).mono ?_); rintro e wc ⟨A2, c2', rfl, r2, S2⟩)
          | (go_at_call 11; (with_reducible refine (HB0.out _ S2).mono ?_); rintro e wd ⟨A3, c3, rfl, S3⟩)
          | (go_at_call 14; (with_reducible refine (HRM.out _ S3).mono ?_); rintro e w7 ⟨rfl, S7⟩)
          | (go_at_call 10; (with_reducible refine (H3.out _ S7).mono ?_); rintro e w8 ⟨rfl, S8⟩)
          | (go_at_call 13; (with_reducible refine (HP3.out _ _ S8).mono ?_); rintro e w9 ⟨A9, c9, rfl, r9, S9⟩)
          | (go_at_call 12; (with_reducible refine (HPL.out _ _ _ r9 S9.row.reads).mono ?_); rintro e w10 ⟨rfl, hb10⟩))
        go_ret
        exact ⟨rfl, below_two S9.bel hb10⟩
      · have hpos : (0 : Int) < (N : Int) := by omega
        have f2 := (good_lst (k := N) (by omega) (by omega)).fresh
        have hg0 : GoodL [lst N] := GoodL.nil.snoc (ls := []) (good_lst (by omega) (by omega))
        have hl0 : (frL [lst N]).length ≤ 1000 := by rw [frL_one, pack_len1 hA0, lst_len]; omega
        have e3 := mk3 [lst N] hg0 hl0
        have e2 : addR 0 [] (Tp.clean [] (27 + 40 * (N : Int)) 0) (lst N) = (0, lst N, Tp.clean [lst N] (27 + 40 * (N : Int)) 0) := by
          have := addR_ok (L := []) (ls := []) (r := 27 + 40 * (N : Int)) (f := 0) (l := lst N) (by rw [f2]) (by rw [f2]; exact (good_lst (k := N) (by omega) (by omega)).ne) (by
            rw [f2]
            simp only
            rw [pack_len1 hA0, lst_len]
            simp [frL]
            omega)
          rw [f2] at this
          exact this
        have H2 := Lib.hid (show ∀ W, St w (.slice A6 (N + 1) c6) (N + 1) (lst (N + 1)) g gt 0 [] (Tp.clean [] (27 + 40 * (N : Int)) 0) W → Calls Try.prog 10 #[.pointer (some ⟨g, 0, none⟩), .slice A6 N c6] W (fun e w' => e = .returned (.int .i64 0) ∧ St w (.slice A6 (N + 1) c6) (N + 1) (lst (N + 1)) g gt 0 (lst N) (Tp.clean [lst N] (27 + 40 * (N : Int)) 0) w') from fun W h => h.add ok0 (by have := h.row.reads.take (k := N) (by omega); rwa [lst_take (by omega)] at this) (by rw [lst_len]; simp; omega) e2)
        have hcN : ∀ W, (Instr.slice 23 (.slice A6 (N + 1) c6) none (some (.int .i64 (N : Int))) none).run Try.prog W = .ok (.slice A6 N c6) W := fun W => by
          have := run_cut_h W 23 27 40 A6 (N + 1) c6 underPrs sizePr .i64 (N : Int) (by omega) (by omega)
          simpa using this
        clear f2 e2
        have HRM := Lib.hid (show ∀ W, St w (.slice A6 (N + 1) c6) (N + 1) (lst (N + 1)) g gt 0 (lst N) (Tp.clean [lst N] (27 + 40 * (N : Int)) 0) W → Calls Try.prog 14 #[.pointer (some ⟨gt, 0, none⟩), .int .i64 100000] W (fun e w' => e = .returned (.tuple #[]) ∧ St w (.slice A6 (N + 1) c6) (N + 1) (lst (N + 1)) g gt 0 (lst N) (Tp.clean [lst N] 100000 0) w') from fun W h => h.tape fun Q t => tpRoom_any gt _ Q 100000 W t)
        have H3 := Lib.hid (show ∀ W, St w (.slice A6 (N + 1) c6) (N + 1) (lst (N + 1)) g gt 0 (lst N) (Tp.clean [lst N] 100000 0) W → Calls Try.prog 10 #[.pointer (some ⟨g, 0, none⟩), .slice A6 (N + 1) c6] W (fun e w' => e = .returned (.int .i64 0) ∧ St w (.slice A6 (N + 1) c6) (N + 1) (lst (N + 1)) g gt 0 (lst (N + 1)) (Tp.clean ([lst N] ++ [[qi N]]) 100000 0) w') from fun W h => h.add (clean_ok hg0 (by omega) (by omega) (by omega) (by omega)) h.row.reads (by rw [lst_len, lst_len]; omega) e3)
        have nz : N ≤ 9 := by omega
        clear e1 ok0 f1 f3 mk3 e3 hg0 hl0 hA0 hA1 hwM T2
        generalize lst (N + 1) = M at *
        generalize lst N = M0 at *
        go_wp2_with (first
          | (go_at_call 9; (with_reducible refine (HAW.out _).mono ?_); rintro e wa ⟨rfl, hba⟩; have Sa := S0.below hba)
          | (go_at_call 10; (with_reducible refine (H1.out _ Sa).mono ?_); rintro e wb ⟨rfl, S1⟩)
          | (go_at_call 13; (with_reducible refine (HP0.out _ S1).mono ?_); rintro e wc ⟨A2, c2', rfl, r2, S2⟩)
          | (go_at_call 11; (with_reducible refine (HB0.out _ S2).mono ?_); rintro e wd ⟨A3, c3, rfl, S3⟩)
          | (go_at_call 10; (with_reducible refine (H2.out _ S3).mono ?_); rintro e we ⟨rfl, S4⟩)
          | (go_at_call 14; (with_reducible refine (HRM.out _ S4).mono ?_); rintro e w7 ⟨rfl, S7⟩)
          | (go_at_call 10; (with_reducible refine (H3.out _ S7).mono ?_); rintro e w8 ⟨rfl, S8⟩)
          | (go_at_call 13; (with_reducible refine (HP3.out _ _ S8).mono ?_); rintro e w9 ⟨A9, c9, rfl, r9, S9⟩)
          | (go_at_call 12; (with_reducible refine (HPL.out _ _ _ r9 S9.row.reads).mono ?_); rintro e w10 ⟨rfl, hb10⟩))
        go_ret
        exact ⟨rfl, below_two S9.bel hb10⟩
end Go.Proofs.Ytokamaogognjoaa
