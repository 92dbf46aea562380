/-
  DeltaOrder's walk.
-/
import Derived.Test.YtflmaendnbokaaaDlt4
import Derived.Test.YtflmaendnbokaaaInts
set_option linter.unusedVariables false
set_option linter.unusedSimpArgs false
namespace Go.Proofs.Ytflmaendnbokaaa
open Go.RowKit

theorem SEs.one {W0 w : World} {g : Nat} {f t : Int} {B : Option Addr} {n c : Nat} {xs : List Int} (hb : Blk w g 28 #[.int .i64 f, .int .i64 t, .slice B n c]) (h : RB W0 B n xs) (hc : n ≤ c) : SEs W0 w (some ⟨g, 0, none⟩) 1 [⟨f, t, xs⟩] :=
  ⟨_, EdC.one f t h hc, rfl, rfl, fun _ => ⟨_, rfl, fun j u hj => by rw [add_plain, Nat.zero_add, hb.cell]; simpa using hj⟩⟩
theorem OEs.one {W0 w : World} {base g : Nat} {f t : Int} {B : Option Addr} {n c : Nat} {xs : List Int} (hg : base ≤ g) (hb : Blk w g 28 #[.int .i64 f, .int .i64 t, .slice B n c]) (h : RB W0 B n xs) (hc : n ≤ c) : OEs W0 w base (.slice (some ⟨g, 0, none⟩) 1 1) 1 [⟨f, t, xs⟩] :=
  ⟨_, EdC.one f t h hc, rfl, rfl, .inr ⟨g, 1, _, rfl, hg, hb, Nat.le_refl _, by simp [maxLen], rfl, rfl⟩⟩
theorem ed_bound {bl : List Ed} {M : Nat} (h : ∀ y ∈ bl, y.b.length ≤ M) (i : Nat) : (ed bl i).b.length ≤ M := by
  unfold ed
  rw [List.getD_eq_getElem?_getD]
  rcases Nat.lt_or_ge i bl.length with hi | hi
  · rw [List.getElem?_eq_getElem hi]
    exact h _ (List.getElem_mem hi)
  · rw [List.getElem?_eq_none hi]
    exact Nat.zero_le _
theorem ed_mem {l : List Ed} {y : Ed} (h : y ∈ l) : ∃ i, i < l.length ∧ y = ed l i := by
  obtain ⟨i, hi, rfl⟩ := List.mem_iff_getElem.1 h
  exact ⟨i, hi, by simp [ed, hi]⟩
theorem SEs.below {W0 w w' : World} {A : Option Addr} {n : Nat} {l : List Ed} (h : SEs W0 w A n l) (hb : Below w.heap.size w w') : SEs W0 w' A n l := by
  obtain ⟨cs, h1, h2, h3, h4⟩ := h
  refine ⟨cs, h1, h2, h3, fun hn => ?_⟩
  obtain ⟨ad, e, hc⟩ := h4 hn
  exact ⟨ad, e, fun j u hj => cell_later hb (hc j u hj)⟩
theorem wrap64_rg (x : Int) : 0 ≤ IntKind.u64.wrap x ∧ IntKind.u64.wrap x < 18446744073709551616 := by
  simp [IntKind.wrap, IntKind.signed, IntKind.bits]
  omega
theorem w64_of {x : Int} (h0 : 0 ≤ x) (h1 : x ≤ 9223372036854775807) : wrap64 x = x := by unfold wrap64; omega
theorem stop_at {P : Program} {ops : Array Oper} {Q : Exit → Act → World → Prop} {o : Oper} {rest : List Oper} {a : Act} {w : World} (k : Nat) (_ : o.dst = some k) (h : wpList P ops Q (o :: rest) a w) : wpList P ops Q (o :: rest) a w := h
theorem cut_mod' (n at' : Nat) (x : Int) (h : at' ≤ n) : ∃ m : Nat, (IntKind.u64.wrap x).tmod ((n : Int) - at' + 1) = (m : Int) ∧ at' + m ≤ n := by
  have h0 := (wrap64_rg x).1
  rw [Int.tmod_eq_emod_of_nonneg h0]
  have h1 := Int.emod_nonneg (IntKind.u64.wrap x) (show ((n : Int) - at' + 1) ≠ 0 by omega)
  have h2 := Int.emod_lt_of_pos (IntKind.u64.wrap x) (show 0 < ((n : Int) - at' + 1) by omega)
  exact ⟨(IntKind.u64.wrap x % ((n : Int) - at' + 1)).toNat, by omega, by omega⟩

set_option maxRecDepth 100000 in
set_option maxHeartbeats 2000000 in
theorem order_main (A : Option Addr) (n c : Nat) (a : List Int) (B : Option Addr) (m d : Nat) (cs : List Int) (what : Int) (w : World) (hA : RB w A n a) (hnc : n ≤ c) (hI : RI w B m cs) (hmd : m ≤ d) (h0 : 0 < n) (hn : n ≤ 500) (hm : m ≤ 20) :
    Calls Try.prog 6 #[.slice A n c, .slice B m d, .int .i64 what] w (fun e w' => e = .returned (.bool true) ∧ Below w.heap.size w w') := by
  have e0 : ¬ ((n : Int) = 0) := by omega
  have e1 : ¬ ((500 : Int) < n) := by omega
  have e2 : ¬ ((20 : Int) < m) := by omega
  have hla := hA.len
  go_enter Try.func6, Try.ntmps6
  go_wp2
  go_loopw [7, 8, 9] (fun v q i wr => ∃ j p : Nat, ∃ l : List Ed, j ≤ m ∧ i = .int .i64 j ∧ p ≤ n ∧ q = .int .i64 p ∧ (p : Int) = atL l j ∧ l.length = j ∧ Gd a l ∧ OEs w wr w.heap.size v j l ∧ Below w.heap.size w wr) (fun _ _ i _ => m - (intOf i).toNat)
  case atStart => exact ⟨0, 0, [], by omega, rfl, by omega, rfl, rfl, rfl, Gd.nil _, OEs.nil _ _ _, Below.refl _ _⟩
  case round =>
    obtain ⟨j, p, l, hj, rfl, hp, rfl, hat, hll, hG, hO, hb⟩ := hrel
    by_cases h1 : j < m
    · obtain ⟨b, o, rfl, hcells⟩ := hI.plain (by omega)
      have cj := hcells j h1
      have cj := (hb.cell (World.block_lt_of_cell? _ _ cj)).trans cj
      obtain ⟨q, hq1, hq2⟩ := cut_mod' n p (gi cs j) hp
      have HT := Lib.hid hat
      have HQ := Lib.hid hq1
      clear hat hq1
      have b2 : (0 : Int) ≤ p := by omega
      have b3 : (q : Int) ≤ 9223372036854775807 := by omega
      obtain ⟨q2, hq3, hq4⟩ := cut_mod' n (p + q) (wrap64 ((gi cs j).tdiv 7)) hq2
      rw [show ((p + q : Nat) : Int) = (p : Int) + q from Int.natCast_add p q] at hq3
      have HQ3 := Lib.hid hq3
      clear hq3
      have e3 : ((p + q : Nat) : Int) = (p : Int) + q := Int.natCast_add p q
      have e4 : ((p + q + q2 : Nat) : Int) = (p : Int) + q + q2 := by omega
      have hE := hG.snoc (p + q) (p + q + q2) (by rw [hll, ← HT.out, e3]; omega) (by omega) (by omega)
      rw [e3, e4] at hE
      clear e3 e4
      have hpart : RB w (cutA A c (p + q)) q2 ((a.take (p + q + q2)).drop (p + q)) := (hA.mid (c := c) (l := p + q) (k := p + q + q2) (by omega) (by omega) hnc).congr rfl (by omega) rfl
      have hz := hb.size
      have t1 : (0 : Int) ≤ (p : Int) + q := by omega
      have t2 : (p : Int) + q ≤ (p : Int) + q + q2 := by omega
      have t3 : (p : Int) + q + q2 ≤ c := by omega
      have t4 : ((p : Int) + q).toNat = p + q := by omega
      have t5 : ((p : Int) + q + q2).toNat = p + q + q2 := by omega
      have t6 : p + q + q2 - (p + q) = q2 := by omega
      have hbx := fun o => hO.below ((Below.refl wr.heap.size wr).alloc (Nat.le_refl _) o)
      have HBX := Lib.hid hbx
      have hcap : q2 ≤ c - (p + q) := by omega
      have hjn : j + 1 ≤ 1000000 := by omega
      have hbz : ∀ o, w.heap.size ≤ (wr.alloc o).heap.size := fun o => by simp; omega
      have T4 := Lib.hid t4
      have T5 := Lib.hid t5
      clear hbx t4 t5
      have b5 : 0 ≤ (n : Int) - p + 1 ∧ (n : Int) - p + 1 ≤ 18446744073709551615 := by omega
      have b6 : (0 : Int) ≤ q := by omega
      have b7 : (0 : Int) ≤ q2 := by omega
      have b8 : (q2 : Int) ≤ 9223372036854775807 := by omega
      go_wp2_with (first
        | (with_reducible refine stop_at 50 rfl ?_; simp only [HQ.out]; clear HQ)
        | (with_reducible refine stop_at 66 rfl ?_; simp only [HQ3.out]; clear HQ3)
        | (with_reducible refine stop_at 74 rfl ?_; have t4 := T4.out; have t5 := T5.out; clear T4 T5)
        | (at_builtin; refine wpList_appEds rfl (.tmp 68) (.tmp 76) rfl w w.heap.size _ j l rfl (HBX.out _) (some ⟨wr.heap.size, 0, none⟩) 1 1 _ rfl (SEs.one (Blk.new wr 28 _) hpart hcap) hjn (hbz _) ?_; intro v2 w2 ho2 hg2))
      go_roundw
      case rel => exact ⟨j + 1, p + q + q2, _, by omega, by go_num, by omega, by go_num, by rw [atL_snoc (by omega)]; go_num, by simp [hll], hE, ho2, (hb.alloc hz _).grown hg2 (by simp; omega) (fun k hk => (hO.own k hk).1)⟩
      case measure => simp [intOf]; omega
    · obtain ⟨A1, c1, rfl, hc1, hS⟩ := hO.src
      obtain rfl : j = m := by omega
      have hRE := hS.reads hb
      have hap := apply_any A n c a _ A1 j c1 l _ (hA.below hb) hnc (by omega) hRE (by omega) (fun i hi => by have := hG.blen (i := i) (by omega); omega)
      rw [hG.applyR (by omega)] at hap
      unfold EdPost at hap
      simp only [hla] at hap
      have hby := fun (W : World) (X : Option Addr) (k : Nat) (h1 : RB W X n a) (h2 : RB W A n a) => bytes_any X A n n k c a a W h1 h2
      rw [decide_eq_true (rfl : a = a)] at hby
      have hbad : ∀ (W : World) (V : Option Addr) (k cv : Nat) (bl : List Ed) (S : Nat → Prop), RB W A n a → REs W S V k bl → k ≤ 100 → (∀ i, i < k → (ed bl i).b.length ≤ 100000) → ¬ MayL a.length bl →
          Calls Try.prog 17 #[.slice A n c, .slice V k cv] W (fun e w' => (∃ A2 c2, e = .returned (.tuple #[.slice A2 0 c2, .int .i64 11])) ∧ Below W.heap.size W w') := by
        intro W V k cv bl S h1 h2 h3 h4 h5
        have h6 := apply_any A n c a S V k cv bl W h1 hnc (by omega) h2 (by omega) h4
        rw [applyR_bad h5] at h6
        refine h6.mono ?_
        rintro e w' ⟨A2, c2, rfl, _, _, hb⟩
        exact ⟨⟨A2, c2, rfl⟩, hb⟩
      have hT := hat
      clear hat
      have HJ := Lib.hid (show 0 + j ≤ 1000000 by omega)
      have HZ := Lib.hid (show ∀ W W' : World, Below wr.heap.size wr W → Below W.heap.size W W' → w.heap.size ≤ W'.heap.size from fun W W' h h' => Nat.le_trans hb.size (Nat.le_trans h.size h'.size))
      have hlb : ∀ y ∈ l, y.b.length ≤ 100000 := fun y hy => by
        obtain ⟨i, hi, rfl⟩ := ed_mem hy
        have := hG.blen hi
        omega
      have H0 := Lib.hid (show ∀ (W : World) (A6 : Option Addr) (c6 : Nat), Below w.heap.size w W → SEs w W A6 (j + 1) (l ++ [⟨(n : Int), (n : Int) + 1, []⟩]) → Calls Try.prog 17 #[.slice A n c, .slice A6 (j + 1) c6] W (fun e w' => (∃ A2 c2, e = .returned (.tuple #[.slice A2 0 c2, .int .i64 11])) ∧ Below W.heap.size W w') from fun W A6 c6 hB hs => hbad W A6 _ c6 _ _ (hA.below hB) (hs.reads hB) (by omega) (fun i _ => ed_bound (fun y hy => by simp only [List.mem_append, List.mem_singleton] at hy; rcases hy with h | rfl; exact hlb y h; exact Nat.zero_le _) i) (bad_end (by simp only; omega)))
      have H3 := Lib.hid (show ∀ (W : World) (A6 : Option Addr) (c6 : Nat), Below w.heap.size w W → SEs w W A6 (1 + (j + 1)) ([⟨0, (n : Int), []⟩] ++ (l ++ [⟨(n : Int) - 1, (n : Int), []⟩])) → Calls Try.prog 17 #[.slice A n c, .slice A6 (1 + (j + 1)) c6] W (fun e w' => (∃ A2 c2, e = .returned (.tuple #[.slice A2 0 c2, .int .i64 11])) ∧ Below W.heap.size W w') from fun W A6 c6 hB hs => hbad W A6 _ c6 _ _ (hA.below hB) (hs.reads hB) (by omega) (fun i _ => ed_bound (fun y hy => by simp only [List.mem_append, List.mem_singleton] at hy; rcases hy with rfl | h | rfl; exact Nat.zero_le _; exact hlb y h; exact Nat.zero_le _) i) (bad_wide (x := ⟨0, n, []⟩) (y := ⟨(n : Int) - 1, n, []⟩) (l := l) (by simp only; omega) (by simp only; omega)))
      have H1 := Lib.hid (show ∀ (W : World) (A6 : Option Addr) (c6 : Nat), Below w.heap.size w W → SEs w W A6 (1 + j) ([⟨-1, 0, []⟩] ++ l) → Calls Try.prog 17 #[.slice A n c, .slice A6 (1 + j) c6] W (fun e w' => (∃ A2 c2, e = .returned (.tuple #[.slice A2 0 c2, .int .i64 11])) ∧ Below W.heap.size W w') from fun W A6 c6 hB hs => hbad W A6 _ c6 _ _ (hA.below hB) (hs.reads hB) (by omega) (fun i _ => ed_bound (fun y hy => by simp only [List.mem_append, List.mem_singleton] at hy; rcases hy with rfl | h; exact Nat.zero_le _; exact hlb y h) i) (bad_start (x := ⟨-1, 0, []⟩) (l := l) (by decide)))
      have H2 := Lib.hid (show ∀ (W : World) (A6 : Option Addr) (c6 : Nat), Below w.heap.size w W → SEs w W A6 (j + 1) (l ++ [⟨(n : Int), (n : Int) - 1, []⟩]) → Calls Try.prog 17 #[.slice A n c, .slice A6 (j + 1) c6] W (fun e w' => (∃ A2 c2, e = .returned (.tuple #[.slice A2 0 c2, .int .i64 11])) ∧ Below W.heap.size W w') from fun W A6 c6 hB hs => hbad W A6 _ c6 _ _ (hA.below hB) (hs.reads hB) (by omega) (fun i _ => ed_bound (fun y hy => by simp only [List.mem_append, List.mem_singleton] at hy; rcases hy with h | rfl; exact hlb y h; exact Nat.zero_le _) i) (bad_end (by simp only; omega)))
      have hs4 : (IntKind.u64.wrap what).tmod 4 = 0 ∨ (IntKind.u64.wrap what).tmod 4 = 1 ∨ (IntKind.u64.wrap what).tmod 4 = 2 ∨ (IntKind.u64.wrap what).tmod 4 = 3 := by
        rw [Int.tmod_eq_emod_of_nonneg (wrap64_rg what).1]
        generalize IntKind.u64.wrap what = x
        omega
      have HJ1 := Lib.hid (show j + 1 ≤ 1000000 by omega)
      have HG := Lib.hid (show ∀ W W' W5 : World, Below wr.heap.size wr W → Below W.heap.size W W' → W'.grownBy W5 (Value.slice none 0 0).ownBlock → Below w.heap.size w W5 from fun W W' W5 h h' hg => (below_two (below_two hb h) h').grown hg (Nat.le_trans hb.size (Nat.le_trans h.size h'.size)) (fun k hk => by simp [Value.ownBlock] at hk))
      have HJ2 := Lib.hid (show 1 + j ≤ 1000000 by omega)
      have HG7 := Lib.hid (show ∀ (W W6 : World) (n1 n2 : Nat) (o : Obj), Below w.heap.size w W → n1 ≤ n2 → (W.alloc o).grownBy W6 (Value.slice (some ⟨W.heap.size, 0, none⟩) 1 1).ownBlock → Below w.heap.size w W6 from fun W W6 _ _ o h _ hg => (h.alloc h.size _).grown hg (by have := h.size; simp; omega) (fun k hk => by have := h.size; simp [Value.ownBlock] at hk; omega))
      have HJ3 := Lib.hid (show 1 + (j + 1) ≤ 1000000 by omega)
      have HG8 := Lib.hid (show ∀ (W W6 : World) (v : Value) (o o' : Obj), Below w.heap.size w W → OEs w W w.heap.size v j l → ((W.alloc o).alloc o').grownBy W6 v.ownBlock → Below w.heap.size w W6 from fun W W6 v o o' h ho hg => ((h.alloc h.size _).alloc (by have := h.size; simp; omega) _).grown hg (by have := h.size; simp; omega) (fun k hk => (ho.own k hk).1))
      have HG6 := Lib.hid (show ∀ (W W6 : World) (v : Value) (o : Obj), Below w.heap.size w W → OEs w W w.heap.size v j l → (W.alloc o).grownBy W6 v.ownBlock → Below w.heap.size w W6 from fun W W6 v o h ho hg => (h.alloc h.size _).grown hg (by have := h.size; simp; omega) (fun k hk => (ho.own k hk).1))
      rcases hs4 with hr | hr | hr | hr
      · have HR := Lib.hid hr
        clear hr
        go_wp2_with (first
          | (with_reducible refine stop_at 117 rfl ?_; simp only [HR.out]; clear HR)
          | (go_at_call 17; (with_reducible refine hap.mono ?_); rintro e w2 ⟨A2, c2, rfl, ho2, hc2, hb2⟩)
          | (go_at_call 9; (with_reducible refine (awake14_any _).mono ?_); rintro e w3 ⟨rfl, hb3⟩)
          | (go_at_call 11; (with_reducible refine (hby _ _ _ (ho2.reads.below hb3) (((hA.below hb).below hb2).below hb3)).mono ?_); rintro e w4 ⟨rfl, rfl⟩)
          | (at_builtin; refine wpList_appEds rfl (.const (.slice none 0 0)) (.tmp 97) rfl w w.heap.size _ 0 [] rfl (OEs.nil _ _ _) A1 j c1 l rfl ((hS.below hb2).below hb3) (HJ.out) (HZ.out _ _ hb2 hb3) ?_; intro v5 w5 ho5 hg5; simp only [Nat.zero_add, List.nil_append] at ho5; have hB5 := HG.out _ _ _ hb2 hb3 hg5; have hz5 := hB5.size)
          | (at_builtin; refine wpList_appEds rfl (.tmp 118) (.tmp 125) rfl w w.heap.size _ _ _ rfl (ho5.below ((Below.refl _ _).alloc (Nat.le_refl _) _)) (some ⟨w5.heap.size, 0, none⟩) 1 1 _ rfl (SEs.one (Blk.new w5 28 _) (RB.nil _ _) (Nat.le_refl _)) (HJ1.out) (by simp; omega) ?_; intro v6 w6 ho6 hg6; obtain ⟨A6, c6, rfl, hc6, hS6⟩ := ho6.src; have hB6 := HG6.out _ _ _ _ hB5 ho5 hg6)
          | (go_at_call 17; (with_reducible refine (H0.out _ _ _ hB6 hS6).mono ?_); rintro e w7 ⟨⟨A7, c7, rfl⟩, hb7⟩))
        go_ret
        exact ⟨rfl, below_two hB6 hb7⟩
      · have HR := Lib.hid hr
        clear hr
        go_wp2_with (first
          | (with_reducible refine stop_at 117 rfl ?_; simp only [HR.out]; clear HR)
          | (go_at_call 17; (with_reducible refine hap.mono ?_); rintro e w2 ⟨A2, c2, rfl, ho2, hc2, hb2⟩)
          | (go_at_call 9; (with_reducible refine (awake14_any _).mono ?_); rintro e w3 ⟨rfl, hb3⟩)
          | (go_at_call 11; (with_reducible refine (hby _ _ _ (ho2.reads.below hb3) (((hA.below hb).below hb2).below hb3)).mono ?_); rintro e w4 ⟨rfl, rfl⟩)
          | (at_builtin; refine wpList_appEds rfl (.const (.slice none 0 0)) (.tmp 97) rfl w w.heap.size _ 0 [] rfl (OEs.nil _ _ _) A1 j c1 l rfl ((hS.below hb2).below hb3) (HJ.out) (HZ.out _ _ hb2 hb3) ?_; intro v5 w5 ho5 hg5; simp only [Nat.zero_add, List.nil_append] at ho5; obtain ⟨A5, c5, rfl, hc5, hS5⟩ := ho5.src; have hB5 := HG.out _ _ _ hb2 hb3 hg5; have hz5 := hB5.size)
          | (at_builtin; refine wpList_appEds rfl (.tmp 130) (.tmp 131) rfl w w.heap.size _ 1 [⟨-1, 0, []⟩] rfl (OEs.one hz5 (Blk.new w5 28 _) (RB.nil _ _) (Nat.le_refl _)) A5 j c5 l rfl (hS5.below ((Below.refl _ _).alloc (Nat.le_refl _) _)) (HJ2.out) (by simp; omega) ?_; intro v6 w6 ho6 hg6; obtain ⟨A6, c6, rfl, hc6, hS6⟩ := ho6.src; have hB6 := HG7.out _ _ 0 0 _ hB5 (Nat.le_refl _) hg6)
          | (go_at_call 17; (with_reducible refine (H1.out _ _ _ hB6 hS6).mono ?_); rintro e w7 ⟨⟨A7, c7, rfl⟩, hb7⟩))
        go_ret
        exact ⟨rfl, below_two hB6 hb7⟩
      · have HR := Lib.hid hr
        clear hr
        go_wp2_with (first
          | (with_reducible refine stop_at 117 rfl ?_; simp only [HR.out]; clear HR)
          | (go_at_call 17; (with_reducible refine hap.mono ?_); rintro e w2 ⟨A2, c2, rfl, ho2, hc2, hb2⟩)
          | (go_at_call 9; (with_reducible refine (awake14_any _).mono ?_); rintro e w3 ⟨rfl, hb3⟩)
          | (go_at_call 11; (with_reducible refine (hby _ _ _ (ho2.reads.below hb3) (((hA.below hb).below hb2).below hb3)).mono ?_); rintro e w4 ⟨rfl, rfl⟩)
          | (at_builtin; refine wpList_appEds rfl (.const (.slice none 0 0)) (.tmp 97) rfl w w.heap.size _ 0 [] rfl (OEs.nil _ _ _) A1 j c1 l rfl ((hS.below hb2).below hb3) (HJ.out) (HZ.out _ _ hb2 hb3) ?_; intro v5 w5 ho5 hg5; simp only [Nat.zero_add, List.nil_append] at ho5; have hB5 := HG.out _ _ _ hb2 hb3 hg5; have hz5 := hB5.size)
          | (at_builtin; refine wpList_appEds rfl (.tmp 135) (.tmp 142) rfl w w.heap.size _ _ _ rfl (ho5.below ((Below.refl _ _).alloc (Nat.le_refl _) _)) (some ⟨w5.heap.size, 0, none⟩) 1 1 _ rfl (SEs.one (Blk.new w5 28 _) (RB.nil _ _) (Nat.le_refl _)) (HJ1.out) (by simp; omega) ?_; intro v6 w6 ho6 hg6; obtain ⟨A6, c6, rfl, hc6, hS6⟩ := ho6.src; have hB6 := HG6.out _ _ _ _ hB5 ho5 hg6)
          | (go_at_call 17; (with_reducible refine (H2.out _ _ _ hB6 hS6).mono ?_); rintro e w7 ⟨⟨A7, c7, rfl⟩, hb7⟩))
        go_ret
        exact ⟨rfl, below_two hB6 hb7⟩
      · have HR := Lib.hid hr
        clear hr
        go_wp2_with (first
          | (with_reducible refine stop_at 117 rfl ?_; simp only [HR.out]; clear HR)
          | (go_at_call 17; (with_reducible refine hap.mono ?_); rintro e w2 ⟨A2, c2, rfl, ho2, hc2, hb2⟩)
          | (go_at_call 9; (with_reducible refine (awake14_any _).mono ?_); rintro e w3 ⟨rfl, hb3⟩)
          | (go_at_call 11; (with_reducible refine (hby _ _ _ (ho2.reads.below hb3) (((hA.below hb).below hb2).below hb3)).mono ?_); rintro e w4 ⟨rfl, rfl⟩)
          | (at_builtin; refine wpList_appEds rfl (.const (.slice none 0 0)) (.tmp 97) rfl w w.heap.size _ 0 [] rfl (OEs.nil _ _ _) A1 j c1 l rfl ((hS.below hb2).below hb3) (HJ.out) (HZ.out _ _ hb2 hb3) ?_; intro v5 w5 ho5 hg5; simp only [Nat.zero_add, List.nil_append] at ho5; have hnb := ho5.own; obtain ⟨A5, c5, rfl, hc5, hS5⟩ := ho5.src; have hB5 := HG.out _ _ _ hb2 hb3 hg5; have hz5 := hB5.size)
          | (at_builtin; refine wpList_appEds rfl (.tmp 106) (.tmp 113) rfl w w.heap.size _ _ _ rfl ((ho5.below ((Below.refl _ _).alloc (Nat.le_refl _) _)).below ((Below.refl _ _).alloc (Nat.le_refl _) _)) (some ⟨w5.heap.size + 1, 0, none⟩) 1 1 _ rfl (SEs.one (by simpa using Blk.new (w5.alloc _) 28 _) (RB.nil _ _) (Nat.le_refl _)) (HJ1.out) (by simp; omega) ?_; intro v6 w6 ho6 hg6; obtain ⟨A6, c6, rfl, hc6, hS6⟩ := ho6.src; have hB6 := HG8.out _ _ _ _ _ hB5 ho5 hg6; have hz6 := hB6.size; have hX := Blk.grown ((Blk.new w5 28 #[.int .i64 0, .int .i64 n, .slice none 0 0]).alloc _) hg6 (fun e => absurd (hnb _ e.symm).2 (Nat.lt_irrefl _)))
          | (at_builtin; refine wpList_appEds rfl (.tmp 105) (.tmp 114) rfl w w.heap.size _ 1 [⟨0, n, []⟩] rfl (OEs.one hz5 hX (RB.nil _ _) (Nat.le_refl _)) A6 (j + 1) c6 _ rfl hS6 (HJ3.out) hz6 ?_; intro v7 w7 ho7 hg7; obtain ⟨A7, c7, rfl, hc7, hS7⟩ := ho7.src; have hB7 := hB6.grown hg7 hz6 (fun k hk => (OEs.own (OEs.one (W0 := w) hz5 hX (RB.nil _ _) (Nat.le_refl _)) k hk).1))
          | (go_at_call 17; (with_reducible refine (H3.out _ _ _ hB7 hS7).mono ?_); rintro e w7 ⟨⟨A7, c7, rfl⟩, hb7⟩))
        go_ret
        exact ⟨rfl, below_two hB7 hb7⟩
end Go.Proofs.Ytflmaendnbokaaa
