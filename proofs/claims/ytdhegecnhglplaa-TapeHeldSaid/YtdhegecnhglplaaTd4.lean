/-
  trestlelaw04.do at Swap and Write.
-/
import Derived.Test.YtdhegecnhglplaaTd2
set_option linter.unusedVariables false
set_option linter.unusedSimpArgs false
namespace Go.Proofs.Ytdhegecnhglplaa
open Go.RowKit

theorem OwnB.ob {w : World} {B g n : Nat} {xs : List Int} {f : Int} (h : OwnB w B g n xs f) (hx : Byts xs) (hn : n ≤ 1000000000) : OB w B (.slice (some ⟨g, 0, none⟩) n (n + 3)) n xs := by
  refine OB.of_blk h.1 h.2.2 (by omega) (by simp only [maxLen]; omega) (by simp [bv, h.2.1]) ?_ hx
  have hl := h.2.1
  rw [bv_append]
  simp [bv, ← hl]
theorem OwnB.overTp {w w' : World} {B gx n : Nat} {xs : List Int} {f : Int} {P : Nat → Prop} {g : Nat} {s : Tp} (h : OwnB w B gx n xs f) (ht : TpAt w P g s) (hg : w.grownBy w' (some g)) : OwnB w' B gx n xs f := by
  obtain ⟨A, m, c, h1, _⟩ := ht
  exact h.grown hg (fun e => by injection e with e; exact Blk.ne_ h.2.2 h1 (by decide) e)
theorem OwnB.overRt {w w' : World} {B gx n : Nat} {xs : List Int} {f : Int} {P : Nat → Prop} {g : Nat} {s : Tp} (h : OwnB w B gx n xs f) (ht : RtAt w P g s) (hg : w.grownBy w' (some g)) : OwnB w' B gx n xs f := by
  obtain ⟨A, m, c, h1, _⟩ := ht
  exact h.grown hg (fun e => by injection e with e; exact Blk.ne_ h.2.2 h1 (by decide) e)
theorem TpAt.overOwn {w w' : World} {B gx n : Nat} {xs : List Int} {f : Int} {P : Nat → Prop} {g : Nat} {s : Tp} (ht : TpAt w P g s) (h : OwnB w B gx n xs f) (hg : w.grownBy w' (some gx)) (hP : ¬ P gx) : TpAt w' P g s := by
  refine ht.grown hg (fun e => ?_) (fun k hk => by cases hk; exact hP)
  obtain ⟨A, m, c, h1, _⟩ := ht
  injection e with e
  exact Blk.ne_ h.2.2 h1 (by decide) e.symm
theorem RtAt.overOwn {w w' : World} {B gx n : Nat} {xs : List Int} {f : Int} {P : Nat → Prop} {g : Nat} {s : Tp} (ht : RtAt w P g s) (h : OwnB w B gx n xs f) (hg : w.grownBy w' (some gx)) (hP : ¬ P gx) : RtAt w' P g s := by
  refine ht.grown hg (fun e => ?_) (fun k hk => by cases hk; exact hP)
  obtain ⟨A, m, c, h1, _⟩ := ht
  injection e with e
  exact Blk.ne_ h.2.2 h1 (by decide) e.symm
section
variable (B g g' : Nat) (s : Tp) (what n : Int) (A : Option Addr) (k c : Nat) (ps : List (List Int)) (w : World)
set_option maxHeartbeats 2000000 in
theorem do_swap (h : Both w g g' s) (hok : s.Ok 400000000) (hps : RBs w A k ps) (hkc : k ≤ c) (hk : k ≤ 9223372036854775807) (hB : B ≤ w.heap.size) (hg : B ≤ g) (hg' : B ≤ g') (hj : jok ps = true) :
    Calls Try.prog 23 #[.pointer (some ⟨g, 0, none⟩), .pointer (some ⟨g', 0, none⟩), .agg #[.int .i64 3, .int .i64 n, .slice A k c]] w (DoPost B g g' (s.swap ps.flatten).2 w) := by
  have hjo := joinBox 3 n A k c ps w hps hkc hk
  unfold JoinPost at hjo
  rw [hj] at hjo
  have hjl := jok_len hj
  clear hj
  rw [if_pos rfl] at hjo
  obtain ⟨⟨P, hT⟩, Q, hR⟩ := h
  generalize ps.flatten = all at *
  have hm9 : all.length ≤ 1600 := hjl.2
  generalize hlen : all.length = m at *
  have hm9' : m ≤ 1000000000 := by omega
  have hm8 : m ≤ 400000000 := by omega
  have hm7 : m ≤ 140737488355328 := by omega
  have kT := fun (W : World) (P : Nat → Prop) (X : Option Addr) (d : Nat) (hW : TpAt W P g s) (hx : RB W X m all) (hmd : m ≤ d) => tpSwap_any g s P X m d all W hW hok hx hmd hm8
  have kR := fun (W : World) (Q : Nat → Prop) (X : Option Addr) (d : Nat) (hW : RtAt W Q g' s) (hx : RB W X m all) (hmd : m ≤ d) => rtSwap_any g' s Q X m d all W hW hok hx hmd hm8
  have kO := fun (W : World) (X : Option Addr) (d : Nat) (hx : RB W X m all) => own_any X m d all 71 W hx hm9' (by omega) (by omega)
  have kK := fun (W : World) (B gx : Nat) (X : Option Addr) (d : Nat) (ho : OwnB W B gx m all 71) (hb : Byts all) (hx : RB W X m all) => kept_any B gx m d X all 71 W ho hb hx hm9'
  generalize s.swap all = r at *
  have HL := Lib.hid hlen
  clear hlen hok hjl hm9
  go_enter Try.func23, Try.ntmps23
  go_wp2_with (first
    | (go_at_call 38; (with_reducible refine hjo.mono ?_); rintro e w1 ⟨⟨A1, m1, c1, rfl, hm1, ho1, hc1, hb1⟩, hx1⟩; subst hm1; have cb0 := hx1.cell 0; simp only [List.getElem?_toArray, List.getElem?_cons_zero] at cb0; have hbb : Below w.heap.size w w1 := below_two ((Below.refl _ _).alloc (Nat.le_refl _) _) hb1; have hT1 := (hT.below hbb).toOld; have hR1 := (hR.below hbb).toOld; have hr1 := ho1.reads)
    | (go_at_call 39; (with_reducible refine (kO _ _ _ hr1).mono ?_); rintro e w2 ⟨gx, rfl, hx2, hb2⟩; have hT2 := hT1.below hb2; have hR2 := hR1.below hb2; have hr2 := hr1.below hb2; have hrx := hx2.reads hr2.byts)
    | (go_at_call 13; (with_reducible refine (kT _ _ _ _ hT2 hrx (Nat.le_add_right _ 3)).mono ?_); rintro e w3 ⟨rfl, t3, hg3⟩; have hR3 := hR2.overTp hT2 hg3; have hr3 := hr2.overTp hT2 hg3; have hx3 := hx2.overTp hT2 hg3)
    | (go_at_call 42; (with_reducible refine (kR _ _ _ _ hR3 hr3 hc1).mono ?_); rintro e w4 ⟨rfl, t4, hg4⟩; have hT4 := t3.overRt hR3 hg4; have hr4 := hr3.overRt hR3 hg4; have hx4 := hx3.overRt hR3 hg4)
    | (go_at_call 40; (with_reducible refine (kK _ _ _ _ _ hx4 hr4.byts hr4).mono ?_); rintro e w9 ⟨rfl, q9, rfl⟩; have hT5 := hT4.below (drewN_below w4 q9); have hR5 := t4.below (drewN_below w4 q9); have hx5 := hx4.below (drewN_below w4 q9); have hS := spoil_any _ _ _ _ _ _ (hx5.ob hr4.byts hm9') hm7)
    | (go_at_call 26; (with_reducible refine hS.mono ?_); rintro e w6 ⟨rfl, ⟨zs6, ho6⟩, hg6⟩))
  go_ret
  have hz1 := hbb.size
  have hz2 := hb2.size
  have hz3 := hg3.size
  have hz4 := hg4.size
  have hgx : w1.heap.size ≤ gx := hx2.1
  have hlx := hx2.2.2.lt
  have hB4 : Below B w w4 := (((hbb.mono hB).trans (hb2.mono (by omega))).grown hg3 (by omega) (fun k hk => by cases hk; exact hg)).grown hg4 (by omega) (fun k hk => by cases hk; exact hg')
  refine ⟨rfl, ⟨⟨_, hT5.overOwn hx5 hg6 ?_⟩, _, hR5.overOwn hx5 hg6 ?_⟩, (below_drewN hB4 q9).grown hg6 (by simp; omega) (fun k hk => by cases hk; exact (by omega : B ≤ gx))⟩
  · rintro (hh | hh)
    · omega
    · omega
  · rintro (hh | hh)
    · omega
    · omega
theorem flat3 (xs : List Int) (q : Nat) : [xs.take q, [], xs.drop q].flatten = xs := by simp
theorem RBs.three {w : World} {g : Nat} {t : TypeId} {A C : Option Addr} {n c m d : Nat} {xs ys : List Int} (hb : Blk w g t #[.slice A n c, .slice Option.none 0 0, .slice C m d]) (h : RB w A n xs) (hc : n ≤ c) (h' : RB w C m ys) (hd : m ≤ d) : RBs w (some ⟨g, 0, Option.none⟩) 3 [xs, [], ys] := by
  refine ⟨rfl, g, 0, fun _ => rfl, fun i hi => ?_⟩
  have hl := h.len
  have hl' := h'.len
  subst hl hl'
  match i, hi with
  | 0, _ => exact ⟨A, c, hb.cell 0, hc, h⟩
  | 1, _ => exact ⟨Option.none, 0, hb.cell 1, Nat.le_refl _, RB.nil _ _⟩
  | 2, _ => exact ⟨C, d, hb.cell 2, hd, h'⟩
theorem first_le {ps : List (List Int)} (h : 0 < ps.length) : (ps.getD 0 []).length ≤ ps.flatten.length := by
  have := joined_le ps 1
  rw [joined_succ h, joined_zero, List.nil_append] at this
  exact this
set_option maxHeartbeats 4000000 in
theorem do_write (h : Both w g g' s) (hok : s.Ok 400000000) (hps : RBs w A k ps) (hkc : k ≤ c) (hk : k ≤ 9223372036854775807) (hB : B ≤ w.heap.size) (hg : B ≤ g) (hg' : B ≤ g') (hj : jok ps = true) :
    Calls Try.prog 23 #[.pointer (some ⟨g, 0, none⟩), .pointer (some ⟨g', 0, none⟩), .agg #[.int .i64 0, .int .i64 n, .slice A k c]] w (DoPost B g g' (s.write ps.flatten).2 w) := by
  have hjo := joinBox 0 n A k c ps w hps hkc hk
  unfold JoinPost at hjo
  rw [hj] at hjo
  have hjl := jok_len hj
  clear hj
  rw [if_pos rfl] at hjo
  obtain ⟨⟨P, hT⟩, Q, hR⟩ := h
  have hm9 : ps.flatten.length ≤ 1600 := hjl.2
  obtain ⟨q, hq0, hqm⟩ : ∃ q : Nat, ((k = 0 ∧ q = 0) ∨ (0 < k ∧ q = (ps.getD 0 []).length)) ∧ q ≤ ps.flatten.length := by
    rcases Nat.eq_zero_or_pos k with h0 | h0
    · exact ⟨0, .inl ⟨h0, rfl⟩, Nat.zero_le _⟩
    · exact ⟨_, .inr ⟨h0, rfl⟩, first_le (by have := hps.1; omega)⟩
  generalize hall : ps.flatten = all at *
  generalize hlen : all.length = m at *
  have kT := fun (W : World) (P : Nat → Prop) (V : Option Addr) (hW : TpAt W P g s) (hx : RBs W V 3 [all.take q, [], all.drop q]) => tpWrite_any g s P V 3 3 _ W hW hok hx (Nat.le_refl _) (by omega) (by rw [flat3, hlen]; omega)
  rw [flat3] at kT
  have kR := fun (W : World) (Q : Nat → Prop) (X : Option Addr) (d : Nat) (hW : RtAt W Q g' s) (hx : RB W X m all) (hmd : m ≤ d) => rtWrite_any g' s Q X m d all W hW hok hx hmd (by omega)
  have kO1 := fun (W : World) (X : Option Addr) (d : Nat) (hx : RB W X q (all.take q)) => own_any X q d (all.take q) 71 W hx (by omega) (by omega) (by omega)
  have kO2 := fun (W : World) (X : Option Addr) (d : Nat) (hx : RB W X (m - q) (all.drop q)) => own_any X (m - q) d (all.drop q) 71 W hx (by omega) (by omega) (by omega)
  have kK1 := fun (W : World) (B gx : Nat) (X : Option Addr) (d : Nat) (ho : OwnB W B gx q (all.take q) 71) (hb : Byts (all.take q)) (hx : RB W X q (all.take q)) => kept_any B gx q d X (all.take q) 71 W ho hb hx (by omega)
  have kK2 := fun (W : World) (B gx : Nat) (X : Option Addr) (d : Nat) (ho : OwnB W B gx (m - q) (all.drop q) 71) (hb : Byts (all.drop q)) (hx : RB W X (m - q) (all.drop q)) => kept_any B gx (m - q) d X (all.drop q) 71 W ho hb hx (by omega)
  generalize s.write all = r at *
  have HL := Lib.hid hlen
  have HA := Lib.hid hall
  have m1 : q ≤ 1000000000 := by omega
  have m2 : q ≤ 140737488355328 := by omega
  have m3 : m - q ≤ 1000000000 := by omega
  have m4 : m - q ≤ 140737488355328 := by omega
  have i1 : (0 : Int) ≤ q := by omega
  have i2 : (q : Int) ≤ m := by omega
  clear hlen hall hok hjl hm9
  have HQ0 := Lib.hid hq0
  clear hq0
  rcases HQ0.out with ⟨h0, h1⟩ | ⟨h0, h1⟩
  · have hn0 : all = [] := by
      have := hps.1
      rw [← HA.out, List.eq_nil_of_length_eq_zero (show ps.length = 0 by omega)]
      rfl
    obtain rfl : m = 0 := by rw [← HL.out, hn0]; rfl
    subst h1 h0
    subst hn0
    clear kO1 kO2 kK1 kK2
    rw [show List.take 0 ([] : List Int) = [] from rfl, show List.drop 0 ([] : List Int) = [] from rfl] at kT
    have kO := fun (W : World) (X : Option Addr) (d : Nat) => own_any X 0 d [] 71 W (RB.nil W X) (by omega) (by omega) (by omega)
    have kK : ∀ (W : World) (B gx : Nat) (X : Option Addr) (d : Nat), OwnB W B gx 0 [] 71 → Calls Try.prog 40 #[.slice (some ⟨gx, 0, none⟩) 0 3, .slice X 0 d, .int .u8 71] W (Quiet (.bool true) W) := fun W B gx X d ho => kept_any B gx 0 d X [] 71 W ho Byts.nil (RB.nil W X) (by omega)
    go_enter Try.func23, Try.ntmps23
    go_wp2_with (go_at_call 38; (with_reducible refine hjo.mono ?_); rintro e w1 ⟨⟨A1, mm, c1, rfl, hm1, ho1, hc1, hb1⟩, hx1⟩; subst hm1; have cb0 := hx1.cell 0; have cb2 := hx1.cell 2; simp only [List.getElem?_toArray, List.getElem?_cons_zero, List.getElem?_cons_succ] at cb0 cb2; have hbb : Below w.heap.size w w1 := below_two ((Below.refl _ _).alloc (Nat.le_refl _) _) hb1; have hT1 := (hT.below hbb).toOld; have hR1 := (hR.below hbb).toOld; have hr1 := ho1.reads)
    have hT2 : TpAt w1.drew (fun k => k < w1.heap.size) g s := hT1.below (drewN_below w1 1)
    have hR2 : RtAt w1.drew (fun k => k < w1.heap.size) g' s := hR1.below (drewN_below w1 1)
    have hrM : RB w1.drew A1 0 [] := RB.nil _ _
    go_region_with (first
      | (go_at_call 39; (with_reducible refine (kO _ A1 c1).mono ?_); rintro e w2 ⟨gx, rfl, hx2, hb2⟩)
      | (go_at_call 39; (with_reducible refine (kO _ (cutA A1 c1 0) c1).mono ?_); rintro e w3 ⟨gy, rfl, hy3, hb3⟩))
    all_goals
      have hT3 := (hT2.below hb2).below hb3
      have hR3 := (hR2.below hb2).below hb3
      have hx3 := hx2.below hb3
      have hT3a := hT3.below ((Below.refl w3.heap.size w3).alloc (Nat.le_refl _) (.cells #[.slice (some ⟨gx, 0, none⟩) 0 3, .slice none 0 0, .slice (some ⟨gy, 0, none⟩) 0 3] 28))
      have hR3a := hR3.below ((Below.refl w3.heap.size w3).alloc (Nat.le_refl _) (.cells #[.slice (some ⟨gx, 0, none⟩) 0 3, .slice none 0 0, .slice (some ⟨gy, 0, none⟩) 0 3] 28))
      have hx3a := hx3.below ((Below.refl w3.heap.size w3).alloc (Nat.le_refl _) (.cells #[.slice (some ⟨gx, 0, none⟩) 0 3, .slice none 0 0, .slice (some ⟨gy, 0, none⟩) 0 3] 28))
      have hy3a := hy3.below ((Below.refl w3.heap.size w3).alloc (Nat.le_refl _) (.cells #[.slice (some ⟨gx, 0, none⟩) 0 3, .slice none 0 0, .slice (some ⟨gy, 0, none⟩) 0 3] 28))
      have hw := kT _ _ (some ⟨w3.heap.size, 0, none⟩) hT3a (RBs.three (Blk.new w3 28 _) (hx3a.reads Byts.nil) (by omega) (hy3a.reads Byts.nil) (by omega))
      have hrM3 := ((hrM.below hb2).below hb3).alloc (.cells #[.slice (some ⟨gx, 0, none⟩) 0 3, .slice none 0 0, .slice (some ⟨gy, 0, none⟩) 0 3] 28)
      unfold TpPost at hw
      go_wp2_with (first
        | (go_at_call 10; (with_reducible refine hw.mono ?_); rintro e w4 ⟨rfl, t4, hg4⟩; have hR4 := hR3a.overTp hT3a hg4; have hr4 := hrM3.overTp hT3a hg4; have hx4 := hx3a.overTp hT3a hg4; have hy4 := hy3a.overTp hT3a hg4)
        | (go_at_call 21; (with_reducible refine (kR _ _ _ _ hR4 hr4 (Nat.zero_le _)).mono ?_); rintro e w5 ⟨rfl, t5, hg5⟩; have hT5 := t4.overRt hR4 hg5; have hr5 := hr4.overRt hR4 hg5; have hx5 := hx4.overRt hR4 hg5; have hy5 := hy4.overRt hR4 hg5; have hk1 := kK w5 _ gx A1 c1 hx5)
        | (go_at_call 40; (with_reducible refine hk1.mono ?_); rintro e w9 ⟨rfl, q9, rfl⟩; have hk2 := kK _ _ gy (cutA A1 c1 0) c1 (hy5.below (drewN_below w5 q9)))
        | (go_at_call 40; (with_reducible refine hk2.mono ?_); rintro e w9 ⟨rfl, q8, rfl⟩; have hT6 := hT5.below (drewN_below w5 (q9 + q8)); have hR6 := t5.below (drewN_below w5 (q9 + q8)); have hx6 := hx5.below (drewN_below w5 (q9 + q8)); have hy6 := hy5.below (drewN_below w5 (q9 + q8)); have hS1 := spoil_any (some ⟨gx, 0, none⟩) 0 3 _ _ _ (hx6.ob Byts.nil (by omega)) (by omega))
        | (go_at_call 26; (with_reducible refine hS1.mono ?_); rintro e w7 ⟨rfl, ⟨zs7, ho7⟩, hg7⟩; have hy7 := hy6.grown hg7 (fun e => by injection e with e; have a1 := hy3.1; have a2 := hx2.2.2.lt; have a3 := hb3.size; have a4 : gy = gx := e; omega); have hS2 := spoil_any (some ⟨gy, 0, none⟩) 0 3 _ _ _ (hy7.ob Byts.nil (by omega)) (by omega))
        | (go_at_call 26; (with_reducible refine hS2.mono ?_); rintro e w8 ⟨rfl, ⟨zs8, ho8⟩, hg8⟩))
      go_ret
      have hz1 := hbb.size
      have hz2 : w1.heap.size ≤ w2.heap.size := hb2.size
      have hz3 := hb3.size
      have hz4 : w3.heap.size + 1 ≤ w4.heap.size := by have := hg4.size; simpa using this
      have hz5 := hg5.size
      have hz7 : w5.heap.size ≤ w7.heap.size := hg7.size
      have hgx : w1.heap.size ≤ gx := hx2.1
      have hgx2 : gx < w2.heap.size := hx2.2.2.lt
      have hgy : w2.heap.size ≤ gy := hy3.1
      have hgy2 : gy < w3.heap.size := hy3.2.2.lt
      have hB3 : Below B w w3 := ((below_drewN (hbb.mono hB) 1).trans (hb2.mono (show B ≤ w1.heap.size by omega))).trans (hb3.mono (by omega))
      have hB5 : Below B w w5 := ((hB3.alloc (by omega) (.cells #[.slice (some ⟨gx, 0, none⟩) 0 3, .slice none 0 0, .slice (some ⟨gy, 0, none⟩) 0 3] 28)).grown hg4 (by simp; omega) (fun k hk => by cases hk; exact hg)).grown hg5 (by omega) (fun k hk => by cases hk; exact hg')
      have hB8 : Below B w w8 := ((below_drewN hB5 (q9 + q8)).grown hg7 (by simp; omega) (fun k hk => by cases hk; exact (by omega : B ≤ gx))).grown hg8 (by omega) (fun k hk => by cases hk; exact (by omega : B ≤ gy))
      have hT7 := hT6.overOwn hx6 hg7 (by rintro (hh | hh) <;> (try simp at hh) <;> omega)
      have hR7 := hR6.overOwn hx6 hg7 (by rintro (hh | hh) <;> omega)
      exact ⟨rfl, ⟨⟨_, hT7.overOwn hy7 hg8 (by rintro (hh | hh) <;> (try simp at hh) <;> omega)⟩, _, hR7.overOwn hy7 hg8 (by rintro (hh | hh) <;> omega)⟩, hB8⟩
  · obtain ⟨b, off, hA, hcells⟩ := hps.2
    obtain rfl := hA h0
    obtain ⟨Ai, ci, hc, hle, hr⟩ := hcells 0 h0
    rw [← h1] at hc hle hr
    rw [Nat.add_zero] at hc
    have hk0 : (0 : Int) < k := by omega
    have H1 := Lib.hid h1
    clear hcells h1
    go_enter Try.func23, Try.ntmps23
    go_wp2_with (go_at_call 38; (with_reducible refine hjo.mono ?_); rintro e w1 ⟨⟨A1, mm, c1, rfl, hm1, ho1, hc1, hb1⟩, hx1⟩; subst hm1; have cb0 := hx1.cell 0; have cb2 := hx1.cell 2; simp only [List.getElem?_toArray, List.getElem?_cons_zero, List.getElem?_cons_succ] at cb0 cb2; have hbb : Below w.heap.size w w1 := below_two ((Below.refl _ _).alloc (Nat.le_refl _) _) hb1; have hT1 := (hT.below hbb).toOld; have hR1 := (hR.below hbb).toOld; have hr1 := ho1.reads; have hc' := (hbb.cell (World.block_lt_of_cell? _ _ hc)).trans hc)
    have hT2 : TpAt w1.drew (fun k => k < w1.heap.size) g s := hT1.below (drewN_below w1 1)
    have hR2 : RtAt w1.drew (fun k => k < w1.heap.size) g' s := hR1.below (drewN_below w1 1)
    have hrA : RB w1.drew A1 q (all.take q) := (hr1.take hqm).drewN 1
    have hrB : RB w1.drew (cutA A1 c1 q) (mm - q) (all.drop q) := (hr1.cut hqm hc1).drewN 1
    have hrM : RB w1.drew A1 mm all := hr1.drewN 1
    have n1 : (q : Int).toNat = q := by omega
    have n2 : (q : Int) ≤ c1 := by omega
    go_region_with (first
      | (go_at_call 39; (with_reducible refine (kO1 _ _ _ hrA).mono ?_); rintro e w2 ⟨gx, rfl, hx2, hb2⟩; have hrB2 := hrB.below hb2)
      | (go_at_call 39; (with_reducible refine (kO2 _ _ _ hrB2).mono ?_); rintro e w3 ⟨gy, rfl, hy3, hb3⟩))
    all_goals
      have hT3 := (hT2.below hb2).below hb3
      have hR3 := (hR2.below hb2).below hb3
      have hx3 := hx2.below hb3
      have hT3a := hT3.below ((Below.refl w3.heap.size w3).alloc (Nat.le_refl _) (.cells #[.slice (some ⟨gx, 0, none⟩) q (q + 3), .slice none 0 0, .slice (some ⟨gy, 0, none⟩) (mm - q) (mm - q + 3)] 28))
      have hR3a := hR3.below ((Below.refl w3.heap.size w3).alloc (Nat.le_refl _) (.cells #[.slice (some ⟨gx, 0, none⟩) q (q + 3), .slice none 0 0, .slice (some ⟨gy, 0, none⟩) (mm - q) (mm - q + 3)] 28))
      have hx3a := hx3.below ((Below.refl w3.heap.size w3).alloc (Nat.le_refl _) (.cells #[.slice (some ⟨gx, 0, none⟩) q (q + 3), .slice none 0 0, .slice (some ⟨gy, 0, none⟩) (mm - q) (mm - q + 3)] 28))
      have hy3a := hy3.below ((Below.refl w3.heap.size w3).alloc (Nat.le_refl _) (.cells #[.slice (some ⟨gx, 0, none⟩) q (q + 3), .slice none 0 0, .slice (some ⟨gy, 0, none⟩) (mm - q) (mm - q + 3)] 28))
      have hw := kT _ _ (some ⟨w3.heap.size, 0, none⟩) hT3a (RBs.three (Blk.new w3 28 _) (hx3a.reads hrA.byts) (Nat.le_add_right _ 3) (hy3a.reads hrB.byts) (Nat.le_add_right _ 3))
      have hrM3 := ((hrM.below hb2).below hb3).alloc (.cells #[.slice (some ⟨gx, 0, none⟩) q (q + 3), .slice none 0 0, .slice (some ⟨gy, 0, none⟩) (mm - q) (mm - q + 3)] 28)
      unfold TpPost at hw
      go_wp2_with (first
        | (go_at_call 10; (with_reducible refine hw.mono ?_); rintro e w4 ⟨rfl, t4, hg4⟩; have hR4 := hR3a.overTp hT3a hg4; have hr4 := hrM3.overTp hT3a hg4; have hx4 := hx3a.overTp hT3a hg4; have hy4 := hy3a.overTp hT3a hg4)
        | (go_at_call 21; (with_reducible refine (kR _ _ _ _ hR4 hr4 hc1).mono ?_); rintro e w5 ⟨rfl, t5, hg5⟩; have hT5 := t4.overRt hR4 hg5; have hr5 := hr4.overRt hR4 hg5; have hx5 := hx4.overRt hR4 hg5; have hy5 := hy4.overRt hR4 hg5; have hrA5 := hr5.take hqm; have hrB5 := hr5.cut hqm hc1; have hk1 := kK1 w5 _ gx A1 c1 hx5 hrA5.byts hrA5)
        | (go_at_call 40; (with_reducible refine hk1.mono ?_); rintro e w9 ⟨rfl, q9, rfl⟩; have hk2 := kK2 _ _ gy _ (c1 - q) (hy5.below (drewN_below w5 q9)) hrB5.byts (hrB5.drewN q9))
        | (go_at_call 40; (with_reducible refine hk2.mono ?_); rintro e w9 ⟨rfl, q8, rfl⟩; have hT6 := hT5.below (drewN_below w5 (q9 + q8)); have hR6 := t5.below (drewN_below w5 (q9 + q8)); have hx6 := hx5.below (drewN_below w5 (q9 + q8)); have hy6 := hy5.below (drewN_below w5 (q9 + q8)); have hS1 := spoil_any _ _ _ _ _ _ (hx6.ob hrA5.byts m1) m2)
        | (go_at_call 26; (with_reducible refine hS1.mono ?_); rintro e w7 ⟨rfl, ⟨zs7, ho7⟩, hg7⟩; have hy7 := hy6.grown hg7 (fun e => by injection e with e; have a1 := hy3.1; have a2 := hx2.2.2.lt; have a3 := hb3.size; have a4 : gy = gx := e; omega); have hS2 := spoil_any _ _ _ _ _ _ (hy7.ob hrB5.byts m3) m4)
        | (go_at_call 26; (with_reducible refine hS2.mono ?_); rintro e w8 ⟨rfl, ⟨zs8, ho8⟩, hg8⟩))
      go_ret
      have hz1 := hbb.size
      have hz2 : w1.heap.size ≤ w2.heap.size := hb2.size
      have hz3 := hb3.size
      have hz4 : w3.heap.size + 1 ≤ w4.heap.size := by have := hg4.size; simpa using this
      have hz5 := hg5.size
      have hz7 : w5.heap.size ≤ w7.heap.size := hg7.size
      have hgx : w1.heap.size ≤ gx := hx2.1
      have hgx2 : gx < w2.heap.size := hx2.2.2.lt
      have hgy : w2.heap.size ≤ gy := hy3.1
      have hgy2 : gy < w3.heap.size := hy3.2.2.lt
      have hB3 : Below B w w3 := ((below_drewN (hbb.mono hB) 1).trans (hb2.mono (show B ≤ w1.heap.size by omega))).trans (hb3.mono (by omega))
      have hB5 : Below B w w5 := ((hB3.alloc (by omega) (.cells #[.slice (some ⟨gx, 0, none⟩) q (q + 3), .slice none 0 0, .slice (some ⟨gy, 0, none⟩) (mm - q) (mm - q + 3)] 28)).grown hg4 (by simp; omega) (fun k hk => by cases hk; exact hg)).grown hg5 (by omega) (fun k hk => by cases hk; exact hg')
      have hB8 : Below B w w8 := ((below_drewN hB5 (q9 + q8)).grown hg7 (by simp; omega) (fun k hk => by cases hk; exact (by omega : B ≤ gx))).grown hg8 (by omega) (fun k hk => by cases hk; exact (by omega : B ≤ gy))
      have hT7 := hT6.overOwn hx6 hg7 (by rintro (hh | hh) <;> (try simp at hh) <;> omega)
      have hR7 := hR6.overOwn hx6 hg7 (by rintro (hh | hh) <;> omega)
      exact ⟨rfl, ⟨⟨_, hT7.overOwn hy7 hg8 (by rintro (hh | hh) <;> (try simp at hh) <;> omega)⟩, _, hR7.overOwn hy7 hg8 (by rintro (hh | hh) <;> omega)⟩, hB8⟩
end
end Go.Proofs.Ytdhegecnhglplaa
