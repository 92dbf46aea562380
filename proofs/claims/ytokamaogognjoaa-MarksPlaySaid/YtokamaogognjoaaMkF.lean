/-
  The table's small methods.
-/
import Derived.Test.YtokamaogognjoaaMkT
import Derived.Test.YtokamaogognjoaaTp4
import Derived.Test.YtokamaogognjoaaTp5
set_option linter.unusedVariables false
set_option linter.unusedSimpArgs false
namespace Go.Proofs.Ytokamaogognjoaa
section
open Go.RowKit

set_option maxRecDepth 100000 in
theorem tpFalls_any (g : Nat) (s : Tp) (P : Nat → Prop) (w : World) (h : TpAt w P g s) :
    Calls Try.prog 25 #[.pointer (some ⟨g, 0, none⟩)] w (fun e w' => e = .returned (.int .i64 s.falls) ∧ w = w') := by
  obtain ⟨A, n, c, h1, h2, h3, h4⟩ := h
  have c4 := h1.c4
  go_enter Try.func25, Try.ntmps25
  go_wp2
  go_ret
  exact ⟨rfl, rfl⟩
def upV (f : Nat) (s : Tp) : Int := if s.down = true then 16 else if s.falls = f then 0 else 16
def Q2 (v : Value) (w : World) (e : Ending) (w' : World) : Prop := e = .returned v ∧ ∃ q, w.drewN q = w'
set_option maxRecDepth 100000 in
set_option maxHeartbeats 2000000 in
theorem up_any (P Q : Nat → Prop) (g gt f : Nat) (L : Prs) (s : Tp) (w : World) (h : TbAt w P g gt f L) (ht : TpAt w Q gt s) :
    Calls Try.prog 29 #[.pointer (some ⟨g, 0, none⟩)] w (Q2 (.int .i64 (upV f s)) w) := by
  obtain ⟨A, n, c, m1, m2, hm⟩ := h
  have HT := Lib.hid (show ∀ q, TpAt (w.drewN q) Q gt s from fun q => ht.below (drewN_below w q))
  have c0 := hm.c0
  have c1 := hm.c1
  unfold upV
  cases hd : s.down with
  | true =>
    rw [if_pos rfl]
    have HD := Lib.hid (show ∀ q, Calls Try.prog 18 #[.pointer (some ⟨gt, 0, none⟩)] (w.drewN q) (fun e w' => e = .returned (.bool true) ∧ w.drewN q = w') from fun q => by have := tpDown_any gt s Q (w.drewN q) (HT.out q); rwa [hd] at this)
    clear hd
    go_enter Try.func29, Try.ntmps29
    go_wp2
    go_quiet (exact quiet_left (HD.out _))
    go_wp2
    go_ret
    exact ⟨rfl, _, rfl⟩
  | false =>
    rw [if_neg (by decide)]
    have HD := Lib.hid (show ∀ q, Calls Try.prog 18 #[.pointer (some ⟨gt, 0, none⟩)] (w.drewN q) (fun e w' => e = .returned (.bool false) ∧ w.drewN q = w') from fun q => by have := tpDown_any gt s Q (w.drewN q) (HT.out q); rwa [hd] at this)
    have HF := Lib.hid (show ∀ q, Calls Try.prog 25 #[.pointer (some ⟨gt, 0, none⟩)] (w.drewN q) (fun e w' => e = .returned (.int .i64 s.falls) ∧ w.drewN q = w') from fun q => tpFalls_any gt s Q (w.drewN q) (HT.out q))
    clear hd
    by_cases hf : s.falls = f
    · rw [if_pos hf]
      have hb : ((s.falls : Int) != (f : Int)) = false := by simp [hf]
      clear hf
      go_enter Try.func29, Try.ntmps29
      go_wp2
      go_quiet ((first | exact quiet_left (HD.out _) | exact quiet_left (HF.out _)))
      go_wp2
      go_ret
      exact ⟨rfl, _, rfl⟩
    · rw [if_neg hf]
      have hb : ((s.falls : Int) != (f : Int)) = true := by rw [bne_iff_ne]; omega
      clear hf
      go_enter Try.func29, Try.ntmps29
      go_wp2
      go_quiet ((first | exact quiet_left (HD.out _) | exact quiet_left (HF.out _)))
      go_wp2
      go_ret
      exact ⟨rfl, _, rfl⟩
set_option maxRecDepth 100000 in
theorem tbPairs_any (P : Nat → Prop) (g gt f : Nat) (L : Prs) (w : World) (h : TbAt w P g gt f L) (hL : L.length ≤ 1000000) :
    Calls Try.prog 13 #[.pointer (some ⟨g, 0, none⟩)] w (NewPrs L.length L w) := by
  obtain ⟨A, n, c, m1, m2, hm⟩ := h
  have hn := hm.len
  subst hn
  have hc := clonePrs_any A L.length c L w hm.own.reads (by omega)
  unfold NewPrs at hc
  have HC := Lib.hid hc
  have c2 := hm.c2
  clear hc
  go_enter Try.func13, Try.ntmps13
  go_wp2_with (go_at_call 38; (with_reducible refine HC.out.mono ?_); rintro e w1 ⟨A1, c1, rfl, ho1, hc1, hb1⟩)
  go_ret
  exact ⟨A1, c1, rfl, ho1, hc1, hb1⟩
end
section
open Go.RowKit

set_option maxRecDepth 100000 in
theorem run_cellId {w : World} {g : Nat} {xs : List Int} (hg : w.rangeAt g 0 (bv xs)) (hx : IsId xs) : (loadVar 25 ⟨g, 0, none⟩).run Try.prog w = .ok (ida xs) w := run_loadId hg hx
set_option maxRecDepth 100000 in
/-- results: an id in a cell, and another. -/
theorem ret_ct {fn : Func} {R : Ending → World → Prop} {a : Act} {w : World} (p q : Tmp) (g : Nat) (xs : IdL) (hr : fn.results = #[.cell p 25, .tmp q]) (hp : a.tmps.getD p undef = .pointer (some ⟨g, 0, none⟩)) (hg : w.rangeAt g 0 (bv xs)) (hx : IsId xs)
    (hdf : a.defers = []) (hR : R (.returned (.tuple #[ida xs, a.tmps.getD q undef])) w) : bodyPost Try.prog fn R .ret a w := by
  refine bodyPost_ret ?_ hdf hR
  have hp' : a.tmps[p]?.getD undef = .pointer (some ⟨g, 0, none⟩) := by simpa using hp
  simp [results, hr, hp', asAddr, run_cellId hg hx]
def IdB (x : IdL) (b : Bool) (w : World) (e : Ending) (w' : World) : Prop := e = .returned (.tuple #[ida x, .bool b]) ∧ Below w.heap.size w w'
/-- the world behind the boxes. -/
abbrev nbW (x : IdL) (w : World) : World := (w.alloc (.cells (bv x).toArray 25)).alloc (.cells zlit 25)
set_option maxRecDepth 100000 in
theorem nbW_below (x : IdL) (w : World) : Below w.heap.size w (nbW x w) := ((Below.refl _ _).alloc (Nat.le_refl _) _).alloc (by simp) _
set_option maxRecDepth 100000 in
theorem nbW_1 (x : IdL) (w : World) : Blk (nbW x w) w.heap.size 25 (bv x).toArray := (Blk.new w _ _).alloc _
set_option maxRecDepth 100000 in
theorem nbW_2 (x : IdL) (w : World) : Blk (nbW x w) (w.heap.size + 1) 25 zid := by
  have := Blk.new (w.alloc (.cells (bv x).toArray 25)) 25 zlit
  rw [World.size_alloc] at this
  exact this
set_option maxRecDepth 100000 in
theorem nbW_size (x : IdL) (w : World) : (nbW x w).heap.size = w.heap.size + 1 + 1 := by simp
set_option maxRecDepth 100000 in
set_option maxHeartbeats 2000000 in
theorem tnode_any (P : Nat → Prop) (g gt f : Nat) (L : Prs) (x : IdL) (w : World) (h : TbAt w P g gt f L) (hx : IsId x) :
    Calls Try.prog 28 #[.pointer (some ⟨g, 0, none⟩), ida x] w (IdB (nodeOf L x) (hasG L x) w) := by
  obtain ⟨A, n, c, m1, m2, hm⟩ := h
  have hu := idTy
  have hsz := idSz hx
  have hb0 := nbW_below x w
  have h0 := hm.below hb0
  have HS := Lib.hid (show ∀ W, Below (nbW x w).heap.size (nbW x w) W → S7 (nbW x w) g 3 m1 w.heap.size 0 x (nodeOf L x) (hasG L x) W from fun W hW =>
    ⟨cell_later hW h0.c3, run_loadId (range_aft (nbW_1 x w).range hW) hx, by have := look_g (h0.below hW).mg hx true; rwa [if_pos rfl] at this, hW⟩)
  have hy : IsId (nodeOf L x) := hm.bij.all.nodeId _
  have t2 : (nbW x w).there (w.heap.size + 1) 0 20 := (nbW_2 x w).thereM rfl
  go_enter Try.func28, Try.ntmps28
  go_upto_region 3 with fail
  rw [ldI_eq 3, stI_eq 6 18]
  go_cut [6, 7] (fun v6 v7 wx => ∃ b6, v6 = .pointer (some ⟨b6, 0, none⟩) ∧ v7 = .bool (hasG L x) ∧ IdAt (nbW x w) b6 (nodeOf L x) wx)
  case first =>
    go_region_held3 (S7 (nbW x w) g 3 m1 w.heap.size 0 x (nodeOf L x) (hasG L x))
      (first | exact HS.out _ (bd1 _) | exact HS.out _ (bd2 _ _) | exact HS.out _ (bk_set (bd2 (nbW x w) _) _ _ (Nat.le_of_eq (nbW_size x w))))
      (fail)
    all_goals go_wp2
    all_goals go_meet
    all_goals exact ⟨_, rfl, rfl, idAt_set hy (bd2 (nbW x w) _) (there_new (nbW x w) _ (nbW_size x w).symm) (Nat.le_of_eq (nbW_size x w))⟩
  case rest =>
    clear HS
    obtain ⟨b6, rfl, rfl, hz6, hr6, ht6, hb6⟩ := hcut
    rename World => w6
    have l6 := run_loadId hr6 hy
    have t2' := there_belowM t2 hb6
    have hb3 := below_two hb0 hb6
    have hb4 := hb3.grown (setCells_grown (w.heap.size + 1) (bv (nodeOf L x)) 0 w6) hb3.size (fun k e => by injection e with e; omega)
    have hrr : (w6.setCells (w.heap.size + 1) 0 (bv (nodeOf L x))).rangeAt (w.heap.size + 1) 0 (bv (nodeOf L x)) := World.rangeAt_setCells_same _ _ _ _ (by rw [bv_length, hy.1]; exact t2')
    go_upto_region 4 with fail
    rw [ldI_eq 6, stI_eq 4 20]
    go_wp2
    refine ret_ct 4 5 (w.heap.size + 1) (nodeOf L x) Try.results28 rfl hrr hy rfl ⟨rfl, hb4⟩
set_option maxRecDepth 100000 in
set_option maxHeartbeats 2000000 in
theorem tgit_any (P : Nat → Prop) (g gt f : Nat) (L : Prs) (x : IdL) (w : World) (h : TbAt w P g gt f L) (hx : IsId x) :
    Calls Try.prog 47 #[.pointer (some ⟨g, 0, none⟩), ida x] w (IdB (gitOf L x) (hasN L x) w) := by
  obtain ⟨A, n, c, m1, m2, hm⟩ := h
  have hu := idTy
  have hsz := idSz hx
  have hb0 := nbW_below x w
  have h0 := hm.below hb0
  have HS := Lib.hid (show ∀ W, Below (nbW x w).heap.size (nbW x w) W → S7 (nbW x w) g 4 m2 w.heap.size 0 x (gitOf L x) (hasN L x) W from fun W hW =>
    ⟨cell_later hW h0.c4, run_loadId (range_aft (nbW_1 x w).range hW) hx, by have := look_n (h0.below hW).mn hx true; rwa [if_pos rfl] at this, hW⟩)
  have hy : IsId (gitOf L x) := hm.bij.all.gitId _
  have t2 : (nbW x w).there (w.heap.size + 1) 0 20 := (nbW_2 x w).thereM rfl
  go_enter Try.func47, Try.ntmps47
  go_upto_region 3 with fail
  rw [ldI_eq 3, stI_eq 6 18]
  go_cut [6, 7] (fun v6 v7 wx => ∃ b6, v6 = .pointer (some ⟨b6, 0, none⟩) ∧ v7 = .bool (hasN L x) ∧ IdAt (nbW x w) b6 (gitOf L x) wx)
  case first =>
    go_region_held3 (S7 (nbW x w) g 4 m2 w.heap.size 0 x (gitOf L x) (hasN L x))
      (first | exact HS.out _ (bd1 _) | exact HS.out _ (bd2 _ _) | exact HS.out _ (bk_set (bd2 (nbW x w) _) _ _ (Nat.le_of_eq (nbW_size x w))))
      (fail)
    all_goals go_wp2
    all_goals go_meet
    all_goals exact ⟨_, rfl, rfl, idAt_set hy (bd2 (nbW x w) _) (there_new (nbW x w) _ (nbW_size x w).symm) (Nat.le_of_eq (nbW_size x w))⟩
  case rest =>
    clear HS
    obtain ⟨b6, rfl, rfl, hz6, hr6, ht6, hb6⟩ := hcut
    rename World => w6
    have l6 := run_loadId hr6 hy
    have t2' := there_belowM t2 hb6
    have hb3 := below_two hb0 hb6
    have hb4 := hb3.grown (setCells_grown (w.heap.size + 1) (bv (gitOf L x)) 0 w6) hb3.size (fun k e => by injection e with e; omega)
    have hrr : (w6.setCells (w.heap.size + 1) 0 (bv (gitOf L x))).rangeAt (w.heap.size + 1) 0 (bv (gitOf L x)) := World.rangeAt_setCells_same _ _ _ _ (by rw [bv_length, hy.1]; exact t2')
    go_upto_region 4 with fail
    rw [ldI_eq 6, stI_eq 4 20]
    go_wp2
    refine ret_ct 4 5 (w.heap.size + 1) (gitOf L x) Try.results47 rfl hrr hy rfl ⟨rfl, hb4⟩
end
end Go.Proofs.Ytokamaogognjoaa
