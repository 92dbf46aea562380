/-
  have; words for walks over ids and pairs.
-/
import Derived.Test.YtokamaogognjoaaMkC
set_option linter.unusedVariables false
set_option linter.unusedSimpArgs false
namespace Go.Proofs.Ytokamaogognjoaa
section
open Go.RowKit

/-- the type of an id under a name that nothing sees through: a load of an id is then taken first as a short one is. -/
noncomputable def tyI : TypeId := Classical.choose (⟨25, rfl⟩ : ∃ t : TypeId, t = 25)
set_option maxRecDepth 100000 in
theorem tyI_eq : tyI = 25 := Classical.choose_spec (⟨25, rfl⟩ : ∃ t : TypeId, t = 25)
set_option maxRecDepth 100000 in
@[go_sem ↓ high] theorem loadVar_I (p : Addr) : loadVar tyI p = loadId p := by rw [tyI_eq]; rfl
set_option maxRecDepth 100000 in
theorem ldI_eq (t : Tmp) : Op.load 25 (.tmp t) = Op.load tyI (.tmp t) := by rw [tyI_eq]
/-- the same of a pair. -/
noncomputable def tyP : TypeId := Classical.choose (⟨27, rfl⟩ : ∃ t : TypeId, t = 27)
set_option maxRecDepth 100000 in
theorem tyP_eq : tyP = 27 := Classical.choose_spec (⟨27, rfl⟩ : ∃ t : TypeId, t = 27)
set_option maxRecDepth 100000 in
@[go_sem ↓ high] theorem loadVar_P (p : Addr) : loadVar tyP p = loadPr p := by rw [tyP_eq]; rfl
set_option maxRecDepth 100000 in
theorem ldP_eq (t : Tmp) : Op.load 27 (.tmp t) = Op.load tyP (.tmp t) := by rw [tyP_eq]
set_option maxRecDepth 100000 in
@[go_sem] theorem ida_cells (xs : List Int) : (Value.agg (bv xs).toArray).cells = (bv xs).toArray := rfl
/-- the load of the row, under a name: the walk of the region leaves it where it stands. -/
def ldRow : Op := .load 23 (.tmp 15)
set_option maxRecDepth 100000 in
@[go_sem] theorem ldRow_def : ldRow = .load 23 (.tmp 15) := rfl
set_option maxRecDepth 100000 in
theorem pr_sz {xs : List Int} (h : IsPr xs) : (Try.prog.info? 27).map (·.size) = some (bv xs).toArray.size := by rw [bvArr_size, h.1]; exact prSize
set_option maxRecDepth 100000 in
theorem pr_zs {xs : List Int} (h : IsPr xs) : zpr.size = (bv xs).toArray.size := by rw [bvArr_size, h.1]; simp [zpr, bv]
def HavePost (P : Nat → Prop) (g gt f : Nat) (L : Prs) (w : World) (e : Ending) (w' : World) : Prop := e = .returned (.tuple #[]) ∧ TbAt w' (fun k => P k ∨ w.heap.size ≤ k) g gt f L ∧ Chg P w w'
/-- what the entries' region reads. -/
abbrev S4 (g m1 m2 b : Nat) (p : IdL) (W : World) : Prop := W.cell? ⟨g, 3, none⟩ = some (.map (some m1)) ∧ W.cell? ⟨g, 4, none⟩ = some (.map (some m2)) ∧ (loadId ⟨b, 0, none⟩).run Try.prog W = .ok (ida (git p)) W ∧ (loadId ⟨b, 20, none⟩).run Try.prog W = .ok (ida (nod p)) W
set_option maxRecDepth 100000 in
theorem s4_of {g m1 m2 b : Nat} {p : IdL} {w W : World} (hp : IsPr p) (h3 : w.cell? ⟨g, 3, none⟩ = some (.map (some m1))) (h4 : w.cell? ⟨g, 4, none⟩ = some (.map (some m2))) (hr : w.rangeAt b 0 (bv p)) (hk : ∀ q v, w.cell? q = some v → W.cell? q = some v) : S4 g m1 m2 b p W := by
  have hr' : W.rangeAt b 0 (bv p) := fun j v hj => hk _ _ (hr j v hj)
  have hn := range_node hr'
  rw [Nat.zero_add] at hn
  exact ⟨hk _ _ h3, hk _ _ h4, run_loadId (range_git hr') hp.git, run_loadId hn hp.node⟩
set_option maxRecDepth 100000 in
theorem cell_set_far (w : World) (g b i j : Nat) (v : Value) (h : b ≠ g) : (w.setCell ⟨g, j, none⟩ v).cell? ⟨b, i, none⟩ = w.cell? ⟨b, i, none⟩ := by
  unfold World.cell?
  rw [show (w.setCell ⟨g, j, none⟩ v).heap[b]? = w.heap[b]? from heap_setCell_other w _ b v h]
set_option maxRecDepth 100000 in
set_option maxHeartbeats 4000000 in
theorem have_any (P : Nat → Prop) (g gt f : Nat) (L : Prs) (B : Option Addr) (k c : Nat) (l : Prs) (w : World) (h : TbAt w P g gt f L) (hB : RPrs w B k l) (hk : k ≤ 100000) (hL : L.length ≤ 100000) (hnew : NewSeq L l) (hap : ∀ ad, B = some ad → ¬ P ad.block) :
    Calls Try.prog 34 #[.pointer (some ⟨g, 0, none⟩), .slice B k c] w (HavePost P g gt f (L ++ l) w) := by
  have hl := hB.1
  subst hl
  go_enter Try.func34, Try.ntmps34
  go_wp2
  go_loopw [8] (fun i wr => ∃ j : Nat, j ≤ l.length ∧ i = .int .i64 j ∧ TbAt wr (fun k => P k ∨ w.heap.size ≤ k) g gt f (L ++ l.take j) ∧ Chg P w wr) (fun i _ => l.length - (intOf i).toNat)
  case atStart => exact ⟨0, by omega, rfl, by simpa using h.mono fun k hk => .inl hk, Chg.refl _ _⟩
  case round =>
    obtain ⟨j, hj, rfl, ⟨A, n, cc, m1, m2, hm⟩, hc⟩ := hrel
    by_cases h1 : j < l.length
    · have hBr := hc.prs hB hap
      obtain ⟨b, o, rfl, hcells⟩ := hBr.2.2 (by omega)
      have hp : IsPr (gp l j) := hB.2.1.at_ h1
      have r1 := run_loadPr (hcells j h1) hp
      have hnj := hnew j h1
      have htg := take_gp h1
      have hTG := Lib.hid htg
      clear htg
      have hnl := hm.len
      have hnl' : n ≤ 200000 := by rw [← hnl, List.length_append, List.length_take]; omega
      clear hnl
      have j0 : (0 : Int) ≤ (j : Int) := by omega
      have j1 : (j : Int) < (l.length : Int) := by omega
      have hzX := pr_sz hp
      have hsX := pr_zs hp
      clear hcells
      go_upto_region 3 with ((with_reducible refine st_row 27 5 11 wr.heap.size 27 (bv (gp l j)).toArray zpr ?_ ?_ ?_ hzX hsX (bvArr_all (gp l j)) ?_); rfl; rfl; exact Blk.new wr _ zpr; intro w5 hb5 hg5 hsz5)
      have hB5 : Below wr.heap.size wr w5 := ((Below.refl _ wr).alloc (Nat.le_refl _) _).grown hg5 (by simp) (fun k e => by injection e with e; omega)
      have z5 : wr.heap.size < w5.heap.size := by rw [hsz5, World.size_alloc]; omega
      clear hsz5
      have hm5 := hm.below hB5
      have hBx : Blk ((w5.alloc (.cells (bv (gp l j)).toArray 27)).drew) w5.heap.size 27 (bv (gp l j)).toArray := (Blk.new w5 _ _).drew
      have hba : Below w5.heap.size w5 ((w5.alloc (.cells (bv (gp l j)).toArray 27)).drew) := below_drewN ((Below.refl _ _).alloc (Nat.le_refl _) _) 1
      have hmA := hm5.below hba
      have hoA := hmA.own
      have m1' : w5.cell? ⟨g, 2, none⟩ = some (.slice A n cc) := hm5.c2
      have a1 : ((w5.alloc (.cells (bv (gp l j)).toArray 27)).drew).cell? ⟨g, 2, none⟩ = some (.slice A n cc) := hmA.c2
      have s5 : w5.drew.rangeAt wr.heap.size 0 (bv (gp l j)) := hb5.range
      have sA : ((w5.alloc (.cells (bv (gp l j)).toArray 27)).drew).rangeAt wr.heap.size 0 (bv (gp l j)) := (hb5.below hba hb5.lt).range
      have hobw : ∀ k, (Value.slice A n cc).ownBlock = some k → k ≠ wr.heap.size := fun k e => by have := hm.lt.2.2.2 k e; omega
      have hobg : ∀ k, (Value.slice A n cc).ownBlock = some k → k ≠ g := hm.own.notBlk hm.blk (by decide)
      have hgw : wr.heap.size ≠ g := by have := hm.lt.1; omega
      rw [← ldRow_def, ldP_eq 5]
      go_region_held3 (fun W => (loadPr ⟨wr.heap.size, 0, none⟩).run Try.prog W = .ok (ida (gp l j)) W)
        (first
          | exact run_loadPr s5 hp
          | exact run_loadPr sA hp
          | exact run_loadPr (fun i v hi => (cell_set_far _ g _ _ 2 _ hgw).trans (r6 i v hi)) hp
          | exact run_loadPr r6 hp)
        (first
          | (refine step_appPrs rfl (.tmp 16) (.tmp 18) rfl 0 (.slice A n cc) n (L ++ l.take j) rfl hoA (some ⟨w5.heap.size, 0, none⟩) 1 1 [gp l j] rfl (RPrs.one hBx hp) (by omega) (Nat.zero_le _) ?_; intro v6 w6 ho6 hg6 hat6; obtain ⟨A6, c6, rfl, hc6⟩ := ho6.slice; have h6b := hmA.blk.grown hg6 (fun e => hobg _ e.symm rfl); have e1 := h6b.cell 2; have f1 := h6b.frozen 2; have r6 : w6.rangeAt wr.heap.size 0 (bv (gp l j)) := (fun i v hi => hg6.cell (sA i v hi) (fun e => hobw _ e.symm rfl))))
      all_goals
        go_wp2
        have hs7 : w6.grownBy (w6.setCell ⟨g, 2, none⟩ (.slice A6 (n + 1) c6)).drew (some g) := grown_drewN (set_grownQ w6 g 2 (.slice A6 (n + 1) c6)) 1
        have hbl7 := (h6b.set_ 2 (.slice A6 (n + 1) c6)).drew
        have r7 : (w6.setCell ⟨g, 2, none⟩ (.slice A6 (n + 1) c6)).drew.rangeAt wr.heap.size 0 (bv (gp l j)) := fun i v hi => (cell_set_far w6 g _ _ 2 _ hgw).trans (r6 i v hi)
        have hlenL := hm.len
        obtain ⟨w8, w9, w10, w11, q8, q9, q10, q11, hkeep, hm11, hc11⟩ := tb_added hmA hp hnj hg6 ho6 hat6 hs7 hbl7
        rw [hlenL] at q8 q9 q10 q11
        have H7 := Lib.hid (show S4 g m1 m2 wr.heap.size (gp l j) (w6.setCell ⟨g, 2, none⟩ (.slice A6 (n + 1) c6)).drew from s4_of hp (hbl7.cell 3) (hbl7.cell 4) r7 (fun _ _ h => h))
        have H8 := Lib.hid (show S4 g m1 m2 wr.heap.size (gp l j) w8 from s4_of hp (hbl7.cell 3) (hbl7.cell 4) r7 (fun q v h => (hkeep q v h).1))
        have H9 := Lib.hid (show S4 g m1 m2 wr.heap.size (gp l j) w9 from s4_of hp (hbl7.cell 3) (hbl7.cell 4) r7 (fun q v h => (hkeep q v h).2.1))
        have H10 := Lib.hid (show S4 g m1 m2 wr.heap.size (gp l j) w10 from s4_of hp (hbl7.cell 3) (hbl7.cell 4) r7 (fun q v h => (hkeep q v h).2.2.1))
        have H11 := Lib.hid (show S4 g m1 m2 wr.heap.size (gp l j) w11 from s4_of hp (hbl7.cell 3) (hbl7.cell 4) r7 (fun q v h => (hkeep q v h).2.2.2))
        have hc5 : Chg P w w11 := hc.then (((Chg.below (P := fun k => P k ∨ w.heap.size ≤ k) hB5).then (Chg.below (P := fun k => P k ∨ w.heap.size ≤ k) hba) (fun i h => .inl h)).then hc11 (fun i h => .inl h)) (fun i h => h)
        have hsz := hc.size
        have ht11 : TbAt w11 (fun k => P k ∨ w.heap.size ≤ k) g gt f (L ++ l.take (j + 1)) := by
          rw [hTG.out, ← List.append_assoc]
          refine ⟨A6, n + 1, c6, m1, m2, hm11.mono fun k h => ?_⟩
          rcases h with h | h
          · exact h
          · simp at h
            exact .inr (by omega)
        clear hkeep hlenL r7 hs7 hbl7 hat6 hg6 h6b ho6 r6 e1 f1
        rw [ldI_eq 26, ldI_eq 32, ldI_eq 34, ldI_eq 36]
        go_region_held3 (S4 g m1 m2 wr.heap.size (gp l j))
          (first
            | exact H7.out
            | exact H8.out
            | exact H9.out
            | exact H10.out
            | exact H11.out)
          (fail)
        all_goals
          go_wp2
          go_roundw
          case rel => exact ⟨j + 1, by omega, by go_num, ht11, hc5⟩
          case measure => simp [intOf]; omega
    · obtain rfl : j = l.length := by omega
      go_wp2
      go_end0
      exact ⟨rfl, by simpa using (show TbAt wr _ g gt f _ from ⟨A, n, cc, m1, m2, hm⟩), hc⟩
end
section
open Go.RowKit

abbrev zlit : Array Value := #[.int .u8 0, .int .u8 0, .int .u8 0, .int .u8 0, .int .u8 0, .int .u8 0, .int .u8 0, .int .u8 0, .int .u8 0, .int .u8 0, .int .u8 0, .int .u8 0, .int .u8 0, .int .u8 0, .int .u8 0, .int .u8 0, .int .u8 0, .int .u8 0, .int .u8 0, .int .u8 0]
set_option maxRecDepth 100000 in
theorem ida_zero : ida zeroL = .agg zlit := rfl
set_option maxRecDepth 100000 in
@[go_sem] theorem ida_guard (op : BinOp) (x y : Operand) (cs ds : Array Value) (w : World) : (eqGuard op 25 x y (.agg cs) (.agg ds)).run Try.prog w = .ok () w := run_eqGuard_agg w op 25 x y _ _ idGuard
set_option maxRecDepth 100000 in
theorem ida_eql {xs ys : List Int} (hx : IsId xs) (hy : IsId ys) (w : World) : (binOp .eql 25 (ida xs) (ida ys)).run Try.prog w = .ok (.bool (xs == ys)) w := idv_eql hx hy w
set_option maxRecDepth 100000 in
theorem ida_neq {xs ys : List Int} (hx : IsId xs) (hy : IsId ys) (w : World) : (binOp .neq 25 (ida xs) (ida ys)).run Try.prog w = .ok (.bool (xs != ys)) w := by
  have h := eqIn_id hx hy 9998 w
  rw [run_neq_struct, h]
  rfl
set_option maxRecDepth 100000 in
theorem idz_neq {xs : List Int} (hx : IsId xs) (w : World) : (binOp .neq 25 (ida xs) (.agg zlit)).run Try.prog w = .ok (.bool (xs != zeroL)) w := ida_neq hx zeroL_id w
set_option maxRecDepth 100000 in
theorem idz_eql {xs : List Int} (hx : IsId xs) (w : World) : (binOp .eql 25 (ida xs) (.agg zlit)).run Try.prog w = .ok (.bool (xs == zeroL)) w := ida_eql hx zeroL_id w
/-- a store of an id, for a fact of the proof to answer. -/
noncomputable def stId (p : Addr) (v : Value) : Sem Unit := storeVar 25 p v
set_option maxRecDepth 100000 in
@[go_sem ↓ high] theorem storeVar_I (p : Addr) (v : Value) : storeVar tyI p v = stId p v := by rw [tyI_eq]; rfl
set_option maxRecDepth 100000 in
theorem stI_eq (t u : Tmp) : Op.store 25 (.tmp t) (.tmp u) = Op.store tyI (.tmp t) (.tmp u) := by rw [tyI_eq]
set_option maxRecDepth 100000 in
@[go_sem] theorem run_stId (w : World) (b : Nat) (xs : IdL) (h : w.there b 0 20) (hx : IsId xs) : (stId ⟨b, 0, none⟩ (ida xs)).run Try.prog w = .ok () (w.setCells b 0 (bv xs)) := by
  have hl : (bv xs).toArray.size = 20 := by rw [List.size_toArray, bv_length, hx.1]
  have := run_storeVar_mid (P := Try.prog) w b 0 25 (bv xs).toArray (by rw [hl]; exact h) (by rw [hl]; exact idSize) (bvArr_all xs)
  exact this
set_option maxRecDepth 100000 in
theorem there_belowM {w w' : World} {b o n : Nat} (h : w.there b o n) (hb : Below w.heap.size w w') : w'.there b o n := fun i hi => by
  obtain ⟨h1, h2⟩ := h i hi
  have hl : b < w.heap.size := by
    obtain ⟨v, hv⟩ := Option.isSome_iff_exists.1 h1
    exact World.block_lt_of_cell? _ _ hv
  exact ⟨by rw [hb.cell (p := ⟨b, o + i, none⟩) hl]; exact h1, by rw [hb.frozen (p := ⟨b, o + i, none⟩) hl]; exact h2⟩
set_option maxRecDepth 100000 in
theorem Blk.thereM {w : World} {g : Nat} {t : TypeId} {cs : Array Value} {n : Nat} (h : Blk w g t cs) (hn : cs.size = n) : w.there g 0 n := fun i hi => by
  refine ⟨?_, h.frozen _⟩
  rw [h.cell, Array.getElem?_eq_getElem (by omega)]
  rfl
set_option maxRecDepth 100000 in
@[go_sem] theorem there_new (w : World) (b : Nat) (h : b = w.heap.size) : (w.alloc (.cells zlit 25)).there b 0 20 := by
  subst h
  exact (Blk.new w 25 zlit).thereM rfl
set_option maxRecDepth 100000 in
@[go_sem low] theorem there_old (w : World) (b n : Nat) (o : Obj) (h : w.there b 0 n) : (w.alloc o).there b 0 n := there_belowM h ((Below.refl _ _).alloc (Nat.le_refl _) o)
set_option maxRecDepth 100000 in
@[go_sem] theorem there_drew (w : World) (b n : Nat) : w.drew.there b 0 n = w.there b 0 n := rfl
set_option maxRecDepth 100000 in
@[go_sem] theorem there_set (w : World) (b n b' o : Nat) (vs : List Value) (h : w.there b 0 n) : (w.setCells b' o vs).there b 0 n := World.there_setCells h b' o vs
set_option maxRecDepth 100000 in
theorem bk_alloc {w W : World} (h : Below w.heap.size w W) (o : Obj) : Below w.heap.size w (W.alloc o) := h.alloc h.size o
set_option maxRecDepth 100000 in
theorem bk_set {w W : World} (h : Below w.heap.size w W) (b' : Nat) (vs : List Value) (hb : w.heap.size ≤ b') : Below w.heap.size w (W.setCells b' 0 vs) := h.grown (setCells_grown b' vs 0 W) h.size (fun k hk => by cases hk; exact hb)
set_option maxRecDepth 100000 in
theorem range_aft {w w' : World} {b o : Nat} {cs : List Value} (h : w.rangeAt b o cs) (hb : Below w.heap.size w w') : w'.rangeAt b o cs := fun j v hv => cell_later hb (h j v hv)
set_option maxRecDepth 100000 in
theorem bd1 (w : World) : Below w.heap.size w w.drew := below_drewN (Below.refl _ _) 1
set_option maxRecDepth 100000 in
theorem bd2 (w : World) (o : Obj) : Below w.heap.size w (w.alloc o).drew := below_drewN (bk_alloc (Below.refl _ _) o) 1
set_option maxRecDepth 100000 in
theorem bd3 (w : World) (o : Obj) (vs : List Value) : Below w.heap.size w ((w.alloc o).drew.setCells w.heap.size 0 vs) := bk_set (bd2 w o) _ _ (Nat.le_refl _)
/-- an id lies in a cell of its own, made since. -/
abbrev IdAt (w : World) (b : Nat) (x : IdL) (W : World) : Prop := w.heap.size ≤ b ∧ W.rangeAt b 0 (bv x) ∧ W.there b 0 20 ∧ Below w.heap.size w W
set_option maxRecDepth 100000 in
theorem idAt_set {w X : World} {b : Nat} {x : IdL} (hx : IsId x) (hX : Below w.heap.size w X) (ht : X.there b 0 20) (hb : w.heap.size ≤ b) : IdAt w b x (X.setCells b 0 (bv x)) :=
  ⟨hb, World.rangeAt_setCells_same _ _ _ _ (by rw [bv_length, hx.1]; exact ht), World.there_setCells ht b 0 (bv x), bk_set hX _ _ hb⟩
set_option maxRecDepth 100000 in
theorem idAt_new {w : World} {x : IdL} (hx : IsId x) : IdAt w w.heap.size x ((w.alloc (.cells zlit 25)).drew.setCells w.heap.size 0 (bv x)) := idAt_set hx (bd2 w _) (there_new w _ rfl) (Nat.le_refl _)
def FreshPost (r : Prs × Int) (w : World) (e : Ending) (w' : World) : Prop := ∃ A c, e = .returned (.tuple #[.slice A r.1.length c, .int .i64 r.2]) ∧ OPrs w' w.heap.size (.slice A r.1.length c) r.1.length r.1 ∧ r.1.length ≤ c ∧ Below w.heap.size w w'
set_option maxRecDepth 100000 in
theorem FreshPost.bad {w w' : World} {x : Int} (hb : Below w.heap.size w w') : FreshPost ([], x) w (.returned (.tuple #[.slice none 0 0, .int .i64 x])) w' := ⟨_, _, rfl, OPrs.nil _ _, Nat.le_refl _, hb⟩
set_option maxRecDepth 100000 in
theorem FreshPost.good {w w' : World} {x : Int} {v : Value} {n : Nat} {o : Prs} (ho : OPrs w' w.heap.size v n o) (hb : Below w.heap.size w w') : FreshPost (o, x) w (.returned (.tuple #[v, .int .i64 x])) w' := by
  have := ho.2.2
  subst this
  obtain ⟨A, c, rfl, hc⟩ := ho.slice
  exact ⟨A, c, rfl, ho, hc, hb⟩
end
end Go.Proofs.Ytokamaogognjoaa
