/-
  Pairs of ids as lists of forty bytes: slices of them; In, Plain, Own, Kept.
-/
import Derived.Test.YtokamaogognjoaaGr0
set_option linter.unusedVariables false
set_option linter.unusedSimpArgs false
namespace Go.Proofs.Ytokamaogognjoaa
section
open Go.RowKit

def IsPr (xs : List Int) : Prop := xs.length = 40 ∧ Byts xs
def zpr : Array Value := (bv (List.replicate 40 0)).toArray
set_option maxRecDepth 100000 in
@[go_sem high] theorem zeroPr (w : World) : (zeroValue 27).run Try.prog w = .ok (.agg zpr) w := by kernel_rfl
set_option maxRecDepth 100000 in
theorem zpr_cells : (Value.agg zpr).cells = zpr := rfl
set_option maxRecDepth 100000 in
theorem prTy : Try.prog.underlying 27 = some (.struct (Try.prog.fieldsOf 27)) := by kernel_rfl
set_option maxRecDepth 100000 in
theorem prSize : (Try.prog.info? 27).map (·.size) = some 40 := by kernel_rfl
set_option maxRecDepth 100000 in
theorem prSz {xs : List Int} (h : IsPr xs) : (Try.prog.info? 27).map (·.size) = some (bv xs).length := by rw [bv_length, h.1]; exact prSize
set_option maxRecDepth 100000 in
@[go_sem] theorem pr_guard (op : BinOp) (x y : Operand) (cs ds : Array Value) (w : World) : (eqGuard op 27 x y (.agg cs) (.agg ds)).run Try.prog w = .ok () w := run_eqGuard_agg w op 27 x y _ _ (by kernel_rfl)
set_option maxRecDepth 100000 in
theorem IsPr.git {xs : List Int} (h : IsPr xs) : IsId (xs.take 20) := ⟨by rw [List.length_take, h.1]; rfl, h.2.take 20⟩
set_option maxRecDepth 100000 in
theorem IsPr.node {xs : List Int} (h : IsPr xs) : IsId (xs.drop 20) := ⟨by rw [List.length_drop, h.1], h.2.drop 20⟩
set_option maxRecDepth 100000 in
theorem IsPr.mk {g n : List Int} (hg : IsId g) (hn : IsId n) : IsPr (g ++ n) := ⟨by rw [List.length_append, hg.1, hn.1], hg.2.append hn.2⟩
set_option maxRecDepth 100000 in
theorem pr_parts (xs : List Int) : xs.take 20 ++ xs.drop 20 = xs := List.take_append_drop 20 xs
set_option maxRecDepth 100000 in
theorem pr_git {g n : List Int} (hg : IsId g) : (g ++ n).take 20 = g := List.take_left' hg.1
set_option maxRecDepth 100000 in
theorem pr_node {g n : List Int} (hg : IsId g) : (g ++ n).drop 20 = n := List.drop_left' hg.1
set_option maxRecDepth 100000 in
theorem range_git {w : World} {b o : Nat} {xs : List Int} (h : w.rangeAt b o (bv xs)) : w.rangeAt b o (bv (xs.take 20)) := fun j v hj => h j v (by
  have : bv (xs.take 20) = (bv xs).take 20 := by simp [bv, List.map_take]
  rw [this, List.getElem?_take] at hj
  split at hj
  · exact hj
  · cases hj)
set_option maxRecDepth 100000 in
theorem range_node {w : World} {b o : Nat} {xs : List Int} (h : w.rangeAt b o (bv xs)) : w.rangeAt b (o + 20) (bv (xs.drop 20)) := fun j v hj => by
  have e : bv (xs.drop 20) = (bv xs).drop 20 := by simp [bv, List.map_drop]
  rw [e, List.getElem?_drop] at hj
  rw [Nat.add_assoc]
  exact h _ v hj
set_option maxRecDepth 100000 in
/-- a load of a pair that lies somewhere. -/
theorem ld_pr {w : World} {b o : Nat} {xs : List Int} (h : w.rangeAt b o (bv xs)) (hx : IsPr xs) : (Instr.loadAt 27 (.pointer (some ⟨b, o, none⟩))).run Try.prog w = .ok (ida xs) w :=
  run_loadAt_mid w b o _ (bv xs) _ h prTy rfl (prSz hx)
/-- a load of a pair, for a fact of the proof to answer. -/
noncomputable def loadPr (p : Addr) : Sem Value := loadVar 27 p
set_option maxRecDepth 100000 in
@[go_sem ↓ high] theorem loadVar_pr (p : Addr) : loadVar 27 p = loadPr p := rfl
set_option maxRecDepth 100000 in
theorem run_loadPr {w : World} {b o : Nat} {xs : List Int} (h : w.rangeAt b o (bv xs)) (hx : IsPr xs) : (loadPr ⟨b, o, none⟩).run Try.prog w = .ok (ida xs) w :=
  run_loadVar_mid w b o _ (bv xs) _ h prTy rfl (prSz hx)
/-- a load of an id, for a fact of the proof to answer. -/
noncomputable def loadId (p : Addr) : Sem Value := loadVar 25 p
set_option maxRecDepth 100000 in
@[go_sem ↓ high] theorem loadVar_id (p : Addr) : loadVar 25 p = loadId p := rfl
set_option maxRecDepth 100000 in
theorem run_loadId {w : World} {b o : Nat} {xs : List Int} (h : w.rangeAt b o (bv xs)) (hx : IsId xs) : (loadId ⟨b, o, none⟩).run Try.prog w = .ok (ida xs) w :=
  run_loadVar_mid w b o _ (bv xs) _ h idTy rfl (idSz hx)
set_option maxRecDepth 100000 in
theorem partId_git {xs : List Int} (hx : IsPr xs) (w : World) : (part 25 (bv xs).toArray 0).run Try.prog w = .ok (ida (xs.take 20)) w := by
  have hs := sizeId w
  have hl := hx.1
  simp [part, isAgg, run_underlying idTy, hs, bv, List.map_take]
set_option maxRecDepth 100000 in
theorem partId_node {xs : List Int} (hx : IsPr xs) (w : World) : (part 25 (bv xs).toArray 20).run Try.prog w = .ok (ida (xs.drop 20)) w := by
  have hs := sizeId w
  have hl := hx.1
  simp [part, isAgg, run_underlying idTy, hs, bv, List.map_drop, List.take_of_length_le, hl]
set_option maxRecDepth 100000 in
theorem eqIn_id {xs ys : List Int} (hx : IsId xs) (hy : IsId ys) (d : Nat) (w : World) : (Op.equalIn (d + 2) 25 (ida xs) (ida ys)).run Try.prog w = .ok (xs == ys) w := by
  have h := run_equalIn_bytes w d 25 5 20 idTy Try.underlying5 size5' (u8s xs) (u8s ys) (by simp [u8s, hx.1]) (by simp [u8s, hy.1])
  rw [u8s_cell hx.2, u8s_cell hy.2] at h
  rw [h]
  congr 1
  rw [Bool.eq_iff_iff, beq_iff_eq, beq_iff_eq]
  exact ⟨u8s_inj hx.2 hy.2, fun e => by rw [e]⟩
set_option maxRecDepth 100000 in
theorem prFields : ∃ f0 f1 : Field, (Try.prog.fieldsOf 27).toList = [f0, f1] ∧ f0.name = "Git" ∧ f0.type = 25 ∧ f0.offset = 0 ∧ f1.name = "Node" ∧ f1.type = 25 ∧ f1.offset = 20 := by
  unfold Program.fieldsOf
  rw [Try.underlying27]
  exact ⟨_, _, rfl, rfl, rfl, rfl, rfl, rfl, rfl⟩
set_option maxRecDepth 100000 in
theorem eqIn_pr {xs ys : List Int} (hx : IsPr xs) (hy : IsPr ys) (d : Nat) (w : World) : (Op.equalIn (d + 3) 27 (ida xs) (ida ys)).run Try.prog w = .ok (xs == ys) w := by
  rw [run_equalIn_agg w (d + 2) _ _ _ prTy (by kernel_rfl)]
  have h1 := partId_git hx w
  have h2 := partId_git hy w
  have h3 := partId_node hx w
  have h4 := partId_node hy w
  have h5 := eqIn_id hx.git hy.git d w
  have h6 := eqIn_id hx.node hy.node d w
  obtain ⟨f0, f1, e, n0, t0, o0, n1, t1, o1⟩ := prFields
  have hb : (xs == ys) = ((xs.take 20 == ys.take 20) && (xs.drop 20 == ys.drop 20)) := by
    rw [Bool.eq_iff_iff, Bool.and_eq_true, beq_iff_eq, beq_iff_eq, beq_iff_eq]
    exact ⟨fun e => by rw [e]; exact ⟨rfl, rfl⟩, fun ⟨e1, e2⟩ => by rw [← pr_parts xs, ← pr_parts ys, e1, e2]⟩
  have m0 : (f0.name ≠ "_") := by rw [n0]; decide
  have m1 : (f1.name ≠ "_") := by rw [n1]; decide
  clear n0 n1 hx hy
  rw [e, hb]
  clear e hb
  generalize (xs.take 20 == ys.take 20) = b1 at *
  generalize (xs.drop 20 == ys.drop 20) = b2 at *
  rw [Op.eqFields, if_pos m0, Sem.run_bind, t0, o0, h1, Result.andThen_ok, Sem.run_bind, h2, Result.andThen_ok, Sem.run_bind, h5, Result.andThen_ok]
  cases b1 with
  | false => rfl
  | true =>
    rw [if_neg (by decide), Op.eqFields, if_pos m1, Sem.run_bind, t1, o1, h3, Result.andThen_ok, Sem.run_bind, h4, Result.andThen_ok, Sem.run_bind, h6, Result.andThen_ok]
    cases b2 <;> rfl
set_option maxRecDepth 100000 in
theorem pr_eql {xs ys : List Int} (hx : IsPr xs) (hy : IsPr ys) (w : World) : (binOp .eql 27 (ida xs) (ida ys)).run Try.prog w = .ok (.bool (xs == ys)) w := by
  rw [run_eql_struct, eqIn_pr hx hy 9997]
  rfl
set_option maxRecDepth 100000 in
theorem pr_neq {xs ys : List Int} (hx : IsPr xs) (hy : IsPr ys) (w : World) : (binOp .neq 27 (ida xs) (ida ys)).run Try.prog w = .ok (.bool (xs != ys)) w := by
  rw [run_neq_struct, eqIn_pr hx hy 9997]
  rfl

/-! ### lists of pairs -/
def AllPr (L : List (List Int)) : Prop := ∀ x ∈ L, IsPr x
def gp (L : List (List Int)) (j : Nat) : List Int := L.getD j []
set_option maxRecDepth 100000 in
theorem gp_some {L : List (List Int)} {j : Nat} (h : j < L.length) : L[j]? = some (gp L j) := by simp [gp, h]
set_option maxRecDepth 100000 in
theorem gp_mem {L : List (List Int)} {j : Nat} (h : j < L.length) : gp L j ∈ L := List.mem_of_getElem? (gp_some h)
set_option maxRecDepth 100000 in
theorem AllPr.at_ {L : List (List Int)} (h : AllPr L) {j : Nat} (hj : j < L.length) : IsPr (gp L j) := h _ (gp_mem hj)
set_option maxRecDepth 100000 in
theorem AllPr.nil : AllPr [] := fun _ h => by simp at h
set_option maxRecDepth 100000 in
theorem AllPr.append {L M : List (List Int)} (h : AllPr L) (h' : AllPr M) : AllPr (L ++ M) := fun x hx => by
  rcases List.mem_append.1 hx with hx | hx
  · exact h x hx
  · exact h' x hx
set_option maxRecDepth 100000 in
theorem AllPr.one {x : List Int} (h : IsPr x) : AllPr [x] := fun y hy => by
  rw [List.mem_singleton] at hy
  exact hy ▸ h
set_option maxRecDepth 100000 in
theorem AllPr.take {L : List (List Int)} (h : AllPr L) (k : Nat) : AllPr (L.take k) := fun x hx => h x (List.mem_of_mem_take hx)
def pv (L : List (List Int)) : List Value := bv L.flatten
set_option maxRecDepth 100000 in
theorem flatP_len : ∀ {L : List (List Int)}, AllPr L → L.flatten.length = L.length * 40
  | [], _ => rfl
  | x :: L, h => by
    have h1 := (h x (by simp)).1
    have h2 := flatP_len (L := L) fun y hy => h y (by simp [hy])
    simp only [List.flatten_cons, List.length_append, List.length_cons, h1, h2]
    omega
set_option maxRecDepth 100000 in
theorem flatP_get : ∀ {L : List (List Int)}, AllPr L → ∀ {j i : Nat}, j < L.length → i < 40 → L.flatten[j * 40 + i]? = (gp L j)[i]?
  | [], _, j, i, hj, _ => by simp at hj
  | x :: L, h, 0, i, _, hi => by
    have h1 := (h x (by simp)).1
    rw [List.flatten_cons, Nat.zero_mul, Nat.zero_add, List.getElem?_append_left (by omega)]
    rfl
  | x :: L, h, j + 1, i, hj, hi => by
    have h1 := (h x (by simp)).1
    rw [List.flatten_cons, List.getElem?_append_right (by omega), h1, show (j + 1) * 40 + i - 40 = j * 40 + i from by omega,
      flatP_get (L := L) (fun y hy => h y (by simp [hy])) (by simpa using hj) hi]
    rfl
set_option maxRecDepth 100000 in
theorem pv_len {L : List (List Int)} (h : AllPr L) : (pv L).length = L.length * 40 := by unfold pv; rw [bv_length, flatP_len h]
set_option maxRecDepth 100000 in
theorem pv_get {L : List (List Int)} (h : AllPr L) {j i : Nat} (hj : j < L.length) (hi : i < 40) : (pv L)[j * 40 + i]? = (bv (gp L j))[i]? := by
  unfold pv bv
  rw [List.getElem?_map, flatP_get h hj hi, List.getElem?_map]
set_option maxRecDepth 100000 in
theorem pv_append (L M : List (List Int)) : pv (L ++ M) = pv L ++ pv M := by unfold pv; rw [List.flatten_append, bv_append]
set_option maxRecDepth 100000 in
theorem pv_one (L : List (List Int)) : ∀ u ∈ pv L, u.oneCell' = true := bv_one _

/-! ### slices of pairs -/
def RPrs (w : World) (A : Option Addr) (n : Nat) (L : List (List Int)) : Prop :=
  L.length = n ∧ AllPr L ∧ (0 < n → ∃ b o, A = some ⟨b, o, none⟩ ∧ ∀ j, j < n → w.rangeAt b (o + j * 40) (bv (gp L j)))
section
variable {w w' : World} {A : Option Addr} {n : Nat} {L : List (List Int)}
set_option maxRecDepth 100000 in
theorem RPrs.nil (w : World) (A : Option Addr) : RPrs w A 0 [] := ⟨rfl, AllPr.nil, fun h => absurd h (by omega)⟩
set_option maxRecDepth 100000 in
theorem RPrs.keep (h : RPrs w A n L) (hk : ∀ b o v, A = some ⟨b, o, none⟩ → ∀ i, w.cell? ⟨b, i, none⟩ = some v → w'.cell? ⟨b, i, none⟩ = some v) : RPrs w' A n L :=
  ⟨h.1, h.2.1, fun hn => by
    obtain ⟨b, o, e, hc⟩ := h.2.2 hn
    exact ⟨b, o, e, fun j hj i v hv => hk b o v e _ (hc j hj i v hv)⟩⟩
set_option maxRecDepth 100000 in
theorem RPrs.below (h : RPrs w A n L) (hb : Below w.heap.size w w') : RPrs w' A n L := h.keep fun b o v e i hv => cell_later hb hv
set_option maxRecDepth 100000 in
theorem RPrs.alloc (h : RPrs w A n L) (o : Obj) : RPrs (w.alloc o) A n L := h.below ((Below.refl _ _).alloc (Nat.le_refl _) o)
set_option maxRecDepth 100000 in
theorem RPrs.drewN (h : RPrs w A n L) (k : Nat) : RPrs (w.drewN k) A n L := h
set_option maxRecDepth 100000 in
theorem RPrs.grown (h : RPrs w A n L) {row : Option Nat} (hg : w.grownBy w' row) (hne : ∀ ad, A = some ad → some ad.block ≠ row) : RPrs w' A n L :=
  h.keep fun b o v e i hv => hg.cell hv (by have := hne _ e; exact this)
set_option maxRecDepth 100000 in
theorem RPrs.src (h : RPrs w A n L) : Src w 40 A n (pv L) := by
  refine ⟨by rw [pv_len h.2.1, h.1], fun hn => ?_⟩
  obtain ⟨b, o, e, hc⟩ := h.2.2 hn
  refine ⟨_, e, fun j u hj => ?_⟩
  have hjl : j < (pv L).length := (List.getElem?_eq_some_iff.1 hj).1
  rw [pv_len h.2.1, h.1] at hjl
  have hq : j / 40 < n := by omega
  have hjm : j = j / 40 * 40 + j % 40 := by omega
  rw [hjm, pv_get h.2.1 (by rw [h.1]; exact hq) (by omega)] at hj
  have := hc (j / 40) hq (j % 40) u hj
  rw [add_plain, show o + j = o + j / 40 * 40 + j % 40 from by omega]
  exact this
set_option maxRecDepth 100000 in
theorem RPrs.take {k : Nat} (h : RPrs w A n L) (hk : k ≤ n) : RPrs w A k (L.take k) := by
  refine ⟨by rw [List.length_take, h.1]; omega, h.2.1.take k, fun hn => ?_⟩
  obtain ⟨b, o, e, hc⟩ := h.2.2 (by omega)
  refine ⟨b, o, e, fun j hj => ?_⟩
  have : gp (L.take k) j = gp L j := by simp [gp, List.getElem?_take, hj]
  rw [this]
  exact hc j (by omega)
set_option maxRecDepth 100000 in
theorem RPrs.one {g : Nat} {t : TypeId} {x : List Int} (hb : Blk w g t (bv x).toArray) (hx : IsPr x) : RPrs w (some ⟨g, 0, none⟩) 1 [x] :=
  ⟨rfl, AllPr.one hx, fun _ => ⟨g, 0, rfl, fun j hj => by
    obtain rfl : j = 0 := by omega
    exact hb.range⟩⟩
set_option maxRecDepth 100000 in
theorem RPrs.empty (h : RPrs w A n L) (hA : A = none) : n = 0 := by
  rcases Nat.eq_zero_or_pos n with h0 | h0
  · exact h0
  · obtain ⟨b, o, e, _⟩ := h.2.2 h0
    rw [hA] at e
    cases e
end
set_option maxRecDepth 100000 in
theorem prInfo : (Try.prog.info? 27).map (fun i => (i.zero, i.size, i.bytes)) = some (some (.agg zpr), 40, 40) := by kernel_rfl
set_option maxRecDepth 100000 in
theorem underPrs : Try.prog.underlying 23 = some (.slice 27) := by kernel_rfl
set_option maxRecDepth 100000 in
theorem sizePr (w : World) : (sizeOf 27).run Try.prog w = .ok 40 w := by kernel_rfl
/-- a row of pairs of the call's own. -/
def OPrs (w : World) (base : Nat) (v : Value) (n : Nat) (L : List (List Int)) : Prop := w.ownsRow base 27 40 v n (pv L) ∧ AllPr L ∧ L.length = n
section
variable {w w' : World} {base n : Nat} {v : Value} {L : List (List Int)}
set_option maxRecDepth 100000 in
theorem OPrs.nil (w : World) (base : Nat) : OPrs w base (.slice none 0 0) 0 [] := ⟨World.ownsRow_nil w base _ 40, AllPr.nil, rfl⟩
set_option maxRecDepth 100000 in
theorem OPrs.own (h : OPrs w base v n L) : ∀ k, v.ownBlock = some k → base ≤ k ∧ k < w.heap.size := h.1.lt
set_option maxRecDepth 100000 in
theorem OPrs.kept (h : OPrs w base v n L) {row : Option Nat} (hg : w.grownBy w' row) (hne : v.ownBlock = none ∨ v.ownBlock ≠ row) : OPrs w' base v n L := ⟨h.1.kept hg hne, h.2⟩
set_option maxRecDepth 100000 in
theorem OPrs.alloc (h : OPrs w base v n L) (o : Obj) : OPrs (w.alloc o) base v n L := ⟨h.1.alloc o, h.2⟩
set_option maxRecDepth 100000 in
theorem OPrs.below (h : OPrs w base v n L) (hb : Below w.heap.size w w') : OPrs w' base v n L := h.kept (grown_below hb none) (by cases v.ownBlock <;> simp)
set_option maxRecDepth 100000 in
theorem OPrs.drewN (h : OPrs w base v n L) (k : Nat) : OPrs (w.drewN k) base v n L := h.below ⟨rfl, rfl, rfl, Nat.le_refl _, fun _ _ => rfl⟩
set_option maxRecDepth 100000 in
theorem OPrs.lower {base' : Nat} (h : OPrs w base v n L) (hb : base' ≤ base) : OPrs w base' v n L := by
  refine ⟨⟨h.1.1, ?_⟩, h.2⟩
  rcases h.1.2 with h0 | ⟨g, cap, cur, h1, h2, h3⟩
  · exact .inl h0
  · exact .inr ⟨g, cap, cur, h1, Nat.le_trans hb h2, h3⟩
set_option maxRecDepth 100000 in
theorem OPrs.form (h : OPrs w base v n L) : (v = .slice none 0 0 ∧ n = 0 ∧ L = []) ∨ ∃ g cap cur, v = .slice (some ⟨g, 0, none⟩) n cap ∧ base ≤ g ∧ g < w.heap.size ∧ n ≤ cap ∧ cap ≤ maxLen ∧ Blk w g 27 cur ∧ cur.size = cap * 40 ∧ cur.toList.take (n * 40) = pv L := by
  rcases h.1.2 with ⟨h0, h1⟩ | ⟨g, cap, cur, h1, h2, h3, h4, h5, h6, h7⟩
  · subst h1
    exact .inl ⟨h0, rfl, List.eq_nil_of_length_eq_zero h.2.2⟩
  · exact .inr ⟨g, cap, cur, h1, h2, (Array.getElem?_eq_some_iff.1 h3).1, h4, h5, h3, h6, h7⟩
set_option maxRecDepth 100000 in
theorem OPrs.slice (h : OPrs w base v n L) : ∃ A c, v = .slice A n c ∧ n ≤ c := by
  rcases h.form with ⟨rfl, rfl, _⟩ | ⟨g, cap, cur, rfl, _, _, hc, _⟩
  · exact ⟨none, 0, rfl, Nat.le_refl _⟩
  · exact ⟨_, cap, rfl, hc⟩
set_option maxRecDepth 100000 in
theorem OPrs.max (h : OPrs w base v n L) : n ≤ 9223372036854775807 := by
  rcases h.form with ⟨_, rfl, _⟩ | ⟨g, cap, cur, rfl, _, _, hc, hm, _⟩
  · omega
  · simp only [maxLen] at hm
    omega
set_option maxRecDepth 100000 in
theorem OPrs.reads {A : Option Addr} {c : Nat} (h : OPrs w base (.slice A n c) n L) : RPrs w A n L := by
  refine ⟨h.2.2, h.2.1, fun hn => ?_⟩
  rcases h.form with ⟨h0, h1, _⟩ | ⟨g, cap, cur, hv, _, _, hc, _, hb, hs, ht⟩
  · omega
  · injection hv with hA
    subst hA
    refine ⟨g, 0, rfl, fun j hj i v hv => ?_⟩
    rw [Nat.zero_add, hb.cell]
    have hi : i < 40 := by
      have := (List.getElem?_eq_some_iff.1 hv).1
      rw [bv_length, (h.2.1.at_ (by rw [h.2.2]; exact hj)).1] at this
      exact this
    rw [← pv_get h.2.1 (by rw [h.2.2]; exact hj) hi, ← ht, List.getElem?_take, if_pos (by omega)] at hv
    simpa using hv
set_option maxRecDepth 100000 in
theorem OPrs.cutEnd {A : Option Addr} {c k : Nat} (h : OPrs w base (.slice A n c) n L) (hk : k ≤ n) : OPrs w base (.slice A k c) k (L.take k) := by
  have hl : (L.take k).length = k := by rw [List.length_take, h.2.2]; omega
  refine ⟨⟨by rw [pv_len (h.2.1.take k), hl], ?_⟩, h.2.1.take k, hl⟩
  rcases h.form with ⟨h0, h1, h2⟩ | ⟨g, cap, cur, hv, hb, _, hc, hm, hB, hs, ht⟩
  · injection h0 with hA _ hc
    subst hA
    obtain rfl : k = 0 := by omega
    subst hc
    exact .inl ⟨rfl, rfl⟩
  · injection hv with hA _ hcc
    subst hA hcc
    refine .inr ⟨g, c, cur, rfl, hb, hB, by omega, hm, hs, ?_⟩
    have : (cur.toList.take (n * 40)).take (k * 40) = (pv L).take (k * 40) := by rw [ht]
    rw [List.take_take, Nat.min_eq_left (by omega)] at this
    rw [this]
    have e : pv L = pv (L.take k) ++ pv (L.drop k) := by rw [← pv_append, List.take_append_drop]
    rw [e, List.take_left' (by rw [pv_len (h.2.1.take k), hl])]
end
set_option maxRecDepth 100000 in
/-- 'append' of pairs. -/
theorem wpList_appPrs {ops : Array Oper} {rest : List Oper} {o : Oper} {a : Act} {Q : Exit → Act → World → Prop} {w : World} (hgd : o.guard = none) (s x : Operand)
    (ho : o.op = .call { callee := .builtin .append, args := #[s, x], argTypes := #[23, 23] })
    (base : Nat) (v : Value) (n : Nat) (L : List (List Int)) (hs : a.eval s = v) (hown : OPrs w base v n L) (A : Option Addr) (m c : Nat) (M : List (List Int))
    (hx : a.eval x = .slice A m c) (hr : RPrs w A m M) (hn : n + m ≤ 1000000000) (hbase : base ≤ w.heap.size)
    (h : ∀ v' w', OPrs w' base v' (n + m) (L ++ M) → w.grownBy w' v.ownBlock → (v'.ownBlock = v.ownBlock ∨ v'.ownBlock = some w.heap.size) → wpList Try.prog ops Q rest (a.put o.dst v') w') : wpList Try.prog ops Q (o :: rest) a w := by
  obtain ⟨i0, hi, hz0, hz1, hz2⟩ := info_parts prInfo
  exact wpList_plain hgd fun _ hK => wp_append_any w s x 23 ho base 27 i0 _ 40 40 underPrs hi hz0 hz1 hz2 (by simp [Value.cells, zpr, bv]) (by omega) v n (pv L) hs hown.1 A m c (pv M) hx hr.src (pv_one M)
    (by simp only [maxLen]; omega) (by omega) hbase fun v' w' h4 h5 h6 => hK _ _ (h v' w' ⟨by rw [pv_append]; exact h4, hown.2.1.append hr.2.1, by rw [List.length_append, hown.2.2, hr.1]⟩ h5 h6)
set_option maxRecDepth 100000 in
/-- the same at a step of a region that draws. -/
theorem step_appPrs {ops : Array Oper} {o : Oper} {a : Act} {w : World} {K : Act → World → Prop} {Q : Exit → Act → World → Prop} {E : Prop} (hgd : o.guard = none) (s x : Operand)
    (ho : o.op = .call { callee := .builtin .append, args := #[s, x], argTypes := #[23, 23] })
    (base : Nat) (v : Value) (n : Nat) (L : List (List Int)) (hs : a.eval s = v) (hown : OPrs w base v n L) (A : Option Addr) (m c : Nat) (M : List (List Int))
    (hx : a.eval x = .slice A m c) (hr : RPrs w A m M) (hn : n + m ≤ 1000000000) (hbase : base ≤ w.heap.size)
    (h : ∀ v' w', OPrs w' base v' (n + m) (L ++ M) → w.grownBy w' v.ownBlock → (v'.ownBlock = v.ownBlock ∨ v'.ownBlock = some w.heap.size) → K (a.put o.dst v') w') :
    if Region.wanted o (yielded ops a.tmps) = true then Oper.wp Try.prog o a w K Q else E := by
  have hw : Region.wanted o (yielded ops a.tmps) = true := by simp [Region.wanted, hgd]
  rw [if_pos hw]
  obtain ⟨i0, hi, hz0, hz1, hz2⟩ := info_parts prInfo
  exact wp_append_any w s x 23 ho base 27 i0 _ 40 40 underPrs hi hz0 hz1 hz2 (by simp [Value.cells, zpr, bv]) (by omega) v n (pv L) hs hown.1 A m c (pv M) hx hr.src (pv_one M)
    (by simp only [maxLen]; omega) (by omega) hbase fun v' w' h4 h5 h6 => h v' w' ⟨by rw [pv_append]; exact h4, hown.2.1.append hr.2.1, by rw [List.length_append, hown.2.2, hr.1]⟩ h5 h6
set_option maxRecDepth 100000 in
theorem OPrs.empty (w : World) (base : Nat) (hb : base ≤ w.heap.size) : OPrs (w.alloc (.cells #[] 27)) base (.slice (some ⟨w.heap.size, 0, none⟩) 0 0) 0 [] :=
  ⟨⟨rfl, .inr ⟨w.heap.size, 0, #[], rfl, hb, Blk.new w _ #[], Nat.le_refl _, by simp [maxLen], rfl, rfl⟩⟩, AllPr.nil, rfl⟩
/-- what a call that makes pairs leaves. -/
def NewPrs (n : Nat) (L : List (List Int)) (w : World) (e : Ending) (w' : World) : Prop := ∃ A c, e = .returned (.slice A n c) ∧ OPrs w' w.heap.size (.slice A n c) n L ∧ n ≤ c ∧ Below w.heap.size w w'
set_option maxRecDepth 100000 in
theorem NewPrs.of {n : Nat} {L : List (List Int)} {w w' : World} {v : Value} (h : OPrs w' w.heap.size v n L) (hb : Below w.heap.size w w') : NewPrs n L w (.returned v) w' := by
  obtain ⟨A, c, rfl, hc⟩ := h.slice
  exact ⟨A, c, rfl, h, hc, hb⟩
set_option maxRecDepth 100000 in
theorem run_eql_prs (w : World) (a : Option Addr) (n c n' c' : Nat) : (binOp .eql 23 (.slice a n c) (.slice none n' c')).run Try.prog w = .ok (.bool a.isNone) w := Lib.run_eql_slice_nil w _ _ a n c n' c' underPrs

set_option maxRecDepth 100000 in
set_option maxHeartbeats 1000000 in
theorem clonePrs_any (A : Option Addr) (n c : Nat) (L : List (List Int)) (w : World) (hA : RPrs w A n L) (hn : n ≤ 1000000000) :
    Calls Try.prog 38 #[.slice A n c] w (NewPrs n L w) := by
  have q22 := run_eql_prs
  cases A with
  | none =>
    go_enter Try.func38, Try.ntmps38
    go_wp2
    go_ret
    obtain rfl := hA.empty rfl
    obtain rfl : L = [] := List.eq_nil_of_length_eq_zero hA.1
    exact NewPrs.of (OPrs.nil _ _) (Below.refl _ _)
  | some ad =>
    go_enter Try.func38, Try.ntmps38
    go_wp2_with (at_builtin; refine wpList_appPrs rfl (.tmp 5) (.tmp 6) rfl w.heap.size _ 0 [] rfl (OPrs.empty w _ (Nat.le_refl _)) (some ad) n c L rfl (hA.alloc _) ?c1 (by simp) ?_)
    case c1 => omega
    intro v' w' hown hg hat
    go_wp2
    go_ret
    have hb : Below w.heap.size w w' := ((Below.refl w.heap.size w).alloc (Nat.le_refl _) _).grown hg (by simp) (fun k hk => by cases hk; exact Nat.le_refl _)
    exact NewPrs.of hown hb
/-! ### a slice of one pair -/
/-- a slice of one pair, for a rule to answer. -/
noncomputable def mkP (parts : Array (Nat × Value)) : Sem Value := Instr.buildSlice 23 1 parts
set_option maxRecDepth 100000 in
@[go_sem ↓ high] theorem buildSlice_pr (parts : Array (Nat × Value)) : Instr.buildSlice 23 1 parts = mkP parts := rfl
set_option maxRecDepth 100000 in
@[go_sem] theorem run_mkP1 (w : World) (xs : List Int) (h : IsPr xs) : (mkP #[(0, .agg (bv xs).toArray)]).run Try.prog w = .ok (.slice (some ⟨w.heap.size, 0, none⟩) 1 1) (w.alloc (.cells (bv xs).toArray 27)) := by
  have hl : (bv xs).length = 40 := by rw [bv_length, h.1]
  have hz : (zeroValue 27).run Try.prog w = .ok (.agg zpr) w := zeroPr w
  have hs := sizePr w
  have hu := run_underlying underPrs w
  have hf : Instr.fill (fun i => some (i * 40, 40)) ((Array.range (1 * 40)).map (zpr[· % zpr.size]!)) [(0, .agg (bv xs).toArray)] = some (bv xs).toArray := by
    have hsz : ((Array.range (1 * 40)).map (zpr[· % zpr.size]!)).size = 40 := by simp
    generalize (Array.range (1 * 40)).map (zpr[· % zpr.size]!) = z at hsz ⊢
    unfold Instr.fill
    simp only [Value.cells, List.size_toArray, hl, Nat.zero_mul, Nat.zero_add, hsz]
    simp only [Instr.fill]
    have e := fold_set (bv xs) 0 z (by rw [hsz, hl])
    simp only [ne_eq, not_true_eq_false, Nat.lt_irrefl, decide_false, Bool.or_self, Bool.false_eq_true, if_false]
    congr 1
    apply Array.ext'
    rw [← Array.foldl_toList]
    simpa using e
  unfold mkP Instr.buildSlice
  simp only [Sem.run_bind, hu, Result.andThen_ok, hs, hz, Sem.run_pure]
  simp [Sem.run_bind, hz, zpr_cells, newRow, newObj, Result.andThen, hf]
  rfl
end
section
open Go.RowKit

abbrev IdL := List Int
def BoolP (b : Bool) (w : World) (e : Ending) (w' : World) : Prop := e = .returned (.bool b) ∧ Below w.heap.size w w'
set_option maxRecDepth 100000 in
theorem listEq_ofP {L M : List (List Int)} (hl : L.length = M.length) (h : ∀ i, i < L.length → gp L i = gp M i) : L = M := by
  apply List.ext_getElem hl
  intro i h1 h2
  have := h i h1
  simpa [gp, h1, h2] using this
set_option maxRecDepth 100000 in
set_option maxHeartbeats 1000000 in
theorem inP_any (A : Option Addr) (n c : Nat) (L : List IdL) (x : IdL) (w : World) (hA : RPrs w A n L) (hx : IsPr x) (hn : n ≤ 1000000000) :
    Calls Try.prog 40 #[.slice A n c, ida x] w (BoolP (decide (x ∈ L)) w) := by
  have hl := hA.1
  have hu := prTy
  have HT := Lib.hid (show ∀ j, j < n → gp L j = x → decide (x ∈ L) = true from fun j hj e => decide_eq_true (by rw [← e]; exact gp_mem (by omega)))
  have HF := Lib.hid (show (∀ j, j < n → gp L j ≠ x) → decide (x ∈ L) = false from fun h => decide_eq_false fun hm => by
    obtain ⟨i, hi, e⟩ := List.getElem_of_mem hm
    exact h i (by omega) (by simp [gp, hi, e]))
  have HA := Lib.hid (show ∀ j, j < n → IsPr (gp L j) from fun j hj => hA.2.1.at_ (by omega))
  generalize decide (x ∈ L) = r at *
  have hb0 : Below w.heap.size w (w.alloc (.cells (bv x).toArray 27)) := (Below.refl _ _).alloc (Nat.le_refl _) _
  have hA0 := hA.below hb0
  have hbx : Blk (w.alloc (.cells (bv x).toArray 27)) w.heap.size 27 (bv x).toArray := Blk.new w _ _
  have r2 := fun k => run_loadPr (w := (w.alloc (.cells (bv x).toArray 27)).drewN k) hbx.range hx
  have sz2 := prSz hx
  clear hl hA
  go_enter Try.func40, Try.ntmps40
  go_wp2
  go_loopw [5] (fun i wr => ∃ j : Nat, j ≤ n ∧ i = .int .i64 j ∧ (∀ i, i < j → gp L i ≠ x) ∧ ∃ q, (w.alloc (.cells (bv x).toArray 27)).drewN q = wr) (fun i _ => n - (intOf i).toNat)
  case atStart => exact ⟨0, by omega, rfl, fun i hi => absurd hi (by omega), 0, rfl⟩
  case round =>
    obtain ⟨j, hj, rfl, hall, q, rfl⟩ := hrel
    have HALL := Lib.hid hall
    clear hall
    by_cases h1 : j < n
    · obtain ⟨b, o, rfl, hc⟩ := hA0.2.2 (by omega)
      have i1 := HA.out j h1
      have r1 := fun k => run_loadPr (w := (w.alloc (.cells (bv x).toArray 27)).drewN k) (hc j h1) i1
      have sz1 := prSz i1
      have j0 : (0 : Int) ≤ (j : Int) := by omega
      have j1 : (j : Int) < (n : Int) := by omega
      have heq := fun W => pr_eql i1 hx W
      clear hc
      by_cases h3 : gp L j = x
      · have hb : (gp L j == x) = true := by simp [h3]
        have hr := HT.out j h1 h3
        rw [hb] at heq
        subst hr
        clear h3 hb
        generalize gp L j = y at *
        go_wp2
        go_quiet (fail)
        go_wp2
        go_ret
        exact ⟨rfl, by first | exact below_drewN hb0 _ | exact below_drewN (below_drewN hb0 _) _⟩
      · have hb : (gp L j == x) = false := by simpa using h3
        rw [hb] at heq
        have H3 := Lib.hid (show ∀ i, i = j → gp L i ≠ x from fun i e => by rw [e]; exact h3)
        clear h3 hb
        generalize gp L j = y at *
        go_wp2
        go_quiet (fail)
        go_wp2
        go_roundw
        case rel => exact ⟨j + 1, by omega, by go_num, fun i hi => by rcases Nat.lt_or_ge i j with h | h; exact HALL.out i h; exact H3.out i (by omega), q + nq, by simp⟩
        case measure => simp [intOf]; omega
    · have hr := HF.out (fun i hi => HALL.out i (by omega))
      subst hr
      go_wp2
      go_ret
      exact ⟨rfl, by first | exact below_drewN hb0 _ | exact below_drewN (below_drewN hb0 _) _⟩
set_option maxRecDepth 100000 in
set_option maxHeartbeats 1000000 in
theorem oneP_any (x y : IdL) (w : World) (hx : IsPr x) (hy : IsPr y) : Calls Try.prog 37 #[ida x, ida y] w (BoolP (x == y) w) := by
  have hb0 : Below w.heap.size w ((w.alloc (.cells (bv x).toArray 27)).alloc (.cells (bv y).toArray 27)) := ((Below.refl _ _).alloc (Nat.le_refl _) _).alloc (by simp) _
  have b1 : Blk ((w.alloc (.cells (bv x).toArray 27)).alloc (.cells (bv y).toArray 27)) w.heap.size 27 (bv x).toArray := (Blk.new w _ _).alloc _
  have b2 : Blk ((w.alloc (.cells (bv x).toArray 27)).alloc (.cells (bv y).toArray 27)) (w.heap.size + 1) 27 (bv y).toArray := by simpa using Blk.new (w.alloc (.cells (bv x).toArray 27)) 27 (bv y).toArray
  have l1 := run_loadPr b1.range hx
  have l2 := run_loadPr b2.range hy
  have heq := fun W => pr_eql hx hy W
  go_enter Try.func37, Try.ntmps37
  go_wp2
  go_ret
  exact ⟨rfl, hb0⟩
set_option maxRecDepth 100000 in
set_option maxHeartbeats 1000000 in
theorem sameP_any (A B : Option Addr) (n m c d : Nat) (L M : List IdL) (w : World) (hA : RPrs w A n L) (hB : RPrs w B m M) (hn : n ≤ 1000000000) (hm : m ≤ 1000000000) :
    Calls Try.prog 36 #[.slice A n c, .slice B m d, .func (.func 37) #[] #[]] w (BoolP (decide (L = M)) w) := by
  have hl := hA.1
  have hl' := hB.1
  have hu := prTy
  by_cases hnm : n = m
  · subst hnm
    have en : ((n : Int) != n) = false := by simp
    have HD := Lib.hid (show (∀ i, i < n → gp L i = gp M i) → decide (L = M) = true from fun h => decide_eq_true (listEq_ofP (by rw [hl, hl']) fun i hi => h i (by omega)))
    have HN := Lib.hid (show ∀ i, i < n → gp L i ≠ gp M i → decide (L = M) = false from fun i hi hne => decide_eq_false fun e => hne (by rw [e]))
    have HA := Lib.hid (show ∀ j, j < n → IsPr (gp L j) ∧ IsPr (gp M j) from fun j hj => ⟨hA.2.1.at_ (by omega), hB.2.1.at_ (by omega)⟩)
    generalize decide (L = M) = r at *
    clear hl hl'
    go_enter Try.func36, Try.ntmps36
    go_wp2
    go_loopw [7] (fun i wr => ∃ j : Nat, j ≤ n ∧ i = .int .i64 j ∧ (∀ i, i < j → gp L i = gp M i) ∧ Below w.heap.size w wr) (fun i _ => n - (intOf i).toNat)
    case atStart => exact ⟨0, by omega, rfl, fun i hi => absurd hi (by omega), Below.refl _ _⟩
    case round =>
      obtain ⟨j, hj, rfl, hall, hbr⟩ := hrel
      have HALL := Lib.hid hall
      clear hall
      by_cases h1 : j < n
      · obtain ⟨b, o, rfl, hc⟩ := (hA.below hbr).2.2 (by omega)
        obtain ⟨b', o', rfl, hc'⟩ := (hB.below hbr).2.2 (by omega)
        obtain ⟨i1, i2⟩ := HA.out j h1
        have r1 : (loadPr ⟨b, o + j * 40, none⟩).run Try.prog wr.drew = .ok (ida (gp L j)) wr.drew := run_loadPr (w := wr.drew) (hc j h1) i1
        have r2 : (loadPr ⟨b', o' + j * 40, none⟩).run Try.prog wr.drew = .ok (ida (gp M j)) wr.drew := run_loadPr (w := wr.drew) (hc' j h1) i2
        have sz1 := prSz i1
        have sz2 := prSz i2
        have j0 : (0 : Int) ≤ (j : Int) := by omega
        have j1 : (j : Int) < (n : Int) := by omega
        have HC := Lib.hid (oneP_any (gp L j) (gp M j) wr.drew i1 i2)
        have hbd : Below w.heap.size w wr.drew := below_drewN hbr 1
        clear hc hc'
        by_cases h3 : gp L j = gp M j
        · have hb : (gp L j == gp M j) = true := by simp [h3]
          rw [hb] at HC
          have H3 := Lib.hid (show ∀ i, i = j → gp L i = gp M i from fun i e => by rw [e]; exact h3)
          clear h3 hb
          generalize gp L j = x at *
          generalize gp M j = y at *
          go_wp2
          refine still_tail 9 (by kernel_rfl) (by kernel_rfl) ?_
          simp only [List.take_succ_cons, List.take_zero, List.drop_succ_cons, List.drop_zero]
          repeat still_step
          refine wpStill_nil ?_
          go_wp2_with (go_at_call 37; (with_reducible refine HC.out.mono ?_); rintro e w5 ⟨rfl, hb5⟩; have hB5 := below_then hbd hbd.size hb5)
          go_roundw
          case rel => exact ⟨j + 1, by omega, by go_num, fun i hi => by rcases Nat.lt_or_ge i j with h | h; exact HALL.out i h; exact H3.out i (by omega), hB5⟩
          case measure => simp [intOf]; omega
        · have hb : (gp L j == gp M j) = false := by simpa using h3
          have hr := HN.out j h1 h3
          rw [hb] at HC
          subst hr
          clear h3 hb
          generalize gp L j = x at *
          generalize gp M j = y at *
          go_wp2
          refine still_tail 9 (by kernel_rfl) (by kernel_rfl) ?_
          simp only [List.take_succ_cons, List.take_zero, List.drop_succ_cons, List.drop_zero]
          repeat still_step
          refine wpStill_nil ?_
          go_wp2_with (go_at_call 37; (with_reducible refine HC.out.mono ?_); rintro e w5 ⟨rfl, hb5⟩; have hB5 := below_then hbd hbd.size hb5)
          go_ret
          exact ⟨rfl, hB5⟩
      · have hr := HD.out (fun i hi => HALL.out i (by omega))
        subst hr
        go_wp2
        go_ret
        exact ⟨rfl, hbr⟩
  · have en : ((n : Int) != m) = true := by rw [bne_iff_ne]; omega
    have hd : decide (L = M) = false := decide_eq_false fun e => hnm (by rw [← hl, ← hl', e])
    rw [hd]
    go_enter Try.func36, Try.ntmps36
    go_wp2
    go_ret
    exact ⟨rfl, Below.refl _ _⟩
set_option maxRecDepth 100000 in
theorem plainP_any (A B : Option Addr) (n m c d : Nat) (L M : List IdL) (w : World) (hA : RPrs w A n L) (hB : RPrs w B m M) (hn : n ≤ 1000000000) (hm : m ≤ 1000000000) :
    Calls Try.prog 12 #[.slice A n c, .slice B m d] w (BoolP (decide (L = M)) w) := by
  go_enter Try.func12, Try.ntmps12
  go_wp2_with fail
  refine (sameP_any A B n m c d L M w hA hB hn hm).mono ?_
  rintro e w1 ⟨rfl, hb⟩
  go_wp2
  go_ret
  exact ⟨rfl, hb⟩
end
section
open Go.RowKit

set_option maxRecDepth 100000 in
theorem set_grownQ (w : World) (g i : Nat) (v : Value) : w.grownBy (w.setCell ⟨g, i, none⟩ v) (some g) := grown_setCell (World.grownBy.refl w _) (.inl rfl) v
set_option maxRecDepth 100000 in
theorem setCells_grown (g : Nat) : ∀ (vs : List Value) (o : Nat) (w : World), w.grownBy (w.setCells g o vs) (some g)
  | [], _, w => World.grownBy.refl w _
  | v :: r, o, w => (set_grownQ w g o v).trans (setCells_grown g r (o + 1) (w.setCell ⟨g, o, none⟩ v))
/-- a copy of ids with spare room behind it. -/
def OwnQ (w : World) (g n : Nat) (L : List IdL) (f : IdL) : Prop := RPrs w (some ⟨g, 0, none⟩) n L ∧ ∀ k, k < 3 → w.rangeAt g ((n + k) * 40) (bv f)
set_option maxRecDepth 100000 in
theorem OwnQ.below {w w' : World} {g n : Nat} {L : List IdL} {f : IdL} (h : OwnQ w g n L f) (hb : Below w.heap.size w w') : OwnQ w' g n L f :=
  ⟨h.1.below hb, fun k hk i v hv => cell_later hb (h.2 k hk i v hv)⟩
def OwnQP (n : Nat) (L : List IdL) (f : IdL) (w : World) (e : Ending) (w' : World) : Prop := ∃ g, e = .returned (.slice (some ⟨g, 0, none⟩) n (n + 3)) ∧ OwnQ w' g n L f ∧ w.heap.size ≤ g ∧ Below w.heap.size w w'
/-- the spare room, as far as it has been filled. -/
structure FillQ (w : World) (g n k : Nat) (L : List IdL) (f : IdL) : Prop where
  ids : AllPr L
  len : L.length = n
  front : ∀ j, j < n → w.rangeAt g (j * 40) (bv (gp L j))
  fill : ∀ j, j < k → w.rangeAt g ((n + j) * 40) (bv f)
  room : ∀ j, j < 3 → w.there g ((n + j) * 40) 40
set_option maxRecDepth 100000 in
theorem FillQ.step {w : World} {g n k : Nat} {L : List IdL} {f : IdL} (h : FillQ w g n k L f) (hf : IsPr f) (hk : k < 3) : FillQ (w.setCells g ((n + k) * 40) (bv f)) g n (k + 1) L f := by
  have hl : (bv f).length = 40 := by rw [bv_length, hf.1]
  refine ⟨h.ids, h.len, fun j hj => World.rangeAt_setCells_apart (h.front j hj) g _ _ (.inr (.inl ?_)), fun j hj => ?_, fun j hj => World.there_setCells (h.room j hj) g _ _⟩
  · rw [bv_length, (h.ids.at_ (by rw [h.len]; exact hj)).1]
    omega
  · by_cases e : j = k
    · subst e
      exact World.rangeAt_setCells_same w g _ _ (by rw [hl]; exact h.room j hk)
    · exact World.rangeAt_setCells_apart (h.fill j (by omega)) g _ _ (.inr (.inl (by rw [hl]; omega)))
set_option maxRecDepth 100000 in
theorem FillQ.full {w : World} {g n : Nat} {L : List IdL} {f : IdL} (h : FillQ w g n 3 L f) : OwnQ w g n L f :=
  ⟨⟨h.len, h.ids, fun _ => ⟨g, 0, rfl, fun j hj => by rw [Nat.zero_add]; exact h.front j hj⟩⟩, h.fill⟩
set_option maxRecDepth 100000 in
theorem make_prs (w : World) (c : Nat) (hc : c ≤ 1000000000) : ∃ Z : Array Value, Z.size = c * 40 ∧ (Instr.makeSlice 23 (.int .i64 0) (.int .i64 (c : Int))).run Try.prog w = .ok (.slice (some ⟨w.heap.size, 0, none⟩) 0 c) (w.alloc (.cells Z 27)) := by
  obtain ⟨i0, hi, hz0, hz1, hz2⟩ := info_parts prInfo
  have h := run_make (P := Try.prog) w 23 27 i0 (.agg zpr) Try.underlying23 hi hz0 .i64 .i64 0 (c : Int) (by omega) (by omega) (by rw [hz2]; omega) (by omega)
  refine ⟨madeCells (Value.agg zpr).cells ((c : Int).toNat * i0.size), ?_, by simpa using h⟩
  rw [hz1]
  simp [madeCells]
set_option maxRecDepth 100000 in
theorem made_ownP (w : World) (c : Nat) (Z : Array Value) (hZ : Z.size = c * 40) (hc : c ≤ 1000000000) : OPrs (w.alloc (.cells Z 27)) w.heap.size (.slice (some ⟨w.heap.size, 0, none⟩) 0 c) 0 [] :=
  ⟨⟨rfl, .inr ⟨w.heap.size, c, Z, rfl, Nat.le_refl _, Blk.new w _ Z, Nat.zero_le _, by simp only [maxLen]; omega, hZ, rfl⟩⟩, AllPr.nil, rfl⟩
set_option maxRecDepth 100000 in
/-- 'append' of ids that fits: the row stays where it is. -/
theorem wpList_appfitP {ops : Array Oper} {rest : List Oper} {o : Oper} {a : Act} {Q : Exit → Act → World → Prop} {w : World} (hgd : o.guard = none) (s x : Operand)
    (ho : o.op = .call { callee := .builtin .append, args := #[s, x], argTypes := #[23, 23] })
    (base g cap : Nat) (hs : a.eval s = .slice (some ⟨g, 0, none⟩) 0 cap) (hown : OPrs w base (.slice (some ⟨g, 0, none⟩) 0 cap) 0 [])
    (A : Option Addr) (m c : Nat) (M : List IdL) (hx : a.eval x = .slice A m c) (hr : RPrs w A m M) (b1 : m ≤ cap)
    (h : ∀ w', OPrs w' base (.slice (some ⟨g, 0, none⟩) m cap) m M → w.grownBy w' (some g) → wpList Try.prog ops Q rest (a.put o.dst (.slice (some ⟨g, 0, none⟩) m cap)) w') : wpList Try.prog ops Q (o :: rest) a w := by
  obtain ⟨i0, hi, hz0, hz1, hz2⟩ := info_parts prInfo
  rcases Nat.eq_zero_or_pos m with h0 | h0
  · subst h0
    have hM : M = [] := List.eq_nil_of_length_eq_zero hr.1
    subst hM
    cases A with
    | none =>
      refine wpList_plain hgd fun K hK' => ?_
      have hrun := run_append_of_nil (P := Try.prog) w base 23 o.type 27 i0 40 underPrs hi _ 0 (pv []) hown.1 c
      unfold Oper.wp execOp
      simp only [ho, resolve, invoke, builtin, Sem.run_bind, Sem.run_pure, Result.andThen_ok, List.map_toArray, List.map_cons, List.map_nil, hs, hx, hrun]
      exact hK' _ _ (h w hown (World.grownBy.refl w _))
    | some ad =>
      refine wpList_append_fits w hgd s x 23 ho base 27 i0 40 underPrs hi hz1 g 0 cap (pv []) hs hown.1 ad 0 c (pv []) hx rfl (fun j u hj => by simp [pv, bv] at hj) (pv_one []) (by omega) fun w' h2 h3 => ?_
      have h4 := h w' ⟨by simpa [pv, bv] using h2, AllPr.nil, rfl⟩ h3
      simpa using h4
  · obtain ⟨b, of, e, _⟩ := hr.2.2 h0
    subst e
    obtain ⟨hsl, hsc⟩ := hr.src
    obtain ⟨ad, e2, hc⟩ := hsc h0
    injection e2 with e2
    subst e2
    refine wpList_append_fits w hgd s x 23 ho base 27 i0 40 underPrs hi hz1 g 0 cap (pv []) hs hown.1 _ m c (pv M) hx hsl hc (pv_one M) (by omega) fun w' h2 h3 => ?_
    have h4 := h w' ⟨by simpa [pv, bv] using h2, hr.2.1, hr.1⟩ h3
    simpa using h4
set_option maxRecDepth 100000 in
theorem made_fillP {w : World} {B g n : Nat} {L : List IdL} {f : IdL} (h : OPrs w B (.slice (some ⟨g, 0, none⟩) n (n + 3)) n L) : FillQ w g n 0 L f := by
  rcases h.form with ⟨h0, _⟩ | ⟨g', cap, cur, hv, hgb, _, hc, hm, hB, hs, ht⟩
  · cases h0
  · injection hv with hA _ hcc
    injection hA with hA
    injection hA with hA _ _
    subst hA hcc
    have hrd := h.reads
    refine ⟨h.2.1, h.2.2, fun j hj => ?_, fun j hj => absurd hj (by omega), fun j hj i hi => ⟨?_, hB.frozen _⟩⟩
    · obtain ⟨b, o, e, hc⟩ := hrd.2.2 (by omega)
      injection e with e
      injection e with e1 e2
      subst e1 e2
      have := hc j hj
      rwa [Nat.zero_add] at this
    · rw [hB.cell, Array.getElem?_eq_getElem (by omega)]
      rfl
set_option maxRecDepth 100000 in
set_option maxHeartbeats 1000000 in
theorem ownP_any (A : Option Addr) (n c : Nat) (L : List IdL) (f : IdL) (w : World) (h : RPrs w A n L) (hn : n ≤ 1000000) (hf : IsPr f) :
    Calls Try.prog 21 #[.slice A n c, ida f] w (OwnQP n L f w) := by
  have hb0 : Below w.heap.size w (w.alloc (.cells (bv f).toArray 27)) := (Below.refl _ _).alloc (Nat.le_refl _) _
  have hbx : Blk (w.alloc (.cells (bv f).toArray 27)) w.heap.size 27 (bv f).toArray := Blk.new w _ _
  obtain ⟨Z, hZ, hmk⟩ := make_prs (w.alloc (.cells (bv f).toArray 27)) (n + 3) (by omega)
  have hmk : (Instr.makeSlice 23 (.int .i64 0) (.int .i64 ((n : Int) + 3))).run Try.prog (w.alloc (.cells (bv f).toArray 27)) = .ok (.slice (some ⟨w.heap.size + 1, 0, none⟩) 0 (n + 3)) ((w.alloc (.cells (bv f).toArray 27)).alloc (.cells Z 27)) := by
    have e : ((n + 3 : Nat) : Int) = (n : Int) + 3 := by omega
    rw [e, World.size_alloc] at hmk
    exact hmk
  have hob := made_ownP (w.alloc (.cells (bv f).toArray 27)) (n + 3) Z hZ (by omega)
  rw [World.size_alloc] at hob
  have hb1 := hb0.alloc hb0.size (.cells Z 27)
  have hA1 := h.below hb1
  have hbx1 := hbx.alloc (.cells Z 27)
  have hu := prTy
  have hsz := prSz hf
  go_enter Try.func21, Try.ntmps21
  go_wp2_with (at_builtin; refine wpList_appfitP rfl (.tmp 12) (.tmp 13) rfl (w.heap.size + 1) (w.heap.size + 1) (n + 3) rfl hob A n c L rfl hA1 (by omega) ?_)
  intro w1 ho1 hg1
  have hB1 := hb1.grown hg1 (by simp; omega) (fun k hk => by cases hk; omega)
  have hF := made_fillP (f := f) ho1
  have hbx2 : Blk w1 w.heap.size 27 (bv f).toArray := hbx1.grown hg1 (fun e => by injection e with e; omega)
  clear ho1 hg1 hob hb0 hmk hA1 hbx1
  have e1 : ((n : Int) + 3).toNat = n + 3 := by omega
  have e2 : (0 : Int) ≤ (n : Int) + 3 := by omega
  go_wp2
  have hz40 : (bv f).toArray.size = 40 := by rw [bvArr_size, hf.1]
  have hzX : (Try.prog.info? 27).map (·.size) = some (bv f).toArray.size := by rw [hz40]; exact prSize
  go_loopw [7] (fun i wr => ∃ k : Nat, k ≤ 3 ∧ i = .int .i64 ((n : Int) + k) ∧ FillQ wr (w.heap.size + 1) n k L f ∧ Blk wr w.heap.size 27 (bv f).toArray ∧ Below w.heap.size w wr) (fun i _ => n + 3 - (intOf i).toNat)
  case atStart => exact ⟨0, by omega, by simp, hF, hbx2, hB1⟩
  case round =>
    obtain ⟨k, hk, rfl, hF, hbk, hb⟩ := hrel
    by_cases h1 : k < 3
    · have hth := hF.room k h1
      have hst := hF.step hf h1
      have hld := run_loadPr hbk.range hf
      have hgr := setCells_grown (w.heap.size + 1) (bv f) ((n + k) * 40) wr
      have hB5 := hb.grown hgr hb.size (fun i hi => by cases hi; omega)
      have hbk5 := hbk.grown hgr (fun e => by injection e with e; omega)
      have n1 : ((n : Int) + k).toNat = n + k := by omega
      have n2 : (0 : Int) ≤ (n : Int) + k := by omega
      have n3 : (n : Int) + k < n + 3 := by omega
      go_wp2_with ((with_reducible refine wpList_store_mid rfl 27 (.tmp 31) (.tmp 30) rfl (w.heap.size + 1) ((n + k) * 40) (bv f).toArray ?_ ?_ (by rw [hz40]; exact hth) hzX (bvArr_all f) ?_); rfl; rfl; rw [List.toList_toArray])
      go_roundw
      case rel => exact ⟨k + 1, by omega, by congr 1, hst, hbk5, hB5⟩
      case measure => simp [intOf]; omega
    · have hk3 : k = 3 := by omega
      rw [hk3] at hF
      have n3 : ¬ ((n : Int) + k < n + 3) := by omega
      go_wp2
      go_ret
      exact ⟨w.heap.size + 1, rfl, hF.full, by omega, hb⟩
set_option maxRecDepth 100000 in
set_option maxHeartbeats 1000000 in
theorem keptP_any (g n d : Nat) (A : Option Addr) (L : List IdL) (f : IdL) (w : World) (h : OwnQ w g n L f) (h' : RPrs w A n L) (hn : n ≤ 1000000) (hf : IsPr f) :
    Calls Try.prog 22 #[.slice (some ⟨g, 0, none⟩) n (n + 3), .slice A n d, ida f] w (BoolP true w) := by
  have hb0 : Below w.heap.size w (w.alloc (.cells (bv f).toArray 27)) := (Below.refl _ _).alloc (Nat.le_refl _) _
  have hbx : Blk (w.alloc (.cells (bv f).toArray 27)) w.heap.size 27 (bv f).toArray := Blk.new w _ _
  have hs := plainP_any (some ⟨g, 0, none⟩) A n n (n + 3) d L L _ (h.1.below hb0) (h'.below hb0) (by omega) (by omega)
  rw [decide_eq_true rfl] at hs
  have HS := Lib.hid hs
  clear hs
  have e1 : ((n : Int) + 3).toNat = n + 3 := by omega
  have e0 : (0 : Int) ≤ (n : Int) + 3 := by omega
  have e2 : ¬ ((n : Int) + 3 < (n : Int) + 3) := by omega
  have hu := prTy
  have hsz := prSz hf
  have hne : ∀ W, (binOp .neq 27 (ida f) (ida f)).run Try.prog W = .ok (.bool false) W := fun W => by
    have := pr_neq hf hf W
    rwa [show (f != f) = false from by simp] at this
  go_enter Try.func22, Try.ntmps22
  go_wp2_with (go_at_call 12; (with_reducible refine HS.out.mono ?_); rintro e w1 ⟨rfl, hb1⟩)
  have hB1 := below_then hb0 hb0.size hb1
  have hO := h.below hB1
  have hbx1 := hbx.below hb1 hbx.lt
  have r2 := fun k => run_loadPr (w := w1.drewN k) hbx1.range hf
  go_loopw [8] (fun i wr => ∃ k q : Nat, k ≤ 3 ∧ i = .int .i64 ((n : Int) + k) ∧ w1.drewN q = wr) (fun i _ => n + 3 - (intOf i).toNat)
  case atStart => exact ⟨0, 0, by omega, by simp, rfl⟩
  case round =>
    obtain ⟨k, q, hk, rfl, rfl⟩ := hrel
    by_cases h1 : k < 3
    · have r1 := fun k' => run_loadPr (w := w1.drewN k') (hO.2 k h1) hf
      have n1 : ((n : Int) + k).toNat = n + k := by omega
      have n2 : (0 : Int) ≤ (n : Int) + k := by omega
      have n3 : (n : Int) + k < n + 3 := by omega
      go_wp2
      go_quiet (fail)
      go_wp2
      go_roundw
      case rel => exact ⟨k + 1, q + nq, by omega, by congr 1, by simp⟩
      case measure => simp [intOf]; omega
    · have n3 : ¬ ((n : Int) + k < n + 3) := by omega
      go_wp2
      go_ret
      exact ⟨rfl, below_drewN hB1 q⟩
end
end Go.Proofs.Ytokamaogognjoaa
