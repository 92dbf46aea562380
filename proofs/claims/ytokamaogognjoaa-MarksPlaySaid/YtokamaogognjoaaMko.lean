/-
  Compact: slices.Chunk of pairs (one chunk, or none).
-/
import Derived.Test.YtokamaogognjoaaMkl
set_option linter.unusedVariables false
set_option linter.unusedSimpArgs false
namespace Go.Proofs.Ytokamaogognjoaa
section
open Go.RowKit Go.Shelf
attribute [local go_sem] Oper.semAt_some

set_option maxRecDepth 100000 in
set_option maxHeartbeats 2000000 in
theorem chunkP_in (n0 : Nat) (hn0 : 1 ≤ n0) (l Bs Bn : Nat) (A : Option Addr) (n c N : Nat) (hN : (n = 0 ∧ N = 0) ∨ (0 < n ∧ N = 1)) (hc : n ≤ c) (hbig : n ≤ 3000) (J Jx : List { k : Nat // k < N } → World → Prop) (hJd : ∀ s W q, J s W → J s (W.drewN q))
    (hY : ∀ pre x W, J pre W → pre.length < N → YieldAt Fence.wide (n0 - 1) Try.prog l #[.slice A n n] W fun e W' => (e = .returned (.bool true) ∧ J (pre ++ [x]) W' ∧ KpB Bs Bn W W') ∨ (e = .returned (.bool false) ∧ Jx (pre ++ [x]) W'))
    (W : World) (h1 : W.cell? ⟨Bs, 0, none⟩ = some (.slice A n c)) (h2 : W.cell? ⟨Bn, 0, none⟩ = some (.int .i64 3279)) (h0 : J [] W) :
    CallsIn Fence.wide n0 Try.prog 51 #[.func (.yield l) #[] #[], .pointer (some ⟨Bs, 0, none⟩), .pointer (some ⟨Bn, 0, none⟩)] W fun e W' => (∃ v, e = .returned v) ∧
      ((∃ ys, ys.map (·.1) = List.range N ∧ J ys W') ∨ (∃ pre, True ∧ Jx pre W')) := by
  have hT : Try.prog.underlying 23 = some (.slice (Try.prog.elem 23)) := by kernel_rfl
  have hsz : ∀ W, (sizeOf (Try.prog.elem 23)).run Try.prog W = .ok 40 W := fun W => by kernel_rfl
  have hc1 : ∀ W', (Instr.slice 23 (.slice A n c) (some (.int .i64 0)) none none).run Try.prog W' = .ok (.slice A n c) W' := fun W' => by
    rw [run_slice_l W' 23 A n c hT .i64 0 (by omega) (by omega), hsz]
    cases A <;> simp [Result.andThen, sliced, Addr.add]
  have hc2 : ∀ W', (Instr.slice 23 (.slice A n c) (some (.int .i64 0)) (some (.int .i64 (n : Int))) (some (.int .i64 (n : Int)))).run Try.prog W' = .ok (.slice A n n) W' := fun W' => by
    rw [run_slice_lhm (P := Try.prog) W' 23 A n c hT .i64 .i64 .i64 0 (n : Int) (n : Int) (by omega) (by omega) (by omega) (by omega), hsz]
    cases A <;> simp [Result.andThen, sliced, Addr.add]
  clear hT hsz
  refine callsIn_of_wp Try.func51 rfl trivial ?_ rfl
  simp only [Try.ntmps51, List.size_toArray, List.length_cons, List.length_nil, Nat.reduceAdd, Nat.reduceSub, Array.replicate_succ, Array.replicate_zero, List.push_toArray, List.append_toArray, List.nil_append, List.cons_append]
  gi_wp2
  gi_loopw [4] (fun i wr => ∃ (k : Nat) (pre : List { k : Nat // k < N }), k ≤ N ∧ i = .int .i64 ((3279 * k : Nat) : Int) ∧ pre.map (·.1) = List.range k ∧ J pre wr ∧ wr.cell? ⟨Bs, 0, none⟩ = some (.slice A n c) ∧ wr.cell? ⟨Bn, 0, none⟩ = some (.int .i64 3279)) (fun i _ => 4000 - (intOf i).toNat)
  case atStart => exact ⟨0, [], Nat.zero_le _, rfl, rfl, h0, h1, h2⟩
  case round =>
    obtain ⟨k, pre, hk, rfl, hpre, hJs, c1, c2⟩ := hrel
    have HP := Lib.hid hpre
    have HL := Lib.hid (show pre.length = k from by have := congrArg List.length hpre; simpa using this)
    clear hpre
    by_cases hlt : k < N
    · have hk0 : k = 0 := by omega
      subst hk0
      have a1 : (0 : Int) < (n : Int) := by omega
      have a4 : (n : Int) < 3279 := by omega
      have a5 : ¬ (3279 : Int) ≤ (n : Int) := by omega
      have a6 : ¬ (3279 : Int) < (n : Int) := by omega
      have HN := Lib.hid hN
      clear hN hk
      simp only [Nat.mul_zero, Int.natCast_zero]
      gi_wp2
      refine wpIn_wide.2 ?_
      go_quiet (fail)
      have hR := hY _ ⟨0, hlt⟩ (wr.drewN nq) (hJd _ _ nq hJs) (by rw [HL.out]; exact hlt)
      obtain ⟨fn, tmps, assign, body, hy, hR⟩ := hR
      have d1 : (wr.drewN nq).cell? ⟨Bs, 0, none⟩ = some (.slice A n c) := c1
      have d2 : (wr.drewN nq).cell? ⟨Bn, 0, none⟩ = some (.int .i64 3279) := c2
      gi_wp2
      refine hR.mono ?_
      rintro e W3 (⟨rfl, hJ3, hk3⟩ | ⟨rfl, hJx3⟩)
      · have e1 := hk3 Bs _ (.inl rfl) d1
        have e2 := hk3 Bn _ (.inr rfl) d2
        gi_wp2
        go_roundw
        case rel => exact ⟨1, pre ++ [⟨0, hlt⟩], by omega, by go_num, by rw [List.map_append, HP.out]; rfl, hJ3, e1, e2⟩
        case measure => simp [intOf]
      · gi_wp2
        refine bodyPost_ret (results_none rfl _ _ _) rfl ?_
        first | exact ⟨⟨_, rfl⟩, .inr ⟨_, trivial, hJx3⟩⟩ | exact ⟨⟨_, rfl⟩, .inr ⟨_, hJx3⟩⟩
    · obtain rfl : k = N := by omega
      have a1 : ¬ ((3279 * k : Nat) : Int) < (n : Int) := by omega
      have a2 : k ≤ 1 := by omega
      generalize 3279 * k = i0 at *
      gi_wp2
      go_end0
      exact ⟨⟨_, rfl⟩, .inl ⟨_, HP.out, hJs⟩⟩
set_option maxRecDepth 100000 in
theorem chunkP_stops (n0 : Nat) (hn0 : 1 ≤ n0) (Bs Bn : Nat) (A : Option Addr) (n c N : Nat) (hN : (n = 0 ∧ N = 0) ∨ (0 < n ∧ N = 1)) (hc : n ≤ c) (hbig : n ≤ 3000) (w : World) (b1 : Bs < w.heap.size) (b2 : Bn < w.heap.size)
    (h1 : w.cell? ⟨Bs, 0, none⟩ = some (.slice A n c)) (h2 : w.cell? ⟨Bn, 0, none⟩ = some (.int .i64 3279)) :
    SeqStopsK Fence.wide n0 Try.prog 51 #[.pointer (some ⟨Bs, 0, none⟩), .pointer (some ⟨Bn, 0, none⟩)] (fun x : { k : Nat // k < N } => #[.slice A n n]) (KpB Bs Bn) (fun ys => ys.map (·.1) = List.range N) (fun _ => True) N w := fun l J Jx W hW hJ hJx hY h0 =>
  chunkP_in n0 hn0 l Bs Bn A n c N hN hc hbig J Jx (fun s W q hs => hJ s W _ none hs (grown_drewN (World.grownBy.refl W none) q) (fun r e => by cases e)) hY W ((hW.cell (p := ⟨Bs, 0, none⟩) b1).trans h1) ((hW.cell (p := ⟨Bn, 0, none⟩) b2).trans h2) h0
set_option maxRecDepth 100000 in
theorem chunkP_any (A : Option Addr) (n c : Nat) (w : World) : Calls Try.prog 41 #[.slice A n c, .int .i64 3279] w fun e w' => e = .returned (.func (.func 51) #[] #[.pointer (some ⟨w.heap.size, 0, none⟩), .pointer (some ⟨w.heap.size + 1, 0, none⟩)]) ∧
    (w.alloc (.cells #[.slice A n c] 23)).alloc (.cells #[.int .i64 3279] 3) = w' := by
  go_enter Try.func41, Try.ntmps41
  go_wp2
  go_ret
  exact ⟨rfl, rfl⟩
end
section
open Go.RowKit Go.Shelf
attribute [local go_sem] Oper.semAt_some

set_option maxRecDepth 100000 in
theorem OB.notBlkM {w : World} {g : Nat} {t : TypeId} {cs : Array Value} {B n : Nat} {v : Value} {xs : List Int} (ho : OB w B v n xs) (hb : Blk w g t cs) (ht : t ≠ 5) : ∀ k, v.ownBlock = some k → k ≠ g := fun k e e' => by
  subst e'
  rcases ho.form with ⟨h0, _⟩ | ⟨g', cap, cur, hv, _, _, _, _, hbk, _⟩
  · rw [h0] at e; simp [Value.ownBlock] at e
  · rw [hv] at e
    simp [Value.ownBlock] at e
    subst e
    unfold Blk at hb hbk
    rw [hb] at hbk
    injection hbk with hbk
    injection hbk with h1 h2
    exact ht h2
set_option maxRecDepth 100000 in
theorem ob_cellsRow {w w' : World} {base n : Nat} {v : Value} {xs : List Int} {row : Option Nat} {B : Nat} (h : OB w base v n xs) (hg : w.grownBy w' row) (hr : ∀ r, row = some r → B ≤ r ∧ ∃ o : Obj, w.heap[r]? = some o ∧ o.isCells = false) : OB w' base v n xs := by
  refine h.kept hg ?_
  cases e : v.ownBlock with
  | none => exact .inl rfl
  | some k =>
    refine .inr fun e' => ?_
    rcases h.form with ⟨h0, _⟩ | ⟨g, cap, cur, hv, _, _, _, _, hbk, _⟩
    · rw [h0] at e; simp [Value.ownBlock] at e
    · rw [hv] at e
      simp [Value.ownBlock] at e
      subst e
      obtain ⟨_, o, ho, hc⟩ := hr g e'.symm
      unfold Blk at hbk
      rw [hbk] at ho
      injection ho with ho
      subst ho
      cases hc
set_option maxRecDepth 100000 in
theorem wpListIn_appM {F : Fence} {k : Nat} {ops : Array Oper} {rest : List Oper} {o : Oper} {a : Act} {Q : Exit → Act → World → Prop} {w : World} (hgd : o.guard = none) (s x : Operand)
    (ho : o.op = .call { callee := .builtin .append, args := #[s, x], argTypes := #[36, 36] })
    (base : Nat) (v : Value) (n : Nat) (xs : List Int) (hs : a.eval s = v) (hown : OB w base v n xs)
    (A : Option Addr) (m c : Nat) (ys : List Int) (hx : a.eval x = .slice A m c) (hr : RB w A m ys)
    (h47 : n + m ≤ 140737488355328) (hbase : base ≤ w.heap.size)
    (h : ∀ v' w', OB w' base v' (n + m) (xs ++ ys) → w.grownBy w' v.ownBlock → (v'.ownBlock = v.ownBlock ∨ v'.ownBlock = some w.heap.size) → wpListIn F k Try.prog ops Q rest (a.put o.dst v') w') : wpListIn F k Try.prog ops Q (o :: rest) a w := by
  obtain ⟨i0, hi, hz0, hz1, hz2⟩ := info_parts byteInfo
  refine wpListIn_plain hgd fun K hK' => ?_
  obtain ⟨v', w', hrun, h2, h3, h4⟩ := run_append_any (P := Try.prog) w base 36 o.type 5 i0 _ 1 1 Try.underlying36 hi hz0 hz1 hz2 rfl (by omega) v n (bv xs) hown.1 A m c (bv ys) hr.src (bv_one ys) (by simp only [maxLen]; omega) (by omega) hbase
  unfold Oper.wpIn
  refine ⟨?_, ?_⟩
  · simp [Oper.about, ho, resolve, Target.leads, Sem.run_pure]
  · rw [Oper.semAt_plain F _ _ (by rw [ho]; intro c hc'; cases hc')]
    simp [execOp, ho, resolve, invoke, builtin, hs, hx, hrun, Result.andThen]
    exact hK' _ _ (h v' w' ⟨by rw [bv_append]; exact h2, hown.2.append hr.2.1⟩ h3 h4)
/-- the bytes behind so many chunks. -/
def cB (L : Prs) (k : Nat) : List Int := if k = 0 then [] else packL 1 L.flatten
def compR (f : Nat) (L : Prs) (s : Tp) : Int × Tp := if upV f s ≠ 0 then (upV f s, s) else s.swap (cB L L.length)
def CmPost (r : Int × Tp) (R : Nat → Prop) (g gt f : Nat) (L : Prs) (w : World) (e : Ending) (w' : World) : Prop := e = .returned (.int .i64 r.1) ∧ Tm w' (fun k => R k ∨ w.heap.size ≤ k) g gt f L r.2 ∧ Chg R w w'
def ICp (w : World) (A : Option Addr) (n c : Nat) (L : Prs) {N : Nat} (pre : List { k : Nat // k < N }) (W : World) : Prop :=
  (∃ v, Blk W w.heap.size 36 #[v] ∧ OB W w.heap.size v (cB L pre.length).length (cB L pre.length)) ∧ Below w.heap.size w W ∧ Blk W (w.heap.size + 1) 23 #[.slice A n c] ∧ Blk W (w.heap.size + 1 + 1) 3 #[.int .i64 3279]
set_option maxRecDepth 100000 in
theorem iCp_own (w : World) (A : Option Addr) (n c : Nat) (L : Prs) (N B : Nat) (hB : w.heap.size ≤ B) : OwnFrom B (fun (pre : List { k : Nat // k < N }) W => ICp w A n c L pre W) := fun s W W' row hs hg hr => by
  obtain ⟨⟨v, h1, h2⟩, h5, h6, h7⟩ := hs
  exact ⟨⟨v, blk_cellsRow h1 hg hr, ob_cellsRow h2 hg hr⟩, h5.grown hg h5.size (fun k e => Nat.le_trans hB (hr k e).1), blk_cellsRow h6 hg hr, blk_cellsRow h7 hg hr⟩
set_option maxRecDepth 100000 in
theorem cp_round {w W W2 W3 : World} {A : Option Addr} {n c : Nat} {L : Prs} {N m : Nat} {pre : List { k : Nat // k < N }} {x : { k : Nat // k < N }} {v v3 : Value} {xs : List Int}
    (hB : Below w.heap.size w W) (ho : OB W w.heap.size v m xs) (b1 : Blk W w.heap.size 36 #[v]) (b2 : Blk W (w.heap.size + 1) 23 #[.slice A n c]) (b3 : Blk W (w.heap.size + 1 + 1) 3 #[.int .i64 3279])
    (hba : Below W.heap.size W W2) (hg : W2.grownBy W3 v.ownBlock) (ho3 : OB W3 w.heap.size v3 (cB L (pre ++ [x]).length).length (cB L (pre ++ [x]).length)) (hat : v3.ownBlock = v.ownBlock ∨ v3.ownBlock = some W2.heap.size) :
    W3.cell? ⟨w.heap.size, 0, none⟩ = some v ∧ W3.frozen? ⟨w.heap.size, 0, none⟩ = false ∧ KeepsOthers W (W3.setCell ⟨w.heap.size, 0, none⟩ v3) ∧ KpB (w.heap.size + 1) (w.heap.size + 1 + 1) W (W3.setCell ⟨w.heap.size, 0, none⟩ v3) ∧ ICp w A n c L (pre ++ [x]) (W3.setCell ⟨w.heap.size, 0, none⟩ v3) := by
  have hW := hB.size
  have hW2 := hba.size
  have l1 := b1.lt
  have l2 := b2.lt
  have l3 := b3.lt
  have n1 := ho.notBlkM b1 (by decide)
  have n2 := ho.notBlkM b2 (by decide)
  have n3 := ho.notBlkM b3 (by decide)
  have hown := ho.own
  have far : ∀ {k : Nat}, (∀ j, v.ownBlock = some j → j ≠ k) → some k ≠ v.ownBlock := fun h e => h _ e.symm rfl
  have c1 := (b1.below hba l1).grown hg (far n1)
  have c2 := (b2.below hba l2).grown hg (far n2)
  have c3 := (b3.below hba l3).grown hg (far n3)
  have hs := set_grownQ W3 w.heap.size 0 v3
  have d1 := c1.set_ 0 v3
  have d2 := c2.grown hs (fun e => by injection e with e; omega)
  have d3 := c3.grown hs (fun e => by injection e with e; omega)
  have own3 : ∀ k, v3.ownBlock = some k → k ≠ w.heap.size := fun k e => by
    rcases hat with h | h
    · exact n1 k (by rw [← h]; exact e)
    · rw [h] at e
      injection e with e
      omega
  have hbA := below_two hB hba
  have hb3 := hbA.grown hg hbA.size (fun k e => (hown k e).1)
  have hb4 := hb3.grown hs hb3.size (fun k e => by injection e with e; omega)
  refine ⟨c1.cell 0, c1.frozen 0, ?_, ?_, ⟨v3, d1, ho3.kept hs (own_far own3)⟩, hb4, d2, d3⟩
  · refine KeepsOthers.trans (KeepsOthers.trans (?_ : KeepsOthers W W2) (?_ : KeepsOthers W2 W3)) (KeepsOthers.setCell _ _ _)
    · exact ⟨hba.size, fun k o hk hc => (hba.block k (Array.getElem?_eq_some_iff.1 hk).1).trans hk⟩
    · refine ⟨hg.size, fun k o hk hc => (hg.block k (Array.getElem?_eq_some_iff.1 hk).1 (fun e => ?_)).trans hk⟩
      rcases (ho.below hba).form with ⟨h0, _⟩ | ⟨g, cap, cur, hv, _, _, _, _, hbk, _⟩
      · rw [h0] at e; simp [Value.ownBlock] at e
      · rw [hv] at e
        simp [Value.ownBlock] at e
        subst e
        unfold Blk at hbk
        rw [hbk] at hk
        injection hk with hk
        subst hk
        cases hc
  · intro bb u hbb hu
    rcases hbb with rfl | rfl
    · rw [b2.cell 0] at hu
      rw [d2.cell 0]
      exact hu
    · rw [b3.cell 0] at hu
      rw [d3.cell 0]
      exact hu
/-- the world in which Compact's loop begins. -/
abbrev cmW (A : Option Addr) (n c : Nat) (w : World) : World := ((w.alloc (.cells #[.slice none 0 0] 36)).alloc (.cells #[.slice A n c] 23)).alloc (.cells #[.int .i64 3279] 3)
set_option maxRecDepth 100000 in
set_option maxHeartbeats 1000000 in
theorem tcompact_any (R : Nat → Prop) (g gt f : Nat) (L : Prs) (s : Tp) (w : World) (h : Tm w R g gt f L s) (hok : s.Ok 300000000) (hL : L.length ≤ 3000) :
    Calls Try.prog 16 #[.pointer (some ⟨g, 0, none⟩)] w (CmPost (compR f L s) R g gt f L w) := by
  obtain ⟨P, Q, h1, h2, h3, h4, h5⟩ := id h
  have HU := Lib.hid (up_any P Q g gt f L s w h1 h2)
  have hc0 := upV_cases f s
  unfold compR
  generalize upV f s = u at *
  unfold Q2 at HU
  rcases hc0 with rfl | rfl
  · rw [if_neg (by decide)]
    obtain ⟨A, n, c, m1, m2, hm⟩ := h1
    have hnL := hm.len
    have HC2 := Lib.hid (show ∀ q, ((w.drewN q).alloc (.cells #[.slice none 0 0] 36)).cell? ⟨g, 2, none⟩ = some (.slice A n c) from fun q => cell_later ((drewN_below w q).alloc (Nat.le_refl _) _) hm.c2)
    refine (callsIn_wide (n := 3)).1 ?_
    refine callsIn_of_wp_marks Try.func16 rfl trivial ?_ rfl
    simp only [Try.ntmps16, List.size_toArray, List.length_cons, List.length_nil, Nat.reduceAdd, Nat.reduceSub, Array.replicate_succ, Array.replicate_zero, List.push_toArray, List.append_toArray, List.nil_append, List.cons_append]
    gi_wp2_with (first
      | (refine ⟨trivial, ?_⟩; gi_at_call 29; refine (callsIn_wide.2 HU.out).mono ?_; rintro e w0 ⟨rfl, q, rfl⟩; have c2 := HC2.out q)
      | (refine ⟨trivial, ?_⟩; gi_at_call 41; refine (callsIn_wide.2 (chunkP_any _ _ _ _)).mono ?_; rintro e w' ⟨rfl, rfl⟩))
    have hbV := drewN_below w q
    have hB0 : Below w.heap.size w (cmW A n c (w.drewN q)) := ((hbV.alloc (Nat.le_refl _) _).alloc (by simp) _).alloc (by simp; omega) _
    have B1 : Blk (cmW A n c (w.drewN q)) w.heap.size 36 #[.slice none 0 0] := ((Blk.new (w.drewN q) _ _).alloc _).alloc _
    have B2 : Blk (cmW A n c (w.drewN q)) (w.heap.size + 1) 23 #[.slice A n c] := by
      have := Blk.new ((w.drewN q).alloc (.cells #[.slice none 0 0] 36)) 23 #[.slice A n c]
      rw [World.size_alloc] at this
      exact this.alloc _
    have B3 : Blk (cmW A n c (w.drewN q)) (w.heap.size + 1 + 1) 3 #[.int .i64 3279] := by
      have := Blk.new (((w.drewN q).alloc (.cells #[.slice none 0 0] 36)).alloc (.cells #[.slice A n c] 23)) 3 #[.int .i64 3279]
      simp only [World.size_alloc] at this
      exact this
    obtain ⟨N, hN⟩ : ∃ N, (n = 0 ∧ N = 0) ∨ (0 < n ∧ N = 1) := by
      rcases Nat.eq_zero_or_pos n with h0 | h0
      · exact ⟨0, .inl ⟨h0, rfl⟩⟩
      · exact ⟨1, .inr ⟨h0, rfl⟩⟩
    obtain ⟨A', c', hvc, hnc⟩ := hm.own.slice
    have hnc' : n ≤ c := by injection hvc with _ _ e; omega
    have hpairs := hm.own.reads
    have hall := hpairs.2.1
    obtain ⟨hbx, hlx, hpx⟩ := packL_byts hall (by omega)
    refine wpIn_rangeFunc_ownF (n := 3) rfl (Nat.le_add_left 1 2) (gf := 51) (lb := #[.pointer (some ⟨w.heap.size + 1, 0, none⟩), .pointer (some ⟨w.heap.size + 1 + 1, 0, none⟩)]) rfl trivial (enters_of Try.func51 (by kernel_rfl) rfl)
      (chunkP_stops 2 (by omega) (w.heap.size + 1) (w.heap.size + 1 + 1) A n c N hN hnc' (by omega) (cmW A n c (w.drewN q)) (B2.lt) (B3.lt) (B2.cell 0) (B3.cell 0)) kpB_t (kpB_b B2.lt B3.lt) (Below.refl _ _) (fun _ => rfl)
      (fun pre W => ICp w A n c L pre W) (fun _ _ _ => False) (iCp_own w A n c L _ _ hB0.size) (fun _ _ _ _ _ hs _ _ => hs)
      ⟨⟨_, B1, OB.nil _ _⟩, hB0, B2, B3⟩
      (fun x => { tmps := #[.pointer (some ⟨g, 0, none⟩), undef, .int .i64 0, .int .i64 0, .pointer (some ⟨w.heap.size, 0, none⟩), .slice A n n, undef, undef, .pointer (some ⟨g, 0, none⟩), .int .i64 0, .int .i64 0, .bool false, undef, .pointer (some ⟨g, 0, none⟩), .pointer (some ⟨g, 0, none⟩), .pointer (some ⟨g, 2, none⟩), .slice A n c, .func (.func 51) #[] #[.pointer (some ⟨w.heap.size + 1, 0, none⟩), .pointer (some ⟨w.heap.size + 1 + 1, 0, none⟩)], .slice A n n, undef, undef, undef, undef, undef, undef, undef, undef, undef, undef, undef, undef, undef, undef, undef], defers := [] }) ?assign ?body ?done ?stop
    case assign =>
      intro l x W K hK
      gi_wp2
      exact hK
    case body =>
      rintro l pre x W ⟨⟨v, b1, ho⟩, hB, b2, b3⟩ hlt
      have hk := x.2
      have hp0 : pre = [] := List.length_eq_zero_iff.1 (by omega)
      subst hp0
      have ho0 : OB W w.heap.size v 0 [] := ho
      have hR := hpairs.below hB
      have HBY := Lib.hid (show Calls Try.prog 32 #[.slice A n n] W (NewB (40 * L.length) L.flatten W) from mbytes_any A n n L W hR (by omega))
      have HPK := Lib.hid (show ∀ (W : World) (A : Option Addr) (d : Nat), RB W A (40 * L.length) L.flatten → 40 * L.length ≤ d → Calls Try.prog 31 #[.int .i64 1, .slice A (40 * L.length) d] W (PackPost (packL 1 L.flatten, 0) W) from fun W A d hW hd => by have := pack_any 1 A (40 * L.length) d L.flatten W hW hd (by omega); rwa [hpx] at this)
      have hxl : (packL 1 L.flatten).length ≤ 140000 := by rw [packL_length]; omega
      have HX := Lib.hid (show cB L ([] ++ [x]).length = packL 1 L.flatten from rfl)
      clear ho hpx hbx hlx hlt hk hN hnL
      generalize packL 1 L.flatten = X at *
      unfold NewB at HBY
      unfold PackPost at HPK
      simp only at HPK
      gi_wp2_with (first
        | (refine ⟨trivial, ?_⟩; gi_at_call 32; with_reducible refine (calls_in HBY.out).mono ?_; rintro e x1 ⟨A1, d1, rfl, ho1, hd1, hb1⟩)
        | (refine ⟨trivial, ?_⟩; gi_at_call 31; with_reducible refine (calls_in (HPK.out _ _ _ ho1.reads hd1)).mono ?_; rintro e x2 ⟨A2, d2, rfl, ho2, hd2, hb2⟩; have hb12 := below_two hb1 hb2; have q4 := (b1.below hb12 b1.lt).cell 0)
        | (gi_at_builtin; refine wpListIn_appM rfl (.tmp 25) (.tmp 26) rfl w.heap.size v 0 [] rfl (ho0.below hb12) A2 X.length d2 X rfl ho2.reads (by omega) (Nat.le_trans hB.size hb12.size) ?_; intro v3 x3 ho3 hg3 hat3; rw [Nat.zero_add, List.nil_append] at ho3; obtain ⟨A3, d3, rfl, hd3⟩ := ho3.slice; obtain ⟨e1, e2, hfin⟩ := cp_round (pre := []) (x := x) hB ho0 b1 b2 b3 hb12 hg3 (by rw [HX.out]; exact ho3) hat3))
      exact hfin
    case done =>
      rintro D ys W hD hys ⟨⟨v, b1, ho⟩, hB, b2, b3⟩ hK
      have hyl : ys.length = N := by have := congrArg List.length hys; simpa using this
      have hX : cB L ys.length = cB L L.length := by
        unfold cB
        rw [hyl, hnL]
        rcases hN with ⟨e1, e2⟩ | ⟨e1, e2⟩
        · rw [e1, e2]
        · rw [e2, if_neg (by omega), if_neg (by omega)]
      rw [hX] at ho
      have hxl : (cB L L.length).length ≤ 140000 := by
        unfold cB
        split
        · simp
        · rw [packL_length]; omega
      generalize cB L L.length = X at *
      obtain ⟨A6, c6, rfl, hc6⟩ := ho.slice
      have q1 : W.drew.cell? ⟨w.heap.size, 0, none⟩ = some (.slice A6 X.length c6) := b1.cell 0
      have hBd := below_drewN hB 1
      have q2 : W.drew.cell? ⟨g, 0, none⟩ = some (.pointer (some ⟨gt, 0, none⟩)) := cell_later hBd hm.c0
      have hT : Tm W.drew (fun k => R k ∧ k < w.heap.size) g gt f L s := (h.mono fun k hk hr => ⟨hr, hk⟩).below hBd
      have HCW := Lib.hid (show Calls Try.prog 42 #[.pointer (some ⟨gt, 0, none⟩), .slice A6 X.length c6] W.drew (fun e w' => e = .returned (.int .i64 (s.swap X).1) ∧ Tm w' (fun k => (R k ∧ k < w.heap.size) ∨ W.drew.heap.size ≤ k) g gt f L (s.swap X).2 ∧ Chg (fun k => R k ∧ k < w.heap.size) W.drew w') from by
        obtain ⟨P', Q', t1, t2, t3, t4, t5⟩ := id hT
        exact (tpSwap_any gt s Q' A6 X.length c6 X W.drew t2 (hok.mono (by omega)) (ho.reads.drewN 1) hc6 (by omega)).mono fun e w' hp => Tm.tape' t1 t2 t3 t4 t5 hp)
      have hKd : W.drew.heap[D]? = some (.deferred (some [])) := hK
      clear hnL hm hX hyl HU HC2
      have hwD : w.heap.size ≤ D := Nat.le_trans hB0.size hD
      gi_wp2
      refine wpIn_wide.2 ?_
      go_region_held3 (fun W' => W'.cell? ⟨g, 0, none⟩ = some (.pointer (some ⟨gt, 0, none⟩)) ∧ W'.cell? ⟨w.heap.size, 0, none⟩ = some (.slice A6 X.length c6))
        (first | exact ⟨q2, q1⟩ | exact ⟨q2', q1'⟩)
        (first | (go_at_call 42; (with_reducible refine HCW.out.mono ?_); rintro e w9 ⟨rfl, t9, ch9⟩; have q2' := Tm.c0 t9; have q1' := ch9.cell q1 (fun hk => Nat.lt_irrefl _ hk.2)))
      all_goals
        gi_wp2
        have hlD : D < W.drew.heap.size := (Array.getElem?_eq_some_iff.1 hKd).1
        have hK9 : w9.heap[D]? = some (.deferred (some [])) := (ch9.block D hlD (fun hk => by omega)).trans hKd
        have hg9 := grownBy_putObj' w9 D (.deferred none)
        have hcD : Chg (fun k => k = D) w9 (w9.putObj D (.deferred none)) := Chg.grown hg9 (fun k e => by injection e with e; exact e.symm)
        have tF := t9.chg hcD (fun k hk e => by rcases hk with hk | hk; omega; omega)
        refine ⟨by simp, .inl ⟨_, _, rfl, run_takeDeferred (w := w9) hK9, ?_⟩⟩
        refine ⟨_, results_tmp rfl _ _ _, rfl, tF.mono (fun k _ hk => ?_), ?_⟩
        · rcases hk with hk | hk
          · exact .inl hk.1
          · exact .inr (Nat.le_trans hBd.size hk)
        · have c1 : Chg R w W.drew := Chg.below hBd
          have c2 := c1.then (ch9.mono (Q := R) fun i hi => .inl hi.1) (fun i hi => .inl hi)
          exact c2.then hcD (fun i hi => .inr (by omega))
    case stop =>
      rintro D c pre W _ _ h _
      exact h.elim
  · rw [if_pos (by decide)]
    go_enter Try.func16, Try.ntmps16
    go_wp2_with (go_at_call 29; (with_reducible refine HU.out.mono ?_); rintro e w0 ⟨rfl, q, rfl⟩)
    go_ret
    exact ⟨rfl, (h.below (drewN_below w q)).mono fun k _ hk => .inl hk, Chg.below (drewN_below w q)⟩
end
end Go.Proofs.Ytokamaogognjoaa
