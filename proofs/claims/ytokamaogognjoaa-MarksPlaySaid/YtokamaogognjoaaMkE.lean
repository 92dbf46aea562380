/-
  Pairs as bytes; a walk carried into a round of a range over a function; slices.Chunk of bytes; pairs built.
-/
import Derived.Test.YtokamaogognjoaaMk8
import Derived.RangeFuncFrom
import Derived.RangeFuncNested
import Derived.RangeFuncBound
import Derived.RangeFuncCalls
import Derived.RangeFuncLeaves
import Derived.RangeFuncBox
import Derived.Shelf.Abstract
import Derived.Shelf.RegionOpen
import Derived.OwnWalkIn
import Derived.TacticsInMore
import Derived.LoopNIn
import Derived.LoopIn
set_option linter.unusedVariables false
set_option linter.unusedSimpArgs false
namespace Go.Proofs.Ytokamaogognjoaa
section
open Go.RowKit

set_option maxRecDepth 100000 in
theorem step_appM {ops : Array Oper} {o : Oper} {a : Act} {w : World} {K : Act → World → Prop} {Q : Exit → Act → World → Prop} {E : Prop} (hgd : o.guard = none) (s x : Operand)
    (ho : o.op = .call { callee := .builtin .append, args := #[s, x], argTypes := #[36, 36] })
    (base : Nat) (v : Value) (n : Nat) (xs : List Int) (hs : a.eval s = v) (hown : OB w base v n xs)
    (A : Option Addr) (m c : Nat) (ys : List Int) (hx : a.eval x = .slice A m c) (hr : RB w A m ys)
    (h47 : n + m ≤ 140737488355328) (hbase : base ≤ w.heap.size)
    (h : ∀ v' w', OB w' base v' (n + m) (xs ++ ys) → w.grownBy w' v.ownBlock → (v'.ownBlock = v.ownBlock ∨ v'.ownBlock = some w.heap.size) → K (a.put o.dst v') w') :
    if Region.wanted o (yielded ops a.tmps) = true then Oper.wp Try.prog o a w K Q else E := by
  have hw : Region.wanted o (yielded ops a.tmps) = true := by simp [Region.wanted, hgd]
  rw [if_pos hw]
  obtain ⟨i0, hi, hz0, hz1, hz2⟩ := info_parts byteInfo
  exact wp_append_any w s x 36 ho base 5 i0 _ 1 1 Try.underlying36 hi hz0 hz1 hz2 rfl (by omega) v n (bv xs) hs hown.1 A m c (bv ys) hx hr.src (bv_one ys)
    (by simp only [maxLen]; omega) (by omega) hbase fun v' w' h2 h3 h4 => h v' w' ⟨by rw [bv_append]; exact h2, hown.2.append hr.2.1⟩ h3 h4
set_option maxRecDepth 100000 in
theorem cutIdAt (w : World) (g o : Nat) : (Instr.sliceAt 25 (.pointer (some ⟨g, o, none⟩)) none none none).run Try.prog w = .ok (.slice (some ⟨g, o, none⟩) 20 20) w := by kernel_rfl
set_option maxRecDepth 100000 in
theorem range_RB {w : World} {b o : Nat} {xs : List Int} (h : w.rangeAt b o (bv xs)) (hx : Byts xs) : RB w (some ⟨b, o, none⟩) xs.length xs :=
  ⟨rfl, hx, fun _ => ⟨_, rfl, fun j hj => by rw [add_plain]; exact h j _ (bv_some hj)⟩⟩
set_option maxRecDepth 100000 in
set_option maxHeartbeats 2000000 in
theorem mbytes_any (B : Option Addr) (k c : Nat) (l : Prs) (w : World) (hB : RPrs w B k l) (hk : l.length ≤ 100000) :
    Calls Try.prog 32 #[.slice B k c] w (NewB (40 * l.length) l.flatten w) := by
  have hl := hB.1
  subst hl
  go_enter Try.func32, Try.ntmps32
  go_wp2
  go_loopw [3, 8] (fun v i wr => ∃ j : Nat, j ≤ l.length ∧ i = .int .i64 j ∧ OB wr w.heap.size v (40 * j) (l.take j).flatten ∧ Below w.heap.size w wr) (fun _ i _ => l.length - (intOf i).toNat)
  case atStart => exact ⟨0, by omega, rfl, by simpa using OB.nil _ _, Below.refl _ _⟩
  case round =>
    obtain ⟨j, hj, rfl, hown, hb⟩ := hrel
    obtain ⟨A6, c6, rfl, hc6⟩ := hown.slice
    by_cases h1 : j < l.length
    · obtain ⟨b, off, rfl, hcells⟩ := (hB.below hb).2.2 (by omega)
      have hp : IsPr (gp l j) := hB.2.1.at_ h1
      have r1 := run_loadPr (hcells j h1) hp
      have HX := Lib.hid (show (l.take (j + 1)).flatten = ((l.take j).flatten ++ git (gp l j)) ++ nod (gp l j) from by rw [take_gp h1, List.flatten_append, List.append_assoc, show git (gp l j) ++ nod (gp l j) = gp l j from pr_parts _]; simp)
      have j0 : (0 : Int) ≤ (j : Int) := by omega
      have j1 : (j : Int) < (l.length : Int) := by omega
      have hzX := pr_sz hp
      have hsX := pr_zs hp
      clear hcells
      generalize gp l j = p at *
      generalize (l.take j).flatten = xs at *
      have hpg : IsId (git p) := hp.git
      have hpn : IsId (nod p) := hp.node
      have hcut := cutIdAt
      go_upto_region 5 with ((with_reducible refine st_row 27 5 11 wr.heap.size 27 (bv p).toArray zpr ?_ ?_ ?_ hzX hsX (bvArr_all p) ?_); rfl; rfl; exact Blk.new wr _ zpr; intro w5 hb5 hg5 hsz5)
      have hB5 : Below wr.heap.size wr w5 := ((Below.refl _ wr).alloc (Nat.le_refl _) _).grown hg5 (by simp) (fun k e => by injection e with e; omega)
      have z5 : wr.heap.size < w5.heap.size := by rw [hsz5, World.size_alloc]; omega
      clear hsz5 hg5
      have hpR : w5.rangeAt wr.heap.size 0 (bv p) := hb5.range
      have hpN : w5.rangeAt wr.heap.size 20 (bv (nod p)) := by have := range_node hpR; rwa [Nat.zero_add] at this
      have hpG : w5.rangeAt wr.heap.size 0 (bv (git p)) := range_git hpR
      have ho5 : OB w5.drew w.heap.size (.slice A6 (40 * j) c6) (40 * j) xs := (hown.below hB5).drewN 1
      have rg : RB w5.drew (some ⟨wr.heap.size, 0, none⟩) 20 (git p) := by have := range_RB hpG hpg.2; rw [hpg.1] at this; exact this
      have rn : RB w5.drew (some ⟨wr.heap.size, 20, none⟩) 20 (nod p) := by have := range_RB hpN hpn.2; rw [hpn.1] at this; exact this
      have hb5' : Below w.heap.size w w5.drew := below_drewN (below_two hb hB5) 1
      have hz5' := hb5'.size
      have hnb : ∀ k, (Value.slice A6 (40 * j) c6).ownBlock = some k → k ≠ wr.heap.size := fun k e => by have := (hown.own k e).2; omega
      clear hown
      simp only [Act.put, List.setIfInBounds_toArray, List.set_cons_succ, List.set_cons_zero]
      go_region_held3 (fun W => True)
        (trivial)
        (first
          | (refine step_appM rfl (.tmp 12) (.tmp 14) rfl w.heap.size (.slice A6 (40 * j) c6) (40 * j) xs rfl ho5 (some ⟨wr.heap.size, 0, none⟩) 20 20 (git p) rfl rg (by omega) hz5' ?_; intro v6 w6 ho6 hg6 hat6; have rn6 := rn.grown hg6 (fun ad e e' => by injection e with e; subst e; exact hnb _ e'.symm rfl); have hb6 := hb5'.grown hg6 hz5' (fun k e => (ho5.own k e).1); have hz6 := hb6.size)
          | (refine step_appM rfl (.tmp 15) (.tmp 17) rfl w.heap.size _ (40 * j + 20) (xs ++ git p) rfl ho6 (some ⟨wr.heap.size, 20, none⟩) 20 20 (nod p) rfl rn6 (by omega) hz6 ?_; intro v7 w7 ho7 hg7 hat7; have hb7 := hb6.grown hg7 hz6 (fun k e => (ho6.own k e).1)))
      all_goals
        go_wp2
        go_roundw
        case rel => exact ⟨j + 1, by omega, by go_num, by rw [HX.out, show 40 * (j + 1) = 40 * j + 20 + 20 from by omega]; exact ho7, hb7⟩
        case measure => simp [intOf]; omega
    · obtain rfl : j = l.length := by omega
      rw [List.take_length] at hown
      go_wp2
      go_ret
      exact ⟨A6, c6, rfl, hown, hc6, hb⟩
end
section
open Go.RowKit Go.Shelf

/-- the wide fence, in a round. -/
abbrev FR (l : Nat) : Fence := Fence.wide.inRound l
set_option maxRecDepth 100000 in
theorem rows_in {l n : Nat} {P : Program} {row : String} {args : Array Value} {w : World} {R : Value → World → Prop} (h : Rows P row args w R) : RowsIn (FR l) n P row args w R :=
  fun c cs _ => let ⟨v, w', r, s⟩ := h c cs; ⟨v, w', r, stepsIn_wide.2 s⟩
set_option maxRecDepth 100000 in
theorem calls_in {l n : Nat} {P : Program} {f : FuncId} {args : Array Value} {w : World} {R : Ending → World → Prop} (h : Calls P f args w R) : CallsIn (FR l) n P f args w R := CallsIn.inRound l (callsIn_wide.2 h)
/-- no word of a panic, nor of memory that ends. -/
def QN (K : Act → World → Prop) : Exit → Act → World → Prop := fun e a w => e = .normal ∧ K a w
set_option maxRecDepth 100000 in
theorem qn_out {K : Act → World → Prop} : ¬ LetsOut (QN K) := fun ⟨_, _, h⟩ => by cases h.1
set_option maxRecDepth 100000 in
theorem upon_in {l n : Nat} {P : Program} {o : Oper} {a : Act} {K next next' : Act → World → Prop} {Q' : Exit → Act → World → Prop} (hn : ∀ a w, next a w → next' a w) {r : Result Next} (h : o.upon P a next (QN K) r) : o.uponIn (FR l) n P a next' Q' r := by
  cases r with
  | ok x w =>
    cases x with
    | value v => exact hn _ _ h
    | skip => exact hn _ _ h
    | defer d => exact hn _ _ h
    | enter f args =>
      refine ⟨(fun h => by cases h), calls_in (Calls.mono h (fun e w' he => ?_))⟩
      cases e with
      | returned v => exact hn _ _ he
      | panicked c => cases he.1
      | outgrown => exact (qn_out he).elim
    | row row args =>
      refine ⟨(fun h => by cases h), rows_in ?_⟩
      exact fun c cs => let ⟨v, w', r, s⟩ := h c cs; ⟨v, w', hn _ _ r, s⟩
    | _ => exact h.elim
  | halt x w =>
    cases x with
    | panic v => cases h.1
    | _ => exact h.elim
set_option maxRecDepth 100000 in
theorem oper_in {l n : Nat} {P : Program} {o : Oper} {a : Act} {w : World} {K next next' : Act → World → Prop} {Q' : Exit → Act → World → Prop} (hd : ∀ c, o.op ≠ Op.defer c) (hn : ∀ a w, next a w → next' a w) (h : o.wp P a w next (QN K)) : o.wpIn (FR l) n P a w next' Q' := by
  refine ⟨fun _ _ => trivial, ?_⟩
  have e : o.semAt (FR l).round a.eval = execOp a.eval o := Oper.semAt_eq _ _ _ hd
  rw [e]
  exact upon_in hn h
set_option maxRecDepth 100000 in
theorem any_in {l n : Nat} {P : Program} {md : Region.Mode} {ops : Array Oper} {K : Act → World → Prop} {Q' : Exit → Act → World → Prop} (hd : ∀ (i : Nat) (o : Oper), ops[i]? = some o → ∀ c, o.op ≠ Op.defer c) (hq : ∀ a w, K a w → Q' .normal a w) :
    ∀ (fuel : Nat) (listed : Array Bool) (a : Act) (w : World), wpAny P md ops (QN K) fuel listed a w → wpAnyIn (FR l) n P md ops Q' fuel listed a w
  | 0, listed, a, w, h => ⟨h.1, hq _ _ h.2.2⟩
  | fuel + 1, listed, a, w, h => by
    refine ⟨fun h0 => hq _ _ (h.1 h0).2, fun i hi => ?_⟩
    have h1 := h.2 i hi
    unfold wpOp at h1
    unfold wpOpIn
    cases ho : ops[i]? with
    | none =>
      rw [ho] at h1
      exact any_in hd hq fuel _ _ _ h1
    | some o =>
      rw [ho] at h1
      simp only at h1 ⊢
      split
      · rename_i hw
        rw [if_pos hw] at h1
        rcases h1 with h1 | h1
        · exact oper_in (hd i o ho) (fun a w h => any_in hd hq fuel _ a w h) h1
        · exact (qn_out h1.2).elim
      · rename_i hw
        rw [if_neg hw] at h1
        exact ⟨fun _ _ => trivial, any_in hd hq fuel _ _ _ h1⟩
def notDefer (o : Oper) : Bool := match o.op with | .defer _ => false | _ => true
set_option maxRecDepth 100000 in
theorem notDefer_out {ops : Array Oper} (h : ops.all notDefer = true) (i : Nat) (o : Oper) (ho : ops[i]? = some o) : ∀ c, o.op ≠ Op.defer c := fun c e => by
  have hm : o ∈ ops.toList := by rw [← Array.getElem?_toList] at ho; exact List.mem_of_getElem? ho
  have := Array.all_eq_true_iff_forall_mem.1 h o (by simpa using hm)
  unfold notDefer at this
  rw [e] at this
  cases this
set_option maxRecDepth 100000 in
/-- a region that draws, in a round: from the walk under S. -/
theorem region_in {l n id : Nat} {P : Program} {ops : Array Oper} {K : Act → World → Prop} {Q' : Exit → Act → World → Prop} {S : World → Prop} {a : Act} {w : World} (hm : P.follows .mixedOrders = true) (hd : ops.all notDefer = true) (hq : ∀ a w, K a w → Q' .normal a w)
    (hS : S w.drew) (h : S w.drew → wpAnyH P .any ops (QN K) S ops.size (Array.replicate ops.size false) a w.drew) : (Code.region id ops true).wpIn (FR l) n P Q' a w :=
  wpIn_region_any hm (any_in (notDefer_out hd) hq _ _ _ _ (wpAny_of_held _ _ _ _ (h hS)))
end
section
open Go.RowKit Go.Shelf

attribute [local go_sem] Oper.semAt_some
/-- what a round keeps: the iterator's own two cells. -/
def KpB (Bs Bn : Nat) (W W' : World) : Prop := ∀ (b : Nat) v, (b = Bs ∨ b = Bn) → W.cell? ⟨b, 0, none⟩ = some v → W'.cell? ⟨b, 0, none⟩ = some v
set_option maxRecDepth 100000 in
theorem kpB_t {Bs Bn : Nat} {A B C : World} (h : KpB Bs Bn A B) (k : KpB Bs Bn B C) : KpB Bs Bn A C := fun b v hb hv => k b v hb (h b v hb hv)
set_option maxRecDepth 100000 in
theorem kpB_b {Bs Bn : Nat} {w : World} (h1 : Bs < w.heap.size) (h2 : Bn < w.heap.size) (W : World) (l : Nat) (o o' : Obj) (hl : w.heap.size ≤ l) (h : W.heap[l]? = some o) (_ : o.isCells = false) (_ : o.isWalk = false) : KpB Bs Bn W (W.putObj l o') := fun b v hb hv =>
  (grownBy_putObj' W l o').cell hv (fun e => by injection e with e; simp at e; rcases hb with rfl | rfl <;> omega)
set_option maxRecDepth 100000 in
theorem chunkCut {A : Option Addr} {n c i h : Nat} (hi : i < h) (hc : h ≤ c) (W : World) : (Instr.slice 36 (.slice A n c) (some (.int .i64 (i : Int))) (some (.int .i64 ((i : Int) + (h - i : Nat)))) (some (.int .i64 ((i : Int) + (h - i : Nat))))).run Try.prog W = .ok (.slice (A.map (·.add i)) (h - i) (h - i)) W := by
  have e : (i : Int) + ((h - i : Nat) : Int) = (h : Int) := by omega
  rw [e, run_slice_lhm (P := Try.prog) W 36 A n c (by kernel_rfl) .i64 .i64 .i64 (i : Int) (h : Int) (h : Int) (by omega) (by omega) (by omega) (by omega)]
  have hs : (sizeOf (Try.prog.elem 36)).run Try.prog W = .ok 1 W := by kernel_rfl
  rw [hs, Result.andThen_ok]
  unfold sliced
  rw [if_neg (by omega)]
  simp
set_option maxRecDepth 100000 in
set_option maxHeartbeats 2000000 in
theorem chunkB_in (n0 : Nat) (hn0 : 1 ≤ n0) (l Bs Bn : Nat) (A : Option Addr) (n c N : Nat) (hN : n = 40 * N) (hc : n ≤ c) (hbig : N ≤ 100000) (J Jx : List { k : Nat // k < N } → World → Prop) (hJd : ∀ s W q, J s W → J s (W.drewN q))
    (hY : ∀ pre x W, J pre W → pre.length < N → YieldAt Fence.wide (n0 - 1) Try.prog l #[.slice (A.map (·.add (40 * x.1))) 40 40] W fun e W' => (e = .returned (.bool true) ∧ J (pre ++ [x]) W' ∧ KpB Bs Bn W W') ∨ (e = .returned (.bool false) ∧ Jx (pre ++ [x]) W'))
    (W : World) (h1 : W.cell? ⟨Bs, 0, none⟩ = some (.slice A n c)) (h2 : W.cell? ⟨Bn, 0, none⟩ = some (.int .i64 40)) (h0 : J [] W) :
    CallsIn Fence.wide n0 Try.prog 57 #[.func (.yield l) #[] #[], .pointer (some ⟨Bs, 0, none⟩), .pointer (some ⟨Bn, 0, none⟩)] W fun e W' => (∃ v, e = .returned v) ∧
      ((∃ ys, ys.map (·.1) = List.range N ∧ J ys W') ∨ (∃ pre, True ∧ Jx pre W')) := by
  refine callsIn_of_wp Try.func57 rfl trivial ?_ rfl
  simp only [Try.ntmps57, List.size_toArray, List.length_cons, List.length_nil, Nat.reduceAdd, Nat.reduceSub, Array.replicate_succ, Array.replicate_zero, List.push_toArray, List.append_toArray, List.nil_append, List.cons_append]
  gi_wp2
  gi_loopw [4] (fun i wr => ∃ (k i0 : Nat) (pre : List { k : Nat // k < N }), k ≤ N ∧ i0 = 40 * k ∧ i = .int .i64 (i0 : Nat) ∧ pre.map (·.1) = List.range k ∧ J pre wr ∧ wr.cell? ⟨Bs, 0, none⟩ = some (.slice A n c) ∧ wr.cell? ⟨Bn, 0, none⟩ = some (.int .i64 40)) (fun i _ => n - (intOf i).toNat)
  case atStart => exact ⟨0, 0, [], Nat.zero_le _, rfl, rfl, rfl, h0, h1, h2⟩
  case round =>
    obtain ⟨k, i0, pre, hk, hi0, rfl, hpre, hJs, c1, c2⟩ := hrel
    have HP := Lib.hid hpre
    have hpl : pre.length = k := by have := congrArg List.length hpre; simpa using this
    clear hpre
    by_cases hlt : k < N
    · have a1 : (i0 : Int) < (n : Int) := by omega
      have a2 : (0 : Int) ≤ (i0 : Int) := by omega
      have a3 : (i0 : Int) ≤ (n : Int) := by omega
      have a4 : (40 : Int) ≤ ((n - i0 : Nat) : Int) := by omega
      have a5 : i0 ≤ 4000000 := by omega
      have hcut : ∀ W', (Instr.slice 36 (.slice A n c) (some (.int .i64 (i0 : Int))) (some (.int .i64 ((i0 : Int) + 40))) (some (.int .i64 ((i0 : Int) + 40)))).run Try.prog W' = .ok (.slice (A.map (·.add i0)) 40 40) W' := fun W' => by
        have := chunkCut (A := A) (n := n) (c := c) (i := i0) (h := i0 + 40) (by omega) (by omega) W'
        rw [show i0 + 40 - i0 = 40 from by omega] at this
        exact this
      have HI := Lib.hid hi0
      have HN := Lib.hid hN
      have HL := Lib.hid hpl
      clear hi0 hN hpl
      gi_wp2
      refine wpIn_wide.2 ?_
      go_quiet (fail)
      have hR := hY _ ⟨k, hlt⟩ (wr.drewN nq) (hJd _ _ nq hJs) (by rw [HL.out]; exact hlt)
      simp only [← HI.out] at hR
      obtain ⟨fn, tmps, assign, body, hy, hR⟩ := hR
      have d1 : (wr.drewN nq).cell? ⟨Bs, 0, none⟩ = some (.slice A n c) := c1
      have d2 : (wr.drewN nq).cell? ⟨Bn, 0, none⟩ = some (.int .i64 40) := c2
      gi_wp2
      refine hR.mono ?_
      rintro e W3 (⟨rfl, hJ3, hk3⟩ | ⟨rfl, hJx3⟩)
      · have e1 := hk3 Bs _ (.inl rfl) d1
        have e2 := hk3 Bn _ (.inr rfl) d2
        gi_wp2
        go_roundw
        case rel => exact ⟨k + 1, i0 + 40, pre ++ [⟨k, hlt⟩], by omega, by rw [HI.out]; omega, by go_num, by rw [List.map_append, HP.out, List.range_succ]; rfl, hJ3, e1, e2⟩
        case measure => simp [intOf]; omega
      · gi_wp2
        refine bodyPost_ret (results_none rfl _ _ _) rfl ?_
        first | exact ⟨⟨_, rfl⟩, .inr ⟨_, trivial, hJx3⟩⟩ | exact ⟨⟨_, rfl⟩, .inr ⟨_, hJx3⟩⟩
    · obtain rfl : k = N := by omega
      have a1 : ¬ (i0 : Int) < (n : Int) := by omega
      gi_wp2
      go_end0
      exact ⟨⟨_, rfl⟩, .inl ⟨_, HP.out, hJs⟩⟩
set_option maxRecDepth 100000 in
theorem chunkB_stops (n0 : Nat) (hn0 : 1 ≤ n0) (Bs Bn : Nat) (A : Option Addr) (n c N : Nat) (hN : n = 40 * N) (hc : n ≤ c) (hbig : N ≤ 100000) (w : World) (b1 : Bs < w.heap.size) (b2 : Bn < w.heap.size)
    (h1 : w.cell? ⟨Bs, 0, none⟩ = some (.slice A n c)) (h2 : w.cell? ⟨Bn, 0, none⟩ = some (.int .i64 40)) :
    SeqStopsK Fence.wide n0 Try.prog 57 #[.pointer (some ⟨Bs, 0, none⟩), .pointer (some ⟨Bn, 0, none⟩)] (fun x : { k : Nat // k < N } => #[.slice (A.map (·.add (40 * x.1))) 40 40]) (KpB Bs Bn) (fun ys => ys.map (·.1) = List.range N) (fun _ => True) N w := fun l J Jx W hW hJ hJx hY h0 =>
  chunkB_in n0 hn0 l Bs Bn A n c N hN hc hbig J Jx (fun s W q hs => hJ s W _ none hs (grown_drewN (World.grownBy.refl W none) q) (fun r e => by cases e)) hY W ((hW.cell (p := ⟨Bs, 0, none⟩) b1).trans h1) ((hW.cell (p := ⟨Bn, 0, none⟩) b2).trans h2) h0
set_option maxRecDepth 100000 in
theorem chunkB_any (A : Option Addr) (n c : Nat) (w : World) : Calls Try.prog 55 #[.slice A n c, .int .i64 40] w fun e w' => e = .returned (.func (.func 57) #[] #[.pointer (some ⟨w.heap.size, 0, none⟩), .pointer (some ⟨w.heap.size + 1, 0, none⟩)]) ∧
    (w.alloc (.cells #[.slice A n c] 36)).alloc (.cells #[.int .i64 40] 3) = w' := by
  go_enter Try.func55, Try.ntmps55
  go_wp2
  go_ret
  exact ⟨rfl, rfl⟩
end
section
open Go.RowKit

set_option maxRecDepth 100000 in
theorem fold_off (off : Nat) : ∀ (l : List Value) (s : Nat) (z : Array Value), off + s + l.length ≤ z.size →
    ((l.zipIdx s).foldl (fun (cs : Array Value) (p : Value × Nat) => cs.setIfInBounds (off + p.2) p.1) z).toList = z.toList.take (off + s) ++ l ++ z.toList.drop (off + s + l.length)
  | [], s, z, h => by simp
  | c :: l, s, z, h => by
    simp only [List.length_cons] at h
    rw [List.zipIdx_cons, List.foldl_cons, fold_off off l (s + 1) _ (by simp; omega)]
    have hk : off + s < z.toList.length := by simp; omega
    simp only [Array.toList_setIfInBounds, List.length_cons]
    rw [show off + (s + 1) = off + s + 1 from by omega, List.take_succ_eq_append_getElem (by simpa using hk), List.getElem_set_self, List.take_set_of_le (Nat.le_refl _), List.drop_set_of_lt (by omega), show off + s + 1 + l.length = off + s + (l.length + 1) from by omega]
    simp
set_option maxRecDepth 100000 in
theorem built_pr (parts : List (Nat × Value)) : Try.prog.built 27 parts = Instr.fill (fun i => (#[(0, 20), (20, 20)] : Array (Nat × Nat))[i]?) zpr parts := by kernel_rfl
set_option maxRecDepth 100000 in
theorem fold_bv (off : Nat) (xs : List Int) (z : List Int) (h : off + xs.length ≤ z.length) : (((bv xs).toArray.zipIdx).foldl (fun (cs : Array Value) (p : Value × Nat) => cs.setIfInBounds (off + p.2) p.1) (bv z).toArray) = (bv (z.take off ++ xs ++ z.drop (off + xs.length))).toArray := by
  apply Array.ext'
  rw [← Array.foldl_toList]
  have e := fold_off off (bv xs) 0 (bv z).toArray (by simp [bv]; omega)
  simp only [Nat.add_zero] at e
  rw [show ((bv xs).toArray.zipIdx).toList = (bv xs).zipIdx 0 from by simp, e]
  simp [bv, List.map_take, List.map_drop]
set_option maxRecDepth 100000 in
theorem fill_two {a b : List Int} (ha : IsId a) (hb : IsId b) : Instr.fill (fun i => (#[(0, 20), (20, 20)] : Array (Nat × Nat))[i]?) zpr [(0, ida a), (1, ida b)] = some (bv (a ++ b)).toArray := by
  have la := ha.1
  have lb := hb.1
  have sa : (bv a).toArray.size = 20 := by rw [bvArr_size, la]
  have sb : (bv b).toArray.size = 20 := by rw [bvArr_size, lb]
  have sz : zpr.size = 40 := by simp [zpr, bv]
  have e1 := fold_bv 0 a (List.replicate 40 0) (by simp [la])
  have e1' : (((bv a).toArray.zipIdx).foldl (fun (cs : Array Value) (p : Value × Nat) => cs.setIfInBounds (0 + p.2) p.1) zpr) = (bv (a ++ List.replicate 20 0)).toArray := by
    rw [show zpr = (bv (List.replicate 40 0)).toArray from rfl, e1]
    simp [la]
  have e2 := fold_bv 20 b (a ++ List.replicate 20 0) (by simp [la, lb])
  have e2' : (((bv b).toArray.zipIdx).foldl (fun (cs : Array Value) (p : Value × Nat) => cs.setIfInBounds (20 + p.2) p.1) (bv (a ++ List.replicate 20 0)).toArray) = (bv (a ++ b)).toArray := by
    rw [e2, List.take_left' la, lb]
    rw [List.drop_eq_nil_of_le (by simp [la]), List.append_nil]
  have p0 : (#[(0, 20), (20, 20)] : Array (Nat × Nat))[0]? = some (0, 20) := rfl
  have p1 : (#[(0, 20), (20, 20)] : Array (Nat × Nat))[1]? = some (20, 20) := rfl
  have s2 : (bv (a ++ List.replicate 20 0)).toArray.size = 40 := by rw [bvArr_size]; simp [la]
  unfold Instr.fill
  simp only [p0, ida_cells, sa, sz, ne_eq, not_true_eq_false, decide_false, Bool.false_or]
  rw [if_neg (by decide), e1']
  unfold Instr.fill
  simp only [p1, ida_cells, sb, s2, ne_eq, not_true_eq_false, decide_false, Bool.false_or]
  rw [if_neg (by decide), e2']
  unfold Instr.fill
  rfl
/-- a pair of two ids, for a rule to answer. -/
noncomputable def bldPr (parts : Array (Nat × Value)) : Sem Value := Instr.build 27 parts
set_option maxRecDepth 100000 in
@[go_sem ↓ high] theorem build_pr (parts : Array (Nat × Value)) : Instr.build 27 parts = bldPr parts := rfl
set_option maxRecDepth 100000 in
@[go_sem] theorem run_bldPr (w : World) (a b : List Int) (ha : IsId a) (hb : IsId b) : (bldPr #[(0, .agg (bv a).toArray), (1, .agg (bv b).toArray)]).run Try.prog w = .ok (ida (a ++ b)) w :=
  run_build w _ _ _ (by rw [built_pr]; exact fill_two ha hb)
set_option maxRecDepth 100000 in
@[go_sem] theorem run_arrId (w : World) (a : Option Addr) (c : Nat) : (Instr.arrayAt 25 (.slice a 20 c)).run Try.prog w = .ok (.pointer a) w := by
  simp [Instr.arrayAt, run_underlying idTy]
end
end Go.Proofs.Ytokamaogognjoaa
