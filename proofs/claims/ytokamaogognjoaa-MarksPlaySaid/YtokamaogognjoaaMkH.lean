/-
  A tape's frames; read; Open.
-/
import Derived.Test.YtokamaogognjoaaMkG
import Derived.Test.YtokamaogognjoaaFrmP
import Derived.Test.YtokamaogognjoaaFrm2
set_option linter.unusedVariables false
set_option linter.unusedSimpArgs false
namespace Go.Proofs.Ytokamaogognjoaa
section
open Go.RowKit

/-- the frames of lists of pairs, one behind the other. -/
def frL (ls : List Prs) : List Int := (ls.map fun l => packL 1 l.flatten).flatten
set_option maxRecDepth 100000 in
theorem frL_append (a b : List Prs) : frL (a ++ b) = frL a ++ frL b := by simp [frL]
set_option maxRecDepth 100000 in
theorem frL_one (l : Prs) : frL [l] = packL 1 l.flatten := by simp [frL]
set_option maxRecDepth 100000 in
theorem frL_split (ls : List Prs) (j : Nat) : frL ls = frL (ls.take j) ++ frL (ls.drop j) := by rw [← frL_append, List.take_append_drop]
/-- a list that may be added as it is. -/
structure Good (L l : Prs) : Prop where
  all : AllPr l
  ne : l ≠ []
  nz : l.any zeroP = false
  new : NewSeq L l
def GoodL (ls : List Prs) : Prop := ∀ j, j < ls.length → Good (ls.take j).flatten (ls.getD j [])
set_option maxRecDepth 100000 in
theorem tw_new (m : Prs) : ∀ (o r : Prs), (∀ j, j < r.length → newP (m ++ (o ++ r.take j)) (gp r j) = true) → twL m o r = false ∧ outL m o r = o ++ r
  | o, [], _ => by simp [twL, outL]
  | o, p :: r, h => by
    have h0 := h 0 (by simp)
    simp only [List.take_zero, List.append_nil] at h0
    have h0 : newP (m ++ o) p = true := h0
    have hn : nextL m o p = o ++ [p] := by unfold nextL; rw [if_pos h0]
    have hr := tw_new m (o ++ [p]) r fun j hj => by
      have := h (j + 1) (by simpa using hj)
      rw [List.take_succ_cons] at this
      have e : o ++ p :: r.take j = (o ++ [p]) ++ r.take j := by simp
      rw [e] at this
      exact this
    unfold twL outL
    rw [hn, (Bij.new_tw h0).2, Bool.false_or]
    exact ⟨hr.1, by rw [hr.2]; simp⟩
set_option maxRecDepth 100000 in
theorem Good.fresh {L l : Prs} (h : Good L l) : freshR L l = (l, 0) := by
  have := tw_new L [] l fun j hj => by simpa using h.new j hj
  unfold freshR
  rw [if_neg (by rw [h.nz]; decide), this.1, if_neg (by decide), this.2]
  rfl
set_option maxRecDepth 100000 in
theorem GoodL.nil : GoodL [] := fun j h => absurd h (by simp)
set_option maxRecDepth 100000 in
theorem GoodL.snoc {ls : List Prs} {l : Prs} (h : GoodL ls) (hl : Good ls.flatten l) : GoodL (ls ++ [l]) := fun j hj => by
  rw [List.length_append, List.length_singleton] at hj
  rcases Nat.lt_or_ge j ls.length with h1 | h1
  · rw [List.take_append_of_le_length (by omega)]
    have : (ls ++ [l]).getD j [] = ls.getD j [] := by simp [List.getElem?_append, h1]
    rw [this]
    exact h j h1
  · obtain rfl : j = ls.length := by omega
    rw [List.take_left]
    have : (ls ++ [l]).getD ls.length [] = l := by simp
    rw [this]
    exact hl
set_option maxRecDepth 100000 in
theorem drop_getD {ls : List Prs} {j : Nat} (h : j < ls.length) : ls.drop j = ls.getD j [] :: ls.drop (j + 1) := by
  rw [List.drop_eq_getElem_cons h]
  simp [h]
set_option maxRecDepth 100000 in
theorem take_getD {ls : List Prs} {j : Nat} (h : j < ls.length) : ls.take (j + 1) = ls.take j ++ [ls.getD j []] := by
  rw [List.take_succ_eq_append_getElem h]
  simp [h]
set_option maxRecDepth 100000 in
theorem frL_drop (ls : List Prs) (tail : List Int) (j : Nat) : (frL ls ++ tail).drop (frL (ls.take j)).length = frL (ls.drop j) ++ tail := by
  rw [frL_split ls j, List.append_assoc, List.drop_left]
set_option maxRecDepth 100000 in
theorem part_len {ls : List Prs} {j : Nat} (h : j < ls.length) : (ls.getD j []).length ≤ ls.flatten.length := by
  have e : ls.flatten = (ls.take j).flatten ++ ((ls.getD j []) ++ (ls.drop (j + 1)).flatten) := by
    conv => lhs; rw [← List.take_append_drop j ls, drop_getD h]
    simp
  rw [e]
  simp
  omega
set_option maxRecDepth 100000 in
theorem take_len {ls : List Prs} (j : Nat) : (ls.take j).flatten.length ≤ ls.flatten.length := by
  have e : ls.flatten = (ls.take j).flatten ++ (ls.drop j).flatten := by rw [← List.flatten_append, List.take_append_drop]
  rw [e]
  simp
set_option maxRecDepth 100000 in
theorem take_next {ls : List Prs} {j : Nat} (h : j < ls.length) : (ls.take (j + 1)).flatten = (ls.take j).flatten ++ ls.getD j [] := by
  rw [take_getD h, List.flatten_append]
  simp
set_option maxRecDepth 100000 in
/-- what stands at the place of the j-th frame. -/
theorem takeR_at {ls : List Prs} {tail : List Int} {j : Nat} (hg : GoodL ls) (hj : j < ls.length) (hl : ls.flatten.length ≤ 3000) :
    takeR ((frL ls ++ tail).drop (frL (ls.take j)).length) = ⟨1, (ls.getD j []).flatten, 14 + (ls.getD j []).flatten.length, 0⟩ ∧ (frL (ls.take (j + 1))).length = (frL (ls.take j)).length + (14 + (ls.getD j []).flatten.length) := by
  have h1 := flatP_len (hg j hj).all
  have h2 := part_len hj
  refine ⟨?_, ?_⟩
  · rw [frL_drop, drop_getD hj]
    have e : frL (ls.getD j [] :: ls.drop (j + 1)) ++ tail = packL 1 (ls.getD j []).flatten ++ (frL (ls.drop (j + 1)) ++ tail) := by simp [frL]
    rw [e]
    exact takeR_pack 1 _ _ (by omega) (by omega) (by omega)
  · rw [take_getD hj, frL_append, frL_one, List.length_append, packL_length]
set_option maxRecDepth 100000 in
theorem takeR_end (ls : List Prs) (tail : List Int) : (frL ls ++ tail).drop (frL (ls.take ls.length)).length = tail := by
  rw [frL_drop, List.drop_length]
  simp [frL]
def ReadPost (a : Nat) (P : Nat → Prop) (g gt f : Nat) (L : Prs) (w : World) (e : Ending) (w' : World) : Prop := e = .returned (.int .i64 (a : Nat)) ∧ TbAt w' (fun k => P k ∨ w.heap.size ≤ k) g gt f L ∧ Chg P w w'
end
section
open Go.RowKit

set_option maxRecDepth 100000 in
set_option maxHeartbeats 4000000 in
theorem read_any (P : Nat → Prop) (g gt f : Nat) (B : Option Addr) (n c : Nat) (ls : List Prs) (tail : List Int) (w : World) (h : TbAt w P g gt f []) (hB : RB w B n (frL ls ++ tail)) (hnc : n ≤ c) (hn : n ≤ 1000000000)
    (hls : GoodL ls) (hl3 : ls.flatten.length ≤ 3000) (htail : (takeR tail).err ≠ 0) (hap : ∀ ad, B = some ad → ¬ P ad.block) :
    Calls Try.prog 27 #[.pointer (some ⟨g, 0, none⟩), .slice B n c] w (ReadPost (frL ls).length P g gt f ls.flatten w) := by
  have hbl : ∀ W, Chg P w W → RB W B n (frL ls ++ tail) := fun W hW => hW.rb hB hap
  have hlen := hB.len
  have hln : (frL ls).length ≤ n := by rw [← hlen]; simp
  go_enter Try.func27, Try.ntmps27
  go_wp2
  go_loopw [5] (fun i wr => ∃ (j a : Nat), j ≤ ls.length ∧ a = (frL (ls.take j)).length ∧ i = .int .i64 (a : Nat) ∧ TbAt wr (fun k => P k ∨ w.heap.size ≤ k) g gt f (ls.take j).flatten ∧ Chg P w wr) (fun i _ => n + 1 - (intOf i).toNat)
  case atStart => exact ⟨0, 0, by omega, by simp [frL], rfl, by simpa using h.mono fun k hk => .inl hk, Chg.refl _ _⟩
  case round =>
    obtain ⟨j, a, hj, ha, rfl, ht, hc⟩ := hrel
    have hRB := hbl wr hc
    have han : a ≤ n := by
      have e := congrArg List.length (frL_split ls j)
      rw [List.length_append] at e
      omega
    have hcut := hRB.cut (c := c) han hnc
    by_cases h1 : j < ls.length
    · obtain ⟨hT, hN⟩ := takeR_at (tail := tail) hls h1 hl3
      rw [← ha] at hT hN
      have hG := hls j h1
      have hfr := hG.fresh
      have hpl := part_len h1
      have htl := take_len (ls := ls) j
      have htn := take_next h1
      have hfl := flatP_len hG.all
      have hsum : (ls.take j).flatten.length + (ls.getD j []).length ≤ 3000 := by have := take_len (ls := ls) (j + 1); rw [htn, List.length_append] at this; omega
      have hne : 0 < (ls.getD j []).length := List.length_pos_iff.2 hG.ne
      have HTK := Lib.hid (show Calls Try.prog 48 #[.slice (cutA B c a) (n - a) (c - a)] wr (TakePost ⟨1, (ls.getD j []).flatten, 14 + (ls.getD j []).flatten.length, 0⟩ wr) from by have := take_any (cutA B c a) (n - a) (c - a) _ wr hcut (by omega) (by omega); rwa [hT] at this)
      have hN2 : (frL (ls.take (j + 1))).length ≤ n := by
        have e := congrArg List.length (frL_split ls (j + 1))
        rw [List.length_append] at e
        omega
      have hall := hG.all
      have hnew := hG.new
      have HN := Lib.hid hN
      have HTN := Lib.hid htn
      clear hT hN htn hG hcut ha
      generalize ls.getD j [] = l at *
      generalize (ls.take j).flatten = L at *
      unfold TakePost at HTK
      simp only at HTK
      have a1 : (0 : Int) ≤ (a : Int) := by omega
      have a2 : (a : Int) ≤ (n : Int) := by omega
      have HPR := Lib.hid (show ∀ (W : World) (A : Option Addr) (d : Nat), RB W A l.flatten.length l.flatten → l.flatten.length ≤ d → Calls Try.prog 49 #[.slice A l.flatten.length d] W (PairsPost l W) from fun W A d hA hd => pairs_any A _ d l W hA hd hall (by omega))
      have HFR := Lib.hid (show ∀ (W : World) (A : Option Addr) (d : Nat), Below wr.heap.size wr W → RPrs W A l.length l → Calls Try.prog 30 #[.pointer (some ⟨g, 0, none⟩), .slice A l.length d] W (FreshPost (l, 0) W) from fun W A d hW hA => by have := tfresh_any _ g gt f L A _ d l W (ht.below hW) hA (by omega); rwa [hfr] at this)
      unfold PairsPost at HPR
      unfold FreshPost at HFR
      have hdl : decide (0 < l.length) = true := decide_eq_true hne
      rw [hdl] at HPR
      simp only at HFR
      have hfl' : l.flatten.length ≤ 1000000 := by omega
      clear hdl hfr hfl
      generalize l.flatten = xb at *
      go_wp2_with (first
        | (go_at_call 48; (with_reducible refine HTK.out.mono ?_); rintro e w1 ⟨A1, c1, rfl, ho1, hc1, hb1⟩)
        | (go_at_call 49; (with_reducible refine (HPR.out _ _ _ ho1.reads hc1).mono ?_); rintro e w2 ⟨A2, c2, rfl, ho2, hc2, hb2⟩; have b2 := below_two hb1 hb2)
        | (go_at_call 30; (with_reducible refine (HFR.out _ _ _ b2 ho2.reads).mono ?_); rintro e w3 ⟨A3, c3, rfl, ho3, hc3, hb3⟩; have b3 := below_two b2 hb3; have t3 := ht.below b3; have z2 := b2.size; have zc := hc.size; have hap3 : ∀ ad, A3 = some ad → ¬ ((fun k => P k ∨ w.heap.size ≤ k) ad.block ∧ ad.block < wr.heap.size) := (fun ad e h => by have := (ho3.own ad.block (by rw [e]; rfl)).1; omega); have tb3 : TbAt w3 (fun k => (P k ∨ w.heap.size ≤ k) ∧ k < wr.heap.size) g gt f L := ht.bounded.below b3)
        | (go_at_call 34; (with_reducible refine (have_any _ g gt f L A3 l.length c3 l _ tb3 ho3.reads (by omega) (by omega) hnew hap3).mono ?_); rintro e w4 ⟨rfl, v1, v2⟩))
      go_roundw
      case rel =>
        refine ⟨j + 1, a + (14 + xb.length), by omega, HN.out.symm, by go_num, ?_, ?_⟩
        · rw [HTN.out]
          exact v1.mono fun k hk => by
            have := b3.size
            rcases hk with hk | hk
            · exact hk.1
            · exact .inr (by omega)
        · exact (hc.then (Chg.below (P := fun k => P k ∨ w.heap.size ≤ k) b3) (fun i h => h)).then v2 (fun i h => h.1)
      case measure => simp [intOf]; omega
    · obtain rfl : j = ls.length := by omega
      have hT : ((frL ls ++ tail).drop a) = tail := by rw [ha]; exact takeR_end ls tail
      rw [hT] at hcut
      obtain ⟨z1, z2, z3⟩ := takeR_err_zero htail
      have HTK := Lib.hid (show Calls Try.prog 48 #[.slice (cutA B c a) (n - a) (c - a)] wr (TakePost ⟨0, [], 0, (takeR tail).err⟩ wr) from by
        have := take_any (cutA B c a) (n - a) (c - a) _ wr hcut (by omega) (by omega)
        have e : takeR tail = ⟨0, [], 0, (takeR tail).err⟩ := by
          cases hq : takeR tail with
          | mk k b l e =>
            rw [hq] at z1 z2 z3
            simp only at z1 z2 z3
            subst z1 z2 z3
            rfl
        rwa [e] at this)
      have HPR := Lib.hid (show ∀ (W : World) (A : Option Addr) (d : Nat), RB W A 0 [] → Calls Try.prog 49 #[.slice A 0 d] W (PairsPost [] W) from fun W A d hA => pairs_any A 0 d [] W hA (Nat.zero_le _) AllPr.nil (Nat.zero_le _))
      unfold PairsPost at HPR
      unfold TakePost at HTK
      simp only [List.length_nil, Nat.lt_irrefl, decide_false] at HPR HTK
      have a1 : (0 : Int) ≤ (a : Int) := by omega
      have a2 : (a : Int) ≤ (n : Int) := by omega
      have hEr : ((takeR tail).err != 0) = true := by simpa using htail
      have HA := Lib.hid ha
      clear hcut hT z1 z2 z3 htail ha
      generalize (takeR tail).err = er at *
      go_wp2_with (first
        | (go_at_call 48; (with_reducible refine HTK.out.mono ?_); rintro e w1 ⟨A1, c1, rfl, ho1, hc1, hb1⟩)
        | (go_at_call 49; (with_reducible refine (HPR.out _ _ _ ho1.reads).mono ?_); rintro e w2 ⟨A2, c2, rfl, ho2, hc2, hb2⟩; have b2 := below_two hb1 hb2))
      go_ret
      rw [List.take_length] at HA ht
      rw [HA.out]
      exact ⟨rfl, ht.below b2, hc.then (Chg.below (P := P) b2) (fun i h => .inl h)⟩
end
section
open Go.RowKit

/-- the tape behind Open. -/
def Tp.opened (s : Tp) (x : List Int) : Tp := { s with b := x, held := x.length, fuse := 0 }
set_option maxRecDepth 100000 in
theorem cut_open {s : Tp} {x tail : List Int} (hd : s.down = false) (hf : s.fuse = 0) (hb : s.b = x ++ tail) : s.cut (x.length : Nat) = (0, s.opened x) := by
  unfold Tp.cut Tp.deed
  rw [if_neg (by rw [hd]; decide), if_neg (by rw [hb]; simp; omega), hf, if_neg (by decide)]
  unfold Tp.burn Tp.cutTo Tp.opened
  simp [hf, hb]
  decide
def OpenPost (Q : Nat → Prop) (gt : Nat) (L : Prs) (s s' : Tp) (w : World) (e : Ending) (w' : World) : Prop := ∃ g, e = .returned (.tuple #[.pointer (some ⟨g, 0, none⟩), .int .i64 0]) ∧ w.heap.size ≤ g ∧ Tm w' (fun k => k = gt ∨ Q k ∨ w.heap.size ≤ k) g gt s.falls L s' ∧ Chg (fun k => k = gt) w w'
/-- the table just made. -/
abbrev opW (gt f : Nat) (w : World) : World := ((w.alloc (.map #[] 0)).alloc (.map #[] 0)).alloc (.cells #[.pointer (some ⟨gt, 0, none⟩), .int .i64 (f : Nat), .slice none 0 0, .map (some w.heap.size), .map (some (w.heap.size + 1))] 64)
set_option maxRecDepth 100000 in
theorem opW_below (gt f : Nat) (w : World) : Below w.heap.size w (opW gt f w) := (((Below.refl _ _).alloc (Nat.le_refl _) _).alloc (by simp) _).alloc (by simp; omega) _
set_option maxRecDepth 100000 in
theorem opW_tb (gt f : Nat) (w : World) : TbAt (opW gt f w) (fun k => w.heap.size ≤ k) (w.heap.size + 1 + 1) gt f [] := by
  have hM1 : IMap (opW gt f w) w.heap.size (kvG []) := ((IMap.made w).alloc _).alloc _
  have hM2 : IMap (opW gt f w) (w.heap.size + 1) (kvN []) := by have := IMap.made (w.alloc (.map #[] 0)); rw [World.size_alloc] at this; exact this.alloc _
  have hB : Blk (opW gt f w) (w.heap.size + 1 + 1) 64 #[.pointer (some ⟨gt, 0, none⟩), .int .i64 (f : Nat), .slice none 0 0, .map (some w.heap.size), .map (some (w.heap.size + 1))] := by
    have := Blk.new ((w.alloc (.map #[] 0)).alloc (.map #[] 0)) 64 #[.pointer (some ⟨gt, 0, none⟩), .int .i64 (f : Nat), .slice none 0 0, .map (some w.heap.size), .map (some (w.heap.size + 1))]
    simp only [World.size_alloc] at this
    exact this
  exact ⟨none, 0, 0, w.heap.size, w.heap.size + 1, hB, hM1, hM2, OPrs.nil _ _, Bij.nil, by omega, Nat.le_refl _, by omega, fun k e => by simp [Value.ownBlock] at e, by omega⟩
set_option maxRecDepth 100000 in
set_option maxHeartbeats 4000000 in
theorem open_any (gt : Nat) (s : Tp) (Q : Nat → Prop) (ls : List Prs) (tail : List Int) (w : World) (ht : TpAt w Q gt s) (hok : s.Ok 300000000) (hd : s.down = false) (hf : s.fuse = 0) (hb : s.b = frL ls ++ tail)
    (hls : GoodL ls) (hl3 : ls.flatten.length ≤ 3000) (htail : (takeR tail).err ≠ 0) :
    Calls Try.prog 8 #[.pointer (some ⟨gt, 0, none⟩)] w (OpenPost Q gt ls.flatten s (s.opened (frL ls)) w) := by
  have hmm := @run_makeMap Try.prog
  have hDn := tpDown_any gt s Q w ht
  rw [hd] at hDn
  have HD := Lib.hid hDn
  have HF := Lib.hid (tpFalls_any gt s Q w ht)
  have hb0 := opW_below gt s.falls w
  have tb0 := (opW_tb gt s.falls w).bounded
  have ht0 := ht.bounded.below hb0
  have hgt := ht.lt
  have hlen : s.b.length ≤ 1000000000 := Nat.le_trans hok.len (by omega)
  have HB := Lib.hid (show Calls Try.prog 11 #[.pointer (some ⟨gt, 0, none⟩)] (opW gt s.falls w) (NewB s.b.length s.b (opW gt s.falls w)) from tpBytes_any gt s _ _ ht0 hlen)
  have hcut := cut_open hd hf hb
  have HR := Lib.hid (show ∀ (W : World) (A : Option Addr) (c : Nat), Below (opW gt s.falls w).heap.size (opW gt s.falls w) W → OB W (opW gt s.falls w).heap.size (.slice A s.b.length c) s.b.length s.b → s.b.length ≤ c → Calls Try.prog 27 #[.pointer (some ⟨w.heap.size + 1 + 1, 0, none⟩), .slice A s.b.length c] W (ReadPost (frL ls).length (fun k => w.heap.size ≤ k ∧ k < (opW gt s.falls w).heap.size) (w.heap.size + 1 + 1) gt s.falls ls.flatten W) from fun W A c hW hA hc => by
    have hr := hA.reads
    rw [hb] at hr hA hc hlen ⊢
    exact read_any _ _ gt s.falls A _ c ls tail W (tb0.below hW) hr hc hlen hls hl3 htail (fun ad e h => by have := (hA.own ad.block (by rw [e]; rfl)).1; omega))
  have HC := Lib.hid (show ∀ (W W3 : World), Below (opW gt s.falls w).heap.size (opW gt s.falls w) W → TbAt W3 (fun k => (w.heap.size ≤ k ∧ k < (opW gt s.falls w).heap.size) ∨ W.heap.size ≤ k) (w.heap.size + 1 + 1) gt s.falls ls.flatten → Chg (fun k => w.heap.size ≤ k ∧ k < (opW gt s.falls w).heap.size) W W3 → Calls Try.prog 26 #[.pointer (some ⟨gt, 0, none⟩), .int .i64 ((frL ls).length : Nat)] W3 (fun e w' => e = .returned (.int .i64 0) ∧ Tm w' (fun k => (k = gt ∨ Q k ∨ w.heap.size ≤ k) ∨ W3.heap.size ≤ k) (w.heap.size + 1 + 1) gt s.falls ls.flatten (s.opened (frL ls)) ∧ Chg (fun k => k = gt) W3 w') from fun W W3 hW h1 hc => by
    have hz0 := hb0.size
    have hzW := hW.size
    have t2 : TpAt W3 (fun k => Q k ∧ k < w.heap.size) gt s := (ht0.below hW).chg hc (by omega) (fun k h => by omega)
    have hcall := tpCut_any gt s _ ((frL ls).length : Nat) W3 t2 (hok.mono (by omega))
    rw [hcut] at hcall
    refine hcall.mono fun e w' hp => ?_
    obtain ⟨he, p1, p2⟩ := hp
    have := Tm.tape' (R := fun k => k = gt ∨ Q k ∨ w.heap.size ≤ k) h1.bounded t2 (fun k hk => ⟨by rcases hk.1 with h | h; exact .inr (.inr h.1); exact .inr (.inr (by omega)), hk.2, fun h => by rcases hk.1 with h' | h' <;> omega, fun e => by rcases hk.1 with h' | h' <;> omega⟩) (fun k hk => ⟨.inr (.inl hk.1), by have := hc.size; omega⟩) (.inl rfl) ⟨he, p1, p2⟩
    exact ⟨this.1, this.2.1, Chg.grown p2 fun k e => by injection e with e; exact e.symm⟩)
  clear hDn hcut hd hf hb htail
  unfold NewB at HB
  unfold ReadPost at HR
  generalize hF : s.falls = f at *
  have HFF := Lib.hid hF
  clear hF
  go_enter Try.func8, Try.ntmps8
  go_wp2_with (first
    | (go_at_call 18; (with_reducible refine HD.out.mono ?_); rintro e w1 ⟨rfl, rfl⟩)
    | (go_at_call 25; (with_reducible refine HF.out.mono ?_); rintro e w1 ⟨rfl, rfl⟩)
    | (go_at_call 11; (with_reducible refine HB.out.mono ?_); rintro e w2 ⟨A2, c2, rfl, ho2, hc2, hb2⟩)
    | (go_at_call 27; (with_reducible refine (HR.out _ _ _ hb2 ho2 hc2).mono ?_); rintro e w3 ⟨rfl, t3, k3⟩)
    | (go_at_call 26; (with_reducible refine (HC.out _ _ hb2 t3 k3).mono ?_); rintro e w4 ⟨rfl, t4, k4⟩))
  go_ret2
  have hz0 := hb0.size
  have hz2 := hb2.size
  have hz3 := k3.size
  refine ⟨_, rfl, by omega, ?_, ?_⟩
  · rw [HFF.out]
    exact t4.mono fun k _ hk => by
      rcases hk with hk | hk
      · exact hk
      · exact .inr (.inr (by omega))
  · exact ((Chg.below (P := fun k => k = gt) (below_two hb0 hb2)).then k3 (fun i h => .inr h.1)).then k4 (fun i h => .inl h)
end
end Go.Proofs.Ytokamaogognjoaa
