/-
  trestleref14.Apply; edits out of data.
-/
import Derived.Test.YtflmaendnbokaaaDltF
import Derived.Deep.Strs
import Derived.SizedLaws
set_option linter.unusedVariables false
set_option linter.unusedSimpArgs false
namespace Go.Proofs.Ytflmaendnbokaaa
open Go.RowKit

set_option maxRecDepth 100000 in
set_option maxHeartbeats 4000000 in
theorem refApply_no (A : Option Addr) (n c : Nat) (a : List Int) (S : Nat → Prop) (B : Option Addr) (k d : Nat) (l : List Ed) (w : World) (hn : n ≤ 100000) (h : REs w S B k l) (hk : k ≤ 1000) (hm : ¬ MayL n l) :
    Calls Try.prog 19 #[.slice A n c, .slice B k d] w (EdPost ([], 11) w) := by
  have hlen := h.1
  have HM := Lib.hid hm
  clear hm
  go_enter Try.func19, Try.ntmps19
  go_wp2
  go_loopw [6, 7] (fun t i wr => ∃ j : Nat, j ≤ k ∧ i = .int .i64 j ∧ t = .int .i64 (atL l j) ∧ (∀ q, q < j → okE n l q) ∧ ∃ q, w.drewN q = wr) (fun _ i _ => k - (intOf i).toNat)
  case atStart => exact ⟨0, by omega, rfl, rfl, fun q hq => absurd hq (by omega), 0, rfl⟩
  case round =>
    obtain ⟨j, hj, rfl, rfl, hall, q, rfl⟩ := hrel
    by_cases h1 : j < k
    · obtain ⟨b, off, B', c', rfl, _, c0, c1, c2, _⟩ := h.at_ (ed_some (l := l) (i := j) (by omega))
      have hs : atL l (j + 1) = (ed l j).t := rfl
      have j0 : (0 : Int) ≤ (j : Int) := by omega
      have j1 : (j : Int) < (k : Int) := by omega
      clear c2
      by_cases ho : okE n l j
      · have hall2 : ∀ q, q < j + 1 → okE n l q := fun q hq => by
          by_cases e : q = j
          · subst e; exact ho
          · exact hall q (by omega)
        unfold okE at ho
        obtain ⟨o1, o2, o3⟩ := ho
        have HS := Lib.hid hs
        have HA := Lib.hid hall2
        clear hs hall hall2
        generalize ed l j = x at *
        generalize atL l j = a0 at *
        have p1 : decide (x.f < a0) = false := decide_eq_false (by omega)
        have p2 : decide (x.t < x.f) = false := decide_eq_false (by omega)
        have p3 : decide ((n : Int) < x.t) = false := decide_eq_false (by omega)
        go_wp2
        go_quiet (fail)
        go_wp2
        go_roundw
        case rel => exact ⟨j + 1, by omega, by go_num, by rw [HS.out], HA.out, q + nq, by simp⟩
        case measure => simp [intOf]; omega
      · unfold okE at ho
        clear hs hall
        generalize ed l j = x at *
        generalize atL l j = a0 at *
        by_cases q1 : x.f < a0
        · have p1 : decide (x.f < a0) = true := decide_eq_true q1
          clear ho
          go_wp2
          go_quiet (fail)
          go_wp2
          go_ret2
          exact EdPost.bad (below_drewN (drewN_below w q) nq)
        · have p1 : decide (x.f < a0) = false := decide_eq_false q1
          by_cases q2 : x.t < x.f
          · have p2 : decide (x.t < x.f) = true := decide_eq_true q2
            clear ho
            go_wp2
            go_quiet (fail)
            go_wp2
            go_ret2
            exact EdPost.bad (below_drewN (drewN_below w q) nq)
          · have q3 : (n : Int) < x.t := by omega
            have p2 : decide (x.t < x.f) = false := decide_eq_false q2
            have p3 : decide ((n : Int) < x.t) = true := decide_eq_true q3
            clear ho
            go_wp2
            go_quiet (fail)
            go_wp2
            go_ret2
            exact EdPost.bad (below_drewN (drewN_below w q) nq)
    · exact absurd (fun q hq => hall q (by omega)) HM.out
set_option maxRecDepth 100000 in
set_option maxHeartbeats 4000000 in
theorem refApply_yes (A : Option Addr) (n c : Nat) (a : List Int) (S : Nat → Prop) (B : Option Addr) (k d : Nat) (l : List Ed) (w : World) (hA : RB w A n a) (hnc : n ≤ c) (hn : n ≤ 100000) (h : REs w S B k l) (hk : k ≤ 1000) (hM : ∀ i, i < k → (ed l i).b.length ≤ 100000) (hm : MayL n l) :
    Calls Try.prog 19 #[.slice A n c, .slice B k d] w (EdPost (if 65536 < (apL a l).length then ([], 5) else (apL a l, 0)) w) := by
  have hlen := h.1
  have hla := hA.len
  have hal := apL_length hla hm
  have hnr := fun j (hj : j ≤ k) => nTo_range (M := 100000) (n := n) (l := l) (fun i hi => hM i (by omega)) j (by omega) (fun i hi => hm i (by omega))
  have hn1 := fun jj (hjj : jj ≤ k) => apTo_length hla jj (fun i hi => hm i (by omega))
  generalize hP : EdPost (if 65536 < (apL a l).length then ([], 5) else (apL a l, 0)) w = P
  have HP := Lib.hid hP
  clear hP
  have HNR := Lib.hid hnr
  have HN1 := Lib.hid hn1
  have HM := Lib.hid hm
  have HMM := Lib.hid hM
  clear hnr hm hM hal hn1
  go_enter Try.func19, Try.ntmps19
  go_wp2
  go_loopw [6, 7] (fun t i wr => ∃ j : Nat, j ≤ k ∧ i = .int .i64 j ∧ t = .int .i64 (atL l j) ∧ ∃ q, w.drewN q = wr) (fun _ i _ => k - (intOf i).toNat)
  case atStart => exact ⟨0, by omega, rfl, rfl, 0, rfl⟩
  case round =>
    obtain ⟨j, hj, rfl, rfl, q, rfl⟩ := hrel
    by_cases h1 : j < k
    · obtain ⟨b, off, B', c', rfl, _, c0, c1, c2, _⟩ := h.at_ (ed_some (l := l) (i := j) (by omega))
      have hs : atL l (j + 1) = (ed l j).t := rfl
      have j0 : (0 : Int) ≤ (j : Int) := by omega
      have j1 : (j : Int) < (k : Int) := by omega
      have ho := HM.out j (by omega)
      clear c2
      unfold okE at ho
      obtain ⟨o1, o2, o3⟩ := ho
      have HS := Lib.hid hs
      clear hs
      generalize ed l j = x at *
      generalize atL l j = a0 at *
      have p1 : decide (x.f < a0) = false := decide_eq_false (by omega)
      have p2 : decide (x.t < x.f) = false := decide_eq_false (by omega)
      have p3 : decide ((n : Int) < x.t) = false := decide_eq_false (by omega)
      go_wp2
      go_quiet (fail)
      go_wp2
      go_roundw
      case rel => exact ⟨j + 1, by omega, by go_num, by rw [HS.out], q + nq, by simp⟩
      case measure => simp [intOf]; omega
    · obtain rfl : j = k := by omega
      have hB0 := drewN_below w q
      go_wp2
      go_loopw [8, 9, 10] (fun o q i wr => ∃ jj p m : Nat, jj ≤ j ∧ i = .int .i64 jj ∧ q = .int .i64 p ∧ (p : Int) = atL l jj ∧ OB wr w.heap.size o m (apTo a l jj) ∧ Below w.heap.size w wr) (fun _ _ i _ => j - (intOf i).toNat)
      case atStart => exact ⟨0, 0, 0, by omega, rfl, rfl, rfl, OB.nil _ _, hB0⟩
      case round =>
        obtain ⟨jj, p, m, hjj, rfl, rfl, hp, ho, hB2⟩ := hrel
        have hom := ho.len
        have hra := hA.below hB2
        by_cases h1 : jj < j
        · obtain ⟨b, off, B', c', rfl, _, c0w, c1w, c2w, c3, c4, _⟩ := h.at_ (ed_some (l := l) (i := jj) (by omega))
          have hok := HM.out jj (by omega)
          have hr2 := HNR.out (jj + 1) (by omega)
          have hr3 := HN1.out (jj + 1) (by omega)
          have hr4 := atL_range (n := n) (l := l) (k := jj + 1) (fun i hi => HM.out i (by omega))
          unfold okE at hok
          obtain ⟨o1, o2, o3⟩ := hok
          obtain ⟨f, hf⟩ := Int.eq_ofNat_of_zero_le (show 0 ≤ (ed l jj).f by omega)
          obtain ⟨t, ht⟩ := Int.eq_ofNat_of_zero_le (show 0 ≤ (ed l jj).t by omega)
          have hsx : apTo a l (jj + 1) = (apTo a l jj ++ (a.take f).drop p) ++ (ed l jj).b := by
            show apTo a l jj ++ ((a.take (ed l jj).f.toNat).drop (atL l jj).toNat ++ (ed l jj).b) = _
            rw [hf, ← hp, List.append_assoc]
            rfl
          have hat : atL l (jj + 1) = (t : Int) := ht
          have hml : ((a.take f).drop p).length = f - p := by rw [List.length_drop, List.length_take]; omega
          rw [hsx, List.length_append, List.length_append, hml, hom] at hr3
          rw [hf] at c0w
          rw [ht] at c1w
          have hmid : RB wr (cutA A c p) (f - p) ((a.take f).drop p) := hra.mid (by omega) (by omega) hnc
          have HSX := Lib.hid hsx
          have HAT := Lib.hid hat
          have hbl := HMM.out jj h1
          have hlm : m + (f - p + (ed l jj).b.length) ≤ 1000000000 := by omega
          have hfp : p ≤ f := by omega
          have hfn : f ≤ n := by omega
          have hfc : f ≤ c := by omega
          have hz1 : (0 : Int) ≤ (p : Int) := by omega
          have hz2 : (p : Int) ≤ (f : Int) := by omega
          have hz3 : (f : Int) ≤ (c : Int) := by omega
          clear hsx hat hr2 hr3 hr4 o1 o2 o3 hf ht hml hp hom
          generalize (ed l jj).b = y at *
          generalize (a.take f).drop p = zs at *
          generalize apTo a l jj = xs at *
          have c0 := cell_later hB2 c0w
          have c1 := cell_later hB2 c1w
          have c2 := cell_later hB2 c2w
          have hsz := hB2.size
          go_wp2_with (first
            | (at_builtin; refine wpList_app rfl (.tmp 58) (.tmp 66) rfl w.heap.size _ _ _ rfl ho (cutA A c p) (f - p) (c - p) zs rfl hmid (by omega) hsz ?_; intro v2 w2 ho2 hg2 hat2; have hb2 := hB2.grown hg2 hsz (fun k hk => (ho.own k hk).1); have c1 := cell_later hb2 c1w; have c2 := cell_later hb2 c2w)
            | (at_builtin; refine wpList_app rfl (.tmp 68) (.tmp 73) rfl w.heap.size _ _ _ rfl ho2 B' y.length c' y rfl (c4.below hb2) (by omega) hb2.size ?_; intro v3 w3 ho3 hg3 hat3; have hb3 := hb2.grown hg3 hb2.size (fun k hk => (ho2.own k hk).1); have c1 := cell_later hb3 c1w))
          go_roundw
          case rel => exact ⟨jj + 1, t, _, by omega, by go_num, rfl, by rw [HAT.out], by rw [HSX.out]; exact ho3, hb3⟩
          case measure => simp [intOf]; omega
        · obtain rfl : jj = j := by omega
          have hr3 := HN1.out jj (by omega)
          have hr4 := atL_range (n := n) (l := l) (k := jj) (fun i hi => HM.out i (by omega))
          have hr2 := HNR.out jj (by omega)
          rw [hom] at hr3
          have hsx : apL a l = apTo a l jj ++ a.drop p := by
            unfold apL
            rw [hlen, ← hp]
            rfl
          have hpn : p ≤ n := by omega
          have hmn : m + (n - p) ≤ 1000000000 := by omega
          have hcut : RB wr (cutA A c p) (n - p) (a.drop p) := hra.cut hpn hnc
          have hln : (apL a l).length = m + (n - p) := by rw [hsx, List.length_append, List.length_drop]; omega
          have HSX := Lib.hid hsx
          have HLN := Lib.hid hln
          have hPP := HP.out
          clear hr2 hr3 hr4 HN1 HNR HMM HM hp hsx hln hom
          generalize apTo a l jj = xs at *
          have hsz := hB2.size
          by_cases hbig : 65536 < (apL a l).length
          · rw [if_pos hbig] at hPP
            subst hPP
            have i1 : (65536 : Int) < ((m + (n - p) : Nat) : Int) := by have := HLN.out; omega
            clear hbig
            go_wp2_with (at_builtin; refine wpList_app rfl (.tmp 80) (.tmp 83) rfl w.heap.size _ _ _ rfl ho (cutA A c p) (n - p) (c - p) (a.drop p) rfl hcut (by omega) hsz ?_; intro v2 w2 ho2 hg2 hat2; obtain ⟨A2, c2, rfl, hc2⟩ := ho2.slice)
            go_ret2
            exact EdPost.bad (hB2.grown hg2 hsz (fun k hk => (ho.own k hk).1))
          · rw [if_neg hbig] at hPP
            subst hPP
            have i1 : ¬ ((65536 : Int) < ((m + (n - p) : Nat) : Int)) := by have := HLN.out; omega
            clear hbig
            go_wp2_with (at_builtin; refine wpList_app rfl (.tmp 80) (.tmp 83) rfl w.heap.size _ _ _ rfl ho (cutA A c p) (n - p) (c - p) (a.drop p) rfl hcut (by omega) hsz ?_; intro v2 w2 ho2 hg2 hat2; obtain ⟨A2, c2, rfl, hc2⟩ := ho2.slice)
            go_ret2
            rw [HSX.out]
            exact EdPost.good ho2 (hB2.grown hg2 hsz (fun k hk => (ho.own k hk).1))
theorem refApply_any (A : Option Addr) (n c : Nat) (a : List Int) (S : Nat → Prop) (B : Option Addr) (k d : Nat) (l : List Ed) (w : World) (hA : RB w A n a) (hnc : n ≤ c) (hn : n ≤ 100000) (h : REs w S B k l) (hk : k ≤ 1000) (hM : ∀ i, i < k → (ed l i).b.length ≤ 100000) :
    Calls Try.prog 19 #[.slice A n c, .slice B k d] w (EdPost (applyR a l) w) := by
  unfold applyR
  rw [hA.len]
  by_cases hm : MayL n l
  · rw [if_pos hm]
    exact refApply_yes A n c a S B k d l w hA hnc hn h hk hM hm
  · rw [if_neg hm]
    exact refApply_no A n c a S B k d l w hn h hk hm
end Go.Proofs.Ytflmaendnbokaaa
