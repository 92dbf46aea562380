/-
  delta.Apply.
-/
import Derived.Test.YtgokompppadogaaDlt2
import Derived.Test.YtgokompppadogaaConcat
set_option linter.unusedVariables false
set_option linter.unusedSimpArgs false
namespace Go.Proofs.Ytgokompppadogaa
open Go.RowKit

def EdPost (r : List Int × Int) (w : World) (e : Ending) (w' : World) : Prop := ∃ A c, e = .returned (.tuple #[.slice A r.1.length c, .int .i64 r.2]) ∧ OB w' w.heap.size (.slice A r.1.length c) r.1.length r.1 ∧ r.1.length ≤ c ∧ Below w.heap.size w w'
theorem EdPost.bad {w w' : World} {x : Int} (hb : Below w.heap.size w w') : EdPost ([], x) w (.returned (.tuple #[.slice none 0 0, .int .i64 x])) w' := ⟨_, _, rfl, OB.nil _ _, Nat.le_refl _, hb⟩
theorem EdPost.good {w w' : World} {x : Int} {v : Value} {m : Nat} {zs : List Int} (ho : OB w' w.heap.size v m zs) (hb : Below w.heap.size w w') : EdPost (zs, x) w (.returned (.tuple #[v, .int .i64 x])) w' := by
  obtain ⟨A, c, rfl, hc⟩ := ho.slice
  have hl := ho.len
  subst hl
  exact ⟨A, c, rfl, ho, hc, hb⟩
theorem RBs.three' {w : World} {g : Nat} {t : TypeId} {A B C : Option Addr} {n c m d p e : Nat} {xs ys zs : List Int} (hb : Blk w g t #[.slice A n c, .slice B m d, .slice C p e]) (h : RB w A n xs) (hc : n ≤ c) (h' : RB w B m ys) (hd : m ≤ d) (h'' : RB w C p zs) (he : p ≤ e) : RBs w (some ⟨g, 0, Option.none⟩) 3 [xs, ys, zs] := by
  refine ⟨rfl, g, 0, fun _ => rfl, fun i hi => ?_⟩
  have hl := h.len
  have hl' := h'.len
  have hl'' := h''.len
  subst hl hl' hl''
  match i, hi with
  | 0, _ => exact ⟨A, c, hb.cell 0, hc, h⟩
  | 1, _ => exact ⟨B, d, hb.cell 1, hd, h'⟩
  | 2, _ => exact ⟨C, e, hb.cell 2, he, h''⟩
theorem concat_three (A B C : Option Addr) (n c m d p e : Nat) (xs ys zs : List Int) (g : Nat) (w : World) (hb : Blk w g 29 #[.slice A n c, .slice B m d, .slice C p e]) (h : RB w A n xs) (hc : n ≤ c) (h' : RB w B m ys) (hd : m ≤ d) (h'' : RB w C p zs) (he : p ≤ e) (hn : n + m + p ≤ 1000000000) :
    Calls Try.prog 45 #[.slice (some ⟨g, 0, none⟩) 3 3] w (NewB (n + (m + p)) (xs ++ (ys ++ zs)) w) := by
  have hf : [xs, ys, zs].flatten = xs ++ (ys ++ zs) := by simp
  have hl := h.len
  have hl' := h'.len
  have hl'' := h''.len
  have hc := concat_any (some ⟨g, 0, none⟩) 3 3 _ w (RBs.three' hb h hc h' hd h'' he) (Nat.le_refl _) (by omega) (by rw [hf, List.length_append, List.length_append]; omega)
  rw [hf] at hc
  refine hc.mono ?_
  rintro e w' ⟨v, k, rfl, ho, hb'⟩
  have hk := ho.len
  rw [List.length_append, List.length_append] at hk
  obtain rfl : k = n + (m + p) := by omega
  exact NewB.of ho hb'
set_option maxRecDepth 100000 in
set_option maxHeartbeats 4000000 in
theorem apply_any (A : Option Addr) (n c : Nat) (a : List Int) (S : Nat → Prop) (B : Option Addr) (k d : Nat) (l : List Ed) (w : World) (hA : RB w A n a) (hnc : n ≤ c) (hn : n ≤ 100000) (h : REs w S B k l) (hk : k ≤ 1000) (hM : ∀ i, i < k → (ed l i).b.length ≤ 100000) :
    Calls Try.prog 72 #[.slice A n c, .slice B k d] w (EdPost (applyR a l) w) := by
  have hlen := h.1
  have hla := hA.len
  unfold applyR
  rw [hla]
  by_cases hm : MayL n l
  · rw [if_pos hm]
    have hmy := may_yes n S B k d l w h (by omega) hm
    have hal := apL_length hla hm
    have hnr := fun j (hj : j ≤ k) => nTo_range (M := 100000) (n := n) (l := l) (fun i hi => hM i (by omega)) j (by omega) (fun i hi => hm i (by omega))
    rw [hlen] at hal
    unfold MayPost at hmy
    generalize hP : EdPost (if 65536 < (apL a l).length then ([], 5) else (apL a l, 0)) w = P
    have HP := Lib.hid hP
    clear hP
    have HNR := Lib.hid hnr
    have HM := Lib.hid hm
    have HMM := Lib.hid hM
    clear hnr hm hM
    go_enter Try.func72, Try.ntmps72
    go_wp2_with (go_at_call 74; (with_reducible refine hmy.mono ?_); rintro e w1 ⟨rfl, hb1⟩)
    go_loopw [6, 22] (fun nn i wr => ∃ j : Nat, j ≤ k ∧ i = .int .i64 j ∧ nn = .int .i64 (nTo n l j) ∧ Below w.heap.size w wr) (fun _ i _ => k - (intOf i).toNat)
    case atStart => exact ⟨0, by omega, rfl, rfl, hb1⟩
    case round =>
      obtain ⟨j, hj, rfl, rfl, hB⟩ := hrel
      by_cases h1 : j < k
      · obtain ⟨b, off, B', c', rfl, _, c0, c1, c2, _⟩ := h.at_ (ed_some (l := l) (i := j) (by omega))
        have c0 := cell_later hB c0
        have c1 := cell_later hB c1
        have c2 := cell_later hB c2
        have ho := HM.out j (by omega)
        have hr1 := HNR.out j (by omega)
        have hr2 := HNR.out (j + 1) (by omega)
        have hs : nTo n l (j + 1) = nTo n l j + (((ed l j).b.length : Int) - ((ed l j).t - (ed l j).f)) := rfl
        have hat := atL_range (n := n) (l := l) (k := j) (fun i hi => HM.out i (by omega))
        have hml := HMM.out j h1
        unfold okE at ho
        rw [hs] at hr2
        have HS := Lib.hid hs
        clear hs
        generalize ed l j = x at *
        generalize atL l j = a0 at *
        generalize nTo n l j = u at *
        have q1 : IntKind.i64.wrap (x.t - x.f) = x.t - x.f := IntWalk.i64_in _ (by omega)
        have q2 : IntKind.i64.wrap ((x.b.length : Int) - (x.t - x.f)) = (x.b.length : Int) - (x.t - x.f) := IntWalk.i64_in _ (by omega)
        have q3 : IntKind.i64.wrap (u + ((x.b.length : Int) - (x.t - x.f))) = u + ((x.b.length : Int) - (x.t - x.f)) := IntWalk.i64_in _ (by omega)
        have p1 : wrap64 (x.t - x.f) = x.t - x.f := by unfold wrap64; omega
        have p2 : wrap64 ((x.b.length : Int) - (x.t - x.f)) = (x.b.length : Int) - (x.t - x.f) := by unfold wrap64; omega
        have p3 : wrap64 (u + ((x.b.length : Int) - (x.t - x.f))) = u + ((x.b.length : Int) - (x.t - x.f)) := by unfold wrap64; omega
        go_wp2
        go_roundw
        case rel => exact ⟨j + 1, by omega, by go_num, by rw [HS.out], hB.alloc hB.size _⟩
        case measure => simp [intOf]; omega
      · obtain rfl : j = k := by omega
        by_cases hbig : 65536 < (apL a l).length
        · have hP := HP.out
          rw [if_pos hbig] at hP
          subst hP
          have i1 : (65536 : Int) < nTo n l j := by omega
          generalize nTo n l j = u at *
          clear hal hbig
          go_wp2
          go_ret2
          exact EdPost.bad hB
        · have hP := HP.out
          rw [if_neg hbig] at hP
          subst hP
          have i1 : ¬ ((65536 : Int) < nTo n l j) := by omega
          have hn1 := fun jj (hjj : jj ≤ j) => apTo_length hla jj (fun i hi => HM.out i (by omega))
          have HN1 := Lib.hid hn1
          clear hal hbig hn1
          go_wp2
          go_loopw [9, 10, 42] (fun o q i wr => ∃ jj p m : Nat, jj ≤ j ∧ i = .int .i64 jj ∧ q = .int .i64 p ∧ (p : Int) = atL l jj ∧ OB wr w.heap.size o m (apTo a l jj) ∧ Below w.heap.size w wr) (fun _ _ i _ => j - (intOf i).toNat)
          case atStart => exact ⟨0, 0, 0, by omega, rfl, rfl, rfl, OB.nil _ _, hB⟩
          case round =>
            obtain ⟨jj, p, m, hjj, rfl, rfl, hp, ho, hB2⟩ := hrel
            obtain ⟨Ao, co, rfl, hmo⟩ := ho.slice
            have hom := ho.len
            have hra := hA.below hB2
            have hoR := ho.reads
            by_cases h1 : jj < j
            · obtain ⟨b, off, B', c', rfl, _, c0, c1, c2, c3, c4, _⟩ := h.at_ (ed_some (l := l) (i := jj) (by omega))
              have c0 := cell_later hB2 c0
              have c1 := cell_later hB2 c1
              have c2 := cell_later hB2 c2
              have hrb := c4.below hB2
              have hok := HM.out jj (by omega)
              have hr2 := HNR.out (jj + 1) (by omega)
              have hr3 := HN1.out (jj + 1) (by omega)
              have hr4 := atL_range (n := n) (l := l) (k := jj + 1) (fun i hi => HM.out i (by omega))
              unfold okE at hok
              obtain ⟨o1, o2, o3⟩ := hok
              obtain ⟨f, hf⟩ := Int.eq_ofNat_of_zero_le (show 0 ≤ (ed l jj).f by omega)
              obtain ⟨t, ht⟩ := Int.eq_ofNat_of_zero_le (show 0 ≤ (ed l jj).t by omega)
              have hsx : apTo a l (jj + 1) = apTo a l jj ++ ((a.take f).drop p ++ (ed l jj).b) := by
                show apTo a l jj ++ ((a.take (ed l jj).f.toNat).drop (atL l jj).toNat ++ (ed l jj).b) = _
                rw [hf, ← hp]
                rfl
              have hat : atL l (jj + 1) = (t : Int) := ht
              have hml : ((a.take f).drop p).length = f - p := by rw [List.length_drop, List.length_take]; omega
              rw [hsx, List.length_append, List.length_append, hml, hom] at hr3
              rw [hf] at c0
              rw [ht] at c1
              have hmid : RB _ (cutA A c p) (f - p) ((a.take f).drop p) := hra.mid (by omega) (by omega) hnc
              have HSX := Lib.hid hsx
              have HAT := Lib.hid hat
              have hbl := HMM.out jj h1
              have hlm : m + (f - p + (ed l jj).b.length) ≤ 1000000000 := by omega
              have hfp : p ≤ f := by omega
              have hfn : f ≤ n := by omega
              have hfc : f ≤ c := by omega
              have hz1 : (0 : Int) ≤ (p : Int) := by omega
              have hz2 : (p : Int) ≤ (f : Int) := by omega
              have hz3 : (f : Int) ≤ (c : Int) := by omega
              clear hsx hat hr2 hr3 hr4 o1 o2 o3 hf ht hml hB hp
              generalize (ed l jj).b = y at *
              have hBk : Blk (((wr.alloc (.cells #[.int .i64 f, .int .i64 t, .slice B' y.length c'] 96)).alloc (.cells #[.slice Ao m co, .slice (cutA A c p) (f - p) (c - p), .slice B' y.length c'] 29)).drew) (wr.heap.size + 1) 29 #[.slice Ao m co, .slice (cutA A c p) (f - p) (c - p), .slice B' y.length c'] := by
                have := Blk.new (wr.alloc (.cells #[.int .i64 f, .int .i64 t, .slice B' y.length c'] 96)) 29 #[.slice Ao m co, .slice (cutA A c p) (f - p) (c - p), .slice B' y.length c']
                rw [World.size_alloc] at this
                exact this
              have hcat := concat_three Ao (cutA A c p) B' m co (f - p) (c - p) y.length c' _ _ _ (wr.heap.size + 1) _ hBk ((hoR.alloc _).alloc _) hmo ((hmid.alloc _).alloc _) (by omega) ((hrb.alloc _).alloc _) c3 (by omega)
              have hb0 : Below wr.heap.size wr (((wr.alloc (.cells #[.int .i64 f, .int .i64 t, .slice B' y.length c'] 96)).alloc (.cells #[.slice Ao m co, .slice (cutA A c p) (f - p) (c - p), .slice B' y.length c'] 29)).drew) := below_drewN (((Below.refl _ _).alloc (Nat.le_refl _) _).alloc (by simp) _) 1
              have hz0 : (((wr.alloc (.cells #[.int .i64 f, .int .i64 t, .slice B' y.length c'] 96)).alloc (.cells #[.slice Ao m co, .slice (cutA A c p) (f - p) (c - p), .slice B' y.length c'] 29)).drew).heap.size = wr.heap.size + 2 := by simp
              have hsz := hB2.size
              have hBox : Blk (((wr.alloc (.cells #[.int .i64 f, .int .i64 t, .slice B' y.length c'] 96)).alloc (.cells #[.slice Ao m co, .slice (cutA A c p) (f - p) (c - p), .slice B' y.length c'] 29)).drew) wr.heap.size 96 #[.int .i64 f, .int .i64 t, .slice B' y.length c'] := (Blk.new wr 96 _).alloc _
              go_wp2
              go_region_with (go_at_call 45; (with_reducible refine hcat.mono ?_); rintro e w2 ⟨V, C0, rfl, hoN, hcN, hb3⟩; have hb4 := below_two hb0 hb3; have cx1 := (hBox.below hb3 hBox.lt).cell 1; simp only [List.getElem?_toArray, List.getElem?_cons_zero, List.getElem?_cons_succ] at cx1)
              all_goals
                go_wp2
                go_roundw
                case rel => exact ⟨jj + 1, t, _, by omega, by go_num, rfl, by rw [HAT.out], by rw [HSX.out]; exact hoN.lower (by rw [hz0]; omega), below_two hB2 hb4⟩
                case measure => simp [intOf]; omega
            · obtain rfl : jj = j := by omega
              have hr3 := HN1.out jj (by omega)
              have hr4 := atL_range (n := n) (l := l) (k := jj) (fun i hi => HM.out i (by omega))
              rw [hom] at hr3
              have hsx : apL a l = apTo a l jj ++ a.drop p := by
                unfold apL
                rw [hlen, ← hp]
                rfl
              have hpn : p ≤ n := by omega
              have hmn : m + (n - p) ≤ 65536 := by omega
              have hcut : RB wr (cutA A c p) (n - p) (a.drop p) := hra.cut hpn hnc
              have hln : m + (n - p) = (apL a l).length := by rw [hsx, List.length_append, List.length_drop]; omega
              have hfin : ∀ (W : World) (V : Value), OB W w.heap.size V (m + (n - p)) (apTo a l jj ++ a.drop p) → Below w.heap.size w W → EdPost (apL a l, 0) w (.returned (.tuple #[V, .int .i64 0])) W := fun W V hV hb => by
                rw [hsx]
                exact EdPost.good hV hb
              clear hr3 hr4 HN1 HNR HMM HM HP i1 hp hsx hB
              have hsz := hB2.size
              go_wp2_with (at_builtin; refine wpList_app rfl (.tmp 59) (.tmp 62) rfl w.heap.size _ _ _ rfl ho (cutA A c p) (n - p) (c - p) (a.drop p) rfl hcut (by omega) hsz ?_; intro v2 w2 ho2 hg2 hat2)
              go_ret2
              exact hfin _ _ ho2 (hB2.grown hg2 hsz (fun k hk => (ho.own k hk).1))
  · rw [if_neg hm]
    have hmy := may_no n S B k d l w h (by omega) hm
    unfold MayPost at hmy
    clear hm hM
    go_enter Try.func72, Try.ntmps72
    go_wp2_with (go_at_call 74; (with_reducible refine hmy.mono ?_); rintro e w1 ⟨rfl, hb1⟩)
    go_ret2
    exact EdPost.bad hb1
end Go.Proofs.Ytgokompppadogaa
