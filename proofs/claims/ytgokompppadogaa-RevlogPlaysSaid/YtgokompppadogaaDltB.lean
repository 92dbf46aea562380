/-
  delta.Parse; trestleref14.Parse.
-/
import Derived.Test.YtgokompppadogaaDltA
set_option linter.unusedVariables false
set_option linter.unusedSimpArgs false
namespace Go.Proofs.Ytgokompppadogaa
open Go.RowKit

theorem stepE_at {ys : List Int} {r : Nat} (hr : r < 3) (h : ∀ i, i < r → numE (ys.drop (4 * i)) = 0) (hne : numE (ys.drop (4 * r)) ≠ 0) : stepE ys = numE (ys.drop (4 * r)) := by
  unfold stepE
  match r, hr with
  | 0, _ => rw [if_pos (by simpa using hne)]; simp
  | 1, _ =>
    have h0 := h 0 (by omega)
    simp only [Nat.mul_zero, List.drop_zero] at h0
    rw [if_neg (by simpa using h0), if_pos hne]
  | 2, _ =>
    have h0 := h 0 (by omega)
    have h1 := h 1 (by omega)
    simp only [Nat.mul_zero, List.drop_zero] at h0
    rw [if_neg (by simpa using h0), if_neg (by simpa using h1), if_pos hne]
theorem stepE_end {ys : List Int} (h : ∀ i, i < 3 → numE (ys.drop (4 * i)) = 0) : stepE ys = if ((ys.drop 12).length : Int) < num4 (ys.drop 8) then 3 else 0 := by
  have h0 := h 0 (by omega)
  have h1 := h 1 (by omega)
  have h2 := h 2 (by omega)
  simp only [Nat.mul_zero, List.drop_zero] at h0
  unfold stepE
  rw [if_neg (by simpa using h0), if_neg (by simpa using h1), if_neg (by simpa using h2)]
def n3 (ys : List Int) (r : Nat) : Array Value := #[.int .i64 (if 0 < r then num4 ys else 0), .int .i64 (if 1 < r then num4 (ys.drop 4) else 0), .int .i64 (if 2 < r then num4 (ys.drop 8) else 0)]
theorem n3_set {ys : List Int} {r : Nat} (hr : r < 3) : (n3 ys r).setIfInBounds r (.int .i64 (num4 (ys.drop (4 * r)))) = n3 ys (r + 1) := by
  match r, hr with
  | 0, _ => simp [n3]
  | 1, _ => simp [n3]
  | 2, _ => simp [n3]
theorem n3_some {ys : List Int} {r i : Nat} (hi : i < 3) : ∃ v, (n3 ys r)[i]? = some v := by
  match i, hi with
  | 0, _ => exact ⟨_, rfl⟩
  | 1, _ => exact ⟨_, rfl⟩
  | 2, _ => exact ⟨_, rfl⟩
def ParsePost (r : List Ed × Int) (w : World) (e : Ending) (w' : World) : Prop := ∃ A c, e = .returned (.tuple #[.slice A r.1.length c, .int .i64 r.2]) ∧ REs w' (w.heap.size ≤ ·) A r.1.length r.1 ∧ r.1.length ≤ c ∧ Below w.heap.size w w'
theorem REs.nil (w : World) (S : Nat → Prop) : REs w S none 0 [] := ⟨rfl, fun h => absurd h (by omega)⟩
theorem ParsePost.bad {w w' : World} {x : Int} (hb : Below w.heap.size w w') : ParsePost ([], x) w (.returned (.tuple #[.slice none 0 0, .int .i64 x])) w' := ⟨none, 0, rfl, REs.nil _ _, Nat.le_refl _, hb⟩
theorem ParsePost.good {w w' : World} {v : Value} {l : List Ed} {n : Nat} (h : OEb w' w.heap.size v n l) (hn : n = l.length) (hb : Below w.heap.size w w') : ParsePost (l, 0) w (.returned (.tuple #[v, .int .i64 0])) w' := by
  subst hn
  obtain ⟨A, c, rfl, hc⟩ := h.slice
  exact ⟨A, c, rfl, h.reads, hc, hb⟩
def lenW : Value → Nat
  | .slice _ n _ => n
  | _ => 0
theorem i3Ty : Try.prog.underlying 122 = some (.array 3 3) := by kernel_rfl
theorem size3' (w : World) : (sizeOf 3).run Try.prog w = .ok 1 w := by kernel_rfl
@[go_sem high] theorem idx3 (w : World) (g : Nat) (i : Int) (h0 : 0 ≤ i) (h1 : i < 3) : (Instr.indexAt 122 (.pointer (some ⟨g, 0, none⟩)) (.int .i64 i)).run Try.prog w = .ok (.pointer (some ⟨g, i.toNat, none⟩)) w := by
  have hs := size3' w
  simp [Instr.indexAt, asIntOf, run_underlying i3Ty, Instr.sureAddr, h0, h1, hs, add_plain]

theorem apart_of {w1 : World} {A1 : Option Addr} {k c1 bs zo zw : Nat} {zs : List Int} {v : Value} {o : Obj} (h : OB w1 zw (.slice A1 k c1) k zs) (h1 : bs ≤ zo) (h2 : zo ≤ zw) (hv : ∀ z, v.ownBlock = some z → z < zo) (bd : Addr) (e : A1 = some bd) :
    bs ≤ bd.block ∧ bd.block < (w1.alloc o).heap.size ∧ some bd.block ≠ v.ownBlock := by
  have ho := h.own bd.block (by subst e; rfl)
  refine ⟨by omega, by simp; omega, fun e' => ?_⟩
  have := hv _ e'.symm
  omega
set_option maxRecDepth 100000 in
set_option maxHeartbeats 4000000 in
theorem parse_any (A : Option Addr) (n c : Nat) (xs : List Int) (w : World) (h : RB w A n xs) (hnc : n ≤ c) (hn : n ≤ 100000) :
    Calls Try.prog 71 #[.slice A n c] w (ParsePost (parseR xs) w) := by
  have hlen := h.len
  have hp0 : parseF n [] xs = parseR xs := by unfold parseR; rw [hlen]
  generalize parseR xs = R at *
  have HP0 := Lib.hid hp0
  clear hp0
  go_enter Try.func71, Try.ntmps71
  go_wp2
  go_loopw [0, 4] (fun b v wr => ∃ (acc : List Ed) (ys : List Int) (Ab : Option Addr) (nb cb fuel na : Nat), b = .slice Ab nb cb ∧ RB w Ab nb ys ∧ nb ≤ cb ∧ OEb wr w.heap.size v na acc ∧ acc.length = na ∧ parseF fuel acc ys = R ∧ nb ≤ fuel ∧ na + nb ≤ n ∧ Below w.heap.size w wr) (fun b _ _ => lenW b)
  case atStart => exact ⟨[], xs, A, n, c, n, 0, rfl, h, hnc, OEb.nil _ _, rfl, HP0.out, Nat.le_refl _, by omega, Below.refl _ _⟩
  case round =>
    obtain ⟨acc, ys, Ab, nb, cb, fuel, na, rfl, hR, hcb, ho, hal, hp, hf, hsum, hB⟩ := hrel
    have hyl := hR.len
    by_cases h1 : 0 < nb
    · have hy0 : ys ≠ [] := fun e => by rw [e] at hyl; simp at hyl; omega
      have HErr := Lib.hid (show ∀ (e : Int) (W : World), stepE ys = e → e ≠ 0 → Below w.heap.size w W → ParsePost R w (.returned (.tuple #[.slice none 0 0, .int .i64 e])) W from fun e W he hne hb => by
        rw [parseF_err fuel acc ys hy0 (by rw [he]; exact hne) (by omega), he] at hp
        rw [← hp]
        exact ParsePost.bad hb)
      obtain ⟨fuel, rfl⟩ : ∃ f, fuel = f + 1 := ⟨fuel - 1, by omega⟩
      have HOk := Lib.hid (show stepE ys = 0 → parseF fuel (acc ++ [stepX ys]) (stepR ys) = R from fun he => by rw [← parseF_ok fuel acc ys hy0 he]; exact hp)
      have HL := Lib.hid hal
      have hYb := hR.byts
      clear hp hyl hal
      obtain ⟨wo, rfl⟩ : ∃ wo : World, wo = wr := ⟨_, rfl⟩
      have hz := hB.size
      go_wp2
      go_loopw [0, 12] (fun b i wr => ∃ (r : Nat) (Ar : Option Addr) (nr cr : Nat), r ≤ 3 ∧ i = .int .i64 r ∧ b = .slice Ar nr cr ∧ RB w Ar nr (ys.drop (4 * r)) ∧ nr ≤ cr ∧ nr + 4 * r = nb ∧ (∀ i, i < r → numE (ys.drop (4 * i)) = 0) ∧ Blk wr wo.heap.size 122 (n3 ys r) ∧ Below wo.heap.size wo wr) (fun _ i _ => 3 - (intOf i).toNat)
      case atStart => exact ⟨0, Ab, nb, cb, by omega, rfl, rfl, hR, hcb, by omega, fun i hi => absurd hi (by omega), Blk.new _ _ _, (Below.refl _ _).alloc (Nat.le_refl _) _⟩
      case round =>
        obtain ⟨r, Ar, nr, cr, hr3, rfl, rfl, hRr, hcr, hnr, hall, hBk, hbr⟩ := hrel
        have hBr : Below w.heap.size w wr := below_then hB hz hbr
        have hNE : numE (ys.drop (4 * r)) = if nr < 4 then 3 else if 2147483647 < num4 (ys.drop (4 * r)) then 4 else 0 := by
          unfold numE
          rw [hRr.len]
        have hzr := hBr.size
        by_cases hr : r < 3
        · have htk := taken_any Ar nr cr _ wr (hRr.below hBr) (by omega)
          have hrg := num4_rg (hYb.drop (4 * r))
          have HA := Lib.hid hall
          have HN := Lib.hid hnr
          have HE := Lib.hid hNE
          clear hall hnr hNE
          by_cases h4 : nr < 4
          · rw [if_pos h4, decide_eq_false (by omega)] at htk
            have he := stepE_at hr HA.out (by rw [HE.out, if_pos h4]; omega)
            rw [HE.out, if_pos h4] at he
            have HX := Lib.hid he
            clear he
            go_wp2_with (go_at_call 73; (with_reducible refine htk.mono ?_); rintro e w2 ⟨rfl, q, rfl⟩)
            go_ret2
            exact HErr.out 3 _ HX.out (by omega) (below_drewN hBr q)
          · rw [if_neg h4, decide_eq_true (by omega)] at htk
            by_cases h5 : 2147483647 < num4 (ys.drop (4 * r))
            · have he := stepE_at hr HA.out (by rw [HE.out, if_neg h4, if_pos h5]; omega)
              rw [HE.out, if_neg h4, if_pos h5] at he
              have HX := Lib.hid he
              clear he
              go_wp2_with (go_at_call 73; (with_reducible refine htk.mono ?_); rintro e w2 ⟨rfl, q, rfl⟩)
              go_ret2
              exact HErr.out 4 _ HX.out (by omega) (below_drewN hBr q)
            · have he : numE (ys.drop (4 * r)) = 0 := by rw [HE.out, if_neg h4, if_neg h5]
              have HX := Lib.hid he
              clear he
              obtain ⟨old, hold⟩ := n3_some (ys := ys) (r := r) hr
              have hcell := (hBk.cell r).trans hold
              have hfrz := hBk.frozen r
              have hst := (hBk.set_ r (.int .i64 (num4 (ys.drop (4 * r)))))
              rw [n3_set hr] at hst
              have hcut := hRr.cut (c := cr) (k := 4) (by omega) hcr
              rw [List.drop_drop] at hcut
              have hr0 : (0 : Int) ≤ (r : Int) := by omega
              have hr1 : (r : Int) < 3 := by omega
              have hc4 : (4 : Int) ≤ (nr : Int) := by omega
              generalize num4 (ys.drop (4 * r)) = v at *
              go_wp2_with (go_at_call 73; (with_reducible refine htk.mono ?_); rintro e w2 ⟨rfl, q, rfl⟩)
              go_region
              all_goals
                go_wp2
                go_roundw
                case rel => exact ⟨r + 1, cutA Ar cr 4, nr - 4, cr - 4, by omega, by go_num, rfl, hcut, by omega, by have := HN.out; omega, fun i hi => by rcases Nat.lt_or_ge i r with h | h; exact HA.out i h; obtain rfl : i = r := (by omega); exact HX.out, hst, below_drewN ((below_drewN hbr q).setCell (p := ⟨wo.heap.size, r, none⟩) (Nat.le_refl _) _) 1⟩
                case measure => simp [intOf]; omega
        · obtain rfl : r = 3 := by omega
          have he := stepE_end hall
          have hyb := hYb.drop 8
          have hrg := num4_rg hyb
          have e12 : ((ys.drop 12).length : Int) = nr := by rw [hRr.len]
          rw [e12] at he
          have hX : stepX ys = ⟨num4 ys, num4 (ys.drop 4), (ys.drop 12).take (num4 (ys.drop 8)).toNat⟩ := rfl
          have hS : stepR ys = (ys.drop 12).drop (num4 (ys.drop 8)).toNat := rfl
          have hBk3 : Blk wr wo.heap.size 122 #[.int .i64 (num4 ys), .int .i64 (num4 (ys.drop 4)), .int .i64 (num4 (ys.drop 8))] := hBk
          clear hBk
          have hR12 : RB w Ar nr (ys.drop 12) := hRr
          have HE := Lib.hid he
          have HXX := Lib.hid hX
          have HSS := Lib.hid hS
          have HN := Lib.hid hnr
          clear he hX hS hall hNE e12 hRr hnr
          generalize num4 (ys.drop 8) = z at *
          generalize num4 ys = f at *
          generalize num4 (ys.drop 4) = t at *
          have k2 : wr.cell? ⟨wo.heap.size, 2, none⟩ = some (.int .i64 z) := hBk3.cell 2
          by_cases h9 : (nr : Int) < z
          · have hX3 := HE.out
            rw [if_pos h9] at hX3
            have HX := Lib.hid hX3
            clear hX3
            go_wp2
            go_ret2
            exact HErr.out 3 _ HX.out (by omega) hBr
          · have hok := HE.out
            rw [if_neg h9] at hok
            have hpok := HOk.out hok
            obtain ⟨k, rfl⟩ := Int.eq_ofNat_of_zero_le hrg.1
            rw [HXX.out, HSS.out] at hpok
            rw [Int.toNat_natCast] at hpok
            have hkn : k ≤ nr := by omega
            have hRk : RB w Ar k ((ys.drop 12).take k) := hR12.take hkn
            have hRk2 : RB w (cutA Ar cr k) (nr - k) ((ys.drop 12).drop k) := hR12.cut hkn hcr
            have HPK := Lib.hid hpok
            clear hpok HXX HSS HOk HErr HE h9
            generalize (ys.drop 12).take k = zs at *
            generalize (ys.drop 12).drop k = us at *
            have hkc0 : (0 : Int) ≤ (k : Int) := by omega
            have hkc : (k : Int) ≤ (cr : Int) := by omega
            have hkc2 : (k : Int) ≤ (nr : Int) := by omega
            have hBD : Blk wr.drew wo.heap.size 122 #[.int .i64 f, .int .i64 t, .int .i64 k] := hBk3.drew
            have hbD : Below wo.heap.size wo wr.drew := below_drewN hbr 1
            have hRD : RB wr.drew Ar k zs := hRk.below (below_drewN hBr 1)
            have hzD : wr.drew.heap.size = wr.heap.size := rfl
            have hzo : wo.heap.size ≤ wr.heap.size := hbr.size
            obtain ⟨Ao, co, rfl, hco⟩ := ho.slice
            have hn0 : some wo.heap.size ≠ (Value.slice Ao na co).ownBlock := fun e => absurd (ho.own _ e.symm).2 (Nat.lt_irrefl _)
            have hgo : ∀ z, (Value.slice Ao na co).ownBlock = some z → z < wo.heap.size := fun z e => (ho.own z e).2
            go_wp2
            go_region_held3 (fun w' => w'.cell? ⟨wo.heap.size, 0, none⟩ = some (.int .i64 f) ∧ w'.cell? ⟨wo.heap.size, 1, none⟩ = some (.int .i64 t) ∧ w'.cell? ⟨wo.heap.size, 2, none⟩ = some (.int .i64 k))
              (first
                | exact ⟨hB2.cell 0, hB2.cell 1, hB2.cell 2⟩
                | exact ⟨hBW.cell 0, hBW.cell 1, hBW.cell 2⟩
                | exact ⟨hB1.cell 0, hB1.cell 1, hB1.cell 2⟩
                | exact ⟨hBD.cell 0, hBD.cell 1, hBD.cell 2⟩)
              (first
                | (refine step_appEd rfl (.tmp 37) (.tmp 48) rfl w.heap.size _ na acc rfl hoW w1.heap.size 1 f t A1 k c1 zs rfl (Blk.new w1 96 _) (ho1.reads.alloc _) hk1 hap (by omega) hzW ?_; intro v2 w2 ho2 hg2; have hB2 := hBW.grown hg2 hn0; have q2 : w2.cell? ⟨wo.heap.size, 2, none⟩ = some (.int .i64 k) := hB2.cell 2)
                | (go_at_call 32; (with_reducible refine (bclone_any Ar k cr zs _ hRD (by omega)).mono ?_); rintro e w1 ⟨A1, c1, rfl, ho1, hk1, hb1⟩; have hB1 := hBD.below hb1 hBD.lt; have hBW := hB1.alloc (.cells #[.int .i64 f, .int .i64 t, .slice A1 k c1] 96); have hbW := (below_then hbD hbD.size hb1).alloc (Nat.le_trans hbD.size hb1.size) (.cells #[.int .i64 f, .int .i64 t, .slice A1 k c1] 96); have hoW := ho.below hbW; have hbWw := below_then hB hz hbW; have hzW := hbWw.size; have hap : ∀ bd, A1 = some bd → w.heap.size ≤ bd.block ∧ bd.block < (w1.alloc (.cells #[.int .i64 f, .int .i64 t, .slice A1 k c1] 96)).heap.size ∧ some bd.block ≠ (Value.slice Ao na co).ownBlock := fun bd e => apart_of ho1 hz (by rw [hzD]; exact hzo) hgo bd e))
            go_wp2
            go_roundw
            case rel => exact ⟨acc ++ [⟨f, t, zs⟩], us, cutA Ar cr k, nr - k, cr - k, fuel, na + 1, rfl, hRk2, by omega, ho2, by rw [List.length_append, HL.out]; rfl, HPK.out, by have := HN.out; omega, by have := HN.out; omega, hbWw.grown hg2 hbWw.size (fun z e => (hoW.own z e).1)⟩
            case measure => have := HN.out; simp only [lenW]; omega
    · obtain rfl : nb = 0 := by omega
      obtain rfl : ys = [] := List.eq_nil_of_length_eq_zero hyl
      rw [parseF_nil] at hp
      subst hp
      go_wp2
      go_ret2
      exact ParsePost.good ho hal.symm hB
end Go.Proofs.Ytgokompppadogaa
