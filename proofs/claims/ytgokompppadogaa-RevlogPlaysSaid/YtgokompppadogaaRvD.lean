/-
  The log: May, all ways; how the next text is kept; slices.Clip.
-/
import Derived.Test.YtgokompppadogaaRv7a
import Derived.Test.YtgokompppadogaaRvA
import Derived.Test.YtgokompppadogaaRvB
import Derived.Test.YtgokompppadogaaRvC
set_option linter.unusedVariables false
set_option linter.unusedSimpArgs false
namespace Go.Proofs.Ytgokompppadogaa
open Go.RowKit

theorem may_any (P : Nat → Prop) (g : Nat) (L : Lg) (A : Option Addr) (n c : Nat) (t p1 p2 : List Int) (w : World) (h : LgAt w P g L) (hA : RB w A n t) (hnc : n ≤ c) (hn : n ≤ 1500) (h1 : IsId p1) (h2 : IsId p2) (hll : L.length ≤ 100000) :
    Calls Try.prog 25 #[.pointer (some ⟨g, 0, none⟩), .slice A n c, ida p1, ida p2] w (IntP (mayE L t p1 p2) w) := by
  unfold mayE
  cases hl1 : lacksL L p1 with
  | true => exact may_lacks1 P g L A n c t p1 p2 w h hA hnc hn h1 h2 hll hl1
  | false =>
    cases hl2 : lacksL L p2 with
    | true => exact may_lacks2 P g L A n c t p1 p2 w h hA hnc hn h1 h2 hll hl1 hl2
    | false =>
      rw [if_neg (by simp)]
      cases hp : posL L (nodeV t p1 p2) with
      | none =>
        by_cases hlt : 2000 ≤ L.length
        · simp only [if_pos hlt]
          exact may_full P g L A n c t p1 p2 w h hA hnc hn h1 h2 hll hl1 hl2 hp hlt
        · simp only [if_neg hlt]
          exact may_new P g L A n c t p1 p2 w h hA hnc hn h1 h2 hll hl1 hl2 hp (by omega)
      | some k =>
        unfold sameB
        by_cases hd1 : (rv L k).text = t
        · by_cases hd2 : (rv L k).p1 = p1
          · by_cases hd3 : (rv L k).p2 = p2
            · simp only [hd1, hd2, hd3, decide_true, beq_self_eq_true, Bool.and_self, if_true]
              exact may_same P g L A n c t p1 p2 w h hA hnc hn h1 h2 hll k hl1 hl2 hp hd1 hd2 hd3
            · have : (decide ((rv L k).text = t) && (rv L k).p1 == p1 && (rv L k).p2 == p2) = false := by simp [hd3]
              simp only [this, Bool.false_eq_true, if_false]
              exact may_p2 P g L A n c t p1 p2 w h hA hnc hn h1 h2 hll k hl1 hl2 hp hd1 hd2 hd3
          · have : (decide ((rv L k).text = t) && (rv L k).p1 == p1 && (rv L k).p2 == p2) = false := by simp [hd2]
            simp only [this, Bool.false_eq_true, if_false]
            exact may_p1 P g L A n c t p1 p2 w h hA hnc hn h1 h2 hll k hl1 hl2 hp hd1 hd2
        · have : (decide ((rv L k).text = t) && (rv L k).p1 == p1 && (rv L k).p2 == p2) = false := by simp [hd1]
          simp only [this, Bool.false_eq_true, if_false]
          exact may_text P g L A n c t p1 p2 w h hA hnc hn h1 h2 hll k hl1 hl2 hp hd1
def KeepP (g : Nat) (a t : List Int) (ch : Nat) (w : World) (e : Ending) (w' : World) : Prop := ∃ T X, e = .returned (.iface T X) ∧ KeptV w' (w.heap.size ≤ ·) g a t ch (.iface T X) ∧ Below w.heap.size w w'
theorem OB.kept_blocks {w w' : World} {g k d : Nat} {B : Option Addr} {xs : List Int} (h : OB w' w.heap.size (.slice B k d) k xs) (hg : g < w.heap.size) : ∀ ad, B = some ad → w.heap.size ≤ ad.block ∧ ad.block ≠ g ∧ ad.block < w'.heap.size := fun ad e => by
  have := h.own ad.block (by subst e; rfl)
  exact ⟨this.1, by omega, this.2⟩
theorem OB.low {w : World} {b b' : Nat} {v : Value} {n : Nat} {xs : List Int} (h : OB w b v n xs) (hb : b' ≤ b) : OB w b' v n xs := h.lower hb
set_option maxRecDepth 100000 in
set_option maxHeartbeats 4000000 in
theorem keep_none (P : Nat → Prop) (g : Nat) (L : Lg) (A : Option Addr) (n c : Nat) (t : List Int) (w : World) (h : LgAt w P g L) (hA : RB w A n t) (hn : n ≤ 1500) (h0 : L.length = 0) :
    Calls Try.prog 28 #[.pointer (some ⟨g, 0, none⟩), .slice A n c] w (KeepP g (prevT L L.length) t (keepC L t) w) := by
  obtain ⟨A', n', c', mb, kv, Vs, hm⟩ := h
  have hn' := hm.len
  rw [h0] at hn'
  subst hn'
  have hg := hm.blk.lt
  have c0 : w.cell? ⟨g, 0, none⟩ = some (.slice A' 0 c') := hm.blk.cell 0
  have hcl := bclone_any A n c t w hA (by omega)
  unfold NewB at hcl
  have hk : keepC L t = 0 := by unfold keepC; rw [if_pos h0]
  rw [hk]
  clear hm hk
  go_enter Try.func28, Try.ntmps28
  go_wp2_with (go_at_call 32; (with_reducible refine hcl.mono ?_); rintro e w1 ⟨B, d, rfl, ho, hd, hb⟩)
  go_ret
  have hb2 := hb.alloc hb.size (.cells #[.slice B n d] 93)
  refine ⟨_, _, rfl, ⟨B, n, d, t, (ho.alloc _).reads, hd, fun ad e => ?_, .inl ⟨rfl, rfl, rfl⟩⟩, hb2⟩
  exact (ho.alloc (.cells #[.slice B n d] 93)).kept_blocks hg ad e
set_option maxRecDepth 100000 in
set_option maxHeartbeats 4000000 in
theorem keep_some (P : Nat → Prop) (g : Nat) (L : Lg) (A : Option Addr) (n c : Nat) (t : List Int) (w : World) (h : LgAt w P g L) (hA : RB w A n t) (hnc : n ≤ c) (hn : n ≤ 1500) (h0 : 0 < L.length) (hll : L.length ≤ 100000) :
    Calls Try.prog 28 #[.pointer (some ⟨g, 0, none⟩), .slice A n c] w (KeepP g (prevT L L.length) t (keepC L t) w) := by
  have h' := h
  obtain ⟨A', n', c', mb, kv, Vs, hm⟩ := h'
  have hn' := hm.len
  subst hn'
  have hg := hm.blk.lt
  have htx := hm.inv.txt (L.length - 1) (by omega)
  have hcx := (hm.inv.chn (L.length - 1) (by omega)).1
  have hp2 := mkPr_le (rv L (L.length - 1)).text t (by rw [hA.len]; exact hn)
  have c0 : w.cell? ⟨g, 0, none⟩ = some (.slice A' L.length c') := hm.blk.cell 0
  have hcl := bclone_any A n c t w hA (by omega)
  unfold NewB at hcl
  have em : ((L.length - 1 : Nat) : Int) = (L.length : Int) - 1 := by omega
  have HCH := Lib.hid (show ∀ W, Below w.heap.size w W → Calls Try.prog 13 #[.pointer (some ⟨g, 0, none⟩), .int .i64 ((L.length : Int) - 1)] W (IntP ((rv L (L.length - 1)).chain : Nat) W) from fun W hW => by
    have := chain_in P g L (L.length - 1) W (h.below hW) (by omega)
    rwa [em] at this)
  have HAT := Lib.hid (show ∀ W, Below w.heap.size w W → Calls Try.prog 33 #[.pointer (some ⟨g, 0, none⟩), .int .i64 ((L.length : Int) - 1)] W (TextP (rv L (L.length - 1)).text W) from fun W hW => by
    have := at_any P g L hll (L.length - 1) W (h.below hW) (by omega)
    rwa [em] at this)
  have HMK := Lib.hid (show ∀ (W : World) (X : Option Addr) (cx : Nat), RB W X (rv L (L.length - 1)).text.length (rv L (L.length - 1)).text → (rv L (L.length - 1)).text.length ≤ cx → RB W A n t → Calls Try.prog 41 #[.slice X (rv L (L.length - 1)).text.length cx, .slice A n c] W (fun e w' => ∃ A' k, e = .returned (.slice A' k k) ∧ REs w' (W.heap.size ≤ ·) A' k (mkEdits (rv L (L.length - 1)).text t) ∧ Below W.heap.size W w') from fun W X cx r1 r2 r3 => make_any X A _ n cx c _ t W r1 r3 r2 hnc (by have := htx.2; omega) (by omega))
  have HPR := Lib.hid (show ∀ (W : World) (B : Nat) (E : Option Addr) (k : Nat), REs W (B ≤ ·) E k (mkEdits (rv L (L.length - 1)).text t) → Calls Try.prog 40 #[.slice E k k] W (NewB (prL (mkEdits (rv L (L.length - 1)).text t)).length (prL (mkEdits (rv L (L.length - 1)).text t)) W) from fun W B E k r => print_any _ E k k _ W r (by have := r.1; have := mk_len1 (rv L (L.length - 1)).text t; omega) (fun i _ => by have := mk_blen1 (rv L (L.length - 1)).text t i; have := hA.len; omega))
  have hl0 : ((L.length : Int) == 0) = false := by simpa using (by omega : ¬ L.length = 0)
  have hw1 : wrap64 ((L.length : Int) - 1) = (L.length : Int) - 1 := by unfold wrap64; omega
  have hw2 : wrap64 (((rv L (L.length - 1)).chain : Int) + 1) = ((rv L (L.length - 1)).chain : Int) + 1 := by unfold wrap64; omega
  have hkc : keepC L t = if (rv L (L.length - 1)).chain < 8 ∧ (prL (mkEdits (rv L (L.length - 1)).text t)).length < t.length then (rv L (L.length - 1)).chain + 1 else 0 := by unfold keepC; rw [if_neg (by omega)]
  have htn := hA.len
  unfold prevT
  unfold TextP at HAT
  unfold NewB at HPR
  clear hm htx em
  generalize (rv L (L.length - 1)).text = a at *
  generalize (rv L (L.length - 1)).chain = ch at *
  generalize hE : mkEdits a t = E at *
  generalize hb : prL E = b at *
  have HBE := Lib.hid (show b = prL (mkEdits a t) from by rw [hE, hb])
  clear hb hE
  rw [htn] at hkc
  generalize keepC L t = kc at *
  have HK := Lib.hid hkc
  clear hkc
  by_cases hlt : ch < 8 ∧ b.length < n
  · have k1 : ¬ (8 : Int) < (ch : Int) + 1 := by omega
    have k3 : ¬ (n : Int) ≤ (b.length : Int) := by omega
    go_enter Try.func28, Try.ntmps28
    go_wp2_with (first
      | (go_at_call 32; (with_reducible refine hcl.mono ?_); rintro e w1 ⟨B, d, rfl, ho, hd, hb1⟩; have hb1' := hb1.alloc hb1.size (.cells #[.slice B n d] 93); have hbk := Blk.new w1 93 #[.slice B n d]; have hch := HCH.out _ hb1')
      | (go_at_call 13; (refine hch.mono ?_); rintro e w2 ⟨rfl, hb2⟩; have hb02 := below_two hb1' hb2; have hat := HAT.out _ hb02)
      | (go_at_call 33; (with_reducible refine hat.mono ?_); rintro e w3 ⟨A3, c3, rfl, hr3, hc3, hb3⟩; have hb03 := below_two hb02 hb3; have hmk := HMK.out _ _ c3 hr3 hc3 (hA.below hb03))
      | (go_at_call 41; (with_reducible refine hmk.mono ?_); rintro e w4 ⟨A4, k4, rfl, hr4, hb4⟩; have hb04 := below_two hb03 hb4; have hpr := HPR.out _ _ _ _ hr4)
      | (go_at_call 40; (with_reducible refine hpr.mono ?_); rintro e w5 ⟨A5, c5, rfl, ho5, hc5, hb5⟩; have hb05 := below_two hb04 hb5; have hb15 := below_two (below_two (below_two hb2 hb3) hb4) hb5; have q5 : w5.cell? ⟨w1.heap.size, 0, none⟩ = some (.slice B n d) := (hbk.below hb15 hbk.lt).cell 0))
    go_ret

    have := HK.out
    rw [if_pos hlt] at this
    subst this
    have ho' := ho5.low hb04.size
    exact ⟨_, _, rfl, ⟨A5, b.length, c5, b, ho'.reads, hc5, ho'.kept_blocks hg, .inr ⟨by omega, HBE.out, by simp⟩⟩, hb05⟩
  · by_cases hc8 : ch < 8
    · have k1 : ¬ (8 : Int) < (ch : Int) + 1 := by omega
      have k3 : (n : Int) ≤ (b.length : Int) := by omega
      go_enter Try.func28, Try.ntmps28
      go_wp2_with (first
        | (go_at_call 32; (with_reducible refine hcl.mono ?_); rintro e w1 ⟨B, d, rfl, ho, hd, hb1⟩; have hb1' := hb1.alloc hb1.size (.cells #[.slice B n d] 93); have hbk := Blk.new w1 93 #[.slice B n d]; have hch := HCH.out _ hb1')
        | (go_at_call 13; (refine hch.mono ?_); rintro e w2 ⟨rfl, hb2⟩; have hb02 := below_two hb1' hb2; have hat := HAT.out _ hb02)
        | (go_at_call 33; (with_reducible refine hat.mono ?_); rintro e w3 ⟨A3, c3, rfl, hr3, hc3, hb3⟩; have hb03 := below_two hb02 hb3; have hmk := HMK.out _ _ c3 hr3 hc3 (hA.below hb03))
        | (go_at_call 41; (with_reducible refine hmk.mono ?_); rintro e w4 ⟨A4, k4, rfl, hr4, hb4⟩; have hb04 := below_two hb03 hb4; have hpr := HPR.out _ _ _ _ hr4)
        | (go_at_call 40; (with_reducible refine hpr.mono ?_); rintro e w5 ⟨A5, c5, rfl, ho5, hc5, hb5⟩; have hb05 := below_two hb04 hb5; have hb15 := below_two (below_two (below_two hb2 hb3) hb4) hb5; have q5 : w5.cell? ⟨w1.heap.size, 0, none⟩ = some (.slice B n d) := (hbk.below hb15 hbk.lt).cell 0))
      go_ret
      have := HK.out
      rw [if_neg (by omega)] at this
      subst this
      have ho' := (ho.alloc (.cells #[.slice B n d] 93)).below hb15
      exact ⟨_, _, rfl, ⟨B, n, d, t, ho'.reads, hd, ho'.kept_blocks hg, .inl ⟨rfl, rfl, rfl⟩⟩, hb05⟩
    · have k1 : (8 : Int) < (ch : Int) + 1 := by omega
      go_enter Try.func28, Try.ntmps28
      go_wp2_with (first
        | (go_at_call 32; (with_reducible refine hcl.mono ?_); rintro e w1 ⟨B, d, rfl, ho, hd, hb1⟩; have hb1' := hb1.alloc hb1.size (.cells #[.slice B n d] 93); have hbk := Blk.new w1 93 #[.slice B n d]; have hch := HCH.out _ hb1')
        | (go_at_call 13; (refine hch.mono ?_); rintro e w2 ⟨rfl, hb2⟩; have hb02 := below_two hb1' hb2; have hat := HAT.out _ hb02)
        | (go_at_call 33; (with_reducible refine hat.mono ?_); rintro e w3 ⟨A3, c3, rfl, hr3, hc3, hb3⟩; have hb03 := below_two hb02 hb3; have hmk := HMK.out _ _ c3 hr3 hc3 (hA.below hb03))
        | (go_at_call 41; (with_reducible refine hmk.mono ?_); rintro e w4 ⟨A4, k4, rfl, hr4, hb4⟩; have hb04 := below_two hb03 hb4; have hpr := HPR.out _ _ _ _ hr4)
        | (go_at_call 40; (with_reducible refine hpr.mono ?_); rintro e w5 ⟨A5, c5, rfl, ho5, hc5, hb5⟩; have hb05 := below_two hb04 hb5; have hb15 := below_two (below_two (below_two hb2 hb3) hb4) hb5; have q5 : w5.cell? ⟨w1.heap.size, 0, none⟩ = some (.slice B n d) := (hbk.below hb15 hbk.lt).cell 0))
      go_ret
      have := HK.out
      rw [if_neg (by omega)] at this
      subst this
      have ho' := (ho.alloc (.cells #[.slice B n d] 93)).below hb15
      exact ⟨_, _, rfl, ⟨B, n, d, t, ho'.reads, hd, ho'.kept_blocks hg, .inl ⟨rfl, rfl, rfl⟩⟩, hb05⟩
theorem keep_any (P : Nat → Prop) (g : Nat) (L : Lg) (A : Option Addr) (n c : Nat) (t : List Int) (w : World) (h : LgAt w P g L) (hA : RB w A n t) (hnc : n ≤ c) (hn : n ≤ 1500) (hll : L.length ≤ 100000) :
    Calls Try.prog 28 #[.pointer (some ⟨g, 0, none⟩), .slice A n c] w (KeepP g (prevT L L.length) t (keepC L t) w) := by
  rcases Nat.eq_zero_or_pos L.length with h0 | h0
  · exact keep_none P g L A n c t w h hA hn h0
  · exact keep_some P g L A n c t w h hA hnc hn h0 hll
set_option maxRecDepth 100000 in
theorem clip_any (A : Option Addr) (n c : Nat) (w : World) (hc : n ≤ c) (h0 : n = 0 → A = none ∧ c = 0) (hn : n ≤ 100000) :
    Calls Try.prog 27 #[.slice A n c] w (fun e w' => e = .returned (.slice A n n) ∧ w = w') := by
  have hm : (n : Int) ≤ (c : Int) := by omega
  have hu : Try.prog.underlying 63 = some (.slice (Try.prog.elem 63)) := by kernel_rfl
  have hs : (Instr.slice 63 (.slice A n c) none (some (.int .i64 (n : Int))) (some (.int .i64 (n : Int)))).run Try.prog w = .ok (.slice A n n) w := by
    rw [run_slice_hm w _ A n c hu .i64 .i64 (n : Int) (n : Int) (by omega) (by omega) hm]
    have hz : (sizeOf (Try.prog.elem 63)).run Try.prog w = .ok 61 w := by kernel_rfl
    rw [hz]
    simp only [Result.andThen_ok, sliced, Int.toNat_natCast, Nat.sub_zero]
    rcases Nat.eq_zero_or_pos n with h | h
    · obtain ⟨rfl, rfl⟩ := h0 h
      simp
    · rw [if_neg (by omega)]
      cases A <;> simp [Addr.add]
  clear hu h0
  go_enter Try.func27, Try.ntmps27
  go_wp2
  go_ret
  exact ⟨rfl, rfl⟩
end Go.Proofs.Ytgokompppadogaa
