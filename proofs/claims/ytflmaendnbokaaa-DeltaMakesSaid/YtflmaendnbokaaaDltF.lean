/-
  DeltaBack's walk.
-/
import Derived.Test.YtflmaendnbokaaaDltD
import Derived.Test.YtflmaendnbokaaaSpoil
set_option linter.unusedVariables false
set_option linter.unusedSimpArgs false
namespace Go.Proofs.Ytflmaendnbokaaa
open Go.RowKit

theorem REs.grown {w w' : World} {S : Nat → Prop} {A : Option Addr} {n : Nat} {l : List Ed} {row : Option Nat} (h : REs w S A n l) (hg : w.grownBy w' row) (hS : ∀ g, S g → some g ≠ row) : REs w' S A n l := by
  refine ⟨h.1, fun hn => ?_⟩
  obtain ⟨ad, e, h1, h2⟩ := h.2 hn
  refine ⟨ad, e, h1, fun i hi x hx => ?_⟩
  obtain ⟨B, c, c0, c1, c2, c3, c4, c5⟩ := h2 i hi x hx
  have hc : ∀ j v, w.cell? (ad.add j) = some v → w'.cell? (ad.add j) = some v := fun j v hv => hg.cell hv (by rw [block_of_add]; exact hS _ h1)
  exact ⟨B, c, hc _ _ c0, hc _ _ c1, hc _ _ c2, c3, c4.grown hg fun bd e => hS _ (c5 bd e), c5⟩
theorem REs.later {w w' : World} {S : Nat → Prop} {A : Option Addr} {n : Nat} {l : List Ed} (h : REs w S A n l) (hb : Below w.heap.size w w') : REs w' S A n l := by
  refine ⟨h.1, fun hn => ?_⟩
  obtain ⟨ad, e, h1, h2⟩ := h.2 hn
  refine ⟨ad, e, h1, fun i hi x hx => ?_⟩
  obtain ⟨B, c, c0, c1, c2, c3, c4, c5⟩ := h2 i hi x hx
  exact ⟨B, c, cell_later hb c0, cell_later hb c1, cell_later hb c2, c3, c4.below hb, c5⟩
theorem ed_bound0 {bl : List Ed} {M : Nat} (h : ∀ y ∈ bl, y.b.length ≤ M) (i : Nat) : (ed bl i).b.length ≤ M := by
  unfold ed
  rw [List.getD_eq_getElem?_getD]
  rcases Nat.lt_or_ge i bl.length with hi | hi
  · rw [List.getElem?_eq_getElem hi]
    exact h _ (List.getElem_mem hi)
  · rw [List.getElem?_eq_none hi]
    exact Nat.zero_le _
theorem mk_len (a b : List Int) : (mkEdits a b).length ≤ 1 := by
  unfold mkEdits
  split <;> simp
theorem mk_blen (a b : List Int) (i : Nat) : (ed (mkEdits a b) i).b.length ≤ b.length := by
  refine ed_bound0 (fun y hy => ?_) i
  unfold mkEdits at hy
  split at hy
  · simp at hy
  · simp at hy
    subst hy
    simp only [List.length_drop, List.length_take]
    omega
theorem prTo_ge (l : List Ed) (k : Nat) : 12 * k ≤ (prTo l k).length ∧ ∀ i, i < k → (ed l i).b.length ≤ (prTo l k).length := by
  induction k with
  | zero => exact ⟨by simp [prTo], fun i hi => absurd hi (by omega)⟩
  | succ k ih =>
    have e : (prTo l (k + 1)).length = (prTo l k).length + (12 + (ed l k).b.length) := by
      show (prTo l k ++ prE (ed l k)).length = _
      rw [List.length_append, prE_length]
    rw [e]
    refine ⟨by omega, fun i hi => ?_⟩
    rcases Nat.lt_or_ge i k with h | h
    · have := ih.2 i h; omega
    · obtain rfl : i = k := by omega
      omega

def BackPost (w : World) (e : Ending) (w' : World) : Prop := e = .returned (.bool true) ∧ Below w.heap.size w w'
def ApPost (m : Nat) (b : List Int) (w : World) (e : Ending) (w' : World) : Prop := ∃ A c, e = .returned (.tuple #[.slice A m c, .int .i64 0]) ∧ OB w' w.heap.size (.slice A m c) m b ∧ m ≤ c ∧ Below w.heap.size w w'
def PaPost (q : Nat) (L : List Ed) (h : Int) (w : World) (e : Ending) (w' : World) : Prop := ∃ A c, e = .returned (.tuple #[.slice A q c, .int .i64 h]) ∧ REs w' (w.heap.size ≤ ·) A q L ∧ q ≤ c ∧ Below w.heap.size w w'
def MkPost (q : Nat) (L : List Ed) (w : World) (e : Ending) (w' : World) : Prop := ∃ A, e = .returned (.slice A q q) ∧ REs w' (w.heap.size ≤ ·) A q L ∧ Below w.heap.size w w'
set_option maxRecDepth 100000 in
set_option maxHeartbeats 4000000 in
theorem back_bad (A : Option Addr) (n c : Nat) (a : List Int) (B : Option Addr) (m d : Nat) (b : List Int) (C : Option Addr) (p e0 : Nat) (raw : List Int) (w : World) (hA : RB w A n a) (hnc : n ≤ c) (hB : RB w B m b) (hmd : m ≤ d) (hC : RB w C p raw) (hpe : p ≤ e0) (hn : n ≤ 1500) (hm : m ≤ 1500) (hp : p ≤ 1500) (K : List Ed) (h : Int) (hK : parseR raw = (K, h)) (h0 : h ≠ 0) :
    Calls Try.prog 8 #[.slice A n c, .slice B m d, .slice C p e0] w (BackPost w) := by
  have e1 : ¬ ((1500 : Int) < n) := by omega
  have e2 : ¬ ((1500 : Int) < m) := by omega
  have e3 : ¬ ((1500 : Int) < p) := by omega
  have hla := hA.len
  have hlb := hB.len
  have hlc := hC.len
  have hq := mk_len a b
  have hLb := mk_blen a b
  have hP := prTo_length_le (l := mkEdits a b) (M := 1500) (fun i _ => Nat.le_trans (hLb i) (by omega)) (mkEdits a b).length (Nat.le_refl _)
  have hP2 : (prL (mkEdits a b)).length ≤ 100000 := by
    have : (mkEdits a b).length * (12 + 1500) ≤ 1 * (12 + 1500) := Nat.mul_le_mul_right _ hq
    unfold prL
    omega
  have hMake : ∀ W : World, RB W A n a → RB W B m b → Calls Try.prog 10 #[.slice A n c, .slice B m d] W (MkPost (mkEdits a b).length (mkEdits a b) W) := fun W h1 h2 => (make_any A B n m c d a b W h1 h2 hnc hmd (by omega) (by omega)).mono (by
    rintro e w' ⟨A', k, rfl, hr, hb⟩
    obtain rfl : k = (mkEdits a b).length := hr.1.symm
    exact ⟨A', rfl, hr, hb⟩)
  have hApply : ∀ (W : World) (S : Nat → Prop) (A1 : Option Addr) (k1 : Nat), RB W A n a → REs W S A1 (mkEdits a b).length (mkEdits a b) → Calls Try.prog 17 #[.slice A n c, .slice A1 (mkEdits a b).length k1] W (ApPost m b W) := fun W S A1 k1 h1 h2 => (apply_any A n c a S A1 _ k1 (mkEdits a b) W h1 hnc (by omega) h2 (by omega) (fun i _ => Nat.le_trans (hLb i) (by omega))).mono (by
    rw [apply_mk a b (by omega)]
    rintro e w' ⟨A2, c2, rfl, ho, hc, hb⟩
    simp only [hlb] at *
    exact ⟨A2, c2, rfl, ho, hc, hb⟩)
  have hPrint : ∀ (W : World) (S : Nat → Prop) (A1 : Option Addr) (k1 : Nat), REs W S A1 (mkEdits a b).length (mkEdits a b) → Calls Try.prog 25 #[.slice A1 (mkEdits a b).length k1] W (NewB (prL (mkEdits a b)).length (prL (mkEdits a b)) W) := fun W S A1 k1 h1 => print_any S A1 _ k1 _ W h1 (by omega) (fun i _ => Nat.le_trans (hLb i) (by omega))
  have hParse : ∀ (W : World) (A1 : Option Addr) (k1 : Nat), RB W A1 (prL (mkEdits a b)).length (prL (mkEdits a b)) → (prL (mkEdits a b)).length ≤ k1 → Calls Try.prog 20 #[.slice A1 (prL (mkEdits a b)).length k1] W (PaPost (mkEdits a b).length (mkEdits a b) 0 W) := fun W A1 k1 h1 h2 => by
    have := parse_any A1 _ k1 _ W h1 h2 hP2
    rw [parse_mk a b (by omega) (by omega)] at this
    exact this
  have hSame : ∀ (W : World) (S S' : Nat → Prop) (A1 A2 : Option Addr) (c1 c2 : Nat), REs W S A1 (mkEdits a b).length (mkEdits a b) → REs W S' A2 (mkEdits a b).length (mkEdits a b) → Calls Try.prog 22 #[.slice A1 (mkEdits a b).length c1, .slice A2 (mkEdits a b).length c2, .func (Fn.func 24) #[] #[]] W (TrueB true W) := fun W S S' A1 A2 c1 c2 h1 h2 => sameEd_any S S' A1 A2 _ c1 c2 _ W h1 h2 (by omega)
  have hBytes : ∀ (W : World) (A1 : Option Addr) (c1 : Nat), RB W A1 m b → RB W B m b → Calls Try.prog 11 #[.slice A1 m c1, .slice B m d] W (fun e w' => e = .returned (.bool true) ∧ W = w') := fun W A1 c1 h1 h2 => by
    have := bytes_any A1 B m m c1 d b b W h1 h2
    rw [decide_eq_true (rfl : b = b)] at this
    exact this
  have hParse2 : ∀ (W : World), RB W C p raw → Calls Try.prog 20 #[.slice C p e0] W (PaPost K.length K h W) := fun W h1 => by
    have := parse_any C p e0 raw W h1 hpe (by omega)
    rw [hK] at this
    exact this
  have k1 : (h != 0) = true := by simpa using h0
  have k2 : (h == 0) = false := by simpa using h0
  unfold MkPost at hMake
  unfold ApPost at hApply
  unfold NewB at hPrint
  unfold PaPost at hParse hParse2
  unfold TrueB at hSame
  have HMake := Lib.hid hMake
  have HApply := Lib.hid hApply
  have HPrint := Lib.hid hPrint
  have HParse := Lib.hid hParse
  have HSame := Lib.hid hSame
  have HBytes := Lib.hid hBytes
  have HParse2 := Lib.hid hParse2
  clear hMake hApply hPrint hParse hSame hBytes hParse2 hK hla hlb hlc hLb hP
  generalize mkEdits a b = L at *
  generalize prL L = pl at *
  generalize pl.length = pn at *
  generalize L.length = q at *
  generalize K.length = kq at *
  go_enter Try.func8, Try.ntmps8
  go_wp2_with (first
    | (go_at_call 10; (with_reducible refine (HMake.out _ hA hB).mono ?_); rintro e w1 ⟨A1, rfl, hR1, hb1⟩)
    | (go_at_call 17; (with_reducible refine (HApply.out _ _ A1 _ (hA.below hb1) hR1).mono ?_); rintro e w2 ⟨A2, c2, rfl, ho2, hc2, hb2⟩; have hb02 := below_two hb1 hb2)
    | (go_at_call 25; (with_reducible refine (HPrint.out _ _ A1 _ (hR1.later hb2)).mono ?_); rintro e w3 ⟨A3, c3, rfl, ho3, hc3, hb3⟩; have hb03 := below_two hb02 hb3)
    | (go_at_call 20; (with_reducible refine (HParse.out _ A3 _ ho3.reads hc3).mono ?_); rintro e w4 ⟨A4, c4, rfl, hR4, hc4, hb4⟩; have hb04 := below_two hb03 hb4; have hR14 := ((hR1.later hb2).later hb3).later hb4; have ho24 := (ho2.below hb3).below hb4)
    | (go_at_call 9; (with_reducible refine (awake14_any _).mono ?_); rintro e w5 ⟨rfl, hb5⟩; have hb05 := below_two hb04 hb5; have ho25 := ho24.below hb5)
    | (go_at_call 11; (with_reducible refine (HBytes.out _ A2 _ ho25.reads (hB.below hb05)).mono ?_); rintro e w5' ⟨rfl, rfl⟩)
    | (go_at_call 22; (with_reducible refine (HSame.out _ _ _ A1 A4 _ _ (hR14.later hb5) (hR4.later hb5)).mono ?_); rintro e w6 ⟨rfl, hb6⟩; have hb06 := below_two hb05 hb6; have ho26 := ho25.below hb6; have hR46 := (hR4.later hb5).later hb6)
    | (go_at_call 27; (with_reducible refine (spoil_any A2 _ _ _ _ _ ho26 (by omega)).mono ?_); rintro e w7 ⟨rfl, ⟨ys7, ho7⟩, hg7⟩; have hb07 := hb06.grown hg7 hb06.size (fun k hk => Nat.le_trans hb1.size (ho26.own k hk).1); have hR47 := hR46.grown hg7 (fun g hg e => absurd (ho2.own g e.symm).2 (Nat.not_lt.2 (Nat.le_trans hb3.size hg))))
    | (go_at_call 17; (with_reducible refine (HApply.out _ _ A4 _ (hA.below hb07) hR47).mono ?_); rintro e w8 ⟨A8, c8, rfl, ho8, hc8, hb8⟩; have hb08 := below_two hb07 hb8)
    | (go_at_call 20; (with_reducible refine (HParse2.out _ (hC.below hb08)).mono ?_); rintro e w9 ⟨A9, c9, rfl, hR9, hc9, hb9⟩; have hb09 := below_two hb08 hb9; have ho89 := ho8.below hb9)
    | (go_at_call 11; (with_reducible refine (HBytes.out _ A8 _ ho89.reads (hB.below hb09)).mono ?_); rintro e w9' ⟨rfl, rfl⟩))
  go_ret
  exact ⟨rfl, hb09⟩
set_option maxRecDepth 100000 in
set_option maxHeartbeats 4000000 in
theorem back_good (A : Option Addr) (n c : Nat) (a : List Int) (B : Option Addr) (m d : Nat) (b : List Int) (C : Option Addr) (p e0 : Nat) (raw : List Int) (w : World) (hA : RB w A n a) (hnc : n ≤ c) (hB : RB w B m b) (hmd : m ≤ d) (hC : RB w C p raw) (hpe : p ≤ e0) (hn : n ≤ 1500) (hm : m ≤ 1500) (hp : p ≤ 1500) (K : List Ed) (h : Int) (hK : parseR raw = (K, h)) (h0 : h = 0) :
    Calls Try.prog 8 #[.slice A n c, .slice B m d, .slice C p e0] w (BackPost w) := by
  have e1 : ¬ ((1500 : Int) < n) := by omega
  have e2 : ¬ ((1500 : Int) < m) := by omega
  have e3 : ¬ ((1500 : Int) < p) := by omega
  have hla := hA.len
  have hlb := hB.len
  have hlc := hC.len
  have hq := mk_len a b
  have hLb := mk_blen a b
  have hP := prTo_length_le (l := mkEdits a b) (M := 1500) (fun i _ => Nat.le_trans (hLb i) (by omega)) (mkEdits a b).length (Nat.le_refl _)
  have hP2 : (prL (mkEdits a b)).length ≤ 100000 := by
    have : (mkEdits a b).length * (12 + 1500) ≤ 1 * (12 + 1500) := Nat.mul_le_mul_right _ hq
    unfold prL
    omega
  have hMake : ∀ W : World, RB W A n a → RB W B m b → Calls Try.prog 10 #[.slice A n c, .slice B m d] W (MkPost (mkEdits a b).length (mkEdits a b) W) := fun W h1 h2 => (make_any A B n m c d a b W h1 h2 hnc hmd (by omega) (by omega)).mono (by
    rintro e w' ⟨A', k, rfl, hr, hb⟩
    obtain rfl : k = (mkEdits a b).length := hr.1.symm
    exact ⟨A', rfl, hr, hb⟩)
  have hApply : ∀ (W : World) (S : Nat → Prop) (A1 : Option Addr) (k1 : Nat), RB W A n a → REs W S A1 (mkEdits a b).length (mkEdits a b) → Calls Try.prog 17 #[.slice A n c, .slice A1 (mkEdits a b).length k1] W (ApPost m b W) := fun W S A1 k1 h1 h2 => (apply_any A n c a S A1 _ k1 (mkEdits a b) W h1 hnc (by omega) h2 (by omega) (fun i _ => Nat.le_trans (hLb i) (by omega))).mono (by
    rw [apply_mk a b (by omega)]
    rintro e w' ⟨A2, c2, rfl, ho, hc, hb⟩
    simp only [hlb] at *
    exact ⟨A2, c2, rfl, ho, hc, hb⟩)
  have hPrint : ∀ (W : World) (S : Nat → Prop) (A1 : Option Addr) (k1 : Nat), REs W S A1 (mkEdits a b).length (mkEdits a b) → Calls Try.prog 25 #[.slice A1 (mkEdits a b).length k1] W (NewB (prL (mkEdits a b)).length (prL (mkEdits a b)) W) := fun W S A1 k1 h1 => print_any S A1 _ k1 _ W h1 (by omega) (fun i _ => Nat.le_trans (hLb i) (by omega))
  have hParse : ∀ (W : World) (A1 : Option Addr) (k1 : Nat), RB W A1 (prL (mkEdits a b)).length (prL (mkEdits a b)) → (prL (mkEdits a b)).length ≤ k1 → Calls Try.prog 20 #[.slice A1 (prL (mkEdits a b)).length k1] W (PaPost (mkEdits a b).length (mkEdits a b) 0 W) := fun W A1 k1 h1 h2 => by
    have := parse_any A1 _ k1 _ W h1 h2 hP2
    rw [parse_mk a b (by omega) (by omega)] at this
    exact this
  have hSame : ∀ (W : World) (S S' : Nat → Prop) (A1 A2 : Option Addr) (c1 c2 : Nat), REs W S A1 (mkEdits a b).length (mkEdits a b) → REs W S' A2 (mkEdits a b).length (mkEdits a b) → Calls Try.prog 22 #[.slice A1 (mkEdits a b).length c1, .slice A2 (mkEdits a b).length c2, .func (Fn.func 24) #[] #[]] W (TrueB true W) := fun W S S' A1 A2 c1 c2 h1 h2 => sameEd_any S S' A1 A2 _ c1 c2 _ W h1 h2 (by omega)
  have hBytes : ∀ (W : World) (A1 : Option Addr) (c1 : Nat), RB W A1 m b → RB W B m b → Calls Try.prog 11 #[.slice A1 m c1, .slice B m d] W (fun e w' => e = .returned (.bool true) ∧ W = w') := fun W A1 c1 h1 h2 => by
    have := bytes_any A1 B m m c1 d b b W h1 h2
    rw [decide_eq_true (rfl : b = b)] at this
    exact this
  have hParse2 : ∀ (W : World), RB W C p raw → Calls Try.prog 20 #[.slice C p e0] W (PaPost K.length K h W) := fun W h1 => by
    have := parse_any C p e0 raw W h1 hpe (by omega)
    rw [hK] at this
    exact this
  subst h0
  have hraw : prL K = raw := by
    have := parse_back raw.length [] raw K hC.byts (Nat.le_refl _) hK
    rw [this]
    rfl
  have hge := prTo_ge K K.length
  have hpl : (prTo K K.length).length = p := by
    have : prTo K K.length = raw := hraw
    rw [this, hlc]
  rw [hpl] at hge
  have hPrint2 : ∀ (W : World) (S : Nat → Prop) (A1 : Option Addr) (k1 : Nat), REs W S A1 K.length K → Calls Try.prog 25 #[.slice A1 K.length k1] W (NewB p raw W) := fun W S A1 k1 h1 => by
    have := print_any S A1 _ k1 _ W h1 (by omega) (fun i hi => Nat.le_trans (hge.2 i hi) (by omega))
    rw [hraw, hlc] at this
    exact this
  have hBytes2 : ∀ (W : World) (A1 : Option Addr) (c1 : Nat), RB W A1 p raw → RB W C p raw → Calls Try.prog 11 #[.slice A1 p c1, .slice C p e0] W (fun e w' => e = .returned (.bool true) ∧ W = w') := fun W A1 c1 h1 h2 => by
    have := bytes_any A1 C p p c1 e0 raw raw W h1 h2
    rw [decide_eq_true (rfl : raw = raw)] at this
    exact this
  unfold NewB at hPrint2
  have HPrint2 := Lib.hid hPrint2
  have HBytes2 := Lib.hid hBytes2
  clear hPrint2 hBytes2 hraw hge hpl
  unfold MkPost at hMake
  unfold ApPost at hApply
  unfold NewB at hPrint
  unfold PaPost at hParse hParse2
  unfold TrueB at hSame
  have HMake := Lib.hid hMake
  have HApply := Lib.hid hApply
  have HPrint := Lib.hid hPrint
  have HParse := Lib.hid hParse
  have HSame := Lib.hid hSame
  have HBytes := Lib.hid hBytes
  have HParse2 := Lib.hid hParse2
  clear hMake hApply hPrint hParse hSame hBytes hParse2 hK hla hlb hlc hLb hP
  generalize mkEdits a b = L at *
  generalize prL L = pl at *
  generalize pl.length = pn at *
  generalize L.length = q at *
  generalize K.length = kq at *
  go_enter Try.func8, Try.ntmps8
  go_wp2_with (first
    | (go_at_call 10; (with_reducible refine (HMake.out _ hA hB).mono ?_); rintro e w1 ⟨A1, rfl, hR1, hb1⟩)
    | (go_at_call 17; (with_reducible refine (HApply.out _ _ A1 _ (hA.below hb1) hR1).mono ?_); rintro e w2 ⟨A2, c2, rfl, ho2, hc2, hb2⟩; have hb02 := below_two hb1 hb2)
    | (go_at_call 25; (with_reducible refine (HPrint.out _ _ A1 _ (hR1.later hb2)).mono ?_); rintro e w3 ⟨A3, c3, rfl, ho3, hc3, hb3⟩; have hb03 := below_two hb02 hb3)
    | (go_at_call 20; (with_reducible refine (HParse.out _ A3 _ ho3.reads hc3).mono ?_); rintro e w4 ⟨A4, c4, rfl, hR4, hc4, hb4⟩; have hb04 := below_two hb03 hb4; have hR14 := ((hR1.later hb2).later hb3).later hb4; have ho24 := (ho2.below hb3).below hb4)
    | (go_at_call 9; (with_reducible refine (awake14_any _).mono ?_); rintro e w5 ⟨rfl, hb5⟩; have hb05 := below_two hb04 hb5; have ho25 := ho24.below hb5)
    | (go_at_call 11; (with_reducible refine (HBytes.out _ A2 _ ho25.reads (hB.below hb05)).mono ?_); rintro e w5' ⟨rfl, rfl⟩)
    | (go_at_call 22; (with_reducible refine (HSame.out _ _ _ A1 A4 _ _ (hR14.later hb5) (hR4.later hb5)).mono ?_); rintro e w6 ⟨rfl, hb6⟩; have hb06 := below_two hb05 hb6; have ho26 := ho25.below hb6; have hR46 := (hR4.later hb5).later hb6)
    | (go_at_call 27; (with_reducible refine (spoil_any A2 _ _ _ _ _ ho26 (by omega)).mono ?_); rintro e w7 ⟨rfl, ⟨ys7, ho7⟩, hg7⟩; have hb07 := hb06.grown hg7 hb06.size (fun k hk => Nat.le_trans hb1.size (ho26.own k hk).1); have hR47 := hR46.grown hg7 (fun g hg e => absurd (ho2.own g e.symm).2 (Nat.not_lt.2 (Nat.le_trans hb3.size hg))))
    | (go_at_call 17; (with_reducible refine (HApply.out _ _ A4 _ (hA.below hb07) hR47).mono ?_); rintro e w8 ⟨A8, c8, rfl, ho8, hc8, hb8⟩; have hb08 := below_two hb07 hb8)
    | (go_at_call 20; (with_reducible refine (HParse2.out _ (hC.below hb08)).mono ?_); rintro e w9 ⟨A9, c9, rfl, hR9, hc9, hb9⟩; have hb09 := below_two hb08 hb9; have ho89 := ho8.below hb9)
    | (go_at_call 11; (with_reducible refine (HBytes.out _ A8 _ ho89.reads (hB.below hb09)).mono ?_); rintro e w9' ⟨rfl, rfl⟩)
    | (go_at_call 25; (with_reducible refine (HPrint2.out _ _ A9 _ hR9).mono ?_); rintro e w10 ⟨A10, c10, rfl, ho10, hc10, hb10⟩; have hb010 := below_two hb09 hb10)
    | (go_at_call 11; (with_reducible refine (HBytes2.out _ A10 _ ho10.reads (hC.below hb010)).mono ?_); rintro e w10' ⟨rfl, rfl⟩))
  go_ret
  exact ⟨rfl, hb010⟩
set_option maxRecDepth 100000 in
set_option maxHeartbeats 2000000 in
theorem back_walk (A : Option Addr) (n c : Nat) (a : List Int) (B : Option Addr) (m d : Nat) (b : List Int) (C : Option Addr) (p e0 : Nat) (raw : List Int) (w : World) (hA : RB w A n a) (hnc : n ≤ c) (hB : RB w B m b) (hmd : m ≤ d) (hC : RB w C p raw) (hpe : p ≤ e0) :
    Calls Try.prog 8 #[.slice A n c, .slice B m d, .slice C p e0] w (fun e w' => e = .returned (.bool true) ∧ Below w.heap.size w w') := by
  by_cases c1 : 1500 < n
  · have e1 : (1500 : Int) < n := by omega
    go_enter Try.func8, Try.ntmps8
    go_wp2_with (go_at_call 9; (with_reducible refine (awake14_any _).mono ?_); rintro e w1 ⟨rfl, hb1⟩)
    go_ret
    exact ⟨rfl, hb1⟩
  · by_cases c2 : 1500 < m
    · have e1 : ¬ ((1500 : Int) < n) := by omega
      have e2 : (1500 : Int) < m := by omega
      go_enter Try.func8, Try.ntmps8
      go_wp2_with (go_at_call 9; (with_reducible refine (awake14_any _).mono ?_); rintro e w1 ⟨rfl, hb1⟩)
      go_ret
      exact ⟨rfl, hb1⟩
    · by_cases c3 : 1500 < p
      · have e1 : ¬ ((1500 : Int) < n) := by omega
        have e2 : ¬ ((1500 : Int) < m) := by omega
        have e3 : (1500 : Int) < p := by omega
        go_enter Try.func8, Try.ntmps8
        go_wp2_with (go_at_call 9; (with_reducible refine (awake14_any _).mono ?_); rintro e w1 ⟨rfl, hb1⟩)
        go_ret
        exact ⟨rfl, hb1⟩
      · by_cases h0 : (parseR raw).2 = 0
        · exact back_good A n c a B m d b C p e0 raw w hA hnc hB hmd hC hpe (by omega) (by omega) (by omega) (parseR raw).1 (parseR raw).2 rfl h0
        · exact back_bad A n c a B m d b C p e0 raw w hA hnc hB hmd hC hpe (by omega) (by omega) (by omega) (parseR raw).1 (parseR raw).2 rfl h0
end Go.Proofs.Ytflmaendnbokaaa
