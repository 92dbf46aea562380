/-
  A text of the log: whole, or as what has changed; New, Len, Has, find, Node, Chain.
-/
import Derived.Test.YtgokompppadogaaRv2
set_option linter.unusedVariables false
set_option linter.unusedSimpArgs false
namespace Go.Proofs.Ytgokompppadogaa
open Go.RowKit

theorem meth_whole (F : Nat) (A : Option Addr) (n c : Nat) (w : World) : (method (F + 1) 93 (.agg #[.slice A n c]) "trestle/revlog.text").run Try.prog w = .ok (75, .agg #[.slice A n c]) w := by kernel_rfl
theorem meth_changed (F : Nat) (A : Option Addr) (n c : Nat) (x : Int) (w : World) : (method (F + 1) 85 (.agg #[.slice A n c, .int .i64 x]) "trestle/revlog.text").run Try.prog w = .ok (70, .agg #[.slice A n c, .int .i64 x]) w := by kernel_rfl
def TextP (t : List Int) (w : World) (e : Ending) (w' : World) : Prop := ∃ A c, e = .returned (.slice A t.length c) ∧ RB w' A t.length t ∧ t.length ≤ c ∧ Below w.heap.size w w'
theorem whole_any (B : Option Addr) (k d : Nat) (t : List Int) (x y : Value) (w : World) (h : RB w B k t) (hk : k ≤ d) : Calls Try.prog 75 #[.agg #[.slice B k d], x, y] w (TextP t w) := by
  have hl := h.len
  subst hl
  go_enter Try.func75, Try.ntmps75
  go_wp2
  go_ret
  exact ⟨B, d, rfl, h.alloc _, hk, (Below.refl _ _).alloc (Nat.le_refl _) _⟩
theorem REs.keepB {w w' : World} {B B' : Nat} {A : Option Addr} {n : Nat} {l : List Ed} (h : REs w (B ≤ ·) A n l) (hb : Below w.heap.size w w') (hB : B' ≤ B) : REs w' (B' ≤ ·) A n l := by
  refine ⟨h.1, fun hn => ?_⟩
  obtain ⟨ad, e, h1, h2⟩ := h.2 hn
  refine ⟨ad, e, Nat.le_trans hB h1, fun i hi x hx => ?_⟩
  obtain ⟨B, c, c0, c1, c2, c3, c4, c5⟩ := h2 i hi x hx
  exact ⟨B, c, cell_later hb c0, cell_later hb c1, cell_later hb c2, c3, c4.below hb, fun bd e => Nat.le_trans hB (c5 bd e)⟩
set_option maxHeartbeats 2000000 in
theorem changed_any (B : Option Addr) (k d : Nat) (a t : List Int) (g : Nat) (j : Nat) (x : Int) (w : World) (h : RB w B k (prL (mkEdits a t))) (hk : k ≤ d) (ha : a.length ≤ 1500) (ht : t.length ≤ 1500) (h0 : 0 < j) (hj : j ≤ 100000)
    (hat : ∀ w', Below w.heap.size w w' → Calls Try.prog 33 #[.pointer (some ⟨g, 0, none⟩), .int .i64 ((j : Int) - 1)] w' (TextP a w')) :
    Calls Try.prog 70 #[.agg #[.slice B k d, .int .i64 x], .pointer (some ⟨g, 0, none⟩), .int .i64 (j : Int)] w (TextP t w) := by
  have hkl := h.len
  have hp2 := mkPr_le a t ht
  have hb0 : Below w.heap.size w (w.alloc (.cells #[.slice B k d, .int .i64 x] 85)) := (Below.refl _ _).alloc (Nat.le_refl _) _
  have hpar := parse_any B k d _ _ (h.below hb0) hk (by omega)
  rw [parse_mk a t (by omega) (by omega)] at hpar
  have hml := mk_len1 a t
  have hmb := mk_blen1 a t
  have hap : ∀ (W : World) (A E : Option Addr) (c e : Nat), RB W A a.length a → a.length ≤ c → REs W (w.heap.size ≤ ·) E (mkEdits a t).length (mkEdits a t) → Calls Try.prog 72 #[.slice A a.length c, .slice E (mkEdits a t).length e] W (fun e w' => ∃ A c, e = .returned (.tuple #[.slice A t.length c, .int .i64 0]) ∧ RB w' A t.length t ∧ t.length ≤ c ∧ Below W.heap.size W w') := fun W A E c e h1 h2 h3 => by
    have := apply_any A a.length c a _ E _ e _ W h1 h2 (by omega) h3 (by omega) (fun i _ => by have := hmb i; omega)
    rw [apply_mk a t (by omega)] at this
    refine this.mono ?_
    rintro e w1 ⟨A, c, rfl, ho, hc, hb⟩
    exact ⟨A, c, rfl, ho.reads, hc, hb⟩
  have HAP := Lib.hid hap
  have HAT := Lib.hid hat
  have HPAR := Lib.hid hpar
  unfold ParsePost at HPAR
  have hjj : wrap64 ((j : Int) - 1) = (j : Int) - 1 := by unfold wrap64; omega
  clear hap hat hpar hml hmb hp2
  generalize mkEdits a t = E at *
  have hz0 : w.heap.size ≤ (w.alloc (.cells #[.slice B k d, .int .i64 x] 85)).heap.size := by simp
  go_enter Try.func70, Try.ntmps70
  go_wp2_with (first
    | (go_at_call 71; (with_reducible refine HPAR.out.mono ?_); rintro e w1 ⟨A1, c1, rfl, hr1, hc1, hb1⟩; have hb01 := below_then hb0 hz0 hb1; have HT := Lib.hid (HAT.out _ hb01))
    | (go_at_call 33; (with_reducible refine HT.out.mono ?_); rintro e w2 ⟨A2, c2, rfl, hr2, hc2, hb2⟩; have hr12 := (REs.keepB hr1 hb2 hz0); have HA := Lib.hid (HAP.out w2 A2 A1 c2 c1 hr2 hc2 hr12))
    | (go_at_call 72; (with_reducible refine HA.out.mono ?_); rintro e w3 ⟨A3, c3, rfl, hr3, hc3, hb3⟩))
  go_ret
  exact ⟨A3, c3, rfl, hr3, hc3, below_two (below_two hb01 hb2) hb3⟩
set_option maxHeartbeats 2000000 in
theorem at_step (P : Nat → Prop) (g : Nat) (L : Lg) (j : Nat) (w : World) (h : LgAt w P g L) (hj : j < L.length) (hl : L.length ≤ 100000)
    (hprev : 0 < j → ∀ w', LgAt w' P g L → Calls Try.prog 33 #[.pointer (some ⟨g, 0, none⟩), .int .i64 ((j : Int) - 1)] w' (TextP (rv L (j - 1)).text w')) :
    Calls Try.prog 33 #[.pointer (some ⟨g, 0, none⟩), .int .i64 (j : Int)] w (TextP (rv L j).text w) := by
  obtain ⟨A, n, c, mb, kv, Vs, hm⟩ := h
  have hn := hm.len
  subst hn
  obtain ⟨b, o, V, rfl, _, _, _, _, hV, B, k, d, body, hr, hkd, _, hk⟩ := hm.at_ hj
  have c0 : w.cell? ⟨g, 0, none⟩ = some (.slice (some ⟨b, o, none⟩) L.length c) := hm.blk.cell 0
  have htx := hm.inv.txt j hj
  have m1 := meth_whole
  have m2 := meth_changed
  have j0 : (0 : Int) ≤ (j : Int) := by omega
  have j1 : (j : Int) < (L.length : Int) := by omega
  rcases hk with ⟨_, rfl, rfl⟩ | ⟨hch, rfl, rfl⟩
  · have hw := whole_any B k d _ (.pointer (some ⟨g, 0, none⟩)) (.int .i64 (j : Int)) w hr hkd
    unfold TextP at hw ⊢
    clear hr
    generalize (rv L j).text = t at *
    go_enter Try.func33, Try.ntmps33
    go_wp2_with (go_at_call 75; (with_reducible refine hw.mono ?_); rintro e w1 ⟨A1, c1, rfl, hr1, hc1, hb1⟩)
    go_ret
    exact ⟨A1, c1, rfl, hr1, hc1, hb1⟩
  · have h0 := (hm.inv.chn j hj).2 hch
    have hpt := hm.inv.txt (j - 1) (by omega)
    have hw := changed_any B k d (prevT L j) _ g j (((rv L j).chain : Nat) : Int) w hr hkd hpt.2 htx.2 h0 (by omega) fun w' hb => hprev h0 w' ⟨_, _, _, _, _, _, hm.below hb⟩
    unfold TextP at hw ⊢
    clear hr hprev
    generalize (rv L j).text = t at *
    generalize (((rv L j).chain : Nat) : Int) = x at *
    go_enter Try.func33, Try.ntmps33
    go_wp2_with (go_at_call 70; (with_reducible refine hw.mono ?_); rintro e w1 ⟨A1, c1, rfl, hr1, hc1, hb1⟩)
    go_ret
    exact ⟨A1, c1, rfl, hr1, hc1, hb1⟩
theorem at_any (P : Nat → Prop) (g : Nat) (L : Lg) (hl : L.length ≤ 100000) : ∀ (j : Nat) (w : World), LgAt w P g L → j < L.length → Calls Try.prog 33 #[.pointer (some ⟨g, 0, none⟩), .int .i64 (j : Int)] w (TextP (rv L j).text w)
  | 0, w, h, hj => at_step P g L 0 w h hj hl fun h0 => absurd h0 (by omega)
  | j + 1, w, h, hj => at_step P g L (j + 1) w h hj hl fun _ w' h' => by
    have := at_any P g L hl j w' h' (by omega)
    rw [show (((j + 1 : Nat) : Int) - 1) = (j : Int) from by omega, show j + 1 - 1 = j from by omega]
    exact this
/-! ### what is asked of a log -/
theorem new_any (w : World) : Calls Try.prog 6 #[] w (fun e w' => ∃ g, e = .returned (.pointer (some ⟨g, 0, none⟩)) ∧ LgAt w' (w.heap.size ≤ ·) g [] ∧ Below w.heap.size w w') := by
  have hmm := @run_makeMap Try.prog
  go_enter Try.func6, Try.ntmps6
  go_wp2
  go_ret
  have hb : Below w.heap.size w ((w.alloc (.map #[] 0)).alloc (.cells #[.slice none 0 0, .map (some w.heap.size)] 65)) := ((Below.refl _ _).alloc (Nat.le_refl _) _).alloc (by simp) _
  refine ⟨_, rfl, ⟨none, 0, 0, w.heap.size, [], [], ?_⟩, hb⟩
  have hB := Blk.new (w.alloc (.map #[] 0)) 65 #[.slice none 0 0, .map (some w.heap.size)]
  rw [World.size_alloc] at hB
  exact ⟨hB, (IMap.made w).alloc _, LInv.nil, rfl, rfl, Nat.le_refl _, fun h => absurd h (by omega), fun _ => ⟨rfl, rfl⟩, by simp, Nat.le_refl _, rfl, fun j hj => absurd hj (by omega), fun j hj => absurd hj (by omega)⟩
def IntP (x : Int) (w : World) (e : Ending) (w' : World) : Prop := e = .returned (.int .i64 x) ∧ Below w.heap.size w w'
theorem len_nil (w : World) : Calls Try.prog 14 #[.pointer none] w (IntP 0 w) := by
  go_enter Try.func14, Try.ntmps14
  go_wp2
  go_ret
  exact ⟨rfl, Below.refl _ _⟩
theorem len_any (P : Nat → Prop) (g : Nat) (L : Lg) (w : World) (h : LgAt w P g L) : Calls Try.prog 14 #[.pointer (some ⟨g, 0, none⟩)] w (IntP (L.length : Nat) w) := by
  obtain ⟨A, n, c, mb, kv, Vs, hm⟩ := h
  have hn := hm.len
  subst hn
  have c0 : w.cell? ⟨g, 0, none⟩ = some (.slice A L.length c) := hm.blk.cell 0
  go_enter Try.func14, Try.ntmps14
  go_wp2
  go_ret
  exact ⟨rfl, Below.refl _ _⟩
set_option maxRecDepth 100000 in
set_option maxHeartbeats 1000000 in
theorem has_any (P : Nat → Prop) (g : Nat) (L : Lg) (x : IdL) (w : World) (h : LgAt w P g L) (hx : IsId x) :
    Calls Try.prog 26 #[.pointer (some ⟨g, 0, none⟩), ida x] w (fun e w' => e = .returned (.bool (hasL L x)) ∧ Below w.heap.size w w') := by
  obtain ⟨A, n, c, mb, kv, Vs, hm⟩ := h
  have hu := idTy
  have hsz := idSz hx
  have hb0 : Below w.heap.size w (w.alloc (.cells (bv x).toArray 27)).drew := below_drewN ((Below.refl _ _).alloc (Nat.le_refl _) _) 1
  have h1 := hm.below hb0
  have hr : (w.alloc (.cells (bv x).toArray 27)).drew.rangeAt w.heap.size 0 (bv x) := ((Blk.new w 27 (bv x).toArray).drew).range
  have c1 : (w.alloc (.cells (bv x).toArray 27)).drew.cell? ⟨g, 1, none⟩ = some (.map (some mb)) := h1.blk.cell 1
  have hlk := h1.look hx
  go_enter Try.func26, Try.ntmps26
  go_wp2
  go_region_held3 (fun w' => w'.cell? ⟨g, 1, none⟩ = some (.map (some mb)) ∧ w'.rangeAt w.heap.size 0 (bv x) ∧ (Instr.lookup 62 (.map (some mb)) (ida x) true).run Try.prog w' = .ok (.tuple #[.int .i64 (atI L x), .bool (hasL L x)]) w')
    (exact ⟨c1, hr, hlk⟩) (fail)
  go_wp2
  go_ret
  exact ⟨rfl, hb0⟩
end Go.Proofs.Ytgokompppadogaa
