/-
  TapeHeld.
-/
import Derived.Test.YtdhegecnhglplaaTdR
import Derived.Test.YtdhegecnhglplaaTpB0
set_option linter.unusedVariables false
set_option linter.unusedSimpArgs false
namespace Go.Proofs.Ytdhegecnhglplaa
open Go.RowKit

/-- what is held begins so. -/
def HoldsB (xs : List Int) (s : Tp) : Prop := xs <+: s.b ∧ xs.length ≤ s.held ∧ s.held ≤ s.b.length
theorem holds_take {xs b : List Int} {n : Nat} (h : xs <+: b) (hn : xs.length ≤ n) : xs <+: b.take n := by
  obtain ⟨t, rfl⟩ := h
  rw [List.take_append, List.take_of_length_le hn]
  exact ⟨_, rfl⟩
theorem HoldsB.deed {xs : List Int} {s : Tp} {r : Int} {pass leave : Tp → Tp} (h : HoldsB xs s) (hp : ∀ t, HoldsB xs t → HoldsB xs (pass t)) (hl : ∀ t, HoldsB xs t → HoldsB xs (leave t)) : HoldsB xs (s.deed r pass leave).2 := by
  unfold Tp.deed
  split
  · exact h
  · split
    · exact h
    · split
      · exact hl _ h
      · exact hp _ h
theorem HoldsB.doIt {xs : List Int} {s : Tp} (h : HoldsB xs s) (d : DeedL) (h2 : d.what ≠ 2) (h3 : d.what ≠ 3) : HoldsB xs (s.doIt d) := by
  have hwr : ∀ y t, HoldsB xs t → HoldsB xs (Tp.wr y t) := fun y t ht => ⟨ht.1.trans (List.prefix_append _ _), ht.2.1, by have := ht.2.2; unfold Tp.wr; simp; omega⟩
  have hcut : ∀ t n, HoldsB xs t → xs.length ≤ n → n ≤ t.b.length → HoldsB xs (t.cutTo n) := fun t n ht hn hn2 => ⟨holds_take ht.1 hn, hn, by unfold Tp.cutTo; simp; omega⟩
  unfold Tp.doIt
  split
  · exact h
  · split
    · exact h.deed (hwr _) (hwr _)
    · split
      · exact h.deed (fun t ht => ⟨ht.1, ht.1.length_le, Nat.le_refl _⟩) (fun t ht => ht)
      · split
        · exact h
        · split
          · exact h
          · split
            · rw [Tp.fall_eq]
              exact hcut s.sink _ h (by have := h.2.1; show xs.length ≤ s.held + s.stay d.n; omega) (Tp.stay_le h.2.2)
            · split
              · unfold Tp.rise
                split
                · exact hcut s _ h h.2.1 h.2.2
                · exact h
              · exact h
theorem strOfNums_size (xs : List Int) : (strOfNums xs).size = xs.length := by
  show (strOfNums xs).data.size = _
  have := congrArg List.length (strOfNums_data xs)
  simpa using this
/-- Begins, of texts of bytes. -/
theorem begins_any (xs ys : List Int) (w : World) (h : xs <+: ys) (hy : ys.length ≤ 1000000000) :
    Calls Try.prog 24 #[.string (strOfNums ys), .string (strOfNums xs)] w (fun e w' => e = .returned (.bool true) ∧ w = w') := by
  have hl := h.length_le
  have s1 := strOfNums_size xs
  have s2 := strOfNums_size ys
  have he : (strOfNums ys).extract 0 xs.length = strOfNums xs := by
    obtain ⟨t, rfl⟩ := h
    apply ByteArray.ext
    apply Array.ext'
    rw [ByteArray.data_extract, Array.toList_extract, strOfNums_data, strOfNums_data]
    simp
  generalize strOfNums ys = sy at *
  generalize strOfNums xs = sx at *
  go_enter Try.func24, Try.ntmps24
  go_wp2
  go_ret
  exact ⟨rfl, rfl⟩
theorem rm_hold {R h : Nat} {b : List Int} : (rm R b h).hold = (0, rm R b b.length) := by
  unfold Tp.hold Tp.deed rm
  simp only []
  rw [if_neg (by simp), if_neg (by simp)]
  simp [Tp.hd, Tp.burn]
  omega
theorem Tp.Ok.rm' {R : Nat} {b : List Int} {h N : Nat} (hb : Byts b) (hh : h ≤ b.length) (hR : R ≤ 16777216) (hl : b.length ≤ N) : (rm R b h).Ok N :=
  ⟨hb, hh, by simp [rm], by simp [rm]; omega, by simp [rm], by simp [rm], hl, by simp [rm]⟩
set_option maxRecDepth 100000 in
set_option maxHeartbeats 8000000 in
theorem tapeHeld_walk (A : Option Addr) (n c : Nat) (xs : List Int) (B : Option Addr) (k d : Nat) (ds : List DeedL) (w : World) (h : RB w A n xs) (hnc : n ≤ c) (h' : RDs w B k ds) (hkd : k ≤ d) (hd : d ≤ 9223372036854775807) :
    Calls Try.prog 5 #[.slice A n c, .slice B k d] w (fun e w' => e = .returned (.bool true) ∧ Below w.heap.size w w') := by
  by_cases hb1 : 300 < n
  · have e1 : (300 : Int) < n := by omega
    go_enter Try.func5, Try.ntmps5
    go_wp2_with (go_at_call 9; (with_reducible refine (awake04_any _).mono ?_); rintro e w1 ⟨rfl, hb1⟩)
    go_ret
    exact ⟨rfl, hb1⟩
  · have e1 : ¬ ((300 : Int) < n) := by omega
    have hl := h.len
    have hby := h.byts
    have kn1 := tpNew_any 16777216 w
    have kn2 := fun W => rtNew_any 16777216 W
    unfold NewTp at kn1
    unfold NewRt at kn2
    have hrm : Tp.new.setRoom 16777216 = rm 16777216 [] 0 := rm_new 16777216 (Nat.le_refl _)
    rw [hrm] at kn1 kn2
    have o0 : (rm 16777216 [] 0).Ok 400000000 := Tp.Ok.rm' Byts.nil (by simp) (Nat.le_refl _) (by simp)
    have o1 : (rm 16777216 xs 0).Ok 400000000 := Tp.Ok.rm' hby (by simp) (Nat.le_refl _) (by omega)
    have hw1 : (rm 16777216 [] 0).write xs = (0, rm 16777216 xs 0) := by rw [rm_write (by simp; omega)]; rfl
    have hh1 : (rm 16777216 xs 0).hold = (0, rm 16777216 xs n) := by rw [rm_hold, hl]
    have okn : (rm 16777216 xs n).Ok (300 + 1601 * 0) := Tp.Ok.rm' hby (by omega) (Nat.le_refl _) (by omega)
    have hho : HoldsB xs (rm 16777216 xs n) := ⟨List.prefix_refl _, by rw [hl]; exact Nat.le_refl _, by rw [show (rm 16777216 xs n).held = n from rfl, show (rm 16777216 xs n).b = xs from rfl, hl]; exact Nat.le_refl _⟩
    have kw1 := fun (W : World) (g : Nat) (P : Nat → Prop) (hW : TpAt W P g (rm 16777216 [] 0)) (hr : RB W A n xs) => tpWrite_any g _ _ _ 1 1 [xs] (W.alloc (.cells #[.slice A n c] 28)) (hW.below ((Below.refl _ _).alloc (Nat.le_refl _) _)) o0 (RBs.oneNew hr hnc) (Nat.le_refl _) (by omega) (by simp; omega)
    rw [show [xs].flatten = xs from by simp, hw1] at kw1
    have kh1 := fun (W : World) (g : Nat) (P : Nat → Prop) (hW : TpAt W P g (rm 16777216 xs 0)) => tpHold_any g _ P W hW o1
    rw [hh1] at kh1
    have kw2 := fun (W : World) (g : Nat) (P : Nat → Prop) (hW : RtAt W P g (rm 16777216 [] 0)) (hr : RB W A n xs) => rtWrite_any g _ P A n c xs W hW o0 hr hnc (by omega)
    rw [hw1] at kw2
    have kh2 := fun (W : World) (g : Nat) (P : Nat → Prop) (hW : RtAt W P g (rm 16777216 xs 0)) => rtHold_any g _ P W hW o1
    rw [hh1] at kh2
    unfold TpPost at kw1 kh1
    unfold RtPost at kw2 kh2
    have HL := Lib.hid hl
    have hn3 : n ≤ 300 := by omega
    clear hrm hw1 hh1 o0 o1 hl hb1
    generalize rm 16777216 [] 0 = s0 at *
    generalize rm 16777216 xs 0 = s1 at *
    generalize rm 16777216 xs n = s2 at *
    go_enter Try.func5, Try.ntmps5
    go_wp2_with (first
      | (go_at_call 8; (with_reducible refine kn1.mono ?_); rintro e w1 ⟨g, rfl, hg0, h1, hB1⟩)
      | (go_at_call 20; (with_reducible refine (kn2 _).mono ?_); rintro e w2 ⟨g', rfl, hg0', h2', hb2⟩; have hB2 : Below w.heap.size w w2 := below_two hB1 hb2; have h2 := h1.below hb2)
      | (go_at_call 9; (with_reducible refine (awake04_any _).mono ?_); rintro e w3 ⟨rfl, hb3⟩; have h3 := h2.below hb3; have h3' := h2'.below hb3; have hB3 : Below w.heap.size w w3 := below_two hB2 hb3; have hx3 := h.below hB3; have hz1 := hB1.size; have hz2 := hb2.size; have h3a := h3.below ((Below.refl w3.heap.size w3).alloc (Nat.le_refl _) (.cells #[.slice A n c] 28)); have h3a' := h3'.below ((Below.refl w3.heap.size w3).alloc (Nat.le_refl _) (.cells #[.slice A n c] 28)); have hx3a := hx3.alloc (.cells #[.slice A n c] 28))
      | (go_at_call 10; (with_reducible refine (kw1 _ _ _ h3 hx3).mono ?_); rintro e w4 ⟨rfl, h4, hg4⟩; have h4' := h3a'.overTp h3a hg4; have hx4 := hx3a.overTp h3a hg4; have hB4 : Below w.heap.size w w4 := (hB3.alloc hB3.size _).grown hg4 (by have := hB3.size; simp; omega) (fun k hk => by cases hk; exact hg0))
      | (go_at_call 16; (with_reducible refine (kh1 _ _ _ h4).mono ?_); rintro e w5 ⟨rfl, h5, hg5⟩; have h5' := h4'.overTp h4 hg5; have hx5 := hx4.overTp h4 hg5; have hB5 : Below w.heap.size w w5 := hB4.grown hg5 hB4.size (fun k hk => by cases hk; exact hg0))
      | (go_at_call 21; (with_reducible refine (kw2 _ _ _ h5' hx5).mono ?_); rintro e w6 ⟨rfl, h6', hg6⟩; have h6 := h5.overRt h5' hg6; have hB6 : Below w.heap.size w w6 := hB5.grown hg6 hB5.size (fun k hk => by cases hk; omega))
      | (go_at_call 22; (with_reducible refine (kh2 _ _ _ h6').mono ?_); rintro e w7 ⟨rfl, h7', hg7⟩; have h7 := h6.overRt h6' hg7; have hB7 : Below w.heap.size w w7 := hB6.grown hg7 hB6.size (fun k hk => by cases hk; omega)))
    have hgw' : w.heap.size ≤ g' := by omega
    have hst : Both w7 g g' s2 := ⟨⟨_, h7⟩, _, h7'⟩
    clear h1 h2 h3 h2' h3' h3a h3a' hx3a h4 h4' h5 h5' h6 h6' h7 h7' hx3 hx4 hx5 kn1 kn2 kw1 kh1 kw2 kh2 hB1 hB2 hB3 hB4 hB5 hB6 hb2 hb3 hg4 hg5 hg6 hg7
    have hlen := h'.1
    go_loopw [7] (fun i wr => ∃ (j : Nat) (s : Tp), j ≤ k ∧ j ≤ 60 ∧ i = .int .i64 j ∧ Both wr g g' s ∧ s.Ok (300 + 1601 * j) ∧ HoldsB xs s ∧ Below w.heap.size w wr) (fun i _ => 61 - (intOf i).toNat)
    case atStart => exact ⟨0, s2, by omega, by omega, rfl, hst, okn, hho, hB7⟩
    case round =>
      obtain ⟨j, s, hj, hj60, rfl, hbo, hok, hhs, hB⟩ := hrel
      have HH := Lib.hid hhs
      clear hhs hho
      by_cases h1 : j < k ∧ j < 60
      · obtain ⟨h1, h2⟩ := h1
        have i2 : (j : Int) < 60 := by omega
        have hrd := h'.below hB
        obtain ⟨_, b, off, hA, hcells⟩ := hrd
        obtain rfl := hA (by omega)
        have hdj : ds[j]? = some ds[j] := List.getElem?_eq_getElem (by omega)
        generalize ds[j] = dd at hdj
        obtain ⟨hdn, hdb, Ai, ki, ci, c0, c1, c2, hki, hci, hrb⟩ := hcells j dd hdj
        clear hcells hdj
        by_cases hw2 : dd.what = 2
        · rw [hw2] at c0
          clear hw2
          go_wp2
          go_roundw
          case rel => exact ⟨j + 1, s, by omega, by omega, by go_num, hbo, hok.mono (by omega), HH.out, hB⟩
          case measure => simp [intOf]; omega
        · by_cases hw3 : dd.what = 3
          · rw [hw3] at c0
            clear hw3 hw2
            go_wp2
            go_roundw
            case rel => exact ⟨j + 1, s, by omega, by omega, by go_num, hbo, hok.mono (by omega), HH.out, hB⟩
            case measure => simp [intOf]; omega
          · have hhs2 := HH.out.doIt dd hw2 hw3
            have k2 : (dd.what == 2) = false := by simpa using hw2
            have k3 : (dd.what == 3) = false := by simpa using hw3
            have hbd : Both wr.drew g g' s := hbo.below (drewN_below wr 1)
            have hrbd : RBs wr.drew Ai ki dd.parts := hrb.below (drewN_below wr 1)
            have hBd : Below w.heap.size w wr.drew := below_drewN hB 1
            have kd := do_all w.heap.size g g' s dd Ai ki ci wr.drew hbd (hok.mono (by omega)) hrbd hki (by omega) hBd.size hg0 hgw'
            have hok2 := hok.doIt dd hdb hdn
            have i5 : ¬ (((s.doIt dd).held : Int) < n) := by have := hhs2.2.1; have := HL.out; omega
            unfold DoPost at kd
            generalize s.doIt dd = s2' at *
            have HS2 := Lib.hid hhs2
            clear hw2 hw3 hbo hok hhs2 hbd
            go_wp2
            go_region_with (first
              | (go_at_call 23; (with_reducible refine kd.mono ?_); rintro e w4 ⟨rfl, ⟨⟨P4, hT4⟩, Q4, hR4⟩, hb4⟩; have hB4 : Below w.heap.size w w4 := hBd.trans hb4; have kb := tpBytes_any g s2' _ w4 hT4 (Nat.le_trans hok2.len (by omega)); have cx4 := fun c => run_string_RB (P := Try.prog) (h.below hB4) 28 5 9 c Try.underlying28 Try.underlying5 Try.underlying9)
              | (go_at_call 12; (with_reducible refine kb.mono ?_); rintro e w5 ⟨V5, C5, rfl, ho5, hc5, hb5⟩; have hB5 : Below w.heap.size w w5 := below_two hB4 hb5; have hT5 := hT4.below hb5; have hR5 := hR4.below hb5; have ca := fun c => run_string_RB (P := Try.prog) (OB.reads ho5) 28 5 9 c Try.underlying28 Try.underlying5 Try.underlying9; have cx := fun c => run_string_RB (P := Try.prog) (h.below hB5) 28 5 9 c Try.underlying28 Try.underlying5 Try.underlying9; have kbeg := begins_any xs s2'.b w5 HS2.out.1 (Nat.le_trans hok2.len (by omega)); have khe := tpHeld_any g s2' _ w5 hT5)
              | (go_at_call 24; (with_reducible refine kbeg.mono ?_); rintro e w9 ⟨rfl, rfl⟩)
              | (go_at_call 14; (with_reducible refine khe.mono ?_); rintro e w9 ⟨rfl, rfl⟩))
            all_goals
              go_wp2
              go_roundw
              case rel => exact ⟨j + 1, s2', by omega, by omega, by go_num, ⟨⟨_, hT5⟩, _, hR5⟩, hok2, HS2.out, hB5⟩
              case measure => simp [intOf]; omega
      · by_cases h2 : j < k
        · obtain rfl : j = 60 := by omega
          have i2 : (60 : Int) < k := by omega
          clear h1
          go_wp2
          go_ret
          exact ⟨rfl, hB⟩
        · have i2 : ¬ ((j : Int) < k) := by omega
          clear h1
          go_wp2
          go_ret
          exact ⟨rfl, hB⟩
end Go.Proofs.Ytdhegecnhglplaa
