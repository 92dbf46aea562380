/-
  The log: May, where the node is there, and the text is another. (Printed by gen/rv7.py.)
-/
import Derived.Test.YtgokompppadogaaRv9
set_option linter.unusedVariables false
set_option linter.unusedSimpArgs false
namespace Go.Proofs.Ytgokompppadogaa
open Go.RowKit

set_option maxRecDepth 100000 in
set_option maxHeartbeats 4000000 in
theorem may_text (P : Nat → Prop) (g : Nat) (L : Lg) (A : Option Addr) (n c : Nat) (t p1 p2 : List Int) (w : World) (h : LgAt w P g L) (hA : RB w A n t) (hnc : n ≤ c) (hn : n ≤ 1500) (h1 : IsId p1) (h2 : IsId p2) (hll : L.length ≤ 100000) (k : Nat) (hl1 : lacksL L p1 = false) (hl2 : lacksL L p2 = false) (hp : posL L (nodeV t p1 p2) = some k) (hd1 : (rv L k).text ≠ t) :
    Calls Try.prog 25 #[.pointer (some ⟨g, 0, none⟩), .slice A n c, ida p1, ida p2] w (IntP 7 w) := by
  have hb0 := maW_below g p1 p2 w
  obtain ⟨mb, hS⟩ := maS (X := nodeV t p1 p2) h h1 h2 (nodeV_id _ _ _)
  have HN := Lib.hid (show ∀ W, Below w.heap.size w W → Calls Try.prog 19 #[.slice A n c, ida p1, ida p2] W (IdP (nodeV t p1 p2) W) from fun W hW => node_any A n c t p1 p2 W (hA.below hW) hnc (by omega) h1 h2)
  have HL1 := Lib.hid (show ∀ W, Below (maW g p1 p2 w).heap.size (maW g p1 p2 w) W → Calls Try.prog 38 #[ida p1, .pointer (some ⟨w.heap.size, 0, none⟩)] W (BoolP false W) from fun W hW => by
    have := lacks_any P g w.heap.size L p1 W ((h.below hb0).below hW) h1 (hS W hW).box
    rwa [hl1] at this)
  have HL2 := Lib.hid (show ∀ W, Below (maW g p1 p2 w).heap.size (maW g p1 p2 w) W → Calls Try.prog 38 #[ida p2, .pointer (some ⟨w.heap.size, 0, none⟩)] W (BoolP false W) from fun W hW => by
    have := lacks_any P g w.heap.size L p2 W ((h.below hb0).below hW) h2 (hS W hW).box
    rwa [hl2] at this)
  have hq : hasL L (nodeV t p1 p2) = true := (atI_of hp).1
  have hv : atI L (nodeV t p1 p2) = (k : Nat) := by unfold atI; rw [hp]; rfl
  rw [hq, hv] at hS
  have hk := (posL_some hp).1
  have hrow := maK h hk
  obtain ⟨b, o, cc, hR⟩ := hrow
  have HR := Lib.hid (show ∀ W, Below w.heap.size w W → MaK g L.length (rv L k).p1 (rv L k).p2 k b o cc W from hR)
  have HAT := Lib.hid (show ∀ W, Below w.heap.size w W → Calls Try.prog 33 #[.pointer (some ⟨g, 0, none⟩), .int .i64 (k : Nat)] W (TextP (rv L k).text W) from fun W hW => at_any P g L hll k W (h.below hW) hk)
  unfold TextP at HAT
  have HEQ := Lib.hid (show ∀ (W : World) (A' : Option Addr) (c' : Nat), RB W A' (rv L k).text.length (rv L k).text → RB W A n t → Calls Try.prog 39 #[.slice A' (rv L k).text.length c', .slice A n c] W (fun e w' => e = .returned (.bool (false)) ∧ W = w') from fun W A' c' r1 r2 => by
    have := equal_any A' A _ n c' c _ t W r1 r2
    rwa [decide_eq_false hd1] at this)
  have i1 := (hR _ (Below.refl _ _)).i1
  have i2 := (hR _ (Below.refl _ _)).i2
  have z3 := idSz i1
  have z4 := idSz i2
  have e1 := fun W => ida_neq i1 h1 W
  have e2 := fun W => ida_neq i2 h2 W
  have c0 : (0 : Int) ≤ (k : Int) := by omega
  have c1 : (k : Int) < (L.length : Int) := by omega
  have HS := Lib.hid hS
  have z1 := idSz h1
  have z2 := idSz h2
  have hn5 : ¬ (65536 : Int) < (n : Int) := by omega
  have hB := Below.refl (maW g p1 p2 w).heap.size (maW g p1 p2 w)
  have k0 := (hS _ hB).box
  clear hS hl1 hl2 hp hq hv hR hd1
  generalize nodeV t p1 p2 = X at *
  generalize (rv L k).text = tx at *
  generalize (rv L k).p1 = x1 at *
  generalize (rv L k).p2 = x2 at *
  go_enter Try.func25, Try.ntmps25
  go_wp2
  rw [ldI_eq 6, ldI_eq 7]
  go_region_held3 (fun W => W.cell? ⟨w.heap.size, 0, none⟩ = some (.pointer (some ⟨g, 0, none⟩)) ∧ (loadId ⟨w.heap.size + 1, 0, none⟩).run Try.prog W = .ok (ida p1) W ∧ (loadId ⟨w.heap.size + 1 + 1, 0, none⟩).run Try.prog W = .ok (ida p2) W ∧ W.cell? ⟨g, 1, none⟩ = some (.map (some mb)) ∧ (Instr.lookup 62 (.map (some mb)) (ida X) true).run Try.prog W = .ok (.tuple #[.int .i64 (k : Nat), .bool true]) W)
    (first | exact ⟨(HS.out _ hb1).box, (HS.out _ hb1).l1, (HS.out _ hb1).l2, (HS.out _ hb1).mp, (HS.out _ hb1).look⟩ | exact ⟨(HS.out _ hB).box, (HS.out _ hB).l1, (HS.out _ hB).l2, (HS.out _ hB).mp, (HS.out _ hB).look⟩)
    (first | (go_at_call 19; refine (HN.out _ hb0).mono ?_; rintro e w1 ⟨rfl, hb1⟩))
  all_goals
    have hb01 := below_then hb0 hb0.size hb1
    have s1 := (HS.out _ hb1).l1
    have s0 := (HS.out _ hb1).box
    go_wp2_with (first | (go_at_call 38; (with_reducible refine (HL1.out _ hb1).mono ?_); rintro e w2 ⟨rfl, hb2⟩; have hb02 := below_two hb01 hb2; have hb12 := below_two hb1 hb2; have s2 := (HS.out _ hb12).l2; have q2 := (HS.out _ hb12).box) | (go_at_call 38; (with_reducible refine (HL2.out _ hb12).mono ?_); rintro e w3 ⟨rfl, hb3⟩; have hb03 := below_two hb02 hb3; have hb13 := below_two hb12 hb3; have hb03d : Below w.heap.size w w3.drew := below_drewN hb03 1; have hb13d : Below (maW g p1 p2 w).heap.size (maW g p1 p2 w) w3.drew := below_drewN hb13 1; have x0 := (HS.out _ hb13d).box; have x1c := (HR.out _ hb03d).c0; have x2l := (HR.out _ hb03d).l3; have x3l := (HS.out _ hb13d).l1; have x4l := (HR.out _ hb03d).l4; have x5l := (HS.out _ hb13d).l2))
    rw [ldI_eq 56, ldI_eq 6, ldI_eq 68, ldI_eq 7]
    refine wp_region_held_drew (S := (fun W => W.cell? ⟨w.heap.size, 0, none⟩ = some (.pointer (some ⟨g, 0, none⟩)) ∧ W.cell? ⟨g, 0, none⟩ = some (.slice (some ⟨b, o, none⟩) L.length cc) ∧ (loadId ⟨w.heap.size + 1, 0, none⟩).run Try.prog W = .ok (ida p1) W ∧ (loadId ⟨w.heap.size + 1 + 1, 0, none⟩).run Try.prog W = .ok (ida p2) W ∧ (loadId ⟨b, o + k * 61 + 20, none⟩).run Try.prog W = .ok (ida x1) W ∧ (loadId ⟨b, o + k * 61 + 40, none⟩).run Try.prog W = .ok (ida x2) W)) (by kernel_rfl) ?_ (fun hHeld => ?_)
    · exact ⟨(HS.out _ hb13d).box, (HR.out _ hb03d).c0, (HS.out _ hb13d).l1, (HS.out _ hb13d).l2, (HR.out _ hb03d).l3, (HR.out _ hb03d).l4⟩
    · refine wpAnyH_take (i := 0) (oi := _) (v := ?_) rfl (by kernel_rfl) (by kernel_rfl) (by kernel_rfl) (fun _ _ _ h => h) (Or.inl ⟨by rfl, ?_⟩) hHeld ?_
      rotate_left
      · intro w hSw
        (try dsimp only at hSw)
        go_simp
        (try with_reducible rfl)
      (try simp only [List.getElem_toArray, List.getElem_cons_zero, List.getElem_cons_succ, Act.put, List.setIfInBounds_toArray, List.set_cons_zero, List.set_cons_succ])
      refine wpAnyH_take (i := 1) (oi := _) (v := ?_) rfl (by kernel_rfl) (by kernel_rfl) (by kernel_rfl) (fun _ _ _ h => h) (Or.inl ⟨by rfl, ?_⟩) hHeld ?_
      rotate_left
      · intro w hSw
        (try dsimp only at hSw)
        go_simp
        (try with_reducible rfl)
      (try simp only [List.getElem_toArray, List.getElem_cons_zero, List.getElem_cons_succ, Act.put, List.setIfInBounds_toArray, List.set_cons_zero, List.set_cons_succ])
      refine wpAnyH_take (i := 2) (oi := _) (v := ?_) rfl (by kernel_rfl) (by kernel_rfl) (by kernel_rfl) (fun _ _ _ h => h) (Or.inl ⟨by rfl, ?_⟩) hHeld ?_
      rotate_left
      · intro w hSw
        (try dsimp only at hSw)
        go_simp
        (try with_reducible rfl)
      (try simp only [List.getElem_toArray, List.getElem_cons_zero, List.getElem_cons_succ, Act.put, List.setIfInBounds_toArray, List.set_cons_zero, List.set_cons_succ])
      refine wpAnyH_take (i := 3) (oi := _) (v := ?_) rfl (by kernel_rfl) (by kernel_rfl) (by kernel_rfl) (fun _ _ _ h => h) (Or.inl ⟨by rfl, ?_⟩) hHeld ?_
      rotate_left
      · intro w hSw
        (try dsimp only at hSw)
        go_simp
        (try with_reducible rfl)
      (try simp only [List.getElem_toArray, List.getElem_cons_zero, List.getElem_cons_succ, Act.put, List.setIfInBounds_toArray, List.set_cons_zero, List.set_cons_succ])
      refine wpAnyH_take (i := 5) (oi := _) (v := ?_) rfl (by kernel_rfl) (by kernel_rfl) (by kernel_rfl) (fun _ _ _ h => h) (Or.inl ⟨by rfl, ?_⟩) hHeld ?_
      rotate_left
      · intro w hSw
        (try dsimp only at hSw)
        go_simp
        (try with_reducible rfl)
      (try simp only [List.getElem_toArray, List.getElem_cons_zero, List.getElem_cons_succ, Act.put, List.setIfInBounds_toArray, List.set_cons_zero, List.set_cons_succ])
      refine wpAnyH_ready (rs := [4]) (by kernel_rfl) (by simp) ?_
      refine AllReadyH.cons rfl (fun K hK => ?_) AllReadyH.nil
      go_simp
      (go_at_call 33; (with_reducible refine (HAT.out _ hb03d).mono ?_); rintro e w4 ⟨A4, c4, rfl, hr4, hc4, hb4⟩; have hb04 := below_two hb03d hb4; have hb14 := below_two hb13d hb4; have hE := HEQ.out _ _ c4 hr4 (hA.below hb04))
      refine hK.out _ _ ?_ (fun hHeld => ?_)
      · exact ⟨(HS.out _ hb14).box, (HR.out _ hb04).c0, (HS.out _ hb14).l1, (HS.out _ hb14).l2, (HR.out _ hb04).l3, (HR.out _ hb04).l4⟩
      clear hK K
      (try simp only [List.getElem_toArray, List.getElem_cons_zero, List.getElem_cons_succ, Act.put, List.setIfInBounds_toArray, List.set_cons_zero, List.set_cons_succ])
      refine wpAnyH_ready (rs := [6]) (by kernel_rfl) (by simp) ?_
      refine AllReadyH.cons rfl (fun K hK => ?_) AllReadyH.nil
      go_simp
      (go_at_call 39; (with_reducible refine hE.mono ?_); rintro e w5 ⟨rfl, rfl⟩)
      refine hK.out _ _ ?_ (fun hHeld => ?_)
      · exact ⟨(HS.out _ hb14).box, (HR.out _ hb04).c0, (HS.out _ hb14).l1, (HS.out _ hb14).l2, (HR.out _ hb04).l3, (HR.out _ hb04).l4⟩
      clear hK K
      (try simp only [List.getElem_toArray, List.getElem_cons_zero, List.getElem_cons_succ, Act.put, List.setIfInBounds_toArray, List.set_cons_zero, List.set_cons_succ])
      refine wpAnyH_take (i := 7) (oi := _) (v := ?_) rfl (by kernel_rfl) (by kernel_rfl) (by kernel_rfl) (fun _ _ _ h => h) (Or.inl ⟨by rfl, ?_⟩) hHeld ?_
      rotate_left
      · intro w hSw
        (try dsimp only at hSw)
        go_simp
        (try with_reducible rfl)
      (try simp only [List.getElem_toArray, List.getElem_cons_zero, List.getElem_cons_succ, Act.put, List.setIfInBounds_toArray, List.set_cons_zero, List.set_cons_succ])
      refine wpAnyH_take (i := 8) (oi := _) (v := ?_) rfl (by kernel_rfl) (by kernel_rfl) (by kernel_rfl) (fun _ _ _ h => h) (Or.inl ⟨by rfl, ?_⟩) hHeld ?_
      rotate_left
      · intro w hSw
        (try dsimp only at hSw)
        go_simp
        (try with_reducible rfl)
      (try simp only [List.getElem_toArray, List.getElem_cons_zero, List.getElem_cons_succ, Act.put, List.setIfInBounds_toArray, List.set_cons_zero, List.set_cons_succ])
      refine wpAnyH_take (i := 9) (oi := _) (v := undef) rfl (by kernel_rfl) (by kernel_rfl) (by kernel_rfl) (fun _ _ _ h => h) (Or.inr ⟨by rfl, rfl⟩) hHeld ?_
      (try simp only [List.getElem_toArray, List.getElem_cons_zero, List.getElem_cons_succ, Act.put, List.setIfInBounds_toArray, List.set_cons_zero, List.set_cons_succ])
      refine wpAnyH_take (i := 10) (oi := _) (v := undef) rfl (by kernel_rfl) (by kernel_rfl) (by kernel_rfl) (fun _ _ _ h => h) (Or.inr ⟨by rfl, rfl⟩) hHeld ?_
      (try simp only [List.getElem_toArray, List.getElem_cons_zero, List.getElem_cons_succ, Act.put, List.setIfInBounds_toArray, List.set_cons_zero, List.set_cons_succ])
      refine wpAnyH_take (i := 11) (oi := _) (v := undef) rfl (by kernel_rfl) (by kernel_rfl) (by kernel_rfl) (fun _ _ _ h => h) (Or.inr ⟨by rfl, rfl⟩) hHeld ?_
      (try simp only [List.getElem_toArray, List.getElem_cons_zero, List.getElem_cons_succ, Act.put, List.setIfInBounds_toArray, List.set_cons_zero, List.set_cons_succ])
      refine wpAnyH_take (i := 12) (oi := _) (v := undef) rfl (by kernel_rfl) (by kernel_rfl) (by kernel_rfl) (fun _ _ _ h => h) (Or.inr ⟨by rfl, rfl⟩) hHeld ?_
      (try simp only [List.getElem_toArray, List.getElem_cons_zero, List.getElem_cons_succ, Act.put, List.setIfInBounds_toArray, List.set_cons_zero, List.set_cons_succ])
      refine wpAnyH_take (i := 13) (oi := _) (v := undef) rfl (by kernel_rfl) (by kernel_rfl) (by kernel_rfl) (fun _ _ _ h => h) (Or.inr ⟨by rfl, rfl⟩) hHeld ?_
      (try simp only [List.getElem_toArray, List.getElem_cons_zero, List.getElem_cons_succ, Act.put, List.setIfInBounds_toArray, List.set_cons_zero, List.set_cons_succ])
      refine wpAnyH_take (i := 14) (oi := _) (v := undef) rfl (by kernel_rfl) (by kernel_rfl) (by kernel_rfl) (fun _ _ _ h => h) (Or.inr ⟨by rfl, rfl⟩) hHeld ?_
      (try simp only [List.getElem_toArray, List.getElem_cons_zero, List.getElem_cons_succ, Act.put, List.setIfInBounds_toArray, List.set_cons_zero, List.set_cons_succ])
      refine wpAnyH_take (i := 15) (oi := _) (v := undef) rfl (by kernel_rfl) (by kernel_rfl) (by kernel_rfl) (fun _ _ _ h => h) (Or.inr ⟨by rfl, rfl⟩) hHeld ?_
      (try simp only [List.getElem_toArray, List.getElem_cons_zero, List.getElem_cons_succ, Act.put, List.setIfInBounds_toArray, List.set_cons_zero, List.set_cons_succ])
      refine wpAnyH_take (i := 16) (oi := _) (v := undef) rfl (by kernel_rfl) (by kernel_rfl) (by kernel_rfl) (fun _ _ _ h => h) (Or.inr ⟨by rfl, rfl⟩) hHeld ?_
      (try simp only [List.getElem_toArray, List.getElem_cons_zero, List.getElem_cons_succ, Act.put, List.setIfInBounds_toArray, List.set_cons_zero, List.set_cons_succ])
      refine wpAnyH_take (i := 17) (oi := _) (v := undef) rfl (by kernel_rfl) (by kernel_rfl) (by kernel_rfl) (fun _ _ _ h => h) (Or.inr ⟨by rfl, rfl⟩) hHeld ?_
      (try simp only [List.getElem_toArray, List.getElem_cons_zero, List.getElem_cons_succ, Act.put, List.setIfInBounds_toArray, List.set_cons_zero, List.set_cons_succ])
      refine wpAnyH_take (i := 18) (oi := _) (v := undef) rfl (by kernel_rfl) (by kernel_rfl) (by kernel_rfl) (fun _ _ _ h => h) (Or.inr ⟨by rfl, rfl⟩) hHeld ?_
      (try simp only [List.getElem_toArray, List.getElem_cons_zero, List.getElem_cons_succ, Act.put, List.setIfInBounds_toArray, List.set_cons_zero, List.set_cons_succ])
      refine wpAnyH_take (i := 19) (oi := _) (v := ?_) rfl (by kernel_rfl) (by kernel_rfl) (by kernel_rfl) (fun _ _ _ h => h) (Or.inl ⟨by rfl, ?_⟩) hHeld ?_
      rotate_left
      · intro w hSw
        (try dsimp only at hSw)
        go_simp
        (try with_reducible rfl)
      (try simp only [List.getElem_toArray, List.getElem_cons_zero, List.getElem_cons_succ, Act.put, List.setIfInBounds_toArray, List.set_cons_zero, List.set_cons_succ])
      refine wpAnyH_take (i := 20) (oi := _) (v := ?_) rfl (by kernel_rfl) (by kernel_rfl) (by kernel_rfl) (fun _ _ _ h => h) (Or.inl ⟨by rfl, ?_⟩) hHeld ?_
      rotate_left
      · intro w hSw
        (try dsimp only at hSw)
        go_simp
        (try with_reducible rfl)
      (try simp only [List.getElem_toArray, List.getElem_cons_zero, List.getElem_cons_succ, Act.put, List.setIfInBounds_toArray, List.set_cons_zero, List.set_cons_succ])
      refine wpAnyH_take (i := 21) (oi := _) (v := undef) rfl (by kernel_rfl) (by kernel_rfl) (by kernel_rfl) (fun _ _ _ h => h) (Or.inr ⟨by rfl, rfl⟩) hHeld ?_
      (try simp only [List.getElem_toArray, List.getElem_cons_zero, List.getElem_cons_succ, Act.put, List.setIfInBounds_toArray, List.set_cons_zero, List.set_cons_succ])
      refine wpAnyH_take (i := 22) (oi := _) (v := undef) rfl (by kernel_rfl) (by kernel_rfl) (by kernel_rfl) (fun _ _ _ h => h) (Or.inr ⟨by rfl, rfl⟩) hHeld ?_
      (try simp only [List.getElem_toArray, List.getElem_cons_zero, List.getElem_cons_succ, Act.put, List.setIfInBounds_toArray, List.set_cons_zero, List.set_cons_succ])
      refine wpAnyH_take (i := 23) (oi := _) (v := undef) rfl (by kernel_rfl) (by kernel_rfl) (by kernel_rfl) (fun _ _ _ h => h) (Or.inr ⟨by rfl, rfl⟩) hHeld ?_
      (try simp only [List.getElem_toArray, List.getElem_cons_zero, List.getElem_cons_succ, Act.put, List.setIfInBounds_toArray, List.set_cons_zero, List.set_cons_succ])
      refine wpAnyH_take (i := 24) (oi := _) (v := undef) rfl (by kernel_rfl) (by kernel_rfl) (by kernel_rfl) (fun _ _ _ h => h) (Or.inr ⟨by rfl, rfl⟩) hHeld ?_
      (try simp only [List.getElem_toArray, List.getElem_cons_zero, List.getElem_cons_succ, Act.put, List.setIfInBounds_toArray, List.set_cons_zero, List.set_cons_succ])
      refine wpAnyH_take (i := 25) (oi := _) (v := undef) rfl (by kernel_rfl) (by kernel_rfl) (by kernel_rfl) (fun _ _ _ h => h) (Or.inr ⟨by rfl, rfl⟩) hHeld ?_
      (try simp only [List.getElem_toArray, List.getElem_cons_zero, List.getElem_cons_succ, Act.put, List.setIfInBounds_toArray, List.set_cons_zero, List.set_cons_succ])
      refine wpAnyH_take (i := 26) (oi := _) (v := undef) rfl (by kernel_rfl) (by kernel_rfl) (by kernel_rfl) (fun _ _ _ h => h) (Or.inr ⟨by rfl, rfl⟩) hHeld ?_
      (try simp only [List.getElem_toArray, List.getElem_cons_zero, List.getElem_cons_succ, Act.put, List.setIfInBounds_toArray, List.set_cons_zero, List.set_cons_succ])
      refine wpAnyH_take (i := 27) (oi := _) (v := undef) rfl (by kernel_rfl) (by kernel_rfl) (by kernel_rfl) (fun _ _ _ h => h) (Or.inr ⟨by rfl, rfl⟩) hHeld ?_
      (try simp only [List.getElem_toArray, List.getElem_cons_zero, List.getElem_cons_succ, Act.put, List.setIfInBounds_toArray, List.set_cons_zero, List.set_cons_succ])
      refine wpAnyH_take (i := 28) (oi := _) (v := undef) rfl (by kernel_rfl) (by kernel_rfl) (by kernel_rfl) (fun _ _ _ h => h) (Or.inr ⟨by rfl, rfl⟩) hHeld ?_
      (try simp only [List.getElem_toArray, List.getElem_cons_zero, List.getElem_cons_succ, Act.put, List.setIfInBounds_toArray, List.set_cons_zero, List.set_cons_succ])
      refine wpAnyH_take (i := 29) (oi := _) (v := undef) rfl (by kernel_rfl) (by kernel_rfl) (by kernel_rfl) (fun _ _ _ h => h) (Or.inr ⟨by rfl, rfl⟩) hHeld ?_
      (try simp only [List.getElem_toArray, List.getElem_cons_zero, List.getElem_cons_succ, Act.put, List.setIfInBounds_toArray, List.set_cons_zero, List.set_cons_succ])
      refine wpAnyH_take (i := 30) (oi := _) (v := undef) rfl (by kernel_rfl) (by kernel_rfl) (by kernel_rfl) (fun _ _ _ h => h) (Or.inr ⟨by rfl, rfl⟩) hHeld ?_
      (try simp only [List.getElem_toArray, List.getElem_cons_zero, List.getElem_cons_succ, Act.put, List.setIfInBounds_toArray, List.set_cons_zero, List.set_cons_succ])
      refine wpAnyH_take (i := 31) (oi := _) (v := ?_) rfl (by kernel_rfl) (by kernel_rfl) (by kernel_rfl) (fun _ _ _ h => h) (Or.inl ⟨by rfl, ?_⟩) hHeld ?_
      rotate_left
      · intro w hSw
        (try dsimp only at hSw)
        go_simp
        (try with_reducible rfl)
      (try simp only [List.getElem_toArray, List.getElem_cons_zero, List.getElem_cons_succ, Act.put, List.setIfInBounds_toArray, List.set_cons_zero, List.set_cons_succ])
      refine wpAnyH_take (i := 32) (oi := _) (v := ?_) rfl (by kernel_rfl) (by kernel_rfl) (by kernel_rfl) (fun _ _ _ h => h) (Or.inl ⟨by rfl, ?_⟩) hHeld ?_
      rotate_left
      · intro w hSw
        (try dsimp only at hSw)
        go_simp
        (try with_reducible rfl)
      (try simp only [List.getElem_toArray, List.getElem_cons_zero, List.getElem_cons_succ, Act.put, List.setIfInBounds_toArray, List.set_cons_zero, List.set_cons_succ])
      refine wpAnyH_take (i := 33) (oi := _) (v := ?_) rfl (by kernel_rfl) (by kernel_rfl) (by kernel_rfl) (fun _ _ _ h => h) (Or.inl ⟨by rfl, ?_⟩) hHeld ?_
      rotate_left
      · intro w hSw
        (try dsimp only at hSw)
        go_simp
        (try with_reducible rfl)
      (try simp only [List.getElem_toArray, List.getElem_cons_zero, List.getElem_cons_succ, Act.put, List.setIfInBounds_toArray, List.set_cons_zero, List.set_cons_succ])
      refine wpAnyH_done (by kernel_rfl) ?_ _
      go_wp2
      go_ret
      exact ⟨rfl, hb04⟩
end Go.Proofs.Ytgokompppadogaa
