/-
  The log: May, where the node is there, and all is the same. (Printed by gen/rv7.py.)
-/
import Derived.Test.YtgokompppadogaaRv8
set_option linter.unusedVariables false
set_option linter.unusedSimpArgs false
namespace Go.Proofs.Ytgokompppadogaa
open Go.RowKit

/-- a place that is asked, in each later world. -/
structure MaK (g l : Nat) (x1 x2 : IdL) (k b o c : Nat) (W : World) : Prop where
  c0 : W.cell? ⟨g, 0, none⟩ = some (.slice (some ⟨b, o, none⟩) l c)
  l3 : (loadId ⟨b, o + k * 61 + 20, none⟩).run Try.prog W = .ok (ida x1) W
  l4 : (loadId ⟨b, o + k * 61 + 40, none⟩).run Try.prog W = .ok (ida x2) W
  i1 : IsId x1
  i2 : IsId x2
theorem maK {w : World} {P : Nat → Prop} {g : Nat} {L : Lg} {k : Nat} (h : LgAt w P g L) (hk : k < L.length) : ∃ b o c, ∀ W, Below w.heap.size w W → MaK g L.length (rv L k).p1 (rv L k).p2 k b o c W := by
  obtain ⟨A, n, c, mb, kv, Vs, hm⟩ := h
  have hn := hm.len
  subst hn
  obtain ⟨b, o, V, rfl, _, _, q1, q2, _⟩ := hm.at_ hk
  have hi := hm.inv.ids k hk
  exact ⟨b, o, c, fun W hW => ⟨cell_later hW (hm.blk.cell 0), run_loadId (fun i v hv => cell_later hW (q1 i v hv)) hi.2.1, run_loadId (fun i v hv => cell_later hW (q2 i v hv)) hi.2.2, hi.2.1, hi.2.2⟩⟩
set_option maxRecDepth 100000 in
set_option maxHeartbeats 4000000 in
theorem may_same (P : Nat → Prop) (g : Nat) (L : Lg) (A : Option Addr) (n c : Nat) (t p1 p2 : List Int) (w : World) (h : LgAt w P g L) (hA : RB w A n t) (hnc : n ≤ c) (hn : n ≤ 1500) (h1 : IsId p1) (h2 : IsId p2) (hll : L.length ≤ 100000) (k : Nat) (hl1 : lacksL L p1 = false) (hl2 : lacksL L p2 = false) (hp : posL L (nodeV t p1 p2) = some k) (hd1 : (rv L k).text = t) (hd2 : (rv L k).p1 = p1) (hd3 : (rv L k).p2 = p2) :
    Calls Try.prog 25 #[.pointer (some ⟨g, 0, none⟩), .slice A n c, ida p1, ida p2] w (IntP 0 w) := by
  have hb0 := maW_below g p1 p2 w
  obtain ⟨mb, hS⟩ := maS (X := nodeV t p1 p2) h h1 h2 (nodeV_id _ _ _)
  have HN := Lib.hid (show ∀ W, Below w.heap.size w W → Calls Try.prog 19 #[.slice A n c, ida p1, ida p2] W (IdP (nodeV t p1 p2) W) from fun W hW => node_any A n c t p1 p2 W (hA.below hW) hnc (by omega) h1 h2)
  have HL1 := Lib.hid (show ∀ W, Below (maW g p1 p2 w).heap.size (maW g p1 p2 w) W → Calls Try.prog 38 #[ida p1, .pointer (some ⟨w.heap.size, 0, none⟩)] W (BoolP false W) from fun W hW => by
    have := lacks_any P g w.heap.size L p1 W ((h.below hb0).below hW) h1 (hS W hW).box
    rwa [hl1] at this)
  have HL2 := Lib.hid (show ∀ W, Below (maW g p1 p2 w).heap.size (maW g p1 p2 w) W → Calls Try.prog 38 #[ida p2, .pointer (some ⟨w.heap.size, 0, none⟩)] W (BoolP false W) from fun W hW => by
    have := lacks_any P g w.heap.size L p2 W ((h.below hb0).below hW) h2 (hS W hW).box
    rwa [hl2] at this)
  have hq : hasL L (nodeV t p1 p2) = true := (atI_of hp).1
  have hv : atI L (nodeV t p1 p2) = (k : Nat) := by unfold atI; rw [hp]; rfl
  rw [hq, hv] at hS
  have hk := (posL_some hp).1
  have hrow := maK h hk
  obtain ⟨b, o, cc, hR⟩ := hrow
  have HR := Lib.hid (show ∀ W, Below w.heap.size w W → MaK g L.length (rv L k).p1 (rv L k).p2 k b o cc W from hR)
  have HAT := Lib.hid (show ∀ W, Below w.heap.size w W → Calls Try.prog 33 #[.pointer (some ⟨g, 0, none⟩), .int .i64 (k : Nat)] W (TextP (rv L k).text W) from fun W hW => at_any P g L hll k W (h.below hW) hk)
  unfold TextP at HAT
  have HEQ := Lib.hid (show ∀ (W : World) (A' : Option Addr) (c' : Nat), RB W A' (rv L k).text.length (rv L k).text → RB W A n t → Calls Try.prog 39 #[.slice A' (rv L k).text.length c', .slice A n c] W (fun e w' => e = .returned (.bool (true)) ∧ W = w') from fun W A' c' r1 r2 => by
    have := equal_any A' A _ n c' c _ t W r1 r2
    rwa [decide_eq_true hd1] at this)
  have i1 := (hR _ (Below.refl _ _)).i1
  have i2 := (hR _ (Below.refl _ _)).i2
  have z3 := idSz i1
  have z4 := idSz i2
  have e1 := fun W => ida_neq i1 h1 W
  have e2 := fun W => ida_neq i2 h2 W
  have c0 : (0 : Int) ≤ (k : Int) := by omega
  have c1 : (k : Int) < (L.length : Int) := by omega
  rw [show ((rv L k).p1 != p1) = false from by simpa using hd2] at e1
  rw [show ((rv L k).p2 != p2) = false from by simpa using hd3] at e2
  have HS := Lib.hid hS
  have z1 := idSz h1
  have z2 := idSz h2
  have hn5 : ¬ (65536 : Int) < (n : Int) := by omega
  have hB := Below.refl (maW g p1 p2 w).heap.size (maW g p1 p2 w)
  have k0 := (hS _ hB).box
  clear hS hl1 hl2 hp hq hv hR hd1 hd2 hd3
  generalize nodeV t p1 p2 = X at *
  generalize (rv L k).text = tx at *
  generalize (rv L k).p1 = x1 at *
  generalize (rv L k).p2 = x2 at *
  go_enter Try.func25, Try.ntmps25
  go_wp2
  rw [ldI_eq 6, ldI_eq 7]
  go_region_held3 (fun W => W.cell? ⟨w.heap.size, 0, none⟩ = some (.pointer (some ⟨g, 0, none⟩)) ∧ (loadId ⟨w.heap.size + 1, 0, none⟩).run Try.prog W = .ok (ida p1) W ∧ (loadId ⟨w.heap.size + 1 + 1, 0, none⟩).run Try.prog W = .ok (ida p2) W ∧ W.cell? ⟨g, 1, none⟩ = some (.map (some mb)) ∧ (Instr.lookup 62 (.map (some mb)) (ida X) true).run Try.prog W = .ok (.tuple #[.int .i64 (k : Nat), .bool true]) W)
    (first | exact ⟨(HS.out _ hb1).box, (HS.out _ hb1).l1, (HS.out _ hb1).l2, (HS.out _ hb1).mp, (HS.out _ hb1).look⟩ | exact ⟨(HS.out _ hB).box, (HS.out _ hB).l1, (HS.out _ hB).l2, (HS.out _ hB).mp, (HS.out _ hB).look⟩)
    (first | (go_at_call 19; refine (HN.out _ hb0).mono ?_; rintro e w1 ⟨rfl, hb1⟩))
  all_goals
    have hb01 := below_then hb0 hb0.size hb1
    have s1 := (HS.out _ hb1).l1
    have s0 := (HS.out _ hb1).box
    go_wp2_with (first | (go_at_call 38; (with_reducible refine (HL1.out _ hb1).mono ?_); rintro e w2 ⟨rfl, hb2⟩; have hb02 := below_two hb01 hb2; have hb12 := below_two hb1 hb2; have s2 := (HS.out _ hb12).l2; have q2 := (HS.out _ hb12).box) | (go_at_call 38; (with_reducible refine (HL2.out _ hb12).mono ?_); rintro e w3 ⟨rfl, hb3⟩; have hb03 := below_two hb02 hb3; have hb13 := below_two hb12 hb3; have hb03d : Below w.heap.size w w3.drew := below_drewN hb03 1; have hb13d : Below (maW g p1 p2 w).heap.size (maW g p1 p2 w) w3.drew := below_drewN hb13 1))
    rw [ldI_eq 56, ldI_eq 6, ldI_eq 68, ldI_eq 7]
    go_region_held3 (fun W => W.cell? ⟨w.heap.size, 0, none⟩ = some (.pointer (some ⟨g, 0, none⟩)) ∧ W.cell? ⟨g, 0, none⟩ = some (.slice (some ⟨b, o, none⟩) L.length cc) ∧ (loadId ⟨w.heap.size + 1, 0, none⟩).run Try.prog W = .ok (ida p1) W ∧ (loadId ⟨w.heap.size + 1 + 1, 0, none⟩).run Try.prog W = .ok (ida p2) W ∧ (loadId ⟨b, o + k * 61 + 20, none⟩).run Try.prog W = .ok (ida x1) W ∧ (loadId ⟨b, o + k * 61 + 40, none⟩).run Try.prog W = .ok (ida x2) W)
      (first | exact ⟨(HS.out _ hb14).box, (HR.out _ hb04).c0, (HS.out _ hb14).l1, (HS.out _ hb14).l2, (HR.out _ hb04).l3, (HR.out _ hb04).l4⟩ | exact ⟨(HS.out _ hb13d).box, (HR.out _ hb03d).c0, (HS.out _ hb13d).l1, (HS.out _ hb13d).l2, (HR.out _ hb03d).l3, (HR.out _ hb03d).l4⟩ | exact ⟨(HS.out _ hb13).box, (HR.out _ hb03).c0, (HS.out _ hb13).l1, (HS.out _ hb13).l2, (HR.out _ hb03).l3, (HR.out _ hb03).l4⟩)
      (first | (go_at_call 33; (with_reducible refine (HAT.out _ hb03d).mono ?_); rintro e w4 ⟨A4, c4, rfl, hr4, hc4, hb4⟩; have hb04 := below_two hb03d hb4; have hb14 := below_two hb13d hb4; have hE := HEQ.out _ _ c4 hr4 (hA.below hb04)) | (go_at_call 39; (with_reducible refine hE.mono ?_); rintro e w5 ⟨rfl, rfl⟩))
    all_goals
      go_wp2
      go_ret
      exact ⟨rfl, hb04⟩
end Go.Proofs.Ytgokompppadogaa
