/-
  The log: May, where a parent lacks. (Printed by gen/rv7.py.)
-/
import Derived.Test.YtgokompppadogaaRv7
set_option linter.unusedVariables false
set_option linter.unusedSimpArgs false
namespace Go.Proofs.Ytgokompppadogaa
open Go.RowKit

set_option maxRecDepth 100000 in
set_option maxHeartbeats 4000000 in
theorem may_lacks1 (P : Nat → Prop) (g : Nat) (L : Lg) (A : Option Addr) (n c : Nat) (t p1 p2 : List Int) (w : World) (h : LgAt w P g L) (hA : RB w A n t) (hnc : n ≤ c) (hn : n ≤ 1500) (h1 : IsId p1) (h2 : IsId p2) (hll : L.length ≤ 100000) (hl1 : lacksL L p1 = true) :
    Calls Try.prog 25 #[.pointer (some ⟨g, 0, none⟩), .slice A n c, ida p1, ida p2] w (IntP 6 w) := by
  have hb0 := maW_below g p1 p2 w
  obtain ⟨mb, hS⟩ := maS (X := nodeV t p1 p2) h h1 h2 (nodeV_id _ _ _)
  have HN := Lib.hid (show ∀ W, Below w.heap.size w W → Calls Try.prog 19 #[.slice A n c, ida p1, ida p2] W (IdP (nodeV t p1 p2) W) from fun W hW => node_any A n c t p1 p2 W (hA.below hW) hnc (by omega) h1 h2)
  have HL1 := Lib.hid (show ∀ W, Below (maW g p1 p2 w).heap.size (maW g p1 p2 w) W → Calls Try.prog 38 #[ida p1, .pointer (some ⟨w.heap.size, 0, none⟩)] W (BoolP true W) from fun W hW => by
    have := lacks_any P g w.heap.size L p1 W ((h.below hb0).below hW) h1 (hS W hW).box
    rwa [hl1] at this)
  have HS := Lib.hid hS
  have z1 := idSz h1
  have z2 := idSz h2
  have hn5 : ¬ (65536 : Int) < (n : Int) := by omega
  have hB := Below.refl (maW g p1 p2 w).heap.size (maW g p1 p2 w)
  have k0 := (hS _ hB).box
  clear hS hl1
  generalize nodeV t p1 p2 = X at *
  generalize atI L X = v at *
  generalize hasL L X = q at *
  go_enter Try.func25, Try.ntmps25
  go_wp2
  rw [ldI_eq 6, ldI_eq 7]
  go_region_held3 (fun W => W.cell? ⟨w.heap.size, 0, none⟩ = some (.pointer (some ⟨g, 0, none⟩)) ∧ (loadId ⟨w.heap.size + 1, 0, none⟩).run Try.prog W = .ok (ida p1) W ∧ (loadId ⟨w.heap.size + 1 + 1, 0, none⟩).run Try.prog W = .ok (ida p2) W ∧ W.cell? ⟨g, 1, none⟩ = some (.map (some mb)) ∧ (Instr.lookup 62 (.map (some mb)) (ida X) true).run Try.prog W = .ok (.tuple #[.int .i64 v, .bool q]) W)
    (first | exact ⟨(HS.out _ hb1).box, (HS.out _ hb1).l1, (HS.out _ hb1).l2, (HS.out _ hb1).mp, (HS.out _ hb1).look⟩ | exact ⟨(HS.out _ hB).box, (HS.out _ hB).l1, (HS.out _ hB).l2, (HS.out _ hB).mp, (HS.out _ hB).look⟩)
    (first | (go_at_call 19; refine (HN.out _ hb0).mono ?_; rintro e w1 ⟨rfl, hb1⟩))
  all_goals
    have hb01 := below_then hb0 hb0.size hb1
    have s1 := (HS.out _ hb1).l1
    have s0 := (HS.out _ hb1).box
    go_wp2_with (go_at_call 38; (with_reducible refine (HL1.out _ hb1).mono ?_); rintro e w2 ⟨rfl, hb2⟩; have hb02 := below_two hb01 hb2; have hb12 := below_two hb1 hb2; have s2 := (HS.out _ hb12).l2; have q2 := (HS.out _ hb12).box)
    go_ret
    exact ⟨rfl, hb02⟩
set_option maxRecDepth 100000 in
set_option maxHeartbeats 4000000 in
theorem may_lacks2 (P : Nat → Prop) (g : Nat) (L : Lg) (A : Option Addr) (n c : Nat) (t p1 p2 : List Int) (w : World) (h : LgAt w P g L) (hA : RB w A n t) (hnc : n ≤ c) (hn : n ≤ 1500) (h1 : IsId p1) (h2 : IsId p2) (hll : L.length ≤ 100000) (hl1 : lacksL L p1 = false) (hl2 : lacksL L p2 = true) :
    Calls Try.prog 25 #[.pointer (some ⟨g, 0, none⟩), .slice A n c, ida p1, ida p2] w (IntP 6 w) := by
  have hb0 := maW_below g p1 p2 w
  obtain ⟨mb, hS⟩ := maS (X := nodeV t p1 p2) h h1 h2 (nodeV_id _ _ _)
  have HN := Lib.hid (show ∀ W, Below w.heap.size w W → Calls Try.prog 19 #[.slice A n c, ida p1, ida p2] W (IdP (nodeV t p1 p2) W) from fun W hW => node_any A n c t p1 p2 W (hA.below hW) hnc (by omega) h1 h2)
  have HL1 := Lib.hid (show ∀ W, Below (maW g p1 p2 w).heap.size (maW g p1 p2 w) W → Calls Try.prog 38 #[ida p1, .pointer (some ⟨w.heap.size, 0, none⟩)] W (BoolP false W) from fun W hW => by
    have := lacks_any P g w.heap.size L p1 W ((h.below hb0).below hW) h1 (hS W hW).box
    rwa [hl1] at this)
  have HL2 := Lib.hid (show ∀ W, Below (maW g p1 p2 w).heap.size (maW g p1 p2 w) W → Calls Try.prog 38 #[ida p2, .pointer (some ⟨w.heap.size, 0, none⟩)] W (BoolP true W) from fun W hW => by
    have := lacks_any P g w.heap.size L p2 W ((h.below hb0).below hW) h2 (hS W hW).box
    rwa [hl2] at this)
  have HS := Lib.hid hS
  have z1 := idSz h1
  have z2 := idSz h2
  have hn5 : ¬ (65536 : Int) < (n : Int) := by omega
  have hB := Below.refl (maW g p1 p2 w).heap.size (maW g p1 p2 w)
  have k0 := (hS _ hB).box
  clear hS hl1 hl2
  generalize nodeV t p1 p2 = X at *
  generalize atI L X = v at *
  generalize hasL L X = q at *
  go_enter Try.func25, Try.ntmps25
  go_wp2
  rw [ldI_eq 6, ldI_eq 7]
  go_region_held3 (fun W => W.cell? ⟨w.heap.size, 0, none⟩ = some (.pointer (some ⟨g, 0, none⟩)) ∧ (loadId ⟨w.heap.size + 1, 0, none⟩).run Try.prog W = .ok (ida p1) W ∧ (loadId ⟨w.heap.size + 1 + 1, 0, none⟩).run Try.prog W = .ok (ida p2) W ∧ W.cell? ⟨g, 1, none⟩ = some (.map (some mb)) ∧ (Instr.lookup 62 (.map (some mb)) (ida X) true).run Try.prog W = .ok (.tuple #[.int .i64 v, .bool q]) W)
    (first | exact ⟨(HS.out _ hb1).box, (HS.out _ hb1).l1, (HS.out _ hb1).l2, (HS.out _ hb1).mp, (HS.out _ hb1).look⟩ | exact ⟨(HS.out _ hB).box, (HS.out _ hB).l1, (HS.out _ hB).l2, (HS.out _ hB).mp, (HS.out _ hB).look⟩)
    (first | (go_at_call 19; refine (HN.out _ hb0).mono ?_; rintro e w1 ⟨rfl, hb1⟩))
  all_goals
    have hb01 := below_then hb0 hb0.size hb1
    have s1 := (HS.out _ hb1).l1
    have s0 := (HS.out _ hb1).box
    go_wp2_with (first | (go_at_call 38; (with_reducible refine (HL1.out _ hb1).mono ?_); rintro e w2 ⟨rfl, hb2⟩; have hb02 := below_two hb01 hb2; have hb12 := below_two hb1 hb2; have s2 := (HS.out _ hb12).l2; have q2 := (HS.out _ hb12).box) | (go_at_call 38; (with_reducible refine (HL2.out _ hb12).mono ?_); rintro e w3 ⟨rfl, hb3⟩; have hb03 := below_two hb02 hb3; have hb13 := below_two hb12 hb3))
    go_ret
    exact ⟨rfl, hb03⟩
end Go.Proofs.Ytgokompppadogaa
