/-
  trestleref14.Make; trestlehelp.Edit, Same of edits.
-/
import Derived.Test.YtgokompppadogaaDltB
set_option linter.unusedVariables false
set_option linter.unusedSimpArgs false
namespace Go.Proofs.Ytgokompppadogaa
open Go.RowKit

theorem cp_eq' {xs ys : List Int} {k : Nat} (h : AlikeTo xs ys k) (h1 : k ≤ xs.length) (h2 : k ≤ ys.length) : k ≤ cp xs ys := by
  rcases Nat.lt_or_ge (cp xs ys) k with h' | h'
  · have hl := cp_le xs ys
    exact absurd (h _ h') (cp_ends xs ys (by omega) (by omega))
  · exact h'
theorem rev_gi {xs : List Int} {p k : Nat} (hp : p ≤ xs.length) (h : k < xs.length - p) : gi (xs.drop p).reverse k = gi xs (xs.length - 1 - k) := by
  rw [gi_reverse (by rw [List.length_drop]; exact h), gi_drop, List.length_drop]
  congr 1
  omega

set_option maxRecDepth 100000 in
set_option maxHeartbeats 2000000 in
theorem refMake_any (A B : Option Addr) (n m c d : Nat) (xs ys : List Int) (w : World) (hA : RB w A n xs) (hB : RB w B m ys) (hn : n ≤ c) (hm : m ≤ d) (hn1 : n ≤ 100000) (hm1 : m ≤ 100000) :
    Calls Try.prog 35 #[.slice A n c, .slice B m d] w fun e w' => ∃ A' k, e = .returned (.slice A' k k) ∧ REs w' (w.heap.size ≤ ·) A' k (mkEdits xs ys) ∧ Below w.heap.size w w' := by
  by_cases hxy : xs = ys
  · have hd : decide (xs = ys) = true := decide_eq_true hxy
    go_enter Try.func35, Try.ntmps35
    go_wp2_with (go_at_call 12; refine (bytes_any _ _ _ _ _ _ xs ys _ hA hB).mono ?_; rintro e w' ⟨rfl, rfl⟩)
    go_ret
    refine ⟨_, _, rfl, ⟨by simp [mkEdits, hxy], fun h => absurd h (by omega)⟩, Below.refl _ _⟩
  · have hd : decide (xs = ys) = false := decide_eq_false hxy
    have hlx := hA.len
    have hly := hB.len
    have hkl := cp_le xs ys
    rw [hlx, hly] at hkl
    obtain ⟨hk1, hk2⟩ := hkl
    have HC := Lib.hid (show ∀ k, k ≤ cp xs ys → (k < cp xs ys → k < n ∧ k < m ∧ gi xs k = gi ys k) from fun k hk h => ⟨by omega, by omega, cp_alike xs ys k h⟩)
    have HX := Lib.hid hlx
    have HY := Lib.hid hly
    clear hlx hly
    go_enter Try.func35, Try.ntmps35
    go_upto_block 0 with (go_at_call 12; refine (bytes_any _ _ _ _ _ _ xs ys _ hA hB).mono ?_; rintro e w' ⟨rfl, rfl⟩)
    go_cut [5] (fun i wx => i = .int .i64 (cp xs ys : Nat) ∧ ∃ q, w.drewN q = wx)
    case first =>
      go_wp2_with fail
      go_loopw [5] (fun i wr => ∃ k : Nat, k ≤ cp xs ys ∧ i = .int .i64 k ∧ ∃ q, w.drewN q = wr) (fun i _ => n - (intOf i).toNat)
      case atStart => exact ⟨0, by omega, rfl, 0, rfl⟩
      case round =>
        obtain ⟨k, hk, rfl, q, rfl⟩ := hrel
        by_cases h1 : k < cp xs ys
        · obtain ⟨k1, k2, k3⟩ := HC.out k hk h1
          obtain ⟨ad, rfl, hca⟩ := hA.at_ k1
          obtain ⟨bd, rfl, hcb⟩ := hB.at_ k2
          have h3' : (gi xs k == gi ys k) = true := by simpa using k3
          clear k3
          go_wp2
          go_quiet (fail)
          go_wp2
          go_roundw
          case rel => exact ⟨k + 1, by omega, by go_num, _, rfl⟩
          case measure => simp [intOf]; omega
        · obtain rfl : k = cp xs ys := by omega
          by_cases e1 : cp xs ys < n
          · obtain ⟨ad, rfl, hca⟩ := hA.at_ e1
            by_cases e2 : cp xs ys < m
            · obtain ⟨bd, rfl, hcb⟩ := hB.at_ e2
              have h3' : (gi xs (cp xs ys) == gi ys (cp xs ys)) = false := by simpa using cp_ends xs ys (by rw [HX.out]; exact e1) (by rw [HY.out]; exact e2)
              generalize cp xs ys = p at *
              go_wp2
              go_quiet (fail)
              go_wp2
              go_meet
              exact ⟨rfl, q + nq, by simp⟩
            · generalize cp xs ys = p at *
              go_wp2
              go_quiet (fail)
              go_wp2
              go_meet
              exact ⟨rfl, q + nq, by simp⟩
          · generalize cp xs ys = p at *
            go_wp2
            go_quiet (fail)
            go_wp2
            go_meet
            exact ⟨rfl, q + nq, by simp⟩
    case rest =>
      obtain ⟨rfl, q0, rfl⟩ := hcut
      have hce := ce_le xs ys
      rw [HX.out, HY.out] at hce
      have hcl : ce xs ys = cp (xs.drop (cp xs ys)).reverse (ys.drop (cp xs ys)).reverse := rfl
      have HD := Lib.hid (show ∀ k, k ≤ ce xs ys → (k < ce xs ys → gi xs (n - 1 - k) = gi ys (m - 1 - k)) from fun k hk h => by
        have := cp_alike (xs.drop (cp xs ys)).reverse (ys.drop (cp xs ys)).reverse k (by rw [← hcl]; exact h)
        rw [rev_gi (by rw [HX.out]; omega) (by rw [HX.out]; omega), rev_gi (by rw [HY.out]; omega) (by rw [HY.out]; omega), HX.out, HY.out] at this
        exact this)
      have HN := Lib.hid (show cp xs ys + ce xs ys < n → cp xs ys + ce xs ys < m → gi xs (n - 1 - ce xs ys) ≠ gi ys (m - 1 - ce xs ys) from fun h1 h2 => by
        have := ce_ends xs ys (by rw [HX.out]; exact h1) (by rw [HY.out]; exact h2)
        rw [HX.out, HY.out, show n - ce xs ys - 1 = n - 1 - ce xs ys from by omega, show m - ce xs ys - 1 = m - 1 - ce xs ys from by omega] at this
        exact this)
      have hx : mkEdits xs ys = [⟨(cp xs ys : Nat), (n : Int) - (ce xs ys : Nat), (ys.take (m - ce xs ys)).drop (cp xs ys)⟩] := by
        unfold mkEdits
        rw [if_neg hxy, HX.out, HY.out]
        rfl
      have HMK := Lib.hid hx
      clear hx hcl hxy hd
      obtain ⟨hce1, hce2⟩ := hce
      generalize cp xs ys = p at *
      generalize ce xs ys = q at *
      have HRM : ∀ W : World, Below w.heap.size w W → RB W (cutA B d p) (m - q - p) ((ys.take (m - q)).drop p) := fun W hW => (hB.below hW).mid (by omega) (by omega) hm
      go_upto_block 2 with fail
      go_cut [6] (fun i wx => i = .int .i64 (q : Nat) ∧ ∃ q, w.drewN q = wx)
      case rest =>
        obtain ⟨rfl, q5, rfl⟩ := hcut
        have j1 : (0 : Int) ≤ (p : Int) := by omega
        have j2 : (p : Int) ≤ (m : Int) - q := by omega
        have j3 : (m : Int) - q ≤ d := by omega
        have j4 : ((m : Int) - q).toNat = m - q := by omega
        have hcp := copyBytes_any (cutA B d p) (m - q - p) (d - p) _ _ (HRM (w.drewN q5) (drewN_below w q5)) (by omega)
        go_wp2_with (go_at_call 8; (with_reducible refine hcp.mono ?_); rintro e w6 ⟨A3, c3, rfl, ho6, hc6, hb6⟩)
        go_ret
        have hb7 : Below w.heap.size w w6 := below_then (drewN_below w q5) (Nat.le_refl _) hb6
        refine ⟨_, _, rfl, ?_, hb7.alloc hb7.size _⟩
        rw [HMK.out]
        exact REs.one _ _ _ _ _ _ ho6.reads hc6 hb7.size fun bd hb => ho6.blocks bd hb
      go_wp2_with fail
      go_loopw [6] (fun i wr => ∃ k : Nat, k ≤ q ∧ i = .int .i64 k ∧ ∃ q, w.drewN q = wr) (fun i _ => n - (intOf i).toNat)
      case atStart => exact ⟨0, by omega, rfl, _, rfl⟩
      case round =>
        obtain ⟨k, hk, rfl, q1, rfl⟩ := hrel
        have b1 : wrap64 ((n : Int) - p) = (n : Int) - p := by unfold wrap64; omega
        by_cases h1 : k < q
        · have h3 := HD.out k hk h1
          obtain ⟨ba, oa, rfl, hca⟩ := hA.plain (by omega)
          obtain ⟨bb, ob, rfl, hcb⟩ := hB.plain (by omega)
          have hca := hca (n - 1 - k) (by omega)
          have hcb := hcb (m - 1 - k) (by omega)
          have h3' : (gi xs (n - 1 - k) == gi ys (m - 1 - k)) = true := by simpa using h3
          have i1 : ((n : Int) - 1 - k).toNat = n - 1 - k := by omega
          have i2 : ((m : Int) - 1 - k).toNat = m - 1 - k := by omega
          have i3 : (0 : Int) ≤ (n : Int) - 1 - k := by omega
          have i4 : (0 : Int) ≤ (m : Int) - 1 - k := by omega
          have i5 : (n : Int) - 1 - k < n := by omega
          have i6 : (m : Int) - 1 - k < m := by omega
          have i7 : (k : Int) < (n : Int) - p := by omega
          have i8 : (k : Int) < (m : Int) - p := by omega
          clear h3
          go_wp2
          go_quiet (fail)
          go_wp2
          go_roundw
          case rel => exact ⟨k + 1, by omega, by go_num, _, rfl⟩
          case measure => simp [intOf]; omega
        · obtain rfl : k = q := by omega
          by_cases e1 : p + k < n
          · by_cases e2 : p + k < m
            · have h3 := HN.out e1 e2
              obtain ⟨ba, oa, rfl, hca⟩ := hA.plain (by omega)
              obtain ⟨bb, ob, rfl, hcb⟩ := hB.plain (by omega)
              have hca := hca (n - 1 - k) (by omega)
              have hcb := hcb (m - 1 - k) (by omega)
              have h3' : (gi xs (n - 1 - k) == gi ys (m - 1 - k)) = false := by simpa using h3
              have i1 : ((n : Int) - 1 - k).toNat = n - 1 - k := by omega
              have i2 : ((m : Int) - 1 - k).toNat = m - 1 - k := by omega
              have i3 : (0 : Int) ≤ (n : Int) - 1 - k := by omega
              have i4 : (0 : Int) ≤ (m : Int) - 1 - k := by omega
              have i5 : (n : Int) - 1 - k < n := by omega
              have i6 : (m : Int) - 1 - k < m := by omega
              have i7 : (k : Int) < (n : Int) - p := by omega
              have i8 : (k : Int) < (m : Int) - p := by omega
              clear h3
              go_wp2
              go_quiet (fail)
              go_wp2
              go_meet
              exact ⟨rfl, q1 + nq, by simp⟩
            · have i7 : (k : Int) < (n : Int) - p := by omega
              have i8 : ¬ ((k : Int) < (m : Int) - p) := by omega
              have d7 : decide ((k : Int) < (m : Int) - p) = false := decide_eq_false i8
              have s7 : IntKind.i64.wrap ((m : Int) - p) = (m : Int) - p := IntWalk.i64_in _ (by omega)
              have s8 : IntKind.i64.wrap ((n : Int) - p) = (n : Int) - p := IntWalk.i64_in _ (by omega)
              go_wp2
              go_quiet (fail)
              go_wp2
              go_meet
              exact ⟨rfl, q1 + nq, by simp⟩
          · have i7 : ¬ ((k : Int) < (n : Int) - p) := by omega
            have d7 : decide ((k : Int) < (n : Int) - p) = false := decide_eq_false i7
            have s7 : IntKind.i64.wrap ((n : Int) - p) = (n : Int) - p := IntWalk.i64_in _ (by omega)
            go_wp2
            go_quiet (fail)
            go_wp2
            go_meet
            exact ⟨rfl, q1 + nq, by simp⟩
end Go.Proofs.Ytgokompppadogaa
