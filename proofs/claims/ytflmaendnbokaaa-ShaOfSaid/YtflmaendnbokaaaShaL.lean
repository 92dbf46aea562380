/-
  'trestlelaw02.ShaLengths'.
-/
import Derived.Test.YtflmaendnbokaaaSha6
set_option linter.unusedVariables false
set_option linter.unusedSimpArgs false
namespace Go.Proofs.Ytflmaendnbokaaa
open Go.RowKit

theorem wrap64_range (n : Int) : 0 ≤ IntKind.u64.wrap n ∧ IntKind.u64.wrap n < 18446744073709551616 := by
  simp [IntKind.wrap, IntKind.signed, IntKind.bits]
  omega
theorem rep_set (k m : Nat) (x : Int) (hk : k < m) : (List.replicate k x ++ List.replicate (m - k) 0).set k x = List.replicate (k + 1) x ++ List.replicate (m - (k + 1)) 0 := by
  obtain ⟨r, hr⟩ : ∃ r, m - k = r + 1 := ⟨m - k - 1, by omega⟩
  rw [hr, List.replicate_succ, List.set_append, if_neg (by simp), List.length_replicate, Nat.sub_self, List.set_cons_zero, List.replicate_succ', show m - (k + 1) = r from by omega]
  simp
set_option maxHeartbeats 1000000 in
theorem shaLengths_walk (n : Int) (x : Int) (w : World) (hn : (Lit.int .i64 n).wf = true) (hx0 : 0 ≤ x) (hx1 : x ≤ 255) :
    Calls Try.prog 5 #[.int .i64 n, .int .u8 x] w (fun e w' => e = .returned (.bool true) ∧ Below w.heap.size w w') := by
  obtain ⟨m, hm⟩ : ∃ m : Nat, IntKind.u64.wrap n % 260 = (m : Int) := ⟨(IntKind.u64.wrap n % 260).toNat, by have := (wrap64_range n).1; omega⟩
  have hm2 : m < 260 := by omega
  have ht : (IntKind.u64.wrap n).tmod 260 = (m : Int) := by rw [Int.tmod_eq_emod_of_nonneg (wrap64_range n).1]; exact hm
  have hwm : wrap64 (m : Int) = m := by unfold wrap64; omega
  clear hm
  have hmk := fun W => make_bytes W .i64 .i64 m m (Nat.le_refl _) (by omega)
  go_enter Try.func5, Try.ntmps5
  go_wp2
  have hob := OB.made w w.heap.size m m (Nat.le_refl _) (Nat.le_refl _) (by omega)
  have hb0 : Below w.heap.size w (w.alloc (.cells (bv (List.replicate m 0)).toArray 5)) := (Below.refl _ _).alloc (Nat.le_refl _) _
  go_loopw [14] (fun i wr => ∃ k : Nat, k ≤ m ∧ i = .int .i64 k ∧ OB wr w.heap.size (.slice (some ⟨w.heap.size, 0, none⟩) m m) m (List.replicate k x ++ List.replicate (m - k) 0) ∧ Below w.heap.size w wr) (fun i _ => m - (intOf i).toNat)
  case atStart => exact ⟨0, by omega, rfl, by simpa using hob, hb0⟩
  case round =>
    obtain ⟨k, hk, rfl, ho, hb⟩ := hrel
    by_cases h1 : k < m
    · have hc := ho.cellAt h1
      have hf := ho.frozenAt k
      have hst := ho.store k hx0 hx1
      rw [rep_set k m x h1] at hst
      go_wp2
      go_roundw
      case rel => exact ⟨k + 1, by omega, by go_num, hst, hb.setCell (p := ⟨w.heap.size, k, none⟩) (Nat.le_refl _) _⟩
      case measure => simp [intOf]; omega
    · have hkm : m - k = 0 := by omega
      rw [hkm, show k = m from by omega, List.replicate_zero, List.append_nil] at ho
      clear hkm
      generalize List.replicate m x = xs at *
      have hr := ho.reads
      have hsum := fun (W : World) (hW : RB W (some ⟨w.heap.size, 0, none⟩) m xs) => sum_one (some ⟨w.heap.size, 0, none⟩) m m xs W hW (Nat.le_refl _) (by omega)
      have href := fun (W : World) (hW : RB W (some ⟨w.heap.size, 0, none⟩) m xs) => refsum_any (some ⟨w.heap.size, 0, none⟩) m m xs W hW (Nat.le_refl _) (by omega)
      unfold SumPost at hsum href
      have hid := isId_sha xs
      generalize sha1 xs = X at *
      have heq := fun W => idv_eql hid hid W
      rw [beq_self_eq_true] at heq
      obtain ⟨w0, rfl⟩ : ∃ x, x = wr := ⟨wr, rfl⟩
      go_wp2_with (first
        | (go_at_call 12; (with_reducible refine (awake02_any _).mono ?_); rintro e w1 ⟨rfl, hb1⟩)
        | (go_at_call 14; (with_reducible refine (hsum _ (hr.below hb1)).mono ?_); rintro e w2 ⟨rfl, hb2⟩)
        | (go_at_call 15; (with_reducible refine (href _ ((hr.below hb1).below hb2)).mono ?_); rintro e w3 ⟨rfl, hb3⟩))
      go_ret
      have hz0 := hb.size
      have hz1 := hb1.size
      have hz2 := hb2.size
      exact ⟨rfl, below_then (below_then (below_then hb hb.size hb1) (by omega) hb2) (by omega) hb3⟩
theorem wf_byte {x : Int} (h : (Lit.int .u8 x).wf = true) : 0 ≤ x ∧ x ≤ 255 := by
  simpa [Lit.wf, IntKind.min, IntKind.max, IntKind.signed, IntKind.bits] using h
theorem shaLengths_row (n : Int) (x : Int) (w : World) (hn : (Lit.int .i64 n).wf = true) (hx : (Lit.int .u8 x).wf = true) :
    Calls Try.prog 5 #[.int .i64 n, .int .u8 x] w (fun e w' => e = .returned (.bool true) ∧ Below w.heap.size w w') :=
  shaLengths_walk n x w hn (wf_byte hx).1 (wf_byte hx).2
end Go.Proofs.Ytflmaendnbokaaa
