/-
  delta: contracts of 'alike' and 'Make': the common beginning of two texts; the one edit between them.
-/
import Derived.Test.YtgokompppadogaaBytesB
set_option linter.unusedVariables false
set_option linter.unusedSimpArgs false
namespace Go.Proofs.Ytgokompppadogaa
open Go.RowKit

/-- how long the common beginning is. -/
def cp : List Int → List Int → Nat
  | x :: xs, y :: ys => if x = y then cp xs ys + 1 else 0
  | _, _ => 0
def AlikeTo (xs ys : List Int) (k : Nat) : Prop := ∀ j, j < k → gi xs j = gi ys j
theorem gi_cons_succ (x : Int) (xs : List Int) (i : Nat) : gi (x :: xs) (i + 1) = gi xs i := by simp [gi]
theorem gi_cons_zero (x : Int) (xs : List Int) : gi (x :: xs) 0 = x := by simp [gi]
theorem cp_eq : ∀ (xs ys : List Int) (k : Nat), AlikeTo xs ys k → k ≤ xs.length → k ≤ ys.length → (k < xs.length → k < ys.length → gi xs k ≠ gi ys k) → cp xs ys = k
  | [], ys, k, _, h1, _, _ => by simp at h1; subst h1; cases ys <;> rfl
  | x :: xs, [], k, _, _, h2, _ => by simp at h2; subst h2; rfl
  | x :: xs, y :: ys, k, h, h1, h2, h3 => by
    unfold cp
    cases k with
    | zero =>
      have := h3 (by simp) (by simp)
      rw [gi_cons_zero, gi_cons_zero] at this
      rw [if_neg this]
    | succ k =>
      have h0 := h 0 (by omega)
      rw [gi_cons_zero, gi_cons_zero] at h0
      rw [if_pos h0, cp_eq xs ys k (fun j hj => by have := h (j + 1) (by omega); rwa [gi_cons_succ, gi_cons_succ] at this) (by simp at h1; omega) (by simp at h2; omega)
        (fun a b => by have := h3 (by simp; omega) (by simp; omega); rwa [gi_cons_succ, gi_cons_succ] at this)]
theorem cp_le : ∀ (xs ys : List Int), cp xs ys ≤ xs.length ∧ cp xs ys ≤ ys.length
  | [], ys => by cases ys <;> simp [cp]
  | x :: xs, [] => by simp [cp]
  | x :: xs, y :: ys => by
    have := cp_le xs ys
    unfold cp
    split
    · simp; omega
    · simp
theorem cp_alike : ∀ (xs ys : List Int), AlikeTo xs ys (cp xs ys)
  | [], ys => by intro j hj; cases ys <;> simp [cp] at hj
  | x :: xs, [] => by intro j hj; simp [cp] at hj
  | x :: xs, y :: ys => by
    intro j hj
    unfold cp at hj
    split at hj
    · rename_i h
      cases j with
      | zero => rw [gi_cons_zero, gi_cons_zero]; exact h
      | succ j => rw [gi_cons_succ, gi_cons_succ]; exact cp_alike xs ys j (by omega)
    · omega
theorem cp_ends : ∀ (xs ys : List Int), cp xs ys < xs.length → cp xs ys < ys.length → gi xs (cp xs ys) ≠ gi ys (cp xs ys)
  | [], ys => by intro h; simp at h
  | x :: xs, [] => by intro _ h; simp at h
  | x :: xs, y :: ys => by
    unfold cp
    split
    · intro h1 h2
      rw [gi_cons_succ, gi_cons_succ]
      exact cp_ends xs ys (by simp at h1; omega) (by simp at h2; omega)
    · intro _ _
      rw [gi_cons_zero, gi_cons_zero]
      assumption

def AlikePost (xs ys : List Int) (w : World) (e : Ending) (w' : World) : Prop := e = .returned (.int .i64 (cp xs ys : Nat)) ∧ ∃ q, w.drewN q = w'

set_option maxHeartbeats 400000 in
theorem alike_any (A B : Option Addr) (n m c d : Nat) (xs ys : List Int) (w : World) (hA : RB w A n xs) (hB : RB w B m ys) (hn : n ≤ 140737488355328) (hm : m ≤ 140737488355328) :
    Calls Try.prog 48 #[.slice A n c, .slice B m d] w (AlikePost xs ys w) := by
  go_enter Try.func48, Try.ntmps48
  go_wp2
  go_loopw [5] (fun i wr => ∃ k : Nat, k ≤ n ∧ k ≤ m ∧ AlikeTo xs ys k ∧ i = .int .i64 k ∧ ∃ q, wr = w.drewN q) (fun i _ => n - (intOf i).toNat)
  case atStart => exact ⟨0, Nat.zero_le _, Nat.zero_le _, fun j h => absurd h (by omega), rfl, 0, rfl⟩
  case round =>
    obtain ⟨k, hk, hkm, hal, rfl, q, rfl⟩ := hrel
    by_cases h1 : k < n
    · obtain ⟨ad, rfl, hca⟩ := hA.at_ h1
      by_cases h2 : k < m
      · obtain ⟨bd, rfl, hcb⟩ := hB.at_ h2
        by_cases h3 : gi xs k = gi ys k
        · have h3' : (gi xs k == gi ys k) = true := by simpa using h3
          have H3 := Lib.hid h3
          clear h3
          go_wp2
          go_quiet (fail)
          go_wp2
          go_roundw
          case rel => exact ⟨k + 1, by omega, by omega, fun j hj => by rcases Nat.lt_or_ge j k with h | h; exact hal j h; obtain rfl : j = k := (by omega); exact H3.out, by go_num, q + nq, by simp⟩
          case measure => simp [intOf]; omega
        · have h3' : (gi xs k == gi ys k) = false := by simpa using h3
          go_wp2
          go_quiet (fail)
          go_wp2
          go_ret
          exact ⟨by rw [cp_eq xs ys k hal (by have := hA.1; omega) (by have := hB.1; omega) fun _ _ => h3]; rfl, q + nq, by simp⟩
      · go_wp2
        go_quiet (fail)
        go_wp2
        go_ret
        exact ⟨by rw [cp_eq xs ys k hal (by have := hA.1; omega) (by have := hB.1; omega) fun _ h => absurd h (by have := hB.1; omega)]; rfl, q + nq, by simp⟩
    · go_wp2
      go_quiet (fail)
      go_wp2
      go_ret
      exact ⟨by rw [cp_eq xs ys k hal (by have := hA.1; omega) (by have := hB.1; omega) fun h => absurd h (by have := hA.1; omega)]; rfl, q + nq, by simp⟩

/-- An edit: from, to, what stands there instead. -/
structure Ed where
  f : Int
  t : Int
  b : List Int
/-- The edits between two texts. -/
def mkEdits (xs ys : List Int) : List Ed :=
  if xs = ys then [] else
    [{ f := (cp xs ys : Nat), t := (xs.length : Int) - (cp (xs.drop (cp xs ys)).reverse (ys.drop (cp xs ys)).reverse : Nat),
       b := (ys.take (ys.length - cp (xs.drop (cp xs ys)).reverse (ys.drop (cp xs ys)).reverse)).drop (cp xs ys) }]

/-- A slice of edits that reads so; each block that it leads to is one of S. -/
def REs (w : World) (S : Nat → Prop) (A : Option Addr) (n : Nat) (l : List Ed) : Prop :=
  l.length = n ∧ (0 < n → ∃ ad, A = some ad ∧ S ad.block ∧ ∀ i, i < n → ∀ x, l[i]? = some x → ∃ B c, w.cell? (ad.add (i * 3)) = some (.int .i64 x.f) ∧ w.cell? (ad.add (i * 3 + 1)) = some (.int .i64 x.t) ∧
    w.cell? (ad.add (i * 3 + 2)) = some (.slice B x.b.length c) ∧ x.b.length ≤ c ∧ RB w B x.b.length x.b ∧ ∀ bd, B = some bd → S bd.block)

theorem REs.one {w : World} {S : Nat → Prop} (f t : Int) (A : Option Addr) (n c : Nat) (xs : List Int) (h : RB w A n xs) (hn : n ≤ c) (hS : S w.heap.size) (hA : ∀ bd, A = some bd → S bd.block) :
    REs (w.alloc (.cells #[.int .i64 f, .int .i64 t, .slice A n c] 96)) S (some ⟨w.heap.size, 0, none⟩) 1 [⟨f, t, xs⟩] := by
  have hl := h.1
  subst hl
  refine ⟨rfl, fun _ => ⟨_, rfl, hS, fun i hi x hx => ?_⟩⟩
  obtain rfl : i = 0 := by omega
  simp at hx
  subst hx
  have hb := Blk.new w 96 #[.int .i64 f, .int .i64 t, .slice A xs.length c]
  refine ⟨A, c, ?_, ?_, ?_, hn, h.alloc _, hA⟩
  · rw [add_plain, hb.cell]; rfl
  · rw [add_plain, hb.cell]; rfl
  · rw [add_plain, hb.cell]; rfl
theorem OB.blocks {w : World} {base : Nat} {A : Option Addr} {n c : Nat} {xs : List Int} (h : OB w base (.slice A n c) n xs) : ∀ bd, A = some bd → base ≤ bd.block := fun bd hb => (h.own bd.block (by subst hb; rfl)).1

set_option maxHeartbeats 1000000 in
theorem make_any (A B : Option Addr) (n m c d : Nat) (xs ys : List Int) (w : World) (hA : RB w A n xs) (hB : RB w B m ys) (hn : n ≤ c) (hm : m ≤ d) (hn1 : n ≤ 100000) (hm1 : m ≤ 100000) :
    Calls Try.prog 41 #[.slice A n c, .slice B m d] w fun e w' => ∃ A' k, e = .returned (.slice A' k k) ∧ REs w' (w.heap.size ≤ ·) A' k (mkEdits xs ys) ∧ Below w.heap.size w w' := by
  by_cases hxy : xs = ys
  · have hd : decide (xs = ys) = true := decide_eq_true hxy
    go_enter Try.func41, Try.ntmps41
    go_wp2_with (go_at_call 39; refine (equal_any _ _ _ _ _ _ xs ys _ hA hB).mono ?_; rintro e w' ⟨rfl, rfl⟩)
    go_ret
    refine ⟨_, _, rfl, ⟨by simp [mkEdits, hxy], fun h => absurd h (by omega)⟩, Below.refl _ _⟩
  · have hd : decide (xs = ys) = false := decide_eq_false hxy
    have hkl := cp_le xs ys
    rw [hA.1, hB.1] at hkl
    obtain ⟨hk1, hk2⟩ := hkl
    have hcA := hA.cut hk1 hn
    have hcB := hB.cut hk2 hm
    go_enter Try.func41, Try.ntmps41
    go_wp2_with (first | (go_at_call 39; refine (equal_any _ _ _ _ _ _ xs ys _ hA hB).mono ?_; rintro e w' ⟨rfl, rfl⟩) | (go_at_call 48; refine (alike_any _ _ _ _ _ _ xs ys _ hA hB (by omega) (by omega)).mono ?_; rintro e w' ⟨rfl, q, rfl⟩))
    go_region_with (first
      | (go_at_call 49; (with_reducible refine (clone_any _ _ _ _ _ (hcA.drewN _) (by omega)).mono ?_); rintro e w1 ⟨A1, c1, rfl, ho1, hc1, hb1⟩)
      | (go_at_call 49; (with_reducible refine (clone_any _ _ _ _ _ ((hcB.drewN _).below hb1) (by omega)).mono ?_); rintro e w2 ⟨A2, c2, rfl, ho2, hc2, hb2⟩))
    have hk3 := cp_le (xs.drop (cp xs ys)).reverse (ys.drop (cp xs ys)).reverse
    simp only [List.length_reverse, List.length_drop, hA.1, hB.1] at hk3
    obtain ⟨hk3, hk4⟩ := hk3
    have hk5 : (cp xs ys : Int) ≤ (m : Int) - (cp (xs.drop (cp xs ys)).reverse (ys.drop (cp xs ys)).reverse : Nat) := by omega
    have hk6 : (m : Int) - (cp (xs.drop (cp xs ys)).reverse (ys.drop (cp xs ys)).reverse : Nat) ≤ d := by omega
    have hk7 : 0 ≤ (m : Int) - (cp (xs.drop (cp xs ys)).reverse (ys.drop (cp xs ys)).reverse : Nat) := by omega
    go_wp2_with (first
      | (go_at_call 50; (with_reducible refine (reverse_all _ _ _ _ _ _ (ho1.below hb2) (by omega)).mono ?_); rintro e w3 ⟨rfl, ho3, hg3⟩)
      | (go_at_call 50; (with_reducible refine (reverse_all _ _ _ _ _ _ (ho2.kept hg3 (own_apart ho1 ho2)) (by omega)).mono ?_); rintro e w4 ⟨rfl, ho4, hg4⟩)
      | (go_at_call 48; (with_reducible refine (alike_any _ _ _ _ _ _ _ _ _ (ho3.kept hg4 (own_apart' ho1 ho2)).reads ho4.reads (by omega) (by omega)).mono ?_); rintro e w5 ⟨rfl, q2, rfl⟩)
      | (go_at_call 32; have hb4 : Below w.heap.size w w4 := ((below_two (below_two (drewN_below w (q + 1)) hb1) hb2).grown hg3 (below_two (below_two (drewN_below w (q + 1)) hb1) hb2).size fun k hk => (ho1.own k hk).1).grown hg4 (Nat.le_trans (below_two (below_two (drewN_below w (q + 1)) hb1) hb2).size hg3.size) fun k hk => Nat.le_trans hb1.size (ho2.own k hk).1; (with_reducible refine (bclone_any _ _ _ _ _ (((hB.below hb4).drewN q2).mid (by omega) (by omega) hm) (by omega)).mono ?_); rintro e w6 ⟨A3, c3, rfl, ho6, hc6, hb6⟩))
    go_ret
    have hb5 : Below w.heap.size w w6 := below_then (below_drewN hb4 q2) hb4.size hb6
    have hx : mkEdits xs ys = [⟨(cp xs ys : Nat), (n : Int) - (cp (xs.drop (cp xs ys)).reverse (ys.drop (cp xs ys)).reverse : Nat), (ys.take (m - cp (xs.drop (cp xs ys)).reverse (ys.drop (cp xs ys)).reverse)).drop (cp xs ys)⟩] := by
      unfold mkEdits
      rw [if_neg hxy, hA.1, hB.1]
    refine ⟨_, _, rfl, ?_, hb5.alloc hb5.size _⟩
    rw [hx]
    exact REs.one _ _ _ _ _ _ ho6.reads hc6 hb5.size fun bd hb => Nat.le_trans hb4.size (ho6.blocks bd hb)
end Go.Proofs.Ytgokompppadogaa
