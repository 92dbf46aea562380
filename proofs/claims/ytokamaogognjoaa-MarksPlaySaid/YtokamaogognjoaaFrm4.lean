/-
  frame.Pack, trestleref05.Pack.
-/
import Derived.Test.YtokamaogognjoaaFrm2
set_option linter.unusedVariables false
set_option linter.unusedSimpArgs false
namespace Go.Proofs.Ytokamaogognjoaa
open Go.RowKit

def PackPost (r : List Int × Int) (w : World) (e : Ending) (w' : World) : Prop := ∃ A c, e = .returned (.tuple #[.slice A r.1.length c, .int .i64 r.2]) ∧ OB w' w.heap.size (.slice A r.1.length c) r.1.length r.1 ∧ r.1.length ≤ c ∧ Below w.heap.size w w'
set_option maxRecDepth 100000 in
theorem PackPost.bad {w w' : World} {x : Int} (hb : Below w.heap.size w w') : PackPost ([], x) w (.returned (.tuple #[.slice none 0 0, .int .i64 x])) w' := ⟨_, _, rfl, OB.nil _ _, Nat.le_refl _, hb⟩
set_option maxRecDepth 100000 in
theorem PackPost.good {w w' : World} {x : Int} {v : Value} {m : Nat} {zs : List Int} (ho : OB w' w.heap.size v m zs) (hb : Below w.heap.size w w') : PackPost (zs, x) w (.returned (.tuple #[v, .int .i64 x])) w' := by
  obtain ⟨A, c, rfl, hc⟩ := ho.slice
  have hl := ho.len
  subst hl
  exact ⟨A, c, rfl, ho, hc, hb⟩
set_option maxRecDepth 100000 in
theorem RBs.two {w : World} {g : Nat} {t : TypeId} {A B : Option Addr} {n c m d : Nat} {xs ys : List Int} (hb : Blk w g t #[.slice A n c, .slice B m d]) (h : RB w A n xs) (hc : n ≤ c) (h' : RB w B m ys) (hd : m ≤ d) : RBs w (some ⟨g, 0, Option.none⟩) 2 [xs, ys] := by
  refine ⟨rfl, g, 0, fun _ => rfl, fun i hi => ?_⟩
  have hl := h.len
  have hl' := h'.len
  subst hl hl'
  match i, hi with
  | 0, _ => exact ⟨A, c, hb.cell 0, hc, h⟩
  | 1, _ => exact ⟨B, d, hb.cell 1, hd, h'⟩
set_option maxRecDepth 100000 in
theorem OB.store_new {w w' : World} {base : Nat} {v : Value} {n : Nat} {xs : List Int} {o : Obj} (h : OB w base v n xs) (hg : (w.alloc o).grownBy w' (some w.heap.size)) : OB w' base v n xs := by
  refine (h.alloc o).kept hg ?_
  cases e : v.ownBlock with
  | none => exact .inl rfl
  | some k =>
    refine .inr fun e' => ?_
    injection e' with e'
    have := h.own _ e
    omega
def hd6 (k : Int) (n : Nat) : List Int := [254, k, (n : Int) / 16777216, (n : Int) / 65536, (n : Int) / 256 % 256, (n : Int) % 256]
set_option maxRecDepth 100000 in
theorem hd6_eq {k : Int} {n : Nat} (h0 : 0 ≤ k) (h1 : k ≤ 255) (hn : n ≤ 131172) : hd6 k n = headL k n := by
  unfold hd6 headL
  rw [show k % 256 = k from by omega, show (n : Int) / 16777216 % 256 = (n : Int) / 16777216 from by omega, show (n : Int) / 65536 % 256 = (n : Int) / 65536 from by omega]
def hdObj (k : Int) (n : Nat) : Obj := .cells #[.int .u8 254, .int .u8 k, .int .u8 ((n : Int) / 16777216), .int .u8 ((n : Int) / 65536), .int .u8 ((n : Int) / 256 % 256), .int .u8 ((n : Int) % 256)] 5
set_option maxRecDepth 100000 in
theorem hd6_RB (k : Int) (n : Nat) (w : World) (h0 : 0 ≤ k) (h1 : k ≤ 255) (hn : n ≤ 131172) : RB (w.alloc (hdObj k n)) (some ⟨w.heap.size, 0, none⟩) 6 (headL k n) := by
  rw [← hd6_eq h0 h1 hn]
  exact RB.lit_new w _ rfl (hd6 k n) 6 (0, 0) rfl (by rw [hd6_eq h0 h1 hn]; exact headL_byts k n)
set_option maxRecDepth 100000 in
theorem hd6_OB (k : Int) (n : Nat) (w : World) (h0 : 0 ≤ k) (h1 : k ≤ 255) (hn : n ≤ 131172) : OB (w.alloc (hdObj k n)) w.heap.size (.slice (some ⟨w.heap.size, 0, none⟩) 6 6) 6 (headL k n) := by
  rw [← hd6_eq h0 h1 hn]
  exact OB.of_blk (Nat.le_refl _) (Blk.new w 5 _) (Nat.le_refl _) (by simp [maxLen]) rfl rfl (by rw [hd6_eq h0 h1 hn]; exact headL_byts k n)
set_option maxRecDepth 100000 in
theorem cat_head (k : Int) (A : Option Addr) (n c : Nat) (xs : List Int) (w : World) (h : RB w A n xs) (hnc : n ≤ c) (h0 : 0 ≤ k) (h1 : k ≤ 255) (hn : n ≤ 131172) :
    Calls Try.prog 44 #[.slice (some ⟨w.heap.size + 1, 0, none⟩) 2 2] ((w.alloc (.cells #[.int .u8 254, .int .u8 k, .int .u8 ((n : Int) / 16777216), .int .u8 ((n : Int) / 65536), .int .u8 ((n : Int) / 256 % 256), .int .u8 ((n : Int) % 256)] 5)).alloc (.cells #[.slice (some ⟨w.heap.size, 0, none⟩) 6 6, .slice A n c] 36))
      (NewB (6 + n) (bodyL k xs) w) := by
  have hl := h.len
  have hr := ((hd6_RB k n w h0 h1 hn).alloc (.cells #[.slice (some ⟨w.heap.size, 0, none⟩) 6 6, .slice A n c] 36))
  have hb := Blk.new (w.alloc (hdObj k n)) 36 #[.slice (some ⟨w.heap.size, 0, none⟩) 6 6, .slice A n c]
  have hs : (w.alloc (hdObj k n)).heap.size = w.heap.size + 1 := by simp
  rw [hs] at hb
  have hrs := RBs.two hb hr (Nat.le_refl _) ((h.alloc (hdObj k n)).alloc _) hnc
  have hf : [headL k n, xs].flatten = bodyL k xs := by simp [bodyL, hl]
  have hc := concat_any (some ⟨w.heap.size + 1, 0, none⟩) 2 2 _ _ hrs (Nat.le_refl _) (by omega) (by rw [hf, bodyL_length]; omega)
  rw [hf] at hc
  refine Calls.mono (R := fun e w' => ∃ v m, e = .returned v ∧ OB w' ((w.alloc (hdObj k n)).alloc (.cells #[.slice (some ⟨w.heap.size, 0, none⟩) 6 6, .slice A n c] 36)).heap.size v m (bodyL k xs) ∧ Below ((w.alloc (hdObj k n)).alloc (.cells #[.slice (some ⟨w.heap.size, 0, none⟩) 6 6, .slice A n c] 36)).heap.size ((w.alloc (hdObj k n)).alloc (.cells #[.slice (some ⟨w.heap.size, 0, none⟩) 6 6, .slice A n c] 36)) w') hc ?_
  rintro e w' ⟨v, m, rfl, ho, hb'⟩
  have hm := ho.len
  rw [bodyL_length, hl] at hm
  subst hm
  exact NewB.of (ho.lower (by simp; omega)) (below_two ((Below.refl _ _).alloc (Nat.le_refl _) _) (below_two ((Below.refl _ _).alloc (Nat.le_refl _) _) hb'))

set_option maxRecDepth 100000 in
set_option maxHeartbeats 2000000 in
theorem pack_any (k : Int) (A : Option Addr) (n c : Nat) (xs : List Int) (w : World) (h : RB w A n xs) (hnc : n ≤ c) (hn : n ≤ 1000000000) :
    Calls Try.prog 31 #[.int .i64 k, .slice A n c] w (PackPost (packR k xs) w) := by
  have hl := h.len
  unfold packR
  rw [hl]
  by_cases hk0 : k < 0
  · rw [if_pos (.inl hk0)]
    go_enter Try.func31, Try.ntmps31
    go_wp2
    go_ret2
    exact PackPost.bad (Below.refl _ _)
  · by_cases hk1 : 255 < k
    · rw [if_pos (.inr hk1)]
      go_enter Try.func31, Try.ntmps31
      go_wp2
      go_ret2
      exact PackPost.bad (Below.refl _ _)
    · rw [if_neg (by omega)]
      have b0 : 0 ≤ k := by omega
      have b1 : k ≤ 255 := by omega
      by_cases hbig : 131172 < n
      · rw [if_pos hbig]
        have i1 : (131172 : Int) < n := by omega
        go_enter Try.func31, Try.ntmps31
        go_wp2
        go_ret2
        exact PackPost.bad (Below.refl _ _)
      · rw [if_neg hbig]
        have i1 : ¬ ((131172 : Int) < n) := by omega
        have hcat := cat_head k A n c xs w h hnc b0 b1 (by omega)
        have hbl := bodyL_length k xs
        rw [hl] at hbl
        have hsum : ∀ (W : World) (V : Option Addr) (C0 : Nat), RB W V (6 + n) (bodyL k xs) → 6 + n ≤ C0 → Calls Try.prog 50 #[.slice (some ⟨W.heap.size, 0, none⟩) 1 1] (W.alloc (.cells #[.slice V (6 + n) C0] 36)) (SumPost (bodyL k xs) W) := fun W V C0 hW hC => sum_one V (6 + n) C0 _ W hW hC (by omega)
        have hid := isId_sha (bodyL k xs)
        unfold SumPost at hsum
        rw [show packL k xs = bodyL k xs ++ (sha1 (bodyL k xs)).take 8 from rfl]
        generalize sha1 (bodyL k xs) = X at *
        generalize bodyL k xs = ys at *
        have hzX : (Try.prog.info? 25).map (·.size) = some (bv X).toArray.size := by rw [bvArr_size, hid.1]; exact idSize
        have hsX : zid.size = (bv X).toArray.size := by rw [bvArr_size, hid.1]; rfl
        have hX8 : X.length = 20 := hid.1
        have hXb : Byts X := hid.2
        have hcut := cut48
        have HL := Lib.hid hl
        have HB := Lib.hid hbl
        clear hid h hl hbl
        go_enter Try.func31, Try.ntmps31
        go_wp2_with (first
          | (go_at_call 44; (with_reducible refine hcat.mono ?_); rintro e w1 ⟨V, C0, rfl, ho, hc0, hb1⟩)
          | (go_at_call 50; (with_reducible refine (hsum _ _ _ ho.reads hc0).mono ?_); rintro e w2 ⟨rfl, hb2⟩)
          | ((with_reducible refine st_row 25 8 41 w2.heap.size 25 (bv X).toArray zid ?_ ?_ ?_ hzX hsX (bvArr_all X) ?_); rfl; rfl; exact (Blk.new w2 25 zid); intro w4 hb4 hg4 hsz4; have ho4 : OB w4 w.heap.size (.slice V (6 + n) C0) (6 + n) ys := OB.store_new (ho.below hb2) hg4; have hid8 := hb4.readsTake hXb 8 (by omega); have hz1 := hb1.size; have hz2 := hb2.size; have hb14 : Below w.heap.size w w4 := ((below_then hb1 hz1 hb2).alloc (by omega) _).grown hg4 (by simp; omega) (fun k hk => by cases hk; omega))
          | (at_builtin; refine wpList_app rfl (.tmp 42) (.tmp 43) rfl w.heap.size _ _ _ rfl ho4 (some ⟨w2.heap.size, 0, none⟩) 8 20 (X.take 8) rfl hid8 (by omega) hb14.size ?_; intro v5 w5 ho5 hg5 hat5))
        go_ret2
        exact PackPost.good ho5 (hb14.grown hg5 hb14.size (fun k hk => (ho4.own k hk).1))

end Go.Proofs.Ytokamaogognjoaa
