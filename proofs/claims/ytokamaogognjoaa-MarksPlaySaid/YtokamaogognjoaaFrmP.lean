/-
  Frames on lists: what is packed is taken; a frame that is cut is too short; frames behind one another. No Go in sight.
-/
import Derived.Test.YtokamaogognjoaaFrm0
import Derived.Test.YtokamaogognjoaaConcat
set_option linter.unusedVariables false
set_option linter.unusedSimpArgs false
namespace Go.Proofs.Ytokamaogognjoaa

set_option maxRecDepth 100000 in
theorem lenI_head (k : Int) (n : Nat) (zs : List Int) (hn : n ≤ 131172) : lenI (headL k n ++ zs) = n := by
  simp [lenI, headL, gi]
  omega
set_option maxRecDepth 100000 in
theorem pack_head (k : Int) (b more : List Int) : packL k b ++ more = headL k b.length ++ (b ++ ((sha1 (bodyL k b)).take 8 ++ more)) := by simp [packL, bodyL]
set_option maxRecDepth 100000 in
theorem takeR_pack (k : Int) (b more : List Int) (h0 : 0 ≤ k) (h1 : k ≤ 255) (hl : b.length ≤ 131172) : takeR (packL k b ++ more) = ⟨k, b, 14 + b.length, 0⟩ := by
  have h8 := (isId_sha (bodyL k b)).1
  have e := pack_head k b more
  have hlen : (packL k b ++ more).length = 14 + b.length + more.length := by rw [List.length_append, packL_length]
  have hL : lenL (packL k b ++ more) = b.length := by unfold lenL; rw [e, lenI_head _ _ _ hl]; simp
  have h0' : gi (packL k b ++ more) 0 = 254 := by rw [e]; rfl
  have h1' : gi (packL k b ++ more) 1 = k := by rw [e]; show k % 256 = k; omega
  have ht : (packL k b ++ more).take (6 + b.length) = bodyL k b := by
    rw [packL, List.append_assoc, List.take_append_of_le_length (by rw [bodyL_length]; omega), List.take_of_length_le (by rw [bodyL_length]; omega)]
  have hd : ((packL k b ++ more).drop (6 + b.length)).take 8 = (sha1 (bodyL k b)).take 8 := by
    rw [packL, List.append_assoc, List.drop_append_of_le_length (by rw [bodyL_length]; omega), List.drop_of_length_le (by rw [bodyL_length]; omega), List.nil_append, List.take_append_of_le_length (by simp [h8]), List.take_take]
    simp
  have hb : (bodyL k b).drop 6 = b := rfl
  unfold takeR
  rw [if_neg (by omega), if_neg (by rw [h0']; simp), if_neg (by omega), hL, if_neg (by omega), if_neg (by omega), ht, hd, if_neg (by simp), h1', hb]
set_option maxRecDepth 100000 in
theorem takeR_cut (k : Int) (b : List Int) (m : Nat) (hl : b.length ≤ 131172) (hm : m < 14 + b.length) : takeR ((packL k b).take m) = ⟨0, [], 0, 3⟩ := by
  have hp := packL_length k b
  have hlen : ((packL k b).take m).length = m := by rw [List.length_take]; omega
  have e := pack_head k b []
  rw [List.append_nil] at e
  unfold takeR
  rw [hlen]
  by_cases h0 : m = 0
  · rw [if_pos h0]
  · rw [if_neg h0]
    have g0 : gi ((packL k b).take m) 0 = 254 := by rw [gi_take (by omega), e]; rfl
    rw [if_neg (by rw [g0]; simp)]
    by_cases h6 : m < 6
    · rw [if_pos h6]
    · rw [if_neg h6]
      have hL : lenL ((packL k b).take m) = b.length := by
        have : lenI ((packL k b).take m) = lenI (packL k b) := by
          unfold lenI
          rw [gi_take (by omega), gi_take (by omega), gi_take (by omega), gi_take (by omega)]
        unfold lenL
        rw [this, e, lenI_head _ _ _ hl]
        simp
      rw [hL, if_neg (by omega), if_pos (by omega)]

/-- the frames of some texts. -/
def framesL (ks : List Int) (ps : List (List Int)) : List (List Int) := (List.range ps.length).map fun i => packL (gi ks i) (ps.getD i [])
set_option maxRecDepth 100000 in
theorem framesL_length (ks : List Int) (ps : List (List Int)) : (framesL ks ps).length = ps.length := by simp [framesL]
set_option maxRecDepth 100000 in
theorem framesL_get (ks : List Int) (ps : List (List Int)) {i : Nat} (h : i < ps.length) : (framesL ks ps).getD i [] = packL (gi ks i) (ps.getD i []) := by simp [framesL, h]
set_option maxRecDepth 100000 in
theorem drop_joined (fs : List (List Int)) (more : List Int) (j : Nat) : (fs.flatten ++ more).drop (joined fs j).length = (fs.drop j).flatten ++ more := by
  have : fs.flatten = joined fs j ++ (fs.drop j).flatten := by unfold joined; rw [← List.flatten_append, List.take_append_drop]
  rw [this, List.append_assoc, List.drop_append_of_le_length (Nat.le_refl _), List.drop_of_length_le (Nat.le_refl _), List.nil_append]
set_option maxRecDepth 100000 in
theorem drop_cons_getD {fs : List (List Int)} {j : Nat} (h : j < fs.length) : fs.drop j = fs.getD j [] :: fs.drop (j + 1) := by
  rw [List.drop_eq_getElem_cons h, List.getD_eq_getElem?_getD, List.getElem?_eq_getElem h]
  rfl
set_option maxRecDepth 100000 in
theorem take_frames (ks : List Int) (ps : List (List Int)) (more : List Int) (j : Nat) (hj : j < ps.length) (h0 : 0 ≤ gi ks j) (h1 : gi ks j ≤ 255) (hl : (ps.getD j []).length ≤ 131172) :
    takeR (((framesL ks ps).flatten ++ more).drop (joined (framesL ks ps) j).length) = ⟨gi ks j, ps.getD j [], 14 + (ps.getD j []).length, 0⟩ := by
  rw [drop_joined, drop_cons_getD (by rw [framesL_length]; exact hj), List.flatten_cons, framesL_get ks ps hj, List.append_assoc, takeR_pack _ _ _ h0 h1 hl]
set_option maxRecDepth 100000 in
theorem take_more (ks : List Int) (ps : List (List Int)) (more : List Int) : ((framesL ks ps).flatten ++ more).drop (joined (framesL ks ps) ps.length).length = more := by
  rw [drop_joined, List.drop_of_length_le (by rw [framesL_length]; exact Nat.le_refl _)]
  rfl
set_option maxRecDepth 100000 in
theorem joined_frames (ks : List Int) (ps : List (List Int)) (j : Nat) (hj : j < ps.length) : (joined (framesL ks ps) (j + 1)).length = (joined (framesL ks ps) j).length + (14 + (ps.getD j []).length) := by
  rw [joined_succ (by rw [framesL_length]; exact hj), framesL_get ks ps hj, List.length_append, packL_length]
set_option maxRecDepth 100000 in
theorem takeR_err_zero {b : List Int} (h : (takeR b).err ≠ 0) : (takeR b).kind = 0 ∧ (takeR b).body = [] ∧ (takeR b).len = 0 := by
  unfold takeR at *
  repeat' split
  all_goals first | exact ⟨rfl, rfl, rfl⟩ | skip
  all_goals simp_all
set_option maxRecDepth 100000 in
theorem takeR_byts {b : List Int} (h : Byts b) : Byts (takeR b).body := by
  unfold takeR
  repeat' split
  all_goals first | exact Byts.nil | exact (h.take _).drop _
set_option maxRecDepth 100000 in
theorem takeR_range {b : List Int} (h : Byts b) : 0 ≤ (takeR b).kind ∧ (takeR b).kind ≤ 255 ∧ 0 ≤ (takeR b).len ∧ (takeR b).len ≤ b.length ∧ 0 ≤ (takeR b).err ∧ (takeR b).err ≤ 15 ∧ (takeR b).body.length ≤ b.length := by
  have h1 := h.gi 1
  unfold takeR
  repeat' split
  all_goals simp
  all_goals omega
end Go.Proofs.Ytokamaogognjoaa
