/-
  TapeFuse.
-/
import Derived.Test.YtdhegecnhglplaaTpB0
set_option linter.unusedVariables false
set_option linter.unusedSimpArgs false
namespace Go.Proofs.Ytdhegecnhglplaa
open Go.RowKit

def bl (i : Nat) : List Int := (List.range i).map fun j : Nat => (j : Int)
theorem bl_len (i : Nat) : (bl i).length = i := by simp [bl]
theorem bl_succ (i : Nat) : bl (i + 1) = bl i ++ [(i : Int)] := by simp [bl, List.range_succ]
theorem bl_byts (i : Nat) (h : i ≤ 200) : Byts (bl i) := by
  intro x hx
  simp only [bl, List.mem_map, List.mem_range] at hx
  obtain ⟨j, hj, rfl⟩ := hx
  omega
/-- up, behind i rounds; a fuse of T. -/
def fuUp (T i : Nat) : Tp := ⟨bl i, i, 1000, (T : Int) - 2 * i, 0, false⟩
def fuMid (T i : Nat) : Tp := ⟨bl (i + 1), i, 1000, (T : Int) - 2 * i - 1, 0, false⟩
def fuDown (d : Nat) : Tp := ⟨bl (d + 1), d, 1000, 0, 1, true⟩
theorem deedUp' {s : Tp} {r : Int} {pass leave : Tp → Tp} (hd : s.down = false) (hr : r = 0) : s.deed r pass leave = if s.fuse = 1 then (16, (leave { s with fuse := 0 }).sink) else (0, pass s.burn) := by
  unfold Tp.deed
  rw [if_neg (by simp [hd]), if_neg (by simp [hr])]
theorem fu_room {T i : Nat} (hi : i ≤ 100) : (if 0 < [(i : Int)].length ∧ (fuUp T i).room - ((fuUp T i).b.length : Int) < (([(i : Int)].length : Nat) : Int) then (14 : Int) else 0) = 0 := by
  rw [if_neg]
  rintro ⟨_, h⟩
  simp [fuUp, bl_len] at h
  omega
theorem fu_w1 {T i : Nat} (h : T = 2 * i + 1) (hi : i ≤ 100) : (fuUp T i).write [(i : Int)] = (16, fuDown i) := by
  unfold Tp.write
  rw [deedUp' rfl (fu_room hi), if_pos (by simp [fuUp]; omega)]
  simp [Tp.wr, Tp.sink, fuDown, bl_succ, fuUp]
theorem fu_w2 {T i : Nat} (h : 2 * i + 2 ≤ T) (hi : i ≤ 100) : (fuUp T i).write [(i : Int)] = (0, fuMid T i) := by
  unfold Tp.write
  rw [deedUp' rfl (fu_room hi), if_neg (by simp [fuUp]; omega)]
  simp only [Tp.wr, Tp.burn, fuMid, bl_succ, fuUp]
  rw [show max ((T : Int) - 2 * i - 1) 0 = (T : Int) - 2 * i - 1 from by omega]
theorem fu_h1 {T i : Nat} (h : T = 2 * i + 2) : (fuMid T i).hold = (16, fuDown i) := by
  unfold Tp.hold
  rw [deedUp' rfl rfl, if_pos (by simp [fuMid]; omega)]
  simp [Tp.sink, fuDown, fuMid]
theorem fu_h2 {T i : Nat} (h : 2 * i + 3 ≤ T) : (fuMid T i).hold = (0, fuUp T (i + 1)) := by
  unfold Tp.hold
  rw [deedUp' rfl rfl, if_neg (by simp [fuMid]; omega)]
  simp only [Tp.hd, Tp.burn, fuUp, bl_len, fuMid]
  rw [show max ((T : Int) - 2 * i - 1 - 1) 0 = (T : Int) - 2 * ((i + 1 : Nat) : Int) from by omega]
theorem fu_wd {d : Nat} (x : List Int) : (fuDown d).write x = (16, fuDown d) := by
  unfold Tp.write Tp.deed fuDown
  rw [if_pos rfl]
theorem fu_start (T : Nat) (hT : T ≤ 1000) : (Tp.new.setRoom 1000).setFuse T = fuUp T 0 := by
  unfold Tp.setFuse Tp.setRoom Tp.new fuUp
  rw [show max (T : Int) 0 = (T : Int) - 2 * ((0 : Nat) : Int) from by omega, show min (max (1000 : Int) 0) 16777216 = 1000 from by omega]
  rfl
theorem okUp {T i : Nat} (h : 2 * i ≤ T) (hT : T ≤ 1000) (hi : i ≤ 100) : (fuUp T i).Ok 400000000 := ⟨bl_byts i (by omega), by simp [fuUp, bl_len], by simp [fuUp], by simp [fuUp], by simp [fuUp]; omega, by simp [fuUp]; omega, by simp [fuUp, bl_len]; omega, by simp [fuUp]⟩
theorem okMid {T i : Nat} (h : 2 * i + 1 ≤ T) (hT : T ≤ 1000) (hi : i ≤ 100) : (fuMid T i).Ok 400000000 := ⟨bl_byts (i + 1) (by omega), by simp [fuMid, bl_len], by simp [fuMid], by simp [fuMid], by simp [fuMid]; omega, by simp [fuMid]; omega, by simp [fuMid, bl_len]; omega, by simp [fuMid]⟩
theorem okDown {d : Nat} (hi : d ≤ 100) : (fuDown d).Ok 400000000 := ⟨bl_byts (d + 1) (by omega), by simp [fuDown, bl_len], by simp [fuDown], by simp [fuDown], by simp [fuDown], by simp [fuDown], by simp [fuDown, bl_len]; omega, by simp [fuDown]⟩
/-- a fall, and up again. -/
theorem fall_rise (s : Tp) (k : Int) (h : s.held ≤ s.b.length) : ((s.fall k).rise).b.length = s.held + s.stay k ∧ ((s.fall k).rise).held = s.held + s.stay k ∧ ((s.fall k).rise).down = false := by
  have hs := Tp.stay_le (k := k) h
  have hd : (s.fall k).down = true := rfl
  unfold Tp.rise
  rw [if_pos hd]
  have hb : (s.fall k).b = s.b.take (s.held + s.stay k) := rfl
  have hh : (s.fall k).held = s.held + s.stay k := rfl
  refine ⟨?_, hh, rfl⟩
  show ((s.fall k).b.take (s.fall k).held).length = _
  rw [hb, hh, List.length_take, List.length_take]
  omega
theorem fall_held (s : Tp) (k : Int) (h : s.held ≤ s.b.length) : (s.fall k).held ≤ (s.fall k).b.length := by
  have hs := Tp.stay_le (k := k) h
  have hb : (s.fall k).b = s.b.take (s.held + s.stay k) := rfl
  have hh : (s.fall k).held = s.held + s.stay k := rfl
  rw [hb, hh, List.length_take]
  omega
end Go.Proofs.Ytdhegecnhglplaa
