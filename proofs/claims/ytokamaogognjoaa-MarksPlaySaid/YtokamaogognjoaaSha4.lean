/-
  SHA-1: 'sha.Sum'.
-/
import Derived.Test.YtokamaogognjoaaSha3
import Derived.Test.YtokamaogognjoaaConcat
import Derived.Test.YtokamaogognjoaaIds
set_option linter.unusedVariables false
set_option linter.unusedSimpArgs false
namespace Go.Proofs.Ytokamaogognjoaa
open Go.RowKit

set_option maxRecDepth 100000 in
theorem lenBytes_length (n : Nat) : (lenBytes n).length = 8 := rfl
set_option maxRecDepth 100000 in
theorem zeros_spec {n z : Nat} (hz : z ≤ zerosOf n) : ((n + 1 + z) % 64 = 56 ↔ z = zerosOf n) := by unfold zerosOf at *; omega
set_option maxRecDepth 100000 in
theorem padded_length (xs : List Int) : (padded xs).length = xs.length + 1 + zerosOf xs.length + 8 := by simp [padded, lenBytes]; omega
set_option maxRecDepth 100000 in
theorem padded_64 (xs : List Int) : (padded xs).length % 64 = 0 := by rw [padded_length]; unfold zerosOf; omega

set_option maxRecDepth 100000 in
theorem init_cells : c5 initH = #[.int .u32 1732584193, .int .u32 4023233417, .int .u32 2562383102, .int .u32 271733878, .int .u32 3285377520] := by kernel_rfl
def OutPost (h : H5) (w : World) (e : Ending) (w' : World) : Prop := e = .returned (idv (outBytes h)) ∧ Below w.heap.size w w'
def outK (h : H5) (p : Nat) : List Int := (List.range 20).map fun i => if i < p then outByte h i else 0
set_option maxRecDepth 100000 in
theorem out_set (h : H5) (p : Nat) (hp : p < 20) : (bv (outK h p)).toArray.setIfInBounds p (.int .u8 (outByte h p)) = (bv (outK h (p + 1))).toArray := by
  apply Array.ext_getElem?
  intro i
  rw [Array.getElem?_setIfInBounds]
  by_cases h1 : i < 20
  · simp only [bv, outK, List.getElem?_toArray, List.getElem?_map, List.getElem?_range h1, Option.map_some, List.size_toArray, List.length_map, List.length_range]
    by_cases h2 : p = i
    · subst h2
      simp [hp]
    · rw [if_neg h2]
      have : i < p ↔ i < p + 1 := by omega
      simp [this]
  · rw [if_neg (by omega), Array.getElem?_eq_none (by simp [bv, outK]; omega), Array.getElem?_eq_none (by simp [bv, outK]; omega)]
set_option maxRecDepth 100000 in
theorem out_zero (h : H5) (p : Nat) (hp : p < 20) : (bv (outK h p)).toArray[p]? = some (.int .u8 0) := by
  simp [bv, outK, hp]
set_option maxRecDepth 100000 in
theorem out_all (h : H5) : outK h 20 = outBytes h := by
  unfold outK outBytes
  refine List.map_congr_left fun i hi => if_pos (List.mem_range.1 hi)
set_option maxRecDepth 100000 in
theorem c5_word (h : H5) (i : Nat) (hi : i < 5) : (c5 h)[i]? = some (.int .u32 (U (wordOf h i))) := by
  cases h
  match i, hi with
  | 0, _ => rfl
  | 1, _ => rfl
  | 2, _ => rfl
  | 3, _ => rfl
  | 4, _ => rfl
  | n + 5, hi => omega
set_option maxRecDepth 100000 in
theorem lenBytes_byts (n : Nat) : Byts (lenBytes n) := by
  intro x hx
  simp only [lenBytes, List.mem_cons, List.not_mem_nil, or_false] at hx
  rcases hx with rfl | rfl | rfl | rfl | rfl | rfl | rfl | rfl <;> omega
set_option maxRecDepth 100000 in
theorem padded_byts (xs : List Int) (h : Byts xs) : Byts (padded xs) := by
  intro x hx
  simp only [padded, List.mem_append, List.mem_singleton, List.mem_replicate] at hx
  rcases hx with ((hx | rfl) | ⟨_, rfl⟩) | hx
  · exact h x hx
  · omega
  · omega
  · exact lenBytes_byts _ x hx
def SumPost (xs : List Int) (w : World) (e : Ending) (w' : World) : Prop := e = .returned (idv (sha1 xs)) ∧ Below w.heap.size w w'

/-- 'slices.Concat' behind the result's own block. -/
def CatP (w : World) (n : Nat) (xs : List Int) (e : Ending) (w' : World) : Prop := ∃ V C0, e = .returned (.slice V n C0) ∧ n ≤ C0 ∧ OB w' (w.heap.size + 1) (.slice V n C0) n xs ∧ Blk w' w.heap.size 25 zid ∧ Below w.heap.size w w' ∧ w.heap.size + 1 ≤ w'.heap.size
set_option maxRecDepth 100000 in
theorem concat_sum (A : Option Addr) (k c : Nat) (ps : List (List Int)) (w : World) (h : RBs w A k ps) (hkc : k ≤ c) (hk : k ≤ 1000000000) (hbig : ps.flatten.length ≤ 1000000000) :
    Calls Try.prog 44 #[.slice A k c] (w.alloc (.cells zid 25)) (CatP w ps.flatten.length ps.flatten) := by
  refine (concat_any A k c ps _ (h.below ((Below.refl _ _).alloc (Nat.le_refl _) _)) hkc hk hbig).mono ?_
  rintro e w1 ⟨v, n, rfl, ho, hb⟩
  obtain ⟨V, C0, rfl, hc0⟩ := ho.slice
  have hn := ho.len
  subst hn
  have hs := hb.size
  simp only [World.size_alloc] at hs
  exact ⟨V, C0, rfl, hc0, ho.lower (by simp), (Blk.new w 25 zid).below hb (by simp), below_two ((Below.refl _ _).alloc (Nat.le_refl _) _) hb, hs⟩

set_option maxRecDepth 100000 in
theorem byt_mod (x : Int) : Byts [x % 256] := fun y hy => by
  simp only [List.mem_singleton] at hy
  subst hy
  omega
set_option maxRecDepth 100000 in
theorem lenBytes_take (n j : Nat) (hj : j < 8) : (lenBytes n).take (j + 1) = (lenBytes n).take j ++ [(n : Int) * 8 / 2 ^ (56 - 8 * j) % 256] := by
  match j, hj with
  | 0, _ => simp [lenBytes]
  | 1, _ => simp [lenBytes]
  | 2, _ => simp [lenBytes]
  | 3, _ => simp [lenBytes]
  | 4, _ => simp [lenBytes]
  | 5, _ => simp [lenBytes]
  | 6, _ => simp [lenBytes]
  | 7, _ => simp [lenBytes]
  | n + 8, h => omega
/-- how the sum stands while its text is laid out: the row, the result's block. -/
def SumSt (w : World) (v : Value) (m : Nat) (ys : List Int) (wr : World) : Prop := OB wr (w.heap.size + 1) v m ys ∧ Blk wr w.heap.size 25 zid ∧ Below w.heap.size w wr ∧ w.heap.size + 1 ≤ wr.heap.size
set_option maxRecDepth 100000 in
theorem SumSt.app {w wr w' : World} {v v' : Value} {m : Nat} {ys : List Int} {b : Int} {o : Obj} (h : SumSt w v m ys wr) (ho : OB w' (w.heap.size + 1) v' (m + 1) (ys ++ [b])) (hg : (wr.alloc o).grownBy w' v.ownBlock) : SumSt w v' (m + 1) (ys ++ [b]) w' := by
  have hz : wr.heap.size + 1 ≤ w'.heap.size := by have := hg.size; simpa using this
  have hs := h.2.2.2
  refine ⟨ho, (h.2.1.alloc o).grown hg (fun e => ?_), (h.2.2.1.alloc (by omega) o).grown hg (by simp; omega) (fun k hk => ?_), by omega⟩
  · have := (h.1.own _ e.symm).1
    omega
  · have := (h.1.own _ hk).1
    omega
def lenV : Value → Nat
  | .slice _ n _ => n
  | _ => 0

set_option maxRecDepth 100000 in
set_option maxHeartbeats 2000000 in
theorem sum_any (A : Option Addr) (k c : Nat) (ps : List (List Int)) (w : World) (h : RBs w A k ps) (hkc : k ≤ c) (hk : k ≤ 1000000000) (hbig : ps.flatten.length ≤ 1000000000) :
    Calls Try.prog 50 #[.slice A k c] w (SumPost ps.flatten w) := by
  have hcat := concat_sum A k c ps w h hkc hk hbig
  generalize ps.flatten = xs at *
  have hmw : IntKind.u64.wrap (xs.length : Int) = (xs.length : Int) := IntWalk.u64_in _ (by omega)
  have hm8 : IntKind.u64.wrap ((xs.length : Int) * 8) = (xs.length : Int) * 8 := IntWalk.u64_in _ (by omega)
  have hpad : padded xs = xs ++ [128] ++ List.replicate (zerosOf xs.length) 0 ++ lenBytes xs.length := rfl
  have hsha : sha1 xs = outBytes (mixTo (padded xs) ((padded xs).length / 64)) := rfl
  have hpl := padded_length xs
  have hp64 := padded_64 xs
  generalize padded xs = pd at *
  rw [show SumPost xs w = OutPost (mixTo pd (pd.length / 64)) w from by funext e w'; unfold SumPost OutPost; rw [hsha]]
  clear hsha h
  generalize hn : xs.length = n at *
  have hzl : zerosOf n < 64 := Nat.mod_lt _ (by omega)
  go_enter Try.func50, Try.ntmps50
  go_wp2_with (first
    | (go_at_call 44; refine hcat.mono ?_; rintro e w1 ⟨V, C0, rfl, hc0, ho, hB0, hB, hsz⟩)
    | (at_builtin; refine wpList_app rfl (.tmp 16) (.tmp 17) rfl (w.heap.size + 1) _ _ _ rfl (ho.alloc _) _ 1 1 [128] rfl (RB.lit_new _ _ rfl [128] 1 (0, 0) rfl (bytsOf _ rfl)) ?c1 (by simp; omega) ?_))
  case c1 => omega
  intro v1 w2 ho1 hg1 hat1
  have hst : SumSt w v1 (n + 1) (xs ++ [128]) w2 := SumSt.app ⟨ho, hB0, hB, hsz⟩ ho1 hg1
  clear ho1 hg1 hat1 ho hB0 hB hsz
  go_wp2
  go_loopw [3] (fun v wr => ∃ z : Nat, z ≤ zerosOf n ∧ SumSt w v (n + 1 + z) (xs ++ [128] ++ List.replicate z 0) wr) (fun v _ => n + 100 - lenV v)
  case atStart => exact ⟨0, by omega, by simpa using hst⟩
  case round =>
    obtain ⟨z, hz, hst⟩ := hrel
    obtain ⟨V', C', rfl, hcc⟩ := hst.1.slice
    by_cases h1 : z = zerosOf n
    · have hq : ((n + 1 + z : Nat) : Int) % 64 = 56 := by have := zeros_spec hz; omega
      have hpl2 : pd.length = n + 1 + z + 8 := by rw [hpl, h1]
      have hpad2 : pd = xs ++ [128] ++ List.replicate z 0 ++ lenBytes n := by rw [hpad, h1]
      have hm : n + 1 + z ≤ n + 100 := by omega
      clear hpad hpl hz h1 hcat hzl
      generalize xs ++ [128] ++ List.replicate z 0 = ys at *
      generalize n + 1 + z = m at *
      have hq1 : ((m : Int) % 64 == 56) = true := beq_iff_eq.2 hq
      have hq2 : ((m : Int) % 64 != 56) = false := by rw [hq]; rfl
      go_wp2
      clear hq hq1 hq2
      go_loopw [3, 5] (fun v i wr => ∃ j : Nat, j ≤ 8 ∧ i = .int .i64 (56 - 8 * j) ∧ SumSt w v (m + j) (ys ++ (lenBytes n).take j) wr) (fun v i _ => (intOf i + 8).toNat)
      case atStart => exact ⟨0, by omega, rfl, by simpa using hst⟩
      case round =>
        obtain ⟨j, hj, rfl, hst⟩ := hrel
        obtain ⟨V', C', rfl, hcc⟩ := hst.1.slice
        by_cases h1 : j < 8
        · have hi0 : (0 : Int) ≤ 56 - 8 * j := by omega
          have hi1 : ¬ ((56 : Int) - 8 * j < 0) := by omega
          have hi2 : (56 : Int) - 8 * j < 64 := by omega
          have hi3 : ((56 : Int) - 8 * j).toNat = 56 - 8 * j := by omega
          have hi4 := lenBytes_take n j h1
          have hi5 : ys ++ (lenBytes n).take (j + 1) = ys ++ (lenBytes n).take j ++ [(n : Int) * 8 / 2 ^ (56 - 8 * j) % 256] := by rw [hi4, ← List.append_assoc]
          clear hi4
          generalize ys ++ (lenBytes n).take j = Y at *
          have hst2 := hst.2.2.2
          go_wp2_with (at_builtin; refine wpList_app rfl (.tmp 30) (.tmp 35) rfl (w.heap.size + 1) _ _ _ rfl (hst.1.alloc _) _ 1 1 [(n : Int) * 8 / 2 ^ (56 - 8 * j) % 256] rfl (RB.lit_new _ _ rfl [(n : Int) * 8 / 2 ^ (56 - 8 * j) % 256] 1 (0, 0) rfl (byt_mod _)) ?c1 (by simp; omega) ?_)
          case c1 => omega
          intro v1 w2 ho1 hg1 hat1
          have hst' := hst.app ho1 hg1
          rw [← hi5] at hst'
          have hi6 : IntKind.i64.wrap (56 - 8 * (j : Int) - 8) = 56 - 8 * (j : Int) - 8 := IntWalk.i64_in _ (by omega)
          go_wp2
          go_roundw
          case rel => exact ⟨j + 1, by omega, by congr 1; omega, by rw [← Nat.add_assoc]; exact hst'⟩
          case measure => simp [intOf]; omega
        · have hj8 : j = 8 := by omega
          have hpd : ys ++ (lenBytes n).take j = pd := by rw [hj8, hpad2]; rfl
          have hmj : m + j = pd.length := by omega
          have hN : m + j ≤ n + 108 := by omega
          have hneg : ¬ ((0 : Int) ≤ 56 - 8 * (j : Int)) := by omega
          have hneg2 : (56 : Int) - 8 * (j : Int) < 0 := by omega
          rw [hpd] at hst
          rw [← hmj] at hp64
          clear hpd hpad2 hpl2 hm hj8 h1
          generalize m + j = N at *
          have HM := Lib.hid hmj
          clear hmj
          obtain ⟨ho, hB0, hB, hsz⟩ := hst
          have hrd := ho.reads
          obtain ⟨wB, rfl⟩ : ∃ x, x = wr := ⟨wr, rfl⟩
          go_wp2
          go_loopw [7] (fun i w' => ∃ q : Nat, 64 * q ≤ N ∧ i = .int .i64 ((64 * q : Nat) : Int) ∧ Blk w' wB.heap.size 115 (c5 (mixTo pd q)) ∧ Below wB.heap.size wB w') (fun i _ => N + 64 - (intOf i).toNat)
          case atStart =>
            have hb0 := Blk.new wB 115 (c5 initH)
            rw [init_cells] at hb0
            refine ⟨0, by omega, rfl, ?_, (Below.refl _ _).alloc (Nat.le_refl _) _⟩
            rw [show c5 (mixTo pd 0) = c5 initH from rfl, init_cells]
            exact hb0
          case round =>
            obtain ⟨q, hq, rfl, hBk, hbl⟩ := hrel
            have hsucc : mixTo pd (q + 1) = mixedH (mixTo pd q) ((pd.drop (64 * q)).take 64) := rfl
            by_cases h1 : 64 * q < N
            · have hq2 : 64 * q + 64 ≤ N := by omega
              have hcut : RB wr (cutA V' C' (64 * q)) 64 ((pd.drop (64 * q)).take 64) := by
                refine (((hrd.below hbl).cut (k := 64 * q) (by omega) hcc).take (k := 64) (by omega))
              have HS := Lib.hid hsucc
              clear hsucc
              generalize mixTo pd q = s at *
              generalize (pd.drop (64 * q)).take 64 = ms at *
              have c0 : wr.cell? ⟨wB.heap.size, 0, none⟩ = some (.int .u32 (U s.a)) := hBk.cell 0
              have c1 : wr.cell? ⟨wB.heap.size, 1, none⟩ = some (.int .u32 (U s.b)) := hBk.cell 1
              have c2 : wr.cell? ⟨wB.heap.size, 2, none⟩ = some (.int .u32 (U s.c)) := hBk.cell 2
              have c3 : wr.cell? ⟨wB.heap.size, 3, none⟩ = some (.int .u32 (U s.d)) := hBk.cell 3
              have c4 : wr.cell? ⟨wB.heap.size, 4, none⟩ = some (.int .u32 (U s.e)) := hBk.cell 4
              have hmx := mixed_any s (cutA V' C' (64 * q)) (C' - 64 * q) ms wr.drew hcut (by omega)
              have n1 : (64 * (q : Int)).toNat = 64 * q := by omega
              have n2 : (64 * (q : Int) + 64).toNat = 64 * q + 64 := by omega
              have n3 : 64 * q + 64 - 64 * q = 64 := by omega
              have m1 : (64 * (q : Int) + 64) ≤ C' := by omega
              have m2 : IntKind.i64.wrap (64 * (q : Int) + 64) = 64 * (q : Int) + 64 := IntWalk.i64_in _ (by omega)
              have m3 : (0 : Int) ≤ 64 * (q : Int) := by omega
              have m4 : 64 * (q : Int) ≤ 64 * (q : Int) + 64 := by omega
              go_wp2
              refine still_tail 6 (by kernel_rfl) (by kernel_rfl) ?_
              simp only [List.take_succ_cons, List.take_zero, List.drop_succ_cons, List.drop_zero]
              repeat still_step
              refine wpStill_nil ?_
              go_wp2_with (first
                | (go_at_call 56; (with_reducible refine hmx.mono ?_); rintro e w3 ⟨rfl, hb3⟩; have hBk3 : Blk w3 wB.heap.size 115 (c5 s) := Blk.below (Blk.drew hBk) hb3 (by simpa using hBk.lt))
                | ((with_reducible refine st_row 115 6 50 wB.heap.size _ (c5 (mixedH s ms)) _ ?_ ?_ hBk3 ?_ ?_ (c5_all _) ?_); rfl; rfl; (rw [c5_size]; kernel_rfl); (rw [c5_size, c5_size]); intro w4 hb4 hg4 hsz4))
              go_roundw
              case rel =>
                refine ⟨q + 1, by omega, by go_num, by rw [HS.out]; exact hb4, ?_⟩
                exact (below_then (below_drewN hbl 1) hbl.size hb3).grown hg4 (by have := hb3.size; have := hbl.size; simp at *; omega) (fun k hk => by cases hk; exact Nat.le_refl _)
              case measure => simp [intOf]; omega
            · have hq64 : q = N / 64 := by omega
              have hres : mixTo pd q = mixTo pd (pd.length / 64) := by rw [hq64, HM.out]
              have HR := Lib.hid hres
              clear hres hq64 hsucc
              generalize mixTo pd q = s at *
              obtain ⟨wC, rfl⟩ : ∃ x, x = wr := ⟨wr, rfl⟩
              have hb9 := (Blk.new wC 25 zid)
              have hBk9 := hBk.alloc (.cells zid 25)
              have hlt := hBk.lt
              go_wp2
              go_loopw [51] (fun i w' => ∃ q : Nat, q ≤ 20 ∧ i = .int .i64 q ∧ Blk w' wB.heap.size 115 (c5 s) ∧ Blk w' wC.heap.size 25 (bv (outK s q)).toArray ∧ Below wC.heap.size wC w') (fun i _ => 20 - (intOf i).toNat)
              case atStart =>
                exact ⟨0, by omega, rfl, hBk9, hb9, (Below.refl _ _).alloc (Nat.le_refl _) _⟩
              case round =>
                obtain ⟨p, hp, rfl, hBs, hBo, hbw⟩ := hrel
                by_cases h1 : p < 20
                · have c5w := hBs.cell (p / 4)
                  rw [c5_word _ _ (by omega)] at c5w
                  have c8 := hBo.cell p
                  have f8 := hBo.frozen p
                  rw [out_zero _ _ h1] at c8
                  have n1 : ((p : Int) / 4).toNat = p / 4 := by omega
                  have n2 : (p : Int) / 4 < 5 := by omega
                  have n3 : (0 : Int) ≤ (p : Int) / 4 := by omega
                  have n4 : (24 - 8 * ((p : Int) % 4)).toNat = 24 - 8 * (p % 4) := by omega
                  have n5 : (0 : Int) ≤ 24 - 8 * ((p : Int) % 4) := by omega
                  have n6 : ¬ (24 - 8 * ((p : Int) % 4) < 0) := by omega
                  have n7 : 24 - 8 * ((p : Int) % 4) < 32 := by omega
                  have n8 : (p : Int) < 20 := by omega
                  go_wp2
                  go_roundw
                  case rel =>
                    refine ⟨p + 1, by omega, by go_num, hBs.far (by simp; omega) _, ?_, hbw.setCell (p := ⟨wC.heap.size, p, none⟩) (Nat.le_refl _) _⟩
                    rw [← out_set s p h1]
                    exact hBo.set_ p _
                  case measure => simp [intOf]; omega
                · have hp20 : p = 20 := by omega
                  rw [hp20, out_all] at hBo
                  clear hp20
                  have hBR : Blk wr w.heap.size 25 zid := (hB0.below hbl (by omega)).below hbw (by omega)
                  have hz : (Try.prog.info? 25).map (·.size) = some (bv (outBytes s)).toArray.size := by
                    rw [show (bv (outBytes s)).toArray.size = 20 from by simp [bv, outBytes]]
                    kernel_rfl
                  have hu : Try.prog.underlying 25 = some (.array 20 5) := by kernel_rfl
                  have h1c : (bv (outBytes s)).toArray.all (·.oneCell') = true := by simp [bv, Value.oneCell']
                  have hs5 : zid.size = (bv (outBytes s)).toArray.size := by simp [bv, outBytes, zid]
                  have hfull : idv (outBytes s) = .agg (bv (outBytes s)).toArray := rfl
                  have hBw : Below w.heap.size w wr := below_then (below_then hB (by omega) hbl) (by have := hbl.size; omega) hbw
                  have hsw : w.heap.size ≤ wr.heap.size := hBw.size
                  generalize (bv (outBytes s)).toArray = C at *
                  go_wp2_with (first
                    | ((with_reducible refine ld_row 25 8 wC.heap.size _ C _ ?_ hBo hu ?_ hz ?_); rfl; rfl)
                    | ((with_reducible refine st_row 25 2 67 w.heap.size _ C _ ?_ ?_ hBR hz ?_ h1c ?_); rfl; rfl; exact hs5; intro w2 hb2 hg2 hsz2))
                  refine ret_row 2 25 w.heap.size _ C _ rfl rfl hb2 hu rfl hz rfl ⟨?_, ?_⟩
                  · rw [← HR.out, hfull]
                  · exact hBw.grown hg2 hsw fun k hk => by cases hk; exact Nat.le_refl _
    · have hq : ((n + 1 + z : Nat) : Int) % 64 ≠ 56 := by have := zeros_spec hz; omega
      have hs2 : xs ++ [128] ++ List.replicate (z + 1) 0 = xs ++ [128] ++ List.replicate z 0 ++ [0] := by rw [List.replicate_succ', ← List.append_assoc]
      have hm : n + 1 + z ≤ n + 100 := by omega
      have hm2 : n + 1 + (z + 1) = n + 1 + z + 1 := rfl
      have hz2 : n + 1 + z < n + 100 := by omega
      generalize xs ++ [128] ++ List.replicate z 0 = ys at *
      generalize n + 1 + z = m at *
      have hq1 : ((m : Int) % 64 == 56) = false := beq_eq_false_iff_ne.2 hq
      have hq2 : ((m : Int) % 64 != 56) = true := bne_iff_ne.2 hq
      go_wp2_with (at_builtin; refine wpList_app rfl (.tmp 23) (.tmp 24) rfl (w.heap.size + 1) _ _ _ rfl (hst.1.alloc _) _ 1 1 [0] rfl (RB.lit_new _ _ rfl [0] 1 (0, 0) rfl (bytsOf _ rfl)) ?c1 (by have := hst.2.2.2; simp; omega) ?_)
      case c1 => omega
      intro v1 w2 ho1 hg1 hat1
      have hst' := hst.app ho1 hg1
      go_wp2
      go_roundw
      case rel => exact ⟨z + 1, by omega, by rw [hm2, hs2]; exact hst'⟩
      case measure =>
        obtain ⟨V2, C2, rfl, hcc2⟩ := hst'.1.slice
        simp [lenV]; omega
end Go.Proofs.Ytokamaogognjoaa
