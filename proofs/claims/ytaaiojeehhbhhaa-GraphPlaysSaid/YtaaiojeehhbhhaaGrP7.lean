/-
  The reference's graph in memory, its own; append of a node.
-/
import Derived.Test.YtaaiojeehhbhhaaGrP1
import Derived.Test.YtaaiojeehhbhhaaGr6
set_option linter.unusedVariables false
set_option linter.unusedSimpArgs false
namespace Go.Proofs.Ytaaiojeehhbhhaa
open Go.RowKit

def ncs (l : List (IdL × Value)) : List Value := l.flatMap fun p => bv p.1 ++ [p.2]
theorem ncs_append (l m : List (IdL × Value)) : ncs (l ++ m) = ncs l ++ ncs m := by simp [ncs]
theorem ncs_len : ∀ (l : List (IdL × Value)), (∀ p ∈ l, IsId p.1) → (ncs l).length = l.length * 21
  | [], _ => rfl
  | p :: l, h => by
    have h1 := ncs_len l fun q hq => h q (List.mem_cons_of_mem _ hq)
    have h2 := (h p List.mem_cons_self).1
    unfold ncs at h1 ⊢
    simp only [List.flatMap_cons, List.length_append, List.length_cons, List.length_nil, bv_length, h1, h2]
    omega
theorem ncs_get : ∀ (l : List (IdL × Value)), (∀ p ∈ l, IsId p.1) → ∀ (j : Nat) (p : IdL × Value), l[j]? = some p → ∀ i, i < 21 → (ncs l)[j * 21 + i]? = (bv p.1 ++ [p.2])[i]?
  | [], _, j, p, hp, _, _ => by simp at hp
  | q :: l, h, j, p, hp, i, hi => by
    have h2 := (h q List.mem_cons_self).1
    have hl : (bv q.1 ++ [q.2]).length = 21 := by simp [bv_length, h2]
    unfold ncs
    rw [List.flatMap_cons]
    cases j with
    | zero =>
      simp at hp
      subst hp
      rw [Nat.zero_mul, Nat.zero_add, List.getElem?_append_left (by omega)]
    | succ j =>
      rw [List.getElem?_append_right (by omega), hl, show (j + 1) * 21 + i - 21 = j * 21 + i from by omega]
      exact ncs_get l (fun r hr => h r (List.mem_cons_of_mem _ hr)) j p (by simpa using hp) i hi
def znode : Array Value := #[.int .u8 0, .int .u8 0, .int .u8 0, .int .u8 0, .int .u8 0, .int .u8 0, .int .u8 0, .int .u8 0, .int .u8 0, .int .u8 0, .int .u8 0, .int .u8 0, .int .u8 0, .int .u8 0, .int .u8 0, .int .u8 0, .int .u8 0, .int .u8 0, .int .u8 0, .int .u8 0, .slice none 0 0]
theorem nodeInfo : (Try.prog.info? 62).map (fun i => (i.zero, i.size, i.bytes)) = some (some (.agg znode), 21, 48) := by kernel_rfl
theorem underNodes : Try.prog.underlying 38 = some (.slice 62) := by kernel_rfl
/-- 'append' of one node, at a step of a region that draws. -/
theorem step_appNode {ops : Array Oper} {o : Oper} {a : Act} {w : World} {K : Act → World → Prop} {Q : Exit → Act → World → Prop} {E : Prop} (hgd : o.guard = none) (s x : Operand)
    (ho : o.op = .call { callee := .builtin .append, args := #[s, x], argTypes := #[38, 38] })
    (base : Nat) (v : Value) (n : Nat) (l : List (IdL × Value)) (hs : a.eval s = v) (hown : w.ownsRow base 62 21 v n (ncs l)) (g c : Nat) (y : IdL) (u : Value) (hy : IsId y)
    (hx : a.eval x = .slice (some ⟨g, 0, none⟩) 1 c) (hr : Blk w g 62 (bv y ++ [u]).toArray) (hu : u.oneCell' = true) (hn : n ≤ 1000000) (hbase : base ≤ w.heap.size)
    (h : ∀ v' w', w'.ownsRow base 62 21 v' (n + 1) (ncs (l ++ [(y, u)])) → w.grownBy w' v.ownBlock → (v'.ownBlock = v.ownBlock ∨ v'.ownBlock = some w.heap.size) → K (a.put o.dst v') w') :
    if Region.wanted o (yielded ops a.tmps) = true then Oper.wp Try.prog o a w K Q else E := by
  have hw : Region.wanted o (yielded ops a.tmps) = true := by simp [Region.wanted, hgd]
  rw [if_pos hw]
  obtain ⟨i0, hi, hz0, hz1, hz2⟩ := info_parts nodeInfo
  have hl : (bv y ++ [u]).length = 21 := by simp [bv_length, hy.1]
  have hsrc : Src w 21 (some ⟨g, 0, none⟩) 1 (bv y ++ [u]) := by
    refine ⟨hl, fun _ => ⟨_, rfl, fun j u' hj => ?_⟩⟩
    rw [add_plain, Nat.zero_add, hr.cell]
    simpa using hj
  have h1 : ∀ e ∈ bv y ++ [u], e.oneCell' = true := fun e he => by
    rcases List.mem_append.1 he with h | h
    · exact bv_one _ e h
    · rw [List.mem_singleton] at h
      rw [h]
      exact hu
  exact wp_append_any w s x 38 ho base 62 i0 _ 21 48 underNodes hi hz0 hz1 hz2 (by simp [Value.cells, znode]) (by omega) v n (ncs l) hs hown (some ⟨g, 0, none⟩) 1 c (bv y ++ [u]) hx hsrc h1
    (by simp only [maxLen]; omega) (by omega) hbase fun v' w' h4 h5 h6 => h v' w' (by rw [ncs_append]; simpa [ncs] using h4) h5 h6
/-- the reference's graph, its own. -/
structure RefMem (w : World) (Q : Nat → Prop) (r : Nat) (A : Option Addr) (n c : Nat) (vs : List Value) (G : Gph) : Prop where
  blk : Blk w r 40 #[.slice A n c]
  own : w.ownsRow 0 62 21 (.slice A n c) n (ncs ((ids G).zip vs))
  len : G.length = n
  vl : vs.length = n
  cap : n ≤ c
  allId : AllId (ids G)
  pr : Q r
  pi : ∀ k, (Value.slice A n c).ownBlock = some k → Q k
  par : ∀ j, j < n → ∃ A' c', vs[j]? = some (.slice A' (nd G j).ps.length c') ∧ (nd G j).ps.length ≤ c' ∧ RIds w A' (nd G j).ps.length (nd G j).ps ∧ ∀ ad, A' = some ad → Q ad.block ∧ some ad.block ≠ (Value.slice A n c).ownBlock ∧ ad.block ≠ r ∧ ad.block < w.heap.size
theorem zip_get {G : Gph} {vs : List Value} {j : Nat} {v : Value} (hj : j < G.length) (hv : vs[j]? = some v) : ((ids G).zip vs)[j]? = some ((nd G j).id, v) := by
  have h1 := gid_some (L := ids G) (j := j) (by rw [ids_length]; exact hj)
  rw [ids_gid hj] at h1
  simp [List.getElem?_zip_eq_some, h1, hv]
theorem RefMem.rd {w : World} {Q : Nat → Prop} {r : Nat} {A : Option Addr} {n c : Nat} {vs : List Value} {G : Gph} (h : RefMem w Q r A n c vs G) : RefRd w r G := by
  have hn := h.len
  subst hn
  refine ⟨A, c, h.blk, h.cap, rfl, fun h0 => ?_⟩
  have hz : ∀ p ∈ (ids G).zip vs, IsId p.1 := fun p hp => h.allId _ (List.of_mem_zip hp).1
  rcases h.own.2 with ⟨e, _⟩ | ⟨g, cap, cur, e, _, hB, hnc, hm, hs, ht⟩
  · injection e with _ e _
    omega
  · injection e with eA _ eC
    subst eA eC
    refine ⟨g, 0, rfl, fun j hj => ?_⟩
    obtain ⟨A', c', hv, hkc, hr, _⟩ := h.par j hj
    have hzg := zip_get hj hv
    have hid : IsId (nd G j).id := by rw [← ids_gid hj]; exact h.allId.at_ (by rw [ids_length]; exact hj)
    have hcell : ∀ i, i < 21 → w.cell? ⟨g, j * 21 + i, none⟩ = (bv (nd G j).id ++ [.slice A' (nd G j).ps.length c'])[i]? := fun i hi => by
      rw [Blk.cell hB, ← ncs_get _ hz j _ hzg i hi, ← ht, List.getElem?_take_of_lt (by omega)]
      simp
    refine ⟨hid, fun i v hi => ?_, A', c', ?_, hkc, hr⟩
    · have hil : i < 20 := by
        have := (List.getElem?_eq_some_iff.1 hi).1
        rw [bv_length, hid.1] at this
        exact this
      rw [Nat.zero_add, hcell i (by omega), List.getElem?_append_left (by rw [bv_length, hid.1]; exact hil)]
      exact hi
    · rw [Nat.zero_add, hcell 20 (by omega), List.getElem?_append_right (by rw [bv_length, hid.1]; exact Nat.le_refl _), bv_length, hid.1]
      rfl
end Go.Proofs.Ytaaiojeehhbhhaa
