/-
  trestleref12.Graph: Closure: the plain law, and the row of bools.
-/
import Derived.Test.YtaaiojeehhbhhaaGrP2
set_option linter.unusedVariables false
set_option linter.unusedSimpArgs false
namespace Go.Proofs.Ytaaiojeehhbhhaa
open Go.RowKit

/-- a row of bools. -/
def arrB (n : Nat) (f : Nat → Bool) : Array Value := ((List.range n).map fun i => Value.bool (f i)).toArray
theorem arrB_size (n : Nat) (f : Nat → Bool) : (arrB n f).size = n := by simp [arrB]
theorem arrB_get {n i : Nat} {f : Nat → Bool} (h : i < n) : (arrB n f)[i]? = some (.bool (f i)) := by simp [arrB, h]
def setB (f : Nat → Bool) (i : Nat) (v : Bool) : Nat → Bool := fun k => if k = i then v else f k
theorem arrB_set {n i : Nat} {f : Nat → Bool} {v : Bool} : (arrB n f).setIfInBounds i (.bool v) = arrB n (setB f i v) := by
  apply Array.ext'
  apply List.ext_getElem?
  intro k
  rw [Array.toList_setIfInBounds]
  unfold arrB setB
  simp only [List.getElem?_set, List.getElem?_map]
  rcases Nat.lt_or_ge k n with h | h
  · by_cases e : i = k
    · subst e
      simp [h]
    · simp [h, e, Ne.symm e]
  · by_cases e : i = k
    · subst e
      simp [h, Nat.not_lt.2 h]
    · simp [h, e]
theorem make_bools (w : World) (n : Nat) (hc : n ≤ 1000000) : (Instr.makeSlice 64 (.int .i64 (n : Int)) (.int .i64 (n : Int))).run Try.prog w = .ok (.slice (some ⟨w.heap.size, 0, none⟩) n n) (w.alloc (.cells (arrB n fun _ => false) 4)) := by
  have hinf : (Try.prog.info? 4).map (fun i => (i.zero, i.size, i.bytes)) = some (some (.bool false), 1, 1) := by kernel_rfl
  obtain ⟨i0, hi, hz0, hz1, hz2⟩ := info_parts hinf
  have h := run_make (P := Try.prog) w 64 4 i0 (.bool false) Try.underlying64 hi hz0 .i64 .i64 (n : Int) (n : Int) (by omega) (by omega) (by rw [hz2]; omega) (by omega)
  rw [h]
  have : madeCells (Value.bool false).cells ((n : Int).toNat * i0.size) = arrB n fun _ => false := by
    apply Array.ext'
    rw [hz1, Nat.mul_one, Int.toNat_natCast]
    show (madeCells #[.bool false] n).toList = _
    rw [toList_madeCells_one]
    unfold arrB
    apply List.ext_getElem
    · simp
    · intro i h1 h2
      simp
  rw [this]
  simp
/-- the marks, as far as they go: those from k on have been dealt with. -/
structure Mk (G : Gph) (S : List IdL) (k : Nat) (f : Nat → Bool) : Prop where
  sound : ∀ i, i < G.length → f i = true → Reach G S (nd G i).id
  start : ∀ i, k ≤ i → i < G.length → (nd G i).id ∈ S → f i = true
  clos : ∀ i, k ≤ i → i < G.length → f i = true → ∀ m, m < G.length → (nd G m).id ∈ (nd G i).ps → f m = true
theorem Mk.init (G : Gph) (S : List IdL) : Mk G S G.length (fun _ => false) := ⟨fun i _ h => by simp at h, fun i h1 h2 => absurd h2 (by omega), fun i h1 h2 => absurd h2 (by omega)⟩
theorem Mk.done {G : Gph} {S : List IdL} {f : Nat → Bool} (hG : GInv G) (h : Mk G S 0 f) {i : Nat} (hi : i < G.length) : f i = reachB G S (nd G i).id := by
  rw [Bool.eq_iff_iff, reachB_iff]
  refine ⟨h.sound i hi, fun hr => ?_⟩
  have key : (nd G i).id ∈ ((List.range G.length).filter f).map fun j => (nd G j).id := by
    refine hr.least (fun x hx hxi => ?_) (fun x hx p hp hpi => ?_)
    · obtain ⟨j, hj, rfl⟩ := mem_ids hxi
      exact List.mem_map.2 ⟨j, List.mem_filter.2 ⟨List.mem_range.2 hj, h.start j (Nat.zero_le _) hj hx⟩, rfl⟩
    · obtain ⟨j, hj, rfl⟩ := List.mem_map.1 hx
      obtain ⟨hj1, hj2⟩ := List.mem_filter.1 hj
      rw [List.mem_range] at hj1
      rw [ps_at hG hj1] at hp
      obtain ⟨m, hm, rfl⟩ := mem_ids hpi
      exact List.mem_map.2 ⟨m, List.mem_filter.2 ⟨List.mem_range.2 hm, h.clos j (Nat.zero_le _) hj1 hj2 m hm hp⟩, rfl⟩
  obtain ⟨j, hj, e⟩ := List.mem_map.1 key
  obtain ⟨hj1, hj2⟩ := List.mem_filter.1 hj
  rw [List.mem_range] at hj1
  have := nd_inj hG hj1 hi e
  rw [← this]
  exact hj2
/-- within one node: its own mark is set; q of its parents have been marked. -/
structure MkIn (G : Gph) (S : List IdL) (k q : Nat) (f : Nat → Bool) : Prop where
  base : Mk G S (k + 1) f
  own : (nd G k).id ∈ S → f k = true
  par : f k = true → ∀ i, i < q → ∀ m, m < G.length → (nd G m).id = gid (nd G k).ps i → f m = true
theorem MkIn.first {G : Gph} {S : List IdL} {k : Nat} {f : Nat → Bool} (hk : k < G.length) (h : Mk G S (k + 1) f) : MkIn G S k 0 (setB f k (f k || decide ((nd G k).id ∈ S))) := by
  refine ⟨⟨fun i hi e => ?_, fun i h1 h2 h3 => ?_, fun i h1 h2 h3 m hm hp => ?_⟩, fun hs => ?_, fun _ i hi => absurd hi (by omega)⟩
  · unfold setB at e
    by_cases ei : i = k
    · subst ei
      simp only [if_true, Bool.or_eq_true, decide_eq_true_iff] at e
      rcases e with e | e
      · exact h.sound i hi e
      · exact .base e (by rw [← ids_gid hi]; exact gid_mem (by rw [ids_length]; exact hi))
    · rw [if_neg ei] at e
      exact h.sound i hi e
  · unfold setB
    rw [if_neg (by omega)]
    exact h.start i h1 h2 h3
  · have h3' : f i = true := by
      unfold setB at h3
      rwa [if_neg (by omega)] at h3
    have := h.clos i h1 h2 h3' m hm hp
    unfold setB
    split
    · rename_i e
      subst e
      rw [this]
      rfl
    · exact this
  · simp [setB, hs]
theorem MkIn.next {G : Gph} {S : List IdL} {k q j : Nat} {f : Nat → Bool} (hG : GInv G) (hk : k < G.length) (hq : q < (nd G k).ps.length) (h : MkIn G S k q f) (hf : f k = true) (hj : j < G.length) (he : (nd G j).id = gid (nd G k).ps q) : MkIn G S k (q + 1) (setB f j true) := by
  have hmono : ∀ m, f m = true → setB f j true m = true := fun m hm => by
    unfold setB
    split
    · rfl
    · exact hm
  have hpm : (nd G j).id ∈ (nd G k).ps := by rw [he]; exact gid_mem hq
  have hjk : j < k := by
    obtain ⟨_, i, hi, e⟩ := hG.par k hk _ hpm
    have := nd_inj hG (by omega) hj e
    omega
  refine ⟨⟨fun i hi e => ?_, fun i h1 h2 h3 => hmono i (h.base.start i h1 h2 h3), fun i h1 h2 h3 m hm hp => hmono m (h.base.clos i h1 h2 ?_ m hm hp)⟩, fun hs => hmono k (h.own hs), fun _ i hi m hm e => ?_⟩
  · unfold setB at e
    by_cases ei : i = j
    · subst ei
      exact .step (h.base.sound k hk hf) (by rw [ps_at hG hk]; exact hpm) (by rw [← ids_gid hi]; exact gid_mem (by rw [ids_length]; exact hi))
    · rw [if_neg ei] at e
      exact h.base.sound i hi e
  · unfold setB at h3
    rwa [if_neg (by omega)] at h3
  · rcases Nat.lt_or_ge i q with hl | hl
    · exact hmono m (h.par hf i hl m hm e)
    · obtain rfl : i = q := by omega
      have := nd_inj hG hm hj (by rw [e, he])
      subst this
      simp [setB]
theorem MkIn.last {G : Gph} {S : List IdL} {k : Nat} {f : Nat → Bool} (hk : k < G.length) (h : MkIn G S k (nd G k).ps.length f) : Mk G S k f := by
  refine ⟨h.base.sound, fun i h1 h2 h3 => ?_, fun i h1 h2 h3 m hm hp => ?_⟩
  · by_cases e : i = k
    · subst e; exact h.own h3
    · exact h.base.start i (by omega) h2 h3
  · by_cases e : i = k
    · subst e
      obtain ⟨a, ha, e2⟩ := mem_gid hp
      exact h.par h3 a ha m hm e2.symm
    · exact h.base.clos i (by omega) h2 h3 m hm hp
theorem MkIn.dark {G : Gph} {S : List IdL} {k : Nat} {f : Nat → Bool} (hk : k < G.length) (h : MkIn G S k 0 f) (hf : f k = false) : Mk G S k f := by
  refine ⟨h.base.sound, fun i h1 h2 h3 => ?_, fun i h1 h2 h3 m hm hp => ?_⟩
  · by_cases e : i = k
    · subst e; exact h.own h3
    · exact h.base.start i (by omega) h2 h3
  · by_cases e : i = k
    · subst e; rw [hf] at h3; cases h3
    · exact h.base.clos i (by omega) h2 h3 m hm hp
end Go.Proofs.Ytaaiojeehhbhhaa
