/-
  The reference's log in memory, as it reads: At, Node, the law's parent.
-/
import Derived.Test.YtgokompppadogaaRvG
import Derived.Test.YtgokompppadogaaDlt9
set_option linter.unusedVariables false
set_option linter.unusedSimpArgs false
namespace Go.Proofs.Ytgokompppadogaa
open Go.RowKit

/-- the cells of one of the reference's texts: V is where it lies. -/
def rfC (r : Rv) (V : Value) : List Value := bv r.node ++ (bv r.p1 ++ (bv r.p2 ++ [V, .int .i64 (r.chain : Nat)]))
theorem rfC_len {r : Rv} {V : Value} (h : RvIds r) : (rfC r V).length = 62 := by simp [rfC, bv_length, h.1.1, h.2.1.1, h.2.2.1]
theorem rfC_node {r : Rv} {V : Value} (h : RvIds r) {i : Nat} {v : Value} (hv : (bv r.node)[i]? = some v) : i < 62 ∧ (rfC r V)[i]? = some v := by
  have hi := (List.getElem?_eq_some_iff.1 hv).1
  rw [bv_length, h.1.1] at hi
  exact ⟨by omega, by rw [rfC, List.getElem?_append_left (by rw [bv_length, h.1.1]; exact hi)]; exact hv⟩
theorem rfC_p1 {r : Rv} {V : Value} (h : RvIds r) {i : Nat} {v : Value} (hv : (bv r.p1)[i]? = some v) : 20 + i < 62 ∧ (rfC r V)[20 + i]? = some v := by
  have hi := (List.getElem?_eq_some_iff.1 hv).1
  rw [bv_length, h.2.1.1] at hi
  refine ⟨by omega, ?_⟩
  rw [rfC, List.getElem?_append_right (by rw [bv_length, h.1.1]; omega), bv_length, h.1.1, show 20 + i - 20 = i from by omega, List.getElem?_append_left (by rw [bv_length, h.2.1.1]; exact hi)]
  exact hv
theorem rfC_p2 {r : Rv} {V : Value} (h : RvIds r) {i : Nat} {v : Value} (hv : (bv r.p2)[i]? = some v) : 40 + i < 62 ∧ (rfC r V)[40 + i]? = some v := by
  have hi := (List.getElem?_eq_some_iff.1 hv).1
  rw [bv_length, h.2.2.1] at hi
  refine ⟨by omega, ?_⟩
  rw [rfC, List.getElem?_append_right (by rw [bv_length, h.1.1]; omega), bv_length, h.1.1, show 40 + i - 20 = 20 + i from by omega, List.getElem?_append_right (by rw [bv_length, h.2.1.1]; omega), bv_length, h.2.1.1, show 20 + i - 20 = i from by omega, List.getElem?_append_left (by rw [bv_length, h.2.2.1]; exact hi)]
  exact hv
theorem rfC_t {r : Rv} {V : Value} (h : RvIds r) : (rfC r V)[60]? = some V ∧ (rfC r V)[61]? = some (.int .i64 (r.chain : Nat)) := by
  constructor
  · rw [rfC, List.getElem?_append_right (by rw [bv_length, h.1.1]; omega), bv_length, h.1.1, List.getElem?_append_right (by rw [bv_length, h.2.1.1]; omega), bv_length, h.2.1.1, List.getElem?_append_right (by rw [bv_length, h.2.2.1]; omega), bv_length, h.2.2.1]
    rfl
  · rw [rfC, List.getElem?_append_right (by rw [bv_length, h.1.1]; omega), bv_length, h.1.1, List.getElem?_append_right (by rw [bv_length, h.2.1.1]; omega), bv_length, h.2.1.1, List.getElem?_append_right (by rw [bv_length, h.2.2.1]; omega), bv_length, h.2.2.1]
    rfl
theorem rfC_one (r : Rv) (B : Option Addr) (n d : Nat) : ∀ e ∈ rfC r (.slice B n d), e.oneCell' = true := fun e he => by
  unfold rfC at he
  simp only [List.mem_append, List.mem_cons, List.not_mem_nil, or_false] at he
  rcases he with h | h | h | h | h
  · exact bv_one _ e h
  · exact bv_one _ e h
  · exact bv_one _ e h
  · rw [h]; rfl
  · rw [h]; rfl
def rrows (L : Lg) (Vs : List Value) : List (List Value) := (L.zip Vs).map fun p => rfC p.1 p.2
def rlC (L : Lg) (Vs : List Value) : List Value := (rrows L Vs).flatten
theorem rrows_at {L : Lg} {Vs : List Value} {j : Nat} {V : Value} (hj : j < L.length) (hV : Vs[j]? = some V) : (rrows L Vs)[j]? = some (rfC (rv L j) V) := by
  unfold rrows
  rw [List.getElem?_map, (List.getElem?_zip_eq_some (z := (rv L j, V))).2 ⟨rv_some hj, hV⟩]
  rfl
theorem rrows_all {L : Lg} {Vs : List Value} (h : LInv L) : ∀ x ∈ rrows L Vs, x.length = 62 := fun x hx => by
  obtain ⟨p, hp, rfl⟩ := List.mem_map.1 hx
  obtain ⟨j, hj, e⟩ := List.getElem_of_mem (List.of_mem_zip hp).1
  have := h.ids j hj
  have e2 : rv L j = p.1 := by simp [rv, hj, e]
  rw [e2] at this
  exact rfC_len this
theorem rlC_len {L : Lg} {Vs : List Value} (h : LInv L) (hl : Vs.length = L.length) : (rlC L Vs).length = L.length * 62 := by
  unfold rlC
  rw [rows_len _ (rrows_all h)]
  simp [rrows, hl]
theorem rlC_get {L : Lg} {Vs : List Value} (h : LInv L) {j : Nat} {V : Value} (hj : j < L.length) (hV : Vs[j]? = some V) {i : Nat} (hi : i < 62) : (rlC L Vs)[j * 62 + i]? = (rfC (rv L j) V)[i]? :=
  rows_get _ (rrows_all h) j _ (rrows_at hj hV) i hi
theorem rlC_snoc {L : Lg} {Vs : List Value} (hl : Vs.length = L.length) (r : Rv) (V : Value) : rlC (L ++ [r]) (Vs ++ [V]) = rlC L Vs ++ rfC r V := by
  unfold rlC rrows
  rw [List.zip_append hl.symm]
  simp
structure RfMem (w : World) (Q : Nat → Prop) (r : Nat) (A : Option Addr) (n c : Nat) (Vs : List Value) (L : Lg) : Prop where
  blk : Blk w r 45 #[.slice A n c]
  own : w.ownsRow 0 54 62 (.slice A n c) n (rlC L Vs)
  inv : LInv L
  len : L.length = n
  vl : Vs.length = n
  cap : n ≤ c
  pr : Q r
  pi : ∀ k, (Value.slice A n c).ownBlock = some k → Q k
  held : ∀ j, j < n → ∃ B d, Vs[j]? = some (.slice B (rv L j).text.length d) ∧ (rv L j).text.length ≤ d ∧ RB w B (rv L j).text.length (rv L j).text ∧ ∀ ad, B = some ad → Q ad.block ∧ some ad.block ≠ (Value.slice A n c).ownBlock ∧ ad.block ≠ r ∧ ad.block < w.heap.size
def RfAt (w : World) (Q : Nat → Prop) (r : Nat) (L : Lg) : Prop := ∃ A n c Vs, RfMem w Q r A n c Vs L
section
variable {w w' : World} {Q R : Nat → Prop} {r : Nat} {A : Option Addr} {n c : Nat} {Vs : List Value} {L : Lg}
theorem RfMem.grown {row : Option Nat} (h : RfMem w Q r A n c Vs L) (hg : w.grownBy w' row) (hr : ∀ k, row = some k → ¬ Q k) : RfMem w' Q r A n c Vs L := by
  have hne : ∀ k, Q k → some k ≠ row := fun k hk e => hr k e.symm hk
  refine ⟨h.blk.grown hg (hne _ h.pr), h.own.kept hg ?_, h.inv, h.len, h.vl, h.cap, h.pr, h.pi, fun j hj => ?_⟩
  · cases e : (Value.slice A n c).ownBlock with
    | none => exact .inl rfl
    | some k => exact .inr (hne _ (h.pi k e))
  · obtain ⟨B, d, a, b, e, f⟩ := h.held j hj
    exact ⟨B, d, a, b, e.grown hg fun ad e' => hne _ (f ad e').1, fun ad e' => ⟨(f ad e').1, (f ad e').2.1, (f ad e').2.2.1, Nat.lt_of_lt_of_le (f ad e').2.2.2 hg.size⟩⟩
theorem RfMem.below (h : RfMem w Q r A n c Vs L) (hb : Below w.heap.size w w') : RfMem w' Q r A n c Vs L := h.grown (grown_below hb none) (fun k e => by cases e)
theorem RfMem.rowLt (h : RfMem w Q r A n c Vs L) {k : Nat} (e : (Value.slice A n c).ownBlock = some k) : k < w.heap.size ∧ k ≠ r := by
  rcases h.own.2 with ⟨e1, _⟩ | ⟨g, cap, cur, e1, _, hB, _⟩
  · rw [e1] at e; simp [Value.ownBlock] at e
  · rw [e1] at e
    simp [Value.ownBlock] at e
    subst e
    exact ⟨(Array.getElem?_eq_some_iff.1 hB).1, Blk.ne_ hB h.blk (by decide)⟩
theorem RfAt.below (h : RfAt w Q r L) (hb : Below w.heap.size w w') : RfAt w' Q r L := by
  obtain ⟨A, n, c, Vs, h⟩ := h
  exact ⟨A, n, c, Vs, h.below hb⟩
theorem RfAt.mono (h : RfAt w Q r L) (hq : ∀ k, Q k → R k) : RfAt w R r L := by
  obtain ⟨A, n, c, Vs, h⟩ := h
  exact ⟨A, n, c, Vs, h.blk, h.own, h.inv, h.len, h.vl, h.cap, hq _ h.pr, fun k e => hq _ (h.pi k e), fun j hj => by
    obtain ⟨B, d, a, b, e, f⟩ := h.held j hj
    exact ⟨B, d, a, b, e, fun ad e' => ⟨hq _ (f ad e').1, (f ad e').2⟩⟩⟩
theorem RfAt.grown {row : Option Nat} (h : RfAt w Q r L) (hg : w.grownBy w' row) (hr : ∀ k, row = some k → ¬ Q k) : RfAt w' Q r L := by
  obtain ⟨A, n, c, Vs, h⟩ := h
  exact ⟨A, n, c, Vs, h.grown hg hr⟩
theorem RfAt.bounded (h : RfAt w Q r L) : RfAt w (fun k => Q k ∧ k < w.heap.size) r L := by
  obtain ⟨A, n, c, Vs, h⟩ := h
  refine ⟨A, n, c, Vs, h.blk, h.own, h.inv, h.len, h.vl, h.cap, ⟨h.pr, h.blk.lt⟩, fun k e => ⟨h.pi k e, (h.rowLt e).1⟩, fun j hj => ?_⟩
  obtain ⟨B, d, a, b, e, f⟩ := h.held j hj
  exact ⟨B, d, a, b, e, fun ad e' => ⟨⟨(f ad e').1, (f ad e').2.2.2⟩, (f ad e').2⟩⟩
theorem RfAt.inv (h : RfAt w Q r L) : LInv L := by
  obtain ⟨A, n, c, Vs, h⟩ := h
  exact h.inv
/-- one of the reference's texts, whole. -/
theorem RfMem.at_ (h : RfMem w Q r A n c Vs L) {j : Nat} (hj : j < n) : ∃ b o B d, A = some ⟨b, o, none⟩ ∧ w.rangeAt b (o + j * 62) (rfC (rv L j) (.slice B (rv L j).text.length d)) ∧ (rv L j).text.length ≤ d ∧ RB w B (rv L j).text.length (rv L j).text := by
  obtain ⟨B, d, hV, hd, hr, _⟩ := h.held j hj
  rcases h.own.2 with ⟨e, _⟩ | ⟨g, cap, cur, e, _, hB, hnc, hm, hs, ht⟩
  · injection e with _ e _
    omega
  · injection e with eA _ eC
    subst eA eC
    refine ⟨g, 0, B, d, rfl, fun i v hv => ?_, hd, hr⟩
    have hjL : j < L.length := by rw [h.len]; exact hj
    have hi : i < 62 := by
      have := (List.getElem?_eq_some_iff.1 hv).1
      rw [rfC_len (h.inv.ids j hjL)] at this
      exact this
    rw [Nat.zero_add, Blk.cell hB]
    rw [← rlC_get h.inv hjL hV hi, ← ht, List.getElem?_take_of_lt (by omega)] at hv
    simpa using hv
end
theorem range_node {w : World} {b o : Nat} {r : Rv} {V : Value} (hi : RvIds r) (h : w.rangeAt b o (rfC r V)) : w.rangeAt b o (bv r.node) := fun i v hv => h i v (rfC_node hi hv).2
theorem range_p1 {w : World} {b o : Nat} {r : Rv} {V : Value} (hi : RvIds r) (h : w.rangeAt b o (rfC r V)) : w.rangeAt b (o + 20) (bv r.p1) := fun i v hv => by
  have := h (20 + i) v (rfC_p1 hi hv).2
  rwa [← Nat.add_assoc] at this
theorem range_p2 {w : World} {b o : Nat} {r : Rv} {V : Value} (hi : RvIds r) (h : w.rangeAt b o (rfC r V)) : w.rangeAt b (o + 40) (bv r.p2) := fun i v hv => by
  have := h (40 + i) v (rfC_p2 hi hv).2
  rwa [← Nat.add_assoc] at this
/-- where a node stands; -1. -/
def atX (L : Lg) (x : IdL) : Int := match posL L x with | some k => (k : Nat) | none => -1
set_option maxRecDepth 100000 in
set_option maxHeartbeats 2000000 in
theorem rat_any (Q : Nat → Prop) (r : Nat) (L : Lg) (x : IdL) (w : World) (h : RfAt w Q r L) (hx : IsId x) (hn : L.length ≤ 1000000) :
    Calls Try.prog 24 #[.pointer (some ⟨r, 0, none⟩), ida x] w (IntP (atX L x) w) := by
  have hu := idTy
  have hb0 := idW_below x w
  obtain ⟨A, n, c, Vs, hm⟩ := h.below hb0
  have hn' := hm.len
  subst hn'
  have r2 := fun k => run_loadId (w := (idW x w).drewN k) (idW_blk x w).range hx
  have e0 : (idW x w).cell? ⟨r, 0, none⟩ = some (.slice A L.length c) := hm.blk.cell 0
  have sz2 := idSz hx
  have HR := Lib.hid (show ∀ j, j < L.length → ∃ b o, A = some ⟨b, o, none⟩ ∧ (idW x w).rangeAt b (o + j * 62) (bv (rv L j).node) ∧ IsId (rv L j).node from fun j hj => by
    obtain ⟨b, o, B, d, e, hr, _⟩ := hm.at_ hj
    exact ⟨b, o, e, range_node (hm.inv.ids j hj) hr, (hm.inv.ids j hj).1⟩)
  have HNO := Lib.hid (show (∀ j, j < L.length → (rv L j).node ≠ x) → atX L x = -1 from fun hne => by
    unfold atX
    rw [posL_no (fun hm' => by
      obtain ⟨j, hj⟩ := List.mem_iff_getElem?.1 hm'
      have hjl := (List.getElem?_eq_some_iff.1 hj).1
      rw [nodes_length] at hjl
      rw [nodes_get hjl] at hj
      injection hj with hj
      exact hne j hjl hj)])
  have HYES := Lib.hid (show ∀ j : Nat, j < L.length → (rv L j).node = x → atX L x = (j : Int) from fun j hj e => by unfold atX; rw [posL_of hm.inv.nd hj e])
  generalize hG : L.length = n at *
  clear hG hm h
  generalize atX L x = y at *
  go_enter Try.func24, Try.ntmps24
  go_wp2
  go_loopw [5] (fun i wr => ∃ j : Nat, j ≤ n ∧ i = .int .i64 j ∧ (∀ i, i < j → (rv L i).node ≠ x) ∧ ∃ q, (idW x w).drewN q = wr) (fun i _ => n - (intOf i).toNat)
  case atStart => exact ⟨0, by omega, rfl, fun i hi => absurd hi (by omega), 0, rfl⟩
  case round =>
    obtain ⟨j, hj, rfl, hall, q, rfl⟩ := hrel
    have HALL := Lib.hid hall
    clear hall
    by_cases h1 : j < n
    · obtain ⟨b, o, rfl, hr1, i1⟩ := HR.out j h1
      have r1 := fun k => run_loadId (w := (idW x w).drewN k) hr1 i1
      have sz1 := idSz i1
      have j0 : (0 : Int) ≤ (j : Int) := by omega
      have j1 : (j : Int) < (n : Int) := by omega
      have heq := fun W => ida_eql i1 hx W
      clear hr1
      by_cases h3 : (rv L j).node = x
      · have hb : ((rv L j).node == x) = true := by simp [h3]
        have HA := Lib.hid (HYES.out j h1 h3)
        rw [hb] at heq
        clear h3 hb
        generalize (rv L j).node = z at *
        go_wp2
        go_quiet (fail)
        go_wp2
        go_ret
        rw [HA.out]
        exact ⟨rfl, below_drewN (below_drewN hb0 _) _⟩
      · have hb : ((rv L j).node == x) = false := by simpa using h3
        rw [hb] at heq
        have H3 := Lib.hid (show ∀ i, i = j → (rv L i).node ≠ x from fun i e => by rw [e]; exact h3)
        clear h3 hb
        generalize (rv L j).node = z at *
        go_wp2
        go_quiet (fail)
        go_wp2
        go_roundw
        case rel => exact ⟨j + 1, by omega, by go_num, fun i hi => by rcases Nat.lt_or_ge i j with h | h; exact HALL.out i h; exact H3.out i (by omega), q + nq, by simp⟩
        case measure => simp [intOf]; omega
    · have HA := Lib.hid (HNO.out (fun i hi => HALL.out i (by omega)))
      go_wp2
      go_ret
      rw [HA.out]
      exact ⟨rfl, below_drewN hb0 _⟩
end Go.Proofs.Ytgokompppadogaa
