/-
  A table and its tape; Add.
-/
import Derived.Test.YtokamaogognjoaaMkF
import Derived.Test.YtokamaogognjoaaFrm4
set_option linter.unusedVariables false
set_option linter.unusedSimpArgs false
namespace Go.Proofs.Ytokamaogognjoaa
section
open Go.RowKit

set_option maxRecDepth 100000 in
theorem RBs.one' {w : World} {g : Nat} {t : TypeId} {A : Option Addr} {n c : Nat} {xs : List Int} (hb : Blk w g t #[.slice A n c]) (h : RB w A n xs) (hc : n ≤ c) : RBs w (some ⟨g, 0, Option.none⟩) 1 [xs] := by
  refine ⟨rfl, g, 0, fun _ => rfl, fun i hi => ?_⟩
  obtain rfl : i = 0 := by omega
  have hl := h.len
  subst hl
  exact ⟨A, c, hb.cell 0, hc, h⟩
set_option maxRecDepth 100000 in
theorem RBs.oneNew {w : World} {A : Option Addr} {n c : Nat} {xs : List Int} (h : RB w A n xs) (hc : n ≤ c) : RBs (w.alloc (.cells #[.slice A n c] 36)) (some ⟨w.heap.size, 0, Option.none⟩) 1 [xs] := RBs.one' (Blk.new w _ _) (h.alloc _) hc
set_option maxRecDepth 100000 in
theorem TpAt.bounded {w : World} {P : Nat → Prop} {g : Nat} {s : Tp} (h : TpAt w P g s) : TpAt w (fun k => P k ∧ k < w.heap.size) g s := by
  obtain ⟨A, n, c, h1, h2, h3, h4⟩ := h
  refine ⟨A, n, c, h1, h2, h3, fun h0 => ?_⟩
  obtain ⟨ad, e, hP, hne⟩ := h4 h0
  obtain ⟨ad', e', hl⟩ := h2.block h0
  rw [e] at e'
  injection e' with e'
  subst e'
  exact ⟨ad, e, ⟨hP, hl⟩, hne⟩
set_option maxRecDepth 100000 in
theorem Chg.rb {P : Nat → Prop} {w w' : World} {A : Option Addr} {n : Nat} {xs : List Int} (h : Chg P w w') (hA : RB w A n xs) (hp : ∀ ad, A = some ad → ¬ P ad.block) : RB w' A n xs :=
  ⟨hA.1, hA.2.1, fun hn => by
    obtain ⟨ad, e, hc⟩ := hA.2.2 hn
    exact ⟨ad, e, fun j hj => h.cell (hc j hj) (by rw [block_of_add]; exact hp ad e)⟩⟩
set_option maxRecDepth 100000 in
theorem TpAt.chg {w w' : World} {P Q : Nat → Prop} {g : Nat} {s : Tp} (h : TpAt w P g s) (hc : Chg Q w w') (hg : ¬ Q g) (hp : ∀ k, P k → ¬ Q k) : TpAt w' P g s := by
  obtain ⟨A, n, c, h1, h2, h3, h4⟩ := h
  refine ⟨A, n, c, hc.blk h1 hg, ?_, h3, h4⟩
  rcases Nat.eq_zero_or_pos n with h0 | h0
  · subst h0
    have := h2.len
    have hx : s.b = [] := List.eq_nil_of_length_eq_zero this
    rw [hx]
    exact RB.nil _ _
  · exact hc.rb h2 fun ad e => by
      obtain ⟨ad', e', hP, _⟩ := h4 h0
      rw [e] at e'
      injection e' with e'
      subst e'
      exact hp _ hP
/-- a table and its tape; R: the blocks of both. -/
def Tm (w : World) (R : Nat → Prop) (g gt f : Nat) (L : Prs) (s : Tp) : Prop :=
  ∃ P Q : Nat → Prop, TbAt w P g gt f L ∧ TpAt w Q gt s ∧ (∀ k, P k → R k ∧ k < w.heap.size ∧ ¬ Q k ∧ k ≠ gt) ∧ (∀ k, Q k → R k ∧ k < w.heap.size) ∧ R gt
section
variable {w w1 w2 w' : World} {R : Nat → Prop} {g gt f : Nat} {L : Prs} {s : Tp}
set_option maxRecDepth 100000 in
theorem Tm.below (h : Tm w R g gt f L s) (hb : Below w.heap.size w w') : Tm w' R g gt f L s := by
  obtain ⟨P, Q, h1, h2, h3, h4, h5⟩ := h
  have hz := hb.size
  exact ⟨P, Q, h1.below hb, h2.below hb, fun k hk => ⟨(h3 k hk).1, Nat.lt_of_lt_of_le (h3 k hk).2.1 hz, (h3 k hk).2.2⟩, fun k hk => ⟨(h4 k hk).1, Nat.lt_of_lt_of_le (h4 k hk).2 hz⟩, h5⟩
set_option maxRecDepth 100000 in
theorem Tm.mono {R' : Nat → Prop} (h : Tm w R g gt f L s) (hr : ∀ k, k < w.heap.size → R k → R' k) : Tm w R' g gt f L s := by
  obtain ⟨P, Q, h1, h2, h3, h4, h5⟩ := h
  exact ⟨P, Q, h1, h2, fun k hk => ⟨hr k (h3 k hk).2.1 (h3 k hk).1, (h3 k hk).2⟩, fun k hk => ⟨hr k (h4 k hk).2 (h4 k hk).1, (h4 k hk).2⟩, hr _ h2.lt h5⟩
set_option maxRecDepth 100000 in
theorem Tm.lt (h : Tm w R g gt f L s) : gt < w.heap.size ∧ g < w.heap.size := by
  obtain ⟨P, Q, h1, h2, _⟩ := h
  obtain ⟨A, n, c, m1, m2, hm⟩ := h1
  exact ⟨h2.lt, hm.lt.1⟩
set_option maxRecDepth 100000 in
theorem Tm.bij (h : Tm w R g gt f L s) : Bij L := by
  obtain ⟨P, Q, h1, h2, _⟩ := h
  obtain ⟨A, n, c, m1, m2, hm⟩ := h1
  exact hm.bij
set_option maxRecDepth 100000 in
/-- a deed on the tape alone. -/
theorem Tm.tape (h : Tm w R g gt f L s) {v : Value} {s' : Tp} {e : Ending} (hp : ∀ Q, TpAt w Q gt s → TpPost v Q gt s' w e w') : e = .returned v ∧ Tm w' (fun k => R k ∨ w.heap.size ≤ k) g gt f L s' ∧ Chg R w w' := by
  obtain ⟨P, Q, h1, h2, h3, h4, h5⟩ := h
  obtain ⟨he, t1, t2⟩ := hp Q h2
  have hc : Chg (fun k => k = gt) w w' := Chg.grown t2 fun k e => by injection e with e; exact e.symm
  refine ⟨he, ⟨P, _, h1.chg hc (fun k hk e => (h3 k hk).2.2.2 e), t1.bounded, fun k hk => ?_, fun k hk => ?_, .inl h5⟩, hc.mono fun k e => .inl (e ▸ h5)⟩
  · obtain ⟨a, b, c, d⟩ := h3 k hk
    exact ⟨.inl a, Nat.lt_of_lt_of_le b t2.size, fun h => by rcases h.1 with h | h; exact c h; omega, d⟩
  · rcases hk.1 with h | h
    · exact ⟨.inl (h4 k h).1, hk.2⟩
    · exact ⟨.inr h, hk.2⟩
end
/-- what Add makes of a table and its tape. -/
def addR (f : Nat) (L : Prs) (s : Tp) (l : Prs) : Int × Prs × Tp :=
  if upV f s ≠ 0 then (upV f s, L, s) else if (freshR L l).2 ≠ 0 ∨ (freshR L l).1 = [] then ((freshR L l).2, L, s) else
  if (s.write (packL 1 (freshR L l).1.flatten)).1 ≠ 0 then ((s.write (packL 1 (freshR L l).1.flatten)).1, L, (s.write (packL 1 (freshR L l).1.flatten)).2) else
  if (s.write (packL 1 (freshR L l).1.flatten)).2.hold.1 ≠ 0 then ((s.write (packL 1 (freshR L l).1.flatten)).2.hold.1, L, (s.write (packL 1 (freshR L l).1.flatten)).2.hold.2) else
  (0, L ++ (freshR L l).1, (s.write (packL 1 (freshR L l).1.flatten)).2.hold.2)
def TmPost (r : Int × Prs × Tp) (R : Nat → Prop) (g gt f : Nat) (w : World) (e : Ending) (w' : World) : Prop := e = .returned (.int .i64 r.1) ∧ Tm w' (fun k => R k ∨ w.heap.size ≤ k) g gt f r.2.1 r.2.2 ∧ Chg R w w'
set_option maxRecDepth 100000 in
theorem freshR_new (L l : Prs) : NewSeq L (freshR L l).1 ∧ (AllPr l → AllPr (freshR L l).1) ∧ (freshR L l).1.length ≤ l.length := by
  unfold freshR
  split
  · exact ⟨NewSeq.nil _, fun _ => AllPr.nil, Nat.zero_le _⟩
  · split
    · exact ⟨NewSeq.nil _, fun _ => AllPr.nil, Nat.zero_le _⟩
    · exact ⟨NewSeq.out (NewSeq.nil _), fun h => outL_all AllPr.nil h, by have := outL_len L [] l; simpa using this⟩
set_option maxRecDepth 100000 in
theorem upV_cases (f : Nat) (s : Tp) : upV f s = 0 ∨ upV f s = 16 := by
  unfold upV
  split
  · exact .inr rfl
  · split
    · exact .inl rfl
    · exact .inr rfl
end
section
open Go.RowKit

section
variable {s : Tp} {N : Nat}
set_option maxRecDepth 100000 in
theorem Tp.Ok.mono {M : Nat} (h : s.Ok N) (hm : N ≤ M) : s.Ok M := ⟨h.byts, h.held, h.room0, h.room1, h.fuse0, h.fuse1, Nat.le_trans h.len hm, Nat.le_trans h.falls hm⟩
set_option maxRecDepth 100000 in
theorem Tp.Ok.burn (h : s.Ok N) : s.burn.Ok N := ⟨h.byts, h.held, h.room0, h.room1, by unfold Tp.burn; simp; omega, by have := h.fuse1; unfold Tp.burn; simp; omega, h.len, h.falls⟩
set_option maxRecDepth 100000 in
theorem Tp.Ok.fuse0' (h : s.Ok N) : ({ s with fuse := 0 } : Tp).Ok N := ⟨h.byts, h.held, h.room0, h.room1, Int.le_refl _, by simp, h.len, h.falls⟩
set_option maxRecDepth 100000 in
theorem Tp.Ok.sink (h : s.Ok N) : s.sink.Ok (N + 1) := ⟨h.byts, h.held, h.room0, h.room1, h.fuse0, h.fuse1, Nat.le_succ_of_le h.len, by have := h.falls; unfold Tp.sink; simp only []; split <;> omega⟩
set_option maxRecDepth 100000 in
theorem Tp.Ok.wr {x : List Int} (h : s.Ok N) (hx : Byts x) : (s.wr x).Ok (N + x.length) := ⟨h.byts.append hx, by have := h.held; unfold Tp.wr; simp; omega, h.room0, h.room1, h.fuse0, h.fuse1, by have := h.len; unfold Tp.wr; simp; omega, Nat.le_trans h.falls (by omega)⟩
set_option maxRecDepth 100000 in
theorem Tp.Ok.hd (h : s.Ok N) : s.hd.Ok N := ⟨h.byts, Nat.le_refl _, h.room0, h.room1, h.fuse0, h.fuse1, h.len, h.falls⟩
set_option maxRecDepth 100000 in
theorem Tp.Ok.sw {x : List Int} (h : s.Ok N) (hx : Byts x) : (s.sw x).Ok (N + x.length) := ⟨hx, Nat.le_refl _, h.room0, h.room1, h.fuse0, h.fuse1, by unfold Tp.sw; simp, Nat.le_trans h.falls (by omega)⟩
set_option maxRecDepth 100000 in
theorem Tp.Ok.cutTo {k : Nat} (h : s.Ok N) (hk : k ≤ s.b.length) : (s.cutTo k).Ok N := ⟨h.byts.take k, by unfold Tp.cutTo; simp; omega, h.room0, h.room1, h.fuse0, h.fuse1, by have := h.len; unfold Tp.cutTo; simp; omega, h.falls⟩
set_option maxRecDepth 100000 in
theorem Tp.Ok.deed {M : Nat} {r : Int} {pass leave : Tp → Tp} (h : s.Ok N) (hNM : N + 1 ≤ M + 1) (hp : s.down = false → r = 0 → (pass s.burn).Ok M) (hl : (leave { s with fuse := 0 }).Ok M) : (s.deed r pass leave).2.Ok (M + 1) := by
  unfold Tp.deed
  by_cases h1 : s.down = true
  · rw [if_pos h1]; exact h.mono (by omega)
  · rw [if_neg h1]
    by_cases h2 : r ≠ 0
    · rw [if_pos h2]; exact h.mono (by omega)
    · rw [if_neg h2]
      by_cases h3 : s.fuse = 1
      · rw [if_pos h3]; exact hl.sink
      · rw [if_neg h3]; exact (hp (by simpa using h1) (by simpa using h2)).mono (by omega)
set_option maxRecDepth 100000 in
theorem Tp.Ok.write {x : List Int} (h : s.Ok N) (hx : Byts x) (hl : x.length ≤ 140000) : (s.write x).2.Ok (N + 140001) := by
  unfold Tp.write
  exact (h.deed (M := N + 140000) (by omega) (fun _ _ => (h.burn.wr hx).mono (by omega)) ((h.fuse0'.wr hx).mono (by omega)))
set_option maxRecDepth 100000 in
theorem Tp.Ok.hold' (h : s.Ok N) : s.hold.2.Ok (N + 140001) := by
  unfold Tp.hold
  exact (h.deed (M := N) (by omega) (fun _ _ => h.burn.hd) h.fuse0').mono (by omega)
set_option maxRecDepth 100000 in
theorem Tp.Ok.cut' {k : Int} (h : s.Ok N) : (s.cut k).2.Ok (N + 140001) := by
  unfold Tp.cut
  refine (h.deed (M := N) (by omega) (fun _ hr => h.burn.cutTo ?_) h.fuse0').mono (by omega)
  show k.toNat ≤ s.b.length
  by_cases hc : k < 0 ∨ (s.b.length : Int) < k
  · rw [if_pos hc] at hr; omega
  · omega
set_option maxRecDepth 100000 in
theorem Tp.Ok.swap' {x : List Int} (h : s.Ok N) (hx : Byts x) (hl : x.length ≤ 140000) : (s.swap x).2.Ok (N + 140001) := by
  unfold Tp.swap
  exact (h.deed (M := N + 140000) (by omega) (fun _ _ => (h.burn.sw hx).mono (by omega)) (h.fuse0'.mono (by omega)))
set_option maxRecDepth 100000 in
theorem Tp.Ok.room' {k : Int} (h : s.Ok N) : (s.setRoom k).Ok (N + 140001) := ⟨h.byts, h.held, by unfold Tp.setRoom; simp; omega, by unfold Tp.setRoom; simp; omega, h.fuse0, h.fuse1, Nat.le_trans h.len (by omega), Nat.le_trans h.falls (by omega)⟩
set_option maxRecDepth 100000 in
theorem Tp.Ok.fuse' {k : Int} (h : s.Ok N) (hk : k ≤ 9223372036854775807) : (s.setFuse k).Ok (N + 140001) := ⟨h.byts, h.held, h.room0, h.room1, by unfold Tp.setFuse; simp; omega, by unfold Tp.setFuse; simp; omega, Nat.le_trans h.len (by omega), Nat.le_trans h.falls (by omega)⟩
set_option maxRecDepth 100000 in
theorem Tp.Ok.fall' {k : Int} (h : s.Ok N) : (s.fall k).Ok (N + 140001) := by
  rw [Tp.fall_eq]
  exact (h.sink.cutTo (Tp.stay_le h.held)).mono (by omega)
set_option maxRecDepth 100000 in
theorem Tp.Ok.rise' (h : s.Ok N) : s.rise.Ok (N + 140001) := by
  unfold Tp.rise
  split
  · have := h.cutTo h.held
    exact ⟨this.byts, this.held, this.room0, this.room1, this.fuse0, this.fuse1, Nat.le_trans this.len (by omega), Nat.le_trans this.falls (by omega)⟩
  · exact h.mono (by omega)
end

set_option maxRecDepth 100000 in
theorem packL_byts {l : Prs} (hl : AllPr l) (hk : l.length ≤ 3000) : Byts l.flatten ∧ l.flatten.length = l.length * 40 ∧ packR 1 l.flatten = (packL 1 l.flatten, 0) := by
  have h1 := flatP_len hl
  refine ⟨fun z hz => ?_, h1, ?_⟩
  · obtain ⟨p, hp, hzp⟩ := List.mem_flatten.1 hz
    exact (hl p hp).2 z hzp
  · unfold packR
    rw [if_neg (by omega), if_neg (by omega)]
set_option maxRecDepth 100000 in
theorem freshR_cases (L l : Prs) : ((freshR L l).2 = 1 ∧ (freshR L l).1 = []) ∨ ((freshR L l).2 = 8 ∧ (freshR L l).1 = []) ∨ (freshR L l).2 = 0 := by
  unfold freshR
  split
  · exact .inl ⟨rfl, rfl⟩
  · split
    · exact .inr (.inl ⟨rfl, rfl⟩)
    · exact .inr (.inr rfl)
set_option maxRecDepth 100000 in
theorem Tm.haves {w w' : World} {R P Q : Nat → Prop} {g gt f : Nat} {L L' : Prs} {s : Tp} (h2 : TpAt w Q gt s) (h3 : ∀ k, P k → R k ∧ k < w.heap.size ∧ ¬ Q k ∧ k ≠ gt) (h4 : ∀ k, Q k → R k ∧ k < w.heap.size) (h5 : R gt)
    (u1 : TbAt w' (fun k => P k ∨ w.heap.size ≤ k) g gt f L') (u2 : Chg P w w') : Tm w' (fun k => R k ∨ w.heap.size ≤ k) g gt f L' s ∧ Chg R w w' := by
  have hlt := h2.lt
  refine ⟨⟨_, Q, u1.bounded, h2.chg u2 (fun hp => (h3 gt hp).2.2.2 rfl) (fun k hq hp => (h3 k hp).2.2.1 hq), fun k hk => ?_, fun k hk => ⟨.inl (h4 k hk).1, Nat.lt_of_lt_of_le (h4 k hk).2 u2.size⟩, .inl h5⟩, u2.mono fun k hk => .inl (h3 k hk).1⟩
  rcases hk.1 with h | h
  · exact ⟨.inl (h3 k h).1, hk.2, (h3 k h).2.2⟩
  · exact ⟨.inr h, hk.2, fun hq => by have := (h4 k hq).2; omega, by omega⟩
set_option maxRecDepth 100000 in
theorem Tm.c0 {w : World} {R : Nat → Prop} {g gt f : Nat} {L : Prs} {s : Tp} (h : Tm w R g gt f L s) : w.cell? ⟨g, 0, none⟩ = some (.pointer (some ⟨gt, 0, none⟩)) := by
  obtain ⟨P, Q, ⟨A, n, c, m1, m2, hm⟩, _⟩ := h
  exact hm.c0
set_option maxRecDepth 100000 in
theorem packL_bytsB {k : Int} {b : List Int} (h : Byts b) : Byts (packL k b) := ((headL_byts k b.length).append h).append ((isId_sha _).2.take 8)
set_option maxRecDepth 100000 in
theorem Tm.tape' {w w' : World} {R P Q : Nat → Prop} {g gt f : Nat} {L : Prs} {s s' : Tp} {v : Value} {e : Ending} (h1 : TbAt w P g gt f L) (h2 : TpAt w Q gt s) (h3 : ∀ k, P k → R k ∧ k < w.heap.size ∧ ¬ Q k ∧ k ≠ gt) (h4 : ∀ k, Q k → R k ∧ k < w.heap.size) (h5 : R gt)
    (hp : TpPost v Q gt s' w e w') : e = .returned v ∧ Tm w' (fun k => R k ∨ w.heap.size ≤ k) g gt f L s' ∧ Chg R w w' := by
  obtain ⟨he, t1, t2⟩ := hp
  have hc : Chg (fun k => k = gt) w w' := Chg.grown t2 fun k e => by injection e with e; exact e.symm
  refine ⟨he, ⟨P, _, h1.chg hc (fun k hk e => (h3 k hk).2.2.2 e), t1.bounded, fun k hk => ?_, fun k hk => ?_, .inl h5⟩, hc.mono fun k e => .inl (e ▸ h5)⟩
  · obtain ⟨a, b, c, d⟩ := h3 k hk
    exact ⟨.inl a, Nat.lt_of_lt_of_le b t2.size, fun h => by rcases h.1 with h | h; exact c h; omega, d⟩
  · rcases hk.1 with h | h
    · exact ⟨.inl (h4 k h).1, hk.2⟩
    · exact ⟨.inr h, hk.2⟩
set_option maxRecDepth 100000 in
set_option maxHeartbeats 4000000 in
theorem tadd_any (R : Nat → Prop) (g gt f : Nat) (L : Prs) (s : Tp) (B : Option Addr) (k c : Nat) (l : Prs) (w : World) (h : Tm w R g gt f L s) (hok : s.Ok 300000000) (hB : RPrs w B k l) (hk : L.length + l.length ≤ 3000) :
    Calls Try.prog 10 #[.pointer (some ⟨g, 0, none⟩), .slice B k c] w (TmPost (addR f L s l) R g gt f w) := by
  have hR0 := h.mono (R' := fun k => R k ∧ k < w.heap.size) (fun k hk hr => ⟨hr, hk⟩)
  obtain ⟨P, Q, h1, h2, h3, h4, h5⟩ := h
  obtain ⟨hns, hna, hnl⟩ := freshR_new L l
  have hoa := hna hB.2.1
  have HU := Lib.hid (up_any P Q g gt f L s w h1 h2)
  have HF := Lib.hid (show ∀ q, Calls Try.prog 30 #[.pointer (some ⟨g, 0, none⟩), .slice B k c] (w.drewN q) (FreshPost (freshR L l) (w.drewN q)) from fun q => tfresh_any P g gt f L B k c l _ (h1.below (drewN_below w q)) (hB.drewN q) hk)
  have hc0 := upV_cases f s
  have hfc := freshR_cases L l
  have hst : ∀ {W : World} {x : Int}, Below w.heap.size w W → TmPost (x, L, s) R g gt f w (.returned (.int .i64 x)) W := fun hd => ⟨rfl, (Tm.below ⟨P, Q, h1, h2, h3, h4, h5⟩ hd).mono fun k _ hk => .inl hk, Chg.below hd⟩
  unfold addR
  generalize upV f s = u at *
  generalize freshR L l = r at *
  obtain ⟨o, er⟩ := r
  simp only at *
  unfold Q2 at HU
  unfold FreshPost at HF
  rcases hc0 with rfl | rfl
  · rw [if_neg (by decide)]
    rcases hfc with ⟨rfl, rfl⟩ | ⟨rfl, rfl⟩ | rfl
    · rw [if_pos (.inl (by decide))]
      go_enter Try.func10, Try.ntmps10
      go_wp2_with (first
        | (go_at_call 29; (with_reducible refine HU.out.mono ?_); rintro e w0 ⟨rfl, q, rfl⟩)
        | (go_at_call 30; (with_reducible refine (HF.out _).mono ?_); rintro e w1 ⟨A1, c1, rfl, ho1, hc1, hb1⟩))
      go_ret
      exact hst (below_drewN' hb1)
    · rw [if_pos (.inl (by decide))]
      go_enter Try.func10, Try.ntmps10
      go_wp2_with (first
        | (go_at_call 29; (with_reducible refine HU.out.mono ?_); rintro e w0 ⟨rfl, q, rfl⟩)
        | (go_at_call 30; (with_reducible refine (HF.out _).mono ?_); rintro e w1 ⟨A1, c1, rfl, ho1, hc1, hb1⟩))
      go_ret
      exact hst (below_drewN' hb1)
    · by_cases h0 : o = []
      · subst h0
        rw [if_pos (.inr rfl)]
        go_enter Try.func10, Try.ntmps10
        go_wp2_with (first
          | (go_at_call 29; (with_reducible refine HU.out.mono ?_); rintro e w0 ⟨rfl, q, rfl⟩)
          | (go_at_call 30; (with_reducible refine (HF.out _).mono ?_); rintro e w1 ⟨A1, c1, rfl, ho1, hc1, hb1⟩))
        go_ret
        exact hst (below_drewN' hb1)
      · rw [if_neg (by rintro (h | h); exact h rfl; exact h0 h)]
        have hm0 : 0 < o.length := List.length_pos_iff.2 h0
        have hmb : ((o.length : Int) == 0) = false := by simp; omega
        have hmb' : (o.length == 0) = false := by simp; omega
        obtain ⟨hbx, hlx, hpx⟩ := packL_byts hoa (by omega)
        clear h0
        have HBY := Lib.hid (show ∀ (W : World) (A : Option Addr) (d : Nat), RPrs W A o.length o → Calls Try.prog 32 #[.slice A o.length d] W (NewB (40 * o.length) o.flatten W) from fun W A d hW => mbytes_any A o.length d o W hW (by omega))
        have HPK := Lib.hid (show ∀ (W : World) (A : Option Addr) (d : Nat), RB W A (40 * o.length) o.flatten → 40 * o.length ≤ d → Calls Try.prog 31 #[.int .i64 1, .slice A (40 * o.length) d] W (PackPost (packL 1 o.flatten, 0) W) from fun W A d hW hd => by have := pack_any 1 A (40 * o.length) d o.flatten W hW hd (by omega); rwa [hpx] at this)
        have hxl : (packL 1 o.flatten).length ≤ 140000 := by rw [packL_length]; omega
        have hxB : Byts (packL 1 o.flatten) := packL_bytsB hbx
        generalize packL 1 o.flatten = X at *
        unfold NewB at HBY
        unfold PackPost at HPK
        simp only at HPK
        clear hpx hbx hlx
        have hok1 := hok.write (x := X) hxB hxl
        have HW := Lib.hid (show ∀ (W : World) (R' : Nat → Prop) (A : Option Addr) (d : Nat), Tm W R' g gt f L s → RB W A X.length X → X.length ≤ d → Calls Try.prog 19 #[.pointer (some ⟨gt, 0, none⟩), .slice (some ⟨W.heap.size, 0, none⟩) 1 1] (W.alloc (.cells #[.slice A X.length d] 36)) (fun e w' => e = .returned (.int .i64 (s.write X).1) ∧ Tm w' (fun k => R' k ∨ (W.alloc (.cells #[.slice A X.length d] 36)).heap.size ≤ k) g gt f L (s.write X).2 ∧ Chg R' (W.alloc (.cells #[.slice A X.length d] 36)) w') from fun W R' A d hT hA hd => by
          have hb := (Below.refl W.heap.size W).alloc (Nat.le_refl _) (.cells #[.slice A X.length d] 36)
          have hT' := hT.below hb
          obtain ⟨P', Q', t1, t2, t3, t4, t5⟩ := id hT'
          have hx : [X].flatten = X := by simp
          have hcall := tpWrite_any gt s Q' (some ⟨W.heap.size, 0, none⟩) 1 1 [X] _ t2 (hok.mono (by omega)) (RBs.oneNew hA hd) (Nat.le_refl _) (by omega) (by rw [hx]; omega)
          rw [hx] at hcall
          refine hcall.mono fun e w' hp => ?_
          exact Tm.tape' t1 t2 t3 t4 t5 hp)
        generalize (s.write X).1 = r1 at *
        generalize (s.write X).2 = s1 at *
        have HH := Lib.hid (show ∀ (W : World) (R' : Nat → Prop), Tm W R' g gt f L s1 → Calls Try.prog 33 #[.pointer (some ⟨gt, 0, none⟩)] W (fun e w' => e = .returned (.int .i64 s1.hold.1) ∧ Tm w' (fun k => R' k ∨ W.heap.size ≤ k) g gt f L s1.hold.2 ∧ Chg R' W w') from fun W R' hT => by
          obtain ⟨P', Q', t1, t2, t3, t4, t5⟩ := id hT
          exact (tpHold_any gt s1 Q' W t2 (hok1.mono (by omega))).mono fun e w' hp => Tm.tape' t1 t2 t3 t4 t5 hp)
        generalize s1.hold.1 = r2 at *
        generalize s1.hold.2 = s2 at *
        have fin : ∀ {W1 W2 : World} {v : Int} {L' : Prs} {s' : Tp}, Below w.heap.size w W1 → Tm W2 (fun k => (R k ∧ k < w.heap.size) ∨ W1.heap.size ≤ k) g gt f L' s' → Chg (fun k => R k ∧ k < w.heap.size) W1 W2 → TmPost (v, L', s') R g gt f w (.returned (.int .i64 v)) W2 := fun {W1 W2 v L' s'} b t c => by
          have hz := b.size
          exact ⟨rfl, t.mono (fun k _ hk => by rcases hk with hk | hk; exact .inl hk.1; exact .inr (by omega)), ((Chg.below (P := fun k => R k ∧ k < w.heap.size) b).then c (fun i h => .inl h)).mono fun i h => .inl h.1⟩
        have fin1 : ∀ {W1 W2 W3 : World} {v : Int} {L' : Prs} {s' : Tp}, Below w.heap.size w W1 → Chg (fun k => R k ∧ k < w.heap.size) W1 W2 → Tm W3 (fun k => ((R k ∧ k < w.heap.size) ∨ W1.heap.size ≤ k) ∨ W2.heap.size ≤ k) g gt f L' s' → Chg (fun k => (R k ∧ k < w.heap.size) ∨ W1.heap.size ≤ k) W2 W3 → TmPost (v, L', s') R g gt f w (.returned (.int .i64 v)) W3 := fun {W1 W2 W3 v L' s'} b c t d => by
          have hz := b.size
          have hz2 := c.size
          exact ⟨rfl, t.mono (fun k _ hk => by rcases hk with (hk | hk) | hk; exact .inl hk.1; exact .inr (by omega); exact .inr (by omega)), (((Chg.below (P := fun k => R k ∧ k < w.heap.size) b).then c (fun i h => .inl h)).then d (fun i h => by rcases h with h | h; exact .inl h; exact .inr (by omega))).mono fun i h => .inl h.1⟩
        have fin2 : ∀ {W1 W2 W3 W4 : World} {v : Int} {L' : Prs} {s' : Tp}, Below w.heap.size w W1 → Chg (fun k => R k ∧ k < w.heap.size) W1 W2 → Chg (fun k => (R k ∧ k < w.heap.size) ∨ W1.heap.size ≤ k) W2 W3 → Tm W4 (fun k => (((R k ∧ k < w.heap.size) ∨ W1.heap.size ≤ k) ∨ W2.heap.size ≤ k) ∨ W3.heap.size ≤ k) g gt f L' s' → Chg (fun k => ((R k ∧ k < w.heap.size) ∨ W1.heap.size ≤ k) ∨ W2.heap.size ≤ k) W3 W4 → TmPost (v, L', s') R g gt f w (.returned (.int .i64 v)) W4 := fun {W1 W2 W3 W4 v L' s'} b c d t e => by
          have hz := b.size
          have hz2 := c.size
          have hz3 := d.size
          exact ⟨rfl, t.mono (fun k _ hk => by rcases hk with ((hk | hk) | hk) | hk; exact .inl hk.1; exact .inr (by omega); exact .inr (by omega); exact .inr (by omega)), ((((Chg.below (P := fun k => R k ∧ k < w.heap.size) b).then c (fun i h => .inl h)).then d (fun i h => by rcases h with h | h; exact .inl h; exact .inr (by omega))).then e (fun i h => by rcases h with (h | h) | h; exact .inl h; exact .inr (by omega); exact .inr (by omega))).mono fun i h => .inl h.1⟩
        have hcarry : ∀ {q : Nat} {w1 w2 w3 w5 w6 : World} {A1 A3 : Option Addr} {c1 c3 : Nat}, OPrs w1 (w.drewN q).heap.size (.slice A1 o.length c1) o.length o → Below w.heap.size w w1 → Below w1.heap.size w1 w2 → Below w2.heap.size w2 w3 → Chg (fun k => R k ∧ k < w.heap.size) (w3.alloc (.cells #[.slice A3 X.length c3] 36)) w5 → Chg (fun k => (R k ∧ k < w.heap.size) ∨ (w3.alloc (.cells #[.slice A3 X.length c3] 36)).heap.size ≤ k) w5 w6 → RPrs w6 A1 o.length o := fun {q w1 w2 w3 w5 w6 A1 A3 c1 c3} ho b1 b2 b3 c d => by
          have hz2 := b2.size
          have hz3 := b3.size
          have hbb := bk_alloc (below_two b2 b3) (.cells #[.slice A3 X.length c3] 36)
          have hr := (ho.below hbb).reads
          have hloc : ∀ ad, A1 = some ad → w.heap.size ≤ ad.block ∧ ad.block < w1.heap.size := fun ad e => ho.own ad.block (by rw [e]; rfl)
          exact d.prs (c.prs hr fun ad e hk => by have := (hloc ad e).1; have := hk.2; omega) fun ad e hk => by
            have := hloc ad e
            rcases hk with hk | hk
            · have := hk.2; omega
            · simp at hk; omega
        have hapart : ∀ {q : Nat} {w1 w2 w3 w5 : World} {A1 A3 : Option Addr} {c1 c3 : Nat} {P6 : Nat → Prop}, OPrs w1 (w.drewN q).heap.size (.slice A1 o.length c1) o.length o → Below w.heap.size w w1 → Below w1.heap.size w1 w2 → Below w2.heap.size w2 w3 → (w3.alloc (.cells #[.slice A3 X.length c3] 36)).heap.size ≤ w5.heap.size → (∀ k, P6 k → ((R k ∧ k < w.heap.size) ∨ (w3.alloc (.cells #[.slice A3 X.length c3] 36)).heap.size ≤ k) ∨ w5.heap.size ≤ k) → ∀ ad, A1 = some ad → ¬ P6 ad.block := fun {q w1 w2 w3 w5 A1 A3 c1 c3 P6} ho b1 b2 b3 hz5 hP ad e hk => by
          have hz2 := b2.size
          have hz3 := b3.size
          have hl : w.heap.size ≤ ad.block ∧ ad.block < w1.heap.size := ho.own ad.block (by rw [e]; rfl)
          simp at hz5
          rcases hP _ hk with (h | h) | h
          · have := h.2; omega
          · simp at h; omega
          · omega
        by_cases hr1 : r1 = 0
        · subst hr1
          rw [if_neg (by decide)]
          by_cases hr2 : r2 = 0
          · subst hr2
            rw [if_neg (by decide)]
            go_enter Try.func10, Try.ntmps10
            go_wp2_with (first
            | (go_at_call 29; (with_reducible refine HU.out.mono ?_); rintro e w0 ⟨rfl, q, rfl⟩)
            | (go_at_call 30; (with_reducible refine (HF.out _).mono ?_); rintro e w1 ⟨A1, c1, rfl, ho1, hc1, hb1⟩; have b1 := below_drewN' hb1)
            | (go_at_call 32; (with_reducible refine (HBY.out _ _ _ ho1.reads).mono ?_); rintro e w2 ⟨A2, c2, rfl, ho2, hc2, hb2⟩; have b2 := below_two b1 hb2)
            | (go_at_call 31; (with_reducible refine (HPK.out _ _ _ ho2.reads hc2).mono ?_); rintro e w3 ⟨A3, c3, rfl, ho3, hc3, hb3⟩; have b3 := below_two b2 hb3; have T3 := Tm.below hR0 b3; have k3 := T3.c0; have b4 := bk_alloc b3 (.cells #[.slice A3 X.length c3] 36))
            | (go_at_call 19; (with_reducible refine (HW.out _ _ _ _ T3 ho3.reads hc3).mono ?_); rintro e w5 ⟨rfl, T5, C5⟩; have k5 := T5.c0)
            | (go_at_call 33; (with_reducible refine (HH.out _ _ T5).mono ?_); rintro e w6 ⟨rfl, T6, C6⟩; obtain ⟨P6, Q6, u1, u2, u3, u4, u5⟩ := id T6; have z1 := b1.size; have z4 := b4.size; have hz5 := C5.size; have hA6 := hcarry ho1 b1 hb2 hb3 C5 C6; have hap := hapart ho1 b1 hb2 hb3 hz5 (fun k hk => (u3 k hk).1))
            | (go_at_call 34; (with_reducible refine (have_any P6 g gt f L A1 o.length c1 o _ u1 hA6 (by omega) (by omega) hns hap).mono ?_); rintro e w7 ⟨rfl, v1, v2⟩))
            go_ret
            obtain ⟨T7, C7⟩ := Tm.haves (L := L) u2 u3 u4 u5 v1 v2
            exact fin2 b4 C5 C6 T7 C7
          · rw [if_pos hr2]
            have hb2 : (r2 != 0) = true := by simpa using hr2
            clear hr2
            go_enter Try.func10, Try.ntmps10
            go_wp2_with (first
            | (go_at_call 29; (with_reducible refine HU.out.mono ?_); rintro e w0 ⟨rfl, q, rfl⟩)
            | (go_at_call 30; (with_reducible refine (HF.out _).mono ?_); rintro e w1 ⟨A1, c1, rfl, ho1, hc1, hb1⟩; have b1 := below_drewN' hb1)
            | (go_at_call 32; (with_reducible refine (HBY.out _ _ _ ho1.reads).mono ?_); rintro e w2 ⟨A2, c2, rfl, ho2, hc2, hb2⟩; have b2 := below_two b1 hb2)
            | (go_at_call 31; (with_reducible refine (HPK.out _ _ _ ho2.reads hc2).mono ?_); rintro e w3 ⟨A3, c3, rfl, ho3, hc3, hb3⟩; have b3 := below_two b2 hb3; have T3 := Tm.below hR0 b3; have k3 := T3.c0; have b4 := bk_alloc b3 (.cells #[.slice A3 X.length c3] 36))
            | (go_at_call 19; (with_reducible refine (HW.out _ _ _ _ T3 ho3.reads hc3).mono ?_); rintro e w5 ⟨rfl, T5, C5⟩; have k5 := T5.c0)
            | (go_at_call 33; (with_reducible refine (HH.out _ _ T5).mono ?_); rintro e w6 ⟨rfl, T6, C6⟩))
            go_ret
            exact fin1 b4 C5 T6 C6
        · rw [if_pos hr1]
          have hb1 : (r1 != 0) = true := by simpa using hr1
          clear hr1
          go_enter Try.func10, Try.ntmps10
          go_wp2_with (first
            | (go_at_call 29; (with_reducible refine HU.out.mono ?_); rintro e w0 ⟨rfl, q, rfl⟩)
            | (go_at_call 30; (with_reducible refine (HF.out _).mono ?_); rintro e w1 ⟨A1, c1, rfl, ho1, hc1, hb1⟩; have b1 := below_drewN' hb1)
            | (go_at_call 32; (with_reducible refine (HBY.out _ _ _ ho1.reads).mono ?_); rintro e w2 ⟨A2, c2, rfl, ho2, hc2, hb2⟩; have b2 := below_two b1 hb2)
            | (go_at_call 31; (with_reducible refine (HPK.out _ _ _ ho2.reads hc2).mono ?_); rintro e w3 ⟨A3, c3, rfl, ho3, hc3, hb3⟩; have b3 := below_two b2 hb3; have T3 := Tm.below hR0 b3; have k3 := T3.c0; have b4 := bk_alloc b3 (.cells #[.slice A3 X.length c3] 36))
            | (go_at_call 19; (with_reducible refine (HW.out _ _ _ _ T3 ho3.reads hc3).mono ?_); rintro e w5 ⟨rfl, T5, C5⟩))
          go_ret
          exact fin b4 T5 C5
  · rw [if_pos (by decide)]
    go_enter Try.func10, Try.ntmps10
    go_wp2_with (go_at_call 29; (with_reducible refine HU.out.mono ?_); rintro e w0 ⟨rfl, q, rfl⟩)
    go_ret
    exact hst (drewN_below w q)
end
end Go.Proofs.Ytokamaogognjoaa
