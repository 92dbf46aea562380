/-
  MarksPlay: its state, and what each call does to it.
-/
import Derived.Test.YtokamaogognjoaaMku
import Derived.Test.YtokamaogognjoaaMkn
import Derived.Test.YtokamaogognjoaaMkt
set_option linter.unusedVariables false
set_option linter.unusedSimpArgs false
namespace Go.Proofs.Ytokamaogognjoaa
section
open Go.RowKit

/-- the model's cell at p with the row v of M; the late row u of D; the table g on the tape gt; G: blocks of the round's own. -/
structure SP (w : World) (G : Nat → Prop) (p : Nat) (v : Value) (M : Prs) (u : Value) (D : Prs) (g gt f : Nat) (L : Prs) (s : Tp) (W : World) : Prop where
  ex : ∃ R : Nat → Prop, Tm W R g gt f L s ∧ ∀ k, R k → w.heap.size ≤ k ∧ k < W.heap.size ∧ k ≠ p ∧ v.ownBlock ≠ some k ∧ u.ownBlock ≠ some k ∧ ¬ G k
  bel : Below w.heap.size w W
  mod : Blk W p 46 #[v]
  lp : w.heap.size ≤ p
  row : OPrs W w.heap.size v M.length M
  lat : OPrs W w.heap.size u D.length D
  unv : ∀ k, u.ownBlock = some k → v.ownBlock ≠ some k
  gk : ∀ k, G k → w.heap.size ≤ k ∧ k < W.heap.size ∧ k ≠ p ∧ v.ownBlock ≠ some k ∧ u.ownBlock ≠ some k
section
variable {w W w' : World} {G G' Q : Nat → Prop} {p g gt f : Nat} {v u : Value} {M D L : Prs} {s : Tp}
set_option maxRecDepth 100000 in
theorem SP.chg (h : SP w G p v M u D g gt f L s W) (hc : Chg Q W w') (hQ : ∀ k, Q k → G k) (hG : ∀ k, G' k → k < w'.heap.size ∧ (G k ∨ W.heap.size ≤ k)) : SP w G' p v M u D g gt f L s w' := by
  obtain ⟨R, a, b⟩ := h.ex
  have hz := hc.size
  have hzw := h.bel.size
  have hpl := h.mod.lt
  have hvo := h.row.own
  have huo := h.lat.own
  refine ⟨⟨R, a.chg hc (fun k hk hq => (b k hk).2.2.2.2.2 (hQ k hq)), fun k hk => ⟨(b k hk).1, by have := (b k hk).2.1; omega, (b k hk).2.2.1, (b k hk).2.2.2.1, (b k hk).2.2.2.2.1, fun hg => ?_⟩⟩, hc.toBelow h.bel hzw (fun k hk => (h.gk k (hQ k hk)).1), hc.blk h.mod (fun hk => (h.gk p (hQ p hk)).2.2.1 rfl), h.lp, hc.own h.row (fun k e hk => (h.gk k (hQ k hk)).2.2.2.1 e), hc.own h.lat (fun k e hk => (h.gk k (hQ k hk)).2.2.2.2 e), h.unv, fun k hk => ?_⟩
  · rcases (hG k hg).2 with h1 | h1
    · exact (b k hk).2.2.2.2.2 h1
    · have := (b k hk).2.1; omega
  · obtain ⟨h0, h1⟩ := hG k hk
    rcases h1 with h1 | h1
    · exact ⟨(h.gk k h1).1, h0, (h.gk k h1).2.2⟩
    · exact ⟨by omega, h0, by omega, fun e => by have := (hvo k e).2; omega, fun e => by have := (huo k e).2; omega⟩
set_option maxRecDepth 100000 in
theorem SP.later (h : SP w G p v M u D g gt f L s W) (hb : Below W.heap.size W w') (hG : ∀ k, G' k → k < w'.heap.size ∧ (G k ∨ W.heap.size ≤ k)) : SP w G' p v M u D g gt f L s w' :=
  h.chg (Q := fun _ => False) (Chg.below hb) (fun _ h => h.elim) hG
set_option maxRecDepth 100000 in
theorem SP.below (h : SP w G p v M u D g gt f L s W) (hb : Below W.heap.size W w') : SP w G p v M u D g gt f L s w' :=
  h.later hb fun k hk => ⟨Nat.lt_of_lt_of_le (h.gk k hk).2.1 hb.size, .inl hk⟩
set_option maxRecDepth 100000 in
theorem SP.fewer (h : SP w G p v M u D g gt f L s W) (hG : ∀ k, G' k → G k) : SP w G' p v M u D g gt f L s W :=
  h.later (Below.refl _ _) fun k hk => ⟨(h.gk k (hG k hk)).2.1, .inl (hG k hk)⟩
set_option maxRecDepth 100000 in
/-- a change of one's own blocks. -/
theorem SP.poke (h : SP w G p v M u D g gt f L s W) {b : Nat} (hb : G b) (i : Nat) (x : Value) : SP w G p v M u D g gt f L s (W.setCell ⟨b, i, none⟩ x) :=
  h.chg (Q := fun k => k = b) (Chg.grown (set_grownQ W b i x) (fun k e => by injection e with e; exact e.symm)) (fun k e => e ▸ hb) (fun k hk => ⟨by have := (h.gk k hk).2.1; have := (set_grownQ W b i x).size; omega, .inl hk⟩)
set_option maxRecDepth 100000 in
/-- what a call leaves that turns the table and the tape alone. -/
theorem SP.turn (h : SP w G p v M u D g gt f L s W) : ∃ R, Tm W R g gt f L s ∧ ∀ (g' f' : Nat) (L' : Prs) (s' : Tp) (R' : Nat → Prop) (w' : World), Tm w' R' g' gt f' L' s' → Chg R W w' → (∀ k, R' k → R k ∨ W.heap.size ≤ k) → SP w G p v M u D g' gt f' L' s' w' ∧ Chg (fun k => ¬ G k) W w' := by
  obtain ⟨R, a, b⟩ := h.ex
  refine ⟨R, a, fun g' f' L' s' R' w' ht hc hr => ⟨?_, hc.mono fun k hk => .inl (b k hk).2.2.2.2.2⟩⟩
  have hz := hc.size
  have hzw := h.bel.size
  have hpl := h.mod.lt
  refine ⟨⟨fun k => R' k ∧ k < w'.heap.size, ht.mono (fun k hk h => ⟨h, hk⟩), fun k hk => ?_⟩, hc.toBelow h.bel hzw (fun k hk => (b k hk).1), hc.blk h.mod (fun hk => (b p hk).2.2.1 rfl), h.lp, hc.own h.row (fun k e hk => (b k hk).2.2.2.1 e), hc.own h.lat (fun k e hk => (b k hk).2.2.2.2.1 e), h.unv, fun k hk => ⟨(h.gk k hk).1, by have := (h.gk k hk).2.1; omega, (h.gk k hk).2.2⟩⟩
  rcases hr k hk.1 with h7 | h7
  · exact ⟨(b k h7).1, hk.2, (b k h7).2.2⟩
  · exact ⟨by omega, hk.2, by omega, fun e => by have := (h.row.own k e).2; omega, fun e => by have := (h.lat.own k e).2; omega, fun e => by have := (h.gk k e).2.1; omega⟩
set_option maxRecDepth 100000 in
theorem SP.lt (h : SP w G p v M u D g gt f L s W) : gt < W.heap.size ∧ g < W.heap.size := by
  obtain ⟨R, a, _⟩ := h.ex
  exact a.lt
set_option maxRecDepth 100000 in
theorem SP.bij (h : SP w G p v M u D g gt f L s W) : Bij L := by
  obtain ⟨R, a, _⟩ := h.ex
  exact a.bij

/-! ### the calls -/
set_option maxRecDepth 100000 in
theorem SP.tape (h : SP w G p v M u D g gt f L s W) {x : Value} {s' : Tp} {F : FuncId} {args : Array Value} (hc : ∀ Q, TpAt W Q gt s → Calls Try.prog F args W (TpPost x Q gt s' W)) :
    Calls Try.prog F args W (fun e w' => e = .returned x ∧ SP w G p v M u D g gt f L s' w' ∧ Chg (fun k => ¬ G k) W w') := by
  obtain ⟨R, a, hn⟩ := h.turn
  obtain ⟨P, Q, t1, t2, t3, t4, t5⟩ := id a
  refine (hc Q t2).mono fun e w' hp => ?_
  obtain ⟨he, h1, h2⟩ := Tm.tape' t1 t2 t3 t4 t5 hp
  exact ⟨he, hn _ _ _ _ _ _ h1 h2 fun k hk => hk⟩
set_option maxRecDepth 100000 in
theorem SP.fuse (h : SP w G p v M u D g gt f L s W) (n : Int) : Calls Try.prog 17 #[.pointer (some ⟨gt, 0, none⟩), .int .i64 n] W (fun e w' => e = .returned (.tuple #[]) ∧ SP w G p v M u D g gt f L (s.setFuse n) w' ∧ Chg (fun k => ¬ G k) W w') :=
  h.tape fun Q t => tpFuse_any gt s Q n W t
set_option maxRecDepth 100000 in
theorem SP.rise (h : SP w G p v M u D g gt f L s W) (hh : s.held ≤ s.b.length) : Calls Try.prog 23 #[.pointer (some ⟨gt, 0, none⟩)] W (fun e w' => e = .returned (.tuple #[]) ∧ SP w G p v M u D g gt f L s.rise w' ∧ Chg (fun k => ¬ G k) W w') :=
  h.tape fun Q t => tpRise_any gt s Q W t hh
set_option maxRecDepth 100000 in
theorem SP.fall (h : SP w G p v M u D g gt f L s W) (n : Int) (hok : s.Ok 300000000) : Calls Try.prog 20 #[.pointer (some ⟨gt, 0, none⟩), .int .i64 n] W (fun e w' => e = .returned (.tuple #[]) ∧ SP w G p v M u D g gt f L (s.fall n) w' ∧ Chg (fun k => ¬ G k) W w') :=
  h.tape fun Q t => tpFall_any gt s Q n W t hok.held (by have := hok.len; omega) (by have := hok.falls; omega)
set_option maxRecDepth 100000 in
theorem SP.down (h : SP w G p v M u D g gt f L s W) : Calls Try.prog 18 #[.pointer (some ⟨gt, 0, none⟩)] W (fun e w' => e = .returned (.bool s.down) ∧ W = w') := by
  obtain ⟨R, ⟨P, Q, _, t2, _⟩, _⟩ := h.ex
  exact tpDown_any gt s Q W t2
set_option maxRecDepth 100000 in
/-- a write of one part. -/
theorem SP.write (h : SP w G p v M u D g gt f L s W) (hok : s.Ok 300000000) {A : Option Addr} {n d : Nat} {B : List Int} (hA : RB W A n B) (hd : n ≤ d) (hn : n ≤ 1000) :
    Calls Try.prog 19 #[.pointer (some ⟨gt, 0, none⟩), .slice (some ⟨W.heap.size, 0, none⟩) 1 1] (W.alloc (.cells #[.slice A n d] 36)) (fun e w' => e = .returned (.int .i64 (s.write B).1) ∧ SP w G p v M u D g gt f L (s.write B).2 w' ∧ Chg (fun k => ¬ G k) W w') := by
  have hb := (Below.refl W.heap.size W).alloc (Nat.le_refl _) (.cells #[.slice A n d] 36)
  have hl := hA.len
  have hx : [B].flatten = B := by simp
  have h' := h.below hb
  have := h'.tape (x := .int .i64 (s.write B).1) (s' := (s.write B).2) (F := 19) (args := #[.pointer (some ⟨gt, 0, none⟩), .slice (some ⟨W.heap.size, 0, none⟩) 1 1]) fun Q t => by
    have := tpWrite_any gt s Q (some ⟨W.heap.size, 0, none⟩) 1 1 [B] _ t (hok.mono (by omega)) (RBs.oneNew hA hd) (Nat.le_refl _) (by omega) (by rw [hx]; omega)
    rwa [hx] at this
  exact this.mono fun e w' ⟨he, h1, h2⟩ => ⟨he, h1, (Chg.below (P := fun k => ¬ G k) hb).then h2 fun k hk => .inl hk⟩
set_option maxRecDepth 100000 in
theorem SP.comp (h : SP w G p v M u D g gt f L s W) (hok : s.Ok 300000000) (hL : L.length ≤ 3000) : Calls Try.prog 16 #[.pointer (some ⟨g, 0, none⟩)] W (fun e w' => e = .returned (.int .i64 (compR f L s).1) ∧ SP w G p v M u D g gt f L (compR f L s).2 w' ∧ Chg (fun k => ¬ G k) W w') := by
  obtain ⟨R, a, hn⟩ := h.turn
  exact (tcompact_any R g gt f L s W a hok hL).mono fun e w' ⟨he, h1, h2⟩ => ⟨he, hn _ _ _ _ _ _ h1 h2 fun k hk => hk⟩
set_option maxRecDepth 100000 in
theorem SP.add (h : SP w G p v M u D g gt f L s W) (hok : s.Ok 300000000) {A : Option Addr} {k c : Nat} {l : Prs} (hA : RPrs W A k l) (hk : L.length + l.length ≤ 3000) :
    Calls Try.prog 10 #[.pointer (some ⟨g, 0, none⟩), .slice A k c] W (fun e w' => e = .returned (.int .i64 (addR f L s l).1) ∧ SP w G p v M u D g gt f (addR f L s l).2.1 (addR f L s l).2.2 w' ∧ Chg (fun k => ¬ G k) W w') := by
  obtain ⟨R, a, hn⟩ := h.turn
  exact (tadd_any R g gt f L s A k c l W a hok hA hk).mono fun e w' ⟨he, h1, h2⟩ => ⟨he, hn _ _ _ _ _ _ h1 h2 fun k hk => hk⟩
set_option maxRecDepth 100000 in
theorem SP.open (h : SP w G p v M u D g gt f L s W) (hok : s.Ok 300000000) {ls : List Prs} {tail : List Int} (hd : s.down = false) (hf : s.fuse = 0) (hb : s.b = frL ls ++ tail) (hls : GoodL ls) (hl3 : ls.flatten.length ≤ 3000) (ht : (takeR tail).err ≠ 0) :
    Calls Try.prog 8 #[.pointer (some ⟨gt, 0, none⟩)] W (fun e w' => ∃ g', e = .returned (.tuple #[.pointer (some ⟨g', 0, none⟩), .int .i64 0]) ∧ SP w G p v M u D g' gt s.falls ls.flatten (s.opened (frL ls)) w' ∧ Chg (fun k => ¬ G k) W w') := by
  obtain ⟨R, a, hn⟩ := h.turn
  obtain ⟨P, Q, h1, h2, h3, h4, h5⟩ := id a
  refine (open_any gt s Q ls tail W h2 hok hd hf hb hls hl3 ht).mono fun e w' ⟨g', he, hz, ht, hc⟩ => ⟨g', he, hn _ _ _ _ _ _ ht (hc.mono fun k e => .inl (e ▸ h5)) fun k hk => ?_⟩
  rcases hk with hk | hk | hk
  · exact .inl (hk ▸ h5)
  · exact .inl (h4 k hk).1
  · exact .inr hk
set_option maxRecDepth 100000 in
theorem SP.fresh (h : SP w G p v M u D g gt f L s W) (hM : M = L) (hl : M.length ≤ 1000000) {A : Option Addr} {k c : Nat} {l : Prs} (hA : RPrs W A k l) (hk : k ≤ 1000000) :
    Calls Try.prog 15 #[.pointer (some ⟨p, 0, none⟩), .slice A k c] W (fun e w' => ∃ A' c', e = .returned (.tuple #[.slice A' (freshR M l).1.length c', .int .i64 (freshR M l).2]) ∧ OPrs w' W.heap.size (.slice A' (freshR M l).1.length c') (freshR M l).1.length (freshR M l).1 ∧ Below W.heap.size W w') := by
  obtain ⟨A2, c2, rfl, _⟩ := h.row.slice
  have hb := h.bij
  rw [← hM] at hb
  refine (mfresh_any p A2 M.length c2 M A k c l W (h.mod.cell 0) h.row.reads hl hA hk hb).mono fun e w' ⟨v', he, ho, hb⟩ => ?_
  obtain ⟨A', c', rfl, _⟩ := ho.slice
  exact ⟨A', c', he, ho, hb⟩
set_option maxRecDepth 100000 in
theorem SP.pairs (h : SP w G p v M u D g gt f L s W) (hl : L.length ≤ 1000000) : Calls Try.prog 13 #[.pointer (some ⟨g, 0, none⟩)] W (fun e w' => ∃ A c, e = .returned (.slice A L.length c) ∧ RPrs w' A L.length L ∧ Below W.heap.size W w') := by
  obtain ⟨R, ⟨P, Q, h1, _⟩, _⟩ := h.ex
  exact (tbPairs_any P g gt f L W h1 hl).mono fun e w' ⟨A, c, he, ho, hc, hb⟩ => ⟨A, c, he, ho.reads, hb⟩
set_option maxRecDepth 100000 in
theorem SP.tells (h : SP w G p v M u D g gt f L s W) (hM : M = L) (hl : L.length ≤ 1000000) {A : Option Addr} {c : Nat} (hv : v = .slice A M.length c) {x : IdL} (hx : IsId x) : Calls Try.prog 24 #[.pointer (some ⟨g, 0, none⟩), .slice A M.length c, ida x] W (BoolP true W) := by
  subst hM hv
  obtain ⟨R, ⟨P, Q, h1, _⟩, _⟩ := h.ex
  exact tells_any P g gt f A M.length c M x W h1 h.row.reads hl hx
set_option maxRecDepth 100000 in
/-- a table opened anew on a tape that was down, or is not. -/
theorem SP.reopen {G : Nat → Prop} {ls : List Prs} {o : Prs} {j : Nat} {s0 : Tp} (h : SP w G p v M u D g gt f L s W) (hO : Opn ls o s) (hc : Cn j ls o s0) (hf : s.falls ≤ j) (hj : j ≤ 100) (hoa : o ≠ [] → AllPr o) :
    Calls Try.prog 8 #[.pointer (some ⟨gt, 0, none⟩)] W (fun e w' => ∃ g' ls2 s3, e = .returned (.tuple #[.pointer (some ⟨g', 0, none⟩), .int .i64 0]) ∧ SP w G p v M u D g' gt s.falls ls2.flatten s3 w' ∧ Chg (fun k => ¬ G k) W w' ∧ Wt ls2 [] s.falls s3 ∧ Cn j ls2 [] s3 ∧ (ls2 = ls ∨ o ≠ [] ∧ ls2 = ls ++ [o]) ∧ s3.down = false) := by
  obtain ⟨ls2, tail, hb, ht, hty, htl, hd, hfu, hls, hg, hh, r0, r1⟩ := hO
  have hcn : Cn j ls2 [] (s.opened (frL ls2)) := Opn.cn hc hoa hls hf
  have h1 := hcn.n
  have h2 := hcn.l
  simp only [List.length_nil, frL_one0] at h1 h2
  have hlb := congrArg List.length hb
  rw [List.length_append] at hlb
  have hok : s.Ok 300000000 := ⟨by rw [hb]; exact (frL_byts hg.allPr).append hty, hh, r0, r1, by omega, by omega, by omega, by omega⟩
  exact (h.open hok hd hfu hb hg (by omega) ht).mono fun e w' ⟨g', he, h3, h4⟩ => ⟨g', ls2, _, he, h3, h4, Opn.open hb hd hg r0 r1, hcn, hls, hd⟩

/-! ### the rows -/
set_option maxRecDepth 100000 in
theorem SP.setm (h : SP w G p v M u D g gt f L s W) {v' : Value} {M' : Prs} (ho : OPrs W w.heap.size v' M'.length M') (hv : ∀ k, v'.ownBlock = some k → G k) (hG : ∀ k, G' k → G k ∧ v'.ownBlock ≠ some k) :
    W.cell? ⟨p, 0, none⟩ = some v ∧ W.frozen? ⟨p, 0, none⟩ = false ∧ SP w G' p v' M' u D g gt f L s (W.setCell ⟨p, 0, none⟩ v') := by
  obtain ⟨R, a, b⟩ := h.ex
  have c2 : Chg (fun k => k = p) W (W.setCell ⟨p, 0, none⟩ v') := Chg.grown (set_grownQ W p 0 v') (fun k e => by injection e with e; exact e.symm)
  have hz := c2.size
  have hzw := h.bel.size
  have hnu := h.lat.notBlk h.mod (by decide)
  refine ⟨h.mod.cell 0, h.mod.frozen 0, ⟨R, a.chg c2 (fun k hk e => (b k hk).2.2.1 e), fun k hk => ⟨(b k hk).1, by have := (b k hk).2.1; omega, (b k hk).2.2.1, fun e => (b k hk).2.2.2.2.2 (hv k e), (b k hk).2.2.2.2.1, fun e => (b k hk).2.2.2.2.2 (hG k e).1⟩⟩, c2.toBelow h.bel hzw (fun k e => by rw [e]; exact h.lp), h.mod.set_ 0 v', h.lp, c2.own ho (fun k e e' => (h.gk k (hv k e)).2.2.1 e'), c2.own h.lat (fun k e e' => hnu k e e'), fun k e e' => (h.gk k (hv k e')).2.2.2.2 e, fun k hk => ⟨(h.gk k (hG k hk).1).1, by have := (h.gk k (hG k hk).1).2.1; omega, (h.gk k (hG k hk).1).2.2.1, (hG k hk).2, (h.gk k (hG k hk).1).2.2.2.2⟩⟩
set_option maxRecDepth 100000 in
theorem SP.setl (h : SP w G p v M u D g gt f L s W) {u' : Value} {D' : Prs} (ho : OPrs W w.heap.size u' D'.length D') (hu : ∀ k, u'.ownBlock = some k → G k) (hG : ∀ k, G' k → G k ∧ u'.ownBlock ≠ some k) : SP w G' p v M u' D' g gt f L s W := by
  obtain ⟨R, a, b⟩ := h.ex
  exact ⟨⟨R, a, fun k hk => ⟨(b k hk).1, (b k hk).2.1, (b k hk).2.2.1, (b k hk).2.2.2.1, fun e => (b k hk).2.2.2.2.2 (hu k e), fun e => (b k hk).2.2.2.2.2 (hG k e).1⟩⟩, h.bel, h.mod, h.lp, h.row, ho, fun k e e' => (h.gk k (hu k e)).2.2.2.1 e', fun k hk => ⟨(h.gk k (hG k hk).1).1, (h.gk k (hG k hk).1).2.1, (h.gk k (hG k hk).1).2.2.1, (h.gk k (hG k hk).1).2.2.2.1, (hG k hk).2⟩⟩
set_option maxRecDepth 100000 in
theorem SP.noLate (h : SP w G p v M u D g gt f L s W) : SP w G p v M (.slice none 0 0) [] g gt f L s W := by
  obtain ⟨R, a, b⟩ := h.ex
  exact ⟨⟨R, a, fun k hk => ⟨(b k hk).1, (b k hk).2.1, (b k hk).2.2.1, (b k hk).2.2.2.1, by simp [Value.ownBlock], (b k hk).2.2.2.2.2⟩⟩, h.bel, h.mod, h.lp, h.row, OPrs.nil _ _, fun k e => by simp [Value.ownBlock] at e, fun k hk => ⟨(h.gk k hk).1, (h.gk k hk).2.1, (h.gk k hk).2.2.1, (h.gk k hk).2.2.2.1, by simp [Value.ownBlock]⟩⟩
set_option maxRecDepth 100000 in
/-- the late row is the model's. -/
theorem SP.take (h : SP w G p v M u D g gt f L s W) : W.cell? ⟨p, 0, none⟩ = some v ∧ W.frozen? ⟨p, 0, none⟩ = false ∧ SP w G p u D (.slice none 0 0) [] g gt f L s (W.setCell ⟨p, 0, none⟩ u) := by
  obtain ⟨R, a, b⟩ := h.ex
  have c2 : Chg (fun k => k = p) W (W.setCell ⟨p, 0, none⟩ u) := Chg.grown (set_grownQ W p 0 u) (fun k e => by injection e with e; exact e.symm)
  have hz := c2.size
  have hzw := h.bel.size
  have hnu := h.lat.notBlk h.mod (by decide)
  exact ⟨h.mod.cell 0, h.mod.frozen 0, ⟨R, a.chg c2 (fun k hk e => (b k hk).2.2.1 e), fun k hk => ⟨(b k hk).1, by have := (b k hk).2.1; omega, (b k hk).2.2.1, (b k hk).2.2.2.2.1, by simp [Value.ownBlock], (b k hk).2.2.2.2.2⟩⟩, c2.toBelow h.bel hzw (fun k e => by rw [e]; exact h.lp), h.mod.set_ 0 u, h.lp, c2.own h.lat (fun k e e' => hnu k e e'), OPrs.nil _ _, fun k e => by simp [Value.ownBlock] at e, fun k hk => ⟨(h.gk k hk).1, by have := (h.gk k hk).2.1; omega, (h.gk k hk).2.2.1, (h.gk k hk).2.2.2.2, by simp [Value.ownBlock]⟩⟩
end
set_option maxRecDepth 100000 in
/-- the two appends that make a row anew. -/
theorem SP.app2 {wb w8 w9 w10 : World} {G : Nat → Prop} {p g gt f p4 n c9 : Nat} {v u v10 : Value} {A9 : Option Addr} {M D L o : Prs} {s : Tp} {cs : Array Value} (h : SP wb G p v M u D g gt f L s w8) (hP : Blk w8 p4 53 cs) (hG : G p4)
    (ho9 : OPrs w9 w8.heap.size (.slice A9 M.length c9) M.length M) (hg9 : w8.grownBy w9 none) (ho10 : OPrs w10 w8.heap.size v10 n (M ++ o)) (hg10 : w9.grownBy w10 (Value.slice A9 M.length c9).ownBlock) (hat : v10.ownBlock = (Value.slice A9 M.length c9).ownBlock ∨ v10.ownBlock = some w9.heap.size) :
    SP wb (fun k => k = p4 ∨ v10.ownBlock = some k) p v M u D g gt f L s w10 ∧ (∀ k, v10.ownBlock = some k → k ≠ p4) ∧ Blk w10 p4 53 cs ∧ OPrs w10 wb.heap.size v10 (M ++ o).length (M ++ o) ∧ (∀ k, v10.ownBlock = some k → w8.heap.size ≤ k) := by
  have c9' : Chg (fun _ => False) w8 w9 := Chg.grown hg9 (fun k e => by cases e)
  have c10 : Chg (fun k => (Value.slice A9 M.length c9).ownBlock = some k) w9 w10 := Chg.grown hg10 (fun k e => e)
  have z9 := c9'.size
  have z10 := c10.size
  have o9 := ho9.own
  have o10 := ho10.own
  have S9 := h.chg (G' := fun k => k = p4 ∨ (Value.slice A9 M.length c9).ownBlock = some k) c9' (fun _ e => e.elim) (fun k hk => by
    rcases hk with hk | hk
    · have := (h.gk p4 hG).2.1
      exact ⟨by omega, .inl (hk ▸ hG)⟩
    · exact ⟨(o9 k hk).2, .inr (o9 k hk).1⟩)
  have hP9 := c9'.blk hP (fun e => e)
  have hn9 := ho9.notBlk hP9 (by decide)
  have S10 := S9.chg (G' := fun k => k = p4 ∨ v10.ownBlock = some k) c10 (fun k e => .inr e) (fun k hk => by
    rcases hk with hk | hk
    · have := (S9.gk p4 (.inl rfl)).2.1
      exact ⟨by omega, .inl (.inl hk)⟩
    · refine ⟨(o10 k hk).2, ?_⟩
      rcases hat with h1 | h1
      · exact .inl (.inr (by rw [← h1]; exact hk))
      · rw [h1] at hk
        injection hk with hk
        exact .inr (by omega))
  have hP10 := c10.blk hP9 (fun e => hn9 p4 e rfl)
  have hzb := h.bel.size
  have hl := ho10.2.2
  subst hl
  exact ⟨S10, ho10.notBlk hP10 (by decide), hP10, ho10.lower hzb, fun k e => (o10 k e).1⟩
/-- the state at a round's head. -/
def PlayAt (wb : World) (p gt j g : Nat) (u : Value) (dn : Bool) (W : World) : Prop :=
  ∃ (f : Nat) (v : Value) (ls : List Prs) (o : Prs) (s : Tp), SP wb (fun _ => False) p v ls.flatten u (lateL ls.flatten o) g gt f ls.flatten s W ∧ (o = [] → u = .slice none 0 0) ∧ Wt ls o f s ∧ Cn j ls o s ∧ s.down = dn
/-- the state behind the switch. -/
def SwAt (wb : World) (p gt j g p4 : Nat) (dn re : Bool) (u : Value) (W : World) : Prop :=
  ∃ (f : Nat) (v : Value) (ls : List Prs) (o : Prs) (s : Tp) (q : Int), SP wb (fun k => k = p4) p v ls.flatten u (lateL ls.flatten o) g gt f ls.flatten s W ∧ (o = [] → u = .slice none 0 0) ∧ W.cell? ⟨p4, 0, none⟩ = some (.int .i64 q) ∧ (dn = true → s.down = true) ∧ Cn (j + 1) ls o s ∧ (o ≠ [] → AllPr o) ∧
    (re = true ∧ (q = 2 ∨ q = 3) ∧ Opn ls o (s.setFuse 0).rise ∧ s.held ≤ s.b.length ∨ re = false ∧ q ≠ 2 ∧ q ≠ 3 ∧ Wt ls o f s)
set_option maxRecDepth 100000 in
theorem OwnQ.lt {w : World} {g n : Nat} {L : List IdL} {f : IdL} (h : OwnQ w g n L f) (hf : IsPr f) : g < w.heap.size := by
  have h1 := h.2 0 (by omega)
  have hl : 0 < (bv f).length := by rw [bv_length, hf.1]; omega
  have := h1 0 ((bv f)[0]) (by simp)
  exact World.block_lt_of_cell? _ _ this
set_option maxRecDepth 100000 in
theorem OwnQ.chg {w w' : World} {P : Nat → Prop} {g n : Nat} {L : List IdL} {f : IdL} (h : OwnQ w g n L f) (hc : Chg P w w') (hg : ¬ P g) : OwnQ w' g n L f :=
  ⟨hc.prs h.1 (fun ad e => by cases e; exact hg), fun k hk i v hv => hc.cell (h.2 k hk i v hv) hg⟩
end
end Go.Proofs.Ytokamaogognjoaa
