/-
  What a deed makes of a tape, on states; the deed's contract for every deed.
-/
import Derived.Test.YtdhegecnhglplaaTd3
import Derived.Test.YtdhegecnhglplaaTd4
set_option linter.unusedVariables false
set_option linter.unusedSimpArgs false
namespace Go.Proofs.Ytdhegecnhglplaa
open Go.RowKit

section
variable {s : Tp} {N : Nat}
theorem Tp.Ok.mono {M : Nat} (h : s.Ok N) (hm : N ≤ M) : s.Ok M := ⟨h.byts, h.held, h.room0, h.room1, h.fuse0, h.fuse1, Nat.le_trans h.len hm, Nat.le_trans h.falls hm⟩
theorem Tp.Ok.burn (h : s.Ok N) : s.burn.Ok N := ⟨h.byts, h.held, h.room0, h.room1, by unfold Tp.burn; simp; omega, by have := h.fuse1; unfold Tp.burn; simp; omega, h.len, h.falls⟩
theorem Tp.Ok.fuse0' (h : s.Ok N) : ({ s with fuse := 0 } : Tp).Ok N := ⟨h.byts, h.held, h.room0, h.room1, Int.le_refl _, by simp, h.len, h.falls⟩
theorem Tp.Ok.sink (h : s.Ok N) : s.sink.Ok (N + 1) := ⟨h.byts, h.held, h.room0, h.room1, h.fuse0, h.fuse1, Nat.le_succ_of_le h.len, by have := h.falls; unfold Tp.sink; simp only []; split <;> omega⟩
theorem Tp.Ok.wr {x : List Int} (h : s.Ok N) (hx : Byts x) : (s.wr x).Ok (N + x.length) := ⟨h.byts.append hx, by have := h.held; unfold Tp.wr; simp; omega, h.room0, h.room1, h.fuse0, h.fuse1, by have := h.len; unfold Tp.wr; simp; omega, Nat.le_trans h.falls (by omega)⟩
theorem Tp.Ok.hd (h : s.Ok N) : s.hd.Ok N := ⟨h.byts, Nat.le_refl _, h.room0, h.room1, h.fuse0, h.fuse1, h.len, h.falls⟩
theorem Tp.Ok.sw {x : List Int} (h : s.Ok N) (hx : Byts x) : (s.sw x).Ok (N + x.length) := ⟨hx, Nat.le_refl _, h.room0, h.room1, h.fuse0, h.fuse1, by unfold Tp.sw; simp, Nat.le_trans h.falls (by omega)⟩
theorem Tp.Ok.cutTo {k : Nat} (h : s.Ok N) (hk : k ≤ s.b.length) : (s.cutTo k).Ok N := ⟨h.byts.take k, by unfold Tp.cutTo; simp; omega, h.room0, h.room1, h.fuse0, h.fuse1, by have := h.len; unfold Tp.cutTo; simp; omega, h.falls⟩
theorem Tp.Ok.deed {M : Nat} {r : Int} {pass leave : Tp → Tp} (h : s.Ok N) (hNM : N + 1 ≤ M + 1) (hp : s.down = false → r = 0 → (pass s.burn).Ok M) (hl : (leave { s with fuse := 0 }).Ok M) : (s.deed r pass leave).2.Ok (M + 1) := by
  unfold Tp.deed
  by_cases h1 : s.down = true
  · rw [if_pos h1]; exact h.mono (by omega)
  · rw [if_neg h1]
    by_cases h2 : r ≠ 0
    · rw [if_pos h2]; exact h.mono (by omega)
    · rw [if_neg h2]
      by_cases h3 : s.fuse = 1
      · rw [if_pos h3]; exact hl.sink
      · rw [if_neg h3]; exact (hp (by simpa using h1) (by simpa using h2)).mono (by omega)
theorem Tp.Ok.write {x : List Int} (h : s.Ok N) (hx : Byts x) (hl : x.length ≤ 1600) : (s.write x).2.Ok (N + 1601) := by
  unfold Tp.write
  exact (h.deed (M := N + 1600) (by omega) (fun _ _ => (h.burn.wr hx).mono (by omega)) ((h.fuse0'.wr hx).mono (by omega)))
theorem Tp.Ok.hold' (h : s.Ok N) : s.hold.2.Ok (N + 1601) := by
  unfold Tp.hold
  exact (h.deed (M := N) (by omega) (fun _ _ => h.burn.hd) h.fuse0').mono (by omega)
theorem Tp.Ok.cut' {k : Int} (h : s.Ok N) : (s.cut k).2.Ok (N + 1601) := by
  unfold Tp.cut
  refine (h.deed (M := N) (by omega) (fun _ hr => h.burn.cutTo ?_) h.fuse0').mono (by omega)
  show k.toNat ≤ s.b.length
  by_cases hc : k < 0 ∨ (s.b.length : Int) < k
  · rw [if_pos hc] at hr; omega
  · omega
theorem Tp.Ok.swap' {x : List Int} (h : s.Ok N) (hx : Byts x) (hl : x.length ≤ 1600) : (s.swap x).2.Ok (N + 1601) := by
  unfold Tp.swap
  exact (h.deed (M := N + 1600) (by omega) (fun _ _ => (h.burn.sw hx).mono (by omega)) (h.fuse0'.mono (by omega)))
theorem Tp.Ok.room' {k : Int} (h : s.Ok N) : (s.setRoom k).Ok (N + 1601) := ⟨h.byts, h.held, by unfold Tp.setRoom; simp; omega, by unfold Tp.setRoom; simp; omega, h.fuse0, h.fuse1, Nat.le_trans h.len (by omega), Nat.le_trans h.falls (by omega)⟩
theorem Tp.Ok.fuse' {k : Int} (h : s.Ok N) (hk : k ≤ 9223372036854775807) : (s.setFuse k).Ok (N + 1601) := ⟨h.byts, h.held, h.room0, h.room1, by unfold Tp.setFuse; simp; omega, by unfold Tp.setFuse; simp; omega, Nat.le_trans h.len (by omega), Nat.le_trans h.falls (by omega)⟩
theorem Tp.Ok.fall' {k : Int} (h : s.Ok N) : (s.fall k).Ok (N + 1601) := by
  rw [Tp.fall_eq]
  exact (h.sink.cutTo (Tp.stay_le h.held)).mono (by omega)
theorem Tp.Ok.rise' (h : s.Ok N) : s.rise.Ok (N + 1601) := by
  unfold Tp.rise
  split
  · have := h.cutTo h.held
    exact ⟨this.byts, this.held, this.room0, this.room1, this.fuse0, this.fuse1, Nat.le_trans this.len (by omega), Nat.le_trans this.falls (by omega)⟩
  · exact h.mono (by omega)
end
/-- a deed. -/
structure DeedL where
  what : Int
  n : Int
  parts : List (List Int)
def Tp.doIt (s : Tp) (d : DeedL) : Tp :=
  if jok d.parts = false then s
  else if d.what = 0 then (s.write d.parts.flatten).2
  else if d.what = 1 then s.hold.2
  else if d.what = 2 then (s.cut d.n).2
  else if d.what = 3 then (s.swap d.parts.flatten).2
  else if d.what = 4 then s.setRoom d.n
  else if d.what = 5 then s.setFuse d.n
  else if d.what = 6 then s.fall d.n
  else if d.what = 7 then s.rise
  else s
theorem Tp.Ok.doIt {s : Tp} {N : Nat} (h : s.Ok N) (d : DeedL) (hb : Byts d.parts.flatten) (hn : d.n ≤ 9223372036854775807) : (s.doIt d).Ok (N + 1601) := by
  unfold Tp.doIt
  by_cases hj : jok d.parts = false
  · rw [if_pos hj]; exact h.mono (by omega)
  · rw [if_neg hj]
    have hl := (jok_len (by simpa using hj)).2
    repeat' split
    · exact h.write hb hl
    · exact h.hold'
    · exact h.cut'
    · exact h.swap' hb hl
    · exact h.room'
    · exact h.fuse' hn
    · exact h.fall'
    · exact h.rise'
    · exact h.mono (by omega)
theorem do_all (B g g' : Nat) (s : Tp) (d : DeedL) (A : Option Addr) (k c : Nat) (w : World) (h : Both w g g' s) (hok : s.Ok 400000000) (hps : RBs w A k d.parts) (hkc : k ≤ c) (hk : k ≤ 9223372036854775807) (hB : B ≤ w.heap.size) (hg : B ≤ g) (hg' : B ≤ g') :
    Calls Try.prog 23 #[.pointer (some ⟨g, 0, none⟩), .pointer (some ⟨g', 0, none⟩), .agg #[.int .i64 d.what, .int .i64 d.n, .slice A k c]] w (DoPost B g g' (s.doIt d) w) := by
  obtain ⟨what, n, ps⟩ := d
  unfold Tp.doIt
  simp only [] at hps ⊢
  by_cases hj : jok ps = false
  · rw [if_pos hj]; exact do_bad B g g' s what n A k c ps w h hps hkc hk hB hj
  · rw [if_neg hj]
    have hj : jok ps = true := by simpa using hj
    by_cases h0 : what = 0
    · rw [if_pos h0]; subst h0; exact do_write B g g' s n A k c ps w h hok hps hkc hk hB hg hg' hj
    rw [if_neg h0]
    by_cases h1 : what = 1
    · rw [if_pos h1]; subst h1; exact do_hold B g g' s n A k c ps w h hok hps hkc hk hB hg hg' hj
    rw [if_neg h1]
    by_cases h2 : what = 2
    · rw [if_pos h2]; subst h2; exact do_cut B g g' s n A k c ps w h hok hps hkc hk hB hg hg' hj
    rw [if_neg h2]
    by_cases h3 : what = 3
    · rw [if_pos h3]; subst h3; exact do_swap B g g' s n A k c ps w h hok hps hkc hk hB hg hg' hj
    rw [if_neg h3]
    by_cases h4 : what = 4
    · rw [if_pos h4]; subst h4; exact do_room B g g' s n A k c ps w h hok hps hkc hk hB hg hg' hj
    rw [if_neg h4]
    by_cases h5 : what = 5
    · rw [if_pos h5]; subst h5; exact do_fuse B g g' s n A k c ps w h hok hps hkc hk hB hg hg' hj
    rw [if_neg h5]
    by_cases h6 : what = 6
    · rw [if_pos h6]; subst h6; exact do_fall B g g' s n A k c ps w h hok hps hkc hk hB hg hg' hj
    rw [if_neg h6]
    by_cases h7 : what = 7
    · rw [if_pos h7]; subst h7; exact do_rise B g g' s n A k c ps w h hok hps hkc hk hB hg hg' hj
    rw [if_neg h7]
    exact do_other B g g' s what n A k c ps w h hps hkc hk hB hj (fun q q0 q1 => by simp; omega)
end Go.Proofs.Ytdhegecnhglplaa
