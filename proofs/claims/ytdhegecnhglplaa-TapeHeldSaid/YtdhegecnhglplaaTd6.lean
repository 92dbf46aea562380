/-
  TapeDeeds, the walk.
-/
import Derived.Test.YtdhegecnhglplaaTd5
set_option linter.unusedVariables false
set_option linter.unusedSimpArgs false
namespace Go.Proofs.Ytdhegecnhglplaa
open Go.RowKit

/-- a slice of deeds, read. -/
def RDs (w : World) (A : Option Addr) (k : Nat) (ds : List DeedL) : Prop :=
  ds.length = k ∧ ∃ b off, (0 < k → A = some ⟨b, off, none⟩) ∧ ∀ (i : Nat) (d : DeedL), ds[i]? = some d → d.n ≤ 9223372036854775807 ∧ Byts d.parts.flatten ∧ ∃ Ai ki ci, w.cell? ⟨b, off + i * 3, none⟩ = some (.int .i64 d.what) ∧ w.cell? ⟨b, off + i * 3 + 1, none⟩ = some (.int .i64 d.n) ∧ w.cell? ⟨b, off + i * 3 + 2, none⟩ = some (.slice Ai ki ci) ∧ ki ≤ ci ∧ ci ≤ 9223372036854775807 ∧ RBs w Ai ki d.parts
theorem RDs.below {w w' : World} {A : Option Addr} {k : Nat} {ds : List DeedL} (h : RDs w A k ds) (hb : Below w.heap.size w w') : RDs w' A k ds := by
  obtain ⟨h1, b, off, h2, h3⟩ := h
  refine ⟨h1, b, off, h2, fun i d hd => ?_⟩
  obtain ⟨hn, hby, Ai, ki, ci, c0, c1, c2, hk, hc, hr⟩ := h3 i d hd
  exact ⟨hn, hby, Ai, ki, ci, cell_later hb c0, cell_later hb c1, cell_later hb c2, hk, hc, hr.below hb⟩
theorem ok_new0 (r : Int) : (Tp.new.setRoom r).Ok 0 := ⟨Byts.nil, Nat.le_refl _, by simp [Tp.setRoom]; omega, by simp [Tp.setRoom]; omega, Int.le_refl _, by simp [Tp.setRoom, Tp.new], Nat.le_refl _, Nat.le_refl _⟩
set_option maxRecDepth 100000 in
set_option maxHeartbeats 4000000 in
theorem tapeDeeds_walk (r : Int) (A : Option Addr) (k c : Nat) (ds : List DeedL) (w : World) (hr0 : (Lit.int .i64 r).wf = true) (h : RDs w A k ds) (hkc : k ≤ c) (hk : c ≤ 9223372036854775807) :
    Calls Try.prog 6 #[.int .i64 r, .slice A k c] w (fun e w' => e = .returned (.bool true) ∧ Below w.heap.size w w') := by
  have hlen := h.1
  have kn1 := tpNew_any r w
  have kn2 := fun W => rtNew_any r W
  unfold NewTp at kn1
  unfold NewRt at kn2
  clear hr0
  go_enter Try.func6, Try.ntmps6
  go_wp2_with (first
    | (go_at_call 8; (with_reducible refine kn1.mono ?_); rintro e w1 ⟨g, rfl, hg0, h1, hB1⟩)
    | (go_at_call 20; (with_reducible refine (kn2 _).mono ?_); rintro e w2 ⟨g', rfl, hg0', h2', hb2⟩; have hB2 : Below w.heap.size w w2 := below_two hB1 hb2; have h2 := h1.below hb2)
    | (go_at_call 9; (with_reducible refine (awake04_any _).mono ?_); rintro e w3 ⟨rfl, hb3⟩; have h3 := h2.below hb3; have h3' := h2'.below hb3; have hB3 : Below w.heap.size w w3 := below_two hB2 hb3))
  have hz1 := hB1.size
  have hgw' : w.heap.size ≤ g' := by omega
  have hst : Both w3 g g' (Tp.new.setRoom r) := ⟨⟨_, h3⟩, _, h3'⟩
  have hok0 := ok_new0 r
  generalize Tp.new.setRoom r = s0 at *
  clear h1 h2 h3 h2' h3' kn1 kn2 hB1 hB2 hb2 hb3
  go_loopw [7] (fun i wr => ∃ (j : Nat) (s : Tp), j ≤ k ∧ j ≤ 70 ∧ i = .int .i64 j ∧ Both wr g g' s ∧ s.Ok (1601 * j) ∧ Below w.heap.size w wr) (fun i _ => 71 - (intOf i).toNat)
  case atStart => exact ⟨0, s0, by omega, by omega, rfl, hst, hok0, hB3⟩
  case round =>
    obtain ⟨j, s, hj, hj70, rfl, hbo, hok, hB⟩ := hrel
    by_cases h1 : j < k ∧ j < 70
    · obtain ⟨h1, h2⟩ := h1
      have i2 : (j : Int) < 70 := by omega
      have hrd := (h.below hB)
      obtain ⟨_, b, off, hA, hcells⟩ := hrd
      obtain rfl := hA (by omega)
      have hdj : ds[j]? = some ds[j] := List.getElem?_eq_getElem (by omega)
      generalize ds[j] = d at hdj
      obtain ⟨hdn, hdb, Ai, ki, ci, c0, c1, c2, hki, hci, hrb⟩ := hcells j d hdj
      have kd := do_all w.heap.size g g' s d Ai ki ci wr hbo (hok.mono (by omega)) hrb hki (by omega) hB.size hg0 hgw'
      have hok2 := hok.doIt d hdb hdn
      unfold DoPost at kd
      generalize s.doIt d = s2 at *
      clear hcells hdj hbo hok
      go_wp2_with (first
        | (go_at_call 23; (with_reducible refine kd.mono ?_); rintro e w4 ⟨rfl, ⟨⟨P4, hT4⟩, Q4, hR4⟩, hb4⟩; have hB4 : Below w.heap.size w w4 := hB.trans hb4; have hT4 := hT4.toOld; have hR4 := hR4.toOld; have kb := tpBytes_any g s2 _ w4 hT4 (Nat.le_trans hok2.len (by omega)))
        | (go_at_call 12; (with_reducible refine kb.mono ?_); rintro e w5 ⟨V5, C5, rfl, ho5, hc5, hb5⟩))
      have hT5 := hT4.below hb5
      have hR5 := hR4.below hb5
      have hB5 : Below w.heap.size w w5 := below_two hB4 hb5
      have kh := fun q => tpHeld_any g s2 _ (w5.drewN q) (hT5.below (drewN_below w5 q))
      have kdn := fun q => tpDown_any g s2 _ (w5.drewN q) (hT5.below (drewN_below w5 q))
      obtain ⟨A', n', c', g1, g2, g3, g4⟩ := hR5
      have x0 := g1.c0
      have x1 := g1.c1
      have x4 := g1.c4
      have kby := fun q => bytes_any V5 A' s2.b.length n' C5 c' s2.b s2.b (w5.drewN q) (ho5.reads.drewN q) (g2.drewN q)
      have e1 : decide (s2.b = s2.b) = true := decide_eq_true rfl
      rw [e1] at kby
      have e2 : ((s2.held : Int) != s2.held) = false := by simp
      have e3 : (s2.down != s2.down) = false := by simp
      clear e1
      go_quiet (first | exact quiet_left (kby _) | exact quiet_add_left (kby _) | exact quiet_left (kh _) | exact quiet_add_left (kh _) | exact quiet_left (kdn _) | exact quiet_add_left (kdn _))
      have hS := fun q => spoil_any V5 _ C5 _ _ (w5.drewN q) (ho5.drewN q) (Nat.le_trans hok2.len (by omega))
      go_wp2_with (go_at_call 26; (with_reducible refine (hS _).mono ?_); rintro e w6 ⟨rfl, ⟨zs6, ho6⟩, hg6⟩)
      have hz5 := hb5.size
      have hz4 := hB4.size
      have hown : ∀ kk, (Value.slice V5 s2.b.length C5).ownBlock = some kk → w4.heap.size ≤ kk := fun kk hk => (ho5.own kk hk).1
      have hT6 : TpAt w6 (fun k => k < w4.heap.size) g s2 := (hT5.below (drewN_below w5 _)).grown hg6 (fun e => by have := hown g e.symm; have := hT4.lt; omega) (fun kk hk hP => by have := hown kk hk; omega)
      have hR6 : RtAt w6 (fun k => k < w4.heap.size) g' s2 := ((RtAt.below ⟨A', n', c', g1, g2, g3, g4⟩ (drewN_below w5 _))).grown hg6 (fun e => by have := hown g' e.symm; have := hR4.lt; omega) (fun kk hk hP => by have := hown kk hk; omega)
      have hB6 : Below w.heap.size w w6 := (below_drewN hB5 _).grown hg6 (by simp; omega) (fun kk hk => by have := hown kk hk; omega)
      go_roundw
      case rel => exact ⟨j + 1, s2, by omega, by omega, by go_num, ⟨⟨_, hT6⟩, _, hR6⟩, hok2, hB6⟩
      case measure => simp [intOf]; omega
    · by_cases h2 : j < k
      · obtain rfl : j = 70 := by omega
        have i2 : (70 : Int) < k := by omega
        clear h1
        obtain ⟨⟨P, hT⟩, Q, hR⟩ := hbo
        obtain ⟨A', n', c', g1, g2, g3, g4⟩ := hR
        have x0 := g1.c0
        have kb := tpBytes_any g s _ wr.drew (hT.below (drewN_below wr 1)) (Nat.le_trans hok.len (by omega))
        have g2' : RB wr.drew A' n' s.b := g2.drewN 1
        have x0' : wr.drew.cell? ⟨g', 0, none⟩ = some (.slice A' n' c') := x0
        have hB' : Below w.heap.size w wr.drew := below_drewN hB 1
        clear hok
        go_wp2
        go_region_with (first
          | (go_at_call 12; (with_reducible refine kb.mono ?_); rintro e w5 ⟨V5, C5, rfl, ho5, hc5, hb5⟩; have x05 := cell_later hb5 x0'; have kby := bytes_any V5 A' _ n' C5 c' s.b s.b w5 ho5.reads (g2'.below hb5))
          | (go_at_call 25; (with_reducible refine kby.mono ?_); rintro e w9 ⟨rfl, rfl⟩))
        all_goals
          go_wp2
          (try simp only [Exit.inBlock, Exit.then])
          refine bodyPost_ret (v := .bool true) ?_ rfl ?_
          · simp [results, Try.results6, go_sem]
          exact ⟨rfl, below_two hB' hb5⟩
      · have i2 : ¬ ((j : Int) < k) := by omega
        clear h1
        obtain ⟨⟨P, hT⟩, Q, hR⟩ := hbo
        obtain ⟨A', n', c', g1, g2, g3, g4⟩ := hR
        have x0 := g1.c0
        have kb := tpBytes_any g s _ wr.drew (hT.below (drewN_below wr 1)) (Nat.le_trans hok.len (by omega))
        have g2' : RB wr.drew A' n' s.b := g2.drewN 1
        have x0' : wr.drew.cell? ⟨g', 0, none⟩ = some (.slice A' n' c') := x0
        have hB' : Below w.heap.size w wr.drew := below_drewN hB 1
        clear hok
        go_wp2
        go_region_with (first
          | (go_at_call 12; (with_reducible refine kb.mono ?_); rintro e w5 ⟨V5, C5, rfl, ho5, hc5, hb5⟩; have x05 := cell_later hb5 x0'; have kby := bytes_any V5 A' _ n' C5 c' s.b s.b w5 ho5.reads (g2'.below hb5))
          | (go_at_call 25; (with_reducible refine kby.mono ?_); rintro e w9 ⟨rfl, rfl⟩))
        all_goals
          go_wp2
          (try simp only [Exit.inBlock, Exit.then])
          refine bodyPost_ret (v := .bool true) ?_ rfl ?_
          · simp [results, Try.results6, go_sem]
          exact ⟨rfl, below_two hB' hb5⟩
end Go.Proofs.Ytdhegecnhglplaa
