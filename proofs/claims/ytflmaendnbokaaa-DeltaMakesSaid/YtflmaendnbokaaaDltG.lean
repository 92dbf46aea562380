/-
  Slices of edits out of data; DeltaMakes' walk.
-/
import Derived.Test.YtflmaendnbokaaaDltE
import Derived.ChangeSlices
set_option linter.unusedVariables false
set_option linter.unusedSimpArgs false
namespace Go.Proofs.Ytflmaendnbokaaa
open Go.RowKit Go.ChangeShapes Go.WideShapes

theorem parseF_len (k : Nat) (acc : List Ed) (b : List Int) (hB : Byts b) : (parseF k acc b).1.length ≤ acc.length + b.length := by
  induction k generalizing acc b with
  | zero => simp [parseF]
  | succ k ih =>
    by_cases hb : b = []
    · subst hb
      rw [parseF_nil]
      simp
    · by_cases he : stepE b = 0
      · rw [parseF_ok k acc b hb he]
        have hl := stepR_length hB he
        have := ih (acc ++ [stepX b]) (stepR b) ((hB.drop 12).drop _)
        rw [List.length_append, List.length_singleton] at this
        omega
      · simp [parseF, hb, he]
theorem weightsAll_mem {H : Type} {P : Program} {e : TypeId} {n : Nat} : ∀ {l : List (DataW H)} {d : DataW H}, d ∈ l → n ∈ d.weights P e → n ∈ DataW.weightsAll P e l
  | [], d, h, _ => by simp at h
  | x :: l, d, h, hn => by
    unfold DataW.weightsAll
    rcases List.mem_cons.1 h with rfl | h
    · exact List.mem_append.2 (.inl hn)
    · exact List.mem_append.2 (.inr (weightsAll_mem h hn))
section
variable {H : Type} {enc : TypeId × Value → H} {w : World} {base fuel : Nat} {held : Bool} {cs : List Value} {x : DataW H × List MemPlace}
theorem open_edits (h : DataW.trod enc Try.prog w base (fun _ => true) held fuel 24 cs = some x) (hw : ∀ n ∈ x.1.weights Try.prog 24, n ≤ reachBytes) :
    ∃ A k c l, cs = [.slice A k c] ∧ REs w (fun _ => True) A k l ∧ k ≤ c ∧ c ≤ maxLen ∧ ∀ i, i < k → (ed l i).b.length ≤ 140737488355328 := by
  have hcell : Try.prog.cellsOf 28 = 3 := by kernel_rfl
  rcases Go.Deep.open_slice Try.underlying24 h with ⟨rfl, _⟩ | ⟨a, len, cap, m, n, D, Pl, rfl, _, hl, hm, hmm, hx, hel⟩
  · exact ⟨none, 0, 0, [], rfl, ⟨rfl, fun h => absurd h (by omega)⟩, Nat.le_refl _, by simp [maxLen], fun i hi => absurd hi (by omega)⟩
  · simp only [if_true] at hmm
    subst hmm
    rw [hcell] at hel
    have hwD : ∀ i, i < len → ∀ n ∈ (D i).weights Try.prog 28, n ≤ reachBytes := fun i hi n hn => by
      refine hw n ?_
      rw [hx]
      unfold DataW.weights
      rw [Try.underlying24]
      refine List.mem_cons_of_mem _ (List.mem_append.2 (.inl (weightsAll_mem (d := D i) (List.mem_map.2 ⟨i, by simpa using hi, rfl⟩) hn)))
    have each : ∀ i, i < len → ∃ d : Ed, d.b.length ≤ 140737488355328 ∧ ∃ B c, w.cell? (a.add (i * 3)) = some (.int .i64 d.f) ∧ w.cell? (a.add (i * 3 + 1)) = some (.int .i64 d.t) ∧ w.cell? (a.add (i * 3 + 2)) = some (.slice B d.b.length c) ∧ d.b.length ≤ c ∧ RB w B d.b.length d.b := by
      intro i hi
      obtain ⟨cs', h1, h2⟩ := hel i (by omega)
      obtain ⟨_, hlen, hce⟩ := World.cells?_some h1
      obtain ⟨y0, y1, y2, k, hD, _, g0, g1, g2⟩ := Go.Deep.trod_struct3 Try.underlying28 h2
      match cs', hlen with
      | [v0, v1, v2], _ =>
        rw [show Try.prog.cellsOf 3 = 1 from by kernel_rfl] at g0 g1
        rw [show Try.prog.cellsOf 22 = 1 from by kernel_rfl] at g2
        simp only [List.drop_zero, List.take_succ_cons, List.take_zero, List.drop_succ_cons] at g0 g1 g2
        obtain ⟨z0, q0, _, w0⟩ := DataW.trod_int Try.underlying3 g0
        obtain ⟨z1, q1, _, w1⟩ := DataW.trod_int Try.underlying3 g1
        have e0 := hce 0 (by omega)
        have e1 := hce 1 (by omega)
        have e2 := hce 2 (by omega)
        rw [add_of_add] at e0 e1 e2
        simp only [List.cons.injEq, and_true] at q0 q1
        subst q0 q1
        have hw2 : ∀ n ∈ y2.1.weights Try.prog 22, n ≤ reachBytes := fun n hn => by
          refine hwD i hi n ?_
          have hDi : D i = .agg [y0.1, y1.1, y2.1] := by injection hD
          rw [hDi]
          unfold DataW.weights
          rw [Try.underlying28]
          simp only [List.map_cons, List.map_nil, DataW.weightsEach, List.mem_append]
          exact .inr (.inr (.inl hn))
        rcases open_ints Try.underlying22 Try.underlying5 (by kernel_rfl) g2 with ⟨hcs, _⟩ | ⟨x, l, c, zs, hcs, _, hl, hm, hz, hxx, hcell, hwz⟩
        · simp at hcs
          subst hcs
          exact ⟨⟨z0, z1, []⟩, by simp, none, 0, by simpa using e0, by simpa using e1, by simpa using e2, Nat.le_refl _, RB.nil _ _⟩
        · simp at hcs
          subst hcs
          obtain ⟨r1, r2⟩ := RB.of_row (w := w) (a := some x) (len := l) (cap := c) (zs := zs) (.inr ⟨_, rfl, hl, hm, by simpa using hz, hcell, hwz⟩)
          have hlz := r1.len
          refine ⟨⟨z0, z1, zs.take l⟩, ?_, some x, c, by simpa using e0, by simpa using e1, by rw [hlz]; simpa using e2, by rw [hlz]; exact r2, by rw [hlz]; exact r1⟩
          have := hw2 ((lits .u8 (zs.take l) : List (DataW H)).length + (lits .u8 (zs.drop l) : List (DataW H)).length) (by
            rw [hxx]
            unfold DataW.weights
            rw [Try.underlying22]
            have hb : Try.prog.bytesOf 5 = 1 := by kernel_rfl
            simp only [hb, Nat.mul_one]
            exact List.mem_cons_self)
          unfold reachBytes lits at this
          simp only [List.length_map] at this
          show (zs.take l).length ≤ _
          omega
    have each' : ∃ f : Nat → Ed, ∀ i, i < len → _ := Go.Deep.choose_lt (p := fun i d => d.b.length ≤ 140737488355328 ∧ ∃ B c, w.cell? (a.add (i * 3)) = some (.int .i64 d.f) ∧ w.cell? (a.add (i * 3 + 1)) = some (.int .i64 d.t) ∧ w.cell? (a.add (i * 3 + 2)) = some (.slice B d.b.length c) ∧ d.b.length ≤ c ∧ RB w B d.b.length d.b) each
    obtain ⟨f, hf⟩ := each'
    refine ⟨some a, len, m, (List.range len).map f, rfl, ⟨by simp, fun h0 => ⟨a, rfl, trivial, fun i hi x hx => ?_⟩⟩, hl, hm, fun i hi => ?_⟩
    · simp [hi] at hx
      subst hx
      obtain ⟨_, B, c, h1, h2, h3, h4, h5⟩ := hf i hi
      exact ⟨B, c, h1, h2, h3, h4, h5, fun _ _ => trivial⟩
    · have : ed ((List.range len).map f) i = f i := by simp [ed, hi]
      rw [this]
      exact (hf i hi).1
end
def MakesPost (w : World) (e : Ending) (w' : World) : Prop := e = .returned (.bool true) ∧ Below w.heap.size w w'
def ApPost2 (q : Nat) (zs : List Int) (x : Int) (w : World) (e : Ending) (w' : World) : Prop := ∃ A c, e = .returned (.tuple #[.slice A q c, .int .i64 x]) ∧ OB w' w.heap.size (.slice A q c) q zs ∧ q ≤ c ∧ Below w.heap.size w w'
set_option maxRecDepth 100000 in
set_option maxHeartbeats 4000000 in
theorem makes_main (A : Option Addr) (n c : Nat) (a : List Int) (B : Option Addr) (m d : Nat) (b : List Int) (E : Option Addr) (k f : Nat) (l : List Ed) (C : Option Addr) (p e0 : Nat) (raw : List Int) (w : World) (hA : RB w A n a) (hnc : n ≤ c) (hB : RB w B m b) (hmd : m ≤ d)
    (hE : REs w (fun _ => True) E k l) (hkf : k ≤ f) (hkm : k ≤ 9223372036854775807) (hlb : ∀ i, i < k → (ed l i).b.length ≤ 140737488355328) (hC : RB w C p raw) (hpe : p ≤ e0) (hn : n ≤ 1500) (hm : m ≤ 1500) (hp : p ≤ 1500) (hfw : fewB l = true) :
    Calls Try.prog 7 #[.slice A n c, .slice B m d, .slice E k f, .slice C p e0] w (MakesPost w) := by
  have e1 : ¬ ((1500 : Int) < n) := by omega
  have e2 : ¬ ((1500 : Int) < m) := by omega
  have e3 : ¬ ((1500 : Int) < p) := by omega
  have hlen := hE.1
  obtain ⟨hk60, hb3⟩ := fewB_len hfw
  rw [hlen] at hk60 hb3
  have hlb2 : ∀ i, i < k → (ed l i).b.length ≤ 100000 := fun i hi => by have := hb3 i hi; omega
  have hP := prTo_length_le (l := l) (M := 3000) (fun i hi => by have := hb3 i (by omega); omega) k (by omega)
  have hq := mk_len a b
  have hFew : ∀ W : World, REs W (fun _ => True) E k l → Calls Try.prog 18 #[.slice E k f] W (fun e w' => e = .returned (.bool true) ∧ W = w') := fun W h => by
    have := few_any _ E k f l W h hkm hlb
    rw [hfw] at this
    exact this
  have hOwnA : ∀ W : World, RB W A n a → Calls Try.prog 13 #[.slice A n c, .int .u8 71] W (OwnPost n a 71 W) := fun W h => own_any A n c a 71 W h (by omega) (by omega) (by omega)
  have hOwnB : ∀ W : World, RB W B m b → Calls Try.prog 13 #[.slice B m d, .int .u8 71] W (OwnPost m b 71 W) := fun W h => own_any B m d b 71 W h (by omega) (by omega) (by omega)
  have hApply : ∀ (W : World) (X : Option Addr) (cx : Nat), RB W X n a → n ≤ cx → REs W (fun _ => True) E k l → Calls Try.prog 17 #[.slice X n cx, .slice E k f] W (ApPost2 (applyR a l).1.length (applyR a l).1 (applyR a l).2 W) := fun W X cx h1 h2 h3 => apply_any X n cx a _ E k f l W h1 h2 (by omega) h3 (by omega) hlb2
  have hRefApply : ∀ (W : World), RB W A n a → REs W (fun _ => True) E k l → Calls Try.prog 19 #[.slice A n c, .slice E k f] W (ApPost2 (applyR a l).1.length (applyR a l).1 (applyR a l).2 W) := fun W h1 h3 => refApply_any A n c a _ E k f l W h1 hnc (by omega) h3 (by omega) hlb2
  have hParse : ∀ (W : World), RB W C p raw → Calls Try.prog 20 #[.slice C p e0] W (PaPost (parseR raw).1.length (parseR raw).1 (parseR raw).2 W) := fun W h1 => parse_any C p e0 raw W h1 hpe (by omega)
  have hRefParse : ∀ (W : World), RB W C p raw → Calls Try.prog 21 #[.slice C p e0] W (PaPost (parseR raw).1.length (parseR raw).1 (parseR raw).2 W) := fun W h1 => refParse_any C p e0 raw W h1 hpe (by omega)
  have hPl : (parseR raw).1.length ≤ 1000000 := by
    by_cases h0 : (parseR raw).2 = 0
    · have hb := parse_back raw.length [] raw (parseR raw).1 hC.byts (Nat.le_refl _) (by rw [← h0]; rfl)
      have hge := (prTo_ge (parseR raw).1 (parseR raw).1.length).1
      have : (prTo (parseR raw).1 (parseR raw).1.length).length = p := by
        have e : prTo (parseR raw).1 (parseR raw).1.length = raw := hb
        rw [e, hC.len]
      omega
    · have := (parseF_len raw.length [] raw hC.byts)
      unfold parseR
      rw [hC.len] at this ⊢
      simp at this
      omega
  have hMake : ∀ (W : World) (X Y : Option Addr) (cx cy : Nat), RB W X n a → n ≤ cx → RB W Y m b → m ≤ cy → Calls Try.prog 10 #[.slice X n cx, .slice Y m cy] W (MkPost (mkEdits a b).length (mkEdits a b) W) := fun W X Y cx cy h1 h2 h3 h4 => (make_any X Y n m cx cy a b W h1 h3 h2 h4 (by omega) (by omega)).mono (by
    rintro e w' ⟨A', k, rfl, hr, hb⟩
    obtain rfl : k = (mkEdits a b).length := hr.1.symm
    exact ⟨A', rfl, hr, hb⟩)
  have hRefMake : ∀ (W : World), RB W A n a → RB W B m b → Calls Try.prog 23 #[.slice A n c, .slice B m d] W (MkPost (mkEdits a b).length (mkEdits a b) W) := fun W h1 h3 => (refMake_any A B n m c d a b W h1 h3 hnc hmd (by omega) (by omega)).mono (by
    rintro e w' ⟨A', k, rfl, hr, hb⟩
    obtain rfl : k = (mkEdits a b).length := hr.1.symm
    exact ⟨A', rfl, hr, hb⟩)
  have hSame : ∀ (W : World) (S S' : Nat → Prop) (L : List Ed) (q : Nat) (A1 A2 : Option Addr) (c1 c2 : Nat), q ≤ 1000000 → REs W S A1 q L → REs W S' A2 q L → Calls Try.prog 22 #[.slice A1 q c1, .slice A2 q c2, .func (Fn.func 24) #[] #[]] W (TrueB true W) := fun W S S' L q A1 A2 c1 c2 h0 h1 h2 => sameEd_any S S' A1 A2 q c1 c2 L W h1 h2 h0
  have hBytes : ∀ (W : World) (A1 A2 : Option Addr) (q c1 c2 : Nat) (zs : List Int), RB W A1 q zs → RB W A2 q zs → Calls Try.prog 11 #[.slice A1 q c1, .slice A2 q c2] W (fun e w' => e = .returned (.bool true) ∧ W = w') := fun W A1 A2 q c1 c2 zs h1 h2 => by
    have := bytes_any A1 A2 q q c1 c2 zs zs W h1 h2
    rw [decide_eq_true (rfl : zs = zs)] at this
    exact this
  have hPrint : ∀ (W : World), REs W (fun _ => True) E k l → Calls Try.prog 25 #[.slice E k f] W (NewB (prL l).length (prL l) W) := fun W h1 => print_any _ E k f l W h1 (by omega) hlb2
  have hRefPrint : ∀ (W : World), REs W (fun _ => True) E k l → Calls Try.prog 26 #[.slice E k f] W (NewB (prL l).length (prL l) W) := fun W h1 => refPrint_any _ E k f l W h1 (by omega) hlb2
  have hKept : ∀ (W : World) (bs g q dq : Nat) (X : Option Addr) (zs : List Int), q ≤ 1500 → OwnB W bs g q zs 71 → RB W X q zs → Calls Try.prog 16 #[.slice (some ⟨g, 0, none⟩) q (q + 3), .slice X q dq, .int .u8 71] W (Quiet (.bool true) W) := fun W bs g q dq X zs h0 h1 h2 => kept_any bs g q dq X zs 71 W h1 h2.byts h2 (by omega)
  unfold OwnPost at hOwnA hOwnB
  unfold ApPost2 at hApply hRefApply
  unfold PaPost at hParse hRefParse
  unfold MkPost at hMake hRefMake
  unfold TrueB at hSame
  unfold NewB at hPrint hRefPrint
  unfold Quiet at hKept
  have HFew := Lib.hid hFew
  have HOwnA := Lib.hid hOwnA
  have HOwnB := Lib.hid hOwnB
  have HApply := Lib.hid hApply
  have HRefApply := Lib.hid hRefApply
  have HParse := Lib.hid hParse
  have HRefParse := Lib.hid hRefParse
  have HMake := Lib.hid hMake
  have HRefMake := Lib.hid hRefMake
  have HSame := Lib.hid hSame
  have HBytes := Lib.hid hBytes
  have HPrint := Lib.hid hPrint
  have HRefPrint := Lib.hid hRefPrint
  have HKept := Lib.hid hKept
  have hAb := hA.byts
  have hBb := hB.byts
  clear hFew hOwnA hOwnB hApply hRefApply hParse hRefParse hMake hRefMake hSame hBytes hPrint hRefPrint hKept hlb hlb2 hb3 hP hfw hlen
  generalize (applyR a l).2 = ae at *
  generalize (applyR a l).1 = ar at *
  generalize (parseR raw).2 = pe at *
  generalize (parseR raw).1 = pr at *
  generalize mkEdits a b = L at *
  generalize prL l = pl at *
  generalize pl.length = pn at *
  generalize ar.length = an at *
  generalize pr.length = rn at *
  generalize L.length = q at *
  have k1 : (ae == ae) = true := by simp
  have k2 : (pe == pe) = true := by simp
  go_enter Try.func7, Try.ntmps7
  go_wp2_with (first
    | (go_at_call 18; (with_reducible refine (HFew.out _ hE).mono ?_); rintro e w0 ⟨rfl, rfl⟩)
    | (go_at_call 13; (with_reducible refine (HOwnA.out _ hA).mono ?_); rintro e w1 ⟨g1, rfl, ho1, hb1⟩)
    | (go_at_call 13; (with_reducible refine (HOwnB.out _ (hB.below hb1)).mono ?_); rintro e w2 ⟨g2, rfl, ho2, hb2⟩; have hb02 := below_two hb1 hb2; have ho12 := ho1.below hb2)
    | (go_at_call 17; (with_reducible refine (HApply.out _ _ _ (ho12.reads hAb) (by omega) (hE.later hb02)).mono ?_); rintro e w3 ⟨A3, c3, rfl, ho3, hc3, hb3⟩; have hb03 := below_two hb02 hb3)
    | (go_at_call 19; (with_reducible refine (HRefApply.out _ (hA.below hb03) (hE.later hb03)).mono ?_); rintro e w4 ⟨A4, c4, rfl, ho4, hc4, hb4⟩; have hb04 := below_two hb03 hb4; have ho34 := ho3.below hb4)
    | (go_at_call 20; (with_reducible refine (HParse.out _ (hC.below hb04)).mono ?_); rintro e w5 ⟨A5, c5, rfl, hR5, hc5, hb5⟩; have hb05 := below_two hb04 hb5; have ho35 := ho34.below hb5; have ho45 := ho4.below hb5)
    | (go_at_call 21; (with_reducible refine (HRefParse.out _ (hC.below hb05)).mono ?_); rintro e w6 ⟨A6, c6, rfl, hR6, hc6, hb6⟩; have hb06 := below_two hb05 hb6; have ho36 := ho35.below hb6; have ho46 := ho45.below hb6; have hR56 := hR5.later hb6; have ho16 := (((ho12.below hb3).below hb4).below hb5).below hb6; have ho26 := (((ho2.below hb3).below hb4).below hb5).below hb6)
    | (go_at_call 9; (with_reducible refine (awake14_any _).mono ?_); rintro e w7 ⟨rfl, hb7⟩; have hb07 := below_two hb06 hb7; have ho17 := ho16.below hb7; have ho27 := ho26.below hb7)
    | (go_at_call 10; (with_reducible refine (HMake.out _ _ _ _ _ (ho17.reads hAb) (by omega) (ho27.reads hBb) (by omega)).mono ?_); rintro e w8 ⟨A8, rfl, hR8, hb8⟩; have hb08 := below_two hb07 hb8)
    | (go_at_call 23; (with_reducible refine (HRefMake.out _ (hA.below hb08) (hB.below hb08)).mono ?_); rintro e w9 ⟨A9, rfl, hR9, hb9⟩; have hb09 := below_two hb08 hb9; have hR89 := hR8.later hb9)
    | (go_at_call 22; (with_reducible refine (HSame.out _ _ _ _ _ A8 A9 _ _ (by omega) hR89 hR9).mono ?_); rintro e w10 ⟨rfl, hb10⟩; have hb010 := below_two hb09 hb10; have hb610 := below_two (below_two (below_two hb7 hb8) hb9) hb10; have ho310 := ho36.below hb610; have ho410 := ho46.below hb610)
    | (go_at_call 11; (with_reducible refine (HBytes.out _ A3 A4 _ _ _ _ ho310.reads ho410.reads).mono ?_); rintro e w10' ⟨rfl, rfl⟩)
    | (go_at_call 25; (with_reducible refine (HPrint.out _ (hE.later hb010)).mono ?_); rintro e w11 ⟨A11, c11, rfl, ho11, hc11, hb11⟩; have hb011 := below_two hb010 hb11)
    | (go_at_call 26; (with_reducible refine (HRefPrint.out _ (hE.later hb011)).mono ?_); rintro e w12 ⟨A12, c12, rfl, ho12', hc12, hb12⟩; have hb012 := below_two hb011 hb12; have ho1112 := ho11.below hb12; have hb612 := below_two (below_two hb610 hb11) hb12; have hR512 := hR56.later hb612; have hR612 := hR6.later hb612)
    | (go_at_call 11; (with_reducible refine (HBytes.out _ A11 A12 _ _ _ _ ho1112.reads ho12'.reads).mono ?_); rintro e w12' ⟨rfl, rfl⟩)
    | (go_at_call 22; (with_reducible refine (HSame.out _ _ _ _ _ A5 A6 _ _ hPl hR512 hR612).mono ?_); rintro e w13 ⟨rfl, hb13⟩; have hb013 := below_two hb012 hb13; have hb613 := below_two hb612 hb13; have ho113 := ho16.below hb613; have ho213 := ho26.below hb613)
    | (go_at_call 16; (with_reducible refine (HKept.out _ _ _ _ _ A _ hn ho113 (hA.below hb013)).mono ?_); rintro e w14 ⟨rfl, q14, rfl⟩)
    | (go_at_call 16; (with_reducible refine (HKept.out _ _ _ _ _ B _ hm (ho213.below (drewN_below _ q14)) ((hB.below hb013).drewN q14)).mono ?_); rintro e w15 ⟨rfl, q15, rfl⟩))
  go_ret
  exact ⟨rfl, below_drewN hb013 _⟩
set_option maxRecDepth 100000 in
set_option maxHeartbeats 2000000 in
theorem makes_walk (A : Option Addr) (n c : Nat) (a : List Int) (B : Option Addr) (m d : Nat) (b : List Int) (E : Option Addr) (k f : Nat) (l : List Ed) (C : Option Addr) (p e0 : Nat) (raw : List Int) (w : World) (hA : RB w A n a) (hnc : n ≤ c) (hB : RB w B m b) (hmd : m ≤ d)
    (hE : REs w (fun _ => True) E k l) (hkf : k ≤ f) (hkm : k ≤ 9223372036854775807) (hlb : ∀ i, i < k → (ed l i).b.length ≤ 140737488355328) (hC : RB w C p raw) (hpe : p ≤ e0) :
    Calls Try.prog 7 #[.slice A n c, .slice B m d, .slice E k f, .slice C p e0] w (fun e w' => e = .returned (.bool true) ∧ Below w.heap.size w w') := by
  have hfew := few_any _ E k f l w hE hkm hlb
  by_cases c1 : 1500 < n
  · have e1 : (1500 : Int) < n := by omega
    clear hlb
    go_enter Try.func7, Try.ntmps7
    go_wp2_with (first
      | (go_at_call 18; (with_reducible refine hfew.mono ?_); rintro e w0 ⟨rfl, rfl⟩)
      | (go_at_call 9; (with_reducible refine (awake14_any _).mono ?_); rintro e w1 ⟨rfl, hb1⟩))
    go_ret
    exact ⟨rfl, hb1⟩
  · by_cases c2 : 1500 < m
    · have e1 : ¬ ((1500 : Int) < n) := by omega
      have e2 : (1500 : Int) < m := by omega
      clear hlb
      go_enter Try.func7, Try.ntmps7
      go_wp2_with (first
        | (go_at_call 18; (with_reducible refine hfew.mono ?_); rintro e w0 ⟨rfl, rfl⟩)
        | (go_at_call 9; (with_reducible refine (awake14_any _).mono ?_); rintro e w1 ⟨rfl, hb1⟩))
      go_ret
      exact ⟨rfl, hb1⟩
    · by_cases c4 : fewB l = true
      · by_cases c3 : 1500 < p
        · have e1 : ¬ ((1500 : Int) < n) := by omega
          have e2 : ¬ ((1500 : Int) < m) := by omega
          have e3 : (1500 : Int) < p := by omega
          rw [c4] at hfew
          clear hlb c4
          go_enter Try.func7, Try.ntmps7
          go_wp2_with (first
            | (go_at_call 18; (with_reducible refine hfew.mono ?_); rintro e w0 ⟨rfl, rfl⟩)
            | (go_at_call 9; (with_reducible refine (awake14_any _).mono ?_); rintro e w1 ⟨rfl, hb1⟩))
          go_ret
          exact ⟨rfl, hb1⟩
        · exact makes_main A n c a B m d b E k f l C p e0 raw w hA hnc hB hmd hE hkf hkm hlb hC hpe (by omega) (by omega) (by omega) c4
      · have e1 : ¬ ((1500 : Int) < n) := by omega
        have e2 : ¬ ((1500 : Int) < m) := by omega
        rw [Bool.not_eq_true] at c4
        rw [c4] at hfew
        clear hlb c4
        go_enter Try.func7, Try.ntmps7
        go_wp2_with (first
          | (go_at_call 18; (with_reducible refine hfew.mono ?_); rintro e w0 ⟨rfl, rfl⟩)
          | (go_at_call 9; (with_reducible refine (awake14_any _).mono ?_); rintro e w1 ⟨rfl, hb1⟩))
        go_ret
        exact ⟨rfl, hb1⟩
end Go.Proofs.Ytflmaendnbokaaa
