/- Words and steps, part 8: The document's machine of epochs: its calls. The plain law: the epoch's machine and the document's tell the same. The world of epochs, in plain words: what always holds. The world of epochs, in plain words: what a machine hears. The world of epochs, in plain words: who decides has all; what is sent. The world of epochs, in plain words: what a step makes of it. -/
import Derived.Test.YtmfbmfppjdkeeaaErQ7
/- The document's machine of epochs: its calls. -/
namespace Go.Proofs.Ytmfbmfppjdkeeaa
open Go Go.Fw Go.RowKit
set_option linter.unusedVariables false
set_option linter.unusedSimpArgs false
set_option maxRecDepth 4000
set_option maxHeartbeats 2000000
variable {w0 w : World} {F G : Grps}

theorem bs82 (w : World) (a : A6) : (Instr.buildSlice 82 1 #[(0, aco a)]).run Try.prog w = .ok (.slice (some ⟨w.heap.size, 0, none⟩) 1 1) (w.alloc (.cells ⟨acs [a]⟩ 114)) := by kernel_rfl
theorem bs82c (w : World) (a b c : A6) : (Instr.buildSlice 82 3 #[(0, aco a), (1, aco b), (2, aco c)]).run Try.prog w = .ok (.slice (some ⟨w.heap.size, 0, none⟩) 3 3) (w.alloc (.cells ⟨acs [a, b, c]⟩ 114)) := by kernel_rfl
theorem newA (h : St w0 w G) (a : A6) {K : Sl → World → Prop} (hk : ∀ (s : Sl) w', s.len = 1 → St w0 w' ([.row 114 6 s (acs [a])] :: G) → K s w') : RunN Try.prog .sl (V (Instr.buildSlice 82 1 #[(0, aco a)])) w K :=
  h.newS 6 (bs82 _ a) rfl rfl rfl fun s w' h1 _ _ h => hk s w' h1 h
def Rn.turns (r : Rn) : Prop := r.own.1 > 0 ∧ r.top ≠ r.own
instance (r : Rn) : Decidable r.turns := by unfold Rn.turns; exact inferInstance
def Rn.turn (r : Rn) (was : Ep) : List A6 × Rn :=
  if r.turns then ([(3, -1, r.own.1, r.own.2, r.top.1, r.top.2), (5, (r.me : Int), r.own.1, r.own.2, 0, 0), (2, r.top.2, r.top.1, r.top.2, 0, 0)], { r with over := r.over ++ [r.own] })
  else if r.top.1 > 0 ∧ r.top ≠ r.own ∧ r.top ≠ was then ([(2, r.top.2, r.top.1, r.top.2, 0, 0)], r)
  else if r.top.1 = 0 ∧ was.1 > 0 then ([(6, (r.me : Int), 0, 0, 0, 0)], r) else ([], r)
theorem rwf_over {r : Rn} {N : Nat} (h : r.wf N) (x : Ep) : ({ r with over := r.over ++ [x] } : Rn).wf (N + 1) :=
  ⟨h.n, h.me, by have := h.kl; dsimp only; omega, by simp; have := h.ol; omega, by have := h.nl; dsimp only; omega, h.nb⟩
theorem rwf_turn {r : Rn} {N : Nat} (h : r.wf N) (was : Ep) : (r.turn was).2.wf (N + 1) := by
  rw [Rn.turn]
  split
  · exact rwf_over h _
  split
  · exact h.mono (Nat.le_succ _)
  split <;> exact h.mono (Nat.le_succ _)
theorem rturn_st {r : Rm} {N : Nat} (h : St w0 w (rmE r :: F)) (hw : r.wf N) (hN : N ≤ 1000000000) (was : Ep) : CallK Try.prog .sl 65 #[.pointer r.p, .agg #[.int .i64 was.1, .int .i64 was.2]] w
    fun (s : Sl) w' => ∃ r' : Rm, r'.cb = r.cb ∧ r'.toRn = (r.turn was).2 ∧ s.len = (r.turn was).1.length ∧ St w0 w' ([.row 114 6 s (acs (r.turn was).1)] :: rmE r' :: F) := by
  refine T65.calls (p1 := (was.1, was.2, ())) ?_
  unfold T65
  have hol := hw.ol
  first | refine h.newB run_boxA rfl ?_ | refine h.drew.newB run_boxA rfl ?_
  intro b3 w h
  have h := h.ord 2 [1, 0]
  dsimp only [pick, nthO, dropO] at h
  refine (rown_st h hw hN).mono ?_
  rintro _ w1 ⟨rfl, h⟩
  first | refine h.newB (NewC.run _) rfl ?_ | refine h.drew.newB (NewC.run _) rfl ?_
  intro b5 w h
  have h := h.ord 2 [1, 0]
  dsimp only [pick, nthO, dropO] at h
  refine h.stor2 1 0 ⟨_, rfl, rfl⟩ rfl ?_
  intro w3 h
  dsimp only [updG, setO] at h
  refine (rtop_st h hw hN).mono ?_
  rintro _ w2 ⟨rfl, h⟩
  first | refine h.newB (NewC.run _) rfl ?_ | refine h.drew.newB (NewC.run _) rfl ?_
  intro b6 w h
  have h := h.ord 2 [1, 0]
  dsimp only [pick, nthO, dropO] at h
  refine h.stor2 1 0 ⟨_, rfl, rfl⟩ rfl ?_
  intro w4 h
  dsimp only [updG, setO] at h
  let L : Grps := [.cel b6 54 (epv r.top)] :: [.cel b5 54 (epv r.own)] :: [.cel b3 54 (epv was)] :: F
  have h : St w0 w4 (rmE r :: L) := h
  have hdrop : ∀ {w' : World} {r' : Rm} {s : Sl} {l : List A6}, St w0 w' ([.row 114 6 s (acs l)] :: rmE r' :: L) → St w0 w' ([.row 114 6 s (acs l)] :: rmE r' :: F) := fun h => ((h.drop 2).drop 2).drop 2
  refine JoinX.mk (fun (y : Bool × Unit) w' => y.1 = decide r.turns ∧ St w0 w' (rmE r :: L)) ?_ ?_
  · rintro ⟨y, ⟨⟩⟩ w5 ⟨hy, h⟩
    dsimp only at hy
    subst hy
    rw [SplitB_iff]
    refine ⟨fun hc => ?_, fun hc => ?_⟩
    · have hc : r.turns := of_decide_eq_true hc
      refine appOver h (by omega) 2 (b := b5) (x := r.own.1) (y := r.own.2) ⟨_, rfl, rfl⟩ ?_
      intro q' w6 h
      refine h.drew.read2 2 0 ⟨_, rfl, rfl⟩ rfl ?_
      refine h.drew.read2 1 0 ⟨_, rfl, rfl⟩ rfl ?_
      refine NilP.mk ?_
      refine h.drew.readB 0 0 ⟨_, rfl, rfl⟩ rfl rfl ?_
      refine h.drew.read2 2 0 ⟨_, rfl, rfl⟩ rfl ?_
      refine h.drew.readB 1 0 ⟨_, rfl, rfl⟩ rfl rfl ?_
      refine h.drew.read2 1 0 ⟨_, rfl, rfl⟩ rfl ?_
      refine h.drew.newS 6 (bs82c _ (3, -1, r.own.1, r.own.2, r.top.1, r.top.2) (5, (r.me : Int), r.own.1, r.own.2, 0, 0) (2, r.top.2, r.top.1, r.top.2, 0, 0)) rfl rfl rfl ?_
      intro s w7 hs1 _ _ h
      refine ⟨{ r with over := r.over ++ [(r.own.1, r.own.2)], oq := q' }, rfl, ?_, ?_, ?_⟩
      · rw [Rn.turn, if_pos hc]
      · rw [Rn.turn, if_pos hc]; exact hs1
      · rw [Rn.turn, if_pos hc]; exact hdrop h
    have hc : ¬ r.turns := of_decide_eq_false hc
    refine JoinX.mk (fun (y : Bool × Unit) w' => y.1 = decide (r.top.1 > 0 ∧ r.top ≠ r.own ∧ r.top ≠ was) ∧ St w0 w' (rmE r :: L)) ?_ ?_
    · rintro ⟨y, ⟨⟩⟩ w6 ⟨hy, h⟩
      dsimp only at hy
      subst hy
      rw [SplitB_iff]
      refine ⟨fun hd => ?_, fun hd => ?_⟩
      · have hd := of_decide_eq_true hd
        refine h.loadB 1 0 ⟨_, rfl, rfl⟩ rfl rfl ?_
        refine h.load2 1 0 ⟨_, rfl, rfl⟩ rfl ?_
        refine newA h (2, r.top.2, r.top.1, r.top.2, 0, 0) ?_
        intro s w7 hs1 h
        refine ⟨r, rfl, ?_, ?_, ?_⟩
        · rw [Rn.turn, if_neg hc, if_pos hd]
        · rw [Rn.turn, if_neg hc, if_pos hd]; exact hs1
        · rw [Rn.turn, if_neg hc, if_pos hd]; exact hdrop h
      have hd := of_decide_eq_false hd
      refine JoinX.mk (fun (y : Bool × Unit) w' => y.1 = decide (r.top.1 = 0 ∧ was.1 > 0) ∧ St w0 w' (rmE r :: L)) ?_ ?_
      · rintro ⟨y, ⟨⟩⟩ w7 ⟨hy, h⟩
        dsimp only at hy
        subst hy
        rw [SplitB_iff]
        refine ⟨fun he => ?_, fun he => ?_⟩
        · have he := of_decide_eq_true he
          refine NilP.mk ?_
          refine h.loadB 0 0 ⟨_, rfl, rfl⟩ rfl rfl ?_
          refine newA h (6, (r.me : Int), 0, 0, 0, 0) ?_
          intro s w7 hs1 h
          refine ⟨r, rfl, ?_, ?_, ?_⟩
          · rw [Rn.turn, if_neg hc, if_neg hd, if_pos he]
          · rw [Rn.turn, if_neg hc, if_neg hd, if_pos he]; exact hs1
          · rw [Rn.turn, if_neg hc, if_neg hd, if_pos he]; exact hdrop h
        · have he := of_decide_eq_false he
          refine ⟨r, rfl, ?_, ?_, ?_⟩
          · rw [Rn.turn, if_neg hc, if_neg hd, if_neg he]
          · rw [Rn.turn, if_neg hc, if_neg hd, if_neg he]; rfl
          · rw [Rn.turn, if_neg hc, if_neg hd, if_neg he]; exact hdrop (h.nilrow 114 6)
      · intro k5 hk5
        refine h.loadB 1 0 ⟨_, rfl, rfl⟩ rfl rfl ?_
        rw [SplitB_iff]
        refine ⟨fun he => ?_, fun he => ?_⟩
        · have he : r.top.1 = 0 := by simpa using he
          refine h.loadB 3 0 ⟨_, rfl, rfl⟩ rfl rfl ?_
          exact hk5 _ _ ⟨by simp [he], h⟩
        · have he : ¬ r.top.1 = 0 := by simpa using he
          exact hk5 _ _ ⟨by simp [he], h⟩
    · intro k3 hk3
      refine h.loadB 1 0 ⟨_, rfl, rfl⟩ rfl rfl ?_
      rw [SplitB_iff]
      refine ⟨fun hd => ?_, fun hd => ?_⟩
      · have hd : r.top.1 > 0 := of_decide_eq_true hd
        refine h.load2 1 0 ⟨_, rfl, rfl⟩ rfl ?_
        refine h.load2 2 0 ⟨_, rfl, rfl⟩ rfl ?_
        refine RunN.k2Ne ?_
        rw [ne_ep r.top r.own]
        rw [SplitB_iff]
        refine ⟨fun he => ?_, fun he => ?_⟩
        · have he : r.top ≠ r.own := of_decide_eq_true he
          refine h.load2 1 0 ⟨_, rfl, rfl⟩ rfl ?_
          refine h.load2 3 0 ⟨_, rfl, rfl⟩ rfl ?_
          refine RunN.k2Ne ?_
          rw [ne_ep r.top was]
          refine hk3 _ _ ⟨?_, h⟩
          dsimp only
          by_cases hf : r.top ≠ was
          · rw [decide_eq_true hf, decide_eq_true ⟨hd, he, hf⟩]
          · rw [decide_eq_false hf, decide_eq_false fun hh => hf hh.2.2]
        · have he : ¬ r.top ≠ r.own := of_decide_eq_false he
          exact hk3 _ _ ⟨(decide_eq_false fun hh => he hh.2.1).symm, h⟩
      · have hd : ¬ r.top.1 > 0 := of_decide_eq_false hd
        exact hk3 _ _ ⟨(decide_eq_false fun hh => hd hh.1).symm, h⟩
  · intro k1 hk1
    refine h.loadB 2 0 ⟨_, rfl, rfl⟩ rfl rfl ?_
    rw [SplitB_iff]
    refine ⟨fun hd => ?_, fun hd => ?_⟩
    · have hd : r.own.1 > 0 := of_decide_eq_true hd
      refine h.load2 1 0 ⟨_, rfl, rfl⟩ rfl ?_
      refine h.load2 2 0 ⟨_, rfl, rfl⟩ rfl ?_
      refine RunN.k2Ne ?_
      rw [ne_ep r.top r.own]
      refine hk1 _ _ ⟨?_, h⟩
      dsimp only
      by_cases he : r.top ≠ r.own
      · rw [decide_eq_true he, decide_eq_true (show r.turns from ⟨hd, he⟩)]
      · rw [decide_eq_false he, decide_eq_false (show ¬ r.turns from fun hh => he hh.2)]
    · have hd : ¬ r.own.1 > 0 := of_decide_eq_false hd
      exact hk1 _ _ ⟨(decide_eq_false (show ¬ r.turns from fun hh => hd hh.1)).symm, h⟩
/-! ### Hear, End -/
def Rn.hear (r : Rn) (x : Ep) : List A6 × Rn := (r.told x).turn r.top
def Rn.told2 (r : Rn) (x : Ep) : Rn := if r.one x ∧ x.2 ≠ (r.me : Int) then { r.told x with over := (r.told x).over ++ [x] } else r
def Rn.end_ (r : Rn) (x y : Ep) : List A6 × Rn := ((r.told2 x).told y).turn r.top
theorem rwf_told2 {r : Rn} {N : Nat} (h : r.wf N) (x : Ep) : (r.told2 x).wf (N + 2) := by
  rw [Rn.told2]
  split
  · exact rwf_over (rwf_told h x) x
  · exact h.mono (by omega)
theorem rhear_st {r : Rm} {N : Nat} (h : St w0 w (rmE r :: F)) (hw : r.wf N) (hN : N ≤ 100000000) (x : Ep) : CallK Try.prog .sl 33 #[.pointer r.p, .agg #[.int .i64 x.1, .int .i64 x.2]] w
    fun (s : Sl) w' => ∃ r' : Rm, r'.cb = r.cb ∧ r'.toRn = (r.hear x).2 ∧ s.len = (r.hear x).1.length ∧ St w0 w' ([.row 114 6 s (acs (r.hear x).1)] :: rmE r' :: F) := by
  refine T33.calls (p1 := (x.1, x.2, ())) ?_
  unfold T33
  first | refine h.newB run_boxA rfl ?_ | refine h.drew.newB run_boxA rfl ?_
  intro b3 w h
  have h := h.ord 2 [1, 0]
  dsimp only [pick, nthO, dropO] at h
  refine (rtop_st h hw (by omega)).mono ?_
  rintro _ w1 ⟨rfl, h⟩
  first | refine h.newB (NewC.run _) rfl ?_ | refine h.drew.newB (NewC.run _) rfl ?_
  intro b5 w h
  have h := h.ord 2 [1, 0]
  dsimp only [pick, nthO, dropO] at h
  refine h.stor2 1 0 ⟨_, rfl, rfl⟩ rfl ?_
  intro w2 h
  dsimp only [updG, setO] at h
  refine h.load2 2 0 ⟨_, rfl, rfl⟩ rfl ?_
  refine (rtold_st h hw (by omega) x).mono ?_
  rintro _ w3 ⟨r1, g1, g2, h⟩
  refine h.load2 1 0 ⟨_, rfl, rfl⟩ rfl ?_
  have hp : r.p = r1.p := by show some _ = some _; rw [g1]
  rw [hp]
  refine (rturn_st h (by rw [g2]; exact rwf_told hw x) (by omega) r.top).mono ?_
  rintro s w4 ⟨r', h1, h2, h3, h⟩
  rw [g2] at h2 h3 h
  exact ⟨r', h1.trans g1, h2, h3, (h.drop 2).drop 2⟩
theorem rend_st {r : Rm} {N : Nat} (h : St w0 w (rmE r :: F)) (hw : r.wf N) (hN : N ≤ 100000000) (x y : Ep) : CallK Try.prog .sl 35 #[.pointer r.p, .agg #[.int .i64 x.1, .int .i64 x.2], .agg #[.int .i64 y.1, .int .i64 y.2]] w
    fun (s : Sl) w' => ∃ r' : Rm, r'.cb = r.cb ∧ r'.toRn = (r.end_ x y).2 ∧ s.len = (r.end_ x y).1.length ∧ St w0 w' ([.row 114 6 s (acs (r.end_ x y).1)] :: rmE r' :: F) := by
  refine T35.calls (p1 := (x.1, x.2, ())) (p2 := (y.1, y.2, ())) ?_
  unfold T35
  first | refine h.newB run_boxA rfl ?_ | refine h.drew.newB run_boxA rfl ?_
  intro b4 w h
  have h := h.ord 2 [1, 0]
  dsimp only [pick, nthO, dropO] at h
  first | refine h.newB run_boxA rfl ?_ | refine h.drew.newB run_boxA rfl ?_
  intro b5 w h
  have h := h.ord 2 [1, 0]
  dsimp only [pick, nthO, dropO] at h
  refine (rtop_st h hw (by omega)).mono ?_
  rintro _ w1 ⟨rfl, h⟩
  first | refine h.newB (NewC.run _) rfl ?_ | refine h.drew.newB (NewC.run _) rfl ?_
  intro b7 w h
  have h := h.ord 2 [1, 0]
  dsimp only [pick, nthO, dropO] at h
  refine h.stor2 1 0 ⟨_, rfl, rfl⟩ rfl ?_
  intro w2 h
  dsimp only [updG, setO] at h
  let L : Grps := [.cel b7 54 (epv r.top)] :: [.cel b5 54 (epv y)] :: [.cel b4 54 (epv x)] :: F
  have h : St w0 w2 (rmE r :: L) := h
  refine JoinX.mk (fun (_ : Unit) w' => ∃ r1 : Rm, r1.cb = r.cb ∧ r1.toRn = r.told2 x ∧ St w0 w' (rmE r1 :: L)) ?_ ?_
  · rintro ⟨⟩ w3 ⟨r1, g1, g2, h⟩
    have hp : r.p = r1.p := by show some _ = some _; rw [g1]
    rw [hp]
    have hw1 : r1.wf (N + 2) := by rw [g2]; exact rwf_told2 hw x
    refine h.load2 2 0 ⟨_, rfl, rfl⟩ rfl ?_
    refine (rtold_st h hw1 (by omega) y).mono ?_
    rintro _ w4 ⟨r2, g3, g4, h⟩
    refine h.load2 1 0 ⟨_, rfl, rfl⟩ rfl ?_
    have hp : r1.p = r2.p := by show some _ = some _; rw [g3]
    rw [hp]
    refine (rturn_st h (by rw [g4]; exact rwf_told hw1 y) (by omega) r.top).mono ?_
    rintro s w4 ⟨r', h1, h2, h3, h⟩
    rw [g4, g2] at h2 h3 h
    exact ⟨r', h1.trans (g3.trans g1), h2, h3, ((h.drop 2).drop 2).drop 2⟩
  · intro k1 hk1
    refine JoinX.mk (fun (yy : Bool × Unit) w' => yy.1 = decide (r.one x ∧ x.2 ≠ (r.me : Int)) ∧ St w0 w' (rmE r :: L)) ?_ ?_
    · rintro ⟨yy, ⟨⟩⟩ w3 ⟨hy, h⟩
      dsimp only at hy
      subst hy
      rw [SplitB_iff]
      refine ⟨fun hc => ?_, fun hc => ?_⟩
      · have hc := of_decide_eq_true hc
        refine h.load2 3 0 ⟨_, rfl, rfl⟩ rfl ?_
        refine (rtold_st h hw (by omega) x).mono ?_
        rintro _ w4 ⟨r1, g1, g2, h⟩
        have hp : r.p = r1.p := by show some _ = some _; rw [g1]
        rw [hp]
        have hw1 : r1.wf (N + 1) := by rw [g2]; exact rwf_told hw x
        refine appOver h (by have := hw1.ol; omega) 3 (b := b4) (x := x.1) (y := x.2) ⟨_, rfl, rfl⟩ ?_
        intro q' w6 h
        refine hk1 _ _ ⟨{ r1 with over := r1.over ++ [(x.1, x.2)], oq := q' }, g1, ?_, h⟩
        rw [Rn.told2, if_pos hc, ← g2]
      · have hc := of_decide_eq_false hc
        exact hk1 _ _ ⟨r, rfl, by rw [Rn.told2, if_neg hc], h⟩
    · intro k3 hk3
      refine h.drew.read2 3 0 ⟨_, rfl, rfl⟩ rfl ?_
      refine (one_st h.drew x).mono ?_
      rintro _ w3 ⟨rfl, h⟩
      rw [SplitB_iff]
      refine ⟨fun hc => ?_, fun hc => ?_⟩
      · have hc := of_decide_eq_true hc
        refine h.readB 3 0 ⟨_, rfl, rfl⟩ rfl rfl ?_
        refine NilP.mk ?_
        refine h.readB 0 0 ⟨_, rfl, rfl⟩ rfl rfl ?_
        refine hk3 _ _ ⟨?_, h⟩
        dsimp only
        by_cases h2 : x.2 = (r.me : Int)
        · rw [decide_eq_false fun hh => hh.2 h2, h2]; simp
        · rw [decide_eq_true ⟨hc, h2⟩]; simpa using h2
      · have hc := of_decide_eq_false hc
        exact hk3 _ _ ⟨(decide_eq_false fun hh => hc hh.1).symm, h⟩
/-! ### Report -/
def Rn.fitsR (r : Rn) (fr : Int) (x : Ep) (held : Int) : Prop := fr ≠ (r.me : Int) ∧ 0 ≤ fr ∧ fr < (r.n : Int) ∧ 0 ≤ held ∧ held ≤ 1099511627776 ∧ x = r.own ∧ x.1 > 0
instance (r : Rn) (fr : Int) (x : Ep) (held : Int) : Decidable (r.fitsR fr x held) := by unfold Rn.fitsR; exact inferInstance
def Rn.report (r : Rn) (fr : Int) (x : Ep) (held : Int) : Rn := if r.fitsR fr x held then { r with notes := r.notes ++ [(fr, held, x.1, x.2)] } else r
theorem rwf_report {r : Rn} {N : Nat} (h : r.wf N) (fr : Int) (x : Ep) (held : Int) : (r.report fr x held).wf (N + 1) := by
  rw [Rn.report]
  split
  · rename_i hf
    refine ⟨h.n, h.me, by have := h.kl; dsimp only; omega, by have := h.ol; dsimp only; omega, by simp; have := h.nl; omega, fun y hy => ?_⟩
    rcases List.mem_append.1 hy with hy | hy
    · exact h.nb y hy
    · simp at hy; subst hy; exact ⟨hf.2.2.2.1, hf.2.2.2.2.1⟩
  · exact h.mono (Nat.le_succ _)
theorem bs109 (w : World) (a b c d : Int) : (Instr.buildSlice 109 1 #[(0, .agg #[.int .i64 a, .int .i64 b, .int .i64 c, .int .i64 d])]).run Try.prog w = .ok (.slice (some ⟨w.heap.size, 0, none⟩) 1 1) (w.alloc (.cells ⟨ntv (a, b, c, d)⟩ 118)) := by kernel_rfl
theorem rreport_st {r : Rm} {N : Nat} (h : St w0 w (rmE r :: F)) (hw : r.wf N) (hN : N ≤ 100000000) (fr : Int) (x : Ep) (held : Int) : CallK Try.prog (.tup .nilT) 37 #[.pointer r.p, .int .i64 fr, .agg #[.int .i64 x.1, .int .i64 x.2], .int .i64 held] w
    fun (_ : Unit) w' => ∃ r' : Rm, r'.cb = r.cb ∧ r'.toRn = r.report fr x held ∧ St w0 w' (rmE r' :: F) := by
  refine T37.calls (p2 := (x.1, x.2, ())) ?_
  unfold T37
  have hnl := hw.nl
  first | refine h.newB run_boxA rfl ?_ | refine h.drew.newB run_boxA rfl ?_
  intro b6 w h
  have h := h.ord 2 [1, 0]
  dsimp only [pick, nthO, dropO] at h
  refine JoinX.mk (fun (y : Bool × Unit) w' => y.1 = decide (r.fitsR fr x held) ∧ St w0 w' (rmE r :: [.cel b6 54 [.int .i64 x.1, .int .i64 x.2]] :: F)) ?_ ?_
  · rintro ⟨y, ⟨⟩⟩ w1 ⟨hy, h⟩
    dsimp only at hy
    subst hy
    have hql : r.nq.len = r.notes.length := by have := (h.rd (k := 0) (i := 3) (E := 118) (sz := 4) (s := r.nq) (vs := nts r.notes) ⟨_, rfl, rfl⟩).1; rw [flat_len ntv_len] at this; omega
    rw [SplitB_iff]
    refine ⟨fun hc => ?_, fun hc => ?_⟩
    · have hc := of_decide_eq_true hc
      refine NilP.mk ?_
      refine h.drew.readB 0 0 ⟨_, rfl, rfl⟩ rfl (kd := .sl) (x := r.nq) rfl ?_
      refine h.drew.read2 1 0 ⟨_, rfl, rfl⟩ rfl ?_
      refine h.drew.newS 4 (bs109 _ _ _ _ _) rfl rfl rfl ?_
      intro u w2 hu1 hu2 _ h
      refine ⟨h.stillB 1 0 ⟨_, rfl, rfl⟩ rfl rfl, ?_⟩
      refine h.app 1 3 ⟨_, rfl, rfl⟩ (h.rd (k := 0) (i := 0) ⟨_, rfl, rfl⟩) (ntv_one _) (by simp only [maxLen]; omega) (by omega) ?_
      intro s' w3 hl' h
      have h := h.drop 0
      refine NilP.mk ?_
      refine h.storB 0 0 (j := 4) ⟨_, rfl, rfl⟩ rfl rfl rfl ?_
      intro w4 h
      refine ⟨{ r with notes := r.notes ++ [(fr, held, x.1, x.2)], nq := s' }, rfl, by rw [Rn.report, if_pos hc], ?_⟩
      have e : nts (r.notes ++ [(fr, held, x.1, x.2)]) = nts r.notes ++ ntv (fr, held, x.1, x.2) := by rw [nts, List.flatMap_append]; simp
      rw [rmE, show ({ r with notes := r.notes ++ [(fr, held, x.1, x.2)], nq := s' } : Rm).notes = r.notes ++ [(fr, held, x.1, x.2)] from rfl, e]
      exact h.drop 1
    · have hc := of_decide_eq_false hc
      exact ⟨r, rfl, by rw [Rn.report, if_neg hc], h.drop 1⟩
  · intro k hk
    refine NilP.mk ?_
    refine h.drew.readB 0 0 ⟨_, rfl, rfl⟩ rfl rfl ?_
    rw [SplitB_iff]
    refine ⟨fun h1 => ?_, fun h1 => ?_⟩
    · have h1 : fr ≠ (r.me : Int) := by simpa using h1
      rw [SplitB_iff]
      refine ⟨fun h2 => ?_, fun h2 => ?_⟩
      · have h2 := of_decide_eq_true h2
        refine NilP.mk ?_
        refine h.drew.readB 0 0 ⟨_, rfl, rfl⟩ rfl rfl ?_
        rw [SplitB_iff]
        refine ⟨fun h3 => ?_, fun h3 => ?_⟩
        · have h3 := of_decide_eq_true h3
          rw [SplitB_iff]
          refine ⟨fun h4 => ?_, fun h4 => ?_⟩
          · have h4 := of_decide_eq_true h4
            rw [SplitB_iff]
            refine ⟨fun h5 => ?_, fun h5 => ?_⟩
            · have h5 := of_decide_eq_true h5
              refine h.drew.read2 1 0 ⟨_, rfl, rfl⟩ rfl ?_
              refine (rown_st h.drew hw (by omega)).mono ?_
              rintro _ w2 ⟨rfl, h⟩
              refine ⟨h.still2 1 0 ⟨_, rfl, rfl⟩ rfl, ?_⟩
              refine ReadN.k2Eq ?_
              rw [eq_ep x r.own]
              rw [SplitB_iff]
              refine ⟨fun h6 => ?_, fun h6 => ?_⟩
              · have h6 : x = r.own := of_decide_eq_true h6
                refine h.readB 1 0 ⟨_, rfl, rfl⟩ rfl rfl ?_
                refine hk _ _ ⟨?_, h⟩
                dsimp only
                by_cases h7 : x.1 > 0
                · rw [decide_eq_true h7, decide_eq_true ⟨h1, h2, h3, h4, h5, h6, h7⟩]
                · rw [decide_eq_false h7, decide_eq_false fun hh => h7 hh.2.2.2.2.2.2]
              · have h6 : ¬ x = r.own := of_decide_eq_false h6
                exact hk _ _ ⟨(decide_eq_false fun hh => h6 hh.2.2.2.2.2.1).symm, h⟩
            · have h5 := of_decide_eq_false h5
              exact hk _ _ ⟨(decide_eq_false fun hh => h5 hh.2.2.2.2.1).symm, h.drew⟩
          · have h4 := of_decide_eq_false h4
            exact hk _ _ ⟨(decide_eq_false fun hh => h4 hh.2.2.2.1).symm, h.drew⟩
        · have h3 := of_decide_eq_false h3
          exact hk _ _ ⟨(decide_eq_false fun hh => h3 hh.2.2.1).symm, h.drew⟩
      · have h2 := of_decide_eq_false h2
        exact hk _ _ ⟨(decide_eq_false fun hh => h2 hh.2.1).symm, h.drew⟩
    · have h1 : ¬ fr ≠ (r.me : Int) := by simpa using h1
      exact hk _ _ ⟨(decide_eq_false fun hh => h1 hh.1).symm, h.drew⟩
/-! ### Look -/
def Rn.looks (r : Rn) (limit rights held : Int) : Prop := r.own.1 ≠ 0 ∧ (okA [limit, rights, held] = true ∧ limit ≠ 0) ∧ rights + held + r.reported = limit ∧ (r.needs = true → r.all = true)
instance (r : Rn) (a b c : Int) : Decidable (r.looks a b c) := by unfold Rn.looks; exact inferInstance
def Rn.look (r : Rn) (limit rights held : Int) : List A6 := if r.looks limit rights held then [(4, (r.me : Int), r.own.1, r.own.2, 0, 0)] else []
theorem rlook_st {r : Rm} {N : Nat} (h : St w0 w (rmE r :: F)) (hw : r.wf N) (hN : N ≤ 1000000000) (limit rights held : Int) : CallK Try.prog .sl 38 #[.pointer r.p, .int .i64 limit, .int .i64 rights, .int .i64 held] w
    fun (s : Sl) w' => s.len = (r.look limit rights held).length ∧ St w0 w' ([.row 114 6 s (acs (r.look limit rights held))] :: rmE r :: F) := by
  refine T38.calls ?_
  unfold T38
  have hn := hw.n
  refine (rown_st h hw hN).mono ?_
  rintro _ w1 ⟨rfl, h⟩
  first | refine h.newB (NewC.run _) rfl ?_ | refine h.drew.newB (NewC.run _) rfl ?_
  intro b9 w h
  have h := h.ord 2 [1, 0]
  dsimp only [pick, nthO, dropO] at h
  refine h.stor2 1 0 ⟨_, rfl, rfl⟩ rfl ?_
  intro w2 h
  dsimp only [updG, setO] at h
  refine JoinX.mk (fun (y : Bool × Unit) w' => y.1 = !decide (r.looks limit rights held) ∧ St w0 w' (rmE r :: [.cel b9 54 [.int .i64 r.own.1, .int .i64 r.own.2]] :: F)) ?_ ?_
  · rintro ⟨y, ⟨⟩⟩ w3 ⟨hy, h⟩
    dsimp only at hy
    subst hy
    rw [SplitB_iff]
    refine ⟨fun hc => ?_, fun hc => ?_⟩
    · have hc : ¬ r.looks limit rights held := by simpa using hc
      rw [Rn.look, if_neg hc]
      exact ⟨rfl, (h.drop 1).nilrow 114 6⟩
    · have hc : r.looks limit rights held := by simpa using hc
      rw [Rn.look, if_pos hc]
      repeat (first | (with_reducible refine NilP.mk ?_) | ((with_reducible refine RunN.isLoad ?_); (first | refine h.load2 0 0 ⟨_, rfl, rfl⟩ rfl ?_ | refine h.loadB 0 0 ⟨_, rfl, rfl⟩ rfl rfl ?_ | refine h.load2 1 0 ⟨_, rfl, rfl⟩ rfl ?_ | refine h.loadB 1 0 ⟨_, rfl, rfl⟩ rfl rfl ?_ | refine h.drew.load2 0 0 ⟨_, rfl, rfl⟩ rfl ?_ | refine h.drew.loadB 0 0 ⟨_, rfl, rfl⟩ rfl rfl ?_ | refine h.drew.load2 1 0 ⟨_, rfl, rfl⟩ rfl ?_ | refine h.drew.loadB 1 0 ⟨_, rfl, rfl⟩ rfl rfl ?_)) | ((with_reducible refine ReadN.isLoad ?_); (first | refine h.read2 0 0 ⟨_, rfl, rfl⟩ rfl ?_ | refine h.readB 0 0 ⟨_, rfl, rfl⟩ rfl rfl ?_ | refine h.read2 1 0 ⟨_, rfl, rfl⟩ rfl ?_ | refine h.readB 1 0 ⟨_, rfl, rfl⟩ rfl rfl ?_ | refine h.drew.read2 0 0 ⟨_, rfl, rfl⟩ rfl ?_ | refine h.drew.readB 0 0 ⟨_, rfl, rfl⟩ rfl rfl ?_ | refine h.drew.read2 1 0 ⟨_, rfl, rfl⟩ rfl ?_ | refine h.drew.readB 1 0 ⟨_, rfl, rfl⟩ rfl rfl ?_)) | ((with_reducible refine StillV.isLoad ?_); (first | refine ⟨h.stillB 0 0 ⟨_, rfl, rfl⟩ rfl rfl, ?_⟩ | refine ⟨h.still2 0 0 ⟨_, rfl, rfl⟩ rfl, ?_⟩ | refine ⟨h.stillB 1 0 ⟨_, rfl, rfl⟩ rfl rfl, ?_⟩ | refine ⟨h.still2 1 0 ⟨_, rfl, rfl⟩ rfl, ?_⟩)) | ((with_reducible refine RunU.isStor ?_); (first | (refine h.stor2 0 0 ⟨_, rfl, rfl⟩ rfl ?_; intro w h; dsimp only [updG, setO] at h) | (refine h.storB 0 0 ⟨_, rfl, rfl⟩ rfl rfl rfl ?_; intro w h; dsimp only [updG, setO] at h) | (refine h.stor2 1 0 ⟨_, rfl, rfl⟩ rfl ?_; intro w h; dsimp only [updG, setO] at h) | (refine h.storB 1 0 ⟨_, rfl, rfl⟩ rfl rfl rfl ?_; intro w h; dsimp only [updG, setO] at h) | (refine h.drew.stor2 0 0 ⟨_, rfl, rfl⟩ rfl ?_; intro w h; dsimp only [updG, setO] at h) | (refine h.drew.storB 0 0 ⟨_, rfl, rfl⟩ rfl rfl rfl ?_; intro w h; dsimp only [updG, setO] at h) | (refine h.drew.stor2 1 0 ⟨_, rfl, rfl⟩ rfl ?_; intro w h; dsimp only [updG, setO] at h) | (refine h.drew.storB 1 0 ⟨_, rfl, rfl⟩ rfl rfl rfl ?_; intro w h; dsimp only [updG, setO] at h))) | ((with_reducible refine RunN.isBox ?_); (first | (refine h.newB run_boxA rfl ?_; intro bn w h; try dsimp only at h; have h := h.ord 2 [1, 0]; dsimp only [pick, nthO, dropO] at h) | (refine h.drew.newB run_boxA rfl ?_; intro bn w h; try dsimp only at h; have h := h.ord 2 [1, 0]; dsimp only [pick, nthO, dropO] at h))) | ((with_reducible refine RunN.isNew ?_); (first | (refine h.newB (NewC.run _) rfl ?_; intro bn w h; have h := h.ord 2 [1, 0]; dsimp only [pick, nthO, dropO] at h) | (refine h.drew.newB (NewC.run _) rfl ?_; intro bn w h; have h := h.ord 2 [1, 0]; dsimp only [pick, nthO, dropO] at h))) | (refine RunN.k2Eq ?_) | (refine RunN.k2Ne ?_) | (refine ReadN.k2Eq ?_) | (refine ReadN.k2Ne ?_))
      refine newA h.drew (4, (r.me : Int), r.own.1, r.own.2, 0, 0) ?_
      intro s w4 hs h
      exact ⟨hs, h.drop 2⟩
  · intro k hk
    refine h.loadB 1 0 ⟨_, rfl, rfl⟩ rfl rfl ?_
    rw [SplitB_iff]
    refine ⟨fun h1 => ?_, fun h1 => ?_⟩
    · have h1 : r.own.1 = 0 := by simpa using h1
      exact hk _ _ ⟨by dsimp only; rw [decide_eq_false fun hf => hf.1 h1]; rfl, h⟩
    have h1 : r.own.1 ≠ 0 := by simpa using h1
    refine (right_st limit rights held).mono ?_
    rintro _ w4 ⟨rfl, rfl⟩
    rw [SplitB_iff]
    refine ⟨fun h2 => ?_, fun h2 => ?_⟩
    · have h2 : ¬ (okA [limit, rights, held] = true ∧ limit ≠ 0) := by
        intro hh
        rw [hh.1, decide_eq_true hh.2] at h2
        cases h2
      exact hk _ _ ⟨by dsimp only; rw [decide_eq_false fun hf => h2 hf.2.1]; rfl, h⟩
    have h2 : okA [limit, rights, held] = true ∧ limit ≠ 0 := by
      have h2 : (okA [limit, rights, held] && decide (limit ≠ 0)) = true := by simpa using h2
      rw [Bool.and_eq_true] at h2
      exact ⟨h2.1, of_decide_eq_true h2.2⟩
    refine (rreported_st h hw hN).mono ?_
    rintro _ w5 ⟨rfl, h⟩
    have hb := rrepTo_bound hw r.n
    have hb : 0 ≤ r.reported ∧ r.reported ≤ r.n * 1099511627776 := hb
    have h2' := h2.1
    rw [okA_three] at h2'
    have h2' := of_decide_eq_true h2'
    have ew : IntKind.i64.wrap (IntKind.i64.wrap (rights + held) + r.reported) = rights + held + r.reported := by rw [wr (x := rights + held) (by omega), wr (by omega)]
    rw [ew]
    rw [SplitB_iff]
    refine ⟨fun h4 => ?_, fun h4 => ?_⟩
    · have h4 : rights + held + r.reported ≠ limit := by simpa using h4
      exact hk _ _ ⟨by dsimp only; rw [decide_eq_false fun hf => h4 hf.2.2.1]; rfl, h⟩
    have h4 : rights + held + r.reported = limit := by simpa using h4
    refine NilP.mk ?_
    refine h.loadB 0 0 ⟨_, rfl, rfl⟩ rfl (kd := .bool) (x := r.needs) rfl ?_
    rw [SplitB_iff]
    refine ⟨fun h5 => ?_, fun h5 => ?_⟩
    · have h5 : r.needs = true := h5
      refine (rall_st h hw hN).mono ?_
      rintro _ w6 ⟨rfl, h⟩
      refine hk _ _ ⟨?_, h⟩
      dsimp only
      by_cases h6 : r.all = true
      · rw [h6, decide_eq_true ⟨h1, h2, h4, fun _ => h6⟩]
      · rw [decide_eq_false fun hf => h6 (hf.2.2.2 h5)]; simpa using h6
    · have h5 : ¬ r.needs = true := by rw [show r.needs = false from h5]; decide
      exact hk _ _ ⟨by dsimp only; rw [decide_eq_true ⟨h1, h2, h4, fun hh => absurd hh h5⟩]; rfl, h⟩
/-! ### Finish -/
def Rn.finish (r : Rn) : List A6 × Rn := if r.own.1 = 0 then ([], r) else ({ r with over := r.over ++ [r.own] } : Rn).turn r.top
theorem rwf_finish {r : Rn} {N : Nat} (h : r.wf N) : r.finish.2.wf (N + 2) := by
  rw [Rn.finish]
  split
  · exact h.mono (by omega)
  · exact rwf_turn (rwf_over h _) _
theorem rfinish_st {r : Rm} {N : Nat} (h : St w0 w (rmE r :: F)) (hw : r.wf N) (hN : N ≤ 100000000) : CallK Try.prog .sl 40 #[.pointer r.p] w
    fun (s : Sl) w' => ∃ r' : Rm, r'.cb = r.cb ∧ r'.toRn = r.finish.2 ∧ s.len = r.finish.1.length ∧ St w0 w' ([.row 114 6 s (acs r.finish.1)] :: rmE r' :: F) := by
  refine T40.calls ?_
  unfold T40
  have hol := hw.ol
  refine (rtop_st h hw (by omega)).mono ?_
  rintro _ w1 ⟨rfl, h⟩
  first | refine h.newB (NewC.run _) rfl ?_ | refine h.drew.newB (NewC.run _) rfl ?_
  intro b3 w h
  have h := h.ord 2 [1, 0]
  dsimp only [pick, nthO, dropO] at h
  refine h.stor2 1 0 ⟨_, rfl, rfl⟩ rfl ?_
  intro w2 h
  dsimp only [updG, setO] at h
  refine (rown_st h hw (by omega)).mono ?_
  rintro _ w3 ⟨rfl, h⟩
  first | refine h.newB (NewC.run _) rfl ?_ | refine h.drew.newB (NewC.run _) rfl ?_
  intro b4 w h
  have h := h.ord 2 [1, 0]
  dsimp only [pick, nthO, dropO] at h
  refine h.stor2 1 0 ⟨_, rfl, rfl⟩ rfl ?_
  intro w4 h
  dsimp only [updG, setO] at h
  refine h.loadB 1 0 ⟨_, rfl, rfl⟩ rfl rfl ?_
  rw [SplitB_iff]
  refine ⟨fun h1 => ?_, fun h1 => ?_⟩
  · have h1 : r.own.1 = 0 := by simpa using h1
    rw [Rn.finish, if_pos h1]
    exact ⟨r, rfl, rfl, rfl, ((h.drop 1).drop 1).nilrow 114 6⟩
  · have h1 : ¬ r.own.1 = 0 := by simpa using h1
    rw [Rn.finish, if_neg h1]
    refine appOver h (by omega) 1 (b := b4) (x := r.own.1) (y := r.own.2) ⟨_, rfl, rfl⟩ ?_
    intro q' w6 h
    refine h.load2 2 0 ⟨_, rfl, rfl⟩ rfl ?_
    refine (rturn_st h (N := N + 1) (rwf_over hw _) (by omega) r.top).mono ?_
    rintro s w7 ⟨r', g1, g2, g3, h⟩
    exact ⟨r', g1, g2, g3, (h.drop 2).drop 2⟩
/-! ### Begin -/
def topR (l : List Ep) (n : Nat) : Int := (List.range n).foldl (fun (a : Int) (i : Nat) => max a (grV l (i : Int))) 0
theorem topR_succ (l : List Ep) (n : Nat) : topR l (n + 1) = max (topR l n) (grV l (n : Int)) := by rw [topR, List.range_succ, List.foldl_append]; rfl
def Rn.fresh (r : Rn) (all : Bool) : Rn := { r with known := r.known ++ [(topR r.known r.n + 1, (r.me : Int))], needs := all }
def Rn.begin_ (r : Rn) (limit rights held : Int) (all : Bool) : List A6 × Int × Rn :=
  if ¬ (okA [limit, rights, held] = true ∧ limit ≠ 0) then ([], 1, r) else if r.lives.length > 0 then ([], 62, r) else if topR r.known r.n ≥ 1099511627776 then ([], 2, r) else
  if (r.fresh all).look limit rights held = [] then ([(1, -1, topR r.known r.n + 1, (r.me : Int), 0, 0)], 0, r.fresh all) else ((r.fresh all).look limit rights held, 0, r.fresh all)
theorem rwf_fresh {r : Rn} {N : Nat} (h : r.wf N) (all : Bool) : (r.fresh all).wf (N + 1) :=
  ⟨h.n, h.me, by simp [Rn.fresh]; have := h.kl; omega, by have := h.ol; show r.over.length ≤ _; omega, by have := h.nl; show r.notes.length ≤ _; omega, h.nb⟩
theorem rwf_begin {r : Rn} {N : Nat} (h : r.wf N) (a b c : Int) (d : Bool) : (r.begin_ a b c d).2.2.wf (N + 1) := by
  rw [Rn.begin_]
  split
  · exact h.mono (Nat.le_succ _)
  split
  · exact h.mono (Nat.le_succ _)
  split
  · exact h.mono (Nat.le_succ _)
  split <;> exact rwf_fresh h d
theorem grV_ge (l : List Ep) (k : Int) : 0 ≤ grV l k := by
  have : ∀ (l : List Ep) (a : Int), 0 ≤ a → 0 ≤ l.foldl (fun n x => if x.2 = k ∧ x.1 > n then x.1 else n) a := by
    intro l
    induction l with
    | nil => intro a h; exact h
    | cons x t ih =>
      intro a h
      rw [List.foldl_cons]
      refine ih _ ?_
      split <;> omega
  exact this l 0 (Int.le_refl _)
theorem topR_ge (l : List Ep) : ∀ n, 0 ≤ topR l n
  | 0 => Int.le_refl _
  | n + 1 => by rw [topR_succ]; have := topR_ge l n; omega
theorem rbegin_st {r : Rm} {N : Nat} (h : St w0 w (rmE r :: F)) (hw : r.wf N) (hN : N ≤ 100000000) (limit rights held : Int) (all : Bool) : CallK Try.prog (.tup (.cons .sl (.cons (.int .i64) .nilT))) 31 #[.pointer r.p, .int .i64 limit, .int .i64 rights, .int .i64 held, .bool all] w
    fun (v : Sl × Int × Unit) w' => ∃ (s : Sl) (r' : Rm), v = (s, (r.begin_ limit rights held all).2.1, ()) ∧ r'.cb = r.cb ∧ r'.toRn = (r.begin_ limit rights held all).2.2 ∧ s.len = (r.begin_ limit rights held all).1.length ∧ St w0 w' ([.row 114 6 s (acs (r.begin_ limit rights held all).1)] :: rmE r' :: F) := by
  refine T31.calls ?_
  unfold T31
  have hn := hw.n
  have hkl := hw.kl
  refine (right_st limit rights held).mono ?_
  rintro _ w1 ⟨rfl, rfl⟩
  rw [SplitB_iff]
  refine ⟨fun h1 => ?_, fun h1 => ?_⟩
  · have h1 : ¬ (okA [limit, rights, held] = true ∧ limit ≠ 0) := by
      intro hh
      rw [hh.1, decide_eq_true hh.2] at h1
      cases h1
    rw [Rn.begin_, if_pos h1]
    exact ⟨_, r, rfl, rfl, rfl, rfl, h.nilrow 114 6⟩
  have h1 : ¬ ¬ (okA [limit, rights, held] = true ∧ limit ≠ 0) := by
    have h1 : (okA [limit, rights, held] && decide (limit ≠ 0)) = true := by simpa using h1
    rw [Bool.and_eq_true] at h1
    exact fun hh => hh ⟨h1.1, of_decide_eq_true h1.2⟩
  refine (rfrozen_st h hw (by omega)).mono ?_
  rintro _ w2 ⟨rfl, h⟩
  rw [SplitB_iff]
  refine ⟨fun h2 => ?_, fun h2 => ?_⟩
  · have h2 := of_decide_eq_true h2
    rw [Rn.begin_, if_neg h1, if_pos h2]
    exact ⟨_, r, rfl, rfl, rfl, rfl, h.nilrow 114 6⟩
  have h2 := of_decide_eq_false h2
  refine LoopX.mk (fun st w' => ∃ (m : Nat), st = (topR r.known m, (m : Int), ()) ∧ m ≤ r.n ∧ St w0 w' (rmE r :: F)) (fun st => ((r.n : Int) - st.2.1).toNat) ⟨0, rfl, Nat.zero_le _, h⟩ ?_
  clear h
  rintro _ w3 ⟨m, rfl, hm, h⟩ k hk
  dsimp only at hk ⊢
  repeat (first | (with_reducible refine NilP.mk ?_) | ((with_reducible refine RunN.isLoad ?_); (first | refine h.load2 0 0 ⟨_, rfl, rfl⟩ rfl ?_ | refine h.loadB 0 0 ⟨_, rfl, rfl⟩ rfl rfl ?_ | refine h.drew.load2 0 0 ⟨_, rfl, rfl⟩ rfl ?_ | refine h.drew.loadB 0 0 ⟨_, rfl, rfl⟩ rfl rfl ?_)) | ((with_reducible refine ReadN.isLoad ?_); (first | refine h.read2 0 0 ⟨_, rfl, rfl⟩ rfl ?_ | refine h.readB 0 0 ⟨_, rfl, rfl⟩ rfl rfl ?_ | refine h.drew.read2 0 0 ⟨_, rfl, rfl⟩ rfl ?_ | refine h.drew.readB 0 0 ⟨_, rfl, rfl⟩ rfl rfl ?_)) | ((with_reducible refine StillV.isLoad ?_); (first | refine ⟨h.stillB 0 0 ⟨_, rfl, rfl⟩ rfl rfl, ?_⟩ | refine ⟨h.still2 0 0 ⟨_, rfl, rfl⟩ rfl, ?_⟩)) | ((with_reducible refine RunU.isStor ?_); (first | (refine h.stor2 0 0 ⟨_, rfl, rfl⟩ rfl ?_; intro w h; dsimp only [updG, setO] at h) | (refine h.storB 0 0 ⟨_, rfl, rfl⟩ rfl rfl rfl ?_; intro w h; dsimp only [updG, setO] at h) | (refine h.drew.stor2 0 0 ⟨_, rfl, rfl⟩ rfl ?_; intro w h; dsimp only [updG, setO] at h) | (refine h.drew.storB 0 0 ⟨_, rfl, rfl⟩ rfl rfl rfl ?_; intro w h; dsimp only [updG, setO] at h))) | ((with_reducible refine RunN.isBox ?_); (first | (refine h.newB run_boxA rfl ?_; intro bn w h; try dsimp only at h; have h := h.ord 2 [1, 0]; dsimp only [pick, nthO, dropO] at h) | (refine h.drew.newB run_boxA rfl ?_; intro bn w h; try dsimp only at h; have h := h.ord 2 [1, 0]; dsimp only [pick, nthO, dropO] at h))) | ((with_reducible refine RunN.isNew ?_); (first | (refine h.newB (NewC.run _) rfl ?_; intro bn w h; have h := h.ord 2 [1, 0]; dsimp only [pick, nthO, dropO] at h) | (refine h.drew.newB (NewC.run _) rfl ?_; intro bn w h; have h := h.ord 2 [1, 0]; dsimp only [pick, nthO, dropO] at h))) | (refine RunN.k2Eq ?_) | (refine RunN.k2Ne ?_) | (refine ReadN.k2Eq ?_) | (refine ReadN.k2Ne ?_))
  rw [SplitB_iff]
  refine ⟨fun hc => ?_, fun hc => ?_⟩
  · have hc : m < r.n := by have : (m : Int) < (r.n : Int) := of_decide_eq_true hc; omega
    have hem : IntKind.i64.wrap ((m : Int) + 1) = ((m + 1 : Nat) : Int) := by rw [wr (by omega)]; omega
    refine NilP.mk ?_
    refine h.loadB 0 0 ⟨_, rfl, rfl⟩ rfl (kd := .sl) (x := r.kq) rfl ?_
    refine (greatest_st (h.rd (k := 0) (i := 1) (E := 54) (sz := 2) (s := r.kq) (vs := eps r.known) ⟨_, rfl, rfl⟩) (by omega) _).mono ?_
    rintro _ w4 ⟨rfl, rfl⟩
    refine RunN.of (kd := .int .i64) (max_i _ _ _) ?_
    rw [hem, ← topR_succ]
    exact hk _ _ ⟨m + 1, rfl, by omega, h⟩ (by dsimp only; omega)
  have hc : m = r.n := by have : ¬ (m : Int) < (r.n : Int) := of_decide_eq_false hc; omega
  subst hc
  rw [SplitB_iff]
  refine ⟨fun h3 => ?_, fun h3 => ?_⟩
  · have h3 := of_decide_eq_true h3
    rw [Rn.begin_, if_neg h1, if_neg h2, if_pos h3]
    exact ⟨_, r, rfl, rfl, rfl, rfl, h.nilrow 114 6⟩
  have h3 := of_decide_eq_false h3
  have h0 := topR_ge r.known r.n
  rw [Rn.begin_, if_neg h1, if_neg h2, if_neg h3]
  have ew : IntKind.i64.wrap (topR r.known r.n + 1) = topR r.known r.n + 1 := wr (by omega)
  rw [ew]
  refine NilP.mk ?_
  refine h.loadB 0 0 ⟨_, rfl, rfl⟩ rfl rfl ?_
  first | refine h.newB (NewC.run _) rfl ?_ | refine h.drew.newB (NewC.run _) rfl ?_
  intro b14 w h
  have h := h.ord 2 [1, 0]
  dsimp only [pick, nthO, dropO] at h
  refine h.stor2 1 0 ⟨_, rfl, rfl⟩ rfl ?_
  intro w4 h
  dsimp only [updG, setO] at h
  refine appKnown h (by omega) 1 (b := b14) ⟨_, rfl, rfl⟩ ?_
  intro q' w5 h
  refine NilP.mk ?_
  refine h.storB 0 0 (j := 5) ⟨_, rfl, rfl⟩ rfl rfl rfl ?_
  intro w6 h
  have h : St w0 w6 (rmE { r with toRn := r.fresh all, kq := q' } :: [.cel b14 54 [.int .i64 (topR r.known r.n + 1), .int .i64 (r.me : Int)]] :: F) := h
  refine (rlook_st h (rwf_fresh hw all) (by omega) limit rights held).mono ?_
  rintro s w7 ⟨hs, h⟩
  have hs : s.len = ((r.fresh all).look limit rights held).length := hs
  have h : St w0 w7 ([.row 114 6 s (acs ((r.fresh all).look limit rights held))] :: rmE { r with toRn := r.fresh all, kq := q' } :: [.cel b14 54 [.int .i64 (topR r.known r.n + 1), .int .i64 (r.me : Int)]] :: F) := h
  have hX : (if (r.fresh all).look limit rights held = [] then (([(1, -1, topR r.known r.n + 1, (r.me : Int), 0, 0)], 0, r.fresh all) : List A6 × Int × Rn) else ((r.fresh all).look limit rights held, 0, r.fresh all)) = ((if (r.fresh all).look limit rights held = [] then [(1, -1, topR r.known r.n + 1, (r.me : Int), 0, 0)] else (r.fresh all).look limit rights held), 0, r.fresh all) := by split <;> rfl
  rw [hX]
  dsimp only
  generalize hl : (r.fresh all).look limit rights held = L at *
  refine JoinX.mk (fun (y : Sl × Unit) w' => y.1.len = (if L = [] then [((1 : Int), (-1 : Int), topR r.known r.n + 1, (r.me : Int), (0 : Int), (0 : Int))] else L).length ∧ St w0 w' ([.row 114 6 y.1 (acs (if L = [] then [((1 : Int), (-1 : Int), topR r.known r.n + 1, (r.me : Int), (0 : Int), (0 : Int))] else L))] :: rmE { r with toRn := r.fresh all, kq := q' } :: F)) ?_ ?_
  · rintro ⟨y, ⟨⟩⟩ w8 ⟨hy, h⟩
    exact ⟨y, { r with toRn := r.fresh all, kq := q' }, rfl, rfl, rfl, hy, h⟩
  · intro k3 hk3
    rw [SplitB_iff]
    refine ⟨fun hd => ?_, fun hd => ?_⟩
    · have hd : L = [] := by
        have : (s.len : Int) = 0 := by simpa using hd
        exact List.length_eq_zero_iff.1 (by omega)
      refine h.load2 2 0 ⟨_, rfl, rfl⟩ rfl ?_
      refine newA h (1, -1, topR r.known r.n + 1, (r.me : Int), 0, 0) ?_
      intro s2 w8 hs2 h
      refine hk3 _ _ ⟨?_, ?_⟩
      · rw [if_pos hd]; exact hs2
      · rw [if_pos hd]; exact (h.drop 1).drop 2
    · have hd : L ≠ [] := by
        have : ¬ (s.len : Int) = 0 := by simpa using hd
        intro hn; rw [hn] at hs; simp at hs; omega
      refine hk3 _ _ ⟨?_, ?_⟩
      · rw [if_neg hd]; exact hs
      · rw [if_neg hd]; exact h.drop 2
/-! ### New -/
def rn0 (me n : Nat) : Rn := ⟨me, n, [], [], [], false⟩
theorem rwf0 {me n : Nat} (h : 2 ≤ n ∧ n ≤ 16) (hm : me < n) : (rn0 me n).wf 0 := ⟨h, hm, by simp [rn0], by simp [rn0], by simp [rn0], fun x hx => by simp [rn0] at hx⟩
theorem rnew_st (h : St w0 w F) (me n : Int) : CallK Try.prog (.tup (.cons .ptr (.cons (.int .i64) .nilT))) 29 #[.int .i64 me, .int .i64 n] w fun (v : Option Addr × Int × Unit) w' =>
    (newE me n ≠ 0 ∧ v = (none, newE me n, ()) ∧ St w0 w' F) ∨
    (newE me n = 0 ∧ ∃ r : Rm, v = (r.p, 0, ()) ∧ (r.me : Int) = me ∧ (r.n : Int) = n ∧ r.toRn = rn0 r.me r.n ∧ r.wf 0 ∧ St w0 w' (rmE r :: F)) := by
  refine T29.calls ?_
  unfold T29
  refine JoinX.mk (fun (y : Bool × Unit) w' => y.1 = decide (n < 2 ∨ n > 16) ∧ St w0 w' F) ?_ ?_
  · rintro ⟨y, ⟨⟩⟩ w2 ⟨hy, h⟩
    dsimp only at hy
    subst hy
    rw [SplitB_iff]
    refine ⟨fun h1 => ?_, fun h1 => ?_⟩
    · have h1 := of_decide_eq_true h1
      have e : newE me n = 1 := if_pos h1
      exact .inl ⟨by rw [e]; decide, by rw [e], h⟩
    have h1 := of_decide_eq_false h1
    refine JoinX.mk (fun (y : Bool × Unit) w' => y.1 = decide (me < 0 ∨ me ≥ n) ∧ St w0 w' F) ?_ ?_
    · rintro ⟨y, ⟨⟩⟩ w3 ⟨hy, h⟩
      dsimp only at hy
      subst hy
      rw [SplitB_iff]
      refine ⟨fun h2 => ?_, fun h2 => ?_⟩
      · have h2 := of_decide_eq_true h2
        have e : newE me n = 3 := (if_neg h1).trans (if_pos h2)
        exact .inl ⟨by rw [e]; decide, by rw [e], h⟩
      have h2 := of_decide_eq_false h2
      have e : newE me n = 0 := (if_neg h1).trans (if_neg h2)
      obtain ⟨m', rfl⟩ := Int.eq_ofNat_of_zero_le (show 0 ≤ me by omega)
      obtain ⟨n', rfl⟩ := Int.eq_ofNat_of_zero_le (show 0 ≤ n by omega)
      refine h.newB run_boxA rfl ?_
      intro cb w5 h
      have h := ((h.nilrow 118 4).nilrow 54 2).nilrow 54 2
      have h : St w0 w5 (rmE ⟨rn0 m' n', cb, ⟨none, 0, 0⟩, ⟨none, 0, 0⟩, ⟨none, 0, 0⟩⟩ :: F) := by
        have h := h.ord 4 [3, 0, 1, 2]
        exact h.perm (by simp [rmE, rmC, rn0, pick, nthO, dropO])
      exact .inr ⟨e, ⟨rn0 m' n', cb, _, _, _⟩, rfl, rfl, rfl, rfl, rwf0 (by omega) (by omega), h⟩
    · intro k hk
      rw [SplitB_iff]
      refine ⟨fun h2 => ?_, fun h2 => ?_⟩
      · have h2 : me < 0 := of_decide_eq_true h2
        exact hk _ _ ⟨by simp [h2], h⟩
      · have h2 : ¬ me < 0 := of_decide_eq_false h2
        exact hk _ _ ⟨by simp [h2], h⟩
  · intro k hk
    rw [SplitB_iff]
    refine ⟨fun h2 => ?_, fun h2 => ?_⟩
    · have h2 : n < 2 := of_decide_eq_true h2
      exact hk _ _ ⟨by simp [h2], h⟩
    · have h2 : ¬ n < 2 := of_decide_eq_false h2
      exact hk _ _ ⟨by simp [h2], h⟩
end Go.Proofs.Ytmfbmfppjdkeeaa

/- The plain law: the epoch's machine and the document's tell the same. -/
namespace Go.Proofs.Ytmfbmfppjdkeeaa
open Go Go.Fw Go.RowKit
set_option linter.unusedVariables false
set_option linter.unusedSimpArgs false
set_option maxRecDepth 4000
set_option maxHeartbeats 1000000

structure Rel (e : Mv) (r : Rn) : Prop where
  me : r.me = e.me
  n : r.n = e.n
  needs : r.needs = e.needs
  kn : ∀ i : Nat, i < e.n → gI e.kn i = grV r.known (i : Int)
  fi : ∀ i : Nat, i < e.n → gI e.fi i = grV r.over (i : Int)
  hi : ∀ i : Nat, e.n ≤ i → gI e.kn i = 0
  fm : gI e.fi e.me ≤ gI e.kn e.me
  re : someE e.own = true → ∀ i : Nat, i < e.n → i ≠ e.me → (gI e.re i = -1 ∧ repV r.notes e.own (i : Int) = none) ∨ (0 ≤ gI e.re i ∧ repV r.notes e.own (i : Int) = some (gI e.re i))
  rme : someE e.own = true → gI e.re e.me = -1
  nt : ∀ x ∈ r.notes, x.1 ≠ (e.me : Int) ∧ x.2.2.1 ≤ gI e.kn e.me
variable {e : Mv} {r : Rn}
theorem someE_iff (x : Ep) : someE x = true ↔ x ≠ (0, 0) := by
  rw [someE]
  constructor
  · rintro h rfl; cases h
  · intro h
    by_cases h1 : x.1 = 0
    · by_cases h2 : x.2 = 0
      · exact absurd (Prod.ext h1 h2) h
      · simp [h2]
    · simp [h1]
theorem someE_pos {x : Ep} (h : x.1 > 0) : someE x = true := (someE_iff x).2 fun he => by rw [he] at h; exact absurd h (by decide)
theorem topE_mem : ∀ (l : List Ep), topE l = (0, 0) ∨ topE l ∈ l := by
  have : ∀ (l : List Ep) (a : Ep), l.foldl (fun t x => if x.1 ≥ t.1 then x else t) a = a ∨ l.foldl (fun t x => if x.1 ≥ t.1 then x else t) a ∈ l := by
    intro l
    induction l with
    | nil => intro a; exact .inl rfl
    | cons x t ih =>
      intro a
      rw [List.foldl_cons]
      rcases ih (if x.1 ≥ a.1 then x else a) with h | h
      · rw [h]
        split
        · exact .inr (List.mem_cons_self ..)
        · exact .inl rfl
      · exact .inr (List.mem_cons_of_mem _ h)
  exact fun l => this l (0, 0)
theorem topE_le : ∀ (l : List Ep), ∀ x ∈ l, x.1 ≤ (topE l).1 := by
  have : ∀ (l : List Ep) (a : Ep), a.1 ≤ (l.foldl (fun t x => if x.1 ≥ t.1 then x else t) a).1 ∧ ∀ x ∈ l, x.1 ≤ (l.foldl (fun t x => if x.1 ≥ t.1 then x else t) a).1 := by
    intro l
    induction l with
    | nil => intro a; exact ⟨Int.le_refl _, fun x hx => by cases hx⟩
    | cons y t ih =>
      intro a
      rw [List.foldl_cons]
      obtain ⟨h1, h2⟩ := ih (if y.1 ≥ a.1 then y else a)
      have h3 : y.1 ≤ (if y.1 ≥ a.1 then y else a).1 := by split <;> omega
      have h4 : a.1 ≤ (if y.1 ≥ a.1 then y else a).1 := by split <;> omega
      refine ⟨by omega, fun x hx => ?_⟩
      rcases List.mem_cons.1 hx with rfl | hx
      · omega
      · exact h2 x hx
  exact fun l => (this l (0, 0)).2
theorem mem_lives {x : Ep} : x ∈ e.lives ↔ ∃ i, i < e.n ∧ e.lv i = true ∧ x = (gI e.kn i, (i : Int)) := by
  rw [Mv.lives, List.mem_map]
  constructor
  · rintro ⟨i, hi, rfl⟩
    have := List.mem_filter.1 hi
    exact ⟨i, List.mem_range.1 this.1, this.2, rfl⟩
  · rintro ⟨i, h1, h2, rfl⟩
    exact ⟨i, List.mem_filter.2 ⟨List.mem_range.2 h1, h2⟩, rfl⟩
theorem live_pos (h : e.wf) {i : Nat} (hi : i < e.n) (hl : e.lv i = true) : 1 ≤ gI e.kn i := by
  have hn := h.n
  have h1 := h.fb _ (gI_mem (l := e.fi) (i := i) (by rw [h.fl]; omega))
  have h2 : gI e.kn i > gI e.fi i := of_decide_eq_true hl
  omega
theorem own_live (h : e.wf) : (e.lv e.me = true ∧ e.own = (gI e.kn e.me, (e.me : Int)) ∧ e.own.1 ≥ 1 ∧ someE e.own = true) ∨ (e.lv e.me = false ∧ e.own = (0, 0) ∧ someE e.own = false) := by
  cases hl : e.lv e.me with
  | true =>
    have e1 : e.own = (gI e.kn e.me, (e.me : Int)) := by rw [Mv.own, Mv.ep, if_pos hl]
    have := live_pos h h.me hl
    exact .inl ⟨rfl, e1, by rw [e1]; exact this, someE_pos (by rw [e1]; exact this)⟩
  | false =>
    have e1 : e.own = (0, 0) := by rw [Mv.own, Mv.ep, if_neg (by rw [hl]; decide)]
    exact .inr ⟨rfl, e1, by rw [e1]; rfl⟩
theorem own_some (h : e.wf) : someE e.own = true ↔ e.own.1 > 0 := by
  rcases own_live h with ⟨_, _, h1, h2⟩ | ⟨_, h1, h2⟩
  · exact ⟨fun _ => h1, fun _ => h2⟩
  · rw [h1]; exact ⟨fun h => (by cases h), fun h => (by cases h)⟩
theorem own_zero (h : e.wf) : e.own.1 = 0 ↔ ¬ someE e.own = true := by
  rcases own_live h with ⟨_, _, h1, h2⟩ | ⟨_, h1, h2⟩
  · exact ⟨fun h => by omega, fun h => absurd h2 h⟩
  · rw [h1]; exact ⟨fun _ => by decide, fun _ => rfl⟩
theorem top_some (h : e.wf) : (e.lives = [] ∧ e.top = (0, 0)) ∨ (e.lives ≠ [] ∧ e.top ∈ e.lives ∧ e.top.1 ≥ 1 ∧ someE e.top = true) := by
  by_cases hl : e.lives = []
  · exact .inl ⟨hl, by rw [Mv.top, hl]; rfl⟩
  · right
    obtain ⟨x, hx⟩ := List.exists_mem_of_ne_nil _ hl
    obtain ⟨i, h1, h2, rfl⟩ := mem_lives.1 hx
    have h3 := live_pos h h1 h2
    have h4 := topE_le _ _ hx
    have h5 : e.top.1 ≥ 1 := by rw [Mv.top]; dsimp only at h4; omega
    refine ⟨hl, ?_, h5, someE_pos h5⟩
    rcases topE_mem e.lives with h6 | h6
    · rw [Mv.top, h6] at h5; exact absurd h5 (by decide)
    · exact h6
theorem own_mem (h : e.wf) (hs : someE e.own = true) : e.own ∈ e.lives := by
  rcases own_live h with ⟨h1, h2, _, _⟩ | ⟨_, _, h1⟩
  · rw [h2]; exact mem_lives.2 ⟨e.me, h.me, h1, rfl⟩
  · rw [h1] at hs; cases hs
theorem top_of_own (h : e.wf) (hs : someE e.own = true) : e.top.1 ≥ 1 ∧ someE e.top = true := by
  rcases top_some h with ⟨h1, _⟩ | ⟨_, _, h2, h3⟩
  · have := own_mem h hs; rw [h1] at this; cases this
  · exact ⟨h2, h3⟩
theorem top_zero (h : e.wf) : e.top.1 = 0 ↔ someE e.top = false := by
  rcases top_some h with ⟨_, h1⟩ | ⟨_, _, h2, h3⟩
  · rw [h1]; exact ⟨fun _ => rfl, fun _ => rfl⟩
  · rw [h3]; exact ⟨fun h => by omega, fun h => by cases h⟩
theorem top_pos (h : e.wf) : e.top.1 > 0 ↔ someE e.top = true := by
  rcases top_some h with ⟨_, h1⟩ | ⟨_, _, h2, h3⟩
  · rw [h1]; exact ⟨fun h => (by cases h), fun h => (by cases h)⟩
  · rw [h3]; exact ⟨fun _ => rfl, fun _ => by omega⟩
namespace Rel
theorem lvE (h : Rel e r) {i : Nat} (hi : i < e.n) : r.lv i = e.lv i := by rw [Rn.lv, Mv.lv, h.kn i hi, h.fi i hi]
theorem livesTo (h : Rel e r) : ∀ m, m ≤ e.n → r.livesTo m = e.livesTo m
  | 0, _ => rfl
  | m + 1, hm => by rw [rlivesTo_succ, livesTo_succ, h.livesTo m (by omega), h.lvE (by omega), h.kn m (by omega)]
theorem lives (h : Rel e r) : r.lives = e.lives := by rw [Rn.lives, h.n]; exact h.livesTo _ (Nat.le_refl _)
theorem top (h : Rel e r) : r.top = e.top := by rw [Rn.top, Mv.top, h.lives]
theorem own (h : Rel e r) (hw : e.wf) : r.own = e.own := by
  rw [Rn.own, h.lives, h.me]
  rcases own_live hw with ⟨h1, h2, _, _⟩ | ⟨h1, h2, _⟩
  · cases hf : e.lives.find? (fun x => x.2 == (e.me : Int)) with
    | none =>
      rw [List.find?_eq_none] at hf
      have := hf _ (mem_lives.2 ⟨e.me, hw.me, h1, rfl⟩)
      simp at this
    | some x =>
      have h3 := List.mem_of_find?_eq_some hf
      have h4 := List.find?_some hf
      obtain ⟨i, h5, h6, rfl⟩ := mem_lives.1 h3
      have : i = e.me := by have : (i : Int) = (e.me : Int) := by simpa using h4
                            omega
      subst this
      rw [h2]; rfl
  · have hf : e.lives.find? (fun x => x.2 == (e.me : Int)) = none := by
      rw [List.find?_eq_none]
      intro x hx
      obtain ⟨i, h5, h6, rfl⟩ := mem_lives.1 hx
      intro h7
      have : i = e.me := by have : (i : Int) = (e.me : Int) := by simpa using h7
                            omega
      subst this
      rw [h1] at h6; cases h6
    rw [hf, h2]; rfl
end Rel
theorem gI_set {l : List Int} {i j : Nat} {x : Int} (hi : i < l.length) : gI (l.set i x) j = if j = i then x else gI l j := by
  rw [gI, gI, List.getElem?_set]
  by_cases h : i = j
  · subst h; rw [if_pos rfl, if_pos hi, if_pos rfl]; rfl
  · rw [if_neg h, if_neg (fun h' => h h'.symm)]
/-! ### told -/
theorem foreign_iff (h : Rel e r) (x : Ep) : e.foreign x ↔ (r.one x ∧ x.2 ≠ (r.me : Int)) := by
  rw [Mv.foreign, Rn.one, h.me, h.n]
  simp only [not_or]
  constructor
  · rintro ⟨h1, h2, h3, h4, h5⟩; exact ⟨⟨by omega, by omega, by omega, by omega⟩, h5⟩
  · rintro ⟨⟨h1, h2, h3, h4⟩, h5⟩; exact ⟨by omega, by omega, by omega, by omega, h5⟩
theorem foreign_ix {x : Ep} (h : e.foreign x) : ∃ i : Nat, x.2 = (i : Int) ∧ x.2.toNat = i ∧ i < e.n ∧ i ≠ e.me ∧ 1 ≤ x.1 ∧ x.1 ≤ 1099511627776 := by
  simp only [Mv.foreign, not_or] at h
  refine ⟨x.2.toNat, by omega, rfl, by omega, by omega, by omega, by omega⟩
theorem gr_at (l : List Ep) (x : Ep) (k : Nat) (i : Nat) (hx : x.2 = (i : Int)) : grV (l ++ [x]) (k : Int) = if k = i then max (grV l (k : Int)) x.1 else grV l (k : Int) := by
  rw [grV_snoc, hx]
  by_cases h : k = i
  · subst h
    rw [if_pos rfl]
    by_cases h2 : x.1 > grV l (k : Int)
    · rw [if_pos ⟨rfl, h2⟩]; omega
    · rw [if_neg (fun hh => h2 hh.2)]; omega
  · rw [if_neg h, if_neg]
    intro hh
    have := hh.1
    omega
theorem own_same {e' : Mv} (h1 : e'.me = e.me) (h2 : gI e'.kn e.me = gI e.kn e.me) (h3 : gI e'.fi e.me = gI e.fi e.me) : e'.own = e.own := by
  rw [Mv.own, Mv.own, h1, Mv.ep, Mv.ep, Mv.lv, Mv.lv, h2, h3]
theorem rel_told (h : Rel e r) (hw : e.wf) (x : Ep) : Rel (e.told x false) (r.told x) := by
  have hn := hw.n
  by_cases hf : e.foreign x
  · have hr := (foreign_iff h x).1 hf
    rw [Mv.told, if_pos hf, Rn.told, if_pos hr]
    obtain ⟨i, h1, h2, h3, h4, h5, h6⟩ := foreign_ix hf
    have hl : i < e.kn.length := by rw [hw.kl]; omega
    simp only [h2, Bool.false_eq_true, if_false]
    have hk : ∀ j, gI (e.kn.set i (max (gI e.kn i) x.1)) j = if j = i then max (gI e.kn i) x.1 else gI e.kn j := fun j => gI_set hl
    have ho : ({ e with kn := e.kn.set i (max (gI e.kn i) x.1), fi := e.fi } : Mv).own = e.own := own_same rfl (by rw [hk, if_neg (Ne.symm h4)]) rfl
    refine ⟨h.me, h.n, h.needs, fun j hj => ?_, h.fi, fun j hj => ?_, ?_, ?_, ?_, ?_⟩
    · dsimp only at hj ⊢
      rw [hk, gr_at _ _ _ _ h1]
      split
      · rename_i he; subst he; rw [h.kn _ h3]
      · exact h.kn j hj
    · dsimp only at hj ⊢
      rw [hk, if_neg (by omega)]
      exact h.hi j hj
    · dsimp only
      rw [hk, if_neg (Ne.symm h4)]; exact h.fm
    · rw [ho]; exact h.re
    · rw [ho]; exact h.rme
    · dsimp only
      rw [hk, if_neg (Ne.symm h4)]; exact h.nt
  · have hr := fun hh => hf ((foreign_iff h x).2 hh)
    rw [Mv.told, if_neg hf, Rn.told, if_neg hr]
    exact h
theorem rel_told2 (h : Rel e r) (hw : e.wf) (x : Ep) : Rel (e.told x true) (r.told2 x) := by
  have hn := hw.n
  have h0 := rel_told h hw x
  by_cases hf : e.foreign x
  · have hr := (foreign_iff h x).1 hf
    rw [Mv.told, if_pos hf, Rn.told2, if_pos hr]
    rw [Mv.told, if_pos hf] at h0
    obtain ⟨i, h1, h2, h3, h4, h5, h6⟩ := foreign_ix hf
    have hl : i < e.fi.length := by rw [hw.fl]; omega
    simp only [h2, Bool.false_eq_true, if_false, if_true] at h0 ⊢
    have hk : ∀ j, gI (e.fi.set i (max (gI e.fi i) x.1)) j = if j = i then max (gI e.fi i) x.1 else gI e.fi j := fun j => gI_set hl
    have ho : ({ e with kn := e.kn.set i (max (gI e.kn i) x.1), fi := e.fi.set i (max (gI e.fi i) x.1) } : Mv).own = ({ e with kn := e.kn.set i (max (gI e.kn i) x.1), fi := e.fi } : Mv).own := own_same rfl rfl (by dsimp only; rw [hk, if_neg (Ne.symm h4)])
    have hov : (r.told x).over = r.over := by rw [Rn.told]; split <;> rfl
    refine ⟨h0.me, h0.n, h0.needs, h0.kn, fun j hj => ?_, h0.hi, ?_, ?_, ?_, h0.nt⟩
    · dsimp only at hj ⊢
      rw [hov, hk, gr_at _ _ _ _ h1]
      split
      · rename_i he; subst he; rw [h.fi _ h3]
      · exact h.fi j hj
    · have := h0.fm
      dsimp only at this ⊢
      rw [hk, if_neg (Ne.symm h4)]; exact this
    · rw [ho]; exact h0.re
    · rw [ho]; exact h0.rme
  · have hr := fun hh => hf ((foreign_iff h x).2 hh)
    rw [Mv.told, if_neg hf, Rn.told2, if_neg hr]
    exact h
/-! ### turn -/
theorem rel_fin (h : Rel e r) (hw : e.wf) (hs : someE e.own = true) : Rel { e with fi := e.fi.set e.me e.own.1 } { r with over := r.over ++ [r.own] } := by
  have hn := hw.n
  have hm := hw.me
  rcases own_live hw with ⟨h1, h2, h3, _⟩ | ⟨_, _, h1⟩
  · have hl : e.me < e.fi.length := by rw [hw.fl]; omega
    have hk : ∀ j, gI (e.fi.set e.me e.own.1) j = if j = e.me then e.own.1 else gI e.fi j := fun j => gI_set hl
    have hlv : gI e.kn e.me > gI e.fi e.me := of_decide_eq_true h1
    have ho : ({ e with fi := e.fi.set e.me e.own.1 } : Mv).own = (0, 0) := by
      rw [Mv.own, Mv.ep, if_neg]
      rw [Mv.lv]
      dsimp only
      rw [hk, if_pos rfl, h2]
      simp
    have hno : someE ({ e with fi := e.fi.set e.me e.own.1 } : Mv).own = true → False := by rw [ho]; intro h; cases h
    refine ⟨h.me, h.n, h.needs, h.kn, fun j hj => ?_, h.hi, ?_, fun hh => (hno hh).elim, fun hh => (hno hh).elim, h.nt⟩
    · dsimp only at hj ⊢
      rw [hk, h.own hw, gr_at _ _ _ e.me (by rw [h2])]
      split
      · rename_i he; subst he
        rw [← h.fi _ hm, h2]
        dsimp only; omega
      · exact h.fi j hj
    · dsimp only
      rw [hk, if_pos rfl, h2]; exact Int.le_refl _
  · rw [h1] at hs; cases hs
theorem turn_eq (h : Rel e r) (hw : e.wf) {was : Ep} (hwas : was = (0, 0) ∨ was.1 ≥ 1) : (e.turn was).1 = (r.turn was).1 ∧ Rel (e.turn was).2 (r.turn was).2 := by
  have hown := h.own hw
  have htop := h.top
  have ht : e.turns ↔ r.turns := by
    rw [Mv.turns, Rn.turns, hown, htop, own_some hw]
  by_cases hc : e.turns
  · have hs := hc.1
    have hne := hc.2
    obtain ⟨ht1, ht2⟩ := top_of_own hw hs
    rw [Mv.turn, if_pos hc, Rn.turn, if_pos (ht.1 hc)]
    refine ⟨?_, rel_fin h hw hs⟩
    rw [tailA, if_neg (by rintro (h1 | ⟨_, h1⟩) <;> exact hne h1), if_neg (by rw [ht2]; decide), hown, htop, h.me]; rfl
  · rw [Mv.turn, if_neg hc, Rn.turn, if_neg (fun hh => hc (ht.2 hh)), hown, htop, h.me]
    by_cases h1 : e.top.1 > 0 ∧ e.top ≠ e.own ∧ e.top ≠ was
    · rw [if_pos h1]
      refine ⟨?_, h⟩
      rw [tailA, if_neg (by rintro (h2 | ⟨_, h2⟩); exact h1.2.2 h2; exact h1.2.1 h2), if_neg (by rw [(top_pos hw).1 h1.1]; decide)]
    · rw [if_neg h1]
      by_cases h2 : e.top.1 = 0 ∧ was.1 > 0
      · rw [if_pos h2]
        refine ⟨?_, h⟩
        have hz := (top_zero hw).1 h2.1
        rw [tailA, if_neg, if_pos hz]
        rintro (h3 | ⟨h3, h4⟩)
        · rw [h3] at h2; omega
        · rw [← h4, hz] at h3; cases h3
      · rw [if_neg h2]
        refine ⟨?_, h⟩
        rw [tailA, if_pos]
        by_cases h3 : e.top.1 > 0
        · by_cases h4 : e.top = was
          · exact .inl h4
          · right
            have h5 : e.top = e.own := by
              by_cases h5 : e.top = e.own
              · exact h5
              · exact absurd ⟨h3, h5, h4⟩ h1
            exact ⟨by rw [← h5]; exact (top_pos hw).1 h3, h5⟩
        · left
          rcases top_some hw with ⟨_, h4⟩ | ⟨_, _, h4, _⟩
          · rcases hwas with h5 | h5
            · rw [h4, h5]
            · exact absurd ⟨by rw [h4], by omega⟩ h2
          · omega
theorem top_was (hw : e.wf) : e.top = (0, 0) ∨ e.top.1 ≥ 1 := by
  rcases top_some hw with ⟨_, h1⟩ | ⟨_, _, h2, h3⟩
  · exact .inl h1
  · exact .inr h2
theorem hear_eq (h : Rel e r) (hw : e.wf) (x : Ep) : (e.hear x).1 = (r.hear x).1 ∧ Rel (e.hear x).2 (r.hear x).2 := by
  rw [Mv.hear, Rn.hear, h.top]
  exact turn_eq (rel_told h hw x) (wf_told hw x false) (top_was hw)
theorem end_eq (h : Rel e r) (hw : e.wf) (x y : Ep) : (e.end_ x y).1 = (r.end_ x y).1 ∧ Rel (e.end_ x y).2 (r.end_ x y).2 := by
  rw [Mv.end_, Rn.end_, h.top]
  have h1 := rel_told2 h hw x
  have hw1 := wf_told hw x true
  exact turn_eq (rel_told h1 hw1 y) (wf_told hw1 y false) (top_was hw)
theorem finish_eq (h : Rel e r) (hw : e.wf) : e.finish.1 = r.finish.1 ∧ Rel e.finish.2 r.finish.2 := by
  rw [Mv.finish, Rn.finish, h.own hw, h.top]
  by_cases hs : someE e.own = true
  · rw [if_pos hs, if_neg (fun hh => (own_zero hw).1 hh hs)]
    have h1 := rel_fin h hw hs
    rw [h.own hw] at h1
    exact turn_eq h1 (wf_fin hw) (top_was hw)
  · rw [if_neg hs, if_pos ((own_zero hw).2 hs)]
    exact ⟨rfl, h⟩
/-! ### reports -/
theorem repV_snoc (l : List Nt) (own : Ep) (x : Nt) (k : Int) (h0 : own.1 > 0) (hx : (x.2.2.1, x.2.2.2) = own) : repV (l ++ [x]) own k = if x.1 = k then some x.2.1 else repV l own k := by
  rw [repV, if_pos h0, repV, if_pos h0, List.filter_append, List.filter_cons, List.filter_nil]
  have h1 : x.2.2.1 = own.1 := congrArg Prod.fst hx
  have h2 : x.2.2.2 = own.2 := congrArg Prod.snd hx
  by_cases hk : x.1 = k
  · rw [if_pos hk, if_pos (by simp [isN, hk, h1, h2])]
    simp
  · rw [if_neg hk, if_neg (by simp [isN, hk]), List.append_nil]
theorem fitsR_iff (h : Rel e r) (hw : e.wf) (fr : Int) (x : Ep) (held : Int) : e.fitsR fr x held ↔ r.fitsR fr x held := by
  rw [Mv.fitsR, Rn.fitsR, h.me, h.n, h.own hw]
  constructor
  · rintro ⟨h1, h2, h3, h4, h5, h6, h7⟩
    refine ⟨h3, h1, h2, h6, h7, h5, ?_⟩
    rw [h5] at h4 ⊢
    exact (own_some hw).1 h4
  · rintro ⟨h1, h2, h3, h4, h5, h6, h7⟩
    exact ⟨h2, h3, h1, someE_pos h7, h6, h4, h5⟩
theorem report_rel (h : Rel e r) (hw : e.wf) (fr : Int) (x : Ep) (held : Int) : Rel (e.report fr x held) (r.report fr x held) := by
  have hn := hw.n
  by_cases hf : e.fitsR fr x held
  · have hr := (fitsR_iff h hw fr x held).1 hf
    rw [Mv.report, if_pos hf, Rn.report, if_pos hr]
    obtain ⟨h1, h2, h3, h4, h5, h6, h7⟩ := hf
    obtain ⟨i, hi⟩ := Int.eq_ofNat_of_zero_le h1
    have hin : fr.toNat = i := by omega
    rw [hin]
    have hl : i < e.re.length := by rw [hw.rl]; omega
    have hk : ∀ j, gI (e.re.set i held) j = if j = i then held else gI e.re j := fun j => gI_set hl
    have ho : ({ e with re := e.re.set i held } : Mv).own = e.own := rfl
    have hs : someE e.own = true := by rw [← h5]; exact h4
    have hp := (own_some hw).1 hs
    have him : i ≠ e.me := by omega
    refine ⟨h.me, h.n, h.needs, h.kn, h.fi, h.hi, h.fm, fun _ j hj hjm => ?_, fun _ => ?_, fun y hy => ?_⟩
    · rw [ho]
      dsimp only at hj hjm ⊢
      rw [hk, repV_snoc _ _ _ _ hp (by rw [h5])]
      by_cases he : j = i
      · subst he
        rw [if_pos rfl, if_pos (by dsimp only; omega)]
        exact .inr ⟨h6, rfl⟩
      · rw [if_neg he, if_neg (by dsimp only; omega)]
        exact h.re hs j hj hjm
    · dsimp only
      rw [hk, if_neg (Ne.symm him)]
      exact h.rme hs
    · rcases List.mem_append.1 hy with hy | hy
      · exact h.nt y hy
      · simp at hy; subst hy
        refine ⟨h3, ?_⟩
        dsimp only
        rcases own_live hw with ⟨_, g1, _, _⟩ | ⟨_, _, g1⟩
        · rw [h5, g1]; exact Int.le_refl _
        · rw [hs] at g1; cases g1
  · have hr := fun hh => hf ((fitsR_iff h hw fr x held).2 hh)
    rw [Mv.report, if_neg hf, Rn.report, if_neg hr]
    exact h
theorem rep_me (h : Rel e r) (hw : e.wf) : r.rep (e.me : Int) = none := by
  rw [Rn.rep, repV]
  split
  · have : r.notes.filter (isN r.own (e.me : Int)) = [] := by
      rw [List.filter_eq_nil_iff]
      intro x hx
      have := (h.nt x hx).1
      simp [isN, this]
    rw [this]; rfl
  · rfl
theorem rep_at (h : Rel e r) (hw : e.wf) (hs : someE e.own = true) {i : Nat} (hi : i < e.n) : (r.rep (i : Int)).getD 0 = max (gI e.re i) 0 ∧ ((r.rep (i : Int)).isSome = false ↔ gI e.re i = -1) := by
  by_cases hm : i = e.me
  · subst hm
    rw [rep_me h hw, h.rme hs]; exact ⟨rfl, fun _ => rfl, fun _ => rfl⟩
  · rw [Rn.rep, h.own hw]
    rcases h.re hs i hi hm with ⟨h1, h2⟩ | ⟨h1, h2⟩
    · rw [h2, h1]; exact ⟨rfl, fun _ => rfl, fun _ => rfl⟩
    · rw [h2]
      refine ⟨?_, fun h => (by cases h), fun h => (by omega)⟩
      show gI e.re i = _
      omega
theorem reported_eq (h : Rel e r) (hw : e.wf) : r.reported = e.reported := by
  have hn := hw.n
  rw [Rn.reported, Mv.reported, h.n]
  by_cases hs : someE e.own = true
  · rw [if_pos hs]
    have : ∀ m, m ≤ e.n → r.repTo m = repTo e.re m := by
      intro m
      induction m with
      | zero => intro _; rfl
      | succ m ih =>
        intro hm
        rw [rrepTo_succ, repTo_succ (by rw [hw.rl]; omega), ih (by omega), (rep_at h hw hs (by omega)).1]
    exact this _ (Nat.le_refl _)
  · rw [if_neg hs]
    have : ∀ m, r.repTo m = 0 := by
      intro m
      induction m with
      | zero => rfl
      | succ m ih =>
        rw [rrepTo_succ, ih, Rn.rep, repV, h.own hw, if_neg (fun hh => hs ((own_some hw).2 hh))]; rfl
    exact this _
theorem all_eq (h : Rel e r) (hw : e.wf) : e.all = (decide (e.own.1 > 0) && r.all) := by
  by_cases hs : someE e.own = true
  · rw [Mv.all, hs, Bool.and_true, decide_eq_true ((own_some hw).1 hs), Bool.true_and, Rn.all, h.n, h.me]
    rw [Bool.eq_iff_iff, List.all_eq_true, List.all_eq_true]
    refine forall_congr' fun i => forall_congr' fun hi => ?_
    have h1 := (rep_at h hw hs (List.mem_range.1 hi)).2
    by_cases h2 : gI e.re i = -1
    · rw [h1.2 h2, h2]; simp
    · have h3 : (r.rep (i : Int)).isSome = true := by
        cases hh : (r.rep (i : Int)).isSome with
        | true => rfl
        | false => exact absurd (h1.1 hh) h2
      rw [h3]; simp [h2]
  · rw [Mv.all, decide_eq_false (fun hh => hs ((own_some hw).2 hh))]
    have : someE e.own = false := by simpa using hs
    rw [this, Bool.and_false, Bool.false_and]
theorem looks_iff (h : Rel e r) (hw : e.wf) (a b c : Int) : e.looks a b c ↔ r.looks a b c := by
  rw [Mv.looks, Rn.looks, h.own hw, reported_eq h hw, h.needs]
  constructor
  · rintro ⟨h1, h2, h3, h4, h5⟩
    refine ⟨fun hh => (own_zero hw).1 hh h1, ⟨h2, h3⟩, h4, fun hn => ?_⟩
    have := h5 hn
    rw [all_eq h hw, Bool.and_eq_true] at this
    exact this.2
  · rintro ⟨h1, ⟨h2, h3⟩, h4, h5⟩
    have hs : someE e.own = true := by
      rcases own_live hw with ⟨_, _, _, g⟩ | ⟨_, g, _⟩
      · exact g
      · rw [g] at h1; exact absurd rfl h1
    refine ⟨hs, h2, h3, h4, fun hn => ?_⟩
    rw [all_eq h hw, decide_eq_true ((own_some hw).1 hs), Bool.true_and]
    exact h5 hn
theorem look_eq (h : Rel e r) (hw : e.wf) (a b c : Int) : e.look a b c = r.look a b c := by
  rw [Mv.look, Rn.look, h.own hw, h.me]
  by_cases hc : e.looks a b c
  · rw [if_pos hc, if_pos ((looks_iff h hw a b c).1 hc)]
  · rw [if_neg hc, if_neg fun hh => hc ((looks_iff h hw a b c).2 hh)]
/-! ### Begin -/
theorem top16_eq (h : Rel e r) (hw : e.wf) : top16 e.kn = topR r.known e.n := by
  have hn := hw.n
  have h1 : ∀ m, m ≤ e.n → (e.kn.take m).foldl max 0 = topR r.known m := by
    intro m
    induction m with
    | zero => intro _; rfl
    | succ m ih =>
      intro hm
      rw [foldl_take (by rw [hw.kl]; omega), topR_succ, ih (by omega), h.kn m (by omega)]
  have h2 : ∀ m, e.n + m ≤ 16 → (e.kn.take (e.n + m)).foldl max 0 = topR r.known e.n := by
    intro m
    induction m with
    | zero => intro _; exact h1 _ (Nat.le_refl _)
    | succ m ih =>
      intro hm
      have := topR_ge r.known e.n
      rw [← Nat.add_assoc, foldl_take (by rw [hw.kl]; omega), ih (by omega), h.hi _ (by omega)]
      omega
  have h3 := h2 (16 - e.n) (by omega)
  rw [List.take_of_length_le (by rw [hw.kl]; omega)] at h3
  exact h3
theorem gr_le_top (l : List Ep) : ∀ (n i : Nat), i < n → grV l (i : Int) ≤ topR l n
  | 0, i, h => by omega
  | n + 1, i, h => by
    rw [topR_succ]
    rcases Nat.lt_or_ge i n with h1 | h1
    · have := gr_le_top l n i h1; omega
    · have : i = n := by omega
      subst this; omega
theorem fresh_rel (h : Rel e r) (hw : e.wf) (hno : someE e.top = false) (all : Bool) : Rel (e.fresh all) (r.fresh all) ∧ (e.fresh all).own = (topR r.known r.n + 1, (e.me : Int)) := by
  have hn := hw.n
  have hm := hw.me
  have ht := top16_eq h hw
  have hl : e.me < e.kn.length := by rw [hw.kl]; omega
  have hk : ∀ j, gI (e.kn.set e.me (top16 e.kn + 1)) j = if j = e.me then top16 e.kn + 1 else gI e.kn j := fun j => gI_set hl
  have hle := gr_le_top r.known e.n e.me hm
  rw [← h.kn _ hm] at hle
  have hfm := h.fm
  have hlv : (e.fresh all).lv e.me = true := by
    rw [Mv.lv, decide_eq_true_eq]
    show gI (e.kn.set e.me (top16 e.kn + 1)) e.me > gI e.fi e.me
    rw [hk, if_pos rfl]; omega
  have ho : (e.fresh all).own = (topR r.known r.n + 1, (e.me : Int)) := by
    rw [Mv.own, show (e.fresh all).me = e.me from rfl, Mv.ep, if_pos hlv]
    show (gI (e.kn.set e.me (top16 e.kn + 1)) e.me, _) = _
    rw [hk, if_pos rfl, ht, h.n]
  have hge := topR_ge r.known r.n
  refine ⟨⟨h.me, h.n, rfl, fun j hj => ?_, h.fi, fun j hj => ?_, ?_, fun _ j hj hjm => ?_, fun _ => ?_, fun x hx => ?_⟩, ho⟩
  · show gI (e.kn.set e.me (top16 e.kn + 1)) j = grV (r.known ++ [(topR r.known r.n + 1, (r.me : Int))]) (j : Int)
    have hj : j < e.n := hj
    rw [hk, gr_at _ _ _ e.me (by rw [h.me])]
    split
    · rename_i he; subst he
      have := h.kn _ hj
      dsimp only
      rw [h.n]; omega
    · exact h.kn j hj
  · show gI (e.kn.set e.me (top16 e.kn + 1)) j = 0
    have hj : e.n ≤ j := hj
    rw [hk, if_neg (by omega)]
    exact h.hi j hj
  · show gI e.fi e.me ≤ gI (e.kn.set e.me (top16 e.kn + 1)) e.me
    rw [hk, if_pos rfl]; omega
  · left
    have hj : j < e.n := hj
    refine ⟨?_, ?_⟩
    · show gI (List.replicate 16 (-1)) j = -1
      rw [gI, List.getElem?_replicate, if_pos (by omega)]; rfl
    · rw [ho, repV]
      split
      · have : (r.fresh all).notes.filter (isN (topR r.known r.n + 1, (e.me : Int)) (j : Int)) = [] := by
          rw [List.filter_eq_nil_iff]
          intro x hx
          have h1 := (h.nt x hx).2
          have : x.2.2.1 ≠ topR r.known r.n + 1 := by rw [h.n]; omega
          simp [isN, this]
        rw [this]; rfl
      · rfl
  · show gI (List.replicate 16 (-1)) e.me = -1
    rw [gI, List.getElem?_replicate, if_pos (by omega)]; rfl
  · have := h.nt x hx
    refine ⟨this.1, ?_⟩
    show _ ≤ gI (e.kn.set e.me (top16 e.kn + 1)) e.me
    rw [hk, if_pos rfl]; omega
theorem begin_eq (h : Rel e r) (hw : e.wf) (a b c : Int) (d : Bool) : (e.begin_ a b c d).1 = (r.begin_ a b c d).1 ∧ (e.begin_ a b c d).2.1 = (r.begin_ a b c d).2.1 ∧ Rel (e.begin_ a b c d).2.2 (r.begin_ a b c d).2.2 := by
  rw [Mv.begin_, Rn.begin_]
  by_cases h1 : okA [a, b, c] = true ∧ a ≠ 0
  · rw [if_neg (by rintro (h2 | h2); rw [h1.1] at h2; cases h2; exact h1.2 h2), if_neg (show ¬ ¬ (okA [a, b, c] = true ∧ a ≠ 0) from fun hh => hh h1)]
    by_cases h2 : someE e.top = true
    · rw [if_pos h2, if_pos (c := r.lives.length > 0)]
      · exact ⟨rfl, rfl, h⟩
      · rw [h.lives]
        rcases top_some hw with ⟨_, g⟩ | ⟨g, _, _, _⟩
        · rw [g] at h2; cases h2
        · exact List.length_pos_iff.2 g
    · rw [if_neg h2, if_neg (c := r.lives.length > 0)]
      · have h2 : someE e.top = false := by simpa using h2
        rw [top16_eq h hw, ← h.n]
        by_cases h3 : topR r.known r.n ≥ 1099511627776
        · rw [if_pos h3, if_pos h3]; exact ⟨rfl, rfl, h⟩
        · rw [if_neg h3, if_neg h3]
          obtain ⟨g1, g2⟩ := fresh_rel h hw h2 d
          have hw2 := wf_fresh hw (by rw [top16_eq h hw, ← h.n]; omega) d
          rw [look_eq g1 hw2]
          by_cases h4 : (r.fresh d).look a b c = []
          · rw [if_neg (fun hh => hh h4), if_pos h4, g2, h.me]
            exact ⟨rfl, rfl, g1⟩
          · rw [if_pos h4, if_neg h4]
            exact ⟨rfl, rfl, g1⟩
      · rw [h.lives]
        rcases top_some hw with ⟨g, _⟩ | ⟨_, _, _, g⟩
        · rw [g]; simp
        · exact absurd g h2
  · rw [if_pos (by
      by_cases h2 : okA [a, b, c] = true
      · right
        by_cases h3 : a = 0
        · exact h3
        · exact absurd ⟨h2, h3⟩ h1
      · left; simpa using h2), if_pos (show ¬ (okA [a, b, c] = true ∧ a ≠ 0) from h1)]
    exact ⟨rfl, rfl, h⟩
theorem rel0 {me n : Nat} : Rel (mv0 me n) (rn0 me n) := by
  have hg : ∀ i, gI (List.replicate 16 (0 : Int)) i = 0 := by
    intro i; rw [gI, List.getElem?_replicate]; split <;> rfl
  have ho : (mv0 me n).own = (0, 0) := by
    rw [Mv.own, Mv.ep, if_neg]
    rw [Mv.lv]
    show ¬ decide (gI (List.replicate 16 0) me > gI (List.replicate 16 0) me) = true
    simp
  refine ⟨rfl, rfl, rfl, fun i _ => hg i, fun i _ => hg i, fun i _ => hg i, by rw [show (mv0 me n).fi = List.replicate 16 0 from rfl, hg, show (mv0 me n).kn = List.replicate 16 0 from rfl, hg]; exact Int.le_refl _, fun hs => ?_, fun hs => ?_, fun x hx => by simp [rn0] at hx⟩
  · rw [ho] at hs; cases hs
  · rw [ho] at hs; cases hs
end Go.Proofs.Ytmfbmfppjdkeeaa

/- The world of epochs, in plain words: what always holds. -/
namespace Go.Proofs.Ytmfbmfppjdkeeaa
open Go Go.Fw Go.RowKit
set_option linter.unusedVariables false
set_option linter.unusedSimpArgs false
set_option maxHeartbeats 1000000

structure No where
  m : Mv
  ri : Int
  he : Int
  wait : List Bool
  own : Bool
  y : Ep
  told : Bool
structure Ms where
  kind : Int
  fr : Int
  to : Int
  e : Ep
  ov : Ep
  ri : Int
  he : Int
structure Wo where
  N : List No
  bag : List Ms
  lim : Int
  begun : Int
  ended : Int
  turn : Int
  wrong : Bool
def rsum (l : List No) : Int := (l.map fun x => x.ri + x.he).sum
def bsum (l : List Ms) : Int := (l.map (·.ri)).sum
theorem bsum_app (a b : List Ms) : bsum (a ++ b) = bsum a + bsum b := by simp [bsum]
theorem sum_nonneg : ∀ {l : List Int}, (∀ x ∈ l, 0 ≤ x) → 0 ≤ l.sum
  | [], _ => by simp
  | x :: r, h => by
    have h1 := h x (List.mem_cons_self ..)
    have h2 := sum_nonneg (l := r) fun y hy => h y (List.mem_cons_of_mem _ hy)
    rw [List.sum_cons]; omega
theorem rsum_set {l : List No} {k : Nat} {x x' : No} (h : l[k]? = some x) : rsum (l.set k x') = rsum l - (x.ri + x.he) + (x'.ri + x'.he) := by
  induction l generalizing k with
  | nil => simp at h
  | cons a r ih => cases k with
    | zero =>
      simp at h; subst h
      simp [rsum]; omega
    | succ k =>
      have := ih (k := k) (by simpa using h)
      simp only [rsum, List.set_cons_succ, List.map_cons, List.sum_cons] at this ⊢
      omega
structure NoOk (n i : Nat) (b : Int) (x : No) : Prop where
  wf : x.m.wf
  me : x.m.me = i
  nn : x.m.n = n
  ri : 0 ≤ x.ri
  he : 0 ≤ x.he
  kb : ∀ y ∈ x.m.kn, y ≤ b
  fk : ∀ j, gI x.m.fi j ≤ gI x.m.kn j
  ot : x.m.lv i = true → x.m.top = x.m.own
  ow : x.m.lv i = true → x.own = x.m.needs
  rm : x.m.lv i = true → gI x.m.re i = -1
/-- What f owes to i's epoch of the round r, where it lives: it holds just h, it knows of it, it has none of its own. -/
def Obl (X : Wo) (f i : Nat) (r h : Int) : Prop := ∀ xi xf : No, X.N[i]? = some xi → X.N[f]? = some xf → gI xi.m.kn i = r → gI xi.m.fi i < r → h = xf.he ∧ r ≤ gI xf.m.kn i ∧ xf.m.lv f = false
def EpOk (X : Wo) (e : Ep) : Prop := e.1 ≤ 0 ∨ ∃ (j : Nat) (y : No), e.2 = (j : Int) ∧ X.N[j]? = some y ∧ e.1 ≤ gI y.m.kn j
structure MsOk (X : Wo) (m : Ms) : Prop where
  to : ∃ t : Nat, m.to = (t : Int) ∧ t < X.N.length
  fr : ∃ f : Nat, m.fr = (f : Int) ∧ f < X.N.length
  ri : 0 ≤ m.ri
  e : EpOk X m.e
  ov : EpOk X m.ov
  fin : m.kind = 5 ∨ m.kind = 7 → ∀ (j : Nat) (y : No), m.e.2 = (j : Int) → X.N[j]? = some y → m.e.1 ≤ gI y.m.fi j
  yld : m.kind = 4 → ∀ f j : Nat, m.fr = (f : Int) → m.e.2 = (j : Int) → f ≠ j ∧ Obl X f j m.e.1 m.he
structure Wi (ex : Int) (X : Wo) : Prop where
  n : 2 ≤ X.N.length ∧ X.N.length ≤ 5
  lim : 1 ≤ X.lim ∧ X.lim ≤ 30
  ok : ∀ (i : Nat) (x : No), X.N[i]? = some x → NoOk X.N.length i X.begun x
  kk : ∀ (i : Nat) (x : No) (j : Nat) (y : No), X.N[i]? = some x → X.N[j]? = some y → gI x.m.kn j ≤ gI y.m.kn j
  ff : ∀ (i : Nat) (x : No) (j : Nat) (y : No), X.N[i]? = some x → X.N[j]? = some y → gI x.m.fi j ≤ gI y.m.fi j
  re : ∀ (i : Nat) (xi : No) (f : Nat), X.N[i]? = some xi → f < X.N.length → f ≠ i → xi.m.lv i = true → gI xi.m.re f ≠ -1 → Obl X f i (gI xi.m.kn i) (gI xi.m.re f)
  bag : ∀ m ∈ X.bag, MsOk X m
  sum : rsum X.N + bsum X.bag + ex = X.lim
  ex : 0 ≤ ex
  wrong : X.wrong = false
theorem lv_iff {e : Mv} {i : Nat} : e.lv i = true ↔ gI e.fi i < gI e.kn i := by rw [Mv.lv, decide_eq_true_iff]
theorem lv_no {e : Mv} {i : Nat} : e.lv i = false ↔ gI e.kn i ≤ gI e.fi i := by rw [Mv.lv, decide_eq_false_iff_not]; omega
theorem kn_nonneg {e : Mv} (h : e.wf) (i : Nat) : 0 ≤ gI e.kn i := by
  by_cases hi : i < 16
  · exact (h.kb _ (gI_mem (by rw [h.kl]; exact hi))).1
  · rw [gI, List.getElem?_eq_none (by rw [h.kl]; omega)]; exact Int.le_refl _
theorem fi_nonneg {e : Mv} (h : e.wf) (i : Nat) : 0 ≤ gI e.fi i := by
  by_cases hi : i < 16
  · exact (h.fb _ (gI_mem (by rw [h.fl]; exact hi))).1
  · rw [gI, List.getElem?_eq_none (by rw [h.fl]; omega)]; exact Int.le_refl _
theorem EpOk.le {X : Wo} {e : Ep} (h : EpOk X e) {j : Nat} {y : No} (he : e.2 = (j : Int)) (hy : X.N[j]? = some y) (hw : y.m.wf) : e.1 ≤ gI y.m.kn j := by
  rcases h with h | ⟨j', y', h1, h2, h3⟩
  · have := kn_nonneg hw j; omega
  · have : j' = j := by omega
    subst this
    rw [h2] at hy; cases hy; exact h3
structure Chg (n k : Nat) (x x' : No) : Prop where
  kn : ∀ j, gI x.m.kn j ≤ gI x'.m.kn j
  fi : ∀ j, gI x.m.fi j ≤ gI x'.m.fi j
  debt : x.m.lv k = false → (∃ i, i < n ∧ i ≠ k ∧ x.m.lv i = true) → x'.he = x.he ∧ x'.m.lv k = false
section
variable {ex ex' : Int} {X X' : Wo} {k : Nat} {x x' : No}
theorem get_lt {i : Nat} (h : X.N[i]? = some x) : i < X.N.length := (List.getElem?_eq_some_iff.1 h).1
theorem set_self {l : List No} (h : l[k]? = some x) : (l.set k x')[k]? = some x' := by
  have := (List.getElem?_eq_some_iff.1 h).1
  simp [this]
theorem set_ne {l : List No} {i : Nat} (h : i ≠ k) : (l.set k x')[i]? = l[i]? := List.getElem?_set_ne (Ne.symm h)
theorem Obl.step (hI : Wi ex X) (hx : X.N[k]? = some x) (c : Chg X.N.length k x x') (hN : X'.N = X.N.set k x') {f i : Nat} {r h : Int} (hfi : f ≠ i) (ho : Obl X f i r h) (hr : ∀ y, X.N[i]? = some y → r ≤ gI y.m.kn i) : Obl X' f i r h := by
  intro xi' xf' hi' hf' hkn hfin
  rw [hN] at hi' hf'
  by_cases hik : i = k
  · subst hik
    rw [set_self hx] at hi'; cases hi'
    rw [set_ne hfi] at hf'
    have h1 := hr x hx
    have h2 := c.kn i
    have h3 := c.fi i
    exact ho x xf' hx hf' (by omega) (by omega)
  · rw [set_ne hik] at hi'
    by_cases hfk : f = k
    · subst hfk
      rw [set_self hx] at hf'; cases hf'
      obtain ⟨h1, h2, h3⟩ := ho xi' x hi' hx hkn hfin
      have hlt := get_lt hi'
      have h4 := hI.kk f x i xi' hx hi'
      have h5 := hI.ff f x i xi' hx hi'
      obtain ⟨h6, h7⟩ := c.debt h3 ⟨i, hlt, hik, lv_iff.2 (by omega)⟩
      have h8 := c.kn i
      exact ⟨by rw [h1, h6], by omega, h7⟩
    · rw [set_ne hfk] at hf'
      exact ho xi' xf' hi' hf' hkn hfin
theorem EpOk.step (hx : X.N[k]? = some x) (c : Chg X.N.length k x x') (hN : X'.N = X.N.set k x') {e : Ep} (h : EpOk X e) : EpOk X' e := by
  rcases h with h | ⟨j, y, h1, h2, h3⟩
  · exact .inl h
  · right
    by_cases hj : j = k
    · subst hj
      rw [hx] at h2; cases h2
      exact ⟨j, x', h1, by rw [hN]; exact set_self hx, Int.le_trans h3 (c.kn j)⟩
    · exact ⟨j, y, h1, by rw [hN, set_ne hj]; exact h2, h3⟩
theorem MsOk.step (hI : Wi ex X) (hx : X.N[k]? = some x) (c : Chg X.N.length k x x') (hN : X'.N = X.N.set k x') {m : Ms} (h : MsOk X m) : MsOk X' m := by
  have hl : X'.N.length = X.N.length := by rw [hN, List.length_set]
  refine ⟨by rw [hl]; exact h.to, by rw [hl]; exact h.fr, h.ri, h.e.step hx c hN, h.ov.step hx c hN, fun hk j y hj hy => ?_, fun hk f j hf hj => ?_⟩
  · rw [hN] at hy
    by_cases hjk : j = k
    · subst hjk
      rw [set_self hx] at hy; cases hy
      exact Int.le_trans (h.fin hk j x hj hx) (c.fi j)
    · rw [set_ne hjk] at hy
      exact h.fin hk j y hj hy
  · obtain ⟨h1, h2⟩ := h.yld hk f j hf hj
    exact ⟨h1, h2.step hI hx c hN h1 fun y hy => h.e.le hj hy (hI.ok j y hy).wf⟩
theorem Wi.set (hI : Wi ex X) (hx : X.N[k]? = some x) (c : Chg X.N.length k x x') (hN : X'.N = X.N.set k x') (hbag : X'.bag = X.bag) (hlim : X'.lim = X.lim) (hb : X.begun ≤ X'.begun) (hw : X'.wrong = false)
    (ok' : NoOk X.N.length k X'.begun x') (kk' : ∀ j y, X.N[j]? = some y → j ≠ k → gI x'.m.kn j ≤ gI y.m.kn j) (ff' : ∀ j y, X.N[j]? = some y → j ≠ k → gI x'.m.fi j ≤ gI y.m.fi j)
    (re' : x'.m.lv k = true → ∀ f, f < X.N.length → f ≠ k → gI x'.m.re f ≠ -1 → Obl X f k (gI x'.m.kn k) (gI x'.m.re f) ∧ gI x'.m.kn k = gI x.m.kn k)
    (sum' : (x'.ri + x'.he) + ex' = x.ri + x.he + ex) (hex : 0 ≤ ex') : Wi ex' X' := by
  have hl : X'.N.length = X.N.length := by rw [hN, List.length_set]
  have hget : ∀ i y, X'.N[i]? = some y → (i = k ∧ y = x') ∨ (i ≠ k ∧ X.N[i]? = some y) := fun i y hy => by
    rw [hN] at hy
    by_cases hik : i = k
    · subst hik; rw [set_self hx] at hy; cases hy; exact .inl ⟨rfl, rfl⟩
    · rw [set_ne hik] at hy; exact .inr ⟨hik, hy⟩
  refine ⟨by rw [hl]; exact hI.n, by rw [hlim]; exact hI.lim, fun i y hy => ?_, fun i y j z hy hz => ?_, fun i y j z hy hz => ?_, fun i y f hy hf hfi hlv hre => ?_, fun m hm => ?_, ?_, hex, hw⟩
  · rw [hl]
    rcases hget i y hy with ⟨rfl, rfl⟩ | ⟨_, hy⟩
    · exact ok'
    · have h := hI.ok i y hy
      exact ⟨h.wf, h.me, h.nn, h.ri, h.he, fun z hz => Int.le_trans (h.kb z hz) hb, h.fk, h.ot, h.ow, h.rm⟩
  · rcases hget i y hy with ⟨rfl, rfl⟩ | ⟨hik, hy⟩
    · rcases hget j z hz with ⟨rfl, rfl⟩ | ⟨hjk, hz⟩
      · exact Int.le_refl _
      · exact kk' j z hz hjk
    · rcases hget j z hz with ⟨rfl, rfl⟩ | ⟨hjk, hz⟩
      · exact Int.le_trans (hI.kk i y j x hy hx) (c.kn j)
      · exact hI.kk i y j z hy hz
  · rcases hget i y hy with ⟨rfl, rfl⟩ | ⟨hik, hy⟩
    · rcases hget j z hz with ⟨rfl, rfl⟩ | ⟨hjk, hz⟩
      · exact Int.le_refl _
      · exact ff' j z hz hjk
    · rcases hget j z hz with ⟨rfl, rfl⟩ | ⟨hjk, hz⟩
      · exact Int.le_trans (hI.ff i y j x hy hx) (c.fi j)
      · exact hI.ff i y j z hy hz
  · rw [hl] at hf
    rcases hget i y hy with ⟨rfl, rfl⟩ | ⟨hik, hy⟩
    · obtain ⟨h1, h2⟩ := re' hlv f hf hfi hre
      exact h1.step hI hx c hN hfi fun z hz => by rw [hx] at hz; cases hz; omega
    · exact (hI.re i y f hy hf hfi hlv hre).step hI hx c hN hfi fun z hz => by rw [hy] at hz; cases hz; exact Int.le_refl _
  · rw [hbag] at hm
    exact (hI.bag m hm).step hI hx c hN
  · rw [hN, rsum_set hx, hbag, hlim]
    have := hI.sum; omega
theorem Obl.same (hN : X'.N = X.N) {f i : Nat} {r h : Int} (ho : Obl X f i r h) : Obl X' f i r h := by
  intro xi xf hi hf; rw [hN] at hi hf; exact ho xi xf hi hf
theorem MsOk.same (hN : X'.N = X.N) {m : Ms} (h : MsOk X m) : MsOk X' m := by
  have hE : ∀ {e}, EpOk X e → EpOk X' e := fun h => by
    rcases h with h | ⟨j, y, h1, h2, h3⟩
    · exact .inl h
    · exact .inr ⟨j, y, h1, by rw [hN]; exact h2, h3⟩
  exact ⟨by rw [hN]; exact h.to, by rw [hN]; exact h.fr, h.ri, hE h.e, hE h.ov, by rw [hN]; exact h.fin, fun hk f j hf hj => ⟨(h.yld hk f j hf hj).1, (h.yld hk f j hf hj).2.same hN⟩⟩
/-- Other messages, other counts. -/
theorem Wi.bags (hI : Wi ex X) (hN : X'.N = X.N) (hlim : X'.lim = X.lim) (hb : X'.begun = X.begun) (hw : X'.wrong = false) (hbag : ∀ m ∈ X'.bag, MsOk X m) (hs : bsum X'.bag + ex' = bsum X.bag + ex) (hex : 0 ≤ ex') : Wi ex' X' := by
  refine ⟨by rw [hN]; exact hI.n, by rw [hlim]; exact hI.lim, by rw [hN, hb]; exact hI.ok, by rw [hN]; exact hI.kk, by rw [hN]; exact hI.ff, fun i y f hy hf hfi hlv hre => ?_, fun m hm => (hbag m hm).same hN, ?_, hex, hw⟩
  · rw [hN] at hy hf
    exact (hI.re i y f hy hf hfi hlv hre).same hN
  · rw [hN, hlim]
    have := hI.sum; omega
end
end Go.Proofs.Ytmfbmfppjdkeeaa

/- The world of epochs, in plain words: what a machine hears. -/
namespace Go.Proofs.Ytmfbmfppjdkeeaa
open Go Go.Fw Go.RowKit
set_option linter.unusedVariables false
set_option linter.unusedSimpArgs false
set_option maxHeartbeats 1000000

/-- What a machine has heard of others, from a to b. -/
structure Up (X : Wo) (k : Nat) (a b : Mv) : Prop where
  wf : b.wf
  me : b.me = a.me
  n : b.n = a.n
  needs : b.needs = a.needs
  re : b.re = a.re
  kn : ∀ j, gI a.kn j ≤ gI b.kn j
  fi : ∀ j, gI a.fi j ≤ gI b.fi j
  kk : gI b.kn k = gI a.kn k
  fk : gI b.fi k = gI a.fi k
  ko : ∀ (j : Nat) (y : No), X.N[j]? = some y → j ≠ k → gI b.kn j ≤ gI y.m.kn j
  fo : ∀ (j : Nat) (y : No), X.N[j]? = some y → j ≠ k → gI b.fi j ≤ gI y.m.fi j
  le : ∀ j, gI b.fi j ≤ gI b.kn j
  kb : ∀ y ∈ b.kn, y ≤ X.begun
section
variable {ex ex' : Int} {X X' : Wo} {k : Nat} {x x' : No} {a b : Mv}
theorem Up.refl (hI : Wi ex X) (hx : X.N[k]? = some x) : Up X k x.m x.m :=
  have h := hI.ok k x hx
  ⟨h.wf, rfl, rfl, rfl, rfl, fun _ => Int.le_refl _, fun _ => Int.le_refl _, rfl, rfl, fun j y hy _ => hI.kk k x j y hx hy, fun j y hy _ => hI.ff k x j y hx hy, h.fk, h.kb⟩
theorem Up.lv (h : Up X k a b) : b.lv k = a.lv k := by rw [Mv.lv, Mv.lv, h.kk, h.fk]
theorem Up.told (hI : Wi ex X) (hx : X.N[k]? = some x) (h : Up X k x.m b) {e : Ep} (he : EpOk X e) {fin : Bool} (hf : fin = true → ∀ (j : Nat) (y : No), e.2 = (j : Int) → X.N[j]? = some y → e.1 ≤ gI y.m.fi j) : Up X k x.m (b.told e fin) := by
  have hok := hI.ok k x hx
  have hwf := wf_told h.wf e fin
  unfold Mv.told at hwf ⊢
  by_cases hfo : b.foreign e
  · rw [if_pos hfo] at hwf ⊢
    simp only [Mv.foreign, not_or] at hfo
    obtain ⟨f1, f2, f3, f4, f5⟩ := hfo
    have hbn : b.n = X.N.length := by rw [h.n, hok.nn]
    have hbm : b.me = k := by rw [h.me, hok.me]
    obtain ⟨j, hj⟩ := Int.eq_ofNat_of_zero_le (show 0 ≤ e.2 by omega)
    have hjt : e.2.toNat = j := by omega
    have hjn : j < X.N.length := by omega
    have hjk : j ≠ k := by omega
    have h16 := h.wf.n
    have hy : X.N[j]? = some X.N[j] := List.getElem?_eq_getElem hjn
    have hokj := hI.ok j _ hy
    have hle := he.le hj hy hokj.wf
    have hk : ∀ i, gI (b.kn.set j (max (gI b.kn j) e.1)) i = if i = j then max (gI b.kn j) e.1 else gI b.kn i := fun i => gI_set (by rw [h.wf.kl]; omega)
    have hfi : ∀ i, gI (if fin = true then b.fi.set j (max (gI b.fi j) e.1) else b.fi) i = if fin = true ∧ i = j then max (gI b.fi j) e.1 else gI b.fi i := fun i => by
      cases fin with
      | true => rw [if_pos rfl, gI_set (by rw [h.wf.fl]; omega)]; simp
      | false => rw [if_neg (by decide)]; simp
    rw [hjt] at hwf ⊢
    refine ⟨hwf, h.me, h.n, h.needs, h.re, fun i => ?_, fun i => ?_, ?_, ?_, fun i y hi hik => ?_, fun i y hi hik => ?_, fun i => ?_, fun z hz => ?_⟩
    · show _ ≤ gI (b.kn.set j (max (gI b.kn j) e.1)) i
      rw [hk]
      have := h.kn i
      split
      · rename_i hij; subst hij; omega
      · exact this
    · show _ ≤ gI (if fin = true then b.fi.set j (max (gI b.fi j) e.1) else b.fi) i
      rw [hfi]
      have := h.fi i
      split
      · rename_i hij; obtain ⟨_, rfl⟩ := hij; omega
      · exact this
    · show gI (b.kn.set j (max (gI b.kn j) e.1)) k = _
      rw [hk, if_neg (Ne.symm hjk)]; exact h.kk
    · show gI (if fin = true then b.fi.set j (max (gI b.fi j) e.1) else b.fi) k = _
      rw [hfi, if_neg (fun hh => hjk hh.2.symm)]; exact h.fk
    · show gI (b.kn.set j (max (gI b.kn j) e.1)) i ≤ _
      rw [hk]
      have h1 := h.ko i y hi hik
      split
      · rename_i hij; subst hij
        rw [hy] at hi; cases hi; omega
      · exact h1
    · show gI (if fin = true then b.fi.set j (max (gI b.fi j) e.1) else b.fi) i ≤ _
      rw [hfi]
      have h1 := h.fo i y hi hik
      split
      · rename_i hij
        obtain ⟨hft, rfl⟩ := hij
        rw [hy] at hi; cases hi
        have := hf hft i _ hj hy
        omega
      · exact h1
    · show gI (if fin = true then b.fi.set j (max (gI b.fi j) e.1) else b.fi) i ≤ gI (b.kn.set j (max (gI b.kn j) e.1)) i
      rw [hfi, hk]
      have h1 := h.le i
      by_cases hij : i = j
      · subst hij
        rw [if_pos rfl]
        split <;> omega
      · rw [if_neg (fun hh => hij hh.2), if_neg hij]; exact h1
    · rcases List.mem_or_eq_of_mem_set hz with hz | rfl
      · exact h.kb z hz
      · have h1 := h.kb _ (gI_mem (l := b.kn) (i := j) (by rw [h.wf.kl]; omega))
        have h2 := hokj.kb _ (gI_mem (l := X.N[j].m.kn) (i := j) (by rw [hokj.wf.kl]; omega))
        omega
  · rw [if_neg hfo]; exact h
/-- A machine that has heard turns: that is how it stands then. -/
theorem Up.turn (hI : Wi ex X) (hx : X.N[k]? = some x) (h : Up X k x.m b) (was : Ep) (hN : X'.N = X.N.set k { x with m := (b.turn was).2 }) (hbag : X'.bag = X.bag) (hlim : X'.lim = X.lim) (hb : X'.begun = X.begun) (hw : X'.wrong = false) : Wi ex X' := by
  have hok := hI.ok k x hx
  have hbm : b.me = k := by rw [h.me, hok.me]
  have hlt := get_lt hx
  have h16 := h.wf.n
  have hbn : b.n = X.N.length := by rw [h.n, hok.nn]
  have hwf := wf_turn h.wf was
  have hown := own_live h.wf
  rw [hbm] at hown
  by_cases ht : b.turns
  · have e2 : (b.turn was).2 = { b with fi := b.fi.set b.me b.own.1 } := by rw [Mv.turn, if_pos ht]
    rw [e2] at hN hwf
    have hlv : b.lv k = true := by
      rcases hown with ⟨h1, _⟩ | ⟨_, h1, h2⟩
      · exact h1
      · have := ht.1; rw [h2] at this; cases this
    have ho1 : b.own.1 = gI b.kn k := by
      rcases hown with ⟨_, h1, _⟩ | ⟨h1, _⟩
      · rw [h1]
      · rw [hlv] at h1; cases h1
    have hfi : ∀ i, gI (b.fi.set k (gI b.kn k)) i = if i = k then gI b.kn k else gI b.fi i := fun i => gI_set (by rw [h.wf.fl]; omega)
    have e3 : ({ b with fi := b.fi.set b.me b.own.1 } : Mv) = { b with fi := b.fi.set k (gI b.kn k) } := by rw [hbm, ho1]
    rw [e3] at hN hwf
    have hno : (({ b with fi := b.fi.set k (gI b.kn k) } : Mv).lv k) = false := lv_no.2 (by show gI b.kn k ≤ gI (b.fi.set k (gI b.kn k)) k; rw [hfi, if_pos rfl]; exact Int.le_refl _)
    refine hI.set (x' := { x with m := { b with fi := b.fi.set k (gI b.kn k) } }) hx ⟨h.kn, fun j => ?_, fun hl _ => ⟨rfl, hno⟩⟩ hN hbag hlim (by rw [hb]; exact Int.le_refl _) hw ⟨hwf, hbm, hbn, hok.ri, hok.he, by rw [hb]; exact h.kb, fun j => ?_, fun hl => ?_, fun hl => ?_, fun hl => ?_⟩ h.ko (fun j y hy hj => ?_) (fun hl => ?_) rfl hI.ex
    · show _ ≤ gI (b.fi.set k (gI b.kn k)) j
      rw [hfi]
      have h1 := h.fi j
      have h2 := h.le j
      split
      · rename_i hjk; subst hjk; omega
      · exact h1
    · show gI (b.fi.set k (gI b.kn k)) j ≤ gI b.kn j
      rw [hfi]
      split
      · rename_i hjk; subst hjk; exact Int.le_refl _
      · exact h.le j
    · rw [hno] at hl; cases hl
    · rw [hno] at hl; cases hl
    · rw [hno] at hl; cases hl
    · show gI (b.fi.set k (gI b.kn k)) j ≤ _
      rw [hfi, if_neg hj]; exact h.fo j y hy hj
    · rw [hno] at hl; cases hl
  · have e2 : (b.turn was).2 = b := by rw [Mv.turn, if_neg ht]
    rw [e2] at hN hwf
    refine hI.set (x' := { x with m := b }) hx ⟨h.kn, h.fi, fun hl _ => ⟨rfl, by rw [h.lv]; exact hl⟩⟩ hN hbag hlim (by rw [hb]; exact Int.le_refl _) hw ⟨hwf, hbm, hbn, hok.ri, hok.he, by rw [hb]; exact h.kb, h.le, fun hl => ?_, fun hl => ?_, fun hl => ?_⟩ h.ko h.fo (fun hl f hf hfk hre => ?_) rfl hI.ex
    · have hl : b.lv k = true := hl
      rcases hown with ⟨_, _, _, h1⟩ | ⟨h1, _⟩
      · rcases Classical.em (b.top = b.own) with h2 | h2
        · exact h2
        · exact absurd ⟨h1, h2⟩ ht
      · rw [hl] at h1; cases h1
    · have hl : b.lv k = true := hl
      rw [h.lv] at hl
      rw [h.needs]; exact hok.ow hl
    · have hl : b.lv k = true := hl
      rw [h.lv] at hl
      rw [h.re]; exact hok.rm hl
    · have hl : b.lv k = true := hl
      rw [h.lv] at hl
      have hre : gI b.re f ≠ -1 := hre
      show Obl X f k (gI b.kn k) (gI b.re f) ∧ gI b.kn k = _
      rw [h.re] at hre ⊢
      rw [h.kk]
      exact ⟨hI.re k x f hx hf hfk hl hre, rfl⟩
/-- A report comes. -/
theorem Wi.report (hI : Wi ex X) (hx : X.N[k]? = some x) {m : Ms} (hm : MsOk X m) (h4 : m.kind = 4) (hN : X'.N = X.N.set k { x with m := x.m.report m.fr m.e m.he }) (hbag : X'.bag = X.bag) (hlim : X'.lim = X.lim) (hb : X'.begun = X.begun) (hw : X'.wrong = false) : Wi ex X' := by
  have hok := hI.ok k x hx
  have hwf := wf_report hok.wf m.fr m.e m.he
  have h16 := hok.wf.n
  unfold Mv.report at hwf hN
  by_cases hf : x.m.fitsR m.fr m.e m.he
  · rw [if_pos hf] at hwf hN
    obtain ⟨f1, f2, f3, f4, f5, f6⟩ := hf
    obtain ⟨f, hfr, hfn⟩ := hm.fr
    have hfk : f ≠ k := by rw [hok.me] at f3; omega
    have hft : m.fr.toNat = f := by omega
    rw [hft] at hN hwf
    have hre : ∀ i, gI (x.m.re.set f m.he) i = if i = f then m.he else gI x.m.re i := fun i => gI_set (by rw [hok.wf.rl]; omega)
    have hown := own_live hok.wf
    rw [hok.me] at hown
    have he2 : x.m.lv k = true ∧ m.e = (gI x.m.kn k, (k : Int)) := by
      rcases hown with ⟨h1, h2, _⟩ | ⟨_, h1, h2⟩
      · exact ⟨h1, by rw [f5, h2]⟩
      · rw [f5, h2] at f4; cases f4
    have hy := hm.yld h4 f k hfr (by rw [he2.2])
    refine hI.set (x' := { x with m := { x.m with re := x.m.re.set f m.he } }) hx ⟨fun _ => Int.le_refl _, fun _ => Int.le_refl _, fun hl _ => ⟨rfl, hl⟩⟩ hN hbag hlim (by rw [hb]; exact Int.le_refl _) hw ⟨hwf, hok.me, hok.nn, hok.ri, hok.he, by rw [hb]; exact hok.kb, hok.fk, hok.ot, hok.ow, fun hl => ?_⟩ (fun j y hy' hj => hI.kk k x j y hx hy') (fun j y hy' hj => hI.ff k x j y hx hy') (fun hl i hi hik hr => ?_) rfl hI.ex
    · show gI (x.m.re.set f m.he) k = -1
      rw [hre, if_neg (Ne.symm hfk)]; exact hok.rm hl
    · have hr : gI (x.m.re.set f m.he) i ≠ -1 := hr
      show Obl X i k (gI x.m.kn k) (gI (x.m.re.set f m.he) i) ∧ _
      rw [hre] at hr ⊢
      refine ⟨?_, rfl⟩
      split
      · rename_i hif; subst hif
        have := hy.2
        rw [he2.2] at this; exact this
      · rename_i hif
        rw [if_neg hif] at hr
        exact hI.re k x i hx hi hik hl hr
  · rw [if_neg hf] at hN
    refine hI.set (x' := x) hx ⟨fun _ => Int.le_refl _, fun _ => Int.le_refl _, fun hl _ => ⟨rfl, hl⟩⟩ hN hbag hlim (by rw [hb]; exact Int.le_refl _) hw (by rw [hb]; exact hok) (fun j y hy' hj => hI.kk k x j y hx hy') (fun j y hy' hj => hI.ff k x j y hx hy') (fun hl i hi hik hr => ⟨hI.re k x i hx hi hik hl hr, rfl⟩) rfl hI.ex
/-- A node's other things change. -/
theorem Wi.plain (hI : Wi ex X) (hx : X.N[k]? = some x) (hm : x'.m = x.m) (hri : 0 ≤ x'.ri) (hhe : 0 ≤ x'.he) (how : x.m.lv k = true → x'.own = x.own) (hd : x.m.lv k = false → (∃ i, i < X.N.length ∧ i ≠ k ∧ x.m.lv i = true) → x'.he = x.he)
    (hN : X'.N = X.N.set k x') (hbag : X'.bag = X.bag) (hlim : X'.lim = X.lim) (hb : X'.begun = X.begun) (hw : X'.wrong = false) (hs : (x'.ri + x'.he) + ex' = x.ri + x.he + ex) (hex : 0 ≤ ex') : Wi ex' X' := by
  have hok := hI.ok k x hx
  refine hI.set hx ⟨fun j => by rw [hm]; exact Int.le_refl _, fun j => by rw [hm]; exact Int.le_refl _, fun hl hh => ⟨hd hl hh, by rw [hm]; exact hl⟩⟩ hN hbag hlim (by rw [hb]; exact Int.le_refl _) hw
    ⟨by rw [hm]; exact hok.wf, by rw [hm]; exact hok.me, by rw [hm]; exact hok.nn, hri, hhe, by rw [hm, hb]; exact hok.kb, by rw [hm]; exact hok.fk, by rw [hm]; exact hok.ot, fun hl => by rw [hm] at hl ⊢; rw [how hl]; exact hok.ow hl, by rw [hm]; exact hok.rm⟩
    (fun j y hy' hj => by rw [hm]; exact hI.kk k x j y hx hy') (fun j y hy' hj => by rw [hm]; exact hI.ff k x j y hx hy') (fun hl i hi hik hr => by rw [hm] at hl hr ⊢; exact ⟨hI.re k x i hx hi hik hl hr, rfl⟩) hs hex
/-- The own epoch ends. -/
theorem finish_lv {e : Mv} (h : e.wf) (hl : e.lv e.me = true) : e.finish.2 = { e with fi := e.fi.set e.me (gI e.kn e.me) } := by
  have hown := own_live h
  rcases hown with ⟨_, h1, _, h2⟩ | ⟨h1, _⟩
  · have e1 : e.own.1 = gI e.kn e.me := by rw [h1]
    have hno : someE (({ e with fi := e.fi.set e.me (gI e.kn e.me) } : Mv).own) = false := by
      have h16 := h.n
      have hm := h.me
      have hl0 : (({ e with fi := e.fi.set e.me (gI e.kn e.me) } : Mv).lv e.me) = false := lv_no.2 (by
        show gI e.kn e.me ≤ gI (e.fi.set e.me (gI e.kn e.me)) e.me
        rw [gI_set (by rw [h.fl]; omega), if_pos rfl]; exact Int.le_refl _)
      rw [Mv.own, Mv.ep]
      show someE (if _ then _ else _) = false
      rw [if_neg (by rw [hl0]; decide)]; rfl
    rw [Mv.finish, if_pos h2, e1, Mv.turn, if_neg]
    rintro ⟨h3, _⟩
    rw [hno] at h3; cases h3
  · rw [hl] at h1; cases h1
theorem Wi.fin1 (hI : Wi ex X) (hx : X.N[k]? = some x) (hl : x.m.lv k = true) (hm : x'.m = x.m.finish.2) (hri : 0 ≤ x'.ri) (hhe : x'.he = x.he)
    (hN : X'.N = X.N.set k x') (hbag : X'.bag = X.bag) (hlim : X'.lim = X.lim) (hb : X'.begun = X.begun) (hw : X'.wrong = false) (hs : (x'.ri + x'.he) + ex' = x.ri + x.he + ex) (hex : 0 ≤ ex') : Wi ex' X' := by
  have hok := hI.ok k x hx
  have h16 := hok.wf.n
  have hlt := get_lt hx
  have hnn := hok.nn
  have hwf := wf_finish hok.wf
  rw [← hm] at hwf
  rw [finish_lv hok.wf (by rw [hok.me]; exact hl), hok.me] at hm
  have hfi : ∀ i, gI x'.m.fi i = if i = k then gI x.m.kn k else gI x.m.fi i := fun i => by rw [hm]; exact gI_set (by rw [hok.wf.fl]; omega)
  have hkn : x'.m.kn = x.m.kn := by rw [hm]
  have hno : x'.m.lv k = false := lv_no.2 (by rw [hfi, if_pos rfl, hkn]; exact Int.le_refl _)
  refine hI.set hx ⟨fun j => by rw [hkn]; exact Int.le_refl _, fun j => ?_, fun hl0 _ => by rw [hl] at hl0; cases hl0⟩ hN hbag hlim (by rw [hb]; exact Int.le_refl _) hw
    ⟨hwf, by rw [hm], by rw [hm]; exact hok.nn, hri, by rw [hhe]; exact hok.he, by rw [hkn, hb]; exact hok.kb, fun j => ?_, fun hl => ?_, fun hl => ?_, fun hl => ?_⟩
    (fun j y hy' hj => by rw [hkn]; exact hI.kk k x j y hx hy') (fun j y hy' hj => ?_) (fun hl => ?_) hs hex
  · rw [hfi]
    split
    · rename_i hjk; subst hjk; exact hok.fk j
    · exact Int.le_refl _
  · rw [hfi, hkn]
    split
    · rename_i hjk; subst hjk; exact Int.le_refl _
    · exact hok.fk j
  · rw [hno] at hl; cases hl
  · rw [hno] at hl; cases hl
  · rw [hno] at hl; cases hl
  · rw [hfi, if_neg hj]; exact hI.ff k x j y hx hy'
  · rw [hno] at hl; cases hl
theorem top16_le {l : List Int} {b : Int} (h : ∀ y ∈ l, y ≤ b) (hb : 0 ≤ b) : top16 l ≤ b := by
  have : ∀ (l : List Int) (a : Int), a ≤ b → (∀ y ∈ l, y ≤ b) → l.foldl max a ≤ b := by
    intro l
    induction l with
    | nil => intro a ha _; exact ha
    | cons y r ih =>
      intro a ha h
      rw [List.foldl_cons]
      exact ih _ (by have := h y (List.mem_cons_self ..); omega) fun z hz => h z (List.mem_cons_of_mem _ hz)
  exact this l 0 hb h
theorem le_top16 {l : List Int} {y : Int} (h : y ∈ l) : y ≤ top16 l := by
  have : ∀ (l : List Int) (a : Int), a ≤ l.foldl max a ∧ ∀ y ∈ l, y ≤ l.foldl max a := by
    intro l
    induction l with
    | nil => intro a; exact ⟨Int.le_refl _, fun y hy => by cases hy⟩
    | cons z r ih =>
      intro a
      rw [List.foldl_cons]
      obtain ⟨h1, h2⟩ := ih (max a z)
      refine ⟨by omega, fun y hy => ?_⟩
      rcases List.mem_cons.1 hy with rfl | hy
      · omega
      · exact h2 y hy
  exact (this l 0).2 y h
theorem not_frozen {e : Mv} (h : e.wf) (hf : someE e.top = false) {i : Nat} (hi : i < e.n) : e.lv i = false := by
  cases hl : e.lv i with
  | false => rfl
  | true =>
    exfalso
    have hm := mem_lives.2 ⟨i, hi, hl, rfl⟩
    rcases top_some h with ⟨h1, _⟩ | ⟨_, _, _, h1⟩
    · rw [h1] at hm; cases hm
    · rw [hf] at h1; cases h1
/-- An epoch begins. -/
theorem Wi.fresh (hI : Wi ex X) (hx : X.N[k]? = some x) (hf : someE x.m.top = false) (hbeg : X.begun < 1099511627776) (all : Bool) (hm : x'.m = x.m.fresh all) (how : x'.own = all) (hri : x'.ri = x.ri) (hhe : x'.he = x.he)
    (hN : X'.N = X.N.set k x') (hbag : X'.bag = X.bag) (hlim : X'.lim = X.lim) (hb : X'.begun = X.begun + 1) (hw : X'.wrong = false) : Wi ex X' := by
  have hok := hI.ok k x hx
  have h16 := hok.wf.n
  have hlt := get_lt hx
  have hnn := hok.nn
  have hb0 : 0 ≤ X.begun := by
    have := hok.kb _ (gI_mem (l := x.m.kn) (i := 0) (by rw [hok.wf.kl]; omega))
    have := kn_nonneg hok.wf 0
    omega
  have ht := top16_le hok.kb hb0
  have hwf := wf_fresh hok.wf (by omega) all
  rw [← hm] at hwf
  have hkn : ∀ i, gI x'.m.kn i = if i = k then top16 x.m.kn + 1 else gI x.m.kn i := fun i => by
    rw [hm]; show gI (x.m.kn.set x.m.me (top16 x.m.kn + 1)) i = _
    rw [hok.me]; exact gI_set (by rw [hok.wf.kl]; omega)
  have hfi : x'.m.fi = x.m.fi := by rw [hm]; rfl
  have htk : ∀ i, i < 16 → gI x.m.kn i ≤ top16 x.m.kn := fun i hi => le_top16 (gI_mem (by rw [hok.wf.kl]; exact hi))
  have hno : ∀ i, i < X.N.length → x.m.lv i = false := fun i hi => not_frozen hok.wf hf (by omega)
  have hre : ∀ i, i < 16 → gI x'.m.re i = -1 := fun i hi => by
    rw [hm]; show gI (List.replicate 16 (-1)) i = -1
    rw [gI, List.getElem?_replicate, if_pos hi]; rfl
  have hl' : ∀ i, i < X.N.length → (x'.m.lv i = true ↔ i = k) := fun i hi => by
    rw [lv_iff, hkn, hfi]
    have h1 := lv_no.1 (hno i hi)
    split
    · rename_i hik; subst hik
      have h2 := hok.fk i
      have h3 := htk i (by omega)
      exact ⟨fun _ => rfl, fun _ => by omega⟩
    · rename_i hik
      exact ⟨fun h => by omega, fun h => absurd h hik⟩
  refine hI.set hx ⟨fun j => ?_, fun j => by rw [hfi]; exact Int.le_refl _, fun hl0 ⟨i, hi, hik, hli⟩ => by rw [hno i hi] at hli; cases hli⟩ hN hbag hlim (by rw [hb]; omega) hw
    ⟨hwf, by rw [hm]; exact hok.me, by rw [hm]; exact hok.nn, by rw [hri]; exact hok.ri, by rw [hhe]; exact hok.he, fun y hy => ?_, fun j => ?_, fun _ => ?_, fun _ => by rw [how, hm]; rfl, fun _ => hre k (by omega)⟩
    (fun j y hy' hj => by rw [hkn, if_neg hj]; exact hI.kk k x j y hx hy') (fun j y hy' hj => by rw [hfi]; exact hI.ff k x j y hx hy') (fun _ f hf2 _ hr => absurd (hre f (by omega)) hr) (by rw [hri, hhe]) hI.ex
  · rw [hkn]
    split
    · rename_i hjk; subst hjk
      have := htk j (by omega); omega
    · exact Int.le_refl _
  · rw [hm] at hy
    rcases List.mem_or_eq_of_mem_set hy with hy | rfl
    · have := hok.kb y hy; omega
    · omega
  · rw [hkn, hfi]
    have := hok.fk j
    split
    · rename_i hjk; subst hjk
      have := htk j (by omega); omega
    · exact this
  · have hme : x'.m.me = k := by rw [hm]; exact hok.me
    have hn' : x'.m.n = X.N.length := by rw [hm]; exact hok.nn
    have hownl := own_live hwf
    rw [hme] at hownl
    have hlk := (hl' k hlt).2 rfl
    rcases hownl with ⟨_, h1, h2, h3⟩ | ⟨h1, _⟩
    · rcases top_some hwf with ⟨h4, _⟩ | ⟨_, h4, _, _⟩
      · have := own_mem hwf h3; rw [h4] at this; cases this
      · obtain ⟨i, hi, hli, he⟩ := mem_lives.1 h4
        have : i = k := (hl' i (by omega)).1 hli
        subst this
        rw [he, h1]
    · rw [hlk] at h1; cases h1
end
end Go.Proofs.Ytmfbmfppjdkeeaa

/- The world of epochs, in plain words: who decides has all; what is sent. -/
namespace Go.Proofs.Ytmfbmfppjdkeeaa
open Go Go.Fw Go.RowKit
set_option linter.unusedVariables false
set_option linter.unusedSimpArgs false
set_option maxHeartbeats 1000000

def Sm (f : Nat → Int) (n : Nat) : Int := ((List.range n).map f).sum
theorem Sm_succ (f : Nat → Int) (n : Nat) : Sm f (n + 1) = Sm f n + f n := by simp [Sm, List.range_succ]
theorem Sm_le {f g : Nat → Int} : ∀ {n : Nat}, (∀ j, j < n → f j ≤ g j) → Sm f n ≤ Sm g n
  | 0, _ => Int.le_refl _
  | n + 1, h => by
    have h1 := Sm_le (n := n) fun j hj => h j (by omega)
    have h2 := h n (by omega)
    rw [Sm_succ, Sm_succ]; omega
theorem Sm_eq {f g : Nat → Int} : ∀ {n : Nat}, (∀ j, j < n → f j ≤ g j) → Sm f n = Sm g n → ∀ j, j < n → f j = g j
  | 0, _, _, j, hj => absurd hj (Nat.not_lt_zero _)
  | n + 1, h, he, j, hj => by
    have h1 := Sm_le (n := n) fun j hj => h j (by omega)
    have h2 := h n (by omega)
    rw [Sm_succ, Sm_succ] at he
    rcases Nat.lt_or_ge j n with hlt | hge
    · exact Sm_eq (n := n) (fun j hj => h j (by omega)) (by omega) j hlt
    · have : j = n := by omega
      subst this; omega
theorem Sm_one {r : Nat → Int} {k : Nat} {c : Int} (hr : r k = 0) : ∀ {n : Nat}, k < n → Sm (fun j => if j = k then c else r j) n = c + Sm r n
  | 0, h => absurd h (Nat.not_lt_zero _)
  | n + 1, h => by
    rw [Sm_succ, Sm_succ]
    by_cases hn : n = k
    · subst hn
      have : Sm (fun j => if j = n then c else r j) n = Sm r n := by
        unfold Sm
        congr 1
        exact List.map_congr_left fun j hj => by
          have := List.mem_range.1 hj
          exact if_neg (by omega)
      rw [this, if_pos rfl, hr]; omega
    · have := Sm_one (c := c) hr (n := n) (by omega)
      rw [this, if_neg hn]; omega
theorem Sm_congr {f g : Nat → Int} {n : Nat} (h : ∀ j, j < n → f j = g j) : Sm f n = Sm g n := by
  unfold Sm
  congr 1
  exact List.map_congr_left fun j hj => h j (List.mem_range.1 hj)
theorem Sm_list {α : Type} (f : α → Int) (l : List α) : (l.map f).sum = Sm (fun j => (l[j]?.map f).getD 0) l.length := by
  have : ∀ n, n ≤ l.length → ((l.take n).map f).sum = Sm (fun j => (l[j]?.map f).getD 0) n := by
    intro n
    induction n with
    | zero => intro _; simp [Sm]
    | succ n ih =>
      intro hn
      rw [List.take_succ_eq_append_getElem (by omega), List.map_append, List.sum_append, ih (by omega), Sm_succ, List.getElem?_eq_getElem (by omega)]
      simp
  have h := this l.length (Nat.le_refl _)
  rwa [List.take_length] at h
theorem repTo_Sm {l : List Int} : ∀ {m : Nat}, m ≤ l.length → repTo l m = Sm (fun j => max (gI l j) 0) m
  | 0, _ => by simp [repTo, Sm]
  | m + 1, h => by rw [repTo_succ (by omega), repTo_Sm (by omega), Sm_succ]
section
variable {ex ex' : Int} {X X' : Wo} {k : Nat} {x x' : No}
def heAt (X : Wo) (k j : Nat) : Int := if j = k then 0 else (X.N[j]?.map (·.he)).getD 0
def hTo (X : Wo) (k m : Nat) : Int := Sm (heAt X k) m
structure HasAll (X : Wo) (k : Nat) (x : No) : Prop where
  ri : ∀ (j : Nat) (y : No), X.N[j]? = some y → j ≠ k → y.ri = 0
  bag : ∀ m ∈ X.bag, m.ri = 0
  rep : x.m.reported = hTo X k X.N.length
  sum : x.ri + x.he + hTo X k X.N.length = X.lim
  all : x.own = true → x.m.all = true
theorem has_all (hI : Wi 0 X) (hx : X.N[k]? = some x) (hl : x.m.lv k = true) (hlook : x.m.looks X.lim x.ri x.he) : HasAll X k x := by
  have hok := hI.ok k x hx
  have h16 := hok.wf.n
  have hlt := get_lt hx
  have hnn := hok.nn
  obtain ⟨h1, h2, h3, h4, h5⟩ := hlook
  have hrep : x.m.reported = Sm (fun j => max (gI x.m.re j) 0) X.N.length := by
    rw [Mv.reported, if_pos h1, repTo_Sm (by rw [hok.wf.rl]; omega), hnn]
  have hrk : max (gI x.m.re k) 0 = 0 := by rw [hok.rm hl]; decide
  have hone := Sm_one (r := fun j => max (gI x.m.re j) 0) (k := k) (c := x.ri + x.he) hrk hlt
  have hlist := Sm_list (fun x : No => x.ri + x.he) X.N
  have hbs : 0 ≤ bsum X.bag := sum_nonneg fun z hz => by
    obtain ⟨m, hm, rfl⟩ := List.mem_map.1 hz
    exact (hI.bag m hm).ri
  have hsum := hI.sum
  rw [rsum, hlist] at hsum
  have hle : ∀ j, j < X.N.length → (if j = k then x.ri + x.he else max (gI x.m.re j) 0) ≤ ((X.N[j]?.map fun x => x.ri + x.he).getD 0) := by
    intro j hj
    by_cases hjk : j = k
    · subst hjk; rw [if_pos rfl, hx]; exact Int.le_refl _
    · rw [if_neg hjk, List.getElem?_eq_getElem hj]
      have hokj := hI.ok j _ (List.getElem?_eq_getElem hj)
      have hri := hokj.ri; have hhe := hokj.he
      show _ ≤ X.N[j].ri + X.N[j].he
      by_cases hr : gI x.m.re j = -1
      · rw [hr]; omega
      · have := (hI.re k x j hx hj hjk hl hr x X.N[j] hx (List.getElem?_eq_getElem hj) rfl (lv_iff.1 hl)).1
        omega
  have hall := Sm_le hle
  have heq : Sm (fun j => if j = k then x.ri + x.he else max (gI x.m.re j) 0) X.N.length = Sm (fun j => ((X.N[j]?.map fun x => x.ri + x.he).getD 0)) X.N.length := by omega
  have hbz : bsum X.bag = 0 := by omega
  have hterm := Sm_eq hle heq
  have hj0 : ∀ (j : Nat) (y : No), X.N[j]? = some y → j ≠ k → y.ri = 0 ∧ max (gI x.m.re j) 0 = y.he := by
    intro j y hy hjk
    have hj := get_lt hy
    have h6 := hterm j hj
    rw [if_neg hjk, hy] at h6
    have h6 : max (gI x.m.re j) 0 = y.ri + y.he := h6
    have hokj := hI.ok j _ hy
    have hri := hokj.ri; have hhe := hokj.he
    by_cases hr : gI x.m.re j = -1
    · rw [hr] at h6 ⊢
      omega
    · have := (hI.re k x j hx hj hjk hl hr x y hx hy rfl (lv_iff.1 hl)).1
      omega
  have hrh : x.m.reported = hTo X k X.N.length := by
    rw [hrep, hTo]
    refine Sm_congr fun j hj => ?_
    by_cases hjk : j = k
    · subst hjk; rw [hrk, heAt, if_pos rfl]
    · have hy := List.getElem?_eq_getElem hj
      rw [(hj0 j _ hy hjk).2, heAt, if_neg hjk, hy]; rfl
  refine ⟨fun j y hy hjk => (hj0 j y hy hjk).1, fun m hm => ?_, hrh, by rw [← hrh]; exact h4, fun how => h5 (by rw [← hok.ow hl]; exact how)⟩
  have : ∀ (l : List Ms), (∀ m ∈ l, 0 ≤ m.ri) → bsum l = 0 → ∀ m ∈ l, m.ri = 0 := by
    intro l
    induction l with
    | nil => intro _ _ m hm; cases hm
    | cons a r ih =>
      intro hn hs m hm
      have h7 := hn a (List.mem_cons_self ..)
      have h8 : 0 ≤ bsum r := sum_nonneg fun z hz => by
        obtain ⟨m, hm, rfl⟩ := List.mem_map.1 hz
        exact hn m (List.mem_cons_of_mem _ hm)
      have hs : a.ri + bsum r = 0 := by simpa [bsum] using hs
      rcases List.mem_cons.1 hm with rfl | hm
      · omega
      · exact ih (fun m hm => hn m (List.mem_cons_of_mem _ hm)) (by omega) m hm
  exact this X.bag (fun m hm => (hI.bag m hm).ri) hbz m hm
/-- To all others. -/
def oth (n k : Nat) (m : Ms) : List Ms := ((List.range n).filter (fun j => j != k)).map fun (j : Nat) => { m with to := (j : Int) }
def othTo (n k : Nat) (m : Ms) : List Ms := oth n k m
theorem oth_succ (n k : Nat) (m : Ms) : oth (n + 1) k m = oth n k m ++ (if n = k then [] else [{ m with to := (n : Int) }]) := by
  rw [oth, List.range_succ, List.filter_append, List.map_append, oth]
  congr 1
  by_cases h : n = k
  · subst h; simp
  · simp [h]
theorem oth_len {n k : Nat} (m : Ms) : (oth n k m).length ≤ n := by
  rw [oth, List.length_map]
  exact Nat.le_trans (List.length_filter_le _ _) (by simp)
theorem bsum_oth (k : Nat) (m : Ms) : ∀ n, bsum (oth n k m) = (if k < n then (n : Int) - 1 else n) * m.ri
  | 0 => by simp [oth, bsum]
  | n + 1 => by
    rw [oth_succ, bsum_app, bsum_oth k m n]
    by_cases h : n = k
    · subst h
      rw [if_pos rfl, if_neg (Nat.lt_irrefl _), if_pos (Nat.lt_succ_self _)]
      simp [bsum]
    · rw [if_neg h]
      have e1 : bsum [({ m with to := (n : Int) } : Ms)] = m.ri := by simp [bsum]
      rw [e1]
      by_cases hk : k < n
      · rw [if_pos hk, if_pos (by omega)]
        have : ((n + 1 : Nat) : Int) - 1 = ((n : Int) - 1) + 1 := by omega
        rw [this, Int.add_mul, Int.one_mul]
      · rw [if_neg hk, if_neg (by omega)]
        have : ((n + 1 : Nat) : Int) = (n : Int) + 1 := by omega
        rw [this, Int.add_mul, Int.one_mul]
theorem oth_mem {n k : Nat} {m z : Ms} (h : z ∈ oth n k m) : ∃ j : Nat, j < n ∧ z = { m with to := (j : Int) } := by
  obtain ⟨j, hj, rfl⟩ := List.mem_map.1 h
  exact ⟨j, List.mem_range.1 (List.mem_filter.1 hj).1, rfl⟩
/-- The own epoch of a node, as it is told. -/
theorem ep_own (hx : X.N[k]? = some x) : EpOk X (gI x.m.kn k, (k : Int)) := .inr ⟨k, x, rfl, hx, Int.le_refl _⟩
theorem ep_zero : EpOk X (0, 0) := .inl (Int.le_refl _)
theorem ok_mark (hx : X.N[k]? = some x) {j : Nat} (hj : j < X.N.length) : MsOk X ⟨3, (k : Int), (j : Int), (gI x.m.kn k, (k : Int)), (0, 0), 0, 0⟩ :=
  ⟨⟨j, rfl, hj⟩, ⟨k, rfl, get_lt hx⟩, Int.le_refl _, ep_own hx, ep_zero, fun h => (by rcases h with h | h <;> cases h), fun h => (by cases h)⟩
theorem ok_grant (hx : X.N[k]? = some x) (hf : gI x.m.kn k ≤ gI x.m.fi k) {p : Int} (hp : 0 ≤ p) {j : Nat} (hj : j < X.N.length) : MsOk X ⟨5, (k : Int), (j : Int), (gI x.m.kn k, (k : Int)), (0, 0), p, 0⟩ :=
  ⟨⟨j, rfl, hj⟩, ⟨k, rfl, get_lt hx⟩, hp, ep_own hx, ep_zero, fun _ i y hi hy => (by
    have : i = k := by have hi : (k : Int) = (i : Int) := hi; omega
    subst this; rw [hx] at hy; cases hy; exact hf), fun h => (by cases h)⟩
theorem ok_over (hx : X.N[k]? = some x) (hf : gI x.m.kn k ≤ gI x.m.fi k) {v : Ep} (hv : EpOk X v) {j : Nat} (hj : j < X.N.length) : MsOk X ⟨7, (k : Int), (j : Int), (gI x.m.kn k, (k : Int)), v, 0, 0⟩ :=
  ⟨⟨j, rfl, hj⟩, ⟨k, rfl, get_lt hx⟩, Int.le_refl _, ep_own hx, hv, fun _ i y hi hy => (by
    have : i = k := by have hi : (k : Int) = (i : Int) := hi; omega
    subst this; rw [hx] at hy; cases hy; exact hf), fun h => (by cases h)⟩
theorem ok_give (hk : k < X.N.length) {p : Int} (hp : 0 ≤ p) {j : Nat} (hj : j < X.N.length) : MsOk X ⟨9, (k : Int), (j : Int), (0, 0), (0, 0), p, 0⟩ :=
  ⟨⟨j, rfl, hj⟩, ⟨k, rfl, hk⟩, hp, ep_zero, ep_zero, fun h => (by rcases h with h | h <;> cases h), fun h => (by cases h)⟩
theorem top_in (hI : Wi ex X) (hx : X.N[k]? = some x) (ht : someE x.m.top = true) : ∃ j : Nat, j < X.N.length ∧ x.m.lv j = true ∧ x.m.top = (gI x.m.kn j, (j : Int)) := by
  have hok := hI.ok k x hx
  rcases top_some hok.wf with ⟨_, h⟩ | ⟨_, h, _⟩
  · rw [h] at ht; cases ht
  · obtain ⟨j, h1, h2, h3⟩ := mem_lives.1 h
    exact ⟨j, by rw [← hok.nn]; exact h1, h2, h3⟩
theorem ep_top (hI : Wi ex X) (hx : X.N[k]? = some x) (ht : someE x.m.top = true) : EpOk X x.m.top := by
  obtain ⟨j, hj, _, he⟩ := top_in hI hx ht
  have hy := List.getElem?_eq_getElem hj
  exact .inr ⟨j, _, by rw [he], hy, by rw [he]; exact hI.kk k x j _ hx hy⟩
theorem not_own (hI : Wi ex X) (hx : X.N[k]? = some x) (h : ¬ (x.m.own.1 > 0 ∧ x.m.top = x.m.own)) : x.m.lv k = false := by
  have hok := hI.ok k x hx
  cases hl : x.m.lv k with
  | false => rfl
  | true =>
    exfalso
    have hown := own_live hok.wf
    rw [hok.me] at hown
    rcases hown with ⟨_, _, h1, _⟩ | ⟨h1, _⟩
    · exact h ⟨by omega, hok.ot hl⟩
    · rw [hl] at h1; cases h1
theorem ok_yield (hI : Wi ex X) (hx : X.N[k]? = some x) (ht : someE x.m.top = true) (hl : x.m.lv k = false) {p : Int} (hp : 0 ≤ p) : MsOk X ⟨4, (k : Int), x.m.top.2, x.m.top, (0, 0), p, x.he⟩ := by
  obtain ⟨j, hj, hlj, he⟩ := top_in hI hx ht
  refine ⟨⟨j, by show x.m.top.2 = _; rw [he], hj⟩, ⟨k, rfl, get_lt hx⟩, hp, ep_top hI hx ht, ep_zero, fun h => (by rcases h with h | h <;> cases h), fun _ f i hf hi => ?_⟩
  have hf2 : f = k := by have hf : (k : Int) = (f : Int) := hf; omega
  have hi2 : i = j := by have hi : x.m.top.2 = (i : Int) := hi; rw [he] at hi; have hi : (j : Int) = (i : Int) := hi; omega
  clear hf hi
  subst hf2; subst hi2
  refine ⟨fun h => (by subst h; rw [hl] at hlj; cases hlj), fun xi xf hxi hxf hkn hfin => ?_⟩
  rw [hx] at hxf; cases hxf
  exact ⟨rfl, by show x.m.top.1 ≤ _; rw [he]; exact Int.le_refl _, hl⟩
theorem sent (hI : Wi ex X) {ms : List Ms} (hm : ∀ m ∈ ms, MsOk X m) (hs : bsum ms + ex' = ex) (hex : 0 ≤ ex') : Wi ex' { X with bag := X.bag ++ ms } :=
  hI.bags (X' := { X with bag := X.bag ++ ms }) rfl rfl rfl hI.wrong (fun m h => by
    rcases List.mem_append.1 h with h | h
    · exact hI.bag m h
    · exact hm m h) (by show bsum (X.bag ++ ms) + ex' = _; rw [bsum_app]; omega) hex
end
end Go.Proofs.Ytmfbmfppjdkeeaa

/- The world of epochs, in plain words: what a step makes of it. -/
namespace Go.Proofs.Ytmfbmfppjdkeeaa
open Go Go.Fw Go.RowKit
set_option linter.unusedVariables false
set_option linter.unusedSimpArgs false
set_option maxHeartbeats 1000000

def Wo.put (X : Wo) (k : Nat) (x : No) : Wo := { X with N := X.N.set k x }
/-- The own epoch of a node ends; its rights are dealt out, if others were told. -/
def Wo.fin (X : Wo) (k : Nat) (x : No) : Wo :=
  if x.told = true then { X with N := X.N.set k { x with m := x.m.finish.2, ri := x.ri - ((X.N.length : Int) - 1) * Int.tdiv x.ri X.N.length }, ended := X.ended + 1, bag := X.bag ++ oth X.N.length k ⟨5, (k : Int), 0, x.m.own, (0, 0), Int.tdiv x.ri X.N.length, 0⟩ }
  else { X with N := X.N.set k { x with m := x.m.finish.2 }, ended := X.ended + 1 }
def moved (t : Int) (x : No) : Int := if Int.tmod t 2 = 0 then -(min (Int.tmod t 4) x.he) else min (Int.tmod t 3) x.ri
def No.mv (x : No) (d : Int) : No := { x with ri := x.ri - d, he := x.he + d }
def Wo.deal (X : Wo) (k : Nat) (x : No) : Wo := ({ X with turn := X.turn + 1, N := X.N.set k (x.mv (moved (X.turn + 1) x)) } : Wo).fin k (x.mv (moved (X.turn + 1) x))
def Wo.beg (X : Wo) (k : Nat) (x : No) (all : Bool) : Wo :=
  { X with N := X.N.set k { x with m := x.m.fresh all, own := all, told := decide ((x.m.fresh all).look X.lim x.ri x.he = []) }, begun := X.begun + 1,
           bag := X.bag ++ (if (x.m.fresh all).look X.lim x.ri x.he = [] then oth X.N.length k ⟨3, (k : Int), 0, (x.m.fresh all).own, (0, 0), 0, 0⟩ else []) }
def Wo.yield (X : Wo) (k : Nat) (x : No) : Wo :=
  { X with N := X.N.set k { x with ri := 0, y := x.m.top }, bag := X.bag ++ [⟨4, (k : Int), x.m.top.2, x.m.top, (0, 0), x.ri, x.he⟩] }
def Wo.oneX (X : Wo) (k : Nat) (x : No) : Wo × Bool :=
  if x.m.own.1 > 0 ∧ x.m.top = x.m.own then
    if x.m.look X.lim x.ri x.he = [] then (X, false) else (X.deal k x, true)
  else if someE x.m.top = true then
    if x.m.top ≠ x.y ∨ x.ri > 0 then (X.yield k x, false) else (X, false)
  else match x.wait with
    | [] => (X.put k { x with y := (0, 0) }, false)
    | a :: r => ((X.put k { x with y := (0, 0), wait := r }).beg k { x with y := (0, 0), wait := r } a, true)
def Wo.one (X : Wo) (k : Nat) : Wo × Bool := match X.N[k]? with
  | some x => X.oneX k x
  | none => (X, false)
def Wo.settleN : Nat → Wo → Nat → Wo
  | 0, X, _ => X
  | f + 1, X, k => if (X.one k).2 = true then Wo.settleN f (X.one k).1 k else (X.one k).1
def Wo.settle (X : Wo) (k : Nat) : Wo := Wo.settleN 1000 X k
def No.hears (x : No) (m : Ms) : List A6 × Mv :=
  if m.kind = 3 then x.m.hear m.e else if m.kind = 5 then x.m.end_ m.e (0, 0) else if m.kind = 7 then x.m.end_ m.e m.ov else ([], if m.kind = 4 then x.m.report m.fr m.e m.he else x.m)
def Wo.act (k : Nat) (own : Bool) (X : Wo) (a : A6) : Wo :=
  if a.1 = 3 then { X with bag := X.bag ++ oth X.N.length k ⟨7, (k : Int), 0, (a.2.2.1, a.2.2.2.1), (a.2.2.2.2.1, a.2.2.2.2.2), 0, 0⟩ }
  else if a.1 = 5 then match X.N[k]? with
    | some x => { X with N := X.N.set k { x with wait := own :: x.wait }, ended := X.ended + 1 }
    | none => X
  else X
def Wo.gain (X : Wo) (k : Nat) (r : Int) : Wo := match X.N[k]? with
  | some x => X.put k { x with ri := x.ri + r }
  | none => X
/-- A message has been taken from the bag: what becomes of it, but for what follows behind everything. -/
def Wo.heardX (X : Wo) (m : Ms) (k : Nat) (x : No) : Wo := ((x.hears m).1.foldl (Wo.act k x.own) (X.put k { x with m := (x.hears m).2 })).gain k m.ri
def Wo.comes (X : Wo) (m : Ms) : Wo := match X.N[m.to.toNat]? with
  | some x => (X.heardX m m.to.toNat x).settle m.to.toNat
  | none => X
section
variable {ex ex' : Int} {X X' : Wo} {k : Nat} {x x' : No}
theorem tdiv_part {a n : Int} (ha : 0 ≤ a) (hn : 1 ≤ n) : 0 ≤ Int.tdiv a n ∧ n * Int.tdiv a n ≤ a := by
  refine ⟨Int.tdiv_nonneg ha (by omega), ?_⟩
  rw [Int.tdiv_eq_ediv_of_nonneg ha]
  exact Int.mul_ediv_self_le (by omega)
theorem Wi.fin (hI : Wi 0 X) (hx : X.N[k]? = some x) (hl : x.m.lv k = true) : Wi 0 (X.fin k x) := by
  have hok := hI.ok k x hx
  have hlt := get_lt hx
  have hn := hI.n
  obtain ⟨hp0, hp1⟩ := tdiv_part hok.ri (show (1 : Int) ≤ (X.N.length : Int) by omega)
  have hown : x.m.own = (gI x.m.kn k, (k : Int)) := by
    have := own_live hok.wf
    rw [hok.me] at this
    rcases this with ⟨_, h, _⟩ | ⟨h, _⟩
    · exact h
    · rw [hl] at h; cases h
  unfold Wo.fin
  by_cases ht : x.told = true
  · rw [if_pos ht]
    have hmul : ((X.N.length : Int) - 1) * Int.tdiv x.ri X.N.length ≤ X.N.length * Int.tdiv x.ri X.N.length := Int.mul_le_mul_of_nonneg_right (by omega) hp0
    have hmul0 : 0 ≤ ((X.N.length : Int) - 1) * Int.tdiv x.ri X.N.length := Int.mul_nonneg (by omega) hp0
    generalize hq : ((X.N.length : Int) - 1) * Int.tdiv x.ri X.N.length = q at hmul hmul0
    let x1 : No := { x with m := x.m.finish.2, ri := x.ri - q }
    let X1 : Wo := { X with N := X.N.set k x1, ended := X.ended + 1 }
    have h1 : Wi q X1 := hI.fin1 (x' := x1) (X' := X1) hx hl rfl (by show 0 ≤ x.ri - q; omega) rfl rfl rfl rfl rfl hI.wrong (by show (x.ri - q + x.he) + q = _; omega) hmul0
    have hx1 : X1.N[k]? = some x1 := set_self hx
    have hl1 : X1.N.length = X.N.length := List.length_set
    have hfk : gI x1.m.kn k ≤ gI x1.m.fi k ∧ gI x1.m.kn k = gI x.m.kn k := by
      have e : x1.m = _ := finish_lv hok.wf (by rw [hok.me]; exact hl)
      rw [hok.me] at e
      have h16 := hok.wf.n
      rw [e]
      refine ⟨?_, rfl⟩
      show gI x.m.kn k ≤ gI (x.m.fi.set k (gI x.m.kn k)) k
      rw [gI_set (by rw [hok.wf.fl]; have := hok.nn; omega), if_pos rfl]; exact Int.le_refl _
    have hb : bsum (oth X.N.length k ⟨5, (k : Int), 0, x.m.own, (0, 0), Int.tdiv x.ri X.N.length, 0⟩) = q := by
      rw [bsum_oth, if_pos hlt]; exact hq
    refine sent h1 (ms := oth X.N.length k ⟨5, (k : Int), 0, x.m.own, (0, 0), Int.tdiv x.ri X.N.length, 0⟩) (fun m hm => ?_) (by rw [hb]; omega) (Int.le_refl 0)
    obtain ⟨j, hj, rfl⟩ := oth_mem hm
    rw [hown, ← hfk.2]
    exact ok_grant hx1 hfk.1 hp0 (by rw [hl1]; exact hj)
  · rw [if_neg ht]
    exact hI.fin1 (x' := { x with m := x.m.finish.2 }) hx hl rfl hok.ri rfl rfl rfl rfl rfl hI.wrong rfl (Int.le_refl 0)
theorem moved_ok {t : Int} (ht : 0 ≤ t) (hr : 0 ≤ x.ri) (hh : 0 ≤ x.he) : 0 ≤ x.ri - moved t x ∧ 0 ≤ x.he + moved t x := by
  have h3 : 0 ≤ Int.tmod t 3 := Int.tmod_nonneg _ ht
  have h4 : 0 ≤ Int.tmod t 4 := Int.tmod_nonneg _ ht
  unfold moved
  split <;> omega
theorem Wi.deal (hI : Wi 0 X) (hx : X.N[k]? = some x) (hl : x.m.lv k = true) (ht : 0 ≤ X.turn) : Wi 0 (X.deal k x) := by
  have hok := hI.ok k x hx
  have hm := moved_ok (x := x) (t := X.turn + 1) (by omega) hok.ri hok.he
  have h1 : Wi 0 ({ X with turn := X.turn + 1, N := X.N.set k (x.mv (moved (X.turn + 1) x)) } : Wo) :=
    hI.plain (x' := x.mv (moved (X.turn + 1) x)) hx rfl hm.1 hm.2 (fun _ => rfl) (fun h => by rw [hl] at h; cases h) rfl rfl rfl rfl hI.wrong (by show (x.ri - _ + (x.he + _)) + 0 = _; omega) (Int.le_refl 0)
  exact h1.fin (set_self hx) hl
theorem Wi.beg (hI : Wi 0 X) (hx : X.N[k]? = some x) (hf : someE x.m.top = false) (hb : X.begun < 1099511627776) (all : Bool) : Wi 0 (X.beg k x all) := by
  have hok := hI.ok k x hx
  have hlt := get_lt hx
  let x1 : No := { x with m := x.m.fresh all, own := all, told := decide ((x.m.fresh all).look X.lim x.ri x.he = []) }
  let X1 : Wo := { X with N := X.N.set k x1, begun := X.begun + 1 }
  have h1 : Wi 0 X1 := hI.fresh (x' := x1) (X' := X1) hx hf hb all rfl rfl rfl rfl rfl rfl rfl rfl hI.wrong
  have hx1 : X1.N[k]? = some x1 := set_self hx
  have hl1 : X1.N.length = X.N.length := List.length_set
  refine sent h1 (ms := if (x.m.fresh all).look X.lim x.ri x.he = [] then oth X.N.length k ⟨3, (k : Int), 0, (x.m.fresh all).own, (0, 0), 0, 0⟩ else []) (fun m hm => ?_) ?_ (Int.le_refl 0)
  · split at hm
    · obtain ⟨j, hj, rfl⟩ := oth_mem hm
      have hok1 := h1.ok k x1 hx1
      have hown := own_live hok1.wf
      rw [hok1.me] at hown
      have hl : x1.m.lv k = true := by
        have h16 := hok.wf.n
        have hme := hok.me
        have hmn := hok.wf.me
        rw [lv_iff]
        show gI x.m.fi k < gI (x.m.kn.set x.m.me (top16 x.m.kn + 1)) k
        rw [hme, gI_set (by rw [hok.wf.kl]; omega), if_pos rfl]
        have h2 := hok.fk k
        have h3 := le_top16 (gI_mem (l := x.m.kn) (i := k) (by rw [hok.wf.kl]; omega))
        omega
      rcases hown with ⟨_, h, _⟩ | ⟨h, _⟩
      · have e : (x.m.fresh all).own = (gI x1.m.kn k, (k : Int)) := h
        rw [e]
        exact ok_mark hx1 (by rw [hl1]; exact hj)
      · rw [hl] at h; cases h
    · cases hm
  · split
    · rw [bsum_oth]; simp
    · simp [bsum]
theorem Wi.yield (hI : Wi 0 X) (hx : X.N[k]? = some x) (ht : someE x.m.top = true) (hl : x.m.lv k = false) : Wi 0 (X.yield k x) := by
  have hok := hI.ok k x hx
  let x1 : No := { x with ri := 0, y := x.m.top }
  let X1 : Wo := { X with N := X.N.set k x1 }
  have h1 : Wi x.ri X1 := hI.plain (x' := x1) (X' := X1) hx rfl (Int.le_refl 0) hok.he (fun _ => rfl) (fun _ _ => rfl) rfl rfl rfl rfl hI.wrong (by show (0 + x.he) + x.ri = _; omega) hok.ri
  refine sent h1 (ms := [⟨4, (k : Int), x.m.top.2, x.m.top, (0, 0), x.ri, x.he⟩]) (fun m hm => ?_) (by simp [bsum]) (Int.le_refl 0)
  simp at hm; subst hm
  exact ok_yield (x := x1) h1 (set_self hx) ht hl hok.ri
theorem looks_of (h : x.m.look X.lim x.ri x.he ≠ []) : x.m.looks X.lim x.ri x.he := by
  unfold Mv.look at h
  split at h
  · assumption
  · exact absurd rfl h
theorem Wi.one (hI : Wi 0 X) (ht : 0 ≤ X.turn) (hb : X.begun < 1099511627776) (k : Nat) : Wi 0 (X.one k).1 := by
  unfold Wo.one
  cases hx : X.N[k]? with
  | none => exact hI
  | some x =>
    have hok := hI.ok k x hx
    show Wi 0 (X.oneX k x).1
    unfold Wo.oneX
    by_cases h1 : x.m.own.1 > 0 ∧ x.m.top = x.m.own
    · rw [if_pos h1]
      by_cases h2 : x.m.look X.lim x.ri x.he = []
      · rw [if_pos h2]; exact hI
      · rw [if_neg h2]
        have hl : x.m.lv k = true := by
          have := own_live hok.wf
          rw [hok.me] at this
          rcases this with ⟨h, _⟩ | ⟨_, h, _⟩
          · exact h
          · rw [h] at h1; exact absurd h1.1 (by decide)
        exact hI.deal hx hl ht
    · rw [if_neg h1]
      have hl := not_own hI hx h1
      by_cases h2 : someE x.m.top = true
      · rw [if_pos h2]
        by_cases h3 : x.m.top ≠ x.y ∨ x.ri > 0
        · rw [if_pos h3]; exact hI.yield hx h2 hl
        · rw [if_neg h3]; exact hI
      · rw [if_neg h2]
        have hf : someE x.m.top = false := by simpa using h2
        cases hw : x.wait with
        | nil => exact hI.plain (x' := { x with y := (0, 0), wait := [] }) hx rfl hok.ri hok.he (fun _ => rfl) (fun _ _ => rfl) rfl rfl rfl rfl hI.wrong rfl (Int.le_refl 0)
        | cons a r =>
          have h4 : Wi 0 (X.put k { x with y := (0, 0), wait := r }) := hI.plain (x' := { x with y := (0, 0), wait := r }) hx rfl hok.ri hok.he (fun _ => rfl) (fun _ _ => rfl) rfl rfl rfl rfl hI.wrong rfl (Int.le_refl 0)
          exact h4.beg (set_self hx) hf hb a
/-- How much there is at the most. -/
structure Bd (c : Int) (X : Wo) : Prop where
  bag : (X.bag.length : Int) ≤ c
  begun : 0 ≤ X.begun ∧ X.begun ≤ c
  ended : 0 ≤ X.ended ∧ X.ended ≤ c
  turn : 0 ≤ X.turn ∧ X.turn ≤ c
  wait : ∀ (k : Nat) (x : No), X.N[k]? = some x → (x.wait.length : Int) ≤ c
theorem Bd.mono {c d : Int} (h : Bd c X) (hc : c ≤ d) : Bd d X := ⟨by have := h.bag; omega, by have := h.begun; omega, by have := h.ended; omega, by have := h.turn; omega, fun k x hx => by have := h.wait k x hx; omega⟩
theorem Bd.put {c : Int} (h : Bd c X) (hx : X.N[k]? = some x) (hN : X'.N = X.N.set k x') (hw : (x'.wait.length : Int) ≤ c) (hbag : (X'.bag.length : Int) ≤ c) (hb : 0 ≤ X'.begun ∧ X'.begun ≤ c) (he : 0 ≤ X'.ended ∧ X'.ended ≤ c) (ht : 0 ≤ X'.turn ∧ X'.turn ≤ c) : Bd c X' := by
  refine ⟨hbag, hb, he, ht, fun j y hy => ?_⟩
  rw [hN] at hy
  by_cases hj : j = k
  · subst hj; rw [set_self hx] at hy; cases hy; exact hw
  · rw [set_ne hj] at hy; exact h.wait j y hy
theorem fin_len (X : Wo) (k : Nat) (x : No) : (X.fin k x).N.length = X.N.length := by
  unfold Wo.fin; split <;> simp
theorem Bd.fin {c : Int} (h : Bd c X) (hx : X.N[k]? = some x) (hn : X.N.length ≤ 5) : Bd (c + 5) (X.fin k x) := by
  have hw := h.wait k x hx
  have hb := h.begun; have he := h.ended; have ht := h.turn; have hbag := h.bag
  have h5 := h.mono (d := c + 5) (by omega)
  unfold Wo.fin
  split
  · refine h5.put hx rfl (by show (x.wait.length : Int) ≤ _; omega) ?_ (by dsimp only; omega) (by dsimp only; omega) (by dsimp only; omega)
    have := oth_len (n := X.N.length) (k := k) ⟨5, (k : Int), 0, x.m.own, (0, 0), Int.tdiv x.ri X.N.length, 0⟩
    show ((X.bag ++ _).length : Int) ≤ _
    rw [List.length_append]; omega
  · exact h5.put hx rfl (by show (x.wait.length : Int) ≤ _; omega) (by dsimp only; omega) (by dsimp only; omega) (by dsimp only; omega) (by dsimp only; omega)
theorem Bd.one {c : Int} (h : Bd c X) (hn : X.N.length ≤ 5) (k : Nat) : Bd (c + 10) (X.one k).1 ∧ (X.one k).1.N.length = X.N.length := by
  have hb := h.begun; have he := h.ended; have ht := h.turn; have hbag := h.bag
  unfold Wo.one
  cases hx : X.N[k]? with
  | none => exact ⟨h.mono (by omega), rfl⟩
  | some x =>
    have hw := h.wait k x hx
    show Bd (c + 10) (X.oneX k x).1 ∧ (X.oneX k x).1.N.length = X.N.length
    unfold Wo.oneX
    split
    · split
      · exact ⟨h.mono (by omega), rfl⟩
      · have h1 : Bd (c + 5) ({ X with turn := X.turn + 1, N := X.N.set k (x.mv (moved (X.turn + 1) x)) } : Wo) :=
          (h.mono (by omega)).put (x' := x.mv (moved (X.turn + 1) x)) hx rfl (by show (x.wait.length : Int) ≤ _; omega) (by dsimp only; omega) (by dsimp only; omega) (by dsimp only; omega) (by dsimp only; omega)
        refine ⟨(h1.fin (x := x.mv (moved (X.turn + 1) x)) (set_self hx) (by simpa using hn)).mono (by omega), ?_⟩
        show (Wo.fin _ _ _).N.length = _
        rw [fin_len]; simp
    · split
      · split
        · refine ⟨(h.mono (show c ≤ c + 10 by omega)).put (x' := { x with ri := 0, y := x.m.top }) hx rfl (by show (x.wait.length : Int) ≤ _; omega) ?_ (by show 0 ≤ X.begun ∧ X.begun ≤ _; omega) (by show 0 ≤ X.ended ∧ X.ended ≤ _; omega) (by show 0 ≤ X.turn ∧ X.turn ≤ _; omega), by simp [Wo.yield]⟩
          show ((X.bag ++ _).length : Int) ≤ _
          rw [List.length_append]; simp; omega
        · exact ⟨h.mono (by omega), rfl⟩
      · split
        · exact ⟨(h.mono (show c ≤ c + 10 by omega)).put (x' := { x with y := (0, 0) }) hx rfl (by show (x.wait.length : Int) ≤ _; omega) (by show (X.bag.length : Int) ≤ _; omega) (by show 0 ≤ X.begun ∧ X.begun ≤ _; omega) (by show 0 ≤ X.ended ∧ X.ended ≤ _; omega) (by show 0 ≤ X.turn ∧ X.turn ≤ _; omega), by simp [Wo.put]⟩
        · rename_i a r hwr
          rw [hwr] at hw
          have hw : ((r.length + 1 : Nat) : Int) ≤ c := by simpa using hw
          have e : ((X.put k { x with y := (0, 0), wait := r }).beg k { x with y := (0, 0), wait := r } a).N = X.N.set k { x with y := (0, 0), wait := r, m := x.m.fresh a, own := a, told := decide ((x.m.fresh a).look X.lim x.ri x.he = []) } := by
            show (X.N.set k _).set k _ = _
            rw [List.set_set]; rfl
          refine ⟨(h.mono (show c ≤ c + 10 by omega)).put hx e (by show (r.length : Int) ≤ _; omega) ?_ ?_ ?_ ?_, by rw [e]; simp⟩
          · have key : ∀ z : List Ms, z.length ≤ 5 → ((X.bag ++ z).length : Int) ≤ c + 10 := by
              intro z hz
              rw [List.length_append]; omega
            have hl : (X.put k { x with y := (0, 0), wait := r }).N.length = X.N.length := by simp [Wo.put]
            refine key _ ?_
            split
            · exact Nat.le_trans (oth_len _) (by rw [hl]; exact hn)
            · exact Nat.zero_le _
          · show 0 ≤ X.begun + 1 ∧ X.begun + 1 ≤ _
            omega
          · show 0 ≤ X.ended ∧ X.ended ≤ _
            omega
          · show 0 ≤ X.turn ∧ X.turn ≤ _
            omega
end
end Go.Proofs.Ytmfbmfppjdkeeaa
