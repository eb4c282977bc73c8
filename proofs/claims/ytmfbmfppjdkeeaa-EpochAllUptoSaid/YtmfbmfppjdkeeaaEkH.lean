/- The document's machine of epochs: its calls. -/
import Derived.Test.YtmfbmfppjdkeeaaEkG
namespace Go.Proofs.Ytmfbmfppjdkeeaa
open Go Go.Fw Go.RowKit
set_option linter.unusedVariables false
set_option linter.unusedSimpArgs false
set_option maxRecDepth 4000
set_option maxHeartbeats 2000000
variable {w0 w : World} {F G : Grps}

theorem bs82 (w : World) (a : A6) : (Instr.buildSlice 82 1 #[(0, aco a)]).run Try.prog w = .ok (.slice (some ⟨w.heap.size, 0, none⟩) 1 1) (w.alloc (.cells ⟨acs [a]⟩ 114)) := by kernel_rfl
theorem bs82c (w : World) (a b c : A6) : (Instr.buildSlice 82 3 #[(0, aco a), (1, aco b), (2, aco c)]).run Try.prog w = .ok (.slice (some ⟨w.heap.size, 0, none⟩) 3 3) (w.alloc (.cells ⟨acs [a, b, c]⟩ 114)) := by kernel_rfl
theorem newA (h : St w0 w G) (a : A6) {K : Sl → World → Prop} (hk : ∀ (s : Sl) w', s.len = 1 → St w0 w' ([.row 114 6 s (acs [a])] :: G) → K s w') : RunN Try.prog .sl (V (Instr.buildSlice 82 1 #[(0, aco a)])) w K :=
  h.newS 6 (bs82 _ a) rfl rfl rfl fun s w' h1 _ _ h => hk s w' h1 h
def Rn.turns (r : Rn) : Prop := r.own.1 > 0 ∧ r.top ≠ r.own
instance (r : Rn) : Decidable r.turns := by unfold Rn.turns; exact inferInstance
def Rn.turn (r : Rn) (was : Ep) : List A6 × Rn :=
  if r.turns then ([(3, -1, r.own.1, r.own.2, r.top.1, r.top.2), (5, (r.me : Int), r.own.1, r.own.2, 0, 0), (2, r.top.2, r.top.1, r.top.2, 0, 0)], { r with over := r.over ++ [r.own] })
  else if r.top.1 > 0 ∧ r.top ≠ r.own ∧ r.top ≠ was then ([(2, r.top.2, r.top.1, r.top.2, 0, 0)], r)
  else if r.top.1 = 0 ∧ was.1 > 0 then ([(6, (r.me : Int), 0, 0, 0, 0)], r) else ([], r)
theorem rwf_over {r : Rn} {N : Nat} (h : r.wf N) (x : Ep) : ({ r with over := r.over ++ [x] } : Rn).wf (N + 1) :=
  ⟨h.n, h.me, by have := h.kl; dsimp only; omega, by simp; have := h.ol; omega, by have := h.nl; dsimp only; omega, h.nb⟩
theorem rwf_turn {r : Rn} {N : Nat} (h : r.wf N) (was : Ep) : (r.turn was).2.wf (N + 1) := by
  rw [Rn.turn]
  split
  · exact rwf_over h _
  split
  · exact h.mono (Nat.le_succ _)
  split <;> exact h.mono (Nat.le_succ _)
theorem rturn_st {r : Rm} {N : Nat} (h : St w0 w (rmE r :: F)) (hw : r.wf N) (hN : N ≤ 1000000000) (was : Ep) : CallK Try.prog .sl 65 #[.pointer r.p, .agg #[.int .i64 was.1, .int .i64 was.2]] w
    fun (s : Sl) w' => ∃ r' : Rm, r'.cb = r.cb ∧ r'.toRn = (r.turn was).2 ∧ s.len = (r.turn was).1.length ∧ St w0 w' ([.row 114 6 s (acs (r.turn was).1)] :: rmE r' :: F) := by
  refine T65.calls (p1 := (was.1, was.2, ())) ?_
  unfold T65
  have hol := hw.ol
  first | refine h.newB run_boxA rfl ?_ | refine h.drew.newB run_boxA rfl ?_
  intro b3 w h
  have h := h.ord 2 [1, 0]
  dsimp only [pick, nthO, dropO] at h
  refine (rown_st h hw hN).mono ?_
  rintro _ w1 ⟨rfl, h⟩
  first | refine h.newB (NewC.run _) rfl ?_ | refine h.drew.newB (NewC.run _) rfl ?_
  intro b5 w h
  have h := h.ord 2 [1, 0]
  dsimp only [pick, nthO, dropO] at h
  refine h.stor2 1 0 ⟨_, rfl, rfl⟩ rfl ?_
  intro w3 h
  dsimp only [updG, setO] at h
  refine (rtop_st h hw hN).mono ?_
  rintro _ w2 ⟨rfl, h⟩
  first | refine h.newB (NewC.run _) rfl ?_ | refine h.drew.newB (NewC.run _) rfl ?_
  intro b6 w h
  have h := h.ord 2 [1, 0]
  dsimp only [pick, nthO, dropO] at h
  refine h.stor2 1 0 ⟨_, rfl, rfl⟩ rfl ?_
  intro w4 h
  dsimp only [updG, setO] at h
  let L : Grps := [.cel b6 54 (epv r.top)] :: [.cel b5 54 (epv r.own)] :: [.cel b3 54 (epv was)] :: F
  have h : St w0 w4 (rmE r :: L) := h
  have hdrop : ∀ {w' : World} {r' : Rm} {s : Sl} {l : List A6}, St w0 w' ([.row 114 6 s (acs l)] :: rmE r' :: L) → St w0 w' ([.row 114 6 s (acs l)] :: rmE r' :: F) := fun h => ((h.drop 2).drop 2).drop 2
  refine JoinX.mk (fun (y : Bool × Unit) w' => y.1 = decide r.turns ∧ St w0 w' (rmE r :: L)) ?_ ?_
  · rintro ⟨y, ⟨⟩⟩ w5 ⟨hy, h⟩
    dsimp only at hy
    subst hy
    rw [SplitB_iff]
    refine ⟨fun hc => ?_, fun hc => ?_⟩
    · have hc : r.turns := of_decide_eq_true hc
      refine appOver h (by omega) 2 (b := b5) (x := r.own.1) (y := r.own.2) ⟨_, rfl, rfl⟩ ?_
      intro q' w6 h
      refine h.drew.read2 2 0 ⟨_, rfl, rfl⟩ rfl ?_
      refine h.drew.read2 1 0 ⟨_, rfl, rfl⟩ rfl ?_
      refine NilP.mk ?_
      refine h.drew.readB 0 0 ⟨_, rfl, rfl⟩ rfl rfl ?_
      refine h.drew.read2 2 0 ⟨_, rfl, rfl⟩ rfl ?_
      refine h.drew.readB 1 0 ⟨_, rfl, rfl⟩ rfl rfl ?_
      refine h.drew.read2 1 0 ⟨_, rfl, rfl⟩ rfl ?_
      refine h.drew.newS 6 (bs82c _ (3, -1, r.own.1, r.own.2, r.top.1, r.top.2) (5, (r.me : Int), r.own.1, r.own.2, 0, 0) (2, r.top.2, r.top.1, r.top.2, 0, 0)) rfl rfl rfl ?_
      intro s w7 hs1 _ _ h
      refine ⟨{ r with over := r.over ++ [(r.own.1, r.own.2)], oq := q' }, rfl, ?_, ?_, ?_⟩
      · rw [Rn.turn, if_pos hc]
      · rw [Rn.turn, if_pos hc]; exact hs1
      · rw [Rn.turn, if_pos hc]; exact hdrop h
    have hc : ¬ r.turns := of_decide_eq_false hc
    refine JoinX.mk (fun (y : Bool × Unit) w' => y.1 = decide (r.top.1 > 0 ∧ r.top ≠ r.own ∧ r.top ≠ was) ∧ St w0 w' (rmE r :: L)) ?_ ?_
    · rintro ⟨y, ⟨⟩⟩ w6 ⟨hy, h⟩
      dsimp only at hy
      subst hy
      rw [SplitB_iff]
      refine ⟨fun hd => ?_, fun hd => ?_⟩
      · have hd := of_decide_eq_true hd
        refine h.loadB 1 0 ⟨_, rfl, rfl⟩ rfl rfl ?_
        refine h.load2 1 0 ⟨_, rfl, rfl⟩ rfl ?_
        refine newA h (2, r.top.2, r.top.1, r.top.2, 0, 0) ?_
        intro s w7 hs1 h
        refine ⟨r, rfl, ?_, ?_, ?_⟩
        · rw [Rn.turn, if_neg hc, if_pos hd]
        · rw [Rn.turn, if_neg hc, if_pos hd]; exact hs1
        · rw [Rn.turn, if_neg hc, if_pos hd]; exact hdrop h
      have hd := of_decide_eq_false hd
      refine JoinX.mk (fun (y : Bool × Unit) w' => y.1 = decide (r.top.1 = 0 ∧ was.1 > 0) ∧ St w0 w' (rmE r :: L)) ?_ ?_
      · rintro ⟨y, ⟨⟩⟩ w7 ⟨hy, h⟩
        dsimp only at hy
        subst hy
        rw [SplitB_iff]
        refine ⟨fun he => ?_, fun he => ?_⟩
        · have he := of_decide_eq_true he
          refine NilP.mk ?_
          refine h.loadB 0 0 ⟨_, rfl, rfl⟩ rfl rfl ?_
          refine newA h (6, (r.me : Int), 0, 0, 0, 0) ?_
          intro s w7 hs1 h
          refine ⟨r, rfl, ?_, ?_, ?_⟩
          · rw [Rn.turn, if_neg hc, if_neg hd, if_pos he]
          · rw [Rn.turn, if_neg hc, if_neg hd, if_pos he]; exact hs1
          · rw [Rn.turn, if_neg hc, if_neg hd, if_pos he]; exact hdrop h
        · have he := of_decide_eq_false he
          refine ⟨r, rfl, ?_, ?_, ?_⟩
          · rw [Rn.turn, if_neg hc, if_neg hd, if_neg he]
          · rw [Rn.turn, if_neg hc, if_neg hd, if_neg he]; rfl
          · rw [Rn.turn, if_neg hc, if_neg hd, if_neg he]; exact hdrop (h.nilrow 114 6)
      · intro k5 hk5
        refine h.loadB 1 0 ⟨_, rfl, rfl⟩ rfl rfl ?_
        rw [SplitB_iff]
        refine ⟨fun he => ?_, fun he => ?_⟩
        · have he : r.top.1 = 0 := by simpa using he
          refine h.loadB 3 0 ⟨_, rfl, rfl⟩ rfl rfl ?_
          exact hk5 _ _ ⟨by simp [he], h⟩
        · have he : ¬ r.top.1 = 0 := by simpa using he
          exact hk5 _ _ ⟨by simp [he], h⟩
    · intro k3 hk3
      refine h.loadB 1 0 ⟨_, rfl, rfl⟩ rfl rfl ?_
      rw [SplitB_iff]
      refine ⟨fun hd => ?_, fun hd => ?_⟩
      · have hd : r.top.1 > 0 := of_decide_eq_true hd
        refine h.load2 1 0 ⟨_, rfl, rfl⟩ rfl ?_
        refine h.load2 2 0 ⟨_, rfl, rfl⟩ rfl ?_
        refine RunN.k2Ne ?_
        rw [ne_ep r.top r.own]
        rw [SplitB_iff]
        refine ⟨fun he => ?_, fun he => ?_⟩
        · have he : r.top ≠ r.own := of_decide_eq_true he
          refine h.load2 1 0 ⟨_, rfl, rfl⟩ rfl ?_
          refine h.load2 3 0 ⟨_, rfl, rfl⟩ rfl ?_
          refine RunN.k2Ne ?_
          rw [ne_ep r.top was]
          refine hk3 _ _ ⟨?_, h⟩
          dsimp only
          by_cases hf : r.top ≠ was
          · rw [decide_eq_true hf, decide_eq_true ⟨hd, he, hf⟩]
          · rw [decide_eq_false hf, decide_eq_false fun hh => hf hh.2.2]
        · have he : ¬ r.top ≠ r.own := of_decide_eq_false he
          exact hk3 _ _ ⟨(decide_eq_false fun hh => he hh.2.1).symm, h⟩
      · have hd : ¬ r.top.1 > 0 := of_decide_eq_false hd
        exact hk3 _ _ ⟨(decide_eq_false fun hh => hd hh.1).symm, h⟩
  · intro k1 hk1
    refine h.loadB 2 0 ⟨_, rfl, rfl⟩ rfl rfl ?_
    rw [SplitB_iff]
    refine ⟨fun hd => ?_, fun hd => ?_⟩
    · have hd : r.own.1 > 0 := of_decide_eq_true hd
      refine h.load2 1 0 ⟨_, rfl, rfl⟩ rfl ?_
      refine h.load2 2 0 ⟨_, rfl, rfl⟩ rfl ?_
      refine RunN.k2Ne ?_
      rw [ne_ep r.top r.own]
      refine hk1 _ _ ⟨?_, h⟩
      dsimp only
      by_cases he : r.top ≠ r.own
      · rw [decide_eq_true he, decide_eq_true (show r.turns from ⟨hd, he⟩)]
      · rw [decide_eq_false he, decide_eq_false (show ¬ r.turns from fun hh => he hh.2)]
    · have hd : ¬ r.own.1 > 0 := of_decide_eq_false hd
      exact hk1 _ _ ⟨(decide_eq_false (show ¬ r.turns from fun hh => hd hh.1)).symm, h⟩
/-! ### Hear, End -/
def Rn.hear (r : Rn) (x : Ep) : List A6 × Rn := (r.told x).turn r.top
def Rn.told2 (r : Rn) (x : Ep) : Rn := if r.one x ∧ x.2 ≠ (r.me : Int) then { r.told x with over := (r.told x).over ++ [x] } else r
def Rn.end_ (r : Rn) (x y : Ep) : List A6 × Rn := ((r.told2 x).told y).turn r.top
theorem rwf_told2 {r : Rn} {N : Nat} (h : r.wf N) (x : Ep) : (r.told2 x).wf (N + 2) := by
  rw [Rn.told2]
  split
  · exact rwf_over (rwf_told h x) x
  · exact h.mono (by omega)
theorem rhear_st {r : Rm} {N : Nat} (h : St w0 w (rmE r :: F)) (hw : r.wf N) (hN : N ≤ 100000000) (x : Ep) : CallK Try.prog .sl 33 #[.pointer r.p, .agg #[.int .i64 x.1, .int .i64 x.2]] w
    fun (s : Sl) w' => ∃ r' : Rm, r'.cb = r.cb ∧ r'.toRn = (r.hear x).2 ∧ s.len = (r.hear x).1.length ∧ St w0 w' ([.row 114 6 s (acs (r.hear x).1)] :: rmE r' :: F) := by
  refine T33.calls (p1 := (x.1, x.2, ())) ?_
  unfold T33
  first | refine h.newB run_boxA rfl ?_ | refine h.drew.newB run_boxA rfl ?_
  intro b3 w h
  have h := h.ord 2 [1, 0]
  dsimp only [pick, nthO, dropO] at h
  refine (rtop_st h hw (by omega)).mono ?_
  rintro _ w1 ⟨rfl, h⟩
  first | refine h.newB (NewC.run _) rfl ?_ | refine h.drew.newB (NewC.run _) rfl ?_
  intro b5 w h
  have h := h.ord 2 [1, 0]
  dsimp only [pick, nthO, dropO] at h
  refine h.stor2 1 0 ⟨_, rfl, rfl⟩ rfl ?_
  intro w2 h
  dsimp only [updG, setO] at h
  refine h.load2 2 0 ⟨_, rfl, rfl⟩ rfl ?_
  refine (rtold_st h hw (by omega) x).mono ?_
  rintro _ w3 ⟨r1, g1, g2, h⟩
  refine h.load2 1 0 ⟨_, rfl, rfl⟩ rfl ?_
  have hp : r.p = r1.p := by show some _ = some _; rw [g1]
  rw [hp]
  refine (rturn_st h (by rw [g2]; exact rwf_told hw x) (by omega) r.top).mono ?_
  rintro s w4 ⟨r', h1, h2, h3, h⟩
  rw [g2] at h2 h3 h
  exact ⟨r', h1.trans g1, h2, h3, (h.drop 2).drop 2⟩
theorem rend_st {r : Rm} {N : Nat} (h : St w0 w (rmE r :: F)) (hw : r.wf N) (hN : N ≤ 100000000) (x y : Ep) : CallK Try.prog .sl 35 #[.pointer r.p, .agg #[.int .i64 x.1, .int .i64 x.2], .agg #[.int .i64 y.1, .int .i64 y.2]] w
    fun (s : Sl) w' => ∃ r' : Rm, r'.cb = r.cb ∧ r'.toRn = (r.end_ x y).2 ∧ s.len = (r.end_ x y).1.length ∧ St w0 w' ([.row 114 6 s (acs (r.end_ x y).1)] :: rmE r' :: F) := by
  refine T35.calls (p1 := (x.1, x.2, ())) (p2 := (y.1, y.2, ())) ?_
  unfold T35
  first | refine h.newB run_boxA rfl ?_ | refine h.drew.newB run_boxA rfl ?_
  intro b4 w h
  have h := h.ord 2 [1, 0]
  dsimp only [pick, nthO, dropO] at h
  first | refine h.newB run_boxA rfl ?_ | refine h.drew.newB run_boxA rfl ?_
  intro b5 w h
  have h := h.ord 2 [1, 0]
  dsimp only [pick, nthO, dropO] at h
  refine (rtop_st h hw (by omega)).mono ?_
  rintro _ w1 ⟨rfl, h⟩
  first | refine h.newB (NewC.run _) rfl ?_ | refine h.drew.newB (NewC.run _) rfl ?_
  intro b7 w h
  have h := h.ord 2 [1, 0]
  dsimp only [pick, nthO, dropO] at h
  refine h.stor2 1 0 ⟨_, rfl, rfl⟩ rfl ?_
  intro w2 h
  dsimp only [updG, setO] at h
  let L : Grps := [.cel b7 54 (epv r.top)] :: [.cel b5 54 (epv y)] :: [.cel b4 54 (epv x)] :: F
  have h : St w0 w2 (rmE r :: L) := h
  refine JoinX.mk (fun (_ : Unit) w' => ∃ r1 : Rm, r1.cb = r.cb ∧ r1.toRn = r.told2 x ∧ St w0 w' (rmE r1 :: L)) ?_ ?_
  · rintro ⟨⟩ w3 ⟨r1, g1, g2, h⟩
    have hp : r.p = r1.p := by show some _ = some _; rw [g1]
    rw [hp]
    have hw1 : r1.wf (N + 2) := by rw [g2]; exact rwf_told2 hw x
    refine h.load2 2 0 ⟨_, rfl, rfl⟩ rfl ?_
    refine (rtold_st h hw1 (by omega) y).mono ?_
    rintro _ w4 ⟨r2, g3, g4, h⟩
    refine h.load2 1 0 ⟨_, rfl, rfl⟩ rfl ?_
    have hp : r1.p = r2.p := by show some _ = some _; rw [g3]
    rw [hp]
    refine (rturn_st h (by rw [g4]; exact rwf_told hw1 y) (by omega) r.top).mono ?_
    rintro s w4 ⟨r', h1, h2, h3, h⟩
    rw [g4, g2] at h2 h3 h
    exact ⟨r', h1.trans (g3.trans g1), h2, h3, ((h.drop 2).drop 2).drop 2⟩
  · intro k1 hk1
    refine JoinX.mk (fun (yy : Bool × Unit) w' => yy.1 = decide (r.one x ∧ x.2 ≠ (r.me : Int)) ∧ St w0 w' (rmE r :: L)) ?_ ?_
    · rintro ⟨yy, ⟨⟩⟩ w3 ⟨hy, h⟩
      dsimp only at hy
      subst hy
      rw [SplitB_iff]
      refine ⟨fun hc => ?_, fun hc => ?_⟩
      · have hc := of_decide_eq_true hc
        refine h.load2 3 0 ⟨_, rfl, rfl⟩ rfl ?_
        refine (rtold_st h hw (by omega) x).mono ?_
        rintro _ w4 ⟨r1, g1, g2, h⟩
        have hp : r.p = r1.p := by show some _ = some _; rw [g1]
        rw [hp]
        have hw1 : r1.wf (N + 1) := by rw [g2]; exact rwf_told hw x
        refine appOver h (by have := hw1.ol; omega) 3 (b := b4) (x := x.1) (y := x.2) ⟨_, rfl, rfl⟩ ?_
        intro q' w6 h
        refine hk1 _ _ ⟨{ r1 with over := r1.over ++ [(x.1, x.2)], oq := q' }, g1, ?_, h⟩
        rw [Rn.told2, if_pos hc, ← g2]
      · have hc := of_decide_eq_false hc
        exact hk1 _ _ ⟨r, rfl, by rw [Rn.told2, if_neg hc], h⟩
    · intro k3 hk3
      refine h.drew.read2 3 0 ⟨_, rfl, rfl⟩ rfl ?_
      refine (one_st h.drew x).mono ?_
      rintro _ w3 ⟨rfl, h⟩
      rw [SplitB_iff]
      refine ⟨fun hc => ?_, fun hc => ?_⟩
      · have hc := of_decide_eq_true hc
        refine h.readB 3 0 ⟨_, rfl, rfl⟩ rfl rfl ?_
        refine NilP.mk ?_
        refine h.readB 0 0 ⟨_, rfl, rfl⟩ rfl rfl ?_
        refine hk3 _ _ ⟨?_, h⟩
        dsimp only
        by_cases h2 : x.2 = (r.me : Int)
        · rw [decide_eq_false fun hh => hh.2 h2, h2]; simp
        · rw [decide_eq_true ⟨hc, h2⟩]; simpa using h2
      · have hc := of_decide_eq_false hc
        exact hk3 _ _ ⟨(decide_eq_false fun hh => hc hh.1).symm, h⟩
/-! ### Report -/
def Rn.fitsR (r : Rn) (fr : Int) (x : Ep) (held : Int) : Prop := fr ≠ (r.me : Int) ∧ 0 ≤ fr ∧ fr < (r.n : Int) ∧ 0 ≤ held ∧ held ≤ 1099511627776 ∧ x = r.own ∧ x.1 > 0
instance (r : Rn) (fr : Int) (x : Ep) (held : Int) : Decidable (r.fitsR fr x held) := by unfold Rn.fitsR; exact inferInstance
def Rn.report (r : Rn) (fr : Int) (x : Ep) (held : Int) : Rn := if r.fitsR fr x held then { r with notes := r.notes ++ [(fr, held, x.1, x.2)] } else r
theorem rwf_report {r : Rn} {N : Nat} (h : r.wf N) (fr : Int) (x : Ep) (held : Int) : (r.report fr x held).wf (N + 1) := by
  rw [Rn.report]
  split
  · rename_i hf
    refine ⟨h.n, h.me, by have := h.kl; dsimp only; omega, by have := h.ol; dsimp only; omega, by simp; have := h.nl; omega, fun y hy => ?_⟩
    rcases List.mem_append.1 hy with hy | hy
    · exact h.nb y hy
    · simp at hy; subst hy; exact ⟨hf.2.2.2.1, hf.2.2.2.2.1⟩
  · exact h.mono (Nat.le_succ _)
theorem bs109 (w : World) (a b c d : Int) : (Instr.buildSlice 109 1 #[(0, .agg #[.int .i64 a, .int .i64 b, .int .i64 c, .int .i64 d])]).run Try.prog w = .ok (.slice (some ⟨w.heap.size, 0, none⟩) 1 1) (w.alloc (.cells ⟨ntv (a, b, c, d)⟩ 118)) := by kernel_rfl
theorem rreport_st {r : Rm} {N : Nat} (h : St w0 w (rmE r :: F)) (hw : r.wf N) (hN : N ≤ 100000000) (fr : Int) (x : Ep) (held : Int) : CallK Try.prog (.tup .nilT) 37 #[.pointer r.p, .int .i64 fr, .agg #[.int .i64 x.1, .int .i64 x.2], .int .i64 held] w
    fun (_ : Unit) w' => ∃ r' : Rm, r'.cb = r.cb ∧ r'.toRn = r.report fr x held ∧ St w0 w' (rmE r' :: F) := by
  refine T37.calls (p2 := (x.1, x.2, ())) ?_
  unfold T37
  have hnl := hw.nl
  first | refine h.newB run_boxA rfl ?_ | refine h.drew.newB run_boxA rfl ?_
  intro b6 w h
  have h := h.ord 2 [1, 0]
  dsimp only [pick, nthO, dropO] at h
  refine JoinX.mk (fun (y : Bool × Unit) w' => y.1 = decide (r.fitsR fr x held) ∧ St w0 w' (rmE r :: [.cel b6 54 [.int .i64 x.1, .int .i64 x.2]] :: F)) ?_ ?_
  · rintro ⟨y, ⟨⟩⟩ w1 ⟨hy, h⟩
    dsimp only at hy
    subst hy
    have hql : r.nq.len = r.notes.length := by have := (h.rd (k := 0) (i := 3) (E := 118) (sz := 4) (s := r.nq) (vs := nts r.notes) ⟨_, rfl, rfl⟩).1; rw [flat_len ntv_len] at this; omega
    rw [SplitB_iff]
    refine ⟨fun hc => ?_, fun hc => ?_⟩
    · have hc := of_decide_eq_true hc
      refine NilP.mk ?_
      refine h.drew.readB 0 0 ⟨_, rfl, rfl⟩ rfl (kd := .sl) (x := r.nq) rfl ?_
      refine h.drew.read2 1 0 ⟨_, rfl, rfl⟩ rfl ?_
      refine h.drew.newS 4 (bs109 _ _ _ _ _) rfl rfl rfl ?_
      intro u w2 hu1 hu2 _ h
      refine ⟨h.stillB 1 0 ⟨_, rfl, rfl⟩ rfl rfl, ?_⟩
      refine h.app 1 3 ⟨_, rfl, rfl⟩ (h.rd (k := 0) (i := 0) ⟨_, rfl, rfl⟩) (ntv_one _) (by simp only [maxLen]; omega) (by omega) ?_
      intro s' w3 hl' h
      have h := h.drop 0
      refine NilP.mk ?_
      refine h.storB 0 0 (j := 4) ⟨_, rfl, rfl⟩ rfl rfl rfl ?_
      intro w4 h
      refine ⟨{ r with notes := r.notes ++ [(fr, held, x.1, x.2)], nq := s' }, rfl, by rw [Rn.report, if_pos hc], ?_⟩
      have e : nts (r.notes ++ [(fr, held, x.1, x.2)]) = nts r.notes ++ ntv (fr, held, x.1, x.2) := by rw [nts, List.flatMap_append]; simp
      rw [rmE, show ({ r with notes := r.notes ++ [(fr, held, x.1, x.2)], nq := s' } : Rm).notes = r.notes ++ [(fr, held, x.1, x.2)] from rfl, e]
      exact h.drop 1
    · have hc := of_decide_eq_false hc
      exact ⟨r, rfl, by rw [Rn.report, if_neg hc], h.drop 1⟩
  · intro k hk
    refine NilP.mk ?_
    refine h.drew.readB 0 0 ⟨_, rfl, rfl⟩ rfl rfl ?_
    rw [SplitB_iff]
    refine ⟨fun h1 => ?_, fun h1 => ?_⟩
    · have h1 : fr ≠ (r.me : Int) := by simpa using h1
      rw [SplitB_iff]
      refine ⟨fun h2 => ?_, fun h2 => ?_⟩
      · have h2 := of_decide_eq_true h2
        refine NilP.mk ?_
        refine h.drew.readB 0 0 ⟨_, rfl, rfl⟩ rfl rfl ?_
        rw [SplitB_iff]
        refine ⟨fun h3 => ?_, fun h3 => ?_⟩
        · have h3 := of_decide_eq_true h3
          rw [SplitB_iff]
          refine ⟨fun h4 => ?_, fun h4 => ?_⟩
          · have h4 := of_decide_eq_true h4
            rw [SplitB_iff]
            refine ⟨fun h5 => ?_, fun h5 => ?_⟩
            · have h5 := of_decide_eq_true h5
              refine h.drew.read2 1 0 ⟨_, rfl, rfl⟩ rfl ?_
              refine (rown_st h.drew hw (by omega)).mono ?_
              rintro _ w2 ⟨rfl, h⟩
              refine ⟨h.still2 1 0 ⟨_, rfl, rfl⟩ rfl, ?_⟩
              refine ReadN.k2Eq ?_
              rw [eq_ep x r.own]
              rw [SplitB_iff]
              refine ⟨fun h6 => ?_, fun h6 => ?_⟩
              · have h6 : x = r.own := of_decide_eq_true h6
                refine h.readB 1 0 ⟨_, rfl, rfl⟩ rfl rfl ?_
                refine hk _ _ ⟨?_, h⟩
                dsimp only
                by_cases h7 : x.1 > 0
                · rw [decide_eq_true h7, decide_eq_true ⟨h1, h2, h3, h4, h5, h6, h7⟩]
                · rw [decide_eq_false h7, decide_eq_false fun hh => h7 hh.2.2.2.2.2.2]
              · have h6 : ¬ x = r.own := of_decide_eq_false h6
                exact hk _ _ ⟨(decide_eq_false fun hh => h6 hh.2.2.2.2.2.1).symm, h⟩
            · have h5 := of_decide_eq_false h5
              exact hk _ _ ⟨(decide_eq_false fun hh => h5 hh.2.2.2.2.1).symm, h.drew⟩
          · have h4 := of_decide_eq_false h4
            exact hk _ _ ⟨(decide_eq_false fun hh => h4 hh.2.2.2.1).symm, h.drew⟩
        · have h3 := of_decide_eq_false h3
          exact hk _ _ ⟨(decide_eq_false fun hh => h3 hh.2.2.1).symm, h.drew⟩
      · have h2 := of_decide_eq_false h2
        exact hk _ _ ⟨(decide_eq_false fun hh => h2 hh.2.1).symm, h.drew⟩
    · have h1 : ¬ fr ≠ (r.me : Int) := by simpa using h1
      exact hk _ _ ⟨(decide_eq_false fun hh => h1 hh.1).symm, h.drew⟩
/-! ### Look -/
def Rn.looks (r : Rn) (limit rights held : Int) : Prop := r.own.1 ≠ 0 ∧ (okA [limit, rights, held] = true ∧ limit ≠ 0) ∧ rights + held + r.reported = limit ∧ (r.needs = true → r.all = true)
instance (r : Rn) (a b c : Int) : Decidable (r.looks a b c) := by unfold Rn.looks; exact inferInstance
def Rn.look (r : Rn) (limit rights held : Int) : List A6 := if r.looks limit rights held then [(4, (r.me : Int), r.own.1, r.own.2, 0, 0)] else []
theorem rlook_st {r : Rm} {N : Nat} (h : St w0 w (rmE r :: F)) (hw : r.wf N) (hN : N ≤ 1000000000) (limit rights held : Int) : CallK Try.prog .sl 38 #[.pointer r.p, .int .i64 limit, .int .i64 rights, .int .i64 held] w
    fun (s : Sl) w' => s.len = (r.look limit rights held).length ∧ St w0 w' ([.row 114 6 s (acs (r.look limit rights held))] :: rmE r :: F) := by
  refine T38.calls ?_
  unfold T38
  have hn := hw.n
  refine (rown_st h hw hN).mono ?_
  rintro _ w1 ⟨rfl, h⟩
  first | refine h.newB (NewC.run _) rfl ?_ | refine h.drew.newB (NewC.run _) rfl ?_
  intro b9 w h
  have h := h.ord 2 [1, 0]
  dsimp only [pick, nthO, dropO] at h
  refine h.stor2 1 0 ⟨_, rfl, rfl⟩ rfl ?_
  intro w2 h
  dsimp only [updG, setO] at h
  refine JoinX.mk (fun (y : Bool × Unit) w' => y.1 = !decide (r.looks limit rights held) ∧ St w0 w' (rmE r :: [.cel b9 54 [.int .i64 r.own.1, .int .i64 r.own.2]] :: F)) ?_ ?_
  · rintro ⟨y, ⟨⟩⟩ w3 ⟨hy, h⟩
    dsimp only at hy
    subst hy
    rw [SplitB_iff]
    refine ⟨fun hc => ?_, fun hc => ?_⟩
    · have hc : ¬ r.looks limit rights held := by simpa using hc
      rw [Rn.look, if_neg hc]
      exact ⟨rfl, (h.drop 1).nilrow 114 6⟩
    · have hc : r.looks limit rights held := by simpa using hc
      rw [Rn.look, if_pos hc]
      repeat (first | (with_reducible refine NilP.mk ?_) | ((with_reducible refine RunN.isLoad ?_); (first | refine h.load2 0 0 ⟨_, rfl, rfl⟩ rfl ?_ | refine h.loadB 0 0 ⟨_, rfl, rfl⟩ rfl rfl ?_ | refine h.load2 1 0 ⟨_, rfl, rfl⟩ rfl ?_ | refine h.loadB 1 0 ⟨_, rfl, rfl⟩ rfl rfl ?_ | refine h.drew.load2 0 0 ⟨_, rfl, rfl⟩ rfl ?_ | refine h.drew.loadB 0 0 ⟨_, rfl, rfl⟩ rfl rfl ?_ | refine h.drew.load2 1 0 ⟨_, rfl, rfl⟩ rfl ?_ | refine h.drew.loadB 1 0 ⟨_, rfl, rfl⟩ rfl rfl ?_)) | ((with_reducible refine ReadN.isLoad ?_); (first | refine h.read2 0 0 ⟨_, rfl, rfl⟩ rfl ?_ | refine h.readB 0 0 ⟨_, rfl, rfl⟩ rfl rfl ?_ | refine h.read2 1 0 ⟨_, rfl, rfl⟩ rfl ?_ | refine h.readB 1 0 ⟨_, rfl, rfl⟩ rfl rfl ?_ | refine h.drew.read2 0 0 ⟨_, rfl, rfl⟩ rfl ?_ | refine h.drew.readB 0 0 ⟨_, rfl, rfl⟩ rfl rfl ?_ | refine h.drew.read2 1 0 ⟨_, rfl, rfl⟩ rfl ?_ | refine h.drew.readB 1 0 ⟨_, rfl, rfl⟩ rfl rfl ?_)) | ((with_reducible refine StillV.isLoad ?_); (first | refine ⟨h.stillB 0 0 ⟨_, rfl, rfl⟩ rfl rfl, ?_⟩ | refine ⟨h.still2 0 0 ⟨_, rfl, rfl⟩ rfl, ?_⟩ | refine ⟨h.stillB 1 0 ⟨_, rfl, rfl⟩ rfl rfl, ?_⟩ | refine ⟨h.still2 1 0 ⟨_, rfl, rfl⟩ rfl, ?_⟩)) | ((with_reducible refine RunU.isStor ?_); (first | (refine h.stor2 0 0 ⟨_, rfl, rfl⟩ rfl ?_; intro w h; dsimp only [updG, setO] at h) | (refine h.storB 0 0 ⟨_, rfl, rfl⟩ rfl rfl rfl ?_; intro w h; dsimp only [updG, setO] at h) | (refine h.stor2 1 0 ⟨_, rfl, rfl⟩ rfl ?_; intro w h; dsimp only [updG, setO] at h) | (refine h.storB 1 0 ⟨_, rfl, rfl⟩ rfl rfl rfl ?_; intro w h; dsimp only [updG, setO] at h) | (refine h.drew.stor2 0 0 ⟨_, rfl, rfl⟩ rfl ?_; intro w h; dsimp only [updG, setO] at h) | (refine h.drew.storB 0 0 ⟨_, rfl, rfl⟩ rfl rfl rfl ?_; intro w h; dsimp only [updG, setO] at h) | (refine h.drew.stor2 1 0 ⟨_, rfl, rfl⟩ rfl ?_; intro w h; dsimp only [updG, setO] at h) | (refine h.drew.storB 1 0 ⟨_, rfl, rfl⟩ rfl rfl rfl ?_; intro w h; dsimp only [updG, setO] at h))) | ((with_reducible refine RunN.isBox ?_); (first | (refine h.newB run_boxA rfl ?_; intro bn w h; try dsimp only at h; have h := h.ord 2 [1, 0]; dsimp only [pick, nthO, dropO] at h) | (refine h.drew.newB run_boxA rfl ?_; intro bn w h; try dsimp only at h; have h := h.ord 2 [1, 0]; dsimp only [pick, nthO, dropO] at h))) | ((with_reducible refine RunN.isNew ?_); (first | (refine h.newB (NewC.run _) rfl ?_; intro bn w h; have h := h.ord 2 [1, 0]; dsimp only [pick, nthO, dropO] at h) | (refine h.drew.newB (NewC.run _) rfl ?_; intro bn w h; have h := h.ord 2 [1, 0]; dsimp only [pick, nthO, dropO] at h))) | (refine RunN.k2Eq ?_) | (refine RunN.k2Ne ?_) | (refine ReadN.k2Eq ?_) | (refine ReadN.k2Ne ?_))
      refine newA h.drew (4, (r.me : Int), r.own.1, r.own.2, 0, 0) ?_
      intro s w4 hs h
      exact ⟨hs, h.drop 2⟩
  · intro k hk
    refine h.loadB 1 0 ⟨_, rfl, rfl⟩ rfl rfl ?_
    rw [SplitB_iff]
    refine ⟨fun h1 => ?_, fun h1 => ?_⟩
    · have h1 : r.own.1 = 0 := by simpa using h1
      exact hk _ _ ⟨by dsimp only; rw [decide_eq_false fun hf => hf.1 h1]; rfl, h⟩
    have h1 : r.own.1 ≠ 0 := by simpa using h1
    refine (right_st limit rights held).mono ?_
    rintro _ w4 ⟨rfl, rfl⟩
    rw [SplitB_iff]
    refine ⟨fun h2 => ?_, fun h2 => ?_⟩
    · have h2 : ¬ (okA [limit, rights, held] = true ∧ limit ≠ 0) := by
        intro hh
        rw [hh.1, decide_eq_true hh.2] at h2
        cases h2
      exact hk _ _ ⟨by dsimp only; rw [decide_eq_false fun hf => h2 hf.2.1]; rfl, h⟩
    have h2 : okA [limit, rights, held] = true ∧ limit ≠ 0 := by
      have h2 : (okA [limit, rights, held] && decide (limit ≠ 0)) = true := by simpa using h2
      rw [Bool.and_eq_true] at h2
      exact ⟨h2.1, of_decide_eq_true h2.2⟩
    refine (rreported_st h hw hN).mono ?_
    rintro _ w5 ⟨rfl, h⟩
    have hb := rrepTo_bound hw r.n
    have hb : 0 ≤ r.reported ∧ r.reported ≤ r.n * 1099511627776 := hb
    have h2' := h2.1
    rw [okA_three] at h2'
    have h2' := of_decide_eq_true h2'
    have ew : IntKind.i64.wrap (IntKind.i64.wrap (rights + held) + r.reported) = rights + held + r.reported := by rw [wr (x := rights + held) (by omega), wr (by omega)]
    rw [ew]
    rw [SplitB_iff]
    refine ⟨fun h4 => ?_, fun h4 => ?_⟩
    · have h4 : rights + held + r.reported ≠ limit := by simpa using h4
      exact hk _ _ ⟨by dsimp only; rw [decide_eq_false fun hf => h4 hf.2.2.1]; rfl, h⟩
    have h4 : rights + held + r.reported = limit := by simpa using h4
    refine NilP.mk ?_
    refine h.loadB 0 0 ⟨_, rfl, rfl⟩ rfl (kd := .bool) (x := r.needs) rfl ?_
    rw [SplitB_iff]
    refine ⟨fun h5 => ?_, fun h5 => ?_⟩
    · have h5 : r.needs = true := h5
      refine (rall_st h hw hN).mono ?_
      rintro _ w6 ⟨rfl, h⟩
      refine hk _ _ ⟨?_, h⟩
      dsimp only
      by_cases h6 : r.all = true
      · rw [h6, decide_eq_true ⟨h1, h2, h4, fun _ => h6⟩]
      · rw [decide_eq_false fun hf => h6 (hf.2.2.2 h5)]; simpa using h6
    · have h5 : ¬ r.needs = true := by rw [show r.needs = false from h5]; decide
      exact hk _ _ ⟨by dsimp only; rw [decide_eq_true ⟨h1, h2, h4, fun hh => absurd hh h5⟩]; rfl, h⟩
/-! ### Finish -/
def Rn.finish (r : Rn) : List A6 × Rn := if r.own.1 = 0 then ([], r) else ({ r with over := r.over ++ [r.own] } : Rn).turn r.top
theorem rwf_finish {r : Rn} {N : Nat} (h : r.wf N) : r.finish.2.wf (N + 2) := by
  rw [Rn.finish]
  split
  · exact h.mono (by omega)
  · exact rwf_turn (rwf_over h _) _
theorem rfinish_st {r : Rm} {N : Nat} (h : St w0 w (rmE r :: F)) (hw : r.wf N) (hN : N ≤ 100000000) : CallK Try.prog .sl 40 #[.pointer r.p] w
    fun (s : Sl) w' => ∃ r' : Rm, r'.cb = r.cb ∧ r'.toRn = r.finish.2 ∧ s.len = r.finish.1.length ∧ St w0 w' ([.row 114 6 s (acs r.finish.1)] :: rmE r' :: F) := by
  refine T40.calls ?_
  unfold T40
  have hol := hw.ol
  refine (rtop_st h hw (by omega)).mono ?_
  rintro _ w1 ⟨rfl, h⟩
  first | refine h.newB (NewC.run _) rfl ?_ | refine h.drew.newB (NewC.run _) rfl ?_
  intro b3 w h
  have h := h.ord 2 [1, 0]
  dsimp only [pick, nthO, dropO] at h
  refine h.stor2 1 0 ⟨_, rfl, rfl⟩ rfl ?_
  intro w2 h
  dsimp only [updG, setO] at h
  refine (rown_st h hw (by omega)).mono ?_
  rintro _ w3 ⟨rfl, h⟩
  first | refine h.newB (NewC.run _) rfl ?_ | refine h.drew.newB (NewC.run _) rfl ?_
  intro b4 w h
  have h := h.ord 2 [1, 0]
  dsimp only [pick, nthO, dropO] at h
  refine h.stor2 1 0 ⟨_, rfl, rfl⟩ rfl ?_
  intro w4 h
  dsimp only [updG, setO] at h
  refine h.loadB 1 0 ⟨_, rfl, rfl⟩ rfl rfl ?_
  rw [SplitB_iff]
  refine ⟨fun h1 => ?_, fun h1 => ?_⟩
  · have h1 : r.own.1 = 0 := by simpa using h1
    rw [Rn.finish, if_pos h1]
    exact ⟨r, rfl, rfl, rfl, ((h.drop 1).drop 1).nilrow 114 6⟩
  · have h1 : ¬ r.own.1 = 0 := by simpa using h1
    rw [Rn.finish, if_neg h1]
    refine appOver h (by omega) 1 (b := b4) (x := r.own.1) (y := r.own.2) ⟨_, rfl, rfl⟩ ?_
    intro q' w6 h
    refine h.load2 2 0 ⟨_, rfl, rfl⟩ rfl ?_
    refine (rturn_st h (N := N + 1) (rwf_over hw _) (by omega) r.top).mono ?_
    rintro s w7 ⟨r', g1, g2, g3, h⟩
    exact ⟨r', g1, g2, g3, (h.drop 2).drop 2⟩
/-! ### Begin -/
def topR (l : List Ep) (n : Nat) : Int := (List.range n).foldl (fun (a : Int) (i : Nat) => max a (grV l (i : Int))) 0
theorem topR_succ (l : List Ep) (n : Nat) : topR l (n + 1) = max (topR l n) (grV l (n : Int)) := by rw [topR, List.range_succ, List.foldl_append]; rfl
def Rn.fresh (r : Rn) (all : Bool) : Rn := { r with known := r.known ++ [(topR r.known r.n + 1, (r.me : Int))], needs := all }
def Rn.begin_ (r : Rn) (limit rights held : Int) (all : Bool) : List A6 × Int × Rn :=
  if ¬ (okA [limit, rights, held] = true ∧ limit ≠ 0) then ([], 1, r) else if r.lives.length > 0 then ([], 62, r) else if topR r.known r.n ≥ 1099511627776 then ([], 2, r) else
  if (r.fresh all).look limit rights held = [] then ([(1, -1, topR r.known r.n + 1, (r.me : Int), 0, 0)], 0, r.fresh all) else ((r.fresh all).look limit rights held, 0, r.fresh all)
theorem rwf_fresh {r : Rn} {N : Nat} (h : r.wf N) (all : Bool) : (r.fresh all).wf (N + 1) :=
  ⟨h.n, h.me, by simp [Rn.fresh]; have := h.kl; omega, by have := h.ol; show r.over.length ≤ _; omega, by have := h.nl; show r.notes.length ≤ _; omega, h.nb⟩
theorem rwf_begin {r : Rn} {N : Nat} (h : r.wf N) (a b c : Int) (d : Bool) : (r.begin_ a b c d).2.2.wf (N + 1) := by
  rw [Rn.begin_]
  split
  · exact h.mono (Nat.le_succ _)
  split
  · exact h.mono (Nat.le_succ _)
  split
  · exact h.mono (Nat.le_succ _)
  split <;> exact rwf_fresh h d
theorem grV_ge (l : List Ep) (k : Int) : 0 ≤ grV l k := by
  have : ∀ (l : List Ep) (a : Int), 0 ≤ a → 0 ≤ l.foldl (fun n x => if x.2 = k ∧ x.1 > n then x.1 else n) a := by
    intro l
    induction l with
    | nil => intro a h; exact h
    | cons x t ih =>
      intro a h
      rw [List.foldl_cons]
      refine ih _ ?_
      split <;> omega
  exact this l 0 (Int.le_refl _)
theorem topR_ge (l : List Ep) : ∀ n, 0 ≤ topR l n
  | 0 => Int.le_refl _
  | n + 1 => by rw [topR_succ]; have := topR_ge l n; omega
theorem rbegin_st {r : Rm} {N : Nat} (h : St w0 w (rmE r :: F)) (hw : r.wf N) (hN : N ≤ 100000000) (limit rights held : Int) (all : Bool) : CallK Try.prog (.tup (.cons .sl (.cons (.int .i64) .nilT))) 31 #[.pointer r.p, .int .i64 limit, .int .i64 rights, .int .i64 held, .bool all] w
    fun (v : Sl × Int × Unit) w' => ∃ (s : Sl) (r' : Rm), v = (s, (r.begin_ limit rights held all).2.1, ()) ∧ r'.cb = r.cb ∧ r'.toRn = (r.begin_ limit rights held all).2.2 ∧ s.len = (r.begin_ limit rights held all).1.length ∧ St w0 w' ([.row 114 6 s (acs (r.begin_ limit rights held all).1)] :: rmE r' :: F) := by
  refine T31.calls ?_
  unfold T31
  have hn := hw.n
  have hkl := hw.kl
  refine (right_st limit rights held).mono ?_
  rintro _ w1 ⟨rfl, rfl⟩
  rw [SplitB_iff]
  refine ⟨fun h1 => ?_, fun h1 => ?_⟩
  · have h1 : ¬ (okA [limit, rights, held] = true ∧ limit ≠ 0) := by
      intro hh
      rw [hh.1, decide_eq_true hh.2] at h1
      cases h1
    rw [Rn.begin_, if_pos h1]
    exact ⟨_, r, rfl, rfl, rfl, rfl, h.nilrow 114 6⟩
  have h1 : ¬ ¬ (okA [limit, rights, held] = true ∧ limit ≠ 0) := by
    have h1 : (okA [limit, rights, held] && decide (limit ≠ 0)) = true := by simpa using h1
    rw [Bool.and_eq_true] at h1
    exact fun hh => hh ⟨h1.1, of_decide_eq_true h1.2⟩
  refine (rfrozen_st h hw (by omega)).mono ?_
  rintro _ w2 ⟨rfl, h⟩
  rw [SplitB_iff]
  refine ⟨fun h2 => ?_, fun h2 => ?_⟩
  · have h2 := of_decide_eq_true h2
    rw [Rn.begin_, if_neg h1, if_pos h2]
    exact ⟨_, r, rfl, rfl, rfl, rfl, h.nilrow 114 6⟩
  have h2 := of_decide_eq_false h2
  refine LoopX.mk (fun st w' => ∃ (m : Nat), st = (topR r.known m, (m : Int), ()) ∧ m ≤ r.n ∧ St w0 w' (rmE r :: F)) (fun st => ((r.n : Int) - st.2.1).toNat) ⟨0, rfl, Nat.zero_le _, h⟩ ?_
  clear h
  rintro _ w3 ⟨m, rfl, hm, h⟩ k hk
  dsimp only at hk ⊢
  repeat (first | (with_reducible refine NilP.mk ?_) | ((with_reducible refine RunN.isLoad ?_); (first | refine h.load2 0 0 ⟨_, rfl, rfl⟩ rfl ?_ | refine h.loadB 0 0 ⟨_, rfl, rfl⟩ rfl rfl ?_ | refine h.drew.load2 0 0 ⟨_, rfl, rfl⟩ rfl ?_ | refine h.drew.loadB 0 0 ⟨_, rfl, rfl⟩ rfl rfl ?_)) | ((with_reducible refine ReadN.isLoad ?_); (first | refine h.read2 0 0 ⟨_, rfl, rfl⟩ rfl ?_ | refine h.readB 0 0 ⟨_, rfl, rfl⟩ rfl rfl ?_ | refine h.drew.read2 0 0 ⟨_, rfl, rfl⟩ rfl ?_ | refine h.drew.readB 0 0 ⟨_, rfl, rfl⟩ rfl rfl ?_)) | ((with_reducible refine StillV.isLoad ?_); (first | refine ⟨h.stillB 0 0 ⟨_, rfl, rfl⟩ rfl rfl, ?_⟩ | refine ⟨h.still2 0 0 ⟨_, rfl, rfl⟩ rfl, ?_⟩)) | ((with_reducible refine RunU.isStor ?_); (first | (refine h.stor2 0 0 ⟨_, rfl, rfl⟩ rfl ?_; intro w h; dsimp only [updG, setO] at h) | (refine h.storB 0 0 ⟨_, rfl, rfl⟩ rfl rfl rfl ?_; intro w h; dsimp only [updG, setO] at h) | (refine h.drew.stor2 0 0 ⟨_, rfl, rfl⟩ rfl ?_; intro w h; dsimp only [updG, setO] at h) | (refine h.drew.storB 0 0 ⟨_, rfl, rfl⟩ rfl rfl rfl ?_; intro w h; dsimp only [updG, setO] at h))) | ((with_reducible refine RunN.isBox ?_); (first | (refine h.newB run_boxA rfl ?_; intro bn w h; try dsimp only at h; have h := h.ord 2 [1, 0]; dsimp only [pick, nthO, dropO] at h) | (refine h.drew.newB run_boxA rfl ?_; intro bn w h; try dsimp only at h; have h := h.ord 2 [1, 0]; dsimp only [pick, nthO, dropO] at h))) | ((with_reducible refine RunN.isNew ?_); (first | (refine h.newB (NewC.run _) rfl ?_; intro bn w h; have h := h.ord 2 [1, 0]; dsimp only [pick, nthO, dropO] at h) | (refine h.drew.newB (NewC.run _) rfl ?_; intro bn w h; have h := h.ord 2 [1, 0]; dsimp only [pick, nthO, dropO] at h))) | (refine RunN.k2Eq ?_) | (refine RunN.k2Ne ?_) | (refine ReadN.k2Eq ?_) | (refine ReadN.k2Ne ?_))
  rw [SplitB_iff]
  refine ⟨fun hc => ?_, fun hc => ?_⟩
  · have hc : m < r.n := by have : (m : Int) < (r.n : Int) := of_decide_eq_true hc; omega
    have hem : IntKind.i64.wrap ((m : Int) + 1) = ((m + 1 : Nat) : Int) := by rw [wr (by omega)]; omega
    refine NilP.mk ?_
    refine h.loadB 0 0 ⟨_, rfl, rfl⟩ rfl (kd := .sl) (x := r.kq) rfl ?_
    refine (greatest_st (h.rd (k := 0) (i := 1) (E := 54) (sz := 2) (s := r.kq) (vs := eps r.known) ⟨_, rfl, rfl⟩) (by omega) _).mono ?_
    rintro _ w4 ⟨rfl, rfl⟩
    refine RunN.of (kd := .int .i64) (max_i _ _ _) ?_
    rw [hem, ← topR_succ]
    exact hk _ _ ⟨m + 1, rfl, by omega, h⟩ (by dsimp only; omega)
  have hc : m = r.n := by have : ¬ (m : Int) < (r.n : Int) := of_decide_eq_false hc; omega
  subst hc
  rw [SplitB_iff]
  refine ⟨fun h3 => ?_, fun h3 => ?_⟩
  · have h3 := of_decide_eq_true h3
    rw [Rn.begin_, if_neg h1, if_neg h2, if_pos h3]
    exact ⟨_, r, rfl, rfl, rfl, rfl, h.nilrow 114 6⟩
  have h3 := of_decide_eq_false h3
  have h0 := topR_ge r.known r.n
  rw [Rn.begin_, if_neg h1, if_neg h2, if_neg h3]
  have ew : IntKind.i64.wrap (topR r.known r.n + 1) = topR r.known r.n + 1 := wr (by omega)
  rw [ew]
  refine NilP.mk ?_
  refine h.loadB 0 0 ⟨_, rfl, rfl⟩ rfl rfl ?_
  first | refine h.newB (NewC.run _) rfl ?_ | refine h.drew.newB (NewC.run _) rfl ?_
  intro b14 w h
  have h := h.ord 2 [1, 0]
  dsimp only [pick, nthO, dropO] at h
  refine h.stor2 1 0 ⟨_, rfl, rfl⟩ rfl ?_
  intro w4 h
  dsimp only [updG, setO] at h
  refine appKnown h (by omega) 1 (b := b14) ⟨_, rfl, rfl⟩ ?_
  intro q' w5 h
  refine NilP.mk ?_
  refine h.storB 0 0 (j := 5) ⟨_, rfl, rfl⟩ rfl rfl rfl ?_
  intro w6 h
  have h : St w0 w6 (rmE { r with toRn := r.fresh all, kq := q' } :: [.cel b14 54 [.int .i64 (topR r.known r.n + 1), .int .i64 (r.me : Int)]] :: F) := h
  refine (rlook_st h (rwf_fresh hw all) (by omega) limit rights held).mono ?_
  rintro s w7 ⟨hs, h⟩
  have hs : s.len = ((r.fresh all).look limit rights held).length := hs
  have h : St w0 w7 ([.row 114 6 s (acs ((r.fresh all).look limit rights held))] :: rmE { r with toRn := r.fresh all, kq := q' } :: [.cel b14 54 [.int .i64 (topR r.known r.n + 1), .int .i64 (r.me : Int)]] :: F) := h
  have hX : (if (r.fresh all).look limit rights held = [] then (([(1, -1, topR r.known r.n + 1, (r.me : Int), 0, 0)], 0, r.fresh all) : List A6 × Int × Rn) else ((r.fresh all).look limit rights held, 0, r.fresh all)) = ((if (r.fresh all).look limit rights held = [] then [(1, -1, topR r.known r.n + 1, (r.me : Int), 0, 0)] else (r.fresh all).look limit rights held), 0, r.fresh all) := by split <;> rfl
  rw [hX]
  dsimp only
  generalize hl : (r.fresh all).look limit rights held = L at *
  refine JoinX.mk (fun (y : Sl × Unit) w' => y.1.len = (if L = [] then [((1 : Int), (-1 : Int), topR r.known r.n + 1, (r.me : Int), (0 : Int), (0 : Int))] else L).length ∧ St w0 w' ([.row 114 6 y.1 (acs (if L = [] then [((1 : Int), (-1 : Int), topR r.known r.n + 1, (r.me : Int), (0 : Int), (0 : Int))] else L))] :: rmE { r with toRn := r.fresh all, kq := q' } :: F)) ?_ ?_
  · rintro ⟨y, ⟨⟩⟩ w8 ⟨hy, h⟩
    exact ⟨y, { r with toRn := r.fresh all, kq := q' }, rfl, rfl, rfl, hy, h⟩
  · intro k3 hk3
    rw [SplitB_iff]
    refine ⟨fun hd => ?_, fun hd => ?_⟩
    · have hd : L = [] := by
        have : (s.len : Int) = 0 := by simpa using hd
        exact List.length_eq_zero_iff.1 (by omega)
      refine h.load2 2 0 ⟨_, rfl, rfl⟩ rfl ?_
      refine newA h (1, -1, topR r.known r.n + 1, (r.me : Int), 0, 0) ?_
      intro s2 w8 hs2 h
      refine hk3 _ _ ⟨?_, ?_⟩
      · rw [if_pos hd]; exact hs2
      · rw [if_pos hd]; exact (h.drop 1).drop 2
    · have hd : L ≠ [] := by
        have : ¬ (s.len : Int) = 0 := by simpa using hd
        intro hn; rw [hn] at hs; simp at hs; omega
      refine hk3 _ _ ⟨?_, ?_⟩
      · rw [if_neg hd]; exact hs
      · rw [if_neg hd]; exact h.drop 2
/-! ### New -/
def rn0 (me n : Nat) : Rn := ⟨me, n, [], [], [], false⟩
theorem rwf0 {me n : Nat} (h : 2 ≤ n ∧ n ≤ 16) (hm : me < n) : (rn0 me n).wf 0 := ⟨h, hm, by simp [rn0], by simp [rn0], by simp [rn0], fun x hx => by simp [rn0] at hx⟩
theorem rnew_st (h : St w0 w F) (me n : Int) : CallK Try.prog (.tup (.cons .ptr (.cons (.int .i64) .nilT))) 29 #[.int .i64 me, .int .i64 n] w fun (v : Option Addr × Int × Unit) w' =>
    (newE me n ≠ 0 ∧ v = (none, newE me n, ()) ∧ St w0 w' F) ∨
    (newE me n = 0 ∧ ∃ r : Rm, v = (r.p, 0, ()) ∧ (r.me : Int) = me ∧ (r.n : Int) = n ∧ r.toRn = rn0 r.me r.n ∧ r.wf 0 ∧ St w0 w' (rmE r :: F)) := by
  refine T29.calls ?_
  unfold T29
  refine JoinX.mk (fun (y : Bool × Unit) w' => y.1 = decide (n < 2 ∨ n > 16) ∧ St w0 w' F) ?_ ?_
  · rintro ⟨y, ⟨⟩⟩ w2 ⟨hy, h⟩
    dsimp only at hy
    subst hy
    rw [SplitB_iff]
    refine ⟨fun h1 => ?_, fun h1 => ?_⟩
    · have h1 := of_decide_eq_true h1
      have e : newE me n = 1 := if_pos h1
      exact .inl ⟨by rw [e]; decide, by rw [e], h⟩
    have h1 := of_decide_eq_false h1
    refine JoinX.mk (fun (y : Bool × Unit) w' => y.1 = decide (me < 0 ∨ me ≥ n) ∧ St w0 w' F) ?_ ?_
    · rintro ⟨y, ⟨⟩⟩ w3 ⟨hy, h⟩
      dsimp only at hy
      subst hy
      rw [SplitB_iff]
      refine ⟨fun h2 => ?_, fun h2 => ?_⟩
      · have h2 := of_decide_eq_true h2
        have e : newE me n = 3 := (if_neg h1).trans (if_pos h2)
        exact .inl ⟨by rw [e]; decide, by rw [e], h⟩
      have h2 := of_decide_eq_false h2
      have e : newE me n = 0 := (if_neg h1).trans (if_neg h2)
      obtain ⟨m', rfl⟩ := Int.eq_ofNat_of_zero_le (show 0 ≤ me by omega)
      obtain ⟨n', rfl⟩ := Int.eq_ofNat_of_zero_le (show 0 ≤ n by omega)
      refine h.newB run_boxA rfl ?_
      intro cb w5 h
      have h := ((h.nilrow 118 4).nilrow 54 2).nilrow 54 2
      have h : St w0 w5 (rmE ⟨rn0 m' n', cb, ⟨none, 0, 0⟩, ⟨none, 0, 0⟩, ⟨none, 0, 0⟩⟩ :: F) := by
        have h := h.ord 4 [3, 0, 1, 2]
        exact h.perm (by simp [rmE, rmC, rn0, pick, nthO, dropO])
      exact .inr ⟨e, ⟨rn0 m' n', cb, _, _, _⟩, rfl, rfl, rfl, rfl, rwf0 (by omega) (by omega), h⟩
    · intro k hk
      rw [SplitB_iff]
      refine ⟨fun h2 => ?_, fun h2 => ?_⟩
      · have h2 : me < 0 := of_decide_eq_true h2
        exact hk _ _ ⟨by simp [h2], h⟩
      · have h2 : ¬ me < 0 := of_decide_eq_false h2
        exact hk _ _ ⟨by simp [h2], h⟩
  · intro k hk
    rw [SplitB_iff]
    refine ⟨fun h2 => ?_, fun h2 => ?_⟩
    · have h2 : n < 2 := of_decide_eq_true h2
      exact hk _ _ ⟨by simp [h2], h⟩
    · have h2 : ¬ n < 2 := of_decide_eq_false h2
      exact hk _ _ ⟨by simp [h2], h⟩
end Go.Proofs.Ytmfbmfppjdkeeaa
