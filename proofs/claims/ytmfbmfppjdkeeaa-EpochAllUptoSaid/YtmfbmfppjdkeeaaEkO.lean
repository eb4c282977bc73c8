/- A machine and the document's side by side: a call, what can be looked at. -/
import Derived.Test.YtmfbmfppjdkeeaaEkN
namespace Go.Proofs.Ytmfbmfppjdkeeaa
open Go Go.Fw Go.RowKit
set_option linter.unusedVariables false
set_option linter.unusedSimpArgs false
set_option maxRecDepth 4000
set_option maxHeartbeats 4000000
variable {w0 w : World} {F G : Grps}

/-! ### the document's first answers -/
def ab1 : Mv := ((mv0 1 3).begin_ 10 4 0 false).2.2
theorem ab_acts : ((mv0 1 3).begin_ 10 4 0 false).1 = [(1, -1, 1, 1, 0, 0)] := by decide +kernel
theorem ab_err : ((mv0 1 3).begin_ 10 4 0 false).2.1 = 0 := by decide +kernel
theorem ab_look : ab1.look 10 10 0 = [(4, 1, 1, 1, 0, 0)] := by decide +kernel
theorem ab_top : someE ab1.top = true := by decide +kernel
theorem able_st (h : St w0 w F) : CallK Try.prog .bool 11 #[] w fun (v : Bool) w' => v = true ∧ St w0 w' F := by
  refine T11.calls ?_
  unfold T11
  refine (new_st h 1 3).mono ?_
  rintro _ w1 (⟨h0, _⟩ | ⟨_, e, rfl, h1, h2, h3, hw, h⟩)
  · exact absurd (by decide) h0
  have h1 : e.me = 1 := by omega
  have h2 : e.n = 3 := by omega
  rw [h1, h2] at h3
  refine JoinX.mk (fun (y : Bool × Unit) w' => y.1 = false ∧ St w0 w' (emE e [] :: F)) ?_ ?_
  · rintro ⟨y, ⟨⟩⟩ w2 ⟨hy, h⟩
    dsimp only at hy
    subst hy
    rw [SplitB_iff]
    refine ⟨fun hf => (by cases hf), fun _ => ?_⟩
    refine (begin_st h hw 10 4 0 false).mono ?_
    rintro _ w3 ⟨s, e1, rfl, g1, g2, g3, h⟩
    rw [h3] at g2 g3 h
    rw [h3, ab_err]
    rw [ab_acts] at g3 h
    have hw1 : e1.wf := by rw [g2]; exact wf_begin (wf_mv0 (by omega) (by omega)) _ _ _ _
    have hp : e.p = e1.p := by show some _ = some _; rw [g1]
    have hs : s.len = 1 := g3
    have hrd : ∀ {w' : World}, St w0 w' ([.row 70 6 s (acs [(1, -1, 1, 1, 0, 0)])] :: emE e1 [] :: F) → Rd w' s 6 (acs [(1, -1, 1, 1, 0, 0)]) := fun h => h.rd (k := 0) (i := 0) (E := 70) (sz := 6) (s := s) ⟨_, rfl, rfl⟩
    refine JoinX.mk (fun (y : Bool × Unit) w' => y.1 = false ∧ St w0 w' ([.row 70 6 s (acs [(1, -1, 1, 1, 0, 0)])] :: emE e1 [] :: F)) ?_ ?_
    · rintro ⟨y, ⟨⟩⟩ w4 ⟨hy, h⟩
      dsimp only at hy
      subst hy
      rw [SplitB_iff]
      refine ⟨fun hf => (by cases hf), fun _ => ?_⟩
      have h := h.drop 0
      rw [hp]
      refine (look_st h hw1 10 10 0).mono ?_
      rintro s2 w5 ⟨e2, k1, k2, k3, h⟩
      have g2 : e1.toMv = ab1 := g2
      rw [g2, ab_look] at k3 h
      rw [SplitB_iff]
      refine ⟨fun _ => ?_, fun hf => ?_⟩
      · have hs2 : s2.len = 1 := k3
        have hrd2 := h.rd (k := 0) (i := 0) (E := 70) (sz := 6) (s := s2) ⟨_, rfl, rfl⟩
        refine hrd2.idxK 0 rfl (by omega) ?_
        intro g o ha
        refine hrd2.el ha 0 (add_lit' _ _ _) (kd := .int .i64) (x := 4) rfl ?_
        rw [SplitB_iff]
        refine ⟨fun _ => ?_, fun hf => (by cases hf)⟩
        have h := h.drop 0
        have hp2 : e1.p = e2.p := by show some _ = some _; rw [k1]
        rw [hp2]
        refine (frozen_st h (by rw [k2]; exact hw1)).mono ?_
        rintro _ w6 ⟨rfl, h⟩
        rw [k2, g2, ab_top]
        exact ⟨rfl, h.drop 0⟩
      · exfalso
        have : ¬ (s2.len : Int) = 1 := by simpa using hf
        have : s2.len = 1 := k3
        omega
    · intro k3 hk3
      rw [SplitB_iff]
      refine ⟨fun hf => (by cases hf), fun _ => ?_⟩
      dsimp only
      rw [SplitB_iff]
      refine ⟨fun hf => ?_, fun _ => ?_⟩
      · exfalso
        have : (s.len : Int) ≠ 1 := by simpa using hf
        omega
      refine (hrd h).idxK 0 rfl (by omega) ?_
      intro g o ha
      refine (hrd h).el ha 0 (add_lit' _ _ _) (kd := .int .i64) (x := 1) rfl ?_
      rw [SplitB_iff]
      refine ⟨fun hf => (by cases hf), fun _ => ?_⟩
      refine (hrd h).idxK 0 rfl (by omega) ?_
      intro g o ha
      refine (hrd h).el ha 1 (add_lit' _ _ _) (kd := .int .i64) (x := -1) rfl ?_
      rw [SplitB_iff]
      refine ⟨fun hf => (by cases hf), fun _ => ?_⟩
      refine (hrd h).idxK 0 rfl (by omega) ?_
      intro g o ha
      refine (hrd h).elA ha 2 (add_lit' _ _ _) (kd := Kd2) (1, 1, ()) rfl ?_
      refine RunN.k2Ne ?_
      exact hk3 _ _ ⟨rfl, h⟩
  · intro k1 hk1
    refine RunN.pEqS ?_
    rw [SplitB_iff]
    refine ⟨fun hf => (by cases hf), fun _ => ?_⟩
    exact hk1 _ _ ⟨rfl, h⟩
/-! ### both -/
structure PrW (e : Em) (r : Rm) (N : Nat) : Prop where
  ew : e.wf
  rw' : r.wf N
  rel : Rel e.toMv r.toRn
theorem PrW.mono {e : Em} {r : Rm} {N M : Nat} (h : PrW e r N) (hm : N ≤ M) : PrW e r M := ⟨h.ew, h.rw'.mono hm, h.rel⟩
def cpE (b : Nat) (e : Em) (r : Rm) : List Ent := [.cel b 45 [.pointer e.p, .pointer r.p]]
theorem begin2_st {b : Nat} (h : St w0 w ([.cel b 45 [.pointer none, .pointer none]] :: F)) (me n : Int) : CallK Try.prog .bool 15 #[.pointer (some ⟨b, 0, none⟩), .int .i64 me, .int .i64 n] w fun (v : Bool) w' => v = true ∧
    (St w0 w' ([.cel b 45 [.pointer none, .pointer none]] :: F) ∨ ∃ e r, PrW e r 0 ∧ St w0 w' (emE e [] :: rmE r :: cpE b e r :: F)) := by
  refine T15.calls ?_
  unfold T15
  refine (new_st h me n).mono ?_
  rintro _ w1 (⟨h0, rfl, h⟩ | ⟨h0, e, rfl, h1, h2, h3, hw, h⟩)
  · refine (rnew_st h me n).mono ?_
    rintro _ w2 (⟨_, rfl, h⟩ | ⟨h0', _⟩)
    · refine NilP.mk ?_
      refine h.storB 0 0 ⟨_, rfl, rfl⟩ rfl rfl rfl ?_
      intro w3 h
      refine NilP.mk ?_
      refine h.storB 0 0 ⟨_, rfl, rfl⟩ rfl rfl rfl ?_
      intro w4 h
      rw [SplitB_iff]
      refine ⟨fun _ => ?_, fun hf => ?_⟩
      · refine RunN.pEqN (RunN.pEqN ?_)
        exact ⟨rfl, .inl h⟩
      · simp at hf
    · exact absurd h0' h0
  · refine (rnew_st h me n).mono ?_
    rintro _ w2 (⟨h0', _⟩ | ⟨_, r, rfl, g1, g2, g3, hr, h⟩)
    · exact absurd h0 h0'
    · have h := h.ord 3 [2, 0, 1]
      refine NilP.mk ?_
      refine h.storB 0 0 ⟨_, rfl, rfl⟩ rfl rfl rfl ?_
      intro w3 h
      refine NilP.mk ?_
      refine h.storB 0 0 ⟨_, rfl, rfl⟩ rfl rfl rfl ?_
      intro w4 h
      rw [SplitB_iff]
      refine ⟨fun _ => ?_, fun hf => ?_⟩
      · refine RunN.pEqS (RunN.pEqS ?_)
        refine ⟨rfl, .inr ⟨e, r, ⟨hw, hr, ?_⟩, h.ord 3 [2, 1, 0]⟩⟩
        have e1 : r.me = e.me := by omega
        have e2 : r.n = e.n := by omega
        rw [h3, g3, e1, e2]
        exact rel0
      · simp at hf
theorem looks_st {b N M : Nat} {e : Em} {r : Rm} {k : Kp} {gA gW gE gX : List Ent} (h : St w0 w (emE e [] :: rmE r :: cpE b e r :: kpE k :: gA :: gW :: gE :: gX :: F)) (hp : PrW e r N) (hN : N ≤ 100000000) (hk : KpW k M gA gW gE gX) (hM : M ≤ 10000000) :
    CallK Try.prog .bool 43 #[.pointer (some ⟨b, 0, none⟩), .pointer k.p] w fun (v : Bool) w' => v = true ∧ ∃ k' gE' gX', k'.cb = k.cb ∧ k'.late = k.late ∧ KpW k' (M + 1) gA gW gE' gX' ∧ St w0 w' (emE e [] :: rmE r :: cpE b e r :: kpE k' :: gA :: gW :: gE' :: gX' :: F) := by
  refine T43.calls ?_
  unfold T43
  have hw := hp.ew
  have hr := hp.rw'
  have hrel := hp.rel
  have hn := hw.n
  refine NilP.mk ?_
  refine h.loadB 2 0 ⟨_, rfl, rfl⟩ rfl (kd := .ptr) (x := e.p) rfl ?_
  refine (lives_st h hw).mono ?_
  rintro s w1 ⟨hs, h⟩
  refine NilP.mk ?_
  refine h.loadB 3 0 ⟨_, rfl, rfl⟩ rfl (kd := .ptr) (x := r.p) rfl ?_
  have h := h.ord 3 [2, 0, 1]
  refine (rlives_st h hr (by omega)).mono ?_
  rintro s2 w2 ⟨hs2, h⟩
  rw [hrel.lives] at hs2 h
  have hll : e.lives.length ≤ e.n := livesTo_len e.toMv e.n
  have hrd1 := h.rd (k := 2) (i := 0) (E := 54) (sz := 2) (s := s) (vs := eps e.lives) ⟨_, rfl, rfl⟩
  have hrd2 := h.rd (k := 0) (i := 0) (E := 54) (sz := 2) (s := s2) (vs := eps e.lives) ⟨_, rfl, rfl⟩
  refine (sameE_st hrd1 hrd2 (by omega)).mono ?_
  rintro _ w3 ⟨rfl, hu⟩
  have h := h.keep hu
  have h := h.ord 10 [2, 5, 6, 7, 8, 9, 3, 1, 4]
  refine (putE_st h hk hM (by omega)).mono ?_
  rintro _ w4 ⟨k', gE', gX', q1, q2, q3, h⟩
  have h := h.ord 8 [5, 6, 7, 0, 1, 2, 3, 4]
  have h : St w0 w4 (emE e [] :: rmE r :: cpE b e r :: kpE k' :: gA :: gW :: gE' :: gX' :: F) := h
  refine NilP.mk ?_
  refine h.loadB 2 0 ⟨_, rfl, rfl⟩ rfl (kd := .ptr) (x := r.p) rfl ?_
  have h := h.ord 2 [1, 0]
  refine (rown_st h hr (by omega)).mono ?_
  rintro _ w5 ⟨rfl, h⟩
  rw [hrel.own hw]
  have h := h.ord 2 [1, 0]
  first | refine h.newB (NewC.run _) rfl ?_ | refine h.drew.newB (NewC.run _) rfl ?_
  intro b7 w h
  have h := h.ord 2 [1, 0]
  dsimp only [pick, nthO, dropO] at h
  refine h.stor2 1 0 ⟨_, rfl, rfl⟩ rfl ?_
  intro w6 h
  dsimp only [updG, setO] at h
  generalize hF2 : (kpE k' :: gA :: gW :: gE' :: gX' :: F) = F2
  have h : St w0 w6 (emE e [] :: [.cel b7 54 [.int .i64 e.own.1, .int .i64 e.own.2]] :: rmE r :: cpE b e r :: F2) := by rw [← hF2]; exact h
  have hdone : ∀ {w' : World}, St w0 w' (emE e [] :: [.cel b7 54 [.int .i64 e.own.1, .int .i64 e.own.2]] :: rmE r :: cpE b e r :: F2) → ∃ k' gE' gX', k'.cb = k.cb ∧ k'.late = k.late ∧ KpW k' (M + 1) gA gW gE' gX' ∧ St w0 w' (emE e [] :: rmE r :: cpE b e r :: kpE k' :: gA :: gW :: gE' :: gX' :: F) := by
    intro w' h
    rw [← hF2] at h
    exact ⟨k', gE', gX', q1, q2, q3, h.drop 1⟩
  rw [SplitB_iff]
  refine ⟨fun _ => ?_, fun hf => (by cases hf)⟩
  have rd3 : ∀ {w' : World} {K : Option Addr → Prop}, St w0 w' (emE e [] :: [.cel b7 54 [.int .i64 e.own.1, .int .i64 e.own.2]] :: rmE r :: cpE b e r :: F2) → K e.p → ReadN Try.prog .ptr (V (Instr.loadAt 42 (.pointer (some ((⟨b, 0, none⟩ : Addr).add 0))))) w' K := fun h hk => h.readB 3 0 ⟨_, rfl, rfl⟩ rfl (kd := .ptr) (x := e.p) rfl hk
  have rd4 : ∀ {w' : World} {K : Option Addr → Prop}, St w0 w' (emE e [] :: [.cel b7 54 [.int .i64 e.own.1, .int .i64 e.own.2]] :: rmE r :: cpE b e r :: F2) → K r.p → ReadN Try.prog .ptr (V (Instr.loadAt 43 (.pointer (some ((⟨b, 0, none⟩ : Addr).add 1))))) w' K := fun h hk => h.readB 3 0 ⟨_, rfl, rfl⟩ rfl (kd := .ptr) (x := r.p) rfl hk
  have st4 : ∀ {w' : World}, St w0 w' (emE e [] :: [.cel b7 54 [.int .i64 e.own.1, .int .i64 e.own.2]] :: rmE r :: cpE b e r :: F2) → StillV Try.prog (V (Instr.loadAt 43 (.pointer (some ((⟨b, 0, none⟩ : Addr).add 1))))) (.pointer r.p) w' := fun h => h.stillB 3 0 ⟨_, rfl, rfl⟩ rfl rfl
  have toR : ∀ {w' : World}, St w0 w' (emE e [] :: [.cel b7 54 [.int .i64 e.own.1, .int .i64 e.own.2]] :: rmE r :: cpE b e r :: F2) → St w0 w' (rmE r :: emE e [] :: [.cel b7 54 [.int .i64 e.own.1, .int .i64 e.own.2]] :: cpE b e r :: F2) := fun h => h.ord 3 [2, 0, 1]
  have toE : ∀ {w' : World}, St w0 w' (rmE r :: emE e [] :: [.cel b7 54 [.int .i64 e.own.1, .int .i64 e.own.2]] :: cpE b e r :: F2) → St w0 w' (emE e [] :: [.cel b7 54 [.int .i64 e.own.1, .int .i64 e.own.2]] :: rmE r :: cpE b e r :: F2) := fun h => h.ord 3 [1, 2, 0]
  refine NilP.mk ?_
  refine rd3 h.drew ?_
  refine NilP.mk ?_
  refine rd4 h.drew ?_
  refine (frozen_st h.drew hw).mono ?_
  rintro _ w7 ⟨rfl, h⟩
  refine ⟨st4 h, ?_⟩
  refine (rfrozen_st (toR h) hr (by omega)).mono ?_
  rintro _ w8 ⟨rfl, h⟩
  have h := toE h
  have efr : (someE e.top == decide (r.lives.length > 0)) = true := by
    rw [hrel.lives]
    rcases top_some hw with ⟨g1, g2⟩ | ⟨g1, _, _, g2⟩
    · rw [g1, g2]; rfl
    · rw [g2, decide_eq_true (List.length_pos_iff.2 g1)]; rfl
  rw [efr, SplitB_iff]
  refine ⟨fun _ => ?_, fun hf => (by cases hf)⟩
  refine NilP.mk ?_
  refine rd3 h ?_
  refine NilP.mk ?_
  refine rd4 h ?_
  refine (top_st h hw).mono ?_
  rintro _ w9 ⟨rfl, h⟩
  refine ⟨st4 h, ?_⟩
  refine (rtop_st (toR h) hr (by omega)).mono ?_
  rintro _ w10 ⟨rfl, h⟩
  have h := toE h
  refine ReadN.k2Eq ?_
  rw [hrel.top, eq_ep e.top e.top, decide_eq_true rfl, SplitB_iff]
  refine ⟨fun _ => ?_, fun hf => (by cases hf)⟩
  refine NilP.mk ?_
  refine rd3 h ?_
  refine h.read2 1 0 ⟨_, rfl, rfl⟩ rfl ?_
  refine (own_st h hw).mono ?_
  rintro _ w11 ⟨rfl, h⟩
  refine ⟨h.still2 1 0 ⟨_, rfl, rfl⟩ rfl, ?_⟩
  refine ReadN.k2Eq ?_
  rw [eq_ep e.own e.own, decide_eq_true rfl, SplitB_iff]
  refine ⟨fun _ => ?_, fun hf => (by cases hf)⟩
  refine NilP.mk ?_
  refine rd3 h ?_
  refine h.readB 1 0 ⟨_, rfl, rfl⟩ rfl rfl ?_
  refine (all_st h hw).mono ?_
  rintro _ w12 ⟨rfl, h⟩
  refine ⟨h.stillB 1 0 ⟨_, rfl, rfl⟩ rfl rfl, ?_⟩
  have eall := all_eq hrel hw
  have fin : ∀ {w' : World}, St w0 w' (emE e [] :: [.cel b7 54 [.int .i64 e.own.1, .int .i64 e.own.2]] :: rmE r :: cpE b e r :: F2) →
      (NilP (some ⟨b, 0, none⟩) fun t84 => ReadN Try.prog .ptr (V (Instr.loadAt 42 (.pointer (some (t84.add 0))))) w' fun t86 =>
        NilP (some ⟨b, 0, none⟩) fun t89 => ReadN Try.prog .ptr (V (Instr.loadAt 43 (.pointer (some (t89.add 1))))) w' fun t91 =>
        CallK Try.prog (.int .i64) 49 #[.pointer t86] w' fun (t87 : Int) w =>
        StillV Try.prog (V (Instr.loadAt 43 (.pointer (some (t89.add 1))))) (.pointer t91) w ∧
        CallK Try.prog (.int .i64) 67 #[.pointer t91] w fun (t92 : Int) w => (t87 == t92) = true ∧ ∃ k' gE' gX', k'.cb = k.cb ∧ k'.late = k.late ∧ KpW k' (M + 1) gA gW gE' gX' ∧ St w0 w (emE e [] :: rmE r :: cpE b e r :: kpE k' :: gA :: gW :: gE' :: gX' :: F)) := by
    intro w' h
    refine NilP.mk ?_
    refine rd3 h ?_
    refine NilP.mk ?_
    refine rd4 h ?_
    refine (reported_st h hw).mono ?_
    rintro _ w13 ⟨rfl, h⟩
    refine ⟨st4 h, ?_⟩
    refine (rreported_st (toR h) hr (by omega)).mono ?_
    rintro _ w14 ⟨rfl, h⟩
    have h := toE h
    exact ⟨by rw [reported_eq hrel hw]; simp, hdone h⟩
  rw [SplitB_iff]
  refine ⟨fun h1 => ?_, fun h1 => ?_⟩
  · rw [h1, Bool.true_and] at eall
    refine NilP.mk ?_
    refine rd4 h ?_
    refine (rall_st (toR h) hr (by omega)).mono ?_
    rintro _ w13 ⟨rfl, h⟩
    have h := toE h
    rw [eall, SplitB_iff]
    refine ⟨fun _ => ?_, fun hf => (by simp at hf)⟩
    exact fin h
  · rw [h1, Bool.false_and] at eall
    rw [eall, SplitB_iff]
    refine ⟨fun _ => ?_, fun hf => (by cases hf)⟩
    exact fin h
end Go.Proofs.Ytmfbmfppjdkeeaa
