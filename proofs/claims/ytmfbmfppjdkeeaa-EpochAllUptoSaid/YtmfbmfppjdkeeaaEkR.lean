/- A machine and the document's side by side: a call is played. -/
import Derived.Test.YtmfbmfppjdkeeaaEkO
namespace Go.Proofs.Ytmfbmfppjdkeeaa
open Go Go.Fw Go.RowKit
set_option linter.unusedVariables false
set_option linter.unusedSimpArgs false
set_option maxRecDepth 4000
set_option maxHeartbeats 4000000
variable {w0 w : World} {F G : Grps}

structure Ca where
  who : Int
  kind : Int
  limit : Int
  rights : Int
  held : Int
  all : Bool
  own : Bool
  fr : Int
  e : Ep
  o : Ep
def cav (c : Ca) : List Value := [.int .i64 c.who, .int .i64 c.kind, .int .i64 c.limit, .int .i64 c.rights, .int .i64 c.held, .bool c.all, .bool c.own, .int .i64 c.fr, .int .i64 c.e.1, .int .i64 c.e.2, .int .i64 c.o.1, .int .i64 c.o.2]
theorem cav_len (c : Ca) : (cav c).length = 12 := rfl
abbrev cavs (l : List Ca) : List Value := l.flatMap cav
def cat (c : Ca) : (Int × Int × Int × Int × Int × Bool × Bool × Int × Int × Int × Int × Int × Unit) := (c.who, c.kind, c.limit, c.rights, c.held, c.all, c.own, c.fr, c.e.1, c.e.2, c.o.1, c.o.2, ())
theorem turn_len (e : Mv) (was : Ep) : (e.turn was).1.length ≤ 3 := by
  rw [Mv.turn]
  split
  · have := tailA_len e.me e.own e.top e.own
    simp; omega
  · have := tailA_len e.me e.own e.top was
    dsimp only; omega
theorem look_len (e : Mv) (a b c : Int) : (e.look a b c).length ≤ 1 := by rw [Mv.look]; split <;> simp
theorem begin_len (e : Mv) (a b c : Int) (d : Bool) : (e.begin_ a b c d).1.length ≤ 3 := by
  rw [Mv.begin_]
  have := look_len (e.fresh d) a b c
  repeat' split
  all_goals (dsimp only; first | omega | simp)
theorem finish_len (e : Mv) : e.finish.1.length ≤ 3 := by
  rw [Mv.finish]
  split
  · exact turn_len _ _
  · simp
theorem played_st {b N M : Nat} {e : Em} {r : Rm} {k : Kp} {gA gW gE gX : List Ent} (h : St w0 w (emE e [] :: rmE r :: cpE b e r :: kpE k :: gA :: gW :: gE :: gX :: F)) (hp : PrW e r N) (hN : N ≤ 10000000) (hk : KpW k M gA gW gE gX) (hM : M ≤ 1000000 * 9) (c : Ca) :
    CallK Try.prog .bool 16 #[.pointer (some ⟨b, 0, none⟩), .agg ⟨cav c⟩, .pointer k.p] w fun (v : Bool) w' => v = true ∧ ∃ e' r' k' gA' gW' gE' gX', PrW e' r' (N + 4) ∧ e'.cb = e.cb ∧ r'.cb = r.cb ∧ k'.cb = k.cb ∧ KpW k' (M + 2) gA' gW' gE' gX' ∧
      St w0 w' (emE e' [] :: rmE r' :: cpE b e' r' :: kpE k' :: gA' :: gW' :: gE' :: gX' :: F) := by
  refine T16.calls (p1 := cat c) ?_
  unfold T16
  refine h.newB run_boxA rfl ?_
  intro b4 w1 h
  have hw := hp.ew
  have hr := hp.rw'
  have hrel := hp.rel
  generalize hF2 : (kpE k :: gA :: gW :: gE :: gX :: F) = F2
  have h : St w0 w1 (emE e [] :: rmE r :: cpE b e r :: [.cel b4 56 (cav c)] :: F2) := by
    rw [← hF2]; exact h.ord 4 [1, 2, 3, 0]
  refine JoinX.mk (fun (_ : Unit) w' => ∃ c2 : Ca, St w0 w' (emE e [] :: rmE r :: cpE b e r :: [.cel b4 56 (cav c2)] :: F2)) ?_ ?_
  · rintro ⟨⟩ w2 ⟨c2, h⟩
    refine JoinX.mk (fun (y : Sl × Sl × Int × Int × Unit) w' => ∃ (e' : Em) (r' : Rm) (l : List A6), PrW e' r' (N + 4) ∧ l.length ≤ 3 ∧ e'.cb = e.cb ∧ r'.cb = r.cb ∧ y.2.2.1 = y.2.2.2.1 ∧ St w0 w' ([.row 70 6 y.1 (acs l)] :: [.row 114 6 y.2.1 (acs l)] :: emE e' [] :: rmE r' :: cpE b e' r' :: F2)) ?_ ?_
    · rintro ⟨s, t, er, er2, ⟨⟩⟩ w3 ⟨e', r', l, hp', hl, h1, h2, h3, h⟩
      dsimp only at h3 h
      subst h3
      refine JoinX.mk (fun (y : Bool × Unit) w' => y.1 = true ∧ St w0 w' ([.row 70 6 s (acs l)] :: [.row 114 6 t (acs l)] :: emE e' [] :: rmE r' :: cpE b e' r' :: F2)) ?_ ?_
      · rintro ⟨y, ⟨⟩⟩ w4 ⟨hy, h⟩
        dsimp only at hy
        subst hy
        rw [← hF2] at h
        have h := h.ord 10 [0, 5, 6, 7, 8, 9, 2, 3, 4]
        refine (putA_st h hk (by omega) (by omega)).mono ?_
        rintro _ w5 ⟨k1, gA1, gW1, q1, q2, q3, h⟩
        have h := h.ord 8 [5, 6, 7, 0, 1, 2, 3, 4]
        have hpk : k.p = k1.p := by show some _ = some _; rw [q1]
        rw [hpk]
        refine (looks_st h hp' (by omega) q3 (by omega)).mono ?_
        rintro _ w6 ⟨rfl, k2, gE2, gX2, q4, q5, q6, h⟩
        rw [SplitB_iff]
        refine ⟨fun _ => ?_, fun hf => (by cases hf)⟩
        exact ⟨rfl, e', r', k2, gA1, gW1, gE2, gX2, hp', h1, h2, q4.trans q1, q6, h⟩
      · intro k5 hk5
        rw [SplitB_iff]
        refine ⟨fun _ => ?_, fun hf => (by simp at hf)⟩
        refine (same_st (h.rd (k := 0) (i := 0) (E := 70) (sz := 6) (s := s) (vs := acs l) ⟨_, rfl, rfl⟩) (h.rd (k := 1) (i := 0) (E := 114) (sz := 6) (s := t) (vs := acs l) ⟨_, rfl, rfl⟩) (by omega)).mono ?_
        rintro _ w4 ⟨rfl, hu⟩
        exact hk5 _ _ ⟨by simp, h.keep hu⟩
    · intro k3 hk3
      have fin : ∀ {w' : World} {s t : Sl} {er : Int} {e' : Em} {r' : Rm} {l : List A6}, PrW e' r' (N + 4) → l.length ≤ 3 → e'.cb = e.cb → r'.cb = r.cb →
          St w0 w' ([.row 114 6 t (acs l)] :: rmE r' :: [.row 70 6 s (acs l)] :: emE e' [] :: cpE b e r :: [.cel b4 56 (cav c2)] :: F2) → k3 (s, t, er, er, ()) w' := by
        intro w' s t er e' r' l g1 g2 g3 g4 h
        have hcp : cpE b e r = cpE b e' r' := by
          show [Ent.cel b 45 [.pointer (some ⟨e.cb, 0, none⟩), .pointer (some ⟨r.cb, 0, none⟩)]] = [Ent.cel b 45 [.pointer (some ⟨e'.cb, 0, none⟩), .pointer (some ⟨r'.cb, 0, none⟩)]]
          rw [g3, g4]
        rw [hcp] at h
        exact hk3 _ _ ⟨e', r', l, g1, g2, g3, g4, rfl, h.ord 6 [2, 0, 3, 1, 4]⟩
      refine h.loadB 3 0 ⟨_, rfl, rfl⟩ rfl (kd := .int .i64) (x := c2.kind) rfl ?_
      rw [SplitB_iff]
      refine ⟨fun _ => ?_, fun _ => ?_⟩
      · -- Begin
        refine NilP.mk ?_
        refine h.drew.readB 2 0 ⟨_, rfl, rfl⟩ rfl (kd := .ptr) (x := e.p) rfl ?_
        refine h.drew.readB 3 0 ⟨_, rfl, rfl⟩ rfl (kd := .int .i64) (x := c2.limit) rfl ?_
        refine h.drew.readB 3 0 ⟨_, rfl, rfl⟩ rfl (kd := .int .i64) (x := c2.rights) rfl ?_
        refine h.drew.readB 3 0 ⟨_, rfl, rfl⟩ rfl (kd := .int .i64) (x := c2.held) rfl ?_
        refine h.drew.readB 3 0 ⟨_, rfl, rfl⟩ rfl (kd := .bool) (x := c2.all) rfl ?_
        refine (begin_st h.drew hw c2.limit c2.rights c2.held c2.all).mono ?_
        rintro _ w3 ⟨s, e', rfl, g1, g2, g3, h⟩
        refine NilP.mk ?_
        refine h.drew.readB 3 0 ⟨_, rfl, rfl⟩ rfl (kd := .ptr) (x := r.p) rfl ?_
        refine h.drew.readB 4 0 ⟨_, rfl, rfl⟩ rfl (kd := .int .i64) (x := c2.limit) rfl ?_
        refine h.drew.readB 4 0 ⟨_, rfl, rfl⟩ rfl (kd := .int .i64) (x := c2.rights) rfl ?_
        refine h.drew.readB 4 0 ⟨_, rfl, rfl⟩ rfl (kd := .int .i64) (x := c2.held) rfl ?_
        refine h.drew.readB 4 0 ⟨_, rfl, rfl⟩ rfl (kd := .bool) (x := c2.all) rfl ?_
        have h := h.drew.ord 5 [2, 0, 1, 3, 4]
        refine (rbegin_st h hr (by omega) c2.limit c2.rights c2.held c2.all).mono ?_
        rintro _ w4 ⟨t, r', rfl, f1, f2, f3, h⟩
        obtain ⟨l1, l2, l3⟩ := begin_eq hrel hw c2.limit c2.rights c2.held c2.all
        rw [← l1] at h
        dsimp only
        rw [← l2]
        exact fin ⟨by rw [g2]; exact wf_begin hw _ _ _ _, by rw [f2]; exact (rwf_begin hr _ _ _ _).mono (by omega), by rw [g2, f2]; exact l3⟩ (begin_len _ _ _ _ _) g1 f1 h
      rw [SplitB_iff]
      refine ⟨fun _ => ?_, fun _ => ?_⟩
      · -- Hear
        refine NilP.mk ?_
        refine h.drew.readB 2 0 ⟨_, rfl, rfl⟩ rfl (kd := .ptr) (x := e.p) rfl ?_
        refine h.drew.readA 3 0 (b := b4) (t := 56) (cs := cav c2) ⟨_, rfl, rfl⟩ (t' := 54) (n := 2) (j := 8) rfl (kd := Kd2) (c2.e.1, c2.e.2, ()) (vs := epv c2.e) rfl rfl rfl ?_
        refine (hear_st h.drew hw c2.e).mono ?_
        rintro s w3 ⟨e', g1, g2, g3, h⟩
        refine NilP.mk ?_
        refine h.drew.readB 3 0 ⟨_, rfl, rfl⟩ rfl (kd := .ptr) (x := r.p) rfl ?_
        refine h.drew.readA 4 0 (b := b4) (t := 56) (cs := cav c2) ⟨_, rfl, rfl⟩ (t' := 54) (n := 2) (j := 8) rfl (kd := Kd2) (c2.e.1, c2.e.2, ()) (vs := epv c2.e) rfl rfl rfl ?_
        have h := h.drew.ord 5 [2, 0, 1, 3, 4]
        refine (rhear_st h hr (by omega) c2.e).mono ?_
        rintro t w4 ⟨r', f1, f2, f3, h⟩
        obtain ⟨l1, l2⟩ := hear_eq hrel hw c2.e
        rw [← l1] at h
        exact fin ⟨by rw [g2]; exact wf_turn (wf_told hw _ _) _, by rw [f2]; exact (rwf_turn (rwf_told hr _) _).mono (by omega), by rw [g2, f2]; exact l2⟩ (turn_len _ _) g1 f1 h
      rw [SplitB_iff]
      refine ⟨fun _ => ?_, fun _ => ?_⟩
      · -- End
        refine NilP.mk ?_
        refine h.drew.readB 2 0 ⟨_, rfl, rfl⟩ rfl (kd := .ptr) (x := e.p) rfl ?_
        refine h.drew.readA 3 0 (b := b4) (t := 56) (cs := cav c2) ⟨_, rfl, rfl⟩ (t' := 54) (n := 2) (j := 8) rfl (kd := Kd2) (c2.e.1, c2.e.2, ()) (vs := epv c2.e) rfl rfl rfl ?_
        refine h.drew.readA 3 0 (b := b4) (t := 56) (cs := cav c2) ⟨_, rfl, rfl⟩ (t' := 54) (n := 2) (j := 10) rfl (kd := Kd2) (c2.o.1, c2.o.2, ()) (vs := epv c2.o) rfl rfl rfl ?_
        refine (end_st h.drew hw c2.e c2.o).mono ?_
        rintro s w3 ⟨e', g1, g2, g3, h⟩
        refine NilP.mk ?_
        refine h.drew.readB 3 0 ⟨_, rfl, rfl⟩ rfl (kd := .ptr) (x := r.p) rfl ?_
        refine h.drew.readA 4 0 (b := b4) (t := 56) (cs := cav c2) ⟨_, rfl, rfl⟩ (t' := 54) (n := 2) (j := 8) rfl (kd := Kd2) (c2.e.1, c2.e.2, ()) (vs := epv c2.e) rfl rfl rfl ?_
        refine h.drew.readA 4 0 (b := b4) (t := 56) (cs := cav c2) ⟨_, rfl, rfl⟩ (t' := 54) (n := 2) (j := 10) rfl (kd := Kd2) (c2.o.1, c2.o.2, ()) (vs := epv c2.o) rfl rfl rfl ?_
        have h := h.drew.ord 5 [2, 0, 1, 3, 4]
        refine (rend_st h hr (by omega) c2.e c2.o).mono ?_
        rintro t w4 ⟨r', f1, f2, f3, h⟩
        obtain ⟨l1, l2⟩ := end_eq hrel hw c2.e c2.o
        rw [← l1] at h
        exact fin ⟨by rw [g2]; exact wf_turn (wf_told (wf_told hw _ _) _ _) _, by rw [f2]; exact (rwf_turn (rwf_told (rwf_told2 hr _) _) _).mono (by omega), by rw [g2, f2]; exact l2⟩ (turn_len _ _) g1 f1 h
      rw [SplitB_iff]
      refine ⟨fun _ => ?_, fun _ => ?_⟩
      · -- Report
        refine NilP.mk ?_
        refine h.drew.readB 2 0 ⟨_, rfl, rfl⟩ rfl (kd := .ptr) (x := e.p) rfl ?_
        refine h.drew.readB 3 0 ⟨_, rfl, rfl⟩ rfl (kd := .int .i64) (x := c2.fr) rfl ?_
        refine h.drew.readA 3 0 (b := b4) (t := 56) (cs := cav c2) ⟨_, rfl, rfl⟩ (t' := 54) (n := 2) (j := 8) rfl (kd := Kd2) (c2.e.1, c2.e.2, ()) (vs := epv c2.e) rfl rfl rfl ?_
        refine h.drew.readB 3 0 ⟨_, rfl, rfl⟩ rfl (kd := .int .i64) (x := c2.held) rfl ?_
        refine (report_st h.drew hw c2.fr c2.e c2.held).mono ?_
        rintro s w3 ⟨rfl, h⟩
        have h := h.nilrow 70 6
        refine NilP.mk ?_
        refine h.drew.readB 3 0 ⟨_, rfl, rfl⟩ rfl (kd := .ptr) (x := r.p) rfl ?_
        refine h.drew.readB 4 0 ⟨_, rfl, rfl⟩ rfl (kd := .int .i64) (x := c2.fr) rfl ?_
        refine h.drew.readA 4 0 (b := b4) (t := 56) (cs := cav c2) ⟨_, rfl, rfl⟩ (t' := 54) (n := 2) (j := 8) rfl (kd := Kd2) (c2.e.1, c2.e.2, ()) (vs := epv c2.e) rfl rfl rfl ?_
        refine h.drew.readB 4 0 ⟨_, rfl, rfl⟩ rfl (kd := .int .i64) (x := c2.held) rfl ?_
        have h := h.drew.ord 5 [2, 0, 1, 3, 4]
        refine (rreport_st h hr (by omega) c2.fr c2.e c2.held).mono ?_
        rintro _ w4 ⟨r', f1, f2, h⟩
        exact fin (e' := { e with toMv := e.report c2.fr c2.e c2.held }) (l := []) ⟨wf_report hw _ _ _, by rw [f2]; exact (rwf_report hr _ _ _).mono (by omega), by rw [f2]; exact report_rel hrel hw _ _ _⟩ (by simp) rfl f1 (h.nilrow 114 6)
      rw [SplitB_iff]
      refine ⟨fun _ => ?_, fun _ => ?_⟩
      · -- Look
        refine NilP.mk ?_
        refine h.drew.readB 2 0 ⟨_, rfl, rfl⟩ rfl (kd := .ptr) (x := e.p) rfl ?_
        refine h.drew.readB 3 0 ⟨_, rfl, rfl⟩ rfl (kd := .int .i64) (x := c2.limit) rfl ?_
        refine h.drew.readB 3 0 ⟨_, rfl, rfl⟩ rfl (kd := .int .i64) (x := c2.rights) rfl ?_
        refine h.drew.readB 3 0 ⟨_, rfl, rfl⟩ rfl (kd := .int .i64) (x := c2.held) rfl ?_
        refine (look_st h.drew hw c2.limit c2.rights c2.held).mono ?_
        rintro s w3 ⟨e', g1, g2, g3, h⟩
        refine NilP.mk ?_
        refine h.drew.readB 3 0 ⟨_, rfl, rfl⟩ rfl (kd := .ptr) (x := r.p) rfl ?_
        refine h.drew.readB 4 0 ⟨_, rfl, rfl⟩ rfl (kd := .int .i64) (x := c2.limit) rfl ?_
        refine h.drew.readB 4 0 ⟨_, rfl, rfl⟩ rfl (kd := .int .i64) (x := c2.rights) rfl ?_
        refine h.drew.readB 4 0 ⟨_, rfl, rfl⟩ rfl (kd := .int .i64) (x := c2.held) rfl ?_
        have h := h.drew.ord 5 [2, 0, 1, 3, 4]
        refine (rlook_st h hr (by omega) c2.limit c2.rights c2.held).mono ?_
        rintro t w4 ⟨f3, h⟩
        rw [← look_eq hrel hw] at h
        exact fin ⟨by rw [g2]; exact hw, hr.mono (by omega), by rw [g2]; exact hrel⟩ (by have := look_len e.toMv c2.limit c2.rights c2.held; omega) g1 rfl h
      rw [SplitB_iff]
      refine ⟨fun _ => ?_, fun _ => ?_⟩
      · -- Finish
        refine NilP.mk ?_
        refine h.loadB 2 0 ⟨_, rfl, rfl⟩ rfl (kd := .ptr) (x := e.p) rfl ?_
        refine (finish_st h hw).mono ?_
        rintro s w3 ⟨e', g1, g2, g3, h⟩
        refine NilP.mk ?_
        refine h.loadB 3 0 ⟨_, rfl, rfl⟩ rfl (kd := .ptr) (x := r.p) rfl ?_
        have h := h.ord 5 [2, 0, 1, 3, 4]
        refine (rfinish_st h hr (by omega)).mono ?_
        rintro t w4 ⟨r', f1, f2, f3, h⟩
        obtain ⟨l1, l2⟩ := finish_eq hrel hw
        rw [← l1] at h
        exact fin ⟨by rw [g2]; exact wf_finish hw, by rw [f2]; exact (rwf_finish hr).mono (by omega), by rw [g2, f2]; exact l2⟩ (finish_len _) g1 f1 h
      · -- nothing
        have h := (h.nilrow 70 6).nilrow 114 6
        exact fin (l := []) (hp.mono (by omega)) (by simp) rfl rfl (h.ord 6 [0, 3, 1, 2, 4, 5])
  · intro k1 hk1
    refine h.loadB 3 0 ⟨_, rfl, rfl⟩ rfl (kd := .bool) (x := c.own) rfl ?_
    rw [SplitB_iff]
    refine ⟨fun _ => ?_, fun _ => hk1 _ _ ⟨c, h⟩⟩
    refine NilP.mk ?_
    refine h.loadB 2 0 ⟨_, rfl, rfl⟩ rfl (kd := .ptr) (x := r.p) rfl ?_
    have h := h.ord 2 [1, 0]
    refine (rown_st h hr (by omega)).mono ?_
    rintro _ w3 ⟨rfl, h⟩
    have h := h.ord 2 [1, 0]
    refine h.storA 3 0 (b := b4) (t := 56) (cs := cav c) ⟨_, rfl, rfl⟩ (t' := 54) (n := 2) (j := 8) rfl (ds := epv r.own) rfl rfl rfl ?_
    intro w4 h
    exact hk1 _ _ ⟨{ c with e := r.own }, h⟩
end Go.Proofs.Ytmfbmfppjdkeeaa
