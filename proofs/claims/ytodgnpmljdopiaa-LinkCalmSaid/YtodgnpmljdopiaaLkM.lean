/- LinkNews. -/
import Derived.Test.YtodgnpmljdopiaaLkL
namespace Go.Proofs.Ytodgnpmljdopiaa
open Go Go.Fw Go.RowKit
set_option linter.unusedVariables false
set_option linter.unusedSimpArgs false
set_option maxRecDepth 4000
set_option maxHeartbeats 4000000
variable {w0 w : World} {F G : Grps}

theorem news_st (h : St w0 w F) (p0 p1 p2 p3 : Int) : CallK Try.prog .bool 3 #[.int .i64 p0, .int .i64 p1, .int .i64 p2, .int .i64 p3] w fun (r : Bool) w' => r = true ∧ St w0 w' F := by
  refine T3.calls ?_
  unfold T3
  refine (alive_st h).mono ?_
  intro (a : Bool) w1 ⟨ha, h⟩
  subst ha
  refine (made_st h p0 p1 p2 p3).mono ?_
  rintro r2 w2 (⟨hn, rfl, h⟩ | ⟨hn, xb, rb, sb, bb, e, rfl, he, h⟩)
  · refine JoinX.mk (fun (y : Bool × Unit) w' => y.1 = true ∧ St w0 w' F) ?_ ?_
    · rintro ⟨y, ⟨⟩⟩ w3 ⟨hy, h⟩
      dsimp only at hy
      subst hy
      rw [SplitB_iff]
      refine ⟨fun _ => ?_, fun hf => (by cases hf)⟩
      rw [SplitB_iff]
      refine ⟨fun _ => ?_, fun hf => (by cases hf)⟩
      exact ⟨rfl, h⟩
    · intro k hk
      rw [SplitB_iff]
      refine ⟨fun hf => (by cases hf), fun _ => ?_⟩
      rw [SplitB_iff]
      refine ⟨fun hf => (by cases hf), fun _ => ?_⟩
      refine RunN.pEqN ?_
      exact hk _ _ ⟨rfl, h⟩
  · have h := h.ord 5 [0, 1]
    dsimp only [pick, nthO, dropO] at h
    refine JoinX.mk (fun (y : Bool × Unit) w' => y.1 = false ∧ St w0 w' (lmE e :: [endC xb e rb sb bb] :: F)) ?_ ?_
    rotate_left
    · intro k hk
      rw [SplitB_iff]
      refine ⟨fun hf => (by cases hf), fun _ => ?_⟩
      rw [SplitB_iff]
      refine ⟨fun hf => (by cases hf), fun _ => ?_⟩
      refine RunN.pEqS ?_
      exact hk _ _ ⟨rfl, h⟩
    clear h
    rintro ⟨y, ⟨⟩⟩ w3 ⟨hy, h⟩
    dsimp only at hy
    subst hy
    rw [SplitB_iff]
    refine ⟨fun hf => (by cases hf), fun _ => ?_⟩
    have hwf := lk0_wf hn
    have wa : e.wf := by rw [he]; exact hwf.1
    refine NilP.mk ?_
    refine h.loadB 1 0 ⟨_, rfl, rfl⟩ rfl (kd := .ptr) (x := e.p) rfl ?_
    refine (next_st h).mono ?_
    intro (v : Int) w4 ⟨hv, h⟩
    have hv : v = 1 := by
      rw [hv]
      have : e.want = (lk0 p0 p1 p2 p3).want := by rw [← he]
      rw [this]; rfl
    subst hv
    rw [SplitB_iff]
    refine ⟨fun _ => ?_, fun hf => (by cases hf)⟩
    refine NilP.mk ?_
    refine h.loadB 1 0 ⟨_, rfl, rfl⟩ rfl (kd := .ptr) (x := e.p) rfl ?_
    refine (room_st h wa).mono ?_
    intro (v : Int) w5 ⟨hv, h5⟩
    have hv : v = p2 := by
      rw [hv, he]
      have h2 : ((lk0 p0 p1 p2 p3).win : Int) = p2 := hwf.2
      rw [Lk.room, h2]
      simp [lk0]
    rw [hv]
    clear h
    have h := h5
    rw [SplitB_iff]
    refine ⟨fun _ => ?_, fun hf => (by simp at hf)⟩
    refine NilP.mk ?_
    refine h.loadB 1 0 ⟨_, rfl, rfl⟩ rfl (kd := .ptr) (x := e.p) rfl ?_
    have h : St w0 w5 (lmE e :: dat e.toLk :: [endC xb e rb sb bb] :: F) := by
      rw [(lk0_dat he).1]
      exact h.perm (by simp)
    refine (out_st h wa).mono ?_
    rintro o w6 ⟨us, gs, hgs, hol, h⟩
    have hgs : gs = [] := by
      rw [he] at hgs
      simpa [Lk.outs, lk0, Lk.tells] using hgs
    subst hgs
    have hol : o.len = 0 := hol
    rw [hol, SplitB_iff]
    refine ⟨fun _ => ?_, fun hf => (by cases hf)⟩
    refine NilP.mk ?_
    refine h.loadB 4 0 ⟨_, rfl, rfl⟩ rfl (kd := .ptr) (x := e.p) rfl ?_
    refine (under_st (e := e.outed us) h (outed_wf wa us)).mono ?_
    rintro o2 w7 ⟨gs2, hgs2, hol2, h⟩
    have hgs2 : gs2 = [] := by
      have : (e.outed us).un = (lk0 p0 p1 p2 p3).un := by
        have : (e.outed us).un = e.toLk.un ++ e.toLk.bx := rfl
        rw [this, he]; rfl
      rw [this] at hgs2
      simpa [lk0, Lk.tells] using hgs2
    subst hgs2
    have hol2 : o2.len = 0 := hol2
    rw [hol2]
    refine ⟨rfl, ?_⟩
    have h := h.ord 7 []
    dsimp only [pick, nthO, dropO] at h
    exact h
theorem law3 (W : World) (a b c d : Int) : CallK Try.prog .bool 3 #[.int .i64 a, .int .i64 b, .int .i64 c, .int .i64 d] W fun (r : Bool) w' => Upd W w' nobody ∧ r = true :=
  (news_st (St.init W) a b c d).mono fun _ _ h => ⟨h.2.upd, h.1⟩
end Go.Proofs.Ytodgnpmljdopiaa
