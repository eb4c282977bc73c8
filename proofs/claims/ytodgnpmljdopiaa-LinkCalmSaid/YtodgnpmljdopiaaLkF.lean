/- The link in memory: what fits, what is acknowledged. -/
import Derived.Test.YtodgnpmljdopiaaLkE
namespace Go.Proofs.Ytodgnpmljdopiaa
open Go Go.Fw Go.RowKit
set_option linter.unusedVariables false
set_option linter.unusedSimpArgs false
set_option maxRecDepth 4000
set_option maxHeartbeats 2000000
variable {w0 w : World} {F G : Grps}

theorem dropIn (P : Grps) {A B : List Ent} (h : St w0 w (P ++ (A ++ B) :: F)) : St w0 w (P ++ B :: F) := by
  have h1 : St w0 w (A :: (P ++ B :: F)) := by
    refine h.perm ?_
    simp only [List.flatten_append, List.flatten_cons, List.append_assoc]
    have := (List.perm_append_comm (l₁ := P.flatten) (l₂ := A)).append_right (B ++ F.flatten)
    simpa only [List.append_assoc] using this
  exact h1.drop 0
def Lk.fits (e : Lk) (g : Sg) : Bool :=
  g.fr == e.peer && (g.to == e.me && (decide (g.seq ≥ 0) && (decide (g.seq ≤ 1099511627776) && (decide (g.ack ≥ 0) && (decide (g.ack ≤ e.gone) && ((decide (g.seq > 0) || decide (g.d.2.length = 0)) && decide (g.d.2.length ≤ 4000)))))))
theorem fits_st {e : Lm} (h : St w0 w (lmE e :: F)) {g : Sg} (hgl : g.d.1.len = g.d.2.length) : CallK Try.prog .bool 33 #[.pointer e.p, .agg #[.int .i64 g.fr, .int .i64 g.to, .int .i64 g.seq, .int .i64 g.ack, .slice g.d.1.a g.d.1.len g.d.1.cap]] w
    fun (v : Bool) w' => v = e.fits g ∧ St w0 w' (lmE e :: F) := by
  refine T33.calls (p1 := sgt g) ?_
  unfold T33
  first | refine h.newB run_boxA rfl ?_ | refine h.drew.newB run_boxA rfl ?_
  intro b3 w h
  have h := h.ord 2 [1, 0]
  dsimp only [pick, nthO, dropO] at h
  have hd : St w0 w.drew (lmE e :: F) := h.drew.drop 1
  repeat (first | (with_reducible refine NilP.mk ?_) | ((with_reducible refine RunN.isLoad ?_); (first | refine h.load2 0 0 ⟨_, rfl, rfl⟩ rfl ?_ | refine h.loadB 0 0 ⟨_, rfl, rfl⟩ rfl rfl ?_ | refine h.load2 1 0 ⟨_, rfl, rfl⟩ rfl ?_ | refine h.loadB 1 0 ⟨_, rfl, rfl⟩ rfl rfl ?_ | refine h.drew.load2 0 0 ⟨_, rfl, rfl⟩ rfl ?_ | refine h.drew.loadB 0 0 ⟨_, rfl, rfl⟩ rfl rfl ?_ | refine h.drew.load2 1 0 ⟨_, rfl, rfl⟩ rfl ?_ | refine h.drew.loadB 1 0 ⟨_, rfl, rfl⟩ rfl rfl ?_)) | ((with_reducible refine ReadN.isLoad ?_); (first | refine h.read2 0 0 ⟨_, rfl, rfl⟩ rfl ?_ | refine h.readB 0 0 ⟨_, rfl, rfl⟩ rfl rfl ?_ | refine h.read2 1 0 ⟨_, rfl, rfl⟩ rfl ?_ | refine h.readB 1 0 ⟨_, rfl, rfl⟩ rfl rfl ?_ | refine h.drew.read2 0 0 ⟨_, rfl, rfl⟩ rfl ?_ | refine h.drew.readB 0 0 ⟨_, rfl, rfl⟩ rfl rfl ?_ | refine h.drew.read2 1 0 ⟨_, rfl, rfl⟩ rfl ?_ | refine h.drew.readB 1 0 ⟨_, rfl, rfl⟩ rfl rfl ?_)) | ((with_reducible refine StillV.isLoad ?_); (first | refine ⟨h.stillB 0 0 ⟨_, rfl, rfl⟩ rfl rfl, ?_⟩ | refine ⟨h.still2 0 0 ⟨_, rfl, rfl⟩ rfl, ?_⟩ | refine ⟨h.stillB 1 0 ⟨_, rfl, rfl⟩ rfl rfl, ?_⟩ | refine ⟨h.still2 1 0 ⟨_, rfl, rfl⟩ rfl, ?_⟩)) | ((with_reducible refine RunU.isStor ?_); (first | (refine h.stor2 0 0 ⟨_, rfl, rfl⟩ rfl ?_; intro w h; dsimp only [updG, setO] at h) | (refine h.storB 0 0 ⟨_, rfl, rfl⟩ rfl rfl rfl ?_; intro w h; dsimp only [updG, setO] at h) | (refine h.stor2 1 0 ⟨_, rfl, rfl⟩ rfl ?_; intro w h; dsimp only [updG, setO] at h) | (refine h.storB 1 0 ⟨_, rfl, rfl⟩ rfl rfl rfl ?_; intro w h; dsimp only [updG, setO] at h) | (refine h.drew.stor2 0 0 ⟨_, rfl, rfl⟩ rfl ?_; intro w h; dsimp only [updG, setO] at h) | (refine h.drew.storB 0 0 ⟨_, rfl, rfl⟩ rfl rfl rfl ?_; intro w h; dsimp only [updG, setO] at h) | (refine h.drew.stor2 1 0 ⟨_, rfl, rfl⟩ rfl ?_; intro w h; dsimp only [updG, setO] at h) | (refine h.drew.storB 1 0 ⟨_, rfl, rfl⟩ rfl rfl rfl ?_; intro w h; dsimp only [updG, setO] at h))) | ((with_reducible refine RunN.isBox ?_); (first | (refine h.newB run_boxA rfl ?_; intro bn w h; try dsimp only at h; have h := h.ord 2 [1, 0]; dsimp only [pick, nthO, dropO] at h) | (refine h.drew.newB run_boxA rfl ?_; intro bn w h; try dsimp only at h; have h := h.ord 2 [1, 0]; dsimp only [pick, nthO, dropO] at h))) | ((with_reducible refine RunN.isNew ?_); (first | (refine h.newB (NewC.run _) rfl ?_; intro bn w h; have h := h.ord 2 [1, 0]; dsimp only [pick, nthO, dropO] at h) | (refine h.drew.newB (NewC.run _) rfl ?_; intro bn w h; have h := h.ord 2 [1, 0]; dsimp only [pick, nthO, dropO] at h))) | (refine RunN.k2Eq ?_) | (refine RunN.k2Ne ?_) | (refine ReadN.k2Eq ?_) | (refine ReadN.k2Ne ?_))
  rw [SplitB_iff]
  refine ⟨fun c1 => ?_, fun c1 => ?_⟩
  rotate_left
  · exact ⟨by have c1 : (g.fr == e.peer) = false := c1
              simp [Lk.fits, c1], hd⟩
  repeat (first | (with_reducible refine NilP.mk ?_) | ((with_reducible refine RunN.isLoad ?_); (first | refine h.load2 0 0 ⟨_, rfl, rfl⟩ rfl ?_ | refine h.loadB 0 0 ⟨_, rfl, rfl⟩ rfl rfl ?_ | refine h.load2 1 0 ⟨_, rfl, rfl⟩ rfl ?_ | refine h.loadB 1 0 ⟨_, rfl, rfl⟩ rfl rfl ?_ | refine h.drew.load2 0 0 ⟨_, rfl, rfl⟩ rfl ?_ | refine h.drew.loadB 0 0 ⟨_, rfl, rfl⟩ rfl rfl ?_ | refine h.drew.load2 1 0 ⟨_, rfl, rfl⟩ rfl ?_ | refine h.drew.loadB 1 0 ⟨_, rfl, rfl⟩ rfl rfl ?_)) | ((with_reducible refine ReadN.isLoad ?_); (first | refine h.read2 0 0 ⟨_, rfl, rfl⟩ rfl ?_ | refine h.readB 0 0 ⟨_, rfl, rfl⟩ rfl rfl ?_ | refine h.read2 1 0 ⟨_, rfl, rfl⟩ rfl ?_ | refine h.readB 1 0 ⟨_, rfl, rfl⟩ rfl rfl ?_ | refine h.drew.read2 0 0 ⟨_, rfl, rfl⟩ rfl ?_ | refine h.drew.readB 0 0 ⟨_, rfl, rfl⟩ rfl rfl ?_ | refine h.drew.read2 1 0 ⟨_, rfl, rfl⟩ rfl ?_ | refine h.drew.readB 1 0 ⟨_, rfl, rfl⟩ rfl rfl ?_)) | ((with_reducible refine StillV.isLoad ?_); (first | refine ⟨h.stillB 0 0 ⟨_, rfl, rfl⟩ rfl rfl, ?_⟩ | refine ⟨h.still2 0 0 ⟨_, rfl, rfl⟩ rfl, ?_⟩ | refine ⟨h.stillB 1 0 ⟨_, rfl, rfl⟩ rfl rfl, ?_⟩ | refine ⟨h.still2 1 0 ⟨_, rfl, rfl⟩ rfl, ?_⟩)) | ((with_reducible refine RunU.isStor ?_); (first | (refine h.stor2 0 0 ⟨_, rfl, rfl⟩ rfl ?_; intro w h; dsimp only [updG, setO] at h) | (refine h.storB 0 0 ⟨_, rfl, rfl⟩ rfl rfl rfl ?_; intro w h; dsimp only [updG, setO] at h) | (refine h.stor2 1 0 ⟨_, rfl, rfl⟩ rfl ?_; intro w h; dsimp only [updG, setO] at h) | (refine h.storB 1 0 ⟨_, rfl, rfl⟩ rfl rfl rfl ?_; intro w h; dsimp only [updG, setO] at h) | (refine h.drew.stor2 0 0 ⟨_, rfl, rfl⟩ rfl ?_; intro w h; dsimp only [updG, setO] at h) | (refine h.drew.storB 0 0 ⟨_, rfl, rfl⟩ rfl rfl rfl ?_; intro w h; dsimp only [updG, setO] at h) | (refine h.drew.stor2 1 0 ⟨_, rfl, rfl⟩ rfl ?_; intro w h; dsimp only [updG, setO] at h) | (refine h.drew.storB 1 0 ⟨_, rfl, rfl⟩ rfl rfl rfl ?_; intro w h; dsimp only [updG, setO] at h))) | ((with_reducible refine RunN.isBox ?_); (first | (refine h.newB run_boxA rfl ?_; intro bn w h; try dsimp only at h; have h := h.ord 2 [1, 0]; dsimp only [pick, nthO, dropO] at h) | (refine h.drew.newB run_boxA rfl ?_; intro bn w h; try dsimp only at h; have h := h.ord 2 [1, 0]; dsimp only [pick, nthO, dropO] at h))) | ((with_reducible refine RunN.isNew ?_); (first | (refine h.newB (NewC.run _) rfl ?_; intro bn w h; have h := h.ord 2 [1, 0]; dsimp only [pick, nthO, dropO] at h) | (refine h.drew.newB (NewC.run _) rfl ?_; intro bn w h; have h := h.ord 2 [1, 0]; dsimp only [pick, nthO, dropO] at h))) | (refine RunN.k2Eq ?_) | (refine RunN.k2Ne ?_) | (refine ReadN.k2Eq ?_) | (refine ReadN.k2Ne ?_))
  rw [SplitB_iff]
  refine ⟨fun c2 => ?_, fun c2 => ?_⟩
  rotate_left
  · exact ⟨by have c2 : (g.to == e.me) = false := c2
              simp [Lk.fits, c2], hd⟩
  repeat (first | (with_reducible refine NilP.mk ?_) | ((with_reducible refine RunN.isLoad ?_); (first | refine h.load2 0 0 ⟨_, rfl, rfl⟩ rfl ?_ | refine h.loadB 0 0 ⟨_, rfl, rfl⟩ rfl rfl ?_ | refine h.load2 1 0 ⟨_, rfl, rfl⟩ rfl ?_ | refine h.loadB 1 0 ⟨_, rfl, rfl⟩ rfl rfl ?_ | refine h.drew.load2 0 0 ⟨_, rfl, rfl⟩ rfl ?_ | refine h.drew.loadB 0 0 ⟨_, rfl, rfl⟩ rfl rfl ?_ | refine h.drew.load2 1 0 ⟨_, rfl, rfl⟩ rfl ?_ | refine h.drew.loadB 1 0 ⟨_, rfl, rfl⟩ rfl rfl ?_)) | ((with_reducible refine ReadN.isLoad ?_); (first | refine h.read2 0 0 ⟨_, rfl, rfl⟩ rfl ?_ | refine h.readB 0 0 ⟨_, rfl, rfl⟩ rfl rfl ?_ | refine h.read2 1 0 ⟨_, rfl, rfl⟩ rfl ?_ | refine h.readB 1 0 ⟨_, rfl, rfl⟩ rfl rfl ?_ | refine h.drew.read2 0 0 ⟨_, rfl, rfl⟩ rfl ?_ | refine h.drew.readB 0 0 ⟨_, rfl, rfl⟩ rfl rfl ?_ | refine h.drew.read2 1 0 ⟨_, rfl, rfl⟩ rfl ?_ | refine h.drew.readB 1 0 ⟨_, rfl, rfl⟩ rfl rfl ?_)) | ((with_reducible refine StillV.isLoad ?_); (first | refine ⟨h.stillB 0 0 ⟨_, rfl, rfl⟩ rfl rfl, ?_⟩ | refine ⟨h.still2 0 0 ⟨_, rfl, rfl⟩ rfl, ?_⟩ | refine ⟨h.stillB 1 0 ⟨_, rfl, rfl⟩ rfl rfl, ?_⟩ | refine ⟨h.still2 1 0 ⟨_, rfl, rfl⟩ rfl, ?_⟩)) | ((with_reducible refine RunU.isStor ?_); (first | (refine h.stor2 0 0 ⟨_, rfl, rfl⟩ rfl ?_; intro w h; dsimp only [updG, setO] at h) | (refine h.storB 0 0 ⟨_, rfl, rfl⟩ rfl rfl rfl ?_; intro w h; dsimp only [updG, setO] at h) | (refine h.stor2 1 0 ⟨_, rfl, rfl⟩ rfl ?_; intro w h; dsimp only [updG, setO] at h) | (refine h.storB 1 0 ⟨_, rfl, rfl⟩ rfl rfl rfl ?_; intro w h; dsimp only [updG, setO] at h) | (refine h.drew.stor2 0 0 ⟨_, rfl, rfl⟩ rfl ?_; intro w h; dsimp only [updG, setO] at h) | (refine h.drew.storB 0 0 ⟨_, rfl, rfl⟩ rfl rfl rfl ?_; intro w h; dsimp only [updG, setO] at h) | (refine h.drew.stor2 1 0 ⟨_, rfl, rfl⟩ rfl ?_; intro w h; dsimp only [updG, setO] at h) | (refine h.drew.storB 1 0 ⟨_, rfl, rfl⟩ rfl rfl rfl ?_; intro w h; dsimp only [updG, setO] at h))) | ((with_reducible refine RunN.isBox ?_); (first | (refine h.newB run_boxA rfl ?_; intro bn w h; try dsimp only at h; have h := h.ord 2 [1, 0]; dsimp only [pick, nthO, dropO] at h) | (refine h.drew.newB run_boxA rfl ?_; intro bn w h; try dsimp only at h; have h := h.ord 2 [1, 0]; dsimp only [pick, nthO, dropO] at h))) | ((with_reducible refine RunN.isNew ?_); (first | (refine h.newB (NewC.run _) rfl ?_; intro bn w h; have h := h.ord 2 [1, 0]; dsimp only [pick, nthO, dropO] at h) | (refine h.drew.newB (NewC.run _) rfl ?_; intro bn w h; have h := h.ord 2 [1, 0]; dsimp only [pick, nthO, dropO] at h))) | (refine RunN.k2Eq ?_) | (refine RunN.k2Ne ?_) | (refine ReadN.k2Eq ?_) | (refine ReadN.k2Ne ?_))
  rw [SplitB_iff]
  refine ⟨fun c3 => ?_, fun c3 => ?_⟩
  rotate_left
  · exact ⟨by have c3 : decide (g.seq ≥ 0) = false := c3
              simp [Lk.fits, c3], hd⟩
  repeat (first | (with_reducible refine NilP.mk ?_) | ((with_reducible refine RunN.isLoad ?_); (first | refine h.load2 0 0 ⟨_, rfl, rfl⟩ rfl ?_ | refine h.loadB 0 0 ⟨_, rfl, rfl⟩ rfl rfl ?_ | refine h.load2 1 0 ⟨_, rfl, rfl⟩ rfl ?_ | refine h.loadB 1 0 ⟨_, rfl, rfl⟩ rfl rfl ?_ | refine h.drew.load2 0 0 ⟨_, rfl, rfl⟩ rfl ?_ | refine h.drew.loadB 0 0 ⟨_, rfl, rfl⟩ rfl rfl ?_ | refine h.drew.load2 1 0 ⟨_, rfl, rfl⟩ rfl ?_ | refine h.drew.loadB 1 0 ⟨_, rfl, rfl⟩ rfl rfl ?_)) | ((with_reducible refine ReadN.isLoad ?_); (first | refine h.read2 0 0 ⟨_, rfl, rfl⟩ rfl ?_ | refine h.readB 0 0 ⟨_, rfl, rfl⟩ rfl rfl ?_ | refine h.read2 1 0 ⟨_, rfl, rfl⟩ rfl ?_ | refine h.readB 1 0 ⟨_, rfl, rfl⟩ rfl rfl ?_ | refine h.drew.read2 0 0 ⟨_, rfl, rfl⟩ rfl ?_ | refine h.drew.readB 0 0 ⟨_, rfl, rfl⟩ rfl rfl ?_ | refine h.drew.read2 1 0 ⟨_, rfl, rfl⟩ rfl ?_ | refine h.drew.readB 1 0 ⟨_, rfl, rfl⟩ rfl rfl ?_)) | ((with_reducible refine StillV.isLoad ?_); (first | refine ⟨h.stillB 0 0 ⟨_, rfl, rfl⟩ rfl rfl, ?_⟩ | refine ⟨h.still2 0 0 ⟨_, rfl, rfl⟩ rfl, ?_⟩ | refine ⟨h.stillB 1 0 ⟨_, rfl, rfl⟩ rfl rfl, ?_⟩ | refine ⟨h.still2 1 0 ⟨_, rfl, rfl⟩ rfl, ?_⟩)) | ((with_reducible refine RunU.isStor ?_); (first | (refine h.stor2 0 0 ⟨_, rfl, rfl⟩ rfl ?_; intro w h; dsimp only [updG, setO] at h) | (refine h.storB 0 0 ⟨_, rfl, rfl⟩ rfl rfl rfl ?_; intro w h; dsimp only [updG, setO] at h) | (refine h.stor2 1 0 ⟨_, rfl, rfl⟩ rfl ?_; intro w h; dsimp only [updG, setO] at h) | (refine h.storB 1 0 ⟨_, rfl, rfl⟩ rfl rfl rfl ?_; intro w h; dsimp only [updG, setO] at h) | (refine h.drew.stor2 0 0 ⟨_, rfl, rfl⟩ rfl ?_; intro w h; dsimp only [updG, setO] at h) | (refine h.drew.storB 0 0 ⟨_, rfl, rfl⟩ rfl rfl rfl ?_; intro w h; dsimp only [updG, setO] at h) | (refine h.drew.stor2 1 0 ⟨_, rfl, rfl⟩ rfl ?_; intro w h; dsimp only [updG, setO] at h) | (refine h.drew.storB 1 0 ⟨_, rfl, rfl⟩ rfl rfl rfl ?_; intro w h; dsimp only [updG, setO] at h))) | ((with_reducible refine RunN.isBox ?_); (first | (refine h.newB run_boxA rfl ?_; intro bn w h; try dsimp only at h; have h := h.ord 2 [1, 0]; dsimp only [pick, nthO, dropO] at h) | (refine h.drew.newB run_boxA rfl ?_; intro bn w h; try dsimp only at h; have h := h.ord 2 [1, 0]; dsimp only [pick, nthO, dropO] at h))) | ((with_reducible refine RunN.isNew ?_); (first | (refine h.newB (NewC.run _) rfl ?_; intro bn w h; have h := h.ord 2 [1, 0]; dsimp only [pick, nthO, dropO] at h) | (refine h.drew.newB (NewC.run _) rfl ?_; intro bn w h; have h := h.ord 2 [1, 0]; dsimp only [pick, nthO, dropO] at h))) | (refine RunN.k2Eq ?_) | (refine RunN.k2Ne ?_) | (refine ReadN.k2Eq ?_) | (refine ReadN.k2Ne ?_))
  rw [SplitB_iff]
  refine ⟨fun c4 => ?_, fun c4 => ?_⟩
  rotate_left
  · exact ⟨by have c4 : decide (g.seq ≤ 1099511627776) = false := c4
              simp [Lk.fits, c4], hd⟩
  repeat (first | (with_reducible refine NilP.mk ?_) | ((with_reducible refine RunN.isLoad ?_); (first | refine h.load2 0 0 ⟨_, rfl, rfl⟩ rfl ?_ | refine h.loadB 0 0 ⟨_, rfl, rfl⟩ rfl rfl ?_ | refine h.load2 1 0 ⟨_, rfl, rfl⟩ rfl ?_ | refine h.loadB 1 0 ⟨_, rfl, rfl⟩ rfl rfl ?_ | refine h.drew.load2 0 0 ⟨_, rfl, rfl⟩ rfl ?_ | refine h.drew.loadB 0 0 ⟨_, rfl, rfl⟩ rfl rfl ?_ | refine h.drew.load2 1 0 ⟨_, rfl, rfl⟩ rfl ?_ | refine h.drew.loadB 1 0 ⟨_, rfl, rfl⟩ rfl rfl ?_)) | ((with_reducible refine ReadN.isLoad ?_); (first | refine h.read2 0 0 ⟨_, rfl, rfl⟩ rfl ?_ | refine h.readB 0 0 ⟨_, rfl, rfl⟩ rfl rfl ?_ | refine h.read2 1 0 ⟨_, rfl, rfl⟩ rfl ?_ | refine h.readB 1 0 ⟨_, rfl, rfl⟩ rfl rfl ?_ | refine h.drew.read2 0 0 ⟨_, rfl, rfl⟩ rfl ?_ | refine h.drew.readB 0 0 ⟨_, rfl, rfl⟩ rfl rfl ?_ | refine h.drew.read2 1 0 ⟨_, rfl, rfl⟩ rfl ?_ | refine h.drew.readB 1 0 ⟨_, rfl, rfl⟩ rfl rfl ?_)) | ((with_reducible refine StillV.isLoad ?_); (first | refine ⟨h.stillB 0 0 ⟨_, rfl, rfl⟩ rfl rfl, ?_⟩ | refine ⟨h.still2 0 0 ⟨_, rfl, rfl⟩ rfl, ?_⟩ | refine ⟨h.stillB 1 0 ⟨_, rfl, rfl⟩ rfl rfl, ?_⟩ | refine ⟨h.still2 1 0 ⟨_, rfl, rfl⟩ rfl, ?_⟩)) | ((with_reducible refine RunU.isStor ?_); (first | (refine h.stor2 0 0 ⟨_, rfl, rfl⟩ rfl ?_; intro w h; dsimp only [updG, setO] at h) | (refine h.storB 0 0 ⟨_, rfl, rfl⟩ rfl rfl rfl ?_; intro w h; dsimp only [updG, setO] at h) | (refine h.stor2 1 0 ⟨_, rfl, rfl⟩ rfl ?_; intro w h; dsimp only [updG, setO] at h) | (refine h.storB 1 0 ⟨_, rfl, rfl⟩ rfl rfl rfl ?_; intro w h; dsimp only [updG, setO] at h) | (refine h.drew.stor2 0 0 ⟨_, rfl, rfl⟩ rfl ?_; intro w h; dsimp only [updG, setO] at h) | (refine h.drew.storB 0 0 ⟨_, rfl, rfl⟩ rfl rfl rfl ?_; intro w h; dsimp only [updG, setO] at h) | (refine h.drew.stor2 1 0 ⟨_, rfl, rfl⟩ rfl ?_; intro w h; dsimp only [updG, setO] at h) | (refine h.drew.storB 1 0 ⟨_, rfl, rfl⟩ rfl rfl rfl ?_; intro w h; dsimp only [updG, setO] at h))) | ((with_reducible refine RunN.isBox ?_); (first | (refine h.newB run_boxA rfl ?_; intro bn w h; try dsimp only at h; have h := h.ord 2 [1, 0]; dsimp only [pick, nthO, dropO] at h) | (refine h.drew.newB run_boxA rfl ?_; intro bn w h; try dsimp only at h; have h := h.ord 2 [1, 0]; dsimp only [pick, nthO, dropO] at h))) | ((with_reducible refine RunN.isNew ?_); (first | (refine h.newB (NewC.run _) rfl ?_; intro bn w h; have h := h.ord 2 [1, 0]; dsimp only [pick, nthO, dropO] at h) | (refine h.drew.newB (NewC.run _) rfl ?_; intro bn w h; have h := h.ord 2 [1, 0]; dsimp only [pick, nthO, dropO] at h))) | (refine RunN.k2Eq ?_) | (refine RunN.k2Ne ?_) | (refine ReadN.k2Eq ?_) | (refine ReadN.k2Ne ?_))
  rw [SplitB_iff]
  refine ⟨fun c5 => ?_, fun c5 => ?_⟩
  rotate_left
  · exact ⟨by have c5 : decide (g.ack ≥ 0) = false := c5
              simp [Lk.fits, c5], hd⟩
  repeat (first | (with_reducible refine NilP.mk ?_) | ((with_reducible refine RunN.isLoad ?_); (first | refine h.load2 0 0 ⟨_, rfl, rfl⟩ rfl ?_ | refine h.loadB 0 0 ⟨_, rfl, rfl⟩ rfl rfl ?_ | refine h.load2 1 0 ⟨_, rfl, rfl⟩ rfl ?_ | refine h.loadB 1 0 ⟨_, rfl, rfl⟩ rfl rfl ?_ | refine h.drew.load2 0 0 ⟨_, rfl, rfl⟩ rfl ?_ | refine h.drew.loadB 0 0 ⟨_, rfl, rfl⟩ rfl rfl ?_ | refine h.drew.load2 1 0 ⟨_, rfl, rfl⟩ rfl ?_ | refine h.drew.loadB 1 0 ⟨_, rfl, rfl⟩ rfl rfl ?_)) | ((with_reducible refine ReadN.isLoad ?_); (first | refine h.read2 0 0 ⟨_, rfl, rfl⟩ rfl ?_ | refine h.readB 0 0 ⟨_, rfl, rfl⟩ rfl rfl ?_ | refine h.read2 1 0 ⟨_, rfl, rfl⟩ rfl ?_ | refine h.readB 1 0 ⟨_, rfl, rfl⟩ rfl rfl ?_ | refine h.drew.read2 0 0 ⟨_, rfl, rfl⟩ rfl ?_ | refine h.drew.readB 0 0 ⟨_, rfl, rfl⟩ rfl rfl ?_ | refine h.drew.read2 1 0 ⟨_, rfl, rfl⟩ rfl ?_ | refine h.drew.readB 1 0 ⟨_, rfl, rfl⟩ rfl rfl ?_)) | ((with_reducible refine StillV.isLoad ?_); (first | refine ⟨h.stillB 0 0 ⟨_, rfl, rfl⟩ rfl rfl, ?_⟩ | refine ⟨h.still2 0 0 ⟨_, rfl, rfl⟩ rfl, ?_⟩ | refine ⟨h.stillB 1 0 ⟨_, rfl, rfl⟩ rfl rfl, ?_⟩ | refine ⟨h.still2 1 0 ⟨_, rfl, rfl⟩ rfl, ?_⟩)) | ((with_reducible refine RunU.isStor ?_); (first | (refine h.stor2 0 0 ⟨_, rfl, rfl⟩ rfl ?_; intro w h; dsimp only [updG, setO] at h) | (refine h.storB 0 0 ⟨_, rfl, rfl⟩ rfl rfl rfl ?_; intro w h; dsimp only [updG, setO] at h) | (refine h.stor2 1 0 ⟨_, rfl, rfl⟩ rfl ?_; intro w h; dsimp only [updG, setO] at h) | (refine h.storB 1 0 ⟨_, rfl, rfl⟩ rfl rfl rfl ?_; intro w h; dsimp only [updG, setO] at h) | (refine h.drew.stor2 0 0 ⟨_, rfl, rfl⟩ rfl ?_; intro w h; dsimp only [updG, setO] at h) | (refine h.drew.storB 0 0 ⟨_, rfl, rfl⟩ rfl rfl rfl ?_; intro w h; dsimp only [updG, setO] at h) | (refine h.drew.stor2 1 0 ⟨_, rfl, rfl⟩ rfl ?_; intro w h; dsimp only [updG, setO] at h) | (refine h.drew.storB 1 0 ⟨_, rfl, rfl⟩ rfl rfl rfl ?_; intro w h; dsimp only [updG, setO] at h))) | ((with_reducible refine RunN.isBox ?_); (first | (refine h.newB run_boxA rfl ?_; intro bn w h; try dsimp only at h; have h := h.ord 2 [1, 0]; dsimp only [pick, nthO, dropO] at h) | (refine h.drew.newB run_boxA rfl ?_; intro bn w h; try dsimp only at h; have h := h.ord 2 [1, 0]; dsimp only [pick, nthO, dropO] at h))) | ((with_reducible refine RunN.isNew ?_); (first | (refine h.newB (NewC.run _) rfl ?_; intro bn w h; have h := h.ord 2 [1, 0]; dsimp only [pick, nthO, dropO] at h) | (refine h.drew.newB (NewC.run _) rfl ?_; intro bn w h; have h := h.ord 2 [1, 0]; dsimp only [pick, nthO, dropO] at h))) | (refine RunN.k2Eq ?_) | (refine RunN.k2Ne ?_) | (refine ReadN.k2Eq ?_) | (refine ReadN.k2Ne ?_))
  rw [SplitB_iff]
  refine ⟨fun c6 => ?_, fun c6 => ?_⟩
  rotate_left
  · exact ⟨by have c6 : decide (g.ack ≤ e.gone) = false := c6
              simp [Lk.fits, c6], hd⟩
  have d1 : (g.fr == e.peer) = true := c1
  have d2 : (g.to == e.me) = true := c2
  have d3 : decide (g.seq ≥ 0) = true := c3
  have d4 : decide (g.seq ≤ 1099511627776) = true := c4
  have d5 : decide (g.ack ≥ 0) = true := c5
  have d6 : decide (g.ack ≤ e.gone) = true := c6
  have hl : decide ((g.d.1.len : Int) ≤ 4000) = decide (g.d.2.length ≤ 4000) := by rw [hgl]; exact decide_eq_decide.2 (by omega)
  repeat (first | (with_reducible refine NilP.mk ?_) | ((with_reducible refine RunN.isLoad ?_); (first | refine h.load2 0 0 ⟨_, rfl, rfl⟩ rfl ?_ | refine h.loadB 0 0 ⟨_, rfl, rfl⟩ rfl rfl ?_ | refine h.load2 1 0 ⟨_, rfl, rfl⟩ rfl ?_ | refine h.loadB 1 0 ⟨_, rfl, rfl⟩ rfl rfl ?_ | refine h.drew.load2 0 0 ⟨_, rfl, rfl⟩ rfl ?_ | refine h.drew.loadB 0 0 ⟨_, rfl, rfl⟩ rfl rfl ?_ | refine h.drew.load2 1 0 ⟨_, rfl, rfl⟩ rfl ?_ | refine h.drew.loadB 1 0 ⟨_, rfl, rfl⟩ rfl rfl ?_)) | ((with_reducible refine ReadN.isLoad ?_); (first | refine h.read2 0 0 ⟨_, rfl, rfl⟩ rfl ?_ | refine h.readB 0 0 ⟨_, rfl, rfl⟩ rfl rfl ?_ | refine h.read2 1 0 ⟨_, rfl, rfl⟩ rfl ?_ | refine h.readB 1 0 ⟨_, rfl, rfl⟩ rfl rfl ?_ | refine h.drew.read2 0 0 ⟨_, rfl, rfl⟩ rfl ?_ | refine h.drew.readB 0 0 ⟨_, rfl, rfl⟩ rfl rfl ?_ | refine h.drew.read2 1 0 ⟨_, rfl, rfl⟩ rfl ?_ | refine h.drew.readB 1 0 ⟨_, rfl, rfl⟩ rfl rfl ?_)) | ((with_reducible refine StillV.isLoad ?_); (first | refine ⟨h.stillB 0 0 ⟨_, rfl, rfl⟩ rfl rfl, ?_⟩ | refine ⟨h.still2 0 0 ⟨_, rfl, rfl⟩ rfl, ?_⟩ | refine ⟨h.stillB 1 0 ⟨_, rfl, rfl⟩ rfl rfl, ?_⟩ | refine ⟨h.still2 1 0 ⟨_, rfl, rfl⟩ rfl, ?_⟩)) | ((with_reducible refine RunU.isStor ?_); (first | (refine h.stor2 0 0 ⟨_, rfl, rfl⟩ rfl ?_; intro w h; dsimp only [updG, setO] at h) | (refine h.storB 0 0 ⟨_, rfl, rfl⟩ rfl rfl rfl ?_; intro w h; dsimp only [updG, setO] at h) | (refine h.stor2 1 0 ⟨_, rfl, rfl⟩ rfl ?_; intro w h; dsimp only [updG, setO] at h) | (refine h.storB 1 0 ⟨_, rfl, rfl⟩ rfl rfl rfl ?_; intro w h; dsimp only [updG, setO] at h) | (refine h.drew.stor2 0 0 ⟨_, rfl, rfl⟩ rfl ?_; intro w h; dsimp only [updG, setO] at h) | (refine h.drew.storB 0 0 ⟨_, rfl, rfl⟩ rfl rfl rfl ?_; intro w h; dsimp only [updG, setO] at h) | (refine h.drew.stor2 1 0 ⟨_, rfl, rfl⟩ rfl ?_; intro w h; dsimp only [updG, setO] at h) | (refine h.drew.storB 1 0 ⟨_, rfl, rfl⟩ rfl rfl rfl ?_; intro w h; dsimp only [updG, setO] at h))) | ((with_reducible refine RunN.isBox ?_); (first | (refine h.newB run_boxA rfl ?_; intro bn w h; try dsimp only at h; have h := h.ord 2 [1, 0]; dsimp only [pick, nthO, dropO] at h) | (refine h.drew.newB run_boxA rfl ?_; intro bn w h; try dsimp only at h; have h := h.ord 2 [1, 0]; dsimp only [pick, nthO, dropO] at h))) | ((with_reducible refine RunN.isNew ?_); (first | (refine h.newB (NewC.run _) rfl ?_; intro bn w h; have h := h.ord 2 [1, 0]; dsimp only [pick, nthO, dropO] at h) | (refine h.drew.newB (NewC.run _) rfl ?_; intro bn w h; have h := h.ord 2 [1, 0]; dsimp only [pick, nthO, dropO] at h))) | (refine RunN.k2Eq ?_) | (refine RunN.k2Ne ?_) | (refine ReadN.k2Eq ?_) | (refine ReadN.k2Ne ?_))
  rw [SplitB_iff]
  refine ⟨fun c7 => ?_, fun c7 => ?_⟩
  · have d7 : decide (g.seq > 0) = true := c7
    refine h.drew.readB 1 0 ⟨_, rfl, rfl⟩ rfl (kd := .sl) (x := g.d.1) rfl ?_
    refine ⟨?_, hd⟩
    rw [hl, Lk.fits, d1, d2, d3, d4, d5, d6, d7]; rfl
  · have d7 : decide (g.seq > 0) = false := c7
    refine h.drew.readB 1 0 ⟨_, rfl, rfl⟩ rfl (kd := .sl) (x := g.d.1) rfl ?_
    rw [SplitB_iff]
    refine ⟨fun c8 => ?_, fun c8 => ?_⟩
    · have d8 : decide (g.d.2.length = 0) = true := by
        have : ((g.d.1.len : Nat) : Int) = 0 := by simpa using c8
        exact decide_eq_true (by omega)
      refine h.drew.readB 1 0 ⟨_, rfl, rfl⟩ rfl (kd := .sl) (x := g.d.1) rfl ?_
      refine ⟨?_, hd⟩
      rw [hl, Lk.fits, d1, d2, d3, d4, d5, d6, d7, d8]; rfl
    · have d8 : decide (g.d.2.length = 0) = false := by
        have : ¬ ((g.d.1.len : Nat) : Int) = 0 := by simpa using c8
        exact decide_eq_false (by omega)
      refine ⟨?_, hd⟩
      rw [Lk.fits, d1, d2, d3, d4, d5, d6, d7, d8]; rfl
/-- How many of these are acknowledged. -/
def ackd (l : List Pc) (a : Int) : Nat := (l.takeWhile fun p => decide (p.1 ≤ a)).length
theorem ackd_le (l : List Pc) (a : Int) : ackd l a ≤ l.length := by
  induction l with
  | nil => exact Nat.le_refl _
  | cons x r ih =>
    rw [ackd] at ih ⊢
    rw [List.takeWhile_cons]
    split <;> simp
    exact ih
theorem ackd_of {a : Int} : ∀ {l : List Pc} {m : Nat}, m ≤ l.length → (∀ (i : Nat) (h : i < l.length), i < m → l[i].1 ≤ a) → (∀ h : m < l.length, a < l[m].1) → ackd l a = m
  | [], m, h1, h2, h3 => by simp at h1; subst h1; rfl
  | x :: r, 0, h1, h2, h3 => by
    have : ¬ x.1 ≤ a := by have := h3 (by simp); simp at this; omega
    rw [ackd, List.takeWhile_cons]; simp [this]
  | x :: r, m + 1, h1, h2, h3 => by
    have h4 : x.1 ≤ a := h2 0 (by simp) (by omega)
    have ih := ackd_of (l := r) (m := m) (by simpa using h1) (fun i hi him => h2 (i + 1) (by simp; omega) (by omega)) (fun h => h3 (by simp; omega))
    rw [ackd] at ih ⊢
    rw [List.takeWhile_cons]
    simp [h4, ih]
theorem find_st (h : St w0 w G) {k i : Nat} {s : Sl} {l : List Pc} (he : Has G k i (.row 81 2 s (l.flatMap pcv))) (hl : l.length ≤ 1048576) {k2 i2 : Nat} {b : Nat} {g : Sg} (hb : Has G k2 i2 (.cel b 62 (sgv g))) :
    CallK Try.prog (.int .i64) 34 #[.slice s.a s.len s.cap, .func (.func 35) #[] #[.pointer (some ⟨b, 0, none⟩)]] w
    fun (v : Int) w' => ((v = (ackd l g.ack : Nat) ∧ ackd l g.ack < l.length) ∨ (v = -1 ∧ ackd l g.ack = l.length)) ∧ St w0 w' G := by
  have hsl : s.len = l.length := by have := (h.rd he).1; rw [flat_len pcv_len] at this; omega
  refine T34.calls ?_
  unfold T34
  refine LoopX.mk (fun st w' => ∃ m : Nat, st = ((m : Int), ()) ∧ m ≤ l.length ∧ (∀ (i : Nat) (h : i < l.length), i < m → l[i].1 ≤ g.ack) ∧ St w0 w' G) (fun st => l.length - st.1.toNat) ⟨0, rfl, Nat.zero_le _, fun _ _ h => by omega, h⟩ ?_
  clear h
  rintro _ w1 ⟨m, rfl, hm, hlow, h⟩ kk hk
  dsimp only at hk ⊢
  rw [hsl]
  rw [SplitB_iff]
  refine ⟨fun hc => ?_, fun hc => ?_⟩
  · have hc : m < l.length := by have : (m : Int) < (l.length : Int) := of_decide_eq_true hc
                                 omega
    have hem : IntKind.i64.wrap ((m : Int) + 1) = ((m + 1 : Nat) : Int) := by rw [wr (by omega)]; omega
    rw [hem, ← hsl]
    have hrr := h.rd he
    refine hrr.idxK m rfl (by omega) ?_
    intro g0 o0 ha
    refine hrr.elA ha (m * 2) rfl (kd := Kdp) (pct l[m]) (ds := pcv l[m]) (flat_at pcv_len _ _ hc) ?_
    refine T35.calls (p0 := pct l[m]) ?_
    unfold T35
    refine h.newB run_boxA rfl ?_
    intro b2 w2 h
    refine h.loadB 0 0 ⟨_, rfl, rfl⟩ rfl (kd := .int .i64) (x := l[m].1) rfl ?_
    have h := h.drop 0
    dsimp only [delO] at h
    refine h.loadB k2 i2 hb rfl (kd := .int .i64) (x := g.ack) rfl ?_
    dsimp only
    rw [SplitB_iff]
    refine ⟨fun hd => ?_, fun hd => ?_⟩
    · have hd : l[m].1 > g.ack := of_decide_eq_true hd
      have e1 := ackd_of (a := g.ack) hm hlow (fun _ => hd)
      exact ⟨.inl ⟨by rw [e1], by omega⟩, h⟩
    · have hd : ¬ l[m].1 > g.ack := of_decide_eq_false hd
      refine hk _ _ ⟨m + 1, rfl, by omega, fun i hi him => ?_, h⟩ (by dsimp only; omega)
      by_cases h1 : i < m
      · exact hlow i hi h1
      · have : i = m := by omega
        subst this; omega
  · have hc : m = l.length := by have : ¬ (m : Int) < (l.length : Int) := of_decide_eq_false hc
                                 omega
    have e1 := ackd_of (a := g.ack) hm hlow (fun h => by omega)
    exact ⟨.inr ⟨rfl, by omega⟩, h⟩
theorem zeroN (w : World) (n : Nat) : (do pure (Builtin.zeroCells (← zeroValue 81).cells n).toList : Sem (List Value)).run Try.prog w = .ok ((List.range (n * 2)).map fun i => if i % 2 = 0 then .int .i64 0 else .slice none 0 0) w := by
  simp only [Sem.run_bind, zero81, Result.andThen_ok, Sem.run_pure]
  congr 1
  simp only [Builtin.zeroCells, Value.cells]
  simp only [Array.toList_map, Array.toList_range]
  refine List.map_congr_left fun i _ => ?_
  rcases Nat.mod_two_eq_zero_or_one i with h | h <;> simp [h]
theorem delete_st (h : St w0 w G) {k i : Nat} {s : Sl} {l : List Pc} (he : Has G k i (.row 81 2 s (l.flatMap pcv))) (hl : l.length ≤ 1048576) {j : Nat} (hj : j ≤ l.length) :
    CallK Try.prog .sl 36 #[.slice s.a s.len s.cap, .int .i64 0, .int .i64 (j : Int)] w fun (r : Sl) w' => St w0 w' (updG G k i [.row 81 2 r ((l.drop j).flatMap pcv)]) := by
  have hrd := h.rd he
  have hlen : s.len = l.length := by have := hrd.1; rw [flat_len pcv_len] at this; omega
  have hcap := hrd.2.2
  have hfl := flat_len pcv_len l
  refine T36.calls ?_
  unfold T36
  obtain ⟨q, hq⟩ := run_subLHM (P := Try.prog) (w := w) (t := 75) (s := s) (k := .i64) (kh := .i64) (km := .i64) (l := (0 : Int)) (h := (j : Int)) (m := (s.len : Int)) (lo := 0) (hi := j) rfl rfl rfl (by omega) (by omega) hrd.2.2
  refine RunN.of (kd := .sl) (x := q) hq ?_
  rw [SplitB_iff]
  refine ⟨fun hc => ?_, fun hc => ?_⟩
  · have : j = 0 := by have : (0 : Int) = (j : Int) := by simpa using hc
                       omega
    subst this
    dsimp only
    rw [List.drop_zero, upd_self he]
    exact h
  · have hj0 : 0 < j := by
      rcases Nat.eq_zero_or_pos j with h0 | h0
      · subst h0; simp at hc
      · exact h0
    refine ReadN.sH 0 rfl (by omega) ?_
    refine ReadN.sL j rfl (by omega) ?_
    rw [subS_zero]
    have hsuf := (h.drew.rd he).suf (lo := j) (by omega)
    have hsl : (subS s j s.len 2).len = l.length - j := by simp only [subS]; omega
    refine St.appIn h.drew k i he 0 hsuf (fun v hv => flat_one pcv_one l v (List.mem_of_mem_drop hv)) (by omega) (by rw [hsl]; omega) ?_
    intro w2 h
    rw [hsl, show 0 + (l.length - j) = l.length - j by omega] at h ⊢
    have he2 := has_upd he (.row 81 2 s (List.take (0 * 2) (l.flatMap pcv) ++ (l.flatMap pcv).drop (j * 2) ++ (l.flatMap pcv).drop ((l.length - j) * 2)))
    refine RunN.sLH (s := ⟨s.a, l.length - j, s.cap⟩) (l.length - j) s.len rfl rfl (by omega) hrd.2.2 ?_
    have e1 : (subS ⟨s.a, l.length - j, s.cap⟩ (l.length - j) s.len 2).len = j := by simp only [subS]; omega
    rw [e1]
    refine h.clear k i he2 (l.length - j) (n := j) (zeroN _ j) (by simp) (List.all_eq_true.2 fun v hv => by
      obtain ⟨x, _, rfl⟩ := List.mem_map.1 hv
      split <;> rfl) hj0 (fun b o hb => ?_) (by omega) ?_
    · rw [subS_addr (s := ⟨s.a, l.length - j, s.cap⟩) hb (by have := hrd.2.2; dsimp only; omega)]
    intro w3 h
    rw [upd_upd he] at h
    have he3 := has_upd he (.row 81 2 s (List.take ((l.length - j) * 2) (List.take (0 * 2) (l.flatMap pcv) ++ (l.flatMap pcv).drop (j * 2) ++ (l.flatMap pcv).drop ((l.length - j) * 2)) ++ ((List.range (j * 2)).map fun i => if i % 2 = 0 then Value.int .i64 0 else .slice none 0 0) ++ List.drop ((l.length - j + j) * 2) (List.take (0 * 2) (l.flatMap pcv) ++ (l.flatMap pcv).drop (j * 2) ++ (l.flatMap pcv).drop ((l.length - j) * 2))))
    have h := h.preR he3 (hi := l.length - j) (by omega)
    rw [upd_upd he, subS_zero] at h
    have hdl : ((l.flatMap pcv).drop (j * 2)).length = (l.length - j) * 2 := by rw [List.length_drop, hfl]; omega
    have hdf : (l.flatMap pcv).drop (j * 2) = (l.drop j).flatMap pcv := by
      have e0 : l.flatMap pcv = (l.take j).flatMap pcv ++ (l.drop j).flatMap pcv := by rw [← List.flatMap_append, List.take_append_drop]
      rw [e0, List.drop_append_of_le_length (by rw [flat_len pcv_len, List.length_take]; omega), List.drop_of_length_le (by rw [flat_len pcv_len, List.length_take]; omega), List.nil_append]
    have e : List.take ((l.length - j) * 2) (List.take ((l.length - j) * 2) (List.take (0 * 2) (l.flatMap pcv) ++ (l.flatMap pcv).drop (j * 2) ++ (l.flatMap pcv).drop ((l.length - j) * 2)) ++ ((List.range (j * 2)).map fun i => if i % 2 = 0 then Value.int .i64 0 else .slice none 0 0) ++ List.drop ((l.length - j + j) * 2) (List.take (0 * 2) (l.flatMap pcv) ++ (l.flatMap pcv).drop (j * 2) ++ (l.flatMap pcv).drop ((l.length - j) * 2))) = (l.drop j).flatMap pcv := by
      rw [Nat.zero_mul, List.take_zero, List.nil_append, List.append_assoc, List.take_append_of_le_length (by rw [List.length_take, List.length_append, hdl]; omega), List.take_take, Nat.min_self, List.take_append_of_le_length (by omega), List.take_of_length_le (by omega), hdf]
    rw [e] at h
    exact h
end Go.Proofs.Ytodgnpmljdopiaa
