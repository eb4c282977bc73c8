/- The link in memory: what is handed in, what is told. -/
import Derived.Test.YtodgnpmljdopiaaLkB
namespace Go.Proofs.Ytodgnpmljdopiaa
open Go Go.Fw Go.RowKit
set_option linter.unusedVariables false
set_option linter.unusedSimpArgs false
set_option maxRecDepth 4000
set_option maxHeartbeats 2000000
variable {w0 w : World} {F G : Grps}

theorem snoc_grp {x : Ent} {A g : List Ent} (h : St w0 w ([x] :: A :: g :: F)) : St w0 w (A :: (g ++ [x]) :: F) := by
  refine h.perm ?_
  simp only [List.flatten_cons, List.singleton_append, List.append_assoc]
  refine (List.perm_middle (a := x) (l₁ := A) (l₂ := g ++ F.flatten)).symm.trans ?_
  exact List.Perm.append_left A (List.perm_middle (a := x) (l₁ := g) (l₂ := F.flatten)).symm
theorem sup {p : Sl} {sz : Nat} {vs : List Value} {g : List Ent} (h : SeesG w0 F p sz vs) : SeesG w0 (g :: F) p sz vs := fun w hw => h w (hw.drop 0)
/-- What Send makes of a link. -/
def Lk.refuse (e : Lk) (l : List UInt8) : Int := if l.length > 4000 then 2 else if e.room ≤ 0 ∨ e.last ≥ 1099511627776 then 30 else 0
def Lm.sent (e : Lm) (s : Sl) (l : List UInt8) : Lm := { e with last := e.last + 1, cs := e.cs + 1, bx := e.bx ++ [(e.last + 1, s, l)] }
theorem send_st {e : Lm} (h : St w0 w (lmE e :: dat e.toLk :: F)) (hw : e.wf) {p : Sl} {l : List UInt8} (hp : SeesG w0 F p 1 (bys l)) (hl : l.length ≤ 140737488351232) : CallK Try.prog (.int .i64) 23 #[.pointer e.p, .slice p.a p.len p.cap] w
    fun (v : Int) w' => v = e.refuse l ∧ (v ≠ 0 → St w0 w' (lmE e :: dat e.toLk :: F)) ∧ (v = 0 → ∃ s, St w0 w' (lmE (e.sent s l) :: dat (e.sent s l).toLk :: F)) := by
  have hpl := (hp _ ((h.drop 0).drop 0)).bys_len
  refine T23.calls ?_
  unfold T23
  rw [SplitB_iff]
  refine ⟨fun hc => ?_, fun hc => ?_⟩
  · have hc : l.length > 4000 := by have : (p.len : Int) > 4000 := of_decide_eq_true hc
                                    omega
    have : e.refuse l = 2 := by rw [Lk.refuse, if_pos hc]
    rw [this]
    exact ⟨rfl, fun _ => h, fun h0 => by cases h0⟩
  · have hc : ¬ l.length > 4000 := by have : ¬ (p.len : Int) > 4000 := of_decide_eq_false hc
                                      omega
    refine JoinX.mk (fun (y : Bool × Unit) w' => y.1 = decide (e.room ≤ 0 ∨ e.last ≥ 1099511627776) ∧ St w0 w' (lmE e :: dat e.toLk :: F)) ?_ ?_
    · rintro ⟨y, ⟨⟩⟩ w1 ⟨hy, h⟩
      dsimp only at hy
      subst hy
      rw [SplitB_iff]
      refine ⟨fun hd => ?_, fun hd => ?_⟩
      · have hd : e.room ≤ 0 ∨ e.last ≥ 1099511627776 := of_decide_eq_true hd
        have : e.refuse l = 30 := by rw [Lk.refuse, if_neg hc, if_pos hd]
        rw [this]
        exact ⟨rfl, fun _ => h, fun h0 => by cases h0⟩
      · have hd : ¬ (e.room ≤ 0 ∨ e.last ≥ 1099511627776) := of_decide_eq_false hd
        have : e.refuse l = 0 := by rw [Lk.refuse, if_neg hc, if_neg hd]
        rw [this]
        rw [not_or] at hd
        have h1 := hw.low
        have hr : e.room = (e.win : Int) - e.bx.length - e.un.length := rfl
        repeat (first | (with_reducible refine NilP.mk ?_) | ((with_reducible refine RunN.isLoad ?_); (first | refine h.load2 0 0 ⟨_, rfl, rfl⟩ rfl ?_ | refine h.loadB 0 0 ⟨_, rfl, rfl⟩ rfl rfl ?_ | refine h.drew.load2 0 0 ⟨_, rfl, rfl⟩ rfl ?_ | refine h.drew.loadB 0 0 ⟨_, rfl, rfl⟩ rfl rfl ?_)) | ((with_reducible refine ReadN.isLoad ?_); (first | refine h.read2 0 0 ⟨_, rfl, rfl⟩ rfl ?_ | refine h.readB 0 0 ⟨_, rfl, rfl⟩ rfl rfl ?_ | refine h.drew.read2 0 0 ⟨_, rfl, rfl⟩ rfl ?_ | refine h.drew.readB 0 0 ⟨_, rfl, rfl⟩ rfl rfl ?_)) | ((with_reducible refine StillV.isLoad ?_); (first | refine ⟨h.stillB 0 0 ⟨_, rfl, rfl⟩ rfl rfl, ?_⟩ | refine ⟨h.still2 0 0 ⟨_, rfl, rfl⟩ rfl, ?_⟩)) | ((with_reducible refine RunU.isStor ?_); (first | (refine h.stor2 0 0 ⟨_, rfl, rfl⟩ rfl ?_; intro w h; dsimp only [updG, setO] at h) | (refine h.storB 0 0 ⟨_, rfl, rfl⟩ rfl rfl rfl ?_; intro w h; dsimp only [updG, setO] at h) | (refine h.drew.stor2 0 0 ⟨_, rfl, rfl⟩ rfl ?_; intro w h; dsimp only [updG, setO] at h) | (refine h.drew.storB 0 0 ⟨_, rfl, rfl⟩ rfl rfl rfl ?_; intro w h; dsimp only [updG, setO] at h))) | ((with_reducible refine RunN.isBox ?_); (first | (refine h.newB run_boxA rfl ?_; intro bn w h; try dsimp only at h; have h := h.ord 2 [1, 0]; dsimp only [pick, nthO, dropO] at h) | (refine h.drew.newB run_boxA rfl ?_; intro bn w h; try dsimp only at h; have h := h.ord 2 [1, 0]; dsimp only [pick, nthO, dropO] at h))) | ((with_reducible refine RunN.isNew ?_); (first | (refine h.newB (NewC.run _) rfl ?_; intro bn w h; have h := h.ord 2 [1, 0]; dsimp only [pick, nthO, dropO] at h) | (refine h.drew.newB (NewC.run _) rfl ?_; intro bn w h; have h := h.ord 2 [1, 0]; dsimp only [pick, nthO, dropO] at h))) | (refine RunN.k2Eq ?_) | (refine RunN.k2Ne ?_) | (refine ReadN.k2Eq ?_) | (refine ReadN.k2Ne ?_))
        refine (clone_st h.drew (sup (sup hp)) (by omega)).mono ?_
        intro s w2 h
        repeat (first | (with_reducible refine NilP.mk ?_) | ((with_reducible refine RunN.isLoad ?_); (first | refine h.load2 0 0 ⟨_, rfl, rfl⟩ rfl ?_ | refine h.loadB 0 0 ⟨_, rfl, rfl⟩ rfl rfl ?_ | refine h.load2 1 0 ⟨_, rfl, rfl⟩ rfl ?_ | refine h.loadB 1 0 ⟨_, rfl, rfl⟩ rfl rfl ?_ | refine h.drew.load2 0 0 ⟨_, rfl, rfl⟩ rfl ?_ | refine h.drew.loadB 0 0 ⟨_, rfl, rfl⟩ rfl rfl ?_ | refine h.drew.load2 1 0 ⟨_, rfl, rfl⟩ rfl ?_ | refine h.drew.loadB 1 0 ⟨_, rfl, rfl⟩ rfl rfl ?_)) | ((with_reducible refine ReadN.isLoad ?_); (first | refine h.read2 0 0 ⟨_, rfl, rfl⟩ rfl ?_ | refine h.readB 0 0 ⟨_, rfl, rfl⟩ rfl rfl ?_ | refine h.read2 1 0 ⟨_, rfl, rfl⟩ rfl ?_ | refine h.readB 1 0 ⟨_, rfl, rfl⟩ rfl rfl ?_ | refine h.drew.read2 0 0 ⟨_, rfl, rfl⟩ rfl ?_ | refine h.drew.readB 0 0 ⟨_, rfl, rfl⟩ rfl rfl ?_ | refine h.drew.read2 1 0 ⟨_, rfl, rfl⟩ rfl ?_ | refine h.drew.readB 1 0 ⟨_, rfl, rfl⟩ rfl rfl ?_)) | ((with_reducible refine StillV.isLoad ?_); (first | refine ⟨h.stillB 0 0 ⟨_, rfl, rfl⟩ rfl rfl, ?_⟩ | refine ⟨h.still2 0 0 ⟨_, rfl, rfl⟩ rfl, ?_⟩ | refine ⟨h.stillB 1 0 ⟨_, rfl, rfl⟩ rfl rfl, ?_⟩ | refine ⟨h.still2 1 0 ⟨_, rfl, rfl⟩ rfl, ?_⟩)) | ((with_reducible refine RunU.isStor ?_); (first | (refine h.stor2 0 0 ⟨_, rfl, rfl⟩ rfl ?_; intro w h; dsimp only [updG, setO] at h) | (refine h.storB 0 0 ⟨_, rfl, rfl⟩ rfl rfl rfl ?_; intro w h; dsimp only [updG, setO] at h) | (refine h.stor2 1 0 ⟨_, rfl, rfl⟩ rfl ?_; intro w h; dsimp only [updG, setO] at h) | (refine h.storB 1 0 ⟨_, rfl, rfl⟩ rfl rfl rfl ?_; intro w h; dsimp only [updG, setO] at h) | (refine h.drew.stor2 0 0 ⟨_, rfl, rfl⟩ rfl ?_; intro w h; dsimp only [updG, setO] at h) | (refine h.drew.storB 0 0 ⟨_, rfl, rfl⟩ rfl rfl rfl ?_; intro w h; dsimp only [updG, setO] at h) | (refine h.drew.stor2 1 0 ⟨_, rfl, rfl⟩ rfl ?_; intro w h; dsimp only [updG, setO] at h) | (refine h.drew.storB 1 0 ⟨_, rfl, rfl⟩ rfl rfl rfl ?_; intro w h; dsimp only [updG, setO] at h))) | ((with_reducible refine RunN.isBox ?_); (first | (refine h.newB run_boxA rfl ?_; intro bn w h; try dsimp only at h; have h := h.ord 2 [1, 0]; dsimp only [pick, nthO, dropO] at h) | (refine h.drew.newB run_boxA rfl ?_; intro bn w h; try dsimp only at h; have h := h.ord 2 [1, 0]; dsimp only [pick, nthO, dropO] at h))) | ((with_reducible refine RunN.isNew ?_); (first | (refine h.newB (NewC.run _) rfl ?_; intro bn w h; have h := h.ord 2 [1, 0]; dsimp only [pick, nthO, dropO] at h) | (refine h.drew.newB (NewC.run _) rfl ?_; intro bn w h; have h := h.ord 2 [1, 0]; dsimp only [pick, nthO, dropO] at h))) | (refine RunN.k2Eq ?_) | (refine RunN.k2Ne ?_) | (refine ReadN.k2Eq ?_) | (refine ReadN.k2Ne ?_))
        rw [wr (by omega)]
        refine h.send 1 1 ⟨_, rfl, rfl⟩ (by simp only [List.length_map]; omega) (zero81 _) ?_
        intro w3 h
        dsimp only [updG, setO] at h
        rw [SplitB_iff]
        refine ⟨fun hz => ?_, fun hz => ?_⟩
        · refine NilP.mk ?_
          refine h.loadB 1 0 ⟨_, rfl, rfl⟩ rfl (kd := .int .i64) (x := e.last) rfl ?_
          refine NilP.mk ?_
          rw [wr (by omega)]
          refine h.storB 1 0 ⟨_, rfl, rfl⟩ rfl rfl rfl ?_
          intro w4 h
          dsimp only [updG, setO] at h
          refine ⟨rfl, fun h0 => absurd rfl h0, fun _ => ⟨s, ?_⟩⟩
          have h := snoc_grp h
          have e1 : dat (e.sent s l).toLk = dat e.toLk ++ [brow (s, l)] := by simp [dat, Lm.sent]
          have e2 : (e.bx ++ [(e.last + 1, s, l)]).map pco = e.bx.map pco ++ [pco (e.last + 1, s, l)] := by simp
          rw [e1]
          have e3 : lmE (e.sent s l) = [.cel e.cb 78 (lmC (e.sent s l)), .obj e.ch (.chan e.win ⟨(e.bx ++ [(e.last + 1, s, l)]).map pco⟩ false (e.cs + 1) e.cr false), .obj e.mb (m1o (e.ea.map eav) e.mc), .row 81 2 e.us (e.un.flatMap pcv)] := rfl
          rw [e3, e2]
          exact h
        · cases hz
    · intro k hk
      refine (room_st h hw).mono ?_
      rintro v w1 ⟨hv, h⟩
      have hv : (v : Int) = e.room := hv
      rw [hv]
      rw [SplitB_iff]
      refine ⟨fun hd => ?_, fun hd => ?_⟩
      · have hd : e.room ≤ 0 := of_decide_eq_true hd
        exact hk _ _ ⟨by simp [hd], h⟩
      · have hd : ¬ e.room ≤ 0 := of_decide_eq_false hd
        repeat (first | (with_reducible refine NilP.mk ?_) | ((with_reducible refine RunN.isLoad ?_); (first | refine h.load2 0 0 ⟨_, rfl, rfl⟩ rfl ?_ | refine h.loadB 0 0 ⟨_, rfl, rfl⟩ rfl rfl ?_ | refine h.drew.load2 0 0 ⟨_, rfl, rfl⟩ rfl ?_ | refine h.drew.loadB 0 0 ⟨_, rfl, rfl⟩ rfl rfl ?_)) | ((with_reducible refine ReadN.isLoad ?_); (first | refine h.read2 0 0 ⟨_, rfl, rfl⟩ rfl ?_ | refine h.readB 0 0 ⟨_, rfl, rfl⟩ rfl rfl ?_ | refine h.drew.read2 0 0 ⟨_, rfl, rfl⟩ rfl ?_ | refine h.drew.readB 0 0 ⟨_, rfl, rfl⟩ rfl rfl ?_)) | ((with_reducible refine StillV.isLoad ?_); (first | refine ⟨h.stillB 0 0 ⟨_, rfl, rfl⟩ rfl rfl, ?_⟩ | refine ⟨h.still2 0 0 ⟨_, rfl, rfl⟩ rfl, ?_⟩)) | ((with_reducible refine RunU.isStor ?_); (first | (refine h.stor2 0 0 ⟨_, rfl, rfl⟩ rfl ?_; intro w h; dsimp only [updG, setO] at h) | (refine h.storB 0 0 ⟨_, rfl, rfl⟩ rfl rfl rfl ?_; intro w h; dsimp only [updG, setO] at h) | (refine h.drew.stor2 0 0 ⟨_, rfl, rfl⟩ rfl ?_; intro w h; dsimp only [updG, setO] at h) | (refine h.drew.storB 0 0 ⟨_, rfl, rfl⟩ rfl rfl rfl ?_; intro w h; dsimp only [updG, setO] at h))) | ((with_reducible refine RunN.isBox ?_); (first | (refine h.newB run_boxA rfl ?_; intro bn w h; try dsimp only at h; have h := h.ord 2 [1, 0]; dsimp only [pick, nthO, dropO] at h) | (refine h.drew.newB run_boxA rfl ?_; intro bn w h; try dsimp only at h; have h := h.ord 2 [1, 0]; dsimp only [pick, nthO, dropO] at h))) | ((with_reducible refine RunN.isNew ?_); (first | (refine h.newB (NewC.run _) rfl ?_; intro bn w h; have h := h.ord 2 [1, 0]; dsimp only [pick, nthO, dropO] at h) | (refine h.drew.newB (NewC.run _) rfl ?_; intro bn w h; have h := h.ord 2 [1, 0]; dsimp only [pick, nthO, dropO] at h))) | (refine RunN.k2Eq ?_) | (refine RunN.k2Ne ?_) | (refine ReadN.k2Eq ?_) | (refine ReadN.k2Ne ?_))
        exact hk _ _ ⟨by simp [hd], h⟩
/-! ### segments -/
def Lk.seg (e : Lk) (p : Pc) (s : Sl) : Sg := ⟨e.me, e.peer, p.1, e.want - 1, (s, p.2.2)⟩
theorem segment_st {e : Lm} (h : St w0 w (lmE e :: F)) (h1 : 1 ≤ e.want ∧ e.want ≤ 1099511627777) {p : Pc} (hp : SeesG w0 F p.2.1 1 (bys p.2.2)) (hl : p.2.2.length ≤ 1048576) :
    CallK Try.prog (.agg (.cons (.int .i64) (.cons (.int .i64) (.cons (.int .i64) (.cons (.int .i64) (.cons .sl .nilT)))))) 28 #[.pointer e.p, .agg #[.int .i64 p.1, .slice p.2.1.a p.2.1.len p.2.1.cap]] w
    fun (v : Int × Int × Int × Int × Sl × Unit) w' => ∃ s, v = sgt (e.seg p s) ∧ St w0 w' ([brow (s, p.2.2)] :: lmE e :: F) := by
  refine T28.calls (p1 := pct p) ?_
  unfold T28
  refine h.newB run_boxA rfl ?_
  intro b1 w h
  refine h.newB (NewC.run _) rfl ?_
  intro b2 w h
  have h := h.ord 3 [2, 1, 0]
  dsimp only [pick, nthO, dropO] at h
  repeat (first | (with_reducible refine NilP.mk ?_) | ((with_reducible refine RunN.isLoad ?_); (first | refine h.load2 0 0 ⟨_, rfl, rfl⟩ rfl ?_ | refine h.loadB 0 0 ⟨_, rfl, rfl⟩ rfl rfl ?_ | refine h.load2 1 0 ⟨_, rfl, rfl⟩ rfl ?_ | refine h.loadB 1 0 ⟨_, rfl, rfl⟩ rfl rfl ?_ | refine h.load2 2 0 ⟨_, rfl, rfl⟩ rfl ?_ | refine h.loadB 2 0 ⟨_, rfl, rfl⟩ rfl rfl ?_ | refine h.drew.load2 0 0 ⟨_, rfl, rfl⟩ rfl ?_ | refine h.drew.loadB 0 0 ⟨_, rfl, rfl⟩ rfl rfl ?_ | refine h.drew.load2 1 0 ⟨_, rfl, rfl⟩ rfl ?_ | refine h.drew.loadB 1 0 ⟨_, rfl, rfl⟩ rfl rfl ?_ | refine h.drew.load2 2 0 ⟨_, rfl, rfl⟩ rfl ?_ | refine h.drew.loadB 2 0 ⟨_, rfl, rfl⟩ rfl rfl ?_)) | ((with_reducible refine ReadN.isLoad ?_); (first | refine h.read2 0 0 ⟨_, rfl, rfl⟩ rfl ?_ | refine h.readB 0 0 ⟨_, rfl, rfl⟩ rfl rfl ?_ | refine h.read2 1 0 ⟨_, rfl, rfl⟩ rfl ?_ | refine h.readB 1 0 ⟨_, rfl, rfl⟩ rfl rfl ?_ | refine h.read2 2 0 ⟨_, rfl, rfl⟩ rfl ?_ | refine h.readB 2 0 ⟨_, rfl, rfl⟩ rfl rfl ?_ | refine h.drew.read2 0 0 ⟨_, rfl, rfl⟩ rfl ?_ | refine h.drew.readB 0 0 ⟨_, rfl, rfl⟩ rfl rfl ?_ | refine h.drew.read2 1 0 ⟨_, rfl, rfl⟩ rfl ?_ | refine h.drew.readB 1 0 ⟨_, rfl, rfl⟩ rfl rfl ?_ | refine h.drew.read2 2 0 ⟨_, rfl, rfl⟩ rfl ?_ | refine h.drew.readB 2 0 ⟨_, rfl, rfl⟩ rfl rfl ?_)) | ((with_reducible refine StillV.isLoad ?_); (first | refine ⟨h.stillB 0 0 ⟨_, rfl, rfl⟩ rfl rfl, ?_⟩ | refine ⟨h.still2 0 0 ⟨_, rfl, rfl⟩ rfl, ?_⟩ | refine ⟨h.stillB 1 0 ⟨_, rfl, rfl⟩ rfl rfl, ?_⟩ | refine ⟨h.still2 1 0 ⟨_, rfl, rfl⟩ rfl, ?_⟩ | refine ⟨h.stillB 2 0 ⟨_, rfl, rfl⟩ rfl rfl, ?_⟩ | refine ⟨h.still2 2 0 ⟨_, rfl, rfl⟩ rfl, ?_⟩)) | ((with_reducible refine RunU.isStor ?_); (first | (refine h.stor2 0 0 ⟨_, rfl, rfl⟩ rfl ?_; intro w h; dsimp only [updG, setO] at h) | (refine h.storB 0 0 ⟨_, rfl, rfl⟩ rfl rfl rfl ?_; intro w h; dsimp only [updG, setO] at h) | (refine h.stor2 1 0 ⟨_, rfl, rfl⟩ rfl ?_; intro w h; dsimp only [updG, setO] at h) | (refine h.storB 1 0 ⟨_, rfl, rfl⟩ rfl rfl rfl ?_; intro w h; dsimp only [updG, setO] at h) | (refine h.stor2 2 0 ⟨_, rfl, rfl⟩ rfl ?_; intro w h; dsimp only [updG, setO] at h) | (refine h.storB 2 0 ⟨_, rfl, rfl⟩ rfl rfl rfl ?_; intro w h; dsimp only [updG, setO] at h) | (refine h.drew.stor2 0 0 ⟨_, rfl, rfl⟩ rfl ?_; intro w h; dsimp only [updG, setO] at h) | (refine h.drew.storB 0 0 ⟨_, rfl, rfl⟩ rfl rfl rfl ?_; intro w h; dsimp only [updG, setO] at h) | (refine h.drew.stor2 1 0 ⟨_, rfl, rfl⟩ rfl ?_; intro w h; dsimp only [updG, setO] at h) | (refine h.drew.storB 1 0 ⟨_, rfl, rfl⟩ rfl rfl rfl ?_; intro w h; dsimp only [updG, setO] at h) | (refine h.drew.stor2 2 0 ⟨_, rfl, rfl⟩ rfl ?_; intro w h; dsimp only [updG, setO] at h) | (refine h.drew.storB 2 0 ⟨_, rfl, rfl⟩ rfl rfl rfl ?_; intro w h; dsimp only [updG, setO] at h))) | ((with_reducible refine RunN.isBox ?_); (first | (refine h.newB run_boxA rfl ?_; intro bn w h; try dsimp only at h; have h := h.ord 2 [1, 0]; dsimp only [pick, nthO, dropO] at h) | (refine h.drew.newB run_boxA rfl ?_; intro bn w h; try dsimp only at h; have h := h.ord 2 [1, 0]; dsimp only [pick, nthO, dropO] at h))) | ((with_reducible refine RunN.isNew ?_); (first | (refine h.newB (NewC.run _) rfl ?_; intro bn w h; have h := h.ord 2 [1, 0]; dsimp only [pick, nthO, dropO] at h) | (refine h.drew.newB (NewC.run _) rfl ?_; intro bn w h; have h := h.ord 2 [1, 0]; dsimp only [pick, nthO, dropO] at h))) | (refine RunN.k2Eq ?_) | (refine RunN.k2Ne ?_) | (refine ReadN.k2Eq ?_) | (refine ReadN.k2Ne ?_))
  have h := h.ord 3 [1, 2, 0]
  dsimp only [pick, nthO, dropO] at h
  have h := h.drew
  have h := h.ord 3 [0, 1, 2]
  dsimp only [pick, nthO, dropO] at h
  refine (clone_st h (sup (sup (sup hp))) hl).mono ?_
  intro s w2 h
  repeat (first | (with_reducible refine NilP.mk ?_) | ((with_reducible refine RunN.isLoad ?_); (first | refine h.load2 0 0 ⟨_, rfl, rfl⟩ rfl ?_ | refine h.loadB 0 0 ⟨_, rfl, rfl⟩ rfl rfl ?_ | refine h.load2 1 0 ⟨_, rfl, rfl⟩ rfl ?_ | refine h.loadB 1 0 ⟨_, rfl, rfl⟩ rfl rfl ?_ | refine h.load2 2 0 ⟨_, rfl, rfl⟩ rfl ?_ | refine h.loadB 2 0 ⟨_, rfl, rfl⟩ rfl rfl ?_ | refine h.load2 3 0 ⟨_, rfl, rfl⟩ rfl ?_ | refine h.loadB 3 0 ⟨_, rfl, rfl⟩ rfl rfl ?_ | refine h.load2 4 0 ⟨_, rfl, rfl⟩ rfl ?_ | refine h.loadB 4 0 ⟨_, rfl, rfl⟩ rfl rfl ?_ | refine h.drew.load2 0 0 ⟨_, rfl, rfl⟩ rfl ?_ | refine h.drew.loadB 0 0 ⟨_, rfl, rfl⟩ rfl rfl ?_ | refine h.drew.load2 1 0 ⟨_, rfl, rfl⟩ rfl ?_ | refine h.drew.loadB 1 0 ⟨_, rfl, rfl⟩ rfl rfl ?_ | refine h.drew.load2 2 0 ⟨_, rfl, rfl⟩ rfl ?_ | refine h.drew.loadB 2 0 ⟨_, rfl, rfl⟩ rfl rfl ?_ | refine h.drew.load2 3 0 ⟨_, rfl, rfl⟩ rfl ?_ | refine h.drew.loadB 3 0 ⟨_, rfl, rfl⟩ rfl rfl ?_ | refine h.drew.load2 4 0 ⟨_, rfl, rfl⟩ rfl ?_ | refine h.drew.loadB 4 0 ⟨_, rfl, rfl⟩ rfl rfl ?_)) | ((with_reducible refine ReadN.isLoad ?_); (first | refine h.read2 0 0 ⟨_, rfl, rfl⟩ rfl ?_ | refine h.readB 0 0 ⟨_, rfl, rfl⟩ rfl rfl ?_ | refine h.read2 1 0 ⟨_, rfl, rfl⟩ rfl ?_ | refine h.readB 1 0 ⟨_, rfl, rfl⟩ rfl rfl ?_ | refine h.read2 2 0 ⟨_, rfl, rfl⟩ rfl ?_ | refine h.readB 2 0 ⟨_, rfl, rfl⟩ rfl rfl ?_ | refine h.read2 3 0 ⟨_, rfl, rfl⟩ rfl ?_ | refine h.readB 3 0 ⟨_, rfl, rfl⟩ rfl rfl ?_ | refine h.read2 4 0 ⟨_, rfl, rfl⟩ rfl ?_ | refine h.readB 4 0 ⟨_, rfl, rfl⟩ rfl rfl ?_ | refine h.drew.read2 0 0 ⟨_, rfl, rfl⟩ rfl ?_ | refine h.drew.readB 0 0 ⟨_, rfl, rfl⟩ rfl rfl ?_ | refine h.drew.read2 1 0 ⟨_, rfl, rfl⟩ rfl ?_ | refine h.drew.readB 1 0 ⟨_, rfl, rfl⟩ rfl rfl ?_ | refine h.drew.read2 2 0 ⟨_, rfl, rfl⟩ rfl ?_ | refine h.drew.readB 2 0 ⟨_, rfl, rfl⟩ rfl rfl ?_ | refine h.drew.read2 3 0 ⟨_, rfl, rfl⟩ rfl ?_ | refine h.drew.readB 3 0 ⟨_, rfl, rfl⟩ rfl rfl ?_ | refine h.drew.read2 4 0 ⟨_, rfl, rfl⟩ rfl ?_ | refine h.drew.readB 4 0 ⟨_, rfl, rfl⟩ rfl rfl ?_)) | ((with_reducible refine StillV.isLoad ?_); (first | refine ⟨h.stillB 0 0 ⟨_, rfl, rfl⟩ rfl rfl, ?_⟩ | refine ⟨h.still2 0 0 ⟨_, rfl, rfl⟩ rfl, ?_⟩ | refine ⟨h.stillB 1 0 ⟨_, rfl, rfl⟩ rfl rfl, ?_⟩ | refine ⟨h.still2 1 0 ⟨_, rfl, rfl⟩ rfl, ?_⟩ | refine ⟨h.stillB 2 0 ⟨_, rfl, rfl⟩ rfl rfl, ?_⟩ | refine ⟨h.still2 2 0 ⟨_, rfl, rfl⟩ rfl, ?_⟩ | refine ⟨h.stillB 3 0 ⟨_, rfl, rfl⟩ rfl rfl, ?_⟩ | refine ⟨h.still2 3 0 ⟨_, rfl, rfl⟩ rfl, ?_⟩ | refine ⟨h.stillB 4 0 ⟨_, rfl, rfl⟩ rfl rfl, ?_⟩ | refine ⟨h.still2 4 0 ⟨_, rfl, rfl⟩ rfl, ?_⟩)) | ((with_reducible refine RunU.isStor ?_); (first | (refine h.stor2 0 0 ⟨_, rfl, rfl⟩ rfl ?_; intro w h; dsimp only [updG, setO] at h) | (refine h.storB 0 0 ⟨_, rfl, rfl⟩ rfl rfl rfl ?_; intro w h; dsimp only [updG, setO] at h) | (refine h.stor2 1 0 ⟨_, rfl, rfl⟩ rfl ?_; intro w h; dsimp only [updG, setO] at h) | (refine h.storB 1 0 ⟨_, rfl, rfl⟩ rfl rfl rfl ?_; intro w h; dsimp only [updG, setO] at h) | (refine h.stor2 2 0 ⟨_, rfl, rfl⟩ rfl ?_; intro w h; dsimp only [updG, setO] at h) | (refine h.storB 2 0 ⟨_, rfl, rfl⟩ rfl rfl rfl ?_; intro w h; dsimp only [updG, setO] at h) | (refine h.stor2 3 0 ⟨_, rfl, rfl⟩ rfl ?_; intro w h; dsimp only [updG, setO] at h) | (refine h.storB 3 0 ⟨_, rfl, rfl⟩ rfl rfl rfl ?_; intro w h; dsimp only [updG, setO] at h) | (refine h.stor2 4 0 ⟨_, rfl, rfl⟩ rfl ?_; intro w h; dsimp only [updG, setO] at h) | (refine h.storB 4 0 ⟨_, rfl, rfl⟩ rfl rfl rfl ?_; intro w h; dsimp only [updG, setO] at h) | (refine h.drew.stor2 0 0 ⟨_, rfl, rfl⟩ rfl ?_; intro w h; dsimp only [updG, setO] at h) | (refine h.drew.storB 0 0 ⟨_, rfl, rfl⟩ rfl rfl rfl ?_; intro w h; dsimp only [updG, setO] at h) | (refine h.drew.stor2 1 0 ⟨_, rfl, rfl⟩ rfl ?_; intro w h; dsimp only [updG, setO] at h) | (refine h.drew.storB 1 0 ⟨_, rfl, rfl⟩ rfl rfl rfl ?_; intro w h; dsimp only [updG, setO] at h) | (refine h.drew.stor2 2 0 ⟨_, rfl, rfl⟩ rfl ?_; intro w h; dsimp only [updG, setO] at h) | (refine h.drew.storB 2 0 ⟨_, rfl, rfl⟩ rfl rfl rfl ?_; intro w h; dsimp only [updG, setO] at h) | (refine h.drew.stor2 3 0 ⟨_, rfl, rfl⟩ rfl ?_; intro w h; dsimp only [updG, setO] at h) | (refine h.drew.storB 3 0 ⟨_, rfl, rfl⟩ rfl rfl rfl ?_; intro w h; dsimp only [updG, setO] at h) | (refine h.drew.stor2 4 0 ⟨_, rfl, rfl⟩ rfl ?_; intro w h; dsimp only [updG, setO] at h) | (refine h.drew.storB 4 0 ⟨_, rfl, rfl⟩ rfl rfl rfl ?_; intro w h; dsimp only [updG, setO] at h))) | ((with_reducible refine RunN.isBox ?_); (first | (refine h.newB run_boxA rfl ?_; intro bn w h; try dsimp only at h; have h := h.ord 2 [1, 0]; dsimp only [pick, nthO, dropO] at h) | (refine h.drew.newB run_boxA rfl ?_; intro bn w h; try dsimp only at h; have h := h.ord 2 [1, 0]; dsimp only [pick, nthO, dropO] at h))) | ((with_reducible refine RunN.isNew ?_); (first | (refine h.newB (NewC.run _) rfl ?_; intro bn w h; have h := h.ord 2 [1, 0]; dsimp only [pick, nthO, dropO] at h) | (refine h.drew.newB (NewC.run _) rfl ?_; intro bn w h; have h := h.ord 2 [1, 0]; dsimp only [pick, nthO, dropO] at h))) | (refine RunN.k2Eq ?_) | (refine RunN.k2Ne ?_) | (refine ReadN.k2Eq ?_) | (refine ReadN.k2Ne ?_))
  rw [wr (by omega)]
  refine h.storA 2 0 ⟨_, rfl, rfl⟩ (t' := 62) (n := 5) (j := 0) rfl (ds := sgv (e.seg p s)) rfl rfl rfl ?_
  intro w3 h
  dsimp only [updG, setO] at h
  refine ReadN.of (kd := Kds) (x := sgt (e.seg p s)) (h.run_loadA (k := 2) (i := 0) (b := b2) (t := 62) (cs := sgv (e.seg p s)) ⟨_, rfl, rfl⟩ (t' := 62) (n := 5) (j := 0) rfl (vs := sgv (e.seg p s)) rfl rfl) ?_
  refine ⟨s, rfl, ?_⟩
  exact (h.drop 1).drop 1
end Go.Proofs.Ytodgnpmljdopiaa
