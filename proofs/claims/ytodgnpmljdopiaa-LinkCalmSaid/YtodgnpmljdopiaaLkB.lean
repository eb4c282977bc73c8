/- The link in memory. -/
import Derived.Test.YtodgnpmljdopiaaLkA
namespace Go.Proofs.Ytodgnpmljdopiaa
open Go Go.Fw Go.RowKit
set_option linter.unusedVariables false
set_option linter.unusedSimpArgs false
set_option maxRecDepth 4000
set_option maxHeartbeats 2000000
variable {w0 w : World} {F G : Grps}

/-- A number, a slice and its bytes. -/
abbrev Pc := Int × Sl × List UInt8
def pcv (p : Pc) : List Value := [.int .i64 p.1, .slice p.2.1.a p.2.1.len p.2.1.cap]
def pco (p : Pc) : Value := .agg ⟨pcv p⟩
def brow (p : Sl × List UInt8) : Ent := .row 5 1 p.1 (bys p.2)
def pct (p : Pc) : (Int × Sl × Unit) := (p.1, p.2.1, ())
theorem pcv_len (p : Pc) : (pcv p).length = 2 := rfl
theorem pcv_one (p : Pc) : ∀ v ∈ pcv p, v.oneCell' = true := by intro v hv; simp [pcv] at hv; rcases hv with rfl | rfl <;> rfl
abbrev Kdp : Kd := .agg (.cons (.int .i64) (.cons .sl .nilT))
/-- A segment. -/
structure Sg where
  fr : Int
  to : Int
  seq : Int
  ack : Int
  d : Sl × List UInt8
def sgv (s : Sg) : List Value := [.int .i64 s.fr, .int .i64 s.to, .int .i64 s.seq, .int .i64 s.ack, .slice s.d.1.a s.d.1.len s.d.1.cap]
theorem sgv_len (s : Sg) : (sgv s).length = 5 := rfl
theorem sgv_one (s : Sg) : ∀ v ∈ sgv s, v.oneCell' = true := by intro v hv; simp [sgv] at hv; rcases hv with rfl | rfl | rfl | rfl | rfl <;> rfl
def sgt (s : Sg) : (Int × Int × Int × Int × Sl × Unit) := (s.fr, s.to, s.seq, s.ack, s.d.1, ())
abbrev Kds : Kd := .agg (.cons (.int .i64) (.cons (.int .i64) (.cons (.int .i64) (.cons (.int .i64) (.cons .sl .nilT)))))
structure Lk where
  me : Int
  peer : Int
  win : Nat
  res : Int
  last : Int
  gone : Int
  want : Int
  ow : Bool
  du : Bool
  ag : Int
  un : List Pc
  bx : List Pc
  ea : List (Pc × Nat)
structure Lm extends Lk where
  cb : Nat
  ch : Nat
  cs : Nat
  cr : Nat
  mb : Nat
  mc : Nat
  us : Sl
def lmC (e : Lm) : List Value := [.int .i64 e.me, .int .i64 e.peer, .int .i64 (e.win : Int), .int .i64 e.res, .chan (some e.ch), .slice e.us.a e.us.len e.us.cap, .int .i64 e.last, .int .i64 e.gone, .int .i64 e.want, .map (some e.mb), .bool e.ow, .bool e.du, .int .i64 e.ag]
def eav (x : Pc × Nat) : Int × Value × Nat := (x.1.1, .slice x.1.2.1.a x.1.2.1.len x.1.2.1.cap, x.2)
def lmE (e : Lm) : List Ent := [.cel e.cb 78 (lmC e), .obj e.ch (.chan e.win ⟨e.bx.map pco⟩ false e.cs e.cr false), .obj e.mb (m1o (e.ea.map eav) e.mc), .row 81 2 e.us (e.un.flatMap pcv)]
def dat (e : Lk) : List Ent := (e.un ++ e.bx).map fun p => brow p.2
def eat (e : Lk) : List Ent := e.ea.map fun x => brow x.1.2
abbrev Lm.p (e : Lm) : Option Addr := some ⟨e.cb, 0, none⟩
structure Lk.wf (e : Lk) : Prop where
  me : 0 ≤ e.me ∧ e.me < 16
  peer : 0 ≤ e.peer ∧ e.peer < 16
  win : 1 ≤ e.win ∧ e.win ≤ 16
  res : 1 ≤ e.res ∧ e.res ≤ 1000
  cnt : e.un.length + e.bx.length ≤ e.win
  gone : e.gone = e.last - e.bx.length
  low : ((e.un.length + e.bx.length : Nat) : Int) ≤ e.last
  last : e.last ≤ 1099511627776
  want : 1 ≤ e.want ∧ e.want ≤ 1099511627777
  ag : 0 ≤ e.ag ∧ e.ag ≤ 1000
  seq : ∀ (i : Nat) (h : i < (e.un ++ e.bx).length), ((e.un ++ e.bx)[i]'h).1 = e.last - (e.un.length + e.bx.length : Nat) + 1 + i
  lens : ∀ p ∈ e.un ++ e.bx, p.2.2.length ≤ 4000
  elens : ∀ x ∈ e.ea, x.1.2.2.length ≤ 4000
  erange : ∀ x ∈ e.ea, e.want < x.1.1 ∧ x.1.1 < e.want + e.win ∧ x.1.1 ≤ 1099511627776
  nodup : (e.ea.map (·.1.1)).Nodup
def Lk.room (e : Lk) : Int := (e.win : Int) - e.bx.length - e.un.length
theorem us_len {e : Lm} (h : Rd w e.us 2 (e.un.flatMap pcv)) : e.us.len = e.un.length := by
  have := h.1; rw [flat_len pcv_len] at this; omega
theorem chan_len {e : Lm} (h : St w0 w (lmE e :: F)) : (Builtin.len_ #[74] 3 #[.chan (some e.ch)]).run Try.prog w = .ok (.int .i64 (e.bx.length : Nat)) w := by
  have hb := h.ob (k := 0) (i := 1) (b := e.ch) ⟨_, rfl, rfl⟩
  simp [Builtin.len_, getObj, Sem.run, hb]
  rfl
theorem room_st {e : Lm} (h : St w0 w (lmE e :: F)) (hw : e.wf) : CallK Try.prog (.int .i64) 12 #[.pointer e.p] w fun (v : Int) w' => v = e.room ∧ St w0 w' (lmE e :: F) := by
  refine T12.calls ?_
  unfold T12
  have hu := us_len (h.rd (k := 0) (i := 3) ⟨_, rfl, rfl⟩)
  have h1 := hw.cnt; have h2 := hw.win
  repeat (first | (with_reducible refine NilP.mk ?_) | ((with_reducible refine RunN.isLoad ?_); (first | refine h.load2 0 0 ⟨_, rfl, rfl⟩ rfl ?_ | refine h.loadB 0 0 ⟨_, rfl, rfl⟩ rfl rfl ?_ | refine h.drew.load2 0 0 ⟨_, rfl, rfl⟩ rfl ?_ | refine h.drew.loadB 0 0 ⟨_, rfl, rfl⟩ rfl rfl ?_)) | ((with_reducible refine ReadN.isLoad ?_); (first | refine h.read2 0 0 ⟨_, rfl, rfl⟩ rfl ?_ | refine h.readB 0 0 ⟨_, rfl, rfl⟩ rfl rfl ?_ | refine h.drew.read2 0 0 ⟨_, rfl, rfl⟩ rfl ?_ | refine h.drew.readB 0 0 ⟨_, rfl, rfl⟩ rfl rfl ?_)) | ((with_reducible refine StillV.isLoad ?_); (first | refine ⟨h.stillB 0 0 ⟨_, rfl, rfl⟩ rfl rfl, ?_⟩ | refine ⟨h.still2 0 0 ⟨_, rfl, rfl⟩ rfl, ?_⟩)) | ((with_reducible refine RunU.isStor ?_); (first | (refine h.stor2 0 0 ⟨_, rfl, rfl⟩ rfl ?_; intro w h; dsimp only [updG, setO] at h) | (refine h.storB 0 0 ⟨_, rfl, rfl⟩ rfl rfl rfl ?_; intro w h; dsimp only [updG, setO] at h) | (refine h.drew.stor2 0 0 ⟨_, rfl, rfl⟩ rfl ?_; intro w h; dsimp only [updG, setO] at h) | (refine h.drew.storB 0 0 ⟨_, rfl, rfl⟩ rfl rfl rfl ?_; intro w h; dsimp only [updG, setO] at h))) | ((with_reducible refine RunN.isBox ?_); (first | (refine h.newB run_boxA rfl ?_; intro bn w h; try dsimp only at h; have h := h.ord 2 [1, 0]; dsimp only [pick, nthO, dropO] at h) | (refine h.drew.newB run_boxA rfl ?_; intro bn w h; try dsimp only at h; have h := h.ord 2 [1, 0]; dsimp only [pick, nthO, dropO] at h))) | ((with_reducible refine RunN.isNew ?_); (first | (refine h.newB (NewC.run _) rfl ?_; intro bn w h; have h := h.ord 2 [1, 0]; dsimp only [pick, nthO, dropO] at h) | (refine h.drew.newB (NewC.run _) rfl ?_; intro bn w h; have h := h.ord 2 [1, 0]; dsimp only [pick, nthO, dropO] at h))) | (refine RunN.k2Eq ?_) | (refine RunN.k2Ne ?_) | (refine ReadN.k2Eq ?_) | (refine ReadN.k2Ne ?_))
  refine ReadN.of (kd := .int .i64) (chan_len h.drew) ?_
  repeat (first | (with_reducible refine NilP.mk ?_) | ((with_reducible refine RunN.isLoad ?_); (first | refine h.load2 0 0 ⟨_, rfl, rfl⟩ rfl ?_ | refine h.loadB 0 0 ⟨_, rfl, rfl⟩ rfl rfl ?_ | refine h.drew.load2 0 0 ⟨_, rfl, rfl⟩ rfl ?_ | refine h.drew.loadB 0 0 ⟨_, rfl, rfl⟩ rfl rfl ?_)) | ((with_reducible refine ReadN.isLoad ?_); (first | refine h.read2 0 0 ⟨_, rfl, rfl⟩ rfl ?_ | refine h.readB 0 0 ⟨_, rfl, rfl⟩ rfl rfl ?_ | refine h.drew.read2 0 0 ⟨_, rfl, rfl⟩ rfl ?_ | refine h.drew.readB 0 0 ⟨_, rfl, rfl⟩ rfl rfl ?_)) | ((with_reducible refine StillV.isLoad ?_); (first | refine ⟨h.stillB 0 0 ⟨_, rfl, rfl⟩ rfl rfl, ?_⟩ | refine ⟨h.still2 0 0 ⟨_, rfl, rfl⟩ rfl, ?_⟩)) | ((with_reducible refine RunU.isStor ?_); (first | (refine h.stor2 0 0 ⟨_, rfl, rfl⟩ rfl ?_; intro w h; dsimp only [updG, setO] at h) | (refine h.storB 0 0 ⟨_, rfl, rfl⟩ rfl rfl rfl ?_; intro w h; dsimp only [updG, setO] at h) | (refine h.drew.stor2 0 0 ⟨_, rfl, rfl⟩ rfl ?_; intro w h; dsimp only [updG, setO] at h) | (refine h.drew.storB 0 0 ⟨_, rfl, rfl⟩ rfl rfl rfl ?_; intro w h; dsimp only [updG, setO] at h))) | ((with_reducible refine RunN.isBox ?_); (first | (refine h.newB run_boxA rfl ?_; intro bn w h; try dsimp only at h; have h := h.ord 2 [1, 0]; dsimp only [pick, nthO, dropO] at h) | (refine h.drew.newB run_boxA rfl ?_; intro bn w h; try dsimp only at h; have h := h.ord 2 [1, 0]; dsimp only [pick, nthO, dropO] at h))) | ((with_reducible refine RunN.isNew ?_); (first | (refine h.newB (NewC.run _) rfl ?_; intro bn w h; have h := h.ord 2 [1, 0]; dsimp only [pick, nthO, dropO] at h) | (refine h.drew.newB (NewC.run _) rfl ?_; intro bn w h; have h := h.ord 2 [1, 0]; dsimp only [pick, nthO, dropO] at h))) | (refine RunN.k2Eq ?_) | (refine RunN.k2Ne ?_) | (refine ReadN.k2Eq ?_) | (refine ReadN.k2Ne ?_))
  rw [hu]
  refine ⟨?_, h.drew⟩
  rw [wr (x := (e.win : Int) - (e.bx.length : Int)) (by omega), wr (by omega), Lk.room]
theorem next_st {e : Lm} (h : St w0 w (lmE e :: F)) : CallK Try.prog (.int .i64) 11 #[.pointer e.p] w fun (v : Int) w' => v = e.want ∧ St w0 w' (lmE e :: F) := by
  refine T11.calls ?_
  unfold T11
  repeat (first | (with_reducible refine NilP.mk ?_) | ((with_reducible refine RunN.isLoad ?_); (first | refine h.load2 0 0 ⟨_, rfl, rfl⟩ rfl ?_ | refine h.loadB 0 0 ⟨_, rfl, rfl⟩ rfl rfl ?_ | refine h.drew.load2 0 0 ⟨_, rfl, rfl⟩ rfl ?_ | refine h.drew.loadB 0 0 ⟨_, rfl, rfl⟩ rfl rfl ?_)) | ((with_reducible refine ReadN.isLoad ?_); (first | refine h.read2 0 0 ⟨_, rfl, rfl⟩ rfl ?_ | refine h.readB 0 0 ⟨_, rfl, rfl⟩ rfl rfl ?_ | refine h.drew.read2 0 0 ⟨_, rfl, rfl⟩ rfl ?_ | refine h.drew.readB 0 0 ⟨_, rfl, rfl⟩ rfl rfl ?_)) | ((with_reducible refine StillV.isLoad ?_); (first | refine ⟨h.stillB 0 0 ⟨_, rfl, rfl⟩ rfl rfl, ?_⟩ | refine ⟨h.still2 0 0 ⟨_, rfl, rfl⟩ rfl, ?_⟩)) | ((with_reducible refine RunU.isStor ?_); (first | (refine h.stor2 0 0 ⟨_, rfl, rfl⟩ rfl ?_; intro w h; dsimp only [updG, setO] at h) | (refine h.storB 0 0 ⟨_, rfl, rfl⟩ rfl rfl rfl ?_; intro w h; dsimp only [updG, setO] at h) | (refine h.drew.stor2 0 0 ⟨_, rfl, rfl⟩ rfl ?_; intro w h; dsimp only [updG, setO] at h) | (refine h.drew.storB 0 0 ⟨_, rfl, rfl⟩ rfl rfl rfl ?_; intro w h; dsimp only [updG, setO] at h))) | ((with_reducible refine RunN.isBox ?_); (first | (refine h.newB run_boxA rfl ?_; intro bn w h; try dsimp only at h; have h := h.ord 2 [1, 0]; dsimp only [pick, nthO, dropO] at h) | (refine h.drew.newB run_boxA rfl ?_; intro bn w h; try dsimp only at h; have h := h.ord 2 [1, 0]; dsimp only [pick, nthO, dropO] at h))) | ((with_reducible refine RunN.isNew ?_); (first | (refine h.newB (NewC.run _) rfl ?_; intro bn w h; have h := h.ord 2 [1, 0]; dsimp only [pick, nthO, dropO] at h) | (refine h.drew.newB (NewC.run _) rfl ?_; intro bn w h; have h := h.ord 2 [1, 0]; dsimp only [pick, nthO, dropO] at h))) | (refine RunN.k2Eq ?_) | (refine RunN.k2Ne ?_) | (refine ReadN.k2Eq ?_) | (refine ReadN.k2Ne ?_))
  exact ⟨rfl, h⟩
theorem clone_st (h : St w0 w F) {p : Sl} {l : List UInt8} (hp : SeesG w0 F p 1 (bys l)) (hl : l.length ≤ 1048576) : CallK Try.prog .sl 32 #[.slice p.a p.len p.cap] w fun (s : Sl) w' => St w0 w' ([brow (s, l)] :: F) := by
  have hr := hp w h
  have hpl := hr.bys_len
  refine T32.calls ?_
  unfold T32
  cases ha : p.a with
  | none =>
    refine RunN.of (kd := .bool) (eqnil45n _ _ _ _ _) ?_
    rw [SplitB_iff]
    refine ⟨fun _ => ?_, fun hf => (by cases hf)⟩
    have : l = [] := by
      rcases hr.2.1 with h0 | ⟨b, o, ha', _⟩
      · cases l with
        | nil => rfl
        | cons x r => simp [bys] at h0
      · rw [ha] at ha'; cases ha'
    subst this
    exact h.nilrow 5 1
  | some a =>
    refine RunN.of (kd := .bool) (eqnil45s _ _ _ _ _ _) ?_
    rw [SplitB_iff]
    refine ⟨fun hf => (by cases hf), fun _ => ?_⟩
    refine h.newS 1 (bs45e _) rfl rfl rfl ?_
    intro s w1 hs1 hs2 hs3 h
    have h2 := h.drop 0
    have hr2 := hp _ h2
    have hq : (⟨some a, p.len, p.cap⟩ : Sl) = p := by cases p; simp at ha; subst ha; rfl
    refine h.app 0 0 ⟨_, rfl, rfl⟩ (p := ⟨some a, p.len, p.cap⟩) (by rw [hq]; exact hr2) (bys_one _) (by dsimp only [maxLen]; omega) (by dsimp only; omega) ?_
    intro s' w2 hl2 h
    exact h
theorem tick_st {e : Lm} (h : St w0 w (lmE e :: F)) (hw : e.wf) : CallK Try.prog (.tup .nilT) 20 #[.pointer e.p] w
    fun (_ : Unit) w' => St w0 w' (lmE { e with ag := if e.un.length = 0 then e.ag else if e.ag + 1 ≥ e.res then 0 else e.ag + 1, du := if e.un.length = 0 then e.du else if e.ag + 1 ≥ e.res then true else e.du } :: F) := by
  refine T20.calls ?_
  unfold T20
  have hu := us_len (h.rd (k := 0) (i := 3) ⟨_, rfl, rfl⟩)
  have h1 := hw.ag
  repeat (first | (with_reducible refine NilP.mk ?_) | ((with_reducible refine RunN.isLoad ?_); (first | refine h.load2 0 0 ⟨_, rfl, rfl⟩ rfl ?_ | refine h.loadB 0 0 ⟨_, rfl, rfl⟩ rfl rfl ?_ | refine h.drew.load2 0 0 ⟨_, rfl, rfl⟩ rfl ?_ | refine h.drew.loadB 0 0 ⟨_, rfl, rfl⟩ rfl rfl ?_)) | ((with_reducible refine ReadN.isLoad ?_); (first | refine h.read2 0 0 ⟨_, rfl, rfl⟩ rfl ?_ | refine h.readB 0 0 ⟨_, rfl, rfl⟩ rfl rfl ?_ | refine h.drew.read2 0 0 ⟨_, rfl, rfl⟩ rfl ?_ | refine h.drew.readB 0 0 ⟨_, rfl, rfl⟩ rfl rfl ?_)) | ((with_reducible refine StillV.isLoad ?_); (first | refine ⟨h.stillB 0 0 ⟨_, rfl, rfl⟩ rfl rfl, ?_⟩ | refine ⟨h.still2 0 0 ⟨_, rfl, rfl⟩ rfl, ?_⟩)) | ((with_reducible refine RunU.isStor ?_); (first | (refine h.stor2 0 0 ⟨_, rfl, rfl⟩ rfl ?_; intro w h; dsimp only [updG, setO] at h) | (refine h.storB 0 0 ⟨_, rfl, rfl⟩ rfl rfl rfl ?_; intro w h; dsimp only [updG, setO] at h) | (refine h.drew.stor2 0 0 ⟨_, rfl, rfl⟩ rfl ?_; intro w h; dsimp only [updG, setO] at h) | (refine h.drew.storB 0 0 ⟨_, rfl, rfl⟩ rfl rfl rfl ?_; intro w h; dsimp only [updG, setO] at h))) | ((with_reducible refine RunN.isBox ?_); (first | (refine h.newB run_boxA rfl ?_; intro bn w h; try dsimp only at h; have h := h.ord 2 [1, 0]; dsimp only [pick, nthO, dropO] at h) | (refine h.drew.newB run_boxA rfl ?_; intro bn w h; try dsimp only at h; have h := h.ord 2 [1, 0]; dsimp only [pick, nthO, dropO] at h))) | ((with_reducible refine RunN.isNew ?_); (first | (refine h.newB (NewC.run _) rfl ?_; intro bn w h; have h := h.ord 2 [1, 0]; dsimp only [pick, nthO, dropO] at h) | (refine h.drew.newB (NewC.run _) rfl ?_; intro bn w h; have h := h.ord 2 [1, 0]; dsimp only [pick, nthO, dropO] at h))) | (refine RunN.k2Eq ?_) | (refine RunN.k2Ne ?_) | (refine ReadN.k2Eq ?_) | (refine ReadN.k2Ne ?_))
  rw [hu]
  rw [SplitB_iff]
  refine ⟨fun hc => ?_, fun hc => ?_⟩
  · have hc : e.un.length = 0 := by have : (e.un.length : Int) = 0 := by simpa using hc
                                    omega
    rw [if_pos hc, if_pos hc]
    exact h
  · have hc : ¬ e.un.length = 0 := by intro h0; rw [h0] at hc; simp at hc
    simp only [if_neg hc]
    repeat (first | (with_reducible refine NilP.mk ?_) | ((with_reducible refine RunN.isLoad ?_); (first | refine h.load2 0 0 ⟨_, rfl, rfl⟩ rfl ?_ | refine h.loadB 0 0 ⟨_, rfl, rfl⟩ rfl rfl ?_ | refine h.drew.load2 0 0 ⟨_, rfl, rfl⟩ rfl ?_ | refine h.drew.loadB 0 0 ⟨_, rfl, rfl⟩ rfl rfl ?_)) | ((with_reducible refine ReadN.isLoad ?_); (first | refine h.read2 0 0 ⟨_, rfl, rfl⟩ rfl ?_ | refine h.readB 0 0 ⟨_, rfl, rfl⟩ rfl rfl ?_ | refine h.drew.read2 0 0 ⟨_, rfl, rfl⟩ rfl ?_ | refine h.drew.readB 0 0 ⟨_, rfl, rfl⟩ rfl rfl ?_)) | ((with_reducible refine StillV.isLoad ?_); (first | refine ⟨h.stillB 0 0 ⟨_, rfl, rfl⟩ rfl rfl, ?_⟩ | refine ⟨h.still2 0 0 ⟨_, rfl, rfl⟩ rfl, ?_⟩)) | ((with_reducible refine RunU.isStor ?_); (first | (refine h.stor2 0 0 ⟨_, rfl, rfl⟩ rfl ?_; intro w h; dsimp only [updG, setO] at h) | (refine h.storB 0 0 ⟨_, rfl, rfl⟩ rfl rfl rfl ?_; intro w h; dsimp only [updG, setO] at h) | (refine h.drew.stor2 0 0 ⟨_, rfl, rfl⟩ rfl ?_; intro w h; dsimp only [updG, setO] at h) | (refine h.drew.storB 0 0 ⟨_, rfl, rfl⟩ rfl rfl rfl ?_; intro w h; dsimp only [updG, setO] at h))) | ((with_reducible refine RunN.isBox ?_); (first | (refine h.newB run_boxA rfl ?_; intro bn w h; try dsimp only at h; have h := h.ord 2 [1, 0]; dsimp only [pick, nthO, dropO] at h) | (refine h.drew.newB run_boxA rfl ?_; intro bn w h; try dsimp only at h; have h := h.ord 2 [1, 0]; dsimp only [pick, nthO, dropO] at h))) | ((with_reducible refine RunN.isNew ?_); (first | (refine h.newB (NewC.run _) rfl ?_; intro bn w h; have h := h.ord 2 [1, 0]; dsimp only [pick, nthO, dropO] at h) | (refine h.drew.newB (NewC.run _) rfl ?_; intro bn w h; have h := h.ord 2 [1, 0]; dsimp only [pick, nthO, dropO] at h))) | (refine RunN.k2Eq ?_) | (refine RunN.k2Ne ?_) | (refine ReadN.k2Eq ?_) | (refine ReadN.k2Ne ?_))
    rw [wr (by omega)] at h ⊢
    rw [SplitB_iff]
    refine ⟨fun hd => ?_, fun hd => ?_⟩
    · have hd : e.ag + 1 ≥ e.res := of_decide_eq_true hd
      simp only [if_pos hd]
      refine NilP.mk ?_
      refine h.drew.storB 0 0 ⟨_, rfl, rfl⟩ rfl rfl rfl ?_
      intro w h
      dsimp only [updG, setO] at h
      repeat (first | (with_reducible refine NilP.mk ?_) | ((with_reducible refine RunN.isLoad ?_); (first | refine h.load2 0 0 ⟨_, rfl, rfl⟩ rfl ?_ | refine h.loadB 0 0 ⟨_, rfl, rfl⟩ rfl rfl ?_ | refine h.drew.load2 0 0 ⟨_, rfl, rfl⟩ rfl ?_ | refine h.drew.loadB 0 0 ⟨_, rfl, rfl⟩ rfl rfl ?_)) | ((with_reducible refine ReadN.isLoad ?_); (first | refine h.read2 0 0 ⟨_, rfl, rfl⟩ rfl ?_ | refine h.readB 0 0 ⟨_, rfl, rfl⟩ rfl rfl ?_ | refine h.drew.read2 0 0 ⟨_, rfl, rfl⟩ rfl ?_ | refine h.drew.readB 0 0 ⟨_, rfl, rfl⟩ rfl rfl ?_)) | ((with_reducible refine StillV.isLoad ?_); (first | refine ⟨h.stillB 0 0 ⟨_, rfl, rfl⟩ rfl rfl, ?_⟩ | refine ⟨h.still2 0 0 ⟨_, rfl, rfl⟩ rfl, ?_⟩)) | ((with_reducible refine RunU.isStor ?_); (first | (refine h.stor2 0 0 ⟨_, rfl, rfl⟩ rfl ?_; intro w h; dsimp only [updG, setO] at h) | (refine h.storB 0 0 ⟨_, rfl, rfl⟩ rfl rfl rfl ?_; intro w h; dsimp only [updG, setO] at h) | (refine h.drew.stor2 0 0 ⟨_, rfl, rfl⟩ rfl ?_; intro w h; dsimp only [updG, setO] at h) | (refine h.drew.storB 0 0 ⟨_, rfl, rfl⟩ rfl rfl rfl ?_; intro w h; dsimp only [updG, setO] at h))) | ((with_reducible refine RunN.isBox ?_); (first | (refine h.newB run_boxA rfl ?_; intro bn w h; try dsimp only at h; have h := h.ord 2 [1, 0]; dsimp only [pick, nthO, dropO] at h) | (refine h.drew.newB run_boxA rfl ?_; intro bn w h; try dsimp only at h; have h := h.ord 2 [1, 0]; dsimp only [pick, nthO, dropO] at h))) | ((with_reducible refine RunN.isNew ?_); (first | (refine h.newB (NewC.run _) rfl ?_; intro bn w h; have h := h.ord 2 [1, 0]; dsimp only [pick, nthO, dropO] at h) | (refine h.drew.newB (NewC.run _) rfl ?_; intro bn w h; have h := h.ord 2 [1, 0]; dsimp only [pick, nthO, dropO] at h))) | (refine RunN.k2Eq ?_) | (refine RunN.k2Ne ?_) | (refine ReadN.k2Eq ?_) | (refine ReadN.k2Ne ?_))
      exact h
    · have hd : ¬ e.ag + 1 ≥ e.res := of_decide_eq_false hd
      simp only [if_neg hd]
      exact h.drew
end Go.Proofs.Ytodgnpmljdopiaa
