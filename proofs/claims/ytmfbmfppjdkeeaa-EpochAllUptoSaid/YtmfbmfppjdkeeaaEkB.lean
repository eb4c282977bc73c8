/- The epoch's machine: what lives. -/
import Derived.Test.YtmfbmfppjdkeeaaEkA
namespace Go.Proofs.Ytmfbmfppjdkeeaa
open Go Go.Fw Go.RowKit
set_option linter.unusedVariables false
set_option linter.unusedSimpArgs false
set_option maxRecDepth 4000
set_option maxHeartbeats 2000000
variable {w0 w : World} {F G : Grps}

abbrev Ep := Int × Int
def epv (e : Ep) : List Value := [.int .i64 e.1, .int .i64 e.2]
theorem epv_len (e : Ep) : (epv e).length = 2 := rfl
abbrev eps (l : List Ep) : List Value := l.flatMap epv
abbrev A6 := Int × Int × Int × Int × Int × Int
def acv (a : A6) : List Value := [.int .i64 a.1, .int .i64 a.2.1, .int .i64 a.2.2.1, .int .i64 a.2.2.2.1, .int .i64 a.2.2.2.2.1, .int .i64 a.2.2.2.2.2]
theorem acv_len (e : A6) : (acv e).length = 6 := rfl
abbrev acs (l : List A6) : List Value := l.flatMap acv
def act (a : A6) : (Int × Int × Int × Int × Int × Int × Unit) := (a.1, a.2.1, a.2.2.1, a.2.2.2.1, a.2.2.2.2.1, a.2.2.2.2.2, ())
def aco (a : A6) : Value := .agg ⟨acv a⟩
structure Mv where
  me : Nat
  n : Nat
  kn : List Int
  fi : List Int
  re : List Int
  needs : Bool
structure Em extends Mv where
  cb : Nat
  ch : Nat
  cs : Nat
  cr : Nat
def emC (e : Em) : List Value := [.int .i64 (e.me : Int), .int .i64 (e.n : Int)] ++ (lin e.kn ++ (lin e.fi ++ (lin e.re ++ [.bool e.needs, .chan (some e.ch)])))
def emE (e : Em) (q : List A6) : List Ent := [.cel e.cb 100 (emC e), .obj e.ch (.chan 4 ⟨q.map aco⟩ false e.cs e.cr false)]
abbrev Em.p (e : Em) : Option Addr := some ⟨e.cb, 0, none⟩
structure Mv.wf (e : Mv) : Prop where
  n : 2 ≤ e.n ∧ e.n ≤ 16
  me : e.me < e.n
  kl : e.kn.length = 16
  fl : e.fi.length = 16
  rl : e.re.length = 16
  kb : ∀ x ∈ e.kn, 0 ≤ x ∧ x ≤ 1099511627776
  fb : ∀ x ∈ e.fi, 0 ≤ x ∧ x ≤ 1099511627776
  rb : ∀ x ∈ e.re, -1 ≤ x ∧ x ≤ 1099511627776
def gI (l : List Int) (i : Nat) : Int := l[i]?.getD 0
theorem gI_some {l : List Int} {i : Nat} (h : i < l.length) : l[i]? = some (gI l i) := by rw [gI, List.getElem?_eq_getElem h]; rfl
theorem gI_mem {l : List Int} {i : Nat} (h : i < l.length) : gI l i ∈ l := by rw [gI, List.getElem?_eq_getElem h]; exact List.getElem_mem h
theorem lin_ix {l : List Int} {i : Nat} (h : i < l.length) : (lin l)[i]? = some (.int .i64 (gI l i)) := by rw [lin, List.getElem?_map, gI_some h]; rfl
section
variable {e : Em}
theorem k_at (h : e.wf) {i : Nat} (hi : i < 16) : nthO (emC e) (2 + i) = some (.int .i64 (gI e.kn i)) := by
  rw [nthO_get, emC, List.getElem?_append_right (by simp), List.getElem?_append_left (by simp [lin_len, h.kl]; omega)]
  rw [show 2 + i - ([.int .i64 (e.me : Int), .int .i64 (e.n : Int)] : List Value).length = i by simp]
  exact lin_ix (by rw [h.kl]; exact hi)
theorem f_at (h : e.wf) {i : Nat} (hi : i < 16) : nthO (emC e) (18 + i) = some (.int .i64 (gI e.fi i)) := by
  rw [nthO_get, emC, List.getElem?_append_right (by simp; omega), List.getElem?_append_right (by simp [lin_len, h.kl]; omega), List.getElem?_append_left (by simp [lin_len, h.kl, h.fl]; omega)]
  rw [show 18 + i - ([.int .i64 (e.me : Int), .int .i64 (e.n : Int)] : List Value).length - (lin e.kn).length = i by simp [lin_len, h.kl]; omega]
  exact lin_ix (by rw [h.fl]; exact hi)
theorem r_at (h : e.wf) {i : Nat} (hi : i < 16) : nthO (emC e) (34 + i) = some (.int .i64 (gI e.re i)) := by
  rw [nthO_get, emC, List.getElem?_append_right (by simp; omega), List.getElem?_append_right (by simp [lin_len, h.kl]; omega), List.getElem?_append_right (by simp [lin_len, h.kl, h.fl]; omega), List.getElem?_append_left (by simp [lin_len, h.kl, h.fl, h.rl]; omega)]
  rw [show 34 + i - ([.int .i64 (e.me : Int), .int .i64 (e.n : Int)] : List Value).length - (lin e.kn).length - (lin e.fi).length = i by simp [lin_len, h.kl, h.fl]; omega]
  exact lin_ix (by rw [h.rl]; exact hi)
theorem needs_at (h : e.wf) : nthO (emC e) 50 = some (.bool e.needs) := by
  rw [nthO_get, emC, List.getElem?_append_right (by simp), List.getElem?_append_right (by simp [lin_len, h.kl]), List.getElem?_append_right (by simp [lin_len, h.kl, h.fl]), List.getElem?_append_right (by simp [lin_len, h.kl, h.fl, h.rl])]
  simp [lin_len, h.kl, h.fl, h.rl]
theorem ch_at (h : e.wf) : nthO (emC e) 51 = some (.chan (some e.ch)) := by
  rw [nthO_get, emC, List.getElem?_append_right (by simp), List.getElem?_append_right (by simp [lin_len, h.kl]), List.getElem?_append_right (by simp [lin_len, h.kl, h.fl]), List.getElem?_append_right (by simp [lin_len, h.kl, h.fl, h.rl])]
  simp [lin_len, h.kl, h.fl, h.rl]
theorem emC_len (h : e.wf) : (emC e).length = 52 := by simp [emC, lin_len, h.kl, h.fl, h.rl]
theorem lin_set (l : List Int) (i : Nat) (x : Int) : (lin l).set i (.int .i64 x) = lin (l.set i x) := by rw [lin, lin, List.map_set]
theorem k_set (h : e.wf) {i : Nat} (hi : i < 16) (x : Int) : setO (emC e) (2 + i) (.int .i64 x) = emC { e with kn := e.kn.set i x } := by
  rw [setO_set, emC, List.set_append_right _ _ (by simp), List.set_append_left _ _ (by simp [lin_len, h.kl]; omega)]
  rw [show 2 + i - ([.int .i64 (e.me : Int), .int .i64 (e.n : Int)] : List Value).length = i by simp, lin_set]; rfl
theorem f_set (h : e.wf) {i : Nat} (hi : i < 16) (x : Int) : setO (emC e) (18 + i) (.int .i64 x) = emC { e with fi := e.fi.set i x } := by
  rw [setO_set, emC, List.set_append_right _ _ (by simp; omega), List.set_append_right _ _ (by simp [lin_len, h.kl]; omega), List.set_append_left _ _ (by simp [lin_len, h.kl, h.fl]; omega)]
  rw [show 18 + i - ([.int .i64 (e.me : Int), .int .i64 (e.n : Int)] : List Value).length - (lin e.kn).length = i by simp [lin_len, h.kl]; omega, lin_set]; rfl
theorem r_set (h : e.wf) {i : Nat} (hi : i < 16) (x : Int) : setO (emC e) (34 + i) (.int .i64 x) = emC { e with re := e.re.set i x } := by
  rw [setO_set, emC, List.set_append_right _ _ (by simp; omega), List.set_append_right _ _ (by simp [lin_len, h.kl]; omega), List.set_append_right _ _ (by simp [lin_len, h.kl, h.fl]; omega), List.set_append_left _ _ (by simp [lin_len, h.kl, h.fl, h.rl]; omega)]
  rw [show 34 + i - ([.int .i64 (e.me : Int), .int .i64 (e.n : Int)] : List Value).length - (lin e.kn).length - (lin e.fi).length = i by simp [lin_len, h.kl, h.fl]; omega, lin_set]; rfl
theorem needs_set (h : e.wf) (x : Bool) : setO (emC e) 50 (.bool x) = emC { e with needs := x } := by
  rw [setO_set, emC, List.set_append_right _ _ (by simp), List.set_append_right _ _ (by simp [lin_len, h.kl]), List.set_append_right _ _ (by simp [lin_len, h.kl, h.fl]), List.set_append_right _ _ (by simp [lin_len, h.kl, h.fl, h.rl])]
  rw [show 50 - ([.int .i64 (e.me : Int), .int .i64 (e.n : Int)] : List Value).length - (lin e.kn).length - (lin e.fi).length - (lin e.re).length = 0 by simp [lin_len, h.kl, h.fl, h.rl]]; rfl
end
/-! ### what lives -/
def Mv.lv (e : Mv) (i : Nat) : Bool := decide (gI e.kn i > gI e.fi i)
def Mv.ep (e : Mv) (i : Nat) : Ep := if e.lv i = true then (gI e.kn i, (i : Int)) else (0, 0)
def Mv.lives (e : Mv) : List Ep := ((List.range e.n).filter e.lv).map fun i => (gI e.kn i, (i : Int))
def topE (l : List Ep) : Ep := l.foldl (fun t x => if x.1 ≥ t.1 then x else t) (0, 0)
def Mv.top (e : Mv) : Ep := topE e.lives
def Mv.own (e : Mv) : Ep := e.ep e.me
def someE (x : Ep) : Bool := !(x.1 == 0 && x.2 == 0)
theorem some_st (h : St w0 w F) (x y : Int) : CallK Try.prog .bool 48 #[.agg #[.int .i64 x, .int .i64 y]] w fun (v : Bool) w' => v = someE (x, y) ∧ St w0 w' F := by
  refine T48.calls (p0 := (x, y, ())) ?_
  unfold T48
  refine h.newB run_boxA rfl ?_
  intro bn w h
  refine h.load2 0 0 ⟨_, rfl, rfl⟩ rfl ?_
  refine RunN.k2Ne ?_
  exact ⟨rfl, h.drop 0⟩
theorem live_st {e : Em} {q : List A6} (h : St w0 w (emE e q :: F)) (hw : e.wf) {i : Nat} (hi : i < 16) : CallK Try.prog (.tup (.cons (.agg (.cons (.int .i64) (.cons (.int .i64) .nilT))) (.cons .bool .nilT))) 56 #[.pointer e.p, .int .i64 (i : Int)] w
    fun (v : (Int × Int × Unit) × Bool × Unit) w' => v = (((e.ep i).1, (e.ep i).2, ()), e.lv i, ()) ∧ St w0 w' (emE e q :: F) := by
  refine T56.calls ?_
  unfold T56
  repeat (first | (with_reducible refine NilP.mk ?_) | ((with_reducible refine RunN.isLoad ?_); (first | refine h.load2 0 0 ⟨_, rfl, rfl⟩ rfl ?_ | refine h.loadB 0 0 ⟨_, rfl, rfl⟩ rfl rfl ?_ | refine h.load2 1 0 ⟨_, rfl, rfl⟩ rfl ?_ | refine h.loadB 1 0 ⟨_, rfl, rfl⟩ rfl rfl ?_ | refine h.drew.load2 0 0 ⟨_, rfl, rfl⟩ rfl ?_ | refine h.drew.loadB 0 0 ⟨_, rfl, rfl⟩ rfl rfl ?_ | refine h.drew.load2 1 0 ⟨_, rfl, rfl⟩ rfl ?_ | refine h.drew.loadB 1 0 ⟨_, rfl, rfl⟩ rfl rfl ?_)) | ((with_reducible refine ReadN.isLoad ?_); (first | refine h.read2 0 0 ⟨_, rfl, rfl⟩ rfl ?_ | refine h.readB 0 0 ⟨_, rfl, rfl⟩ rfl rfl ?_ | refine h.read2 1 0 ⟨_, rfl, rfl⟩ rfl ?_ | refine h.readB 1 0 ⟨_, rfl, rfl⟩ rfl rfl ?_ | refine h.drew.read2 0 0 ⟨_, rfl, rfl⟩ rfl ?_ | refine h.drew.readB 0 0 ⟨_, rfl, rfl⟩ rfl rfl ?_ | refine h.drew.read2 1 0 ⟨_, rfl, rfl⟩ rfl ?_ | refine h.drew.readB 1 0 ⟨_, rfl, rfl⟩ rfl rfl ?_)) | ((with_reducible refine StillV.isLoad ?_); (first | refine ⟨h.stillB 0 0 ⟨_, rfl, rfl⟩ rfl rfl, ?_⟩ | refine ⟨h.still2 0 0 ⟨_, rfl, rfl⟩ rfl, ?_⟩ | refine ⟨h.stillB 1 0 ⟨_, rfl, rfl⟩ rfl rfl, ?_⟩ | refine ⟨h.still2 1 0 ⟨_, rfl, rfl⟩ rfl, ?_⟩)) | ((with_reducible refine RunU.isStor ?_); (first | (refine h.stor2 0 0 ⟨_, rfl, rfl⟩ rfl ?_; intro w h; dsimp only [updG, setO] at h) | (refine h.storB 0 0 ⟨_, rfl, rfl⟩ rfl rfl rfl ?_; intro w h; dsimp only [updG, setO] at h) | (refine h.stor2 1 0 ⟨_, rfl, rfl⟩ rfl ?_; intro w h; dsimp only [updG, setO] at h) | (refine h.storB 1 0 ⟨_, rfl, rfl⟩ rfl rfl rfl ?_; intro w h; dsimp only [updG, setO] at h) | (refine h.drew.stor2 0 0 ⟨_, rfl, rfl⟩ rfl ?_; intro w h; dsimp only [updG, setO] at h) | (refine h.drew.storB 0 0 ⟨_, rfl, rfl⟩ rfl rfl rfl ?_; intro w h; dsimp only [updG, setO] at h) | (refine h.drew.stor2 1 0 ⟨_, rfl, rfl⟩ rfl ?_; intro w h; dsimp only [updG, setO] at h) | (refine h.drew.storB 1 0 ⟨_, rfl, rfl⟩ rfl rfl rfl ?_; intro w h; dsimp only [updG, setO] at h))) | ((with_reducible refine RunN.isBox ?_); (first | (refine h.newB run_boxA rfl ?_; intro bn w h; try dsimp only at h; have h := h.ord 2 [1, 0]; dsimp only [pick, nthO, dropO] at h) | (refine h.drew.newB run_boxA rfl ?_; intro bn w h; try dsimp only at h; have h := h.ord 2 [1, 0]; dsimp only [pick, nthO, dropO] at h))) | ((with_reducible refine RunN.isNew ?_); (first | (refine h.newB (NewC.run _) rfl ?_; intro bn w h; have h := h.ord 2 [1, 0]; dsimp only [pick, nthO, dropO] at h) | (refine h.drew.newB (NewC.run _) rfl ?_; intro bn w h; have h := h.ord 2 [1, 0]; dsimp only [pick, nthO, dropO] at h))) | (refine RunN.k2Eq ?_) | (refine RunN.k2Ne ?_) | (refine ReadN.k2Eq ?_) | (refine ReadN.k2Ne ?_))
  refine ReadN.arr rfl i rfl hi ?_
  refine h.drew.readB 0 0 ⟨_, rfl, rfl⟩ rfl (kd := .int .i64) (x := gI e.kn i) (k_at hw hi) ?_
  refine NilP.mk ?_
  refine ReadN.arr rfl i rfl hi ?_
  refine h.drew.readB 0 0 ⟨_, rfl, rfl⟩ rfl (kd := .int .i64) (x := gI e.fi i) (f_at hw hi) ?_
  rw [SplitB_iff]
  refine ⟨fun hc => ?_, fun hc => ?_⟩
  · have hl : e.lv i = true := hc
    refine NilP.mk ?_
    refine RunN.arr rfl i rfl hi ?_
    refine h.drew.loadB 0 0 ⟨_, rfl, rfl⟩ rfl (kd := .int .i64) (x := gI e.kn i) (k_at hw hi) ?_
    repeat (first | (with_reducible refine NilP.mk ?_) | ((with_reducible refine RunN.isLoad ?_); (first | refine h.load2 0 0 ⟨_, rfl, rfl⟩ rfl ?_ | refine h.loadB 0 0 ⟨_, rfl, rfl⟩ rfl rfl ?_ | refine h.load2 1 0 ⟨_, rfl, rfl⟩ rfl ?_ | refine h.loadB 1 0 ⟨_, rfl, rfl⟩ rfl rfl ?_ | refine h.drew.load2 0 0 ⟨_, rfl, rfl⟩ rfl ?_ | refine h.drew.loadB 0 0 ⟨_, rfl, rfl⟩ rfl rfl ?_ | refine h.drew.load2 1 0 ⟨_, rfl, rfl⟩ rfl ?_ | refine h.drew.loadB 1 0 ⟨_, rfl, rfl⟩ rfl rfl ?_)) | ((with_reducible refine ReadN.isLoad ?_); (first | refine h.read2 0 0 ⟨_, rfl, rfl⟩ rfl ?_ | refine h.readB 0 0 ⟨_, rfl, rfl⟩ rfl rfl ?_ | refine h.read2 1 0 ⟨_, rfl, rfl⟩ rfl ?_ | refine h.readB 1 0 ⟨_, rfl, rfl⟩ rfl rfl ?_ | refine h.drew.read2 0 0 ⟨_, rfl, rfl⟩ rfl ?_ | refine h.drew.readB 0 0 ⟨_, rfl, rfl⟩ rfl rfl ?_ | refine h.drew.read2 1 0 ⟨_, rfl, rfl⟩ rfl ?_ | refine h.drew.readB 1 0 ⟨_, rfl, rfl⟩ rfl rfl ?_)) | ((with_reducible refine StillV.isLoad ?_); (first | refine ⟨h.stillB 0 0 ⟨_, rfl, rfl⟩ rfl rfl, ?_⟩ | refine ⟨h.still2 0 0 ⟨_, rfl, rfl⟩ rfl, ?_⟩ | refine ⟨h.stillB 1 0 ⟨_, rfl, rfl⟩ rfl rfl, ?_⟩ | refine ⟨h.still2 1 0 ⟨_, rfl, rfl⟩ rfl, ?_⟩)) | ((with_reducible refine RunU.isStor ?_); (first | (refine h.stor2 0 0 ⟨_, rfl, rfl⟩ rfl ?_; intro w h; dsimp only [updG, setO] at h) | (refine h.storB 0 0 ⟨_, rfl, rfl⟩ rfl rfl rfl ?_; intro w h; dsimp only [updG, setO] at h) | (refine h.stor2 1 0 ⟨_, rfl, rfl⟩ rfl ?_; intro w h; dsimp only [updG, setO] at h) | (refine h.storB 1 0 ⟨_, rfl, rfl⟩ rfl rfl rfl ?_; intro w h; dsimp only [updG, setO] at h) | (refine h.drew.stor2 0 0 ⟨_, rfl, rfl⟩ rfl ?_; intro w h; dsimp only [updG, setO] at h) | (refine h.drew.storB 0 0 ⟨_, rfl, rfl⟩ rfl rfl rfl ?_; intro w h; dsimp only [updG, setO] at h) | (refine h.drew.stor2 1 0 ⟨_, rfl, rfl⟩ rfl ?_; intro w h; dsimp only [updG, setO] at h) | (refine h.drew.storB 1 0 ⟨_, rfl, rfl⟩ rfl rfl rfl ?_; intro w h; dsimp only [updG, setO] at h))) | ((with_reducible refine RunN.isBox ?_); (first | (refine h.newB run_boxA rfl ?_; intro bn w h; try dsimp only at h; have h := h.ord 2 [1, 0]; dsimp only [pick, nthO, dropO] at h) | (refine h.drew.newB run_boxA rfl ?_; intro bn w h; try dsimp only at h; have h := h.ord 2 [1, 0]; dsimp only [pick, nthO, dropO] at h))) | ((with_reducible refine RunN.isNew ?_); (first | (refine h.newB (NewC.run _) rfl ?_; intro bn w h; have h := h.ord 2 [1, 0]; dsimp only [pick, nthO, dropO] at h) | (refine h.drew.newB (NewC.run _) rfl ?_; intro bn w h; have h := h.ord 2 [1, 0]; dsimp only [pick, nthO, dropO] at h))) | (refine RunN.k2Eq ?_) | (refine RunN.k2Ne ?_) | (refine ReadN.k2Eq ?_) | (refine ReadN.k2Ne ?_))
    refine ⟨?_, h.drop 1⟩
    rw [Mv.ep, hl]; rfl
  · have hl : e.lv i = false := hc
    repeat (first | (with_reducible refine NilP.mk ?_) | ((with_reducible refine RunN.isLoad ?_); (first | refine h.load2 0 0 ⟨_, rfl, rfl⟩ rfl ?_ | refine h.loadB 0 0 ⟨_, rfl, rfl⟩ rfl rfl ?_ | refine h.load2 1 0 ⟨_, rfl, rfl⟩ rfl ?_ | refine h.loadB 1 0 ⟨_, rfl, rfl⟩ rfl rfl ?_ | refine h.drew.load2 0 0 ⟨_, rfl, rfl⟩ rfl ?_ | refine h.drew.loadB 0 0 ⟨_, rfl, rfl⟩ rfl rfl ?_ | refine h.drew.load2 1 0 ⟨_, rfl, rfl⟩ rfl ?_ | refine h.drew.loadB 1 0 ⟨_, rfl, rfl⟩ rfl rfl ?_)) | ((with_reducible refine ReadN.isLoad ?_); (first | refine h.read2 0 0 ⟨_, rfl, rfl⟩ rfl ?_ | refine h.readB 0 0 ⟨_, rfl, rfl⟩ rfl rfl ?_ | refine h.read2 1 0 ⟨_, rfl, rfl⟩ rfl ?_ | refine h.readB 1 0 ⟨_, rfl, rfl⟩ rfl rfl ?_ | refine h.drew.read2 0 0 ⟨_, rfl, rfl⟩ rfl ?_ | refine h.drew.readB 0 0 ⟨_, rfl, rfl⟩ rfl rfl ?_ | refine h.drew.read2 1 0 ⟨_, rfl, rfl⟩ rfl ?_ | refine h.drew.readB 1 0 ⟨_, rfl, rfl⟩ rfl rfl ?_)) | ((with_reducible refine StillV.isLoad ?_); (first | refine ⟨h.stillB 0 0 ⟨_, rfl, rfl⟩ rfl rfl, ?_⟩ | refine ⟨h.still2 0 0 ⟨_, rfl, rfl⟩ rfl, ?_⟩ | refine ⟨h.stillB 1 0 ⟨_, rfl, rfl⟩ rfl rfl, ?_⟩ | refine ⟨h.still2 1 0 ⟨_, rfl, rfl⟩ rfl, ?_⟩)) | ((with_reducible refine RunU.isStor ?_); (first | (refine h.stor2 0 0 ⟨_, rfl, rfl⟩ rfl ?_; intro w h; dsimp only [updG, setO] at h) | (refine h.storB 0 0 ⟨_, rfl, rfl⟩ rfl rfl rfl ?_; intro w h; dsimp only [updG, setO] at h) | (refine h.stor2 1 0 ⟨_, rfl, rfl⟩ rfl ?_; intro w h; dsimp only [updG, setO] at h) | (refine h.storB 1 0 ⟨_, rfl, rfl⟩ rfl rfl rfl ?_; intro w h; dsimp only [updG, setO] at h) | (refine h.drew.stor2 0 0 ⟨_, rfl, rfl⟩ rfl ?_; intro w h; dsimp only [updG, setO] at h) | (refine h.drew.storB 0 0 ⟨_, rfl, rfl⟩ rfl rfl rfl ?_; intro w h; dsimp only [updG, setO] at h) | (refine h.drew.stor2 1 0 ⟨_, rfl, rfl⟩ rfl ?_; intro w h; dsimp only [updG, setO] at h) | (refine h.drew.storB 1 0 ⟨_, rfl, rfl⟩ rfl rfl rfl ?_; intro w h; dsimp only [updG, setO] at h))) | ((with_reducible refine RunN.isBox ?_); (first | (refine h.newB run_boxA rfl ?_; intro bn w h; try dsimp only at h; have h := h.ord 2 [1, 0]; dsimp only [pick, nthO, dropO] at h) | (refine h.drew.newB run_boxA rfl ?_; intro bn w h; try dsimp only at h; have h := h.ord 2 [1, 0]; dsimp only [pick, nthO, dropO] at h))) | ((with_reducible refine RunN.isNew ?_); (first | (refine h.newB (NewC.run _) rfl ?_; intro bn w h; have h := h.ord 2 [1, 0]; dsimp only [pick, nthO, dropO] at h) | (refine h.drew.newB (NewC.run _) rfl ?_; intro bn w h; have h := h.ord 2 [1, 0]; dsimp only [pick, nthO, dropO] at h))) | (refine RunN.k2Eq ?_) | (refine RunN.k2Ne ?_) | (refine ReadN.k2Eq ?_) | (refine ReadN.k2Ne ?_))
    refine ⟨?_, h.drop 1⟩
    rw [Mv.ep, hl]; rfl
theorem own_st {e : Em} {q : List A6} (h : St w0 w (emE e q :: F)) (hw : e.wf) : CallK Try.prog (.agg (.cons (.int .i64) (.cons (.int .i64) .nilT))) 25 #[.pointer e.p] w
    fun (v : Int × Int × Unit) w' => v = (e.own.1, e.own.2, ()) ∧ St w0 w' (emE e q :: F) := by
  refine T25.calls ?_
  unfold T25
  repeat (first | (with_reducible refine NilP.mk ?_) | ((with_reducible refine RunN.isLoad ?_); (first | refine h.load2 0 0 ⟨_, rfl, rfl⟩ rfl ?_ | refine h.loadB 0 0 ⟨_, rfl, rfl⟩ rfl rfl ?_ | refine h.load2 1 0 ⟨_, rfl, rfl⟩ rfl ?_ | refine h.loadB 1 0 ⟨_, rfl, rfl⟩ rfl rfl ?_ | refine h.drew.load2 0 0 ⟨_, rfl, rfl⟩ rfl ?_ | refine h.drew.loadB 0 0 ⟨_, rfl, rfl⟩ rfl rfl ?_ | refine h.drew.load2 1 0 ⟨_, rfl, rfl⟩ rfl ?_ | refine h.drew.loadB 1 0 ⟨_, rfl, rfl⟩ rfl rfl ?_)) | ((with_reducible refine ReadN.isLoad ?_); (first | refine h.read2 0 0 ⟨_, rfl, rfl⟩ rfl ?_ | refine h.readB 0 0 ⟨_, rfl, rfl⟩ rfl rfl ?_ | refine h.read2 1 0 ⟨_, rfl, rfl⟩ rfl ?_ | refine h.readB 1 0 ⟨_, rfl, rfl⟩ rfl rfl ?_ | refine h.drew.read2 0 0 ⟨_, rfl, rfl⟩ rfl ?_ | refine h.drew.readB 0 0 ⟨_, rfl, rfl⟩ rfl rfl ?_ | refine h.drew.read2 1 0 ⟨_, rfl, rfl⟩ rfl ?_ | refine h.drew.readB 1 0 ⟨_, rfl, rfl⟩ rfl rfl ?_)) | ((with_reducible refine StillV.isLoad ?_); (first | refine ⟨h.stillB 0 0 ⟨_, rfl, rfl⟩ rfl rfl, ?_⟩ | refine ⟨h.still2 0 0 ⟨_, rfl, rfl⟩ rfl, ?_⟩ | refine ⟨h.stillB 1 0 ⟨_, rfl, rfl⟩ rfl rfl, ?_⟩ | refine ⟨h.still2 1 0 ⟨_, rfl, rfl⟩ rfl, ?_⟩)) | ((with_reducible refine RunU.isStor ?_); (first | (refine h.stor2 0 0 ⟨_, rfl, rfl⟩ rfl ?_; intro w h; dsimp only [updG, setO] at h) | (refine h.storB 0 0 ⟨_, rfl, rfl⟩ rfl rfl rfl ?_; intro w h; dsimp only [updG, setO] at h) | (refine h.stor2 1 0 ⟨_, rfl, rfl⟩ rfl ?_; intro w h; dsimp only [updG, setO] at h) | (refine h.storB 1 0 ⟨_, rfl, rfl⟩ rfl rfl rfl ?_; intro w h; dsimp only [updG, setO] at h) | (refine h.drew.stor2 0 0 ⟨_, rfl, rfl⟩ rfl ?_; intro w h; dsimp only [updG, setO] at h) | (refine h.drew.storB 0 0 ⟨_, rfl, rfl⟩ rfl rfl rfl ?_; intro w h; dsimp only [updG, setO] at h) | (refine h.drew.stor2 1 0 ⟨_, rfl, rfl⟩ rfl ?_; intro w h; dsimp only [updG, setO] at h) | (refine h.drew.storB 1 0 ⟨_, rfl, rfl⟩ rfl rfl rfl ?_; intro w h; dsimp only [updG, setO] at h))) | ((with_reducible refine RunN.isBox ?_); (first | (refine h.newB run_boxA rfl ?_; intro bn w h; try dsimp only at h; have h := h.ord 2 [1, 0]; dsimp only [pick, nthO, dropO] at h) | (refine h.drew.newB run_boxA rfl ?_; intro bn w h; try dsimp only at h; have h := h.ord 2 [1, 0]; dsimp only [pick, nthO, dropO] at h))) | ((with_reducible refine RunN.isNew ?_); (first | (refine h.newB (NewC.run _) rfl ?_; intro bn w h; have h := h.ord 2 [1, 0]; dsimp only [pick, nthO, dropO] at h) | (refine h.drew.newB (NewC.run _) rfl ?_; intro bn w h; have h := h.ord 2 [1, 0]; dsimp only [pick, nthO, dropO] at h))) | (refine RunN.k2Eq ?_) | (refine RunN.k2Ne ?_) | (refine ReadN.k2Eq ?_) | (refine ReadN.k2Ne ?_))
  have hme := hw.me
  have hn := hw.n
  refine (live_st h hw (i := e.me) (by omega)).mono ?_
  rintro _ w1 ⟨rfl, h⟩
  repeat (first | (with_reducible refine NilP.mk ?_) | ((with_reducible refine RunN.isLoad ?_); (first | refine h.load2 0 0 ⟨_, rfl, rfl⟩ rfl ?_ | refine h.loadB 0 0 ⟨_, rfl, rfl⟩ rfl rfl ?_ | refine h.load2 1 0 ⟨_, rfl, rfl⟩ rfl ?_ | refine h.loadB 1 0 ⟨_, rfl, rfl⟩ rfl rfl ?_ | refine h.load2 2 0 ⟨_, rfl, rfl⟩ rfl ?_ | refine h.loadB 2 0 ⟨_, rfl, rfl⟩ rfl rfl ?_ | refine h.drew.load2 0 0 ⟨_, rfl, rfl⟩ rfl ?_ | refine h.drew.loadB 0 0 ⟨_, rfl, rfl⟩ rfl rfl ?_ | refine h.drew.load2 1 0 ⟨_, rfl, rfl⟩ rfl ?_ | refine h.drew.loadB 1 0 ⟨_, rfl, rfl⟩ rfl rfl ?_ | refine h.drew.load2 2 0 ⟨_, rfl, rfl⟩ rfl ?_ | refine h.drew.loadB 2 0 ⟨_, rfl, rfl⟩ rfl rfl ?_)) | ((with_reducible refine ReadN.isLoad ?_); (first | refine h.read2 0 0 ⟨_, rfl, rfl⟩ rfl ?_ | refine h.readB 0 0 ⟨_, rfl, rfl⟩ rfl rfl ?_ | refine h.read2 1 0 ⟨_, rfl, rfl⟩ rfl ?_ | refine h.readB 1 0 ⟨_, rfl, rfl⟩ rfl rfl ?_ | refine h.read2 2 0 ⟨_, rfl, rfl⟩ rfl ?_ | refine h.readB 2 0 ⟨_, rfl, rfl⟩ rfl rfl ?_ | refine h.drew.read2 0 0 ⟨_, rfl, rfl⟩ rfl ?_ | refine h.drew.readB 0 0 ⟨_, rfl, rfl⟩ rfl rfl ?_ | refine h.drew.read2 1 0 ⟨_, rfl, rfl⟩ rfl ?_ | refine h.drew.readB 1 0 ⟨_, rfl, rfl⟩ rfl rfl ?_ | refine h.drew.read2 2 0 ⟨_, rfl, rfl⟩ rfl ?_ | refine h.drew.readB 2 0 ⟨_, rfl, rfl⟩ rfl rfl ?_)) | ((with_reducible refine StillV.isLoad ?_); (first | refine ⟨h.stillB 0 0 ⟨_, rfl, rfl⟩ rfl rfl, ?_⟩ | refine ⟨h.still2 0 0 ⟨_, rfl, rfl⟩ rfl, ?_⟩ | refine ⟨h.stillB 1 0 ⟨_, rfl, rfl⟩ rfl rfl, ?_⟩ | refine ⟨h.still2 1 0 ⟨_, rfl, rfl⟩ rfl, ?_⟩ | refine ⟨h.stillB 2 0 ⟨_, rfl, rfl⟩ rfl rfl, ?_⟩ | refine ⟨h.still2 2 0 ⟨_, rfl, rfl⟩ rfl, ?_⟩)) | ((with_reducible refine RunU.isStor ?_); (first | (refine h.stor2 0 0 ⟨_, rfl, rfl⟩ rfl ?_; intro w h; dsimp only [updG, setO] at h) | (refine h.storB 0 0 ⟨_, rfl, rfl⟩ rfl rfl rfl ?_; intro w h; dsimp only [updG, setO] at h) | (refine h.stor2 1 0 ⟨_, rfl, rfl⟩ rfl ?_; intro w h; dsimp only [updG, setO] at h) | (refine h.storB 1 0 ⟨_, rfl, rfl⟩ rfl rfl rfl ?_; intro w h; dsimp only [updG, setO] at h) | (refine h.stor2 2 0 ⟨_, rfl, rfl⟩ rfl ?_; intro w h; dsimp only [updG, setO] at h) | (refine h.storB 2 0 ⟨_, rfl, rfl⟩ rfl rfl rfl ?_; intro w h; dsimp only [updG, setO] at h) | (refine h.drew.stor2 0 0 ⟨_, rfl, rfl⟩ rfl ?_; intro w h; dsimp only [updG, setO] at h) | (refine h.drew.storB 0 0 ⟨_, rfl, rfl⟩ rfl rfl rfl ?_; intro w h; dsimp only [updG, setO] at h) | (refine h.drew.stor2 1 0 ⟨_, rfl, rfl⟩ rfl ?_; intro w h; dsimp only [updG, setO] at h) | (refine h.drew.storB 1 0 ⟨_, rfl, rfl⟩ rfl rfl rfl ?_; intro w h; dsimp only [updG, setO] at h) | (refine h.drew.stor2 2 0 ⟨_, rfl, rfl⟩ rfl ?_; intro w h; dsimp only [updG, setO] at h) | (refine h.drew.storB 2 0 ⟨_, rfl, rfl⟩ rfl rfl rfl ?_; intro w h; dsimp only [updG, setO] at h))) | ((with_reducible refine RunN.isBox ?_); (first | (refine h.newB run_boxA rfl ?_; intro bn w h; try dsimp only at h; have h := h.ord 2 [1, 0]; dsimp only [pick, nthO, dropO] at h) | (refine h.drew.newB run_boxA rfl ?_; intro bn w h; try dsimp only at h; have h := h.ord 2 [1, 0]; dsimp only [pick, nthO, dropO] at h))) | ((with_reducible refine RunN.isNew ?_); (first | (refine h.newB (NewC.run _) rfl ?_; intro bn w h; have h := h.ord 2 [1, 0]; dsimp only [pick, nthO, dropO] at h) | (refine h.drew.newB (NewC.run _) rfl ?_; intro bn w h; have h := h.ord 2 [1, 0]; dsimp only [pick, nthO, dropO] at h))) | (refine RunN.k2Eq ?_) | (refine RunN.k2Ne ?_) | (refine ReadN.k2Eq ?_) | (refine ReadN.k2Ne ?_))
  exact ⟨rfl, (h.drop 1).drop 1⟩
theorem bs78 (w : World) (x y : Int) : (Instr.buildSlice 78 1 #[(0, .agg #[.int .i64 x, .int .i64 y])]).run Try.prog w = .ok (.slice (some ⟨w.heap.size, 0, none⟩) 1 1) (w.alloc (.cells ⟨[.int .i64 x, .int .i64 y]⟩ 54)) := by kernel_rfl
def Mv.livesTo (e : Mv) (m : Nat) : List Ep := ((List.range m).filter e.lv).map fun i => (gI e.kn i, (i : Int))
theorem livesTo_succ (e : Mv) (m : Nat) : e.livesTo (m + 1) = e.livesTo m ++ (if e.lv m = true then [(gI e.kn m, (m : Int))] else []) := by
  rw [Mv.livesTo, List.range_succ, List.filter_append, List.map_append, Mv.livesTo]
  congr 1
  rw [List.filter_cons, List.filter_nil]
  split <;> simp
theorem livesTo_len (e : Mv) (m : Nat) : (e.livesTo m).length ≤ m := by
  rw [Mv.livesTo, List.length_map]
  exact Nat.le_trans (List.length_filter_le _ _) (by simp)
theorem lives_st {e : Em} {q : List A6} (h : St w0 w (emE e q :: F)) (hw : e.wf) : CallK Try.prog .sl 28 #[.pointer e.p] w
    fun (s : Sl) w' => s.len = e.lives.length ∧ St w0 w' ([.row 54 2 s (eps e.lives)] :: emE e q :: F) := by
  refine T28.calls ?_
  unfold T28
  repeat (first | (with_reducible refine NilP.mk ?_) | ((with_reducible refine RunN.isLoad ?_); (first | refine h.load2 0 0 ⟨_, rfl, rfl⟩ rfl ?_ | refine h.loadB 0 0 ⟨_, rfl, rfl⟩ rfl rfl ?_ | refine h.drew.load2 0 0 ⟨_, rfl, rfl⟩ rfl ?_ | refine h.drew.loadB 0 0 ⟨_, rfl, rfl⟩ rfl rfl ?_)) | ((with_reducible refine ReadN.isLoad ?_); (first | refine h.read2 0 0 ⟨_, rfl, rfl⟩ rfl ?_ | refine h.readB 0 0 ⟨_, rfl, rfl⟩ rfl rfl ?_ | refine h.drew.read2 0 0 ⟨_, rfl, rfl⟩ rfl ?_ | refine h.drew.readB 0 0 ⟨_, rfl, rfl⟩ rfl rfl ?_)) | ((with_reducible refine StillV.isLoad ?_); (first | refine ⟨h.stillB 0 0 ⟨_, rfl, rfl⟩ rfl rfl, ?_⟩ | refine ⟨h.still2 0 0 ⟨_, rfl, rfl⟩ rfl, ?_⟩)) | ((with_reducible refine RunU.isStor ?_); (first | (refine h.stor2 0 0 ⟨_, rfl, rfl⟩ rfl ?_; intro w h; dsimp only [updG, setO] at h) | (refine h.storB 0 0 ⟨_, rfl, rfl⟩ rfl rfl rfl ?_; intro w h; dsimp only [updG, setO] at h) | (refine h.drew.stor2 0 0 ⟨_, rfl, rfl⟩ rfl ?_; intro w h; dsimp only [updG, setO] at h) | (refine h.drew.storB 0 0 ⟨_, rfl, rfl⟩ rfl rfl rfl ?_; intro w h; dsimp only [updG, setO] at h))) | ((with_reducible refine RunN.isBox ?_); (first | (refine h.newB run_boxA rfl ?_; intro bn w h; try dsimp only at h; have h := h.ord 2 [1, 0]; dsimp only [pick, nthO, dropO] at h) | (refine h.drew.newB run_boxA rfl ?_; intro bn w h; try dsimp only at h; have h := h.ord 2 [1, 0]; dsimp only [pick, nthO, dropO] at h))) | ((with_reducible refine RunN.isNew ?_); (first | (refine h.newB (NewC.run _) rfl ?_; intro bn w h; have h := h.ord 2 [1, 0]; dsimp only [pick, nthO, dropO] at h) | (refine h.drew.newB (NewC.run _) rfl ?_; intro bn w h; have h := h.ord 2 [1, 0]; dsimp only [pick, nthO, dropO] at h))) | (refine RunN.k2Eq ?_) | (refine RunN.k2Ne ?_) | (refine ReadN.k2Eq ?_) | (refine ReadN.k2Ne ?_))
  have hn := hw.n
  have h := h.nilrow 54 2
  refine LoopX.mk (fun st w' => ∃ (s : Sl) (m : Nat), st = (s, (m : Int), ()) ∧ m ≤ e.n ∧ s.len = (e.livesTo m).length ∧ St w0 w' ([.row 54 2 s (eps (e.livesTo m))] :: emE e q :: F)) (fun st => ((e.n : Int) - st.2.1).toNat) ⟨_, 0, rfl, Nat.zero_le _, rfl, h⟩ ?_
  clear h
  rintro _ w1 ⟨s, m, rfl, hm, hs, h⟩ k hk
  dsimp only at hk ⊢
  rw [SplitB_iff]
  refine ⟨fun hc => ?_, fun hc => ?_⟩
  · have hc : m < e.n := by have : (m : Int) < (e.n : Int) := of_decide_eq_true hc; omega
    have hem : IntKind.i64.wrap ((m : Int) + 1) = ((m + 1 : Nat) : Int) := by rw [wr (by omega)]; omega
    rw [hem]
    have h := h.ord 2 [1, 0]
    refine (live_st h hw (i := m) (by omega)).mono ?_
    rintro _ w2 ⟨rfl, h⟩
    have hll := livesTo_len e.toMv m
    repeat (first | (with_reducible refine NilP.mk ?_) | ((with_reducible refine RunN.isLoad ?_); (first | refine h.load2 0 0 ⟨_, rfl, rfl⟩ rfl ?_ | refine h.loadB 0 0 ⟨_, rfl, rfl⟩ rfl rfl ?_ | refine h.load2 1 0 ⟨_, rfl, rfl⟩ rfl ?_ | refine h.loadB 1 0 ⟨_, rfl, rfl⟩ rfl rfl ?_ | refine h.drew.load2 0 0 ⟨_, rfl, rfl⟩ rfl ?_ | refine h.drew.loadB 0 0 ⟨_, rfl, rfl⟩ rfl rfl ?_ | refine h.drew.load2 1 0 ⟨_, rfl, rfl⟩ rfl ?_ | refine h.drew.loadB 1 0 ⟨_, rfl, rfl⟩ rfl rfl ?_)) | ((with_reducible refine ReadN.isLoad ?_); (first | refine h.read2 0 0 ⟨_, rfl, rfl⟩ rfl ?_ | refine h.readB 0 0 ⟨_, rfl, rfl⟩ rfl rfl ?_ | refine h.read2 1 0 ⟨_, rfl, rfl⟩ rfl ?_ | refine h.readB 1 0 ⟨_, rfl, rfl⟩ rfl rfl ?_ | refine h.drew.read2 0 0 ⟨_, rfl, rfl⟩ rfl ?_ | refine h.drew.readB 0 0 ⟨_, rfl, rfl⟩ rfl rfl ?_ | refine h.drew.read2 1 0 ⟨_, rfl, rfl⟩ rfl ?_ | refine h.drew.readB 1 0 ⟨_, rfl, rfl⟩ rfl rfl ?_)) | ((with_reducible refine StillV.isLoad ?_); (first | refine ⟨h.stillB 0 0 ⟨_, rfl, rfl⟩ rfl rfl, ?_⟩ | refine ⟨h.still2 0 0 ⟨_, rfl, rfl⟩ rfl, ?_⟩ | refine ⟨h.stillB 1 0 ⟨_, rfl, rfl⟩ rfl rfl, ?_⟩ | refine ⟨h.still2 1 0 ⟨_, rfl, rfl⟩ rfl, ?_⟩)) | ((with_reducible refine RunU.isStor ?_); (first | (refine h.stor2 0 0 ⟨_, rfl, rfl⟩ rfl ?_; intro w h; dsimp only [updG, setO] at h) | (refine h.storB 0 0 ⟨_, rfl, rfl⟩ rfl rfl rfl ?_; intro w h; dsimp only [updG, setO] at h) | (refine h.stor2 1 0 ⟨_, rfl, rfl⟩ rfl ?_; intro w h; dsimp only [updG, setO] at h) | (refine h.storB 1 0 ⟨_, rfl, rfl⟩ rfl rfl rfl ?_; intro w h; dsimp only [updG, setO] at h) | (refine h.drew.stor2 0 0 ⟨_, rfl, rfl⟩ rfl ?_; intro w h; dsimp only [updG, setO] at h) | (refine h.drew.storB 0 0 ⟨_, rfl, rfl⟩ rfl rfl rfl ?_; intro w h; dsimp only [updG, setO] at h) | (refine h.drew.stor2 1 0 ⟨_, rfl, rfl⟩ rfl ?_; intro w h; dsimp only [updG, setO] at h) | (refine h.drew.storB 1 0 ⟨_, rfl, rfl⟩ rfl rfl rfl ?_; intro w h; dsimp only [updG, setO] at h))) | ((with_reducible refine RunN.isBox ?_); (first | (refine h.newB run_boxA rfl ?_; intro bn w h; try dsimp only at h; have h := h.ord 2 [1, 0]; dsimp only [pick, nthO, dropO] at h) | (refine h.drew.newB run_boxA rfl ?_; intro bn w h; try dsimp only at h; have h := h.ord 2 [1, 0]; dsimp only [pick, nthO, dropO] at h))) | ((with_reducible refine RunN.isNew ?_); (first | (refine h.newB (NewC.run _) rfl ?_; intro bn w h; have h := h.ord 2 [1, 0]; dsimp only [pick, nthO, dropO] at h) | (refine h.drew.newB (NewC.run _) rfl ?_; intro bn w h; have h := h.ord 2 [1, 0]; dsimp only [pick, nthO, dropO] at h))) | (refine RunN.k2Eq ?_) | (refine RunN.k2Ne ?_) | (refine ReadN.k2Eq ?_) | (refine ReadN.k2Ne ?_))
    rw [SplitB_iff]
    refine ⟨fun hl => ?_, fun hl => ?_⟩
    · have hl : e.lv m = true := hl
      have ee : e.ep m = (gI e.kn m, (m : Int)) := by rw [Mv.ep, if_pos hl]
      refine h.load2 1 0 ⟨_, rfl, rfl⟩ rfl ?_
      refine h.newS 2 (bs78 _ _ _) rfl rfl rfl ?_
      intro u w3 hu1 hu2 _ h
      dsimp only [pick, nthO, dropO] at h
      refine h.app 3 0 ⟨_, rfl, rfl⟩ (h.rd (k := 0) (i := 0) ⟨_, rfl, rfl⟩) (fun v hv => ?_) (by simp only [maxLen]; omega) (by omega) ?_
      · simp at hv; rcases hv with rfl | rfl <;> rfl
      intro s' w4 hl' h
      dsimp only [updG, setO] at h
      have h := (h.drop 0).ord 3 [2, 0]
      refine hk _ _ ⟨s', m + 1, rfl, by omega, ?_, ?_⟩ (by dsimp only; omega)
      · rw [livesTo_succ, if_pos hl, hl', hs, hu1]; simp
      · rw [livesTo_succ, if_pos hl, eps, List.flatMap_append]
        rw [ee] at h
        exact h
    · have hl : e.lv m = false := hl
      have h := h.ord 3 [2, 0]
      refine hk _ _ ⟨s, m + 1, rfl, by omega, ?_, ?_⟩ (by dsimp only; omega)
      · rw [livesTo_succ, if_neg (by rw [hl]; decide), List.append_nil]; exact hs
      · rw [livesTo_succ, if_neg (by rw [hl]; decide), List.append_nil]; exact h
  · have hc : m = e.n := by have : ¬ (m : Int) < (e.n : Int) := of_decide_eq_false hc; omega
    subst hc
    exact ⟨hs, h⟩
end Go.Proofs.Ytmfbmfppjdkeeaa
