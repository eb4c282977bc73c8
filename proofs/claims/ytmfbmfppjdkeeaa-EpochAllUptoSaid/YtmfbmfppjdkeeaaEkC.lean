/- The epoch's machine: the target, the reports, what is to be done. -/
import Derived.Test.YtmfbmfppjdkeeaaEkB
import Derived.Test.YtmfbmfppjdkeeaaFwZ
namespace Go.Proofs.Ytmfbmfppjdkeeaa
open Go Go.Fw Go.RowKit
set_option linter.unusedVariables false
set_option linter.unusedSimpArgs false
set_option maxRecDepth 4000
set_option maxHeartbeats 2000000
variable {w0 w : World} {F G : Grps}

theorem flat_len {α : Type} {f : α → List Value} {n : Nat} (hf : ∀ x, (f x).length = n) : ∀ l : List α, (l.flatMap f).length = l.length * n
  | [] => by simp
  | x :: r => by rw [List.flatMap_cons, List.length_append, hf, flat_len hf r, List.length_cons, Nat.add_mul]; omega
theorem flat_at {α : Type} {f : α → List Value} {n : Nat} (hf : ∀ x, (f x).length = n) (l : List α) (i : Nat) (hi : i < l.length) : ((l.flatMap f).drop (i * n)).take n = f l[i] := by
  have e1 : l = l.take i ++ l[i] :: l.drop (i + 1) := by rw [← List.drop_eq_getElem_cons hi, List.take_append_drop]
  have hA : ((l.take i).flatMap f).length = i * n := by rw [flat_len hf, List.length_take, Nat.min_eq_left (by omega)]
  have e3 : l.flatMap f = (l.take i).flatMap f ++ (f l[i] ++ (l.drop (i + 1)).flatMap f) := by
    conv => lhs; rw [e1]
    rw [List.flatMap_append, List.flatMap_cons]
  rw [e3, List.drop_append, hA, Nat.sub_self, List.drop_zero, List.drop_of_length_le (by omega), List.nil_append, List.take_append_of_le_length (by rw [hf]; exact Nat.le_refl _), List.take_of_length_le (by rw [hf]; exact Nat.le_refl _)]
theorem flat_cell {α : Type} {f : α → List Value} {n : Nat} (hf : ∀ x, (f x).length = n) {l : List α} {j : Nat} (hj : j < l.length) (m : Nat) (hm : m < n) : (l.flatMap f)[j * n + m]? = (f l[j])[m]? := by
  have h := congrArg (fun y => y[m]?) (flat_at hf l j hj)
  simp only [List.getElem?_take, if_pos hm, List.getElem?_drop] at h
  exact h
theorem flat_part {α : Type} {f : α → List Value} {n : Nat} (hf : ∀ x, (f x).length = n) {l : List α} {j : Nat} (hj : j < l.length) (a k : Nat) (h : a + k ≤ n) : ((l.flatMap f).drop (j * n + a)).take k = ((f l[j]).drop a).take k := by
  rw [← flat_at hf l j hj, List.drop_take, List.take_take, List.drop_drop, Nat.min_eq_left (by omega)]
theorem flat_one {α : Type} {f : α → List Value} (h1 : ∀ x, ∀ v ∈ f x, v.oneCell' = true) (l : List α) : ∀ v ∈ l.flatMap f, v.oneCell' = true := by
  intro v hv
  obtain ⟨x, _, hx⟩ := List.mem_flatMap.1 hv
  exact h1 x v hx
theorem epv_one (x : Ep) : ∀ v ∈ epv x, v.oneCell' = true := by intro v hv; simp [epv] at hv; rcases hv with rfl | rfl <;> rfl
theorem acv_one (x : A6) : ∀ v ∈ acv x, v.oneCell' = true := by intro v hv; simp [acv] at hv; rcases hv with rfl | rfl | rfl | rfl | rfl | rfl <;> rfl
theorem Rd.el2 {s : Sl} {l : List Ep} (h : Rd w s 2 (eps l)) {b o : Nat} (ha : s.a = some ⟨b, o, none⟩) {i : Nat} (hi : i < l.length) {K : (Int × Int × Unit) → World → Prop} (hk : K (l[i].1, l[i].2, ()) w) :
    RunN Try.prog (.agg (.cons (.int .i64) (.cons (.int .i64) .nilT))) (V (Instr.loadAt 54 (.pointer (some ⟨b, o + i * 2, none⟩)))) w K :=
  h.elA ha (i * 2) rfl (kd := Kd2) (l[i].1, l[i].2, ()) (flat_at epv_len _ _ hi) hk
theorem topE_snoc (l : List Ep) (x : Ep) : topE (l ++ [x]) = if x.1 ≥ (topE l).1 then x else topE l := by rw [topE, List.foldl_append]; rfl
theorem top_st {e : Em} {q : List A6} (h : St w0 w (emE e q :: F)) (hw : e.wf) : CallK Try.prog (.agg (.cons (.int .i64) (.cons (.int .i64) .nilT))) 51 #[.pointer e.p] w
    fun (v : Int × Int × Unit) w' => v = (e.top.1, e.top.2, ()) ∧ St w0 w' (emE e q :: F) := by
  refine T51.calls ?_
  unfold T51
  first | refine h.newB (NewC.run _) rfl ?_ | refine h.drew.newB (NewC.run _) rfl ?_
  intro b2 w h
  have h := h.ord 2 [1, 0]
  dsimp only [pick, nthO, dropO] at h
  first | refine h.newB (NewC.run _) rfl ?_ | refine h.drew.newB (NewC.run _) rfl ?_
  intro b1 w h
  have h := h.ord 2 [1, 0]
  dsimp only [pick, nthO, dropO] at h
  refine (lives_st h hw).mono ?_
  rintro s w1 ⟨hs, h⟩
  have hll := livesTo_len e.toMv e.n
  have hll : e.lives.length ≤ e.n := hll
  have hn := hw.n
  refine LoopX.mk (fun st w' => ∃ (m : Nat), st = ((m : Int), ()) ∧ m ≤ e.lives.length ∧ St w0 w' ([.row 54 2 s (eps e.lives)] :: emE e q :: [.cel b1 54 (epv (topE (e.lives.take m)))] :: [.cel b2 54 [.int .i64 0, .int .i64 0]] :: F)) (fun st => ((e.lives.length : Int) - st.1).toNat) ⟨0, rfl, Nat.zero_le _, h⟩ ?_
  clear h
  rintro _ w2 ⟨m, rfl, hm, h⟩ k hk
  dsimp only at hk ⊢
  rw [hs]
  rw [SplitB_iff]
  refine ⟨fun hc => ?_, fun hc => ?_⟩
  · have hc : m < e.lives.length := by have : (m : Int) < (e.lives.length : Int) := of_decide_eq_true hc; omega
    have hem : IntKind.i64.wrap ((m : Int) + 1) = ((m + 1 : Nat) : Int) := by rw [wr (by omega)]; omega
    rw [hem, ← hs]
    have hrr := h.rd (k := 0) (i := 0) (E := 54) (sz := 2) (s := s) (vs := eps e.lives) ⟨_, rfl, rfl⟩
    refine hrr.idxK m rfl (by omega) ?_
    intro g o ha
    refine Rd.el2 hrr ha hc ?_
    have et := topE_snoc (e.lives.take m) e.lives[m]
    rw [← List.take_succ_eq_append_getElem hc] at et
    have h : St w0 w2 ([.row 54 2 s (eps e.lives)] :: emE e q :: [.cel b1 54 [.int .i64 (topE (e.lives.take m)).1, .int .i64 (topE (e.lives.take m)).2]] :: [.cel b2 54 [.int .i64 0, .int .i64 0]] :: F) := h
    repeat (first | (with_reducible refine NilP.mk ?_) | ((with_reducible refine RunN.isLoad ?_); (first | refine h.load2 0 0 ⟨_, rfl, rfl⟩ rfl ?_ | refine h.loadB 0 0 ⟨_, rfl, rfl⟩ rfl rfl ?_ | refine h.load2 1 0 ⟨_, rfl, rfl⟩ rfl ?_ | refine h.loadB 1 0 ⟨_, rfl, rfl⟩ rfl rfl ?_ | refine h.load2 2 0 ⟨_, rfl, rfl⟩ rfl ?_ | refine h.loadB 2 0 ⟨_, rfl, rfl⟩ rfl rfl ?_ | refine h.load2 3 0 ⟨_, rfl, rfl⟩ rfl ?_ | refine h.loadB 3 0 ⟨_, rfl, rfl⟩ rfl rfl ?_ | refine h.drew.load2 0 0 ⟨_, rfl, rfl⟩ rfl ?_ | refine h.drew.loadB 0 0 ⟨_, rfl, rfl⟩ rfl rfl ?_ | refine h.drew.load2 1 0 ⟨_, rfl, rfl⟩ rfl ?_ | refine h.drew.loadB 1 0 ⟨_, rfl, rfl⟩ rfl rfl ?_ | refine h.drew.load2 2 0 ⟨_, rfl, rfl⟩ rfl ?_ | refine h.drew.loadB 2 0 ⟨_, rfl, rfl⟩ rfl rfl ?_ | refine h.drew.load2 3 0 ⟨_, rfl, rfl⟩ rfl ?_ | refine h.drew.loadB 3 0 ⟨_, rfl, rfl⟩ rfl rfl ?_)) | ((with_reducible refine ReadN.isLoad ?_); (first | refine h.read2 0 0 ⟨_, rfl, rfl⟩ rfl ?_ | refine h.readB 0 0 ⟨_, rfl, rfl⟩ rfl rfl ?_ | refine h.read2 1 0 ⟨_, rfl, rfl⟩ rfl ?_ | refine h.readB 1 0 ⟨_, rfl, rfl⟩ rfl rfl ?_ | refine h.read2 2 0 ⟨_, rfl, rfl⟩ rfl ?_ | refine h.readB 2 0 ⟨_, rfl, rfl⟩ rfl rfl ?_ | refine h.read2 3 0 ⟨_, rfl, rfl⟩ rfl ?_ | refine h.readB 3 0 ⟨_, rfl, rfl⟩ rfl rfl ?_ | refine h.drew.read2 0 0 ⟨_, rfl, rfl⟩ rfl ?_ | refine h.drew.readB 0 0 ⟨_, rfl, rfl⟩ rfl rfl ?_ | refine h.drew.read2 1 0 ⟨_, rfl, rfl⟩ rfl ?_ | refine h.drew.readB 1 0 ⟨_, rfl, rfl⟩ rfl rfl ?_ | refine h.drew.read2 2 0 ⟨_, rfl, rfl⟩ rfl ?_ | refine h.drew.readB 2 0 ⟨_, rfl, rfl⟩ rfl rfl ?_ | refine h.drew.read2 3 0 ⟨_, rfl, rfl⟩ rfl ?_ | refine h.drew.readB 3 0 ⟨_, rfl, rfl⟩ rfl rfl ?_)) | ((with_reducible refine StillV.isLoad ?_); (first | refine ⟨h.stillB 0 0 ⟨_, rfl, rfl⟩ rfl rfl, ?_⟩ | refine ⟨h.still2 0 0 ⟨_, rfl, rfl⟩ rfl, ?_⟩ | refine ⟨h.stillB 1 0 ⟨_, rfl, rfl⟩ rfl rfl, ?_⟩ | refine ⟨h.still2 1 0 ⟨_, rfl, rfl⟩ rfl, ?_⟩ | refine ⟨h.stillB 2 0 ⟨_, rfl, rfl⟩ rfl rfl, ?_⟩ | refine ⟨h.still2 2 0 ⟨_, rfl, rfl⟩ rfl, ?_⟩ | refine ⟨h.stillB 3 0 ⟨_, rfl, rfl⟩ rfl rfl, ?_⟩ | refine ⟨h.still2 3 0 ⟨_, rfl, rfl⟩ rfl, ?_⟩)) | ((with_reducible refine RunU.isStor ?_); (first | (refine h.stor2 0 0 ⟨_, rfl, rfl⟩ rfl ?_; intro w h; dsimp only [updG, setO] at h) | (refine h.storB 0 0 ⟨_, rfl, rfl⟩ rfl rfl rfl ?_; intro w h; dsimp only [updG, setO] at h) | (refine h.stor2 1 0 ⟨_, rfl, rfl⟩ rfl ?_; intro w h; dsimp only [updG, setO] at h) | (refine h.storB 1 0 ⟨_, rfl, rfl⟩ rfl rfl rfl ?_; intro w h; dsimp only [updG, setO] at h) | (refine h.stor2 2 0 ⟨_, rfl, rfl⟩ rfl ?_; intro w h; dsimp only [updG, setO] at h) | (refine h.storB 2 0 ⟨_, rfl, rfl⟩ rfl rfl rfl ?_; intro w h; dsimp only [updG, setO] at h) | (refine h.stor2 3 0 ⟨_, rfl, rfl⟩ rfl ?_; intro w h; dsimp only [updG, setO] at h) | (refine h.storB 3 0 ⟨_, rfl, rfl⟩ rfl rfl rfl ?_; intro w h; dsimp only [updG, setO] at h) | (refine h.drew.stor2 0 0 ⟨_, rfl, rfl⟩ rfl ?_; intro w h; dsimp only [updG, setO] at h) | (refine h.drew.storB 0 0 ⟨_, rfl, rfl⟩ rfl rfl rfl ?_; intro w h; dsimp only [updG, setO] at h) | (refine h.drew.stor2 1 0 ⟨_, rfl, rfl⟩ rfl ?_; intro w h; dsimp only [updG, setO] at h) | (refine h.drew.storB 1 0 ⟨_, rfl, rfl⟩ rfl rfl rfl ?_; intro w h; dsimp only [updG, setO] at h) | (refine h.drew.stor2 2 0 ⟨_, rfl, rfl⟩ rfl ?_; intro w h; dsimp only [updG, setO] at h) | (refine h.drew.storB 2 0 ⟨_, rfl, rfl⟩ rfl rfl rfl ?_; intro w h; dsimp only [updG, setO] at h) | (refine h.drew.stor2 3 0 ⟨_, rfl, rfl⟩ rfl ?_; intro w h; dsimp only [updG, setO] at h) | (refine h.drew.storB 3 0 ⟨_, rfl, rfl⟩ rfl rfl rfl ?_; intro w h; dsimp only [updG, setO] at h))) | ((with_reducible refine RunN.isBox ?_); (first | (refine h.newB run_boxA rfl ?_; intro bn w h; try dsimp only at h; have h := h.ord 2 [1, 0]; dsimp only [pick, nthO, dropO] at h) | (refine h.drew.newB run_boxA rfl ?_; intro bn w h; try dsimp only at h; have h := h.ord 2 [1, 0]; dsimp only [pick, nthO, dropO] at h))) | ((with_reducible refine RunN.isNew ?_); (first | (refine h.newB (NewC.run _) rfl ?_; intro bn w h; have h := h.ord 2 [1, 0]; dsimp only [pick, nthO, dropO] at h) | (refine h.drew.newB (NewC.run _) rfl ?_; intro bn w h; have h := h.ord 2 [1, 0]; dsimp only [pick, nthO, dropO] at h))) | (refine RunN.k2Eq ?_) | (refine RunN.k2Ne ?_) | (refine ReadN.k2Eq ?_) | (refine ReadN.k2Ne ?_))
    rw [SplitB_iff]
    refine ⟨fun hd => ?_, fun hd => ?_⟩
    · have hd : e.lives[m].1 ≥ (topE (e.lives.take m)).1 := of_decide_eq_true hd
      rw [if_pos hd] at et
      refine h.load2 1 0 ⟨_, rfl, rfl⟩ rfl ?_
      refine h.stor2 3 0 ⟨_, rfl, rfl⟩ rfl ?_
      intro w h
      dsimp only [updG, setO] at h
      refine hk _ _ ⟨m + 1, rfl, by omega, ?_⟩ (by dsimp only; omega)
      rw [et]
      exact h.drop 1
    · have hd : ¬ e.lives[m].1 ≥ (topE (e.lives.take m)).1 := of_decide_eq_false hd
      rw [if_neg hd] at et
      refine hk _ _ ⟨m + 1, rfl, by omega, ?_⟩ (by dsimp only; omega)
      rw [et]
      exact h.drop 1
  · have hc : m = e.lives.length := by have : ¬ (m : Int) < (e.lives.length : Int) := of_decide_eq_false hc; omega
    subst hc
    rw [List.take_length] at h
    have h : St w0 w2 ([.row 54 2 s (eps e.lives)] :: emE e q :: [.cel b1 54 [.int .i64 (topE e.lives).1, .int .i64 (topE e.lives).2]] :: [.cel b2 54 [.int .i64 0, .int .i64 0]] :: F) := h
    refine h.load2 2 0 ⟨_, rfl, rfl⟩ rfl ?_
    refine h.stor2 3 0 ⟨_, rfl, rfl⟩ rfl ?_
    intro w h
    dsimp only [updG, setO] at h
    refine h.read2 3 0 ⟨_, rfl, rfl⟩ rfl ?_
    exact ⟨rfl, ((h.drop 0).drop 1).drop 1⟩
theorem frozen_st {e : Em} {q : List A6} (h : St w0 w (emE e q :: F)) (hw : e.wf) : CallK Try.prog .bool 22 #[.pointer e.p] w fun (v : Bool) w' => v = someE e.top ∧ St w0 w' (emE e q :: F) := by
  refine T22.calls ?_
  unfold T22
  refine (top_st h hw).mono ?_
  rintro _ w1 ⟨rfl, h⟩
  refine (some_st h _ _).mono ?_
  rintro _ w2 ⟨rfl, h⟩
  exact ⟨rfl, h⟩
/-! ### reports -/
def repTo (l : List Int) (m : Nat) : Int := ((l.take m).map fun x => max x 0).sum
def Mv.reported (e : Mv) : Int := if someE e.own = true then repTo e.re e.n else 0
def Mv.all (e : Mv) : Bool := ((List.range e.n).all fun r => !(decide (r ≠ e.me) && gI e.re r == -1)) && someE e.own
theorem repTo_succ {l : List Int} {m : Nat} (h : m < l.length) : repTo l (m + 1) = repTo l m + max (gI l m) 0 := by
  rw [repTo, List.take_succ_eq_append_getElem h, List.map_append, List.sum_append, repTo, gI, List.getElem?_eq_getElem h]; simp
theorem repTo_bound {l : List Int} (hb : ∀ x ∈ l, -1 ≤ x ∧ x ≤ 1099511627776) : ∀ m, 0 ≤ repTo l m ∧ repTo l m ≤ m * 1099511627776 := by
  intro m
  induction m with
  | zero => simp [repTo]
  | succ m ih =>
    rcases Nat.lt_or_ge m l.length with h | h
    · rw [repTo_succ h]
      have := hb _ (gI_mem h)
      omega
    · have e : repTo l (m + 1) = repTo l m := by rw [repTo, repTo, List.take_of_length_le (by omega), List.take_of_length_le h]
      rw [e]; omega
theorem reported_st {e : Em} {q : List A6} (h : St w0 w (emE e q :: F)) (hw : e.wf) : CallK Try.prog (.int .i64) 49 #[.pointer e.p] w fun (v : Int) w' => v = e.reported ∧ St w0 w' (emE e q :: F) := by
  refine T49.calls ?_
  unfold T49
  refine (own_st h hw).mono ?_
  rintro _ w1 ⟨rfl, h⟩
  refine (some_st h _ _).mono ?_
  rintro _ w2 ⟨rfl, h⟩
  have hn := hw.n
  rw [SplitB_iff]
  refine ⟨fun hs => ?_, fun hs => ?_⟩
  · have hs : someE e.own = true := hs
    have hr : e.reported = repTo e.re e.n := if_pos hs
    repeat (first | (with_reducible refine NilP.mk ?_) | ((with_reducible refine RunN.isLoad ?_); (first | refine h.load2 0 0 ⟨_, rfl, rfl⟩ rfl ?_ | refine h.loadB 0 0 ⟨_, rfl, rfl⟩ rfl rfl ?_ | refine h.drew.load2 0 0 ⟨_, rfl, rfl⟩ rfl ?_ | refine h.drew.loadB 0 0 ⟨_, rfl, rfl⟩ rfl rfl ?_)) | ((with_reducible refine ReadN.isLoad ?_); (first | refine h.read2 0 0 ⟨_, rfl, rfl⟩ rfl ?_ | refine h.readB 0 0 ⟨_, rfl, rfl⟩ rfl rfl ?_ | refine h.drew.read2 0 0 ⟨_, rfl, rfl⟩ rfl ?_ | refine h.drew.readB 0 0 ⟨_, rfl, rfl⟩ rfl rfl ?_)) | ((with_reducible refine StillV.isLoad ?_); (first | refine ⟨h.stillB 0 0 ⟨_, rfl, rfl⟩ rfl rfl, ?_⟩ | refine ⟨h.still2 0 0 ⟨_, rfl, rfl⟩ rfl, ?_⟩)) | ((with_reducible refine RunU.isStor ?_); (first | (refine h.stor2 0 0 ⟨_, rfl, rfl⟩ rfl ?_; intro w h; dsimp only [updG, setO] at h) | (refine h.storB 0 0 ⟨_, rfl, rfl⟩ rfl rfl rfl ?_; intro w h; dsimp only [updG, setO] at h) | (refine h.drew.stor2 0 0 ⟨_, rfl, rfl⟩ rfl ?_; intro w h; dsimp only [updG, setO] at h) | (refine h.drew.storB 0 0 ⟨_, rfl, rfl⟩ rfl rfl rfl ?_; intro w h; dsimp only [updG, setO] at h))) | ((with_reducible refine RunN.isBox ?_); (first | (refine h.newB run_boxA rfl ?_; intro bn w h; try dsimp only at h; have h := h.ord 2 [1, 0]; dsimp only [pick, nthO, dropO] at h) | (refine h.drew.newB run_boxA rfl ?_; intro bn w h; try dsimp only at h; have h := h.ord 2 [1, 0]; dsimp only [pick, nthO, dropO] at h))) | ((with_reducible refine RunN.isNew ?_); (first | (refine h.newB (NewC.run _) rfl ?_; intro bn w h; have h := h.ord 2 [1, 0]; dsimp only [pick, nthO, dropO] at h) | (refine h.drew.newB (NewC.run _) rfl ?_; intro bn w h; have h := h.ord 2 [1, 0]; dsimp only [pick, nthO, dropO] at h))) | (refine RunN.k2Eq ?_) | (refine RunN.k2Ne ?_) | (refine ReadN.k2Eq ?_) | (refine ReadN.k2Ne ?_))
    refine LoopX.mk (fun st w' => ∃ (m : Nat), st = (repTo e.re m, (m : Int), ()) ∧ m ≤ e.n ∧ St w0 w' (emE e q :: F)) (fun st => ((e.n : Int) - st.2.1).toNat) ⟨0, rfl, Nat.zero_le _, h⟩ ?_
    clear h
    rintro _ w3 ⟨m, rfl, hm, h⟩ k hk
    dsimp only at hk ⊢
    rw [SplitB_iff]
    refine ⟨fun hc => ?_, fun hc => ?_⟩
    · have hc : m < e.n := by have : (m : Int) < (e.n : Int) := of_decide_eq_true hc; omega
      have hml : m < e.re.length := by rw [hw.rl]; omega
      have hem : IntKind.i64.wrap ((m : Int) + 1) = ((m + 1 : Nat) : Int) := by rw [wr (by omega)]; omega
      refine NilP.mk ?_
      refine RunN.arr rfl m rfl (by omega) ?_
      refine h.loadB 0 0 ⟨_, rfl, rfl⟩ rfl (kd := .int .i64) (x := gI e.re m) (r_at hw (by omega)) ?_
      refine RunN.of (kd := .int .i64) (max_i _ _ _) ?_
      have hb1 := repTo_bound hw.rb m
      have hb2 := hw.rb _ (gI_mem hml)
      have e3 : IntKind.i64.wrap (repTo e.re m + max (gI e.re m) 0) = repTo e.re (m + 1) := by rw [repTo_succ hml, wr (by omega)]
      rw [hem, e3]
      exact hk _ _ ⟨m + 1, rfl, by omega, h⟩ (by dsimp only; omega)
    · have hc : m = e.n := by have : ¬ (m : Int) < (e.n : Int) := of_decide_eq_false hc; omega
      subst hc
      exact ⟨hr.symm, h⟩
  · have hs : ¬ someE e.own = true := by rw [show someE e.own = false from hs]; decide
    exact ⟨(if_neg hs).symm, h⟩
theorem all_st {e : Em} {q : List A6} (h : St w0 w (emE e q :: F)) (hw : e.wf) : CallK Try.prog .bool 50 #[.pointer e.p] w fun (v : Bool) w' => v = e.all ∧ St w0 w' (emE e q :: F) := by
  refine T50.calls ?_
  unfold T50
  have hn := hw.n
  repeat (first | (with_reducible refine NilP.mk ?_) | ((with_reducible refine RunN.isLoad ?_); (first | refine h.load2 0 0 ⟨_, rfl, rfl⟩ rfl ?_ | refine h.loadB 0 0 ⟨_, rfl, rfl⟩ rfl rfl ?_ | refine h.drew.load2 0 0 ⟨_, rfl, rfl⟩ rfl ?_ | refine h.drew.loadB 0 0 ⟨_, rfl, rfl⟩ rfl rfl ?_)) | ((with_reducible refine ReadN.isLoad ?_); (first | refine h.read2 0 0 ⟨_, rfl, rfl⟩ rfl ?_ | refine h.readB 0 0 ⟨_, rfl, rfl⟩ rfl rfl ?_ | refine h.drew.read2 0 0 ⟨_, rfl, rfl⟩ rfl ?_ | refine h.drew.readB 0 0 ⟨_, rfl, rfl⟩ rfl rfl ?_)) | ((with_reducible refine StillV.isLoad ?_); (first | refine ⟨h.stillB 0 0 ⟨_, rfl, rfl⟩ rfl rfl, ?_⟩ | refine ⟨h.still2 0 0 ⟨_, rfl, rfl⟩ rfl, ?_⟩)) | ((with_reducible refine RunU.isStor ?_); (first | (refine h.stor2 0 0 ⟨_, rfl, rfl⟩ rfl ?_; intro w h; dsimp only [updG, setO] at h) | (refine h.storB 0 0 ⟨_, rfl, rfl⟩ rfl rfl rfl ?_; intro w h; dsimp only [updG, setO] at h) | (refine h.drew.stor2 0 0 ⟨_, rfl, rfl⟩ rfl ?_; intro w h; dsimp only [updG, setO] at h) | (refine h.drew.storB 0 0 ⟨_, rfl, rfl⟩ rfl rfl rfl ?_; intro w h; dsimp only [updG, setO] at h))) | ((with_reducible refine RunN.isBox ?_); (first | (refine h.newB run_boxA rfl ?_; intro bn w h; try dsimp only at h; have h := h.ord 2 [1, 0]; dsimp only [pick, nthO, dropO] at h) | (refine h.drew.newB run_boxA rfl ?_; intro bn w h; try dsimp only at h; have h := h.ord 2 [1, 0]; dsimp only [pick, nthO, dropO] at h))) | ((with_reducible refine RunN.isNew ?_); (first | (refine h.newB (NewC.run _) rfl ?_; intro bn w h; have h := h.ord 2 [1, 0]; dsimp only [pick, nthO, dropO] at h) | (refine h.drew.newB (NewC.run _) rfl ?_; intro bn w h; have h := h.ord 2 [1, 0]; dsimp only [pick, nthO, dropO] at h))) | (refine RunN.k2Eq ?_) | (refine RunN.k2Ne ?_) | (refine ReadN.k2Eq ?_) | (refine ReadN.k2Ne ?_))
  refine LoopX.mk (fun st w' => ∃ (m : Nat), st = ((m : Int), ()) ∧ m ≤ e.n ∧ (∀ r, r < m → ¬ (r ≠ e.me ∧ gI e.re r = -1)) ∧ St w0 w' (emE e q :: F)) (fun st => ((e.n : Int) - st.1).toNat) ⟨0, rfl, Nat.zero_le _, fun r hr => by omega, h⟩ ?_
  clear h
  rintro _ w3 ⟨m, rfl, hm, hall, h⟩ k hk
  dsimp only at hk ⊢
  rw [SplitB_iff]
  refine ⟨fun hc => ?_, fun hc => ?_⟩
  · have hc : m < e.n := by have : (m : Int) < (e.n : Int) := of_decide_eq_true hc; omega
    have hml : m < e.re.length := by rw [hw.rl]; omega
    have hem : IntKind.i64.wrap ((m : Int) + 1) = ((m + 1 : Nat) : Int) := by rw [wr (by omega)]; omega
    rw [hem]
    refine JoinX.mk (fun (y : Bool × Unit) w' => y.1 = decide (m ≠ e.me ∧ gI e.re m = -1) ∧ St w0 w' (emE e q :: F)) ?_ ?_
    · rintro ⟨y, ⟨⟩⟩ w4 ⟨hy, h⟩
      dsimp only at hy
      subst hy
      rw [SplitB_iff]
      refine ⟨fun hd => ?_, fun hd => ?_⟩
      · have hd := of_decide_eq_true hd
        refine ⟨?_, h⟩
        have : (((List.range e.n).all fun r => !(decide (r ≠ e.me) && gI e.re r == -1)) && someE e.own) = false := by
          rw [Bool.and_eq_false_iff]; left
          rw [List.all_eq_false]
          exact ⟨m, List.mem_range.2 hc, by simp [hd.1, hd.2]⟩
        exact this.symm
      · have hd := of_decide_eq_false hd
        refine hk _ _ ⟨m + 1, rfl, by omega, fun r hr => ?_, h⟩ (by dsimp only; omega)
        rcases Nat.lt_or_ge r m with h1 | h1
        · exact hall r h1
        · have : r = m := by omega
          subst this; exact hd
    · intro k3 hk3
      repeat (first | (with_reducible refine NilP.mk ?_) | ((with_reducible refine RunN.isLoad ?_); (first | refine h.load2 0 0 ⟨_, rfl, rfl⟩ rfl ?_ | refine h.loadB 0 0 ⟨_, rfl, rfl⟩ rfl rfl ?_ | refine h.drew.load2 0 0 ⟨_, rfl, rfl⟩ rfl ?_ | refine h.drew.loadB 0 0 ⟨_, rfl, rfl⟩ rfl rfl ?_)) | ((with_reducible refine ReadN.isLoad ?_); (first | refine h.read2 0 0 ⟨_, rfl, rfl⟩ rfl ?_ | refine h.readB 0 0 ⟨_, rfl, rfl⟩ rfl rfl ?_ | refine h.drew.read2 0 0 ⟨_, rfl, rfl⟩ rfl ?_ | refine h.drew.readB 0 0 ⟨_, rfl, rfl⟩ rfl rfl ?_)) | ((with_reducible refine StillV.isLoad ?_); (first | refine ⟨h.stillB 0 0 ⟨_, rfl, rfl⟩ rfl rfl, ?_⟩ | refine ⟨h.still2 0 0 ⟨_, rfl, rfl⟩ rfl, ?_⟩)) | ((with_reducible refine RunU.isStor ?_); (first | (refine h.stor2 0 0 ⟨_, rfl, rfl⟩ rfl ?_; intro w h; dsimp only [updG, setO] at h) | (refine h.storB 0 0 ⟨_, rfl, rfl⟩ rfl rfl rfl ?_; intro w h; dsimp only [updG, setO] at h) | (refine h.drew.stor2 0 0 ⟨_, rfl, rfl⟩ rfl ?_; intro w h; dsimp only [updG, setO] at h) | (refine h.drew.storB 0 0 ⟨_, rfl, rfl⟩ rfl rfl rfl ?_; intro w h; dsimp only [updG, setO] at h))) | ((with_reducible refine RunN.isBox ?_); (first | (refine h.newB run_boxA rfl ?_; intro bn w h; try dsimp only at h; have h := h.ord 2 [1, 0]; dsimp only [pick, nthO, dropO] at h) | (refine h.drew.newB run_boxA rfl ?_; intro bn w h; try dsimp only at h; have h := h.ord 2 [1, 0]; dsimp only [pick, nthO, dropO] at h))) | ((with_reducible refine RunN.isNew ?_); (first | (refine h.newB (NewC.run _) rfl ?_; intro bn w h; have h := h.ord 2 [1, 0]; dsimp only [pick, nthO, dropO] at h) | (refine h.drew.newB (NewC.run _) rfl ?_; intro bn w h; have h := h.ord 2 [1, 0]; dsimp only [pick, nthO, dropO] at h))) | (refine RunN.k2Eq ?_) | (refine RunN.k2Ne ?_) | (refine ReadN.k2Eq ?_) | (refine ReadN.k2Ne ?_))
      rw [SplitB_iff]
      refine ⟨fun hd => ?_, fun hd => ?_⟩
      · have hd : m ≠ e.me := by
          intro he; subst he; simp at hd
        refine NilP.mk ?_
        refine RunN.arr rfl m rfl (by omega) ?_
        refine h.loadB 0 0 ⟨_, rfl, rfl⟩ rfl (kd := .int .i64) (x := gI e.re m) (r_at hw (by omega)) ?_
        refine hk3 _ _ ⟨?_, h⟩
        dsimp only
        by_cases h1 : gI e.re m = -1
        · simp [h1, hd]
        · simp [h1]
      · have hd : m = e.me := by
          have : (m : Int) = (e.me : Int) := by simpa using hd
          omega
        exact hk3 _ _ ⟨by simp [hd], h⟩
  · have hc : m = e.n := by have : ¬ (m : Int) < (e.n : Int) := of_decide_eq_false hc; omega
    subst hc
    refine (own_st h hw).mono ?_
    rintro _ w4 ⟨rfl, h⟩
    refine (some_st h _ _).mono ?_
    rintro _ w5 ⟨rfl, h⟩
    refine ⟨?_, h⟩
    have : ((List.range e.n).all fun r => !(decide (r ≠ e.me) && gI e.re r == -1)) = true := by
      rw [List.all_eq_true]
      intro r hr
      have := hall r (List.mem_range.1 hr)
      by_cases h1 : r = e.me
      · simp [h1]
      · have h2 : ¬ gI e.re r = -1 := fun h2 => this ⟨h1, h2⟩
        simp [h2]
    rw [Mv.all, this, Bool.true_and]
/-! ### amounts -/
def okA (l : List Int) : Bool := l.all fun x => decide (0 ≤ x ∧ x ≤ 1099511627776)
theorem amount_st {s : Sl} {l : List Int} (h : Rd w s 1 (lin l)) (hl : l.length ≤ 1000) : CallK Try.prog .bool 45 #[.slice s.a s.len s.cap] w fun (v : Bool) w' => v = okA l ∧ w' = w := by
  have hsl : s.len = l.length := by have := h.1; rw [lin_len] at this; omega
  refine T45.calls ?_
  unfold T45
  refine LoopX.mk (fun st w' => ∃ (m : Nat), st = ((m : Int), ()) ∧ m ≤ l.length ∧ okA (l.take m) = true ∧ w' = w) (fun st => ((l.length : Int) - st.1).toNat) ⟨0, rfl, Nat.zero_le _, rfl, rfl⟩ ?_
  rintro _ w3 ⟨m, rfl, hm, hall, rfl⟩ k hk
  dsimp only at hk ⊢
  rw [SplitB_iff]
  refine ⟨fun hc => ?_, fun hc => ?_⟩
  · have hc : m < l.length := by have : (m : Int) < (s.len : Int) := of_decide_eq_true hc; omega
    have hem : IntKind.i64.wrap ((m : Int) + 1) = ((m + 1 : Nat) : Int) := by rw [wr (by omega)]; omega
    rw [hem]
    refine h.idxK m rfl (by omega) ?_
    intro g o ha
    refine h.el ha (m * 1) rfl (kd := .int .i64) (x := l[m]) (by rw [Nat.mul_one]; exact lin_at hc) ?_
    refine JoinX.mk (fun (y : Bool × Unit) w' => y.1 = !decide (0 ≤ l[m] ∧ l[m] ≤ 1099511627776) ∧ w' = w3) ?_ ?_
    · rintro ⟨y, ⟨⟩⟩ w4 ⟨hy, rfl⟩
      dsimp only at hy
      subst hy
      rw [SplitB_iff]
      refine ⟨fun hd => ?_, fun hd => ?_⟩
      · refine ⟨?_, rfl⟩
        have : okA l = false := by
          rw [okA, List.all_eq_false]
          exact ⟨l[m], List.getElem_mem hc, by simp at hd ⊢; omega⟩
        exact this.symm
      · refine hk _ _ ⟨m + 1, rfl, by omega, ?_, rfl⟩ (by dsimp only; omega)
        rw [List.take_succ_eq_append_getElem hc, okA, List.all_append]
        have h2 : decide (0 ≤ l[m] ∧ l[m] ≤ 1099511627776) = true := by simpa using hd
        simp only [List.all_cons, List.all_nil, h2, Bool.and_true]
        exact hall
    · intro k3 hk3
      rw [SplitB_iff]
      refine ⟨fun hd => ?_, fun hd => ?_⟩
      · have hd : l[m] < 0 := of_decide_eq_true hd
        refine hk3 _ _ ⟨?_, rfl⟩
        dsimp only
        rw [decide_eq_false (by omega)]; rfl
      · have hd : ¬ l[m] < 0 := of_decide_eq_false hd
        refine hk3 _ _ ⟨?_, rfl⟩
        dsimp only
        by_cases h2 : l[m] > 1099511627776
        · rw [decide_eq_true h2, decide_eq_false (by omega)]; rfl
        · rw [decide_eq_false h2, decide_eq_true (by omega)]; rfl
  · have hc : m = l.length := by have : ¬ (m : Int) < (s.len : Int) := of_decide_eq_false hc; omega
    subst hc
    rw [List.take_length] at hall
    exact ⟨hall.symm, rfl⟩
/-! ### acts -/
theorem put_st {e : Em} {q : List A6} (h : St w0 w (emE e q :: F)) (hw : e.wf) (hq : q.length < 4) (a : A6) : CallK Try.prog (.tup .nilT) 46 #[.pointer e.p, aco a] w fun (v : Unit) w' => St w0 w' (emE { e with cs := e.cs + 1 } (q ++ [a]) :: F) := by
  refine T46.calls (p1 := act a) ?_
  unfold T46
  refine h.newB run_boxA rfl ?_
  intro bn w h
  have h := h.ord 2 [1, 0]
  dsimp only [pick, nthO, dropO] at h
  refine NilP.mk ?_
  refine h.loadB 0 0 ⟨_, rfl, rfl⟩ rfl (kd := .chan) (x := some e.ch) (ch_at hw) ?_
  refine h.load6 1 0 ⟨_, rfl, rfl⟩ rfl ?_
  refine h.send 0 1 ⟨_, rfl, rfl⟩ (by simpa using hq) (zero70 _) ?_
  intro w2 h
  have h : St w0 w2 (emE { e with cs := e.cs + 1 } (q ++ [a]) :: F) := by
    have h := h.drop 1
    dsimp only [updG, setO, delO, emE] at h
    rw [emE, List.map_append]
    exact h
  rw [SplitB_iff]
  exact ⟨fun _ => h, fun _ => h⟩
theorem bs66 (w : World) (a : A6) : (Instr.buildSlice 66 1 #[(0, aco a)]).run Try.prog w = .ok (.slice (some ⟨w.heap.size, 0, none⟩) 1 1) (w.alloc (.cells ⟨acv a⟩ 70)) := by kernel_rfl
theorem taken_st {e : Em} {q : List A6} (h : St w0 w (emE e q :: F)) (hw : e.wf) (hq : q.length ≤ 4) : CallK Try.prog .sl 47 #[.pointer e.p] w
    fun (s : Sl) w' => s.len = q.length ∧ St w0 w' ([.row 70 6 s (acs q)] :: emE { e with cr := e.cr + q.length } [] :: F) := by
  refine T47.calls ?_
  unfold T47
  have h := h.nilrow 70 6
  refine LoopX.mk (fun st w' => ∃ (s : Sl) (m : Nat), st = (s, ()) ∧ m ≤ q.length ∧ s.len = m ∧ St w0 w' ([.row 70 6 s (acs (q.take m))] :: emE { e with cr := e.cr + m } (q.drop m) :: F)) (fun st => q.length - st.1.len) ⟨_, 0, rfl, Nat.zero_le _, rfl, h⟩ ?_
  clear h
  rintro _ w1 ⟨s, m, rfl, hm, hs, h⟩ k hk
  dsimp only at hk ⊢
  have hw1 : ({ e with cr := e.cr + m } : Em).wf := hw
  refine NilP.mk ?_
  refine h.loadB 1 0 ⟨_, rfl, rfl⟩ rfl (kd := .chan) (x := some e.ch) (ch_at hw1) ?_
  by_cases hc : m < q.length
  · rw [List.drop_eq_getElem_cons hc] at h
    refine h.recv 1 1 (kd := Kd6) (x := act q[m]) ⟨_, rfl, rfl⟩ (zero70 _) ?_
    intro w2 h
    rw [SplitB_iff]
    refine ⟨fun _ => ?_, fun hf => (by cases hf)⟩
    refine h.newB (NewC.run _) rfl ?_
    intro b w3 h
    refine h.storA 0 0 ⟨_, rfl, rfl⟩ (t' := 70) (n := 6) (j := 0) rfl (ds := acv q[m]) rfl rfl rfl ?_
    intro w4 h
    refine RunN.of (kd := Kd6) (x := act q[m]) (h.run_loadA (k := 0) (i := 0) (b := b) (t := 70) (cs := acv q[m]) ⟨_, rfl, rfl⟩ (t' := 70) (n := 6) (j := 0) rfl (vs := acv q[m]) rfl rfl) ?_
    refine h.newS 6 (bs66 _ q[m]) rfl rfl rfl ?_
    intro u w5 hu1 hu2 _ h
    refine h.app 2 0 ⟨_, rfl, rfl⟩ (h.rd (k := 0) (i := 0) ⟨_, rfl, rfl⟩) (acv_one _) (by simp only [maxLen]; omega) (by omega) ?_
    intro s' w6 hl h
    have h := (h.drop 0).drop 0
    refine hk _ _ ⟨s', m + 1, rfl, by omega, by omega, ?_⟩ (by dsimp only; omega)
    rw [List.take_succ_eq_append_getElem hc, acs, List.flatMap_append]
    have e2 : [q[m]].flatMap acv = acv q[m] := by simp
    rw [e2]
    exact h
  · have hc : m = q.length := by omega
    subst hc
    rw [List.drop_length] at h
    refine h.recvNo 1 1 ⟨_, rfl, rfl⟩ (zero70 _) ?_
    rw [SplitB_iff]
    refine ⟨fun hf => (by cases hf), fun _ => ?_⟩
    rw [List.take_length] at h
    exact ⟨hs, h⟩
end Go.Proofs.Ytmfbmfppjdkeeaa
