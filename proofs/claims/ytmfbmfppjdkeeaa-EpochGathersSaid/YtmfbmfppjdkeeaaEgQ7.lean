/- Words and steps, part 7: The document's machine of epochs: what changes it. The document's machine of epochs: its calls. The plain law: the epoch's machine and the document's tell the same. Structs of six numbers compared; slices of one mark that share memory. What was answered is kept: in memory. -/
import Derived.Test.YtmfbmfppjdkeeaaEgQ6
/- The document's machine of epochs: what changes it. -/
namespace Go.Proofs.Ytmfbmfppjdkeeaa
open Go Go.Fw Go.RowKit
set_option linter.unusedVariables false
set_option linter.unusedSimpArgs false
set_option maxRecDepth 4000
set_option maxHeartbeats 2000000
variable {w0 w : World} {F G : Grps}

/-! ### an epoch more in a list -/
theorem appKnown {r : Rm} (h : St w0 w (rmE r :: F)) (hl : r.known.length ≤ 1000000000) (k : Nat) {b : Nat} {x y : Int} (he : Has (rmE r :: F) k 0 (.cel b 54 [.int .i64 x, .int .i64 y])) {K : World → Prop}
    (hk : ∀ q' w', St w0 w' (rmE { r with known := r.known ++ [(x, y)], kq := q' } :: F) → K w') :
    NilP r.p fun t50 =>
      ReadN Try.prog .sl (V (Instr.loadAt 78 (.pointer (some (t50.add 2))))) w.drew fun t52 =>
      ReadN Try.prog (.agg (.cons (.int .i64) (.cons (.int .i64) .nilT))) (V (Instr.loadAt 54 (.pointer (some ⟨b, 0, none⟩)))) w.drew fun t53 =>
      RunN Try.prog .sl (V (Instr.buildSlice 78 1 #[(0, .agg #[.int .i64 t53.1, .int .i64 t53.2.1])])) w.drew fun t54 w =>
      StillV Try.prog (V (Instr.loadAt 78 (.pointer (some (t50.add 2))))) (.slice t52.a t52.len t52.cap) w ∧
      RunN Try.prog .sl (V (Builtin.append_ #[78, 78] 78 #[.slice t52.a t52.len t52.cap, .slice t54.a t54.len t54.cap])) w fun t55 w =>
      NilP r.p fun t56 =>
      RunU Try.prog (U (Instr.storeAt 78 (.pointer (some (t56.add 2))) (.slice t55.a t55.len t55.cap))) w K := by
  have hql : r.kq.len = r.known.length := by have := (h.rd (k := 0) (i := 1) (E := 54) (sz := 2) (s := r.kq) (vs := eps r.known) ⟨_, rfl, rfl⟩).1; rw [flat_len epv_len] at this; omega
  refine NilP.mk ?_
  refine h.drew.readB 0 0 ⟨_, rfl, rfl⟩ rfl (kd := .sl) (x := r.kq) rfl ?_
  refine h.drew.read2 k 0 he rfl ?_
  refine h.drew.newS 2 (bs78 _ _ _) rfl rfl rfl ?_
  intro u w1 hu1 hu2 _ h
  refine ⟨h.stillB 1 0 ⟨_, rfl, rfl⟩ rfl rfl, ?_⟩
  refine h.app 1 1 ⟨_, rfl, rfl⟩ (h.rd (k := 0) (i := 0) ⟨_, rfl, rfl⟩) (fun v hv => ?_) (by simp only [maxLen]; omega) (by omega) ?_
  · simp at hv; rcases hv with rfl | rfl <;> rfl
  intro s' w2 hl' h
  have h := h.drop 0
  refine NilP.mk ?_
  refine h.storB 0 0 (j := 2) ⟨_, rfl, rfl⟩ rfl rfl rfl ?_
  intro w3 h
  refine hk s' w3 ?_
  have e : eps (r.known ++ [(x, y)]) = eps r.known ++ [.int .i64 x, .int .i64 y] := by rw [eps, List.flatMap_append]; rfl
  rw [rmE, show ({ r with known := r.known ++ [(x, y)], kq := s' } : Rm).known = r.known ++ [(x, y)] from rfl, e]
  exact h
theorem appOver {r : Rm} (h : St w0 w (rmE r :: F)) (hl : r.over.length ≤ 1000000000) (k : Nat) {b : Nat} {x y : Int} (he : Has (rmE r :: F) k 0 (.cel b 54 [.int .i64 x, .int .i64 y])) {K : World → Prop}
    (hk : ∀ q' w', St w0 w' (rmE { r with over := r.over ++ [(x, y)], oq := q' } :: F) → K w') :
    NilP r.p fun t50 =>
      ReadN Try.prog .sl (V (Instr.loadAt 78 (.pointer (some (t50.add 3))))) w.drew fun t52 =>
      ReadN Try.prog (.agg (.cons (.int .i64) (.cons (.int .i64) .nilT))) (V (Instr.loadAt 54 (.pointer (some ⟨b, 0, none⟩)))) w.drew fun t53 =>
      RunN Try.prog .sl (V (Instr.buildSlice 78 1 #[(0, .agg #[.int .i64 t53.1, .int .i64 t53.2.1])])) w.drew fun t54 w =>
      StillV Try.prog (V (Instr.loadAt 78 (.pointer (some (t50.add 3))))) (.slice t52.a t52.len t52.cap) w ∧
      RunN Try.prog .sl (V (Builtin.append_ #[78, 78] 78 #[.slice t52.a t52.len t52.cap, .slice t54.a t54.len t54.cap])) w fun t55 w =>
      NilP r.p fun t56 =>
      RunU Try.prog (U (Instr.storeAt 78 (.pointer (some (t56.add 3))) (.slice t55.a t55.len t55.cap))) w K := by
  have hql : r.oq.len = r.over.length := by have := (h.rd (k := 0) (i := 2) (E := 54) (sz := 2) (s := r.oq) (vs := eps r.over) ⟨_, rfl, rfl⟩).1; rw [flat_len epv_len] at this; omega
  refine NilP.mk ?_
  refine h.drew.readB 0 0 ⟨_, rfl, rfl⟩ rfl (kd := .sl) (x := r.oq) rfl ?_
  refine h.drew.read2 k 0 he rfl ?_
  refine h.drew.newS 2 (bs78 _ _ _) rfl rfl rfl ?_
  intro u w1 hu1 hu2 _ h
  refine ⟨h.stillB 1 0 ⟨_, rfl, rfl⟩ rfl rfl, ?_⟩
  refine h.app 1 2 ⟨_, rfl, rfl⟩ (h.rd (k := 0) (i := 0) ⟨_, rfl, rfl⟩) (fun v hv => ?_) (by simp only [maxLen]; omega) (by omega) ?_
  · simp at hv; rcases hv with rfl | rfl <;> rfl
  intro s' w2 hl' h
  have h := h.drop 0
  refine NilP.mk ?_
  refine h.storB 0 0 (j := 3) ⟨_, rfl, rfl⟩ rfl rfl rfl ?_
  intro w3 h
  refine hk s' w3 ?_
  have e : eps (r.over ++ [(x, y)]) = eps r.over ++ [.int .i64 x, .int .i64 y] := by rw [eps, List.flatMap_append]; rfl
  rw [rmE, show ({ r with over := r.over ++ [(x, y)], oq := s' } : Rm).over = r.over ++ [(x, y)] from rfl, e]
  exact h
/-! ### small ones -/
theorem right_st (a b c : Int) : CallK Try.prog .bool 58 #[.int .i64 a, .int .i64 b, .int .i64 c] w fun (v : Bool) w' => v = (okA [a, b, c] && decide (a ≠ 0)) ∧ w' = w := by
  refine T58.calls ?_
  unfold T58
  rw [okA_three]
  rw [SplitB_iff]
  refine ⟨fun h1 => ?_, fun h1 => ?_⟩
  · have h1 := of_decide_eq_true h1
    rw [SplitB_iff]
    refine ⟨fun h2 => ?_, fun h2 => ?_⟩
    · have h2 := of_decide_eq_true h2
      rw [SplitB_iff]
      refine ⟨fun h3 => ?_, fun h3 => ?_⟩
      · have h3 := of_decide_eq_true h3
        rw [SplitB_iff]
        refine ⟨fun h4 => ?_, fun h4 => ?_⟩
        · have h4 := of_decide_eq_true h4
          rw [SplitB_iff]
          refine ⟨fun h5 => ?_, fun h5 => ?_⟩
          · have h5 := of_decide_eq_true h5
            refine ⟨?_, rfl⟩
            by_cases h6 : c ≤ 1099511627776
            · rw [decide_eq_true h6, decide_eq_true ⟨⟨by omega, h2⟩, ⟨h3, h4⟩, h5, h6⟩, decide_eq_true (by omega)]; rfl
            · rw [decide_eq_false h6, decide_eq_false (fun hh => h6 hh.2.2.2)]; rfl
          · have h5 := of_decide_eq_false h5
            exact ⟨by rw [decide_eq_false (fun hh => h5 hh.2.2.1)]; rfl, rfl⟩
        · have h4 := of_decide_eq_false h4
          exact ⟨by rw [decide_eq_false (fun hh => h4 hh.2.1.2)]; rfl, rfl⟩
      · have h3 := of_decide_eq_false h3
        exact ⟨by rw [decide_eq_false (fun hh => h3 hh.2.1.1)]; rfl, rfl⟩
    · have h2 := of_decide_eq_false h2
      exact ⟨by rw [decide_eq_false (fun hh => h2 hh.1.2)]; rfl, rfl⟩
  · have h1 := of_decide_eq_false h1
    refine ⟨?_, rfl⟩
    by_cases h2 : a = 0
    · rw [h2]; simp
    · rw [decide_eq_false (fun hh => by have := hh.1.1; omega)]; rfl
def Rn.one (r : Rn) (x : Ep) : Prop := 1 ≤ x.1 ∧ x.1 ≤ 1099511627776 ∧ 0 ≤ x.2 ∧ x.2 < (r.n : Int)
instance (r : Rn) (x : Ep) : Decidable (r.one x) := by unfold Rn.one; exact inferInstance
theorem one_st {r : Rm} (h : St w0 w (rmE r :: F)) (x : Ep) : CallK Try.prog .bool 66 #[.pointer r.p, .agg #[.int .i64 x.1, .int .i64 x.2]] w fun (v : Bool) w' => v = decide (r.one x) ∧ St w0 w' (rmE r :: F) := by
  refine T66.calls (p1 := (x.1, x.2, ())) ?_
  unfold T66
  first | refine h.newB run_boxA rfl ?_ | refine h.drew.newB run_boxA rfl ?_
  intro b3 w h
  have h := h.ord 2 [1, 0]
  dsimp only [pick, nthO, dropO] at h
  repeat (first | (with_reducible refine NilP.mk ?_) | ((with_reducible refine RunN.isLoad ?_); (first | refine h.load2 0 0 ⟨_, rfl, rfl⟩ rfl ?_ | refine h.loadB 0 0 ⟨_, rfl, rfl⟩ rfl rfl ?_ | refine h.load2 1 0 ⟨_, rfl, rfl⟩ rfl ?_ | refine h.loadB 1 0 ⟨_, rfl, rfl⟩ rfl rfl ?_ | refine h.drew.load2 0 0 ⟨_, rfl, rfl⟩ rfl ?_ | refine h.drew.loadB 0 0 ⟨_, rfl, rfl⟩ rfl rfl ?_ | refine h.drew.load2 1 0 ⟨_, rfl, rfl⟩ rfl ?_ | refine h.drew.loadB 1 0 ⟨_, rfl, rfl⟩ rfl rfl ?_)) | ((with_reducible refine ReadN.isLoad ?_); (first | refine h.read2 0 0 ⟨_, rfl, rfl⟩ rfl ?_ | refine h.readB 0 0 ⟨_, rfl, rfl⟩ rfl rfl ?_ | refine h.read2 1 0 ⟨_, rfl, rfl⟩ rfl ?_ | refine h.readB 1 0 ⟨_, rfl, rfl⟩ rfl rfl ?_ | refine h.drew.read2 0 0 ⟨_, rfl, rfl⟩ rfl ?_ | refine h.drew.readB 0 0 ⟨_, rfl, rfl⟩ rfl rfl ?_ | refine h.drew.read2 1 0 ⟨_, rfl, rfl⟩ rfl ?_ | refine h.drew.readB 1 0 ⟨_, rfl, rfl⟩ rfl rfl ?_)) | ((with_reducible refine StillV.isLoad ?_); (first | refine ⟨h.stillB 0 0 ⟨_, rfl, rfl⟩ rfl rfl, ?_⟩ | refine ⟨h.still2 0 0 ⟨_, rfl, rfl⟩ rfl, ?_⟩ | refine ⟨h.stillB 1 0 ⟨_, rfl, rfl⟩ rfl rfl, ?_⟩ | refine ⟨h.still2 1 0 ⟨_, rfl, rfl⟩ rfl, ?_⟩)) | ((with_reducible refine RunU.isStor ?_); (first | (refine h.stor2 0 0 ⟨_, rfl, rfl⟩ rfl ?_; intro w h; dsimp only [updG, setO] at h) | (refine h.storB 0 0 ⟨_, rfl, rfl⟩ rfl rfl rfl ?_; intro w h; dsimp only [updG, setO] at h) | (refine h.stor2 1 0 ⟨_, rfl, rfl⟩ rfl ?_; intro w h; dsimp only [updG, setO] at h) | (refine h.storB 1 0 ⟨_, rfl, rfl⟩ rfl rfl rfl ?_; intro w h; dsimp only [updG, setO] at h) | (refine h.drew.stor2 0 0 ⟨_, rfl, rfl⟩ rfl ?_; intro w h; dsimp only [updG, setO] at h) | (refine h.drew.storB 0 0 ⟨_, rfl, rfl⟩ rfl rfl rfl ?_; intro w h; dsimp only [updG, setO] at h) | (refine h.drew.stor2 1 0 ⟨_, rfl, rfl⟩ rfl ?_; intro w h; dsimp only [updG, setO] at h) | (refine h.drew.storB 1 0 ⟨_, rfl, rfl⟩ rfl rfl rfl ?_; intro w h; dsimp only [updG, setO] at h))) | ((with_reducible refine RunN.isBox ?_); (first | (refine h.newB run_boxA rfl ?_; intro bn w h; try dsimp only at h; have h := h.ord 2 [1, 0]; dsimp only [pick, nthO, dropO] at h) | (refine h.drew.newB run_boxA rfl ?_; intro bn w h; try dsimp only at h; have h := h.ord 2 [1, 0]; dsimp only [pick, nthO, dropO] at h))) | ((with_reducible refine RunN.isNew ?_); (first | (refine h.newB (NewC.run _) rfl ?_; intro bn w h; have h := h.ord 2 [1, 0]; dsimp only [pick, nthO, dropO] at h) | (refine h.drew.newB (NewC.run _) rfl ?_; intro bn w h; have h := h.ord 2 [1, 0]; dsimp only [pick, nthO, dropO] at h))) | (refine RunN.k2Eq ?_) | (refine RunN.k2Ne ?_) | (refine ReadN.k2Eq ?_) | (refine ReadN.k2Ne ?_))
  rw [SplitB_iff]
  refine ⟨fun h1 => ?_, fun h1 => ?_⟩
  · have h1 := of_decide_eq_true h1
    repeat (first | (with_reducible refine NilP.mk ?_) | ((with_reducible refine RunN.isLoad ?_); (first | refine h.load2 0 0 ⟨_, rfl, rfl⟩ rfl ?_ | refine h.loadB 0 0 ⟨_, rfl, rfl⟩ rfl rfl ?_ | refine h.load2 1 0 ⟨_, rfl, rfl⟩ rfl ?_ | refine h.loadB 1 0 ⟨_, rfl, rfl⟩ rfl rfl ?_ | refine h.drew.load2 0 0 ⟨_, rfl, rfl⟩ rfl ?_ | refine h.drew.loadB 0 0 ⟨_, rfl, rfl⟩ rfl rfl ?_ | refine h.drew.load2 1 0 ⟨_, rfl, rfl⟩ rfl ?_ | refine h.drew.loadB 1 0 ⟨_, rfl, rfl⟩ rfl rfl ?_)) | ((with_reducible refine ReadN.isLoad ?_); (first | refine h.read2 0 0 ⟨_, rfl, rfl⟩ rfl ?_ | refine h.readB 0 0 ⟨_, rfl, rfl⟩ rfl rfl ?_ | refine h.read2 1 0 ⟨_, rfl, rfl⟩ rfl ?_ | refine h.readB 1 0 ⟨_, rfl, rfl⟩ rfl rfl ?_ | refine h.drew.read2 0 0 ⟨_, rfl, rfl⟩ rfl ?_ | refine h.drew.readB 0 0 ⟨_, rfl, rfl⟩ rfl rfl ?_ | refine h.drew.read2 1 0 ⟨_, rfl, rfl⟩ rfl ?_ | refine h.drew.readB 1 0 ⟨_, rfl, rfl⟩ rfl rfl ?_)) | ((with_reducible refine StillV.isLoad ?_); (first | refine ⟨h.stillB 0 0 ⟨_, rfl, rfl⟩ rfl rfl, ?_⟩ | refine ⟨h.still2 0 0 ⟨_, rfl, rfl⟩ rfl, ?_⟩ | refine ⟨h.stillB 1 0 ⟨_, rfl, rfl⟩ rfl rfl, ?_⟩ | refine ⟨h.still2 1 0 ⟨_, rfl, rfl⟩ rfl, ?_⟩)) | ((with_reducible refine RunU.isStor ?_); (first | (refine h.stor2 0 0 ⟨_, rfl, rfl⟩ rfl ?_; intro w h; dsimp only [updG, setO] at h) | (refine h.storB 0 0 ⟨_, rfl, rfl⟩ rfl rfl rfl ?_; intro w h; dsimp only [updG, setO] at h) | (refine h.stor2 1 0 ⟨_, rfl, rfl⟩ rfl ?_; intro w h; dsimp only [updG, setO] at h) | (refine h.storB 1 0 ⟨_, rfl, rfl⟩ rfl rfl rfl ?_; intro w h; dsimp only [updG, setO] at h) | (refine h.drew.stor2 0 0 ⟨_, rfl, rfl⟩ rfl ?_; intro w h; dsimp only [updG, setO] at h) | (refine h.drew.storB 0 0 ⟨_, rfl, rfl⟩ rfl rfl rfl ?_; intro w h; dsimp only [updG, setO] at h) | (refine h.drew.stor2 1 0 ⟨_, rfl, rfl⟩ rfl ?_; intro w h; dsimp only [updG, setO] at h) | (refine h.drew.storB 1 0 ⟨_, rfl, rfl⟩ rfl rfl rfl ?_; intro w h; dsimp only [updG, setO] at h))) | ((with_reducible refine RunN.isBox ?_); (first | (refine h.newB run_boxA rfl ?_; intro bn w h; try dsimp only at h; have h := h.ord 2 [1, 0]; dsimp only [pick, nthO, dropO] at h) | (refine h.drew.newB run_boxA rfl ?_; intro bn w h; try dsimp only at h; have h := h.ord 2 [1, 0]; dsimp only [pick, nthO, dropO] at h))) | ((with_reducible refine RunN.isNew ?_); (first | (refine h.newB (NewC.run _) rfl ?_; intro bn w h; have h := h.ord 2 [1, 0]; dsimp only [pick, nthO, dropO] at h) | (refine h.drew.newB (NewC.run _) rfl ?_; intro bn w h; have h := h.ord 2 [1, 0]; dsimp only [pick, nthO, dropO] at h))) | (refine RunN.k2Eq ?_) | (refine RunN.k2Ne ?_) | (refine ReadN.k2Eq ?_) | (refine ReadN.k2Ne ?_))
    rw [SplitB_iff]
    refine ⟨fun h2 => ?_, fun h2 => ?_⟩
    · have h2 := of_decide_eq_true h2
      repeat (first | (with_reducible refine NilP.mk ?_) | ((with_reducible refine RunN.isLoad ?_); (first | refine h.load2 0 0 ⟨_, rfl, rfl⟩ rfl ?_ | refine h.loadB 0 0 ⟨_, rfl, rfl⟩ rfl rfl ?_ | refine h.load2 1 0 ⟨_, rfl, rfl⟩ rfl ?_ | refine h.loadB 1 0 ⟨_, rfl, rfl⟩ rfl rfl ?_ | refine h.drew.load2 0 0 ⟨_, rfl, rfl⟩ rfl ?_ | refine h.drew.loadB 0 0 ⟨_, rfl, rfl⟩ rfl rfl ?_ | refine h.drew.load2 1 0 ⟨_, rfl, rfl⟩ rfl ?_ | refine h.drew.loadB 1 0 ⟨_, rfl, rfl⟩ rfl rfl ?_)) | ((with_reducible refine ReadN.isLoad ?_); (first | refine h.read2 0 0 ⟨_, rfl, rfl⟩ rfl ?_ | refine h.readB 0 0 ⟨_, rfl, rfl⟩ rfl rfl ?_ | refine h.read2 1 0 ⟨_, rfl, rfl⟩ rfl ?_ | refine h.readB 1 0 ⟨_, rfl, rfl⟩ rfl rfl ?_ | refine h.drew.read2 0 0 ⟨_, rfl, rfl⟩ rfl ?_ | refine h.drew.readB 0 0 ⟨_, rfl, rfl⟩ rfl rfl ?_ | refine h.drew.read2 1 0 ⟨_, rfl, rfl⟩ rfl ?_ | refine h.drew.readB 1 0 ⟨_, rfl, rfl⟩ rfl rfl ?_)) | ((with_reducible refine StillV.isLoad ?_); (first | refine ⟨h.stillB 0 0 ⟨_, rfl, rfl⟩ rfl rfl, ?_⟩ | refine ⟨h.still2 0 0 ⟨_, rfl, rfl⟩ rfl, ?_⟩ | refine ⟨h.stillB 1 0 ⟨_, rfl, rfl⟩ rfl rfl, ?_⟩ | refine ⟨h.still2 1 0 ⟨_, rfl, rfl⟩ rfl, ?_⟩)) | ((with_reducible refine RunU.isStor ?_); (first | (refine h.stor2 0 0 ⟨_, rfl, rfl⟩ rfl ?_; intro w h; dsimp only [updG, setO] at h) | (refine h.storB 0 0 ⟨_, rfl, rfl⟩ rfl rfl rfl ?_; intro w h; dsimp only [updG, setO] at h) | (refine h.stor2 1 0 ⟨_, rfl, rfl⟩ rfl ?_; intro w h; dsimp only [updG, setO] at h) | (refine h.storB 1 0 ⟨_, rfl, rfl⟩ rfl rfl rfl ?_; intro w h; dsimp only [updG, setO] at h) | (refine h.drew.stor2 0 0 ⟨_, rfl, rfl⟩ rfl ?_; intro w h; dsimp only [updG, setO] at h) | (refine h.drew.storB 0 0 ⟨_, rfl, rfl⟩ rfl rfl rfl ?_; intro w h; dsimp only [updG, setO] at h) | (refine h.drew.stor2 1 0 ⟨_, rfl, rfl⟩ rfl ?_; intro w h; dsimp only [updG, setO] at h) | (refine h.drew.storB 1 0 ⟨_, rfl, rfl⟩ rfl rfl rfl ?_; intro w h; dsimp only [updG, setO] at h))) | ((with_reducible refine RunN.isBox ?_); (first | (refine h.newB run_boxA rfl ?_; intro bn w h; try dsimp only at h; have h := h.ord 2 [1, 0]; dsimp only [pick, nthO, dropO] at h) | (refine h.drew.newB run_boxA rfl ?_; intro bn w h; try dsimp only at h; have h := h.ord 2 [1, 0]; dsimp only [pick, nthO, dropO] at h))) | ((with_reducible refine RunN.isNew ?_); (first | (refine h.newB (NewC.run _) rfl ?_; intro bn w h; have h := h.ord 2 [1, 0]; dsimp only [pick, nthO, dropO] at h) | (refine h.drew.newB (NewC.run _) rfl ?_; intro bn w h; have h := h.ord 2 [1, 0]; dsimp only [pick, nthO, dropO] at h))) | (refine RunN.k2Eq ?_) | (refine RunN.k2Ne ?_) | (refine ReadN.k2Eq ?_) | (refine ReadN.k2Ne ?_))
      rw [SplitB_iff]
      refine ⟨fun h3 => ?_, fun h3 => ?_⟩
      · have h3 := of_decide_eq_true h3
        repeat (first | (with_reducible refine NilP.mk ?_) | ((with_reducible refine RunN.isLoad ?_); (first | refine h.load2 0 0 ⟨_, rfl, rfl⟩ rfl ?_ | refine h.loadB 0 0 ⟨_, rfl, rfl⟩ rfl rfl ?_ | refine h.load2 1 0 ⟨_, rfl, rfl⟩ rfl ?_ | refine h.loadB 1 0 ⟨_, rfl, rfl⟩ rfl rfl ?_ | refine h.drew.load2 0 0 ⟨_, rfl, rfl⟩ rfl ?_ | refine h.drew.loadB 0 0 ⟨_, rfl, rfl⟩ rfl rfl ?_ | refine h.drew.load2 1 0 ⟨_, rfl, rfl⟩ rfl ?_ | refine h.drew.loadB 1 0 ⟨_, rfl, rfl⟩ rfl rfl ?_)) | ((with_reducible refine ReadN.isLoad ?_); (first | refine h.read2 0 0 ⟨_, rfl, rfl⟩ rfl ?_ | refine h.readB 0 0 ⟨_, rfl, rfl⟩ rfl rfl ?_ | refine h.read2 1 0 ⟨_, rfl, rfl⟩ rfl ?_ | refine h.readB 1 0 ⟨_, rfl, rfl⟩ rfl rfl ?_ | refine h.drew.read2 0 0 ⟨_, rfl, rfl⟩ rfl ?_ | refine h.drew.readB 0 0 ⟨_, rfl, rfl⟩ rfl rfl ?_ | refine h.drew.read2 1 0 ⟨_, rfl, rfl⟩ rfl ?_ | refine h.drew.readB 1 0 ⟨_, rfl, rfl⟩ rfl rfl ?_)) | ((with_reducible refine StillV.isLoad ?_); (first | refine ⟨h.stillB 0 0 ⟨_, rfl, rfl⟩ rfl rfl, ?_⟩ | refine ⟨h.still2 0 0 ⟨_, rfl, rfl⟩ rfl, ?_⟩ | refine ⟨h.stillB 1 0 ⟨_, rfl, rfl⟩ rfl rfl, ?_⟩ | refine ⟨h.still2 1 0 ⟨_, rfl, rfl⟩ rfl, ?_⟩)) | ((with_reducible refine RunU.isStor ?_); (first | (refine h.stor2 0 0 ⟨_, rfl, rfl⟩ rfl ?_; intro w h; dsimp only [updG, setO] at h) | (refine h.storB 0 0 ⟨_, rfl, rfl⟩ rfl rfl rfl ?_; intro w h; dsimp only [updG, setO] at h) | (refine h.stor2 1 0 ⟨_, rfl, rfl⟩ rfl ?_; intro w h; dsimp only [updG, setO] at h) | (refine h.storB 1 0 ⟨_, rfl, rfl⟩ rfl rfl rfl ?_; intro w h; dsimp only [updG, setO] at h) | (refine h.drew.stor2 0 0 ⟨_, rfl, rfl⟩ rfl ?_; intro w h; dsimp only [updG, setO] at h) | (refine h.drew.storB 0 0 ⟨_, rfl, rfl⟩ rfl rfl rfl ?_; intro w h; dsimp only [updG, setO] at h) | (refine h.drew.stor2 1 0 ⟨_, rfl, rfl⟩ rfl ?_; intro w h; dsimp only [updG, setO] at h) | (refine h.drew.storB 1 0 ⟨_, rfl, rfl⟩ rfl rfl rfl ?_; intro w h; dsimp only [updG, setO] at h))) | ((with_reducible refine RunN.isBox ?_); (first | (refine h.newB run_boxA rfl ?_; intro bn w h; try dsimp only at h; have h := h.ord 2 [1, 0]; dsimp only [pick, nthO, dropO] at h) | (refine h.drew.newB run_boxA rfl ?_; intro bn w h; try dsimp only at h; have h := h.ord 2 [1, 0]; dsimp only [pick, nthO, dropO] at h))) | ((with_reducible refine RunN.isNew ?_); (first | (refine h.newB (NewC.run _) rfl ?_; intro bn w h; have h := h.ord 2 [1, 0]; dsimp only [pick, nthO, dropO] at h) | (refine h.drew.newB (NewC.run _) rfl ?_; intro bn w h; have h := h.ord 2 [1, 0]; dsimp only [pick, nthO, dropO] at h))) | (refine RunN.k2Eq ?_) | (refine RunN.k2Ne ?_) | (refine ReadN.k2Eq ?_) | (refine ReadN.k2Ne ?_))
        refine ⟨?_, h.drew.drop 1⟩
        by_cases h4 : x.2 < (r.n : Int)
        · rw [decide_eq_true h4, decide_eq_true ⟨h1, h2, h3, h4⟩]
        · rw [decide_eq_false h4, decide_eq_false fun hh => h4 hh.2.2.2]
      · have h3 := of_decide_eq_false h3
        exact ⟨(decide_eq_false fun hh => h3 hh.2.2.1).symm, h.drew.drop 1⟩
    · have h2 := of_decide_eq_false h2
      exact ⟨(decide_eq_false fun hh => h2 hh.2.1).symm, h.drew.drop 1⟩
  · have h1 := of_decide_eq_false h1
    exact ⟨(decide_eq_false fun hh => h1 hh.1).symm, h.drew.drop 1⟩
def Rn.told (r : Rn) (x : Ep) : Rn := if r.one x ∧ x.2 ≠ (r.me : Int) then { r with known := r.known ++ [x] } else r
theorem rwf_told {r : Rn} {N : Nat} (h : r.wf N) (x : Ep) : (r.told x).wf (N + 1) := by
  rw [Rn.told]
  split
  · exact ⟨h.n, h.me, by simp; have := h.kl; omega, by have := h.ol; dsimp only; omega, by have := h.nl; dsimp only; omega, h.nb⟩
  · exact h.mono (Nat.le_succ _)
theorem rtold_st {r : Rm} {N : Nat} (h : St w0 w (rmE r :: F)) (hw : r.wf N) (hN : N ≤ 1000000000) (x : Ep) : CallK Try.prog (.tup .nilT) 64 #[.pointer r.p, .agg #[.int .i64 x.1, .int .i64 x.2]] w
    fun (_ : Unit) w' => ∃ r' : Rm, r'.cb = r.cb ∧ r'.toRn = r.told x ∧ St w0 w' (rmE r' :: F) := by
  refine T64.calls (p1 := (x.1, x.2, ())) ?_
  unfold T64
  have hkl := hw.kl
  first | refine h.newB run_boxA rfl ?_ | refine h.drew.newB run_boxA rfl ?_
  intro b3 w h
  have h := h.ord 2 [1, 0]
  dsimp only [pick, nthO, dropO] at h
  refine JoinX.mk (fun (y : Bool × Unit) w' => y.1 = decide (r.one x ∧ x.2 ≠ (r.me : Int)) ∧ St w0 w' (rmE r :: [.cel b3 54 [.int .i64 x.1, .int .i64 x.2]] :: F)) ?_ ?_
  · rintro ⟨y, ⟨⟩⟩ w1 ⟨hy, h⟩
    dsimp only at hy
    subst hy
    rw [SplitB_iff]
    refine ⟨fun hc => ?_, fun hc => ?_⟩
    · have hc := of_decide_eq_true hc
      refine appKnown h (by omega) 1 ⟨_, rfl, rfl⟩ ?_
      intro q' w2 h
      exact ⟨{ r with known := r.known ++ [(x.1, x.2)], kq := q' }, rfl, by rw [Rn.told, if_pos hc], h.drop 1⟩
    · have hc := of_decide_eq_false hc
      exact ⟨r, rfl, by rw [Rn.told, if_neg hc], h.drop 1⟩
  · intro k hk
    repeat (first | (with_reducible refine NilP.mk ?_) | ((with_reducible refine RunN.isLoad ?_); (first | refine h.load2 0 0 ⟨_, rfl, rfl⟩ rfl ?_ | refine h.loadB 0 0 ⟨_, rfl, rfl⟩ rfl rfl ?_ | refine h.load2 1 0 ⟨_, rfl, rfl⟩ rfl ?_ | refine h.loadB 1 0 ⟨_, rfl, rfl⟩ rfl rfl ?_ | refine h.drew.load2 0 0 ⟨_, rfl, rfl⟩ rfl ?_ | refine h.drew.loadB 0 0 ⟨_, rfl, rfl⟩ rfl rfl ?_ | refine h.drew.load2 1 0 ⟨_, rfl, rfl⟩ rfl ?_ | refine h.drew.loadB 1 0 ⟨_, rfl, rfl⟩ rfl rfl ?_)) | ((with_reducible refine ReadN.isLoad ?_); (first | refine h.read2 0 0 ⟨_, rfl, rfl⟩ rfl ?_ | refine h.readB 0 0 ⟨_, rfl, rfl⟩ rfl rfl ?_ | refine h.read2 1 0 ⟨_, rfl, rfl⟩ rfl ?_ | refine h.readB 1 0 ⟨_, rfl, rfl⟩ rfl rfl ?_ | refine h.drew.read2 0 0 ⟨_, rfl, rfl⟩ rfl ?_ | refine h.drew.readB 0 0 ⟨_, rfl, rfl⟩ rfl rfl ?_ | refine h.drew.read2 1 0 ⟨_, rfl, rfl⟩ rfl ?_ | refine h.drew.readB 1 0 ⟨_, rfl, rfl⟩ rfl rfl ?_)) | ((with_reducible refine StillV.isLoad ?_); (first | refine ⟨h.stillB 0 0 ⟨_, rfl, rfl⟩ rfl rfl, ?_⟩ | refine ⟨h.still2 0 0 ⟨_, rfl, rfl⟩ rfl, ?_⟩ | refine ⟨h.stillB 1 0 ⟨_, rfl, rfl⟩ rfl rfl, ?_⟩ | refine ⟨h.still2 1 0 ⟨_, rfl, rfl⟩ rfl, ?_⟩)) | ((with_reducible refine RunU.isStor ?_); (first | (refine h.stor2 0 0 ⟨_, rfl, rfl⟩ rfl ?_; intro w h; dsimp only [updG, setO] at h) | (refine h.storB 0 0 ⟨_, rfl, rfl⟩ rfl rfl rfl ?_; intro w h; dsimp only [updG, setO] at h) | (refine h.stor2 1 0 ⟨_, rfl, rfl⟩ rfl ?_; intro w h; dsimp only [updG, setO] at h) | (refine h.storB 1 0 ⟨_, rfl, rfl⟩ rfl rfl rfl ?_; intro w h; dsimp only [updG, setO] at h) | (refine h.drew.stor2 0 0 ⟨_, rfl, rfl⟩ rfl ?_; intro w h; dsimp only [updG, setO] at h) | (refine h.drew.storB 0 0 ⟨_, rfl, rfl⟩ rfl rfl rfl ?_; intro w h; dsimp only [updG, setO] at h) | (refine h.drew.stor2 1 0 ⟨_, rfl, rfl⟩ rfl ?_; intro w h; dsimp only [updG, setO] at h) | (refine h.drew.storB 1 0 ⟨_, rfl, rfl⟩ rfl rfl rfl ?_; intro w h; dsimp only [updG, setO] at h))) | ((with_reducible refine RunN.isBox ?_); (first | (refine h.newB run_boxA rfl ?_; intro bn w h; try dsimp only at h; have h := h.ord 2 [1, 0]; dsimp only [pick, nthO, dropO] at h) | (refine h.drew.newB run_boxA rfl ?_; intro bn w h; try dsimp only at h; have h := h.ord 2 [1, 0]; dsimp only [pick, nthO, dropO] at h))) | ((with_reducible refine RunN.isNew ?_); (first | (refine h.newB (NewC.run _) rfl ?_; intro bn w h; have h := h.ord 2 [1, 0]; dsimp only [pick, nthO, dropO] at h) | (refine h.drew.newB (NewC.run _) rfl ?_; intro bn w h; have h := h.ord 2 [1, 0]; dsimp only [pick, nthO, dropO] at h))) | (refine RunN.k2Eq ?_) | (refine RunN.k2Ne ?_) | (refine ReadN.k2Eq ?_) | (refine ReadN.k2Ne ?_))
    refine (one_st h.drew x).mono ?_
    rintro _ w2 ⟨rfl, h⟩
    rw [SplitB_iff]
    refine ⟨fun h1 => ?_, fun h1 => ?_⟩
    · have h1 := of_decide_eq_true h1
      repeat (first | (with_reducible refine NilP.mk ?_) | ((with_reducible refine RunN.isLoad ?_); (first | refine h.load2 0 0 ⟨_, rfl, rfl⟩ rfl ?_ | refine h.loadB 0 0 ⟨_, rfl, rfl⟩ rfl rfl ?_ | refine h.load2 1 0 ⟨_, rfl, rfl⟩ rfl ?_ | refine h.loadB 1 0 ⟨_, rfl, rfl⟩ rfl rfl ?_ | refine h.drew.load2 0 0 ⟨_, rfl, rfl⟩ rfl ?_ | refine h.drew.loadB 0 0 ⟨_, rfl, rfl⟩ rfl rfl ?_ | refine h.drew.load2 1 0 ⟨_, rfl, rfl⟩ rfl ?_ | refine h.drew.loadB 1 0 ⟨_, rfl, rfl⟩ rfl rfl ?_)) | ((with_reducible refine ReadN.isLoad ?_); (first | refine h.read2 0 0 ⟨_, rfl, rfl⟩ rfl ?_ | refine h.readB 0 0 ⟨_, rfl, rfl⟩ rfl rfl ?_ | refine h.read2 1 0 ⟨_, rfl, rfl⟩ rfl ?_ | refine h.readB 1 0 ⟨_, rfl, rfl⟩ rfl rfl ?_ | refine h.drew.read2 0 0 ⟨_, rfl, rfl⟩ rfl ?_ | refine h.drew.readB 0 0 ⟨_, rfl, rfl⟩ rfl rfl ?_ | refine h.drew.read2 1 0 ⟨_, rfl, rfl⟩ rfl ?_ | refine h.drew.readB 1 0 ⟨_, rfl, rfl⟩ rfl rfl ?_)) | ((with_reducible refine StillV.isLoad ?_); (first | refine ⟨h.stillB 0 0 ⟨_, rfl, rfl⟩ rfl rfl, ?_⟩ | refine ⟨h.still2 0 0 ⟨_, rfl, rfl⟩ rfl, ?_⟩ | refine ⟨h.stillB 1 0 ⟨_, rfl, rfl⟩ rfl rfl, ?_⟩ | refine ⟨h.still2 1 0 ⟨_, rfl, rfl⟩ rfl, ?_⟩)) | ((with_reducible refine RunU.isStor ?_); (first | (refine h.stor2 0 0 ⟨_, rfl, rfl⟩ rfl ?_; intro w h; dsimp only [updG, setO] at h) | (refine h.storB 0 0 ⟨_, rfl, rfl⟩ rfl rfl rfl ?_; intro w h; dsimp only [updG, setO] at h) | (refine h.stor2 1 0 ⟨_, rfl, rfl⟩ rfl ?_; intro w h; dsimp only [updG, setO] at h) | (refine h.storB 1 0 ⟨_, rfl, rfl⟩ rfl rfl rfl ?_; intro w h; dsimp only [updG, setO] at h) | (refine h.drew.stor2 0 0 ⟨_, rfl, rfl⟩ rfl ?_; intro w h; dsimp only [updG, setO] at h) | (refine h.drew.storB 0 0 ⟨_, rfl, rfl⟩ rfl rfl rfl ?_; intro w h; dsimp only [updG, setO] at h) | (refine h.drew.stor2 1 0 ⟨_, rfl, rfl⟩ rfl ?_; intro w h; dsimp only [updG, setO] at h) | (refine h.drew.storB 1 0 ⟨_, rfl, rfl⟩ rfl rfl rfl ?_; intro w h; dsimp only [updG, setO] at h))) | ((with_reducible refine RunN.isBox ?_); (first | (refine h.newB run_boxA rfl ?_; intro bn w h; try dsimp only at h; have h := h.ord 2 [1, 0]; dsimp only [pick, nthO, dropO] at h) | (refine h.drew.newB run_boxA rfl ?_; intro bn w h; try dsimp only at h; have h := h.ord 2 [1, 0]; dsimp only [pick, nthO, dropO] at h))) | ((with_reducible refine RunN.isNew ?_); (first | (refine h.newB (NewC.run _) rfl ?_; intro bn w h; have h := h.ord 2 [1, 0]; dsimp only [pick, nthO, dropO] at h) | (refine h.drew.newB (NewC.run _) rfl ?_; intro bn w h; have h := h.ord 2 [1, 0]; dsimp only [pick, nthO, dropO] at h))) | (refine RunN.k2Eq ?_) | (refine RunN.k2Ne ?_) | (refine ReadN.k2Eq ?_) | (refine ReadN.k2Ne ?_))
      refine hk _ _ ⟨?_, h⟩
      dsimp only
      by_cases h2 : x.2 = (r.me : Int)
      · rw [decide_eq_false fun hh => hh.2 h2, h2]; simp
      · rw [decide_eq_true ⟨h1, h2⟩]; simpa using h2
    · have h1 := of_decide_eq_false h1
      exact hk _ _ ⟨(decide_eq_false fun hh => h1 hh.1).symm, h⟩
/-! ### sums and all -/
def Rn.repTo (r : Rn) (m : Nat) : Int := ((List.range m).map fun (i : Nat) => (r.rep (i : Int)).getD 0).sum
def Rn.reported (r : Rn) : Int := r.repTo r.n
def Rn.all (r : Rn) : Bool := (List.range r.n).all fun (i : Nat) => !(decide (i ≠ r.me) && !(r.rep (i : Int)).isSome)
theorem rep_bound {r : Rn} {N : Nat} (h : r.wf N) (k : Int) : 0 ≤ (r.rep k).getD 0 ∧ (r.rep k).getD 0 ≤ 1099511627776 := by
  rw [Rn.rep, repV]
  split
  · cases hl : (r.notes.filter (isN r.own k)).getLast? with
    | none => exact ⟨by simp, by simp⟩
    | some x =>
      have := (List.mem_filter.1 (List.mem_of_getLast? hl)).1
      exact h.nb x this
  · exact ⟨by simp, by simp⟩
theorem rrepTo_succ (r : Rn) (m : Nat) : r.repTo (m + 1) = r.repTo m + (r.rep (m : Int)).getD 0 := by
  rw [Rn.repTo, List.range_succ, List.map_append, List.sum_append, Rn.repTo]; simp
theorem rrepTo_bound {r : Rn} {N : Nat} (h : r.wf N) : ∀ m : Nat, 0 ≤ r.repTo m ∧ r.repTo m ≤ m * 1099511627776 := by
  intro m
  induction m with
  | zero => simp [Rn.repTo]
  | succ m ih =>
    rw [rrepTo_succ]
    have := rep_bound h (m : Int)
    omega
theorem rreported_st {r : Rm} {N : Nat} (h : St w0 w (rmE r :: F)) (hw : r.wf N) (hN : N ≤ 1000000000) : CallK Try.prog (.int .i64) 67 #[.pointer r.p] w fun (v : Int) w' => v = r.reported ∧ St w0 w' (rmE r :: F) := by
  refine T67.calls ?_
  unfold T67
  have hn := hw.n
  refine LoopX.mk (fun st w' => ∃ (m : Nat), st = (r.repTo m, (m : Int), ()) ∧ m ≤ r.n ∧ St w0 w' (rmE r :: F)) (fun st => ((r.n : Int) - st.2.1).toNat) ⟨0, rfl, Nat.zero_le _, h⟩ ?_
  clear h
  rintro _ w3 ⟨m, rfl, hm, h⟩ k hk
  dsimp only at hk ⊢
  repeat (first | (with_reducible refine NilP.mk ?_) | ((with_reducible refine RunN.isLoad ?_); (first | refine h.load2 0 0 ⟨_, rfl, rfl⟩ rfl ?_ | refine h.loadB 0 0 ⟨_, rfl, rfl⟩ rfl rfl ?_ | refine h.drew.load2 0 0 ⟨_, rfl, rfl⟩ rfl ?_ | refine h.drew.loadB 0 0 ⟨_, rfl, rfl⟩ rfl rfl ?_)) | ((with_reducible refine ReadN.isLoad ?_); (first | refine h.read2 0 0 ⟨_, rfl, rfl⟩ rfl ?_ | refine h.readB 0 0 ⟨_, rfl, rfl⟩ rfl rfl ?_ | refine h.drew.read2 0 0 ⟨_, rfl, rfl⟩ rfl ?_ | refine h.drew.readB 0 0 ⟨_, rfl, rfl⟩ rfl rfl ?_)) | ((with_reducible refine StillV.isLoad ?_); (first | refine ⟨h.stillB 0 0 ⟨_, rfl, rfl⟩ rfl rfl, ?_⟩ | refine ⟨h.still2 0 0 ⟨_, rfl, rfl⟩ rfl, ?_⟩)) | ((with_reducible refine RunU.isStor ?_); (first | (refine h.stor2 0 0 ⟨_, rfl, rfl⟩ rfl ?_; intro w h; dsimp only [updG, setO] at h) | (refine h.storB 0 0 ⟨_, rfl, rfl⟩ rfl rfl rfl ?_; intro w h; dsimp only [updG, setO] at h) | (refine h.drew.stor2 0 0 ⟨_, rfl, rfl⟩ rfl ?_; intro w h; dsimp only [updG, setO] at h) | (refine h.drew.storB 0 0 ⟨_, rfl, rfl⟩ rfl rfl rfl ?_; intro w h; dsimp only [updG, setO] at h))) | ((with_reducible refine RunN.isBox ?_); (first | (refine h.newB run_boxA rfl ?_; intro bn w h; try dsimp only at h; have h := h.ord 2 [1, 0]; dsimp only [pick, nthO, dropO] at h) | (refine h.drew.newB run_boxA rfl ?_; intro bn w h; try dsimp only at h; have h := h.ord 2 [1, 0]; dsimp only [pick, nthO, dropO] at h))) | ((with_reducible refine RunN.isNew ?_); (first | (refine h.newB (NewC.run _) rfl ?_; intro bn w h; have h := h.ord 2 [1, 0]; dsimp only [pick, nthO, dropO] at h) | (refine h.drew.newB (NewC.run _) rfl ?_; intro bn w h; have h := h.ord 2 [1, 0]; dsimp only [pick, nthO, dropO] at h))) | (refine RunN.k2Eq ?_) | (refine RunN.k2Ne ?_) | (refine ReadN.k2Eq ?_) | (refine ReadN.k2Ne ?_))
  rw [SplitB_iff]
  refine ⟨fun hc => ?_, fun hc => ?_⟩
  · have hc : m < r.n := by have : (m : Int) < (r.n : Int) := of_decide_eq_true hc; omega
    have hem : IntKind.i64.wrap ((m : Int) + 1) = ((m + 1 : Nat) : Int) := by rw [wr (by omega)]; omega
    refine (rep_st h hw hN (m : Int)).mono ?_
    rintro _ w4 ⟨rfl, h⟩
    have hb1 := rrepTo_bound hw m
    have hb2 := rep_bound hw (m : Int)
    have e3 : IntKind.i64.wrap (r.repTo m + (r.rep (m : Int)).getD 0) = r.repTo (m + 1) := by rw [rrepTo_succ, wr (by omega)]
    rw [hem]
    refine hk _ _ ⟨m + 1, ?_, by omega, h⟩ (by dsimp only; omega)
    dsimp only
    rw [e3]
  · have hc : m = r.n := by have : ¬ (m : Int) < (r.n : Int) := of_decide_eq_false hc; omega
    subst hc
    exact ⟨rfl, h⟩
theorem rall_st {r : Rm} {N : Nat} (h : St w0 w (rmE r :: F)) (hw : r.wf N) (hN : N ≤ 1000000000) : CallK Try.prog .bool 68 #[.pointer r.p] w fun (v : Bool) w' => v = r.all ∧ St w0 w' (rmE r :: F) := by
  refine T68.calls ?_
  unfold T68
  have hn := hw.n
  refine LoopX.mk (fun st w' => ∃ (m : Nat), st = ((m : Int), ()) ∧ m ≤ r.n ∧ (∀ i, i < m → ¬ (i ≠ r.me ∧ (r.rep (i : Int)).isSome = false)) ∧ St w0 w' (rmE r :: F)) (fun st => ((r.n : Int) - st.1).toNat) ⟨0, rfl, Nat.zero_le _, fun i hi => by omega, h⟩ ?_
  clear h
  rintro _ w3 ⟨m, rfl, hm, hall, h⟩ k hk
  dsimp only at hk ⊢
  repeat (first | (with_reducible refine NilP.mk ?_) | ((with_reducible refine RunN.isLoad ?_); (first | refine h.load2 0 0 ⟨_, rfl, rfl⟩ rfl ?_ | refine h.loadB 0 0 ⟨_, rfl, rfl⟩ rfl rfl ?_ | refine h.drew.load2 0 0 ⟨_, rfl, rfl⟩ rfl ?_ | refine h.drew.loadB 0 0 ⟨_, rfl, rfl⟩ rfl rfl ?_)) | ((with_reducible refine ReadN.isLoad ?_); (first | refine h.read2 0 0 ⟨_, rfl, rfl⟩ rfl ?_ | refine h.readB 0 0 ⟨_, rfl, rfl⟩ rfl rfl ?_ | refine h.drew.read2 0 0 ⟨_, rfl, rfl⟩ rfl ?_ | refine h.drew.readB 0 0 ⟨_, rfl, rfl⟩ rfl rfl ?_)) | ((with_reducible refine StillV.isLoad ?_); (first | refine ⟨h.stillB 0 0 ⟨_, rfl, rfl⟩ rfl rfl, ?_⟩ | refine ⟨h.still2 0 0 ⟨_, rfl, rfl⟩ rfl, ?_⟩)) | ((with_reducible refine RunU.isStor ?_); (first | (refine h.stor2 0 0 ⟨_, rfl, rfl⟩ rfl ?_; intro w h; dsimp only [updG, setO] at h) | (refine h.storB 0 0 ⟨_, rfl, rfl⟩ rfl rfl rfl ?_; intro w h; dsimp only [updG, setO] at h) | (refine h.drew.stor2 0 0 ⟨_, rfl, rfl⟩ rfl ?_; intro w h; dsimp only [updG, setO] at h) | (refine h.drew.storB 0 0 ⟨_, rfl, rfl⟩ rfl rfl rfl ?_; intro w h; dsimp only [updG, setO] at h))) | ((with_reducible refine RunN.isBox ?_); (first | (refine h.newB run_boxA rfl ?_; intro bn w h; try dsimp only at h; have h := h.ord 2 [1, 0]; dsimp only [pick, nthO, dropO] at h) | (refine h.drew.newB run_boxA rfl ?_; intro bn w h; try dsimp only at h; have h := h.ord 2 [1, 0]; dsimp only [pick, nthO, dropO] at h))) | ((with_reducible refine RunN.isNew ?_); (first | (refine h.newB (NewC.run _) rfl ?_; intro bn w h; have h := h.ord 2 [1, 0]; dsimp only [pick, nthO, dropO] at h) | (refine h.drew.newB (NewC.run _) rfl ?_; intro bn w h; have h := h.ord 2 [1, 0]; dsimp only [pick, nthO, dropO] at h))) | (refine RunN.k2Eq ?_) | (refine RunN.k2Ne ?_) | (refine ReadN.k2Eq ?_) | (refine ReadN.k2Ne ?_))
  rw [SplitB_iff]
  refine ⟨fun hc => ?_, fun hc => ?_⟩
  · have hc : m < r.n := by have : (m : Int) < (r.n : Int) := of_decide_eq_true hc; omega
    have hem : IntKind.i64.wrap ((m : Int) + 1) = ((m + 1 : Nat) : Int) := by rw [wr (by omega)]; omega
    rw [hem]
    refine (rep_st h hw hN (m : Int)).mono ?_
    rintro _ w4 ⟨rfl, h⟩
    refine JoinX.mk (fun (y : Bool × Unit) w' => y.1 = decide (m ≠ r.me ∧ (r.rep (m : Int)).isSome = false) ∧ St w0 w' (rmE r :: F)) ?_ ?_
    · rintro ⟨y, ⟨⟩⟩ w4 ⟨hy, h⟩
      dsimp only at hy
      subst hy
      rw [SplitB_iff]
      refine ⟨fun hd => ?_, fun hd => ?_⟩
      · have hd := of_decide_eq_true hd
        refine ⟨?_, h⟩
        have : r.all = false := by
          rw [Rn.all, List.all_eq_false]
          exact ⟨m, List.mem_range.2 hc, by simp [hd.1, hd.2]⟩
        exact this.symm
      · have hd := of_decide_eq_false hd
        refine hk _ _ ⟨m + 1, rfl, by omega, fun i hi => ?_, h⟩ (by dsimp only; omega)
        rcases Nat.lt_or_ge i m with h1 | h1
        · exact hall i h1
        · have : i = m := by omega
          subst this; exact hd
    · intro k3 hk3
      repeat (first | (with_reducible refine NilP.mk ?_) | ((with_reducible refine RunN.isLoad ?_); (first | refine h.load2 0 0 ⟨_, rfl, rfl⟩ rfl ?_ | refine h.loadB 0 0 ⟨_, rfl, rfl⟩ rfl rfl ?_ | refine h.drew.load2 0 0 ⟨_, rfl, rfl⟩ rfl ?_ | refine h.drew.loadB 0 0 ⟨_, rfl, rfl⟩ rfl rfl ?_)) | ((with_reducible refine ReadN.isLoad ?_); (first | refine h.read2 0 0 ⟨_, rfl, rfl⟩ rfl ?_ | refine h.readB 0 0 ⟨_, rfl, rfl⟩ rfl rfl ?_ | refine h.drew.read2 0 0 ⟨_, rfl, rfl⟩ rfl ?_ | refine h.drew.readB 0 0 ⟨_, rfl, rfl⟩ rfl rfl ?_)) | ((with_reducible refine StillV.isLoad ?_); (first | refine ⟨h.stillB 0 0 ⟨_, rfl, rfl⟩ rfl rfl, ?_⟩ | refine ⟨h.still2 0 0 ⟨_, rfl, rfl⟩ rfl, ?_⟩)) | ((with_reducible refine RunU.isStor ?_); (first | (refine h.stor2 0 0 ⟨_, rfl, rfl⟩ rfl ?_; intro w h; dsimp only [updG, setO] at h) | (refine h.storB 0 0 ⟨_, rfl, rfl⟩ rfl rfl rfl ?_; intro w h; dsimp only [updG, setO] at h) | (refine h.drew.stor2 0 0 ⟨_, rfl, rfl⟩ rfl ?_; intro w h; dsimp only [updG, setO] at h) | (refine h.drew.storB 0 0 ⟨_, rfl, rfl⟩ rfl rfl rfl ?_; intro w h; dsimp only [updG, setO] at h))) | ((with_reducible refine RunN.isBox ?_); (first | (refine h.newB run_boxA rfl ?_; intro bn w h; try dsimp only at h; have h := h.ord 2 [1, 0]; dsimp only [pick, nthO, dropO] at h) | (refine h.drew.newB run_boxA rfl ?_; intro bn w h; try dsimp only at h; have h := h.ord 2 [1, 0]; dsimp only [pick, nthO, dropO] at h))) | ((with_reducible refine RunN.isNew ?_); (first | (refine h.newB (NewC.run _) rfl ?_; intro bn w h; have h := h.ord 2 [1, 0]; dsimp only [pick, nthO, dropO] at h) | (refine h.drew.newB (NewC.run _) rfl ?_; intro bn w h; have h := h.ord 2 [1, 0]; dsimp only [pick, nthO, dropO] at h))) | (refine RunN.k2Eq ?_) | (refine RunN.k2Ne ?_) | (refine ReadN.k2Eq ?_) | (refine ReadN.k2Ne ?_))
      rw [SplitB_iff]
      refine ⟨fun hd => ?_, fun hd => ?_⟩
      · have hd : m ≠ r.me := by
          intro he; subst he; simp at hd
        refine hk3 _ _ ⟨?_, h⟩
        dsimp only
        cases (r.rep (m : Int)).isSome <;> simp [hd]
      · have hd : m = r.me := by
          have : (m : Int) = (r.me : Int) := by simpa using hd
          omega
        exact hk3 _ _ ⟨by simp [hd], h⟩
  · have hc : m = r.n := by have : ¬ (m : Int) < (r.n : Int) := of_decide_eq_false hc; omega
    subst hc
    refine ⟨?_, h⟩
    have : r.all = true := by
      rw [Rn.all, List.all_eq_true]
      intro i hi
      have := hall i (List.mem_range.1 hi)
      by_cases h1 : i = r.me
      · simp [h1]
      · cases h2 : (r.rep (i : Int)).isSome with
        | true => simp
        | false => exact absurd ⟨h1, h2⟩ this
    exact this.symm
end Go.Proofs.Ytmfbmfppjdkeeaa

/- The document's machine of epochs: its calls. -/
namespace Go.Proofs.Ytmfbmfppjdkeeaa
open Go Go.Fw Go.RowKit
set_option linter.unusedVariables false
set_option linter.unusedSimpArgs false
set_option maxRecDepth 4000
set_option maxHeartbeats 2000000
variable {w0 w : World} {F G : Grps}

theorem bs82 (w : World) (a : A6) : (Instr.buildSlice 82 1 #[(0, aco a)]).run Try.prog w = .ok (.slice (some ⟨w.heap.size, 0, none⟩) 1 1) (w.alloc (.cells ⟨acs [a]⟩ 114)) := by kernel_rfl
theorem bs82c (w : World) (a b c : A6) : (Instr.buildSlice 82 3 #[(0, aco a), (1, aco b), (2, aco c)]).run Try.prog w = .ok (.slice (some ⟨w.heap.size, 0, none⟩) 3 3) (w.alloc (.cells ⟨acs [a, b, c]⟩ 114)) := by kernel_rfl
theorem newA (h : St w0 w G) (a : A6) {K : Sl → World → Prop} (hk : ∀ (s : Sl) w', s.len = 1 → St w0 w' ([.row 114 6 s (acs [a])] :: G) → K s w') : RunN Try.prog .sl (V (Instr.buildSlice 82 1 #[(0, aco a)])) w K :=
  h.newS 6 (bs82 _ a) rfl rfl rfl fun s w' h1 _ _ h => hk s w' h1 h
def Rn.turns (r : Rn) : Prop := r.own.1 > 0 ∧ r.top ≠ r.own
instance (r : Rn) : Decidable r.turns := by unfold Rn.turns; exact inferInstance
def Rn.turn (r : Rn) (was : Ep) : List A6 × Rn :=
  if r.turns then ([(3, -1, r.own.1, r.own.2, r.top.1, r.top.2), (5, (r.me : Int), r.own.1, r.own.2, 0, 0), (2, r.top.2, r.top.1, r.top.2, 0, 0)], { r with over := r.over ++ [r.own] })
  else if r.top.1 > 0 ∧ r.top ≠ r.own ∧ r.top ≠ was then ([(2, r.top.2, r.top.1, r.top.2, 0, 0)], r)
  else if r.top.1 = 0 ∧ was.1 > 0 then ([(6, (r.me : Int), 0, 0, 0, 0)], r) else ([], r)
theorem rwf_over {r : Rn} {N : Nat} (h : r.wf N) (x : Ep) : ({ r with over := r.over ++ [x] } : Rn).wf (N + 1) :=
  ⟨h.n, h.me, by have := h.kl; dsimp only; omega, by simp; have := h.ol; omega, by have := h.nl; dsimp only; omega, h.nb⟩
theorem rwf_turn {r : Rn} {N : Nat} (h : r.wf N) (was : Ep) : (r.turn was).2.wf (N + 1) := by
  rw [Rn.turn]
  split
  · exact rwf_over h _
  split
  · exact h.mono (Nat.le_succ _)
  split <;> exact h.mono (Nat.le_succ _)
theorem rturn_st {r : Rm} {N : Nat} (h : St w0 w (rmE r :: F)) (hw : r.wf N) (hN : N ≤ 1000000000) (was : Ep) : CallK Try.prog .sl 65 #[.pointer r.p, .agg #[.int .i64 was.1, .int .i64 was.2]] w
    fun (s : Sl) w' => ∃ r' : Rm, r'.cb = r.cb ∧ r'.toRn = (r.turn was).2 ∧ s.len = (r.turn was).1.length ∧ St w0 w' ([.row 114 6 s (acs (r.turn was).1)] :: rmE r' :: F) := by
  refine T65.calls (p1 := (was.1, was.2, ())) ?_
  unfold T65
  have hol := hw.ol
  first | refine h.newB run_boxA rfl ?_ | refine h.drew.newB run_boxA rfl ?_
  intro b3 w h
  have h := h.ord 2 [1, 0]
  dsimp only [pick, nthO, dropO] at h
  refine (rown_st h hw hN).mono ?_
  rintro _ w1 ⟨rfl, h⟩
  first | refine h.newB (NewC.run _) rfl ?_ | refine h.drew.newB (NewC.run _) rfl ?_
  intro b5 w h
  have h := h.ord 2 [1, 0]
  dsimp only [pick, nthO, dropO] at h
  refine h.stor2 1 0 ⟨_, rfl, rfl⟩ rfl ?_
  intro w3 h
  dsimp only [updG, setO] at h
  refine (rtop_st h hw hN).mono ?_
  rintro _ w2 ⟨rfl, h⟩
  first | refine h.newB (NewC.run _) rfl ?_ | refine h.drew.newB (NewC.run _) rfl ?_
  intro b6 w h
  have h := h.ord 2 [1, 0]
  dsimp only [pick, nthO, dropO] at h
  refine h.stor2 1 0 ⟨_, rfl, rfl⟩ rfl ?_
  intro w4 h
  dsimp only [updG, setO] at h
  let L : Grps := [.cel b6 54 (epv r.top)] :: [.cel b5 54 (epv r.own)] :: [.cel b3 54 (epv was)] :: F
  have h : St w0 w4 (rmE r :: L) := h
  have hdrop : ∀ {w' : World} {r' : Rm} {s : Sl} {l : List A6}, St w0 w' ([.row 114 6 s (acs l)] :: rmE r' :: L) → St w0 w' ([.row 114 6 s (acs l)] :: rmE r' :: F) := fun h => ((h.drop 2).drop 2).drop 2
  refine JoinX.mk (fun (y : Bool × Unit) w' => y.1 = decide r.turns ∧ St w0 w' (rmE r :: L)) ?_ ?_
  · rintro ⟨y, ⟨⟩⟩ w5 ⟨hy, h⟩
    dsimp only at hy
    subst hy
    rw [SplitB_iff]
    refine ⟨fun hc => ?_, fun hc => ?_⟩
    · have hc : r.turns := of_decide_eq_true hc
      refine appOver h (by omega) 2 (b := b5) (x := r.own.1) (y := r.own.2) ⟨_, rfl, rfl⟩ ?_
      intro q' w6 h
      refine h.drew.read2 2 0 ⟨_, rfl, rfl⟩ rfl ?_
      refine h.drew.read2 1 0 ⟨_, rfl, rfl⟩ rfl ?_
      refine NilP.mk ?_
      refine h.drew.readB 0 0 ⟨_, rfl, rfl⟩ rfl rfl ?_
      refine h.drew.read2 2 0 ⟨_, rfl, rfl⟩ rfl ?_
      refine h.drew.readB 1 0 ⟨_, rfl, rfl⟩ rfl rfl ?_
      refine h.drew.read2 1 0 ⟨_, rfl, rfl⟩ rfl ?_
      refine h.drew.newS 6 (bs82c _ (3, -1, r.own.1, r.own.2, r.top.1, r.top.2) (5, (r.me : Int), r.own.1, r.own.2, 0, 0) (2, r.top.2, r.top.1, r.top.2, 0, 0)) rfl rfl rfl ?_
      intro s w7 hs1 _ _ h
      refine ⟨{ r with over := r.over ++ [(r.own.1, r.own.2)], oq := q' }, rfl, ?_, ?_, ?_⟩
      · rw [Rn.turn, if_pos hc]
      · rw [Rn.turn, if_pos hc]; exact hs1
      · rw [Rn.turn, if_pos hc]; exact hdrop h
    have hc : ¬ r.turns := of_decide_eq_false hc
    refine JoinX.mk (fun (y : Bool × Unit) w' => y.1 = decide (r.top.1 > 0 ∧ r.top ≠ r.own ∧ r.top ≠ was) ∧ St w0 w' (rmE r :: L)) ?_ ?_
    · rintro ⟨y, ⟨⟩⟩ w6 ⟨hy, h⟩
      dsimp only at hy
      subst hy
      rw [SplitB_iff]
      refine ⟨fun hd => ?_, fun hd => ?_⟩
      · have hd := of_decide_eq_true hd
        refine h.loadB 1 0 ⟨_, rfl, rfl⟩ rfl rfl ?_
        refine h.load2 1 0 ⟨_, rfl, rfl⟩ rfl ?_
        refine newA h (2, r.top.2, r.top.1, r.top.2, 0, 0) ?_
        intro s w7 hs1 h
        refine ⟨r, rfl, ?_, ?_, ?_⟩
        · rw [Rn.turn, if_neg hc, if_pos hd]
        · rw [Rn.turn, if_neg hc, if_pos hd]; exact hs1
        · rw [Rn.turn, if_neg hc, if_pos hd]; exact hdrop h
      have hd := of_decide_eq_false hd
      refine JoinX.mk (fun (y : Bool × Unit) w' => y.1 = decide (r.top.1 = 0 ∧ was.1 > 0) ∧ St w0 w' (rmE r :: L)) ?_ ?_
      · rintro ⟨y, ⟨⟩⟩ w7 ⟨hy, h⟩
        dsimp only at hy
        subst hy
        rw [SplitB_iff]
        refine ⟨fun he => ?_, fun he => ?_⟩
        · have he := of_decide_eq_true he
          refine NilP.mk ?_
          refine h.loadB 0 0 ⟨_, rfl, rfl⟩ rfl rfl ?_
          refine newA h (6, (r.me : Int), 0, 0, 0, 0) ?_
          intro s w7 hs1 h
          refine ⟨r, rfl, ?_, ?_, ?_⟩
          · rw [Rn.turn, if_neg hc, if_neg hd, if_pos he]
          · rw [Rn.turn, if_neg hc, if_neg hd, if_pos he]; exact hs1
          · rw [Rn.turn, if_neg hc, if_neg hd, if_pos he]; exact hdrop h
        · have he := of_decide_eq_false he
          refine ⟨r, rfl, ?_, ?_, ?_⟩
          · rw [Rn.turn, if_neg hc, if_neg hd, if_neg he]
          · rw [Rn.turn, if_neg hc, if_neg hd, if_neg he]; rfl
          · rw [Rn.turn, if_neg hc, if_neg hd, if_neg he]; exact hdrop (h.nilrow 114 6)
      · intro k5 hk5
        refine h.loadB 1 0 ⟨_, rfl, rfl⟩ rfl rfl ?_
        rw [SplitB_iff]
        refine ⟨fun he => ?_, fun he => ?_⟩
        · have he : r.top.1 = 0 := by simpa using he
          refine h.loadB 3 0 ⟨_, rfl, rfl⟩ rfl rfl ?_
          exact hk5 _ _ ⟨by simp [he], h⟩
        · have he : ¬ r.top.1 = 0 := by simpa using he
          exact hk5 _ _ ⟨by simp [he], h⟩
    · intro k3 hk3
      refine h.loadB 1 0 ⟨_, rfl, rfl⟩ rfl rfl ?_
      rw [SplitB_iff]
      refine ⟨fun hd => ?_, fun hd => ?_⟩
      · have hd : r.top.1 > 0 := of_decide_eq_true hd
        refine h.load2 1 0 ⟨_, rfl, rfl⟩ rfl ?_
        refine h.load2 2 0 ⟨_, rfl, rfl⟩ rfl ?_
        refine RunN.k2Ne ?_
        rw [ne_ep r.top r.own]
        rw [SplitB_iff]
        refine ⟨fun he => ?_, fun he => ?_⟩
        · have he : r.top ≠ r.own := of_decide_eq_true he
          refine h.load2 1 0 ⟨_, rfl, rfl⟩ rfl ?_
          refine h.load2 3 0 ⟨_, rfl, rfl⟩ rfl ?_
          refine RunN.k2Ne ?_
          rw [ne_ep r.top was]
          refine hk3 _ _ ⟨?_, h⟩
          dsimp only
          by_cases hf : r.top ≠ was
          · rw [decide_eq_true hf, decide_eq_true ⟨hd, he, hf⟩]
          · rw [decide_eq_false hf, decide_eq_false fun hh => hf hh.2.2]
        · have he : ¬ r.top ≠ r.own := of_decide_eq_false he
          exact hk3 _ _ ⟨(decide_eq_false fun hh => he hh.2.1).symm, h⟩
      · have hd : ¬ r.top.1 > 0 := of_decide_eq_false hd
        exact hk3 _ _ ⟨(decide_eq_false fun hh => hd hh.1).symm, h⟩
  · intro k1 hk1
    refine h.loadB 2 0 ⟨_, rfl, rfl⟩ rfl rfl ?_
    rw [SplitB_iff]
    refine ⟨fun hd => ?_, fun hd => ?_⟩
    · have hd : r.own.1 > 0 := of_decide_eq_true hd
      refine h.load2 1 0 ⟨_, rfl, rfl⟩ rfl ?_
      refine h.load2 2 0 ⟨_, rfl, rfl⟩ rfl ?_
      refine RunN.k2Ne ?_
      rw [ne_ep r.top r.own]
      refine hk1 _ _ ⟨?_, h⟩
      dsimp only
      by_cases he : r.top ≠ r.own
      · rw [decide_eq_true he, decide_eq_true (show r.turns from ⟨hd, he⟩)]
      · rw [decide_eq_false he, decide_eq_false (show ¬ r.turns from fun hh => he hh.2)]
    · have hd : ¬ r.own.1 > 0 := of_decide_eq_false hd
      exact hk1 _ _ ⟨(decide_eq_false (show ¬ r.turns from fun hh => hd hh.1)).symm, h⟩
/-! ### Hear, End -/
def Rn.hear (r : Rn) (x : Ep) : List A6 × Rn := (r.told x).turn r.top
def Rn.told2 (r : Rn) (x : Ep) : Rn := if r.one x ∧ x.2 ≠ (r.me : Int) then { r.told x with over := (r.told x).over ++ [x] } else r
def Rn.end_ (r : Rn) (x y : Ep) : List A6 × Rn := ((r.told2 x).told y).turn r.top
theorem rwf_told2 {r : Rn} {N : Nat} (h : r.wf N) (x : Ep) : (r.told2 x).wf (N + 2) := by
  rw [Rn.told2]
  split
  · exact rwf_over (rwf_told h x) x
  · exact h.mono (by omega)
theorem rhear_st {r : Rm} {N : Nat} (h : St w0 w (rmE r :: F)) (hw : r.wf N) (hN : N ≤ 100000000) (x : Ep) : CallK Try.prog .sl 33 #[.pointer r.p, .agg #[.int .i64 x.1, .int .i64 x.2]] w
    fun (s : Sl) w' => ∃ r' : Rm, r'.cb = r.cb ∧ r'.toRn = (r.hear x).2 ∧ s.len = (r.hear x).1.length ∧ St w0 w' ([.row 114 6 s (acs (r.hear x).1)] :: rmE r' :: F) := by
  refine T33.calls (p1 := (x.1, x.2, ())) ?_
  unfold T33
  first | refine h.newB run_boxA rfl ?_ | refine h.drew.newB run_boxA rfl ?_
  intro b3 w h
  have h := h.ord 2 [1, 0]
  dsimp only [pick, nthO, dropO] at h
  refine (rtop_st h hw (by omega)).mono ?_
  rintro _ w1 ⟨rfl, h⟩
  first | refine h.newB (NewC.run _) rfl ?_ | refine h.drew.newB (NewC.run _) rfl ?_
  intro b5 w h
  have h := h.ord 2 [1, 0]
  dsimp only [pick, nthO, dropO] at h
  refine h.stor2 1 0 ⟨_, rfl, rfl⟩ rfl ?_
  intro w2 h
  dsimp only [updG, setO] at h
  refine h.load2 2 0 ⟨_, rfl, rfl⟩ rfl ?_
  refine (rtold_st h hw (by omega) x).mono ?_
  rintro _ w3 ⟨r1, g1, g2, h⟩
  refine h.load2 1 0 ⟨_, rfl, rfl⟩ rfl ?_
  have hp : r.p = r1.p := by show some _ = some _; rw [g1]
  rw [hp]
  refine (rturn_st h (by rw [g2]; exact rwf_told hw x) (by omega) r.top).mono ?_
  rintro s w4 ⟨r', h1, h2, h3, h⟩
  rw [g2] at h2 h3 h
  exact ⟨r', h1.trans g1, h2, h3, (h.drop 2).drop 2⟩
theorem rend_st {r : Rm} {N : Nat} (h : St w0 w (rmE r :: F)) (hw : r.wf N) (hN : N ≤ 100000000) (x y : Ep) : CallK Try.prog .sl 35 #[.pointer r.p, .agg #[.int .i64 x.1, .int .i64 x.2], .agg #[.int .i64 y.1, .int .i64 y.2]] w
    fun (s : Sl) w' => ∃ r' : Rm, r'.cb = r.cb ∧ r'.toRn = (r.end_ x y).2 ∧ s.len = (r.end_ x y).1.length ∧ St w0 w' ([.row 114 6 s (acs (r.end_ x y).1)] :: rmE r' :: F) := by
  refine T35.calls (p1 := (x.1, x.2, ())) (p2 := (y.1, y.2, ())) ?_
  unfold T35
  first | refine h.newB run_boxA rfl ?_ | refine h.drew.newB run_boxA rfl ?_
  intro b4 w h
  have h := h.ord 2 [1, 0]
  dsimp only [pick, nthO, dropO] at h
  first | refine h.newB run_boxA rfl ?_ | refine h.drew.newB run_boxA rfl ?_
  intro b5 w h
  have h := h.ord 2 [1, 0]
  dsimp only [pick, nthO, dropO] at h
  refine (rtop_st h hw (by omega)).mono ?_
  rintro _ w1 ⟨rfl, h⟩
  first | refine h.newB (NewC.run _) rfl ?_ | refine h.drew.newB (NewC.run _) rfl ?_
  intro b7 w h
  have h := h.ord 2 [1, 0]
  dsimp only [pick, nthO, dropO] at h
  refine h.stor2 1 0 ⟨_, rfl, rfl⟩ rfl ?_
  intro w2 h
  dsimp only [updG, setO] at h
  let L : Grps := [.cel b7 54 (epv r.top)] :: [.cel b5 54 (epv y)] :: [.cel b4 54 (epv x)] :: F
  have h : St w0 w2 (rmE r :: L) := h
  refine JoinX.mk (fun (_ : Unit) w' => ∃ r1 : Rm, r1.cb = r.cb ∧ r1.toRn = r.told2 x ∧ St w0 w' (rmE r1 :: L)) ?_ ?_
  · rintro ⟨⟩ w3 ⟨r1, g1, g2, h⟩
    have hp : r.p = r1.p := by show some _ = some _; rw [g1]
    rw [hp]
    have hw1 : r1.wf (N + 2) := by rw [g2]; exact rwf_told2 hw x
    refine h.load2 2 0 ⟨_, rfl, rfl⟩ rfl ?_
    refine (rtold_st h hw1 (by omega) y).mono ?_
    rintro _ w4 ⟨r2, g3, g4, h⟩
    refine h.load2 1 0 ⟨_, rfl, rfl⟩ rfl ?_
    have hp : r1.p = r2.p := by show some _ = some _; rw [g3]
    rw [hp]
    refine (rturn_st h (by rw [g4]; exact rwf_told hw1 y) (by omega) r.top).mono ?_
    rintro s w4 ⟨r', h1, h2, h3, h⟩
    rw [g4, g2] at h2 h3 h
    exact ⟨r', h1.trans (g3.trans g1), h2, h3, ((h.drop 2).drop 2).drop 2⟩
  · intro k1 hk1
    refine JoinX.mk (fun (yy : Bool × Unit) w' => yy.1 = decide (r.one x ∧ x.2 ≠ (r.me : Int)) ∧ St w0 w' (rmE r :: L)) ?_ ?_
    · rintro ⟨yy, ⟨⟩⟩ w3 ⟨hy, h⟩
      dsimp only at hy
      subst hy
      rw [SplitB_iff]
      refine ⟨fun hc => ?_, fun hc => ?_⟩
      · have hc := of_decide_eq_true hc
        refine h.load2 3 0 ⟨_, rfl, rfl⟩ rfl ?_
        refine (rtold_st h hw (by omega) x).mono ?_
        rintro _ w4 ⟨r1, g1, g2, h⟩
        have hp : r.p = r1.p := by show some _ = some _; rw [g1]
        rw [hp]
        have hw1 : r1.wf (N + 1) := by rw [g2]; exact rwf_told hw x
        refine appOver h (by have := hw1.ol; omega) 3 (b := b4) (x := x.1) (y := x.2) ⟨_, rfl, rfl⟩ ?_
        intro q' w6 h
        refine hk1 _ _ ⟨{ r1 with over := r1.over ++ [(x.1, x.2)], oq := q' }, g1, ?_, h⟩
        rw [Rn.told2, if_pos hc, ← g2]
      · have hc := of_decide_eq_false hc
        exact hk1 _ _ ⟨r, rfl, by rw [Rn.told2, if_neg hc], h⟩
    · intro k3 hk3
      refine h.drew.read2 3 0 ⟨_, rfl, rfl⟩ rfl ?_
      refine (one_st h.drew x).mono ?_
      rintro _ w3 ⟨rfl, h⟩
      rw [SplitB_iff]
      refine ⟨fun hc => ?_, fun hc => ?_⟩
      · have hc := of_decide_eq_true hc
        refine h.readB 3 0 ⟨_, rfl, rfl⟩ rfl rfl ?_
        refine NilP.mk ?_
        refine h.readB 0 0 ⟨_, rfl, rfl⟩ rfl rfl ?_
        refine hk3 _ _ ⟨?_, h⟩
        dsimp only
        by_cases h2 : x.2 = (r.me : Int)
        · rw [decide_eq_false fun hh => hh.2 h2, h2]; simp
        · rw [decide_eq_true ⟨hc, h2⟩]; simpa using h2
      · have hc := of_decide_eq_false hc
        exact hk3 _ _ ⟨(decide_eq_false fun hh => hc hh.1).symm, h⟩
/-! ### Report -/
def Rn.fitsR (r : Rn) (fr : Int) (x : Ep) (held : Int) : Prop := fr ≠ (r.me : Int) ∧ 0 ≤ fr ∧ fr < (r.n : Int) ∧ 0 ≤ held ∧ held ≤ 1099511627776 ∧ x = r.own ∧ x.1 > 0
instance (r : Rn) (fr : Int) (x : Ep) (held : Int) : Decidable (r.fitsR fr x held) := by unfold Rn.fitsR; exact inferInstance
def Rn.report (r : Rn) (fr : Int) (x : Ep) (held : Int) : Rn := if r.fitsR fr x held then { r with notes := r.notes ++ [(fr, held, x.1, x.2)] } else r
theorem rwf_report {r : Rn} {N : Nat} (h : r.wf N) (fr : Int) (x : Ep) (held : Int) : (r.report fr x held).wf (N + 1) := by
  rw [Rn.report]
  split
  · rename_i hf
    refine ⟨h.n, h.me, by have := h.kl; dsimp only; omega, by have := h.ol; dsimp only; omega, by simp; have := h.nl; omega, fun y hy => ?_⟩
    rcases List.mem_append.1 hy with hy | hy
    · exact h.nb y hy
    · simp at hy; subst hy; exact ⟨hf.2.2.2.1, hf.2.2.2.2.1⟩
  · exact h.mono (Nat.le_succ _)
theorem bs109 (w : World) (a b c d : Int) : (Instr.buildSlice 109 1 #[(0, .agg #[.int .i64 a, .int .i64 b, .int .i64 c, .int .i64 d])]).run Try.prog w = .ok (.slice (some ⟨w.heap.size, 0, none⟩) 1 1) (w.alloc (.cells ⟨ntv (a, b, c, d)⟩ 118)) := by kernel_rfl
theorem rreport_st {r : Rm} {N : Nat} (h : St w0 w (rmE r :: F)) (hw : r.wf N) (hN : N ≤ 100000000) (fr : Int) (x : Ep) (held : Int) : CallK Try.prog (.tup .nilT) 37 #[.pointer r.p, .int .i64 fr, .agg #[.int .i64 x.1, .int .i64 x.2], .int .i64 held] w
    fun (_ : Unit) w' => ∃ r' : Rm, r'.cb = r.cb ∧ r'.toRn = r.report fr x held ∧ St w0 w' (rmE r' :: F) := by
  refine T37.calls (p2 := (x.1, x.2, ())) ?_
  unfold T37
  have hnl := hw.nl
  first | refine h.newB run_boxA rfl ?_ | refine h.drew.newB run_boxA rfl ?_
  intro b6 w h
  have h := h.ord 2 [1, 0]
  dsimp only [pick, nthO, dropO] at h
  refine JoinX.mk (fun (y : Bool × Unit) w' => y.1 = decide (r.fitsR fr x held) ∧ St w0 w' (rmE r :: [.cel b6 54 [.int .i64 x.1, .int .i64 x.2]] :: F)) ?_ ?_
  · rintro ⟨y, ⟨⟩⟩ w1 ⟨hy, h⟩
    dsimp only at hy
    subst hy
    have hql : r.nq.len = r.notes.length := by have := (h.rd (k := 0) (i := 3) (E := 118) (sz := 4) (s := r.nq) (vs := nts r.notes) ⟨_, rfl, rfl⟩).1; rw [flat_len ntv_len] at this; omega
    rw [SplitB_iff]
    refine ⟨fun hc => ?_, fun hc => ?_⟩
    · have hc := of_decide_eq_true hc
      refine NilP.mk ?_
      refine h.drew.readB 0 0 ⟨_, rfl, rfl⟩ rfl (kd := .sl) (x := r.nq) rfl ?_
      refine h.drew.read2 1 0 ⟨_, rfl, rfl⟩ rfl ?_
      refine h.drew.newS 4 (bs109 _ _ _ _ _) rfl rfl rfl ?_
      intro u w2 hu1 hu2 _ h
      refine ⟨h.stillB 1 0 ⟨_, rfl, rfl⟩ rfl rfl, ?_⟩
      refine h.app 1 3 ⟨_, rfl, rfl⟩ (h.rd (k := 0) (i := 0) ⟨_, rfl, rfl⟩) (ntv_one _) (by simp only [maxLen]; omega) (by omega) ?_
      intro s' w3 hl' h
      have h := h.drop 0
      refine NilP.mk ?_
      refine h.storB 0 0 (j := 4) ⟨_, rfl, rfl⟩ rfl rfl rfl ?_
      intro w4 h
      refine ⟨{ r with notes := r.notes ++ [(fr, held, x.1, x.2)], nq := s' }, rfl, by rw [Rn.report, if_pos hc], ?_⟩
      have e : nts (r.notes ++ [(fr, held, x.1, x.2)]) = nts r.notes ++ ntv (fr, held, x.1, x.2) := by rw [nts, List.flatMap_append]; simp
      rw [rmE, show ({ r with notes := r.notes ++ [(fr, held, x.1, x.2)], nq := s' } : Rm).notes = r.notes ++ [(fr, held, x.1, x.2)] from rfl, e]
      exact h.drop 1
    · have hc := of_decide_eq_false hc
      exact ⟨r, rfl, by rw [Rn.report, if_neg hc], h.drop 1⟩
  · intro k hk
    refine NilP.mk ?_
    refine h.drew.readB 0 0 ⟨_, rfl, rfl⟩ rfl rfl ?_
    rw [SplitB_iff]
    refine ⟨fun h1 => ?_, fun h1 => ?_⟩
    · have h1 : fr ≠ (r.me : Int) := by simpa using h1
      rw [SplitB_iff]
      refine ⟨fun h2 => ?_, fun h2 => ?_⟩
      · have h2 := of_decide_eq_true h2
        refine NilP.mk ?_
        refine h.drew.readB 0 0 ⟨_, rfl, rfl⟩ rfl rfl ?_
        rw [SplitB_iff]
        refine ⟨fun h3 => ?_, fun h3 => ?_⟩
        · have h3 := of_decide_eq_true h3
          rw [SplitB_iff]
          refine ⟨fun h4 => ?_, fun h4 => ?_⟩
          · have h4 := of_decide_eq_true h4
            rw [SplitB_iff]
            refine ⟨fun h5 => ?_, fun h5 => ?_⟩
            · have h5 := of_decide_eq_true h5
              refine h.drew.read2 1 0 ⟨_, rfl, rfl⟩ rfl ?_
              refine (rown_st h.drew hw (by omega)).mono ?_
              rintro _ w2 ⟨rfl, h⟩
              refine ⟨h.still2 1 0 ⟨_, rfl, rfl⟩ rfl, ?_⟩
              refine ReadN.k2Eq ?_
              rw [eq_ep x r.own]
              rw [SplitB_iff]
              refine ⟨fun h6 => ?_, fun h6 => ?_⟩
              · have h6 : x = r.own := of_decide_eq_true h6
                refine h.readB 1 0 ⟨_, rfl, rfl⟩ rfl rfl ?_
                refine hk _ _ ⟨?_, h⟩
                dsimp only
                by_cases h7 : x.1 > 0
                · rw [decide_eq_true h7, decide_eq_true ⟨h1, h2, h3, h4, h5, h6, h7⟩]
                · rw [decide_eq_false h7, decide_eq_false fun hh => h7 hh.2.2.2.2.2.2]
              · have h6 : ¬ x = r.own := of_decide_eq_false h6
                exact hk _ _ ⟨(decide_eq_false fun hh => h6 hh.2.2.2.2.2.1).symm, h⟩
            · have h5 := of_decide_eq_false h5
              exact hk _ _ ⟨(decide_eq_false fun hh => h5 hh.2.2.2.2.1).symm, h.drew⟩
          · have h4 := of_decide_eq_false h4
            exact hk _ _ ⟨(decide_eq_false fun hh => h4 hh.2.2.2.1).symm, h.drew⟩
        · have h3 := of_decide_eq_false h3
          exact hk _ _ ⟨(decide_eq_false fun hh => h3 hh.2.2.1).symm, h.drew⟩
      · have h2 := of_decide_eq_false h2
        exact hk _ _ ⟨(decide_eq_false fun hh => h2 hh.2.1).symm, h.drew⟩
    · have h1 : ¬ fr ≠ (r.me : Int) := by simpa using h1
      exact hk _ _ ⟨(decide_eq_false fun hh => h1 hh.1).symm, h.drew⟩
/-! ### Look -/
def Rn.looks (r : Rn) (limit rights held : Int) : Prop := r.own.1 ≠ 0 ∧ (okA [limit, rights, held] = true ∧ limit ≠ 0) ∧ rights + held + r.reported = limit ∧ (r.needs = true → r.all = true)
instance (r : Rn) (a b c : Int) : Decidable (r.looks a b c) := by unfold Rn.looks; exact inferInstance
def Rn.look (r : Rn) (limit rights held : Int) : List A6 := if r.looks limit rights held then [(4, (r.me : Int), r.own.1, r.own.2, 0, 0)] else []
theorem rlook_st {r : Rm} {N : Nat} (h : St w0 w (rmE r :: F)) (hw : r.wf N) (hN : N ≤ 1000000000) (limit rights held : Int) : CallK Try.prog .sl 38 #[.pointer r.p, .int .i64 limit, .int .i64 rights, .int .i64 held] w
    fun (s : Sl) w' => s.len = (r.look limit rights held).length ∧ St w0 w' ([.row 114 6 s (acs (r.look limit rights held))] :: rmE r :: F) := by
  refine T38.calls ?_
  unfold T38
  have hn := hw.n
  refine (rown_st h hw hN).mono ?_
  rintro _ w1 ⟨rfl, h⟩
  first | refine h.newB (NewC.run _) rfl ?_ | refine h.drew.newB (NewC.run _) rfl ?_
  intro b9 w h
  have h := h.ord 2 [1, 0]
  dsimp only [pick, nthO, dropO] at h
  refine h.stor2 1 0 ⟨_, rfl, rfl⟩ rfl ?_
  intro w2 h
  dsimp only [updG, setO] at h
  refine JoinX.mk (fun (y : Bool × Unit) w' => y.1 = !decide (r.looks limit rights held) ∧ St w0 w' (rmE r :: [.cel b9 54 [.int .i64 r.own.1, .int .i64 r.own.2]] :: F)) ?_ ?_
  · rintro ⟨y, ⟨⟩⟩ w3 ⟨hy, h⟩
    dsimp only at hy
    subst hy
    rw [SplitB_iff]
    refine ⟨fun hc => ?_, fun hc => ?_⟩
    · have hc : ¬ r.looks limit rights held := by simpa using hc
      rw [Rn.look, if_neg hc]
      exact ⟨rfl, (h.drop 1).nilrow 114 6⟩
    · have hc : r.looks limit rights held := by simpa using hc
      rw [Rn.look, if_pos hc]
      repeat (first | (with_reducible refine NilP.mk ?_) | ((with_reducible refine RunN.isLoad ?_); (first | refine h.load2 0 0 ⟨_, rfl, rfl⟩ rfl ?_ | refine h.loadB 0 0 ⟨_, rfl, rfl⟩ rfl rfl ?_ | refine h.load2 1 0 ⟨_, rfl, rfl⟩ rfl ?_ | refine h.loadB 1 0 ⟨_, rfl, rfl⟩ rfl rfl ?_ | refine h.drew.load2 0 0 ⟨_, rfl, rfl⟩ rfl ?_ | refine h.drew.loadB 0 0 ⟨_, rfl, rfl⟩ rfl rfl ?_ | refine h.drew.load2 1 0 ⟨_, rfl, rfl⟩ rfl ?_ | refine h.drew.loadB 1 0 ⟨_, rfl, rfl⟩ rfl rfl ?_)) | ((with_reducible refine ReadN.isLoad ?_); (first | refine h.read2 0 0 ⟨_, rfl, rfl⟩ rfl ?_ | refine h.readB 0 0 ⟨_, rfl, rfl⟩ rfl rfl ?_ | refine h.read2 1 0 ⟨_, rfl, rfl⟩ rfl ?_ | refine h.readB 1 0 ⟨_, rfl, rfl⟩ rfl rfl ?_ | refine h.drew.read2 0 0 ⟨_, rfl, rfl⟩ rfl ?_ | refine h.drew.readB 0 0 ⟨_, rfl, rfl⟩ rfl rfl ?_ | refine h.drew.read2 1 0 ⟨_, rfl, rfl⟩ rfl ?_ | refine h.drew.readB 1 0 ⟨_, rfl, rfl⟩ rfl rfl ?_)) | ((with_reducible refine StillV.isLoad ?_); (first | refine ⟨h.stillB 0 0 ⟨_, rfl, rfl⟩ rfl rfl, ?_⟩ | refine ⟨h.still2 0 0 ⟨_, rfl, rfl⟩ rfl, ?_⟩ | refine ⟨h.stillB 1 0 ⟨_, rfl, rfl⟩ rfl rfl, ?_⟩ | refine ⟨h.still2 1 0 ⟨_, rfl, rfl⟩ rfl, ?_⟩)) | ((with_reducible refine RunU.isStor ?_); (first | (refine h.stor2 0 0 ⟨_, rfl, rfl⟩ rfl ?_; intro w h; dsimp only [updG, setO] at h) | (refine h.storB 0 0 ⟨_, rfl, rfl⟩ rfl rfl rfl ?_; intro w h; dsimp only [updG, setO] at h) | (refine h.stor2 1 0 ⟨_, rfl, rfl⟩ rfl ?_; intro w h; dsimp only [updG, setO] at h) | (refine h.storB 1 0 ⟨_, rfl, rfl⟩ rfl rfl rfl ?_; intro w h; dsimp only [updG, setO] at h) | (refine h.drew.stor2 0 0 ⟨_, rfl, rfl⟩ rfl ?_; intro w h; dsimp only [updG, setO] at h) | (refine h.drew.storB 0 0 ⟨_, rfl, rfl⟩ rfl rfl rfl ?_; intro w h; dsimp only [updG, setO] at h) | (refine h.drew.stor2 1 0 ⟨_, rfl, rfl⟩ rfl ?_; intro w h; dsimp only [updG, setO] at h) | (refine h.drew.storB 1 0 ⟨_, rfl, rfl⟩ rfl rfl rfl ?_; intro w h; dsimp only [updG, setO] at h))) | ((with_reducible refine RunN.isBox ?_); (first | (refine h.newB run_boxA rfl ?_; intro bn w h; try dsimp only at h; have h := h.ord 2 [1, 0]; dsimp only [pick, nthO, dropO] at h) | (refine h.drew.newB run_boxA rfl ?_; intro bn w h; try dsimp only at h; have h := h.ord 2 [1, 0]; dsimp only [pick, nthO, dropO] at h))) | ((with_reducible refine RunN.isNew ?_); (first | (refine h.newB (NewC.run _) rfl ?_; intro bn w h; have h := h.ord 2 [1, 0]; dsimp only [pick, nthO, dropO] at h) | (refine h.drew.newB (NewC.run _) rfl ?_; intro bn w h; have h := h.ord 2 [1, 0]; dsimp only [pick, nthO, dropO] at h))) | (refine RunN.k2Eq ?_) | (refine RunN.k2Ne ?_) | (refine ReadN.k2Eq ?_) | (refine ReadN.k2Ne ?_))
      refine newA h.drew (4, (r.me : Int), r.own.1, r.own.2, 0, 0) ?_
      intro s w4 hs h
      exact ⟨hs, h.drop 2⟩
  · intro k hk
    refine h.loadB 1 0 ⟨_, rfl, rfl⟩ rfl rfl ?_
    rw [SplitB_iff]
    refine ⟨fun h1 => ?_, fun h1 => ?_⟩
    · have h1 : r.own.1 = 0 := by simpa using h1
      exact hk _ _ ⟨by dsimp only; rw [decide_eq_false fun hf => hf.1 h1]; rfl, h⟩
    have h1 : r.own.1 ≠ 0 := by simpa using h1
    refine (right_st limit rights held).mono ?_
    rintro _ w4 ⟨rfl, rfl⟩
    rw [SplitB_iff]
    refine ⟨fun h2 => ?_, fun h2 => ?_⟩
    · have h2 : ¬ (okA [limit, rights, held] = true ∧ limit ≠ 0) := by
        intro hh
        rw [hh.1, decide_eq_true hh.2] at h2
        cases h2
      exact hk _ _ ⟨by dsimp only; rw [decide_eq_false fun hf => h2 hf.2.1]; rfl, h⟩
    have h2 : okA [limit, rights, held] = true ∧ limit ≠ 0 := by
      have h2 : (okA [limit, rights, held] && decide (limit ≠ 0)) = true := by simpa using h2
      rw [Bool.and_eq_true] at h2
      exact ⟨h2.1, of_decide_eq_true h2.2⟩
    refine (rreported_st h hw hN).mono ?_
    rintro _ w5 ⟨rfl, h⟩
    have hb := rrepTo_bound hw r.n
    have hb : 0 ≤ r.reported ∧ r.reported ≤ r.n * 1099511627776 := hb
    have h2' := h2.1
    rw [okA_three] at h2'
    have h2' := of_decide_eq_true h2'
    have ew : IntKind.i64.wrap (IntKind.i64.wrap (rights + held) + r.reported) = rights + held + r.reported := by rw [wr (x := rights + held) (by omega), wr (by omega)]
    rw [ew]
    rw [SplitB_iff]
    refine ⟨fun h4 => ?_, fun h4 => ?_⟩
    · have h4 : rights + held + r.reported ≠ limit := by simpa using h4
      exact hk _ _ ⟨by dsimp only; rw [decide_eq_false fun hf => h4 hf.2.2.1]; rfl, h⟩
    have h4 : rights + held + r.reported = limit := by simpa using h4
    refine NilP.mk ?_
    refine h.loadB 0 0 ⟨_, rfl, rfl⟩ rfl (kd := .bool) (x := r.needs) rfl ?_
    rw [SplitB_iff]
    refine ⟨fun h5 => ?_, fun h5 => ?_⟩
    · have h5 : r.needs = true := h5
      refine (rall_st h hw hN).mono ?_
      rintro _ w6 ⟨rfl, h⟩
      refine hk _ _ ⟨?_, h⟩
      dsimp only
      by_cases h6 : r.all = true
      · rw [h6, decide_eq_true ⟨h1, h2, h4, fun _ => h6⟩]
      · rw [decide_eq_false fun hf => h6 (hf.2.2.2 h5)]; simpa using h6
    · have h5 : ¬ r.needs = true := by rw [show r.needs = false from h5]; decide
      exact hk _ _ ⟨by dsimp only; rw [decide_eq_true ⟨h1, h2, h4, fun hh => absurd hh h5⟩]; rfl, h⟩
/-! ### Finish -/
def Rn.finish (r : Rn) : List A6 × Rn := if r.own.1 = 0 then ([], r) else ({ r with over := r.over ++ [r.own] } : Rn).turn r.top
theorem rwf_finish {r : Rn} {N : Nat} (h : r.wf N) : r.finish.2.wf (N + 2) := by
  rw [Rn.finish]
  split
  · exact h.mono (by omega)
  · exact rwf_turn (rwf_over h _) _
theorem rfinish_st {r : Rm} {N : Nat} (h : St w0 w (rmE r :: F)) (hw : r.wf N) (hN : N ≤ 100000000) : CallK Try.prog .sl 40 #[.pointer r.p] w
    fun (s : Sl) w' => ∃ r' : Rm, r'.cb = r.cb ∧ r'.toRn = r.finish.2 ∧ s.len = r.finish.1.length ∧ St w0 w' ([.row 114 6 s (acs r.finish.1)] :: rmE r' :: F) := by
  refine T40.calls ?_
  unfold T40
  have hol := hw.ol
  refine (rtop_st h hw (by omega)).mono ?_
  rintro _ w1 ⟨rfl, h⟩
  first | refine h.newB (NewC.run _) rfl ?_ | refine h.drew.newB (NewC.run _) rfl ?_
  intro b3 w h
  have h := h.ord 2 [1, 0]
  dsimp only [pick, nthO, dropO] at h
  refine h.stor2 1 0 ⟨_, rfl, rfl⟩ rfl ?_
  intro w2 h
  dsimp only [updG, setO] at h
  refine (rown_st h hw (by omega)).mono ?_
  rintro _ w3 ⟨rfl, h⟩
  first | refine h.newB (NewC.run _) rfl ?_ | refine h.drew.newB (NewC.run _) rfl ?_
  intro b4 w h
  have h := h.ord 2 [1, 0]
  dsimp only [pick, nthO, dropO] at h
  refine h.stor2 1 0 ⟨_, rfl, rfl⟩ rfl ?_
  intro w4 h
  dsimp only [updG, setO] at h
  refine h.loadB 1 0 ⟨_, rfl, rfl⟩ rfl rfl ?_
  rw [SplitB_iff]
  refine ⟨fun h1 => ?_, fun h1 => ?_⟩
  · have h1 : r.own.1 = 0 := by simpa using h1
    rw [Rn.finish, if_pos h1]
    exact ⟨r, rfl, rfl, rfl, ((h.drop 1).drop 1).nilrow 114 6⟩
  · have h1 : ¬ r.own.1 = 0 := by simpa using h1
    rw [Rn.finish, if_neg h1]
    refine appOver h (by omega) 1 (b := b4) (x := r.own.1) (y := r.own.2) ⟨_, rfl, rfl⟩ ?_
    intro q' w6 h
    refine h.load2 2 0 ⟨_, rfl, rfl⟩ rfl ?_
    refine (rturn_st h (N := N + 1) (rwf_over hw _) (by omega) r.top).mono ?_
    rintro s w7 ⟨r', g1, g2, g3, h⟩
    exact ⟨r', g1, g2, g3, (h.drop 2).drop 2⟩
/-! ### Begin -/
def topR (l : List Ep) (n : Nat) : Int := (List.range n).foldl (fun (a : Int) (i : Nat) => max a (grV l (i : Int))) 0
theorem topR_succ (l : List Ep) (n : Nat) : topR l (n + 1) = max (topR l n) (grV l (n : Int)) := by rw [topR, List.range_succ, List.foldl_append]; rfl
def Rn.fresh (r : Rn) (all : Bool) : Rn := { r with known := r.known ++ [(topR r.known r.n + 1, (r.me : Int))], needs := all }
def Rn.begin_ (r : Rn) (limit rights held : Int) (all : Bool) : List A6 × Int × Rn :=
  if ¬ (okA [limit, rights, held] = true ∧ limit ≠ 0) then ([], 1, r) else if r.lives.length > 0 then ([], 62, r) else if topR r.known r.n ≥ 1099511627776 then ([], 2, r) else
  if (r.fresh all).look limit rights held = [] then ([(1, -1, topR r.known r.n + 1, (r.me : Int), 0, 0)], 0, r.fresh all) else ((r.fresh all).look limit rights held, 0, r.fresh all)
theorem rwf_fresh {r : Rn} {N : Nat} (h : r.wf N) (all : Bool) : (r.fresh all).wf (N + 1) :=
  ⟨h.n, h.me, by simp [Rn.fresh]; have := h.kl; omega, by have := h.ol; show r.over.length ≤ _; omega, by have := h.nl; show r.notes.length ≤ _; omega, h.nb⟩
theorem rwf_begin {r : Rn} {N : Nat} (h : r.wf N) (a b c : Int) (d : Bool) : (r.begin_ a b c d).2.2.wf (N + 1) := by
  rw [Rn.begin_]
  split
  · exact h.mono (Nat.le_succ _)
  split
  · exact h.mono (Nat.le_succ _)
  split
  · exact h.mono (Nat.le_succ _)
  split <;> exact rwf_fresh h d
theorem grV_ge (l : List Ep) (k : Int) : 0 ≤ grV l k := by
  have : ∀ (l : List Ep) (a : Int), 0 ≤ a → 0 ≤ l.foldl (fun n x => if x.2 = k ∧ x.1 > n then x.1 else n) a := by
    intro l
    induction l with
    | nil => intro a h; exact h
    | cons x t ih =>
      intro a h
      rw [List.foldl_cons]
      refine ih _ ?_
      split <;> omega
  exact this l 0 (Int.le_refl _)
theorem topR_ge (l : List Ep) : ∀ n, 0 ≤ topR l n
  | 0 => Int.le_refl _
  | n + 1 => by rw [topR_succ]; have := topR_ge l n; omega
theorem rbegin_st {r : Rm} {N : Nat} (h : St w0 w (rmE r :: F)) (hw : r.wf N) (hN : N ≤ 100000000) (limit rights held : Int) (all : Bool) : CallK Try.prog (.tup (.cons .sl (.cons (.int .i64) .nilT))) 31 #[.pointer r.p, .int .i64 limit, .int .i64 rights, .int .i64 held, .bool all] w
    fun (v : Sl × Int × Unit) w' => ∃ (s : Sl) (r' : Rm), v = (s, (r.begin_ limit rights held all).2.1, ()) ∧ r'.cb = r.cb ∧ r'.toRn = (r.begin_ limit rights held all).2.2 ∧ s.len = (r.begin_ limit rights held all).1.length ∧ St w0 w' ([.row 114 6 s (acs (r.begin_ limit rights held all).1)] :: rmE r' :: F) := by
  refine T31.calls ?_
  unfold T31
  have hn := hw.n
  have hkl := hw.kl
  refine (right_st limit rights held).mono ?_
  rintro _ w1 ⟨rfl, rfl⟩
  rw [SplitB_iff]
  refine ⟨fun h1 => ?_, fun h1 => ?_⟩
  · have h1 : ¬ (okA [limit, rights, held] = true ∧ limit ≠ 0) := by
      intro hh
      rw [hh.1, decide_eq_true hh.2] at h1
      cases h1
    rw [Rn.begin_, if_pos h1]
    exact ⟨_, r, rfl, rfl, rfl, rfl, h.nilrow 114 6⟩
  have h1 : ¬ ¬ (okA [limit, rights, held] = true ∧ limit ≠ 0) := by
    have h1 : (okA [limit, rights, held] && decide (limit ≠ 0)) = true := by simpa using h1
    rw [Bool.and_eq_true] at h1
    exact fun hh => hh ⟨h1.1, of_decide_eq_true h1.2⟩
  refine (rfrozen_st h hw (by omega)).mono ?_
  rintro _ w2 ⟨rfl, h⟩
  rw [SplitB_iff]
  refine ⟨fun h2 => ?_, fun h2 => ?_⟩
  · have h2 := of_decide_eq_true h2
    rw [Rn.begin_, if_neg h1, if_pos h2]
    exact ⟨_, r, rfl, rfl, rfl, rfl, h.nilrow 114 6⟩
  have h2 := of_decide_eq_false h2
  refine LoopX.mk (fun st w' => ∃ (m : Nat), st = (topR r.known m, (m : Int), ()) ∧ m ≤ r.n ∧ St w0 w' (rmE r :: F)) (fun st => ((r.n : Int) - st.2.1).toNat) ⟨0, rfl, Nat.zero_le _, h⟩ ?_
  clear h
  rintro _ w3 ⟨m, rfl, hm, h⟩ k hk
  dsimp only at hk ⊢
  repeat (first | (with_reducible refine NilP.mk ?_) | ((with_reducible refine RunN.isLoad ?_); (first | refine h.load2 0 0 ⟨_, rfl, rfl⟩ rfl ?_ | refine h.loadB 0 0 ⟨_, rfl, rfl⟩ rfl rfl ?_ | refine h.drew.load2 0 0 ⟨_, rfl, rfl⟩ rfl ?_ | refine h.drew.loadB 0 0 ⟨_, rfl, rfl⟩ rfl rfl ?_)) | ((with_reducible refine ReadN.isLoad ?_); (first | refine h.read2 0 0 ⟨_, rfl, rfl⟩ rfl ?_ | refine h.readB 0 0 ⟨_, rfl, rfl⟩ rfl rfl ?_ | refine h.drew.read2 0 0 ⟨_, rfl, rfl⟩ rfl ?_ | refine h.drew.readB 0 0 ⟨_, rfl, rfl⟩ rfl rfl ?_)) | ((with_reducible refine StillV.isLoad ?_); (first | refine ⟨h.stillB 0 0 ⟨_, rfl, rfl⟩ rfl rfl, ?_⟩ | refine ⟨h.still2 0 0 ⟨_, rfl, rfl⟩ rfl, ?_⟩)) | ((with_reducible refine RunU.isStor ?_); (first | (refine h.stor2 0 0 ⟨_, rfl, rfl⟩ rfl ?_; intro w h; dsimp only [updG, setO] at h) | (refine h.storB 0 0 ⟨_, rfl, rfl⟩ rfl rfl rfl ?_; intro w h; dsimp only [updG, setO] at h) | (refine h.drew.stor2 0 0 ⟨_, rfl, rfl⟩ rfl ?_; intro w h; dsimp only [updG, setO] at h) | (refine h.drew.storB 0 0 ⟨_, rfl, rfl⟩ rfl rfl rfl ?_; intro w h; dsimp only [updG, setO] at h))) | ((with_reducible refine RunN.isBox ?_); (first | (refine h.newB run_boxA rfl ?_; intro bn w h; try dsimp only at h; have h := h.ord 2 [1, 0]; dsimp only [pick, nthO, dropO] at h) | (refine h.drew.newB run_boxA rfl ?_; intro bn w h; try dsimp only at h; have h := h.ord 2 [1, 0]; dsimp only [pick, nthO, dropO] at h))) | ((with_reducible refine RunN.isNew ?_); (first | (refine h.newB (NewC.run _) rfl ?_; intro bn w h; have h := h.ord 2 [1, 0]; dsimp only [pick, nthO, dropO] at h) | (refine h.drew.newB (NewC.run _) rfl ?_; intro bn w h; have h := h.ord 2 [1, 0]; dsimp only [pick, nthO, dropO] at h))) | (refine RunN.k2Eq ?_) | (refine RunN.k2Ne ?_) | (refine ReadN.k2Eq ?_) | (refine ReadN.k2Ne ?_))
  rw [SplitB_iff]
  refine ⟨fun hc => ?_, fun hc => ?_⟩
  · have hc : m < r.n := by have : (m : Int) < (r.n : Int) := of_decide_eq_true hc; omega
    have hem : IntKind.i64.wrap ((m : Int) + 1) = ((m + 1 : Nat) : Int) := by rw [wr (by omega)]; omega
    refine NilP.mk ?_
    refine h.loadB 0 0 ⟨_, rfl, rfl⟩ rfl (kd := .sl) (x := r.kq) rfl ?_
    refine (greatest_st (h.rd (k := 0) (i := 1) (E := 54) (sz := 2) (s := r.kq) (vs := eps r.known) ⟨_, rfl, rfl⟩) (by omega) _).mono ?_
    rintro _ w4 ⟨rfl, rfl⟩
    refine RunN.of (kd := .int .i64) (max_i _ _ _) ?_
    rw [hem, ← topR_succ]
    exact hk _ _ ⟨m + 1, rfl, by omega, h⟩ (by dsimp only; omega)
  have hc : m = r.n := by have : ¬ (m : Int) < (r.n : Int) := of_decide_eq_false hc; omega
  subst hc
  rw [SplitB_iff]
  refine ⟨fun h3 => ?_, fun h3 => ?_⟩
  · have h3 := of_decide_eq_true h3
    rw [Rn.begin_, if_neg h1, if_neg h2, if_pos h3]
    exact ⟨_, r, rfl, rfl, rfl, rfl, h.nilrow 114 6⟩
  have h3 := of_decide_eq_false h3
  have h0 := topR_ge r.known r.n
  rw [Rn.begin_, if_neg h1, if_neg h2, if_neg h3]
  have ew : IntKind.i64.wrap (topR r.known r.n + 1) = topR r.known r.n + 1 := wr (by omega)
  rw [ew]
  refine NilP.mk ?_
  refine h.loadB 0 0 ⟨_, rfl, rfl⟩ rfl rfl ?_
  first | refine h.newB (NewC.run _) rfl ?_ | refine h.drew.newB (NewC.run _) rfl ?_
  intro b14 w h
  have h := h.ord 2 [1, 0]
  dsimp only [pick, nthO, dropO] at h
  refine h.stor2 1 0 ⟨_, rfl, rfl⟩ rfl ?_
  intro w4 h
  dsimp only [updG, setO] at h
  refine appKnown h (by omega) 1 (b := b14) ⟨_, rfl, rfl⟩ ?_
  intro q' w5 h
  refine NilP.mk ?_
  refine h.storB 0 0 (j := 5) ⟨_, rfl, rfl⟩ rfl rfl rfl ?_
  intro w6 h
  have h : St w0 w6 (rmE { r with toRn := r.fresh all, kq := q' } :: [.cel b14 54 [.int .i64 (topR r.known r.n + 1), .int .i64 (r.me : Int)]] :: F) := h
  refine (rlook_st h (rwf_fresh hw all) (by omega) limit rights held).mono ?_
  rintro s w7 ⟨hs, h⟩
  have hs : s.len = ((r.fresh all).look limit rights held).length := hs
  have h : St w0 w7 ([.row 114 6 s (acs ((r.fresh all).look limit rights held))] :: rmE { r with toRn := r.fresh all, kq := q' } :: [.cel b14 54 [.int .i64 (topR r.known r.n + 1), .int .i64 (r.me : Int)]] :: F) := h
  have hX : (if (r.fresh all).look limit rights held = [] then (([(1, -1, topR r.known r.n + 1, (r.me : Int), 0, 0)], 0, r.fresh all) : List A6 × Int × Rn) else ((r.fresh all).look limit rights held, 0, r.fresh all)) = ((if (r.fresh all).look limit rights held = [] then [(1, -1, topR r.known r.n + 1, (r.me : Int), 0, 0)] else (r.fresh all).look limit rights held), 0, r.fresh all) := by split <;> rfl
  rw [hX]
  dsimp only
  generalize hl : (r.fresh all).look limit rights held = L at *
  refine JoinX.mk (fun (y : Sl × Unit) w' => y.1.len = (if L = [] then [((1 : Int), (-1 : Int), topR r.known r.n + 1, (r.me : Int), (0 : Int), (0 : Int))] else L).length ∧ St w0 w' ([.row 114 6 y.1 (acs (if L = [] then [((1 : Int), (-1 : Int), topR r.known r.n + 1, (r.me : Int), (0 : Int), (0 : Int))] else L))] :: rmE { r with toRn := r.fresh all, kq := q' } :: F)) ?_ ?_
  · rintro ⟨y, ⟨⟩⟩ w8 ⟨hy, h⟩
    exact ⟨y, { r with toRn := r.fresh all, kq := q' }, rfl, rfl, rfl, hy, h⟩
  · intro k3 hk3
    rw [SplitB_iff]
    refine ⟨fun hd => ?_, fun hd => ?_⟩
    · have hd : L = [] := by
        have : (s.len : Int) = 0 := by simpa using hd
        exact List.length_eq_zero_iff.1 (by omega)
      refine h.load2 2 0 ⟨_, rfl, rfl⟩ rfl ?_
      refine newA h (1, -1, topR r.known r.n + 1, (r.me : Int), 0, 0) ?_
      intro s2 w8 hs2 h
      refine hk3 _ _ ⟨?_, ?_⟩
      · rw [if_pos hd]; exact hs2
      · rw [if_pos hd]; exact (h.drop 1).drop 2
    · have hd : L ≠ [] := by
        have : ¬ (s.len : Int) = 0 := by simpa using hd
        intro hn; rw [hn] at hs; simp at hs; omega
      refine hk3 _ _ ⟨?_, ?_⟩
      · rw [if_neg hd]; exact hs
      · rw [if_neg hd]; exact h.drop 2
/-! ### New -/
def rn0 (me n : Nat) : Rn := ⟨me, n, [], [], [], false⟩
theorem rwf0 {me n : Nat} (h : 2 ≤ n ∧ n ≤ 16) (hm : me < n) : (rn0 me n).wf 0 := ⟨h, hm, by simp [rn0], by simp [rn0], by simp [rn0], fun x hx => by simp [rn0] at hx⟩
theorem rnew_st (h : St w0 w F) (me n : Int) : CallK Try.prog (.tup (.cons .ptr (.cons (.int .i64) .nilT))) 29 #[.int .i64 me, .int .i64 n] w fun (v : Option Addr × Int × Unit) w' =>
    (newE me n ≠ 0 ∧ v = (none, newE me n, ()) ∧ St w0 w' F) ∨
    (newE me n = 0 ∧ ∃ r : Rm, v = (r.p, 0, ()) ∧ (r.me : Int) = me ∧ (r.n : Int) = n ∧ r.toRn = rn0 r.me r.n ∧ r.wf 0 ∧ St w0 w' (rmE r :: F)) := by
  refine T29.calls ?_
  unfold T29
  refine JoinX.mk (fun (y : Bool × Unit) w' => y.1 = decide (n < 2 ∨ n > 16) ∧ St w0 w' F) ?_ ?_
  · rintro ⟨y, ⟨⟩⟩ w2 ⟨hy, h⟩
    dsimp only at hy
    subst hy
    rw [SplitB_iff]
    refine ⟨fun h1 => ?_, fun h1 => ?_⟩
    · have h1 := of_decide_eq_true h1
      have e : newE me n = 1 := if_pos h1
      exact .inl ⟨by rw [e]; decide, by rw [e], h⟩
    have h1 := of_decide_eq_false h1
    refine JoinX.mk (fun (y : Bool × Unit) w' => y.1 = decide (me < 0 ∨ me ≥ n) ∧ St w0 w' F) ?_ ?_
    · rintro ⟨y, ⟨⟩⟩ w3 ⟨hy, h⟩
      dsimp only at hy
      subst hy
      rw [SplitB_iff]
      refine ⟨fun h2 => ?_, fun h2 => ?_⟩
      · have h2 := of_decide_eq_true h2
        have e : newE me n = 3 := (if_neg h1).trans (if_pos h2)
        exact .inl ⟨by rw [e]; decide, by rw [e], h⟩
      have h2 := of_decide_eq_false h2
      have e : newE me n = 0 := (if_neg h1).trans (if_neg h2)
      obtain ⟨m', rfl⟩ := Int.eq_ofNat_of_zero_le (show 0 ≤ me by omega)
      obtain ⟨n', rfl⟩ := Int.eq_ofNat_of_zero_le (show 0 ≤ n by omega)
      refine h.newB run_boxA rfl ?_
      intro cb w5 h
      have h := ((h.nilrow 118 4).nilrow 54 2).nilrow 54 2
      have h : St w0 w5 (rmE ⟨rn0 m' n', cb, ⟨none, 0, 0⟩, ⟨none, 0, 0⟩, ⟨none, 0, 0⟩⟩ :: F) := by
        have h := h.ord 4 [3, 0, 1, 2]
        exact h.perm (by simp [rmE, rmC, rn0, pick, nthO, dropO])
      exact .inr ⟨e, ⟨rn0 m' n', cb, _, _, _⟩, rfl, rfl, rfl, rfl, rwf0 (by omega) (by omega), h⟩
    · intro k hk
      rw [SplitB_iff]
      refine ⟨fun h2 => ?_, fun h2 => ?_⟩
      · have h2 : me < 0 := of_decide_eq_true h2
        exact hk _ _ ⟨by simp [h2], h⟩
      · have h2 : ¬ me < 0 := of_decide_eq_false h2
        exact hk _ _ ⟨by simp [h2], h⟩
  · intro k hk
    rw [SplitB_iff]
    refine ⟨fun h2 => ?_, fun h2 => ?_⟩
    · have h2 : n < 2 := of_decide_eq_true h2
      exact hk _ _ ⟨by simp [h2], h⟩
    · have h2 : ¬ n < 2 := of_decide_eq_false h2
      exact hk _ _ ⟨by simp [h2], h⟩
end Go.Proofs.Ytmfbmfppjdkeeaa

/- The plain law: the epoch's machine and the document's tell the same. -/
namespace Go.Proofs.Ytmfbmfppjdkeeaa
open Go Go.Fw Go.RowKit
set_option linter.unusedVariables false
set_option linter.unusedSimpArgs false
set_option maxRecDepth 4000
set_option maxHeartbeats 1000000

structure Rel (e : Mv) (r : Rn) : Prop where
  me : r.me = e.me
  n : r.n = e.n
  needs : r.needs = e.needs
  kn : ∀ i : Nat, i < e.n → gI e.kn i = grV r.known (i : Int)
  fi : ∀ i : Nat, i < e.n → gI e.fi i = grV r.over (i : Int)
  hi : ∀ i : Nat, e.n ≤ i → gI e.kn i = 0
  fm : gI e.fi e.me ≤ gI e.kn e.me
  re : someE e.own = true → ∀ i : Nat, i < e.n → i ≠ e.me → (gI e.re i = -1 ∧ repV r.notes e.own (i : Int) = none) ∨ (0 ≤ gI e.re i ∧ repV r.notes e.own (i : Int) = some (gI e.re i))
  rme : someE e.own = true → gI e.re e.me = -1
  nt : ∀ x ∈ r.notes, x.1 ≠ (e.me : Int) ∧ x.2.2.1 ≤ gI e.kn e.me
variable {e : Mv} {r : Rn}
theorem someE_iff (x : Ep) : someE x = true ↔ x ≠ (0, 0) := by
  rw [someE]
  constructor
  · rintro h rfl; cases h
  · intro h
    by_cases h1 : x.1 = 0
    · by_cases h2 : x.2 = 0
      · exact absurd (Prod.ext h1 h2) h
      · simp [h2]
    · simp [h1]
theorem someE_pos {x : Ep} (h : x.1 > 0) : someE x = true := (someE_iff x).2 fun he => by rw [he] at h; exact absurd h (by decide)
theorem topE_mem : ∀ (l : List Ep), topE l = (0, 0) ∨ topE l ∈ l := by
  have : ∀ (l : List Ep) (a : Ep), l.foldl (fun t x => if x.1 ≥ t.1 then x else t) a = a ∨ l.foldl (fun t x => if x.1 ≥ t.1 then x else t) a ∈ l := by
    intro l
    induction l with
    | nil => intro a; exact .inl rfl
    | cons x t ih =>
      intro a
      rw [List.foldl_cons]
      rcases ih (if x.1 ≥ a.1 then x else a) with h | h
      · rw [h]
        split
        · exact .inr (List.mem_cons_self ..)
        · exact .inl rfl
      · exact .inr (List.mem_cons_of_mem _ h)
  exact fun l => this l (0, 0)
theorem topE_le : ∀ (l : List Ep), ∀ x ∈ l, x.1 ≤ (topE l).1 := by
  have : ∀ (l : List Ep) (a : Ep), a.1 ≤ (l.foldl (fun t x => if x.1 ≥ t.1 then x else t) a).1 ∧ ∀ x ∈ l, x.1 ≤ (l.foldl (fun t x => if x.1 ≥ t.1 then x else t) a).1 := by
    intro l
    induction l with
    | nil => intro a; exact ⟨Int.le_refl _, fun x hx => by cases hx⟩
    | cons y t ih =>
      intro a
      rw [List.foldl_cons]
      obtain ⟨h1, h2⟩ := ih (if y.1 ≥ a.1 then y else a)
      have h3 : y.1 ≤ (if y.1 ≥ a.1 then y else a).1 := by split <;> omega
      have h4 : a.1 ≤ (if y.1 ≥ a.1 then y else a).1 := by split <;> omega
      refine ⟨by omega, fun x hx => ?_⟩
      rcases List.mem_cons.1 hx with rfl | hx
      · omega
      · exact h2 x hx
  exact fun l => (this l (0, 0)).2
theorem mem_lives {x : Ep} : x ∈ e.lives ↔ ∃ i, i < e.n ∧ e.lv i = true ∧ x = (gI e.kn i, (i : Int)) := by
  rw [Mv.lives, List.mem_map]
  constructor
  · rintro ⟨i, hi, rfl⟩
    have := List.mem_filter.1 hi
    exact ⟨i, List.mem_range.1 this.1, this.2, rfl⟩
  · rintro ⟨i, h1, h2, rfl⟩
    exact ⟨i, List.mem_filter.2 ⟨List.mem_range.2 h1, h2⟩, rfl⟩
theorem live_pos (h : e.wf) {i : Nat} (hi : i < e.n) (hl : e.lv i = true) : 1 ≤ gI e.kn i := by
  have hn := h.n
  have h1 := h.fb _ (gI_mem (l := e.fi) (i := i) (by rw [h.fl]; omega))
  have h2 : gI e.kn i > gI e.fi i := of_decide_eq_true hl
  omega
theorem own_live (h : e.wf) : (e.lv e.me = true ∧ e.own = (gI e.kn e.me, (e.me : Int)) ∧ e.own.1 ≥ 1 ∧ someE e.own = true) ∨ (e.lv e.me = false ∧ e.own = (0, 0) ∧ someE e.own = false) := by
  cases hl : e.lv e.me with
  | true =>
    have e1 : e.own = (gI e.kn e.me, (e.me : Int)) := by rw [Mv.own, Mv.ep, if_pos hl]
    have := live_pos h h.me hl
    exact .inl ⟨rfl, e1, by rw [e1]; exact this, someE_pos (by rw [e1]; exact this)⟩
  | false =>
    have e1 : e.own = (0, 0) := by rw [Mv.own, Mv.ep, if_neg (by rw [hl]; decide)]
    exact .inr ⟨rfl, e1, by rw [e1]; rfl⟩
theorem own_some (h : e.wf) : someE e.own = true ↔ e.own.1 > 0 := by
  rcases own_live h with ⟨_, _, h1, h2⟩ | ⟨_, h1, h2⟩
  · exact ⟨fun _ => h1, fun _ => h2⟩
  · rw [h1]; exact ⟨fun h => (by cases h), fun h => (by cases h)⟩
theorem own_zero (h : e.wf) : e.own.1 = 0 ↔ ¬ someE e.own = true := by
  rcases own_live h with ⟨_, _, h1, h2⟩ | ⟨_, h1, h2⟩
  · exact ⟨fun h => by omega, fun h => absurd h2 h⟩
  · rw [h1]; exact ⟨fun _ => by decide, fun _ => rfl⟩
theorem top_some (h : e.wf) : (e.lives = [] ∧ e.top = (0, 0)) ∨ (e.lives ≠ [] ∧ e.top ∈ e.lives ∧ e.top.1 ≥ 1 ∧ someE e.top = true) := by
  by_cases hl : e.lives = []
  · exact .inl ⟨hl, by rw [Mv.top, hl]; rfl⟩
  · right
    obtain ⟨x, hx⟩ := List.exists_mem_of_ne_nil _ hl
    obtain ⟨i, h1, h2, rfl⟩ := mem_lives.1 hx
    have h3 := live_pos h h1 h2
    have h4 := topE_le _ _ hx
    have h5 : e.top.1 ≥ 1 := by rw [Mv.top]; dsimp only at h4; omega
    refine ⟨hl, ?_, h5, someE_pos h5⟩
    rcases topE_mem e.lives with h6 | h6
    · rw [Mv.top, h6] at h5; exact absurd h5 (by decide)
    · exact h6
theorem own_mem (h : e.wf) (hs : someE e.own = true) : e.own ∈ e.lives := by
  rcases own_live h with ⟨h1, h2, _, _⟩ | ⟨_, _, h1⟩
  · rw [h2]; exact mem_lives.2 ⟨e.me, h.me, h1, rfl⟩
  · rw [h1] at hs; cases hs
theorem top_of_own (h : e.wf) (hs : someE e.own = true) : e.top.1 ≥ 1 ∧ someE e.top = true := by
  rcases top_some h with ⟨h1, _⟩ | ⟨_, _, h2, h3⟩
  · have := own_mem h hs; rw [h1] at this; cases this
  · exact ⟨h2, h3⟩
theorem top_zero (h : e.wf) : e.top.1 = 0 ↔ someE e.top = false := by
  rcases top_some h with ⟨_, h1⟩ | ⟨_, _, h2, h3⟩
  · rw [h1]; exact ⟨fun _ => rfl, fun _ => rfl⟩
  · rw [h3]; exact ⟨fun h => by omega, fun h => by cases h⟩
theorem top_pos (h : e.wf) : e.top.1 > 0 ↔ someE e.top = true := by
  rcases top_some h with ⟨_, h1⟩ | ⟨_, _, h2, h3⟩
  · rw [h1]; exact ⟨fun h => (by cases h), fun h => (by cases h)⟩
  · rw [h3]; exact ⟨fun _ => rfl, fun _ => by omega⟩
namespace Rel
theorem lvE (h : Rel e r) {i : Nat} (hi : i < e.n) : r.lv i = e.lv i := by rw [Rn.lv, Mv.lv, h.kn i hi, h.fi i hi]
theorem livesTo (h : Rel e r) : ∀ m, m ≤ e.n → r.livesTo m = e.livesTo m
  | 0, _ => rfl
  | m + 1, hm => by rw [rlivesTo_succ, livesTo_succ, h.livesTo m (by omega), h.lvE (by omega), h.kn m (by omega)]
theorem lives (h : Rel e r) : r.lives = e.lives := by rw [Rn.lives, h.n]; exact h.livesTo _ (Nat.le_refl _)
theorem top (h : Rel e r) : r.top = e.top := by rw [Rn.top, Mv.top, h.lives]
theorem own (h : Rel e r) (hw : e.wf) : r.own = e.own := by
  rw [Rn.own, h.lives, h.me]
  rcases own_live hw with ⟨h1, h2, _, _⟩ | ⟨h1, h2, _⟩
  · cases hf : e.lives.find? (fun x => x.2 == (e.me : Int)) with
    | none =>
      rw [List.find?_eq_none] at hf
      have := hf _ (mem_lives.2 ⟨e.me, hw.me, h1, rfl⟩)
      simp at this
    | some x =>
      have h3 := List.mem_of_find?_eq_some hf
      have h4 := List.find?_some hf
      obtain ⟨i, h5, h6, rfl⟩ := mem_lives.1 h3
      have : i = e.me := by have : (i : Int) = (e.me : Int) := by simpa using h4
                            omega
      subst this
      rw [h2]; rfl
  · have hf : e.lives.find? (fun x => x.2 == (e.me : Int)) = none := by
      rw [List.find?_eq_none]
      intro x hx
      obtain ⟨i, h5, h6, rfl⟩ := mem_lives.1 hx
      intro h7
      have : i = e.me := by have : (i : Int) = (e.me : Int) := by simpa using h7
                            omega
      subst this
      rw [h1] at h6; cases h6
    rw [hf, h2]; rfl
end Rel
theorem gI_set {l : List Int} {i j : Nat} {x : Int} (hi : i < l.length) : gI (l.set i x) j = if j = i then x else gI l j := by
  rw [gI, gI, List.getElem?_set]
  by_cases h : i = j
  · subst h; rw [if_pos rfl, if_pos hi, if_pos rfl]; rfl
  · rw [if_neg h, if_neg (fun h' => h h'.symm)]
/-! ### told -/
theorem foreign_iff (h : Rel e r) (x : Ep) : e.foreign x ↔ (r.one x ∧ x.2 ≠ (r.me : Int)) := by
  rw [Mv.foreign, Rn.one, h.me, h.n]
  simp only [not_or]
  constructor
  · rintro ⟨h1, h2, h3, h4, h5⟩; exact ⟨⟨by omega, by omega, by omega, by omega⟩, h5⟩
  · rintro ⟨⟨h1, h2, h3, h4⟩, h5⟩; exact ⟨by omega, by omega, by omega, by omega, h5⟩
theorem foreign_ix {x : Ep} (h : e.foreign x) : ∃ i : Nat, x.2 = (i : Int) ∧ x.2.toNat = i ∧ i < e.n ∧ i ≠ e.me ∧ 1 ≤ x.1 ∧ x.1 ≤ 1099511627776 := by
  simp only [Mv.foreign, not_or] at h
  refine ⟨x.2.toNat, by omega, rfl, by omega, by omega, by omega, by omega⟩
theorem gr_at (l : List Ep) (x : Ep) (k : Nat) (i : Nat) (hx : x.2 = (i : Int)) : grV (l ++ [x]) (k : Int) = if k = i then max (grV l (k : Int)) x.1 else grV l (k : Int) := by
  rw [grV_snoc, hx]
  by_cases h : k = i
  · subst h
    rw [if_pos rfl]
    by_cases h2 : x.1 > grV l (k : Int)
    · rw [if_pos ⟨rfl, h2⟩]; omega
    · rw [if_neg (fun hh => h2 hh.2)]; omega
  · rw [if_neg h, if_neg]
    intro hh
    have := hh.1
    omega
theorem own_same {e' : Mv} (h1 : e'.me = e.me) (h2 : gI e'.kn e.me = gI e.kn e.me) (h3 : gI e'.fi e.me = gI e.fi e.me) : e'.own = e.own := by
  rw [Mv.own, Mv.own, h1, Mv.ep, Mv.ep, Mv.lv, Mv.lv, h2, h3]
theorem rel_told (h : Rel e r) (hw : e.wf) (x : Ep) : Rel (e.told x false) (r.told x) := by
  have hn := hw.n
  by_cases hf : e.foreign x
  · have hr := (foreign_iff h x).1 hf
    rw [Mv.told, if_pos hf, Rn.told, if_pos hr]
    obtain ⟨i, h1, h2, h3, h4, h5, h6⟩ := foreign_ix hf
    have hl : i < e.kn.length := by rw [hw.kl]; omega
    simp only [h2, Bool.false_eq_true, if_false]
    have hk : ∀ j, gI (e.kn.set i (max (gI e.kn i) x.1)) j = if j = i then max (gI e.kn i) x.1 else gI e.kn j := fun j => gI_set hl
    have ho : ({ e with kn := e.kn.set i (max (gI e.kn i) x.1), fi := e.fi } : Mv).own = e.own := own_same rfl (by rw [hk, if_neg (Ne.symm h4)]) rfl
    refine ⟨h.me, h.n, h.needs, fun j hj => ?_, h.fi, fun j hj => ?_, ?_, ?_, ?_, ?_⟩
    · dsimp only at hj ⊢
      rw [hk, gr_at _ _ _ _ h1]
      split
      · rename_i he; subst he; rw [h.kn _ h3]
      · exact h.kn j hj
    · dsimp only at hj ⊢
      rw [hk, if_neg (by omega)]
      exact h.hi j hj
    · dsimp only
      rw [hk, if_neg (Ne.symm h4)]; exact h.fm
    · rw [ho]; exact h.re
    · rw [ho]; exact h.rme
    · dsimp only
      rw [hk, if_neg (Ne.symm h4)]; exact h.nt
  · have hr := fun hh => hf ((foreign_iff h x).2 hh)
    rw [Mv.told, if_neg hf, Rn.told, if_neg hr]
    exact h
theorem rel_told2 (h : Rel e r) (hw : e.wf) (x : Ep) : Rel (e.told x true) (r.told2 x) := by
  have hn := hw.n
  have h0 := rel_told h hw x
  by_cases hf : e.foreign x
  · have hr := (foreign_iff h x).1 hf
    rw [Mv.told, if_pos hf, Rn.told2, if_pos hr]
    rw [Mv.told, if_pos hf] at h0
    obtain ⟨i, h1, h2, h3, h4, h5, h6⟩ := foreign_ix hf
    have hl : i < e.fi.length := by rw [hw.fl]; omega
    simp only [h2, Bool.false_eq_true, if_false, if_true] at h0 ⊢
    have hk : ∀ j, gI (e.fi.set i (max (gI e.fi i) x.1)) j = if j = i then max (gI e.fi i) x.1 else gI e.fi j := fun j => gI_set hl
    have ho : ({ e with kn := e.kn.set i (max (gI e.kn i) x.1), fi := e.fi.set i (max (gI e.fi i) x.1) } : Mv).own = ({ e with kn := e.kn.set i (max (gI e.kn i) x.1), fi := e.fi } : Mv).own := own_same rfl rfl (by dsimp only; rw [hk, if_neg (Ne.symm h4)])
    have hov : (r.told x).over = r.over := by rw [Rn.told]; split <;> rfl
    refine ⟨h0.me, h0.n, h0.needs, h0.kn, fun j hj => ?_, h0.hi, ?_, ?_, ?_, h0.nt⟩
    · dsimp only at hj ⊢
      rw [hov, hk, gr_at _ _ _ _ h1]
      split
      · rename_i he; subst he; rw [h.fi _ h3]
      · exact h.fi j hj
    · have := h0.fm
      dsimp only at this ⊢
      rw [hk, if_neg (Ne.symm h4)]; exact this
    · rw [ho]; exact h0.re
    · rw [ho]; exact h0.rme
  · have hr := fun hh => hf ((foreign_iff h x).2 hh)
    rw [Mv.told, if_neg hf, Rn.told2, if_neg hr]
    exact h
/-! ### turn -/
theorem rel_fin (h : Rel e r) (hw : e.wf) (hs : someE e.own = true) : Rel { e with fi := e.fi.set e.me e.own.1 } { r with over := r.over ++ [r.own] } := by
  have hn := hw.n
  have hm := hw.me
  rcases own_live hw with ⟨h1, h2, h3, _⟩ | ⟨_, _, h1⟩
  · have hl : e.me < e.fi.length := by rw [hw.fl]; omega
    have hk : ∀ j, gI (e.fi.set e.me e.own.1) j = if j = e.me then e.own.1 else gI e.fi j := fun j => gI_set hl
    have hlv : gI e.kn e.me > gI e.fi e.me := of_decide_eq_true h1
    have ho : ({ e with fi := e.fi.set e.me e.own.1 } : Mv).own = (0, 0) := by
      rw [Mv.own, Mv.ep, if_neg]
      rw [Mv.lv]
      dsimp only
      rw [hk, if_pos rfl, h2]
      simp
    have hno : someE ({ e with fi := e.fi.set e.me e.own.1 } : Mv).own = true → False := by rw [ho]; intro h; cases h
    refine ⟨h.me, h.n, h.needs, h.kn, fun j hj => ?_, h.hi, ?_, fun hh => (hno hh).elim, fun hh => (hno hh).elim, h.nt⟩
    · dsimp only at hj ⊢
      rw [hk, h.own hw, gr_at _ _ _ e.me (by rw [h2])]
      split
      · rename_i he; subst he
        rw [← h.fi _ hm, h2]
        dsimp only; omega
      · exact h.fi j hj
    · dsimp only
      rw [hk, if_pos rfl, h2]; exact Int.le_refl _
  · rw [h1] at hs; cases hs
theorem turn_eq (h : Rel e r) (hw : e.wf) {was : Ep} (hwas : was = (0, 0) ∨ was.1 ≥ 1) : (e.turn was).1 = (r.turn was).1 ∧ Rel (e.turn was).2 (r.turn was).2 := by
  have hown := h.own hw
  have htop := h.top
  have ht : e.turns ↔ r.turns := by
    rw [Mv.turns, Rn.turns, hown, htop, own_some hw]
  by_cases hc : e.turns
  · have hs := hc.1
    have hne := hc.2
    obtain ⟨ht1, ht2⟩ := top_of_own hw hs
    rw [Mv.turn, if_pos hc, Rn.turn, if_pos (ht.1 hc)]
    refine ⟨?_, rel_fin h hw hs⟩
    rw [tailA, if_neg (by rintro (h1 | ⟨_, h1⟩) <;> exact hne h1), if_neg (by rw [ht2]; decide), hown, htop, h.me]; rfl
  · rw [Mv.turn, if_neg hc, Rn.turn, if_neg (fun hh => hc (ht.2 hh)), hown, htop, h.me]
    by_cases h1 : e.top.1 > 0 ∧ e.top ≠ e.own ∧ e.top ≠ was
    · rw [if_pos h1]
      refine ⟨?_, h⟩
      rw [tailA, if_neg (by rintro (h2 | ⟨_, h2⟩); exact h1.2.2 h2; exact h1.2.1 h2), if_neg (by rw [(top_pos hw).1 h1.1]; decide)]
    · rw [if_neg h1]
      by_cases h2 : e.top.1 = 0 ∧ was.1 > 0
      · rw [if_pos h2]
        refine ⟨?_, h⟩
        have hz := (top_zero hw).1 h2.1
        rw [tailA, if_neg, if_pos hz]
        rintro (h3 | ⟨h3, h4⟩)
        · rw [h3] at h2; omega
        · rw [← h4, hz] at h3; cases h3
      · rw [if_neg h2]
        refine ⟨?_, h⟩
        rw [tailA, if_pos]
        by_cases h3 : e.top.1 > 0
        · by_cases h4 : e.top = was
          · exact .inl h4
          · right
            have h5 : e.top = e.own := by
              by_cases h5 : e.top = e.own
              · exact h5
              · exact absurd ⟨h3, h5, h4⟩ h1
            exact ⟨by rw [← h5]; exact (top_pos hw).1 h3, h5⟩
        · left
          rcases top_some hw with ⟨_, h4⟩ | ⟨_, _, h4, _⟩
          · rcases hwas with h5 | h5
            · rw [h4, h5]
            · exact absurd ⟨by rw [h4], by omega⟩ h2
          · omega
theorem top_was (hw : e.wf) : e.top = (0, 0) ∨ e.top.1 ≥ 1 := by
  rcases top_some hw with ⟨_, h1⟩ | ⟨_, _, h2, h3⟩
  · exact .inl h1
  · exact .inr h2
theorem hear_eq (h : Rel e r) (hw : e.wf) (x : Ep) : (e.hear x).1 = (r.hear x).1 ∧ Rel (e.hear x).2 (r.hear x).2 := by
  rw [Mv.hear, Rn.hear, h.top]
  exact turn_eq (rel_told h hw x) (wf_told hw x false) (top_was hw)
theorem end_eq (h : Rel e r) (hw : e.wf) (x y : Ep) : (e.end_ x y).1 = (r.end_ x y).1 ∧ Rel (e.end_ x y).2 (r.end_ x y).2 := by
  rw [Mv.end_, Rn.end_, h.top]
  have h1 := rel_told2 h hw x
  have hw1 := wf_told hw x true
  exact turn_eq (rel_told h1 hw1 y) (wf_told hw1 y false) (top_was hw)
theorem finish_eq (h : Rel e r) (hw : e.wf) : e.finish.1 = r.finish.1 ∧ Rel e.finish.2 r.finish.2 := by
  rw [Mv.finish, Rn.finish, h.own hw, h.top]
  by_cases hs : someE e.own = true
  · rw [if_pos hs, if_neg (fun hh => (own_zero hw).1 hh hs)]
    have h1 := rel_fin h hw hs
    rw [h.own hw] at h1
    exact turn_eq h1 (wf_fin hw) (top_was hw)
  · rw [if_neg hs, if_pos ((own_zero hw).2 hs)]
    exact ⟨rfl, h⟩
/-! ### reports -/
theorem repV_snoc (l : List Nt) (own : Ep) (x : Nt) (k : Int) (h0 : own.1 > 0) (hx : (x.2.2.1, x.2.2.2) = own) : repV (l ++ [x]) own k = if x.1 = k then some x.2.1 else repV l own k := by
  rw [repV, if_pos h0, repV, if_pos h0, List.filter_append, List.filter_cons, List.filter_nil]
  have h1 : x.2.2.1 = own.1 := congrArg Prod.fst hx
  have h2 : x.2.2.2 = own.2 := congrArg Prod.snd hx
  by_cases hk : x.1 = k
  · rw [if_pos hk, if_pos (by simp [isN, hk, h1, h2])]
    simp
  · rw [if_neg hk, if_neg (by simp [isN, hk]), List.append_nil]
theorem fitsR_iff (h : Rel e r) (hw : e.wf) (fr : Int) (x : Ep) (held : Int) : e.fitsR fr x held ↔ r.fitsR fr x held := by
  rw [Mv.fitsR, Rn.fitsR, h.me, h.n, h.own hw]
  constructor
  · rintro ⟨h1, h2, h3, h4, h5, h6, h7⟩
    refine ⟨h3, h1, h2, h6, h7, h5, ?_⟩
    rw [h5] at h4 ⊢
    exact (own_some hw).1 h4
  · rintro ⟨h1, h2, h3, h4, h5, h6, h7⟩
    exact ⟨h2, h3, h1, someE_pos h7, h6, h4, h5⟩
theorem report_rel (h : Rel e r) (hw : e.wf) (fr : Int) (x : Ep) (held : Int) : Rel (e.report fr x held) (r.report fr x held) := by
  have hn := hw.n
  by_cases hf : e.fitsR fr x held
  · have hr := (fitsR_iff h hw fr x held).1 hf
    rw [Mv.report, if_pos hf, Rn.report, if_pos hr]
    obtain ⟨h1, h2, h3, h4, h5, h6, h7⟩ := hf
    obtain ⟨i, hi⟩ := Int.eq_ofNat_of_zero_le h1
    have hin : fr.toNat = i := by omega
    rw [hin]
    have hl : i < e.re.length := by rw [hw.rl]; omega
    have hk : ∀ j, gI (e.re.set i held) j = if j = i then held else gI e.re j := fun j => gI_set hl
    have ho : ({ e with re := e.re.set i held } : Mv).own = e.own := rfl
    have hs : someE e.own = true := by rw [← h5]; exact h4
    have hp := (own_some hw).1 hs
    have him : i ≠ e.me := by omega
    refine ⟨h.me, h.n, h.needs, h.kn, h.fi, h.hi, h.fm, fun _ j hj hjm => ?_, fun _ => ?_, fun y hy => ?_⟩
    · rw [ho]
      dsimp only at hj hjm ⊢
      rw [hk, repV_snoc _ _ _ _ hp (by rw [h5])]
      by_cases he : j = i
      · subst he
        rw [if_pos rfl, if_pos (by dsimp only; omega)]
        exact .inr ⟨h6, rfl⟩
      · rw [if_neg he, if_neg (by dsimp only; omega)]
        exact h.re hs j hj hjm
    · dsimp only
      rw [hk, if_neg (Ne.symm him)]
      exact h.rme hs
    · rcases List.mem_append.1 hy with hy | hy
      · exact h.nt y hy
      · simp at hy; subst hy
        refine ⟨h3, ?_⟩
        dsimp only
        rcases own_live hw with ⟨_, g1, _, _⟩ | ⟨_, _, g1⟩
        · rw [h5, g1]; exact Int.le_refl _
        · rw [hs] at g1; cases g1
  · have hr := fun hh => hf ((fitsR_iff h hw fr x held).2 hh)
    rw [Mv.report, if_neg hf, Rn.report, if_neg hr]
    exact h
theorem rep_me (h : Rel e r) (hw : e.wf) : r.rep (e.me : Int) = none := by
  rw [Rn.rep, repV]
  split
  · have : r.notes.filter (isN r.own (e.me : Int)) = [] := by
      rw [List.filter_eq_nil_iff]
      intro x hx
      have := (h.nt x hx).1
      simp [isN, this]
    rw [this]; rfl
  · rfl
theorem rep_at (h : Rel e r) (hw : e.wf) (hs : someE e.own = true) {i : Nat} (hi : i < e.n) : (r.rep (i : Int)).getD 0 = max (gI e.re i) 0 ∧ ((r.rep (i : Int)).isSome = false ↔ gI e.re i = -1) := by
  by_cases hm : i = e.me
  · subst hm
    rw [rep_me h hw, h.rme hs]; exact ⟨rfl, fun _ => rfl, fun _ => rfl⟩
  · rw [Rn.rep, h.own hw]
    rcases h.re hs i hi hm with ⟨h1, h2⟩ | ⟨h1, h2⟩
    · rw [h2, h1]; exact ⟨rfl, fun _ => rfl, fun _ => rfl⟩
    · rw [h2]
      refine ⟨?_, fun h => (by cases h), fun h => (by omega)⟩
      show gI e.re i = _
      omega
theorem reported_eq (h : Rel e r) (hw : e.wf) : r.reported = e.reported := by
  have hn := hw.n
  rw [Rn.reported, Mv.reported, h.n]
  by_cases hs : someE e.own = true
  · rw [if_pos hs]
    have : ∀ m, m ≤ e.n → r.repTo m = repTo e.re m := by
      intro m
      induction m with
      | zero => intro _; rfl
      | succ m ih =>
        intro hm
        rw [rrepTo_succ, repTo_succ (by rw [hw.rl]; omega), ih (by omega), (rep_at h hw hs (by omega)).1]
    exact this _ (Nat.le_refl _)
  · rw [if_neg hs]
    have : ∀ m, r.repTo m = 0 := by
      intro m
      induction m with
      | zero => rfl
      | succ m ih =>
        rw [rrepTo_succ, ih, Rn.rep, repV, h.own hw, if_neg (fun hh => hs ((own_some hw).2 hh))]; rfl
    exact this _
theorem all_eq (h : Rel e r) (hw : e.wf) : e.all = (decide (e.own.1 > 0) && r.all) := by
  by_cases hs : someE e.own = true
  · rw [Mv.all, hs, Bool.and_true, decide_eq_true ((own_some hw).1 hs), Bool.true_and, Rn.all, h.n, h.me]
    rw [Bool.eq_iff_iff, List.all_eq_true, List.all_eq_true]
    refine forall_congr' fun i => forall_congr' fun hi => ?_
    have h1 := (rep_at h hw hs (List.mem_range.1 hi)).2
    by_cases h2 : gI e.re i = -1
    · rw [h1.2 h2, h2]; simp
    · have h3 : (r.rep (i : Int)).isSome = true := by
        cases hh : (r.rep (i : Int)).isSome with
        | true => rfl
        | false => exact absurd (h1.1 hh) h2
      rw [h3]; simp [h2]
  · rw [Mv.all, decide_eq_false (fun hh => hs ((own_some hw).2 hh))]
    have : someE e.own = false := by simpa using hs
    rw [this, Bool.and_false, Bool.false_and]
theorem looks_iff (h : Rel e r) (hw : e.wf) (a b c : Int) : e.looks a b c ↔ r.looks a b c := by
  rw [Mv.looks, Rn.looks, h.own hw, reported_eq h hw, h.needs]
  constructor
  · rintro ⟨h1, h2, h3, h4, h5⟩
    refine ⟨fun hh => (own_zero hw).1 hh h1, ⟨h2, h3⟩, h4, fun hn => ?_⟩
    have := h5 hn
    rw [all_eq h hw, Bool.and_eq_true] at this
    exact this.2
  · rintro ⟨h1, ⟨h2, h3⟩, h4, h5⟩
    have hs : someE e.own = true := by
      rcases own_live hw with ⟨_, _, _, g⟩ | ⟨_, g, _⟩
      · exact g
      · rw [g] at h1; exact absurd rfl h1
    refine ⟨hs, h2, h3, h4, fun hn => ?_⟩
    rw [all_eq h hw, decide_eq_true ((own_some hw).1 hs), Bool.true_and]
    exact h5 hn
theorem look_eq (h : Rel e r) (hw : e.wf) (a b c : Int) : e.look a b c = r.look a b c := by
  rw [Mv.look, Rn.look, h.own hw, h.me]
  by_cases hc : e.looks a b c
  · rw [if_pos hc, if_pos ((looks_iff h hw a b c).1 hc)]
  · rw [if_neg hc, if_neg fun hh => hc ((looks_iff h hw a b c).2 hh)]
/-! ### Begin -/
theorem top16_eq (h : Rel e r) (hw : e.wf) : top16 e.kn = topR r.known e.n := by
  have hn := hw.n
  have h1 : ∀ m, m ≤ e.n → (e.kn.take m).foldl max 0 = topR r.known m := by
    intro m
    induction m with
    | zero => intro _; rfl
    | succ m ih =>
      intro hm
      rw [foldl_take (by rw [hw.kl]; omega), topR_succ, ih (by omega), h.kn m (by omega)]
  have h2 : ∀ m, e.n + m ≤ 16 → (e.kn.take (e.n + m)).foldl max 0 = topR r.known e.n := by
    intro m
    induction m with
    | zero => intro _; exact h1 _ (Nat.le_refl _)
    | succ m ih =>
      intro hm
      have := topR_ge r.known e.n
      rw [← Nat.add_assoc, foldl_take (by rw [hw.kl]; omega), ih (by omega), h.hi _ (by omega)]
      omega
  have h3 := h2 (16 - e.n) (by omega)
  rw [List.take_of_length_le (by rw [hw.kl]; omega)] at h3
  exact h3
theorem gr_le_top (l : List Ep) : ∀ (n i : Nat), i < n → grV l (i : Int) ≤ topR l n
  | 0, i, h => by omega
  | n + 1, i, h => by
    rw [topR_succ]
    rcases Nat.lt_or_ge i n with h1 | h1
    · have := gr_le_top l n i h1; omega
    · have : i = n := by omega
      subst this; omega
theorem fresh_rel (h : Rel e r) (hw : e.wf) (hno : someE e.top = false) (all : Bool) : Rel (e.fresh all) (r.fresh all) ∧ (e.fresh all).own = (topR r.known r.n + 1, (e.me : Int)) := by
  have hn := hw.n
  have hm := hw.me
  have ht := top16_eq h hw
  have hl : e.me < e.kn.length := by rw [hw.kl]; omega
  have hk : ∀ j, gI (e.kn.set e.me (top16 e.kn + 1)) j = if j = e.me then top16 e.kn + 1 else gI e.kn j := fun j => gI_set hl
  have hle := gr_le_top r.known e.n e.me hm
  rw [← h.kn _ hm] at hle
  have hfm := h.fm
  have hlv : (e.fresh all).lv e.me = true := by
    rw [Mv.lv, decide_eq_true_eq]
    show gI (e.kn.set e.me (top16 e.kn + 1)) e.me > gI e.fi e.me
    rw [hk, if_pos rfl]; omega
  have ho : (e.fresh all).own = (topR r.known r.n + 1, (e.me : Int)) := by
    rw [Mv.own, show (e.fresh all).me = e.me from rfl, Mv.ep, if_pos hlv]
    show (gI (e.kn.set e.me (top16 e.kn + 1)) e.me, _) = _
    rw [hk, if_pos rfl, ht, h.n]
  have hge := topR_ge r.known r.n
  refine ⟨⟨h.me, h.n, rfl, fun j hj => ?_, h.fi, fun j hj => ?_, ?_, fun _ j hj hjm => ?_, fun _ => ?_, fun x hx => ?_⟩, ho⟩
  · show gI (e.kn.set e.me (top16 e.kn + 1)) j = grV (r.known ++ [(topR r.known r.n + 1, (r.me : Int))]) (j : Int)
    have hj : j < e.n := hj
    rw [hk, gr_at _ _ _ e.me (by rw [h.me])]
    split
    · rename_i he; subst he
      have := h.kn _ hj
      dsimp only
      rw [h.n]; omega
    · exact h.kn j hj
  · show gI (e.kn.set e.me (top16 e.kn + 1)) j = 0
    have hj : e.n ≤ j := hj
    rw [hk, if_neg (by omega)]
    exact h.hi j hj
  · show gI e.fi e.me ≤ gI (e.kn.set e.me (top16 e.kn + 1)) e.me
    rw [hk, if_pos rfl]; omega
  · left
    have hj : j < e.n := hj
    refine ⟨?_, ?_⟩
    · show gI (List.replicate 16 (-1)) j = -1
      rw [gI, List.getElem?_replicate, if_pos (by omega)]; rfl
    · rw [ho, repV]
      split
      · have : (r.fresh all).notes.filter (isN (topR r.known r.n + 1, (e.me : Int)) (j : Int)) = [] := by
          rw [List.filter_eq_nil_iff]
          intro x hx
          have h1 := (h.nt x hx).2
          have : x.2.2.1 ≠ topR r.known r.n + 1 := by rw [h.n]; omega
          simp [isN, this]
        rw [this]; rfl
      · rfl
  · show gI (List.replicate 16 (-1)) e.me = -1
    rw [gI, List.getElem?_replicate, if_pos (by omega)]; rfl
  · have := h.nt x hx
    refine ⟨this.1, ?_⟩
    show _ ≤ gI (e.kn.set e.me (top16 e.kn + 1)) e.me
    rw [hk, if_pos rfl]; omega
theorem begin_eq (h : Rel e r) (hw : e.wf) (a b c : Int) (d : Bool) : (e.begin_ a b c d).1 = (r.begin_ a b c d).1 ∧ (e.begin_ a b c d).2.1 = (r.begin_ a b c d).2.1 ∧ Rel (e.begin_ a b c d).2.2 (r.begin_ a b c d).2.2 := by
  rw [Mv.begin_, Rn.begin_]
  by_cases h1 : okA [a, b, c] = true ∧ a ≠ 0
  · rw [if_neg (by rintro (h2 | h2); rw [h1.1] at h2; cases h2; exact h1.2 h2), if_neg (show ¬ ¬ (okA [a, b, c] = true ∧ a ≠ 0) from fun hh => hh h1)]
    by_cases h2 : someE e.top = true
    · rw [if_pos h2, if_pos (c := r.lives.length > 0)]
      · exact ⟨rfl, rfl, h⟩
      · rw [h.lives]
        rcases top_some hw with ⟨_, g⟩ | ⟨g, _, _, _⟩
        · rw [g] at h2; cases h2
        · exact List.length_pos_iff.2 g
    · rw [if_neg h2, if_neg (c := r.lives.length > 0)]
      · have h2 : someE e.top = false := by simpa using h2
        rw [top16_eq h hw, ← h.n]
        by_cases h3 : topR r.known r.n ≥ 1099511627776
        · rw [if_pos h3, if_pos h3]; exact ⟨rfl, rfl, h⟩
        · rw [if_neg h3, if_neg h3]
          obtain ⟨g1, g2⟩ := fresh_rel h hw h2 d
          have hw2 := wf_fresh hw (by rw [top16_eq h hw, ← h.n]; omega) d
          rw [look_eq g1 hw2]
          by_cases h4 : (r.fresh d).look a b c = []
          · rw [if_neg (fun hh => hh h4), if_pos h4, g2, h.me]
            exact ⟨rfl, rfl, g1⟩
          · rw [if_pos h4, if_neg h4]
            exact ⟨rfl, rfl, g1⟩
      · rw [h.lives]
        rcases top_some hw with ⟨g, _⟩ | ⟨_, _, _, g⟩
        · rw [g]; simp
        · exact absurd g h2
  · rw [if_pos (by
      by_cases h2 : okA [a, b, c] = true
      · right
        by_cases h3 : a = 0
        · exact h3
        · exact absurd ⟨h2, h3⟩ h1
      · left; simpa using h2), if_pos (show ¬ (okA [a, b, c] = true ∧ a ≠ 0) from h1)]
    exact ⟨rfl, rfl, h⟩
theorem rel0 {me n : Nat} : Rel (mv0 me n) (rn0 me n) := by
  have hg : ∀ i, gI (List.replicate 16 (0 : Int)) i = 0 := by
    intro i; rw [gI, List.getElem?_replicate]; split <;> rfl
  have ho : (mv0 me n).own = (0, 0) := by
    rw [Mv.own, Mv.ep, if_neg]
    rw [Mv.lv]
    show ¬ decide (gI (List.replicate 16 0) me > gI (List.replicate 16 0) me) = true
    simp
  refine ⟨rfl, rfl, rfl, fun i _ => hg i, fun i _ => hg i, fun i _ => hg i, by rw [show (mv0 me n).fi = List.replicate 16 0 from rfl, hg, show (mv0 me n).kn = List.replicate 16 0 from rfl, hg]; exact Int.le_refl _, fun hs => ?_, fun hs => ?_, fun x hx => by simp [rn0] at hx⟩
  · rw [ho] at hs; cases hs
  · rw [ho] at hs; cases hs
end Go.Proofs.Ytmfbmfppjdkeeaa

/- Structs of six numbers compared; slices of one mark that share memory. -/
set_option linter.unusedVariables false
set_option linter.unusedSimpArgs false
namespace Go.Fw
open Go Go.RowKit
abbrev kv6 (a b c d e f : Int) : Value := .agg #[.int .i64 a, .int .i64 b, .int .i64 c, .int .i64 d, .int .i64 e, .int .i64 f]
def eq6 (a b c d e f a' b' c' d' e' f' : Int) : Bool := a == a' && (b == b' && ((c == c' && d == d') && (e == e' && f == f')))
class K6 (P : Program) (t : TypeId) : Prop where
  neV : ∀ (w : World) (x y : Operand) (a b c d e f a' b' c' d' e' f' : Int), (do eqGuard .neq t x y (kv6 a b c d e f) (kv6 a' b' c' d' e' f'); binOp .neq t (kv6 a b c d e f) (kv6 a' b' c' d' e' f') : Sem Value).run P w = .ok (.bool !(eq6 a b c d e f a' b' c' d' e' f')) w
section
variable {P : Program}
theorem k6_run {t t2 ti : TypeId} (ht : P.underlying t = some (.struct (P.fieldsOf t))) (hp : P.stoodInHeld t = false) (hfs : (P.fieldsOf t).toList.map fsum = [(true, ti, 0), (true, ti, 1), (true, t2, 2), (true, t2, 4)]) (hi : P.underlying ti = some (.int .i64))
    (h2 : ∀ (d : Nat) (w : World) (a b c e : Int), (Op.equalIn (d + 2) t2 (kv2 a b) (kv2 c e)).run P w = .ok (a == c && b == e) w)
    (p0 : ∀ (w : World) (x y z u p q : Int), (part ti #[.int .i64 x, .int .i64 y, .int .i64 z, .int .i64 u, .int .i64 p, .int .i64 q] 0).run P w = .ok (.int .i64 x) w)
    (p1 : ∀ (w : World) (x y z u p q : Int), (part ti #[.int .i64 x, .int .i64 y, .int .i64 z, .int .i64 u, .int .i64 p, .int .i64 q] 1).run P w = .ok (.int .i64 y) w)
    (p2 : ∀ (w : World) (x y z u p q : Int), (part t2 #[.int .i64 x, .int .i64 y, .int .i64 z, .int .i64 u, .int .i64 p, .int .i64 q] 2).run P w = .ok (kv2 z u) w)
    (p4 : ∀ (w : World) (x y z u p q : Int), (part t2 #[.int .i64 x, .int .i64 y, .int .i64 z, .int .i64 u, .int .i64 p, .int .i64 q] 4).run P w = .ok (kv2 p q) w)
    (d : Nat) (w : World) (x y z u p q x' y' z' u' p' q' : Int) : (Op.equalIn (d + 3) t (kv6 x y z u p q) (kv6 x' y' z' u' p' q')).run P w = .ok (eq6 x y z u p q x' y' z' u' p' q') w := by
  rw [run_equalIn_agg w (d + 2) t _ _ ht hp, eqFields_map, hfs]
  simp only [eqF, if_true, Sem.run_bind, p0, Result.andThen_ok, run_equalIn_int w (d + 1) ti .i64 .i64 _ _ hi, eq6]
  cases h1 : (x == x')
  · simp
  · simp only [Bool.not_true, Bool.false_eq_true, if_false, Sem.run_bind, p1, Result.andThen_ok, run_equalIn_int w (d + 1) ti .i64 .i64 _ _ hi, Bool.true_and]
    cases h3 : (y == y')
    · simp
    · simp only [Bool.not_true, Bool.false_eq_true, if_false, Sem.run_bind, p2, Result.andThen_ok, h2, Bool.true_and]
      cases h4 : (z == z' && u == u')
      · simp
      · simp only [Bool.not_true, Bool.false_eq_true, if_false, Sem.run_bind, p4, Result.andThen_ok, h2, Bool.true_and]
        cases h5 : (p == p' && q == q') <;> simp
theorem K6.of {t t2 ti : TypeId} (ht : P.underlying t = some (.struct (P.fieldsOf t))) (hp : P.stoodInHeld t = false) (hfs : (P.fieldsOf t).toList.map fsum = [(true, ti, 0), (true, ti, 1), (true, t2, 2), (true, t2, 4)]) (hi : P.underlying ti = some (.int .i64))
    (h2 : ∀ (d : Nat) (w : World) (a b c e : Int), (Op.equalIn (d + 2) t2 (kv2 a b) (kv2 c e)).run P w = .ok (a == c && b == e) w)
    (p0 : ∀ (w : World) (x y z u p q : Int), (part ti #[.int .i64 x, .int .i64 y, .int .i64 z, .int .i64 u, .int .i64 p, .int .i64 q] 0).run P w = .ok (.int .i64 x) w)
    (p1 : ∀ (w : World) (x y z u p q : Int), (part ti #[.int .i64 x, .int .i64 y, .int .i64 z, .int .i64 u, .int .i64 p, .int .i64 q] 1).run P w = .ok (.int .i64 y) w)
    (p2 : ∀ (w : World) (x y z u p q : Int), (part t2 #[.int .i64 x, .int .i64 y, .int .i64 z, .int .i64 u, .int .i64 p, .int .i64 q] 2).run P w = .ok (kv2 z u) w)
    (p4 : ∀ (w : World) (x y z u p q : Int), (part t2 #[.int .i64 x, .int .i64 y, .int .i64 z, .int .i64 u, .int .i64 p, .int .i64 q] 4).run P w = .ok (kv2 p q) w)
    (hg : P.eqGuardType P.depth t = false) : K6 P t := by
  refine ⟨fun w x y a b c d e f a' b' c' d' e' f' => ?_⟩
  rw [Sem.run_bind, run_eqGuard_agg w _ _ _ _ _ _ hg, Result.andThen_ok, run_neq_struct, k6_run ht hp hfs hi h2 p0 p1 p2 p4 9997]
  rfl
end
section
variable {P : Program} {w0 w w' : World} {G : Grps}
/-! ### slices of one mark -/
def rep (v : List Value) (n : Nat) : List Value := (List.replicate n v).flatten
theorem rep_len (v : List Value) (n : Nat) : (rep v n).length = n * v.length := by
  rw [rep, List.length_flatten, List.map_replicate, List.sum_replicate_nat]
theorem rep_succ (v : List Value) (n : Nat) : rep v (n + 1) = rep v n ++ v := by
  rw [rep, List.replicate_succ', List.flatten_append, rep]; simp
theorem rep_take (v : List Value) {m n : Nat} (h : m ≤ n) : (rep v n).take (m * v.length) = rep v m := by
  have e : rep v n = rep v m ++ rep v (n - m) := by
    rw [rep, rep, rep, ← List.flatten_append, List.replicate_append_replicate]
    congr 2; omega
  rw [e, List.take_append_of_le_length (by rw [rep_len]; exact Nat.le_refl _), List.take_of_length_le (by rw [rep_len]; exact Nat.le_refl _)]
theorem rep_one {v : List Value} (h : ∀ x ∈ v, x.oneCell' = true) (n : Nat) : ∀ x ∈ rep v n, x.oneCell' = true := by
  intro x hx
  obtain ⟨l, hl, hx⟩ := List.mem_flatten.1 hx
  rw [(List.mem_replicate.1 hl).2] at hx
  exact h x hx
/-- Such a slice lies in one of these rows. -/
def Cov (E : TypeId) (v : List Value) (g : List Ent) (s : Sl) : Prop := s.len ≤ s.cap ∧ (s.len = 0 ∨ ∃ (t : Sl) (n : Nat), Ent.row E v.length t (rep v n) ∈ g ∧ t.a = s.a ∧ s.len ≤ n)
theorem Cov.mono {E : TypeId} {v : List Value} {g g' : List Ent} {s : Sl} (h : Cov E v g s) (hg : ∀ (t : Sl) (n : Nat), Ent.row E v.length t (rep v n) ∈ g → ∃ (t' : Sl) (n' : Nat), Ent.row E v.length t' (rep v n') ∈ g' ∧ t'.a = t.a ∧ n ≤ n') : Cov E v g' s := by
  refine ⟨h.1, ?_⟩
  rcases h.2 with h0 | ⟨t, n, h1, h2, h3⟩
  · exact .inl h0
  · obtain ⟨t', n', g1, g2, g3⟩ := hg t n h1
    exact .inr ⟨t', n', g1, g2.trans h2, by omega⟩
theorem Cov.sub {E : TypeId} {v : List Value} {g g' : List Ent} {s : Sl} (h : Cov E v g s) (hg : ∀ e ∈ g, e ∈ g') : Cov E v g' s := h.mono fun t n h1 => ⟨t, n, hg _ h1, rfl, Nat.le_refl _⟩
theorem Cov.rd {E : TypeId} {v : List Value} {g : List Ent} {s : Sl} (hc : Cov E v g s) (hv : 0 < v.length) (h : St w0 w G) {k : Nat} {gs : List Ent} (hk : nthO G k = some gs) (hg : ∀ e ∈ g, e ∈ gs) : Rd w s v.length (rep v s.len) := by
  refine ⟨rep_len _ _, ?_, hc.1⟩
  rcases hc.2 with h0 | ⟨t, n, h1, h2, h3⟩
  · left; rw [h0]; rfl
  · have ht : Ow w w0.heap.size E v.length t (rep v n) := (h.memG k hk (hg _ h1)).1
    have hn : n = t.len := by
      have := ht.1
      rw [rep_len] at this
      exact Nat.eq_of_mul_eq_mul_right hv this
    have hp := ht.rd.pre (hi := s.len) (by omega)
    rw [subS_zero, rep_take v h3] at hp
    rcases hp.2.1 with h4 | ⟨b, o, hb, hcell⟩
    · exact .inl h4
    · exact .inr ⟨b, o, by rw [← h2]; exact hb, hcell⟩
end
end Go.Fw

/- What was answered is kept: in memory. -/
namespace Go.Proofs.Ytmfbmfppjdkeeaa
open Go Go.Fw Go.RowKit
set_option linter.unusedVariables false
set_option linter.unusedSimpArgs false
set_option maxRecDepth 4000

structure Kp where
  cb : Nat
  late : Bool
  aq : Sl
  aw : Sl
  am : Sl
  eq : Sl
  ew : Sl
  em : Sl
  A : List Sl
  W : List Sl
  M : List Int
  E : List Sl
  X : List Sl
  N : List Int
def slv (s : Sl) : Value := .slice s.a s.len s.cap
def sls (l : List Sl) : List Value := l.map slv
def kpC (k : Kp) : List Value := [.bool k.late, slv k.aq, slv k.aw, slv k.am, slv k.eq, slv k.ew, slv k.em]
def kpE (k : Kp) : List Ent := [.cel k.cb 52 (kpC k), .row 66 1 k.aq (sls k.A), .row 66 1 k.aw (sls k.W), .row 3 1 k.am (lin k.M), .row 78 1 k.eq (sls k.E), .row 78 1 k.ew (sls k.X), .row 3 1 k.em (lin k.N)]
abbrev Kp.p (k : Kp) : Option Addr := some ⟨k.cb, 0, none⟩
theorem k2_54 (d : Nat) (w : World) (a b c e : Int) : (Op.equalIn (d + 2) 54 (kv2 a b) (kv2 c e)).run Try.prog w = .ok (a == c && b == e) w :=
  k2_run (ti := 3) (by kernel_rfl) (by kernel_rfl) (by kernel_rfl) (by kernel_rfl) (fun _ _ _ => by kernel_rfl) (fun _ _ _ => by kernel_rfl) d w a b c e
instance : K6 Try.prog 70 := K6.of (t2 := 54) (ti := 3) (by kernel_rfl) (by kernel_rfl) (by kernel_rfl) (by kernel_rfl) k2_54 (fun _ _ _ _ _ _ _ => by kernel_rfl) (fun _ _ _ _ _ _ _ => by kernel_rfl) (fun _ _ _ _ _ _ _ => by kernel_rfl) (fun _ _ _ _ _ _ _ => by kernel_rfl) (by kernel_rfl)
theorem flat_upd {α : Type} {f : α → List Value} {n : Nat} (hf : ∀ x, (f x).length = n) (l : List α) (j : Nat) (hj : j < l.length) (a : Nat) (ds : List Value) (h : a + ds.length ≤ n) (x : α) (hx : f x = (f l[j]).take a ++ ds ++ (f l[j]).drop (a + ds.length)) :
    (l.flatMap f).take (j * n + a) ++ ds ++ (l.flatMap f).drop (j * n + a + ds.length) = (l.set j x).flatMap f := by
  have e1 : l = l.take j ++ l[j] :: l.drop (j + 1) := by rw [← List.drop_eq_getElem_cons hj, List.take_append_drop]
  have e2 : l.set j x = l.take j ++ x :: l.drop (j + 1) := by rw [List.set_eq_take_append_cons_drop, if_pos hj]
  have hA : ((l.take j).flatMap f).length = j * n := by rw [flat_len hf, List.length_take, Nat.min_eq_left (by omega)]
  have hF := hf l[j]
  rw [e2, List.flatMap_append, List.flatMap_cons, hx]
  have e3 : l.flatMap f = (l.take j).flatMap f ++ (f l[j] ++ (l.drop (j + 1)).flatMap f) := by
    conv => lhs; rw [e1]
    rw [List.flatMap_append, List.flatMap_cons]
  rw [e3]
  generalize (l.take j).flatMap f = A at hA
  generalize (l.drop (j + 1)).flatMap f = B
  generalize f l[j] = X at hF
  rw [List.take_append, List.drop_append, hA]
  rw [List.take_of_length_le (by omega), List.drop_of_length_le (by omega)]
  rw [show j * n + a - j * n = a by omega, show j * n + a + ds.length - j * n = a + ds.length by omega]
  rw [List.take_append_of_le_length (by omega), List.drop_append_of_le_length (by omega)]
  simp only [List.nil_append, List.append_assoc]
end Go.Proofs.Ytmfbmfppjdkeeaa
