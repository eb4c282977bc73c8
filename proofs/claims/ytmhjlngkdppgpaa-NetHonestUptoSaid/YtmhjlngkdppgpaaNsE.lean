/- The document's own bag: what changes it. -/
import Derived.Test.YtmhjlngkdppgpaaNsD
namespace Go.Proofs.Ytmhjlngkdppgpaa
open Go Go.Fw Go.RowKit
set_option linter.unusedVariables false
set_option linter.unusedSimpArgs false
set_option maxRecDepth 4000
variable {w0 w : World} {F : Grps} {B : Nat} {cap : Int} {s : Sl} {xs : List (Ltr × Sl)} {ty : Nat}

theorem rdrop_st (h : St w0 w (bagG 72 B cap s xs :: F)) (hlen : xs.length ≤ 65536) {i : Int} :
    CallK Try.prog (.int .i64) 35 #[.pointer (some ⟨B, 0, none⟩), .int .i64 i] w fun (r : Int) w' =>
      (∃ (n : Nat) (hn : n < xs.length), i = (n : Int) ∧ r = 0 ∧ ∃ s', St w0 w' (bagG 72 B cap s' (xs.eraseIdx n) :: F)) ∨
      (¬ (0 ≤ i ∧ i < (xs.length : Int)) ∧ r = 40 ∧ St w0 w' (bagG 72 B cap s xs :: F)) := by
  refine T35.calls ?_
  unfold T35
  refine (rin_st h (i := i)).mono ?_
  rintro r w ⟨rfl, rfl⟩
  rw [SplitB_iff]
  refine ⟨fun hc => ?_, fun hc => ?_⟩
  · simp only [Bool.not_eq_true', decide_eq_false_iff_not] at hc
    exact .inr ⟨hc, rfl, h⟩
  · simp only [Bool.not_eq_false', decide_eq_true_eq] at hc
    obtain ⟨n, rfl⟩ : ∃ n : Nat, i = (n : Int) := ⟨i.toNat, by omega⟩
    have hn : n < xs.length := by omega
    refine (without_st h hlen hn).mono ?_
    intro r w h
    dsimp only [bagG] at h
    refine h.storB 1 0 ⟨_, rfl, rfl⟩ rfl rfl rfl ?_
    intro w h
    dsimp only [updG, setO] at h
    exact .inl ⟨n, hn, rfl, rfl, r, erase_has (h.swapRow) hn⟩

theorem rsend_st (h : St w0 w (bagG 72 B cap s xs :: F)) (hlen : xs.length ≤ 65536) (hcap : (xs.length : Int) ≤ cap) {f t : Int} {p : Sl} {m : List UInt8} (hr : Sees w0 F p 1 (bys m)) (hm : m.length ≤ big) :
    CallK Try.prog (.int .i64) 41 #[.pointer (some ⟨B, 0, none⟩), .agg #[.int .i64 f, .int .i64 t, .slice p.a p.len p.cap]] w fun (r : Int) w' =>
      ((xs.length : Int) = cap ∧ r = 41 ∧ St w0 w' (bagG 72 B cap s xs :: F)) ∨
      ((xs.length : Int) ≠ cap ∧ r = 0 ∧ ∃ s' q, St w0 w' (bagG 72 B cap s' (xs ++ [(⟨f, t, m⟩, q)]) :: F)) := by
  have hl := bag_len h
  refine T41.calls (p1 := (f, t, p, ())) ?_
  unfold T41
  first | refine h.newB run_boxA rfl ?_ | refine h.drew.newB run_boxA rfl ?_
  intro t3 w h
  try dsimp only at h
  repeat (first | (with_reducible refine NilP.mk ?_) | ((with_reducible refine RunN.isLoad ?_); (first | refine h.loadB 0 0 ⟨_, rfl, rfl⟩ rfl rfl ?_ | refine h.loadB 1 0 ⟨_, rfl, rfl⟩ rfl rfl ?_ | refine h.drew.loadB 0 0 ⟨_, rfl, rfl⟩ rfl rfl ?_ | refine h.drew.loadB 1 0 ⟨_, rfl, rfl⟩ rfl rfl ?_)) | ((with_reducible refine ReadN.isLoad ?_); (first | refine h.readB 0 0 ⟨_, rfl, rfl⟩ rfl rfl ?_ | refine h.readB 1 0 ⟨_, rfl, rfl⟩ rfl rfl ?_ | refine h.drew.readB 0 0 ⟨_, rfl, rfl⟩ rfl rfl ?_ | refine h.drew.readB 1 0 ⟨_, rfl, rfl⟩ rfl rfl ?_)) | ((with_reducible refine StillV.isLoad ?_); (first | refine ⟨h.stillB 0 0 ⟨_, rfl, rfl⟩ rfl rfl, ?_⟩ | refine ⟨h.stillB 1 0 ⟨_, rfl, rfl⟩ rfl rfl, ?_⟩)) | ((with_reducible refine RunU.isStor ?_); (first | (refine h.storB 0 0 ⟨_, rfl, rfl⟩ rfl rfl rfl ?_; intro w h; dsimp only [updG, setO] at h) | (refine h.storB 1 0 ⟨_, rfl, rfl⟩ rfl rfl rfl ?_; intro w h; dsimp only [updG, setO] at h) | (refine h.drew.storB 0 0 ⟨_, rfl, rfl⟩ rfl rfl rfl ?_; intro w h; dsimp only [updG, setO] at h) | (refine h.drew.storB 1 0 ⟨_, rfl, rfl⟩ rfl rfl rfl ?_; intro w h; dsimp only [updG, setO] at h))) | ((with_reducible refine RunN.isBox ?_); (first | (refine h.newB run_boxA rfl ?_; intro bn w h; try dsimp only at h) | (refine h.drew.newB run_boxA rfl ?_; intro bn w h; try dsimp only at h))) | ((with_reducible refine RunN.isNew ?_); (first | (refine h.newB (NewC.run _) rfl ?_; intro bn w h) | (refine h.drew.newB (NewC.run _) rfl ?_; intro bn w h))))
  have h := h.drew
  rw [SplitB_iff]
  refine ⟨fun hc => ?_, fun hc => ?_⟩
  · have hc := of_decide_eq_true hc
    exact .inl ⟨by omega, rfl, h.drop 0⟩
  · have hc := of_decide_eq_false hc
    repeat (first | (with_reducible refine NilP.mk ?_) | ((with_reducible refine RunN.isLoad ?_); (first | refine h.loadB 0 0 ⟨_, rfl, rfl⟩ rfl rfl ?_ | refine h.loadB 1 0 ⟨_, rfl, rfl⟩ rfl rfl ?_ | refine h.drew.loadB 0 0 ⟨_, rfl, rfl⟩ rfl rfl ?_ | refine h.drew.loadB 1 0 ⟨_, rfl, rfl⟩ rfl rfl ?_)) | ((with_reducible refine ReadN.isLoad ?_); (first | refine h.readB 0 0 ⟨_, rfl, rfl⟩ rfl rfl ?_ | refine h.readB 1 0 ⟨_, rfl, rfl⟩ rfl rfl ?_ | refine h.drew.readB 0 0 ⟨_, rfl, rfl⟩ rfl rfl ?_ | refine h.drew.readB 1 0 ⟨_, rfl, rfl⟩ rfl rfl ?_)) | ((with_reducible refine StillV.isLoad ?_); (first | refine ⟨h.stillB 0 0 ⟨_, rfl, rfl⟩ rfl rfl, ?_⟩ | refine ⟨h.stillB 1 0 ⟨_, rfl, rfl⟩ rfl rfl, ?_⟩)) | ((with_reducible refine RunU.isStor ?_); (first | (refine h.storB 0 0 ⟨_, rfl, rfl⟩ rfl rfl rfl ?_; intro w h; dsimp only [updG, setO] at h) | (refine h.storB 1 0 ⟨_, rfl, rfl⟩ rfl rfl rfl ?_; intro w h; dsimp only [updG, setO] at h) | (refine h.drew.storB 0 0 ⟨_, rfl, rfl⟩ rfl rfl rfl ?_; intro w h; dsimp only [updG, setO] at h) | (refine h.drew.storB 1 0 ⟨_, rfl, rfl⟩ rfl rfl rfl ?_; intro w h; dsimp only [updG, setO] at h))) | ((with_reducible refine RunN.isBox ?_); (first | (refine h.newB run_boxA rfl ?_; intro bn w h; try dsimp only at h) | (refine h.drew.newB run_boxA rfl ?_; intro bn w h; try dsimp only at h))) | ((with_reducible refine RunN.isNew ?_); (first | (refine h.newB (NewC.run _) rfl ?_; intro bn w h) | (refine h.drew.newB (NewC.run _) rfl ?_; intro bn w h))))
    refine h.drew.readA 0 0 ⟨_, rfl, rfl⟩ rfl (f, t, p, ()) (hk := ?_)
    refine (rown_st (hr _ ((h.drew.drop 0).drop 0)) hm).mono ?_
    rintro ⟨f', t', q, ⟨⟩⟩ w ⟨e1, e2, hn⟩
    dsimp only at e1 e2 hn
    subst e1; subst e2
    have h := h.drew.join hn
    refine ⟨h.stillB 2 0 ⟨_, rfl, rfl⟩ rfl rfl, ?_⟩
    refine h.newS 3 (bs22 _ _ _ _) rfl rfl rfl ?_
    intro s4 w h1 h2 h3 h
    refine ⟨h.stillB 3 0 ⟨_, rfl, rfl⟩ rfl rfl, ?_⟩
    refine h.app 3 1 ⟨_, rfl, rfl⟩ (h.rd (k := 0) (i := 0) ⟨_, rfl, rfl⟩) (lc_one _ _ _) (by simp only [maxLen]; omega) (by omega) ?_
    intro s5 w h5 h
    dsimp only [updG, setO, bagG] at h
    refine h.storB 3 0 ⟨_, rfl, rfl⟩ rfl rfl rfl ?_
    intro w h
    dsimp only [updG, setO] at h
    refine .inr ⟨by omega, rfl, s5, q, ?_⟩
    have h := ((h.drop 0).drop 1).into
    rw [bagG_snoc]; exact h

theorem rdouble_st (h : St w0 w (bagG 72 B cap s xs :: F)) (hlen : xs.length ≤ 65536) (hcap : (xs.length : Int) ≤ cap) (hm : ∀ x ∈ xs, x.1.m.length ≤ big) {i : Int} :
    CallK Try.prog (.int .i64) 36 #[.pointer (some ⟨B, 0, none⟩), .int .i64 i] w fun (r : Int) w' =>
      (∃ (n : Nat) (hn : n < xs.length), i = (n : Int) ∧ (xs.length : Int) ≠ cap ∧ r = 0 ∧ ∃ s' q, St w0 w' (bagG 72 B cap s' (xs ++ [(xs[n].1, q)]) :: F)) ∨
      ((0 ≤ i ∧ i < (xs.length : Int)) ∧ (xs.length : Int) = cap ∧ r = 41 ∧ St w0 w' (bagG 72 B cap s xs :: F)) ∨
      (¬ (0 ≤ i ∧ i < (xs.length : Int)) ∧ r = 40 ∧ St w0 w' (bagG 72 B cap s xs :: F)) := by
  have hl := bag_len h
  refine T36.calls ?_
  unfold T36
  refine (rat_st h hlen hm (i := i)).mono ?_
  rintro r w (⟨n, hn, rfl, q, rfl, h⟩ | ⟨hc, rfl, h⟩)
  · skip
    first | refine h.newB (NewC.run _) rfl ?_ | refine h.drew.newB (NewC.run _) rfl ?_
    intro t5 w h
    try dsimp only at h
    refine h.storA 0 0 ⟨_, rfl, rfl⟩ rfl (hk := ?_)
    intro w h
    dsimp only [updG, setO] at h ⊢
    rw [SplitB_iff]
    refine ⟨fun hz => ?_, fun hz => ?_⟩
    · simp at hz
    · skip
      repeat (first | (with_reducible refine NilP.mk ?_) | ((with_reducible refine RunN.isLoad ?_); (first | refine h.loadB 0 0 ⟨_, rfl, rfl⟩ rfl rfl ?_ | refine h.loadB 1 0 ⟨_, rfl, rfl⟩ rfl rfl ?_ | refine h.loadB 2 0 ⟨_, rfl, rfl⟩ rfl rfl ?_ | refine h.drew.loadB 0 0 ⟨_, rfl, rfl⟩ rfl rfl ?_ | refine h.drew.loadB 1 0 ⟨_, rfl, rfl⟩ rfl rfl ?_ | refine h.drew.loadB 2 0 ⟨_, rfl, rfl⟩ rfl rfl ?_)) | ((with_reducible refine ReadN.isLoad ?_); (first | refine h.readB 0 0 ⟨_, rfl, rfl⟩ rfl rfl ?_ | refine h.readB 1 0 ⟨_, rfl, rfl⟩ rfl rfl ?_ | refine h.readB 2 0 ⟨_, rfl, rfl⟩ rfl rfl ?_ | refine h.drew.readB 0 0 ⟨_, rfl, rfl⟩ rfl rfl ?_ | refine h.drew.readB 1 0 ⟨_, rfl, rfl⟩ rfl rfl ?_ | refine h.drew.readB 2 0 ⟨_, rfl, rfl⟩ rfl rfl ?_)) | ((with_reducible refine StillV.isLoad ?_); (first | refine ⟨h.stillB 0 0 ⟨_, rfl, rfl⟩ rfl rfl, ?_⟩ | refine ⟨h.stillB 1 0 ⟨_, rfl, rfl⟩ rfl rfl, ?_⟩ | refine ⟨h.stillB 2 0 ⟨_, rfl, rfl⟩ rfl rfl, ?_⟩)) | ((with_reducible refine RunU.isStor ?_); (first | (refine h.storB 0 0 ⟨_, rfl, rfl⟩ rfl rfl rfl ?_; intro w h; dsimp only [updG, setO] at h) | (refine h.storB 1 0 ⟨_, rfl, rfl⟩ rfl rfl rfl ?_; intro w h; dsimp only [updG, setO] at h) | (refine h.storB 2 0 ⟨_, rfl, rfl⟩ rfl rfl rfl ?_; intro w h; dsimp only [updG, setO] at h) | (refine h.drew.storB 0 0 ⟨_, rfl, rfl⟩ rfl rfl rfl ?_; intro w h; dsimp only [updG, setO] at h) | (refine h.drew.storB 1 0 ⟨_, rfl, rfl⟩ rfl rfl rfl ?_; intro w h; dsimp only [updG, setO] at h) | (refine h.drew.storB 2 0 ⟨_, rfl, rfl⟩ rfl rfl rfl ?_; intro w h; dsimp only [updG, setO] at h))) | ((with_reducible refine RunN.isBox ?_); (first | (refine h.newB run_boxA rfl ?_; intro bn w h; try dsimp only at h) | (refine h.drew.newB run_boxA rfl ?_; intro bn w h; try dsimp only at h))) | ((with_reducible refine RunN.isNew ?_); (first | (refine h.newB (NewC.run _) rfl ?_; intro bn w h) | (refine h.drew.newB (NewC.run _) rfl ?_; intro bn w h))))
      have h := h.drew
      rw [SplitB_iff]
      refine ⟨fun hc => ?_, fun hc => ?_⟩
      · have hc := of_decide_eq_true hc
        exact .inr (.inl ⟨by omega, by omega, rfl, (h.drop 0).drop 0⟩)
      · have hc := of_decide_eq_false hc
        repeat (first | (with_reducible refine NilP.mk ?_) | ((with_reducible refine RunN.isLoad ?_); (first | refine h.loadB 0 0 ⟨_, rfl, rfl⟩ rfl rfl ?_ | refine h.loadB 1 0 ⟨_, rfl, rfl⟩ rfl rfl ?_ | refine h.loadB 2 0 ⟨_, rfl, rfl⟩ rfl rfl ?_ | refine h.drew.loadB 0 0 ⟨_, rfl, rfl⟩ rfl rfl ?_ | refine h.drew.loadB 1 0 ⟨_, rfl, rfl⟩ rfl rfl ?_ | refine h.drew.loadB 2 0 ⟨_, rfl, rfl⟩ rfl rfl ?_)) | ((with_reducible refine ReadN.isLoad ?_); (first | refine h.readB 0 0 ⟨_, rfl, rfl⟩ rfl rfl ?_ | refine h.readB 1 0 ⟨_, rfl, rfl⟩ rfl rfl ?_ | refine h.readB 2 0 ⟨_, rfl, rfl⟩ rfl rfl ?_ | refine h.drew.readB 0 0 ⟨_, rfl, rfl⟩ rfl rfl ?_ | refine h.drew.readB 1 0 ⟨_, rfl, rfl⟩ rfl rfl ?_ | refine h.drew.readB 2 0 ⟨_, rfl, rfl⟩ rfl rfl ?_)) | ((with_reducible refine StillV.isLoad ?_); (first | refine ⟨h.stillB 0 0 ⟨_, rfl, rfl⟩ rfl rfl, ?_⟩ | refine ⟨h.stillB 1 0 ⟨_, rfl, rfl⟩ rfl rfl, ?_⟩ | refine ⟨h.stillB 2 0 ⟨_, rfl, rfl⟩ rfl rfl, ?_⟩)) | ((with_reducible refine RunU.isStor ?_); (first | (refine h.storB 0 0 ⟨_, rfl, rfl⟩ rfl rfl rfl ?_; intro w h; dsimp only [updG, setO] at h) | (refine h.storB 1 0 ⟨_, rfl, rfl⟩ rfl rfl rfl ?_; intro w h; dsimp only [updG, setO] at h) | (refine h.storB 2 0 ⟨_, rfl, rfl⟩ rfl rfl rfl ?_; intro w h; dsimp only [updG, setO] at h) | (refine h.drew.storB 0 0 ⟨_, rfl, rfl⟩ rfl rfl rfl ?_; intro w h; dsimp only [updG, setO] at h) | (refine h.drew.storB 1 0 ⟨_, rfl, rfl⟩ rfl rfl rfl ?_; intro w h; dsimp only [updG, setO] at h) | (refine h.drew.storB 2 0 ⟨_, rfl, rfl⟩ rfl rfl rfl ?_; intro w h; dsimp only [updG, setO] at h))) | ((with_reducible refine RunN.isBox ?_); (first | (refine h.newB run_boxA rfl ?_; intro bn w h; try dsimp only at h) | (refine h.drew.newB run_boxA rfl ?_; intro bn w h; try dsimp only at h))) | ((with_reducible refine RunN.isNew ?_); (first | (refine h.newB (NewC.run _) rfl ?_; intro bn w h) | (refine h.drew.newB (NewC.run _) rfl ?_; intro bn w h))))
        refine h.drew.readA 0 0 ⟨_, rfl, rfl⟩ rfl (xs[n].1.f, xs[n].1.t, q, ()) (hk := ?_)
        refine h.drew.newS 3 (bs22 _ _ _ _) rfl rfl rfl ?_
        intro s4 w h1 h2 h3 h
        refine ⟨h.stillB 3 0 ⟨_, rfl, rfl⟩ rfl rfl, ?_⟩
        refine h.app 3 1 ⟨_, rfl, rfl⟩ (h.rd (k := 0) (i := 0) ⟨_, rfl, rfl⟩) (lc_one _ _ _) (by simp only [maxLen]; omega) (by omega) ?_
        intro s5 w h5 h
        dsimp only [updG, setO, bagG] at h
        refine h.storB 3 0 ⟨_, rfl, rfl⟩ rfl rfl rfl ?_
        intro w h
        dsimp only [updG, setO] at h
        refine .inl ⟨n, hn, rfl, by omega, rfl, s5, q, ?_⟩
        have h := ((h.drop 0).drop 0).into
        rw [bagG_snoc]; exact h
  · skip
    first | refine h.newB (NewC.run _) rfl ?_ | refine h.drew.newB (NewC.run _) rfl ?_
    intro t5 w h
    try dsimp only at h
    refine h.storA 0 0 ⟨_, rfl, rfl⟩ rfl (hk := ?_)
    intro w h
    dsimp only [updG, setO] at h ⊢
    rw [SplitB_iff]
    refine ⟨fun hz => ?_, fun hz => ?_⟩
    · exact .inr (.inr ⟨hc, rfl, h.drop 0⟩)
    · simp at hz

theorem ins_take {ys : List (Ltr × Sl)} {b k : Nat} {x : Ltr × Sl} (hb : b ≤ ys.length) (hk : k < ys.length) (h : b ≤ k) : (ys.insertIdx b x).take (k + 1) ++ [ys[k]] = (ys.insertIdx b x).take (k + 2) := by
  have hl : (ys.insertIdx b x).length = ys.length + 1 := List.length_insertIdx_of_le_length hb ..
  rw [List.take_succ_eq_append_getElem (i := k + 1) (by omega)]
  congr 2
  rw [List.getElem_insertIdx_of_gt (by omega)]
  simp
theorem rmove_st (h : St w0 w (bagG 72 B cap s xs :: F)) (hlen : xs.length ≤ 65536) {i j : Int} :
    CallK Try.prog (.int .i64) 37 #[.pointer (some ⟨B, 0, none⟩), .int .i64 i, .int .i64 j] w fun (r : Int) w' =>
      (¬ ((0 ≤ i ∧ i < (xs.length : Int)) ∧ (0 ≤ j ∧ j < (xs.length : Int))) ∧ r = 40 ∧ St w0 w' (bagG 72 B cap s xs :: F)) ∨
      (∃ (a b : Nat) (ha : a < xs.length), b < xs.length ∧ i = (a : Int) ∧ j = (b : Int) ∧ r = 0 ∧ ∃ s', St w0 w' (bagG 72 B cap s' ((xs.eraseIdx a).insertIdx b xs[a]) :: F)) := by
  have hl := bag_len h
  refine T37.calls ?_
  unfold T37
  refine JoinX.mk (fun jj w' => w' = w ∧ (jj.1 = true ↔ ((0 ≤ i ∧ i < (xs.length : Int)) ∧ (0 ≤ j ∧ j < (xs.length : Int))))) ?_ ?_
  · rintro ⟨c, ⟨⟩⟩ w ⟨rfl, hb⟩
    dsimp only at hb ⊢
    rw [SplitB_iff]
    refine ⟨fun hc => ?_, fun hc => ?_⟩
    · exact .inl ⟨fun hh => by simp [hb.2 hh] at hc, rfl, h⟩
    · obtain ⟨hc, hd⟩ := hb.1 (by simpa using hc)
      clear hb
      obtain ⟨a, rfl⟩ : ∃ k : Nat, i = (k : Int) := ⟨i.toNat, by omega⟩
      obtain ⟨b, rfl⟩ : ∃ k : Nat, j = (k : Int) := ⟨j.toNat, by omega⟩
      have ha : a < xs.length := by omega
      have hb : b < xs.length := by omega
      refine (without_st h hlen ha).mono ?_
      intro t23 w h
      have htl := (h.rd (k := 0) (i := 0) ⟨_, rfl, rfl⟩).1
      rw [row_len] at htl
      have hyl : (xs.eraseIdx a).length = xs.length - 1 := List.length_eraseIdx_of_lt ha
      generalize hys : xs.eraseIdx a = ys at *
      have hil : (ys.insertIdx b xs[a]).length = ys.length + 1 := List.length_insertIdx_of_le_length (by omega) ..
      have h := h.nilrow 31 3
      refine LoopX.mk (fun st w' => ∃ k, k ≤ ys.length + 1 ∧ st.2.1 = (k : Int) ∧ St w0 w' ([.row 31 3 st.1 (row (if k ≤ b then ys.take k else (ys.insertIdx b xs[a]).take (k + 1)))] :: [.row 31 3 t23 (row ys)] :: bagG 72 B cap s xs :: F)) (fun st => xs.length + 1 - st.2.1.toNat) ⟨0, Nat.zero_le _, rfl, by simpa [row] using h⟩ ?_
      rintro ⟨q, i, ⟨⟩⟩ w ⟨k, hk, hi, h⟩ K hK
      dsimp only at hi h hK ⊢
      subst hi
      have hql := (h.rd (k := 0) (i := 0) ⟨_, rfl, rfl⟩).1
      rw [row_len] at hql
      have hle : (if k ≤ b then ys.take k else (ys.insertIdx b xs[a]).take (k + 1)).length ≤ k + 1 := by split <;> simp <;> omega
      rw [SplitB_iff]
      refine ⟨fun hc => ?_, fun hc => ?_⟩
      · have hc : k ≤ ys.length := by have := of_decide_eq_true hc; omega
        refine JoinX.mk (fun j w' => St w0 w' ([.row 31 3 j.1 (row (if k + 1 ≤ b then ys.take (k + 1) else (ys.insertIdx b xs[a]).take (k + 2)))] :: [.row 31 3 t23 (row ys)] :: bagG 72 B cap s xs :: F)) ?_ ?_
        · rintro ⟨j, ⟨⟩⟩ w h
          dsimp only at h ⊢
          exact hK _ _ ⟨k + 1, by omega, by dsimp only; rw [wr (by omega)]; omega, h⟩ (by dsimp only; rw [wr (by omega)]; omega)
        · intro k1 hk1
          refine JoinX.mk (fun j w' => St w0 w' ([.row 31 3 j.1 (row (if k < b then ys.take k else (ys.insertIdx b xs[a]).take (k + 1)))] :: [.row 31 3 t23 (row ys)] :: bagG 72 B cap s xs :: F)) ?_ ?_
          · rintro ⟨j, ⟨⟩⟩ w h
            dsimp only at h ⊢
            have hql := (h.rd (k := 0) (i := 0) ⟨_, rfl, rfl⟩).1
            rw [row_len] at hql
            have hle : (if k < b then ys.take k else (ys.insertIdx b xs[a]).take (k + 1)).length ≤ k + 1 := by split <;> simp <;> omega
            rw [SplitB_iff]
            refine ⟨fun hd => ?_, fun hd => ?_⟩
            · have hd : k < ys.length := by have := of_decide_eq_true hd; omega
              refine (h.rd (k := 1) (i := 0) ⟨_, rfl, rfl⟩).idxK k rfl (by omega) ?_
              intro b' o' hb'
              refine (h.rd (k := 1) (i := 0) ⟨_, rfl, rfl⟩).elA hb' (k * 3) rfl (ys[k].1.f, ys[k].1.t, ys[k].2, ()) (row_at _ _ hd) ?_
              refine h.newS 3 (bs22 _ _ _ _) rfl rfl rfl ?_
              intro s4 w h1 h2 h3 h
              refine h.app 1 0 ⟨_, rfl, rfl⟩ (h.rd (k := 0) (i := 0) ⟨_, rfl, rfl⟩) (lc_one _ _ _) (by simp only [maxLen]; omega) (by omega) ?_
              intro s5 w h5 h
              dsimp only [updG, setO] at h
              refine hk1 _ _ ?_
              dsimp only
              have e2 : lc ys[k].1.f ys[k].1.t ys[k].2 = row [ys[k]] := by simp [row]
              have h := h.drop 0
              rw [e2, ← row_append] at h
              have e : (if k < b then ys.take k else (ys.insertIdx b xs[a]).take (k + 1)) ++ [ys[k]] = (if k + 1 ≤ b then ys.take (k + 1) else (ys.insertIdx b xs[a]).take (k + 2)) := by
                by_cases hkb : k < b
                · rw [if_pos hkb, if_pos (by omega), List.take_succ_eq_append_getElem hd]
                · rw [if_neg hkb, if_neg (by omega), ins_take (by omega) hd (by omega)]
              rw [e] at h; exact h
            · have hd : k = ys.length := by have := of_decide_eq_false hd; omega
              refine hk1 _ _ ?_
              dsimp only
              have e : (if k < b then ys.take k else (ys.insertIdx b xs[a]).take (k + 1)) = (if k + 1 ≤ b then ys.take (k + 1) else (ys.insertIdx b xs[a]).take (k + 2)) := by
                rw [if_neg (by omega), if_neg (by omega), List.take_of_length_le (by omega), List.take_of_length_le (by omega)]
              rw [← e]; exact h
          · intro k2 hk2
            rw [SplitB_iff]
            refine ⟨fun hkb => ?_, fun hkb => ?_⟩
            · have hkb : k = b := by
                have : (k : Int) = (b : Int) := by simpa using hkb
                omega
              subst hkb
              rw [if_pos (Nat.le_refl _)] at h
              repeat (first | (with_reducible refine NilP.mk ?_) | ((with_reducible refine RunN.isLoad ?_); (first | refine h.loadB 0 0 ⟨_, rfl, rfl⟩ rfl rfl ?_ | refine h.loadB 1 0 ⟨_, rfl, rfl⟩ rfl rfl ?_ | refine h.loadB 2 0 ⟨_, rfl, rfl⟩ rfl rfl ?_ | refine h.drew.loadB 0 0 ⟨_, rfl, rfl⟩ rfl rfl ?_ | refine h.drew.loadB 1 0 ⟨_, rfl, rfl⟩ rfl rfl ?_ | refine h.drew.loadB 2 0 ⟨_, rfl, rfl⟩ rfl rfl ?_)) | ((with_reducible refine ReadN.isLoad ?_); (first | refine h.readB 0 0 ⟨_, rfl, rfl⟩ rfl rfl ?_ | refine h.readB 1 0 ⟨_, rfl, rfl⟩ rfl rfl ?_ | refine h.readB 2 0 ⟨_, rfl, rfl⟩ rfl rfl ?_ | refine h.drew.readB 0 0 ⟨_, rfl, rfl⟩ rfl rfl ?_ | refine h.drew.readB 1 0 ⟨_, rfl, rfl⟩ rfl rfl ?_ | refine h.drew.readB 2 0 ⟨_, rfl, rfl⟩ rfl rfl ?_)) | ((with_reducible refine StillV.isLoad ?_); (first | refine ⟨h.stillB 0 0 ⟨_, rfl, rfl⟩ rfl rfl, ?_⟩ | refine ⟨h.stillB 1 0 ⟨_, rfl, rfl⟩ rfl rfl, ?_⟩ | refine ⟨h.stillB 2 0 ⟨_, rfl, rfl⟩ rfl rfl, ?_⟩)) | ((with_reducible refine RunU.isStor ?_); (first | (refine h.storB 0 0 ⟨_, rfl, rfl⟩ rfl rfl rfl ?_; intro w h; dsimp only [updG, setO] at h) | (refine h.storB 1 0 ⟨_, rfl, rfl⟩ rfl rfl rfl ?_; intro w h; dsimp only [updG, setO] at h) | (refine h.storB 2 0 ⟨_, rfl, rfl⟩ rfl rfl rfl ?_; intro w h; dsimp only [updG, setO] at h) | (refine h.drew.storB 0 0 ⟨_, rfl, rfl⟩ rfl rfl rfl ?_; intro w h; dsimp only [updG, setO] at h) | (refine h.drew.storB 1 0 ⟨_, rfl, rfl⟩ rfl rfl rfl ?_; intro w h; dsimp only [updG, setO] at h) | (refine h.drew.storB 2 0 ⟨_, rfl, rfl⟩ rfl rfl rfl ?_; intro w h; dsimp only [updG, setO] at h))) | ((with_reducible refine RunN.isBox ?_); (first | (refine h.newB run_boxA rfl ?_; intro bn w h; try dsimp only at h) | (refine h.drew.newB run_boxA rfl ?_; intro bn w h; try dsimp only at h))) | ((with_reducible refine RunN.isNew ?_); (first | (refine h.newB (NewC.run _) rfl ?_; intro bn w h) | (refine h.drew.newB (NewC.run _) rfl ?_; intro bn w h))))
              refine (h.rd (k := 2) (i := 1) ⟨_, rfl, rfl⟩).idxK a rfl (by omega) ?_
              intro b' o' hb'
              refine (h.rd (k := 2) (i := 1) ⟨_, rfl, rfl⟩).elA hb' (a * 3) rfl (xs[a].1.f, xs[a].1.t, xs[a].2, ()) (row_at _ _ ha) ?_
              refine h.newS 3 (bs22 _ _ _ _) rfl rfl rfl ?_
              intro s4 w h1 h2 h3 h
              refine h.app 1 0 ⟨_, rfl, rfl⟩ (h.rd (k := 0) (i := 0) ⟨_, rfl, rfl⟩) (lc_one _ _ _) (by simp only [maxLen]; omega) (by omega) ?_
              intro s5 w h5 h
              dsimp only [updG, setO] at h
              refine hk2 _ _ ?_
              dsimp only
              have e2 : lc xs[a].1.f xs[a].1.t xs[a].2 = row [xs[a]] := by simp [row]
              have h := h.drop 0
              rw [e2, ← row_append] at h
              have e : ys.take k ++ [xs[a]] = (if k < k then ys.take k else (ys.insertIdx k xs[a]).take (k + 1)) := by
                rw [if_neg (by omega), insertIdx_td _ _ _ (by omega), List.take_append, List.take_take]
                have : (ys.take k).length = k := by simp; omega
                rw [this]; simp
              rw [e] at h; exact h
            · have hkb : k ≠ b := by rintro rfl; simp at hkb
              refine hk2 _ _ ?_
              dsimp only
              have e : (if k < b then ys.take k else (ys.insertIdx b xs[a]).take (k + 1)) = (if k ≤ b then ys.take k else (ys.insertIdx b xs[a]).take (k + 1)) := by
                by_cases hlt : k < b
                · rw [if_pos hlt, if_pos (by omega)]
                · rw [if_neg hlt, if_neg (by omega)]
              rw [e]; exact h
      · have hc : k = ys.length + 1 := by have := of_decide_eq_false hc; omega
        subst hc
        rw [if_neg (by omega), List.take_of_length_le (by omega)] at h
        dsimp only [bagG] at h
        refine h.storB 2 0 ⟨_, rfl, rfl⟩ rfl rfl rfl ?_
        intro w h
        dsimp only [updG, setO] at h
        have h := (h.drop 1).swapRow
        refine .inr ⟨a, b, ha, hb, rfl, rfl, rfl, q, ?_⟩
        rw [hys]
        refine lettersPerm h ?_
        rw [← hys]
        exact (move_perm xs ha hb).symm
  · intro k hk
    refine (rin_st h (i := i)).mono ?_
    rintro r w ⟨rfl, rfl⟩
    rw [SplitB_iff]
    refine ⟨fun hc => ?_, fun hc => ?_⟩
    · have hc : 0 ≤ i ∧ i < (xs.length : Int) := by simpa using hc
      refine (rin_st h (i := j)).mono ?_
      rintro r w ⟨rfl, rfl⟩
      refine hk _ _ ⟨rfl, ?_⟩
      simp; omega
    · have hc : ¬ (0 ≤ i ∧ i < (xs.length : Int)) := by simp at hc; omega
      exact hk _ _ ⟨rfl, by simp; omega⟩
end Go.Proofs.Ytmhjlngkdppgpaa
