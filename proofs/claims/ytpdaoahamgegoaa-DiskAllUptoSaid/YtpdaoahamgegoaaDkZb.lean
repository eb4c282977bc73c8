/- A pair's answers; pairs that are made and taken. -/
import Derived.Test.YtpdaoahamgegoaaDkZ
namespace Go.Proofs.Ytpdaoahamgegoaa
open Go Go.Fw Go.RowKit
set_option linter.unusedVariables false
set_option linter.unusedSimpArgs false
set_option maxRecDepth 4000
set_option maxHeartbeats 4000000
variable {w0 w : World} {F G : Grps} {p : Q} {N : Nat} {d : D}

theorem mod3 (n : Nat) : Int.tmod (n : Int) 3 = ((n % 3 : Nat) : Int) := by rw [Int.tmod_eq_emod_of_nonneg (by omega)]; omega
/-- Bytes that were answered. -/
theorem answered_st {b : Sl} {v : List UInt8} (h : St w0 w ([.row 5 1 b (bys v)] :: gs p F)) (ok : POk N p) (hN : N ≤ 900000) (hv : v.length ≤ 134217728) : CallK Try.prog (.tup .nilT) 53 #[.pointer (some ⟨p.b, 0, none⟩), .slice b.a b.len b.cap] w fun (_ : Unit) w' =>
    ∃ p', p'.b = p.b ∧ POk (N + 2) p' ∧ St w0 w' (gs p' F) := by
  have hn := ok.q.n
  refine T53.calls ?_
  unfold T53
  repeat (first | (with_reducible refine NilP.mk ?_) | ((with_reducible refine RunN.isLoad ?_); (first | refine h.loadB 0 0 ⟨_, rfl, rfl⟩ rfl rfl ?_ | refine h.loadB 1 0 ⟨_, rfl, rfl⟩ rfl rfl ?_ | refine h.drew.loadB 0 0 ⟨_, rfl, rfl⟩ rfl rfl ?_ | refine h.drew.loadB 1 0 ⟨_, rfl, rfl⟩ rfl rfl ?_)) | ((with_reducible refine ReadN.isLoad ?_); (first | refine h.readB 0 0 ⟨_, rfl, rfl⟩ rfl rfl ?_ | refine h.readB 1 0 ⟨_, rfl, rfl⟩ rfl rfl ?_ | refine h.drew.readB 0 0 ⟨_, rfl, rfl⟩ rfl rfl ?_ | refine h.drew.readB 1 0 ⟨_, rfl, rfl⟩ rfl rfl ?_)) | ((with_reducible refine StillV.isLoad ?_); (first | refine ⟨h.stillB 0 0 ⟨_, rfl, rfl⟩ rfl rfl, ?_⟩ | refine ⟨h.stillB 1 0 ⟨_, rfl, rfl⟩ rfl rfl, ?_⟩)) | ((with_reducible refine RunU.isStor ?_); (first | (refine h.storB 0 0 ⟨_, rfl, rfl⟩ rfl rfl rfl ?_; intro w h; dsimp only [updG, setO] at h) | (refine h.storB 1 0 ⟨_, rfl, rfl⟩ rfl rfl rfl ?_; intro w h; dsimp only [updG, setO] at h) | (refine h.drew.storB 0 0 ⟨_, rfl, rfl⟩ rfl rfl rfl ?_; intro w h; dsimp only [updG, setO] at h) | (refine h.drew.storB 1 0 ⟨_, rfl, rfl⟩ rfl rfl rfl ?_; intro w h; dsimp only [updG, setO] at h))) | ((with_reducible refine RunN.isBox ?_); (first | (refine h.newB run_boxA rfl ?_; intro bn w h; try dsimp only at h) | (refine h.drew.newB run_boxA rfl ?_; intro bn w h; try dsimp only at h))) | ((with_reducible refine RunN.isNew ?_); (first | (refine h.newB (NewC.run _) rfl ?_; intro bn w h) | (refine h.drew.newB (NewC.run _) rfl ?_; intro bn w h))))
  rw [wr (x := (p.n : Int) + 1) (by omega)] at h
  have h : St w0 _ ([.row 5 1 b (bys v)] :: gs { p with n := p.n + 1 } F) := h
  have ok1 : POk (N + 1) { p with n := p.n + 1 } := ⟨{ (ok.q.mono (Nat.le_succ N)) with n := by dsimp only; omega }, ok.d, ok.r, ok.rel, by have := ok.lg; dsimp only; omega⟩
  generalize hp1 : ({ p with n := p.n + 1 } : Q) = p1 at h ok1
  have hb1 : p1.b = p.b := by rw [← hp1]
  rw [← hb1]
  refine JoinX.mk (fun j w' => j.1 = true ∧ St w0 w' ([.row 5 1 b (bys v)] :: gs p1 F) ∨ j.1 = false ∧ ∃ p', p'.b = p1.b ∧ POk (N + 2) p' ∧ St w0 w' (gs p' F)) ?_ ?_
  · rintro ⟨_, ⟨⟩⟩ w hj
    dsimp only at hj ⊢
    rcases hj with ⟨rfl, h⟩ | ⟨rfl, p', hb', ok', h⟩
    · rw [SplitB_iff]
      refine ⟨fun _ => ?_, (fun hz => by cases hz)⟩
      refine (spoil_keep h (by omega)).mono ?_
      rintro ⟨⟩ w ⟨l', hl', h⟩
      refine NilP.mk ?_
      refine (keep_st h ok1.q (by omega) (by omega)).mono ?_
      rintro ⟨⟩ w ⟨p', hk, hq, h⟩
      exact ⟨p', hk.b, ok1.kp hk hq (Nat.le_succ _), h⟩
    · rw [SplitB_iff]
      exact ⟨(fun hz => by cases hz), fun _ => ⟨p', hb', ok', h⟩⟩
  · intro k1 hk1
    repeat (first | (with_reducible refine NilP.mk ?_) | ((with_reducible refine RunN.isLoad ?_); (first | refine h.loadB 0 0 ⟨_, rfl, rfl⟩ rfl rfl ?_ | refine h.loadB 1 0 ⟨_, rfl, rfl⟩ rfl rfl ?_ | refine h.drew.loadB 0 0 ⟨_, rfl, rfl⟩ rfl rfl ?_ | refine h.drew.loadB 1 0 ⟨_, rfl, rfl⟩ rfl rfl ?_)) | ((with_reducible refine ReadN.isLoad ?_); (first | refine h.readB 0 0 ⟨_, rfl, rfl⟩ rfl rfl ?_ | refine h.readB 1 0 ⟨_, rfl, rfl⟩ rfl rfl ?_ | refine h.drew.readB 0 0 ⟨_, rfl, rfl⟩ rfl rfl ?_ | refine h.drew.readB 1 0 ⟨_, rfl, rfl⟩ rfl rfl ?_)) | ((with_reducible refine StillV.isLoad ?_); (first | refine ⟨h.stillB 0 0 ⟨_, rfl, rfl⟩ rfl rfl, ?_⟩ | refine ⟨h.stillB 1 0 ⟨_, rfl, rfl⟩ rfl rfl, ?_⟩)) | ((with_reducible refine RunU.isStor ?_); (first | (refine h.storB 0 0 ⟨_, rfl, rfl⟩ rfl rfl rfl ?_; intro w h; dsimp only [updG, setO] at h) | (refine h.storB 1 0 ⟨_, rfl, rfl⟩ rfl rfl rfl ?_; intro w h; dsimp only [updG, setO] at h) | (refine h.drew.storB 0 0 ⟨_, rfl, rfl⟩ rfl rfl rfl ?_; intro w h; dsimp only [updG, setO] at h) | (refine h.drew.storB 1 0 ⟨_, rfl, rfl⟩ rfl rfl rfl ?_; intro w h; dsimp only [updG, setO] at h))) | ((with_reducible refine RunN.isBox ?_); (first | (refine h.newB run_boxA rfl ?_; intro bn w h; try dsimp only at h) | (refine h.drew.newB run_boxA rfl ?_; intro bn w h; try dsimp only at h))) | ((with_reducible refine RunN.isNew ?_); (first | (refine h.newB (NewC.run _) rfl ?_; intro bn w h) | (refine h.drew.newB (NewC.run _) rfl ?_; intro bn w h))))
    rw [SplitB_iff]
    refine ⟨fun hz => ?_, fun hz => ?_⟩
    · exact hk1 _ _ (.inl ⟨rfl, h⟩)
    · refine NilP.mk ?_
      refine (leave_st h ok1.q).mono ?_
      rintro r w hr
      rcases hr with ⟨rfl, p', hk, hq, h⟩ | ⟨rfl, h⟩
      · exact hk1 _ _ (.inr ⟨rfl, p', hk.b, (ok1.kp hk hq (Nat.le_refl _)).mono (Nat.le_succ _), h⟩)
      · exact hk1 _ _ (.inl ⟨rfl, h⟩)
/-- The places that were written. -/
theorem traces_st (h : St w0 w (gs p F)) (ok : POk N p) (hN : N ≤ 900000) : CallK Try.prog .bool 55 #[.pointer (some ⟨p.b, 0, none⟩)] w fun (r : Bool) w' =>
    r = true ∧ ∃ p', p'.b = p.b ∧ POk (N + 2) p' ∧ St w0 w' (gs p' F) := by
  have hn := ok.q.n
  have hlg := ok.lg
  have hrw := ok.rel.wr
  have htr := rel_trace ok.rel ok.d
  have htl : p.d.abs.trace.length ≤ 64 := by simp only [A.trace, List.length_map, List.length_range, A.m]; omega
  refine T55.calls ?_
  unfold T55
  repeat (first | (with_reducible refine NilP.mk ?_) | ((with_reducible refine RunN.isLoad ?_); (first | refine h.loadB 0 0 ⟨_, rfl, rfl⟩ rfl rfl ?_ | refine h.drew.loadB 0 0 ⟨_, rfl, rfl⟩ rfl rfl ?_)) | ((with_reducible refine ReadN.isLoad ?_); (first | refine h.readB 0 0 ⟨_, rfl, rfl⟩ rfl rfl ?_ | refine h.drew.readB 0 0 ⟨_, rfl, rfl⟩ rfl rfl ?_)) | ((with_reducible refine StillV.isLoad ?_); (first | refine ⟨h.stillB 0 0 ⟨_, rfl, rfl⟩ rfl rfl, ?_⟩)) | ((with_reducible refine RunU.isStor ?_); (first | (refine h.storB 0 0 ⟨_, rfl, rfl⟩ rfl rfl rfl ?_; intro w h; dsimp only [updG, setO] at h) | (refine h.drew.storB 0 0 ⟨_, rfl, rfl⟩ rfl rfl rfl ?_; intro w h; dsimp only [updG, setO] at h))) | ((with_reducible refine RunN.isBox ?_); (first | (refine h.newB run_boxA rfl ?_; intro bn w h; try dsimp only at h) | (refine h.drew.newB run_boxA rfl ?_; intro bn w h; try dsimp only at h))) | ((with_reducible refine RunN.isNew ?_); (first | (refine h.newB (NewC.run _) rfl ?_; intro bn w h) | (refine h.drew.newB (NewC.run _) rfl ?_; intro bn w h))))
  have h := h.bring 1 rfl
  dsimp only [delO] at h
  refine (trace_st h ok.d (by omega)).mono ?_
  rintro q w h
  have h := (h.bring 1 rfl).back 2
  dsimp only [delO, insO] at h
  have hql := (h.rd (k := 0) (i := 0) ⟨_, rfl, rfl⟩).1
  rw [lin_len, Nat.mul_one] at hql
  repeat (first | (with_reducible refine NilP.mk ?_) | ((with_reducible refine RunN.isLoad ?_); (first | refine h.loadB 0 0 ⟨_, rfl, rfl⟩ rfl rfl ?_ | refine h.loadB 1 0 ⟨_, rfl, rfl⟩ rfl rfl ?_ | refine h.drew.loadB 0 0 ⟨_, rfl, rfl⟩ rfl rfl ?_ | refine h.drew.loadB 1 0 ⟨_, rfl, rfl⟩ rfl rfl ?_)) | ((with_reducible refine ReadN.isLoad ?_); (first | refine h.readB 0 0 ⟨_, rfl, rfl⟩ rfl rfl ?_ | refine h.readB 1 0 ⟨_, rfl, rfl⟩ rfl rfl ?_ | refine h.drew.readB 0 0 ⟨_, rfl, rfl⟩ rfl rfl ?_ | refine h.drew.readB 1 0 ⟨_, rfl, rfl⟩ rfl rfl ?_)) | ((with_reducible refine StillV.isLoad ?_); (first | refine ⟨h.stillB 0 0 ⟨_, rfl, rfl⟩ rfl rfl, ?_⟩ | refine ⟨h.stillB 1 0 ⟨_, rfl, rfl⟩ rfl rfl, ?_⟩)) | ((with_reducible refine RunU.isStor ?_); (first | (refine h.storB 0 0 ⟨_, rfl, rfl⟩ rfl rfl rfl ?_; intro w h; dsimp only [updG, setO] at h) | (refine h.storB 1 0 ⟨_, rfl, rfl⟩ rfl rfl rfl ?_; intro w h; dsimp only [updG, setO] at h) | (refine h.drew.storB 0 0 ⟨_, rfl, rfl⟩ rfl rfl rfl ?_; intro w h; dsimp only [updG, setO] at h) | (refine h.drew.storB 1 0 ⟨_, rfl, rfl⟩ rfl rfl rfl ?_; intro w h; dsimp only [updG, setO] at h))) | ((with_reducible refine RunN.isBox ?_); (first | (refine h.newB run_boxA rfl ?_; intro bn w h; try dsimp only at h) | (refine h.drew.newB run_boxA rfl ?_; intro bn w h; try dsimp only at h))) | ((with_reducible refine RunN.isNew ?_); (first | (refine h.newB (NewC.run _) rfl ?_; intro bn w h) | (refine h.drew.newB (NewC.run _) rfl ?_; intro bn w h))))
  have h := h.bring 3 rfl
  dsimp only [delO] at h
  refine (rtrace_st h (by omega)).mono ?_
  rintro q2 w h
  have h := (h.bring 1 rfl).back 4
  dsimp only [delO, insO] at h
  rw [← htr] at h
  have hql2 := (h.rd (k := 0) (i := 0) ⟨_, rfl, rfl⟩).1
  rw [lin_len, Nat.mul_one] at hql2
  rw [SplitB_iff]
  refine ⟨fun hz => ?_, fun hz => ?_⟩
  · have : (q.len : Int) = (q2.len : Int) := by omega
    rw [this] at hz; simp at hz
  · clear hz
    refine LoopX.mk (fun st w' => ∃ i : Nat, i ≤ p.d.abs.trace.length ∧ st.1 = (i : Int) ∧ St w0 w' ([.row 3 1 q2 (lin p.d.abs.trace)] :: [.row 3 1 q (lin p.d.abs.trace)] :: gs p F)) (fun st => p.d.abs.trace.length - st.1.toNat) ⟨0, Nat.zero_le _, rfl, h⟩ ?_
    clear h
    rintro ⟨_, ⟨⟩⟩ w ⟨i, hi, rfl, h⟩ K hK
    dsimp only at h hK ⊢
    rw [SplitB_iff]
    refine ⟨fun hc => ?_, fun hc => ?_⟩
    · have hc : i < p.d.abs.trace.length := by have := of_decide_eq_true hc; omega
      have h := h.drew
      refine (h.rd (k := 1) (i := 0) ⟨_, rfl, rfl⟩).idxR i rfl (by omega) ?_
      intro b1 o1 hb1
      refine (h.rd (k := 1) (i := 0) ⟨_, rfl, rfl⟩).elR hb1 (i * 1) rfl (kd := .int .i64) (x := p.d.abs.trace[i]) (by rw [Nat.mul_one]; exact lin_at hc) ?_
      refine (h.rd (k := 0) (i := 0) ⟨_, rfl, rfl⟩).idxR i rfl (by omega) ?_
      intro b2 o2 hb2
      refine (h.rd (k := 0) (i := 0) ⟨_, rfl, rfl⟩).elR hb2 (i * 1) rfl (kd := .int .i64) (x := p.d.abs.trace[i]) (by rw [Nat.mul_one]; exact lin_at hc) ?_
      rw [SplitB_iff]
      refine ⟨fun hz => ?_, fun hz => ?_⟩
      · simp at hz
      · exact hK _ _ ⟨i + 1, hc, by dsimp only; rw [wr (by omega)]; omega, h⟩ (by dsimp only; rw [wr (by omega)]; omega)
    · clear hK K hc hi i
      have h := h.drop 0
      dsimp only [delO] at h
      repeat (first | (with_reducible refine NilP.mk ?_) | ((with_reducible refine RunN.isLoad ?_); (first | refine h.loadB 0 0 ⟨_, rfl, rfl⟩ rfl rfl ?_ | refine h.loadB 1 0 ⟨_, rfl, rfl⟩ rfl rfl ?_ | refine h.drew.loadB 0 0 ⟨_, rfl, rfl⟩ rfl rfl ?_ | refine h.drew.loadB 1 0 ⟨_, rfl, rfl⟩ rfl rfl ?_)) | ((with_reducible refine ReadN.isLoad ?_); (first | refine h.readB 0 0 ⟨_, rfl, rfl⟩ rfl rfl ?_ | refine h.readB 1 0 ⟨_, rfl, rfl⟩ rfl rfl ?_ | refine h.drew.readB 0 0 ⟨_, rfl, rfl⟩ rfl rfl ?_ | refine h.drew.readB 1 0 ⟨_, rfl, rfl⟩ rfl rfl ?_)) | ((with_reducible refine StillV.isLoad ?_); (first | refine ⟨h.stillB 0 0 ⟨_, rfl, rfl⟩ rfl rfl, ?_⟩ | refine ⟨h.stillB 1 0 ⟨_, rfl, rfl⟩ rfl rfl, ?_⟩)) | ((with_reducible refine RunU.isStor ?_); (first | (refine h.storB 0 0 ⟨_, rfl, rfl⟩ rfl rfl rfl ?_; intro w h; dsimp only [updG, setO] at h) | (refine h.storB 1 0 ⟨_, rfl, rfl⟩ rfl rfl rfl ?_; intro w h; dsimp only [updG, setO] at h) | (refine h.drew.storB 0 0 ⟨_, rfl, rfl⟩ rfl rfl rfl ?_; intro w h; dsimp only [updG, setO] at h) | (refine h.drew.storB 1 0 ⟨_, rfl, rfl⟩ rfl rfl rfl ?_; intro w h; dsimp only [updG, setO] at h))) | ((with_reducible refine RunN.isBox ?_); (first | (refine h.newB run_boxA rfl ?_; intro bn w h; try dsimp only at h) | (refine h.drew.newB run_boxA rfl ?_; intro bn w h; try dsimp only at h))) | ((with_reducible refine RunN.isNew ?_); (first | (refine h.newB (NewC.run _) rfl ?_; intro bn w h) | (refine h.drew.newB (NewC.run _) rfl ?_; intro bn w h))))
      rw [wr (x := (p.n : Int) + 1) (by omega)] at h
      have h : St w0 _ ([.row 3 1 q (lin p.d.abs.trace)] :: gs { p with n := p.n + 1 } F) := h
      have ok1 : POk (N + 1) { p with n := p.n + 1 } := ⟨{ (ok.q.mono (Nat.le_succ N)) with n := by dsimp only; omega }, ok.d, ok.r, ok.rel, by dsimp only; omega⟩
      generalize htt : p.d.abs.trace = tt at h htl
      generalize hp1 : ({ p with n := p.n + 1 } : Q) = p1 at h ok1
      have hb1 : p1.b = p.b := by rw [← hp1]
      rw [← hb1]
      refine JoinX.mk (fun j w' => j.1 = true ∧ St w0 w' ([.row 3 1 q (lin tt)] :: gs p1 F) ∨ j.1 = false ∧ ∃ p', p'.b = p1.b ∧ POk (N + 2) p' ∧ St w0 w' (gs p' F)) ?_ ?_
      · rintro ⟨_, ⟨⟩⟩ w hj
        dsimp only at hj ⊢
        rcases hj with ⟨rfl, h⟩ | ⟨rfl, p', hb', ok', h⟩
        · rw [SplitB_iff]
          refine ⟨fun _ => ?_, (fun hz => by cases hz)⟩
          refine NilP.mk ?_
          refine (keepI_st h ok1.q (by omega) htl).mono ?_
          rintro ⟨⟩ w ⟨p', hk, hq, h⟩
          exact ⟨rfl, p', hk.b, ok1.kp hk hq (Nat.le_succ _), h⟩
        · rw [SplitB_iff]
          exact ⟨(fun hz => by cases hz), fun _ => ⟨rfl, p', hb', ok', h⟩⟩
      · intro k1 hk1
        repeat (first | (with_reducible refine NilP.mk ?_) | ((with_reducible refine RunN.isLoad ?_); (first | refine h.loadB 0 0 ⟨_, rfl, rfl⟩ rfl rfl ?_ | refine h.loadB 1 0 ⟨_, rfl, rfl⟩ rfl rfl ?_ | refine h.drew.loadB 0 0 ⟨_, rfl, rfl⟩ rfl rfl ?_ | refine h.drew.loadB 1 0 ⟨_, rfl, rfl⟩ rfl rfl ?_)) | ((with_reducible refine ReadN.isLoad ?_); (first | refine h.readB 0 0 ⟨_, rfl, rfl⟩ rfl rfl ?_ | refine h.readB 1 0 ⟨_, rfl, rfl⟩ rfl rfl ?_ | refine h.drew.readB 0 0 ⟨_, rfl, rfl⟩ rfl rfl ?_ | refine h.drew.readB 1 0 ⟨_, rfl, rfl⟩ rfl rfl ?_)) | ((with_reducible refine StillV.isLoad ?_); (first | refine ⟨h.stillB 0 0 ⟨_, rfl, rfl⟩ rfl rfl, ?_⟩ | refine ⟨h.stillB 1 0 ⟨_, rfl, rfl⟩ rfl rfl, ?_⟩)) | ((with_reducible refine RunU.isStor ?_); (first | (refine h.storB 0 0 ⟨_, rfl, rfl⟩ rfl rfl rfl ?_; intro w h; dsimp only [updG, setO] at h) | (refine h.storB 1 0 ⟨_, rfl, rfl⟩ rfl rfl rfl ?_; intro w h; dsimp only [updG, setO] at h) | (refine h.drew.storB 0 0 ⟨_, rfl, rfl⟩ rfl rfl rfl ?_; intro w h; dsimp only [updG, setO] at h) | (refine h.drew.storB 1 0 ⟨_, rfl, rfl⟩ rfl rfl rfl ?_; intro w h; dsimp only [updG, setO] at h))) | ((with_reducible refine RunN.isBox ?_); (first | (refine h.newB run_boxA rfl ?_; intro bn w h; try dsimp only at h) | (refine h.drew.newB run_boxA rfl ?_; intro bn w h; try dsimp only at h))) | ((with_reducible refine RunN.isNew ?_); (first | (refine h.newB (NewC.run _) rfl ?_; intro bn w h) | (refine h.drew.newB (NewC.run _) rfl ?_; intro bn w h))))
        rw [SplitB_iff]
        refine ⟨fun hz => ?_, fun hz => ?_⟩
        · exact hk1 _ _ (.inl ⟨rfl, h⟩)
        · refine NilP.mk ?_
          refine (leaveI_st h ok1.q htl).mono ?_
          rintro r w hr
          rcases hr with ⟨rfl, p', hk, hq, h⟩ | ⟨rfl, h⟩
          · exact hk1 _ _ (.inr ⟨rfl, p', hk.b, (ok1.kp hk hq (Nat.le_refl _)).mono (Nat.le_succ _), h⟩)
          · exact hk1 _ _ (.inl ⟨rfl, h⟩)
/-- A pair at first. -/
def q0 (b : Nat) (d : D) (r : R) : Q := ⟨b, d, r, ⟨none, 0, 0⟩, [], ⟨none, 0, 0⟩, ⟨none, 0, 0⟩, [], ⟨none, 0, 0⟩, [], 0, ⟨none, 0, 0⟩, [], ⟨none, 0, 0⟩, ⟨none, 0, 0⟩, [], ⟨none, 0, 0⟩, [], 0, ⟨none, 0, 0⟩, [], 0⟩
theorem q0_ok {b : Nat} {d : D} {r : R} (hd : DOk d) (hr : ROk r) (hR : Rel d r) (hl : r.log.length = 0) : POk 0 (q0 b d r) :=
  ⟨⟨by simp [q0], fun x hx => by simp [q0] at hx, by simp [q0], fun x hx => by simp [q0] at hx, rfl, fun k h1 => by simp [q0] at h1, Nat.le_refl _, by simp [q0], by simp [q0], fun x hx => by simp [q0] at hx, by simp [q0], rfl, fun x hx => by simp [q0] at hx, Nat.le_refl _⟩, hd, hr, hR, by simp [q0, hl]⟩
theorem q0_st {b : Nat} {d : D} {r : R} (h : St w0 w ([.cel b 67 (qcel (q0 b d r))] :: dg d :: rg r :: F)) : St w0 w (gs (q0 b d r) F) := by
  have h := h.nilrow 5 1
  have h := (h.back 3)
  dsimp only [insO] at h
  have h := (St.empty.2 h).back 3
  dsimp only [insO] at h
  have h := (h.nilrow 44 1).back 3
  dsimp only [insO] at h
  have h := (St.empty.2 h).back 3
  dsimp only [insO] at h
  have h := (h.nilrow 44 1).back 3
  dsimp only [insO] at h
  have h := (h.nilrow 9 1).back 3
  dsimp only [insO] at h
  have h := (St.empty.2 h).back 3
  dsimp only [insO] at h
  have h := (h.nilrow 30 1).back 3
  dsimp only [insO] at h
  have h := (h.nilrow 3 1).back 3
  dsimp only [insO] at h
  have h := (St.empty.2 h).back 3
  dsimp only [insO] at h
  have h := (h.nilrow 44 1).back 3
  dsimp only [insO] at h
  have h := (h.nilrow 9 1).back 3
  dsimp only [insO] at h
  have h := (St.empty.2 h).back 3
  dsimp only [insO] at h
  have h := (h.nilrow 30 1).back 3
  dsimp only [insO] at h
  exact h
/-- A pair of New. -/
theorem made_st (h : St w0 w F) (n : Int) : CallK Try.prog (.tup (.cons .ptr (.cons .bool .nilT))) 32 #[.int .i64 n] w fun (x : Option Addr × Bool × Unit) w' =>
    ¬ (1 ≤ n ∧ n ≤ 65536) ∧ x = (none, true, ()) ∧ St w0 w' F ∨ ∃ b d r, x = (some ⟨b, 0, none⟩, true, ()) ∧ POk 0 (q0 b d r) ∧ St w0 w' (gs (q0 b d r) F) := by
  refine T32.calls ?_
  unfold T32
  by_cases hn : 1 ≤ n ∧ n ≤ 65536
  · obtain ⟨m, rfl⟩ : ∃ m : Nat, n = (m : Int) := ⟨n.toNat, by omega⟩
    refine (new_st h (n := m) (by omega) (by omega)).mono ?_
    rintro x w ⟨b1, s1, rfl, h⟩
    refine (rnew_st h (n := m) (by omega) (by omega)).mono ?_
    rintro x w ⟨b2, rfl, h⟩
    refine JoinX.mk (fun j w' => j.1 = false ∧ St w0 w' (rg (rfresh b2 m) :: dg (fresh b1 s1 m) :: F)) ?_ ?_
    · rintro ⟨_, ⟨⟩⟩ w ⟨hj, h⟩
      dsimp only at hj h ⊢
      subst hj
      rw [SplitB_iff]
      refine ⟨(fun hz => by cases hz), fun _ => ?_⟩
      refine JoinX.mk (fun j w' => j.1 = false ∧ St w0 w' (rg (rfresh b2 m) :: dg (fresh b1 s1 m) :: F)) ?_ ?_
      · rintro ⟨_, ⟨⟩⟩ w ⟨hj, h⟩
        dsimp only at hj h ⊢
        subst hj
        rw [SplitB_iff]
        refine ⟨(fun hz => by cases hz), fun _ => ?_⟩
        have h := h.bring 1 rfl
        dsimp only [delO] at h
        refine h.newB run_boxA (by rfl) ?_
        intro b w h
        exact .inr ⟨b, _, _, rfl, q0_ok (fresh_ok _ _ (by omega)) (rfresh_ok _ (by omega) (by omega)) (rel_new _ _ _ _) rfl, q0_st h⟩
      · intro k3 hk3
        first | refine RunN.pEqS ?_ | refine RunN.pEqN ?_ | refine RunN.pNeS ?_ | refine RunN.pNeN ?_
        rw [SplitB_iff]
        refine ⟨(fun hz => by cases hz), fun _ => ?_⟩
        first | refine RunN.pEqS ?_ | refine RunN.pEqN ?_ | refine RunN.pNeS ?_ | refine RunN.pNeN ?_
        exact hk3 _ _ ⟨rfl, h⟩
    · intro k1 hk1
      refine (num_ok 0).mono ?_
      rintro x w' ⟨hw', rfl⟩
      subst hw'
      rw [SplitB_iff]
      refine ⟨(fun hz => by simp at hz), fun _ => ?_⟩
      first | refine RunN.pEqS ?_ | refine RunN.pEqN ?_ | refine RunN.pNeS ?_ | refine RunN.pNeN ?_
      first | refine RunN.pEqS ?_ | refine RunN.pEqN ?_ | refine RunN.pNeS ?_ | refine RunN.pNeN ?_
      exact hk1 _ _ ⟨rfl, h⟩
  · refine (new_bad h hn).mono ?_
    rintro x w ⟨rfl, h⟩
    refine (rnew_bad h hn).mono ?_
    rintro x w ⟨rfl, h⟩
    refine JoinX.mk (fun j w' => j.1 = false ∧ St w0 w' F) ?_ ?_
    · rintro ⟨_, ⟨⟩⟩ w ⟨hj, h⟩
      dsimp only at hj h ⊢
      subst hj
      rw [SplitB_iff]
      refine ⟨(fun hz => by cases hz), fun _ => ?_⟩
      refine JoinX.mk (fun j w' => j.1 = true ∧ St w0 w' F) ?_ ?_
      · rintro ⟨_, ⟨⟩⟩ w ⟨hj, h⟩
        dsimp only at hj h ⊢
        subst hj
        rw [SplitB_iff]
        exact ⟨fun _ => .inl ⟨hn, rfl, h⟩, (fun hz => by cases hz)⟩
      · intro k3 hk3
        first | refine RunN.pEqS ?_ | refine RunN.pEqN ?_ | refine RunN.pNeS ?_ | refine RunN.pNeN ?_
        rw [SplitB_iff]
        exact ⟨fun _ => hk3 _ _ ⟨rfl, h⟩, (fun hz => by cases hz)⟩
    · intro k1 hk1
      refine (num_ok 1).mono ?_
      rintro x w' ⟨hw', rfl⟩
      subst hw'
      rw [SplitB_iff]
      refine ⟨(fun hz => by simp at hz), fun _ => ?_⟩
      first | refine RunN.pEqS ?_ | refine RunN.pEqN ?_ | refine RunN.pNeS ?_ | refine RunN.pNeN ?_
      first | refine RunN.pEqS ?_ | refine RunN.pEqN ?_ | refine RunN.pNeS ?_ | refine RunN.pNeN ?_
      exact hk1 _ _ ⟨rfl, h⟩
end Go.Proofs.Ytpdaoahamgegoaa
