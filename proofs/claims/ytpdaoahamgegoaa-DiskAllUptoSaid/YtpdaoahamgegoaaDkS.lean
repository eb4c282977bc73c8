/- The shelf: lists of numbers; what is spoilt and kept. -/
import Derived.Test.YtpdaoahamgegoaaDkP
namespace Go.Proofs.Ytpdaoahamgegoaa
open Go Go.Fw Go.RowKit
set_option linter.unusedVariables false
set_option linter.unusedSimpArgs false
set_option maxRecDepth 4000
set_option maxHeartbeats 2000000
variable {w0 w : World} {F G : Grps} {p : Q} {N : Nat}

/-- What is spoilt is still there, with other bytes. -/
theorem spoil_keep {p : Sl} {l : List UInt8} (h : St w0 w ([.row 5 1 p (bys l)] :: F)) (hl : l.length ≤ 1048000000) : CallK Try.prog (.tup .nilT) 27 #[.slice p.a p.len p.cap] w fun _ w' => ∃ l', l'.length = l.length ∧ St w0 w' ([.row 5 1 p (bys l')] :: F) := by
  have hpl := (h.rd (k := 0) (i := 0) ⟨_, rfl, rfl⟩).bys_len
  refine T27.calls ?_
  unfold T27
  refine LoopX.mk (fun st w' => ∃ (k : Nat) (l' : List UInt8), k ≤ l.length ∧ st.1 = (k : Int) ∧ l'.length = l.length ∧ St w0 w' ([.row 5 1 p (bys l')] :: F)) (fun st => l.length - st.1.toNat) ⟨0, l, by omega, rfl, rfl, h⟩ ?_
  clear h
  rintro ⟨_, ⟨⟩⟩ w ⟨k, l1, hk, rfl, hl1, h⟩ K hK
  dsimp only at h hK ⊢
  rw [SplitB_iff]
  refine ⟨fun hc => ?_, fun hc => ?_⟩
  · have hc : k < l.length := by have := of_decide_eq_true hc; omega
    refine (h.rd (k := 0) (i := 0) ⟨_, rfl, rfl⟩).idxK k rfl (by omega) ?_
    intro b o hb
    refine h.storR 0 0 ⟨_, rfl, rfl⟩ hb k (by rw [Nat.mul_one]) (by simp; omega) rfl ?_
    intro w h
    rw [by8_v, Go.Fw.bys_set] at h
    exact hK _ _ ⟨k + 1, _, by omega, by dsimp only; rw [wr (by omega)]; omega, by rw [List.length_set]; exact hl1, h⟩ (by dsimp only; rw [wr (by omega)]; omega)
  · refine LoopX.mk (fun st w' => ∃ e : List UInt8, e.length ≤ 80 ∧ st.2.1 = (e.length : Int) ∧ Grow 5 w0 w' p l1 st.1 e F) (fun st => 80 - st.2.1.toNat) ⟨[], by simp, rfl, Grow.start h⟩ ?_
    clear h
    rintro ⟨d, _, ⟨⟩⟩ w ⟨e, he, rfl, hg⟩ K2 hK2
    dsimp only at hg hK2 ⊢
    rw [SplitB_iff]
    refine ⟨fun hd => ?_, fun hd => ?_⟩
    · have hd : e.length < 80 := by have := of_decide_eq_true hd; omega
      refine Grow.app bs30 hg _ _ (by8_v _) (by omega) ?_
      intro d' w hg
      exact hK2 _ _ ⟨e ++ [_], by simp; omega, by dsimp only; rw [wr (by omega)]; simp, hg⟩ (by dsimp only; rw [wr (by omega)]; omega)
    · have hd : e.length = 80 := by have := of_decide_eq_false hd; omega
      rw [SplitB_iff]
      refine ⟨fun hz => ?_, fun hz => ?_⟩
      · obtain ⟨g1, g2, g3⟩ := hg
        rw [wr (by omega)]
        have es : ∀ x : UInt8, (l1 ++ e).set (d.len - 1) x = l1 ++ e.set 79 x := fun x => by
          rw [List.set_append_right _ _ (by omega)]
          congr 2; omega
        rcases g3 with ⟨ha, hcap, h⟩ | h
        · refine (h.rd (k := 0) (i := 0) ⟨_, rfl, rfl⟩).idxK (d.len - 1) (by omega) (by omega) ?_
          intro b o hb
          refine h.storR 0 0 ⟨_, rfl, rfl⟩ hb (d.len - 1) (by rw [Nat.mul_one]) (by simp; omega) rfl ?_
          intro w h
          have h : St w0 w ([.row 5 1 d ((bys (l1 ++ e)).set (d.len - 1) (u8v 8))] :: F) := h
          rw [Go.Fw.bys_set, es] at h
          have hg : Grow 5 w0 w p l1 d (e.set 79 8) F := ⟨g1, by rw [List.length_set]; exact g2, .inl ⟨ha, hcap, h⟩⟩
          exact ⟨l1, hl1, hg.old⟩
        · refine (h.rd (k := 0) (i := 0) ⟨_, rfl, rfl⟩).idxK (d.len - 1) (by omega) (by omega) ?_
          intro b o hb
          refine h.storR 0 0 ⟨_, rfl, rfl⟩ hb (d.len - 1) (by rw [Nat.mul_one]) (by simp; omega) rfl ?_
          intro w h
          exact ⟨l1, hl1, h.rest (k := 0) (i := 0) ⟨_, rfl, rfl⟩⟩
      · exact ⟨l1, hl1, hg.old⟩
/-- Numbers that are left alone. -/
theorem leaveI_st {b : Sl} {v : List Int} (h : St w0 w ([.row 3 1 b (lin v)] :: gs p F)) (ok : QOk N p) (hv : v.length ≤ 64) : CallK Try.prog .bool 61 #[.pointer (some ⟨p.b, 2, none⟩), .slice b.a b.len b.cap] w fun (r : Bool) w' =>
    r = true ∧ (∃ p', Kp p p' ∧ QOk N p' ∧ St w0 w' (gs p' F)) ∨ r = false ∧ St w0 w' ([.row 3 1 b (lin v)] :: gs p F) := by
  have hbl := (h.rd (k := 0) (i := 0) ⟨_, rfl, rfl⟩).1
  rw [lin_len, Nat.mul_one] at hbl
  have h1 := q_sn (h.drop 0)
  have h2 := q_so (h.drop 0)
  have hl := ok.n100
  have hol : p.os.length = p.ns.length := by have := congrArg List.length ok.ol; simpa using this
  refine T61.calls ?_
  unfold T61
  repeat (first | (with_reducible refine NilP.mk ?_) | ((with_reducible refine RunN.isLoad ?_); (first | refine h.loadB 0 0 ⟨_, rfl, rfl⟩ rfl rfl ?_ | refine h.loadB 1 0 ⟨_, rfl, rfl⟩ rfl rfl ?_ | refine h.drew.loadB 0 0 ⟨_, rfl, rfl⟩ rfl rfl ?_ | refine h.drew.loadB 1 0 ⟨_, rfl, rfl⟩ rfl rfl ?_)) | ((with_reducible refine ReadN.isLoad ?_); (first | refine h.readB 0 0 ⟨_, rfl, rfl⟩ rfl rfl ?_ | refine h.readB 1 0 ⟨_, rfl, rfl⟩ rfl rfl ?_ | refine h.drew.readB 0 0 ⟨_, rfl, rfl⟩ rfl rfl ?_ | refine h.drew.readB 1 0 ⟨_, rfl, rfl⟩ rfl rfl ?_)) | ((with_reducible refine StillV.isLoad ?_); (first | refine ⟨h.stillB 0 0 ⟨_, rfl, rfl⟩ rfl rfl, ?_⟩ | refine ⟨h.stillB 1 0 ⟨_, rfl, rfl⟩ rfl rfl, ?_⟩)) | ((with_reducible refine RunU.isStor ?_); (first | (refine h.storB 0 0 ⟨_, rfl, rfl⟩ rfl rfl rfl ?_; intro w h; dsimp only [updG, setO] at h) | (refine h.storB 1 0 ⟨_, rfl, rfl⟩ rfl rfl rfl ?_; intro w h; dsimp only [updG, setO] at h) | (refine h.drew.storB 0 0 ⟨_, rfl, rfl⟩ rfl rfl rfl ?_; intro w h; dsimp only [updG, setO] at h) | (refine h.drew.storB 1 0 ⟨_, rfl, rfl⟩ rfl rfl rfl ?_; intro w h; dsimp only [updG, setO] at h))) | ((with_reducible refine RunN.isBox ?_); (first | (refine h.newB run_boxA rfl ?_; intro bn w h; try dsimp only at h) | (refine h.drew.newB run_boxA rfl ?_; intro bn w h; try dsimp only at h))) | ((with_reducible refine RunN.isNew ?_); (first | (refine h.newB (NewC.run _) rfl ?_; intro bn w h) | (refine h.drew.newB (NewC.run _) rfl ?_; intro bn w h))))
  rw [SplitB_iff]
  refine ⟨fun hc => ?_, fun hc => ?_⟩
  · exact .inr ⟨rfl, h⟩
  · have hc : p.ns.length < 100 := by have := of_decide_eq_false hc; omega
    repeat (first | (with_reducible refine NilP.mk ?_) | ((with_reducible refine RunN.isLoad ?_); (first | refine h.loadB 0 0 ⟨_, rfl, rfl⟩ rfl rfl ?_ | refine h.loadB 1 0 ⟨_, rfl, rfl⟩ rfl rfl ?_ | refine h.drew.loadB 0 0 ⟨_, rfl, rfl⟩ rfl rfl ?_ | refine h.drew.loadB 1 0 ⟨_, rfl, rfl⟩ rfl rfl ?_)) | ((with_reducible refine ReadN.isLoad ?_); (first | refine h.readB 0 0 ⟨_, rfl, rfl⟩ rfl rfl ?_ | refine h.readB 1 0 ⟨_, rfl, rfl⟩ rfl rfl ?_ | refine h.drew.readB 0 0 ⟨_, rfl, rfl⟩ rfl rfl ?_ | refine h.drew.readB 1 0 ⟨_, rfl, rfl⟩ rfl rfl ?_)) | ((with_reducible refine StillV.isLoad ?_); (first | refine ⟨h.stillB 0 0 ⟨_, rfl, rfl⟩ rfl rfl, ?_⟩ | refine ⟨h.stillB 1 0 ⟨_, rfl, rfl⟩ rfl rfl, ?_⟩)) | ((with_reducible refine RunU.isStor ?_); (first | (refine h.storB 0 0 ⟨_, rfl, rfl⟩ rfl rfl rfl ?_; intro w h; dsimp only [updG, setO] at h) | (refine h.storB 1 0 ⟨_, rfl, rfl⟩ rfl rfl rfl ?_; intro w h; dsimp only [updG, setO] at h) | (refine h.drew.storB 0 0 ⟨_, rfl, rfl⟩ rfl rfl rfl ?_; intro w h; dsimp only [updG, setO] at h) | (refine h.drew.storB 1 0 ⟨_, rfl, rfl⟩ rfl rfl rfl ?_; intro w h; dsimp only [updG, setO] at h))) | ((with_reducible refine RunN.isBox ?_); (first | (refine h.newB run_boxA rfl ?_; intro bn w h; try dsimp only at h) | (refine h.drew.newB run_boxA rfl ?_; intro bn w h; try dsimp only at h))) | ((with_reducible refine RunN.isNew ?_); (first | (refine h.newB (NewC.run _) rfl ?_; intro bn w h) | (refine h.drew.newB (NewC.run _) rfl ?_; intro bn w h))))
    refine h.newS 1 (bs63 _ _) rfl rfl rfl ?_
    intro u w hul huc _ h
    refine h.app 14 0 ⟨_, rfl, rfl⟩ (h.rd (k := 0) (i := 0) ⟨_, rfl, rfl⟩) one_slice (by simp only [maxLen]; omega) (by omega) ?_
    intro s5 w l5 h
    dsimp only [updG, setO] at h
    have h := h.drop 0
    dsimp only [delO] at h
    repeat (first | (with_reducible refine NilP.mk ?_) | ((with_reducible refine RunN.isLoad ?_); (first | refine h.loadB 0 0 ⟨_, rfl, rfl⟩ rfl rfl ?_ | refine h.loadB 1 0 ⟨_, rfl, rfl⟩ rfl rfl ?_ | refine h.drew.loadB 0 0 ⟨_, rfl, rfl⟩ rfl rfl ?_ | refine h.drew.loadB 1 0 ⟨_, rfl, rfl⟩ rfl rfl ?_)) | ((with_reducible refine ReadN.isLoad ?_); (first | refine h.readB 0 0 ⟨_, rfl, rfl⟩ rfl rfl ?_ | refine h.readB 1 0 ⟨_, rfl, rfl⟩ rfl rfl ?_ | refine h.drew.readB 0 0 ⟨_, rfl, rfl⟩ rfl rfl ?_ | refine h.drew.readB 1 0 ⟨_, rfl, rfl⟩ rfl rfl ?_)) | ((with_reducible refine StillV.isLoad ?_); (first | refine ⟨h.stillB 0 0 ⟨_, rfl, rfl⟩ rfl rfl, ?_⟩ | refine ⟨h.stillB 1 0 ⟨_, rfl, rfl⟩ rfl rfl, ?_⟩)) | ((with_reducible refine RunU.isStor ?_); (first | (refine h.storB 0 0 ⟨_, rfl, rfl⟩ rfl rfl rfl ?_; intro w h; dsimp only [updG, setO] at h) | (refine h.storB 1 0 ⟨_, rfl, rfl⟩ rfl rfl rfl ?_; intro w h; dsimp only [updG, setO] at h) | (refine h.drew.storB 0 0 ⟨_, rfl, rfl⟩ rfl rfl rfl ?_; intro w h; dsimp only [updG, setO] at h) | (refine h.drew.storB 1 0 ⟨_, rfl, rfl⟩ rfl rfl rfl ?_; intro w h; dsimp only [updG, setO] at h))) | ((with_reducible refine RunN.isBox ?_); (first | (refine h.newB run_boxA rfl ?_; intro bn w h; try dsimp only at h) | (refine h.drew.newB run_boxA rfl ?_; intro bn w h; try dsimp only at h))) | ((with_reducible refine RunN.isNew ?_); (first | (refine h.newB (NewC.run _) rfl ?_; intro bn w h) | (refine h.drew.newB (NewC.run _) rfl ?_; intro bn w h))))
    repeat (first | (with_reducible refine NilP.mk ?_) | ((with_reducible refine RunN.isLoad ?_); (first | refine h.loadB 0 0 ⟨_, rfl, rfl⟩ rfl rfl ?_ | refine h.loadB 1 0 ⟨_, rfl, rfl⟩ rfl rfl ?_ | refine h.drew.loadB 0 0 ⟨_, rfl, rfl⟩ rfl rfl ?_ | refine h.drew.loadB 1 0 ⟨_, rfl, rfl⟩ rfl rfl ?_)) | ((with_reducible refine ReadN.isLoad ?_); (first | refine h.readB 0 0 ⟨_, rfl, rfl⟩ rfl rfl ?_ | refine h.readB 1 0 ⟨_, rfl, rfl⟩ rfl rfl ?_ | refine h.drew.readB 0 0 ⟨_, rfl, rfl⟩ rfl rfl ?_ | refine h.drew.readB 1 0 ⟨_, rfl, rfl⟩ rfl rfl ?_)) | ((with_reducible refine StillV.isLoad ?_); (first | refine ⟨h.stillB 0 0 ⟨_, rfl, rfl⟩ rfl rfl, ?_⟩ | refine ⟨h.stillB 1 0 ⟨_, rfl, rfl⟩ rfl rfl, ?_⟩)) | ((with_reducible refine RunU.isStor ?_); (first | (refine h.storB 0 0 ⟨_, rfl, rfl⟩ rfl rfl rfl ?_; intro w h; dsimp only [updG, setO] at h) | (refine h.storB 1 0 ⟨_, rfl, rfl⟩ rfl rfl rfl ?_; intro w h; dsimp only [updG, setO] at h) | (refine h.drew.storB 0 0 ⟨_, rfl, rfl⟩ rfl rfl rfl ?_; intro w h; dsimp only [updG, setO] at h) | (refine h.drew.storB 1 0 ⟨_, rfl, rfl⟩ rfl rfl rfl ?_; intro w h; dsimp only [updG, setO] at h))) | ((with_reducible refine RunN.isBox ?_); (first | (refine h.newB run_boxA rfl ?_; intro bn w h; try dsimp only at h) | (refine h.drew.newB run_boxA rfl ?_; intro bn w h; try dsimp only at h))) | ((with_reducible refine RunN.isNew ?_); (first | (refine h.newB (NewC.run _) rfl ?_; intro bn w h) | (refine h.drew.newB (NewC.run _) rfl ?_; intro bn w h))))
    refine h.drew.appNil (h.drew.rd (k := 0) (i := 0) ⟨_, rfl, rfl⟩) (by intro x hx; simp [lin] at hx; obtain ⟨_, _, rfl⟩ := hx; rfl) (by simp only [maxLen]; omega) (by omega) ?_
    intro c w hcl h
    refine ⟨h.stillB 2 0 ⟨_, rfl, rfl⟩ rfl rfl, ?_⟩
    refine h.newS 1 (bs63 _ _) rfl rfl rfl ?_
    intro s6 w l1 l2 _ h
    refine ⟨h.stillB 3 0 ⟨_, rfl, rfl⟩ rfl rfl, ?_⟩
    refine h.app 17 0 ⟨_, rfl, rfl⟩ (h.rd (k := 0) (i := 0) ⟨_, rfl, rfl⟩) one_slice (by simp only [maxLen]; omega) (by omega) ?_
    intro s7 w l7 h
    dsimp only [updG, setO] at h
    have h := h.drop 0
    dsimp only [delO] at h
    repeat (first | (with_reducible refine NilP.mk ?_) | ((with_reducible refine RunN.isLoad ?_); (first | refine h.loadB 0 0 ⟨_, rfl, rfl⟩ rfl rfl ?_ | refine h.loadB 1 0 ⟨_, rfl, rfl⟩ rfl rfl ?_ | refine h.loadB 2 0 ⟨_, rfl, rfl⟩ rfl rfl ?_ | refine h.drew.loadB 0 0 ⟨_, rfl, rfl⟩ rfl rfl ?_ | refine h.drew.loadB 1 0 ⟨_, rfl, rfl⟩ rfl rfl ?_ | refine h.drew.loadB 2 0 ⟨_, rfl, rfl⟩ rfl rfl ?_)) | ((with_reducible refine ReadN.isLoad ?_); (first | refine h.readB 0 0 ⟨_, rfl, rfl⟩ rfl rfl ?_ | refine h.readB 1 0 ⟨_, rfl, rfl⟩ rfl rfl ?_ | refine h.readB 2 0 ⟨_, rfl, rfl⟩ rfl rfl ?_ | refine h.drew.readB 0 0 ⟨_, rfl, rfl⟩ rfl rfl ?_ | refine h.drew.readB 1 0 ⟨_, rfl, rfl⟩ rfl rfl ?_ | refine h.drew.readB 2 0 ⟨_, rfl, rfl⟩ rfl rfl ?_)) | ((with_reducible refine StillV.isLoad ?_); (first | refine ⟨h.stillB 0 0 ⟨_, rfl, rfl⟩ rfl rfl, ?_⟩ | refine ⟨h.stillB 1 0 ⟨_, rfl, rfl⟩ rfl rfl, ?_⟩ | refine ⟨h.stillB 2 0 ⟨_, rfl, rfl⟩ rfl rfl, ?_⟩)) | ((with_reducible refine RunU.isStor ?_); (first | (refine h.storB 0 0 ⟨_, rfl, rfl⟩ rfl rfl rfl ?_; intro w h; dsimp only [updG, setO] at h) | (refine h.storB 1 0 ⟨_, rfl, rfl⟩ rfl rfl rfl ?_; intro w h; dsimp only [updG, setO] at h) | (refine h.storB 2 0 ⟨_, rfl, rfl⟩ rfl rfl rfl ?_; intro w h; dsimp only [updG, setO] at h) | (refine h.drew.storB 0 0 ⟨_, rfl, rfl⟩ rfl rfl rfl ?_; intro w h; dsimp only [updG, setO] at h) | (refine h.drew.storB 1 0 ⟨_, rfl, rfl⟩ rfl rfl rfl ?_; intro w h; dsimp only [updG, setO] at h) | (refine h.drew.storB 2 0 ⟨_, rfl, rfl⟩ rfl rfl rfl ?_; intro w h; dsimp only [updG, setO] at h))) | ((with_reducible refine RunN.isBox ?_); (first | (refine h.newB run_boxA rfl ?_; intro bn w h; try dsimp only at h) | (refine h.drew.newB run_boxA rfl ?_; intro bn w h; try dsimp only at h))) | ((with_reducible refine RunN.isNew ?_); (first | (refine h.newB (NewC.run _) rfl ?_; intro bn w h) | (refine h.drew.newB (NewC.run _) rfl ?_; intro bn w h))))
    have h := ((h.bring 17 rfl).bring 1 rfl).into
    dsimp only [delO] at h
    have h := h.back 16
    dsimp only [insO] at h
    have h := ((h.bring 14 rfl).bring 1 rfl).into
    dsimp only [delO] at h
    have h := h.back 13
    dsimp only [insO] at h
    rw [← lsi_snoc _ (b, v), ← lsi_snoc _ (c, v)] at h
    refine .inl ⟨rfl, { p with sn := s5, ns := p.ns ++ [(b, v)], so := s7, os := p.os ++ [(c, v)] }, ⟨rfl, rfl, rfl, rfl, rfl, rfl⟩, ?_, ?_⟩
    · refine { ok with n100 := by dsimp only; rw [List.length_append]; simp; omega, ol := by dsimp only; rw [List.map_append, List.map_append, ok.ol]; rfl, nl := ?_ }
      intro x hx
      rcases List.mem_append.1 hx with hx | hx
      · exact ok.nl x hx
      · simp at hx; subst hx; exact hv
    · show St w0 _ _
      simp only [gs, gs', List.map_append, Q.c, qcel]
      exact h
/-- Numbers that are written full. -/
theorem keepI_st {b : Sl} {v : List Int} (h : St w0 w ([.row 3 1 b (lin v)] :: gs p F)) (ok : QOk N p) (hN : N ≤ 1000000) (hv : v.length ≤ 64) : CallK Try.prog (.tup .nilT) 62 #[.pointer (some ⟨p.b, 2, none⟩), .slice b.a b.len b.cap] w fun (_ : Unit) w' =>
    ∃ p', Kp p p' ∧ QOk (N + 1) p' ∧ St w0 w' (gs p' F) := by
  have hbl := (h.rd (k := 0) (i := 0) ⟨_, rfl, rfl⟩).1
  rw [lin_len, Nat.mul_one] at hbl
  have h1 := q_si (h.drop 0)
  have h2 := q_sm (h.drop 0)
  have hi4 := ok.i4
  have hml := ok.ml
  have hmk := ok.mark
  refine T62.calls ?_
  unfold T62
  repeat (first | (with_reducible refine NilP.mk ?_) | ((with_reducible refine RunN.isLoad ?_); (first | refine h.loadB 0 0 ⟨_, rfl, rfl⟩ rfl rfl ?_ | refine h.loadB 1 0 ⟨_, rfl, rfl⟩ rfl rfl ?_ | refine h.drew.loadB 0 0 ⟨_, rfl, rfl⟩ rfl rfl ?_ | refine h.drew.loadB 1 0 ⟨_, rfl, rfl⟩ rfl rfl ?_)) | ((with_reducible refine ReadN.isLoad ?_); (first | refine h.readB 0 0 ⟨_, rfl, rfl⟩ rfl rfl ?_ | refine h.readB 1 0 ⟨_, rfl, rfl⟩ rfl rfl ?_ | refine h.drew.readB 0 0 ⟨_, rfl, rfl⟩ rfl rfl ?_ | refine h.drew.readB 1 0 ⟨_, rfl, rfl⟩ rfl rfl ?_)) | ((with_reducible refine StillV.isLoad ?_); (first | refine ⟨h.stillB 0 0 ⟨_, rfl, rfl⟩ rfl rfl, ?_⟩ | refine ⟨h.stillB 1 0 ⟨_, rfl, rfl⟩ rfl rfl, ?_⟩)) | ((with_reducible refine RunU.isStor ?_); (first | (refine h.storB 0 0 ⟨_, rfl, rfl⟩ rfl rfl rfl ?_; intro w h; dsimp only [updG, setO] at h) | (refine h.storB 1 0 ⟨_, rfl, rfl⟩ rfl rfl rfl ?_; intro w h; dsimp only [updG, setO] at h) | (refine h.drew.storB 0 0 ⟨_, rfl, rfl⟩ rfl rfl rfl ?_; intro w h; dsimp only [updG, setO] at h) | (refine h.drew.storB 1 0 ⟨_, rfl, rfl⟩ rfl rfl rfl ?_; intro w h; dsimp only [updG, setO] at h))) | ((with_reducible refine RunN.isBox ?_); (first | (refine h.newB run_boxA rfl ?_; intro bn w h; try dsimp only at h) | (refine h.drew.newB run_boxA rfl ?_; intro bn w h; try dsimp only at h))) | ((with_reducible refine RunN.isNew ?_); (first | (refine h.newB (NewC.run _) rfl ?_; intro bn w h) | (refine h.drew.newB (NewC.run _) rfl ?_; intro bn w h))))
  rw [wr (x := (p.mark : Int) + 1) (by omega)] at h
  have h : St w0 _ ([.row 3 1 b (lin v)] :: gs { p with mark := p.mark + 1 } F) := h
  obtain ⟨M, hmw⟩ : ∃ M : Int, IntKind.i64.wrap ((-1000) - ((p.mark + 1 : Nat) : Int)) = M := ⟨_, rfl⟩
  refine LoopX.mk (fun st w' => ∃ (i : Nat) (l1 : List Int), i ≤ l1.length ∧ l1.length = v.length ∧ st.1 = (i : Int) ∧ (∀ j, j < i → l1[j]? = some M) ∧ St w0 w' ([.row 3 1 b (lin l1)] :: gs { p with mark := p.mark + 1 } F)) (fun st => v.length - st.1.toNat) ⟨0, v, Nat.zero_le _, rfl, rfl, fun j hj => by omega, h⟩ ?_
  clear h
  rintro ⟨_, ⟨⟩⟩ w ⟨i, l1, hi, hl1, rfl, hlm, h⟩ K hK
  dsimp only at h hK ⊢
  rw [SplitB_iff]
  refine ⟨fun hc => ?_, fun hc => ?_⟩
  · have hc : i < l1.length := by have := of_decide_eq_true hc; omega
    repeat (first | (with_reducible refine NilP.mk ?_) | ((with_reducible refine RunN.isLoad ?_); (first | refine h.loadB 0 0 ⟨_, rfl, rfl⟩ rfl rfl ?_ | refine h.loadB 1 0 ⟨_, rfl, rfl⟩ rfl rfl ?_ | refine h.drew.loadB 0 0 ⟨_, rfl, rfl⟩ rfl rfl ?_ | refine h.drew.loadB 1 0 ⟨_, rfl, rfl⟩ rfl rfl ?_)) | ((with_reducible refine ReadN.isLoad ?_); (first | refine h.readB 0 0 ⟨_, rfl, rfl⟩ rfl rfl ?_ | refine h.readB 1 0 ⟨_, rfl, rfl⟩ rfl rfl ?_ | refine h.drew.readB 0 0 ⟨_, rfl, rfl⟩ rfl rfl ?_ | refine h.drew.readB 1 0 ⟨_, rfl, rfl⟩ rfl rfl ?_)) | ((with_reducible refine StillV.isLoad ?_); (first | refine ⟨h.stillB 0 0 ⟨_, rfl, rfl⟩ rfl rfl, ?_⟩ | refine ⟨h.stillB 1 0 ⟨_, rfl, rfl⟩ rfl rfl, ?_⟩)) | ((with_reducible refine RunU.isStor ?_); (first | (refine h.storB 0 0 ⟨_, rfl, rfl⟩ rfl rfl rfl ?_; intro w h; dsimp only [updG, setO] at h) | (refine h.storB 1 0 ⟨_, rfl, rfl⟩ rfl rfl rfl ?_; intro w h; dsimp only [updG, setO] at h) | (refine h.drew.storB 0 0 ⟨_, rfl, rfl⟩ rfl rfl rfl ?_; intro w h; dsimp only [updG, setO] at h) | (refine h.drew.storB 1 0 ⟨_, rfl, rfl⟩ rfl rfl rfl ?_; intro w h; dsimp only [updG, setO] at h))) | ((with_reducible refine RunN.isBox ?_); (first | (refine h.newB run_boxA rfl ?_; intro bn w h; try dsimp only at h) | (refine h.drew.newB run_boxA rfl ?_; intro bn w h; try dsimp only at h))) | ((with_reducible refine RunN.isNew ?_); (first | (refine h.newB (NewC.run _) rfl ?_; intro bn w h) | (refine h.drew.newB (NewC.run _) rfl ?_; intro bn w h))))
    refine (h.rd (k := 0) (i := 0) ⟨_, rfl, rfl⟩).idxK i rfl (by omega) ?_
    intro b' o hb
    have hmw2 : (Value.int .i64 (IntKind.i64.wrap ((-1000) - (({ p with mark := p.mark + 1 } : Q).mark : Int)))) = Value.int .i64 M := by rw [← hmw]
    rw [hmw2]
    refine h.storR 0 0 ⟨_, rfl, rfl⟩ hb i (by rw [Nat.mul_one]) (by rw [lin_len]; exact hc) rfl ?_
    intro w h
    rw [lin_set] at h
    refine hK _ _ ⟨i + 1, l1.set i M, by simp; omega, by simp; omega, by dsimp only; rw [wr (by omega)]; omega, fun j hj => ?_, h⟩ (by dsimp only; rw [wr (by omega)]; omega)
    rw [List.getElem?_set]
    by_cases hij : i = j
    · subst hij; simp [hc]
    · rw [if_neg hij]; exact hlm j (by omega)
  · have hc : i = l1.length := by have := of_decide_eq_false hc; omega
    subst hc
    have hrep : l1 = List.replicate l1.length M := by
      refine List.ext_getElem? fun k => ?_
      rcases Nat.lt_or_ge k l1.length with hk | hk
      · rw [hlm k hk]; simp [hk]
      · rw [List.getElem?_eq_none hk, List.getElem?_eq_none (by simp; omega)]
    clear hK K hlm
    repeat (first | (with_reducible refine NilP.mk ?_) | ((with_reducible refine RunN.isLoad ?_); (first | refine h.loadB 0 0 ⟨_, rfl, rfl⟩ rfl rfl ?_ | refine h.loadB 1 0 ⟨_, rfl, rfl⟩ rfl rfl ?_ | refine h.drew.loadB 0 0 ⟨_, rfl, rfl⟩ rfl rfl ?_ | refine h.drew.loadB 1 0 ⟨_, rfl, rfl⟩ rfl rfl ?_)) | ((with_reducible refine ReadN.isLoad ?_); (first | refine h.readB 0 0 ⟨_, rfl, rfl⟩ rfl rfl ?_ | refine h.readB 1 0 ⟨_, rfl, rfl⟩ rfl rfl ?_ | refine h.drew.readB 0 0 ⟨_, rfl, rfl⟩ rfl rfl ?_ | refine h.drew.readB 1 0 ⟨_, rfl, rfl⟩ rfl rfl ?_)) | ((with_reducible refine StillV.isLoad ?_); (first | refine ⟨h.stillB 0 0 ⟨_, rfl, rfl⟩ rfl rfl, ?_⟩ | refine ⟨h.stillB 1 0 ⟨_, rfl, rfl⟩ rfl rfl, ?_⟩)) | ((with_reducible refine RunU.isStor ?_); (first | (refine h.storB 0 0 ⟨_, rfl, rfl⟩ rfl rfl rfl ?_; intro w h; dsimp only [updG, setO] at h) | (refine h.storB 1 0 ⟨_, rfl, rfl⟩ rfl rfl rfl ?_; intro w h; dsimp only [updG, setO] at h) | (refine h.drew.storB 0 0 ⟨_, rfl, rfl⟩ rfl rfl rfl ?_; intro w h; dsimp only [updG, setO] at h) | (refine h.drew.storB 1 0 ⟨_, rfl, rfl⟩ rfl rfl rfl ?_; intro w h; dsimp only [updG, setO] at h))) | ((with_reducible refine RunN.isBox ?_); (first | (refine h.newB run_boxA rfl ?_; intro bn w h; try dsimp only at h) | (refine h.drew.newB run_boxA rfl ?_; intro bn w h; try dsimp only at h))) | ((with_reducible refine RunN.isNew ?_); (first | (refine h.newB (NewC.run _) rfl ?_; intro bn w h) | (refine h.drew.newB (NewC.run _) rfl ?_; intro bn w h))))
    refine h.newS 1 (bs63 _ _) rfl rfl rfl ?_
    intro u w hul huc _ h
    refine h.app 8 0 ⟨_, rfl, rfl⟩ (h.rd (k := 0) (i := 0) ⟨_, rfl, rfl⟩) one_slice (by simp only [maxLen]; omega) (by first | omega | (dsimp only; omega)) ?_
    intro s5 w l5 h
    try dsimp only at l5
    dsimp only [updG, setO] at h
    have h := h.drop 0
    dsimp only [delO] at h
    repeat (first | (with_reducible refine NilP.mk ?_) | ((with_reducible refine RunN.isLoad ?_); (first | refine h.loadB 0 0 ⟨_, rfl, rfl⟩ rfl rfl ?_ | refine h.loadB 1 0 ⟨_, rfl, rfl⟩ rfl rfl ?_ | refine h.drew.loadB 0 0 ⟨_, rfl, rfl⟩ rfl rfl ?_ | refine h.drew.loadB 1 0 ⟨_, rfl, rfl⟩ rfl rfl ?_)) | ((with_reducible refine ReadN.isLoad ?_); (first | refine h.readB 0 0 ⟨_, rfl, rfl⟩ rfl rfl ?_ | refine h.readB 1 0 ⟨_, rfl, rfl⟩ rfl rfl ?_ | refine h.drew.readB 0 0 ⟨_, rfl, rfl⟩ rfl rfl ?_ | refine h.drew.readB 1 0 ⟨_, rfl, rfl⟩ rfl rfl ?_)) | ((with_reducible refine StillV.isLoad ?_); (first | refine ⟨h.stillB 0 0 ⟨_, rfl, rfl⟩ rfl rfl, ?_⟩ | refine ⟨h.stillB 1 0 ⟨_, rfl, rfl⟩ rfl rfl, ?_⟩)) | ((with_reducible refine RunU.isStor ?_); (first | (refine h.storB 0 0 ⟨_, rfl, rfl⟩ rfl rfl rfl ?_; intro w h; dsimp only [updG, setO] at h) | (refine h.storB 1 0 ⟨_, rfl, rfl⟩ rfl rfl rfl ?_; intro w h; dsimp only [updG, setO] at h) | (refine h.drew.storB 0 0 ⟨_, rfl, rfl⟩ rfl rfl rfl ?_; intro w h; dsimp only [updG, setO] at h) | (refine h.drew.storB 1 0 ⟨_, rfl, rfl⟩ rfl rfl rfl ?_; intro w h; dsimp only [updG, setO] at h))) | ((with_reducible refine RunN.isBox ?_); (first | (refine h.newB run_boxA rfl ?_; intro bn w h; try dsimp only at h) | (refine h.drew.newB run_boxA rfl ?_; intro bn w h; try dsimp only at h))) | ((with_reducible refine RunN.isNew ?_); (first | (refine h.newB (NewC.run _) rfl ?_; intro bn w h) | (refine h.drew.newB (NewC.run _) rfl ?_; intro bn w h))))
    repeat (first | (with_reducible refine NilP.mk ?_) | ((with_reducible refine RunN.isLoad ?_); (first | refine h.loadB 0 0 ⟨_, rfl, rfl⟩ rfl rfl ?_ | refine h.loadB 1 0 ⟨_, rfl, rfl⟩ rfl rfl ?_ | refine h.drew.loadB 0 0 ⟨_, rfl, rfl⟩ rfl rfl ?_ | refine h.drew.loadB 1 0 ⟨_, rfl, rfl⟩ rfl rfl ?_)) | ((with_reducible refine ReadN.isLoad ?_); (first | refine h.readB 0 0 ⟨_, rfl, rfl⟩ rfl rfl ?_ | refine h.readB 1 0 ⟨_, rfl, rfl⟩ rfl rfl ?_ | refine h.drew.readB 0 0 ⟨_, rfl, rfl⟩ rfl rfl ?_ | refine h.drew.readB 1 0 ⟨_, rfl, rfl⟩ rfl rfl ?_)) | ((with_reducible refine StillV.isLoad ?_); (first | refine ⟨h.stillB 0 0 ⟨_, rfl, rfl⟩ rfl rfl, ?_⟩ | refine ⟨h.stillB 1 0 ⟨_, rfl, rfl⟩ rfl rfl, ?_⟩)) | ((with_reducible refine RunU.isStor ?_); (first | (refine h.storB 0 0 ⟨_, rfl, rfl⟩ rfl rfl rfl ?_; intro w h; dsimp only [updG, setO] at h) | (refine h.storB 1 0 ⟨_, rfl, rfl⟩ rfl rfl rfl ?_; intro w h; dsimp only [updG, setO] at h) | (refine h.drew.storB 0 0 ⟨_, rfl, rfl⟩ rfl rfl rfl ?_; intro w h; dsimp only [updG, setO] at h) | (refine h.drew.storB 1 0 ⟨_, rfl, rfl⟩ rfl rfl rfl ?_; intro w h; dsimp only [updG, setO] at h))) | ((with_reducible refine RunN.isBox ?_); (first | (refine h.newB run_boxA rfl ?_; intro bn w h; try dsimp only at h) | (refine h.drew.newB run_boxA rfl ?_; intro bn w h; try dsimp only at h))) | ((with_reducible refine RunN.isNew ?_); (first | (refine h.newB (NewC.run _) rfl ?_; intro bn w h) | (refine h.drew.newB (NewC.run _) rfl ?_; intro bn w h))))
    have hmw2 : (Value.int .i64 (IntKind.i64.wrap ((-1000) - (({ p with mark := p.mark + 1 } : Q).mark : Int)))) = Value.int .i64 M := by rw [← hmw]
    rw [hmw2]
    refine h.drew.newS 1 (bs44 _ _) rfl rfl rfl ?_
    intro s6 w m1 m2 _ h
    refine ⟨h.stillB 2 0 ⟨_, rfl, rfl⟩ rfl rfl, ?_⟩
    refine h.app 10 0 ⟨_, rfl, rfl⟩ (h.rd (k := 0) (i := 0) ⟨_, rfl, rfl⟩) one_int (by simp only [maxLen]; omega) (by first | omega | (dsimp only; omega)) ?_
    intro s7 w l7 h
    try dsimp only at l7
    dsimp only [updG, setO] at h
    have h := h.drop 0
    dsimp only [delO] at h
    repeat (first | (with_reducible refine NilP.mk ?_) | ((with_reducible refine RunN.isLoad ?_); (first | refine h.loadB 0 0 ⟨_, rfl, rfl⟩ rfl rfl ?_ | refine h.loadB 1 0 ⟨_, rfl, rfl⟩ rfl rfl ?_ | refine h.drew.loadB 0 0 ⟨_, rfl, rfl⟩ rfl rfl ?_ | refine h.drew.loadB 1 0 ⟨_, rfl, rfl⟩ rfl rfl ?_)) | ((with_reducible refine ReadN.isLoad ?_); (first | refine h.readB 0 0 ⟨_, rfl, rfl⟩ rfl rfl ?_ | refine h.readB 1 0 ⟨_, rfl, rfl⟩ rfl rfl ?_ | refine h.drew.readB 0 0 ⟨_, rfl, rfl⟩ rfl rfl ?_ | refine h.drew.readB 1 0 ⟨_, rfl, rfl⟩ rfl rfl ?_)) | ((with_reducible refine StillV.isLoad ?_); (first | refine ⟨h.stillB 0 0 ⟨_, rfl, rfl⟩ rfl rfl, ?_⟩ | refine ⟨h.stillB 1 0 ⟨_, rfl, rfl⟩ rfl rfl, ?_⟩)) | ((with_reducible refine RunU.isStor ?_); (first | (refine h.storB 0 0 ⟨_, rfl, rfl⟩ rfl rfl rfl ?_; intro w h; dsimp only [updG, setO] at h) | (refine h.storB 1 0 ⟨_, rfl, rfl⟩ rfl rfl rfl ?_; intro w h; dsimp only [updG, setO] at h) | (refine h.drew.storB 0 0 ⟨_, rfl, rfl⟩ rfl rfl rfl ?_; intro w h; dsimp only [updG, setO] at h) | (refine h.drew.storB 1 0 ⟨_, rfl, rfl⟩ rfl rfl rfl ?_; intro w h; dsimp only [updG, setO] at h))) | ((with_reducible refine RunN.isBox ?_); (first | (refine h.newB run_boxA rfl ?_; intro bn w h; try dsimp only at h) | (refine h.drew.newB run_boxA rfl ?_; intro bn w h; try dsimp only at h))) | ((with_reducible refine RunN.isNew ?_); (first | (refine h.newB (NewC.run _) rfl ?_; intro bn w h) | (refine h.drew.newB (NewC.run _) rfl ?_; intro bn w h))))
    have h := (((h.bring 8 rfl).bring 1 rfl).into).back 7
    dsimp only [insO, delO] at h
    rw [← lsi_snoc _ (b, l1), ← lin_snoc _ M] at h
    have e0 : List.map irw p.is ++ [Ent.row 3 1 b (lin l1)] = (p.is ++ [(b, l1)]).map irw := by simp [irw]
    rw [e0] at h
    have hil2 : ∀ x ∈ p.is ++ [(b, l1)], x.2.length ≤ 64 := by
      intro x hx
      rcases List.mem_append.1 hx with hx | hx
      · exact ok.il x hx
      · simp at hx; subst hx; dsimp only; omega
    have him2 : ∀ k (h1 : k < (p.is ++ [(b, l1)]).length) (h2 : k < (p.ms ++ [M]).length), (p.is ++ [(b, l1)])[k].2 = List.replicate (p.is ++ [(b, l1)])[k].2.length (p.ms ++ [M])[k] := by
      intro k k1 k2
      rcases Nat.lt_or_ge k p.is.length with hlt | hge
      · rw [List.getElem_append_left hlt, List.getElem_append_left (by omega)]
        exact ok.im k hlt (by omega)
      · have : k = p.is.length := by simp at k1; omega
        subst this
        rw [List.getElem_append_right (Nat.le_refl _), List.getElem_append_right (by omega)]
        simp only [Nat.sub_self, hml, List.getElem_cons_zero]
        exact hrep
    rw [SplitB_iff]
    refine ⟨fun hc => ?_, fun hc => ?_⟩
    · have hc : p.is.length = 4 := by have := of_decide_eq_true hc; omega
      repeat (first | (with_reducible refine NilP.mk ?_) | ((with_reducible refine RunN.isLoad ?_); (first | refine h.loadB 0 0 ⟨_, rfl, rfl⟩ rfl rfl ?_ | refine h.drew.loadB 0 0 ⟨_, rfl, rfl⟩ rfl rfl ?_)) | ((with_reducible refine ReadN.isLoad ?_); (first | refine h.readB 0 0 ⟨_, rfl, rfl⟩ rfl rfl ?_ | refine h.drew.readB 0 0 ⟨_, rfl, rfl⟩ rfl rfl ?_)) | ((with_reducible refine StillV.isLoad ?_); (first | refine ⟨h.stillB 0 0 ⟨_, rfl, rfl⟩ rfl rfl, ?_⟩)) | ((with_reducible refine RunU.isStor ?_); (first | (refine h.storB 0 0 ⟨_, rfl, rfl⟩ rfl rfl rfl ?_; intro w h; dsimp only [updG, setO] at h) | (refine h.drew.storB 0 0 ⟨_, rfl, rfl⟩ rfl rfl rfl ?_; intro w h; dsimp only [updG, setO] at h))) | ((with_reducible refine RunN.isBox ?_); (first | (refine h.newB run_boxA rfl ?_; intro bn w h; try dsimp only at h) | (refine h.drew.newB run_boxA rfl ?_; intro bn w h; try dsimp only at h))) | ((with_reducible refine RunN.isNew ?_); (first | (refine h.newB (NewC.run _) rfl ?_; intro bn w h) | (refine h.drew.newB (NewC.run _) rfl ?_; intro bn w h))))
      refine RunN.sL 1 rfl (by omega) ?_
      repeat (first | (with_reducible refine NilP.mk ?_) | ((with_reducible refine RunN.isLoad ?_); (first | refine h.loadB 0 0 ⟨_, rfl, rfl⟩ rfl rfl ?_ | refine h.drew.loadB 0 0 ⟨_, rfl, rfl⟩ rfl rfl ?_)) | ((with_reducible refine ReadN.isLoad ?_); (first | refine h.readB 0 0 ⟨_, rfl, rfl⟩ rfl rfl ?_ | refine h.drew.readB 0 0 ⟨_, rfl, rfl⟩ rfl rfl ?_)) | ((with_reducible refine StillV.isLoad ?_); (first | refine ⟨h.stillB 0 0 ⟨_, rfl, rfl⟩ rfl rfl, ?_⟩)) | ((with_reducible refine RunU.isStor ?_); (first | (refine h.storB 0 0 ⟨_, rfl, rfl⟩ rfl rfl rfl ?_; intro w h; dsimp only [updG, setO] at h) | (refine h.drew.storB 0 0 ⟨_, rfl, rfl⟩ rfl rfl rfl ?_; intro w h; dsimp only [updG, setO] at h))) | ((with_reducible refine RunN.isBox ?_); (first | (refine h.newB run_boxA rfl ?_; intro bn w h; try dsimp only at h) | (refine h.drew.newB run_boxA rfl ?_; intro bn w h; try dsimp only at h))) | ((with_reducible refine RunN.isNew ?_); (first | (refine h.newB (NewC.run _) rfl ?_; intro bn w h) | (refine h.drew.newB (NewC.run _) rfl ?_; intro bn w h))))
      refine RunN.sL 1 rfl (by omega) ?_
      repeat (first | (with_reducible refine NilP.mk ?_) | ((with_reducible refine RunN.isLoad ?_); (first | refine h.loadB 0 0 ⟨_, rfl, rfl⟩ rfl rfl ?_ | refine h.drew.loadB 0 0 ⟨_, rfl, rfl⟩ rfl rfl ?_)) | ((with_reducible refine ReadN.isLoad ?_); (first | refine h.readB 0 0 ⟨_, rfl, rfl⟩ rfl rfl ?_ | refine h.drew.readB 0 0 ⟨_, rfl, rfl⟩ rfl rfl ?_)) | ((with_reducible refine StillV.isLoad ?_); (first | refine ⟨h.stillB 0 0 ⟨_, rfl, rfl⟩ rfl rfl, ?_⟩)) | ((with_reducible refine RunU.isStor ?_); (first | (refine h.storB 0 0 ⟨_, rfl, rfl⟩ rfl rfl rfl ?_; intro w h; dsimp only [updG, setO] at h) | (refine h.drew.storB 0 0 ⟨_, rfl, rfl⟩ rfl rfl rfl ?_; intro w h; dsimp only [updG, setO] at h))) | ((with_reducible refine RunN.isBox ?_); (first | (refine h.newB run_boxA rfl ?_; intro bn w h; try dsimp only at h) | (refine h.drew.newB run_boxA rfl ?_; intro bn w h; try dsimp only at h))) | ((with_reducible refine RunN.isNew ?_); (first | (refine h.newB (NewC.run _) rfl ?_; intro bn w h) | (refine h.drew.newB (NewC.run _) rfl ?_; intro bn w h))))
      obtain ⟨y, r, hy⟩ : ∃ y r, p.is = y :: r := by
        cases hp : p.is with
        | nil => rw [hp] at hc; simp at hc
        | cons y r => exact ⟨y, r, rfl⟩
      obtain ⟨y', r', hy'⟩ : ∃ y r, p.ms = y :: r := by
        cases hp : p.ms with
        | nil => rw [hp] at hml; simp at hml; omega
        | cons y r => exact ⟨y, r, rfl⟩
      have h := h.sufR (k := 6) (i := 0) ⟨_, rfl, rfl⟩ (lo := 1) (by omega)
      dsimp only [updG, setO] at h
      have h := h.sufR (k := 8) (i := 0) ⟨_, rfl, rfl⟩ (lo := 1) (by omega)
      dsimp only [updG, setO] at h
      rw [hy, hy'] at h
      have h := St.one.1 (h.bring 7 rfl)
      have h := (h.drop 0).back 7
      dsimp only [delO, insO] at h
      have e4 : (lsi (y :: r ++ [(b, l1)])).drop (1 * 1) = lsi (r ++ [(b, l1)]) := by rw [lsi_drop]; rfl
      have e5 : (lin (y' :: r' ++ [M])).drop (1 * 1) = lin (r' ++ [M]) := by rw [lin_drop]; rfl
      rw [e4, e5] at h
      rw [hy] at hil2 hc him2 hml
      rw [hy'] at him2 hml
      refine ⟨{ p with mark := p.mark + 1, si := subS s5 1 s5.len 1, is := r ++ [(b, l1)], sm := subS s7 1 s7.len 1, ms := r' ++ [M] }, ⟨rfl, rfl, rfl, rfl, rfl, rfl⟩, ?_, h⟩
      refine { (ok.mono (Nat.le_succ N)) with i4 := by dsimp only; simp at hc ⊢; omega, il := fun x hx => hil2 x (List.mem_cons_of_mem _ hx), ml := by dsimp only; simp at hml ⊢; omega, im := fun k k1 k2 => ?_, mark := by dsimp only; omega }
      dsimp only at k1 k2
      have := him2 (k + 1) (by simp at k1 ⊢; omega) (by simp at k2 ⊢; omega)
      simpa using this
    · have hc : p.is.length ≤ 3 := by have := of_decide_eq_false hc; omega
      refine ⟨{ p with mark := p.mark + 1, si := s5, is := p.is ++ [(b, l1)], sm := s7, ms := p.ms ++ [M] }, ⟨rfl, rfl, rfl, rfl, rfl, rfl⟩, ?_, h⟩
      exact { (ok.mono (Nat.le_succ N)) with i4 := by dsimp only; simp; omega, il := hil2, ml := by dsimp only; simp; omega, im := him2, mark := by dsimp only; omega }
end Go.Proofs.Ytpdaoahamgegoaa
