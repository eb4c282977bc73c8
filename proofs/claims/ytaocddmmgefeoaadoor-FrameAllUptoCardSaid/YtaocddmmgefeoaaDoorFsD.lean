/- An answer put on the shelf; a call and its answer. -/
import Derived.Test.YtaocddmmgefeoaaDoorFsC
namespace Go.Proofs.YtaocddmmgefeoaaDoor
open Go Go.Fw Go.RowKit Go.Frm
set_option linter.unusedVariables false
set_option linter.unusedSimpArgs false
set_option maxRecDepth 4000
set_option maxHeartbeats 2000000
variable {w0 w : World} {F : Grps} {n : Nat} {s : Sh}

theorem bs25 (w : World) (x : Sl) : (Instr.buildSlice 25 1 #[(0, .slice x.a x.len x.cap)]).run Tryd.prog w = .ok (.slice (some ⟨w.heap.size, 0, none⟩) 1 1) (w.alloc (.cells ⟨[.slice x.a x.len x.cap]⟩ 22)) := by kernel_rfl
theorem bs25b (w : World) (x y : Sl) : (Instr.buildSlice 25 2 #[(0, .slice x.a x.len x.cap), (1, .slice y.a y.len y.cap)]).run Tryd.prog w = .ok (.slice (some ⟨w.heap.size, 0, none⟩) 2 2) (w.alloc (.cells ⟨[.slice x.a x.len x.cap, .slice y.a y.len y.cap]⟩ 22)) := by kernel_rfl
theorem bs26 (w : World) (x : ByteArray) : (Instr.buildSlice 26 1 #[(0, .string x)]).run Tryd.prog w = .ok (.slice (some ⟨w.heap.size, 0, none⟩) 1 1) (w.alloc (.cells ⟨[.string x]⟩ 9)) := by kernel_rfl
theorem bs26b (w : World) (x y : ByteArray) : (Instr.buildSlice 26 2 #[(0, .string x), (1, .string y)]).run Tryd.prog w = .ok (.slice (some ⟨w.heap.size, 0, none⟩) 2 2) (w.alloc (.cells ⟨[.string x, .string y]⟩ 9)) := by kernel_rfl

theorem keep_st {b : Sl} {v : List UInt8} (h : St w0 w ([.row 5 1 b (bys v)] :: s.gs F)) (ok : s.Ok n) (hn : n ≤ 1000000) (hv : v.length ≤ 131072) :
    CallK Tryd.prog (.tup .nilT) 26 #[.pointer (some ⟨s.Q, 0, none⟩), .slice b.a b.len b.cap] w fun (_ : Unit) w' => ∃ s' : Sh, s'.Q = s.Q ∧ s'.Ok (n + 1) ∧ St w0 w' (s'.gs F) := by
  have hbl := (h.rd (k := 0) (i := 0) ⟨_, rfl, rfl⟩).bys_len
  have h1 := sh_sl (h.drop 0)
  have h2 := sh_sh (h.drop 0)
  have h3 := sh_sf (h.drop 0)
  have h4 := sh_sw (h.drop 0)
  have hmk := ok.mrk
  have hfl := ok.fl
  have hp4 := ok.p4
  refine T26.calls ?_
  unfold T26
  repeat (first | (with_reducible refine NilP.mk ?_) | ((with_reducible refine RunN.isLoad ?_); (first | refine h.loadB 0 0 ⟨_, rfl, rfl⟩ rfl rfl ?_ | refine h.loadB 1 0 ⟨_, rfl, rfl⟩ rfl rfl ?_ | refine h.drew.loadB 0 0 ⟨_, rfl, rfl⟩ rfl rfl ?_ | refine h.drew.loadB 1 0 ⟨_, rfl, rfl⟩ rfl rfl ?_)) | ((with_reducible refine ReadN.isLoad ?_); (first | refine h.readB 0 0 ⟨_, rfl, rfl⟩ rfl rfl ?_ | refine h.readB 1 0 ⟨_, rfl, rfl⟩ rfl rfl ?_ | refine h.drew.readB 0 0 ⟨_, rfl, rfl⟩ rfl rfl ?_ | refine h.drew.readB 1 0 ⟨_, rfl, rfl⟩ rfl rfl ?_)) | ((with_reducible refine StillV.isLoad ?_); (first | refine ⟨h.stillB 0 0 ⟨_, rfl, rfl⟩ rfl rfl, ?_⟩ | refine ⟨h.stillB 1 0 ⟨_, rfl, rfl⟩ rfl rfl, ?_⟩)) | ((with_reducible refine RunU.isStor ?_); (first | (refine h.storB 0 0 ⟨_, rfl, rfl⟩ rfl rfl rfl ?_; intro w h; dsimp only [updG, setO] at h) | (refine h.storB 1 0 ⟨_, rfl, rfl⟩ rfl rfl rfl ?_; intro w h; dsimp only [updG, setO] at h) | (refine h.drew.storB 0 0 ⟨_, rfl, rfl⟩ rfl rfl rfl ?_; intro w h; dsimp only [updG, setO] at h) | (refine h.drew.storB 1 0 ⟨_, rfl, rfl⟩ rfl rfl rfl ?_; intro w h; dsimp only [updG, setO] at h))) | ((with_reducible refine RunN.isBox ?_); (first | (refine h.newB run_boxA rfl ?_; intro bn w h; try dsimp only at h) | (refine h.drew.newB run_boxA rfl ?_; intro bn w h; try dsimp only at h))) | ((with_reducible refine RunN.isNew ?_); (first | (refine h.newB (NewC.run _) rfl ?_; intro bn w h) | (refine h.drew.newB (NewC.run _) rfl ?_; intro bn w h))))
  rw [wr (by omega)] at h
  repeat (first | (with_reducible refine NilP.mk ?_) | ((with_reducible refine RunN.isLoad ?_); (first | refine h.loadB 0 0 ⟨_, rfl, rfl⟩ rfl rfl ?_ | refine h.loadB 1 0 ⟨_, rfl, rfl⟩ rfl rfl ?_ | refine h.drew.loadB 0 0 ⟨_, rfl, rfl⟩ rfl rfl ?_ | refine h.drew.loadB 1 0 ⟨_, rfl, rfl⟩ rfl rfl ?_)) | ((with_reducible refine ReadN.isLoad ?_); (first | refine h.readB 0 0 ⟨_, rfl, rfl⟩ rfl rfl ?_ | refine h.readB 1 0 ⟨_, rfl, rfl⟩ rfl rfl ?_ | refine h.drew.readB 0 0 ⟨_, rfl, rfl⟩ rfl rfl ?_ | refine h.drew.readB 1 0 ⟨_, rfl, rfl⟩ rfl rfl ?_)) | ((with_reducible refine StillV.isLoad ?_); (first | refine ⟨h.stillB 0 0 ⟨_, rfl, rfl⟩ rfl rfl, ?_⟩ | refine ⟨h.stillB 1 0 ⟨_, rfl, rfl⟩ rfl rfl, ?_⟩)) | ((with_reducible refine RunU.isStor ?_); (first | (refine h.storB 0 0 ⟨_, rfl, rfl⟩ rfl rfl rfl ?_; intro w h; dsimp only [updG, setO] at h) | (refine h.storB 1 0 ⟨_, rfl, rfl⟩ rfl rfl rfl ?_; intro w h; dsimp only [updG, setO] at h) | (refine h.drew.storB 0 0 ⟨_, rfl, rfl⟩ rfl rfl rfl ?_; intro w h; dsimp only [updG, setO] at h) | (refine h.drew.storB 1 0 ⟨_, rfl, rfl⟩ rfl rfl rfl ?_; intro w h; dsimp only [updG, setO] at h))) | ((with_reducible refine RunN.isBox ?_); (first | (refine h.newB run_boxA rfl ?_; intro bn w h; try dsimp only at h) | (refine h.drew.newB run_boxA rfl ?_; intro bn w h; try dsimp only at h))) | ((with_reducible refine RunN.isNew ?_); (first | (refine h.newB (NewC.run _) rfl ?_; intro bn w h) | (refine h.drew.newB (NewC.run _) rfl ?_; intro bn w h))))
  have hm1 : (s.mark : Int) + 1 = ((s.mark + 1 : Nat) : Int) := by omega
  rw [SplitB_iff]
  refine ⟨fun hc => ?_, fun hc => ?_⟩
  · skip
    repeat (first | (with_reducible refine NilP.mk ?_) | ((with_reducible refine RunN.isLoad ?_); (first | refine h.loadB 0 0 ⟨_, rfl, rfl⟩ rfl rfl ?_ | refine h.loadB 1 0 ⟨_, rfl, rfl⟩ rfl rfl ?_ | refine h.drew.loadB 0 0 ⟨_, rfl, rfl⟩ rfl rfl ?_ | refine h.drew.loadB 1 0 ⟨_, rfl, rfl⟩ rfl rfl ?_)) | ((with_reducible refine ReadN.isLoad ?_); (first | refine h.readB 0 0 ⟨_, rfl, rfl⟩ rfl rfl ?_ | refine h.readB 1 0 ⟨_, rfl, rfl⟩ rfl rfl ?_ | refine h.drew.readB 0 0 ⟨_, rfl, rfl⟩ rfl rfl ?_ | refine h.drew.readB 1 0 ⟨_, rfl, rfl⟩ rfl rfl ?_)) | ((with_reducible refine StillV.isLoad ?_); (first | refine ⟨h.stillB 0 0 ⟨_, rfl, rfl⟩ rfl rfl, ?_⟩ | refine ⟨h.stillB 1 0 ⟨_, rfl, rfl⟩ rfl rfl, ?_⟩)) | ((with_reducible refine RunU.isStor ?_); (first | (refine h.storB 0 0 ⟨_, rfl, rfl⟩ rfl rfl rfl ?_; intro w h; dsimp only [updG, setO] at h) | (refine h.storB 1 0 ⟨_, rfl, rfl⟩ rfl rfl rfl ?_; intro w h; dsimp only [updG, setO] at h) | (refine h.drew.storB 0 0 ⟨_, rfl, rfl⟩ rfl rfl rfl ?_; intro w h; dsimp only [updG, setO] at h) | (refine h.drew.storB 1 0 ⟨_, rfl, rfl⟩ rfl rfl rfl ?_; intro w h; dsimp only [updG, setO] at h))) | ((with_reducible refine RunN.isBox ?_); (first | (refine h.newB run_boxA rfl ?_; intro bn w h; try dsimp only at h) | (refine h.drew.newB run_boxA rfl ?_; intro bn w h; try dsimp only at h))) | ((with_reducible refine RunN.isNew ?_); (first | (refine h.newB (NewC.run _) rfl ?_; intro bn w h) | (refine h.drew.newB (NewC.run _) rfl ?_; intro bn w h))))
    refine h.newS 1 (bs25 _ _) rfl rfl rfl ?_
    intro s4 w l1 l2 _ h
    refine h.app 7 0 ⟨_, rfl, rfl⟩ (h.rd (k := 0) (i := 0) ⟨_, rfl, rfl⟩) one_slice (by simp only [maxLen]; omega) (by omega) ?_
    intro s5 w l5 h
    dsimp only [updG, setO] at h
    have h := h.drop 0
    dsimp only [delO] at h
    repeat (first | (with_reducible refine NilP.mk ?_) | ((with_reducible refine RunN.isLoad ?_); (first | refine h.loadB 0 0 ⟨_, rfl, rfl⟩ rfl rfl ?_ | refine h.loadB 1 0 ⟨_, rfl, rfl⟩ rfl rfl ?_ | refine h.drew.loadB 0 0 ⟨_, rfl, rfl⟩ rfl rfl ?_ | refine h.drew.loadB 1 0 ⟨_, rfl, rfl⟩ rfl rfl ?_)) | ((with_reducible refine ReadN.isLoad ?_); (first | refine h.readB 0 0 ⟨_, rfl, rfl⟩ rfl rfl ?_ | refine h.readB 1 0 ⟨_, rfl, rfl⟩ rfl rfl ?_ | refine h.drew.readB 0 0 ⟨_, rfl, rfl⟩ rfl rfl ?_ | refine h.drew.readB 1 0 ⟨_, rfl, rfl⟩ rfl rfl ?_)) | ((with_reducible refine StillV.isLoad ?_); (first | refine ⟨h.stillB 0 0 ⟨_, rfl, rfl⟩ rfl rfl, ?_⟩ | refine ⟨h.stillB 1 0 ⟨_, rfl, rfl⟩ rfl rfl, ?_⟩)) | ((with_reducible refine RunU.isStor ?_); (first | (refine h.storB 0 0 ⟨_, rfl, rfl⟩ rfl rfl rfl ?_; intro w h; dsimp only [updG, setO] at h) | (refine h.storB 1 0 ⟨_, rfl, rfl⟩ rfl rfl rfl ?_; intro w h; dsimp only [updG, setO] at h) | (refine h.drew.storB 0 0 ⟨_, rfl, rfl⟩ rfl rfl rfl ?_; intro w h; dsimp only [updG, setO] at h) | (refine h.drew.storB 1 0 ⟨_, rfl, rfl⟩ rfl rfl rfl ?_; intro w h; dsimp only [updG, setO] at h))) | ((with_reducible refine RunN.isBox ?_); (first | (refine h.newB run_boxA rfl ?_; intro bn w h; try dsimp only at h) | (refine h.drew.newB run_boxA rfl ?_; intro bn w h; try dsimp only at h))) | ((with_reducible refine RunN.isNew ?_); (first | (refine h.newB (NewC.run _) rfl ?_; intro bn w h) | (refine h.drew.newB (NewC.run _) rfl ?_; intro bn w h))))
    repeat (first | (with_reducible refine NilP.mk ?_) | ((with_reducible refine RunN.isLoad ?_); (first | refine h.loadB 0 0 ⟨_, rfl, rfl⟩ rfl rfl ?_ | refine h.loadB 1 0 ⟨_, rfl, rfl⟩ rfl rfl ?_ | refine h.drew.loadB 0 0 ⟨_, rfl, rfl⟩ rfl rfl ?_ | refine h.drew.loadB 1 0 ⟨_, rfl, rfl⟩ rfl rfl ?_)) | ((with_reducible refine ReadN.isLoad ?_); (first | refine h.readB 0 0 ⟨_, rfl, rfl⟩ rfl rfl ?_ | refine h.readB 1 0 ⟨_, rfl, rfl⟩ rfl rfl ?_ | refine h.drew.readB 0 0 ⟨_, rfl, rfl⟩ rfl rfl ?_ | refine h.drew.readB 1 0 ⟨_, rfl, rfl⟩ rfl rfl ?_)) | ((with_reducible refine StillV.isLoad ?_); (first | refine ⟨h.stillB 0 0 ⟨_, rfl, rfl⟩ rfl rfl, ?_⟩ | refine ⟨h.stillB 1 0 ⟨_, rfl, rfl⟩ rfl rfl, ?_⟩)) | ((with_reducible refine RunU.isStor ?_); (first | (refine h.storB 0 0 ⟨_, rfl, rfl⟩ rfl rfl rfl ?_; intro w h; dsimp only [updG, setO] at h) | (refine h.storB 1 0 ⟨_, rfl, rfl⟩ rfl rfl rfl ?_; intro w h; dsimp only [updG, setO] at h) | (refine h.drew.storB 0 0 ⟨_, rfl, rfl⟩ rfl rfl rfl ?_; intro w h; dsimp only [updG, setO] at h) | (refine h.drew.storB 1 0 ⟨_, rfl, rfl⟩ rfl rfl rfl ?_; intro w h; dsimp only [updG, setO] at h))) | ((with_reducible refine RunN.isBox ?_); (first | (refine h.newB run_boxA rfl ?_; intro bn w h; try dsimp only at h) | (refine h.drew.newB run_boxA rfl ?_; intro bn w h; try dsimp only at h))) | ((with_reducible refine RunN.isNew ?_); (first | (refine h.newB (NewC.run _) rfl ?_; intro bn w h) | (refine h.drew.newB (NewC.run _) rfl ?_; intro bn w h))))
    refine str_ro (h.drew.rd (k := 0) (i := 0) ⟨_, rfl, rfl⟩) ?_
    refine h.drew.newS 1 (bs26 _ _) rfl rfl rfl ?_
    intro s6 w l1 l2 _ h
    refine ⟨h.stillB 2 0 ⟨_, rfl, rfl⟩ rfl rfl, ?_⟩
    refine h.app 9 0 ⟨_, rfl, rfl⟩ (h.rd (k := 0) (i := 0) ⟨_, rfl, rfl⟩) one_str (by simp only [maxLen]; omega) (by omega) ?_
    intro s7 w l7 h
    dsimp only [updG, setO] at h
    have h := h.drop 0
    dsimp only [delO] at h
    repeat (first | (with_reducible refine NilP.mk ?_) | ((with_reducible refine RunN.isLoad ?_); (first | refine h.loadB 0 0 ⟨_, rfl, rfl⟩ rfl rfl ?_ | refine h.loadB 1 0 ⟨_, rfl, rfl⟩ rfl rfl ?_ | refine h.drew.loadB 0 0 ⟨_, rfl, rfl⟩ rfl rfl ?_ | refine h.drew.loadB 1 0 ⟨_, rfl, rfl⟩ rfl rfl ?_)) | ((with_reducible refine ReadN.isLoad ?_); (first | refine h.readB 0 0 ⟨_, rfl, rfl⟩ rfl rfl ?_ | refine h.readB 1 0 ⟨_, rfl, rfl⟩ rfl rfl ?_ | refine h.drew.readB 0 0 ⟨_, rfl, rfl⟩ rfl rfl ?_ | refine h.drew.readB 1 0 ⟨_, rfl, rfl⟩ rfl rfl ?_)) | ((with_reducible refine StillV.isLoad ?_); (first | refine ⟨h.stillB 0 0 ⟨_, rfl, rfl⟩ rfl rfl, ?_⟩ | refine ⟨h.stillB 1 0 ⟨_, rfl, rfl⟩ rfl rfl, ?_⟩)) | ((with_reducible refine RunU.isStor ?_); (first | (refine h.storB 0 0 ⟨_, rfl, rfl⟩ rfl rfl rfl ?_; intro w h; dsimp only [updG, setO] at h) | (refine h.storB 1 0 ⟨_, rfl, rfl⟩ rfl rfl rfl ?_; intro w h; dsimp only [updG, setO] at h) | (refine h.drew.storB 0 0 ⟨_, rfl, rfl⟩ rfl rfl rfl ?_; intro w h; dsimp only [updG, setO] at h) | (refine h.drew.storB 1 0 ⟨_, rfl, rfl⟩ rfl rfl rfl ?_; intro w h; dsimp only [updG, setO] at h))) | ((with_reducible refine RunN.isBox ?_); (first | (refine h.newB run_boxA rfl ?_; intro bn w h; try dsimp only at h) | (refine h.drew.newB run_boxA rfl ?_; intro bn w h; try dsimp only at h))) | ((with_reducible refine RunN.isNew ?_); (first | (refine h.newB (NewC.run _) rfl ?_; intro bn w h) | (refine h.drew.newB (NewC.run _) rfl ?_; intro bn w h))))
    have h := (((h.bring 7 rfl).bring 1 rfl).into).back 6
    dsimp only [insO, delO] at h
    rw [← lsl_snoc _ (b, v), ← lst_snoc _ (b, v)] at h
    refine ⟨{ s with mark := s.mark + 1, sf := s5, fs := s.fs ++ [(b, v)], sw := s7 }, rfl, ?_, ?_⟩
    · refine { ok with mrk := by dsimp only; omega, fl := by dsimp only; rw [List.length_append]; simp; omega, fsl := ?_ }
      intro x hx
      rcases List.mem_append.1 hx with hx | hx
      · exact ok.fsl x hx
      · simp at hx; subst hx; exact hv
    · show St w0 _ _
      simp only [Sh.gs, Sh.gs', List.map_append]
      exact h
  · -- written full
    clear hc
    refine LoopX.mk (fun st w' => ∃ (i : Nat) (l1 : List UInt8), i ≤ l1.length ∧ l1.length = v.length ∧ st.1 = (i : Int) ∧ St w0 w' ([.row 5 1 b (bys l1)] :: ({ s with mark := s.mark + 1 } : Sh).gs F)) (fun st => v.length - st.1.toNat) ⟨0, v, Nat.zero_le _, rfl, rfl, h⟩ ?_
    clear h
    rintro ⟨_, ⟨⟩⟩ w ⟨i, l1, hi, hl1, rfl, h⟩ K hK
    dsimp only at h hK ⊢
    rw [SplitB_iff]
    refine ⟨fun hc => ?_, fun hc => ?_⟩
    · have hc : i < l1.length := by have := of_decide_eq_true hc; omega
      repeat (first | (with_reducible refine NilP.mk ?_) | ((with_reducible refine RunN.isLoad ?_); (first | refine h.loadB 0 0 ⟨_, rfl, rfl⟩ rfl rfl ?_ | refine h.loadB 1 0 ⟨_, rfl, rfl⟩ rfl rfl ?_ | refine h.drew.loadB 0 0 ⟨_, rfl, rfl⟩ rfl rfl ?_ | refine h.drew.loadB 1 0 ⟨_, rfl, rfl⟩ rfl rfl ?_)) | ((with_reducible refine ReadN.isLoad ?_); (first | refine h.readB 0 0 ⟨_, rfl, rfl⟩ rfl rfl ?_ | refine h.readB 1 0 ⟨_, rfl, rfl⟩ rfl rfl ?_ | refine h.drew.readB 0 0 ⟨_, rfl, rfl⟩ rfl rfl ?_ | refine h.drew.readB 1 0 ⟨_, rfl, rfl⟩ rfl rfl ?_)) | ((with_reducible refine StillV.isLoad ?_); (first | refine ⟨h.stillB 0 0 ⟨_, rfl, rfl⟩ rfl rfl, ?_⟩ | refine ⟨h.stillB 1 0 ⟨_, rfl, rfl⟩ rfl rfl, ?_⟩)) | ((with_reducible refine RunU.isStor ?_); (first | (refine h.storB 0 0 ⟨_, rfl, rfl⟩ rfl rfl rfl ?_; intro w h; dsimp only [updG, setO] at h) | (refine h.storB 1 0 ⟨_, rfl, rfl⟩ rfl rfl rfl ?_; intro w h; dsimp only [updG, setO] at h) | (refine h.drew.storB 0 0 ⟨_, rfl, rfl⟩ rfl rfl rfl ?_; intro w h; dsimp only [updG, setO] at h) | (refine h.drew.storB 1 0 ⟨_, rfl, rfl⟩ rfl rfl rfl ?_; intro w h; dsimp only [updG, setO] at h))) | ((with_reducible refine RunN.isBox ?_); (first | (refine h.newB run_boxA rfl ?_; intro bn w h; try dsimp only at h) | (refine h.drew.newB run_boxA rfl ?_; intro bn w h; try dsimp only at h))) | ((with_reducible refine RunN.isNew ?_); (first | (refine h.newB (NewC.run _) rfl ?_; intro bn w h) | (refine h.drew.newB (NewC.run _) rfl ?_; intro bn w h))))
      refine (h.rd (k := 0) (i := 0) ⟨_, rfl, rfl⟩).idxK i rfl (by omega) ?_
      intro b' o hb
      rw [by8_v]
      refine h.storR 0 0 ⟨_, rfl, rfl⟩ hb i (by rw [Nat.mul_one]) (by simpa using hc) rfl ?_
      intro w h
      rw [Go.Fw.bys_set] at h
      exact hK _ _ ⟨i + 1, l1.set i _, by simp; omega, by simp; omega, by dsimp only; rw [wr (by omega)]; omega, h⟩ (by dsimp only; rw [wr (by omega)]; omega)
    clear hK K hc hi i
    have hcapb := (h.rd (k := 0) (i := 0) ⟨_, rfl, rfl⟩).2.2
    refine LoopX.mk (fun st w' => ∃ e : List UInt8, e.length ≤ 80 ∧ st.2.1 = (e.length : Int) ∧ Grow 5 w0 w' b l1 st.1 e (({ s with mark := s.mark + 1 } : Sh).gs F)) (fun st => 80 - st.2.1.toNat) ⟨[], by simp, rfl, Grow.start h⟩ ?_
    clear h
    rintro ⟨d, _, ⟨⟩⟩ w ⟨e, he, rfl, hg⟩ K hK
    dsimp only at hg hK ⊢
    have hread : ∀ {K : Int → World → Prop}, K ((s.mark + 1 : Nat) : Int) w → RunN Tryd.prog (.int .i64) (V (Instr.loadAt 3 (.pointer (some ((⟨s.Q, 0, none⟩ : Addr).add 2))))) w K := by
      intro K hKK
      obtain ⟨_, _, hc⟩ := hg
      rcases hc with ⟨_, _, h⟩ | h
      · exact h.loadB 1 0 ⟨_, rfl, rfl⟩ rfl rfl hKK
      · exact h.loadB 1 0 ⟨_, rfl, rfl⟩ rfl rfl hKK
    rw [SplitB_iff]
    refine ⟨fun hd => ?_, fun hd => ?_⟩
    · have hd : e.length < 80 := by have := of_decide_eq_true hd; omega
      refine NilP.mk ?_
      refine hread ?_
      refine Grow.app bs1 hg _ _ (by8_v _) (by omega) ?_
      intro d' w hg
      exact hK _ _ ⟨e ++ [_], by simp; omega, by dsimp only; rw [wr (by omega)]; simp, hg⟩ (by dsimp only; rw [wr (by omega)]; omega)
    · clear hread hK K hd
      obtain ⟨g, hf, h⟩ := hg.far hcapb
      clear hg
      repeat (first | (with_reducible refine NilP.mk ?_) | ((with_reducible refine RunN.isLoad ?_); (first | refine h.loadB 0 0 ⟨_, rfl, rfl⟩ rfl rfl ?_ | refine h.loadB 1 0 ⟨_, rfl, rfl⟩ rfl rfl ?_ | refine h.drew.loadB 0 0 ⟨_, rfl, rfl⟩ rfl rfl ?_ | refine h.drew.loadB 1 0 ⟨_, rfl, rfl⟩ rfl rfl ?_)) | ((with_reducible refine ReadN.isLoad ?_); (first | refine h.readB 0 0 ⟨_, rfl, rfl⟩ rfl rfl ?_ | refine h.readB 1 0 ⟨_, rfl, rfl⟩ rfl rfl ?_ | refine h.drew.readB 0 0 ⟨_, rfl, rfl⟩ rfl rfl ?_ | refine h.drew.readB 1 0 ⟨_, rfl, rfl⟩ rfl rfl ?_)) | ((with_reducible refine StillV.isLoad ?_); (first | refine ⟨h.stillB 0 0 ⟨_, rfl, rfl⟩ rfl rfl, ?_⟩ | refine ⟨h.stillB 1 0 ⟨_, rfl, rfl⟩ rfl rfl, ?_⟩)) | ((with_reducible refine RunU.isStor ?_); (first | (refine h.storB 0 0 ⟨_, rfl, rfl⟩ rfl rfl rfl ?_; intro w h; dsimp only [updG, setO] at h) | (refine h.storB 1 0 ⟨_, rfl, rfl⟩ rfl rfl rfl ?_; intro w h; dsimp only [updG, setO] at h) | (refine h.drew.storB 0 0 ⟨_, rfl, rfl⟩ rfl rfl rfl ?_; intro w h; dsimp only [updG, setO] at h) | (refine h.drew.storB 1 0 ⟨_, rfl, rfl⟩ rfl rfl rfl ?_; intro w h; dsimp only [updG, setO] at h))) | ((with_reducible refine RunN.isBox ?_); (first | (refine h.newB run_boxA rfl ?_; intro bn w h; try dsimp only at h) | (refine h.drew.newB run_boxA rfl ?_; intro bn w h; try dsimp only at h))) | ((with_reducible refine RunN.isNew ?_); (first | (refine h.newB (NewC.run _) rfl ?_; intro bn w h) | (refine h.drew.newB (NewC.run _) rfl ?_; intro bn w h))))
      refine h.newS 1 (bs25b _ _ _) rfl rfl rfl ?_
      intro s4 w m1 m2 _ h
      refine h.app 3 0 ⟨_, rfl, rfl⟩ (h.rd (k := 0) (i := 0) ⟨_, rfl, rfl⟩) (by intro x hx; simp at hx; rcases hx with rfl | rfl <;> rfl) (by simp only [maxLen]; omega) (by first | omega | (dsimp only; omega)) ?_
      intro s5 w m5 h
      try dsimp only at m5
      dsimp only [updG, setO] at h
      have h := h.drop 0
      dsimp only [delO] at h
      repeat (first | (with_reducible refine NilP.mk ?_) | ((with_reducible refine RunN.isLoad ?_); (first | refine h.loadB 0 0 ⟨_, rfl, rfl⟩ rfl rfl ?_ | refine h.loadB 1 0 ⟨_, rfl, rfl⟩ rfl rfl ?_ | refine h.drew.loadB 0 0 ⟨_, rfl, rfl⟩ rfl rfl ?_ | refine h.drew.loadB 1 0 ⟨_, rfl, rfl⟩ rfl rfl ?_)) | ((with_reducible refine ReadN.isLoad ?_); (first | refine h.readB 0 0 ⟨_, rfl, rfl⟩ rfl rfl ?_ | refine h.readB 1 0 ⟨_, rfl, rfl⟩ rfl rfl ?_ | refine h.drew.readB 0 0 ⟨_, rfl, rfl⟩ rfl rfl ?_ | refine h.drew.readB 1 0 ⟨_, rfl, rfl⟩ rfl rfl ?_)) | ((with_reducible refine StillV.isLoad ?_); (first | refine ⟨h.stillB 0 0 ⟨_, rfl, rfl⟩ rfl rfl, ?_⟩ | refine ⟨h.stillB 1 0 ⟨_, rfl, rfl⟩ rfl rfl, ?_⟩)) | ((with_reducible refine RunU.isStor ?_); (first | (refine h.storB 0 0 ⟨_, rfl, rfl⟩ rfl rfl rfl ?_; intro w h; dsimp only [updG, setO] at h) | (refine h.storB 1 0 ⟨_, rfl, rfl⟩ rfl rfl rfl ?_; intro w h; dsimp only [updG, setO] at h) | (refine h.drew.storB 0 0 ⟨_, rfl, rfl⟩ rfl rfl rfl ?_; intro w h; dsimp only [updG, setO] at h) | (refine h.drew.storB 1 0 ⟨_, rfl, rfl⟩ rfl rfl rfl ?_; intro w h; dsimp only [updG, setO] at h))) | ((with_reducible refine RunN.isBox ?_); (first | (refine h.newB run_boxA rfl ?_; intro bn w h; try dsimp only at h) | (refine h.drew.newB run_boxA rfl ?_; intro bn w h; try dsimp only at h))) | ((with_reducible refine RunN.isNew ?_); (first | (refine h.newB (NewC.run _) rfl ?_; intro bn w h) | (refine h.drew.newB (NewC.run _) rfl ?_; intro bn w h))))
      repeat (first | (with_reducible refine NilP.mk ?_) | ((with_reducible refine RunN.isLoad ?_); (first | refine h.loadB 0 0 ⟨_, rfl, rfl⟩ rfl rfl ?_ | refine h.loadB 1 0 ⟨_, rfl, rfl⟩ rfl rfl ?_ | refine h.drew.loadB 0 0 ⟨_, rfl, rfl⟩ rfl rfl ?_ | refine h.drew.loadB 1 0 ⟨_, rfl, rfl⟩ rfl rfl ?_)) | ((with_reducible refine ReadN.isLoad ?_); (first | refine h.readB 0 0 ⟨_, rfl, rfl⟩ rfl rfl ?_ | refine h.readB 1 0 ⟨_, rfl, rfl⟩ rfl rfl ?_ | refine h.drew.readB 0 0 ⟨_, rfl, rfl⟩ rfl rfl ?_ | refine h.drew.readB 1 0 ⟨_, rfl, rfl⟩ rfl rfl ?_)) | ((with_reducible refine StillV.isLoad ?_); (first | refine ⟨h.stillB 0 0 ⟨_, rfl, rfl⟩ rfl rfl, ?_⟩ | refine ⟨h.stillB 1 0 ⟨_, rfl, rfl⟩ rfl rfl, ?_⟩)) | ((with_reducible refine RunU.isStor ?_); (first | (refine h.storB 0 0 ⟨_, rfl, rfl⟩ rfl rfl rfl ?_; intro w h; dsimp only [updG, setO] at h) | (refine h.storB 1 0 ⟨_, rfl, rfl⟩ rfl rfl rfl ?_; intro w h; dsimp only [updG, setO] at h) | (refine h.drew.storB 0 0 ⟨_, rfl, rfl⟩ rfl rfl rfl ?_; intro w h; dsimp only [updG, setO] at h) | (refine h.drew.storB 1 0 ⟨_, rfl, rfl⟩ rfl rfl rfl ?_; intro w h; dsimp only [updG, setO] at h))) | ((with_reducible refine RunN.isBox ?_); (first | (refine h.newB run_boxA rfl ?_; intro bn w h; try dsimp only at h) | (refine h.drew.newB run_boxA rfl ?_; intro bn w h; try dsimp only at h))) | ((with_reducible refine RunN.isNew ?_); (first | (refine h.newB (NewC.run _) rfl ?_; intro bn w h) | (refine h.drew.newB (NewC.run _) rfl ?_; intro bn w h))))
      obtain ⟨hry, hrx⟩ := hf.reads h.drew (k := 0) (gs := g) rfl (fun e he => he)
      refine str_ro hrx ?_
      refine str_ro hry ?_
      refine h.drew.newS 1 (bs26b _ _ _) rfl rfl rfl ?_
      intro s6 w m3 m4 _ h
      refine ⟨h.stillB 2 0 ⟨_, rfl, rfl⟩ rfl rfl, ?_⟩
      refine h.app 5 0 ⟨_, rfl, rfl⟩ (h.rd (k := 0) (i := 0) ⟨_, rfl, rfl⟩) (by intro x hx; simp at hx; rcases hx with rfl | rfl <;> rfl) (by simp only [maxLen]; omega) (by first | omega | (dsimp only; omega)) ?_
      intro s7 w m7 h
      try dsimp only at m7
      dsimp only [updG, setO] at h
      have h := h.drop 0
      dsimp only [delO] at h
      repeat (first | (with_reducible refine NilP.mk ?_) | ((with_reducible refine RunN.isLoad ?_); (first | refine h.loadB 0 0 ⟨_, rfl, rfl⟩ rfl rfl ?_ | refine h.loadB 1 0 ⟨_, rfl, rfl⟩ rfl rfl ?_ | refine h.drew.loadB 0 0 ⟨_, rfl, rfl⟩ rfl rfl ?_ | refine h.drew.loadB 1 0 ⟨_, rfl, rfl⟩ rfl rfl ?_)) | ((with_reducible refine ReadN.isLoad ?_); (first | refine h.readB 0 0 ⟨_, rfl, rfl⟩ rfl rfl ?_ | refine h.readB 1 0 ⟨_, rfl, rfl⟩ rfl rfl ?_ | refine h.drew.readB 0 0 ⟨_, rfl, rfl⟩ rfl rfl ?_ | refine h.drew.readB 1 0 ⟨_, rfl, rfl⟩ rfl rfl ?_)) | ((with_reducible refine StillV.isLoad ?_); (first | refine ⟨h.stillB 0 0 ⟨_, rfl, rfl⟩ rfl rfl, ?_⟩ | refine ⟨h.stillB 1 0 ⟨_, rfl, rfl⟩ rfl rfl, ?_⟩)) | ((with_reducible refine RunU.isStor ?_); (first | (refine h.storB 0 0 ⟨_, rfl, rfl⟩ rfl rfl rfl ?_; intro w h; dsimp only [updG, setO] at h) | (refine h.storB 1 0 ⟨_, rfl, rfl⟩ rfl rfl rfl ?_; intro w h; dsimp only [updG, setO] at h) | (refine h.drew.storB 0 0 ⟨_, rfl, rfl⟩ rfl rfl rfl ?_; intro w h; dsimp only [updG, setO] at h) | (refine h.drew.storB 1 0 ⟨_, rfl, rfl⟩ rfl rfl rfl ?_; intro w h; dsimp only [updG, setO] at h))) | ((with_reducible refine RunN.isBox ?_); (first | (refine h.newB run_boxA rfl ?_; intro bn w h; try dsimp only at h) | (refine h.drew.newB run_boxA rfl ?_; intro bn w h; try dsimp only at h))) | ((with_reducible refine RunN.isNew ?_); (first | (refine h.newB (NewC.run _) rfl ?_; intro bn w h) | (refine h.drew.newB (NewC.run _) rfl ?_; intro bn w h))))
      have e1 : lsl (Ls s.ps) ++ [Value.slice b.a b.len b.cap, Value.slice d.a d.len d.cap] = lsl (Ls (s.ps ++ [((b, l1), (d, l1 ++ e))])) := by rw [Ls_snoc, lsl_app]; rfl
      have e2 : lst (Ls s.ps) ++ [Value.string ⟨l1.toArray⟩, Value.string ⟨(l1 ++ e).toArray⟩] = lst (Ls (s.ps ++ [((b, l1), (d, l1 ++ e))])) := by rw [Ls_snoc, lst_app]; rfl
      rw [e1, e2] at h
      have h := St.two.2 ((h.bring 3 rfl))
      dsimp only [delO] at h
      have e3 : s.gg.flatten ++ g = (s.gg ++ [g]).flatten := by simp
      rw [e3] at h
      have h := h.back 2
      dsimp only [insO] at h
      have ok1 : ∀ k (k1 : k < (s.ps ++ [((b, l1), (d, l1 ++ e))]).length) (k2 : k < (s.gg ++ [g]).length), Far 5 (s.ps ++ [((b, l1), (d, l1 ++ e))])[k].1 (s.ps ++ [((b, l1), (d, l1 ++ e))])[k].2 (s.gg ++ [g])[k] := by
        intro k k1 k2
        have hgl := ok.gl
        rcases Nat.lt_or_ge k s.ps.length with hlt | hge
        · have := ok.far k hlt (by omega)
          rwa [List.getElem_append_left hlt, List.getElem_append_left (by omega)]
        · have hk : k = s.ps.length := by simp at k1; omega
          subst hk
          rw [List.getElem_append_right (Nat.le_refl _), List.getElem_append_right (by omega)]
          simp only [Nat.sub_self, hgl, List.getElem_cons_zero]
          exact hf
      have hgl := ok.gl
      repeat (first | (with_reducible refine NilP.mk ?_) | ((with_reducible refine RunN.isLoad ?_); (first | refine h.loadB 0 0 ⟨_, rfl, rfl⟩ rfl rfl ?_ | refine h.drew.loadB 0 0 ⟨_, rfl, rfl⟩ rfl rfl ?_)) | ((with_reducible refine ReadN.isLoad ?_); (first | refine h.readB 0 0 ⟨_, rfl, rfl⟩ rfl rfl ?_ | refine h.drew.readB 0 0 ⟨_, rfl, rfl⟩ rfl rfl ?_)) | ((with_reducible refine StillV.isLoad ?_); (first | refine ⟨h.stillB 0 0 ⟨_, rfl, rfl⟩ rfl rfl, ?_⟩)) | ((with_reducible refine RunU.isStor ?_); (first | (refine h.storB 0 0 ⟨_, rfl, rfl⟩ rfl rfl rfl ?_; intro w h; dsimp only [updG, setO] at h) | (refine h.drew.storB 0 0 ⟨_, rfl, rfl⟩ rfl rfl rfl ?_; intro w h; dsimp only [updG, setO] at h))) | ((with_reducible refine RunN.isBox ?_); (first | (refine h.newB run_boxA rfl ?_; intro bn w h; try dsimp only at h) | (refine h.drew.newB run_boxA rfl ?_; intro bn w h; try dsimp only at h))) | ((with_reducible refine RunN.isNew ?_); (first | (refine h.newB (NewC.run _) rfl ?_; intro bn w h) | (refine h.drew.newB (NewC.run _) rfl ?_; intro bn w h))))
      rw [SplitB_iff]
      refine ⟨fun hc => ?_, fun hc => ?_⟩
      · have hc : s.ps.length = 4 := by have := of_decide_eq_true hc; omega
        repeat (first | (with_reducible refine NilP.mk ?_) | ((with_reducible refine RunN.isLoad ?_); (first | refine h.loadB 0 0 ⟨_, rfl, rfl⟩ rfl rfl ?_ | refine h.drew.loadB 0 0 ⟨_, rfl, rfl⟩ rfl rfl ?_)) | ((with_reducible refine ReadN.isLoad ?_); (first | refine h.readB 0 0 ⟨_, rfl, rfl⟩ rfl rfl ?_ | refine h.drew.readB 0 0 ⟨_, rfl, rfl⟩ rfl rfl ?_)) | ((with_reducible refine StillV.isLoad ?_); (first | refine ⟨h.stillB 0 0 ⟨_, rfl, rfl⟩ rfl rfl, ?_⟩)) | ((with_reducible refine RunU.isStor ?_); (first | (refine h.storB 0 0 ⟨_, rfl, rfl⟩ rfl rfl rfl ?_; intro w h; dsimp only [updG, setO] at h) | (refine h.drew.storB 0 0 ⟨_, rfl, rfl⟩ rfl rfl rfl ?_; intro w h; dsimp only [updG, setO] at h))) | ((with_reducible refine RunN.isBox ?_); (first | (refine h.newB run_boxA rfl ?_; intro bn w h; try dsimp only at h) | (refine h.drew.newB run_boxA rfl ?_; intro bn w h; try dsimp only at h))) | ((with_reducible refine RunN.isNew ?_); (first | (refine h.newB (NewC.run _) rfl ?_; intro bn w h) | (refine h.drew.newB (NewC.run _) rfl ?_; intro bn w h))))
        refine RunN.sL 2 rfl (by omega) ?_
        repeat (first | (with_reducible refine NilP.mk ?_) | ((with_reducible refine RunN.isLoad ?_); (first | refine h.loadB 0 0 ⟨_, rfl, rfl⟩ rfl rfl ?_ | refine h.drew.loadB 0 0 ⟨_, rfl, rfl⟩ rfl rfl ?_)) | ((with_reducible refine ReadN.isLoad ?_); (first | refine h.readB 0 0 ⟨_, rfl, rfl⟩ rfl rfl ?_ | refine h.drew.readB 0 0 ⟨_, rfl, rfl⟩ rfl rfl ?_)) | ((with_reducible refine StillV.isLoad ?_); (first | refine ⟨h.stillB 0 0 ⟨_, rfl, rfl⟩ rfl rfl, ?_⟩)) | ((with_reducible refine RunU.isStor ?_); (first | (refine h.storB 0 0 ⟨_, rfl, rfl⟩ rfl rfl rfl ?_; intro w h; dsimp only [updG, setO] at h) | (refine h.drew.storB 0 0 ⟨_, rfl, rfl⟩ rfl rfl rfl ?_; intro w h; dsimp only [updG, setO] at h))) | ((with_reducible refine RunN.isBox ?_); (first | (refine h.newB run_boxA rfl ?_; intro bn w h; try dsimp only at h) | (refine h.drew.newB run_boxA rfl ?_; intro bn w h; try dsimp only at h))) | ((with_reducible refine RunN.isNew ?_); (first | (refine h.newB (NewC.run _) rfl ?_; intro bn w h) | (refine h.drew.newB (NewC.run _) rfl ?_; intro bn w h))))
        refine RunN.sL 2 rfl (by omega) ?_
        repeat (first | (with_reducible refine NilP.mk ?_) | ((with_reducible refine RunN.isLoad ?_); (first | refine h.loadB 0 0 ⟨_, rfl, rfl⟩ rfl rfl ?_ | refine h.drew.loadB 0 0 ⟨_, rfl, rfl⟩ rfl rfl ?_)) | ((with_reducible refine ReadN.isLoad ?_); (first | refine h.readB 0 0 ⟨_, rfl, rfl⟩ rfl rfl ?_ | refine h.drew.readB 0 0 ⟨_, rfl, rfl⟩ rfl rfl ?_)) | ((with_reducible refine StillV.isLoad ?_); (first | refine ⟨h.stillB 0 0 ⟨_, rfl, rfl⟩ rfl rfl, ?_⟩)) | ((with_reducible refine RunU.isStor ?_); (first | (refine h.storB 0 0 ⟨_, rfl, rfl⟩ rfl rfl rfl ?_; intro w h; dsimp only [updG, setO] at h) | (refine h.drew.storB 0 0 ⟨_, rfl, rfl⟩ rfl rfl rfl ?_; intro w h; dsimp only [updG, setO] at h))) | ((with_reducible refine RunN.isBox ?_); (first | (refine h.newB run_boxA rfl ?_; intro bn w h; try dsimp only at h) | (refine h.drew.newB run_boxA rfl ?_; intro bn w h; try dsimp only at h))) | ((with_reducible refine RunN.isNew ?_); (first | (refine h.newB (NewC.run _) rfl ?_; intro bn w h) | (refine h.drew.newB (NewC.run _) rfl ?_; intro bn w h))))
        obtain ⟨y, r, hy⟩ : ∃ y r, s.ps = y :: r := by
          cases hp : s.ps with
          | nil => rw [hp] at hc; simp at hc
          | cons y r => exact ⟨y, r, rfl⟩
        obtain ⟨y', r', hy'⟩ : ∃ y r, s.gg = y :: r := by
          cases hp : s.gg with
          | nil => rw [hp] at hgl; rw [hc] at hgl; simp at hgl
          | cons y r => exact ⟨y, r, rfl⟩
        have h := h.sufR (k := 1) (i := 0) ⟨_, rfl, rfl⟩ (lo := 2) (by omega)
        dsimp only [updG, setO] at h
        have h := h.sufR (k := 3) (i := 0) ⟨_, rfl, rfl⟩ (lo := 2) (by omega)
        dsimp only [updG, setO] at h
        rw [hy, hy'] at h
        have h := (St.two (a := y') (b := (r' ++ [g]).flatten)).1 (h.bring 2 rfl)
        have h := (h.drop 0).back 2
        dsimp only [delO, insO] at h
        have e4 : (lsl (Ls (y :: r ++ [((b, l1), (d, l1 ++ e))]))).drop (2 * 1) = lsl (Ls (r ++ [((b, l1), (d, l1 ++ e))])) := by rw [lsl_drop]; rfl
        have e5 : (lst (Ls (y :: r ++ [((b, l1), (d, l1 ++ e))]))).drop (2 * 1) = lst (Ls (r ++ [((b, l1), (d, l1 ++ e))])) := by rw [lst_drop]; rfl
        rw [e4, e5] at h
        refine ⟨{ s with mark := s.mark + 1, sl := subS s5 2 s5.len 1, ps := r ++ [((b, l1), (d, l1 ++ e))], gg := r' ++ [g], sh := subS s7 2 s7.len 1 }, rfl, ?_, h⟩
        rw [hy] at hc hgl ok1
        rw [hy'] at hgl ok1
        simp only [List.length_cons] at hc hgl
        refine { ok with gl := by dsimp only; simp; omega, far := ?_, p4 := by dsimp only; simp; omega, mrk := by dsimp only; omega, fl := by dsimp only; omega }
        intro k k1 k2
        dsimp only at k1 k2
        have := ok1 (k + 1) (by simp at k1 ⊢; omega) (by simp at k2 ⊢; omega)
        simpa using this
      · have hc : s.ps.length ≤ 3 := by have := of_decide_eq_false hc; omega
        refine ⟨{ s with mark := s.mark + 1, sl := s5, ps := s.ps ++ [((b, l1), (d, l1 ++ e))], gg := s.gg ++ [g], sh := s7 }, rfl, ?_, h⟩
        exact { ok with gl := by dsimp only; simp; omega, far := ok1, p4 := by dsimp only; simp; omega, mrk := by dsimp only; omega, fl := by dsimp only; omega }

theorem same_st {a b : Sl} {x y : List UInt8} (ha : Rd w a 1 (bys x)) (hb : Rd w b 1 (bys y)) (hxy : x = y) :
    CallK Tryd.prog .bool 22 #[.slice a.a a.len a.cap, .slice b.a b.len b.cap] w fun (r : Bool) w' => w' = w ∧ r = true := by
  subst hxy
  exact (same_ok ha hb).mono fun r w' ⟨h1, h2⟩ => ⟨h1, by rw [h2]; simp⟩
theorem Sh.Ok.lend {s : Sh} {n : Nat} (ok : s.Ok n) (c : Sl) (l : List UInt8) : ({ s with lent := c, lb := l } : Sh).Ok n := { ok with }
theorem seals_st (h : St w0 w (s.gs F)) (ok : s.Ok n) (hn : n ≤ 1000000) (ht : Tab w0) {p : Sl} {l : List UInt8} (hp : SeesG w0 F p 1 (bys l)) (hl : l.length ≤ 65536) :
    CallK Tryd.prog .bool 13 #[.pointer (some ⟨s.Q, 0, none⟩), .slice p.a p.len p.cap] w fun (r : Bool) w' => r = true ∧ ∃ s' : Sh, s'.Q = s.Q ∧ s'.Ok (n + 1) ∧ St w0 w' (s'.gs F) := by
  have hpl := (hp _ (sh_F h)).bys_len
  refine T13.calls ?_
  unfold T13
  refine (lend_st h hp hl).mono ?_
  intro c w h
  have hcl := sh_lent h
  have hmk := mks_len
  dsimp only at hcl
  rw [List.length_append, hmk] at hcl
  have hcap := (h.rd (k := 4) (i := 0) ⟨_, rfl, rfl⟩).2.2
  dsimp only at hcap
  refine RunN.sH l.length (by omega) (by omega) ?_
  have hpre := (h.rd (k := 4) (i := 0) ⟨_, rfl, rfl⟩).pre (hi := l.length) (by dsimp only; omega)
  have e : (bys (l ++ mks)).take (l.length * 1) = bys l := by rw [bys_append, Nat.mul_one, List.take_append_of_le_length (by simp), List.take_of_length_le (by simp)]
  dsimp only at hpre
  rw [e] at hpre
  refine (seal_st hpre (ht.upd h.upd (fun h => h)) (by omega)).mono ?_
  rintro ⟨b, eb, ⟨⟩⟩ w ⟨v, hb, hv⟩
  have h := h.join hb
  dsimp only [List.cons_append, List.nil_append] at h hv
  refine (rseal_st (hp _ (sh_F (h.drop 0))) (by omega)).mono ?_
  rintro ⟨b2, eb2, ⟨⟩⟩ w ⟨v2, hb2, hv2⟩
  have h := h.join hb2
  dsimp only [List.cons_append, List.nil_append] at h hv2
  obtain ⟨hvv, hee⟩ : v2 = v ∧ eb2 = eb := by
    rcases hv with ⟨a1, rfl, rfl⟩ | ⟨a1, rfl, rfl⟩ <;> rcases hv2 with ⟨a2, rfl, rfl⟩ | ⟨a2, rfl, rfl⟩ <;> first | exact ⟨rfl, rfl⟩ | omega
  have hvv := hvv.symm
  subst hvv; subst hee
  have hvl : v.length ≤ 131072 := by
    rcases hv with ⟨a1, rfl, _⟩ | ⟨a1, rfl, _⟩
    · simp
    · rw [frame_length]; omega
  clear hv hv2 hb hb2
  have h := (h.back 9).back 8
  dsimp only [insO] at h
  refine JoinX.mk (fun j w' => j.1 = true ∧ ∃ l', St w0 w' (({ s with lent := c, lb := l' } : Sh).gs ([.row 5 1 b (bys v)] :: [.row 5 1 b2 (bys v)] :: F))) ?_ ?_
  rotate_left
  · intro k1 hk1
    refine num_ok.mono ?_
    rintro r w ⟨rfl, rfl⟩
    rw [SplitB_iff]
    refine ⟨fun hz => ?_, fun hz => ?_⟩
    · refine (same_st (h.rd (k := 8) (i := 0) ⟨_, rfl, rfl⟩) (h.rd (k := 9) (i := 0) ⟨_, rfl, rfl⟩) rfl).mono ?_
      rintro r w ⟨rfl, rfl⟩
      rw [SplitB_iff]
      refine ⟨fun hy => ?_, fun hy => ?_⟩
      · have hF := (((((((((h.drop 0).drop 0).drop 0).drop 0).drop 0).drop 0).drop 0).drop 0).drop 0).drop 0
        refine (kept_st (s := { s with lent := c, lb := l ++ mks }) h rfl (hp _ hF) hl).mono ?_
        rintro r w ⟨rfl, l', h⟩
        rw [SplitB_iff]
        refine ⟨fun hy => ?_, fun hy => ?_⟩
        · refine (same_st (h.rd (k := 8) (i := 0) ⟨_, rfl, rfl⟩) (h.rd (k := 9) (i := 0) ⟨_, rfl, rfl⟩) rfl).mono ?_
          rintro r w ⟨rfl, rfl⟩
          rw [SplitB_iff]
          refine ⟨fun hy => ?_, fun hy => ?_⟩
          · refine (stands_st h (ok.lend _ _)).mono ?_
            rintro r w ⟨rfl, h⟩
            exact hk1 _ _ ⟨rfl, l', h⟩
          · cases hy
        · cases hy
      · cases hy
    · simp at hz
  rintro ⟨_, ⟨⟩⟩ w ⟨hj, l', h⟩
  dsimp only at hj h ⊢
  subst hj
  have h := h.bring 8 rfl
  dsimp only [delO] at h
  refine (keep_st h (ok.lend _ _) hn hvl).mono ?_
  rintro ⟨⟩ w ⟨s', hQ, ok', h⟩
  dsimp only at hQ
  rw [SplitB_iff]
  refine ⟨fun hz => ?_, fun hz => ?_⟩
  · rw [← hQ]
    refine (stands_st h ok').mono ?_
    rintro r w ⟨rfl, h⟩
    exact ⟨rfl, s', rfl, ok', h.drop 8⟩
  · cases hz
theorem opens_st (h : St w0 w (s.gs F)) (ok : s.Ok n) (hn : n ≤ 1000000) (ht : Tab w0) {p : Sl} {l : List UInt8} (hp : SeesG w0 F p 1 (bys l)) (hl : l.length ≤ 65536) :
    CallK Tryd.prog .bool 15 #[.pointer (some ⟨s.Q, 0, none⟩), .slice p.a p.len p.cap] w fun (r : Bool) w' => r = true ∧ ∃ s' : Sh, s'.Q = s.Q ∧ s'.Ok (n + 1) ∧ St w0 w' (s'.gs F) := by
  have hpl := (hp _ (sh_F h)).bys_len
  refine T15.calls ?_
  unfold T15
  refine (lend_st h hp hl).mono ?_
  intro c w h
  have hcl := sh_lent h
  have hmk := mks_len
  dsimp only at hcl
  rw [List.length_append, hmk] at hcl
  have hcap := (h.rd (k := 4) (i := 0) ⟨_, rfl, rfl⟩).2.2
  dsimp only at hcap
  refine RunN.sH l.length (by omega) (by omega) ?_
  have hpre := (h.rd (k := 4) (i := 0) ⟨_, rfl, rfl⟩).pre (hi := l.length) (by dsimp only; omega)
  have e : (bys (l ++ mks)).take (l.length * 1) = bys l := by rw [bys_append, Nat.mul_one, List.take_append_of_le_length (by simp), List.take_of_length_le (by simp)]
  dsimp only at hpre
  rw [e] at hpre
  refine (open_st hpre (ht.upd h.upd (fun h => h)) (by omega)).mono ?_
  rintro ⟨b, eb, ⟨⟩⟩ w ⟨hv, hb⟩
  have h := h.join hb
  dsimp only [List.cons_append, List.nil_append] at h hv
  refine (ropen_st (hp _ (sh_F (h.drop 0))) (by omega)).mono ?_
  rintro ⟨b2, eb2, ⟨⟩⟩ w ⟨hv2, hb2⟩
  have h := h.join hb2
  dsimp only [List.cons_append, List.nil_append] at h hv2
  have hee : eb2 = eb := hv2.trans hv.symm
  subst hee
  have hvl : (openS l).1.length ≤ 131072 := by
    unfold openS
    split
    · simp
    · split
      · simp
      · split
        · simp
        · split
          · simp; omega
          · simp
  clear hv hv2 hb hb2
  generalize (openS l).1 = v at *
  have h := (h.back 9).back 8
  dsimp only [insO] at h
  refine JoinX.mk (fun j w' => j.1 = true ∧ ∃ l', St w0 w' (({ s with lent := c, lb := l' } : Sh).gs ([.row 5 1 b (bys v)] :: [.row 5 1 b2 (bys v)] :: F))) ?_ ?_
  rotate_left
  · intro k1 hk1
    refine num_ok.mono ?_
    rintro r w ⟨rfl, rfl⟩
    rw [SplitB_iff]
    refine ⟨fun hz => ?_, fun hz => ?_⟩
    · refine (same_st (h.rd (k := 8) (i := 0) ⟨_, rfl, rfl⟩) (h.rd (k := 9) (i := 0) ⟨_, rfl, rfl⟩) rfl).mono ?_
      rintro r w ⟨rfl, rfl⟩
      rw [SplitB_iff]
      refine ⟨fun hy => ?_, fun hy => ?_⟩
      · have hF := (((((((((h.drop 0).drop 0).drop 0).drop 0).drop 0).drop 0).drop 0).drop 0).drop 0).drop 0
        refine (kept_st (s := { s with lent := c, lb := l ++ mks }) h rfl (hp _ hF) hl).mono ?_
        rintro r w ⟨rfl, l', h⟩
        rw [SplitB_iff]
        refine ⟨fun hy => ?_, fun hy => ?_⟩
        · refine (same_st (h.rd (k := 8) (i := 0) ⟨_, rfl, rfl⟩) (h.rd (k := 9) (i := 0) ⟨_, rfl, rfl⟩) rfl).mono ?_
          rintro r w ⟨rfl, rfl⟩
          rw [SplitB_iff]
          refine ⟨fun hy => ?_, fun hy => ?_⟩
          · refine (stands_st h (ok.lend _ _)).mono ?_
            rintro r w ⟨rfl, h⟩
            exact hk1 _ _ ⟨rfl, l', h⟩
          · cases hy
        · cases hy
      · cases hy
    · simp at hz
  rintro ⟨_, ⟨⟩⟩ w ⟨hj, l', h⟩
  dsimp only at hj h ⊢
  subst hj
  have h := h.bring 8 rfl
  dsimp only [delO] at h
  refine (keep_st h (ok.lend _ _) hn hvl).mono ?_
  rintro ⟨⟩ w ⟨s', hQ, ok', h⟩
  dsimp only at hQ
  rw [SplitB_iff]
  refine ⟨fun hz => ?_, fun hz => ?_⟩
  · rw [← hQ]
    refine (stands_st h ok').mono ?_
    rintro r w ⟨rfl, h⟩
    exact ⟨rfl, s', rfl, ok', h.drop 8⟩
  · cases hz
end Go.Proofs.YtaocddmmgefeoaaDoor
