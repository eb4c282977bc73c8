/- The document's whole image; disks of images; what the two disks have in common. -/
import Derived.Test.YtpdaoahamgegoaaDkU
namespace Go.Proofs.Ytpdaoahamgegoaa
open Go Go.Fw Go.RowKit
set_option linter.unusedVariables false
set_option linter.unusedSimpArgs false
set_option maxRecDepth 4000
set_option maxHeartbeats 2000000
variable {w0 w : World} {F G : Grps} {r : R} {d : D}

theorem zer_flat (n : Nat) : (zer n).flatten = List.replicate (512 * n) 0 := by
  induction n with
  | zero => simp [zer]
  | succ n ih =>
    have : zer (n + 1) = List.replicate 512 0 :: zer n := by simp [zer, List.replicate_succ]
    rw [this, List.flatten_cons, ih, List.replicate_append_replicate]
    congr 1; omega
/-- The whole image as the document has it. -/
theorem rimage_st (h : St w0 w (rg r :: F)) (ok : ROk r) (hlen : r.log.length ≤ 1048576) : CallK Try.prog .sl 56 #[.pointer r.p] w fun (q : Sl) w' => St w0 w' ([.row 5 1 q (bys r.ims.flatten)] :: rg r :: F) := by
  have hll := rg_log h
  have hfl := rg_first h
  have hN := ok.N1
  have hbl := ok.bl
  refine T56.calls ?_
  unfold T56
  repeat (first | (with_reducible refine NilP.mk ?_) | ((with_reducible refine RunN.isLoad ?_); (first | refine h.loadB 0 0 ⟨_, rfl, rfl⟩ rfl rfl ?_ | refine h.drew.loadB 0 0 ⟨_, rfl, rfl⟩ rfl rfl ?_)) | ((with_reducible refine ReadN.isLoad ?_); (first | refine h.readB 0 0 ⟨_, rfl, rfl⟩ rfl rfl ?_ | refine h.drew.readB 0 0 ⟨_, rfl, rfl⟩ rfl rfl ?_)) | ((with_reducible refine StillV.isLoad ?_); (first | refine ⟨h.stillB 0 0 ⟨_, rfl, rfl⟩ rfl rfl, ?_⟩)) | ((with_reducible refine RunU.isStor ?_); (first | (refine h.storB 0 0 ⟨_, rfl, rfl⟩ rfl rfl rfl ?_; intro w h; dsimp only [updG, setO] at h) | (refine h.drew.storB 0 0 ⟨_, rfl, rfl⟩ rfl rfl rfl ?_; intro w h; dsimp only [updG, setO] at h))) | ((with_reducible refine RunN.isBox ?_); (first | (refine h.newB run_boxA rfl ?_; intro bn w h; try dsimp only at h) | (refine h.drew.newB run_boxA rfl ?_; intro bn w h; try dsimp only at h))) | ((with_reducible refine RunN.isNew ?_); (first | (refine h.newB (NewC.run _) rfl ?_; intro bn w h) | (refine h.drew.newB (NewC.run _) rfl ?_; intro bn w h))))
  rw [wr (x := 512 * (r.N : Int)) (by omega)]
  refine h.makeN (.int .u8 0) (by kernel_rfl) rfl (512 * r.N) (by omega) (by omega) (by omega) (by omega) ?_
  intro q w hql hqc h
  have e : List.replicate (512 * r.N) (Value.int .u8 0) = bys (List.replicate (512 * r.N) 0) := by rw [bys, List.map_replicate]; rfl
  rw [e] at h
  have hff : r.first.length = 0 ∨ r.first.length = 512 * r.N := by
    rcases ok.fst with ⟨h1, _⟩ | ⟨h1, _⟩
    · left; rw [h1]; rfl
    · right; rw [h1, len_flat ok.base5, hbl]
  refine LoopX.mk (fun st w' => ∃ k : Nat, k ≤ r.first.length ∧ st.1 = (k : Int) ∧ St w0 w' ([.row 5 1 q (bys (r.first.take k ++ List.replicate (512 * r.N - k) 0))] :: rg r :: F)) (fun st => r.first.length - st.1.toNat) ⟨0, by omega, rfl, by simpa using h⟩ ?_
  clear h
  rintro ⟨_, ⟨⟩⟩ w ⟨k, hk, rfl, h⟩ K hK
  dsimp only at h hK ⊢
  repeat (first | (with_reducible refine NilP.mk ?_) | ((with_reducible refine RunN.isLoad ?_); (first | refine h.loadB 0 0 ⟨_, rfl, rfl⟩ rfl rfl ?_ | refine h.loadB 1 0 ⟨_, rfl, rfl⟩ rfl rfl ?_ | refine h.drew.loadB 0 0 ⟨_, rfl, rfl⟩ rfl rfl ?_ | refine h.drew.loadB 1 0 ⟨_, rfl, rfl⟩ rfl rfl ?_)) | ((with_reducible refine ReadN.isLoad ?_); (first | refine h.readB 0 0 ⟨_, rfl, rfl⟩ rfl rfl ?_ | refine h.readB 1 0 ⟨_, rfl, rfl⟩ rfl rfl ?_ | refine h.drew.readB 0 0 ⟨_, rfl, rfl⟩ rfl rfl ?_ | refine h.drew.readB 1 0 ⟨_, rfl, rfl⟩ rfl rfl ?_)) | ((with_reducible refine StillV.isLoad ?_); (first | refine ⟨h.stillB 0 0 ⟨_, rfl, rfl⟩ rfl rfl, ?_⟩ | refine ⟨h.stillB 1 0 ⟨_, rfl, rfl⟩ rfl rfl, ?_⟩)) | ((with_reducible refine RunU.isStor ?_); (first | (refine h.storB 0 0 ⟨_, rfl, rfl⟩ rfl rfl rfl ?_; intro w h; dsimp only [updG, setO] at h) | (refine h.storB 1 0 ⟨_, rfl, rfl⟩ rfl rfl rfl ?_; intro w h; dsimp only [updG, setO] at h) | (refine h.drew.storB 0 0 ⟨_, rfl, rfl⟩ rfl rfl rfl ?_; intro w h; dsimp only [updG, setO] at h) | (refine h.drew.storB 1 0 ⟨_, rfl, rfl⟩ rfl rfl rfl ?_; intro w h; dsimp only [updG, setO] at h))) | ((with_reducible refine RunN.isBox ?_); (first | (refine h.newB run_boxA rfl ?_; intro bn w h; try dsimp only at h) | (refine h.drew.newB run_boxA rfl ?_; intro bn w h; try dsimp only at h))) | ((with_reducible refine RunN.isNew ?_); (first | (refine h.newB (NewC.run _) rfl ?_; intro bn w h) | (refine h.drew.newB (NewC.run _) rfl ?_; intro bn w h))))
  rw [SplitB_iff]
  refine ⟨fun hc => ?_, fun hc => ?_⟩
  · have hc : k < r.first.length := by have := of_decide_eq_true hc; omega
    repeat (first | (with_reducible refine NilP.mk ?_) | ((with_reducible refine RunN.isLoad ?_); (first | refine h.loadB 0 0 ⟨_, rfl, rfl⟩ rfl rfl ?_ | refine h.loadB 1 0 ⟨_, rfl, rfl⟩ rfl rfl ?_ | refine h.drew.loadB 0 0 ⟨_, rfl, rfl⟩ rfl rfl ?_ | refine h.drew.loadB 1 0 ⟨_, rfl, rfl⟩ rfl rfl ?_)) | ((with_reducible refine ReadN.isLoad ?_); (first | refine h.readB 0 0 ⟨_, rfl, rfl⟩ rfl rfl ?_ | refine h.readB 1 0 ⟨_, rfl, rfl⟩ rfl rfl ?_ | refine h.drew.readB 0 0 ⟨_, rfl, rfl⟩ rfl rfl ?_ | refine h.drew.readB 1 0 ⟨_, rfl, rfl⟩ rfl rfl ?_)) | ((with_reducible refine StillV.isLoad ?_); (first | refine ⟨h.stillB 0 0 ⟨_, rfl, rfl⟩ rfl rfl, ?_⟩ | refine ⟨h.stillB 1 0 ⟨_, rfl, rfl⟩ rfl rfl, ?_⟩)) | ((with_reducible refine RunU.isStor ?_); (first | (refine h.storB 0 0 ⟨_, rfl, rfl⟩ rfl rfl rfl ?_; intro w h; dsimp only [updG, setO] at h) | (refine h.storB 1 0 ⟨_, rfl, rfl⟩ rfl rfl rfl ?_; intro w h; dsimp only [updG, setO] at h) | (refine h.drew.storB 0 0 ⟨_, rfl, rfl⟩ rfl rfl rfl ?_; intro w h; dsimp only [updG, setO] at h) | (refine h.drew.storB 1 0 ⟨_, rfl, rfl⟩ rfl rfl rfl ?_; intro w h; dsimp only [updG, setO] at h))) | ((with_reducible refine RunN.isBox ?_); (first | (refine h.newB run_boxA rfl ?_; intro bn w h; try dsimp only at h) | (refine h.drew.newB run_boxA rfl ?_; intro bn w h; try dsimp only at h))) | ((with_reducible refine RunN.isNew ?_); (first | (refine h.newB (NewC.run _) rfl ?_; intro bn w h) | (refine h.drew.newB (NewC.run _) rfl ?_; intro bn w h))))
    refine (h.rd (k := 1) (i := 1) ⟨_, rfl, rfl⟩).idxK k rfl (by omega) ?_
    intro b o hb
    refine (h.rd (k := 1) (i := 1) ⟨_, rfl, rfl⟩).el hb (k * 1) rfl (kd := .int .u8) (x := (r.first[k].toNat : Int)) (by rw [Nat.mul_one]; exact bys_get hc) ?_
    refine (h.rd (k := 0) (i := 0) ⟨_, rfl, rfl⟩).idxK k rfl (by omega) ?_
    intro b2 o2 hb2
    refine h.storR 0 0 ⟨_, rfl, rfl⟩ hb2 k (by rw [Nat.mul_one]) (by rw [bys_length, List.length_append, List.length_take, List.length_replicate]; omega) rfl ?_
    intro w h
    have e2 : (bys (r.first.take k ++ List.replicate (512 * r.N - k) 0)).set k (Value.int .u8 (r.first[k].toNat : Int)) = bys (r.first.take (k + 1) ++ List.replicate (512 * r.N - (k + 1)) 0) := by
      rw [show (Value.int .u8 (r.first[k].toNat : Int)) = u8v r.first[k] from rfl, Go.Fw.bys_set]
      congr 1
      rw [List.set_append_right _ _ (by rw [List.length_take]; omega), List.take_succ_eq_append_getElem hc, List.append_assoc]
      congr 1
      rw [List.length_take, Nat.min_eq_left (by omega), Nat.sub_self, show 512 * r.N - k = (512 * r.N - (k + 1)) + 1 by omega, List.replicate_succ, List.set_cons_zero]
      rfl
    rw [e2] at h
    exact hK _ _ ⟨k + 1, by omega, by dsimp only; rw [wr (by omega)]; omega, h⟩ (by dsimp only; rw [wr (by omega)]; omega)
  have hc : k = r.first.length := by have := of_decide_eq_false hc; omega
  have hcont : r.first.take k ++ List.replicate (512 * r.N - k) 0 = r.base.flatten := by
    rcases ok.fst with ⟨h1, h2⟩ | ⟨h1, h2⟩
    · rw [h2, zer_flat, hc, h1]; simp
    · have : k = 512 * r.N := by omega
      rw [this, Nat.sub_self, List.replicate_zero, List.append_nil, List.take_of_length_le (by omega), h1]
  rw [hcont] at h
  clear hK hcont
  refine LoopX.mk (fun st w' => ∃ k : Nat, k ≤ r.log.length ∧ st.1 = (k : Int) ∧ St w0 w' ([.row 5 1 q (bys (r.imk k).flatten)] :: rg r :: F)) (fun st => r.log.length - st.1.toNat) ⟨0, by omega, rfl, h⟩ ?_
  clear h
  rintro ⟨_, ⟨⟩⟩ w ⟨k, hk, rfl, h⟩ K hK
  dsimp only at h hK ⊢
  repeat (first | (with_reducible refine NilP.mk ?_) | ((with_reducible refine RunN.isLoad ?_); (first | refine h.loadB 0 0 ⟨_, rfl, rfl⟩ rfl rfl ?_ | refine h.loadB 1 0 ⟨_, rfl, rfl⟩ rfl rfl ?_ | refine h.drew.loadB 0 0 ⟨_, rfl, rfl⟩ rfl rfl ?_ | refine h.drew.loadB 1 0 ⟨_, rfl, rfl⟩ rfl rfl ?_)) | ((with_reducible refine ReadN.isLoad ?_); (first | refine h.readB 0 0 ⟨_, rfl, rfl⟩ rfl rfl ?_ | refine h.readB 1 0 ⟨_, rfl, rfl⟩ rfl rfl ?_ | refine h.drew.readB 0 0 ⟨_, rfl, rfl⟩ rfl rfl ?_ | refine h.drew.readB 1 0 ⟨_, rfl, rfl⟩ rfl rfl ?_)) | ((with_reducible refine StillV.isLoad ?_); (first | refine ⟨h.stillB 0 0 ⟨_, rfl, rfl⟩ rfl rfl, ?_⟩ | refine ⟨h.stillB 1 0 ⟨_, rfl, rfl⟩ rfl rfl, ?_⟩)) | ((with_reducible refine RunU.isStor ?_); (first | (refine h.storB 0 0 ⟨_, rfl, rfl⟩ rfl rfl rfl ?_; intro w h; dsimp only [updG, setO] at h) | (refine h.storB 1 0 ⟨_, rfl, rfl⟩ rfl rfl rfl ?_; intro w h; dsimp only [updG, setO] at h) | (refine h.drew.storB 0 0 ⟨_, rfl, rfl⟩ rfl rfl rfl ?_; intro w h; dsimp only [updG, setO] at h) | (refine h.drew.storB 1 0 ⟨_, rfl, rfl⟩ rfl rfl rfl ?_; intro w h; dsimp only [updG, setO] at h))) | ((with_reducible refine RunN.isBox ?_); (first | (refine h.newB run_boxA rfl ?_; intro bn w h; try dsimp only at h) | (refine h.drew.newB run_boxA rfl ?_; intro bn w h; try dsimp only at h))) | ((with_reducible refine RunN.isNew ?_); (first | (refine h.newB (NewC.run _) rfl ?_; intro bn w h) | (refine h.drew.newB (NewC.run _) rfl ?_; intro bn w h))))
  rw [SplitB_iff]
  refine ⟨fun hc => ?_, fun hc => ?_⟩
  · have hc : k < r.log.length := by have := of_decide_eq_true hc; omega
    obtain ⟨h5, hl5⟩ := imk_ok ok (k := k) (by omega)
    obtain ⟨hs1, hn1, hm1⟩ := ok.lg _ (List.getElem_mem hc)
    have hil : ((r.imk k).getD r.log[k].sec []).length = 512 := by rw [getD_at (by omega)]; exact h5 _ (List.getElem_mem _)
    repeat (first | (with_reducible refine NilP.mk ?_) | ((with_reducible refine RunN.isLoad ?_); (first | refine h.loadB 0 0 ⟨_, rfl, rfl⟩ rfl rfl ?_ | refine h.loadB 1 0 ⟨_, rfl, rfl⟩ rfl rfl ?_ | refine h.drew.loadB 0 0 ⟨_, rfl, rfl⟩ rfl rfl ?_ | refine h.drew.loadB 1 0 ⟨_, rfl, rfl⟩ rfl rfl ?_)) | ((with_reducible refine ReadN.isLoad ?_); (first | refine h.readB 0 0 ⟨_, rfl, rfl⟩ rfl rfl ?_ | refine h.readB 1 0 ⟨_, rfl, rfl⟩ rfl rfl ?_ | refine h.drew.readB 0 0 ⟨_, rfl, rfl⟩ rfl rfl ?_ | refine h.drew.readB 1 0 ⟨_, rfl, rfl⟩ rfl rfl ?_)) | ((with_reducible refine StillV.isLoad ?_); (first | refine ⟨h.stillB 0 0 ⟨_, rfl, rfl⟩ rfl rfl, ?_⟩ | refine ⟨h.stillB 1 0 ⟨_, rfl, rfl⟩ rfl rfl, ?_⟩)) | ((with_reducible refine RunU.isStor ?_); (first | (refine h.storB 0 0 ⟨_, rfl, rfl⟩ rfl rfl rfl ?_; intro w h; dsimp only [updG, setO] at h) | (refine h.storB 1 0 ⟨_, rfl, rfl⟩ rfl rfl rfl ?_; intro w h; dsimp only [updG, setO] at h) | (refine h.drew.storB 0 0 ⟨_, rfl, rfl⟩ rfl rfl rfl ?_; intro w h; dsimp only [updG, setO] at h) | (refine h.drew.storB 1 0 ⟨_, rfl, rfl⟩ rfl rfl rfl ?_; intro w h; dsimp only [updG, setO] at h))) | ((with_reducible refine RunN.isBox ?_); (first | (refine h.newB run_boxA rfl ?_; intro bn w h; try dsimp only at h) | (refine h.drew.newB run_boxA rfl ?_; intro bn w h; try dsimp only at h))) | ((with_reducible refine RunN.isNew ?_); (first | (refine h.newB (NewC.run _) rfl ?_; intro bn w h) | (refine h.drew.newB (NewC.run _) rfl ?_; intro bn w h))))
    refine (h.rd (k := 1) (i := 2) ⟨_, rfl, rfl⟩).idxK k rfl (by omega) ?_
    intro b o hb
    refine (h.rd (k := 1) (i := 2) ⟨_, rfl, rfl⟩).elA hb (k * 3) rfl ((r.log[k].sec : Int), (r.log[k].n : Int), r.log[k].d, ()) (rws_at _ _ hc) ?_
    first | refine h.newB (NewC.run _) rfl ?_ | refine h.drew.newB (NewC.run _) rfl ?_
    intro t6 w h
    try dsimp only at h
    refine h.storA 0 0 ⟨_, rfl, rfl⟩ rfl (hk := ?_)
    intro w h
    dsimp only [updG, setO] at h
    simp only [List.take_zero, List.drop, List.nil_append, List.append_nil, Nat.zero_add] at h
    refine LoopX.mk (fun st w' => ∃ j : Nat, j ≤ r.log[k].n ∧ st.1 = (j : Int) ∧ St w0 w' ([.cel t6 91 [.int .i64 (r.log[k].sec : Int), .int .i64 (r.log[k].n : Int), .slice r.log[k].d.a r.log[k].d.len r.log[k].d.cap]] :: [.row 5 1 q (bys ((r.imk k).set r.log[k].sec (r.log[k].m.take j ++ ((r.imk k).getD r.log[k].sec []).drop j)).flatten)] :: rg r :: F)) (fun st => r.log[k].n - st.1.toNat)
      ⟨0, by omega, rfl, by
        have e : (r.imk k).set r.log[k].sec (r.log[k].m.take 0 ++ ((r.imk k).getD r.log[k].sec []).drop 0) = r.imk k := by
          rw [List.take_zero, List.drop_zero, List.nil_append, getD_at (by omega), List.set_getElem_self]
        rw [e]; exact h⟩ ?_
    clear h
    rintro ⟨_, ⟨⟩⟩ w ⟨j, hj, rfl, h⟩ K2 hK2
    dsimp only at h hK2 ⊢
    repeat (first | (with_reducible refine NilP.mk ?_) | ((with_reducible refine RunN.isLoad ?_); (first | refine h.loadB 0 0 ⟨_, rfl, rfl⟩ rfl rfl ?_ | refine h.loadB 1 0 ⟨_, rfl, rfl⟩ rfl rfl ?_ | refine h.drew.loadB 0 0 ⟨_, rfl, rfl⟩ rfl rfl ?_ | refine h.drew.loadB 1 0 ⟨_, rfl, rfl⟩ rfl rfl ?_)) | ((with_reducible refine ReadN.isLoad ?_); (first | refine h.readB 0 0 ⟨_, rfl, rfl⟩ rfl rfl ?_ | refine h.readB 1 0 ⟨_, rfl, rfl⟩ rfl rfl ?_ | refine h.drew.readB 0 0 ⟨_, rfl, rfl⟩ rfl rfl ?_ | refine h.drew.readB 1 0 ⟨_, rfl, rfl⟩ rfl rfl ?_)) | ((with_reducible refine StillV.isLoad ?_); (first | refine ⟨h.stillB 0 0 ⟨_, rfl, rfl⟩ rfl rfl, ?_⟩ | refine ⟨h.stillB 1 0 ⟨_, rfl, rfl⟩ rfl rfl, ?_⟩)) | ((with_reducible refine RunU.isStor ?_); (first | (refine h.storB 0 0 ⟨_, rfl, rfl⟩ rfl rfl rfl ?_; intro w h; dsimp only [updG, setO] at h) | (refine h.storB 1 0 ⟨_, rfl, rfl⟩ rfl rfl rfl ?_; intro w h; dsimp only [updG, setO] at h) | (refine h.drew.storB 0 0 ⟨_, rfl, rfl⟩ rfl rfl rfl ?_; intro w h; dsimp only [updG, setO] at h) | (refine h.drew.storB 1 0 ⟨_, rfl, rfl⟩ rfl rfl rfl ?_; intro w h; dsimp only [updG, setO] at h))) | ((with_reducible refine RunN.isBox ?_); (first | (refine h.newB run_boxA rfl ?_; intro bn w h; try dsimp only at h) | (refine h.drew.newB run_boxA rfl ?_; intro bn w h; try dsimp only at h))) | ((with_reducible refine RunN.isNew ?_); (first | (refine h.newB (NewC.run _) rfl ?_; intro bn w h) | (refine h.drew.newB (NewC.run _) rfl ?_; intro bn w h))))
    rw [SplitB_iff]
    refine ⟨fun hd => ?_, fun hd => ?_⟩
    · have hd : j < r.log[k].n := by
        have : (j : Int) < (r.log[k].n : Int) := of_decide_eq_true hd
        omega
      have h := h.drew
      repeat (first | (with_reducible refine NilP.mk ?_) | ((with_reducible refine RunN.isLoad ?_); (first | refine h.loadB 0 0 ⟨_, rfl, rfl⟩ rfl rfl ?_ | refine h.loadB 1 0 ⟨_, rfl, rfl⟩ rfl rfl ?_ | refine h.drew.loadB 0 0 ⟨_, rfl, rfl⟩ rfl rfl ?_ | refine h.drew.loadB 1 0 ⟨_, rfl, rfl⟩ rfl rfl ?_)) | ((with_reducible refine ReadN.isLoad ?_); (first | refine h.readB 0 0 ⟨_, rfl, rfl⟩ rfl rfl ?_ | refine h.readB 1 0 ⟨_, rfl, rfl⟩ rfl rfl ?_ | refine h.drew.readB 0 0 ⟨_, rfl, rfl⟩ rfl rfl ?_ | refine h.drew.readB 1 0 ⟨_, rfl, rfl⟩ rfl rfl ?_)) | ((with_reducible refine StillV.isLoad ?_); (first | refine ⟨h.stillB 0 0 ⟨_, rfl, rfl⟩ rfl rfl, ?_⟩ | refine ⟨h.stillB 1 0 ⟨_, rfl, rfl⟩ rfl rfl, ?_⟩)) | ((with_reducible refine RunU.isStor ?_); (first | (refine h.storB 0 0 ⟨_, rfl, rfl⟩ rfl rfl rfl ?_; intro w h; dsimp only [updG, setO] at h) | (refine h.storB 1 0 ⟨_, rfl, rfl⟩ rfl rfl rfl ?_; intro w h; dsimp only [updG, setO] at h) | (refine h.drew.storB 0 0 ⟨_, rfl, rfl⟩ rfl rfl rfl ?_; intro w h; dsimp only [updG, setO] at h) | (refine h.drew.storB 1 0 ⟨_, rfl, rfl⟩ rfl rfl rfl ?_; intro w h; dsimp only [updG, setO] at h))) | ((with_reducible refine RunN.isBox ?_); (first | (refine h.newB run_boxA rfl ?_; intro bn w h; try dsimp only at h) | (refine h.drew.newB run_boxA rfl ?_; intro bn w h; try dsimp only at h))) | ((with_reducible refine RunN.isNew ?_); (first | (refine h.newB (NewC.run _) rfl ?_; intro bn w h) | (refine h.drew.newB (NewC.run _) rfl ?_; intro bn w h))))
      have hrr := h.rd (k := 2) (i := k + 3) (E := 5) (s := r.log[k].d) (vs := bys r.log[k].m) (sz := 1) ⟨_, rfl, by
        show nthO (r.log.map rrow) k = _
        rw [nthO_map rrow _ hc]; rfl⟩
      have hrl := hrr.bys_len
      refine hrr.idxR j rfl (by omega) ?_
      intro b3 o3 hb3
      refine hrr.elR hb3 (j * 1) rfl (kd := .int .u8) (x := ((r.log[k].m[j]'(by omega)).toNat : Int)) (by rw [Nat.mul_one]; exact bys_get (by omega)) ?_
      rw [wr (x := 512 * (r.log[k].sec : Int)) (by omega), wr (x := 512 * (r.log[k].sec : Int) + (j : Int)) (by omega)]
      refine (h.rd (k := 1) (i := 0) ⟨_, rfl, rfl⟩).idxR (512 * r.log[k].sec + j) (by omega) (by omega) ?_
      intro b4 o4 hb4
      have hl2 : ∀ x ∈ (r.imk k).set r.log[k].sec (r.log[k].m.take j ++ ((r.imk k).getD r.log[k].sec []).drop j), x.length = 512 := by
        intro x hx
        rcases List.mem_or_eq_of_mem_set hx with hx | hx
        · exact h5 x hx
        · subst hx
          rw [List.length_append, List.length_take, List.length_drop, hil]; omega
      refine h.storR 1 0 ⟨_, rfl, rfl⟩ hb4 (512 * r.log[k].sec + j) (by rw [Nat.mul_one]) (by rw [bys_length, len_flat hl2, List.length_set]; omega) rfl ?_
      intro w h
      rw [show (Value.int .u8 ((r.log[k].m[j]'(by omega)).toNat : Int)) = u8v (r.log[k].m[j]'(by omega)) from rfl, Go.Fw.bys_set, flat_set hl2 (by omega) (by rw [List.length_set]; omega)] at h
      have e3 : ((r.imk k).set r.log[k].sec (r.log[k].m.take j ++ ((r.imk k).getD r.log[k].sec []).drop j)).getD r.log[k].sec [] = r.log[k].m.take j ++ ((r.imk k).getD r.log[k].sec []).drop j := by
        rw [getD_at (by rw [List.length_set]; omega), List.getElem_set_self]
      rw [e3, List.set_set, take_set (by omega) (by omega)] at h
      exact hK2 _ _ ⟨j + 1, by omega, by dsimp only; rw [wr (by omega)]; omega, h⟩ (by dsimp only; rw [wr (by omega)]; omega)
    · have hd : j = r.log[k].n := by
        have : ¬ (j : Int) < (r.log[k].n : Int) := of_decide_eq_false hd
        omega
      subst hd
      refine hK _ _ ⟨k + 1, by omega, by dsimp only; rw [wr (by omega)]; omega, ?_⟩ (by dsimp only; rw [wr (by omega)]; omega)
      rw [imk_succ r hc]
      exact h.drop 0
  · have hc : k = r.log.length := by have := of_decide_eq_false hc; omega
    subst hc
    rw [imk_all] at h
    exact h
/-- The disk of an image. -/
def rof (b : Nat) (q : Sl) (ls : List (List UInt8)) : R := ⟨b, ls.length, q, ls.flatten, ls, ⟨none, 0, 0⟩, [], true, -1, 0⟩
theorem rof_ok (b : Nat) (q : Sl) {ls : List (List UInt8)} (h5 : ∀ x ∈ ls, x.length = 512) (h1 : 1 ≤ ls.length) (h2 : ls.length ≤ 65536) : ROk (rof b q ls) :=
  ⟨⟨h1, h2⟩, h5, rfl, .inr ⟨rfl, by simp only [rof]; rw [len_flat h5]; omega⟩, fun o ho => by simp [rof] at ho, ⟨by simp [rof], by simp [rof]⟩, ⟨by simp [rof], by simp [rof]⟩⟩
theorem rfrom_st (h : St w0 w F) {p : Sl} {ls : List (List UInt8)} (hp : SeesG w0 F p 1 (bys ls.flatten)) (h5 : ∀ x ∈ ls, x.length = 512) (h1 : 1 ≤ ls.length) (h2 : ls.length ≤ 65536) : CallK Try.prog (.tup (.cons .ptr (.cons (.int .i64) .nilT))) 41 #[.slice p.a p.len p.cap] w fun (q : Option Addr × Int × Unit) w' =>
    ∃ b s, q = (some ⟨b, 0, none⟩, 0, ()) ∧ St w0 w' (rg (rof b s ls) :: F) := by
  have hpl := (hp _ h).bys_len
  have hfl := len_flat h5
  rw [hfl] at hpl
  refine T41.calls ?_
  unfold T41
  rw [hpl]
  have e0 : Int.tmod ((512 * ls.length : Nat) : Int) 512 = 0 := by rw [Int.tmod_eq_emod_of_nonneg (by omega)]; omega
  have e1 : Int.tdiv ((512 * ls.length : Nat) : Int) 512 = (ls.length : Int) := by rw [Int.tdiv_eq_ediv_of_nonneg (by omega)]; omega
  rw [e0, e1, wr (x := (ls.length : Int)) (by omega)]
  refine JoinX.mk (fun j w' => j.1 = false ∧ St w0 w' F) ?_ ?_
  · rintro ⟨_, ⟨⟩⟩ w ⟨hj, h⟩
    dsimp only at hj h ⊢
    subst hj
    rw [SplitB_iff]
    refine ⟨(fun hz => by cases hz), fun _ => ?_⟩
    have h := h.nilrow 91 3
    have := copied_st h (p := p) (l := ls.flatten) (fun w h => hp w (h.drop 0)) (by omega)
    rw [hpl] at this
    refine this.mono ?_
    rintro q w ⟨hq, h⟩
    have h := St.one.2 h
    refine h.newB run_boxA (by rfl) ?_
    intro b w h
    have h := St.one.2 h
    exact ⟨b, q, rfl, h⟩
  · intro k hk
    rw [SplitB_iff]
    refine ⟨fun hz => ?_, fun hz => ?_⟩
    · have : ((512 * ls.length : Nat) : Int) = 0 := by simpa using hz
      omega
    · rw [SplitB_iff]
      refine ⟨(fun hz => by simp at hz), fun _ => ?_⟩
      refine hk _ _ ⟨?_, h⟩
      dsimp only
      exact decide_eq_false (by omega)
theorem rfrom_bad (h : St w0 w F) {p : Sl} (hb : ¬ (p.len % 512 = 0 ∧ 1 ≤ p.len / 512 ∧ p.len / 512 ≤ 65536)) (hl : p.len ≤ 1099511627776) : CallK Try.prog (.tup (.cons .ptr (.cons (.int .i64) .nilT))) 41 #[.slice p.a p.len p.cap] w fun (q : Option Addr × Int × Unit) w' =>
    q = (none, 1, ()) ∧ St w0 w' F := by
  refine T41.calls ?_
  unfold T41
  have e0 : Int.tmod (p.len : Int) 512 = ((p.len % 512 : Nat) : Int) := by rw [Int.tmod_eq_emod_of_nonneg (by omega)]; omega
  have e1 : Int.tdiv (p.len : Int) 512 = ((p.len / 512 : Nat) : Int) := by rw [Int.tdiv_eq_ediv_of_nonneg (by omega)]; omega
  rw [e0, e1, wr (x := ((p.len / 512 : Nat) : Int)) (by omega)]
  refine JoinX.mk (fun j w' => j.1 = true ∧ St w0 w' F) ?_ ?_
  · rintro ⟨_, ⟨⟩⟩ w ⟨hj, h⟩
    dsimp only at hj h ⊢
    subst hj
    rw [SplitB_iff]
    exact ⟨fun _ => ⟨rfl, h⟩, (fun hz => by cases hz)⟩
  · intro k hk
    rw [SplitB_iff]
    refine ⟨fun hz => hk _ _ ⟨rfl, h⟩, fun hz => ?_⟩
    have hz : p.len ≠ 0 := by intro e; rw [e] at hz; simp at hz
    rw [SplitB_iff]
    refine ⟨fun hy => hk _ _ ⟨rfl, h⟩, fun hy => ?_⟩
    have hy : p.len % 512 = 0 := by
      have : ((p.len % 512 : Nat) : Int) = 0 := by simpa using hy
      omega
    refine hk _ _ ⟨?_, h⟩
    dsimp only
    exact decide_eq_true (by omega)
theorem from_bad (h : St w0 w F) {p : Sl} (hb : ¬ (p.len % 512 = 0 ∧ 1 ≤ p.len / 512 ∧ p.len / 512 ≤ 65536)) (hl : p.len ≤ 1099511627776) : CallK Try.prog (.tup (.cons .ptr (.cons (.int .i64) .nilT))) 25 #[.slice p.a p.len p.cap] w fun (q : Option Addr × Int × Unit) w' =>
    q = (none, 1, ()) ∧ St w0 w' F := by
  refine T25.calls ?_
  unfold T25
  have e0 : Int.tmod (p.len : Int) 512 = ((p.len % 512 : Nat) : Int) := by rw [Int.tmod_eq_emod_of_nonneg (by omega)]; omega
  have e1 : Int.tdiv (p.len : Int) 512 = ((p.len / 512 : Nat) : Int) := by rw [Int.tdiv_eq_ediv_of_nonneg (by omega)]; omega
  rw [e0, e1, wr (x := ((p.len / 512 : Nat) : Int)) (by omega), SplitB_iff]
  refine ⟨fun hz => ⟨rfl, h⟩, fun hz => ?_⟩
  have hz : p.len % 512 = 0 := by
    have : ((p.len % 512 : Nat) : Int) = 0 := by simpa using hz
    omega
  refine (new_bad h (n := ((p.len / 512 : Nat) : Int)) (by omega)).mono ?_
  rintro q w ⟨rfl, h⟩
  rw [SplitB_iff]
  exact ⟨fun _ => ⟨rfl, h⟩, fun hy => by simp at hy⟩

/-! ### what the two have in common -/
structure Rel (d : D) (r : R) : Prop where
  n : d.secs.length = r.N
  on : r.on = !d.off
  wr : d.wr = (r.log.length : Int)
  arm : d.armed = true → r.left = d.after ∧ r.torn = d.torn
  una : d.armed = false → r.left = -1
  ims : d.abs.ims = r.ims
  tr : ∀ k (hk : k < r.log.length), r.log.length ≤ k + 64 → d.tr[k % 64]? = some (r.log[k].sec : Int)
theorem Rel.reach (h : Rel d r) (n : Int) : d.abs.reach n = r.reach n := by
  unfold A.reach R.reach
  rw [abs_off, abs_len, h.on, h.n]
  cases d.off <;> simp
theorem rel_new (b : Nat) (s : Sl) (b2 n : Nat) : Rel (fresh b s n) (rfresh b2 n) :=
  ⟨by simp [fresh, rfresh], rfl, rfl, (fun h => by cases h), fun _ => rfl, fresh_ims b s n, fun k hk => by simp [rfresh] at hk⟩
theorem rel_from {ls : List (List UInt8)} (hd : d.abs = { (fresh d.b d.s ls.length).abs with ims := ls }) (b : Nat) (q : Sl) : Rel d (rof b q ls) := by
  have hl : d.secs.length = ls.length := by have := congrArg (fun a => a.ims.length) hd; simpa using this
  have h1 : d.off = false := congrArg A.off hd
  have h2 : d.armed = false := congrArg A.armed hd
  have h3 : d.wr = 0 := congrArg A.wr hd
  exact ⟨hl, by rw [h1]; rfl, h3, fun h => by rw [h2] at h; (cases h), fun _ => rfl, congrArg A.ims hd, fun k hk => by simp [rof] at hk⟩
theorem rel_off (h : Rel d r) : Rel { d with off := true, armed := false } { r with on := false, left := -1 } :=
  ⟨h.n, rfl, h.wr, (fun h => by cases h), fun _ => rfl, h.ims, h.tr⟩
theorem rel_on (h : Rel d r) : Rel { d with off := false } { r with on := true } :=
  ⟨h.n, rfl, h.wr, h.arm, h.una, h.ims, h.tr⟩
theorem Rel.of_abs {d' : D} (h : Rel d r) (e : d'.abs = d.abs) : Rel d' r := by
  have h1 := congrArg A.off e
  have h2 := congrArg A.armed e
  have h3 := congrArg A.wr e
  have h4 := congrArg A.after e
  have h5 := congrArg A.torn e
  have h6 := congrArg A.tr e
  have h7 := congrArg A.ims e
  have h8 := congrArg List.length h7
  simp only [abs_len] at h8
  simp only [D.abs] at h1 h2 h3 h4 h5 h6
  exact ⟨h8.trans h.n, by rw [h1]; exact h.on, h3.trans h.wr, fun ha => by rw [h4, h5]; exact h.arm (h2 ▸ ha), fun ha => h.una (h2 ▸ ha), h7.trans h.ims, by rw [h6]; exact h.tr⟩
theorem rel_arm (h : Rel d r) (k j : Int) {d' : D} (hd : d'.abs = d.abs.arm k j) : Rel d' (if r.on then { r with left := max k (-1), torn := min (max j 0) 512 } else r) := by
  unfold A.arm at hd
  rw [abs_off] at hd
  cases ho : d.off with
  | true =>
    rw [ho] at hd
    have hr : r.on = false := by rw [h.on, ho]; rfl
    rw [hr]
    exact h.of_abs hd
  | false =>
    rw [ho] at hd
    simp only [Bool.false_eq_true, if_false] at hd
    have hr : r.on = true := by rw [h.on, ho]; rfl
    rw [if_pos hr]
    have h1 := congrArg A.off hd
    have h2 := congrArg A.armed hd
    have h3 := congrArg A.wr hd
    have h4 := congrArg A.after hd
    have h5 := congrArg A.torn hd
    have h6 := congrArg A.tr hd
    have h7 := congrArg A.ims hd
    have h8 := congrArg List.length h7
    simp only [abs_len] at h8
    simp only [D.abs] at h1 h2 h3 h4 h5 h6
    refine ⟨h8.trans h.n, by show r.on = _; rw [h1, hr]; rfl, h3.trans h.wr, fun ha => ?_, fun ha => ?_, h7.trans h.ims, by rw [h6]; exact h.tr⟩
    · rw [h2] at ha
      have ha := of_decide_eq_true ha
      dsimp only
      rw [h4, h5]
      exact ⟨by omega, rfl⟩
    · rw [h2] at ha
      have ha := of_decide_eq_false ha
      dsimp only; omega
theorem rel_write (h : Rel d r) (ok : DOk d) (rok : ROk r) {m : Nat} {c : List UInt8} (hc : c.length = 512) (hm : d.abs.reach m = 0) {d' : D} (hd : d'.abs = (d.abs.wrote m c).2) (ls q : Sl) :
    (r.left = 0 → (d.abs.wrote m c).1 = 200 ∧ Rel d' { r.add ls ⟨m, r.torn.toNat, q, c⟩ with on := false, left := -1 } ∧ ROk { r.add ls ⟨m, r.torn.toNat, q, c⟩ with on := false, left := -1 }) ∧
    (r.left ≠ 0 → (d.abs.wrote m c).1 = 0 ∧ Rel d' { r.add ls ⟨m, 512, q, c⟩ with left := r.left1 } ∧ ROk { r.add ls ⟨m, 512, q, c⟩ with left := r.left1 }) := by
  have hmN : d.off = false ∧ m < r.N := by
    unfold A.reach at hm
    rw [abs_off, abs_len, h.n] at hm
    cases ho : d.off with
    | true => rw [ho] at hm; simp at hm
    | false =>
      rw [ho] at hm
      refine ⟨rfl, ?_⟩
      by_cases hlt : (0 : Int) ≤ (m : Int) ∧ (m : Int) < (r.N : Int)
      · omega
      · rw [if_neg (by simp), if_neg hlt] at hm; cases hm
  obtain ⟨ho, hmN⟩ := hmN
  have htr := ok.tr
  have hw0 := ok.w0
  have hwr := h.wr
  have hleft := rok.left
  have htorn := rok.torn
  have trk : ∀ o : Rw, o.sec = m → ∀ k (hk : k < (r.log ++ [o]).length), (r.log ++ [o]).length ≤ k + 64 → (d.tr.set (d.wr.toNat % 64) (m : Int))[k % 64]? = some ((r.log ++ [o])[k].sec : Int) := by
    intro o ho k hk h64
    have e : d.wr.toNat = r.log.length := by omega
    rw [List.length_append, List.length_singleton] at hk h64
    rw [e, List.getElem?_set]
    by_cases hkl : k = r.log.length
    · subst hkl
      rw [if_pos rfl, if_pos (by omega)]
      simp [ho]
    · rw [if_neg (by omega), List.getElem_append_left (by omega)]
      exact h.tr k (by omega) (by omega)
  have imsadd : ∀ o : Rw, (r.log ++ [o]).foldl lay r.base = lay r.ims o := fun o => by rw [List.foldl_append]; rfl
  have okadd : ∀ (o : Rw) (x y : Bool × Int), o.sec = m → o.n ≤ 512 → o.m = c → (-1 ≤ y.2 ∧ y.2 ≤ 9223372036854775807) → ROk { r.add ls o with on := y.1, left := y.2 } := by
    intro o x y h1 h2 h3 h4
    refine ⟨rok.N1, rok.base5, rok.bl, rok.fst, fun o' ho' => ?_, h4, rok.torn⟩
    rcases List.mem_append.1 ho' with ho' | ho'
    · exact rok.lg o' ho'
    · simp at ho'; subst ho'; exact ⟨by show o'.sec < r.N; omega, h2, by rw [h3]; exact hc⟩
  have hds : ∀ I : List (List UInt8), d'.abs.ims = I → I.length = r.N → d'.secs.length = r.N := fun I h1 h2 => by rw [← abs_len, h1]; exact h2
  have hil : d.abs.ims.length = r.N := by rw [abs_len]; exact h.n
  unfold A.wrote at hd ⊢
  by_cases hz : d.abs.armed = true ∧ d.abs.after = 0
  · rw [if_pos hz] at hd ⊢
    dsimp only at hd ⊢
    obtain ⟨hz1, hz2⟩ := hz
    have ha := h.arm hz1
    have hl0 : r.left = 0 := ha.1.trans hz2
    refine ⟨fun _ => ⟨rfl, ?_, ?_⟩, fun hh => absurd hl0 hh⟩
    · have h1 := congrArg A.off hd
      have h2 := congrArg A.armed hd
      have h3 := congrArg A.wr hd
      have h6 := congrArg A.tr hd
      have h7 := congrArg A.ims hd
      dsimp only [D.abs] at h1 h2 h3 h6
      dsimp only at h7
      have et : d.abs.torn = r.torn := ha.2.symm
      rw [et, Int.toNat_natCast, h.ims] at h7
      refine ⟨hds _ h7 (by rw [List.length_set, ← h.ims]; exact hil), by rw [h1]; rfl, by rw [h3, hwr]; simp [R.add], fun ha => by rw [h2] at ha; (cases ha), fun _ => rfl, ?_, ?_⟩
      · rw [h7]; simp only [R.ims, R.add]; rw [imsadd]; rfl
      · rw [h6]; exact trk _ rfl
    · exact okadd ⟨m, r.torn.toNat, q, c⟩ (false, 0) (false, -1) rfl (by dsimp only; omega) rfl (by dsimp only; omega)
  · rw [if_neg hz] at hd ⊢
    dsimp only at hd ⊢
    have hlz : r.left ≠ 0 ∧ (d.armed = true → r.left1 = d.after - 1) ∧ (d.armed = false → r.left1 = -1) := by
      cases hz1 : d.armed with
      | true =>
        have ha := h.arm hz1
        have h0 : d.after ≠ 0 := fun e => hz ⟨hz1, e⟩
        have := ok.after hz1
        refine ⟨by omega, fun _ => ?_, fun h => by cases h⟩
        unfold R.left1
        rw [if_pos (by omega)]; omega
      | false =>
        have := h.una hz1
        refine ⟨by omega, fun h => by (cases h), fun _ => ?_⟩
        unfold R.left1
        rw [if_neg (by omega)]; exact this
    obtain ⟨hl0, hl1, hl2⟩ := hlz
    refine ⟨fun hh => absurd hh hl0, fun _ => ⟨rfl, ?_, ?_⟩⟩
    · have h1 := congrArg A.off hd
      have h2 := congrArg A.armed hd
      have h3 := congrArg A.wr hd
      have h4 := congrArg A.after hd
      have h5 := congrArg A.torn hd
      have h6 := congrArg A.tr hd
      have h7 := congrArg A.ims hd
      dsimp only [D.abs] at h1 h2 h3 h4 h5 h6
      dsimp only at h7
      rw [Int.toNat_natCast, h.ims] at h7
      refine ⟨hds _ h7 (by rw [List.length_set, ← h.ims]; exact hil), by rw [h1]; exact h.on, by rw [h3, hwr]; simp [R.add], fun ha => ?_, fun ha => ?_, ?_, ?_⟩
      · rw [h2] at ha
        have h4 : d'.after = d.after - 1 := h4.trans (if_pos ha)
        rw [h4, h5]
        exact ⟨hl1 ha, (h.arm ha).2⟩
      · rw [h2] at ha
        exact hl2 ha
      · have hol : (r.ims.getD m []).length = 512 := by
          rw [getD_at (by rw [← h.ims]; omega)]
          exact (imk_all r ▸ imk_ok rok (Nat.le_refl _)).1 _ (List.getElem_mem _)
        rw [h7]; simp only [R.ims, R.add]; rw [imsadd]
        simp only [lay]
        rw [List.take_of_length_le (by omega), List.drop_of_length_le (by omega), List.append_nil]
        rfl
      · rw [h6]; exact trk _ rfl
    · have hlb : -1 ≤ r.left1 ∧ r.left1 ≤ 9223372036854775807 := by
        unfold R.left1; split <;> omega
      have := okadd ⟨m, 512, q, c⟩ (r.on, 0) (r.on, r.left1) rfl (by dsimp only; omega) rfl hlb
      exact this
theorem rel_trace (h : Rel d r) (ok : DOk d) : d.abs.trace = r.trace := by
  have hw := h.wr
  have hw0 := ok.w0
  have hm : d.abs.m = min r.log.length 64 := by simp only [A.m, abs_wr, hw]; omega
  refine List.ext_getElem ?_ fun i h1 h2 => ?_
  · simp only [A.trace, R.trace, List.length_map, List.length_range, List.length_drop, hm]; omega
  · simp only [A.trace, R.trace, List.length_map, List.length_range, List.length_drop] at h1 h2
    simp only [A.trace, R.trace, List.getElem_map, List.getElem_range, List.getElem_drop]
    have e : d.abs.wr.toNat - d.abs.m + i = r.log.length - 64 + i := by rw [abs_wr, hm]; omega
    rw [e, List.getD_eq_getElem?_getD]
    have := h.tr (r.log.length - 64 + i) (by omega) (by omega)
    have e2 : d.abs.tr = d.tr := rfl
    rw [e2, this]; rfl
end Go.Proofs.Ytpdaoahamgegoaa
