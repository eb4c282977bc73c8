/- The document's disk: what it tells; and what the two have in common. -/
import Derived.Test.YtpdaoahamgegoaaDkR
namespace Go.Proofs.Ytpdaoahamgegoaa
open Go Go.Fw Go.RowKit
set_option linter.unusedVariables false
set_option linter.unusedSimpArgs false
set_option maxRecDepth 4000
set_option maxHeartbeats 2000000
variable {w0 w : World} {F G : Grps} {r : R} {d : D}

theorem flat_get {I : List (List UInt8)} (h5 : ∀ x ∈ I, x.length = 512) {i k : Nat} (hk : k < 512) (hi : i < I.length) : I.flatten[512 * i + k]? = (I.getD i [])[k]? := by
  induction I generalizing i with
  | nil => simp at hi
  | cons x t ih =>
    have hx := h5 x (List.mem_cons_self ..)
    cases i with
    | zero => rw [List.flatten_cons, List.getElem?_append_left (by omega)]; simp
    | succ i =>
      rw [List.flatten_cons, List.getElem?_append_right (by omega), show 512 * (i + 1) + k - x.length = 512 * i + k by omega, ih (fun y hy => h5 y (List.mem_cons_of_mem _ hy)) (by simpa using hi)]
      simp
theorem flat_set {I : List (List UInt8)} (h5 : ∀ x ∈ I, x.length = 512) {i k : Nat} (hk : k < 512) (hi : i < I.length) (v : UInt8) : I.flatten.set (512 * i + k) v = (I.set i ((I.getD i []).set k v)).flatten := by
  induction I generalizing i with
  | nil => simp at hi
  | cons x t ih =>
    have hx := h5 x (List.mem_cons_self ..)
    cases i with
    | zero => rw [List.flatten_cons, List.set_append_left _ _ (by omega)]; simp
    | succ i =>
      rw [List.flatten_cons, List.set_append_right _ _ (by omega), show 512 * (i + 1) + k - x.length = 512 * i + k by omega, ih (fun y hy => h5 y (List.mem_cons_of_mem _ hy)) (by simpa using hi)]
      simp
theorem getD_at {I : List (List UInt8)} {i : Nat} (h : i < I.length) : I.getD i [] = I[i] := by
  rw [List.getD_eq_getElem?_getD, List.getElem?_eq_getElem h, Option.getD_some]
theorem take_set {m old : List UInt8} {j : Nat} (hm : j < m.length) (ho : old.length = m.length) : (m.take j ++ old.drop j).set j m[j] = m.take (j + 1) ++ old.drop (j + 1) := by
  rw [List.set_append_right _ _ (by simp; omega), List.take_succ_eq_append_getElem hm, List.append_assoc]
  congr 1
  rw [List.length_take, Nat.min_eq_left (by omega), Nat.sub_self, List.drop_eq_getElem_cons (by omega), List.set_cons_zero]
  rfl
theorem lay_same {I : List (List UInt8)} {o : Rw} (h : o.sec < I.length) : (lay I o).getD o.sec [] = o.m.take o.n ++ (I.getD o.sec []).drop o.n := by
  rw [getD_at (by simpa [lay] using h)]; simp [lay]
theorem lay_other {I : List (List UInt8)} {o : Rw} {i : Nat} (h : i ≠ o.sec) : (lay I o).getD i [] = I.getD i [] := by
  rw [List.getD_eq_getElem?_getD, List.getD_eq_getElem?_getD, lay, List.getElem?_set_ne (Ne.symm h)]

/-- A sector as the document has it. -/
theorem rbytes_st (h : St w0 w (rg r :: F)) (ok : ROk r) (hlen : r.log.length ≤ 1048576) {i : Nat} (hi : i < r.N) : CallK Try.prog .sl 57 #[.pointer r.p, .int .i64 (i : Int)] w fun (q : Sl) w' =>
    q.len = 512 ∧ St w0 w' ([.row 5 1 q (bys (r.ims.getD i []))] :: rg r :: F) := by
  have hll := rg_log h
  have hfl := rg_first h
  have hN := ok.N1
  have hbl := ok.bl
  have hb5 : (r.base.getD i []).length = 512 := by rw [getD_at (by omega)]; exact ok.base5 _ (List.getElem_mem _)
  refine T57.calls ?_
  unfold T57
  refine h.makeN (.int .u8 0) (by kernel_rfl) rfl 512 rfl rfl (by decide) (by decide) ?_
  intro q w hql hqc h
  have e : List.replicate 512 (Value.int .u8 0) = bys (List.replicate 512 0) := by rw [bys, List.map_replicate]; rfl
  rw [e] at h
  refine LoopX.mk (fun st w' => ∃ k : Nat, k ≤ 512 ∧ st.1 = (k : Int) ∧ St w0 w' ([.row 5 1 q (bys ((r.base.getD i []).take k ++ List.replicate (512 - k) 0))] :: rg r :: F)) (fun st => 512 - st.1.toNat) ⟨0, by omega, rfl, by simpa using h⟩ ?_
  clear h
  rintro ⟨_, ⟨⟩⟩ w ⟨k, hk, rfl, h⟩ K hK
  dsimp only at h hK ⊢
  refine JoinX.mk (fun j w' => j.1 = decide (k < 512 ∧ 0 < r.first.length) ∧ St w0 w' ([.row 5 1 q (bys ((r.base.getD i []).take k ++ List.replicate (512 - k) 0))] :: rg r :: F)) ?_ ?_
  rotate_left
  · intro k3 hk3
    rw [SplitB_iff]
    refine ⟨fun hc => ?_, fun hc => ?_⟩
    · have hc : k < 512 := by have := of_decide_eq_true hc; omega
      repeat (first | (with_reducible refine NilP.mk ?_) | ((with_reducible refine RunN.isLoad ?_); (first | refine h.loadB 0 0 ⟨_, rfl, rfl⟩ rfl rfl ?_ | refine h.loadB 1 0 ⟨_, rfl, rfl⟩ rfl rfl ?_ | refine h.drew.loadB 0 0 ⟨_, rfl, rfl⟩ rfl rfl ?_ | refine h.drew.loadB 1 0 ⟨_, rfl, rfl⟩ rfl rfl ?_)) | ((with_reducible refine ReadN.isLoad ?_); (first | refine h.readB 0 0 ⟨_, rfl, rfl⟩ rfl rfl ?_ | refine h.readB 1 0 ⟨_, rfl, rfl⟩ rfl rfl ?_ | refine h.drew.readB 0 0 ⟨_, rfl, rfl⟩ rfl rfl ?_ | refine h.drew.readB 1 0 ⟨_, rfl, rfl⟩ rfl rfl ?_)) | ((with_reducible refine StillV.isLoad ?_); (first | refine ⟨h.stillB 0 0 ⟨_, rfl, rfl⟩ rfl rfl, ?_⟩ | refine ⟨h.stillB 1 0 ⟨_, rfl, rfl⟩ rfl rfl, ?_⟩)) | ((with_reducible refine RunU.isStor ?_); (first | (refine h.storB 0 0 ⟨_, rfl, rfl⟩ rfl rfl rfl ?_; intro w h; dsimp only [updG, setO] at h) | (refine h.storB 1 0 ⟨_, rfl, rfl⟩ rfl rfl rfl ?_; intro w h; dsimp only [updG, setO] at h) | (refine h.drew.storB 0 0 ⟨_, rfl, rfl⟩ rfl rfl rfl ?_; intro w h; dsimp only [updG, setO] at h) | (refine h.drew.storB 1 0 ⟨_, rfl, rfl⟩ rfl rfl rfl ?_; intro w h; dsimp only [updG, setO] at h))) | ((with_reducible refine RunN.isBox ?_); (first | (refine h.newB run_boxA rfl ?_; intro bn w h; try dsimp only at h) | (refine h.drew.newB run_boxA rfl ?_; intro bn w h; try dsimp only at h))) | ((with_reducible refine RunN.isNew ?_); (first | (refine h.newB (NewC.run _) rfl ?_; intro bn w h) | (refine h.drew.newB (NewC.run _) rfl ?_; intro bn w h))))
      refine hk3 _ _ ⟨?_, h⟩
      dsimp only
      exact decide_eq_decide.2 (by omega)
    · have hc := of_decide_eq_false hc
      exact hk3 _ _ ⟨(decide_eq_false (by omega)).symm, h⟩
  clear h
  rintro ⟨_, ⟨⟩⟩ w ⟨hj, h⟩
  dsimp only at hj h ⊢
  subst hj
  rw [SplitB_iff]
  refine ⟨fun hc => ?_, fun hc => ?_⟩
  · obtain ⟨hc, hf⟩ := of_decide_eq_true hc
    obtain ⟨hfb, _⟩ : r.first = r.base.flatten ∧ 0 < r.first.length := by
      rcases ok.fst with ⟨h1, _⟩ | h1
      · rw [h1] at hf; simp at hf
      · exact h1
    have hfl5 : r.first.length = 512 * r.N := by rw [hfb, len_flat ok.base5, hbl]
    have hv : r.first[512 * i + k]? = (r.base.getD i [])[k]? := by rw [hfb]; exact flat_get ok.base5 hc (by omega)
    rw [List.getElem?_eq_getElem (by omega : k < (r.base.getD i []).length)] at hv
    repeat (first | (with_reducible refine NilP.mk ?_) | ((with_reducible refine RunN.isLoad ?_); (first | refine h.loadB 0 0 ⟨_, rfl, rfl⟩ rfl rfl ?_ | refine h.loadB 1 0 ⟨_, rfl, rfl⟩ rfl rfl ?_ | refine h.drew.loadB 0 0 ⟨_, rfl, rfl⟩ rfl rfl ?_ | refine h.drew.loadB 1 0 ⟨_, rfl, rfl⟩ rfl rfl ?_)) | ((with_reducible refine ReadN.isLoad ?_); (first | refine h.readB 0 0 ⟨_, rfl, rfl⟩ rfl rfl ?_ | refine h.readB 1 0 ⟨_, rfl, rfl⟩ rfl rfl ?_ | refine h.drew.readB 0 0 ⟨_, rfl, rfl⟩ rfl rfl ?_ | refine h.drew.readB 1 0 ⟨_, rfl, rfl⟩ rfl rfl ?_)) | ((with_reducible refine StillV.isLoad ?_); (first | refine ⟨h.stillB 0 0 ⟨_, rfl, rfl⟩ rfl rfl, ?_⟩ | refine ⟨h.stillB 1 0 ⟨_, rfl, rfl⟩ rfl rfl, ?_⟩)) | ((with_reducible refine RunU.isStor ?_); (first | (refine h.storB 0 0 ⟨_, rfl, rfl⟩ rfl rfl rfl ?_; intro w h; dsimp only [updG, setO] at h) | (refine h.storB 1 0 ⟨_, rfl, rfl⟩ rfl rfl rfl ?_; intro w h; dsimp only [updG, setO] at h) | (refine h.drew.storB 0 0 ⟨_, rfl, rfl⟩ rfl rfl rfl ?_; intro w h; dsimp only [updG, setO] at h) | (refine h.drew.storB 1 0 ⟨_, rfl, rfl⟩ rfl rfl rfl ?_; intro w h; dsimp only [updG, setO] at h))) | ((with_reducible refine RunN.isBox ?_); (first | (refine h.newB run_boxA rfl ?_; intro bn w h; try dsimp only at h) | (refine h.drew.newB run_boxA rfl ?_; intro bn w h; try dsimp only at h))) | ((with_reducible refine RunN.isNew ?_); (first | (refine h.newB (NewC.run _) rfl ?_; intro bn w h) | (refine h.drew.newB (NewC.run _) rfl ?_; intro bn w h))))
    rw [wr (x := 512 * (i : Int)) (by omega), wr (x := 512 * (i : Int) + (k : Int)) (by omega)]
    refine (h.rd (k := 1) (i := 1) ⟨_, rfl, rfl⟩).idxK (512 * i + k) (by omega) (by omega) ?_
    intro b o hb
    refine (h.rd (k := 1) (i := 1) ⟨_, rfl, rfl⟩).el hb ((512 * i + k) * 1) rfl (kd := .int .u8) (x := (((r.base.getD i [])[k]'(by omega)).toNat : Int)) (by rw [Nat.mul_one, bys, List.getElem?_map, hv]; rfl) ?_
    refine (h.rd (k := 0) (i := 0) ⟨_, rfl, rfl⟩).idxK k rfl (by omega) ?_
    intro b2 o2 hb2
    refine h.storR 0 0 ⟨_, rfl, rfl⟩ hb2 k (by rw [Nat.mul_one]) (by rw [bys_length, List.length_append, List.length_take, List.length_replicate]; omega) rfl ?_
    intro w h
    have e2 : (bys ((r.base.getD i []).take k ++ List.replicate (512 - k) 0)).set k (Value.int .u8 (((r.base.getD i [])[k]'(by omega)).toNat : Int)) = bys ((r.base.getD i []).take (k + 1) ++ List.replicate (512 - (k + 1)) 0) := by
      rw [show (Value.int .u8 (((r.base.getD i [])[k]'(by omega)).toNat : Int)) = u8v ((r.base.getD i [])[k]'(by omega)) from rfl, Go.Fw.bys_set]
      congr 1
      rw [List.set_append_right _ _ (by rw [List.length_take]; omega), List.take_succ_eq_append_getElem (by omega), List.append_assoc]
      congr 1
      rw [List.length_take, Nat.min_eq_left (by omega), Nat.sub_self, show 512 - k = (512 - (k + 1)) + 1 by omega, List.replicate_succ, List.set_cons_zero]
      rfl
    rw [e2] at h
    exact hK _ _ ⟨k + 1, by omega, by dsimp only; rw [wr (by omega)]; omega, h⟩ (by dsimp only; rw [wr (by omega)]; omega)
  have hc := of_decide_eq_false hc
  have hcont : (r.base.getD i []).take k ++ List.replicate (512 - k) 0 = r.base.getD i [] := by
    by_cases h512 : k = 512
    · subst h512
      rw [List.take_of_length_le (by omega)]; simp
    · rcases ok.fst with ⟨h1, h2⟩ | h1
      · have e : r.base.getD i [] = List.replicate 512 0 := by
          rw [getD_at (by omega)]
          have : r.base[i]'(by omega) ∈ zer r.N := by rw [← h2]; exact List.getElem_mem _
          exact (List.mem_replicate.1 this).2
        rw [e, List.take_replicate, List.replicate_append_replicate]
        congr 1; omega
      · exact absurd ⟨by omega, h1.2⟩ hc
  rw [hcont] at h
  clear hK hcont
  refine LoopX.mk (fun st w' => ∃ k : Nat, k ≤ r.log.length ∧ st.1 = (k : Int) ∧ St w0 w' ([.row 5 1 q (bys ((r.imk k).getD i []))] :: rg r :: F)) (fun st => r.log.length - st.1.toNat) ⟨0, by omega, rfl, h⟩ ?_
  clear h
  rintro ⟨_, ⟨⟩⟩ w ⟨k, hk, rfl, h⟩ K hK
  dsimp only at h hK ⊢
  repeat (first | (with_reducible refine NilP.mk ?_) | ((with_reducible refine RunN.isLoad ?_); (first | refine h.loadB 0 0 ⟨_, rfl, rfl⟩ rfl rfl ?_ | refine h.loadB 1 0 ⟨_, rfl, rfl⟩ rfl rfl ?_ | refine h.drew.loadB 0 0 ⟨_, rfl, rfl⟩ rfl rfl ?_ | refine h.drew.loadB 1 0 ⟨_, rfl, rfl⟩ rfl rfl ?_)) | ((with_reducible refine ReadN.isLoad ?_); (first | refine h.readB 0 0 ⟨_, rfl, rfl⟩ rfl rfl ?_ | refine h.readB 1 0 ⟨_, rfl, rfl⟩ rfl rfl ?_ | refine h.drew.readB 0 0 ⟨_, rfl, rfl⟩ rfl rfl ?_ | refine h.drew.readB 1 0 ⟨_, rfl, rfl⟩ rfl rfl ?_)) | ((with_reducible refine StillV.isLoad ?_); (first | refine ⟨h.stillB 0 0 ⟨_, rfl, rfl⟩ rfl rfl, ?_⟩ | refine ⟨h.stillB 1 0 ⟨_, rfl, rfl⟩ rfl rfl, ?_⟩)) | ((with_reducible refine RunU.isStor ?_); (first | (refine h.storB 0 0 ⟨_, rfl, rfl⟩ rfl rfl rfl ?_; intro w h; dsimp only [updG, setO] at h) | (refine h.storB 1 0 ⟨_, rfl, rfl⟩ rfl rfl rfl ?_; intro w h; dsimp only [updG, setO] at h) | (refine h.drew.storB 0 0 ⟨_, rfl, rfl⟩ rfl rfl rfl ?_; intro w h; dsimp only [updG, setO] at h) | (refine h.drew.storB 1 0 ⟨_, rfl, rfl⟩ rfl rfl rfl ?_; intro w h; dsimp only [updG, setO] at h))) | ((with_reducible refine RunN.isBox ?_); (first | (refine h.newB run_boxA rfl ?_; intro bn w h; try dsimp only at h) | (refine h.drew.newB run_boxA rfl ?_; intro bn w h; try dsimp only at h))) | ((with_reducible refine RunN.isNew ?_); (first | (refine h.newB (NewC.run _) rfl ?_; intro bn w h) | (refine h.drew.newB (NewC.run _) rfl ?_; intro bn w h))))
  rw [SplitB_iff]
  refine ⟨fun hc => ?_, fun hc => ?_⟩
  · have hc : k < r.log.length := by have := of_decide_eq_true hc; omega
    obtain ⟨h5, hl5⟩ := imk_ok ok (k := k) (by omega)
    have hlg := ok.lg _ (List.getElem_mem hc)
    refine JoinX.mk (fun _ w' => St w0 w' ([.row 5 1 q (bys ((r.imk (k + 1)).getD i []))] :: rg r :: F)) ?_ ?_
    · rintro ⟨⟩ w h
      exact hK _ _ ⟨k + 1, by omega, by dsimp only; rw [wr (by omega)]; omega, h⟩ (by dsimp only; rw [wr (by omega)]; omega)
    · intro k7 hk7
      repeat (first | (with_reducible refine NilP.mk ?_) | ((with_reducible refine RunN.isLoad ?_); (first | refine h.loadB 0 0 ⟨_, rfl, rfl⟩ rfl rfl ?_ | refine h.loadB 1 0 ⟨_, rfl, rfl⟩ rfl rfl ?_ | refine h.drew.loadB 0 0 ⟨_, rfl, rfl⟩ rfl rfl ?_ | refine h.drew.loadB 1 0 ⟨_, rfl, rfl⟩ rfl rfl ?_)) | ((with_reducible refine ReadN.isLoad ?_); (first | refine h.readB 0 0 ⟨_, rfl, rfl⟩ rfl rfl ?_ | refine h.readB 1 0 ⟨_, rfl, rfl⟩ rfl rfl ?_ | refine h.drew.readB 0 0 ⟨_, rfl, rfl⟩ rfl rfl ?_ | refine h.drew.readB 1 0 ⟨_, rfl, rfl⟩ rfl rfl ?_)) | ((with_reducible refine StillV.isLoad ?_); (first | refine ⟨h.stillB 0 0 ⟨_, rfl, rfl⟩ rfl rfl, ?_⟩ | refine ⟨h.stillB 1 0 ⟨_, rfl, rfl⟩ rfl rfl, ?_⟩)) | ((with_reducible refine RunU.isStor ?_); (first | (refine h.storB 0 0 ⟨_, rfl, rfl⟩ rfl rfl rfl ?_; intro w h; dsimp only [updG, setO] at h) | (refine h.storB 1 0 ⟨_, rfl, rfl⟩ rfl rfl rfl ?_; intro w h; dsimp only [updG, setO] at h) | (refine h.drew.storB 0 0 ⟨_, rfl, rfl⟩ rfl rfl rfl ?_; intro w h; dsimp only [updG, setO] at h) | (refine h.drew.storB 1 0 ⟨_, rfl, rfl⟩ rfl rfl rfl ?_; intro w h; dsimp only [updG, setO] at h))) | ((with_reducible refine RunN.isBox ?_); (first | (refine h.newB run_boxA rfl ?_; intro bn w h; try dsimp only at h) | (refine h.drew.newB run_boxA rfl ?_; intro bn w h; try dsimp only at h))) | ((with_reducible refine RunN.isNew ?_); (first | (refine h.newB (NewC.run _) rfl ?_; intro bn w h) | (refine h.drew.newB (NewC.run _) rfl ?_; intro bn w h))))
      refine (h.rd (k := 1) (i := 2) ⟨_, rfl, rfl⟩).idxK k rfl (by omega) ?_
      intro b o hb
      refine (h.rd (k := 1) (i := 2) ⟨_, rfl, rfl⟩).el hb (k * 3 + 0) (by simp only [add_lit', Nat.add_assoc]) (kd := .int .i64) (x := (r.log[k].sec : Int)) (by rw [rws_get _ k 0 hc (by decide)]; rfl) ?_
      rw [SplitB_iff]
      refine ⟨fun hs => ?_, fun hs => ?_⟩
      · have hs : r.log[k].sec = i := by have : (r.log[k].sec : Int) = (i : Int) := beq_iff_eq.1 hs; omega
        have hil : ((r.imk k).getD i []).length = 512 := by rw [getD_at (by omega)]; exact h5 _ (List.getElem_mem _)
        refine LoopX.mk (fun st w' => ∃ j : Nat, j ≤ r.log[k].n ∧ st.1 = (j : Int) ∧ St w0 w' ([.row 5 1 q (bys (r.log[k].m.take j ++ ((r.imk k).getD i []).drop j))] :: rg r :: F)) (fun st => r.log[k].n - st.1.toNat) ⟨0, by omega, rfl, by simpa using h⟩ ?_
        clear h
        rintro ⟨_, ⟨⟩⟩ w ⟨j, hj, rfl, h⟩ K2 hK2
        dsimp only at h hK2 ⊢
        repeat (first | (with_reducible refine NilP.mk ?_) | ((with_reducible refine RunN.isLoad ?_); (first | refine h.loadB 0 0 ⟨_, rfl, rfl⟩ rfl rfl ?_ | refine h.loadB 1 0 ⟨_, rfl, rfl⟩ rfl rfl ?_ | refine h.drew.loadB 0 0 ⟨_, rfl, rfl⟩ rfl rfl ?_ | refine h.drew.loadB 1 0 ⟨_, rfl, rfl⟩ rfl rfl ?_)) | ((with_reducible refine ReadN.isLoad ?_); (first | refine h.readB 0 0 ⟨_, rfl, rfl⟩ rfl rfl ?_ | refine h.readB 1 0 ⟨_, rfl, rfl⟩ rfl rfl ?_ | refine h.drew.readB 0 0 ⟨_, rfl, rfl⟩ rfl rfl ?_ | refine h.drew.readB 1 0 ⟨_, rfl, rfl⟩ rfl rfl ?_)) | ((with_reducible refine StillV.isLoad ?_); (first | refine ⟨h.stillB 0 0 ⟨_, rfl, rfl⟩ rfl rfl, ?_⟩ | refine ⟨h.stillB 1 0 ⟨_, rfl, rfl⟩ rfl rfl, ?_⟩)) | ((with_reducible refine RunU.isStor ?_); (first | (refine h.storB 0 0 ⟨_, rfl, rfl⟩ rfl rfl rfl ?_; intro w h; dsimp only [updG, setO] at h) | (refine h.storB 1 0 ⟨_, rfl, rfl⟩ rfl rfl rfl ?_; intro w h; dsimp only [updG, setO] at h) | (refine h.drew.storB 0 0 ⟨_, rfl, rfl⟩ rfl rfl rfl ?_; intro w h; dsimp only [updG, setO] at h) | (refine h.drew.storB 1 0 ⟨_, rfl, rfl⟩ rfl rfl rfl ?_; intro w h; dsimp only [updG, setO] at h))) | ((with_reducible refine RunN.isBox ?_); (first | (refine h.newB run_boxA rfl ?_; intro bn w h; try dsimp only at h) | (refine h.drew.newB run_boxA rfl ?_; intro bn w h; try dsimp only at h))) | ((with_reducible refine RunN.isNew ?_); (first | (refine h.newB (NewC.run _) rfl ?_; intro bn w h) | (refine h.drew.newB (NewC.run _) rfl ?_; intro bn w h))))
        refine (h.rd (k := 1) (i := 2) ⟨_, rfl, rfl⟩).idxK k rfl (by omega) ?_
        intro b1 o1 hb1
        refine (h.rd (k := 1) (i := 2) ⟨_, rfl, rfl⟩).el hb1 (k * 3 + 1) (by simp only [add_lit', Nat.add_assoc]) (kd := .int .i64) (x := (r.log[k].n : Int)) (by rw [rws_get _ k 1 hc (by decide)]; rfl) ?_
        rw [SplitB_iff]
        refine ⟨fun hd => ?_, fun hd => ?_⟩
        · have hd : j < r.log[k].n := by have := of_decide_eq_true hd; omega
          repeat (first | (with_reducible refine NilP.mk ?_) | ((with_reducible refine RunN.isLoad ?_); (first | refine h.loadB 0 0 ⟨_, rfl, rfl⟩ rfl rfl ?_ | refine h.loadB 1 0 ⟨_, rfl, rfl⟩ rfl rfl ?_ | refine h.drew.loadB 0 0 ⟨_, rfl, rfl⟩ rfl rfl ?_ | refine h.drew.loadB 1 0 ⟨_, rfl, rfl⟩ rfl rfl ?_)) | ((with_reducible refine ReadN.isLoad ?_); (first | refine h.readB 0 0 ⟨_, rfl, rfl⟩ rfl rfl ?_ | refine h.readB 1 0 ⟨_, rfl, rfl⟩ rfl rfl ?_ | refine h.drew.readB 0 0 ⟨_, rfl, rfl⟩ rfl rfl ?_ | refine h.drew.readB 1 0 ⟨_, rfl, rfl⟩ rfl rfl ?_)) | ((with_reducible refine StillV.isLoad ?_); (first | refine ⟨h.stillB 0 0 ⟨_, rfl, rfl⟩ rfl rfl, ?_⟩ | refine ⟨h.stillB 1 0 ⟨_, rfl, rfl⟩ rfl rfl, ?_⟩)) | ((with_reducible refine RunU.isStor ?_); (first | (refine h.storB 0 0 ⟨_, rfl, rfl⟩ rfl rfl rfl ?_; intro w h; dsimp only [updG, setO] at h) | (refine h.storB 1 0 ⟨_, rfl, rfl⟩ rfl rfl rfl ?_; intro w h; dsimp only [updG, setO] at h) | (refine h.drew.storB 0 0 ⟨_, rfl, rfl⟩ rfl rfl rfl ?_; intro w h; dsimp only [updG, setO] at h) | (refine h.drew.storB 1 0 ⟨_, rfl, rfl⟩ rfl rfl rfl ?_; intro w h; dsimp only [updG, setO] at h))) | ((with_reducible refine RunN.isBox ?_); (first | (refine h.newB run_boxA rfl ?_; intro bn w h; try dsimp only at h) | (refine h.drew.newB run_boxA rfl ?_; intro bn w h; try dsimp only at h))) | ((with_reducible refine RunN.isNew ?_); (first | (refine h.newB (NewC.run _) rfl ?_; intro bn w h) | (refine h.drew.newB (NewC.run _) rfl ?_; intro bn w h))))
          refine (h.rd (k := 1) (i := 2) ⟨_, rfl, rfl⟩).idxK k rfl (by omega) ?_
          intro b2 o2 hb2
          refine (h.rd (k := 1) (i := 2) ⟨_, rfl, rfl⟩).el hb2 (k * 3 + 2) (by simp only [add_lit', Nat.add_assoc]) (kd := .sl) (x := r.log[k].d) (by rw [rws_get _ k 2 hc (by decide)]; rfl) ?_
          have hrr := h.rd (k := 1) (i := k + 3) (E := 5) (s := r.log[k].d) (vs := bys r.log[k].m) (sz := 1) ⟨_, rfl, by
            show nthO (r.log.map rrow) k = _
            rw [nthO_map rrow _ hc]; rfl⟩
          have hrl := hrr.bys_len
          refine hrr.idxK j rfl (by omega) ?_
          intro b3 o3 hb3
          refine hrr.el hb3 (j * 1) rfl (kd := .int .u8) (x := ((r.log[k].m[j]'(by omega)).toNat : Int)) (by rw [Nat.mul_one]; exact bys_get (by omega)) ?_
          refine (h.rd (k := 0) (i := 0) ⟨_, rfl, rfl⟩).idxK j rfl (by omega) ?_
          intro b4 o4 hb4
          refine h.storR 0 0 ⟨_, rfl, rfl⟩ hb4 j (by rw [Nat.mul_one]) (by rw [bys_length, List.length_append, List.length_take, List.length_drop]; omega) rfl ?_
          intro w h
          rw [show (Value.int .u8 ((r.log[k].m[j]'(by omega)).toNat : Int)) = u8v (r.log[k].m[j]'(by omega)) from rfl, Go.Fw.bys_set, take_set (by omega) (by omega)] at h
          exact hK2 _ _ ⟨j + 1, by omega, by dsimp only; rw [wr (by omega)]; omega, h⟩ (by dsimp only; rw [wr (by omega)]; omega)
        · have hd : j = r.log[k].n := by have := of_decide_eq_false hd; omega
          subst hd
          refine hk7 _ _ ?_
          have e3 := lay_same (I := r.imk k) (o := r.log[k]) (by omega)
          rw [hs] at e3
          rw [imk_succ r hc, e3]
          exact h
      · have hs : i ≠ r.log[k].sec := by intro e; rw [← e] at hs; simp at hs
        refine hk7 _ _ ?_
        rw [imk_succ r hc, lay_other hs]
        exact h
  · have hc : k = r.log.length := by have := of_decide_eq_false hc; omega
    subst hc
    rw [imk_all] at h
    exact ⟨hql, h⟩
theorem rread_st (h : St w0 w (rg r :: F)) (ok : ROk r) (hlen : r.log.length ≤ 1048576) (n : Int) : CallK Try.prog (.tup (.cons .sl (.cons (.int .i64) .nilT))) 52 #[.pointer r.p, .int .i64 n] w fun (q : Sl × Int × Unit) w' =>
    q.2.1 = r.reach n ∧ St w0 w' ([.row 5 1 q.1 (bys (if r.reach n = 0 then r.ims.getD n.toNat [] else []))] :: rg r :: F) := by
  refine T52.calls ?_
  unfold T52
  repeat (first | (with_reducible refine NilP.mk ?_) | ((with_reducible refine RunN.isLoad ?_); (first | refine h.loadB 0 0 ⟨_, rfl, rfl⟩ rfl rfl ?_ | refine h.drew.loadB 0 0 ⟨_, rfl, rfl⟩ rfl rfl ?_)) | ((with_reducible refine ReadN.isLoad ?_); (first | refine h.readB 0 0 ⟨_, rfl, rfl⟩ rfl rfl ?_ | refine h.drew.readB 0 0 ⟨_, rfl, rfl⟩ rfl rfl ?_)) | ((with_reducible refine StillV.isLoad ?_); (first | refine ⟨h.stillB 0 0 ⟨_, rfl, rfl⟩ rfl rfl, ?_⟩)) | ((with_reducible refine RunU.isStor ?_); (first | (refine h.storB 0 0 ⟨_, rfl, rfl⟩ rfl rfl rfl ?_; intro w h; dsimp only [updG, setO] at h) | (refine h.drew.storB 0 0 ⟨_, rfl, rfl⟩ rfl rfl rfl ?_; intro w h; dsimp only [updG, setO] at h))) | ((with_reducible refine RunN.isBox ?_); (first | (refine h.newB run_boxA rfl ?_; intro bn w h; try dsimp only at h) | (refine h.drew.newB run_boxA rfl ?_; intro bn w h; try dsimp only at h))) | ((with_reducible refine RunN.isNew ?_); (first | (refine h.newB (NewC.run _) rfl ?_; intro bn w h) | (refine h.drew.newB (NewC.run _) rfl ?_; intro bn w h))))
  rw [SplitB_iff]
  refine ⟨fun hz => ?_, fun hz => ?_⟩
  · have hz : r.on = false := by simpa using hz
    have e : r.reach n = 200 := by simp [R.reach, hz]
    rw [e]
    exact ⟨rfl, h.nilrow 5 1⟩
  have hon : r.on = true := by simpa using hz
  refine JoinX.mk (fun j w' => j.1 = decide (¬ (0 ≤ n ∧ n < r.N)) ∧ St w0 w' (rg r :: F)) ?_ ?_
  rotate_left
  · intro k hk
    rw [SplitB_iff]
    refine ⟨fun hy => ?_, fun hy => ?_⟩
    · have hy := of_decide_eq_true hy
      exact hk _ _ ⟨(decide_eq_true (by omega)).symm, h⟩
    · have hy := of_decide_eq_false hy
      repeat (first | (with_reducible refine NilP.mk ?_) | ((with_reducible refine RunN.isLoad ?_); (first | refine h.loadB 0 0 ⟨_, rfl, rfl⟩ rfl rfl ?_ | refine h.drew.loadB 0 0 ⟨_, rfl, rfl⟩ rfl rfl ?_)) | ((with_reducible refine ReadN.isLoad ?_); (first | refine h.readB 0 0 ⟨_, rfl, rfl⟩ rfl rfl ?_ | refine h.drew.readB 0 0 ⟨_, rfl, rfl⟩ rfl rfl ?_)) | ((with_reducible refine StillV.isLoad ?_); (first | refine ⟨h.stillB 0 0 ⟨_, rfl, rfl⟩ rfl rfl, ?_⟩)) | ((with_reducible refine RunU.isStor ?_); (first | (refine h.storB 0 0 ⟨_, rfl, rfl⟩ rfl rfl rfl ?_; intro w h; dsimp only [updG, setO] at h) | (refine h.drew.storB 0 0 ⟨_, rfl, rfl⟩ rfl rfl rfl ?_; intro w h; dsimp only [updG, setO] at h))) | ((with_reducible refine RunN.isBox ?_); (first | (refine h.newB run_boxA rfl ?_; intro bn w h; try dsimp only at h) | (refine h.drew.newB run_boxA rfl ?_; intro bn w h; try dsimp only at h))) | ((with_reducible refine RunN.isNew ?_); (first | (refine h.newB (NewC.run _) rfl ?_; intro bn w h) | (refine h.drew.newB (NewC.run _) rfl ?_; intro bn w h))))
      refine hk _ _ ⟨?_, h⟩
      dsimp only
      exact decide_eq_decide.2 (by omega)
  clear h
  rintro ⟨_, ⟨⟩⟩ w ⟨hj, h⟩
  dsimp only at hj h ⊢
  subst hj
  rw [SplitB_iff]
  refine ⟨fun hy => ?_, fun hy => ?_⟩
  · have hy := of_decide_eq_true hy
    have e : r.reach n = 201 := by simp [R.reach, hon, hy]
    rw [e]
    exact ⟨rfl, h.nilrow 5 1⟩
  have hy := of_decide_eq_false hy
  have hy : 0 ≤ n ∧ n < r.N := by simpa using hy
  have e0 : r.reach n = 0 := by simp [R.reach, hon, hy]
  obtain ⟨m, rfl⟩ : ∃ m : Nat, n = (m : Int) := ⟨n.toNat, by omega⟩
  rw [e0, Int.toNat_natCast]
  refine (rbytes_st h ok hlen (i := m) (by omega)).mono ?_
  rintro q w ⟨hq, h⟩
  exact ⟨rfl, h⟩
/-- The last of the places that were written. -/
def R.trace (r : R) : List Int := (r.log.drop (r.log.length - 64)).map fun o => (o.sec : Int)
theorem rtrace_st (h : St w0 w (rg r :: F)) (hlen : r.log.length ≤ 1048576) : CallK Try.prog .sl 60 #[.pointer r.p] w fun (q : Sl) w' => St w0 w' ([.row 3 1 q (lin r.trace)] :: rg r :: F) := by
  have hll := rg_log h
  refine T60.calls ?_
  unfold T60
  repeat (first | (with_reducible refine NilP.mk ?_) | ((with_reducible refine RunN.isLoad ?_); (first | refine h.loadB 0 0 ⟨_, rfl, rfl⟩ rfl rfl ?_ | refine h.drew.loadB 0 0 ⟨_, rfl, rfl⟩ rfl rfl ?_)) | ((with_reducible refine ReadN.isLoad ?_); (first | refine h.readB 0 0 ⟨_, rfl, rfl⟩ rfl rfl ?_ | refine h.drew.readB 0 0 ⟨_, rfl, rfl⟩ rfl rfl ?_)) | ((with_reducible refine StillV.isLoad ?_); (first | refine ⟨h.stillB 0 0 ⟨_, rfl, rfl⟩ rfl rfl, ?_⟩)) | ((with_reducible refine RunU.isStor ?_); (first | (refine h.storB 0 0 ⟨_, rfl, rfl⟩ rfl rfl rfl ?_; intro w h; dsimp only [updG, setO] at h) | (refine h.drew.storB 0 0 ⟨_, rfl, rfl⟩ rfl rfl rfl ?_; intro w h; dsimp only [updG, setO] at h))) | ((with_reducible refine RunN.isBox ?_); (first | (refine h.newB run_boxA rfl ?_; intro bn w h; try dsimp only at h) | (refine h.drew.newB run_boxA rfl ?_; intro bn w h; try dsimp only at h))) | ((with_reducible refine RunN.isNew ?_); (first | (refine h.newB (NewC.run _) rfl ?_; intro bn w h) | (refine h.drew.newB (NewC.run _) rfl ?_; intro bn w h))))
  rw [wr (x := (r.ls.len : Int) - 64) (by omega)]
  refine RunN.of (kd := .int .i64) (max_i _ _ _) ?_
  have e0 : max (0 : Int) ((r.ls.len : Int) - 64) = ((r.log.length - 64 : Nat) : Int) := by omega
  rw [e0]
  have h := h.nilrow 3 1
  have htl : r.trace.length = r.log.length - (r.log.length - 64) := by simp [R.trace]
  refine LoopX.mk (fun st w' => ∃ k : Nat, k ≤ r.trace.length ∧ st.2.1 = ((r.log.length - 64 + k : Nat) : Int) ∧ st.1.len = k ∧ St w0 w' ([.row 3 1 st.1 (lin (r.trace.take k))] :: rg r :: F)) (fun st => r.log.length - st.2.1.toNat) ⟨0, by omega, rfl, rfl, by simpa [lin] using h⟩ ?_
  clear h
  rintro ⟨q, _, ⟨⟩⟩ w ⟨k, hk, rfl, hq, h⟩ K hK
  dsimp only at h hK hq ⊢
  repeat (first | (with_reducible refine NilP.mk ?_) | ((with_reducible refine RunN.isLoad ?_); (first | refine h.loadB 0 0 ⟨_, rfl, rfl⟩ rfl rfl ?_ | refine h.loadB 1 0 ⟨_, rfl, rfl⟩ rfl rfl ?_ | refine h.drew.loadB 0 0 ⟨_, rfl, rfl⟩ rfl rfl ?_ | refine h.drew.loadB 1 0 ⟨_, rfl, rfl⟩ rfl rfl ?_)) | ((with_reducible refine ReadN.isLoad ?_); (first | refine h.readB 0 0 ⟨_, rfl, rfl⟩ rfl rfl ?_ | refine h.readB 1 0 ⟨_, rfl, rfl⟩ rfl rfl ?_ | refine h.drew.readB 0 0 ⟨_, rfl, rfl⟩ rfl rfl ?_ | refine h.drew.readB 1 0 ⟨_, rfl, rfl⟩ rfl rfl ?_)) | ((with_reducible refine StillV.isLoad ?_); (first | refine ⟨h.stillB 0 0 ⟨_, rfl, rfl⟩ rfl rfl, ?_⟩ | refine ⟨h.stillB 1 0 ⟨_, rfl, rfl⟩ rfl rfl, ?_⟩)) | ((with_reducible refine RunU.isStor ?_); (first | (refine h.storB 0 0 ⟨_, rfl, rfl⟩ rfl rfl rfl ?_; intro w h; dsimp only [updG, setO] at h) | (refine h.storB 1 0 ⟨_, rfl, rfl⟩ rfl rfl rfl ?_; intro w h; dsimp only [updG, setO] at h) | (refine h.drew.storB 0 0 ⟨_, rfl, rfl⟩ rfl rfl rfl ?_; intro w h; dsimp only [updG, setO] at h) | (refine h.drew.storB 1 0 ⟨_, rfl, rfl⟩ rfl rfl rfl ?_; intro w h; dsimp only [updG, setO] at h))) | ((with_reducible refine RunN.isBox ?_); (first | (refine h.newB run_boxA rfl ?_; intro bn w h; try dsimp only at h) | (refine h.drew.newB run_boxA rfl ?_; intro bn w h; try dsimp only at h))) | ((with_reducible refine RunN.isNew ?_); (first | (refine h.newB (NewC.run _) rfl ?_; intro bn w h) | (refine h.drew.newB (NewC.run _) rfl ?_; intro bn w h))))
  rw [SplitB_iff]
  refine ⟨fun hc => ?_, fun hc => ?_⟩
  · have hc : r.log.length - 64 + k < r.log.length := by have := of_decide_eq_true hc; omega
    repeat (first | (with_reducible refine NilP.mk ?_) | ((with_reducible refine RunN.isLoad ?_); (first | refine h.loadB 0 0 ⟨_, rfl, rfl⟩ rfl rfl ?_ | refine h.loadB 1 0 ⟨_, rfl, rfl⟩ rfl rfl ?_ | refine h.drew.loadB 0 0 ⟨_, rfl, rfl⟩ rfl rfl ?_ | refine h.drew.loadB 1 0 ⟨_, rfl, rfl⟩ rfl rfl ?_)) | ((with_reducible refine ReadN.isLoad ?_); (first | refine h.readB 0 0 ⟨_, rfl, rfl⟩ rfl rfl ?_ | refine h.readB 1 0 ⟨_, rfl, rfl⟩ rfl rfl ?_ | refine h.drew.readB 0 0 ⟨_, rfl, rfl⟩ rfl rfl ?_ | refine h.drew.readB 1 0 ⟨_, rfl, rfl⟩ rfl rfl ?_)) | ((with_reducible refine StillV.isLoad ?_); (first | refine ⟨h.stillB 0 0 ⟨_, rfl, rfl⟩ rfl rfl, ?_⟩ | refine ⟨h.stillB 1 0 ⟨_, rfl, rfl⟩ rfl rfl, ?_⟩)) | ((with_reducible refine RunU.isStor ?_); (first | (refine h.storB 0 0 ⟨_, rfl, rfl⟩ rfl rfl rfl ?_; intro w h; dsimp only [updG, setO] at h) | (refine h.storB 1 0 ⟨_, rfl, rfl⟩ rfl rfl rfl ?_; intro w h; dsimp only [updG, setO] at h) | (refine h.drew.storB 0 0 ⟨_, rfl, rfl⟩ rfl rfl rfl ?_; intro w h; dsimp only [updG, setO] at h) | (refine h.drew.storB 1 0 ⟨_, rfl, rfl⟩ rfl rfl rfl ?_; intro w h; dsimp only [updG, setO] at h))) | ((with_reducible refine RunN.isBox ?_); (first | (refine h.newB run_boxA rfl ?_; intro bn w h; try dsimp only at h) | (refine h.drew.newB run_boxA rfl ?_; intro bn w h; try dsimp only at h))) | ((with_reducible refine RunN.isNew ?_); (first | (refine h.newB (NewC.run _) rfl ?_; intro bn w h) | (refine h.drew.newB (NewC.run _) rfl ?_; intro bn w h))))
    refine (h.rd (k := 1) (i := 2) ⟨_, rfl, rfl⟩).idxK (r.log.length - 64 + k) rfl (by omega) ?_
    intro b o hb
    refine (h.rd (k := 1) (i := 2) ⟨_, rfl, rfl⟩).el hb ((r.log.length - 64 + k) * 3 + 0) (by simp only [add_lit', Nat.add_assoc]) (kd := .int .i64) (x := (r.log[r.log.length - 64 + k].sec : Int)) (by rw [rws_get _ _ 0 hc (by decide)]; rfl) ?_
    refine h.newS 1 (bs44 _ _) rfl rfl rfl ?_
    intro u w hl hcp _ h
    refine h.app 1 0 ⟨_, rfl, rfl⟩ (h.rd (k := 0) (i := 0) ⟨_, rfl, rfl⟩) one_int (by simp only [maxLen]; omega) (by omega) ?_
    intro d' w hl' h
    dsimp only [updG, setO] at h
    refine hK _ _ ⟨k + 1, by omega, by dsimp only; rw [wr (by omega)]; omega, by dsimp only; omega, ?_⟩ (by dsimp only; rw [wr (by omega)]; omega)
    have e : lin (r.trace.take k) ++ [Value.int .i64 (r.log[r.log.length - 64 + k].sec : Int)] = lin (r.trace.take (k + 1)) := by
      rw [List.take_succ_eq_append_getElem (by omega), lin_snoc]
      congr 3
      simp only [R.trace, List.getElem_map, List.getElem_drop]
    rw [e] at h
    exact h.drop 0
  · have hc := of_decide_eq_false hc
    rw [List.take_of_length_le (by omega)] at h
    exact h
end Go.Proofs.Ytpdaoahamgegoaa
