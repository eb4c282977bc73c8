/- The disk: reading, its image, arming it, its trace. -/
import Derived.Test.YtimebochhbfkgaaJkC
namespace Go.Proofs.Ytimebochhbfkgaa
open Go Go.Fw Go.RowKit
set_option linter.unusedVariables false
set_option linter.unusedSimpArgs false
set_option maxRecDepth 4000
set_option maxHeartbeats 2000000
variable {w0 w : World} {F G : Grps} {d : D}

theorem bytes_st (h : St w0 w (dg d :: F)) (ok : DOk d) {n : Nat} (hn : n < d.secs.length) : CallK Try.prog .sl 46 #[.pointer d.p, .int .i64 (n : Int)] w fun (r : Sl) w' =>
    r.len = 512 ∧ ∃ X, St w0 w' (X :: dg d :: F) ∧ Rd w' r 1 (bys (cont d.secs[n])) := by
  have hl := dg_len h
  refine T46.calls ?_
  unfold T46
  repeat (first | (with_reducible refine NilP.mk ?_) | ((with_reducible refine RunN.isLoad ?_); (first | refine h.loadB 0 0 ⟨_, rfl, rfl⟩ rfl rfl ?_ | refine h.drew.loadB 0 0 ⟨_, rfl, rfl⟩ rfl rfl ?_)) | ((with_reducible refine ReadN.isLoad ?_); (first | refine h.readB 0 0 ⟨_, rfl, rfl⟩ rfl rfl ?_ | refine h.drew.readB 0 0 ⟨_, rfl, rfl⟩ rfl rfl ?_)) | ((with_reducible refine StillV.isLoad ?_); (first | refine ⟨h.stillB 0 0 ⟨_, rfl, rfl⟩ rfl rfl, ?_⟩)) | ((with_reducible refine RunU.isStor ?_); (first | (refine h.storB 0 0 ⟨_, rfl, rfl⟩ rfl rfl rfl ?_; intro w h; dsimp only [updG, setO] at h) | (refine h.drew.storB 0 0 ⟨_, rfl, rfl⟩ rfl rfl rfl ?_; intro w h; dsimp only [updG, setO] at h))) | ((with_reducible refine RunN.isBox ?_); (first | (refine h.newB run_boxA rfl ?_; intro bn w h; try dsimp only at h) | (refine h.drew.newB run_boxA rfl ?_; intro bn w h; try dsimp only at h))) | ((with_reducible refine RunN.isNew ?_); (first | (refine h.newB (NewC.run _) rfl ?_; intro bn w h) | (refine h.drew.newB (NewC.run _) rfl ?_; intro bn w h))))
  refine (h.rd (k := 0) (i := 1) ⟨_, rfl, rfl⟩).idxK n rfl (by omega) ?_
  intro b o hb
  refine (h.rd (k := 0) (i := 1) ⟨_, rfl, rfl⟩).el hb (n * 1) rfl (kd := .ptr) (x := secp d.secs[n]) (sec_at hn) ?_
  cases hs : d.secs[n] with
  | none =>
    dsimp only [secp]
    refine RunN.pNeN ?_
    rw [SplitB_iff]
    refine ⟨(fun hz => by cases hz), fun _ => ?_⟩
    refine h.makeN (.int .u8 0) (by kernel_rfl) rfl 512 rfl rfl (by decide) (by decide) ?_
    intro s w hl hc h
    have e : List.replicate 512 (Value.int .u8 0) = bys (List.replicate 512 0) := by rw [bys, List.map_replicate]; rfl
    rw [e] at h
    exact ⟨hl, _, h, h.rd (k := 0) (i := 0) ⟨_, rfl, rfl⟩⟩
  | some x =>
    dsimp only [secp]
    refine RunN.pNeS ?_
    rw [SplitB_iff]
    refine ⟨fun _ => ?_, (fun hz => by cases hz)⟩
    refine NilP.mk ?_
    refine RunN.arrS rfl ?_
    refine ⟨rfl, [], St.empty.2 h, ?_⟩
    refine h.rd (k := 0) (i := n + 2) (E := 102) ⟨_, rfl, ?_⟩
    show nthO (d.secs.map sece) n = _
    rw [nthO_map sece d.secs hn, hs]; rfl
theorem read_st (h : St w0 w (dg d :: F)) (ok : DOk d) {n : Nat} (hn : n < d.secs.length) (ho : d.off = false) : CallK Try.prog (.tup (.cons .sl (.cons (.int .i64) .nilT))) 42 #[.pointer d.p, .int .i64 (n : Int)] w fun (r : Sl × Int × Unit) w' =>
    r.2.1 = 0 ∧ r.1.len = 512 ∧ St w0 w' ([.row 5 1 r.1 (bys (cont d.secs[n]))] :: dg d :: F) := by
  have hcl := cont_len ok hn
  refine T42.calls ?_
  unfold T42
  refine (reach_st h n).mono ?_
  rintro r w ⟨rfl, h⟩
  have e : d.abs.reach n = 0 := by simp [A.reach, D.abs, ho, hn]
  rw [e, SplitB_iff]
  refine ⟨(fun hz => by simp at hz), fun _ => ?_⟩
  refine h.makeN (.int .u8 0) (by kernel_rfl) rfl 512 rfl rfl (by decide) (by decide) ?_
  intro s w hl hc h
  have e : List.replicate 512 (Value.int .u8 0) = bys (List.replicate 512 0) := by rw [bys, List.map_replicate]; rfl
  rw [e] at h
  have h := h.bring 1 rfl
  dsimp only [delO] at h
  refine (bytes_st h ok hn).mono ?_
  rintro r w ⟨hrl, X, h, hr⟩
  refine h.copy 2 0 ⟨_, rfl, rfl⟩ (dl := s.len) 0 (fun b o hb _ => by rw [Nat.zero_mul, Nat.add_zero]; exact hb) (by omega) hr (bys_one _) ?_
  intro w h
  have hm : Nat.min r.len s.len = 512 := by rw [hrl, hl]; rfl
  rw [hm] at h
  have e2 : (bys (List.replicate 512 0)).take (0 * 1) ++ (bys (cont d.secs[n])).take (512 * 1) ++ (bys (List.replicate 512 0)).drop ((0 + 512) * 1) = bys (cont d.secs[n]) := by
    rw [Nat.zero_mul, List.take_zero, List.nil_append, List.take_of_length_le (by rw [bys_length, hcl]; omega), List.drop_of_length_le (by simp), List.append_nil]
  rw [e2] at h
  dsimp only [updG, setO] at h
  have h := h.drop 0
  dsimp only [delO] at h
  have h := h.bring 1 rfl
  exact ⟨rfl, hl, h⟩
theorem read_off (h : St w0 w (dg d :: F)) (n : Int) (ho : d.off = true) : CallK Try.prog (.tup (.cons .sl (.cons (.int .i64) .nilT))) 42 #[.pointer d.p, .int .i64 n] w fun (r : Sl × Int × Unit) w' =>
    r.2.1 = 200 ∧ St w0 w' (dg d :: F) := by
  refine T42.calls ?_
  unfold T42
  refine (reach_st h n).mono ?_
  rintro r w ⟨rfl, h⟩
  have e : d.abs.reach n = 200 := by simp [A.reach, D.abs, ho]
  rw [e, SplitB_iff]
  exact ⟨fun _ => ⟨rfl, h⟩, fun hz => by simp at hz⟩
theorem len_flat {l : List (List UInt8)} (h : ∀ x ∈ l, x.length = 512) : l.flatten.length = 512 * l.length := by
  induction l with
  | nil => rfl
  | cons x r ih => rw [List.flatten_cons, List.length_append, h x (List.mem_cons_self ..), ih fun y hy => h y (List.mem_cons_of_mem _ hy)]; simp; omega
theorem ims_len (ok : DOk d) : ∀ x ∈ d.abs.ims, x.length = 512 := by
  intro x hx
  simp only [D.abs, List.mem_map] at hx
  obtain ⟨o, ho, rfl⟩ := hx
  cases o with
  | none => simp [cont]
  | some y => exact ok.full y ho
theorem image_st (h : St w0 w (dg d :: F)) (ok : DOk d) : CallK Try.prog .sl 29 #[.pointer d.p] w fun (r : Sl) w' => St w0 w' ([.row 5 1 r (bys d.abs.ims.flatten)] :: dg d :: F) := by
  have hl := dg_len h
  have hsm := ok.small
  have hil : d.abs.ims.length = d.secs.length := by simp [D.abs]
  refine T29.calls ?_
  unfold T29
  repeat (first | (with_reducible refine NilP.mk ?_) | ((with_reducible refine RunN.isLoad ?_); (first | refine h.loadB 0 0 ⟨_, rfl, rfl⟩ rfl rfl ?_ | refine h.drew.loadB 0 0 ⟨_, rfl, rfl⟩ rfl rfl ?_)) | ((with_reducible refine ReadN.isLoad ?_); (first | refine h.readB 0 0 ⟨_, rfl, rfl⟩ rfl rfl ?_ | refine h.drew.readB 0 0 ⟨_, rfl, rfl⟩ rfl rfl ?_)) | ((with_reducible refine StillV.isLoad ?_); (first | refine ⟨h.stillB 0 0 ⟨_, rfl, rfl⟩ rfl rfl, ?_⟩)) | ((with_reducible refine RunU.isStor ?_); (first | (refine h.storB 0 0 ⟨_, rfl, rfl⟩ rfl rfl rfl ?_; intro w h; dsimp only [updG, setO] at h) | (refine h.drew.storB 0 0 ⟨_, rfl, rfl⟩ rfl rfl rfl ?_; intro w h; dsimp only [updG, setO] at h))) | ((with_reducible refine RunN.isBox ?_); (first | (refine h.newB run_boxA rfl ?_; intro bn w h; try dsimp only at h) | (refine h.drew.newB run_boxA rfl ?_; intro bn w h; try dsimp only at h))) | ((with_reducible refine RunN.isNew ?_); (first | (refine h.newB (NewC.run _) rfl ?_; intro bn w h) | (refine h.drew.newB (NewC.run _) rfl ?_; intro bn w h))))
  rw [wr (x := (d.s.len : Int) * 512) (by omega)]
  refine h.make0 (by omega) (by omega) (by omega) ?_
  intro s w hs0 hc _ h
  repeat (first | (with_reducible refine NilP.mk ?_) | ((with_reducible refine RunN.isLoad ?_); (first | refine h.loadB 0 0 ⟨_, rfl, rfl⟩ rfl rfl ?_ | refine h.loadB 1 0 ⟨_, rfl, rfl⟩ rfl rfl ?_ | refine h.drew.loadB 0 0 ⟨_, rfl, rfl⟩ rfl rfl ?_ | refine h.drew.loadB 1 0 ⟨_, rfl, rfl⟩ rfl rfl ?_)) | ((with_reducible refine ReadN.isLoad ?_); (first | refine h.readB 0 0 ⟨_, rfl, rfl⟩ rfl rfl ?_ | refine h.readB 1 0 ⟨_, rfl, rfl⟩ rfl rfl ?_ | refine h.drew.readB 0 0 ⟨_, rfl, rfl⟩ rfl rfl ?_ | refine h.drew.readB 1 0 ⟨_, rfl, rfl⟩ rfl rfl ?_)) | ((with_reducible refine StillV.isLoad ?_); (first | refine ⟨h.stillB 0 0 ⟨_, rfl, rfl⟩ rfl rfl, ?_⟩ | refine ⟨h.stillB 1 0 ⟨_, rfl, rfl⟩ rfl rfl, ?_⟩)) | ((with_reducible refine RunU.isStor ?_); (first | (refine h.storB 0 0 ⟨_, rfl, rfl⟩ rfl rfl rfl ?_; intro w h; dsimp only [updG, setO] at h) | (refine h.storB 1 0 ⟨_, rfl, rfl⟩ rfl rfl rfl ?_; intro w h; dsimp only [updG, setO] at h) | (refine h.drew.storB 0 0 ⟨_, rfl, rfl⟩ rfl rfl rfl ?_; intro w h; dsimp only [updG, setO] at h) | (refine h.drew.storB 1 0 ⟨_, rfl, rfl⟩ rfl rfl rfl ?_; intro w h; dsimp only [updG, setO] at h))) | ((with_reducible refine RunN.isBox ?_); (first | (refine h.newB run_boxA rfl ?_; intro bn w h; try dsimp only at h) | (refine h.drew.newB run_boxA rfl ?_; intro bn w h; try dsimp only at h))) | ((with_reducible refine RunN.isNew ?_); (first | (refine h.newB (NewC.run _) rfl ?_; intro bn w h) | (refine h.drew.newB (NewC.run _) rfl ?_; intro bn w h))))
  refine LoopX.mk (fun st w' => ∃ k : Nat, k ≤ d.secs.length ∧ st.2.1 = (k : Int) ∧ st.1.len = 512 * k ∧ St w0 w' ([.row 5 1 st.1 (bys (d.abs.ims.take k).flatten)] :: dg d :: F)) (fun st => d.secs.length - st.2.1.toNat) ⟨0, by omega, rfl, by dsimp only; omega, by simpa [bys] using h⟩ ?_
  clear h
  rintro ⟨q, _, ⟨⟩⟩ w ⟨k, hk, rfl, hq, h⟩ K hK
  dsimp only at h hK hq ⊢
  rw [SplitB_iff]
  refine ⟨fun hc => ?_, fun hc => ?_⟩
  · have hc : k < d.secs.length := by have := of_decide_eq_true hc; omega
    have h := h.bring 1 rfl
    dsimp only [delO] at h
    refine (bytes_st h ok hc).mono ?_
    rintro r w ⟨hrl, X, h, hr⟩
    refine h.app 2 0 ⟨_, rfl, rfl⟩ hr (bys_one _) (by simp only [maxLen]; omega) (by omega) ?_
    intro s' w hs' h
    dsimp only [updG, setO] at h
    have h := (h.drop 0).bring 1 rfl
    dsimp only [delO] at h
    refine hK _ _ ⟨k + 1, by omega, by dsimp only; rw [wr (by omega)]; omega, by dsimp only; omega, ?_⟩ (by dsimp only; rw [wr (by omega)]; omega)
    have e : bys (d.abs.ims.take k).flatten ++ bys (cont d.secs[k]) = bys (d.abs.ims.take (k + 1)).flatten := by
      rw [← bys_append, List.take_succ_eq_append_getElem (by omega)]
      simp [D.abs]
    rw [e] at h
    exact h
  · have hc : k = d.secs.length := by have := of_decide_eq_false hc; omega
    rw [List.take_of_length_le (by omega)] at h
    exact h
theorem max_i (w : World) (a b : Int) : (Builtin.max_ #[3, 3] 3 #[.int .i64 a, .int .i64 b]).run Try.prog w = .ok (.int .i64 (max a b)) w := by
  rw [run_max_int2]
  congr 2
  omega
theorem min_i (w : World) (a b : Int) : (Builtin.min_ #[3, 3] 3 #[.int .i64 a, .int .i64 b]).run Try.prog w = .ok (.int .i64 (min a b)) w := by
  rw [run_min_int2]
  congr 2
  omega
def A.arm (a : A) (k j : Int) : A := if a.off then a else { a with armed := decide (k ≥ 0), after := k, torn := min (max j 0) 512 }
theorem arm_st (h : St w0 w (dg d :: F)) (ok : DOk d) (k j : Int) (hk : k ≤ 9223372036854775807) : CallK Try.prog (.tup .nilT) 23 #[.pointer d.p, .int .i64 k, .int .i64 j] w fun _ w' =>
    ∃ d', d'.b = d.b ∧ d'.abs = d.abs.arm k j ∧ DOk d' ∧ St w0 w' (dg d' :: F) := by
  refine T23.calls ?_
  unfold T23
  repeat (first | (with_reducible refine NilP.mk ?_) | ((with_reducible refine RunN.isLoad ?_); (first | refine h.loadB 0 0 ⟨_, rfl, rfl⟩ rfl rfl ?_ | refine h.drew.loadB 0 0 ⟨_, rfl, rfl⟩ rfl rfl ?_)) | ((with_reducible refine ReadN.isLoad ?_); (first | refine h.readB 0 0 ⟨_, rfl, rfl⟩ rfl rfl ?_ | refine h.drew.readB 0 0 ⟨_, rfl, rfl⟩ rfl rfl ?_)) | ((with_reducible refine StillV.isLoad ?_); (first | refine ⟨h.stillB 0 0 ⟨_, rfl, rfl⟩ rfl rfl, ?_⟩)) | ((with_reducible refine RunU.isStor ?_); (first | (refine h.storB 0 0 ⟨_, rfl, rfl⟩ rfl rfl rfl ?_; intro w h; dsimp only [updG, setO] at h) | (refine h.drew.storB 0 0 ⟨_, rfl, rfl⟩ rfl rfl rfl ?_; intro w h; dsimp only [updG, setO] at h))) | ((with_reducible refine RunN.isBox ?_); (first | (refine h.newB run_boxA rfl ?_; intro bn w h; try dsimp only at h) | (refine h.drew.newB run_boxA rfl ?_; intro bn w h; try dsimp only at h))) | ((with_reducible refine RunN.isNew ?_); (first | (refine h.newB (NewC.run _) rfl ?_; intro bn w h) | (refine h.drew.newB (NewC.run _) rfl ?_; intro bn w h))))
  rw [SplitB_iff]
  refine ⟨fun hz => ?_, fun hz => ?_⟩
  · exact ⟨d, rfl, by simp [A.arm, D.abs, hz], ok, h⟩
  · skip
    repeat (first | (with_reducible refine NilP.mk ?_) | ((with_reducible refine RunN.isLoad ?_); (first | refine h.loadB 0 0 ⟨_, rfl, rfl⟩ rfl rfl ?_ | refine h.drew.loadB 0 0 ⟨_, rfl, rfl⟩ rfl rfl ?_)) | ((with_reducible refine ReadN.isLoad ?_); (first | refine h.readB 0 0 ⟨_, rfl, rfl⟩ rfl rfl ?_ | refine h.drew.readB 0 0 ⟨_, rfl, rfl⟩ rfl rfl ?_)) | ((with_reducible refine StillV.isLoad ?_); (first | refine ⟨h.stillB 0 0 ⟨_, rfl, rfl⟩ rfl rfl, ?_⟩)) | ((with_reducible refine RunU.isStor ?_); (first | (refine h.storB 0 0 ⟨_, rfl, rfl⟩ rfl rfl rfl ?_; intro w h; dsimp only [updG, setO] at h) | (refine h.drew.storB 0 0 ⟨_, rfl, rfl⟩ rfl rfl rfl ?_; intro w h; dsimp only [updG, setO] at h))) | ((with_reducible refine RunN.isBox ?_); (first | (refine h.newB run_boxA rfl ?_; intro bn w h; try dsimp only at h) | (refine h.drew.newB run_boxA rfl ?_; intro bn w h; try dsimp only at h))) | ((with_reducible refine RunN.isNew ?_); (first | (refine h.newB (NewC.run _) rfl ?_; intro bn w h) | (refine h.drew.newB (NewC.run _) rfl ?_; intro bn w h))))
    refine RunN.of (kd := .int .i64) (max_i _ _ _) ?_
    refine RunN.of (kd := .int .i64) (min_i _ _ _) ?_
    repeat (first | (with_reducible refine NilP.mk ?_) | ((with_reducible refine RunN.isLoad ?_); (first | refine h.loadB 0 0 ⟨_, rfl, rfl⟩ rfl rfl ?_ | refine h.drew.loadB 0 0 ⟨_, rfl, rfl⟩ rfl rfl ?_)) | ((with_reducible refine ReadN.isLoad ?_); (first | refine h.readB 0 0 ⟨_, rfl, rfl⟩ rfl rfl ?_ | refine h.drew.readB 0 0 ⟨_, rfl, rfl⟩ rfl rfl ?_)) | ((with_reducible refine StillV.isLoad ?_); (first | refine ⟨h.stillB 0 0 ⟨_, rfl, rfl⟩ rfl rfl, ?_⟩)) | ((with_reducible refine RunU.isStor ?_); (first | (refine h.storB 0 0 ⟨_, rfl, rfl⟩ rfl rfl rfl ?_; intro w h; dsimp only [updG, setO] at h) | (refine h.drew.storB 0 0 ⟨_, rfl, rfl⟩ rfl rfl rfl ?_; intro w h; dsimp only [updG, setO] at h))) | ((with_reducible refine RunN.isBox ?_); (first | (refine h.newB run_boxA rfl ?_; intro bn w h; try dsimp only at h) | (refine h.drew.newB run_boxA rfl ?_; intro bn w h; try dsimp only at h))) | ((with_reducible refine RunN.isNew ?_); (first | (refine h.newB (NewC.run _) rfl ?_; intro bn w h) | (refine h.drew.newB (NewC.run _) rfl ?_; intro bn w h))))
    refine ⟨{ d with armed := decide (k ≥ 0), after := k, torn := min (max j 0) 512 }, rfl, by simp [A.arm, D.abs, hz], ⟨ok.tr, ok.full, ok.small, ok.w0, by dsimp only; omega, fun h => ?_⟩, h⟩
    have := of_decide_eq_true h
    exact ⟨this, hk⟩
end Go.Proofs.Ytimebochhbfkgaa
