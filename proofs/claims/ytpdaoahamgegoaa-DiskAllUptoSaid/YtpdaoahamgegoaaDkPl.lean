/- Scripts; a disk of two that are played; the laws of reads, power and images. -/
import Derived.Test.YtpdaoahamgegoaaDkZd
namespace Go.Proofs.Ytpdaoahamgegoaa
open Go Go.Fw Go.RowKit
set_option linter.unusedVariables false
set_option linter.unusedSimpArgs false
set_option maxRecDepth 4000
set_option maxHeartbeats 4000000
variable {w0 w : World} {F G : Grps} {p : Q} {N : Nat} {d : D}

theorem bs51 (w : World) (a b : Sl) : (Instr.buildSlice 51 10 #[(0, .agg #[.int .i64 2, .int .i64 0, .int .i64 1, .int .i64 5, .slice none 0 0]), (1, .agg #[.int .i64 1, .int .i64 0, .int .i64 1, .int .i64 0, .slice a.a a.len a.cap]), (2, .agg #[.int .i64 1, .int .i64 0, .int .i64 1, .int .i64 0, .slice b.a b.len b.cap]), (3, .agg #[.int .i64 6, .int .i64 0, .int .i64 0, .int .i64 0, .slice none 0 0]), (4, .agg #[.int .i64 4, .int .i64 0, .int .i64 0, .int .i64 0, .slice none 0 0]), (5, .agg #[.int .i64 5, .int .i64 0, .int .i64 1, .int .i64 0, .slice none 0 0]), (6, .agg #[.int .i64 7, .int .i64 0, .int .i64 0, .int .i64 0, .slice none 0 0]), (7, .agg #[.int .i64 8, .int .i64 0, .int .i64 0, .int .i64 0, .slice none 0 0]), (8, .agg #[.int .i64 9, .int .i64 0, .int .i64 0, .int .i64 0, .slice none 0 0]), (9, .agg #[.int .i64 10, .int .i64 0, .int .i64 0, .int .i64 0, .slice none 0 0])]).run Try.prog w = .ok (.slice (some ⟨w.heap.size, 0, none⟩) 10 10) (w.alloc (.cells ⟨ovc ⟨2, 0, 1, 5, ⟨none, 0, 0⟩, []⟩ ++ ovc ⟨1, 0, 1, 0, a, []⟩ ++ ovc ⟨1, 0, 1, 0, b, []⟩ ++ ovc ⟨6, 0, 0, 0, ⟨none, 0, 0⟩, []⟩ ++ ovc ⟨4, 0, 0, 0, ⟨none, 0, 0⟩, []⟩ ++ ovc ⟨5, 0, 1, 0, ⟨none, 0, 0⟩, []⟩ ++ ovc ⟨7, 0, 0, 0, ⟨none, 0, 0⟩, []⟩ ++ ovc ⟨8, 0, 0, 0, ⟨none, 0, 0⟩, []⟩ ++ ovc ⟨9, 0, 0, 0, ⟨none, 0, 0⟩, []⟩ ++ ovc ⟨10, 0, 0, 0, ⟨none, 0, 0⟩, []⟩⟩ 59)) := by kernel_rfl
instance : Sc Try.prog 51 := ⟨by kernel_rfl⟩
instance : Ag Try.prog 59 5 := ⟨by kernel_rfl⟩
instance : Et Try.prog 51 59 5 56 := ⟨ET.of (by kernel_rfl), by decide⟩
instance : NewC Try.prog 59 [.int .i64 0, .int .i64 0, .int .i64 0, .int .i64 0, .slice none 0 0] := ⟨fun w => by kernel_rfl⟩
def ovs (os : List Ov) : List Value := os.flatMap ovc
theorem ovs_len (os : List Ov) : (ovs os).length = os.length * 5 := by
  induction os with
  | nil => rfl
  | cons x r ih => simp only [ovs, List.flatMap_cons, List.length_append, List.length_cons] at ih ⊢; rw [ih]; simp [ovc]; omega
theorem ovs_drop (os : List Ov) (n : Nat) : (ovs os).drop (n * 5) = ovs (os.drop n) := by
  induction n generalizing os with
  | zero => simp
  | succ n ih =>
    cases os with
    | nil => simp [ovs]
    | cons x r =>
      have e : (n + 1) * 5 = 5 + n * 5 := by omega
      rw [e, ← List.drop_drop]
      have : (ovs (x :: r)).drop 5 = ovs r := by simp [ovs, ovc]
      rw [this, ih]; rfl
theorem ovs_at (os : List Ov) (i : Nat) (h : i < os.length) : ((ovs os).drop (i * 5)).take 5 = ovc os[i] := by
  have e : ∀ x r, ovs (x :: r) = ovc x ++ ovs r := fun x r => by simp [ovs]
  rw [ovs_drop, List.drop_eq_getElem_cons h, e, List.take_append_of_le_length (by simp [ovc]), List.take_of_length_le (by simp [ovc])]
theorem ovs_get (os : List Ov) (i j : Nat) (h : i < os.length) (hj : j < 5) : (ovs os)[i * 5 + j]? = (ovc os[i])[j]? := by
  rw [← ovs_at os i h, List.getElem?_take, if_pos hj, List.getElem?_drop]
def big : Nat := 140737488355328
/-- A script that may be read. -/
def SeesO (w0 : World) (F : Grps) (s : Sl) (os : List Ov) : Prop := ∀ w, St w0 w F → Rd w s 5 (ovs os) ∧ ∀ o ∈ os, Rd w o.d 1 (bys o.b)
structure Fine (os : List Ov) : Prop where
  len : os.length ≤ 300
  b : ∀ o ∈ os, o.b.length ≤ 4194304
  n : ∀ o ∈ os, o.n ≤ 9223372036854775807

theorem plays_st (h : St w0 w (gs p F)) (ok : POk N p) (hN : N ≤ 100000) {s : Sl} {os : List Ov} (hs : SeesO w0 F s os) (hf : Fine os) (lo hi : Int) :
    CallK Try.prog .bool 34 #[.pointer (some ⟨p.b, 0, none⟩), .slice s.a s.len s.cap, .int .i64 lo, .int .i64 hi] w fun (r : Bool) w' => r = true ∧ ∃ p', p'.b = p.b ∧ POk (N + 2 * os.length) p' ∧ St w0 w' (gs p' F) := by
  have hl : s.len = os.length := by
    have := (hs _ (gs_F h)).1.1
    rw [ovs_len] at this; omega
  have h300 := hf.len
  refine T34.calls ?_
  unfold T34
  refine LoopX.mk (fun st w' => ∃ (k : Nat) (p' : Q), k ≤ os.length ∧ st.1 = true ∧ st.2.1 = (k : Int) ∧ p'.b = p.b ∧ POk (N + 2 * k) p' ∧ St w0 w' (gs p' F)) (fun st => os.length - st.2.1.toNat) ⟨0, p, by omega, rfl, rfl, rfl, ok, h⟩ ?_
  clear h
  rintro ⟨_, _, ⟨⟩⟩ w ⟨k, p', hk, rfl, rfl, hb, ok, h⟩ K hK
  dsimp only at h hK ⊢
  rw [← hb]
  refine JoinX.mk (fun j w' => j.1 = decide (k < os.length) ∧ St w0 w' (gs p' F)) ?_ ?_
  rotate_left
  · intro k3 hk3
    rw [SplitB_iff]
    refine ⟨fun hc => ?_, fun hc => ?_⟩
    · have hc := of_decide_eq_true hc
      exact hk3 _ _ ⟨(decide_eq_true (by omega)).symm, h⟩
    · have hc := of_decide_eq_false hc
      exact hk3 _ _ ⟨(decide_eq_false (by omega)).symm, h⟩
  clear h
  rintro ⟨_, ⟨⟩⟩ w ⟨hj, h⟩
  dsimp only at hj h ⊢
  subst hj
  rw [SplitB_iff]
  refine ⟨fun hc => ?_, fun hc => ?_⟩
  rotate_left
  · have hc : k = os.length := by have := of_decide_eq_false hc; omega
    subst hc
    exact ⟨rfl, p', rfl, ok, h⟩
  have hc := of_decide_eq_true hc
  refine JoinX.mk (fun j w' => j.1 = true ∧ ∃ p'', p''.b = p'.b ∧ POk (N + 2 * (k + 1)) p'' ∧ St w0 w' (gs p'' F)) ?_ ?_
  · rintro ⟨_, ⟨⟩⟩ w ⟨hj, p'', hb'', ok'', h⟩
    dsimp only at hj
    exact hK _ _ ⟨k + 1, p'', by omega, hj, by dsimp only; rw [wr (by omega)]; omega, hb''.trans hb, ok'', h⟩ (by dsimp only; rw [wr (by omega)]; omega)
  · intro k5 hk5
    have hsr := (hs _ (gs_F h)).1
    refine hsr.idxK k rfl (by omega) ?_
    intro b o hbb
    refine hsr.elA hbb (k * 5) rfl (os[k].k, os[k].who, os[k].n, os[k].m, os[k].d, ()) (ovs_at _ _ hc) ?_
    first | refine h.newB (NewC.run _) rfl ?_ | refine h.drew.newB (NewC.run _) rfl ?_
    intro t11 w h
    try dsimp only at h
    refine h.storA 0 0 ⟨_, rfl, rfl⟩ rfl (hk := ?_)
    intro w h
    dsimp only [updG, setO] at h
    simp only [List.take_zero, List.drop, List.nil_append, List.append_nil, Nat.zero_add] at h
    have h : St w0 w ([.cel t11 59 (ovc os[k])] :: gs p' F) := h
    have hfb := hf.b _ (List.getElem_mem hc)
    have hfn := hf.n _ (List.getElem_mem hc)
    have hse : SeesG w0 F os[k].d 1 (bys os[k].b) := fun w h => (hs w h).2 _ (List.getElem_mem hc)
    refine JoinX.mk (fun j w' => j.1 = true ∧ ∃ p'', p''.b = p'.b ∧ POk (N + 2 * (k + 1)) p'' ∧ St w0 w' (gs p'' F)) ?_ ?_
    · clear h
      rintro ⟨_, ⟨⟩⟩ w ⟨hj, p'', hb'', ok'', h⟩
      dsimp only at hj ⊢
      subst hj
      rw [SplitB_iff]
      refine ⟨fun _ => ?_, (fun hz => by cases hz)⟩
      refine NilP.mk ?_
      rw [← hb'']
      refine (stands_st h ok''.q).mono ?_
      rintro x w ⟨rfl, h⟩
      exact hk5 _ _ ⟨rfl, p'', hb'', ok'', h⟩
    · intro k7 hk7
      refine JoinX.mk (fun j w' => St w0 w' ([.cel t11 59 (ovc os[k])] :: gs p' F)) ?_ ?_
      · clear h
        rintro ⟨j, ⟨⟩⟩ w h
        dsimp only at h ⊢
        rw [SplitB_iff]
        refine ⟨fun hj => ?_, fun hj => ?_⟩
        · refine h.loadA 0 0 ⟨_, rfl, rfl⟩ rfl (os[k].k, os[k].who, os[k].n, os[k].m, os[k].d, ()) (hk := ?_)
          refine (acts_st (h.drop 0) ok (by omega) hse hfb hfn).mono ?_
          rintro x w ⟨rfl, p'', hb'', _, ok'', h⟩
          exact hk7 _ _ ⟨rfl, p'', hb'', ok''.mono (by omega), h⟩
        · refine JoinX.mk (fun j w' => St w0 w' ([.cel t11 59 (ovc os[k])] :: gs p' F)) ?_ ?_
          · clear h
            rintro ⟨j, ⟨⟩⟩ w h
            dsimp only at h ⊢
            rw [SplitB_iff]
            refine ⟨fun hj => ?_, fun hj => ?_⟩
            · refine h.loadA 0 0 ⟨_, rfl, rfl⟩ rfl (os[k].k, os[k].who, os[k].n, os[k].m, os[k].d, ()) (hk := ?_)
              refine (tells_st (h.drop 0) ok (by omega) hse hfb).mono ?_
              rintro x w ⟨rfl, p'', hb'', ok'', h⟩
              exact hk7 _ _ ⟨rfl, p'', hb'', ok''.mono (by omega), h⟩
            · exact hk7 _ _ ⟨rfl, p', rfl, ok.mono (by omega), h.drop 0⟩
          · intro k11 hk11
            repeat (first | (with_reducible refine NilP.mk ?_) | ((with_reducible refine RunN.isLoad ?_); (first | refine h.loadB 0 0 ⟨_, rfl, rfl⟩ rfl rfl ?_ | refine h.drew.loadB 0 0 ⟨_, rfl, rfl⟩ rfl rfl ?_)) | ((with_reducible refine ReadN.isLoad ?_); (first | refine h.readB 0 0 ⟨_, rfl, rfl⟩ rfl rfl ?_ | refine h.drew.readB 0 0 ⟨_, rfl, rfl⟩ rfl rfl ?_)) | ((with_reducible refine StillV.isLoad ?_); (first | refine ⟨h.stillB 0 0 ⟨_, rfl, rfl⟩ rfl rfl, ?_⟩)) | ((with_reducible refine RunU.isStor ?_); (first | (refine h.storB 0 0 ⟨_, rfl, rfl⟩ rfl rfl rfl ?_; intro w h; dsimp only [updG, setO] at h) | (refine h.drew.storB 0 0 ⟨_, rfl, rfl⟩ rfl rfl rfl ?_; intro w h; dsimp only [updG, setO] at h))) | ((with_reducible refine RunN.isBox ?_); (first | (refine h.newB run_boxA rfl ?_; intro bn w h; try dsimp only at h) | (refine h.drew.newB run_boxA rfl ?_; intro bn w h; try dsimp only at h))) | ((with_reducible refine RunN.isNew ?_); (first | (refine h.newB (NewC.run _) rfl ?_; intro bn w h) | (refine h.drew.newB (NewC.run _) rfl ?_; intro bn w h))))
            rw [SplitB_iff]
            refine ⟨fun hj => ?_, fun hj => ?_⟩
            · skip
              repeat (first | (with_reducible refine NilP.mk ?_) | ((with_reducible refine RunN.isLoad ?_); (first | refine h.loadB 0 0 ⟨_, rfl, rfl⟩ rfl rfl ?_ | refine h.drew.loadB 0 0 ⟨_, rfl, rfl⟩ rfl rfl ?_)) | ((with_reducible refine ReadN.isLoad ?_); (first | refine h.readB 0 0 ⟨_, rfl, rfl⟩ rfl rfl ?_ | refine h.drew.readB 0 0 ⟨_, rfl, rfl⟩ rfl rfl ?_)) | ((with_reducible refine StillV.isLoad ?_); (first | refine ⟨h.stillB 0 0 ⟨_, rfl, rfl⟩ rfl rfl, ?_⟩)) | ((with_reducible refine RunU.isStor ?_); (first | (refine h.storB 0 0 ⟨_, rfl, rfl⟩ rfl rfl rfl ?_; intro w h; dsimp only [updG, setO] at h) | (refine h.drew.storB 0 0 ⟨_, rfl, rfl⟩ rfl rfl rfl ?_; intro w h; dsimp only [updG, setO] at h))) | ((with_reducible refine RunN.isBox ?_); (first | (refine h.newB run_boxA rfl ?_; intro bn w h; try dsimp only at h) | (refine h.drew.newB run_boxA rfl ?_; intro bn w h; try dsimp only at h))) | ((with_reducible refine RunN.isNew ?_); (first | (refine h.newB (NewC.run _) rfl ?_; intro bn w h) | (refine h.drew.newB (NewC.run _) rfl ?_; intro bn w h))))
              exact hk11 _ _ h
            · exact hk11 _ _ h
      · intro k9 hk9
        repeat (first | (with_reducible refine NilP.mk ?_) | ((with_reducible refine RunN.isLoad ?_); (first | refine h.loadB 0 0 ⟨_, rfl, rfl⟩ rfl rfl ?_ | refine h.drew.loadB 0 0 ⟨_, rfl, rfl⟩ rfl rfl ?_)) | ((with_reducible refine ReadN.isLoad ?_); (first | refine h.readB 0 0 ⟨_, rfl, rfl⟩ rfl rfl ?_ | refine h.drew.readB 0 0 ⟨_, rfl, rfl⟩ rfl rfl ?_)) | ((with_reducible refine StillV.isLoad ?_); (first | refine ⟨h.stillB 0 0 ⟨_, rfl, rfl⟩ rfl rfl, ?_⟩)) | ((with_reducible refine RunU.isStor ?_); (first | (refine h.storB 0 0 ⟨_, rfl, rfl⟩ rfl rfl rfl ?_; intro w h; dsimp only [updG, setO] at h) | (refine h.drew.storB 0 0 ⟨_, rfl, rfl⟩ rfl rfl rfl ?_; intro w h; dsimp only [updG, setO] at h))) | ((with_reducible refine RunN.isBox ?_); (first | (refine h.newB run_boxA rfl ?_; intro bn w h; try dsimp only at h) | (refine h.drew.newB run_boxA rfl ?_; intro bn w h; try dsimp only at h))) | ((with_reducible refine RunN.isNew ?_); (first | (refine h.newB (NewC.run _) rfl ?_; intro bn w h) | (refine h.drew.newB (NewC.run _) rfl ?_; intro bn w h))))
        rw [SplitB_iff]
        refine ⟨fun hj => ?_, fun hj => ?_⟩
        · skip
          repeat (first | (with_reducible refine NilP.mk ?_) | ((with_reducible refine RunN.isLoad ?_); (first | refine h.loadB 0 0 ⟨_, rfl, rfl⟩ rfl rfl ?_ | refine h.drew.loadB 0 0 ⟨_, rfl, rfl⟩ rfl rfl ?_)) | ((with_reducible refine ReadN.isLoad ?_); (first | refine h.readB 0 0 ⟨_, rfl, rfl⟩ rfl rfl ?_ | refine h.drew.readB 0 0 ⟨_, rfl, rfl⟩ rfl rfl ?_)) | ((with_reducible refine StillV.isLoad ?_); (first | refine ⟨h.stillB 0 0 ⟨_, rfl, rfl⟩ rfl rfl, ?_⟩)) | ((with_reducible refine RunU.isStor ?_); (first | (refine h.storB 0 0 ⟨_, rfl, rfl⟩ rfl rfl rfl ?_; intro w h; dsimp only [updG, setO] at h) | (refine h.drew.storB 0 0 ⟨_, rfl, rfl⟩ rfl rfl rfl ?_; intro w h; dsimp only [updG, setO] at h))) | ((with_reducible refine RunN.isBox ?_); (first | (refine h.newB run_boxA rfl ?_; intro bn w h; try dsimp only at h) | (refine h.drew.newB run_boxA rfl ?_; intro bn w h; try dsimp only at h))) | ((with_reducible refine RunN.isNew ?_); (first | (refine h.newB (NewC.run _) rfl ?_; intro bn w h) | (refine h.drew.newB (NewC.run _) rfl ?_; intro bn w h))))
          exact hk9 _ _ h
        · exact hk9 _ _ h
def alv (a1 a2 : Sl) : List Ov := [⟨2, 0, 1, 5, ⟨none, 0, 0⟩, []⟩, ⟨1, 0, 1, 0, a1, List.replicate 512 65⟩, ⟨1, 0, 1, 0, a2, List.replicate 512 66⟩, ⟨6, 0, 0, 0, ⟨none, 0, 0⟩, []⟩, ⟨4, 0, 0, 0, ⟨none, 0, 0⟩, []⟩, ⟨5, 0, 1, 0, ⟨none, 0, 0⟩, []⟩, ⟨7, 0, 0, 0, ⟨none, 0, 0⟩, []⟩, ⟨8, 0, 0, 0, ⟨none, 0, 0⟩, []⟩, ⟨9, 0, 0, 0, ⟨none, 0, 0⟩, []⟩, ⟨10, 0, 0, 0, ⟨none, 0, 0⟩, []⟩]
theorem alive_st (h : St w0 w F) : CallK Try.prog .bool 31 #[] w fun (r : Bool) w' => r = true ∧ St w0 w' F := by
  refine T31.calls ?_
  unfold T31
  refine (made_st h 2).mono ?_
  rintro x w hx
  rcases hx with ⟨hn, _⟩ | ⟨b, d, r, rfl, ok, h⟩
  · omega
  refine JoinX.mk (fun j w' => j.1 = false ∧ St w0 w' (gs (q0 b d r) F)) ?_ ?_
  · clear h
    rintro ⟨_, ⟨⟩⟩ w ⟨hj, h⟩
    dsimp only at hj h ⊢
    subst hj
    rw [SplitB_iff]
    refine ⟨(fun hz => by cases hz), fun _ => ?_⟩
    refine (full_st 65 h).mono ?_
    rintro a1 w ⟨ha1, h⟩
    refine (full_st 66 h).mono ?_
    rintro a2 w ⟨ha2, h⟩
    refine h.newS 5 (bs51 _ _ _) rfl rfl rfl ?_
    intro s w hsl hsc _ h
    -- the script and its bytes behind the pair
    have h := ((h.back 19).back 18).back 17
    dsimp only [insO] at h
    have hS : SeesO w0 ([.row 5 1 a1 (bys (List.replicate 512 65))] :: [.row 5 1 a2 (bys (List.replicate 512 66))] :: [.row 59 5 s (ovs (alv a1 a2))] :: F) s (alv a1 a2) := fun w h => by
      refine ⟨h.rd (k := 2) (i := 0) ⟨_, rfl, rfl⟩, fun o ho => ?_⟩
      simp only [alv, List.mem_cons, List.not_mem_nil, or_false] at ho
      rcases ho with rfl | rfl | rfl | rfl | rfl | rfl | rfl | rfl | rfl | rfl
      · exact Rd.nil _ _
      · exact h.rd (k := 0) (i := 0) ⟨_, rfl, rfl⟩
      · exact h.rd (k := 1) (i := 0) ⟨_, rfl, rfl⟩
      all_goals exact Rd.nil _ _
    have hfine : Fine (alv a1 a2) := by
      refine ⟨by simp [alv], fun o ho => ?_, fun o ho => ?_⟩
      all_goals
        simp only [alv, List.mem_cons, List.not_mem_nil, or_false] at ho
        rcases ho with rfl | rfl | rfl | rfl | rfl | rfl | rfl | rfl | rfl | rfl <;> simp
    refine (plays_st (p := q0 b d r) (F := [.row 5 1 a1 (bys (List.replicate 512 65))] :: [.row 5 1 a2 (bys (List.replicate 512 66))] :: [.row 59 5 s (ovs (alv a1 a2))] :: F) h ok (by omega) hS hfine 5 11).mono ?_
    rintro x w ⟨rfl, p', _, _, h⟩
    exact ⟨rfl, (((gs_F h).drop 0).drop 0).drop 0⟩
  · intro k1 hk1
    rw [SplitB_iff]
    refine ⟨(fun hz => by cases hz), fun _ => ?_⟩
    first | refine RunN.pEqS ?_ | refine RunN.pEqN ?_ | refine RunN.pNeS ?_ | refine RunN.pNeN ?_
    exact hk1 _ _ ⟨rfl, h⟩
end Go.Proofs.Ytpdaoahamgegoaa
