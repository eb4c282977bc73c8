/- Words and steps, part 7: The epoch's machine: reports, looks, beginnings and ends. The document's machine of epochs in memory: what is read of it. The document's machine of epochs: what changes it. -/
import Derived.Test.YtmfbmfppjdkeeaaErQ6
/- The epoch's machine: reports, looks, beginnings and ends. -/
namespace Go.Proofs.Ytmfbmfppjdkeeaa
open Go Go.Fw Go.RowKit
set_option linter.unusedVariables false
set_option linter.unusedSimpArgs false
set_option maxRecDepth 4000
set_option maxHeartbeats 2000000
variable {w0 w : World} {F G : Grps}

theorem bs26a (w : World) (x : Int) : (Instr.buildSlice 26 1 #[(0, .int .i64 x)]).run Try.prog w = .ok (.slice (some ⟨w.heap.size, 0, none⟩) 1 1) (w.alloc (.cells ⟨lin [x]⟩ 3)) := by kernel_rfl
theorem bs26c (w : World) (x y z : Int) : (Instr.buildSlice 26 3 #[(0, .int .i64 x), (1, .int .i64 y), (2, .int .i64 z)]).run Try.prog w = .ok (.slice (some ⟨w.heap.size, 0, none⟩) 3 3) (w.alloc (.cells ⟨lin [x, y, z]⟩ 3)) := by kernel_rfl
theorem okA_one (x : Int) : okA [x] = decide (0 ≤ x ∧ x ≤ 1099511627776) := by simp [okA]
theorem okA_three (x y z : Int) : okA [x, y, z] = decide ((0 ≤ x ∧ x ≤ 1099511627776) ∧ (0 ≤ y ∧ y ≤ 1099511627776) ∧ (0 ≤ z ∧ z ≤ 1099511627776)) := by simp [okA]
/-- What is made and asked at once, of amounts. -/
theorem amt3 (h : St w0 w F) (x y z : Int) {K : Bool → World → Prop} (hk : ∀ w', St w0 w' F → K (okA [x, y, z]) w') :
    RunN Try.prog .sl (V (Instr.buildSlice 26 3 #[(0, .int .i64 x), (1, .int .i64 y), (2, .int .i64 z)])) w fun u w => CallK Try.prog .bool 45 #[.slice u.a u.len u.cap] w K := by
  refine h.newS 1 (bs26c _ _ _ _) rfl rfl rfl ?_
  intro u w1 hu1 hu2 _ h
  refine (amount_st (h.rd (k := 0) (i := 0) ⟨_, rfl, rfl⟩) (by simp)).mono ?_
  rintro v w2 ⟨rfl, rfl⟩
  exact hk _ (h.drop 0)
theorem amt1 (h : St w0 w F) (x : Int) {K : Bool → World → Prop} (hk : ∀ w', St w0 w' F → K (okA [x]) w') :
    RunN Try.prog .sl (V (Instr.buildSlice 26 1 #[(0, .int .i64 x)])) w fun u w => CallK Try.prog .bool 45 #[.slice u.a u.len u.cap] w K := by
  refine h.newS 1 (bs26a _ _) rfl rfl rfl ?_
  intro u w1 hu1 hu2 _ h
  refine (amount_st (h.rd (k := 0) (i := 0) ⟨_, rfl, rfl⟩) (by simp)).mono ?_
  rintro v w2 ⟨rfl, rfl⟩
  exact hk _ (h.drop 0)
/-! ### Report -/
def Mv.fitsR (e : Mv) (fr : Int) (x : Ep) (held : Int) : Prop := 0 ≤ fr ∧ fr < (e.n : Int) ∧ fr ≠ (e.me : Int) ∧ someE x = true ∧ x = e.own ∧ (0 ≤ held ∧ held ≤ 1099511627776)
instance (e : Mv) (fr : Int) (x : Ep) (held : Int) : Decidable (e.fitsR fr x held) := by unfold Mv.fitsR; exact inferInstance
def Mv.report (e : Mv) (fr : Int) (x : Ep) (held : Int) : Mv := if e.fitsR fr x held then { e with re := e.re.set fr.toNat held } else e
theorem wf_report {e : Mv} (h : e.wf) (fr : Int) (x : Ep) (held : Int) : (e.report fr x held).wf := by
  rw [Mv.report]
  split
  · rename_i hf
    refine ⟨h.n, h.me, h.kl, h.fl, by simp [h.rl], h.kb, h.fb, fun y hy => ?_⟩
    rcases List.mem_or_eq_of_mem_set hy with hy | rfl
    · exact h.rb _ hy
    · have := hf.2.2.2.2.2; omega
  · exact h
theorem report_st {e : Em} (h : St w0 w (emE e [] :: F)) (hw : e.wf) (fr : Int) (x : Ep) (held : Int) : CallK Try.prog .sl 36 #[.pointer e.p, .int .i64 fr, .agg #[.int .i64 x.1, .int .i64 x.2], .int .i64 held] w
    fun (s : Sl) w' => s = ⟨none, 0, 0⟩ ∧ St w0 w' (emE { e with toMv := e.report fr x held } [] :: F) := by
  refine T36.calls (p2 := (x.1, x.2, ())) ?_
  unfold T36
  have hn := hw.n
  first | refine h.newB run_boxA rfl ?_ | refine h.drew.newB run_boxA rfl ?_
  intro b6 w h
  have h := h.ord 2 [1, 0]
  dsimp only [pick, nthO, dropO] at h
  refine JoinX.mk (fun (y : Bool × Unit) w' => y.1 = decide (e.fitsR fr x held) ∧ St w0 w' (emE e [] :: [.cel b6 54 [.int .i64 x.1, .int .i64 x.2]] :: F)) ?_ ?_
  · rintro ⟨y, ⟨⟩⟩ w1 ⟨hy, h⟩
    dsimp only at hy
    subst hy
    rw [SplitB_iff]
    refine ⟨fun hc => ?_, fun hc => ?_⟩
    · have hf : e.fitsR fr x held := of_decide_eq_true hc
      obtain ⟨i, hi⟩ := Int.eq_ofNat_of_zero_le hf.1
      have hin : fr.toNat = i := by omega
      have hi16 : i < 16 := by have := hf.2.1; omega
      refine NilP.mk ?_
      refine RunN.arr rfl i hi hi16 ?_
      refine h.storB 0 0 (j := 34 + i) ⟨_, rfl, rfl⟩ rfl (by rw [Nat.blt_eq, emC_len hw]; omega) rfl ?_
      intro w2 h
      rw [r_set hw hi16] at h
      rw [Mv.report, if_pos hf, hin]
      exact ⟨rfl, h.drop 1⟩
    · have hf : ¬ e.fitsR fr x held := of_decide_eq_false hc
      rw [Mv.report, if_neg hf]
      exact ⟨rfl, h.drop 1⟩
  · intro k hk
    rw [SplitB_iff]
    refine ⟨fun h1 => ?_, fun h1 => ?_⟩
    · have h1 : fr ≥ 0 := of_decide_eq_true h1
      repeat (first | (with_reducible refine NilP.mk ?_) | ((with_reducible refine RunN.isLoad ?_); (first | refine h.load2 0 0 ⟨_, rfl, rfl⟩ rfl ?_ | refine h.loadB 0 0 ⟨_, rfl, rfl⟩ rfl rfl ?_ | refine h.drew.load2 0 0 ⟨_, rfl, rfl⟩ rfl ?_ | refine h.drew.loadB 0 0 ⟨_, rfl, rfl⟩ rfl rfl ?_)) | ((with_reducible refine ReadN.isLoad ?_); (first | refine h.read2 0 0 ⟨_, rfl, rfl⟩ rfl ?_ | refine h.readB 0 0 ⟨_, rfl, rfl⟩ rfl rfl ?_ | refine h.drew.read2 0 0 ⟨_, rfl, rfl⟩ rfl ?_ | refine h.drew.readB 0 0 ⟨_, rfl, rfl⟩ rfl rfl ?_)) | ((with_reducible refine StillV.isLoad ?_); (first | refine ⟨h.stillB 0 0 ⟨_, rfl, rfl⟩ rfl rfl, ?_⟩ | refine ⟨h.still2 0 0 ⟨_, rfl, rfl⟩ rfl, ?_⟩)) | ((with_reducible refine RunU.isStor ?_); (first | (refine h.stor2 0 0 ⟨_, rfl, rfl⟩ rfl ?_; intro w h; dsimp only [updG, setO] at h) | (refine h.storB 0 0 ⟨_, rfl, rfl⟩ rfl rfl rfl ?_; intro w h; dsimp only [updG, setO] at h) | (refine h.drew.stor2 0 0 ⟨_, rfl, rfl⟩ rfl ?_; intro w h; dsimp only [updG, setO] at h) | (refine h.drew.storB 0 0 ⟨_, rfl, rfl⟩ rfl rfl rfl ?_; intro w h; dsimp only [updG, setO] at h))) | ((with_reducible refine RunN.isBox ?_); (first | (refine h.newB run_boxA rfl ?_; intro bn w h; try dsimp only at h; have h := h.ord 2 [1, 0]; dsimp only [pick, nthO, dropO] at h) | (refine h.drew.newB run_boxA rfl ?_; intro bn w h; try dsimp only at h; have h := h.ord 2 [1, 0]; dsimp only [pick, nthO, dropO] at h))) | ((with_reducible refine RunN.isNew ?_); (first | (refine h.newB (NewC.run _) rfl ?_; intro bn w h; have h := h.ord 2 [1, 0]; dsimp only [pick, nthO, dropO] at h) | (refine h.drew.newB (NewC.run _) rfl ?_; intro bn w h; have h := h.ord 2 [1, 0]; dsimp only [pick, nthO, dropO] at h))) | (refine RunN.k2Eq ?_) | (refine RunN.k2Ne ?_) | (refine ReadN.k2Eq ?_) | (refine ReadN.k2Ne ?_))
      rw [SplitB_iff]
      refine ⟨fun h2 => ?_, fun h2 => ?_⟩
      · have h2 : fr < (e.n : Int) := of_decide_eq_true h2
        repeat (first | (with_reducible refine NilP.mk ?_) | ((with_reducible refine RunN.isLoad ?_); (first | refine h.load2 0 0 ⟨_, rfl, rfl⟩ rfl ?_ | refine h.loadB 0 0 ⟨_, rfl, rfl⟩ rfl rfl ?_ | refine h.drew.load2 0 0 ⟨_, rfl, rfl⟩ rfl ?_ | refine h.drew.loadB 0 0 ⟨_, rfl, rfl⟩ rfl rfl ?_)) | ((with_reducible refine ReadN.isLoad ?_); (first | refine h.read2 0 0 ⟨_, rfl, rfl⟩ rfl ?_ | refine h.readB 0 0 ⟨_, rfl, rfl⟩ rfl rfl ?_ | refine h.drew.read2 0 0 ⟨_, rfl, rfl⟩ rfl ?_ | refine h.drew.readB 0 0 ⟨_, rfl, rfl⟩ rfl rfl ?_)) | ((with_reducible refine StillV.isLoad ?_); (first | refine ⟨h.stillB 0 0 ⟨_, rfl, rfl⟩ rfl rfl, ?_⟩ | refine ⟨h.still2 0 0 ⟨_, rfl, rfl⟩ rfl, ?_⟩)) | ((with_reducible refine RunU.isStor ?_); (first | (refine h.stor2 0 0 ⟨_, rfl, rfl⟩ rfl ?_; intro w h; dsimp only [updG, setO] at h) | (refine h.storB 0 0 ⟨_, rfl, rfl⟩ rfl rfl rfl ?_; intro w h; dsimp only [updG, setO] at h) | (refine h.drew.stor2 0 0 ⟨_, rfl, rfl⟩ rfl ?_; intro w h; dsimp only [updG, setO] at h) | (refine h.drew.storB 0 0 ⟨_, rfl, rfl⟩ rfl rfl rfl ?_; intro w h; dsimp only [updG, setO] at h))) | ((with_reducible refine RunN.isBox ?_); (first | (refine h.newB run_boxA rfl ?_; intro bn w h; try dsimp only at h; have h := h.ord 2 [1, 0]; dsimp only [pick, nthO, dropO] at h) | (refine h.drew.newB run_boxA rfl ?_; intro bn w h; try dsimp only at h; have h := h.ord 2 [1, 0]; dsimp only [pick, nthO, dropO] at h))) | ((with_reducible refine RunN.isNew ?_); (first | (refine h.newB (NewC.run _) rfl ?_; intro bn w h; have h := h.ord 2 [1, 0]; dsimp only [pick, nthO, dropO] at h) | (refine h.drew.newB (NewC.run _) rfl ?_; intro bn w h; have h := h.ord 2 [1, 0]; dsimp only [pick, nthO, dropO] at h))) | (refine RunN.k2Eq ?_) | (refine RunN.k2Ne ?_) | (refine ReadN.k2Eq ?_) | (refine ReadN.k2Ne ?_))
        rw [SplitB_iff]
        refine ⟨fun h3 => ?_, fun h3 => ?_⟩
        · have h3 : fr ≠ (e.me : Int) := by simpa using h3
          refine h.drew.read2 1 0 ⟨_, rfl, rfl⟩ rfl ?_
          refine (some_st h.drew _ _).mono ?_
          rintro _ w1 ⟨rfl, h⟩
          rw [SplitB_iff]
          refine ⟨fun h4 => ?_, fun h4 => ?_⟩
          · have h4 : someE x = true := h4
            refine h.read2 1 0 ⟨_, rfl, rfl⟩ rfl ?_
            refine (own_st h hw).mono ?_
            rintro _ w2 ⟨rfl, h⟩
            refine ⟨h.still2 1 0 ⟨_, rfl, rfl⟩ rfl, ?_⟩
            refine ReadN.k2Eq ?_
            rw [eq_ep x e.own]
            rw [SplitB_iff]
            refine ⟨fun h5 => ?_, fun h5 => ?_⟩
            · have h5 : x = e.own := of_decide_eq_true h5
              refine amt1 h held ?_
              intro w3 h
              refine hk _ _ ⟨?_, h⟩
              dsimp only
              rw [okA_one]
              by_cases h6 : 0 ≤ held ∧ held ≤ 1099511627776
              · rw [decide_eq_true h6, decide_eq_true ⟨h1, h2, h3, h4, h5, h6⟩]
              · rw [decide_eq_false h6, decide_eq_false fun hf => h6 hf.2.2.2.2.2]
            · have h5 : ¬ x = e.own := of_decide_eq_false h5
              exact hk _ _ ⟨(decide_eq_false fun hf => h5 hf.2.2.2.2.1).symm, h⟩
          · have h4 : ¬ someE x = true := by rw [show someE x = false from h4]; decide
            exact hk _ _ ⟨(decide_eq_false fun hf => h4 hf.2.2.2.1).symm, h⟩
        · have h3 : ¬ fr ≠ (e.me : Int) := by simpa using h3
          exact hk _ _ ⟨(decide_eq_false fun hf => h3 hf.2.2.1).symm, h.drew⟩
      · have h2 : ¬ fr < (e.n : Int) := of_decide_eq_false h2
        exact hk _ _ ⟨(decide_eq_false fun hf => h2 hf.2.1).symm, h.drew⟩
    · have h1 : ¬ fr ≥ 0 := of_decide_eq_false h1
      exact hk _ _ ⟨(decide_eq_false fun hf => h1 hf.1).symm, h.drew⟩
/-! ### Look -/
def Mv.looks (e : Mv) (limit rights held : Int) : Prop := someE e.own = true ∧ okA [limit, rights, held] = true ∧ limit ≠ 0 ∧ rights + held + e.reported = limit ∧ (e.needs = true → e.all = true)
instance (e : Mv) (a b c : Int) : Decidable (e.looks a b c) := by unfold Mv.looks; exact inferInstance
def Mv.look (e : Mv) (limit rights held : Int) : List A6 := if e.looks limit rights held then [(4, (e.me : Int), e.own.1, e.own.2, 0, 0)] else []
theorem reported_bound {e : Mv} (h : e.wf) : 0 ≤ e.reported ∧ e.reported ≤ 17592186044416 := by
  have hn := h.n
  have := repTo_bound h.rb e.n
  rw [Mv.reported]
  split
  · omega
  · exact ⟨by decide, by decide⟩
theorem look_st {e : Em} (h : St w0 w (emE e [] :: F)) (hw : e.wf) (limit rights held : Int) : CallK Try.prog .sl 21 #[.pointer e.p, .int .i64 limit, .int .i64 rights, .int .i64 held] w
    fun (s : Sl) w' => ∃ e' : Em, e'.cb = e.cb ∧ e'.toMv = e.toMv ∧ s.len = (e.look limit rights held).length ∧ St w0 w' ([.row 70 6 s (acs (e.look limit rights held))] :: emE e' [] :: F) := by
  refine T21.calls ?_
  unfold T21
  refine (own_st h hw).mono ?_
  rintro _ w1 ⟨rfl, h⟩
  first | refine h.newB (NewC.run _) rfl ?_ | refine h.drew.newB (NewC.run _) rfl ?_
  intro b9 w h
  have h := h.ord 2 [1, 0]
  dsimp only [pick, nthO, dropO] at h
  refine h.stor2 1 0 ⟨_, rfl, rfl⟩ rfl ?_
  intro w2 h
  dsimp only [updG, setO] at h
  refine JoinX.mk (fun (y : Bool × Unit) w' => y.1 = !decide (e.looks limit rights held) ∧ St w0 w' (emE e [] :: [.cel b9 54 [.int .i64 e.own.1, .int .i64 e.own.2]] :: F)) ?_ ?_
  · rintro ⟨y, ⟨⟩⟩ w3 ⟨hy, h⟩
    dsimp only at hy
    subst hy
    rw [SplitB_iff]
    refine ⟨fun hc => ?_, fun hc => ?_⟩
    · have hc : ¬ e.looks limit rights held := by simpa using hc
      rw [Mv.look, if_neg hc]
      exact ⟨e, rfl, rfl, rfl, (h.drop 1).nilrow 70 6⟩
    · have hc : e.looks limit rights held := by simpa using hc
      rw [Mv.look, if_pos hc]
      repeat (first | (with_reducible refine NilP.mk ?_) | ((with_reducible refine RunN.isLoad ?_); (first | refine h.load2 0 0 ⟨_, rfl, rfl⟩ rfl ?_ | refine h.loadB 0 0 ⟨_, rfl, rfl⟩ rfl rfl ?_ | refine h.load2 1 0 ⟨_, rfl, rfl⟩ rfl ?_ | refine h.loadB 1 0 ⟨_, rfl, rfl⟩ rfl rfl ?_ | refine h.drew.load2 0 0 ⟨_, rfl, rfl⟩ rfl ?_ | refine h.drew.loadB 0 0 ⟨_, rfl, rfl⟩ rfl rfl ?_ | refine h.drew.load2 1 0 ⟨_, rfl, rfl⟩ rfl ?_ | refine h.drew.loadB 1 0 ⟨_, rfl, rfl⟩ rfl rfl ?_)) | ((with_reducible refine ReadN.isLoad ?_); (first | refine h.read2 0 0 ⟨_, rfl, rfl⟩ rfl ?_ | refine h.readB 0 0 ⟨_, rfl, rfl⟩ rfl rfl ?_ | refine h.read2 1 0 ⟨_, rfl, rfl⟩ rfl ?_ | refine h.readB 1 0 ⟨_, rfl, rfl⟩ rfl rfl ?_ | refine h.drew.read2 0 0 ⟨_, rfl, rfl⟩ rfl ?_ | refine h.drew.readB 0 0 ⟨_, rfl, rfl⟩ rfl rfl ?_ | refine h.drew.read2 1 0 ⟨_, rfl, rfl⟩ rfl ?_ | refine h.drew.readB 1 0 ⟨_, rfl, rfl⟩ rfl rfl ?_)) | ((with_reducible refine StillV.isLoad ?_); (first | refine ⟨h.stillB 0 0 ⟨_, rfl, rfl⟩ rfl rfl, ?_⟩ | refine ⟨h.still2 0 0 ⟨_, rfl, rfl⟩ rfl, ?_⟩ | refine ⟨h.stillB 1 0 ⟨_, rfl, rfl⟩ rfl rfl, ?_⟩ | refine ⟨h.still2 1 0 ⟨_, rfl, rfl⟩ rfl, ?_⟩)) | ((with_reducible refine RunU.isStor ?_); (first | (refine h.stor2 0 0 ⟨_, rfl, rfl⟩ rfl ?_; intro w h; dsimp only [updG, setO] at h) | (refine h.storB 0 0 ⟨_, rfl, rfl⟩ rfl rfl rfl ?_; intro w h; dsimp only [updG, setO] at h) | (refine h.stor2 1 0 ⟨_, rfl, rfl⟩ rfl ?_; intro w h; dsimp only [updG, setO] at h) | (refine h.storB 1 0 ⟨_, rfl, rfl⟩ rfl rfl rfl ?_; intro w h; dsimp only [updG, setO] at h) | (refine h.drew.stor2 0 0 ⟨_, rfl, rfl⟩ rfl ?_; intro w h; dsimp only [updG, setO] at h) | (refine h.drew.storB 0 0 ⟨_, rfl, rfl⟩ rfl rfl rfl ?_; intro w h; dsimp only [updG, setO] at h) | (refine h.drew.stor2 1 0 ⟨_, rfl, rfl⟩ rfl ?_; intro w h; dsimp only [updG, setO] at h) | (refine h.drew.storB 1 0 ⟨_, rfl, rfl⟩ rfl rfl rfl ?_; intro w h; dsimp only [updG, setO] at h))) | ((with_reducible refine RunN.isBox ?_); (first | (refine h.newB run_boxA rfl ?_; intro bn w h; try dsimp only at h; have h := h.ord 2 [1, 0]; dsimp only [pick, nthO, dropO] at h) | (refine h.drew.newB run_boxA rfl ?_; intro bn w h; try dsimp only at h; have h := h.ord 2 [1, 0]; dsimp only [pick, nthO, dropO] at h))) | ((with_reducible refine RunN.isNew ?_); (first | (refine h.newB (NewC.run _) rfl ?_; intro bn w h; have h := h.ord 2 [1, 0]; dsimp only [pick, nthO, dropO] at h) | (refine h.drew.newB (NewC.run _) rfl ?_; intro bn w h; have h := h.ord 2 [1, 0]; dsimp only [pick, nthO, dropO] at h))) | (refine RunN.k2Eq ?_) | (refine RunN.k2Ne ?_) | (refine ReadN.k2Eq ?_) | (refine ReadN.k2Ne ?_))
      refine (put_st h.drew hw (by decide) (4, (e.me : Int), e.own.1, e.own.2, 0, 0)).mono ?_
      rintro _ w4 h
      refine (taken_st h hw (by simp)).mono ?_
      rintro s w5 ⟨hs, h⟩
      exact ⟨{ e with cs := e.cs + 1, cr := e.cr + 1 }, rfl, rfl, hs, h.drop 2⟩
  · intro k hk
    refine h.load2 1 0 ⟨_, rfl, rfl⟩ rfl ?_
    refine (some_st h _ _).mono ?_
    rintro _ w3 ⟨rfl, h⟩
    rw [SplitB_iff]
    refine ⟨fun h1 => ?_, fun h1 => ?_⟩
    · have h1 : ¬ someE e.own = true := by have : someE e.own = false := by simpa using h1
                                           rw [this]; decide
      exact hk _ _ ⟨by dsimp only; rw [decide_eq_false fun hf => h1 hf.1]; rfl, h⟩
    have h1 : someE e.own = true := by simpa using h1
    refine amt3 h limit rights held ?_
    intro w4 h
    rw [SplitB_iff]
    refine ⟨fun h2 => ?_, fun h2 => ?_⟩
    · have h2 : ¬ okA [limit, rights, held] = true := by simpa using h2
      exact hk _ _ ⟨by dsimp only; rw [decide_eq_false fun hf => h2 hf.2.1]; rfl, h⟩
    have h2 : okA [limit, rights, held] = true := by simpa using h2
    rw [SplitB_iff]
    refine ⟨fun h3 => ?_, fun h3 => ?_⟩
    · have h3 : limit = 0 := by simpa using h3
      exact hk _ _ ⟨by dsimp only; rw [decide_eq_false fun hf => hf.2.2.1 h3]; rfl, h⟩
    have h3 : limit ≠ 0 := by simpa using h3
    refine (reported_st h hw).mono ?_
    rintro _ w5 ⟨rfl, h⟩
    have hb := reported_bound hw
    have h2' := h2
    rw [okA_three] at h2'
    have h2' := of_decide_eq_true h2'
    have ew : IntKind.i64.wrap (IntKind.i64.wrap (rights + held) + e.reported) = rights + held + e.reported := by rw [wr (x := rights + held) (by omega), wr (by omega)]
    rw [ew]
    rw [SplitB_iff]
    refine ⟨fun h4 => ?_, fun h4 => ?_⟩
    · have h4 : rights + held + e.reported ≠ limit := by simpa using h4
      exact hk _ _ ⟨by dsimp only; rw [decide_eq_false fun hf => h4 hf.2.2.2.1]; rfl, h⟩
    have h4 : rights + held + e.reported = limit := by simpa using h4
    refine NilP.mk ?_
    refine h.loadB 0 0 ⟨_, rfl, rfl⟩ rfl (kd := .bool) (x := e.needs) (needs_at hw) ?_
    rw [SplitB_iff]
    refine ⟨fun h5 => ?_, fun h5 => ?_⟩
    · have h5 : e.needs = true := h5
      refine (all_st h hw).mono ?_
      rintro _ w6 ⟨rfl, h⟩
      refine hk _ _ ⟨?_, h⟩
      dsimp only
      by_cases h6 : e.all = true
      · rw [h6, decide_eq_true ⟨h1, h2, h3, h4, fun _ => h6⟩]
      · rw [decide_eq_false fun hf => h6 (hf.2.2.2.2 h5)]; simpa using h6
    · have h5 : ¬ e.needs = true := by rw [show e.needs = false from h5]; decide
      exact hk _ _ ⟨by dsimp only; rw [decide_eq_true ⟨h1, h2, h3, h4, fun hh => absurd hh h5⟩]; rfl, h⟩
/-! ### Finish -/
def Mv.finish (e : Mv) : List A6 × Mv := if someE e.own = true then ({ e with fi := e.fi.set e.me e.own.1 } : Mv).turn e.top else ([], e)
theorem wf_finish {e : Mv} (h : e.wf) : e.finish.2.wf := by
  rw [Mv.finish]
  split
  · exact wf_turn (wf_fin h) _
  · exact h
theorem finish_st {e : Em} (h : St w0 w (emE e [] :: F)) (hw : e.wf) : CallK Try.prog .sl 39 #[.pointer e.p] w
    fun (s : Sl) w' => ∃ e' : Em, e'.cb = e.cb ∧ e'.toMv = e.finish.2 ∧ s.len = e.finish.1.length ∧ St w0 w' ([.row 70 6 s (acs e.finish.1)] :: emE e' [] :: F) := by
  refine T39.calls ?_
  unfold T39
  have hn := hw.n
  have hm := hw.me
  refine (own_st h hw).mono ?_
  rintro _ w1 ⟨rfl, h⟩
  refine (top_st h hw).mono ?_
  rintro _ w2 ⟨rfl, h⟩
  first | refine h.newB (NewC.run _) rfl ?_ | refine h.drew.newB (NewC.run _) rfl ?_
  intro b3 w h
  have h := h.ord 2 [1, 0]
  dsimp only [pick, nthO, dropO] at h
  first | refine h.newB (NewC.run _) rfl ?_ | refine h.drew.newB (NewC.run _) rfl ?_
  intro b4 w h
  have h := h.ord 2 [1, 0]
  dsimp only [pick, nthO, dropO] at h
  refine h.stor2 2 0 ⟨_, rfl, rfl⟩ rfl ?_
  intro w3 h
  dsimp only [updG, setO] at h
  refine h.stor2 1 0 ⟨_, rfl, rfl⟩ rfl ?_
  intro w4 h
  dsimp only [updG, setO] at h
  refine h.load2 2 0 ⟨_, rfl, rfl⟩ rfl ?_
  refine (some_st h _ _).mono ?_
  rintro _ w5 ⟨rfl, h⟩
  rw [SplitB_iff]
  refine ⟨fun h1 => ?_, fun h1 => ?_⟩
  · have h1 : ¬ someE e.own = true := by have : someE e.own = false := by simpa using h1
                                         rw [this]; decide
    rw [Mv.finish, if_neg h1]
    exact ⟨e, rfl, rfl, rfl, ((h.drop 1).drop 1).nilrow 70 6⟩
  · have h1 : someE e.own = true := by simpa using h1
    rw [Mv.finish, if_pos h1]
    refine NilP.mk ?_
    refine h.drew.readB 0 0 ⟨_, rfl, rfl⟩ rfl rfl ?_
    refine h.drew.readB 2 0 ⟨_, rfl, rfl⟩ rfl rfl ?_
    refine NilP.mk ?_
    refine ReadN.arr rfl e.me rfl (by omega) ?_
    refine h.drew.storB 0 0 (j := 18 + e.me) ⟨_, rfl, rfl⟩ rfl (by rw [Nat.blt_eq, emC_len hw]; omega) rfl ?_
    intro w6 h
    rw [f_set hw (by omega)] at h
    have h : St w0 w6 (emE { e with fi := e.fi.set e.me e.own.1 } [] :: [.cel b4 54 [.int .i64 e.top.1, .int .i64 e.top.2]] :: [.cel b3 54 [.int .i64 e.own.1, .int .i64 e.own.2]] :: F) := h
    refine h.load2 1 0 ⟨_, rfl, rfl⟩ rfl ?_
    refine (turn_st h (wf_fin hw) e.top).mono ?_
    rintro s w7 ⟨e', g1, g2, g3, h⟩
    exact ⟨e', g1, g2, g3, (h.drop 2).drop 2⟩
/-! ### Begin -/
def top16 (l : List Int) : Int := l.foldl max 0
def Mv.fresh (e : Mv) (all : Bool) : Mv := { e with kn := e.kn.set e.me (top16 e.kn + 1), needs := all, re := List.replicate 16 (-1) }
def Mv.begin_ (e : Mv) (limit rights held : Int) (all : Bool) : List A6 × Int × Mv :=
  if okA [limit, rights, held] = false ∨ limit = 0 then ([], 1, e) else if someE e.top = true then ([], 62, e) else if top16 e.kn ≥ 1099511627776 then ([], 2, e) else
  if (e.fresh all).look limit rights held ≠ [] then ((e.fresh all).look limit rights held, 0, e.fresh all) else ([(1, -1, (e.fresh all).own.1, (e.fresh all).own.2, 0, 0)], 0, e.fresh all)
theorem top16_ge (l : List Int) : 0 ≤ top16 l := by
  have : ∀ (l : List Int) (a : Int), 0 ≤ a → 0 ≤ l.foldl max a := by
    intro l
    induction l with
    | nil => intro a h; exact h
    | cons x r ih => intro a h; exact ih _ (by omega)
  exact this l 0 (Int.le_refl _)
theorem wf_fresh {e : Mv} (h : e.wf) (ht : top16 e.kn < 1099511627776) (all : Bool) : (e.fresh all).wf := by
  have := top16_ge e.kn
  refine ⟨h.n, h.me, by simp [Mv.fresh, h.kl], h.fl, by simp [Mv.fresh], fun y hy => ?_, h.fb, fun y hy => ?_⟩
  · rcases List.mem_or_eq_of_mem_set hy with hy | rfl
    · exact h.kb _ hy
    · omega
  · have := (List.mem_replicate.1 hy).2; omega
theorem wf_begin {e : Mv} (h : e.wf) (a b c : Int) (d : Bool) : (e.begin_ a b c d).2.2.wf := by
  rw [Mv.begin_]
  split
  · exact h
  split
  · exact h
  split
  · exact h
  rename_i h3
  split <;> exact wf_fresh h (by omega) d
theorem foldl_take {l : List Int} {m : Nat} (h : m < l.length) : (l.take (m + 1)).foldl max 0 = max ((l.take m).foldl max 0) (gI l m) := by
  rw [List.take_succ_eq_append_getElem h, List.foldl_append, gI, List.getElem?_eq_getElem h]; rfl
abbrev Kd16 : Kd := .agg (.cons (.int .i64) (.cons (.int .i64) (.cons (.int .i64) (.cons (.int .i64) (.cons (.int .i64) (.cons (.int .i64) (.cons (.int .i64) (.cons (.int .i64) (.cons (.int .i64) (.cons (.int .i64) (.cons (.int .i64) (.cons (.int .i64) (.cons (.int .i64) (.cons (.int .i64) (.cons (.int .i64) (.cons (.int .i64) .nilT))))))))))))))))
theorem tup16 {l : List Int} (h : l.length = 16) : ∃ x : Kd16.T, Kd16.val x = .agg ⟨lin l⟩ := by
  match l, h with
  | [a0, a1, a2, a3, a4, a5, a6, a7, a8, a9, a10, a11, a12, a13, a14, a15], _ => exact ⟨(a0, a1, a2, a3, a4, a5, a6, a7, a8, a9, a10, a11, a12, a13, a14, a15, ()), rfl⟩
theorem u98 : Try.prog.underlying 98 = some (.array 16 3) := by kernel_rfl
theorem i3 : ∃ i z, Try.prog.info? 3 = some i ∧ i.size = 1 ∧ i.zero = some z ∧ z = .int .i64 0 := by
  refine ⟨(Try.prog.info? 3).getD default, .int .i64 0, by kernel_rfl, by kernel_rfl, by kernel_rfl, rfl⟩
theorem index98 (w : World) {l : List Int} (h : l.length = 16) {i : Nat} (hi : i < 16) : (Instr.index 98 (.agg ⟨lin l⟩) (.int .i64 (i : Int))).run Try.prog w = .ok (.int .i64 (gI l i)) w := by
  obtain ⟨inf, z, h1, h2, h3, h4⟩ := i3
  have h0 : (0 : Int) ≤ (i : Int) := by omega
  have h16 : (i : Int) < 16 := by omega
  have e := lin_ix (l := l) (i := i) (by omega)
  simp [Instr.index, asIntOf, run_underlying u98, hi, sizeOf, typeInfo, h1, h2, h3, h4, part]
  rw [e]; rfl
theorem kn_part {e : Em} (hw : e.wf) : ((emC e).drop 2).take 16 = lin e.kn := by
  have h : (emC e).drop 2 = lin e.kn ++ (lin e.fi ++ (lin e.re ++ [.bool e.needs, .chan (some e.ch)])) := rfl
  rw [h, List.take_append_of_le_length (by rw [lin_len, hw.kl]; exact Nat.le_refl _), List.take_of_length_le (by rw [lin_len, hw.kl]; exact Nat.le_refl _)]
theorem begin_st {e : Em} (h : St w0 w (emE e [] :: F)) (hw : e.wf) (limit rights held : Int) (all : Bool) : CallK Try.prog (.tup (.cons .sl (.cons (.int .i64) .nilT))) 20 #[.pointer e.p, .int .i64 limit, .int .i64 rights, .int .i64 held, .bool all] w
    fun (v : Sl × Int × Unit) w' => ∃ (s : Sl) (e' : Em), v = (s, (e.begin_ limit rights held all).2.1, ()) ∧ e'.cb = e.cb ∧ e'.toMv = (e.begin_ limit rights held all).2.2 ∧ s.len = (e.begin_ limit rights held all).1.length ∧ St w0 w' ([.row 70 6 s (acs (e.begin_ limit rights held all).1)] :: emE e' [] :: F) := by
  refine T20.calls ?_
  unfold T20
  have hn := hw.n
  have hm := hw.me
  refine NilP.mk ?_
  obtain ⟨x, hx⟩ := tup16 hw.kl
  refine RunN.of (kd := Kd16) (x := x) (by rw [hx]; exact h.run_loadA (k := 0) (i := 0) ⟨_, rfl, rfl⟩ (t' := 98) (n := 16) (j := 2) rfl (by rw [lin_len]; exact hw.kl) (kn_part hw)) ?_
  refine LoopX.mk (fun st w' => ∃ (m : Nat), st = ((e.kn.take m).foldl max 0, (m : Int), ()) ∧ m ≤ 16 ∧ St w0 w' (emE e [] :: F)) (fun st => ((16 : Int) - st.2.1).toNat) ⟨0, rfl, Nat.zero_le _, h⟩ ?_
  clear h
  rintro _ w1 ⟨m, rfl, hm16, h⟩ k hk
  dsimp only at hk ⊢
  rw [SplitB_iff]
  refine ⟨fun hc => ?_, fun hc => ?_⟩
  · have hc : m < 16 := by have : (m : Int) < 16 := of_decide_eq_true hc; omega
    have hem : IntKind.i64.wrap ((m : Int) + 1) = ((m + 1 : Nat) : Int) := by rw [wr (by omega)]; omega
    refine RunN.of (kd := .int .i64) (x := gI e.kn m) (w' := w1) ?_ ?_
    · exact (congrArg (fun v => (Instr.index 98 v (.int .i64 (m : Int))).run Try.prog w1) hx).trans (index98 w1 hw.kl hc)
    refine RunN.of (kd := .int .i64) (max_i _ _ _) ?_
    rw [hem, ← foldl_take (by rw [hw.kl]; exact hc)]
    exact hk _ _ ⟨m + 1, rfl, by omega, h⟩ (by dsimp only; omega)
  have hc : m = 16 := by have : ¬ (m : Int) < 16 := of_decide_eq_false hc; omega
  subst hc
  rw [List.take_of_length_le (by rw [hw.kl]; exact Nat.le_refl _)]
  have ht : e.kn.foldl max 0 = top16 e.kn := rfl
  rw [ht]
  refine JoinX.mk (fun (y : Bool × Unit) w' => y.1 = decide (okA [limit, rights, held] = false ∨ limit = 0) ∧ St w0 w' (emE e [] :: F)) ?_ ?_
  · rintro ⟨y, ⟨⟩⟩ w2 ⟨hy, h⟩
    dsimp only at hy
    subst hy
    rw [SplitB_iff]
    refine ⟨fun h1 => ?_, fun h1 => ?_⟩
    · have h1 := of_decide_eq_true h1
      rw [Mv.begin_, if_pos h1]
      exact ⟨_, e, rfl, rfl, rfl, rfl, h.nilrow 70 6⟩
    have h1 := of_decide_eq_false h1
    refine (frozen_st h hw).mono ?_
    rintro _ w3 ⟨rfl, h⟩
    rw [SplitB_iff]
    refine ⟨fun h2 => ?_, fun h2 => ?_⟩
    · have h2 : someE e.top = true := h2
      rw [Mv.begin_, if_neg h1, if_pos h2]
      exact ⟨_, e, rfl, rfl, rfl, rfl, h.nilrow 70 6⟩
    have h2 : ¬ someE e.top = true := by rw [show someE e.top = false from h2]; decide
    rw [SplitB_iff]
    refine ⟨fun h3 => ?_, fun h3 => ?_⟩
    · have h3 : top16 e.kn ≥ 1099511627776 := of_decide_eq_true h3
      rw [Mv.begin_, if_neg h1, if_neg h2, if_pos h3]
      exact ⟨_, e, rfl, rfl, rfl, rfl, h.nilrow 70 6⟩
    have h3 : ¬ top16 e.kn ≥ 1099511627776 := of_decide_eq_false h3
    have h0 := top16_ge e.kn
    have hwf := wf_fresh hw (by omega) all
    rw [Mv.begin_, if_neg h1, if_neg h2, if_neg h3]
    refine NilP.mk ?_
    refine h.drew.readB 0 0 ⟨_, rfl, rfl⟩ rfl rfl ?_
    refine NilP.mk ?_
    refine ReadN.arr rfl e.me rfl (by omega) ?_
    have ew : IntKind.i64.wrap (top16 e.kn + 1) = top16 e.kn + 1 := wr (by omega)
    rw [ew]
    refine h.drew.storB 0 0 (j := 2 + e.me) ⟨_, rfl, rfl⟩ rfl (by rw [Nat.blt_eq, emC_len hw]; omega) rfl ?_
    intro w4 h
    rw [k_set hw (by omega)] at h
    have hw2 : ({ e with kn := e.kn.set e.me (top16 e.kn + 1) } : Em).wf := ⟨hw.n, hw.me, hwf.kl, hw.fl, hw.rl, hwf.kb, hw.fb, hw.rb⟩
    refine NilP.mk ?_
    refine h.storB 0 0 (j := 50) ⟨_, rfl, rfl⟩ rfl (by rw [Nat.blt_eq, emC_len hw2]; decide) rfl ?_
    intro w5 h
    rw [needs_set hw2] at h
    have h : St w0 w5 (emE { e with kn := e.kn.set e.me (top16 e.kn + 1), needs := all } [] :: F) := h
    have hrl := hw.rl
    refine LoopX.mk (fun st w' => ∃ (m : Nat), st = ((m : Int), ()) ∧ m ≤ 16 ∧ St w0 w' (emE { e with kn := e.kn.set e.me (top16 e.kn + 1), needs := all, re := List.replicate m (-1) ++ e.re.drop m } [] :: F)) (fun st => ((16 : Int) - st.1).toNat) ⟨0, rfl, Nat.zero_le _, h⟩ ?_
    clear h
    rintro _ w6 ⟨m, rfl, hm16, h⟩ k hk
    dsimp only at hk ⊢
    rw [SplitB_iff]
    refine ⟨fun hc => ?_, fun hc => ?_⟩
    · have hc : m < 16 := by have : (m : Int) < 16 := of_decide_eq_true hc; omega
      have hem : IntKind.i64.wrap ((m : Int) + 1) = ((m + 1 : Nat) : Int) := by rw [wr (by omega)]; omega
      rw [hem]
      have hw3 : ({ e with kn := e.kn.set e.me (top16 e.kn + 1), needs := all, re := List.replicate m (-1) ++ e.re.drop m } : Em).wf := by
        refine ⟨hw.n, hw.me, hwf.kl, hw.fl, by simp [hrl]; omega, hwf.kb, hw.fb, fun y hy => ?_⟩
        rcases List.mem_append.1 hy with hy | hy
        · have := (List.mem_replicate.1 hy).2; omega
        · exact hw.rb _ (List.mem_of_mem_drop hy)
      refine NilP.mk ?_
      refine RunN.arr rfl m rfl hc ?_
      refine h.storB 0 0 (j := 34 + m) ⟨_, rfl, rfl⟩ rfl (by rw [Nat.blt_eq, emC_len hw3]; omega) rfl ?_
      intro w7 h
      rw [r_set hw3 hc] at h
      have e5 : (List.replicate m (-1) ++ e.re.drop m).set m (-1) = List.replicate (m + 1) (-1) ++ e.re.drop (m + 1) := by
        rw [List.set_append_right _ _ (by simp), List.length_replicate, Nat.sub_self, List.drop_eq_getElem_cons (by omega), List.set_cons_zero, List.replicate_succ', List.append_assoc]; rfl
      dsimp only at h
      rw [e5] at h
      exact hk _ _ ⟨m + 1, rfl, by omega, h⟩ (by dsimp only; omega)
    have hc : m = 16 := by have : ¬ (m : Int) < 16 := of_decide_eq_false hc; omega
    subst hc
    rw [List.drop_of_length_le (by omega), List.append_nil] at h
    have h : St w0 w6 (emE { e with toMv := e.fresh all } [] :: F) := h
    refine (look_st h hwf limit rights held).mono ?_
    rintro s w7 ⟨e', g1, g2, g3, h⟩
    have hp : e.p = e'.p := by show some _ = some _; rw [g1]
    have g2 : e'.toMv = e.fresh all := g2
    rw [SplitB_iff]
    refine ⟨fun hd => ?_, fun hd => ?_⟩
    · have hd : s.len > 0 := by have : (s.len : Int) > 0 := of_decide_eq_true hd; omega
      rw [if_pos (by intro hn; rw [show ({ e with toMv := e.fresh all } : Em).toMv = e.fresh all from rfl, hn] at g3; simp at g3; omega)]
      exact ⟨s, e', rfl, g1, g2, g3, h⟩
    · have hd : s.len = 0 := by have : ¬ (s.len : Int) > 0 := of_decide_eq_false hd; omega
      have hnil : (e.fresh all).look limit rights held = [] := by
        rw [hd] at g3
        exact List.length_eq_zero_iff.1 g3.symm
      rw [if_neg (by rw [hnil]; simp)]
      have h := h.drop 0
      have hw8 : e'.wf := by rw [g2]; exact hwf
      rw [hp]
      refine (own_st h hw8).mono ?_
      rintro _ w8 ⟨rfl, h⟩
      rw [g2]
      refine (put_st h hw8 (by decide) (1, -1, (e.fresh all).own.1, (e.fresh all).own.2, 0, 0)).mono ?_
      rintro _ w9 h
      refine (taken_st h (by exact hw8) (by simp)).mono ?_
      rintro s w10 ⟨hs, h⟩
      exact ⟨s, { e' with cs := e'.cs + 1, cr := e'.cr + 1 }, rfl, g1, g2, hs, h⟩
  · intro k3 hk3
    refine amt3 h limit rights held ?_
    intro w3 h
    rw [SplitB_iff]
    refine ⟨fun h1 => ?_, fun h1 => ?_⟩
    · have h1 : okA [limit, rights, held] = false := by simpa using h1
      exact hk3 _ _ ⟨by simp [h1], h⟩
    · have h1 : okA [limit, rights, held] = true := by simpa using h1
      exact hk3 _ _ ⟨by simp [h1]; exact Bool.eq_iff_iff.2 (by simp), h⟩
/-! ### New -/
def newE (me n : Int) : Int := if n < 2 ∨ n > 16 then 1 else if me < 0 ∨ me ≥ n then 3 else 0
def mv0 (me n : Nat) : Mv := ⟨me, n, List.replicate 16 0, List.replicate 16 0, List.replicate 16 0, false⟩
theorem wf_mv0 {me n : Nat} (h : 2 ≤ n ∧ n ≤ 16) (hm : me < n) : (mv0 me n).wf := by
  refine ⟨h, hm, by simp [mv0], by simp [mv0], by simp [mv0], fun x hx => ?_, fun x hx => ?_, fun x hx => ?_⟩ <;> (have := (List.mem_replicate.1 hx).2; omega)
theorem mkchan (h : St w0 w F) {K : Option Nat → World → Prop} (hk : ∀ ch w', St w0 w' ([.obj ch (.chan 4 ⟨[]⟩ false 0 0 false)] :: F) → K (some ch) w') : RunN Try.prog .chan (V (Instr.makeChan 97 (.int .i64 4))) w K := by
  refine RunN.of (kd := .chan) (x := some w.heap.size) (w' := w.alloc (.chan 4 #[] false 0 0 false)) (by kernel_rfl) (hk _ _ (h.newOb _))
theorem new_st (h : St w0 w F) (me n : Int) : CallK Try.prog (.tup (.cons .ptr (.cons (.int .i64) .nilT))) 19 #[.int .i64 me, .int .i64 n] w fun (r : Option Addr × Int × Unit) w' =>
    (newE me n ≠ 0 ∧ r = (none, newE me n, ()) ∧ St w0 w' F) ∨
    (newE me n = 0 ∧ ∃ e : Em, r = (e.p, 0, ()) ∧ (e.me : Int) = me ∧ (e.n : Int) = n ∧ e.toMv = mv0 e.me e.n ∧ e.wf ∧ St w0 w' (emE e [] :: F)) := by
  refine T19.calls ?_
  unfold T19
  refine JoinX.mk (fun (y : Bool × Unit) w' => y.1 = decide (n < 2 ∨ n > 16) ∧ St w0 w' F) ?_ ?_
  · rintro ⟨y, ⟨⟩⟩ w2 ⟨hy, h⟩
    dsimp only at hy
    subst hy
    rw [SplitB_iff]
    refine ⟨fun h1 => ?_, fun h1 => ?_⟩
    · have h1 := of_decide_eq_true h1
      have e : newE me n = 1 := if_pos h1
      exact .inl ⟨by rw [e]; decide, by rw [e], h⟩
    have h1 := of_decide_eq_false h1
    refine JoinX.mk (fun (y : Bool × Unit) w' => y.1 = decide (me < 0 ∨ me ≥ n) ∧ St w0 w' F) ?_ ?_
    · rintro ⟨y, ⟨⟩⟩ w3 ⟨hy, h⟩
      dsimp only at hy
      subst hy
      rw [SplitB_iff]
      refine ⟨fun h2 => ?_, fun h2 => ?_⟩
      · have h2 := of_decide_eq_true h2
        have e : newE me n = 3 := (if_neg h1).trans (if_pos h2)
        exact .inl ⟨by rw [e]; decide, by rw [e], h⟩
      have h2 := of_decide_eq_false h2
      have e : newE me n = 0 := (if_neg h1).trans (if_neg h2)
      obtain ⟨m', rfl⟩ := Int.eq_ofNat_of_zero_le (show 0 ≤ me by omega)
      obtain ⟨n', rfl⟩ := Int.eq_ofNat_of_zero_le (show 0 ≤ n by omega)
      refine mkchan h ?_
      intro ch w4 h
      refine h.newB run_boxA rfl ?_
      intro cb w5 h
      have h : St w0 w5 (emE ⟨mv0 m' n', cb, ch, 0, 0⟩ [] :: F) := h.perm (by simp [emE, emC, mv0, lin])
      exact .inr ⟨e, ⟨mv0 m' n', cb, ch, 0, 0⟩, rfl, rfl, rfl, rfl, wf_mv0 (by omega) (by omega), h⟩
    · intro k hk
      rw [SplitB_iff]
      refine ⟨fun h2 => ?_, fun h2 => ?_⟩
      · have h2 : me < 0 := of_decide_eq_true h2
        exact hk _ _ ⟨by simp [h2], h⟩
      · have h2 : ¬ me < 0 := of_decide_eq_false h2
        exact hk _ _ ⟨by simp [h2], h⟩
  · intro k hk
    rw [SplitB_iff]
    refine ⟨fun h2 => ?_, fun h2 => ?_⟩
    · have h2 : n < 2 := of_decide_eq_true h2
      exact hk _ _ ⟨by simp [h2], h⟩
    · have h2 : ¬ n < 2 := of_decide_eq_false h2
      exact hk _ _ ⟨by simp [h2], h⟩
end Go.Proofs.Ytmfbmfppjdkeeaa

/- The document's machine of epochs in memory: what is read of it. -/
namespace Go.Proofs.Ytmfbmfppjdkeeaa
open Go Go.Fw Go.RowKit
set_option linter.unusedVariables false
set_option linter.unusedSimpArgs false
set_option maxRecDepth 4000
set_option maxHeartbeats 2000000
variable {w0 w : World} {F G : Grps}

abbrev Nt := Int × Int × Int × Int
def ntv (x : Nt) : List Value := [.int .i64 x.1, .int .i64 x.2.1, .int .i64 x.2.2.1, .int .i64 x.2.2.2]
theorem ntv_len (e : Nt) : (ntv e).length = 4 := rfl
theorem ntv_one (x : Nt) : ∀ v ∈ ntv x, v.oneCell' = true := by intro v hv; simp [ntv] at hv; rcases hv with rfl | rfl | rfl | rfl <;> rfl
abbrev nts (l : List Nt) : List Value := l.flatMap ntv
structure Rn where
  me : Nat
  n : Nat
  known : List Ep
  over : List Ep
  notes : List Nt
  needs : Bool
structure Rm extends Rn where
  cb : Nat
  kq : Sl
  oq : Sl
  nq : Sl
def rmC (r : Rm) : List Value := [.int .i64 (r.me : Int), .int .i64 (r.n : Int), .slice r.kq.a r.kq.len r.kq.cap, .slice r.oq.a r.oq.len r.oq.cap, .slice r.nq.a r.nq.len r.nq.cap, .bool r.needs]
def rmE (r : Rm) : List Ent := [.cel r.cb 111 (rmC r), .row 54 2 r.kq (eps r.known), .row 54 2 r.oq (eps r.over), .row 118 4 r.nq (nts r.notes)]
abbrev Rm.p (r : Rm) : Option Addr := some ⟨r.cb, 0, none⟩
structure Rn.wf (r : Rn) (N : Nat) : Prop where
  n : 2 ≤ r.n ∧ r.n ≤ 16
  me : r.me < r.n
  kl : r.known.length ≤ N
  ol : r.over.length ≤ N
  nl : r.notes.length ≤ N
  nb : ∀ x ∈ r.notes, 0 ≤ x.2.1 ∧ x.2.1 ≤ 1099511627776
theorem Rn.wf.mono {r : Rn} {N M : Nat} (h : r.wf N) (hm : N ≤ M) : r.wf M := ⟨h.n, h.me, by have := h.kl; omega, by have := h.ol; omega, by have := h.nl; omega, h.nb⟩
def grV (l : List Ep) (k : Int) : Int := l.foldl (fun n x => if x.2 = k ∧ x.1 > n then x.1 else n) 0
theorem grV_snoc (l : List Ep) (x : Ep) (k : Int) : grV (l ++ [x]) k = if x.2 = k ∧ x.1 > grV l k then x.1 else grV l k := by rw [grV, List.foldl_append]; rfl
theorem greatest_st {s : Sl} {l : List Ep} (h : Rd w s 2 (eps l)) (hl : l.length ≤ 1000000000) (k : Int) : CallK Try.prog (.int .i64) 60 #[.slice s.a s.len s.cap, .int .i64 k] w fun (v : Int) w' => v = grV l k ∧ w' = w := by
  have hsl : s.len = l.length := by have := h.1; rw [flat_len epv_len] at this; omega
  refine T60.calls ?_
  unfold T60
  refine LoopX.mk (fun st w' => ∃ (m : Nat), st = (grV (l.take m) k, (m : Int), ()) ∧ m ≤ l.length ∧ w' = w) (fun st => ((l.length : Int) - st.2.1).toNat) ⟨0, rfl, Nat.zero_le _, rfl⟩ ?_
  rintro _ w1 ⟨m, rfl, hm, rfl⟩ kk hk
  dsimp only at hk ⊢
  rw [SplitB_iff]
  refine ⟨fun hc => ?_, fun hc => ?_⟩
  · have hc : m < l.length := by have : (m : Int) < (s.len : Int) := of_decide_eq_true hc; omega
    have hem : IntKind.i64.wrap ((m : Int) + 1) = ((m + 1 : Nat) : Int) := by rw [wr (by omega)]; omega
    rw [hem]
    have hs := grV_snoc (l.take m) l[m] k
    rw [← List.take_succ_eq_append_getElem hc] at hs
    refine JoinX.mk (fun (y : Int × Unit) w' => y.1 = grV (l.take (m + 1)) k ∧ w' = w1) ?_ ?_
    · rintro ⟨y, ⟨⟩⟩ w2 ⟨hy, rfl⟩
      dsimp only at hy
      subst hy
      exact hk _ _ ⟨m + 1, rfl, by omega, rfl⟩ (by dsimp only; omega)
    · intro k3 hk3
      have e0 : ∀ (b o : Nat), ((⟨b, o + m * 2, none⟩ : Addr).add 0) = ⟨b, o + (m * 2 + 0), none⟩ := fun b o => by rw [add_lit']; rfl
      have e1 : ∀ (b o : Nat), ((⟨b, o + m * 2, none⟩ : Addr).add 1) = ⟨b, o + (m * 2 + 1), none⟩ := fun b o => by rw [add_lit']; rfl
      refine JoinX.mk (fun (y : Bool × Unit) w' => y.1 = decide (l[m].2 = k ∧ l[m].1 > grV (l.take m) k) ∧ w' = w1) ?_ ?_
      · rintro ⟨y, ⟨⟩⟩ w2 ⟨hy, rfl⟩
        dsimp only at hy
        subst hy
        rw [SplitB_iff]
        refine ⟨fun hd => ?_, fun hd => ?_⟩
        · have hd := of_decide_eq_true hd
          rw [if_pos hd] at hs
          refine h.idxK m rfl (by omega) ?_
          intro g o ha
          refine h.el ha (m * 2 + 0) (e0 g o) (kd := .int .i64) (x := l[m].1) (flat_cell epv_len hc 0 (by decide)) ?_
          exact hk3 _ _ ⟨hs.symm, rfl⟩
        · have hd := of_decide_eq_false hd
          rw [if_neg hd] at hs
          exact hk3 _ _ ⟨hs.symm, rfl⟩
      · intro k5 hk5
        refine h.idxK m rfl (by omega) ?_
        intro g o ha
        refine h.el ha (m * 2 + 1) (e1 g o) (kd := .int .i64) (x := l[m].2) (flat_cell epv_len hc 1 (by decide)) ?_
        rw [SplitB_iff]
        refine ⟨fun hd => ?_, fun hd => ?_⟩
        · have hd : l[m].2 = k := by simpa using hd
          refine h.idxK m rfl (by omega) ?_
          intro g o ha
          refine h.el ha (m * 2 + 0) (e0 g o) (kd := .int .i64) (x := l[m].1) (flat_cell epv_len hc 0 (by decide)) ?_
          exact hk5 _ _ ⟨by simp [hd], rfl⟩
        · have hd : ¬ l[m].2 = k := by simpa using hd
          exact hk5 _ _ ⟨by simp [hd], rfl⟩
  · have hc : m = l.length := by have : ¬ (m : Int) < (s.len : Int) := of_decide_eq_false hc; omega
    subst hc
    rw [List.take_length]
    exact ⟨rfl, rfl⟩
/-! ### what lives -/
def Rn.lv (r : Rn) (i : Nat) : Bool := decide (grV r.known (i : Int) > grV r.over (i : Int))
def Rn.livesTo (r : Rn) (m : Nat) : List Ep := ((List.range m).filter r.lv).map fun (i : Nat) => (grV r.known (i : Int), (i : Int))
def Rn.lives (r : Rn) : List Ep := r.livesTo r.n
def Rn.top (r : Rn) : Ep := topE r.lives
def Rn.own (r : Rn) : Ep := (r.lives.find? fun x => x.2 == (r.me : Int)).getD (0, 0)
theorem rlivesTo_succ (r : Rn) (m : Nat) : r.livesTo (m + 1) = r.livesTo m ++ (if r.lv m = true then [(grV r.known (m : Int), (m : Int))] else []) := by
  rw [Rn.livesTo, List.range_succ, List.filter_append, List.map_append, Rn.livesTo]
  congr 1
  rw [List.filter_cons, List.filter_nil]
  split <;> simp
theorem rlivesTo_len (r : Rn) (m : Nat) : (r.livesTo m).length ≤ m := by
  rw [Rn.livesTo, List.length_map]
  exact Nat.le_trans (List.length_filter_le _ _) (by simp)
theorem rlives_st {r : Rm} {N : Nat} (h : St w0 w (rmE r :: F)) (hw : r.wf N) (hN : N ≤ 1000000000) : CallK Try.prog .sl 57 #[.pointer r.p] w
    fun (s : Sl) w' => s.len = r.lives.length ∧ St w0 w' ([.row 54 2 s (eps r.lives)] :: rmE r :: F) := by
  refine T57.calls ?_
  unfold T57
  have hn := hw.n
  have h := h.nilrow 54 2
  refine LoopX.mk (fun st w' => ∃ (s : Sl) (m : Nat), st = (s, (m : Int), ()) ∧ m ≤ r.n ∧ s.len = (r.livesTo m).length ∧ St w0 w' ([.row 54 2 s (eps (r.livesTo m))] :: rmE r :: F)) (fun st => ((r.n : Int) - st.2.1).toNat) ⟨_, 0, rfl, Nat.zero_le _, rfl, h⟩ ?_
  clear h
  rintro _ w1 ⟨s, m, rfl, hm, hs, h⟩ k hk
  dsimp only at hk ⊢
  refine NilP.mk ?_
  refine h.loadB 1 0 ⟨_, rfl, rfl⟩ rfl rfl ?_
  rw [SplitB_iff]
  refine ⟨fun hc => ?_, fun hc => ?_⟩
  · have hc : m < r.n := by have : (m : Int) < (r.n : Int) := of_decide_eq_true hc; omega
    have hem : IntKind.i64.wrap ((m : Int) + 1) = ((m + 1 : Nat) : Int) := by rw [wr (by omega)]; omega
    rw [hem]
    have hll := rlivesTo_len r.toRn m
    have e3 := rlivesTo_succ r.toRn m
    refine JoinX.mk (fun (y : Sl × Unit) w' => y.1.len = (r.livesTo (m + 1)).length ∧ St w0 w' ([.row 54 2 y.1 (eps (r.livesTo (m + 1)))] :: rmE r :: F)) ?_ ?_
    · rintro ⟨y, ⟨⟩⟩ w2 ⟨hy, h⟩
      exact hk _ _ ⟨y, m + 1, rfl, by omega, hy, h⟩ (by dsimp only; omega)
    · intro k3 hk3
      refine NilP.mk ?_
      refine h.loadB 1 0 ⟨_, rfl, rfl⟩ rfl (kd := .sl) (x := r.kq) rfl ?_
      refine (greatest_st (h.rd (k := 1) (i := 1) (E := 54) (sz := 2) (s := r.kq) (vs := eps r.known) ⟨_, rfl, rfl⟩) (by have := hw.kl; omega) _).mono ?_
      rintro _ w2 ⟨rfl, rfl⟩
      refine NilP.mk ?_
      refine h.loadB 1 0 ⟨_, rfl, rfl⟩ rfl (kd := .sl) (x := r.oq) rfl ?_
      refine (greatest_st (h.rd (k := 1) (i := 2) (E := 54) (sz := 2) (s := r.oq) (vs := eps r.over) ⟨_, rfl, rfl⟩) (by have := hw.ol; omega) _).mono ?_
      rintro _ w3 ⟨rfl, rfl⟩
      rw [SplitB_iff]
      refine ⟨fun hl => ?_, fun hl => ?_⟩
      · have hl : r.lv m = true := hl
        rw [if_pos hl] at e3
        refine h.newS 2 (bs78 _ _ _) rfl rfl rfl ?_
        intro u w3 hu1 hu2 _ h
        refine h.app 1 0 ⟨_, rfl, rfl⟩ (h.rd (k := 0) (i := 0) ⟨_, rfl, rfl⟩) (fun v hv => ?_) (by simp only [maxLen]; omega) (by omega) ?_
        · simp at hv; rcases hv with rfl | rfl <;> rfl
        intro s' w4 hl' h
        have h := h.drop 0
        refine hk3 _ _ ⟨?_, ?_⟩
        · rw [e3]; dsimp only; rw [hl', hs, hu1]; simp
        · rw [e3, eps, List.flatMap_append]; exact h
      · have hl : ¬ r.lv m = true := by rw [show r.lv m = false from hl]; decide
        rw [if_neg hl, List.append_nil] at e3
        refine hk3 _ _ ⟨?_, ?_⟩
        · rw [e3]; exact hs
        · rw [e3]; exact h
  · have hc : m = r.n := by have : ¬ (m : Int) < (r.n : Int) := of_decide_eq_false hc; omega
    subst hc
    exact ⟨hs, h⟩
theorem rtop_st {r : Rm} {N : Nat} (h : St w0 w (rmE r :: F)) (hw : r.wf N) (hN : N ≤ 1000000000) : CallK Try.prog (.agg (.cons (.int .i64) (.cons (.int .i64) .nilT))) 63 #[.pointer r.p] w
    fun (v : Int × Int × Unit) w' => v = (r.top.1, r.top.2, ()) ∧ St w0 w' (rmE r :: F) := by
  refine T63.calls ?_
  unfold T63
  first | refine h.newB (NewC.run _) rfl ?_ | refine h.drew.newB (NewC.run _) rfl ?_
  intro b2 w h
  have h := h.ord 2 [1, 0]
  dsimp only [pick, nthO, dropO] at h
  first | refine h.newB (NewC.run _) rfl ?_ | refine h.drew.newB (NewC.run _) rfl ?_
  intro b1 w h
  have h := h.ord 2 [1, 0]
  dsimp only [pick, nthO, dropO] at h
  refine (rlives_st h hw hN).mono ?_
  rintro s w1 ⟨hs, h⟩
  have hll : r.lives.length ≤ r.n := rlivesTo_len r.toRn r.n
  have hn := hw.n
  refine LoopX.mk (fun st w' => ∃ (m : Nat), st = ((m : Int), ()) ∧ m ≤ r.lives.length ∧ St w0 w' ([.row 54 2 s (eps r.lives)] :: rmE r :: [.cel b1 54 (epv (topE (r.lives.take m)))] :: [.cel b2 54 [.int .i64 0, .int .i64 0]] :: F)) (fun st => ((r.lives.length : Int) - st.1).toNat) ⟨0, rfl, Nat.zero_le _, h⟩ ?_
  clear h
  rintro _ w2 ⟨m, rfl, hm, h⟩ k hk
  dsimp only at hk ⊢
  rw [hs]
  rw [SplitB_iff]
  refine ⟨fun hc => ?_, fun hc => ?_⟩
  · have hc : m < r.lives.length := by have : (m : Int) < (r.lives.length : Int) := of_decide_eq_true hc; omega
    have hem : IntKind.i64.wrap ((m : Int) + 1) = ((m + 1 : Nat) : Int) := by rw [wr (by omega)]; omega
    rw [hem, ← hs]
    have et := topE_snoc (r.lives.take m) r.lives[m]
    rw [← List.take_succ_eq_append_getElem hc] at et
    refine JoinX.mk (fun (_ : Unit) w' => St w0 w' ([.row 54 2 s (eps r.lives)] :: rmE r :: [.cel b1 54 (epv (topE (r.lives.take (m + 1))))] :: [.cel b2 54 [.int .i64 0, .int .i64 0]] :: F)) ?_ ?_
    · rintro ⟨⟩ w3 h
      exact hk _ _ ⟨m + 1, rfl, by omega, h⟩ (by dsimp only; omega)
    · intro k3 hk3
      have hrr := h.drew.rd (k := 0) (i := 0) (E := 54) (sz := 2) (s := s) (vs := eps r.lives) ⟨_, rfl, rfl⟩
      refine hrr.idxR m rfl (by omega) ?_
      intro g o ha
      refine hrr.elR ha (m * 2 + 0) (by rw [add_lit']; rfl) (kd := .int .i64) (x := r.lives[m].1) (flat_cell epv_len hc 0 (by decide)) ?_
      have h : St w0 w2 ([.row 54 2 s (eps r.lives)] :: rmE r :: [.cel b1 54 [.int .i64 (topE (r.lives.take m)).1, .int .i64 (topE (r.lives.take m)).2]] :: [.cel b2 54 [.int .i64 0, .int .i64 0]] :: F) := h
      refine h.drew.readB 2 0 ⟨_, rfl, rfl⟩ rfl rfl ?_
      rw [SplitB_iff]
      refine ⟨fun hd => ?_, fun hd => ?_⟩
      · have hd : r.lives[m].1 ≥ (topE (r.lives.take m)).1 := of_decide_eq_true hd
        rw [if_pos hd] at et
        refine hrr.idxK m rfl (by omega) ?_
        intro g o ha
        refine Rd.el2 hrr ha hc ?_
        refine h.drew.stor2 2 0 ⟨_, rfl, rfl⟩ rfl ?_
        intro w h
        dsimp only [updG, setO] at h
        refine hk3 _ _ ?_
        rw [et]; exact h
      · have hd : ¬ r.lives[m].1 ≥ (topE (r.lives.take m)).1 := of_decide_eq_false hd
        rw [if_neg hd] at et
        refine hk3 _ _ ?_
        rw [et]; exact h.drew
  · have hc : m = r.lives.length := by have : ¬ (m : Int) < (r.lives.length : Int) := of_decide_eq_false hc; omega
    subst hc
    rw [List.take_length] at h
    have h : St w0 w2 ([.row 54 2 s (eps r.lives)] :: rmE r :: [.cel b1 54 [.int .i64 (topE r.lives).1, .int .i64 (topE r.lives).2]] :: [.cel b2 54 [.int .i64 0, .int .i64 0]] :: F) := h
    refine h.load2 2 0 ⟨_, rfl, rfl⟩ rfl ?_
    refine h.stor2 3 0 ⟨_, rfl, rfl⟩ rfl ?_
    intro w h
    dsimp only [updG, setO] at h
    refine h.read2 3 0 ⟨_, rfl, rfl⟩ rfl ?_
    exact ⟨rfl, ((h.drop 0).drop 1).drop 1⟩
theorem rown_st {r : Rm} {N : Nat} (h : St w0 w (rmE r :: F)) (hw : r.wf N) (hN : N ≤ 1000000000) : CallK Try.prog (.agg (.cons (.int .i64) (.cons (.int .i64) .nilT))) 30 #[.pointer r.p] w
    fun (v : Int × Int × Unit) w' => v = (r.own.1, r.own.2, ()) ∧ St w0 w' (rmE r :: F) := by
  refine T30.calls ?_
  unfold T30
  first | refine h.newB (NewC.run _) rfl ?_ | refine h.drew.newB (NewC.run _) rfl ?_
  intro b2 w h
  have h := h.ord 2 [1, 0]
  dsimp only [pick, nthO, dropO] at h
  refine (rlives_st h hw hN).mono ?_
  rintro s w1 ⟨hs, h⟩
  have hll : r.lives.length ≤ r.n := rlivesTo_len r.toRn r.n
  have hn := hw.n
  refine LoopX.mk (fun st w' => ∃ (m : Nat), st = ((m : Int), ()) ∧ m ≤ r.lives.length ∧ (∀ j (hj : j < r.lives.length), j < m → r.lives[j].2 ≠ (r.me : Int)) ∧ St w0 w' ([.row 54 2 s (eps r.lives)] :: rmE r :: [.cel b2 54 [.int .i64 0, .int .i64 0]] :: F)) (fun st => ((r.lives.length : Int) - st.1).toNat) ⟨0, rfl, Nat.zero_le _, fun j _ hj => by omega, h⟩ ?_
  clear h
  rintro _ w2 ⟨m, rfl, hm, hno, h⟩ k hk
  dsimp only at hk ⊢
  rw [hs]
  rw [SplitB_iff]
  refine ⟨fun hc => ?_, fun hc => ?_⟩
  · have hc : m < r.lives.length := by have : (m : Int) < (r.lives.length : Int) := of_decide_eq_true hc; omega
    have hem : IntKind.i64.wrap ((m : Int) + 1) = ((m + 1 : Nat) : Int) := by rw [wr (by omega)]; omega
    rw [hem, ← hs]
    have hrr := h.drew.rd (k := 0) (i := 0) (E := 54) (sz := 2) (s := s) (vs := eps r.lives) ⟨_, rfl, rfl⟩
    refine hrr.idxR m rfl (by omega) ?_
    intro g o ha
    refine hrr.elR ha (m * 2 + 1) (by rw [add_lit']; rfl) (kd := .int .i64) (x := r.lives[m].2) (flat_cell epv_len hc 1 (by decide)) ?_
    refine NilP.mk ?_
    refine h.drew.readB 1 0 ⟨_, rfl, rfl⟩ rfl rfl ?_
    rw [SplitB_iff]
    refine ⟨fun hd => ?_, fun hd => ?_⟩
    · have hd : r.lives[m].2 = (r.me : Int) := by simpa using hd
      refine hrr.idxK m rfl (by omega) ?_
      intro g o ha
      refine Rd.el2 hrr ha hc ?_
      refine h.drew.stor2 2 0 ⟨_, rfl, rfl⟩ rfl ?_
      intro w h
      dsimp only [updG, setO] at h
      refine h.read2 2 0 ⟨_, rfl, rfl⟩ rfl ?_
      have hf : r.lives.find? (fun x => x.2 == (r.me : Int)) = some r.lives[m] := by
        rw [List.find?_eq_some_iff_getElem]
        exact ⟨by simpa using hd, m, hc, rfl, fun j hj => by simpa using hno j (by omega) hj⟩
      refine ⟨?_, (h.drop 0).drop 1⟩
      rw [Rn.own, hf]; rfl
    · have hd : ¬ r.lives[m].2 = (r.me : Int) := by simpa using hd
      refine hk _ _ ⟨m + 1, rfl, by omega, fun j hj hjm => ?_, h.drew⟩ (by dsimp only; omega)
      rcases Nat.lt_or_ge j m with h1 | h1
      · exact hno j hj h1
      · have : j = m := by omega
        subst this; exact hd
  · have hc : m = r.lives.length := by have : ¬ (m : Int) < (r.lives.length : Int) := of_decide_eq_false hc; omega
    refine h.stor2 2 0 ⟨_, rfl, rfl⟩ rfl ?_
    intro w h
    dsimp only [updG, setO] at h
    refine h.read2 2 0 ⟨_, rfl, rfl⟩ rfl ?_
    have hf : r.lives.find? (fun x => x.2 == (r.me : Int)) = none := by
      rw [List.find?_eq_none]
      intro x hx
      obtain ⟨j, hj, rfl⟩ := List.mem_iff_getElem.1 hx
      simpa using hno j hj (by omega)
    refine ⟨?_, (h.drop 0).drop 1⟩
    rw [Rn.own, hf]; rfl
theorem rfrozen_st {r : Rm} {N : Nat} (h : St w0 w (rmE r :: F)) (hw : r.wf N) (hN : N ≤ 1000000000) : CallK Try.prog .bool 59 #[.pointer r.p] w fun (v : Bool) w' => v = decide (r.lives.length > 0) ∧ St w0 w' (rmE r :: F) := by
  refine T59.calls ?_
  unfold T59
  refine (rlives_st h hw hN).mono ?_
  rintro s w1 ⟨hs, h⟩
  refine ⟨?_, h.drop 0⟩
  rw [hs]
  exact Bool.eq_iff_iff.2 (by simp)
/-! ### reports -/
def isN (own : Ep) (k : Int) (x : Nt) : Bool := x.1 == k && (x.2.2.1 == own.1 && x.2.2.2 == own.2)
def repV (l : List Nt) (own : Ep) (k : Int) : Option Int := if own.1 > 0 then ((l.filter (isN own k)).getLast?).map (·.2.1) else none
def Rn.rep (r : Rn) (k : Int) : Option Int := repV r.notes r.own k
theorem last_filter {α : Type} {l : List α} {p : α → Bool} {m : Nat} (hm : m < l.length) (hp : p l[m] = true) (hno : ∀ j (hj : j < l.length), m < j → p l[j] = false) : (l.filter p).getLast? = some l[m] := by
  have e1 : l = l.take m ++ l[m] :: l.drop (m + 1) := by rw [← List.drop_eq_getElem_cons hm, List.take_append_drop]
  have e2 : (l.drop (m + 1)).filter p = [] := by
    rw [List.filter_eq_nil_iff]
    intro x hx
    obtain ⟨j, hj, rfl⟩ := List.mem_iff_getElem.1 hx
    rw [List.getElem_drop, hno _ _ (by omega)]; decide
  conv => lhs; rw [e1]
  rw [List.filter_append, List.filter_cons, if_pos hp, e2]
  simp
theorem rep_st {r : Rm} {N : Nat} (h : St w0 w (rmE r :: F)) (hw : r.wf N) (hN : N ≤ 1000000000) (k : Int) : CallK Try.prog (.tup (.cons (.int .i64) (.cons .bool .nilT))) 76 #[.pointer r.p, .int .i64 k] w
    fun (v : Int × Bool × Unit) w' => v = ((r.rep k).getD 0, (r.rep k).isSome, ()) ∧ St w0 w' (rmE r :: F) := by
  refine T76.calls ?_
  unfold T76
  refine (rown_st h hw hN).mono ?_
  rintro _ w1 ⟨rfl, h⟩
  first | refine h.newB (NewC.run _) rfl ?_ | refine h.drew.newB (NewC.run _) rfl ?_
  intro b6 w h
  have h := h.ord 2 [1, 0]
  dsimp only [pick, nthO, dropO] at h
  refine h.stor2 1 0 ⟨_, rfl, rfl⟩ rfl ?_
  intro w2 h
  dsimp only [updG, setO] at h
  refine NilP.mk ?_
  refine h.loadB 0 0 ⟨_, rfl, rfl⟩ rfl (kd := .sl) (x := r.nq) rfl ?_
  have hnl := hw.nl
  have hql : r.nq.len = r.notes.length := by have := (h.rd (k := 0) (i := 3) (E := 118) (sz := 4) (s := r.nq) (vs := nts r.notes) ⟨_, rfl, rfl⟩).1; rw [flat_len ntv_len] at this; omega
  have e0 : IntKind.i64.wrap ((r.nq.len : Int) - 1) = (r.notes.length : Int) - 1 := by rw [wr (by omega)]; omega
  rw [e0]
  refine LoopX.mk (fun st w' => ∃ (m : Nat), st = ((m : Int) - 1, ()) ∧ m ≤ r.notes.length ∧ (r.own.1 > 0 → ∀ j (hj : j < r.notes.length), m ≤ j → isN r.own k r.notes[j] = false) ∧ St w0 w' (rmE r :: [.cel b6 54 [.int .i64 r.own.1, .int .i64 r.own.2]] :: F)) (fun st => (st.1 + 1).toNat) ⟨r.notes.length, rfl, Nat.le_refl _, fun _ j hj h => by omega, h⟩ ?_
  clear h
  rintro _ w3 ⟨m, rfl, hm, hno, h⟩ kk hk
  dsimp only at hk ⊢
  rw [SplitB_iff]
  refine ⟨fun hc => ?_, fun hc => ?_⟩
  · obtain ⟨i, rfl⟩ : ∃ i, m = i + 1 := ⟨m - 1, by have : (m : Int) - 1 ≥ 0 := of_decide_eq_true hc; omega⟩
    have hi : i < r.notes.length := by omega
    have ei : ((i + 1 : Nat) : Int) - 1 = (i : Int) := by omega
    have ew : IntKind.i64.wrap ((i : Int) - 1) = (i : Int) - 1 := wr (by omega)
    rw [ei, ew]
    rw [ei] at hk
    have hrd : ∀ {w' : World}, St w0 w' (rmE r :: [.cel b6 54 [.int .i64 r.own.1, .int .i64 r.own.2]] :: F) → Rd w' r.nq 4 (nts r.notes) := fun h => h.rd (k := 0) (i := 3) (E := 118) (sz := 4) (s := r.nq) (vs := nts r.notes) ⟨_, rfl, rfl⟩
    refine JoinX.mk (fun (y : Bool × Unit) w' => y.1 = (isN r.own k r.notes[i] && decide (r.own.1 > 0)) ∧ St w0 w' (rmE r :: [.cel b6 54 [.int .i64 r.own.1, .int .i64 r.own.2]] :: F)) ?_ ?_
    · rintro ⟨y, ⟨⟩⟩ w4 ⟨hy, h⟩
      dsimp only at hy
      subst hy
      rw [SplitB_iff]
      refine ⟨fun hd => ?_, fun hd => ?_⟩
      · have hd2 : isN r.own k r.notes[i] = true ∧ r.own.1 > 0 := by
          rw [Bool.and_eq_true] at hd; exact ⟨hd.1, of_decide_eq_true hd.2⟩
        refine NilP.mk ?_
        refine h.loadB 0 0 ⟨_, rfl, rfl⟩ rfl (kd := .sl) (x := r.nq) rfl ?_
        refine (hrd h).idxK i rfl (by omega) ?_
        intro g o ha
        refine (hrd h).el ha (i * 4 + 1) (by rw [add_lit']; rfl) (kd := .int .i64) (x := r.notes[i].2.1) (flat_cell ntv_len hi 1 (by decide)) ?_
        have hr : r.rep k = some r.notes[i].2.1 := by
          rw [Rn.rep, repV, if_pos hd2.2, last_filter hi hd2.1 fun j hj hj2 => hno hd2.2 j hj (by omega)]; rfl
        exact ⟨by rw [hr]; rfl, h.drop 1⟩
      · refine hk _ _ ⟨i, rfl, by omega, fun h0 j hj hj2 => ?_, h⟩ (by dsimp only; omega)
        rcases Nat.lt_or_ge i j with h1 | h1
        · exact hno h0 j hj (by omega)
        · have : j = i := by omega
          subst this
          rw [decide_eq_true h0, Bool.and_true] at hd
          exact hd
    · intro k3 hk3
      refine NilP.mk ?_
      refine h.drew.readB 0 0 ⟨_, rfl, rfl⟩ rfl (kd := .sl) (x := r.nq) rfl ?_
      refine (hrd h.drew).idxR i rfl (by omega) ?_
      intro g o ha
      refine (hrd h.drew).elR ha (i * 4 + 0) (by rw [add_lit']; rfl) (kd := .int .i64) (x := r.notes[i].1) (flat_cell ntv_len hi 0 (by decide)) ?_
      rw [SplitB_iff]
      refine ⟨fun hd => ?_, fun hd => ?_⟩
      · have hd : (r.notes[i].1 == k) = true := hd
        refine NilP.mk ?_
        refine h.drew.readB 0 0 ⟨_, rfl, rfl⟩ rfl (kd := .sl) (x := r.nq) rfl ?_
        refine (hrd h.drew).idxR i rfl (by omega) ?_
        intro g o ha
        refine (hrd h.drew).elAR ha (i * 4 + 2) (by rw [add_lit']; rfl) (kd := Kd2) (r.notes[i].2.2.1, r.notes[i].2.2.2, ()) (flat_part ntv_len hi 2 2 (by decide)) ?_
        refine h.drew.read2 1 0 ⟨_, rfl, rfl⟩ rfl ?_
        refine ReadN.k2Eq ?_
        rw [SplitB_iff]
        refine ⟨fun hf => ?_, fun hf => ?_⟩
        · have hf : (r.notes[i].2.2.1 == r.own.1 && r.notes[i].2.2.2 == r.own.2) = true := hf
          refine h.drew.readB 1 0 ⟨_, rfl, rfl⟩ rfl rfl ?_
          exact hk3 _ _ ⟨by dsimp only; rw [isN, hd, hf]; rfl, h.drew⟩
        · have hf : (r.notes[i].2.2.1 == r.own.1 && r.notes[i].2.2.2 == r.own.2) = false := hf
          exact hk3 _ _ ⟨by dsimp only; rw [isN, hd, hf]; rfl, h.drew⟩
      · have hd : (r.notes[i].1 == k) = false := hd
        exact hk3 _ _ ⟨by dsimp only; rw [isN, hd]; rfl, h.drew⟩
  · have hc : m = 0 := by have : ¬ (m : Int) - 1 ≥ 0 := of_decide_eq_false hc; omega
    have hr : r.rep k = none := by
      rw [Rn.rep, repV]
      split
      · rename_i h0
        have : r.notes.filter (isN r.own k) = [] := by
          rw [List.filter_eq_nil_iff]
          intro x hx
          obtain ⟨j, hj, rfl⟩ := List.mem_iff_getElem.1 hx
          rw [hno h0 j hj (by omega)]; decide
        rw [this]; rfl
      · rfl
    exact ⟨by rw [hr]; rfl, h.drop 1⟩
end Go.Proofs.Ytmfbmfppjdkeeaa

/- The document's machine of epochs: what changes it. -/
namespace Go.Proofs.Ytmfbmfppjdkeeaa
open Go Go.Fw Go.RowKit
set_option linter.unusedVariables false
set_option linter.unusedSimpArgs false
set_option maxRecDepth 4000
set_option maxHeartbeats 2000000
variable {w0 w : World} {F G : Grps}

/-! ### an epoch more in a list -/
theorem appKnown {r : Rm} (h : St w0 w (rmE r :: F)) (hl : r.known.length ≤ 1000000000) (k : Nat) {b : Nat} {x y : Int} (he : Has (rmE r :: F) k 0 (.cel b 54 [.int .i64 x, .int .i64 y])) {K : World → Prop}
    (hk : ∀ q' w', St w0 w' (rmE { r with known := r.known ++ [(x, y)], kq := q' } :: F) → K w') :
    NilP r.p fun t50 =>
      ReadN Try.prog .sl (V (Instr.loadAt 78 (.pointer (some (t50.add 2))))) w.drew fun t52 =>
      ReadN Try.prog (.agg (.cons (.int .i64) (.cons (.int .i64) .nilT))) (V (Instr.loadAt 54 (.pointer (some ⟨b, 0, none⟩)))) w.drew fun t53 =>
      RunN Try.prog .sl (V (Instr.buildSlice 78 1 #[(0, .agg #[.int .i64 t53.1, .int .i64 t53.2.1])])) w.drew fun t54 w =>
      StillV Try.prog (V (Instr.loadAt 78 (.pointer (some (t50.add 2))))) (.slice t52.a t52.len t52.cap) w ∧
      RunN Try.prog .sl (V (Builtin.append_ #[78, 78] 78 #[.slice t52.a t52.len t52.cap, .slice t54.a t54.len t54.cap])) w fun t55 w =>
      NilP r.p fun t56 =>
      RunU Try.prog (U (Instr.storeAt 78 (.pointer (some (t56.add 2))) (.slice t55.a t55.len t55.cap))) w K := by
  have hql : r.kq.len = r.known.length := by have := (h.rd (k := 0) (i := 1) (E := 54) (sz := 2) (s := r.kq) (vs := eps r.known) ⟨_, rfl, rfl⟩).1; rw [flat_len epv_len] at this; omega
  refine NilP.mk ?_
  refine h.drew.readB 0 0 ⟨_, rfl, rfl⟩ rfl (kd := .sl) (x := r.kq) rfl ?_
  refine h.drew.read2 k 0 he rfl ?_
  refine h.drew.newS 2 (bs78 _ _ _) rfl rfl rfl ?_
  intro u w1 hu1 hu2 _ h
  refine ⟨h.stillB 1 0 ⟨_, rfl, rfl⟩ rfl rfl, ?_⟩
  refine h.app 1 1 ⟨_, rfl, rfl⟩ (h.rd (k := 0) (i := 0) ⟨_, rfl, rfl⟩) (fun v hv => ?_) (by simp only [maxLen]; omega) (by omega) ?_
  · simp at hv; rcases hv with rfl | rfl <;> rfl
  intro s' w2 hl' h
  have h := h.drop 0
  refine NilP.mk ?_
  refine h.storB 0 0 (j := 2) ⟨_, rfl, rfl⟩ rfl rfl rfl ?_
  intro w3 h
  refine hk s' w3 ?_
  have e : eps (r.known ++ [(x, y)]) = eps r.known ++ [.int .i64 x, .int .i64 y] := by rw [eps, List.flatMap_append]; rfl
  rw [rmE, show ({ r with known := r.known ++ [(x, y)], kq := s' } : Rm).known = r.known ++ [(x, y)] from rfl, e]
  exact h
theorem appOver {r : Rm} (h : St w0 w (rmE r :: F)) (hl : r.over.length ≤ 1000000000) (k : Nat) {b : Nat} {x y : Int} (he : Has (rmE r :: F) k 0 (.cel b 54 [.int .i64 x, .int .i64 y])) {K : World → Prop}
    (hk : ∀ q' w', St w0 w' (rmE { r with over := r.over ++ [(x, y)], oq := q' } :: F) → K w') :
    NilP r.p fun t50 =>
      ReadN Try.prog .sl (V (Instr.loadAt 78 (.pointer (some (t50.add 3))))) w.drew fun t52 =>
      ReadN Try.prog (.agg (.cons (.int .i64) (.cons (.int .i64) .nilT))) (V (Instr.loadAt 54 (.pointer (some ⟨b, 0, none⟩)))) w.drew fun t53 =>
      RunN Try.prog .sl (V (Instr.buildSlice 78 1 #[(0, .agg #[.int .i64 t53.1, .int .i64 t53.2.1])])) w.drew fun t54 w =>
      StillV Try.prog (V (Instr.loadAt 78 (.pointer (some (t50.add 3))))) (.slice t52.a t52.len t52.cap) w ∧
      RunN Try.prog .sl (V (Builtin.append_ #[78, 78] 78 #[.slice t52.a t52.len t52.cap, .slice t54.a t54.len t54.cap])) w fun t55 w =>
      NilP r.p fun t56 =>
      RunU Try.prog (U (Instr.storeAt 78 (.pointer (some (t56.add 3))) (.slice t55.a t55.len t55.cap))) w K := by
  have hql : r.oq.len = r.over.length := by have := (h.rd (k := 0) (i := 2) (E := 54) (sz := 2) (s := r.oq) (vs := eps r.over) ⟨_, rfl, rfl⟩).1; rw [flat_len epv_len] at this; omega
  refine NilP.mk ?_
  refine h.drew.readB 0 0 ⟨_, rfl, rfl⟩ rfl (kd := .sl) (x := r.oq) rfl ?_
  refine h.drew.read2 k 0 he rfl ?_
  refine h.drew.newS 2 (bs78 _ _ _) rfl rfl rfl ?_
  intro u w1 hu1 hu2 _ h
  refine ⟨h.stillB 1 0 ⟨_, rfl, rfl⟩ rfl rfl, ?_⟩
  refine h.app 1 2 ⟨_, rfl, rfl⟩ (h.rd (k := 0) (i := 0) ⟨_, rfl, rfl⟩) (fun v hv => ?_) (by simp only [maxLen]; omega) (by omega) ?_
  · simp at hv; rcases hv with rfl | rfl <;> rfl
  intro s' w2 hl' h
  have h := h.drop 0
  refine NilP.mk ?_
  refine h.storB 0 0 (j := 3) ⟨_, rfl, rfl⟩ rfl rfl rfl ?_
  intro w3 h
  refine hk s' w3 ?_
  have e : eps (r.over ++ [(x, y)]) = eps r.over ++ [.int .i64 x, .int .i64 y] := by rw [eps, List.flatMap_append]; rfl
  rw [rmE, show ({ r with over := r.over ++ [(x, y)], oq := s' } : Rm).over = r.over ++ [(x, y)] from rfl, e]
  exact h
/-! ### small ones -/
theorem right_st (a b c : Int) : CallK Try.prog .bool 58 #[.int .i64 a, .int .i64 b, .int .i64 c] w fun (v : Bool) w' => v = (okA [a, b, c] && decide (a ≠ 0)) ∧ w' = w := by
  refine T58.calls ?_
  unfold T58
  rw [okA_three]
  rw [SplitB_iff]
  refine ⟨fun h1 => ?_, fun h1 => ?_⟩
  · have h1 := of_decide_eq_true h1
    rw [SplitB_iff]
    refine ⟨fun h2 => ?_, fun h2 => ?_⟩
    · have h2 := of_decide_eq_true h2
      rw [SplitB_iff]
      refine ⟨fun h3 => ?_, fun h3 => ?_⟩
      · have h3 := of_decide_eq_true h3
        rw [SplitB_iff]
        refine ⟨fun h4 => ?_, fun h4 => ?_⟩
        · have h4 := of_decide_eq_true h4
          rw [SplitB_iff]
          refine ⟨fun h5 => ?_, fun h5 => ?_⟩
          · have h5 := of_decide_eq_true h5
            refine ⟨?_, rfl⟩
            by_cases h6 : c ≤ 1099511627776
            · rw [decide_eq_true h6, decide_eq_true ⟨⟨by omega, h2⟩, ⟨h3, h4⟩, h5, h6⟩, decide_eq_true (by omega)]; rfl
            · rw [decide_eq_false h6, decide_eq_false (fun hh => h6 hh.2.2.2)]; rfl
          · have h5 := of_decide_eq_false h5
            exact ⟨by rw [decide_eq_false (fun hh => h5 hh.2.2.1)]; rfl, rfl⟩
        · have h4 := of_decide_eq_false h4
          exact ⟨by rw [decide_eq_false (fun hh => h4 hh.2.1.2)]; rfl, rfl⟩
      · have h3 := of_decide_eq_false h3
        exact ⟨by rw [decide_eq_false (fun hh => h3 hh.2.1.1)]; rfl, rfl⟩
    · have h2 := of_decide_eq_false h2
      exact ⟨by rw [decide_eq_false (fun hh => h2 hh.1.2)]; rfl, rfl⟩
  · have h1 := of_decide_eq_false h1
    refine ⟨?_, rfl⟩
    by_cases h2 : a = 0
    · rw [h2]; simp
    · rw [decide_eq_false (fun hh => by have := hh.1.1; omega)]; rfl
def Rn.one (r : Rn) (x : Ep) : Prop := 1 ≤ x.1 ∧ x.1 ≤ 1099511627776 ∧ 0 ≤ x.2 ∧ x.2 < (r.n : Int)
instance (r : Rn) (x : Ep) : Decidable (r.one x) := by unfold Rn.one; exact inferInstance
theorem one_st {r : Rm} (h : St w0 w (rmE r :: F)) (x : Ep) : CallK Try.prog .bool 66 #[.pointer r.p, .agg #[.int .i64 x.1, .int .i64 x.2]] w fun (v : Bool) w' => v = decide (r.one x) ∧ St w0 w' (rmE r :: F) := by
  refine T66.calls (p1 := (x.1, x.2, ())) ?_
  unfold T66
  first | refine h.newB run_boxA rfl ?_ | refine h.drew.newB run_boxA rfl ?_
  intro b3 w h
  have h := h.ord 2 [1, 0]
  dsimp only [pick, nthO, dropO] at h
  repeat (first | (with_reducible refine NilP.mk ?_) | ((with_reducible refine RunN.isLoad ?_); (first | refine h.load2 0 0 ⟨_, rfl, rfl⟩ rfl ?_ | refine h.loadB 0 0 ⟨_, rfl, rfl⟩ rfl rfl ?_ | refine h.load2 1 0 ⟨_, rfl, rfl⟩ rfl ?_ | refine h.loadB 1 0 ⟨_, rfl, rfl⟩ rfl rfl ?_ | refine h.drew.load2 0 0 ⟨_, rfl, rfl⟩ rfl ?_ | refine h.drew.loadB 0 0 ⟨_, rfl, rfl⟩ rfl rfl ?_ | refine h.drew.load2 1 0 ⟨_, rfl, rfl⟩ rfl ?_ | refine h.drew.loadB 1 0 ⟨_, rfl, rfl⟩ rfl rfl ?_)) | ((with_reducible refine ReadN.isLoad ?_); (first | refine h.read2 0 0 ⟨_, rfl, rfl⟩ rfl ?_ | refine h.readB 0 0 ⟨_, rfl, rfl⟩ rfl rfl ?_ | refine h.read2 1 0 ⟨_, rfl, rfl⟩ rfl ?_ | refine h.readB 1 0 ⟨_, rfl, rfl⟩ rfl rfl ?_ | refine h.drew.read2 0 0 ⟨_, rfl, rfl⟩ rfl ?_ | refine h.drew.readB 0 0 ⟨_, rfl, rfl⟩ rfl rfl ?_ | refine h.drew.read2 1 0 ⟨_, rfl, rfl⟩ rfl ?_ | refine h.drew.readB 1 0 ⟨_, rfl, rfl⟩ rfl rfl ?_)) | ((with_reducible refine StillV.isLoad ?_); (first | refine ⟨h.stillB 0 0 ⟨_, rfl, rfl⟩ rfl rfl, ?_⟩ | refine ⟨h.still2 0 0 ⟨_, rfl, rfl⟩ rfl, ?_⟩ | refine ⟨h.stillB 1 0 ⟨_, rfl, rfl⟩ rfl rfl, ?_⟩ | refine ⟨h.still2 1 0 ⟨_, rfl, rfl⟩ rfl, ?_⟩)) | ((with_reducible refine RunU.isStor ?_); (first | (refine h.stor2 0 0 ⟨_, rfl, rfl⟩ rfl ?_; intro w h; dsimp only [updG, setO] at h) | (refine h.storB 0 0 ⟨_, rfl, rfl⟩ rfl rfl rfl ?_; intro w h; dsimp only [updG, setO] at h) | (refine h.stor2 1 0 ⟨_, rfl, rfl⟩ rfl ?_; intro w h; dsimp only [updG, setO] at h) | (refine h.storB 1 0 ⟨_, rfl, rfl⟩ rfl rfl rfl ?_; intro w h; dsimp only [updG, setO] at h) | (refine h.drew.stor2 0 0 ⟨_, rfl, rfl⟩ rfl ?_; intro w h; dsimp only [updG, setO] at h) | (refine h.drew.storB 0 0 ⟨_, rfl, rfl⟩ rfl rfl rfl ?_; intro w h; dsimp only [updG, setO] at h) | (refine h.drew.stor2 1 0 ⟨_, rfl, rfl⟩ rfl ?_; intro w h; dsimp only [updG, setO] at h) | (refine h.drew.storB 1 0 ⟨_, rfl, rfl⟩ rfl rfl rfl ?_; intro w h; dsimp only [updG, setO] at h))) | ((with_reducible refine RunN.isBox ?_); (first | (refine h.newB run_boxA rfl ?_; intro bn w h; try dsimp only at h; have h := h.ord 2 [1, 0]; dsimp only [pick, nthO, dropO] at h) | (refine h.drew.newB run_boxA rfl ?_; intro bn w h; try dsimp only at h; have h := h.ord 2 [1, 0]; dsimp only [pick, nthO, dropO] at h))) | ((with_reducible refine RunN.isNew ?_); (first | (refine h.newB (NewC.run _) rfl ?_; intro bn w h; have h := h.ord 2 [1, 0]; dsimp only [pick, nthO, dropO] at h) | (refine h.drew.newB (NewC.run _) rfl ?_; intro bn w h; have h := h.ord 2 [1, 0]; dsimp only [pick, nthO, dropO] at h))) | (refine RunN.k2Eq ?_) | (refine RunN.k2Ne ?_) | (refine ReadN.k2Eq ?_) | (refine ReadN.k2Ne ?_))
  rw [SplitB_iff]
  refine ⟨fun h1 => ?_, fun h1 => ?_⟩
  · have h1 := of_decide_eq_true h1
    repeat (first | (with_reducible refine NilP.mk ?_) | ((with_reducible refine RunN.isLoad ?_); (first | refine h.load2 0 0 ⟨_, rfl, rfl⟩ rfl ?_ | refine h.loadB 0 0 ⟨_, rfl, rfl⟩ rfl rfl ?_ | refine h.load2 1 0 ⟨_, rfl, rfl⟩ rfl ?_ | refine h.loadB 1 0 ⟨_, rfl, rfl⟩ rfl rfl ?_ | refine h.drew.load2 0 0 ⟨_, rfl, rfl⟩ rfl ?_ | refine h.drew.loadB 0 0 ⟨_, rfl, rfl⟩ rfl rfl ?_ | refine h.drew.load2 1 0 ⟨_, rfl, rfl⟩ rfl ?_ | refine h.drew.loadB 1 0 ⟨_, rfl, rfl⟩ rfl rfl ?_)) | ((with_reducible refine ReadN.isLoad ?_); (first | refine h.read2 0 0 ⟨_, rfl, rfl⟩ rfl ?_ | refine h.readB 0 0 ⟨_, rfl, rfl⟩ rfl rfl ?_ | refine h.read2 1 0 ⟨_, rfl, rfl⟩ rfl ?_ | refine h.readB 1 0 ⟨_, rfl, rfl⟩ rfl rfl ?_ | refine h.drew.read2 0 0 ⟨_, rfl, rfl⟩ rfl ?_ | refine h.drew.readB 0 0 ⟨_, rfl, rfl⟩ rfl rfl ?_ | refine h.drew.read2 1 0 ⟨_, rfl, rfl⟩ rfl ?_ | refine h.drew.readB 1 0 ⟨_, rfl, rfl⟩ rfl rfl ?_)) | ((with_reducible refine StillV.isLoad ?_); (first | refine ⟨h.stillB 0 0 ⟨_, rfl, rfl⟩ rfl rfl, ?_⟩ | refine ⟨h.still2 0 0 ⟨_, rfl, rfl⟩ rfl, ?_⟩ | refine ⟨h.stillB 1 0 ⟨_, rfl, rfl⟩ rfl rfl, ?_⟩ | refine ⟨h.still2 1 0 ⟨_, rfl, rfl⟩ rfl, ?_⟩)) | ((with_reducible refine RunU.isStor ?_); (first | (refine h.stor2 0 0 ⟨_, rfl, rfl⟩ rfl ?_; intro w h; dsimp only [updG, setO] at h) | (refine h.storB 0 0 ⟨_, rfl, rfl⟩ rfl rfl rfl ?_; intro w h; dsimp only [updG, setO] at h) | (refine h.stor2 1 0 ⟨_, rfl, rfl⟩ rfl ?_; intro w h; dsimp only [updG, setO] at h) | (refine h.storB 1 0 ⟨_, rfl, rfl⟩ rfl rfl rfl ?_; intro w h; dsimp only [updG, setO] at h) | (refine h.drew.stor2 0 0 ⟨_, rfl, rfl⟩ rfl ?_; intro w h; dsimp only [updG, setO] at h) | (refine h.drew.storB 0 0 ⟨_, rfl, rfl⟩ rfl rfl rfl ?_; intro w h; dsimp only [updG, setO] at h) | (refine h.drew.stor2 1 0 ⟨_, rfl, rfl⟩ rfl ?_; intro w h; dsimp only [updG, setO] at h) | (refine h.drew.storB 1 0 ⟨_, rfl, rfl⟩ rfl rfl rfl ?_; intro w h; dsimp only [updG, setO] at h))) | ((with_reducible refine RunN.isBox ?_); (first | (refine h.newB run_boxA rfl ?_; intro bn w h; try dsimp only at h; have h := h.ord 2 [1, 0]; dsimp only [pick, nthO, dropO] at h) | (refine h.drew.newB run_boxA rfl ?_; intro bn w h; try dsimp only at h; have h := h.ord 2 [1, 0]; dsimp only [pick, nthO, dropO] at h))) | ((with_reducible refine RunN.isNew ?_); (first | (refine h.newB (NewC.run _) rfl ?_; intro bn w h; have h := h.ord 2 [1, 0]; dsimp only [pick, nthO, dropO] at h) | (refine h.drew.newB (NewC.run _) rfl ?_; intro bn w h; have h := h.ord 2 [1, 0]; dsimp only [pick, nthO, dropO] at h))) | (refine RunN.k2Eq ?_) | (refine RunN.k2Ne ?_) | (refine ReadN.k2Eq ?_) | (refine ReadN.k2Ne ?_))
    rw [SplitB_iff]
    refine ⟨fun h2 => ?_, fun h2 => ?_⟩
    · have h2 := of_decide_eq_true h2
      repeat (first | (with_reducible refine NilP.mk ?_) | ((with_reducible refine RunN.isLoad ?_); (first | refine h.load2 0 0 ⟨_, rfl, rfl⟩ rfl ?_ | refine h.loadB 0 0 ⟨_, rfl, rfl⟩ rfl rfl ?_ | refine h.load2 1 0 ⟨_, rfl, rfl⟩ rfl ?_ | refine h.loadB 1 0 ⟨_, rfl, rfl⟩ rfl rfl ?_ | refine h.drew.load2 0 0 ⟨_, rfl, rfl⟩ rfl ?_ | refine h.drew.loadB 0 0 ⟨_, rfl, rfl⟩ rfl rfl ?_ | refine h.drew.load2 1 0 ⟨_, rfl, rfl⟩ rfl ?_ | refine h.drew.loadB 1 0 ⟨_, rfl, rfl⟩ rfl rfl ?_)) | ((with_reducible refine ReadN.isLoad ?_); (first | refine h.read2 0 0 ⟨_, rfl, rfl⟩ rfl ?_ | refine h.readB 0 0 ⟨_, rfl, rfl⟩ rfl rfl ?_ | refine h.read2 1 0 ⟨_, rfl, rfl⟩ rfl ?_ | refine h.readB 1 0 ⟨_, rfl, rfl⟩ rfl rfl ?_ | refine h.drew.read2 0 0 ⟨_, rfl, rfl⟩ rfl ?_ | refine h.drew.readB 0 0 ⟨_, rfl, rfl⟩ rfl rfl ?_ | refine h.drew.read2 1 0 ⟨_, rfl, rfl⟩ rfl ?_ | refine h.drew.readB 1 0 ⟨_, rfl, rfl⟩ rfl rfl ?_)) | ((with_reducible refine StillV.isLoad ?_); (first | refine ⟨h.stillB 0 0 ⟨_, rfl, rfl⟩ rfl rfl, ?_⟩ | refine ⟨h.still2 0 0 ⟨_, rfl, rfl⟩ rfl, ?_⟩ | refine ⟨h.stillB 1 0 ⟨_, rfl, rfl⟩ rfl rfl, ?_⟩ | refine ⟨h.still2 1 0 ⟨_, rfl, rfl⟩ rfl, ?_⟩)) | ((with_reducible refine RunU.isStor ?_); (first | (refine h.stor2 0 0 ⟨_, rfl, rfl⟩ rfl ?_; intro w h; dsimp only [updG, setO] at h) | (refine h.storB 0 0 ⟨_, rfl, rfl⟩ rfl rfl rfl ?_; intro w h; dsimp only [updG, setO] at h) | (refine h.stor2 1 0 ⟨_, rfl, rfl⟩ rfl ?_; intro w h; dsimp only [updG, setO] at h) | (refine h.storB 1 0 ⟨_, rfl, rfl⟩ rfl rfl rfl ?_; intro w h; dsimp only [updG, setO] at h) | (refine h.drew.stor2 0 0 ⟨_, rfl, rfl⟩ rfl ?_; intro w h; dsimp only [updG, setO] at h) | (refine h.drew.storB 0 0 ⟨_, rfl, rfl⟩ rfl rfl rfl ?_; intro w h; dsimp only [updG, setO] at h) | (refine h.drew.stor2 1 0 ⟨_, rfl, rfl⟩ rfl ?_; intro w h; dsimp only [updG, setO] at h) | (refine h.drew.storB 1 0 ⟨_, rfl, rfl⟩ rfl rfl rfl ?_; intro w h; dsimp only [updG, setO] at h))) | ((with_reducible refine RunN.isBox ?_); (first | (refine h.newB run_boxA rfl ?_; intro bn w h; try dsimp only at h; have h := h.ord 2 [1, 0]; dsimp only [pick, nthO, dropO] at h) | (refine h.drew.newB run_boxA rfl ?_; intro bn w h; try dsimp only at h; have h := h.ord 2 [1, 0]; dsimp only [pick, nthO, dropO] at h))) | ((with_reducible refine RunN.isNew ?_); (first | (refine h.newB (NewC.run _) rfl ?_; intro bn w h; have h := h.ord 2 [1, 0]; dsimp only [pick, nthO, dropO] at h) | (refine h.drew.newB (NewC.run _) rfl ?_; intro bn w h; have h := h.ord 2 [1, 0]; dsimp only [pick, nthO, dropO] at h))) | (refine RunN.k2Eq ?_) | (refine RunN.k2Ne ?_) | (refine ReadN.k2Eq ?_) | (refine ReadN.k2Ne ?_))
      rw [SplitB_iff]
      refine ⟨fun h3 => ?_, fun h3 => ?_⟩
      · have h3 := of_decide_eq_true h3
        repeat (first | (with_reducible refine NilP.mk ?_) | ((with_reducible refine RunN.isLoad ?_); (first | refine h.load2 0 0 ⟨_, rfl, rfl⟩ rfl ?_ | refine h.loadB 0 0 ⟨_, rfl, rfl⟩ rfl rfl ?_ | refine h.load2 1 0 ⟨_, rfl, rfl⟩ rfl ?_ | refine h.loadB 1 0 ⟨_, rfl, rfl⟩ rfl rfl ?_ | refine h.drew.load2 0 0 ⟨_, rfl, rfl⟩ rfl ?_ | refine h.drew.loadB 0 0 ⟨_, rfl, rfl⟩ rfl rfl ?_ | refine h.drew.load2 1 0 ⟨_, rfl, rfl⟩ rfl ?_ | refine h.drew.loadB 1 0 ⟨_, rfl, rfl⟩ rfl rfl ?_)) | ((with_reducible refine ReadN.isLoad ?_); (first | refine h.read2 0 0 ⟨_, rfl, rfl⟩ rfl ?_ | refine h.readB 0 0 ⟨_, rfl, rfl⟩ rfl rfl ?_ | refine h.read2 1 0 ⟨_, rfl, rfl⟩ rfl ?_ | refine h.readB 1 0 ⟨_, rfl, rfl⟩ rfl rfl ?_ | refine h.drew.read2 0 0 ⟨_, rfl, rfl⟩ rfl ?_ | refine h.drew.readB 0 0 ⟨_, rfl, rfl⟩ rfl rfl ?_ | refine h.drew.read2 1 0 ⟨_, rfl, rfl⟩ rfl ?_ | refine h.drew.readB 1 0 ⟨_, rfl, rfl⟩ rfl rfl ?_)) | ((with_reducible refine StillV.isLoad ?_); (first | refine ⟨h.stillB 0 0 ⟨_, rfl, rfl⟩ rfl rfl, ?_⟩ | refine ⟨h.still2 0 0 ⟨_, rfl, rfl⟩ rfl, ?_⟩ | refine ⟨h.stillB 1 0 ⟨_, rfl, rfl⟩ rfl rfl, ?_⟩ | refine ⟨h.still2 1 0 ⟨_, rfl, rfl⟩ rfl, ?_⟩)) | ((with_reducible refine RunU.isStor ?_); (first | (refine h.stor2 0 0 ⟨_, rfl, rfl⟩ rfl ?_; intro w h; dsimp only [updG, setO] at h) | (refine h.storB 0 0 ⟨_, rfl, rfl⟩ rfl rfl rfl ?_; intro w h; dsimp only [updG, setO] at h) | (refine h.stor2 1 0 ⟨_, rfl, rfl⟩ rfl ?_; intro w h; dsimp only [updG, setO] at h) | (refine h.storB 1 0 ⟨_, rfl, rfl⟩ rfl rfl rfl ?_; intro w h; dsimp only [updG, setO] at h) | (refine h.drew.stor2 0 0 ⟨_, rfl, rfl⟩ rfl ?_; intro w h; dsimp only [updG, setO] at h) | (refine h.drew.storB 0 0 ⟨_, rfl, rfl⟩ rfl rfl rfl ?_; intro w h; dsimp only [updG, setO] at h) | (refine h.drew.stor2 1 0 ⟨_, rfl, rfl⟩ rfl ?_; intro w h; dsimp only [updG, setO] at h) | (refine h.drew.storB 1 0 ⟨_, rfl, rfl⟩ rfl rfl rfl ?_; intro w h; dsimp only [updG, setO] at h))) | ((with_reducible refine RunN.isBox ?_); (first | (refine h.newB run_boxA rfl ?_; intro bn w h; try dsimp only at h; have h := h.ord 2 [1, 0]; dsimp only [pick, nthO, dropO] at h) | (refine h.drew.newB run_boxA rfl ?_; intro bn w h; try dsimp only at h; have h := h.ord 2 [1, 0]; dsimp only [pick, nthO, dropO] at h))) | ((with_reducible refine RunN.isNew ?_); (first | (refine h.newB (NewC.run _) rfl ?_; intro bn w h; have h := h.ord 2 [1, 0]; dsimp only [pick, nthO, dropO] at h) | (refine h.drew.newB (NewC.run _) rfl ?_; intro bn w h; have h := h.ord 2 [1, 0]; dsimp only [pick, nthO, dropO] at h))) | (refine RunN.k2Eq ?_) | (refine RunN.k2Ne ?_) | (refine ReadN.k2Eq ?_) | (refine ReadN.k2Ne ?_))
        refine ⟨?_, h.drew.drop 1⟩
        by_cases h4 : x.2 < (r.n : Int)
        · rw [decide_eq_true h4, decide_eq_true ⟨h1, h2, h3, h4⟩]
        · rw [decide_eq_false h4, decide_eq_false fun hh => h4 hh.2.2.2]
      · have h3 := of_decide_eq_false h3
        exact ⟨(decide_eq_false fun hh => h3 hh.2.2.1).symm, h.drew.drop 1⟩
    · have h2 := of_decide_eq_false h2
      exact ⟨(decide_eq_false fun hh => h2 hh.2.1).symm, h.drew.drop 1⟩
  · have h1 := of_decide_eq_false h1
    exact ⟨(decide_eq_false fun hh => h1 hh.1).symm, h.drew.drop 1⟩
def Rn.told (r : Rn) (x : Ep) : Rn := if r.one x ∧ x.2 ≠ (r.me : Int) then { r with known := r.known ++ [x] } else r
theorem rwf_told {r : Rn} {N : Nat} (h : r.wf N) (x : Ep) : (r.told x).wf (N + 1) := by
  rw [Rn.told]
  split
  · exact ⟨h.n, h.me, by simp; have := h.kl; omega, by have := h.ol; dsimp only; omega, by have := h.nl; dsimp only; omega, h.nb⟩
  · exact h.mono (Nat.le_succ _)
theorem rtold_st {r : Rm} {N : Nat} (h : St w0 w (rmE r :: F)) (hw : r.wf N) (hN : N ≤ 1000000000) (x : Ep) : CallK Try.prog (.tup .nilT) 64 #[.pointer r.p, .agg #[.int .i64 x.1, .int .i64 x.2]] w
    fun (_ : Unit) w' => ∃ r' : Rm, r'.cb = r.cb ∧ r'.toRn = r.told x ∧ St w0 w' (rmE r' :: F) := by
  refine T64.calls (p1 := (x.1, x.2, ())) ?_
  unfold T64
  have hkl := hw.kl
  first | refine h.newB run_boxA rfl ?_ | refine h.drew.newB run_boxA rfl ?_
  intro b3 w h
  have h := h.ord 2 [1, 0]
  dsimp only [pick, nthO, dropO] at h
  refine JoinX.mk (fun (y : Bool × Unit) w' => y.1 = decide (r.one x ∧ x.2 ≠ (r.me : Int)) ∧ St w0 w' (rmE r :: [.cel b3 54 [.int .i64 x.1, .int .i64 x.2]] :: F)) ?_ ?_
  · rintro ⟨y, ⟨⟩⟩ w1 ⟨hy, h⟩
    dsimp only at hy
    subst hy
    rw [SplitB_iff]
    refine ⟨fun hc => ?_, fun hc => ?_⟩
    · have hc := of_decide_eq_true hc
      refine appKnown h (by omega) 1 ⟨_, rfl, rfl⟩ ?_
      intro q' w2 h
      exact ⟨{ r with known := r.known ++ [(x.1, x.2)], kq := q' }, rfl, by rw [Rn.told, if_pos hc], h.drop 1⟩
    · have hc := of_decide_eq_false hc
      exact ⟨r, rfl, by rw [Rn.told, if_neg hc], h.drop 1⟩
  · intro k hk
    repeat (first | (with_reducible refine NilP.mk ?_) | ((with_reducible refine RunN.isLoad ?_); (first | refine h.load2 0 0 ⟨_, rfl, rfl⟩ rfl ?_ | refine h.loadB 0 0 ⟨_, rfl, rfl⟩ rfl rfl ?_ | refine h.load2 1 0 ⟨_, rfl, rfl⟩ rfl ?_ | refine h.loadB 1 0 ⟨_, rfl, rfl⟩ rfl rfl ?_ | refine h.drew.load2 0 0 ⟨_, rfl, rfl⟩ rfl ?_ | refine h.drew.loadB 0 0 ⟨_, rfl, rfl⟩ rfl rfl ?_ | refine h.drew.load2 1 0 ⟨_, rfl, rfl⟩ rfl ?_ | refine h.drew.loadB 1 0 ⟨_, rfl, rfl⟩ rfl rfl ?_)) | ((with_reducible refine ReadN.isLoad ?_); (first | refine h.read2 0 0 ⟨_, rfl, rfl⟩ rfl ?_ | refine h.readB 0 0 ⟨_, rfl, rfl⟩ rfl rfl ?_ | refine h.read2 1 0 ⟨_, rfl, rfl⟩ rfl ?_ | refine h.readB 1 0 ⟨_, rfl, rfl⟩ rfl rfl ?_ | refine h.drew.read2 0 0 ⟨_, rfl, rfl⟩ rfl ?_ | refine h.drew.readB 0 0 ⟨_, rfl, rfl⟩ rfl rfl ?_ | refine h.drew.read2 1 0 ⟨_, rfl, rfl⟩ rfl ?_ | refine h.drew.readB 1 0 ⟨_, rfl, rfl⟩ rfl rfl ?_)) | ((with_reducible refine StillV.isLoad ?_); (first | refine ⟨h.stillB 0 0 ⟨_, rfl, rfl⟩ rfl rfl, ?_⟩ | refine ⟨h.still2 0 0 ⟨_, rfl, rfl⟩ rfl, ?_⟩ | refine ⟨h.stillB 1 0 ⟨_, rfl, rfl⟩ rfl rfl, ?_⟩ | refine ⟨h.still2 1 0 ⟨_, rfl, rfl⟩ rfl, ?_⟩)) | ((with_reducible refine RunU.isStor ?_); (first | (refine h.stor2 0 0 ⟨_, rfl, rfl⟩ rfl ?_; intro w h; dsimp only [updG, setO] at h) | (refine h.storB 0 0 ⟨_, rfl, rfl⟩ rfl rfl rfl ?_; intro w h; dsimp only [updG, setO] at h) | (refine h.stor2 1 0 ⟨_, rfl, rfl⟩ rfl ?_; intro w h; dsimp only [updG, setO] at h) | (refine h.storB 1 0 ⟨_, rfl, rfl⟩ rfl rfl rfl ?_; intro w h; dsimp only [updG, setO] at h) | (refine h.drew.stor2 0 0 ⟨_, rfl, rfl⟩ rfl ?_; intro w h; dsimp only [updG, setO] at h) | (refine h.drew.storB 0 0 ⟨_, rfl, rfl⟩ rfl rfl rfl ?_; intro w h; dsimp only [updG, setO] at h) | (refine h.drew.stor2 1 0 ⟨_, rfl, rfl⟩ rfl ?_; intro w h; dsimp only [updG, setO] at h) | (refine h.drew.storB 1 0 ⟨_, rfl, rfl⟩ rfl rfl rfl ?_; intro w h; dsimp only [updG, setO] at h))) | ((with_reducible refine RunN.isBox ?_); (first | (refine h.newB run_boxA rfl ?_; intro bn w h; try dsimp only at h; have h := h.ord 2 [1, 0]; dsimp only [pick, nthO, dropO] at h) | (refine h.drew.newB run_boxA rfl ?_; intro bn w h; try dsimp only at h; have h := h.ord 2 [1, 0]; dsimp only [pick, nthO, dropO] at h))) | ((with_reducible refine RunN.isNew ?_); (first | (refine h.newB (NewC.run _) rfl ?_; intro bn w h; have h := h.ord 2 [1, 0]; dsimp only [pick, nthO, dropO] at h) | (refine h.drew.newB (NewC.run _) rfl ?_; intro bn w h; have h := h.ord 2 [1, 0]; dsimp only [pick, nthO, dropO] at h))) | (refine RunN.k2Eq ?_) | (refine RunN.k2Ne ?_) | (refine ReadN.k2Eq ?_) | (refine ReadN.k2Ne ?_))
    refine (one_st h.drew x).mono ?_
    rintro _ w2 ⟨rfl, h⟩
    rw [SplitB_iff]
    refine ⟨fun h1 => ?_, fun h1 => ?_⟩
    · have h1 := of_decide_eq_true h1
      repeat (first | (with_reducible refine NilP.mk ?_) | ((with_reducible refine RunN.isLoad ?_); (first | refine h.load2 0 0 ⟨_, rfl, rfl⟩ rfl ?_ | refine h.loadB 0 0 ⟨_, rfl, rfl⟩ rfl rfl ?_ | refine h.load2 1 0 ⟨_, rfl, rfl⟩ rfl ?_ | refine h.loadB 1 0 ⟨_, rfl, rfl⟩ rfl rfl ?_ | refine h.drew.load2 0 0 ⟨_, rfl, rfl⟩ rfl ?_ | refine h.drew.loadB 0 0 ⟨_, rfl, rfl⟩ rfl rfl ?_ | refine h.drew.load2 1 0 ⟨_, rfl, rfl⟩ rfl ?_ | refine h.drew.loadB 1 0 ⟨_, rfl, rfl⟩ rfl rfl ?_)) | ((with_reducible refine ReadN.isLoad ?_); (first | refine h.read2 0 0 ⟨_, rfl, rfl⟩ rfl ?_ | refine h.readB 0 0 ⟨_, rfl, rfl⟩ rfl rfl ?_ | refine h.read2 1 0 ⟨_, rfl, rfl⟩ rfl ?_ | refine h.readB 1 0 ⟨_, rfl, rfl⟩ rfl rfl ?_ | refine h.drew.read2 0 0 ⟨_, rfl, rfl⟩ rfl ?_ | refine h.drew.readB 0 0 ⟨_, rfl, rfl⟩ rfl rfl ?_ | refine h.drew.read2 1 0 ⟨_, rfl, rfl⟩ rfl ?_ | refine h.drew.readB 1 0 ⟨_, rfl, rfl⟩ rfl rfl ?_)) | ((with_reducible refine StillV.isLoad ?_); (first | refine ⟨h.stillB 0 0 ⟨_, rfl, rfl⟩ rfl rfl, ?_⟩ | refine ⟨h.still2 0 0 ⟨_, rfl, rfl⟩ rfl, ?_⟩ | refine ⟨h.stillB 1 0 ⟨_, rfl, rfl⟩ rfl rfl, ?_⟩ | refine ⟨h.still2 1 0 ⟨_, rfl, rfl⟩ rfl, ?_⟩)) | ((with_reducible refine RunU.isStor ?_); (first | (refine h.stor2 0 0 ⟨_, rfl, rfl⟩ rfl ?_; intro w h; dsimp only [updG, setO] at h) | (refine h.storB 0 0 ⟨_, rfl, rfl⟩ rfl rfl rfl ?_; intro w h; dsimp only [updG, setO] at h) | (refine h.stor2 1 0 ⟨_, rfl, rfl⟩ rfl ?_; intro w h; dsimp only [updG, setO] at h) | (refine h.storB 1 0 ⟨_, rfl, rfl⟩ rfl rfl rfl ?_; intro w h; dsimp only [updG, setO] at h) | (refine h.drew.stor2 0 0 ⟨_, rfl, rfl⟩ rfl ?_; intro w h; dsimp only [updG, setO] at h) | (refine h.drew.storB 0 0 ⟨_, rfl, rfl⟩ rfl rfl rfl ?_; intro w h; dsimp only [updG, setO] at h) | (refine h.drew.stor2 1 0 ⟨_, rfl, rfl⟩ rfl ?_; intro w h; dsimp only [updG, setO] at h) | (refine h.drew.storB 1 0 ⟨_, rfl, rfl⟩ rfl rfl rfl ?_; intro w h; dsimp only [updG, setO] at h))) | ((with_reducible refine RunN.isBox ?_); (first | (refine h.newB run_boxA rfl ?_; intro bn w h; try dsimp only at h; have h := h.ord 2 [1, 0]; dsimp only [pick, nthO, dropO] at h) | (refine h.drew.newB run_boxA rfl ?_; intro bn w h; try dsimp only at h; have h := h.ord 2 [1, 0]; dsimp only [pick, nthO, dropO] at h))) | ((with_reducible refine RunN.isNew ?_); (first | (refine h.newB (NewC.run _) rfl ?_; intro bn w h; have h := h.ord 2 [1, 0]; dsimp only [pick, nthO, dropO] at h) | (refine h.drew.newB (NewC.run _) rfl ?_; intro bn w h; have h := h.ord 2 [1, 0]; dsimp only [pick, nthO, dropO] at h))) | (refine RunN.k2Eq ?_) | (refine RunN.k2Ne ?_) | (refine ReadN.k2Eq ?_) | (refine ReadN.k2Ne ?_))
      refine hk _ _ ⟨?_, h⟩
      dsimp only
      by_cases h2 : x.2 = (r.me : Int)
      · rw [decide_eq_false fun hh => hh.2 h2, h2]; simp
      · rw [decide_eq_true ⟨h1, h2⟩]; simpa using h2
    · have h1 := of_decide_eq_false h1
      exact hk _ _ ⟨(decide_eq_false fun hh => h1 hh.1).symm, h⟩
/-! ### sums and all -/
def Rn.repTo (r : Rn) (m : Nat) : Int := ((List.range m).map fun (i : Nat) => (r.rep (i : Int)).getD 0).sum
def Rn.reported (r : Rn) : Int := r.repTo r.n
def Rn.all (r : Rn) : Bool := (List.range r.n).all fun (i : Nat) => !(decide (i ≠ r.me) && !(r.rep (i : Int)).isSome)
theorem rep_bound {r : Rn} {N : Nat} (h : r.wf N) (k : Int) : 0 ≤ (r.rep k).getD 0 ∧ (r.rep k).getD 0 ≤ 1099511627776 := by
  rw [Rn.rep, repV]
  split
  · cases hl : (r.notes.filter (isN r.own k)).getLast? with
    | none => exact ⟨by simp, by simp⟩
    | some x =>
      have := (List.mem_filter.1 (List.mem_of_getLast? hl)).1
      exact h.nb x this
  · exact ⟨by simp, by simp⟩
theorem rrepTo_succ (r : Rn) (m : Nat) : r.repTo (m + 1) = r.repTo m + (r.rep (m : Int)).getD 0 := by
  rw [Rn.repTo, List.range_succ, List.map_append, List.sum_append, Rn.repTo]; simp
theorem rrepTo_bound {r : Rn} {N : Nat} (h : r.wf N) : ∀ m : Nat, 0 ≤ r.repTo m ∧ r.repTo m ≤ m * 1099511627776 := by
  intro m
  induction m with
  | zero => simp [Rn.repTo]
  | succ m ih =>
    rw [rrepTo_succ]
    have := rep_bound h (m : Int)
    omega
theorem rreported_st {r : Rm} {N : Nat} (h : St w0 w (rmE r :: F)) (hw : r.wf N) (hN : N ≤ 1000000000) : CallK Try.prog (.int .i64) 67 #[.pointer r.p] w fun (v : Int) w' => v = r.reported ∧ St w0 w' (rmE r :: F) := by
  refine T67.calls ?_
  unfold T67
  have hn := hw.n
  refine LoopX.mk (fun st w' => ∃ (m : Nat), st = (r.repTo m, (m : Int), ()) ∧ m ≤ r.n ∧ St w0 w' (rmE r :: F)) (fun st => ((r.n : Int) - st.2.1).toNat) ⟨0, rfl, Nat.zero_le _, h⟩ ?_
  clear h
  rintro _ w3 ⟨m, rfl, hm, h⟩ k hk
  dsimp only at hk ⊢
  repeat (first | (with_reducible refine NilP.mk ?_) | ((with_reducible refine RunN.isLoad ?_); (first | refine h.load2 0 0 ⟨_, rfl, rfl⟩ rfl ?_ | refine h.loadB 0 0 ⟨_, rfl, rfl⟩ rfl rfl ?_ | refine h.drew.load2 0 0 ⟨_, rfl, rfl⟩ rfl ?_ | refine h.drew.loadB 0 0 ⟨_, rfl, rfl⟩ rfl rfl ?_)) | ((with_reducible refine ReadN.isLoad ?_); (first | refine h.read2 0 0 ⟨_, rfl, rfl⟩ rfl ?_ | refine h.readB 0 0 ⟨_, rfl, rfl⟩ rfl rfl ?_ | refine h.drew.read2 0 0 ⟨_, rfl, rfl⟩ rfl ?_ | refine h.drew.readB 0 0 ⟨_, rfl, rfl⟩ rfl rfl ?_)) | ((with_reducible refine StillV.isLoad ?_); (first | refine ⟨h.stillB 0 0 ⟨_, rfl, rfl⟩ rfl rfl, ?_⟩ | refine ⟨h.still2 0 0 ⟨_, rfl, rfl⟩ rfl, ?_⟩)) | ((with_reducible refine RunU.isStor ?_); (first | (refine h.stor2 0 0 ⟨_, rfl, rfl⟩ rfl ?_; intro w h; dsimp only [updG, setO] at h) | (refine h.storB 0 0 ⟨_, rfl, rfl⟩ rfl rfl rfl ?_; intro w h; dsimp only [updG, setO] at h) | (refine h.drew.stor2 0 0 ⟨_, rfl, rfl⟩ rfl ?_; intro w h; dsimp only [updG, setO] at h) | (refine h.drew.storB 0 0 ⟨_, rfl, rfl⟩ rfl rfl rfl ?_; intro w h; dsimp only [updG, setO] at h))) | ((with_reducible refine RunN.isBox ?_); (first | (refine h.newB run_boxA rfl ?_; intro bn w h; try dsimp only at h; have h := h.ord 2 [1, 0]; dsimp only [pick, nthO, dropO] at h) | (refine h.drew.newB run_boxA rfl ?_; intro bn w h; try dsimp only at h; have h := h.ord 2 [1, 0]; dsimp only [pick, nthO, dropO] at h))) | ((with_reducible refine RunN.isNew ?_); (first | (refine h.newB (NewC.run _) rfl ?_; intro bn w h; have h := h.ord 2 [1, 0]; dsimp only [pick, nthO, dropO] at h) | (refine h.drew.newB (NewC.run _) rfl ?_; intro bn w h; have h := h.ord 2 [1, 0]; dsimp only [pick, nthO, dropO] at h))) | (refine RunN.k2Eq ?_) | (refine RunN.k2Ne ?_) | (refine ReadN.k2Eq ?_) | (refine ReadN.k2Ne ?_))
  rw [SplitB_iff]
  refine ⟨fun hc => ?_, fun hc => ?_⟩
  · have hc : m < r.n := by have : (m : Int) < (r.n : Int) := of_decide_eq_true hc; omega
    have hem : IntKind.i64.wrap ((m : Int) + 1) = ((m + 1 : Nat) : Int) := by rw [wr (by omega)]; omega
    refine (rep_st h hw hN (m : Int)).mono ?_
    rintro _ w4 ⟨rfl, h⟩
    have hb1 := rrepTo_bound hw m
    have hb2 := rep_bound hw (m : Int)
    have e3 : IntKind.i64.wrap (r.repTo m + (r.rep (m : Int)).getD 0) = r.repTo (m + 1) := by rw [rrepTo_succ, wr (by omega)]
    rw [hem]
    refine hk _ _ ⟨m + 1, ?_, by omega, h⟩ (by dsimp only; omega)
    dsimp only
    rw [e3]
  · have hc : m = r.n := by have : ¬ (m : Int) < (r.n : Int) := of_decide_eq_false hc; omega
    subst hc
    exact ⟨rfl, h⟩
theorem rall_st {r : Rm} {N : Nat} (h : St w0 w (rmE r :: F)) (hw : r.wf N) (hN : N ≤ 1000000000) : CallK Try.prog .bool 68 #[.pointer r.p] w fun (v : Bool) w' => v = r.all ∧ St w0 w' (rmE r :: F) := by
  refine T68.calls ?_
  unfold T68
  have hn := hw.n
  refine LoopX.mk (fun st w' => ∃ (m : Nat), st = ((m : Int), ()) ∧ m ≤ r.n ∧ (∀ i, i < m → ¬ (i ≠ r.me ∧ (r.rep (i : Int)).isSome = false)) ∧ St w0 w' (rmE r :: F)) (fun st => ((r.n : Int) - st.1).toNat) ⟨0, rfl, Nat.zero_le _, fun i hi => by omega, h⟩ ?_
  clear h
  rintro _ w3 ⟨m, rfl, hm, hall, h⟩ k hk
  dsimp only at hk ⊢
  repeat (first | (with_reducible refine NilP.mk ?_) | ((with_reducible refine RunN.isLoad ?_); (first | refine h.load2 0 0 ⟨_, rfl, rfl⟩ rfl ?_ | refine h.loadB 0 0 ⟨_, rfl, rfl⟩ rfl rfl ?_ | refine h.drew.load2 0 0 ⟨_, rfl, rfl⟩ rfl ?_ | refine h.drew.loadB 0 0 ⟨_, rfl, rfl⟩ rfl rfl ?_)) | ((with_reducible refine ReadN.isLoad ?_); (first | refine h.read2 0 0 ⟨_, rfl, rfl⟩ rfl ?_ | refine h.readB 0 0 ⟨_, rfl, rfl⟩ rfl rfl ?_ | refine h.drew.read2 0 0 ⟨_, rfl, rfl⟩ rfl ?_ | refine h.drew.readB 0 0 ⟨_, rfl, rfl⟩ rfl rfl ?_)) | ((with_reducible refine StillV.isLoad ?_); (first | refine ⟨h.stillB 0 0 ⟨_, rfl, rfl⟩ rfl rfl, ?_⟩ | refine ⟨h.still2 0 0 ⟨_, rfl, rfl⟩ rfl, ?_⟩)) | ((with_reducible refine RunU.isStor ?_); (first | (refine h.stor2 0 0 ⟨_, rfl, rfl⟩ rfl ?_; intro w h; dsimp only [updG, setO] at h) | (refine h.storB 0 0 ⟨_, rfl, rfl⟩ rfl rfl rfl ?_; intro w h; dsimp only [updG, setO] at h) | (refine h.drew.stor2 0 0 ⟨_, rfl, rfl⟩ rfl ?_; intro w h; dsimp only [updG, setO] at h) | (refine h.drew.storB 0 0 ⟨_, rfl, rfl⟩ rfl rfl rfl ?_; intro w h; dsimp only [updG, setO] at h))) | ((with_reducible refine RunN.isBox ?_); (first | (refine h.newB run_boxA rfl ?_; intro bn w h; try dsimp only at h; have h := h.ord 2 [1, 0]; dsimp only [pick, nthO, dropO] at h) | (refine h.drew.newB run_boxA rfl ?_; intro bn w h; try dsimp only at h; have h := h.ord 2 [1, 0]; dsimp only [pick, nthO, dropO] at h))) | ((with_reducible refine RunN.isNew ?_); (first | (refine h.newB (NewC.run _) rfl ?_; intro bn w h; have h := h.ord 2 [1, 0]; dsimp only [pick, nthO, dropO] at h) | (refine h.drew.newB (NewC.run _) rfl ?_; intro bn w h; have h := h.ord 2 [1, 0]; dsimp only [pick, nthO, dropO] at h))) | (refine RunN.k2Eq ?_) | (refine RunN.k2Ne ?_) | (refine ReadN.k2Eq ?_) | (refine ReadN.k2Ne ?_))
  rw [SplitB_iff]
  refine ⟨fun hc => ?_, fun hc => ?_⟩
  · have hc : m < r.n := by have : (m : Int) < (r.n : Int) := of_decide_eq_true hc; omega
    have hem : IntKind.i64.wrap ((m : Int) + 1) = ((m + 1 : Nat) : Int) := by rw [wr (by omega)]; omega
    rw [hem]
    refine (rep_st h hw hN (m : Int)).mono ?_
    rintro _ w4 ⟨rfl, h⟩
    refine JoinX.mk (fun (y : Bool × Unit) w' => y.1 = decide (m ≠ r.me ∧ (r.rep (m : Int)).isSome = false) ∧ St w0 w' (rmE r :: F)) ?_ ?_
    · rintro ⟨y, ⟨⟩⟩ w4 ⟨hy, h⟩
      dsimp only at hy
      subst hy
      rw [SplitB_iff]
      refine ⟨fun hd => ?_, fun hd => ?_⟩
      · have hd := of_decide_eq_true hd
        refine ⟨?_, h⟩
        have : r.all = false := by
          rw [Rn.all, List.all_eq_false]
          exact ⟨m, List.mem_range.2 hc, by simp [hd.1, hd.2]⟩
        exact this.symm
      · have hd := of_decide_eq_false hd
        refine hk _ _ ⟨m + 1, rfl, by omega, fun i hi => ?_, h⟩ (by dsimp only; omega)
        rcases Nat.lt_or_ge i m with h1 | h1
        · exact hall i h1
        · have : i = m := by omega
          subst this; exact hd
    · intro k3 hk3
      repeat (first | (with_reducible refine NilP.mk ?_) | ((with_reducible refine RunN.isLoad ?_); (first | refine h.load2 0 0 ⟨_, rfl, rfl⟩ rfl ?_ | refine h.loadB 0 0 ⟨_, rfl, rfl⟩ rfl rfl ?_ | refine h.drew.load2 0 0 ⟨_, rfl, rfl⟩ rfl ?_ | refine h.drew.loadB 0 0 ⟨_, rfl, rfl⟩ rfl rfl ?_)) | ((with_reducible refine ReadN.isLoad ?_); (first | refine h.read2 0 0 ⟨_, rfl, rfl⟩ rfl ?_ | refine h.readB 0 0 ⟨_, rfl, rfl⟩ rfl rfl ?_ | refine h.drew.read2 0 0 ⟨_, rfl, rfl⟩ rfl ?_ | refine h.drew.readB 0 0 ⟨_, rfl, rfl⟩ rfl rfl ?_)) | ((with_reducible refine StillV.isLoad ?_); (first | refine ⟨h.stillB 0 0 ⟨_, rfl, rfl⟩ rfl rfl, ?_⟩ | refine ⟨h.still2 0 0 ⟨_, rfl, rfl⟩ rfl, ?_⟩)) | ((with_reducible refine RunU.isStor ?_); (first | (refine h.stor2 0 0 ⟨_, rfl, rfl⟩ rfl ?_; intro w h; dsimp only [updG, setO] at h) | (refine h.storB 0 0 ⟨_, rfl, rfl⟩ rfl rfl rfl ?_; intro w h; dsimp only [updG, setO] at h) | (refine h.drew.stor2 0 0 ⟨_, rfl, rfl⟩ rfl ?_; intro w h; dsimp only [updG, setO] at h) | (refine h.drew.storB 0 0 ⟨_, rfl, rfl⟩ rfl rfl rfl ?_; intro w h; dsimp only [updG, setO] at h))) | ((with_reducible refine RunN.isBox ?_); (first | (refine h.newB run_boxA rfl ?_; intro bn w h; try dsimp only at h; have h := h.ord 2 [1, 0]; dsimp only [pick, nthO, dropO] at h) | (refine h.drew.newB run_boxA rfl ?_; intro bn w h; try dsimp only at h; have h := h.ord 2 [1, 0]; dsimp only [pick, nthO, dropO] at h))) | ((with_reducible refine RunN.isNew ?_); (first | (refine h.newB (NewC.run _) rfl ?_; intro bn w h; have h := h.ord 2 [1, 0]; dsimp only [pick, nthO, dropO] at h) | (refine h.drew.newB (NewC.run _) rfl ?_; intro bn w h; have h := h.ord 2 [1, 0]; dsimp only [pick, nthO, dropO] at h))) | (refine RunN.k2Eq ?_) | (refine RunN.k2Ne ?_) | (refine ReadN.k2Eq ?_) | (refine ReadN.k2Ne ?_))
      rw [SplitB_iff]
      refine ⟨fun hd => ?_, fun hd => ?_⟩
      · have hd : m ≠ r.me := by
          intro he; subst he; simp at hd
        refine hk3 _ _ ⟨?_, h⟩
        dsimp only
        cases (r.rep (m : Int)).isSome <;> simp [hd]
      · have hd : m = r.me := by
          have : (m : Int) = (r.me : Int) := by simpa using hd
          omega
        exact hk3 _ _ ⟨by simp [hd], h⟩
  · have hc : m = r.n := by have : ¬ (m : Int) < (r.n : Int) := of_decide_eq_false hc; omega
    subst hc
    refine ⟨?_, h⟩
    have : r.all = true := by
      rw [Rn.all, List.all_eq_true]
      intro i hi
      have := hall i (List.mem_range.1 hi)
      by_cases h1 : i = r.me
      · simp [h1]
      · cases h2 : (r.rep (i : Int)).isSome with
        | true => simp
        | false => exact absurd ⟨h1, h2⟩ this
    exact this.symm
end Go.Proofs.Ytmfbmfppjdkeeaa
