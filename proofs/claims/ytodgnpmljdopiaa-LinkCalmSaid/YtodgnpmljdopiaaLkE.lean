/- The link in memory: Out. -/
import Derived.Test.YtodgnpmljdopiaaLkD
namespace Go.Proofs.Ytodgnpmljdopiaa
open Go Go.Fw Go.RowKit
set_option linter.unusedVariables false
set_option linter.unusedSimpArgs false
set_option maxRecDepth 4000
set_option maxHeartbeats 2000000
variable {w0 w : World} {F G : Grps}

def Lm.out1 (e : Lm) (m : Nat) (us : Sl) : Lm :=
  { e with un := e.un ++ e.bx.take m, bx := e.bx.drop m, gone := e.gone + m, ag := if e.un.length = 0 ∧ 0 < m then 0 else e.ag, cr := e.cr + m, us := us }
def Lm.outed (e : Lm) (us : Sl) : Lm :=
  { e with un := e.un ++ e.bx, bx := [], gone := e.last, ag := if e.un.length = 0 ∧ 0 < e.bx.length then 0 else e.ag, cr := e.cr + e.bx.length, us := us, ow := false, du := false }
def ackP : Pc := (0, ⟨none, 0, 0⟩, [])
def Lk.outs (e : Lk) : List Pc := (if e.ow = true then [ackP] else []) ++ (if e.du = true then e.un else []) ++ e.bx
theorem out1_dat (e : Lm) (m : Nat) (us : Sl) : dat (e.out1 m us).toLk = dat e.toLk := by
  simp [dat, Lm.out1]
theorem out1_wf {e : Lm} (hw : e.wf) {m : Nat} (hm : m ≤ e.bx.length) (us : Sl) : (e.out1 m us).wf := by
  have hl : (e.un ++ e.bx.take m).length + (e.bx.drop m).length = e.un.length + e.bx.length := by simp; omega
  have he : e.un ++ e.bx.take m ++ e.bx.drop m = e.un ++ e.bx := by simp
  have hc := hw.cnt
  refine ⟨hw.me, hw.peer, hw.win, hw.res, by simp only [Lm.out1]; omega, ?_, by simp only [Lm.out1]; rw [hl]; exact hw.low, hw.last, hw.want, ?_, ?_, ?_, hw.elens, hw.erange, hw.nodup⟩
  · have := hw.gone
    simp only [Lm.out1, List.length_drop]; omega
  · simp only [Lm.out1]
    have := hw.ag
    split <;> omega
  · intro i hi
    simp only [Lm.out1] at hi ⊢
    rw [hl]
    have hi2 : i < (e.un ++ e.bx).length := by rw [← he]; exact hi
    have := hw.seq i hi2
    rw [← this]
    congr 1
    simp only [he]
  · intro p hp
    simp only [Lm.out1, he] at hp
    exact hw.lens p hp
theorem outed_wf {e : Lm} (hw : e.wf) (us : Sl) : (e.outed us).wf := by
  have h := out1_wf hw (Nat.le_refl e.bx.length) us
  have e1 : (e.outed us).toLk = { (e.out1 e.bx.length us).toLk with ow := false, du := false } := by
    have := hw.gone
    simp [Lm.outed, Lm.out1]; omega
  rw [e1]
  exact ⟨h.me, h.peer, h.win, h.res, h.cnt, h.gone, h.low, h.last, h.want, h.ag, h.seq, h.lens, h.elens, h.erange, h.nodup⟩
theorem bs75' (w : World) (p : Pc) : (Instr.buildSlice 75 1 #[(0, .agg #[.int .i64 (pct p).1, .slice (pct p).2.1.a (pct p).2.1.len (pct p).2.1.cap])]).run Try.prog w = .ok (.slice (some ⟨w.heap.size, 0, none⟩) 1 1) (w.alloc (.cells ⟨pcv p⟩ 81)) := bs75 w _ _ _ _
theorem out_st {e : Lm} (h : St w0 w (lmE e :: dat e.toLk :: F)) (hw : e.wf) : CallK Try.prog .sl 13 #[.pointer e.p] w
    fun (o : Sl) w' => ∃ us gs, gs.map Sg.pl = e.tells e.outs ∧ o.len = gs.length ∧ St w0 w' (lmE (e.outed us) :: dat (e.outed us).toLk :: outE o gs :: outD gs :: F) := by
  refine T13.calls ?_
  unfold T13
  have hcnt := hw.cnt; have hwin := hw.win
  refine JoinX.mk (fun (y : Sl × Unit) w' => ∃ gs, gs.map Sg.pl = e.tells (if e.ow = true then [ackP] else []) ∧ y.1.len = gs.length ∧ gs.length ≤ 1 ∧ St w0 w' (lmE e :: dat e.toLk :: outE y.1 gs :: outD gs :: F)) ?_ ?_
  · rintro ⟨o, ⟨⟩⟩ w1 ⟨gs, hgs, hol, hgl, h⟩
    dsimp only at hol h ⊢
    refine JoinX.mk (fun (y : Sl × Unit) w' => ∃ gs, gs.map Sg.pl = e.tells ((if e.ow = true then [ackP] else []) ++ (if e.du = true then e.un else [])) ∧ y.1.len = gs.length ∧ gs.length ≤ 1 + e.un.length ∧ St w0 w' (lmE e :: dat e.toLk :: outE y.1 gs :: outD gs :: F)) ?_ ?_
    · clear h hgs hol hgl
      rintro ⟨o, ⟨⟩⟩ w1 ⟨gs, hgs, hol, hgl, h⟩
      dsimp only at hol h ⊢
      have hul := us_len (h.rd (k := 0) (i := 3) ⟨_, rfl, rfl⟩)
      repeat (first | (with_reducible refine NilP.mk ?_) | ((with_reducible refine RunN.isLoad ?_); (first | refine h.load2 0 0 ⟨_, rfl, rfl⟩ rfl ?_ | refine h.loadB 0 0 ⟨_, rfl, rfl⟩ rfl rfl ?_ | refine h.drew.load2 0 0 ⟨_, rfl, rfl⟩ rfl ?_ | refine h.drew.loadB 0 0 ⟨_, rfl, rfl⟩ rfl rfl ?_)) | ((with_reducible refine ReadN.isLoad ?_); (first | refine h.read2 0 0 ⟨_, rfl, rfl⟩ rfl ?_ | refine h.readB 0 0 ⟨_, rfl, rfl⟩ rfl rfl ?_ | refine h.drew.read2 0 0 ⟨_, rfl, rfl⟩ rfl ?_ | refine h.drew.readB 0 0 ⟨_, rfl, rfl⟩ rfl rfl ?_)) | ((with_reducible refine StillV.isLoad ?_); (first | refine ⟨h.stillB 0 0 ⟨_, rfl, rfl⟩ rfl rfl, ?_⟩ | refine ⟨h.still2 0 0 ⟨_, rfl, rfl⟩ rfl, ?_⟩)) | ((with_reducible refine RunU.isStor ?_); (first | (refine h.stor2 0 0 ⟨_, rfl, rfl⟩ rfl ?_; intro w h; dsimp only [updG, setO] at h) | (refine h.storB 0 0 ⟨_, rfl, rfl⟩ rfl rfl rfl ?_; intro w h; dsimp only [updG, setO] at h) | (refine h.drew.stor2 0 0 ⟨_, rfl, rfl⟩ rfl ?_; intro w h; dsimp only [updG, setO] at h) | (refine h.drew.storB 0 0 ⟨_, rfl, rfl⟩ rfl rfl rfl ?_; intro w h; dsimp only [updG, setO] at h))) | ((with_reducible refine RunN.isBox ?_); (first | (refine h.newB run_boxA rfl ?_; intro bn w h; try dsimp only at h; have h := h.ord 2 [1, 0]; dsimp only [pick, nthO, dropO] at h) | (refine h.drew.newB run_boxA rfl ?_; intro bn w h; try dsimp only at h; have h := h.ord 2 [1, 0]; dsimp only [pick, nthO, dropO] at h))) | ((with_reducible refine RunN.isNew ?_); (first | (refine h.newB (NewC.run _) rfl ?_; intro bn w h; have h := h.ord 2 [1, 0]; dsimp only [pick, nthO, dropO] at h) | (refine h.drew.newB (NewC.run _) rfl ?_; intro bn w h; have h := h.ord 2 [1, 0]; dsimp only [pick, nthO, dropO] at h))) | (refine RunN.k2Eq ?_) | (refine RunN.k2Ne ?_) | (refine ReadN.k2Eq ?_) | (refine ReadN.k2Ne ?_))
      have h : St w0 w1 (lmE (e.out1 0 e.us) :: dat (e.out1 0 e.us).toLk :: outE o gs :: outD gs :: F) := by
        have e0 : e.out1 0 e.us = e := by simp [Lm.out1]
        rw [e0]; exact h
      refine LoopX.mk (fun st w' => ∃ (o : Sl) (m : Nat) (us : Sl) (gs : List Sg), st = (o, ()) ∧ m ≤ e.bx.length ∧ gs.map Sg.pl = e.tells ((if e.ow = true then [ackP] else []) ++ (if e.du = true then e.un else []) ++ e.bx.take m) ∧ o.len = gs.length ∧ gs.length ≤ 1 + e.un.length + m ∧ m ≤ gs.length ∧ St w0 w' (lmE (e.out1 m us) :: dat (e.out1 m us).toLk :: outE o gs :: outD gs :: F)) (fun st => 1 + e.un.length + e.bx.length - st.1.len) ⟨_, 0, _, gs, rfl, Nat.zero_le _, by rw [hgs]; simp, hol, by omega, Nat.zero_le _, h⟩ ?_
      clear h hgs hol hgl
      rintro _ w2 ⟨o, m, us, gs, rfl, hm, hgs, hol, hgl, hgm, h⟩ k hk
      dsimp only at hk ⊢
      have hw1 := out1_wf hw hm us
      have ep : e.p = (e.out1 m us).p := rfl
      refine NilP.mk ?_
      refine h.loadB 0 0 ⟨_, rfl, rfl⟩ rfl (kd := .chan) (x := some e.ch) rfl ?_
      by_cases hc : m < e.bx.length
      · have hbx : (e.out1 m us).bx = e.bx[m] :: e.bx.drop (m + 1) := List.drop_eq_getElem_cons hc
        have hlm : lmE (e.out1 m us) = [.cel e.cb 78 (lmC (e.out1 m us)), .obj e.ch (.chan e.win ⟨Kdp.val (pct e.bx[m]) :: (e.bx.drop (m + 1)).map pco⟩ false e.cs (e.cr + m) false), .obj e.mb (m1o (e.ea.map eav) e.mc), .row 81 2 us ((e.un ++ e.bx.take m).flatMap pcv)] := by
          rw [lmE, hbx]; rfl
        rw [hlm] at h
        refine h.recv 0 1 (kd := Kdp) (x := pct e.bx[m]) ⟨_, rfl, rfl⟩ (zero81 _) ?_
        intro w3 h
        dsimp only [updG, setO] at h
        rw [SplitB_iff]
        refine ⟨fun _ => ?_, fun hf => (by cases hf)⟩
        refine h.newB (NewC.run _) rfl ?_
        intro b w4 h
        refine h.storA 0 0 ⟨_, rfl, rfl⟩ (t' := 81) (n := 2) (j := 0) rfl (ds := pcv e.bx[m]) rfl rfl rfl ?_
        intro w5 h
        refine RunN.of (kd := Kdp) (x := pct e.bx[m]) (h.run_loadA (k := 0) (i := 0) (b := b) (t := 81) (cs := pcv e.bx[m]) ⟨_, rfl, rfl⟩ (t' := 81) (n := 2) (j := 0) rfl (vs := pcv e.bx[m]) rfl rfl) ?_
        have hpm : e.bx[m] ∈ e.un ++ e.bx := List.mem_append_right _ (List.getElem_mem hc)
        have hlen := hw.lens _ hpm
        have hpl : e.bx[m].1 = e.gone + (m + 1 : Nat) := by
          have h1 := hw.seq (e.un.length + m) (by simp; omega)
          rw [List.getElem_append_right (by omega)] at h1
          simp only [Nat.add_sub_cancel_left] at h1
          have := hw.gone
          rw [h1]; omega
        -- as if the parcel were not there any more
        let e' : Lm := { e.out1 m us with bx := e.bx.drop (m + 1), cr := e.cr + m + 1 }
        have hw' : e'.want = e.want := rfl
        have h : St w0 w5 ([.cel b 81 (pcv e.bx[m])] :: lmE e' :: dat (e.out1 m us).toLk :: outE o gs :: outD gs :: F) := h
        have hsee : SeesG w0 (dat (e.out1 m us).toLk :: outE o gs :: outD gs :: [.cel b 81 (pcv e.bx[m])] :: F) e.bx[m].2.1 1 (bys e.bx[m].2.2) := by
          rw [out1_dat]; exact dat_sees hpm
        have h := h.ord 5 [1, 2, 3, 4, 0]
        dsimp only [pick, nthO, dropO] at h
        refine emit e' h hw.want (p := e.bx[m]) hsee (by omega) (by omega) ?_
        intro o' g w6 hg ho' h
        refine NilP.mk ?_
        refine h.drew.readB 0 0 ⟨_, rfl, rfl⟩ rfl (kd := .sl) (x := us) rfl ?_
        refine ReadN.of (kd := Kdp) (x := pct e.bx[m]) (h.drew.run_loadA (k := 4) (i := 0) (b := b) (t := 81) (cs := pcv e.bx[m]) ⟨_, rfl, rfl⟩ (t' := 81) (n := 2) (j := 0) rfl (vs := pcv e.bx[m]) rfl rfl) ?_
        refine h.drew.newS 2 (bs75' _ e.bx[m]) rfl rfl rfl ?_
        intro u w7 hu1 hu2 _ h
        refine ⟨h.stillB 1 0 ⟨_, rfl, rfl⟩ rfl rfl, ?_⟩
        have husl : us.len = (e.un ++ e.bx.take m).length := us_len (e := e') (h.rd (k := 1) (i := 3) ⟨_, rfl, rfl⟩)
        rw [List.length_append, List.length_take] at husl
        have husl2 : e'.us.len = us.len := rfl
        refine h.app 1 3 ⟨_, rfl, rfl⟩ (h.rd (k := 0) (i := 0) ⟨_, rfl, rfl⟩) (pcv_one _) (by dsimp only [maxLen]; omega) (by omega) ?_
        intro us' w8 hl8 h
        have h := h.drop 0
        dsimp only [delO, updG, setO] at h
        refine NilP.mk ?_
        refine h.storB 0 0 ⟨_, rfl, rfl⟩ rfl rfl rfl ?_
        intro w9 h
        dsimp only [updG, setO] at h
        refine h.loadB 4 0 ⟨_, rfl, rfl⟩ rfl (kd := .int .i64) (x := e.bx[m].1) rfl ?_
        refine NilP.mk ?_
        refine h.storB 0 0 ⟨_, rfl, rfl⟩ rfl rfl rfl ?_
        intro w10 h
        dsimp only [updG, setO] at h
        have h := h.drop 4
        dsimp only [delO] at h
        have hts : (gs ++ [g]).map Sg.pl = e.tells ((if e.ow = true then [ackP] else []) ++ (if e.du = true then e.un else []) ++ e.bx.take (m + 1)) := by
          rw [List.map_append, hgs, List.take_succ_eq_append_getElem hc, ← List.append_assoc]
          have h2 := seg_pl hg
          simp only [Lk.tells, List.map_append, List.map_cons, List.map_nil, h2]
          rfl
        have hdat : dat (e.out1 m us).toLk = dat (e.out1 (m + 1) us').toLk := by rw [out1_dat, out1_dat]
        have hun : (e.un ++ e.bx.take (m + 1)).flatMap pcv = (e.un ++ e.bx.take m).flatMap pcv ++ pcv e.bx[m] := by
          rw [List.take_succ_eq_append_getElem hc, ← List.append_assoc, List.flatMap_append]
          congr 1
          first | done | simp
        have hfin : ∀ (a : Int), a = (if e.un.length = 0 ∧ 0 < m + 1 then 0 else e.ag) →
            lmE (e.out1 (m + 1) us') = [.cel e.cb 78 [.int .i64 e.me, .int .i64 e.peer, .int .i64 (e.win : Int), .int .i64 e.res, .chan (some e.ch), .slice us'.a us'.len us'.cap, .int .i64 e.last, .int .i64 e.bx[m].1, .int .i64 e.want, .map (some e.mb), .bool e.ow, .bool e.du, .int .i64 a], .obj e.ch (.chan e.win ⟨(e.bx.drop (m + 1)).map pco⟩ false e.cs (e.cr + m + 1) false), .obj e.mb (m1o (e.ea.map eav) e.mc), .row 81 2 us' ((e.un ++ e.bx.take m).flatMap pcv ++ pcv e.bx[m])] := by
          intro a ha
          rw [ha, hpl, ← hun]
          rfl
        rw [hdat] at h
        rw [hul, SplitB_iff]
        refine ⟨fun hf => ?_, fun hf => ?_⟩
        · have hf : e.un.length = 0 := by have : ((e.un.length : Nat) : Int) = 0 := by simpa using hf
                                          omega
          refine NilP.mk ?_
          refine h.storB 0 0 ⟨_, rfl, rfl⟩ rfl rfl rfl ?_
          intro w11 h
          dsimp only [updG, setO] at h
          refine hk _ _ ⟨o', m + 1, us', gs ++ [g], rfl, by omega, hts, by simp; omega, by simp; omega, by simp; omega, ?_⟩ (by dsimp only; omega)
          rw [hfin 0 (by rw [if_pos ⟨hf, by omega⟩])]
          exact h
        · have hf : ¬ e.un.length = 0 := by intro h0; rw [h0] at hf; simp at hf
          refine hk _ _ ⟨o', m + 1, us', gs ++ [g], rfl, by omega, hts, by simp; omega, by simp; omega, by simp; omega, ?_⟩ (by dsimp only; omega)
          rw [hfin e.ag (by rw [if_neg (fun hh => hf hh.1)])]
          have : (e.out1 m us).ag = e.ag := by simp only [Lm.out1]; rw [if_neg (fun hh => hf hh.1)]
          have h2 : e'.ag = e.ag := this
          have h : St w0 w10 ([.cel e.cb 78 [.int .i64 e.me, .int .i64 e.peer, .int .i64 (e.win : Int), .int .i64 e.res, .chan (some e.ch), .slice us'.a us'.len us'.cap, .int .i64 e.last, .int .i64 e.bx[m].1, .int .i64 e.want, .map (some e.mb), .bool e.ow, .bool e.du, .int .i64 e'.ag], .obj e.ch (.chan e.win ⟨(e.bx.drop (m + 1)).map pco⟩ false e.cs (e.cr + m + 1) false), .obj e.mb (m1o (e.ea.map eav) e.mc), .row 81 2 us' ((e.un ++ e.bx.take m).flatMap pcv ++ pcv e.bx[m])] :: dat (e.out1 (m + 1) us').toLk :: outE o' (gs ++ [g]) :: outD (gs ++ [g]) :: F) := h
          rw [h2] at h
          exact h
      · have hc : m = e.bx.length := by omega
        subst hc
        have hbx : (e.out1 e.bx.length us).bx = [] := List.drop_length
        have hlm : lmE (e.out1 e.bx.length us) = [.cel e.cb 78 (lmC (e.out1 e.bx.length us)), .obj e.ch (.chan e.win ⟨[]⟩ false e.cs (e.cr + e.bx.length) false), .obj e.mb (m1o (e.ea.map eav) e.mc), .row 81 2 us ((e.un ++ e.bx.take e.bx.length).flatMap pcv)] := by
          rw [lmE, hbx]; rfl
        rw [hlm] at h
        refine h.recvNo 0 1 ⟨_, rfl, rfl⟩ (zero81 _) ?_
        rw [SplitB_iff]
        refine ⟨fun hf => (by cases hf), fun _ => ?_⟩
        refine NilP.mk ?_
        refine h.storB 0 0 ⟨_, rfl, rfl⟩ rfl rfl rfl ?_
        intro w3 h
        dsimp only [updG, setO] at h
        refine NilP.mk ?_
        refine h.storB 0 0 ⟨_, rfl, rfl⟩ rfl rfl rfl ?_
        intro w4 h
        dsimp only [updG, setO] at h
        refine ⟨us, gs, ?_, hol, ?_⟩
        · rw [hgs, List.take_length]; rfl
        · have hg := hw.gone
          have e1 : dat (e.outed us).toLk = dat (e.out1 e.bx.length us).toLk := by rw [out1_dat]; simp [dat, Lm.outed]
          have e2 : lmE (e.outed us) = [.cel e.cb 78 (setO (setO (lmC (e.out1 e.bx.length us)) 10 (.bool false)) 11 (.bool false)), .obj e.ch (.chan e.win ⟨[]⟩ false e.cs (e.cr + e.bx.length) false), .obj e.mb (m1o (e.ea.map eav) e.mc), .row 81 2 us ((e.un ++ e.bx.take e.bx.length).flatMap pcv)] := by
            have hE : e.outed us = { e.out1 e.bx.length us with ow := false, du := false } := by
              simp [Lm.outed, Lm.out1]; omega
            have hd : e.bx.drop e.bx.length = [] := List.drop_length
            rw [hE]
            simp only [lmE, lmC, Lm.out1, hd]
            rfl
          rw [e1, e2]
          exact h
    · intro k hk
      repeat (first | (with_reducible refine NilP.mk ?_) | ((with_reducible refine RunN.isLoad ?_); (first | refine h.load2 0 0 ⟨_, rfl, rfl⟩ rfl ?_ | refine h.loadB 0 0 ⟨_, rfl, rfl⟩ rfl rfl ?_ | refine h.drew.load2 0 0 ⟨_, rfl, rfl⟩ rfl ?_ | refine h.drew.loadB 0 0 ⟨_, rfl, rfl⟩ rfl rfl ?_)) | ((with_reducible refine ReadN.isLoad ?_); (first | refine h.read2 0 0 ⟨_, rfl, rfl⟩ rfl ?_ | refine h.readB 0 0 ⟨_, rfl, rfl⟩ rfl rfl ?_ | refine h.drew.read2 0 0 ⟨_, rfl, rfl⟩ rfl ?_ | refine h.drew.readB 0 0 ⟨_, rfl, rfl⟩ rfl rfl ?_)) | ((with_reducible refine StillV.isLoad ?_); (first | refine ⟨h.stillB 0 0 ⟨_, rfl, rfl⟩ rfl rfl, ?_⟩ | refine ⟨h.still2 0 0 ⟨_, rfl, rfl⟩ rfl, ?_⟩)) | ((with_reducible refine RunU.isStor ?_); (first | (refine h.stor2 0 0 ⟨_, rfl, rfl⟩ rfl ?_; intro w h; dsimp only [updG, setO] at h) | (refine h.storB 0 0 ⟨_, rfl, rfl⟩ rfl rfl rfl ?_; intro w h; dsimp only [updG, setO] at h) | (refine h.drew.stor2 0 0 ⟨_, rfl, rfl⟩ rfl ?_; intro w h; dsimp only [updG, setO] at h) | (refine h.drew.storB 0 0 ⟨_, rfl, rfl⟩ rfl rfl rfl ?_; intro w h; dsimp only [updG, setO] at h))) | ((with_reducible refine RunN.isBox ?_); (first | (refine h.newB run_boxA rfl ?_; intro bn w h; try dsimp only at h; have h := h.ord 2 [1, 0]; dsimp only [pick, nthO, dropO] at h) | (refine h.drew.newB run_boxA rfl ?_; intro bn w h; try dsimp only at h; have h := h.ord 2 [1, 0]; dsimp only [pick, nthO, dropO] at h))) | ((with_reducible refine RunN.isNew ?_); (first | (refine h.newB (NewC.run _) rfl ?_; intro bn w h; have h := h.ord 2 [1, 0]; dsimp only [pick, nthO, dropO] at h) | (refine h.drew.newB (NewC.run _) rfl ?_; intro bn w h; have h := h.ord 2 [1, 0]; dsimp only [pick, nthO, dropO] at h))) | (refine RunN.k2Eq ?_) | (refine RunN.k2Ne ?_) | (refine ReadN.k2Eq ?_) | (refine ReadN.k2Ne ?_))
      rw [SplitB_iff]
      refine ⟨fun hd => ?_, fun hd => ?_⟩
      · refine (under_st h hw).mono ?_
        rintro o2 w2 ⟨gs2, hgs2, hol2, h⟩
        have hgl2 : gs2.length = e.un.length := by have := congrArg List.length hgs2; simpa [Lk.tells] using this
        refine h.app 4 0 ⟨_, rfl, rfl⟩ (h.rd (k := 2) (i := 0) ⟨_, rfl, rfl⟩) (flat_one sgv_one _) (by dsimp only [maxLen]; omega) (by omega) ?_
        intro o' w3 hl3 h
        dsimp only [updG, setO] at h
        have h := h.ord 6 [0, 1, 4, 3, 5]
        dsimp only [pick, nthO, dropO] at h
        have h := joinAt [lmE e, dat e.toLk, [Ent.row 62 5 o' (gs.flatMap sgv ++ gs2.flatMap sgv)]] h
        refine hk _ _ ⟨gs ++ gs2, ?_, ?_, ?_, ?_⟩
        · rw [List.map_append, hgs, hgs2, hd, Lk.tells, Lk.tells, Lk.tells, ← List.map_append]; simp
        · simp; omega
        · simp; omega
        · have e1 : outE o' (gs ++ gs2) = [Ent.row 62 5 o' (gs.flatMap sgv ++ gs2.flatMap sgv)] := by simp [outE]
          have e2 : outD (gs ++ gs2) = outD gs ++ outD gs2 := by simp [outD]
          dsimp only
          rw [e1, e2]; exact h
      · refine hk _ _ ⟨gs, ?_, hol, by omega, h⟩
        rw [hgs, hd]; simp
  · intro k hk
    repeat (first | (with_reducible refine NilP.mk ?_) | ((with_reducible refine RunN.isLoad ?_); (first | refine h.load2 0 0 ⟨_, rfl, rfl⟩ rfl ?_ | refine h.loadB 0 0 ⟨_, rfl, rfl⟩ rfl rfl ?_ | refine h.drew.load2 0 0 ⟨_, rfl, rfl⟩ rfl ?_ | refine h.drew.loadB 0 0 ⟨_, rfl, rfl⟩ rfl rfl ?_)) | ((with_reducible refine ReadN.isLoad ?_); (first | refine h.read2 0 0 ⟨_, rfl, rfl⟩ rfl ?_ | refine h.readB 0 0 ⟨_, rfl, rfl⟩ rfl rfl ?_ | refine h.drew.read2 0 0 ⟨_, rfl, rfl⟩ rfl ?_ | refine h.drew.readB 0 0 ⟨_, rfl, rfl⟩ rfl rfl ?_)) | ((with_reducible refine StillV.isLoad ?_); (first | refine ⟨h.stillB 0 0 ⟨_, rfl, rfl⟩ rfl rfl, ?_⟩ | refine ⟨h.still2 0 0 ⟨_, rfl, rfl⟩ rfl, ?_⟩)) | ((with_reducible refine RunU.isStor ?_); (first | (refine h.stor2 0 0 ⟨_, rfl, rfl⟩ rfl ?_; intro w h; dsimp only [updG, setO] at h) | (refine h.storB 0 0 ⟨_, rfl, rfl⟩ rfl rfl rfl ?_; intro w h; dsimp only [updG, setO] at h) | (refine h.drew.stor2 0 0 ⟨_, rfl, rfl⟩ rfl ?_; intro w h; dsimp only [updG, setO] at h) | (refine h.drew.storB 0 0 ⟨_, rfl, rfl⟩ rfl rfl rfl ?_; intro w h; dsimp only [updG, setO] at h))) | ((with_reducible refine RunN.isBox ?_); (first | (refine h.newB run_boxA rfl ?_; intro bn w h; try dsimp only at h; have h := h.ord 2 [1, 0]; dsimp only [pick, nthO, dropO] at h) | (refine h.drew.newB run_boxA rfl ?_; intro bn w h; try dsimp only at h; have h := h.ord 2 [1, 0]; dsimp only [pick, nthO, dropO] at h))) | ((with_reducible refine RunN.isNew ?_); (first | (refine h.newB (NewC.run _) rfl ?_; intro bn w h; have h := h.ord 2 [1, 0]; dsimp only [pick, nthO, dropO] at h) | (refine h.drew.newB (NewC.run _) rfl ?_; intro bn w h; have h := h.ord 2 [1, 0]; dsimp only [pick, nthO, dropO] at h))) | (refine RunN.k2Eq ?_) | (refine RunN.k2Ne ?_) | (refine ReadN.k2Eq ?_) | (refine ReadN.k2Ne ?_))
    have h : St w0 w (lmE e :: dat e.toLk :: outE ⟨none, 0, 0⟩ [] :: outD [] :: F) := by
      have h1 := h.nilrow 62 5
      have h2 := h1.ord 3 [1, 2, 0]
      dsimp only [pick, nthO, dropO] at h2
      exact h2.perm (by simp [outE, outD])
    rw [SplitB_iff]
    refine ⟨fun hd => ?_, fun hd => ?_⟩
    · refine emit e h hw.want (p := ackP) (o := ⟨none, 0, 0⟩) (fun w _ => Rd.nil w 1) (by simp [ackP]) (by simp) ?_
      intro o' g w4 hg ho' h
      refine hk _ _ ⟨[g], ?_, ho', by simp, h⟩
      rw [hd]
      simp [Lk.tells, seg_pl hg]
    · refine hk _ _ ⟨[], ?_, rfl, by simp, h⟩
      rw [hd]; rfl
end Go.Proofs.Ytodgnpmljdopiaa
