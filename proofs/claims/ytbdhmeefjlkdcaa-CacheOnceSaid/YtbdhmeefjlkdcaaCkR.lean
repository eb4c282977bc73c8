/- The pair: a request begins, a request ends. -/
import Derived.Test.YtbdhmeefjlkdcaaCkQ
namespace Go.Proofs.Ytbdhmeefjlkdcaa
open Go Go.Fw Go.RowKit
set_option linter.unusedVariables false
set_option linter.unusedSimpArgs false
set_option maxRecDepth 4000
set_option maxHeartbeats 4000000
variable {w0 w : World} {F G : Grps}

/-- The pair's own variables. -/
structure Po where
  b : Nat
  ls : Sl
  ms : Sl
  mark : Nat
  fs : Sl
  gs : Sl
  lists : List (Sl × Int × Nat)
  left : List (Sl × Sl × List Cl)
def poC (c : Option Addr) (r : Option Addr) (p : Po) : List Value := [.pointer c, .pointer r, slv p.ls, slv p.ms, .int .i64 (p.mark : Int), slv p.fs, slv p.gs]
def poG (c r : Option Addr) (p : Po) (F : Grps) : Grps :=
  [.cel p.b 57 (poC c r p), .row 60 1 p.ls (p.lists.map fun x => slv x.1), .row 3 1 p.ms (lin (p.lists.map fun x => x.2.1)), .row 60 1 p.fs (p.left.map fun x => slv x.1), .row 60 1 p.gs (p.left.map fun x => slv x.2.1)] ::
  (p.lists.map fun x => .row 32 2 x.1 (clvs (List.replicate x.2.2 (x.2.1, (0 : Int))))) :: (p.left.map fun x => .row 32 2 x.1 (clvs x.2.2)) :: (p.left.map fun x => .row 32 2 x.2.1 (clvs x.2.2)) :: F
def prG (c : Cc) (r : Rc) (p : Po) (F : Grps) : Grps := ccG c (rcG r (poG c.p r.p p F))
def Po.p (p : Po) : Option Addr := some ⟨p.b, 0, none⟩
def Cc.par (c : Cc) (r : Rc) : Prop := r.me = c.me ∧ r.reps = c.reps ∧ r.sess = c.sess ∧ r.room = c.room
structure PW (c : Cc) (r : Rc) (N : Nat) : Prop where
  hc : c.wf N
  hr : r.wf N
  hpar : c.par r
  hrel : CRel c.me c.reps c.sess c.room (c.ss.map Ses.V) r.V
theorem Cc.wf.par {c : Cc} {N : Nat} (h : c.wf N) : Par c.me c.reps c.sess c.room := ⟨h.reps, h.me, h.sess, h.room⟩
theorem PW.mono {c : Cc} {r : Rc} {N M : Nat} (h : PW c r N) (hm : N ≤ M) : PW c r M := ⟨wf_mono h.hc hm, h.hr.mono hm, h.hpar, h.hrel⟩
theorem PW.dis {c : Cc} {r : Rc} {N : Nat} (h : PW c r N) : ∀ s ∈ c.ss, ∀ x ∈ s.pend, x ∉ ids s.kept := by
  intro s hs x hx hk
  obtain ⟨j, hj, rfl⟩ := List.mem_iff_getElem.1 hs
  have h1 := h.hrel.each j (by simpa using hj)
  obtain ⟨S, s1, s2, s3, s4⟩ := h1.S
  rw [List.getElem_map] at s3 s4
  obtain ⟨y, hy, rfl⟩ := List.mem_map.1 hk
  have hy : y ∈ (c.ss[j]).V.kept := hy
  rw [s3] at hy
  exact (s4 y (List.mem_of_mem_drop hy)).2 hx
theorem num_ok (x : Int) : CallK Try.prog (.int .i64) 16 #[.int .i64 x] w fun (r : Int) w' => w' = w ∧ r = x := by
  refine T16.calls ?_
  unfold T16
  exact ⟨rfl, rfl⟩
/-- What both are after a request. -/
def begL (me reps sess : Nat) (l : List Int) (x id : Int) : List Int := if mineV me reps sess x = true ∧ ¬ (id < 1 ∨ id > 1099511627776) ∧ id = lastV me reps sess l x + 1 then l.set x.toNat id else l
theorem rend_lasts (me reps sess : Nat) (a : Rv) (q : Rp) : (rendV me reps sess a q).2.lasts = a.lasts := by
  rw [rendV]
  repeat' split
  all_goals rfl
theorem rbeg_lasts (me reps sess room : Nat) (a : Rv) (x id : Int) : (rbegV me reps sess room a x id).2.lasts = begL me reps sess a.lasts x id := by
  rw [rbegV, begL]
  by_cases h1 : mineV me reps sess x = false
  · rw [if_pos h1, if_neg (by rw [h1]; simp)]
  rw [if_neg h1]
  have h1' : mineV me reps sess x = true := by simpa using h1
  by_cases h2 : id < 1 ∨ id > 1099511627776
  · rw [if_pos h2, if_neg (fun h => h.2.1 h2)]
  rw [if_neg h2]
  by_cases h3 : id > lastV me reps sess a.lasts x + 1
  · rw [if_pos h3, if_neg (fun h => by omega)]
  rw [if_neg h3]
  by_cases h4 : id = lastV me reps sess a.lasts x + 1
  · rw [if_pos h4, if_pos ⟨h1', h2, h4⟩]
  · have e : ¬ (mineV me reps sess x = true ∧ ¬ (id < 1 ∨ id > 1099511627776) ∧ id = lastV me reps sess a.lasts x + 1) := fun h => h4 h.2.2
    rw [if_neg h4, if_neg e]
    repeat' split
    all_goals rfl
def PrQ (w0 : World) (c : Cc) (r : Rc) (N : Nat) (F : Grps) (L : List Int) (w : World) : Prop := ∃ c' r', r'.lasts = L ∧ c'.p = c.p ∧ r'.p = r.p ∧ PW c' r' N ∧ c'.me = c.me ∧ c'.reps = c.reps ∧ c'.sess = c.sess ∧ c'.room = c.room ∧ St w0 w (ccG c' (rcG r' F))
theorem pend2_st {c : Cc} {r : Rc} {p : Po} {N : Nat} (h : St w0 w (prG c r p F)) (hw : PW c r N) (hN : N ≤ 1000000) (q : Rp) :
    CallK Try.prog .bool 30 #[.pointer p.p, .agg #[.int .i64 q.1, .int .i64 q.2.1, .int .i64 q.2.2.1, .int .i64 q.2.2.2]] w fun (v : Bool) w' => v = true ∧ PrQ w0 c r (N + 1) (poG c.p r.p p F) r.lasts w' := by
  refine T30.calls (p1 := rpt q) ?_
  unfold T30
  refine h.newB run_boxA rfl ?_
  intro b w1 h
  refine NilP.mk ?_
  have h := h.ord 4 [1, 2, 3, 0]
  have h : St w0 w1 (ccG c ([Ent.cel b 43 (rpv q)] :: rcG r (poG c.p r.p p F))) := h
  refine h.drew.readB 5 0 ⟨_, rfl, rfl⟩ rfl (kd := .ptr) (x := c.p) rfl ?_
  refine ReadN.of (kd := .agg (.cons (.int .i64) (.cons (.int .i64) (.cons (.int .i64) (.cons (.int .i64) .nilT))))) (x := rpt q) (h.drew.run_loadA (k := 3) (i := 0) (b := b) (t := 43) (cs := rpv q) ⟨_, rfl, rfl⟩ (t' := 43) (n := 4) (j := 0) rfl (vs := rpv q) rfl rfl) ?_
  refine (end_st h.drew hw.hc hN hw.dis q).mono ?_
  rintro v w2 ⟨ss', h, hwc, hv⟩
  refine NilP.mk ?_
  refine h.drew.readB 5 0 ⟨_, rfl, rfl⟩ rfl (kd := .ptr) (x := r.p) rfl ?_
  refine ReadN.of (kd := .agg (.cons (.int .i64) (.cons (.int .i64) (.cons (.int .i64) (.cons (.int .i64) .nilT))))) (x := rpt q) (h.drew.run_loadA (k := 3) (i := 0) (b := b) (t := 43) (cs := rpv q) ⟨_, rfl, rfl⟩ (t' := 43) (n := 4) (j := 0) rfl (vs := rpv q) rfl rfl) ?_
  refine (num_ok _).mono ?_
  rintro v w3 ⟨rfl, rfl⟩
  have h := h.drew
  refine ⟨StillV.of (h.run_loadA (k := 3) (i := 0) (b := b) (t := 43) (cs := rpv q) ⟨_, rfl, rfl⟩ (t' := 43) (n := 4) (j := 0) rfl (vs := rpv q) rfl rfl), ?_⟩
  refine ⟨h.stillB 5 0 ⟨_, rfl, rfl⟩ rfl rfl, ?_⟩
  have h := h.ord 5 [4, 0, 1, 2, 3]
  have h : St w0 w2.drew (rcG r (ccG { c with ss := ss' } ([Ent.cel b 43 (rpv q)] :: poG c.p r.p p F))) := h
  refine (rend_st h hw.hr hN q).mono ?_
  rintro v2 w4 ⟨r', hs, h, hwr, hv2⟩
  have heq := end_eq hw.hc.par hw.hrel q
  obtain ⟨p1, p2, p3, p4⟩ := hw.hpar
  rw [p1, p2, p3] at hv2
  rw [← hv, ← hv2] at heq
  have h := (h.ord 5 [1, 2, 3, 0, 4])
  have h : St w0 w4 (ccG { c with ss := ss' } (rcG r' ([Ent.cel b 43 (rpv q)] :: poG c.p r.p p F))) := h
  have h : St w0 w4 (ccG { c with ss := ss' } (rcG r' (poG c.p r.p p F))) := h.drop 4
  refine ⟨by show (v == v2) = true; simpa using heq.1, { c with ss := ss' }, r', (congrArg Rv.lasts (congrArg Prod.snd hv2 : r'.V = _)).trans (rend_lasts _ _ _ _ _), rfl, hs.p, ⟨wf_mono hwc (Nat.le_succ _), hwr, ⟨hs.me.trans p1, hs.reps.trans p2, hs.sess.trans p3, hs.room.trans p4⟩, heq.2⟩, rfl, rfl, rfl, rfl, h⟩
theorem pbegin_st {c : Cc} {r : Rc} {p : Po} {N : Nat} (h : St w0 w (prG c r p F)) (hw : PW c r N) (hN : N ≤ 1000000) (x id : Int) :
    CallK Try.prog .bool 29 #[.pointer p.p, .agg #[.int .i64 x, .int .i64 id]] w fun (v : Bool) w' => v = true ∧ PrQ w0 c r (N + 1) (poG c.p r.p p F) (begL c.me c.reps c.sess r.lasts x id) w' := by
  refine T29.calls (p1 := (x, id, ())) ?_
  unfold T29
  refine h.newB run_boxA rfl ?_
  intro b3 w1 h
  have h := h.ord 4 [1, 2, 3, 0]
  have h : St w0 w1 (ccG c ([Ent.cel b3 32 (clv (x, id))] :: rcG r (poG c.p r.p p F))) := h
  refine ⟨?_, ?_⟩
  · refine NilP.mk ?_
    refine h.drew.readB 5 0 ⟨_, rfl, rfl⟩ rfl (kd := .ptr) (x := c.p) rfl ?_
    refine ReadN.of (kd := .agg (.cons (.int .i64) (.cons (.int .i64) .nilT))) (x := (x, id, ())) (h.drew.run_loadA (k := 3) (i := 0) (b := b3) (t := 32) (cs := clv (x, id)) ⟨_, rfl, rfl⟩ (t' := 32) (n := 2) (j := 0) rfl (vs := clv (x, id)) rfl rfl) ?_
    refine (begin_st h.drew hw.hc hN x id).mono ?_
    rintro _ w2 ⟨ss', z, t, e, rfl, h, hwc, hv⟩
    refine h.newB (NewC.run _) rfl ?_
    intro b5 w3 h
    refine h.storA 0 0 (b := b5) (t := 43) (cs := rpv zrp) ⟨_, rfl, rfl⟩ (t' := 43) (n := 4) (j := 0) rfl (ds := rpv z) rfl rfl rfl ?_
    intro w4 h
    have h : St w0 w4 ([Ent.cel b5 43 (rpv z)] :: ccG { c with ss := ss' } ([Ent.cel b3 32 (clv (x, id))] :: rcG r (poG c.p r.p p F))) := h
    have h := h.ord 5 [0, 4, 1, 2, 3]
    have h : St w0 w4 ([Ent.cel b5 43 (rpv z)] :: [Ent.cel b3 32 (clv (x, id))] :: ccG { c with ss := ss' } (rcG r (poG c.p r.p p F))) := h
    have second : True := trivial
    refine ⟨?_, ?_⟩
    · refine NilP.mk ?_
      refine h.drew.readB 6 0 ⟨_, rfl, rfl⟩ rfl (kd := .ptr) (x := r.p) rfl ?_
      refine ReadN.of (kd := .agg (.cons (.int .i64) (.cons (.int .i64) .nilT))) (x := (x, id, ())) (h.drew.run_loadA (k := 1) (i := 0) (b := b3) (t := 32) (cs := clv (x, id)) ⟨_, rfl, rfl⟩ (t' := 32) (n := 2) (j := 0) rfl (vs := clv (x, id)) rfl rfl) ?_
      have h := h.drew.ord 6 [5, 2, 3, 4, 0, 1]
      have h : St w0 _ (rcG r (ccG { c with ss := ss' } ([Ent.cel b5 43 (rpv z)] :: [Ent.cel b3 32 (clv (x, id))] :: poG c.p r.p p F))) := h
      refine (rbeg_st h hw.hr hN x id).mono ?_
      rintro _ w6 ⟨r', z2, t2, e2, rfl, hs, h, hwr, hv2⟩
      refine h.newB (NewC.run _) rfl ?_
      intro b8 w7 h
      refine h.storA 0 0 (b := b8) (t := 43) (cs := rpv zrp) ⟨_, rfl, rfl⟩ (t' := 43) (n := 4) (j := 0) rfl (ds := rpv z2) rfl rfl rfl ?_
      intro w8 h
      have h : St w0 w8 ([Ent.cel b8 43 (rpv z2)] :: rcG r' (ccG { c with ss := ss' } ([Ent.cel b5 43 (rpv z)] :: [Ent.cel b3 32 (clv (x, id))] :: poG c.p r.p p F))) := h
      refine RunN.of (kd := .agg (.cons (.int .i64) (.cons (.int .i64) (.cons (.int .i64) (.cons (.int .i64) .nilT))))) (x := rpt z) (h.run_loadA (k := 5) (i := 0) (b := b5) (t := 43) (cs := rpv z) ⟨_, rfl, rfl⟩ (t' := 43) (n := 4) (j := 0) rfl (vs := rpv z) rfl rfl) ?_
      refine RunN.of (kd := .agg (.cons (.int .i64) (.cons (.int .i64) (.cons (.int .i64) (.cons (.int .i64) .nilT))))) (x := rpt z2) (h.run_loadA (k := 0) (i := 0) (b := b8) (t := 43) (cs := rpv z2) ⟨_, rfl, rfl⟩ (t' := 43) (n := 4) (j := 0) rfl (vs := rpv z2) rfl rfl) ?_
      refine RunN.k4Eq ?_
      have heq := begin_eq hw.hc.par hw.hrel x id
      obtain ⟨p1, p2, p3, p4⟩ := hw.hpar
      rw [p1, p2, p3, p4] at hv2
      rw [← hv, ← hv2] at heq
      obtain ⟨heq1, heq2⟩ := heq
      have heq1 : (z, t, e) = (z2, t2, e2) := heq1
      simp only [Prod.mk.injEq] at heq1
      obtain ⟨q1, q5, q6⟩ := heq1
      have h := (h.ord 7 [2, 3, 4, 1, 0, 5, 6])
      have h : St w0 w8 (ccG { c with ss := ss' } (rcG r' ([Ent.cel b8 43 (rpv z2)] :: [Ent.cel b5 43 (rpv z)] :: [Ent.cel b3 32 (clv (x, id))] :: poG c.p r.p p F))) := h
      have h : St w0 w8 (ccG { c with ss := ss' } (rcG r' (poG c.p r.p p F))) := ((h.drop 4).drop 4).drop 4
      rw [SplitB_iff]
      refine ⟨fun _ => ?_, fun hf => ?_⟩
      · rw [SplitB_iff]
        refine ⟨fun _ => ?_, fun hf => ?_⟩
        · refine (num_ok _).mono ?_
          rintro e w9 ⟨rfl, rfl⟩
          refine ⟨by show (e == e2) = true; simpa using q6, { c with ss := ss' }, r', (congrArg Rv.lasts (congrArg Prod.snd hv2 : r'.V = _)).trans (rbeg_lasts _ _ _ _ _ _ _), rfl, hs.p, ⟨hwc, hwr, ⟨hs.me.trans p1, hs.reps.trans p2, hs.sess.trans p3, hs.room.trans p4⟩, heq2⟩, rfl, rfl, rfl, rfl, h⟩
        · have hf : (t == t2) = false := hf
          rw [q5] at hf; simp at hf
      · have hf : eq4 z.1 z.2.1 z.2.2.1 z.2.2.2 z2.1 z2.2.1 z2.2.2.1 z2.2.2.2 = false := hf
        simp [eq4, q1] at hf
    · refine NilP.mk ?_
      refine h.drew.readB 6 0 ⟨_, rfl, rfl⟩ rfl (kd := .ptr) (x := r.p) rfl ?_
      refine ReadN.of (kd := .agg (.cons (.int .i64) (.cons (.int .i64) .nilT))) (x := (x, id, ())) (h.drew.run_loadA (k := 1) (i := 0) (b := b3) (t := 32) (cs := clv (x, id)) ⟨_, rfl, rfl⟩ (t' := 32) (n := 2) (j := 0) rfl (vs := clv (x, id)) rfl rfl) ?_
      refine h.drew.newB (NewC.run _) rfl ?_
      intro b8 w6 h
      refine ⟨StillV.of (h.run_loadA (k := 2) (i := 0) (b := b3) (t := 32) (cs := clv (x, id)) ⟨_, rfl, rfl⟩ (t' := 32) (n := 2) (j := 0) rfl (vs := clv (x, id)) rfl rfl), ?_⟩
      refine ⟨h.stillB 7 0 ⟨_, rfl, rfl⟩ rfl rfl, ?_⟩
      have h := h.ord 7 [6, 0, 3, 4, 5, 1, 2]
      have h : St w0 w6 (rcG r ([Ent.cel b8 43 (rpv zrp)] :: ccG { c with ss := ss' } ([Ent.cel b5 43 (rpv z)] :: [Ent.cel b3 32 (clv (x, id))] :: poG c.p r.p p F))) := h
      refine (rbeg_st h hw.hr hN x id).mono ?_
      rintro _ w7 ⟨r', z2, t2, e2, rfl, hs, h, hwr, hv2⟩
      refine h.storA 1 0 (b := b8) (t := 43) (cs := rpv zrp) ⟨_, rfl, rfl⟩ (t' := 43) (n := 4) (j := 0) rfl (ds := rpv z2) rfl rfl rfl ?_
      intro w8 h
      have h : St w0 w8 (rcG r' ([Ent.cel b8 43 (rpv z2)] :: ccG { c with ss := ss' } ([Ent.cel b5 43 (rpv z)] :: [Ent.cel b3 32 (clv (x, id))] :: poG c.p r.p p F))) := h
      have h := h.ord 2 [1, 0]
      have h : St w0 w8 ([Ent.cel b8 43 (rpv z2)] :: rcG r' (ccG { c with ss := ss' } ([Ent.cel b5 43 (rpv z)] :: [Ent.cel b3 32 (clv (x, id))] :: poG c.p r.p p F))) := h
      refine RunN.of (kd := .agg (.cons (.int .i64) (.cons (.int .i64) (.cons (.int .i64) (.cons (.int .i64) .nilT))))) (x := rpt z) (h.run_loadA (k := 5) (i := 0) (b := b5) (t := 43) (cs := rpv z) ⟨_, rfl, rfl⟩ (t' := 43) (n := 4) (j := 0) rfl (vs := rpv z) rfl rfl) ?_
      refine RunN.of (kd := .agg (.cons (.int .i64) (.cons (.int .i64) (.cons (.int .i64) (.cons (.int .i64) .nilT))))) (x := rpt z2) (h.run_loadA (k := 0) (i := 0) (b := b8) (t := 43) (cs := rpv z2) ⟨_, rfl, rfl⟩ (t' := 43) (n := 4) (j := 0) rfl (vs := rpv z2) rfl rfl) ?_
      refine RunN.k4Eq ?_
      have heq := begin_eq hw.hc.par hw.hrel x id
      obtain ⟨p1, p2, p3, p4⟩ := hw.hpar
      rw [p1, p2, p3, p4] at hv2
      rw [← hv, ← hv2] at heq
      obtain ⟨heq1, heq2⟩ := heq
      have heq1 : (z, t, e) = (z2, t2, e2) := heq1
      simp only [Prod.mk.injEq] at heq1
      obtain ⟨q1, q5, q6⟩ := heq1
      have h := (h.ord 7 [2, 3, 4, 1, 0, 5, 6])
      have h : St w0 w8 (ccG { c with ss := ss' } (rcG r' ([Ent.cel b8 43 (rpv z2)] :: [Ent.cel b5 43 (rpv z)] :: [Ent.cel b3 32 (clv (x, id))] :: poG c.p r.p p F))) := h
      have h : St w0 w8 (ccG { c with ss := ss' } (rcG r' (poG c.p r.p p F))) := ((h.drop 4).drop 4).drop 4
      rw [SplitB_iff]
      refine ⟨fun _ => ?_, fun hf => ?_⟩
      · rw [SplitB_iff]
        refine ⟨fun _ => ?_, fun hf => ?_⟩
        · refine (num_ok _).mono ?_
          rintro e w9 ⟨rfl, rfl⟩
          refine ⟨by show (e == e2) = true; simpa using q6, { c with ss := ss' }, r', (congrArg Rv.lasts (congrArg Prod.snd hv2 : r'.V = _)).trans (rbeg_lasts _ _ _ _ _ _ _), rfl, hs.p, ⟨hwc, hwr, ⟨hs.me.trans p1, hs.reps.trans p2, hs.sess.trans p3, hs.room.trans p4⟩, heq2⟩, rfl, rfl, rfl, rfl, h⟩
        · have hf : (t == t2) = false := hf
          rw [q5] at hf; simp at hf
      · have hf : eq4 z.1 z.2.1 z.2.2.1 z.2.2.2 z2.1 z2.2.1 z2.2.2.1 z2.2.2.2 = false := hf
        simp [eq4, q1] at hf
  · refine NilP.mk ?_
    refine h.drew.readB 5 0 ⟨_, rfl, rfl⟩ rfl (kd := .ptr) (x := c.p) rfl ?_
    refine ReadN.of (kd := .agg (.cons (.int .i64) (.cons (.int .i64) .nilT))) (x := (x, id, ())) (h.drew.run_loadA (k := 3) (i := 0) (b := b3) (t := 32) (cs := clv (x, id)) ⟨_, rfl, rfl⟩ (t' := 32) (n := 2) (j := 0) rfl (vs := clv (x, id)) rfl rfl) ?_
    refine h.drew.newB (NewC.run _) rfl ?_
    intro b5 w2 h
    refine ⟨StillV.of (h.run_loadA (k := 4) (i := 0) (b := b3) (t := 32) (cs := clv (x, id)) ⟨_, rfl, rfl⟩ (t' := 32) (n := 2) (j := 0) rfl (vs := clv (x, id)) rfl rfl), ?_⟩
    refine ⟨h.stillB 6 0 ⟨_, rfl, rfl⟩ rfl rfl, ?_⟩
    have h := h.ord 5 [1, 2, 3, 0, 4]
    have h : St w0 w2 (ccG c ([Ent.cel b5 43 (rpv zrp)] :: [Ent.cel b3 32 (clv (x, id))] :: rcG r (poG c.p r.p p F))) := h
    refine (begin_st h hw.hc hN x id).mono ?_
    rintro _ w3 ⟨ss', z, t, e, rfl, h, hwc, hv⟩
    refine h.storA 3 0 (b := b5) (t := 43) (cs := rpv zrp) ⟨_, rfl, rfl⟩ (t' := 43) (n := 4) (j := 0) rfl (ds := rpv z) rfl rfl rfl ?_
    intro w4 h
    have h : St w0 w4 (ccG { c with ss := ss' } ([Ent.cel b5 43 (rpv z)] :: [Ent.cel b3 32 (clv (x, id))] :: rcG r (poG c.p r.p p F))) := h
    have h := h.ord 5 [3, 4, 0, 1, 2]
    have h : St w0 w4 ([Ent.cel b5 43 (rpv z)] :: [Ent.cel b3 32 (clv (x, id))] :: ccG { c with ss := ss' } (rcG r (poG c.p r.p p F))) := h
    have second : True := trivial
    refine ⟨?_, ?_⟩
    · refine NilP.mk ?_
      refine h.drew.readB 6 0 ⟨_, rfl, rfl⟩ rfl (kd := .ptr) (x := r.p) rfl ?_
      refine ReadN.of (kd := .agg (.cons (.int .i64) (.cons (.int .i64) .nilT))) (x := (x, id, ())) (h.drew.run_loadA (k := 1) (i := 0) (b := b3) (t := 32) (cs := clv (x, id)) ⟨_, rfl, rfl⟩ (t' := 32) (n := 2) (j := 0) rfl (vs := clv (x, id)) rfl rfl) ?_
      have h := h.drew.ord 6 [5, 2, 3, 4, 0, 1]
      have h : St w0 _ (rcG r (ccG { c with ss := ss' } ([Ent.cel b5 43 (rpv z)] :: [Ent.cel b3 32 (clv (x, id))] :: poG c.p r.p p F))) := h
      refine (rbeg_st h hw.hr hN x id).mono ?_
      rintro _ w6 ⟨r', z2, t2, e2, rfl, hs, h, hwr, hv2⟩
      refine h.newB (NewC.run _) rfl ?_
      intro b8 w7 h
      refine h.storA 0 0 (b := b8) (t := 43) (cs := rpv zrp) ⟨_, rfl, rfl⟩ (t' := 43) (n := 4) (j := 0) rfl (ds := rpv z2) rfl rfl rfl ?_
      intro w8 h
      have h : St w0 w8 ([Ent.cel b8 43 (rpv z2)] :: rcG r' (ccG { c with ss := ss' } ([Ent.cel b5 43 (rpv z)] :: [Ent.cel b3 32 (clv (x, id))] :: poG c.p r.p p F))) := h
      refine RunN.of (kd := .agg (.cons (.int .i64) (.cons (.int .i64) (.cons (.int .i64) (.cons (.int .i64) .nilT))))) (x := rpt z) (h.run_loadA (k := 5) (i := 0) (b := b5) (t := 43) (cs := rpv z) ⟨_, rfl, rfl⟩ (t' := 43) (n := 4) (j := 0) rfl (vs := rpv z) rfl rfl) ?_
      refine RunN.of (kd := .agg (.cons (.int .i64) (.cons (.int .i64) (.cons (.int .i64) (.cons (.int .i64) .nilT))))) (x := rpt z2) (h.run_loadA (k := 0) (i := 0) (b := b8) (t := 43) (cs := rpv z2) ⟨_, rfl, rfl⟩ (t' := 43) (n := 4) (j := 0) rfl (vs := rpv z2) rfl rfl) ?_
      refine RunN.k4Eq ?_
      have heq := begin_eq hw.hc.par hw.hrel x id
      obtain ⟨p1, p2, p3, p4⟩ := hw.hpar
      rw [p1, p2, p3, p4] at hv2
      rw [← hv, ← hv2] at heq
      obtain ⟨heq1, heq2⟩ := heq
      have heq1 : (z, t, e) = (z2, t2, e2) := heq1
      simp only [Prod.mk.injEq] at heq1
      obtain ⟨q1, q5, q6⟩ := heq1
      have h := (h.ord 7 [2, 3, 4, 1, 0, 5, 6])
      have h : St w0 w8 (ccG { c with ss := ss' } (rcG r' ([Ent.cel b8 43 (rpv z2)] :: [Ent.cel b5 43 (rpv z)] :: [Ent.cel b3 32 (clv (x, id))] :: poG c.p r.p p F))) := h
      have h : St w0 w8 (ccG { c with ss := ss' } (rcG r' (poG c.p r.p p F))) := ((h.drop 4).drop 4).drop 4
      rw [SplitB_iff]
      refine ⟨fun _ => ?_, fun hf => ?_⟩
      · rw [SplitB_iff]
        refine ⟨fun _ => ?_, fun hf => ?_⟩
        · refine (num_ok _).mono ?_
          rintro e w9 ⟨rfl, rfl⟩
          refine ⟨by show (e == e2) = true; simpa using q6, { c with ss := ss' }, r', (congrArg Rv.lasts (congrArg Prod.snd hv2 : r'.V = _)).trans (rbeg_lasts _ _ _ _ _ _ _), rfl, hs.p, ⟨hwc, hwr, ⟨hs.me.trans p1, hs.reps.trans p2, hs.sess.trans p3, hs.room.trans p4⟩, heq2⟩, rfl, rfl, rfl, rfl, h⟩
        · have hf : (t == t2) = false := hf
          rw [q5] at hf; simp at hf
      · have hf : eq4 z.1 z.2.1 z.2.2.1 z.2.2.2 z2.1 z2.2.1 z2.2.2.1 z2.2.2.2 = false := hf
        simp [eq4, q1] at hf
    · refine NilP.mk ?_
      refine h.drew.readB 6 0 ⟨_, rfl, rfl⟩ rfl (kd := .ptr) (x := r.p) rfl ?_
      refine ReadN.of (kd := .agg (.cons (.int .i64) (.cons (.int .i64) .nilT))) (x := (x, id, ())) (h.drew.run_loadA (k := 1) (i := 0) (b := b3) (t := 32) (cs := clv (x, id)) ⟨_, rfl, rfl⟩ (t' := 32) (n := 2) (j := 0) rfl (vs := clv (x, id)) rfl rfl) ?_
      refine h.drew.newB (NewC.run _) rfl ?_
      intro b8 w6 h
      refine ⟨StillV.of (h.run_loadA (k := 2) (i := 0) (b := b3) (t := 32) (cs := clv (x, id)) ⟨_, rfl, rfl⟩ (t' := 32) (n := 2) (j := 0) rfl (vs := clv (x, id)) rfl rfl), ?_⟩
      refine ⟨h.stillB 7 0 ⟨_, rfl, rfl⟩ rfl rfl, ?_⟩
      have h := h.ord 7 [6, 0, 3, 4, 5, 1, 2]
      have h : St w0 w6 (rcG r ([Ent.cel b8 43 (rpv zrp)] :: ccG { c with ss := ss' } ([Ent.cel b5 43 (rpv z)] :: [Ent.cel b3 32 (clv (x, id))] :: poG c.p r.p p F))) := h
      refine (rbeg_st h hw.hr hN x id).mono ?_
      rintro _ w7 ⟨r', z2, t2, e2, rfl, hs, h, hwr, hv2⟩
      refine h.storA 1 0 (b := b8) (t := 43) (cs := rpv zrp) ⟨_, rfl, rfl⟩ (t' := 43) (n := 4) (j := 0) rfl (ds := rpv z2) rfl rfl rfl ?_
      intro w8 h
      have h : St w0 w8 (rcG r' ([Ent.cel b8 43 (rpv z2)] :: ccG { c with ss := ss' } ([Ent.cel b5 43 (rpv z)] :: [Ent.cel b3 32 (clv (x, id))] :: poG c.p r.p p F))) := h
      have h := h.ord 2 [1, 0]
      have h : St w0 w8 ([Ent.cel b8 43 (rpv z2)] :: rcG r' (ccG { c with ss := ss' } ([Ent.cel b5 43 (rpv z)] :: [Ent.cel b3 32 (clv (x, id))] :: poG c.p r.p p F))) := h
      refine RunN.of (kd := .agg (.cons (.int .i64) (.cons (.int .i64) (.cons (.int .i64) (.cons (.int .i64) .nilT))))) (x := rpt z) (h.run_loadA (k := 5) (i := 0) (b := b5) (t := 43) (cs := rpv z) ⟨_, rfl, rfl⟩ (t' := 43) (n := 4) (j := 0) rfl (vs := rpv z) rfl rfl) ?_
      refine RunN.of (kd := .agg (.cons (.int .i64) (.cons (.int .i64) (.cons (.int .i64) (.cons (.int .i64) .nilT))))) (x := rpt z2) (h.run_loadA (k := 0) (i := 0) (b := b8) (t := 43) (cs := rpv z2) ⟨_, rfl, rfl⟩ (t' := 43) (n := 4) (j := 0) rfl (vs := rpv z2) rfl rfl) ?_
      refine RunN.k4Eq ?_
      have heq := begin_eq hw.hc.par hw.hrel x id
      obtain ⟨p1, p2, p3, p4⟩ := hw.hpar
      rw [p1, p2, p3, p4] at hv2
      rw [← hv, ← hv2] at heq
      obtain ⟨heq1, heq2⟩ := heq
      have heq1 : (z, t, e) = (z2, t2, e2) := heq1
      simp only [Prod.mk.injEq] at heq1
      obtain ⟨q1, q5, q6⟩ := heq1
      have h := (h.ord 7 [2, 3, 4, 1, 0, 5, 6])
      have h : St w0 w8 (ccG { c with ss := ss' } (rcG r' ([Ent.cel b8 43 (rpv z2)] :: [Ent.cel b5 43 (rpv z)] :: [Ent.cel b3 32 (clv (x, id))] :: poG c.p r.p p F))) := h
      have h : St w0 w8 (ccG { c with ss := ss' } (rcG r' (poG c.p r.p p F))) := ((h.drop 4).drop 4).drop 4
      rw [SplitB_iff]
      refine ⟨fun _ => ?_, fun hf => ?_⟩
      · rw [SplitB_iff]
        refine ⟨fun _ => ?_, fun hf => ?_⟩
        · refine (num_ok _).mono ?_
          rintro e w9 ⟨rfl, rfl⟩
          refine ⟨by show (e == e2) = true; simpa using q6, { c with ss := ss' }, r', (congrArg Rv.lasts (congrArg Prod.snd hv2 : r'.V = _)).trans (rbeg_lasts _ _ _ _ _ _ _), rfl, hs.p, ⟨hwc, hwr, ⟨hs.me.trans p1, hs.reps.trans p2, hs.sess.trans p3, hs.room.trans p4⟩, heq2⟩, rfl, rfl, rfl, rfl, h⟩
        · have hf : (t == t2) = false := hf
          rw [q5] at hf; simp at hf
      · have hf : eq4 z.1 z.2.1 z.2.2.1 z.2.2.2 z2.1 z2.2.1 z2.2.2.1 z2.2.2.2 = false := hf
        simp [eq4, q1] at hf
end Go.Proofs.Ytbdhmeefjlkdcaa
