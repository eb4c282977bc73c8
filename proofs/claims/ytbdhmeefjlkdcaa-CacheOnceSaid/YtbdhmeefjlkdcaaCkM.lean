/- The document's machine: New, End, Begin. -/
import Derived.Test.YtbdhmeefjlkdcaaCkL
namespace Go.Proofs.Ytbdhmeefjlkdcaa
open Go Go.Fw Go.RowKit
set_option linter.unusedVariables false
set_option linter.unusedSimpArgs false
set_option maxRecDepth 4000
set_option maxHeartbeats 2000000
variable {w0 w : World} {F G : Grps}

structure Rv where
  lasts : List Int
  opn : List Cl
  rs : List Rp
def Rc.V (c : Rc) : Rv := ⟨c.lasts, c.opn, c.rs⟩
structure Rc.same (c c' : Rc) : Prop where
  cb : c'.cb = c.cb
  me : c'.me = c.me
  reps : c'.reps = c.reps
  sess : c'.sess = c.sess
  room : c'.room = c.room
theorem Rc.same.refl (c : Rc) : c.same c := ⟨rfl, rfl, rfl, rfl, rfl⟩
theorem Rc.same.p {c c' : Rc} (h : c.same c') : c'.p = c.p := by rw [Rc.p, Rc.p, h.cb]
theorem Rc.wf.mono {c : Rc} {N M : Nat} (h : c.wf N) (hm : N ≤ M) : c.wf M := { h with opn := Nat.le_trans h.opn hm, rs := Nat.le_trans h.rs hm }
def rendV (me reps sess : Nat) (a : Rv) (r : Rp) : Int × Rv :=
  if mineV me reps sess r.1 = false then (132, a)
  else if r.2.1 > lastV me reps sess a.lasts r.1 then (131, a)
  else match a.opn.findIdx? (fun y => y.1 == r.1 && y.2 == r.2.1) with
    | none => (130, a)
    | some i => (0, ⟨a.lasts, a.opn.eraseIdx i, a.rs ++ [r]⟩)
theorem bs78 (w : World) (a b c d : Int) : (Instr.buildSlice 78 1 #[(0, .agg #[.int .i64 a, .int .i64 b, .int .i64 c, .int .i64 d])]).run Try.prog w = .ok (.slice (some ⟨w.heap.size, 0, none⟩) 1 1) (w.alloc (.cells ⟨[.int .i64 a, .int .i64 b, .int .i64 c, .int .i64 d]⟩ 43)) := by kernel_rfl
theorem lastV_at {c : Rc} (h : c.lasts.length = 64) {n : Nat} (hn : n < 64) (hm : mineV c.me c.reps c.sess (n : Int) = true) : lastV c.me c.reps c.sess c.lasts (n : Int) = c.lasts[n]'(by omega) := by
  rw [lastV, if_pos hm, Int.toNat_natCast, List.getElem?_eq_getElem (by omega)]; rfl
theorem rend_st {c : Rc} {N : Nat} (h : St w0 w (rcG c F)) (hw : c.wf N) (hN : N ≤ 1000000) (r : Rp) :
    CallK Try.prog (.int .i64) 41 #[.pointer c.p, .agg #[.int .i64 r.1, .int .i64 r.2.1, .int .i64 r.2.2.1, .int .i64 r.2.2.2]] w fun (v : Int) w' =>
      ∃ c', c.same c' ∧ St w0 w' (rcG c' F) ∧ c'.wf (N + 1) ∧ (v, c'.V) = rendV c.me c.reps c.sess c.V r := by
  refine T41.calls (p1 := rpt r) ?_
  unfold T41
  refine h.newB run_boxA rfl ?_
  intro b w1 h
  have h := h.ord 2 [1, 0]
  have h : St w0 w1 (rcG c ([Ent.cel b 43 (rpv r)] :: F)) := h
  refine h.loadB 1 0 ⟨_, rfl, rfl⟩ rfl rfl ?_
  refine (mine_st h hw r.1).mono ?_
  rintro m w2 ⟨h, hm⟩
  have same : ∀ {w'} (v : Int), St w0 w' (rcG c ([Ent.cel b 43 (rpv r)] :: F)) → rendV c.me c.reps c.sess c.V r = (v, c.V) → ∃ c', c.same c' ∧ St w0 w' (rcG c' F) ∧ c'.wf (N + 1) ∧ (v, c'.V) = rendV c.me c.reps c.sess c.V r := fun v h e => ⟨c, Rc.same.refl c, h.drop 1, hw.mono (Nat.le_succ _), e.symm⟩
  rw [SplitB_iff]
  refine ⟨fun hc => ?_, fun hc => ?_⟩
  · have hc : m = false := by simpa using hc
    rw [hc] at hm
    exact same 132 h (if_pos hm.symm)
  have hc : m = true := by simpa using hc
  rw [hc] at hm
  obtain ⟨n, hn1, hn⟩ := mine_lt hm.symm hw.sess.2
  have hmn := hm.symm
  rw [hn1] at hmn
  have hlv := lastV_at hw.lasts hn hmn
  rw [← hn1] at hlv
  have e1 : ¬ mineV c.me c.reps c.sess r.1 = false := by rw [← hm]; decide
  refine h.drew.readB 1 0 ⟨_, rfl, rfl⟩ rfl rfl ?_
  refine h.drew.readB 1 0 ⟨_, rfl, rfl⟩ rfl rfl ?_
  refine NilP.mk ?_
  refine ReadN.arr (g := c.cb) (o := 4) rfl n hn1 hn ?_
  refine h.drew.readB 0 0 ⟨_, rfl, rfl⟩ rfl (kd := .int .i64) (x := (c.lasts[n]'(by rw [hw.lasts]; exact hn) : Int)) (rcC_last hw.lasts n hn) ?_
  rw [SplitB_iff]
  refine ⟨fun hd => ?_, fun hd => ?_⟩
  · have hd : r.2.1 > c.lasts[n]'(by rw [hw.lasts]; exact hn) := of_decide_eq_true hd
    exact same 131 h.drew ((if_neg e1).trans (if_pos (by show r.2.1 > lastV c.me c.reps c.sess c.lasts r.1; rw [hlv]; exact hd)))
  have hd : ¬ r.2.1 > c.lasts[n]'(by rw [hw.lasts]; exact hn) := of_decide_eq_false hd
  have e2 : ¬ r.2.1 > lastV c.me c.reps c.sess c.V.lasts r.1 := by show ¬ r.2.1 > lastV c.me c.reps c.sess c.lasts r.1; rw [hlv]; exact hd
  have e3 : rendV c.me c.reps c.sess c.V r = (match c.opn.findIdx? (fun y => y.1 == r.1 && y.2 == r.2.1) with | none => (130, c.V) | some i => (0, ⟨c.lasts, c.opn.eraseIdx i, c.rs ++ [r]⟩)) := by
    rw [rendV, if_neg e1, if_neg e2]; rfl
  have h := h.drew
  refine RunN.of (kd := .agg (.cons (.int .i64) (.cons (.int .i64) .nilT))) (x := (r.1, r.2.1, ())) (h.run_loadA (k := 1) (i := 0) (b := b) (t := 43) (cs := rpv r) ⟨_, rfl, rfl⟩ (t' := 32) (n := 2) (j := 0) rfl (vs := clv (r.1, r.2.1)) rfl rfl) ?_
  refine (open_st h hw hN (r.1, r.2.1)).mono ?_
  rintro v w3 ⟨h, hv⟩
  rw [opnV] at hv
  dsimp only at hv
  cases hf : c.opn.findIdx? (fun y => y.1 == r.1 && y.2 == r.2.1) with
  | none =>
    rw [hf] at hv e3
    dsimp only at hv
    subst hv
    rw [SplitB_iff]
    refine ⟨fun he => ?_, fun he => ?_⟩
    · exact same 130 h e3
    · cases he
  | some i =>
    rw [hf] at hv e3
    dsimp only at hv
    subst hv
    have hio : i < c.opn.length := (List.findIdx?_eq_some_iff_getElem.1 hf).1
    rw [SplitB_iff]
    refine ⟨fun he => ?_, fun he => ?_⟩
    · have he : (i : Int) < 0 := of_decide_eq_true he
      omega
    have hol := hw.opn
    have hrl := hw.rs
    have hql : c.oq.len = c.opn.length := by have := (h.rd (k := 0) (i := 1) ⟨_, rfl, rfl⟩).1; rw [flat_len clv_len] at this; omega
    have hcap := (h.rd (k := 0) (i := 1) ⟨_, rfl, rfl⟩).2.2
    refine NilP.mk ?_
    refine h.loadB 0 0 ⟨_, rfl, rfl⟩ rfl (kd := .sl) (x := c.oq) (rcC_oq hw.lasts) ?_
    refine RunN.sH i rfl (by omega) ?_
    have hp := (h.rd (k := 0) (i := 1) ⟨_, rfl, rfl⟩).pre (hi := i) (by omega)
    rw [flat_take clv_len _ _ (by omega)] at hp
    have hpl : (subS c.oq 0 i 2).len = i := by simp [subS]
    refine h.appNil hp (clvs_one _) (by rw [hpl]; simp only [maxLen]; omega) (by rw [hpl]; omega) ?_
    intro q w4 hq h
    refine NilP.mk ?_
    refine h.loadB 1 0 ⟨_, rfl, rfl⟩ rfl (kd := .sl) (x := c.oq) (rcC_oq hw.lasts) ?_
    have ei : IntKind.i64.wrap ((i : Int) + 1) = ((i + 1 : Nat) : Int) := by rw [wr (by omega)]; omega
    refine RunN.sL (i + 1) ei (by omega) ?_
    have hs := (h.rd (k := 1) (i := 1) ⟨_, rfl, rfl⟩).suf (lo := i + 1) (by omega)
    rw [flat_drop clv_len _ _ (by omega)] at hs
    have hsl : (subS c.oq (i + 1) c.oq.len 2).len = c.opn.length - (i + 1) := by simp only [subS]; omega
    refine h.app 0 0 ⟨_, rfl, rfl⟩ hs (clvs_one _) (by rw [hsl, hq, hpl]; simp only [maxLen]; omega) (by rw [hsl, hq, hpl]; omega) ?_
    intro q2 w5 hq2 h
    have ecl : clvs (c.opn.take i) ++ clvs (c.opn.drop (i + 1)) = clvs (c.opn.eraseIdx i) := by rw [List.eraseIdx_eq_take_drop_succ, ← List.flatMap_append]
    have h : St w0 w5 ([Ent.row 32 2 q2 (clvs (c.opn.take i) ++ clvs (c.opn.drop (i + 1)))] :: rcG c ([Ent.cel b 43 (rpv r)] :: F)) := h
    rw [ecl] at h
    refine NilP.mk ?_
    refine h.storB 1 0 ⟨_, rfl, rfl⟩ rfl (by rw [rcC_len hw.lasts]; rfl) rfl ?_
    intro w6 h
    have h := h.plug (i := 1) rfl
    have h : St w0 w6 ([Ent.cel c.cb 80 (setO (rcC c) 68 (.slice q2.a q2.len q2.cap)), .row 32 2 q2 (clvs (c.opn.eraseIdx i)), .row 43 4 c.rq (rps c.rs)] :: [Ent.cel b 43 (rpv r)] :: F) := h
    rw [rcC_setoq hw.lasts] at h
    have h : St w0 w6 (rcG { c with oq := q2, opn := c.opn.eraseIdx i } ([Ent.cel b 43 (rpv r)] :: F)) := h
    have hw2 : ({ c with oq := q2, opn := c.opn.eraseIdx i } : Rc).wf N := { hw with opn := Nat.le_trans (List.length_eraseIdx_le ..) hw.opn }
    refine NilP.mk ?_
    refine h.drew.readB 0 0 ⟨_, rfl, rfl⟩ rfl (kd := .sl) (x := c.rq) (rcC_rq hw2.lasts) ?_
    refine ReadN.of (kd := .agg (.cons (.int .i64) (.cons (.int .i64) (.cons (.int .i64) (.cons (.int .i64) .nilT))))) (x := rpt r) (h.drew.run_loadA (k := 1) (i := 0) (b := b) (t := 43) (cs := rpv r) ⟨_, rfl, rfl⟩ (t' := 43) (n := 4) (j := 0) rfl (vs := rpv r) rfl rfl) ?_
    refine h.drew.newS 4 (bs78 _ _ _ _ _) rfl rfl rfl ?_
    intro u w7 hu1 hu2 _ h
    refine ⟨h.stillB 1 0 ⟨_, rfl, rfl⟩ rfl (rcC_rq hw2.lasts), ?_⟩
    have hru := h.rd (k := 0) (i := 0) ⟨_, rfl, rfl⟩
    have hrq : c.rq.len = c.rs.length := by have := (h.rd (k := 1) (i := 2) (E := 43) (sz := 4) (s := c.rq) (vs := rps c.rs) ⟨_, rfl, rfl⟩).1; rw [flat_len rpv_len] at this; omega
    refine h.app 1 2 (s := c.rq) (xs := rps c.rs) ⟨_, rfl, rfl⟩ hru (rps_one [r]) (by simp only [maxLen]; omega) (by omega) ?_
    intro q3 w8 hq3 h
    have h := h.drop 0
    have erp : rps c.rs ++ rpv r = rps (c.rs ++ [r]) := by simp [rps]
    have h : St w0 w8 ([Ent.cel c.cb 80 (rcC { c with oq := q2, opn := c.opn.eraseIdx i }), .row 32 2 q2 (clvs (c.opn.eraseIdx i)), .row 43 4 q3 (rps c.rs ++ rpv r)] :: [Ent.cel b 43 (rpv r)] :: F) := h
    rw [erp] at h
    refine NilP.mk ?_
    refine h.storB 0 0 ⟨_, rfl, rfl⟩ rfl (by rw [rcC_len (c := { c with oq := q2, opn := c.opn.eraseIdx i }) hw2.lasts]; rfl) rfl ?_
    intro w9 h
    have h : St w0 w9 ([Ent.cel c.cb 80 (setO (rcC { c with oq := q2, opn := c.opn.eraseIdx i }) 69 (.slice q3.a q3.len q3.cap)), .row 32 2 q2 (clvs (c.opn.eraseIdx i)), .row 43 4 q3 (rps (c.rs ++ [r]))] :: [Ent.cel b 43 (rpv r)] :: F) := h
    rw [rcC_setrq hw2.lasts] at h
    refine ⟨{ c with oq := q2, opn := c.opn.eraseIdx i, rq := q3, rs := c.rs ++ [r] }, ⟨rfl, rfl, rfl, rfl, rfl⟩, h.drop 1, { hw with opn := Nat.le_succ_of_le hw2.opn, rs := by simp; omega }, ?_⟩
    rw [e3]; rfl
end Go.Proofs.Ytbdhmeefjlkdcaa
