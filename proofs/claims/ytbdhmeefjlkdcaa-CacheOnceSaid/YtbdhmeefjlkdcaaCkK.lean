/- The document's machine: whose session it is, what is open. -/
import Derived.Test.YtbdhmeefjlkdcaaCkJ
namespace Go.Proofs.Ytbdhmeefjlkdcaa
open Go Go.Fw Go.RowKit
set_option linter.unusedVariables false
set_option linter.unusedSimpArgs false
set_option maxRecDepth 4000
set_option maxHeartbeats 2000000
variable {w0 w : World} {F G : Grps}

structure Rc where
  cb : Nat
  me : Nat
  reps : Nat
  sess : Nat
  room : Nat
  lasts : List Int
  oq : Sl
  opn : List Cl
  rq : Sl
  rs : List Rp
def rcC (c : Rc) : List Value := [.int .i64 (c.me : Int), .int .i64 (c.reps : Int), .int .i64 (c.sess : Int), .int .i64 (c.room : Int)] ++ lin c.lasts ++ [.slice c.oq.a c.oq.len c.oq.cap, .slice c.rq.a c.rq.len c.rq.cap]
def rcG (c : Rc) (F : Grps) : Grps := [.cel c.cb 80 (rcC c), .row 32 2 c.oq (clvs c.opn), .row 43 4 c.rq (rps c.rs)] :: F
def Rc.p (c : Rc) : Option Addr := some ⟨c.cb, 0, none⟩
structure Rc.wf (c : Rc) (N : Nat) : Prop where
  reps : 2 ≤ c.reps ∧ c.reps ≤ 16
  me : c.me < c.reps
  sess : 1 ≤ c.sess ∧ c.sess ≤ 64
  room : 1 ≤ c.room ∧ c.room ≤ 16
  lasts : c.lasts.length = 64
  low : ∀ x ∈ c.lasts, 0 ≤ x ∧ x ≤ 1099511627776
  opn : c.opn.length ≤ N
  rs : c.rs.length ≤ N
theorem rcC_len {c : Rc} (h : c.lasts.length = 64) : (rcC c).length = 70 := by simp [rcC, h, lin_len]
theorem rcC_last {c : Rc} (h : c.lasts.length = 64) (n : Nat) (hn : n < 64) : nthO (rcC c) (4 + n) = some (.int .i64 (c.lasts[n]'(by omega))) := by
  rw [nthO_get, rcC, List.append_assoc, List.getElem?_append_right (by simp)]
  simp only [List.length_cons, List.length_nil]
  rw [show 4 + n - (0 + 1 + 1 + 1 + 1) = n by omega, List.getElem?_append_left (by simp [h, lin_len]; omega)]
  exact lin_at (by omega)
theorem rcC_oq {c : Rc} (h : c.lasts.length = 64) : nthO (rcC c) 68 = some (.slice c.oq.a c.oq.len c.oq.cap) := by
  rw [nthO_get, rcC, List.getElem?_append_right (by simp [h, lin_len])]
  simp [h, lin_len]
theorem rcC_rq {c : Rc} (h : c.lasts.length = 64) : nthO (rcC c) 69 = some (.slice c.rq.a c.rq.len c.rq.cap) := by
  rw [nthO_get, rcC, List.getElem?_append_right (by simp [h, lin_len])]
  simp [h, lin_len]
theorem rcC_setoq {c : Rc} (h : c.lasts.length = 64) (q : Sl) : setO (rcC c) 68 (.slice q.a q.len q.cap) = rcC { c with oq := q } := by
  rw [setO_set, rcC, rcC, List.set_append_right _ _ (by simp [h, lin_len])]
  simp [h, lin_len]
theorem rcC_setrq {c : Rc} (h : c.lasts.length = 64) (q : Sl) : setO (rcC c) 69 (.slice q.a q.len q.cap) = rcC { c with rq := q } := by
  rw [setO_set, rcC, rcC, List.set_append_right _ _ (by simp [h, lin_len])]
  simp [h, lin_len]
theorem rcC_setlast {c : Rc} (h : c.lasts.length = 64) (n : Nat) (hn : n < 64) (x : Int) : setO (rcC c) (4 + n) (.int .i64 x) = rcC { c with lasts := c.lasts.set n x } := by
  rw [setO_set, rcC, rcC, List.append_assoc, List.append_assoc, List.set_append_right _ _ (by simp)]
  simp only [List.length_cons, List.length_nil]
  rw [show 4 + n - (0 + 1 + 1 + 1 + 1) = n by omega, List.set_append_left _ _ (by simp [h, lin_len]; omega)]
  simp [lin, List.map_set]
def mineV (me reps sess : Nat) (x : Int) : Bool := decide (0 ≤ x ∧ x < (sess : Int) ∧ x % (reps : Int) = (me : Int))
theorem run_rem (w : World) (a b : Int) (hb : b ≠ 0) : (binOp .rem 3 (.int .i64 a) (.int .i64 b)).run Try.prog w = .ok (.int .i64 (Int.tmod a b)) w := by
  simp [binOp, Op.intDiv, hb]
theorem mine_st {c : Rc} {N : Nat} (h : St w0 w (rcG c F)) (hw : c.wf N) (x : Int) : CallK Try.prog .bool 42 #[.pointer c.p, .int .i64 x] w fun (r : Bool) w' => St w0 w' (rcG c F) ∧ r = mineV c.me c.reps c.sess x := by
  have hr := hw.reps.1
  refine T42.calls ?_
  unfold T42
  rw [SplitB_iff]
  refine ⟨fun h1 => ?_, fun h1 => ?_⟩
  · have h1 : x ≥ 0 := of_decide_eq_true h1
    refine NilP.mk ?_
    refine h.drew.readB 0 0 ⟨_, rfl, rfl⟩ rfl rfl ?_
    rw [SplitB_iff]
    refine ⟨fun h2 => ?_, fun h2 => ?_⟩
    · have h2 : x < (c.sess : Int) := of_decide_eq_true h2
      refine NilP.mk ?_
      refine h.drew.readB 0 0 ⟨_, rfl, rfl⟩ rfl rfl ?_
      refine ReadN.of (kd := .int .i64) (x := Int.tmod x (c.reps : Int)) (run_rem _ _ _ (by omega)) ?_
      refine NilP.mk ?_
      refine h.drew.readB 0 0 ⟨_, rfl, rfl⟩ rfl rfl ?_
      refine ⟨h.drew, ?_⟩
      have e : Int.tmod x (c.reps : Int) = x % (c.reps : Int) := Int.tmod_eq_emod_of_nonneg h1
      show (Int.tmod x (c.reps : Int) == (c.me : Int)) = _
      rw [e, mineV, Bool.eq_iff_iff]
      simp only [beq_iff_eq, decide_eq_true_eq]
      omega
    · have h2 : ¬ x < (c.sess : Int) := of_decide_eq_false h2
      exact ⟨h.drew, by simp [mineV]; omega⟩
  · have h1 : ¬ x ≥ 0 := of_decide_eq_false h1
    exact ⟨h.drew, by simp [mineV]; omega⟩
/-- Where a call stands among those open. -/
def opnV (l : List Cl) (x : Cl) : Int := match l.findIdx? (fun y => y.1 == x.1 && y.2 == x.2) with | some i => (i : Int) | none => -1
theorem open_st {c : Rc} {N : Nat} (h : St w0 w (rcG c F)) (hw : c.wf N) (hN : N ≤ 1000000) (x : Cl) : CallK Try.prog (.int .i64) 45 #[.pointer c.p, .agg #[.int .i64 x.1, .int .i64 x.2]] w fun (r : Int) w' => St w0 w' (rcG c F) ∧ r = opnV c.opn x := by
  refine T45.calls (p1 := (x.1, x.2, ())) ?_
  unfold T45
  refine h.newB run_boxA rfl ?_
  intro b w1 h
  have h := h.ord 2 [1, 0]
  have h : St w0 w1 (rcG c ([Ent.cel b 32 (clv x)] :: F)) := h
  have hql : c.oq.len = c.opn.length := by have := (h.rd (k := 0) (i := 1) ⟨_, rfl, rfl⟩).1; rw [flat_len clv_len] at this; omega
  have hol := hw.opn
  refine LoopX.mk (fun st w' => ∃ i : Nat, st = ((i : Int), ()) ∧ i ≤ c.opn.length ∧ (∀ j (hj : j < c.opn.length), j < i → (c.opn[j].1 == x.1 && c.opn[j].2 == x.2) = false) ∧ St w0 w' (rcG c ([Ent.cel b 32 (clv x)] :: F))) (fun st => ((c.opn.length : Int) - st.1).toNat) ⟨0, rfl, Nat.zero_le _, fun j _ hj => by omega, h⟩ ?_
  clear h
  rintro _ w2 ⟨i, rfl, hi, hlo, h⟩ k hk
  dsimp only at hk ⊢
  refine NilP.mk ?_
  refine h.loadB 0 0 ⟨_, rfl, rfl⟩ rfl (kd := .sl) (x := c.oq) (rcC_oq hw.lasts) ?_
  rw [SplitB_iff]
  refine ⟨fun hc => ?_, fun hc => ?_⟩
  · have hc : i < c.opn.length := by have : (i : Int) < (c.oq.len : Int) := of_decide_eq_true hc; omega
    refine NilP.mk ?_
    refine h.drew.readB 0 0 ⟨_, rfl, rfl⟩ rfl (kd := .sl) (x := c.oq) (rcC_oq hw.lasts) ?_
    have hrr := h.drew.rd (k := 0) (i := 1) ⟨_, rfl, rfl⟩
    refine hrr.idxR i rfl (by omega) ?_
    intro g o ha
    refine hrr.elAR ha (i * 2) rfl (kd := .agg (.cons (.int .i64) (.cons (.int .i64) .nilT))) (c.opn[i].1, c.opn[i].2, ()) (flat_at clv_len _ _ hc) ?_
    refine ReadN.of (kd := .agg (.cons (.int .i64) (.cons (.int .i64) .nilT))) (x := (x.1, x.2, ())) (h.drew.run_loadA (k := 1) (i := 0) (b := b) (t := 32) (cs := clv x) ⟨_, rfl, rfl⟩ (t' := 32) (n := 2) (j := 0) rfl (vs := clv x) rfl rfl) ?_
    refine ReadN.k2Eq ?_
    rw [SplitB_iff]
    refine ⟨fun hd => ?_, fun hd => ?_⟩
    · have hd : (c.opn[i].1 == x.1 && c.opn[i].2 == x.2) = true := hd
      refine ⟨h.drew.drop 1, ?_⟩
      have : c.opn.findIdx? (fun y => y.1 == x.1 && y.2 == x.2) = some i := by
        rw [List.findIdx?_eq_some_iff_getElem]
        exact ⟨hc, hd, fun j hj => by simpa using hlo j (by omega) hj⟩
      rw [opnV, this]
    · have hd : (c.opn[i].1 == x.1 && c.opn[i].2 == x.2) = false := hd
      have e : IntKind.i64.wrap ((i : Int) + 1) = ((i + 1 : Nat) : Int) := by rw [wr (by omega)]; omega
      rw [e]
      refine hk _ _ ⟨i + 1, rfl, by omega, fun j hj hj2 => ?_, h.drew⟩ (by dsimp only; omega)
      rcases Nat.lt_or_ge j i with h3 | h3
      · exact hlo j hj h3
      · have : j = i := by omega
        subst this; exact hd
  · have hc : i = c.opn.length := by have : ¬ (i : Int) < (c.oq.len : Int) := of_decide_eq_false hc; omega
    refine ⟨h.drop 1, ?_⟩
    have : c.opn.findIdx? (fun y => y.1 == x.1 && y.2 == x.2) = none := by
      rw [List.findIdx?_eq_none_iff]
      intro y hy
      obtain ⟨j, hj, rfl⟩ := List.mem_iff_getElem.1 hy
      exact hlo j hj (by omega)
    rw [opnV, this]
theorem mine_lt {me reps sess : Nat} {x : Int} (h : mineV me reps sess x = true) (hs : sess ≤ 64) : ∃ n : Nat, x = (n : Int) ∧ n < 64 := by
  have h := of_decide_eq_true h
  exact ⟨x.toNat, by omega, by omega⟩
def lastV (me reps sess : Nat) (l : List Int) (x : Int) : Int := if mineV me reps sess x = true then l[x.toNat]?.getD 0 else 0
theorem rlast_st {c : Rc} {N : Nat} (h : St w0 w (rcG c F)) (hw : c.wf N) (x : Int) : CallK Try.prog (.int .i64) 31 #[.pointer c.p, .int .i64 x] w fun (r : Int) w' => St w0 w' (rcG c F) ∧ r = lastV c.me c.reps c.sess c.lasts x := by
  refine T31.calls ?_
  unfold T31
  refine (mine_st h hw x).mono ?_
  rintro r w1 ⟨h, hr⟩
  rw [SplitB_iff]
  refine ⟨fun hc => ?_, fun hc => ?_⟩
  · have hc : r = false := by simpa using hc
    exact ⟨h, by rw [lastV, ← hr, hc]; rfl⟩
  · have hc : r = true := by simpa using hc
    rw [hc] at hr
    obtain ⟨n, rfl, hn⟩ := mine_lt hr.symm hw.sess.2
    refine NilP.mk ?_
    refine RunN.arr (g := c.cb) (o := 4) rfl n rfl hn ?_
    refine h.loadB 0 0 ⟨_, rfl, rfl⟩ rfl (kd := .int .i64) (x := (c.lasts[n]'(by rw [hw.lasts]; exact hn) : Int)) (rcC_last hw.lasts n hn) ?_
    refine ⟨h, ?_⟩
    rw [lastV, if_pos hr.symm, Int.toNat_natCast, List.getElem?_eq_getElem (by rw [hw.lasts]; exact hn)]
    rfl
end Go.Proofs.Ytbdhmeefjlkdcaa
