/- The document's machine: Begin, New. -/
import Derived.Test.YtbdhmeefjlkdcaaCkM
namespace Go.Proofs.Ytbdhmeefjlkdcaa
open Go Go.Fw Go.RowKit
set_option linter.unusedVariables false
set_option linter.unusedSimpArgs false
set_option maxRecDepth 4000
set_option maxHeartbeats 2000000
variable {w0 w : World} {F G : Grps}

def rbegV (me reps sess room : Nat) (a : Rv) (x id : Int) : (Rp × Bool × Int) × Rv :=
  if mineV me reps sess x = false then ((zrp, false, 132), a)
  else if id < 1 ∨ id > 1099511627776 then ((zrp, false, 1), a)
  else if id > lastV me reps sess a.lasts x + 1 then ((zrp, false, 131), a)
  else if id = lastV me reps sess a.lasts x + 1 then ((zrp, false, 0), ⟨a.lasts.set x.toNat id, a.opn ++ [(x, id)], a.rs⟩)
  else if opnV a.opn (x, id) ≥ 0 then ((zrp, false, 133), a)
  else if (keptV room a.rs (x, id)).2 = true then (((keptV room a.rs (x, id)).1, true, 0), a)
  else ((zrp, false, 130), a)
theorem rbeg_st {c : Rc} {N : Nat} (h : St w0 w (rcG c F)) (hw : c.wf N) (hN : N ≤ 1000000) (x id : Int) :
    CallK Try.prog (.tup (.cons (.agg (.cons (.int .i64) (.cons (.int .i64) (.cons (.int .i64) (.cons (.int .i64) .nilT))))) (.cons .bool (.cons (.int .i64) .nilT)))) 40 #[.pointer c.p, .agg #[.int .i64 x, .int .i64 id]] w fun (v : (Int × Int × Int × Int × Unit) × Bool × Int × Unit) w' =>
      ∃ c' z t e, v = (rpt z, t, e, ()) ∧ c.same c' ∧ St w0 w' (rcG c' F) ∧ c'.wf (N + 1) ∧ ((z, t, e), c'.V) = rbegV c.me c.reps c.sess c.room c.V x id := by
  refine T40.calls (p1 := (x, id, ())) ?_
  unfold T40
  refine h.newB run_boxA rfl ?_
  intro b3 w1 h
  refine h.newB (NewC.run _) rfl ?_
  intro b4 w2 h
  refine h.newB (NewC.run _) rfl ?_
  intro b7 w3 h
  refine h.storA 0 0 (b := b7) (t := 43) (cs := rpv zrp) ⟨_, rfl, rfl⟩ (t' := 43) (n := 4) (j := 0) rfl (ds := rpv zrp) rfl rfl rfl ?_
  intro w4 h
  have h : St w0 w4 ([Ent.cel b7 43 (rpv zrp)] :: [Ent.cel b4 43 (rpv zrp)] :: [Ent.cel b3 32 (clv (x, id))] :: rcG c F) := h
  refine h.loadB 2 0 ⟨_, rfl, rfl⟩ rfl rfl ?_
  have h := h.ord 4 [3, 0, 1, 2]
  generalize hF : ([Ent.cel b7 43 (rpv zrp)] :: [Ent.cel b4 43 (rpv zrp)] :: [Ent.cel b3 32 (clv (x, id))] :: F) = F2
  have h : St w0 w4 (rcG c F2) := by rw [← hF]; exact h
  have h7 : ∀ c', Has (rcG c' F2) 1 0 (.cel b7 43 (rpv zrp)) := fun c' => by rw [← hF]; exact ⟨_, rfl, rfl⟩
  have h4 : ∀ c', Has (rcG c' F2) 2 0 (.cel b4 43 (rpv zrp)) := fun c' => by rw [← hF]; exact ⟨_, rfl, rfl⟩
  have h3 : ∀ c', Has (rcG c' F2) 3 0 (.cel b3 32 (clv (x, id))) := fun c' => by rw [← hF]; exact ⟨_, rfl, rfl⟩
  have hout : ∀ {w' : World} {c' : Rc} {z : Rp}, St w0 w' (updG (rcG c' F2) 2 0 [.cel b4 43 (rpv z)]) → St w0 w' (rcG c' F) := fun {w' c' z} h => by
    rw [← hF] at h
    exact ((h.drop 1).drop 1).drop 1
  clear hF
  refine (mine_st h hw x).mono ?_
  rintro m w5 ⟨h, hm⟩
  have same : ∀ {w' : World} (z : Rp) (t : Bool) (e : Int), St w0 w' (updG (rcG c F2) 2 0 [.cel b4 43 (rpv z)]) → rbegV c.me c.reps c.sess c.room c.V x id = ((z, t, e), c.V) → ∃ c' z' t' e', (((z.1, z.2.1, z.2.2.1, z.2.2.2, ()), t, e, ()) : (Int × Int × Int × Int × Unit) × Bool × Int × Unit) = (rpt z', t', e', ()) ∧ c.same c' ∧ St w0 w' (rcG c' F) ∧ c'.wf (N + 1) ∧ ((z', t', e'), c'.V) = rbegV c.me c.reps c.sess c.room c.V x id :=
    fun {w'} z t e h hv => ⟨c, z, t, e, rfl, Rc.same.refl c, hout h, hw.mono (Nat.le_succ _), hv.symm⟩
  have rd7 : ∀ {w' : World} {c' : Rc} {K : (Int × Int × Int × Int × Unit) → World → Prop}, St w0 w' (rcG c' F2) → K (rpt zrp) w' → RunN Try.prog (.agg (.cons (.int .i64) (.cons (.int .i64) (.cons (.int .i64) (.cons (.int .i64) .nilT))))) (V (Instr.loadAt 43 (.pointer (some ⟨b7, 0, none⟩)))) w' K := fun {w' c' K} h hk =>
    RunN.of (kd := .agg (.cons (.int .i64) (.cons (.int .i64) (.cons (.int .i64) (.cons (.int .i64) .nilT))))) (x := rpt zrp) (h.run_loadA (k := 1) (i := 0) (b := b7) (t := 43) (cs := rpv zrp) (h7 _) (t' := 43) (n := 4) (j := 0) rfl (vs := rpv zrp) rfl rfl) hk
  rw [SplitB_iff]
  refine ⟨fun hc => ?_, fun hc => ?_⟩
  · have hc : m = false := by simpa using hc
    rw [hc] at hm
    refine rd7 h ?_
    refine ret_st h 2 0 (h4 c) zrp fun w6 h => ?_
    exact same zrp false 132 h (if_pos hm.symm)
  have hc : m = true := by simpa using hc
  rw [hc] at hm
  have h5 := h
  obtain ⟨n, rfl, hn⟩ := mine_lt hm.symm hw.sess.2
  have hlv := lastV_at hw.lasts hn hm.symm
  have e1 : ¬ mineV c.me c.reps c.sess (n : Int) = false := by rw [← hm]; decide
  refine JoinX.mk (fun (y : Bool × Unit) w' => St w0 w' (rcG c F2) ∧ y.1 = decide (id < 1 ∨ id > 1099511627776)) ?_ ?_
  · rintro ⟨y, ⟨⟩⟩ w6 ⟨h, hy⟩
    dsimp only at hy
    subst hy
    rw [SplitB_iff]
    refine ⟨fun hc => ?_, fun hc => ?_⟩
    · have hc : id < 1 ∨ id > 1099511627776 := of_decide_eq_true hc
      refine rd7 h ?_
      refine ret_st h 2 0 (h4 c) zrp fun w7 h => ?_
      exact same zrp false 1 h ((if_neg e1).trans (if_pos hc))
    have hc : ¬ (id < 1 ∨ id > 1099511627776) := of_decide_eq_false hc
    have hlow := hw.low _ (List.getElem_mem (show n < c.lasts.length by rw [hw.lasts]; exact hn))
    refine h.drew.readB 3 0 (h3 c) rfl rfl ?_
    refine NilP.mk ?_
    refine ReadN.arr (g := c.cb) (o := 4) rfl n rfl hn ?_
    refine h.drew.readB 0 0 ⟨_, rfl, rfl⟩ rfl (kd := .int .i64) (x := (c.lasts[n]'(by rw [hw.lasts]; exact hn) : Int)) (rcC_last hw.lasts n hn) ?_
    have h := h.drew
    refine h.loadB 3 0 (h3 c) rfl rfl ?_
    generalize hL : c.lasts[n]'(by rw [hw.lasts]; exact hn) = L at hlv hlow ⊢
    have el : IntKind.i64.wrap (L + 1) = L + 1 := wr (by omega)
    have e2 : rbegV c.me c.reps c.sess c.room c.V (n : Int) id = (if id > L + 1 then ((zrp, false, 131), c.V) else if id = L + 1 then ((zrp, false, 0), ⟨c.lasts.set n id, c.opn ++ [((n : Int), id)], c.rs⟩)
        else if opnV c.opn ((n : Int), id) ≥ 0 then ((zrp, false, 133), c.V) else if (keptV c.room c.rs ((n : Int), id)).2 = true then (((keptV c.room c.rs ((n : Int), id)).1, true, 0), c.V) else ((zrp, false, 130), c.V)) := by
      rw [rbegV, if_neg e1, if_neg hc]
      show (if id > lastV c.me c.reps c.sess c.lasts (n : Int) + 1 then _ else if id = lastV c.me c.reps c.sess c.lasts (n : Int) + 1 then _ else _) = _
      rw [hlv]
      rfl
    try dsimp only
    rw [el]
    rw [SplitB_iff]
    refine ⟨fun hd => ?_, fun hd => ?_⟩
    · have hd : id > L + 1 := of_decide_eq_true hd
      refine rd7 h ?_
      refine ret_st h 2 0 (h4 c) zrp fun w7 h => ?_
      exact same zrp false 131 h (e2.trans (if_pos hd))
    have hd : ¬ id > L + 1 := of_decide_eq_false hd
    rw [if_neg hd] at e2
    refine h.loadB 3 0 (h3 c) rfl rfl ?_
    rw [SplitB_iff]
    refine ⟨fun he => ?_, fun he => ?_⟩
    · have he : id = L + 1 := by simpa using he
      rw [if_pos he] at e2
      refine h.drew.readB 3 0 (h3 c) rfl rfl ?_
      refine h.drew.readB 3 0 (h3 c) rfl rfl ?_
      refine NilP.mk ?_
      refine ReadN.arr (g := c.cb) (o := 4) rfl n rfl hn ?_
      refine h.drew.storB 0 0 ⟨_, rfl, rfl⟩ rfl (by rw [rcC_len hw.lasts, Nat.blt_eq]; omega) rfl ?_
      intro w7 h
      have h : St w0 w7 ([Ent.cel c.cb 80 (setO (rcC c) (4 + n) (.int .i64 id)), .row 32 2 c.oq (clvs c.opn), .row 43 4 c.rq (rps c.rs)] :: F2) := h
      rw [rcC_setlast hw.lasts n hn] at h
      generalize hc2 : ({ c with lasts := c.lasts.set n id } : Rc) = c2 at h
      have hlast2 : c2.lasts.length = 64 := by rw [← hc2]; simp [hw.lasts]
      have h : St w0 w7 (rcG c2 F2) := by rw [← hc2] at h ⊢; exact h
      have hcp : c.p = c2.p := by rw [← hc2]; rfl
      have hcb : c.cb = c2.cb := by rw [← hc2]
      have hol := hw.opn
      have hopn2 : c2.opn = c.opn := by rw [← hc2]
      refine NilP.mk ?_
      rw [hcb]
      refine h.drew.readB 0 0 ⟨_, rfl, rfl⟩ rfl (kd := .sl) (x := c2.oq) (rcC_oq hlast2) ?_
      refine ReadN.of (kd := .agg (.cons (.int .i64) (.cons (.int .i64) .nilT))) (x := ((n : Int), id, ())) (h.drew.run_loadA (k := 3) (i := 0) (b := b3) (t := 32) (cs := clv ((n : Int), id)) (h3 _) (t' := 32) (n := 2) (j := 0) rfl (vs := clv ((n : Int), id)) rfl rfl) ?_
      refine h.drew.newS 2 (bs60 _ _ _) rfl rfl rfl ?_
      intro u w8 hu1 hu2 _ h
      refine ⟨h.stillB 1 0 ⟨_, rfl, rfl⟩ rfl (rcC_oq hlast2), ?_⟩
      have hru := h.rd (k := 0) (i := 0) ⟨_, rfl, rfl⟩
      have hql : c2.oq.len = c2.opn.length := by have := (h.rd (k := 1) (i := 1) ⟨_, rfl, rfl⟩).1; rw [flat_len clv_len] at this; omega
      rw [hopn2] at hql
      refine h.app 1 1 ⟨_, rfl, rfl⟩ hru (clvs_one [((n : Int), id)]) (by simp only [maxLen]; omega) (by omega) ?_
      intro q w9 hq h
      have h := h.drop 0
      have h : St w0 w9 ([Ent.cel c2.cb 80 (rcC c2), .row 32 2 q (clvs c2.opn ++ [.int .i64 (n : Int), .int .i64 id]), .row 43 4 c2.rq (rps c2.rs)] :: F2) := h
      rw [← clvs_snoc c2.opn ((n : Int), id)] at h
      refine NilP.mk ?_
      rw [hcb]
      refine h.storB 0 0 ⟨_, rfl, rfl⟩ rfl (by rw [rcC_len hlast2]; rfl) rfl ?_
      intro w10 h
      have h : St w0 w10 ([Ent.cel c2.cb 80 (setO (rcC c2) 68 (.slice q.a q.len q.cap)), .row 32 2 q (clvs (c2.opn ++ [((n : Int), id)])), .row 43 4 c2.rq (rps c2.rs)] :: F2) := h
      rw [rcC_setoq hlast2] at h
      have h : St w0 w10 (rcG { c2 with oq := q, opn := c2.opn ++ [((n : Int), id)] } F2) := h
      refine rd7 h ?_
      refine ret_st h 2 0 (h4 _) zrp fun w11 h => ?_
      refine ⟨{ c2 with oq := q, opn := c2.opn ++ [((n : Int), id)] }, zrp, false, 0, rfl, ?_, hout h, ?_, ?_⟩
      · rw [← hc2]; exact ⟨rfl, rfl, rfl, rfl, rfl⟩
      · rw [← hc2]
        refine { hw with lasts := by simp [hw.lasts], low := fun y hy => ?_, opn := by simp; omega, rs := Nat.le_succ_of_le hw.rs }
        rcases List.mem_or_eq_of_mem_set hy with hy | rfl
        · exact hw.low y hy
        · omega
      · rw [e2, ← hc2]; rfl
    have he : ¬ id = L + 1 := by simpa using he
    rw [if_neg he] at e2
    refine RunN.of (kd := .agg (.cons (.int .i64) (.cons (.int .i64) .nilT))) (x := ((n : Int), id, ())) (h.run_loadA (k := 3) (i := 0) (b := b3) (t := 32) (cs := clv ((n : Int), id)) (h3 _) (t' := 32) (n := 2) (j := 0) rfl (vs := clv ((n : Int), id)) rfl rfl) ?_
    refine (open_st h hw hN ((n : Int), id)).mono ?_
    rintro v w7 ⟨h, rfl⟩
    rw [SplitB_iff]
    refine ⟨fun hf => ?_, fun hf => ?_⟩
    · have hf : opnV c.opn ((n : Int), id) ≥ 0 := of_decide_eq_true hf
      refine rd7 h ?_
      refine ret_st h 2 0 (h4 c) zrp fun w8 h => ?_
      exact same zrp false 133 h (e2.trans (if_pos hf))
    have hf : ¬ opnV c.opn ((n : Int), id) ≥ 0 := of_decide_eq_false hf
    rw [if_neg hf] at e2
    refine RunN.of (kd := .agg (.cons (.int .i64) (.cons (.int .i64) .nilT))) (x := ((n : Int), id, ())) (h.run_loadA (k := 3) (i := 0) (b := b3) (t := 32) (cs := clv ((n : Int), id)) (h3 _) (t' := 32) (n := 2) (j := 0) rfl (vs := clv ((n : Int), id)) rfl rfl) ?_
    refine (kept_st h hw hN ((n : Int), id)).mono ?_
    rintro v w8 ⟨h, rfl⟩
    refine h.newB (NewC.run _) rfl ?_
    intro b10 w9 h
    generalize hz : keptV c.room c.rs ((n : Int), id) = z at e2 ⊢
    refine h.storA 0 0 (b := b10) (t := 43) (cs := rpv zrp) ⟨_, rfl, rfl⟩ (t' := 43) (n := 4) (j := 0) rfl (ds := rpv z.1) rfl rfl rfl ?_
    intro w10 h
    have h : St w0 w10 ([Ent.cel b10 43 (rpv z.1)] :: rcG c F2) := h
    rw [SplitB_iff]
    refine ⟨fun hg => ?_, fun hg => ?_⟩
    · have hg : z.2 = true := hg
      rw [if_pos hg] at e2
      refine RunN.of (kd := .agg (.cons (.int .i64) (.cons (.int .i64) (.cons (.int .i64) (.cons (.int .i64) .nilT))))) (x := rpt z.1) (h.run_loadA (k := 0) (i := 0) (b := b10) (t := 43) (cs := rpv z.1) ⟨_, rfl, rfl⟩ (t' := 43) (n := 4) (j := 0) rfl (vs := rpv z.1) rfl rfl) ?_
      have h := h.drop 0
      refine ret_st h 2 0 (h4 c) z.1 fun w11 h => ?_
      exact same z.1 true 0 h e2
    · have hg : z.2 = false := hg
      rw [if_neg (by rw [hg]; decide)] at e2
      have h := h.drop 0
      refine rd7 h ?_
      refine ret_st h 2 0 (h4 c) zrp fun w11 h => ?_
      exact same zrp false 130 h e2
  · intro k hk
    have h := h5
    refine h.loadB 3 0 (h3 c) rfl rfl ?_
    rw [SplitB_iff]
    refine ⟨fun hc => ?_, fun hc => ?_⟩
    · have hc : id < 1 := of_decide_eq_true hc
      exact hk _ _ ⟨h, by simp [hc]⟩
    · have hc : ¬ id < 1 := of_decide_eq_false hc
      refine h.loadB 3 0 (h3 c) rfl rfl ?_
      exact hk _ _ ⟨h, by simp [hc]⟩
def rc0 (b me reps sess room : Nat) : Rc := ⟨b, me, reps, sess, room, List.replicate 64 0, ⟨none, 0, 0⟩, [], ⟨none, 0, 0⟩, []⟩
theorem build80 (w : World) (a b c d : Int) : (Instr.build 80 #[(0, .int .i64 a), (1, .int .i64 b), (2, .int .i64 c), (3, .int .i64 d)]).run Try.prog w = .ok (.agg ⟨[.int .i64 a, .int .i64 b, .int .i64 c, .int .i64 d] ++ lin (List.replicate 64 0) ++ [.slice none 0 0, .slice none 0 0]⟩) w := by kernel_rfl
theorem rnew_st (h : St w0 w F) (me reps sess room : Int) : CallK Try.prog (.tup (.cons .ptr (.cons (.int .i64) .nilT))) 20 #[.int .i64 me, .int .i64 reps, .int .i64 sess, .int .i64 room] w fun (r : Option Addr × Int × Unit) w' =>
    (newE me reps sess room ≠ 0 ∧ r = (none, newE me reps sess room, ()) ∧ St w0 w' F) ∨
    (newE me reps sess room = 0 ∧ ∃ c : Rc, r = (c.p, 0, ()) ∧ (c.me : Int) = me ∧ (c.reps : Int) = reps ∧ (c.sess : Int) = sess ∧ (c.room : Int) = room ∧ c.wf 0 ∧ c.V = ⟨List.replicate 64 0, [], []⟩ ∧ St w0 w' (rcG c F)) := by
  refine T20.calls ?_
  unfold T20
  refine JoinX.mk (fun (y : Bool × Unit) w' => w' = w ∧ y.1 = decide (reps < 2 ∨ reps > 16 ∨ sess < 1 ∨ sess > 64 ∨ room < 1 ∨ room > 16)) ?_ ?_
  · rintro ⟨y, ⟨⟩⟩ w1 ⟨rfl, hy⟩
    dsimp only at hy
    subst hy
    rw [SplitB_iff]
    refine ⟨fun h1 => ?_, fun h1 => ?_⟩
    · have h1 : reps < 2 ∨ reps > 16 ∨ sess < 1 ∨ sess > 64 ∨ room < 1 ∨ room > 16 := of_decide_eq_true h1
      have e : newE me reps sess room = 1 := by
        rw [newE]; split
        · rfl
        · rw [if_pos (by omega)]
      exact .inl ⟨by rw [e]; decide, by rw [e], h⟩
    have h1 : ¬ (reps < 2 ∨ reps > 16 ∨ sess < 1 ∨ sess > 64 ∨ room < 1 ∨ room > 16) := of_decide_eq_false h1
    refine JoinX.mk (fun (y : Bool × Unit) w' => w' = w1 ∧ y.1 = decide (me < 0 ∨ me ≥ reps)) ?_ ?_
    · rintro ⟨y, ⟨⟩⟩ w2 ⟨rfl, hy⟩
      dsimp only at hy
      subst hy
      rw [SplitB_iff]
      refine ⟨fun h2 => ?_, fun h2 => ?_⟩
      · have h2 : me < 0 ∨ me ≥ reps := of_decide_eq_true h2
        have e : newE me reps sess room = 3 := by rw [newE, if_neg (by omega), if_neg (by omega), if_pos h2]
        exact .inl ⟨by rw [e]; decide, by rw [e], h⟩
      have h2 : ¬ (me < 0 ∨ me ≥ reps) := of_decide_eq_false h2
      have e : newE me reps sess room = 0 := by rw [newE, if_neg (by omega), if_neg (by omega), if_neg h2]
      obtain ⟨m, hm⟩ := Int.eq_ofNat_of_zero_le (show 0 ≤ me by omega)
      obtain ⟨rp, hrp⟩ := Int.eq_ofNat_of_zero_le (show 0 ≤ reps by omega)
      obtain ⟨sn, hsn⟩ := Int.eq_ofNat_of_zero_le (show 0 ≤ sess by omega)
      obtain ⟨rm, hrm⟩ := Int.eq_ofNat_of_zero_le (show 0 ≤ room by omega)
      subst hm; subst hrp; subst hsn; subst hrm
      refine RunN.of (kd := .raw) (build80 _ _ _ _ _) ?_
      refine h.newB run_boxA rfl ?_
      intro b w3 h
      have h := (((h.nilrow 43 4).ord 2 [0, 1]).nilrow 32 2)
      have h := (h.ord 3 [0, 2, 1]).into
      have h := h.ord 2 [1, 0]
      have h := h.into
      have h : St w0 w3 (rcG (rc0 b m rp sn rm) F) := h
      refine .inr ⟨e, rc0 b m rp sn rm, rfl, rfl, rfl, rfl, rfl, ⟨by show 2 ≤ rp ∧ rp ≤ 16; omega, by show m < rp; omega, by show 1 ≤ sn ∧ sn ≤ 64; omega, by show 1 ≤ rm ∧ rm ≤ 16; omega, by simp [rc0], fun y hy => ?_, by simp [rc0], by simp [rc0]⟩, rfl, h⟩
      have := (List.mem_replicate.1 hy).2
      subst this; decide
    · intro k hk
      rw [SplitB_iff]
      refine ⟨fun hc => ?_, fun hc => ?_⟩
      · have hc : me < 0 := of_decide_eq_true hc
        exact hk _ _ ⟨rfl, by simp [hc]⟩
      · have hc : ¬ me < 0 := of_decide_eq_false hc
        exact hk _ _ ⟨rfl, by simp [hc]⟩
  · intro k hk
    rw [SplitB_iff]
    refine ⟨fun hc => ?_, fun hc => ?_⟩
    · have hc : reps < 2 := of_decide_eq_true hc
      exact hk _ _ ⟨rfl, by simp [hc]⟩
    have hc : ¬ reps < 2 := of_decide_eq_false hc
    rw [SplitB_iff]
    refine ⟨fun hd => ?_, fun hd => ?_⟩
    · have hd : reps > 16 := of_decide_eq_true hd
      exact hk _ _ ⟨rfl, by simp [hd]⟩
    have hd : ¬ reps > 16 := of_decide_eq_false hd
    rw [SplitB_iff]
    refine ⟨fun he => ?_, fun he => ?_⟩
    · have he : sess < 1 := of_decide_eq_true he
      exact hk _ _ ⟨rfl, by simp [he]⟩
    have he : ¬ sess < 1 := of_decide_eq_false he
    rw [SplitB_iff]
    refine ⟨fun hf => ?_, fun hf => ?_⟩
    · have hf : sess > 64 := of_decide_eq_true hf
      exact hk _ _ ⟨rfl, by simp [hf]⟩
    have hf : ¬ sess > 64 := of_decide_eq_false hf
    rw [SplitB_iff]
    refine ⟨fun hg => ?_, fun hg => ?_⟩
    · have hg : room < 1 := of_decide_eq_true hg
      exact hk _ _ ⟨rfl, by simp [hg]⟩
    have hg : ¬ room < 1 := of_decide_eq_false hg
    exact hk _ _ ⟨rfl, by simp [hc, hd, he, hf, hg]⟩
end Go.Proofs.Ytbdhmeefjlkdcaa
