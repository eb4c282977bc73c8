/- A request is new once: the walk of the law. -/
import Derived.Test.YtbdhmeefjlkdcaaCkOx
namespace Go.Proofs.Ytbdhmeefjlkdcaa
open Go Go.Fw Go.RowKit
set_option linter.unusedVariables false
set_option linter.unusedSimpArgs false
set_option maxRecDepth 4000
set_option maxHeartbeats 4000000
variable {w0 w : World} {F G : Grps}

structure OnW (c0 : Cc) (n k i : Nat) (c : Cc) (l : List Pst) (r : Rv) : Prop where
  p : c.p = c0.p
  me : c.me = 0
  reps : c.reps = 2
  sess : c.sess = n
  room : c.room = k
  wf : c.wf i
  rel : CRel c.me c.reps c.sess c.room (c.ss.map Ses.V) r
  rc : RecI c.me c.reps c.sess l r
  len : l.length ≤ i
theorem rel_dis {c : Cc} {r : Rv} (h : CRel c.me c.reps c.sess c.room (c.ss.map Ses.V) r) : ∀ s ∈ c.ss, ∀ x ∈ s.pend, x ∉ ids s.kept := by
  intro s hs x hx hk
  obtain ⟨j, hj, rfl⟩ := List.mem_iff_getElem.1 hs
  have h1 := h.each j (by simpa using hj)
  obtain ⟨S, s1, s2, s3, s4⟩ := h1.S
  rw [List.getElem_map] at s3 s4
  obtain ⟨y, hy, rfl⟩ := List.mem_map.1 hk
  have hy : y ∈ (c.ss[j]).V.kept := hy
  rw [s3] at hy
  exact (s4 y (List.mem_of_mem_drop hy)).2 hx
def oG2 (c : Cc) (q : Sl) (l : List Pst) : Grps := ccG c [[.row 45 7 q (psvs l)]]
theorem once_st {s : Sl} {os : List Op5} (hs : Rd w s 5 (opvs os)) (p0 p1 : Int) : CallK Try.prog .bool 6 #[.int .i64 p0, .int .i64 p1, .slice s.a s.len s.cap] w fun (v : Bool) w' => v = true ∧ Upd w w' nobody := by
  have hsl : s.len = os.length := by have := hs.1; rw [flat_len opv_len] at this; omega
  refine T6.calls ?_
  unfold T6
  rw [SplitB_iff]
  refine ⟨fun hc => ?_, fun hc => ?_⟩
  · exact ⟨rfl, Upd.refl _ _⟩
  have hc : os.length ≤ 100 := by have : ¬ (s.len : Int) > 100 := of_decide_eq_false hc; omega
  refine (alive_st (St.init w)).mono ?_
  rintro v w1 ⟨rfl, h⟩
  refine (slot_ok _ 64 (by decide) (by decide)).mono ?_
  rintro _ w2 ⟨rfl, n1, hn1, rfl⟩
  refine (slot_ok _ 16 (by decide) (by decide)).mono ?_
  rintro _ w3 ⟨rfl, k1, hk1, rfl⟩
  have en : IntKind.i64.wrap (1 + (n1 : Int)) = ((n1 + 1 : Nat) : Int) := by rw [wr (by omega)]; omega
  have ek : IntKind.i64.wrap (1 + (k1 : Int)) = ((k1 + 1 : Nat) : Int) := by rw [wr (by omega)]; omega
  rw [en, ek]
  refine (new_st 0 2 _ _).mono ?_
  intro v1 w4 hv1
  rcases hv1 with ⟨h0, _⟩ | ⟨_, c, rfl, c1, c2, c3, c4, hw, hv, h2⟩
  · refine absurd ?_ h0
    rw [newE, if_neg (by omega), if_neg (by omega), if_neg (by omega)]
  have h : St w w4 (ccG c []) := h.join h2
  clear h2
  refine JoinX.mk (fun (y : Bool × Unit) w' => y.1 = false ∧ St w w' (ccG c [])) ?_ ?_
  · rintro ⟨y, ⟨⟩⟩ w5 ⟨hy, h⟩
    dsimp only at hy
    subst hy
    rw [SplitB_iff]
    refine ⟨fun hf => (by cases hf), fun _ => ?_⟩
    have h := (h.nilrow 45 7).ord 4 [1, 2, 3, 0]
    have h : St w w5 (oG2 c ⟨none, 0, 0⟩ []) := h
    have hI : OnW c (n1 + 1) (k1 + 1) 0 c [] ⟨List.replicate 64 0, [], []⟩ := ⟨rfl, by omega, by omega, by omega, by omega, hw, rel0 hw hv, rec0, Nat.le_refl _⟩
    clear hw hv c1 c2 c3 c4
    refine LoopX.mk (fun st w' => ∃ (i : Nat) (c' : Cc) (q : Sl) (l : List Pst) (r : Rv), st = (q, (i : Int), ()) ∧ i ≤ os.length ∧ OnW c (n1 + 1) (k1 + 1) i c' l r ∧ St w w' (oG2 c' q l)) (fun st => ((os.length : Int) - st.2.1).toNat) ⟨0, c, _, _, _, rfl, by omega, hI, h⟩ ?_
    clear h hI
    rintro _ w7 ⟨i, c', q, l, r, rfl, hi, hI, h⟩ k hk
    dsimp only at hk ⊢
    rw [SplitB_iff]
    refine ⟨fun hd => ?_, fun hd => ?_⟩
    · have hd : i < os.length := by have : (i : Int) < (s.len : Int) := of_decide_eq_true hd; omega
      have hll := hI.len
      have ei : IntKind.i64.wrap ((i : Int) + 1) = ((i + 1 : Nat) : Int) := by rw [wr (by omega)]; omega
      rw [ei]
      refine JoinX.mk (fun (y : Sl × Unit) w' => ∃ (c' : Cc) (l : List Pst) (r : Rv), OnW c (n1 + 1) (k1 + 1) (i + 1) c' l r ∧ St w w' (oG2 c' y.1 l)) ?_ ?_
      · rintro ⟨q2, ⟨⟩⟩ w8 ⟨c2, l2, r2, hI2, h⟩
        exact hk _ _ ⟨i + 1, c2, q2, l2, r2, rfl, by omega, hI2, h⟩ (by dsimp only; omega)
      · intro k5 hk5
        clear hk
        have hk5 : ∀ (c2 : Cc) (q2 : Sl) (l2 : List Pst) (r2 : Rv) (w' : World), OnW c (n1 + 1) (k1 + 1) (i + 1) c2 l2 r2 → St w w' (oG2 c2 q2 l2) → k5 (q2, ()) w' := fun c2 q2 l2 r2 w' a b => hk5 _ _ ⟨c2, l2, r2, a, b⟩
        have hrr := h.old hs
        have hat := flat_at opv_len os i hd
        refine hrr.idxK i rfl (by omega) ?_
        intro g oo ha
        refine hrr.elA ha (i * 5) rfl (kd := .agg (.cons (.int .i64) (.cons (.int .i64) (.cons (.int .i64) (.cons (.int .i64) (.cons (.int .i64) .nilT)))))) (opt os[i]) hat ?_
        generalize os[i] = o at *
        obtain ⟨okd, ox, oi, oe, ov⟩ := o
        refine h.newB (NewC.run _) rfl ?_
        intro b w8 h
        refine h.storA 0 0 ⟨_, rfl, rfl⟩ (t' := 34) (n := 5) (j := 0) rfl (ds := opv (okd, ox, oi, oe, ov)) rfl rfl rfl ?_
        intro w9 h
        have h : St w w9 (oneG b (okd, ox, oi, oe, ov) c' q l) := h
        refine srch_st h (by omega) ?_
        intro at_ w10 hf h
        dsimp only at hf ⊢
        refine h.loadB 0 0 ⟨_, rfl, rfl⟩ rfl (kd := .int .i64) (x := okd) rfl ?_
        have hql : q.len = l.length := by have := (h.rd (k := 4) (i := 0) (E := 45) (sz := 7) (s := q) (vs := psvs l) ⟨_, rfl, rfl⟩).1; rw [flat_len psv_len] at this; omega
        have hpar := hI.wf.par
        rw [SplitB_iff]
        refine ⟨fun hkind => ?_, fun hkind => ?_⟩
        · refine h.loadA 0 0 ⟨_, rfl, rfl⟩ (t' := 32) (n := 2) (j := 1) rfl (kd := .agg (.cons (.int .i64) (.cons (.int .i64) .nilT))) (ox, oi, ()) (vs := clv (ox, oi)) rfl rfl rfl ?_
          refine h.loadB 0 0 ⟨_, rfl, rfl⟩ rfl (kd := .int .i64) (x := oe) rfl ?_
          refine h.loadB 0 0 ⟨_, rfl, rfl⟩ rfl (kd := .int .i64) (x := ov) rfl ?_
          refine h.newB (NewC.run _) rfl ?_
          intro b2 w11 h
          refine h.storA 0 0 ⟨_, rfl, rfl⟩ (t' := 43) (n := 4) (j := 0) rfl (ds := rpv (ox, oi, oe, ov)) rfl rfl rfl ?_
          intro w12 h
          refine h.loadA 0 0 (b := b2) (t := 43) (cs := rpv (ox, oi, oe, ov)) ⟨_, rfl, rfl⟩ (t' := 43) (n := 4) (j := 0) rfl (kd := .agg (.cons (.int .i64) (.cons (.int .i64) (.cons (.int .i64) (.cons (.int .i64) .nilT))))) (ox, oi, oe, ov, ()) (vs := rpv (ox, oi, oe, ov)) rfl rfl rfl ?_
          have h := h.ord 6 [2, 3, 4, 5, 0, 1]
          have h : St w w12 (ccG c' [[.row 45 7 q (psvs l)], [.cel b2 43 (rpv (ox, oi, oe, ov))], [.cel b 34 (opv (okd, ox, oi, oe, ov))]]) := h
          rw [← hI.p]
          refine (end_st h hI.wf (by omega) (rel_dis hI.rel) (ox, oi, oe, ov)).mono ?_
          rintro e w13 ⟨ss', h, hw', hv⟩
          obtain ⟨hv1, hv2⟩ := end_eq hpar hI.rel (ox, oi, oe, ov)
          rw [← hv] at hv1 hv2
          dsimp only at hv1 hv2
          generalize hc2 : ({ c' with ss := ss' } : Cc) = c2 at h hw'
          have hI2 : ∀ {l2 : List Pst}, l2.length ≤ i + 1 → RecI c'.me c'.reps c'.sess l2 (rendV c'.me c'.reps c'.sess r (ox, oi, oe, ov)).2 → OnW c (n1 + 1) (k1 + 1) (i + 1) c2 l2 (rendV c'.me c'.reps c'.sess r (ox, oi, oe, ov)).2 := by
            intro l2 h1 h2
            subst hc2
            exact ⟨hI.p, hI.me, hI.reps, hI.sess, hI.room, wf_mono hw' (by omega), hv2, h2, h1⟩
          have hno : (∀ p ∈ l, p.key = (ox, oi) → p.st ≠ 1) → e ≠ 0 ∧ RecI c'.me c'.reps c'.sess l (rendV c'.me c'.reps c'.sess r (ox, oi, oe, ov)).2 := by
            intro hn
            obtain ⟨q1, q2⟩ := end_no (q := (ox, oi, oe, ov)) hI.rc hn
            rw [q2]
            exact ⟨by rw [hv1]; exact q1, hI.rc⟩
          refine JoinX.mk (fun (y : Bool × Unit) w' => y.1 = false ∧ St w w' (ccG c2 [[.row 45 7 q (psvs l)], [.cel b2 43 (rpv (ox, oi, oe, ov))], [.cel b 34 (opv (okd, ox, oi, oe, ov))]])) ?_ ?_
          · rintro ⟨y, ⟨⟩⟩ w14 ⟨hy, h⟩
            dsimp only at hy
            subst hy
            rw [SplitB_iff]
            refine ⟨fun hf => (by cases hf), fun _ => ?_⟩
            refine (num_ok _).mono ?_
            rintro e2 w15 ⟨hw15, he2⟩
            subst hw15
            rw [he2]
            rw [SplitB_iff]
            refine ⟨fun h0 => ?_, fun h0 => ?_⟩
            · have h0 : e = 0 := by simpa using h0
              rcases hf with ⟨h1, h2⟩ | ⟨a, hal, h1, h2⟩
              · exact absurd h0 (hno fun p hp he => absurd he (h2 p hp)).1
              by_cases h3 : (l[a]).st = 1
              · subst h1
                have hrd := h.rd (k := 3) (i := 0) (E := 45) (sz := 7) (s := q) (vs := psvs l) ⟨_, rfl, rfl⟩
                have hpl : (psvs l).length = l.length * 7 := flat_len psv_len l
                have ham : (a + 1) * 7 ≤ l.length * 7 := Nat.mul_le_mul_right _ hal
                refine hrd.idxK a rfl (by omega) ?_
                intro g oo ha
                refine h.storR 3 0 ⟨_, rfl, rfl⟩ ha (a * 7 + 2) (by rw [add_lit']; rfl) (by omega) rfl ?_
                intro w16 h
                rw [psv_set hal 2 _ (by decide) ⟨(l[a]).x, (l[a]).id, 2, (l[a]).r⟩ rfl] at h
                have h : St w w16 (ccG c2 [[.row 45 7 q (psvs (l.set a ⟨(l[a]).x, (l[a]).id, 2, (l[a]).r⟩))], [.cel b2 43 (rpv (ox, oi, oe, ov))], [.cel b 34 (opv (okd, ox, oi, oe, ov))]]) := h
                refine h.loadA 4 0 (b := b2) (t := 43) (cs := rpv (ox, oi, oe, ov)) ⟨_, rfl, rfl⟩ (t' := 43) (n := 4) (j := 0) rfl (kd := .agg (.cons (.int .i64) (.cons (.int .i64) (.cons (.int .i64) (.cons (.int .i64) .nilT))))) (ox, oi, oe, ov, ()) (vs := rpv (ox, oi, oe, ov)) rfl rfl rfl ?_
                have hal2 : a < (l.set a ⟨(l[a]).x, (l[a]).id, 2, (l[a]).r⟩).length := by rw [List.length_set]; exact hal
                have hrd := h.rd (k := 3) (i := 0) (E := 45) (sz := 7) (s := q) ⟨_, rfl, rfl⟩
                refine hrd.idxK a rfl (by omega) ?_
                intro g oo ha
                have hpl2 : (psvs (l.set a ⟨(l[a]).x, (l[a]).id, 2, (l[a]).r⟩)).length = l.length * 7 := by rw [flat_len psv_len, List.length_set]
                refine h.storRA 3 0 ⟨_, rfl, rfl⟩ ha (n := 4) (a * 7 + 3) (by rw [add_lit']; rfl) (ds := rpv (ox, oi, oe, ov)) (by rw [hpl2]; omega) rfl (by decide) rfl ?_
                intro w17 h
                have e1 : (l[a]).x = ox := congrArg Prod.fst h2
                have e2 : (l[a]).id = oi := congrArg Prod.snd h2
                have e3 := psv_upd hal2 3 (rpv (ox, oi, oe, ov)) (by show 3 + 4 ≤ 7; decide) ⟨ox, oi, 2, (ox, oi, oe, ov)⟩ (by rw [List.getElem_set_self, e1, e2]; rfl)
                rw [List.set_set] at e3
                have h : St w w17 (ccG c2 [[.row 45 7 q (psvs (l.set a ⟨ox, oi, 2, (ox, oi, oe, ov)⟩))], [.cel b2 43 (rpv (ox, oi, oe, ov))], [.cel b 34 (opv (okd, ox, oi, oe, ov))]]) := by
                  rw [← e3]; exact h
                refine hk5 c2 q (l.set a ⟨ox, oi, 2, (ox, oi, oe, ov)⟩) _ w17 (hI2 (by rw [List.length_set]; omega) (end_yes (q := (ox, oi, oe, ov)) hI.rc hal h2 h3).2) ?_
                exact (h.drop 4).drop 4
              · refine absurd h0 (hno fun p hp he => ?_).1
                have := key_uniq hI.rc.keys hp (List.getElem_mem hal) (he.trans h2.symm)
                rw [this]; exact h3
            · have h0 : e ≠ 0 := by simpa using h0
              refine hk5 c2 q l _ w15 (hI2 (by omega) ?_) ((h.drop 4).drop 4)
              refine (hno fun p hp he h1 => ?_).2
              have hmem := List.mem_iff_getElem.1 hp
              obtain ⟨a, hal, rfl⟩ := hmem
              exact h0 (hv1.trans (end_yes (q := (ox, oi, oe, ov)) hI.rc hal he h1).1)
          · intro k15 hk15
            refine (num_ok _).mono ?_
            rintro e2 w15 ⟨hw15, he2⟩
            subst hw15
            rw [he2]
            rcases hf with ⟨h1, h2⟩ | ⟨a, hal, h1, h2⟩
            · rw [h1, SplitB_iff]
              refine ⟨fun hf => (by cases hf), fun _ => ?_⟩
              have := (hno fun p hp he => absurd he (h2 p hp)).1
              exact hk15 _ _ ⟨by simp [this], h⟩
            · rw [h1, SplitB_iff]
              refine ⟨fun _ => ?_, fun hf => ?_⟩
              · refine RunN.of (kd := .int .i64) (max13 _ _ _) ?_
                rw [show max (a : Int) 0 = (a : Int) by omega]
                have hrd := h.rd (k := 3) (i := 0) (E := 45) (sz := 7) (s := q) (vs := psvs l) ⟨_, rfl, rfl⟩
                refine hrd.idxK a rfl (by omega) ?_
                intro g oo ha
                refine hrd.el ha (a * 7 + 2) (by rw [add_lit']; rfl) (kd := .int .i64) (x := (l[a]).st) (psv_cell hal 2 (by decide)) ?_
                refine hk15 _ _ ⟨?_, h⟩
                dsimp only
                by_cases h3 : (l[a]).st = 1
                · have : e = 0 := hv1.trans (end_yes (q := (ox, oi, oe, ov)) hI.rc hal h2 h3).1
                  simp [this, h3]
                · have : e ≠ 0 := (hno fun p hp he => by
                    have := key_uniq hI.rc.keys hp (List.getElem_mem hal) (he.trans h2.symm)
                    rw [this]; exact h3).1
                  rw [beq_eq_false_iff_ne.2 this, beq_eq_false_iff_ne.2 h3]; rfl
              · exact absurd (of_decide_eq_false hf) (by omega)
        · refine h.loadA 0 0 ⟨_, rfl, rfl⟩ (t' := 32) (n := 2) (j := 1) rfl (kd := .agg (.cons (.int .i64) (.cons (.int .i64) .nilT))) (ox, oi, ()) (vs := clv (ox, oi)) rfl rfl rfl ?_
          have h := h.ord 5 [1, 2, 3, 4, 0]
          have h : St w w10 (ccG c' [[.row 45 7 q (psvs l)], [.cel b 34 (opv (okd, ox, oi, oe, ov))]]) := h
          rw [← hI.p]
          refine (begin_st h hI.wf (by omega) ox oi).mono ?_
          rintro _ w11 ⟨ss', z, t, e, rfl, h, hw', hv⟩
          obtain ⟨hv1, hv2⟩ := begin_eq hpar hI.rel ox oi
          rw [← hv] at hv1 hv2
          dsimp only at hv1 hv2
          generalize hc2 : ({ c' with ss := ss' } : Cc) = c2 at h hw'
          generalize hr2 : rbegV c'.me c'.reps c'.sess c'.room r ox oi = rv at hv1 hv2
          have hI2 : ∀ {l2 : List Pst}, l2.length ≤ i + 1 → RecI c'.me c'.reps c'.sess l2 rv.2 → OnW c (n1 + 1) (k1 + 1) (i + 1) c2 l2 rv.2 := by
            intro l2 h1 h2
            subst hc2
            exact ⟨hI.p, hI.me, hI.reps, hI.sess, hI.room, hw', hv2, h2, h1⟩
          refine h.newB (NewC.run _) rfl ?_
          intro b2 w12 h
          refine h.storA 0 0 ⟨_, rfl, rfl⟩ (t' := 43) (n := 4) (j := 0) rfl (ds := rpv z) rfl rfl rfl ?_
          intro w13 h
          generalize hG : ([Ent.cel b2 43 (rpv z)] :: ccG c2 [[.row 45 7 q (psvs l)], [.cel b 34 (opv (okd, ox, oi, oe, ov))]] : Grps) = G2
          have h : St w w13 G2 := by rw [← hG]; exact h
          have hz : Has G2 0 0 (.cel b2 43 (rpv z)) := by rw [← hG]; exact ⟨_, rfl, rfl⟩
          have ho : Has G2 5 0 (.cel b 34 (opv (okd, ox, oi, oe, ov))) := by rw [← hG]; exact ⟨_, rfl, rfl⟩
          have hq : Has G2 4 0 (.row 45 7 q (psvs l)) := by rw [← hG]; exact ⟨_, rfl, rfl⟩
          have hout : ∀ {w' : World}, St w w' G2 → St w w' (oG2 c2 q l) := fun {w'} h => by
            rw [← hG] at h
            exact (h.drop 0).drop 4
          refine JoinX.mk (fun (y : Bool × Unit) w' => y.1 = decide (at_ < 0 ∧ e = 0) ∧ St w w' G2) ?_ ?_
          · rintro ⟨y, ⟨⟩⟩ w14 ⟨hy, h⟩
            dsimp only at hy
            subst hy
            rcases hf with ⟨h1, h2⟩ | ⟨a, hal, h1, h2⟩
            · -- none of that name
              subst h1
              obtain ⟨n1', n2'⟩ := beg_new hpar hI.rc h2
              rw [hr2, ← hv1] at n1' n2'
              dsimp only at n1' n2'
              by_cases h0 : e = 0
              · rw [SplitB_iff]
                refine ⟨fun _ => ?_, fun hf => absurd (of_decide_eq_false hf) (fun hn => hn ⟨by decide, h0⟩)⟩
                obtain ⟨m1, m2, m3, m4⟩ := n1' h0
                have ez : z = zrp := congrArg Prod.fst m1
                have et : t = false := congrArg (fun y => y.2.1) m1
                have hm := of_decide_eq_true m3
                rw [hI.me, hI.reps, hI.sess] at hm
                refine JoinX.mk (fun (y : Bool × Unit) w' => y.1 = false ∧ St w w' G2) ?_ ?_
                · rintro ⟨y, ⟨⟩⟩ w15 ⟨hy, h⟩
                  dsimp only at hy
                  subst hy
                  rw [SplitB_iff]
                  refine ⟨fun hf => (by cases hf), fun _ => ?_⟩
                  refine h.loadA 5 0 ho (t' := 32) (n := 2) (j := 1) rfl (kd := .agg (.cons (.int .i64) (.cons (.int .i64) .nilT))) (ox, oi, ()) (vs := clv (ox, oi)) rfl rfl rfl ?_
                  refine h.newS 7 (bs41 _ _ _) rfl rfl rfl ?_
                  intro u w16 hu1 hu2 _ h
                  rw [← hG] at h
                  refine h.app 5 0 ⟨_, rfl, rfl⟩ (h.rd (k := 0) (i := 0) ⟨_, rfl, rfl⟩) (fun v hv => ?_) (by simp only [maxLen]; omega) (by omega) ?_
                  · simp at hv
                    rcases hv with rfl | rfl | rfl | rfl <;> rfl
                  intro q2 w17 hl2 h
                  have h := ((h.drop 0).drop 0).drop 4
                  have h : St w w17 (oG2 c2 q2 (l ++ [⟨ox, oi, 1, zrp⟩])) := by
                    rw [oG2, psvs, List.flatMap_append]
                    exact h
                  exact hk5 _ _ _ _ _ (hI2 (by simp; omega) m4) h
                · intro k19 hk19
                  rw [et, SplitB_iff]
                  refine ⟨fun hf => (by cases hf), fun _ => ?_⟩
                  refine h.loadA 0 0 hz (t' := 43) (n := 4) (j := 0) rfl (kd := .agg (.cons (.int .i64) (.cons (.int .i64) (.cons (.int .i64) (.cons (.int .i64) .nilT))))) (rpt z) (vs := rpv z) rfl rfl rfl ?_
                  refine RunN.of (kd := .bool) (K4.neV _ _ _ _ _ _ _ _ _ _ _) ?_
                  rw [ez, SplitB_iff]
                  refine ⟨fun hf => (by cases hf), fun _ => ?_⟩
                  refine h.loadB 5 0 ho rfl (kd := .int .i64) (x := oi) rfl ?_
                  rw [SplitB_iff]
                  refine ⟨fun hq1 => ?_, fun hq1 => ?_⟩
                  · have : oi < 1 := of_decide_eq_true hq1
                    omega
                  refine h.loadB 5 0 ho rfl (kd := .int .i64) (x := ox) rfl ?_
                  rw [SplitB_iff]
                  refine ⟨fun hq2 => ?_, fun hq2 => ?_⟩
                  · have : ox < 0 := of_decide_eq_true hq2
                    omega
                  refine h.loadB 5 0 ho rfl (kd := .int .i64) (x := ox) rfl ?_
                  rw [SplitB_iff]
                  refine ⟨fun hq3 => ?_, fun hq3 => ?_⟩
                  · have : ox ≥ ((n1 + 1 : Nat) : Int) := of_decide_eq_true hq3
                    omega
                  refine h.loadB 5 0 ho rfl (kd := .int .i64) (x := ox) rfl ?_
                  refine hk19 _ _ ⟨?_, h⟩
                  have : Int.tmod ox 2 = 0 := by rw [Int.tmod_eq_emod_of_nonneg hm.1]; exact hm.2.2
                  dsimp only
                  rw [this]; rfl
              · rw [SplitB_iff]
                refine ⟨fun hf => absurd (of_decide_eq_true hf).2 h0, fun _ => ?_⟩
                obtain ⟨m1, m2, m3, m4, m5⟩ := n2' h0
                rw [SplitB_iff]
                refine ⟨fun _ => ?_, fun hf => (by cases hf)⟩
                refine JoinX.mk (fun (y : Bool × Unit) w' => y.1 = false ∧ St w w' G2) ?_ ?_
                · rintro ⟨y, ⟨⟩⟩ w15 ⟨hy, h⟩
                  dsimp only at hy
                  subst hy
                  rw [SplitB_iff]
                  refine ⟨fun hf => (by cases hf), fun _ => ?_⟩
                  exact hk5 _ _ _ _ _ (hI2 (by omega) (by rw [m5]; exact hI.rc)) (hout h)
                · intro k21 hk21
                  rw [m1, SplitB_iff]
                  refine ⟨fun hf => (by cases hf), fun _ => ?_⟩
                  refine (num_ok _).mono ?_
                  rintro e2 w16 ⟨hw16, he2⟩
                  subst hw16
                  have he2 : e2 = e := he2
                  rw [he2]
                  rw [SplitB_iff]
                  refine ⟨fun hq1 => ?_, fun hq1 => ?_⟩
                  · have : e < 1 := of_decide_eq_true hq1
                    omega
                  refine (num_ok _).mono ?_
                  rintro e3 w17 ⟨hw17, he3⟩
                  subst hw17
                  have he3 : e3 = e := he3
                  rw [he3]
                  rw [SplitB_iff]
                  refine ⟨fun hq2 => ?_, fun hq2 => ?_⟩
                  · exact absurd (by simpa using hq2) m3
                  refine (num_ok _).mono ?_
                  rintro e4 w18 ⟨hw18, he4⟩
                  subst hw18
                  have he4 : e4 = e := he4
                  rw [he4]
                  rw [SplitB_iff]
                  refine ⟨fun hq3 => ?_, fun hq3 => ?_⟩
                  · refine h.loadB 5 0 ho rfl (kd := .int .i64) (x := oi) rfl ?_
                    refine hk21 _ _ ⟨?_, h⟩
                    have hq3 : e = 130 := by simpa using hq3
                    exact decide_eq_false fun hh => m4 ⟨hq3, hh⟩
                  · exact hk21 _ _ ⟨rfl, h⟩
            · subst h1
              have ex : (l[a]).x = ox := congrArg Prod.fst h2
              have eid : (l[a]).id = oi := congrArg Prod.snd h2
              obtain ⟨o1, o2, o3⟩ := beg_old hpar hI.rc (List.getElem_mem hal)
              rw [ex, eid, hr2] at o1 o2 o3
              have hrd : ∀ {w' : World}, St w w' G2 → Rd w' q 7 (psvs l) := fun h => h.rd hq
              have hr3 : rv.2 = r := by
                by_cases s1 : (l[a]).st = 1
                · rw [o1 s1]
                · by_cases s2 : abv l ox oi < c'.room
                  · rw [o2 s1 s2]
                  · rw [o3 s1 s2]
              have hdone : ∀ {w' : World}, St w w' G2 → k5 (q, ()) w' := fun {w'} h => hk5 _ _ _ _ _ (hI2 (by omega) (by rw [hr3]; exact hI.rc)) (hout h)
              rw [SplitB_iff]
              refine ⟨fun hf => (by have hf : decide ((a : Int) < 0 ∧ e = 0) = true := hf; have := (of_decide_eq_true hf).1; omega), fun _ => ?_⟩
              rw [SplitB_iff]
              refine ⟨fun hf => (by have hf : decide ((a : Int) < 0) = true := hf; have := of_decide_eq_true hf; omega), fun _ => ?_⟩
              refine (hrd h).idxK a rfl (by omega) ?_
              intro g oo ha
              refine (hrd h).el ha (a * 7 + 2) (by rw [add_lit']; rfl) (kd := .int .i64) (x := (l[a]).st) (psv_cell hal 2 (by decide)) ?_
              rw [SplitB_iff]
              refine ⟨fun hs1 => ?_, fun hs1 => ?_⟩
              · have hs1 : (l[a]).st = 1 := by simpa using hs1
                rw [o1 hs1] at hv1
                have et : t = false := congrArg (fun y => y.2.1) hv1
                have ee : e = 133 := congrArg (fun y => y.2.2) hv1
                refine JoinX.mk (fun (y : Bool × Unit) w' => y.1 = false ∧ St w w' G2) ?_ ?_
                · rintro ⟨y, ⟨⟩⟩ w15 ⟨hy, h⟩
                  dsimp only at hy
                  subst hy
                  rw [SplitB_iff]
                  exact ⟨fun hf => (by cases hf), fun _ => hdone h⟩
                · intro k23 hk23
                  rw [et, SplitB_iff]
                  refine ⟨fun hf => (by cases hf), fun _ => ?_⟩
                  refine (num_ok _).mono ?_
                  rintro e2 w16 ⟨hw16, he2⟩
                  subst hw16
                  have he2 : e2 = e := he2
                  refine hk23 _ _ ⟨?_, h⟩
                  rw [he2, ee]; rfl
              · have hs1 : (l[a]).st ≠ 1 := by simpa using hs1
                by_cases hs2 : abv l ox oi < c'.room
                · rw [SplitB_iff]
                  refine ⟨fun _ => ?_, fun hf => absurd (of_decide_eq_false hf) (by rw [hI.room] at hs2; omega)⟩
                  rw [o2 hs1 hs2] at hv1
                  have ez : z = (l[a]).r := congrArg Prod.fst hv1
                  have et : t = true := congrArg (fun y => y.2.1) hv1
                  have ee : e = 0 := congrArg (fun y => y.2.2) hv1
                  refine JoinX.mk (fun (y : Bool × Unit) w' => y.1 = false ∧ St w w' G2) ?_ ?_
                  · rintro ⟨y, ⟨⟩⟩ w15 ⟨hy, h⟩
                    dsimp only at hy
                    subst hy
                    rw [SplitB_iff]
                    exact ⟨fun hf => (by cases hf), fun _ => hdone h⟩
                  · intro k25 hk25
                    rw [et, SplitB_iff]
                    refine ⟨fun hf => (by cases hf), fun _ => ?_⟩
                    refine (num_ok _).mono ?_
                    rintro e2 w16 ⟨hw16, he2⟩
                    subst hw16
                    have he2 : e2 = e := he2
                    rw [he2, ee, SplitB_iff]
                    refine ⟨fun hf => (by cases hf), fun _ => ?_⟩
                    have h := h.drew
                    refine h.readA 0 0 hz (t' := 43) (n := 4) (j := 0) rfl (kd := .agg (.cons (.int .i64) (.cons (.int .i64) (.cons (.int .i64) (.cons (.int .i64) .nilT))))) (rpt z) (vs := rpv z) rfl rfl rfl ?_
                    refine (hrd h).idxR a rfl (by omega) ?_
                    intro g oo ha
                    refine (hrd h).elAR ha (a * 7 + 3) (by rw [add_lit']; rfl) (kd := .agg (.cons (.int .i64) (.cons (.int .i64) (.cons (.int .i64) (.cons (.int .i64) .nilT))))) (rpt (l[a]).r) (psv_part hal 3 4 (by decide)) ?_
                    refine ReadN.k4Ne ?_
                    refine hk25 _ _ ⟨?_, h⟩
                    rw [ez]
                    simp [rpt, eq4]
                · rw [SplitB_iff]
                  refine ⟨fun hf => absurd (of_decide_eq_true hf) (by rw [hI.room] at hs2; omega), fun _ => ?_⟩
                  rw [o3 hs1 hs2] at hv1
                  have et : t = false := congrArg (fun y => y.2.1) hv1
                  have ee : e = 130 := congrArg (fun y => y.2.2) hv1
                  refine JoinX.mk (fun (y : Bool × Unit) w' => y.1 = false ∧ St w w' G2) ?_ ?_
                  · rintro ⟨y, ⟨⟩⟩ w15 ⟨hy, h⟩
                    dsimp only at hy
                    subst hy
                    rw [SplitB_iff]
                    exact ⟨fun hf => (by cases hf), fun _ => hdone h⟩
                  · intro k27 hk27
                    rw [et, SplitB_iff]
                    refine ⟨fun hf => (by cases hf), fun _ => ?_⟩
                    refine (num_ok _).mono ?_
                    rintro e2 w16 ⟨hw16, he2⟩
                    subst hw16
                    have he2 : e2 = e := he2
                    refine hk27 _ _ ⟨?_, h⟩
                    rw [he2, ee]; rfl
          · intro k17 hk17
            rw [SplitB_iff]
            refine ⟨fun hq1 => ?_, fun hq1 => ?_⟩
            · have hq1 : at_ < 0 := of_decide_eq_true hq1
              refine (num_ok _).mono ?_
              rintro e2 w16 ⟨hw16, he2⟩
              subst hw16
              have he2 : e2 = e := he2
              refine hk17 _ _ ⟨?_, h⟩
              rw [he2]
              simp [hq1]
              exact Bool.eq_iff_iff.2 (by simp)
            · have hq1 : ¬ at_ < 0 := of_decide_eq_false hq1
              exact hk17 _ _ ⟨by simp [hq1], h⟩
    · exact ⟨rfl, h.upd⟩
  · intro k hk
    rw [SplitB_iff]
    refine ⟨fun hf => (by cases hf), fun _ => ?_⟩
    refine (num_ok _).mono ?_
    rintro e w5 ⟨rfl, rfl⟩
    rw [SplitB_iff]
    refine ⟨fun hf => (by cases hf), fun _ => ?_⟩
    refine RunN.pEqS ?_
    exact hk _ _ ⟨rfl, h⟩
end Go.Proofs.Ytbdhmeefjlkdcaa
