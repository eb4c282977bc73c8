/- The order of a session's requests: the walk of the law. -/
import Derived.Test.YtbdhmeefjlkdcaaCkOr
namespace Go.Proofs.Ytbdhmeefjlkdcaa
open Go Go.Fw Go.RowKit
set_option linter.unusedVariables false
set_option linter.unusedSimpArgs false
set_option maxRecDepth 4000
set_option maxHeartbeats 2000000
variable {w0 w : World} {F G : Grps}

structure OrI (c0 : Cc) (n i : Nat) (c : Cc) (ct : List Int) : Prop where
  p : c.p = c0.p
  me : c.me = 0
  reps : c.reps = 2
  sess : c.sess = n
  wf : c.wf i
  len : ct.length = 64
  at_ : ∀ j (hj : j < c.ss.length), ct[2 * j]? = some (c.ss[j]).last
  kept : ∀ j (hj : j < c.ss.length), (c.ss[j]).kept = []
  low : ∀ j (hj : j < c.ss.length), (c.ss[j]).last ≤ i
theorem lin_nth {l : List Int} {j : Nat} {x : Int} (h : l[j]? = some x) : nthO (lin l) j = some (.int .i64 x) := by
  rw [nthO_get, lin, List.getElem?_map, h]; rfl
theorem lin_setO (l : List Int) (j : Nat) (x : Int) : setO (lin l) j (.int .i64 x) = lin (l.set j x) := by
  rw [setO_set, lin, lin, List.map_set]
theorem order_st {s : Sl} {os : List Int} (hs : Rd w s 1 (lin os)) (p0 p1 : Int) : CallK Try.prog .bool 7 #[.int .i64 p0, .int .i64 p1, .slice s.a s.len s.cap] w fun (v : Bool) w' => v = true ∧ Upd w w' nobody := by
  have hsl : s.len = os.length := by have := hs.1; rw [lin_len] at this; omega
  refine T7.calls ?_
  unfold T7
  rw [SplitB_iff]
  refine ⟨fun hc => ?_, fun hc => ?_⟩
  · exact ⟨rfl, Upd.refl _ _⟩
  have hc : os.length ≤ 200 := by have : ¬ (s.len : Int) > 200 := of_decide_eq_false hc; omega
  refine (alive_st (St.init w)).mono ?_
  rintro v w1 ⟨rfl, h⟩
  refine (slot_ok _ 64 (by decide) (by decide)).mono ?_
  rintro _ w2 ⟨rfl, n1, hn1, rfl⟩
  refine (slot_ok _ 16 (by decide) (by decide)).mono ?_
  rintro _ w3 ⟨rfl, k1, hk1, rfl⟩
  have en : IntKind.i64.wrap (1 + (n1 : Int)) = ((n1 + 1 : Nat) : Int) := by rw [wr (by omega)]; omega
  have ek : IntKind.i64.wrap (1 + (k1 : Int)) = ((k1 + 1 : Nat) : Int) := by rw [wr (by omega)]; omega
  rw [en, ek]
  refine (new_st 0 2 _ _).mono ?_
  intro v1 w4 hv1
  rcases hv1 with ⟨h0, _⟩ | ⟨_, c, rfl, c1, c2, c3, c4, hw, hv, h2⟩
  · refine absurd ?_ h0
    rw [newE, if_neg (by omega), if_neg (by omega), if_neg (by omega)]
  have h : St w w4 (ccG c []) := h.join h2
  clear h2
  refine JoinX.mk (fun (y : Bool × Unit) w' => y.1 = false ∧ St w w' (ccG c [])) ?_ ?_
  · rintro ⟨y, ⟨⟩⟩ w5 ⟨hy, h⟩
    dsimp only at hy
    subst hy
    rw [SplitB_iff]
    refine ⟨fun hf => (by cases hf), fun _ => ?_⟩
    refine h.newB (NewC.run _) rfl ?_
    intro b w6 h
    have h := h.ord 4 [1, 2, 3, 0]
    have h : St w w6 (ccG c [[.cel b 51 (lin (List.replicate 64 0))]]) := h
    have hI : OrI c (n1 + 1) 0 c (List.replicate 64 0) := by
      refine ⟨rfl, by omega, by omega, by omega, hw, by simp, fun j hj => ?_, fun j hj => ?_, fun j hj => ?_⟩
      · have h1 := congrArg Av.last (hv _ (List.getElem_mem hj))
        have h1 : (c.ss[j]).last = 0 := h1
        have h2 := (hw.len j).1 hj
        rw [h1, List.getElem?_replicate, if_pos (by have := hw.sess; have : c.reps = 2 := by omega
                                                    rw [this] at h2; omega)]
      · exact congrArg Av.kept (hv _ (List.getElem_mem hj))
      · have h1 := congrArg Av.last (hv _ (List.getElem_mem hj))
        have h1 : (c.ss[j]).last = 0 := h1
        omega
    clear hw hv c1 c2 c3 c4
    refine LoopX.mk (fun st w' => ∃ (i : Nat) (c' : Cc) (ct : List Int), st = ((i : Int), ()) ∧ i ≤ os.length ∧ OrI c (n1 + 1) i c' ct ∧ St w w' (ccG c' [[.cel b 51 (lin ct)]])) (fun st => ((os.length : Int) - st.1).toNat) ⟨0, c, _, rfl, by omega, hI, h⟩ ?_
    clear h hI
    rintro _ w7 ⟨i, c', ct, rfl, hi, hI, h⟩ k hk
    dsimp only at hk ⊢
    rw [SplitB_iff]
    refine ⟨fun hd => ?_, fun hd => ?_⟩
    · have hd : i < os.length := by have : (i : Int) < (s.len : Int) := of_decide_eq_true hd; omega
      have e2 : IntKind.i64.wrap (Int.tdiv (IntKind.i64.wrap (((n1 + 1 : Nat) : Int) + 1)) 2) = (((n1 + 2) / 2 : Nat) : Int) := by
        rw [wr (x := ((n1 + 1 : Nat) : Int) + 1) (by omega), Int.tdiv_eq_ediv_of_nonneg (by omega), wr (by omega)]
        omega
      rw [e2]
      refine (slot_ok _ ((n1 + 2) / 2) (by omega) (by omega)).mono ?_
      rintro _ w8 ⟨rfl, j, hj, rfl⟩
      have ex : IntKind.i64.wrap (2 * (j : Int)) = ((2 * j : Nat) : Int) := by rw [wr (by omega)]; omega
      rw [ex]
      have hjl : j < c'.ss.length := (hI.wf.len j).2 (by rw [hI.me, hI.reps, hI.sess]; omega)
      have hown : c'.own ((2 * j : Nat) : Int) j := ⟨hjl, by rw [hI.me, hI.reps]; omega⟩
      have h64 : 2 * j < 64 := by omega
      have hrr := h.old hs
      refine hrr.idxK i rfl (by omega) ?_
      intro g o ha
      refine hrr.el ha (i * 1) rfl (kd := .int .i64) (x := os[i]) (by rw [Nat.mul_one]; exact lin_at hd) ?_
      rw [← hI.p]
      refine (begin_st h hI.wf (by omega) _ _).mono ?_
      rintro _ w9 ⟨ss', z, t, e, rfl, h, hw', hv⟩
      have hr2 : 2 ≤ c'.reps := by rw [hI.reps]; exact Nat.le_refl _
      rw [beginC_own hr2 hown] at hv
      have hS := hI.wf.ses _ (List.getElem_mem hjl)
      have hl := hI.low j hjl
      obtain ⟨q1, q2, q3, q4⟩ := beg_e (a := (c'.ss[j]).V) (id := os[i]) (hI.kept j hjl) hS.last.1 (by show (c'.ss[j]).last ≤ 1000; omega)
      have hve : e = (beginV (c'.ss[j]).V os[i]).1.2.2 := congrArg (fun x => x.1.2.2) hv
      have hvs : ss'.map Ses.V = (c'.ss.map Ses.V).set j (beginV (c'.ss[j]).V os[i]).2 := congrArg (fun x => x.2) hv
      rw [← hve] at q1 q2
      have hlen : ss'.length = c'.ss.length := by have := congrArg List.length hvs; simpa using this
      have hss : ∀ m (hm : m < ss'.length), (ss'[m]).V = if m = j then (beginV (c'.ss[j]).V os[i]).2 else (c'.ss[m]'(by omega)).V := by
        intro m hm
        have h1 := congrArg (fun l => l[m]?) hvs
        simp only [List.getElem?_map, List.getElem?_set, List.getElem?_eq_getElem hm, Option.map_some, List.length_map, List.getElem?_eq_getElem (show m < c'.ss.length by omega)] at h1
        by_cases hmj : m = j
        · subst hmj
          rw [if_pos rfl, if_pos (by omega)] at h1
          rw [if_pos rfl]; exact Option.some.inj h1
        · rw [if_neg (fun h => hmj h.symm)] at h1
          rw [if_neg hmj]; exact Option.some.inj h1
      generalize hc2 : ({ c' with ss := ss' } : Cc) = c2 at h hw'
      have hcp : c2.p = c'.p := by rw [← hc2]; rfl
      have hct : ct[2 * j]? = some (c'.ss[j]).last := hI.at_ j hjl
      have hV : (c'.ss[j]).V.last = (c'.ss[j]).last := rfl
      rw [hV] at q1 q2 q3
      have hl0 : 0 ≤ (c'.ss[j]).last := hS.last.1
      generalize hL : (c'.ss[j]).last = L at hct q1 q2 q3 hl hl0
      have ew : IntKind.i64.wrap (L + 1) = L + 1 := wr (by omega)
      refine h.newB (NewC.run _) rfl ?_
      intro b2 w10 h
      refine h.storA 0 0 ⟨_, rfl, rfl⟩ (t' := 43) (n := 4) (j := 0) rfl (ds := rpv z) rfl rfl rfl ?_
      intro w11 h
      have h : St w w11 (ccG c2 [[.cel b 51 (lin ct)]]) := h.drop 0
      refine JoinX.mk (fun (y : Bool × Unit) w' => y.1 = false ∧ St w w' (ccG c2 [[.cel b 51 (lin ct)]])) ?_ ?_
      · rintro ⟨y, ⟨⟩⟩ w12 ⟨hy, h⟩
        dsimp only at hy
        subst hy
        rw [SplitB_iff]
        refine ⟨fun hf => (by cases hf), fun _ => ?_⟩
        have hI2 : OrI c (n1 + 1) (i + 1) c2 (if os[i] = L + 1 then ct.set (2 * j) (L + 1) else ct) := by
          have hc3 : c2.ss = ss' := by rw [← hc2]
          have key : ∀ m (hm : m < ss'.length), (ss'[m]).last = (if m = j then (if os[i] = L + 1 then os[i] else L) else (c'.ss[m]'(by omega)).last) ∧ (ss'[m]).kept = [] := by
            intro m hm
            have h1 := hss m hm
            have h2 : (ss'[m]).last = (ss'[m]).V.last := rfl
            have h3 : (ss'[m]).kept = (ss'[m]).V.kept := rfl
            rw [h2, h3, h1]
            by_cases hmj : m = j
            · rw [if_pos hmj, if_pos hmj]; exact ⟨q3, q4⟩
            · rw [if_neg hmj, if_neg hmj]; exact ⟨rfl, hI.kept m (by omega)⟩
          refine ⟨hcp.trans hI.p, by rw [← hc2]; exact hI.me, by rw [← hc2]; exact hI.reps, by rw [← hc2]; exact hI.sess, hw', ?_, ?_, ?_, ?_⟩
          · split
            · rw [List.length_set]; exact hI.len
            · exact hI.len
          · rw [hc3]
            intro m hm
            rw [(key m hm).1]
            by_cases hid : os[i] = L + 1
            · rw [if_pos hid, List.getElem?_set]
              by_cases hmj : m = j
              · subst hmj; rw [if_pos rfl, if_pos (by rw [hI.len]; omega), if_pos rfl, if_pos hid, hid]
              · rw [if_neg (by omega), if_neg hmj]; exact hI.at_ m (by omega)
            · rw [if_neg hid]
              by_cases hmj : m = j
              · subst hmj; rw [if_pos rfl, if_neg hid]; exact hct
              · rw [if_neg hmj]; exact hI.at_ m (by omega)
          · rw [hc3]; intro m hm; exact (key m hm).2
          · rw [hc3]
            intro m hm
            rw [(key m hm).1]
            by_cases hmj : m = j
            · rw [if_pos hmj]; split <;> omega
            · rw [if_neg hmj]; have := hI.low m (by omega); omega
        clear hI hw' hss hvs hS
        have hct2 : (if os[i] = L + 1 then ct.set (2 * j) (L + 1) else ct)[2 * j]? = some (if os[i] = L + 1 then L + 1 else L) := by
          by_cases hid : os[i] = L + 1
          · rw [if_pos hid, if_pos hid, List.getElem?_set_self]
            exact (List.getElem?_eq_some_iff.1 hct).1
          · rw [if_neg hid, if_neg hid]; exact hct
        have hlast2 : ∀ (m : Nat) (hm : c2.own ((2 * j : Nat) : Int) m), (c2.ss[m]'hm.1).last = (if os[i] = L + 1 then L + 1 else L) := by
          intro m hm
          have hmj : m = j := by
            have h1 := hm.2
            rw [hI2.me, hI2.reps] at h1; omega
          subst hmj
          have := hI2.at_ m hm.1
          rw [hct2] at this
          exact (Option.some.inj this).symm
        have hown2 : ∃ m, c2.own ((2 * j : Nat) : Int) m := ⟨j, by rw [← hc2]; show j < ss'.length; omega, by rw [hI2.me, hI2.reps]; omega⟩
        generalize hct' : (if os[i] = L + 1 then ct.set (2 * j) (L + 1) else ct) = ct2 at hI2 hct2
        generalize hL2 : (if os[i] = L + 1 then L + 1 else L) = L2 at hct2 hlast2
        refine JoinX.mk (fun (_ : Unit) w' => St w w' (ccG c2 [[.cel b 51 (lin ct2)]])) ?_ ?_
        · rintro ⟨⟩ w13 h
          refine ReadN.arr rfl (2 * j) rfl h64 ?_
          refine h.drew.readB 3 0 ⟨_, rfl, rfl⟩ (by rw [Nat.zero_add]) (kd := .int .i64) (x := L2) (lin_nth hct2) ?_
          rw [← hcp]
          refine (last_st h.drew (by rw [hI2.reps]; exact Nat.le_refl _) _).mono ?_
          rintro v w14 ⟨h, hv⟩
          have hv : v = L2 := by
            rcases hv with ⟨m, hm, rfl⟩ | ⟨hn, _⟩
            · exact hlast2 m hm
            · obtain ⟨m, hm⟩ := hown2; exact absurd hm (hn m)
          refine ⟨h.stillB 3 0 ⟨_, rfl, rfl⟩ (by rw [Nat.zero_add]) (lin_nth hct2), ?_⟩
          refine ⟨StillV.of (run_arr rfl (2 * j) rfl h64), ?_⟩
          rw [SplitB_iff]
          refine ⟨fun hf => ?_, fun _ => ?_⟩
          · rw [hv] at hf; simp at hf
          · have e : IntKind.i64.wrap ((i : Int) + 1) = ((i + 1 : Nat) : Int) := by rw [wr (by omega)]; omega
            rw [e]
            exact hk _ _ ⟨i + 1, c2, ct2, rfl, by omega, hI2, h⟩ (by dsimp only; omega)
        · intro k7 hk7
          refine (num_ok _).mono ?_
          rintro r w13 ⟨hw13, hre⟩
          subst hw13
          rw [hre]
          rw [SplitB_iff]
          refine ⟨fun h0 => ?_, fun h0 => ?_⟩
          · have h0 : e = 0 := by simpa using h0
            have hid : os[i] = L + 1 := q1.1 h0
            refine RunN.arr rfl (2 * j) rfl h64 ?_
            refine h.loadB 3 0 ⟨_, rfl, rfl⟩ (by rw [Nat.zero_add]) (kd := .int .i64) (x := L) (lin_nth hct) ?_
            refine RunN.arr rfl (2 * j) rfl h64 ?_
            rw [ew]
            refine h.storB 3 0 ⟨_, rfl, rfl⟩ (by rw [Nat.zero_add]) (by rw [Nat.blt_eq, lin_len]; exact (List.getElem?_eq_some_iff.1 hct).1) rfl ?_
            intro w14 h
            have h : St w w14 (ccG c2 [[.cel b 51 (setO (lin ct) (2 * j) (.int .i64 (L + 1)))]]) := h
            rw [lin_setO] at h
            rw [if_pos hid] at hct'
            rw [hct'] at h
            exact hk7 _ _ h
          · have h0 : ¬ e = 0 := by simpa using h0
            have hid : ¬ os[i] = L + 1 := fun hid => h0 (q1.2 hid)
            rw [if_neg hid] at hct'
            rw [← hct'] at hk7
            exact hk7 _ _ h
      · intro k5 hk5
        have b1 : ((e == 0) == (os[i] == L + 1)) = true := by
          by_cases h0 : e = 0
          · have := q1.1 h0; simp [h0, this]
          · have : ¬ os[i] = L + 1 := fun h => h0 (q1.2 h)
            rw [beq_eq_false_iff_ne.2 h0, beq_eq_false_iff_ne.2 this]; rfl
        have hrd := h.drew.old hs
        refine hrd.idxR i rfl (by omega) ?_
        intro g2 o2 ha2
        refine hrd.elR ha2 (i * 1) rfl (kd := .int .i64) (x := os[i]) (by rw [Nat.mul_one]; exact lin_at hd) ?_
        refine ReadN.arr rfl (2 * j) rfl h64 ?_
        refine h.drew.readB 3 0 ⟨_, rfl, rfl⟩ (by rw [Nat.zero_add]) (kd := .int .i64) (x := L) (lin_nth hct) ?_
        refine (num_ok _).mono ?_
        rintro r w12 ⟨hw12, hre⟩
        subst hw12
        refine ⟨h.drew.stillB 3 0 ⟨_, rfl, rfl⟩ (by rw [Nat.zero_add]) (lin_nth hct), ?_⟩
        refine ⟨StillV.of (run_arr rfl (2 * j) rfl h64), ?_⟩
        refine ⟨StillV.el hrd ha2 (i * 1) rfl (by rw [Nat.mul_one]; exact lin_at hd), ?_⟩
        refine ⟨StillV.idx hrd ha2 i rfl (by omega), ?_⟩
        rw [ew, hre, b1]
        rw [SplitB_iff]
        refine ⟨fun hf => (by cases hf), fun _ => ?_⟩
        refine hrd.idxR i rfl (by omega) ?_
        intro g3 o3 ha3
        refine hrd.elR ha3 (i * 1) rfl (kd := .int .i64) (x := os[i]) (by rw [Nat.mul_one]; exact lin_at hd) ?_
        refine ReadN.arr rfl (2 * j) rfl h64 ?_
        refine h.drew.readB 3 0 ⟨_, rfl, rfl⟩ (by rw [Nat.zero_add]) (kd := .int .i64) (x := L) (lin_nth hct) ?_
        refine (num_ok _).mono ?_
        rintro r2 w13 ⟨hw13, hre2⟩
        subst hw13
        refine ⟨h.drew.stillB 3 0 ⟨_, rfl, rfl⟩ (by rw [Nat.zero_add]) (lin_nth hct), ?_⟩
        refine ⟨StillV.of (run_arr rfl (2 * j) rfl h64), ?_⟩
        refine ⟨StillV.el hrd ha3 (i * 1) rfl (by rw [Nat.mul_one]; exact lin_at hd), ?_⟩
        refine ⟨StillV.idx hrd ha3 i rfl (by omega), ?_⟩
        rw [ew, hre2]
        rw [SplitB_iff]
        refine ⟨fun h1 => ?_, fun h1 => ?_⟩
        · have h1 : os[i] > L + 1 := of_decide_eq_true h1
          refine hrd.idxR i rfl (by omega) ?_
          intro g4 o4 ha4
          refine hrd.elR ha4 (i * 1) rfl (kd := .int .i64) (x := os[i]) (by rw [Nat.mul_one]; exact lin_at hd) ?_
          refine hk5 _ _ ⟨?_, h.drew⟩
          dsimp only
          by_cases h2 : e = 131
          · have := q2.1 h2; simp [h2, this]
          · have : ¬ os[i] ≤ 1099511627776 := fun h => h2 (q2.2 ⟨h1, h⟩)
            simp [h2, this]
        · have h1 : ¬ os[i] > L + 1 := of_decide_eq_false h1
          refine hk5 _ _ ⟨?_, h.drew⟩
          dsimp only
          have h2 : ¬ e = 131 := fun h2 => h1 (q2.1 h2).1
          simp [h2]
    · refine ⟨rfl, h.upd⟩
  · intro k hk
    rw [SplitB_iff]
    refine ⟨fun hf => (by cases hf), fun _ => ?_⟩
    refine (num_ok _).mono ?_
    rintro e w5 ⟨rfl, rfl⟩
    rw [SplitB_iff]
    refine ⟨fun hf => (by cases hf), fun _ => ?_⟩
    refine RunN.pEqS ?_
    exact hk _ _ ⟨rfl, h⟩
end Go.Proofs.Ytbdhmeefjlkdcaa
