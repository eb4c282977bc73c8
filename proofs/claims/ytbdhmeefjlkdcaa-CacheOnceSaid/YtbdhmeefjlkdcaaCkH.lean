/- The cache: Begin. -/
import Derived.Test.YtbdhmeefjlkdcaaCkG
namespace Go.Proofs.Ytbdhmeefjlkdcaa
open Go Go.Fw Go.RowKit
set_option linter.unusedVariables false
set_option linter.unusedSimpArgs false
set_option maxRecDepth 4000
set_option maxHeartbeats 2000000
variable {w0 w : World} {F G : Grps}

def zrp : Rp := (0, 0, 0, 0)
def beginV (a : Av) (id : Int) : (Rp × Bool × Int) × Av :=
  if id < 1 ∨ id > 1099511627776 then ((zrp, false, 1), a)
  else if id > a.last + 1 then ((zrp, false, 131), a)
  else if id = a.last + 1 then ((zrp, false, 0), ⟨id, a.pend ++ [id], a.kept⟩)
  else if id ∈ a.pend then ((zrp, false, 133), a)
  else match a.kept.find? (fun r => r.2.1 == id) with
    | some r => ((r, true, 0), a)
    | none => ((zrp, false, 130), a)
def beginC (me reps : Nat) (l : List Av) (x id : Int) : (Rp × Bool × Int) × List Av :=
  match idxV me reps l.length x with
  | none => ((zrp, false, 132), l)
  | some j => match l[j]? with | some a => ((beginV a id).1, l.set j (beginV a id).2) | none => ((zrp, false, 132), l)
theorem beginC_own {c : Cc} (hr : 2 ≤ c.reps) {x id : Int} {j : Nat} (hj : c.own x j) : beginC c.me c.reps (c.ss.map Ses.V) x id = ((beginV (c.ss[j]'hj.1).V id).1, (c.ss.map Ses.V).set j (beginV (c.ss[j]'hj.1).V id).2) := by
  have h1 := hj.1
  rw [beginC, List.length_map, idx_own hr hj]
  simp [h1]
theorem ret_st (h : St w0 w G) (k i : Nat) {b : Nat} {x : Rp} (he : Has G k i (.cel b 43 (rpv x))) (z : Rp) {K : (Int × Int × Int × Int × Unit) → World → Prop} (hk : ∀ w', St w0 w' (updG G k i [.cel b 43 (rpv z)]) → K (rpt z) w') :
    RunU Try.prog (U (Instr.storeAt 43 (.pointer (some ⟨b, 0, none⟩)) (.agg #[.int .i64 z.1, .int .i64 z.2.1, .int .i64 z.2.2.1, .int .i64 z.2.2.2]))) w fun w =>
      ReadN Try.prog (.agg (.cons (.int .i64) (.cons (.int .i64) (.cons (.int .i64) (.cons (.int .i64) .nilT))))) (V (Instr.loadAt 43 (.pointer (some ⟨b, 0, none⟩)))) w fun r0 => K r0 w := by
  refine h.storA k i he (t' := 43) (n := 4) (j := 0) rfl (ds := rpv z) rfl rfl rfl ?_
  intro w1 h
  have h : St w0 w1 (updG G k i [.cel b 43 (rpv z)]) := h
  refine ReadN.of (kd := .agg (.cons (.int .i64) (.cons (.int .i64) (.cons (.int .i64) (.cons (.int .i64) .nilT))))) (x := rpt z) (h.run_loadA (k := k) (i := i) (b := b) (t := 43) (cs := rpv z) (has_upd he _) (t' := 43) (n := 4) (j := 0) rfl (vs := rpv z) rfl rfl) ?_
  exact hk _ h
theorem bs50 (w : World) (x : Int) : (Instr.buildSlice 50 1 #[(0, .int .i64 x)]).run Try.prog w = .ok (.slice (some ⟨w.heap.size, 0, none⟩) 1 1) (w.alloc (.cells ⟨[.int .i64 x]⟩ 3)) := by kernel_rfl
theorem find_id {l : List Rp} (hs : (ids l).Pairwise (· < ·)) {x : Int} {i : Nat} (hi : i < (ids l).length) (he : (ids l)[i] = x) : l.find? (fun r => r.2.1 == x) = some (l[i]'(by simpa [ids] using hi)) := by
  rw [List.find?_eq_some_iff_getElem]
  have hil : i < l.length := by simpa [ids] using hi
  refine ⟨by simpa [ids] using he, i, hil, rfl, fun j hj => ?_⟩
  have h1 := List.pairwise_iff_getElem.1 hs j i (by simp [ids]; omega) hi hj
  have h2 : (ids l)[j]'(by simp [ids]; omega) = (l[j]'(by omega)).2.1 := by simp [ids]
  simp only [Bool.not_eq_true', beq_eq_false_iff_ne, ne_eq]
  rw [h2] at h1
  omega
theorem find_no {l : List Rp} {x : Int} (h : x ∉ ids l) : l.find? (fun r => r.2.1 == x) = none := by
  rw [List.find?_eq_none]
  intro r hr
  simp only [beq_iff_eq]
  intro he
  exact h (List.mem_map.2 ⟨r, hr, he⟩)
theorem begin_st {c : Cc} {N : Nat} (h : St w0 w (ccG c F)) (hw : c.wf N) (hN : N ≤ 1000000) (x id : Int) :
    CallK Try.prog (.tup (.cons (.agg (.cons (.int .i64) (.cons (.int .i64) (.cons (.int .i64) (.cons (.int .i64) .nilT))))) (.cons .bool (.cons (.int .i64) .nilT)))) 18 #[.pointer c.p, .agg #[.int .i64 x, .int .i64 id]] w fun (v : (Int × Int × Int × Int × Unit) × Bool × Int × Unit) w' =>
      ∃ ss' z t e, v = (rpt z, t, e, ()) ∧ St w0 w' (ccG { c with ss := ss' } F) ∧ ({ c with ss := ss' } : Cc).wf (N + 1) ∧ ((z, t, e), ss'.map Ses.V) = beginC c.me c.reps (c.ss.map Ses.V) x id := by
  have hr := hw.reps.1
  refine T18.calls (p1 := (x, id, ())) ?_
  unfold T18
  refine h.newB run_boxA rfl ?_
  intro b3 w1 h
  refine h.newB (NewC.run _) rfl ?_
  intro b4 w2 h
  refine h.loadB 1 0 ⟨_, rfl, rfl⟩ rfl rfl ?_
  have h := h.ord 5 [2, 3, 4, 0, 1]
  generalize hF : ([Ent.cel b4 43 (rpv zrp)] :: [Ent.cel b3 32 [.int .i64 x, .int .i64 id]] :: F) = F2
  have h : St w0 w2 (ccG c F2) := by rw [← hF]; exact h
  have h4 : ∀ c', Has (ccG c' F2) 3 0 (.cel b4 43 (rpv zrp)) := fun c' => by rw [← hF]; exact ⟨_, rfl, rfl⟩
  have h3 : ∀ c', Has (ccG c' F2) 4 0 (.cel b3 32 [.int .i64 x, .int .i64 id]) := fun c' => by rw [← hF]; exact ⟨_, rfl, rfl⟩
  have hout : ∀ {w' : World} {c' : Cc} {z : Rp}, St w0 w' (updG (ccG c' F2) 3 0 [.cel b4 43 (rpv z)]) → St w0 w' (ccG c' F) := fun {w' c' z} h => by
    rw [← hF] at h
    exact (h.drop 3).drop 3
  clear hF
  refine of_st h hr x (fun w j hj h => ?_) (fun w hn h => ?_)
  · have hje := has_e (F := F2) hj.1
    have hjr := has_r (F := F2) hj.1
    have hS := hw.ses _ (List.getElem_mem hj.1)
    have hB := beginC_own hr (id := id) hj
    generalize hs : c.ss[j]'hj.1 = s at hje hjr hS hB
    have same : ∀ {w' : World} (z : Rp) (t : Bool) (e : Int), St w0 w' (updG (ccG c F2) 3 0 [.cel b4 43 (rpv z)]) → beginV s.V id = ((z, t, e), s.V) → ∃ ss' z' t' e', (((z.1, z.2.1, z.2.2.1, z.2.2.2, ()), t, e, ()) : (Int × Int × Int × Int × Unit) × Bool × Int × Unit) = (rpt z', t', e', ()) ∧ St w0 w' (ccG { c with ss := ss' } F) ∧ ({ c with ss := ss' } : Cc).wf (N + 1) ∧ ((z', t', e'), ss'.map Ses.V) = beginC c.me c.reps (c.ss.map Ses.V) x id := by
      intro w' z t e h hv
      refine ⟨c.ss, z, t, e, rfl, hout h, wf_mono hw (Nat.le_succ _), ?_⟩
      rw [hB, hv, ← hs, ← List.map_set, List.set_getElem_self]
    refine RunN.pEqS ?_
    rw [SplitB_iff]
    refine ⟨fun hc => (by cases hc), fun _ => ?_⟩
    refine JoinX.mk (fun (y : Bool × Unit) w' => St w0 w' (ccG c F2) ∧ y.1 = decide (id < 1 ∨ id > 1099511627776)) ?_ ?_
    · rintro ⟨y, ⟨⟩⟩ w3 ⟨h, hy⟩
      dsimp only at hy
      subst hy
      rw [SplitB_iff]
      refine ⟨fun hc => ?_, fun hc => ?_⟩
      · have hc : id < 1 ∨ id > 1099511627776 := of_decide_eq_true hc
        refine ret_st h 3 0 (h4 c) zrp fun w4 h => ?_
        exact same zrp false 1 h (if_pos hc)
      · have hc : ¬ (id < 1 ∨ id > 1099511627776) := of_decide_eq_false hc
        have hlast := hS.last
        have el : IntKind.i64.wrap (s.last + 1) = s.last + 1 := wr (by omega)
        refine h.drew.readB 4 0 (h3 c) rfl rfl ?_
        refine NilP.mk ?_
        refine h.drew.readB 1 j hje rfl rfl ?_
        try dsimp only
        rw [el]
        rw [SplitB_iff]
        refine ⟨fun hd => ?_, fun hd => ?_⟩
        · have hd : id > s.last + 1 := of_decide_eq_true hd
          refine ret_st h.drew 3 0 (h4 c) zrp fun w4 h => ?_
          exact same zrp false 131 h ((if_neg hc).trans (if_pos hd))
        · have hd : ¬ id > s.last + 1 := of_decide_eq_false hd
          refine h.drew.drew.readB 4 0 (h3 c) rfl rfl ?_
          refine NilP.mk ?_
          refine h.drew.drew.readB 1 j hje rfl rfl ?_
          try dsimp only
          rw [el]
          rw [SplitB_iff]
          refine ⟨fun he => ?_, fun he => ?_⟩
          · have he : id = s.last + 1 := by simpa using he
            have h := h.drew.drew
            refine h.loadB 4 0 (h3 c) rfl rfl ?_
            refine NilP.mk ?_
            refine h.storB 1 j hje rfl rfl rfl ?_
            intro w4 h
            have h : St w0 w4 (updG (ccG c F2) 1 j [sesE { s with last := id }]) := h
            have h : St w0 w4 (ccG (c.set j { s with last := id }) F2) := set_e hj.1 (by rw [hs]) (by rw [hs]) (by rw [hs]) h
            generalize hc2 : c.set j { s with last := id } = c2 at h
            have hj2 : j < c2.ss.length := by rw [← hc2]; simpa [Cc.set] using hj.1
            have hs2 : c2.ss[j] = { s with last := id } := by subst hc2; simp [Cc.set]
            have hje2 : Has (ccG c2 F2) 1 j (sesE { s with last := id }) := by rw [← hs2]; exact has_e hj2
            have hjr2 : Has (ccG c2 F2) 2 j (.row 3 1 s.q (lin s.pend)) := by have := has_r (F := F2) hj2; rw [hs2] at this; exact this
            refine NilP.mk ?_
            refine h.drew.readB 1 j hje2 rfl (kd := .sl) (x := s.q) rfl ?_
            refine h.drew.readB 4 0 (h3 c2) rfl rfl ?_
            refine h.drew.newS 1 (bs50 _ _) rfl rfl rfl ?_
            intro u w5 hu1 hu2 _ h
            refine ⟨h.stillB 2 j hje2 rfl rfl, ?_⟩
            have hru := h.rd (k := 0) (i := 0) ⟨_, rfl, rfl⟩
            have hql : s.q.len = s.pend.length := by have := (h.rd (k := 3) (i := j) hjr2).1; rw [lin_len] at this; omega
            have := hS.len
            refine h.app 3 j hjr2 hru one_int (by simp only [maxLen]; omega) (by omega) ?_
            intro q w6 hq h
            have h := h.drop 0
            have e1 : lin s.pend ++ [Value.int .i64 id] = lin (s.pend ++ [id]) := (lin_snoc _ _).symm
            have h : St w0 w6 (updG (ccG c2 F2) 2 j [.row 3 1 q (lin s.pend ++ [Value.int .i64 id])]) := h
            rw [e1] at h
            have hje3 : Has (updG (ccG c2 F2) 2 j [.row 3 1 q (lin (s.pend ++ [id]))]) 1 j (sesE { s with last := id }) := hje2
            refine NilP.mk ?_
            refine h.storB 1 j hje3 rfl rfl rfl ?_
            intro w7 h
            have h : St w0 w7 (updG (updG (ccG c2 F2) 2 j [sesR { s with last := id, q := q, pend := s.pend ++ [id] }]) 1 j [sesE { s with last := id, q := q, pend := s.pend ++ [id] }]) := h
            have h := set_st hj2 (by rw [hs2]) h
            refine ret_st h 3 0 (h4 _) zrp fun w8 h => ?_
            have ec : c2.set j { s with last := id, q := q, pend := s.pend ++ [id] } = { c with ss := c.ss.set j { s with last := id, q := q, pend := s.pend ++ [id] } } := by
              rw [← hc2]; simp [Cc.set]
            rw [ec] at h
            refine ⟨_, zrp, false, 0, rfl, hout h, ?_, ?_⟩
            · refine wf_set hw (Nat.le_succ _) ⟨⟨hS.wf.ring, hS.wf.n, hS.wf.sorted⟩, hS.n, ?_, by simp; omega, ⟨by dsimp only; omega, by dsimp only; omega⟩, ?_⟩
              · rw [List.pairwise_append]
                refine ⟨hS.sorted, by simp, fun a ha b hb => ?_⟩
                simp at hb; subst hb
                have := hS.low a ha; omega
              · intro y hy
                rcases List.mem_append.1 hy with hy | hy
                · have := hS.low y hy; dsimp only; omega
                · simp at hy; subst hy; exact Int.le_refl _
            · have e2 : beginV s.V id = ((zrp, false, 0), ⟨id, s.pend ++ [id], s.kept⟩) := (if_neg hc).trans ((if_neg hd).trans (if_pos he))
              rw [hB, e2, List.map_set]
              rfl
          · have he : ¬ id = s.last + 1 := by simpa using he
            refine NilP.mk ?_
            have h := h.drew.drew.drew
            refine h.readB 1 j hje rfl (kd := .sl) (x := s.q) rfl ?_
            refine h.readB 4 0 (h3 c) rfl rfl ?_
            refine (contains_ok (h.rd hjr) (by have := hS.len; omega) id).mono ?_
            rintro _ w4 ⟨rfl, rfl⟩
            rw [SplitB_iff]
            refine ⟨fun hf => ?_, fun hf => ?_⟩
            · have hf : id ∈ s.pend := of_decide_eq_true hf
              refine ret_st h 3 0 (h4 c) zrp fun w4 h => ?_
              exact same zrp false 133 h ((if_neg hc).trans ((if_neg hd).trans ((if_neg he).trans (if_pos hf))))
            · have hf : ¬ id ∈ s.pend := of_decide_eq_false hf
              have e3 : beginV s.V id = (match s.kept.find? (fun r => r.2.1 == id) with | some r => ((r, true, 0), s.V) | none => ((zrp, false, 130), s.V)) := (if_neg hc).trans ((if_neg hd).trans ((if_neg he).trans (if_neg hf)))
              refine h.loadB 4 0 (h3 c) rfl rfl ?_
              refine (find_st h hje hS.wf id).mono ?_
              rintro _ w5 ⟨hu, i, hi, rfl⟩
              have h := h.keep hu
              have hmem := hi.mem hS.wf.sorted
              rw [SplitB_iff]
              refine ⟨fun hg => ?_, fun hg => ?_⟩
              · have hg : id ∈ ids s.kept := of_decide_eq_true hg
                obtain ⟨hil, hie⟩ := hmem.1 hg
                have hik : i < s.kept.length := by simpa [ids] using hil
                have hin : i < s.n := by rw [← kept_len hS.wf]; exact hik
                have hir : i < s.ring.length := by rw [hS.wf.ring]; have := hS.wf.n; omega
                have ek : s.kept[i] = s.ring[i] := by simp [Ses.kept]
                rw [find_id (l := s.kept) hS.wf.sorted hil hie, ek] at e3
                refine NilP.mk ?_
                refine RunN.arrs (g := s.b) (o := 2) rfl i rfl (by have := hS.wf.n; omega) ?_
                refine RunN.of (kd := .agg (.cons (.int .i64) (.cons (.int .i64) (.cons (.int .i64) (.cons (.int .i64) .nilT))))) (x := rpt s.ring[i]) (h.run_loadA (k := 1) (i := j) hje (t' := 43) (n := 4) (j := 2 + i * 4) rfl (vs := rpv s.ring[i]) rfl ?_) ?_
                · have e5 := sesC_sub hS.wf.ring i (i + 1) (by omega) (by have := hS.wf.n; omega)
                  rw [Nat.add_sub_cancel_left, Nat.one_mul] at e5
                  rw [e5, List.drop_take, List.drop_eq_getElem_cons hir, Nat.add_sub_cancel_left]
                  rfl
                refine ret_st h 3 0 (h4 c) s.ring[i] fun w6 h => ?_
                exact same s.ring[i] true 0 h e3
              · have hg : ¬ id ∈ ids s.kept := of_decide_eq_false hg
                rw [find_no hg] at e3
                refine ret_st h 3 0 (h4 c) zrp fun w6 h => ?_
                exact same zrp false 130 h e3
    · intro k hk
      refine h.loadB 4 0 (h3 c) rfl rfl ?_
      rw [SplitB_iff]
      refine ⟨fun hc => ?_, fun hc => ?_⟩
      · have hc : id < 1 := of_decide_eq_true hc
        exact hk _ _ ⟨h, by simp [hc]⟩
      · have hc : ¬ id < 1 := of_decide_eq_false hc
        refine h.loadB 4 0 (h3 c) rfl rfl ?_
        exact hk _ _ ⟨h, by simp [hc]⟩
  · refine RunN.pEqN ?_
    rw [SplitB_iff]
    refine ⟨fun _ => ?_, fun hc => (by cases hc)⟩
    refine ret_st h 3 0 (h4 c) zrp fun w3 h => ?_
    refine ⟨c.ss, zrp, false, 132, rfl, hout h, wf_mono hw (Nat.le_succ _), ?_⟩
    rw [beginC, List.length_map, idx_none hn]
end Go.Proofs.Ytbdhmeefjlkdcaa
