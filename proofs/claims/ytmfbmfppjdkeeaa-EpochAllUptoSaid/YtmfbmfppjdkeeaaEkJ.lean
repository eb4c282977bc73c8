/- What was answered is kept: epochs. -/
import Derived.Test.YtmfbmfppjdkeeaaEkI
namespace Go.Proofs.Ytmfbmfppjdkeeaa
open Go Go.Fw Go.RowKit
set_option linter.unusedVariables false
set_option linter.unusedSimpArgs false
set_option maxRecDepth 4000
set_option maxHeartbeats 2000000
variable {w0 w : World} {F G : Grps}

theorem bslE (w : World) (s : Sl) : (Instr.buildSlice 50 1 #[(0, .slice s.a s.len s.cap)]).run Try.prog w = .ok (.slice (some ⟨w.heap.size, 0, none⟩) 1 1) (w.alloc (.cells ⟨[slv s]⟩ 78)) := by kernel_rfl
theorem bseE (w : World) (x : Ep) : (Instr.buildSlice 78 1 #[(0, .agg ⟨epv x⟩)]).run Try.prog w = .ok (.slice (some ⟨w.heap.size, 0, none⟩) 1 1) (w.alloc (.cells ⟨epv x⟩ 54)) := by kernel_rfl
def mkE (m : Int) : Ep := (-9, m)
abbrev mvE (m : Int) : List Value := epv (mkE m)
theorem recE {k : Kp} (h : St w0 w (kpE k :: F)) (hl : k.E.length ≤ 1000000000) (hm : k.N.length ≤ 1000000000) (s : Sl) (m : Int) {K : World → Prop}
    (hk : ∀ qa qm w', St w0 w' (kpE { k with E := k.E ++ [s], eq := qa, N := k.N ++ [m], em := qm } :: F) → K w') :
    NilP k.p fun t10 =>
      RunN Try.prog .sl (V (Instr.loadAt 50 (.pointer (some (t10.add 4))))) w fun t12 w =>
      RunN Try.prog .sl (V (Instr.buildSlice 50 1 #[(0, .slice s.a s.len s.cap)])) w fun t14 w =>
      RunN Try.prog .sl (V (Builtin.append_ #[50, 50] 50 #[.slice t12.a t12.len t12.cap, .slice t14.a t14.len t14.cap])) w fun t15 w =>
      NilP k.p fun t16 =>
      RunU Try.prog (U (Instr.storeAt 50 (.pointer (some (t16.add 4))) (.slice t15.a t15.len t15.cap))) w fun w =>
      NilP k.p fun t20 =>
      RunN Try.prog .sl (V (Instr.loadAt 26 (.pointer (some (t20.add 6))))) w fun t22 w =>
      RunN Try.prog .sl (V (Instr.buildSlice 26 1 #[(0, .int .i64 m)])) w fun t24 w =>
      RunN Try.prog .sl (V (Builtin.append_ #[26, 26] 26 #[.slice t22.a t22.len t22.cap, .slice t24.a t24.len t24.cap])) w fun t25 w =>
      NilP k.p fun t26 =>
      RunU Try.prog (U (Instr.storeAt 26 (.pointer (some (t26.add 6))) (.slice t25.a t25.len t25.cap))) w K := by
  have hql : k.eq.len = k.E.length := by have := (h.rd (k := 0) (i := 4) (E := 78) (sz := 1) (s := k.eq) (vs := sls k.E) ⟨_, rfl, rfl⟩).1; simp [sls] at this; omega
  have hqm : k.em.len = k.N.length := by have := (h.rd (k := 0) (i := 6) (E := 3) (sz := 1) (s := k.em) (vs := lin k.N) ⟨_, rfl, rfl⟩).1; rw [lin_len] at this; omega
  refine NilP.mk ?_
  refine h.loadB 0 0 ⟨_, rfl, rfl⟩ rfl (kd := .sl) (x := k.eq) rfl ?_
  refine h.newS 1 (bslE _ s) rfl rfl rfl ?_
  intro u w1 hu1 _ _ h
  refine h.app 1 4 ⟨_, rfl, rfl⟩ (h.rd (k := 0) (i := 0) ⟨_, rfl, rfl⟩) (fun v hv => by simp at hv; subst hv; rfl) (by simp only [maxLen]; omega) (by omega) ?_
  intro qa w2 hla h
  have h := h.drop 0
  refine NilP.mk ?_
  refine h.storB 0 0 (j := 4) ⟨_, rfl, rfl⟩ rfl rfl rfl ?_
  intro w3 h
  have ea : sls (k.E ++ [s]) = sls k.E ++ [slv s] := by simp [sls]
  have h : St w0 w3 (kpE { k with E := k.E ++ [s], eq := qa } :: F) := by
    rw [kpE]
    simp only [ea]
    exact h
  refine NilP.mk ?_
  refine h.loadB 0 0 ⟨_, rfl, rfl⟩ rfl (kd := .sl) (x := k.em) rfl ?_
  refine h.newS 1 (bs26a _ m) rfl rfl rfl ?_
  intro u w4 hu1 _ _ h
  refine h.app 1 6 ⟨_, rfl, rfl⟩ (h.rd (k := 0) (i := 0) ⟨_, rfl, rfl⟩) (fun v hv => by simp [lin] at hv; subst hv; rfl) (by simp only [maxLen]; omega) (by dsimp only; omega) ?_
  intro qm w5 hla h
  have h := h.drop 0
  refine NilP.mk ?_
  refine h.storB 0 0 (j := 6) ⟨_, rfl, rfl⟩ rfl rfl rfl ?_
  intro w6 h
  refine hk qa qm w6 ?_
  have em : lin (k.N ++ [m]) = lin k.N ++ lin [m] := by simp [lin]
  rw [kpE]
  simp only [em]
  exact h
/-- A list, full of its mark, and what it becomes. -/
theorem holdE {k : Kp} {s : Sl} {m : Int} {n : Nat} (h : St w0 w ([.row 54 2 s (rep (mvE m) n)] :: kpE k :: F)) (hn : n ≤ 1000000) (hl : k.E.length ≤ 900000000) (hm : k.N.length ≤ 900000000) :
    CallK Try.prog (.tup .nilT) 75 #[.pointer k.p, .slice s.a s.len s.cap, .int .i64 m] w fun (_ : Unit) w' =>
      ∃ (qa qm : Sl) (l : List Sl) (g : List Ent), l.length ≤ 41 ∧ (∀ x ∈ l, x.len ≤ n + 40) ∧ (∀ x ∈ l, Cov 54 (mvE m) g x) ∧ St w0 w' (g :: kpE { k with E := k.E ++ l, eq := qa, N := k.N ++ List.replicate l.length m, em := qm } :: F) := by
  refine T75.calls ?_
  unfold T75
  have hvl : (mvE m).length = 2 := rfl
  have hsl : s.len = n := by
    have := (h.rd (k := 0) (i := 0) (E := 54) (sz := 2) (s := s) (vs := rep (mvE m) n) ⟨_, rfl, rfl⟩).1
    rw [rep_len, hvl] at this; omega
  have hcap : s.len ≤ s.cap := (h.rd (k := 0) (i := 0) (E := 54) (sz := 2) (s := s) (vs := rep (mvE m) n) ⟨_, rfl, rfl⟩).2.2
  have h := h.ord 2 [1, 0]
  refine recE h (by omega) (by omega) s m ?_
  intro qa0 qm0 w1 h
  have h := h.ord 2 [1, 0]
  refine LoopX.mk (fun st w' => ∃ (i : Nat) (d : Sl) (qa qm : Sl) (l : List Sl) (g : List Ent), st = (d, (i : Int), ()) ∧ i ≤ 40 ∧ d.len = n + i ∧ l.length ≤ i + 1 ∧ (∀ x ∈ l, x.len ≤ n + 40) ∧ (∀ x ∈ l, Cov 54 (mvE m) (.row 54 2 d (rep (mvE m) (n + i)) :: g) x) ∧
      St w0 w' ([.row 54 2 d (rep (mvE m) (n + i))] :: g :: kpE { k with E := k.E ++ l, eq := qa, N := k.N ++ List.replicate l.length m, em := qm } :: F)) (fun st => ((40 : Int) - st.2.1).toNat)
    ⟨0, s, qa0, qm0, [s], [], rfl, by omega, hsl, by simp, fun x hx => (by simp at hx; subst hx; omega), fun x hx => ?_, ?_⟩ ?_
  · simp at hx; subst hx
    exact ⟨hcap, .inr ⟨x, n, List.mem_cons_self .., rfl, by omega⟩⟩
  · exact h.perm (by simp [pick, nthO, dropO])
  clear h
  rintro _ w2 ⟨i, d, qa, qm, l, g, rfl, hi, hd, hll, hlx, hcov, h⟩ k2 hk2
  dsimp only at hk2 ⊢
  rw [SplitB_iff]
  refine ⟨fun hc => ?_, fun hc => ?_⟩
  · have hc : i < 40 := by have : (i : Int) < 40 := of_decide_eq_true hc; omega
    have hem : IntKind.i64.wrap ((i : Int) + 1) = ((i + 1 : Nat) : Int) := by rw [wr (by omega)]; omega
    rw [hem]
    refine JoinX.mk (fun (y : Sl × Unit) w' => ∃ (qa qm : Sl) (l : List Sl) (g : List Ent), y.1.len = n + (i + 1) ∧ l.length ≤ i + 2 ∧ (∀ x ∈ l, x.len ≤ n + 40) ∧ (∀ x ∈ l, Cov 54 (mvE m) (.row 54 2 y.1 (rep (mvE m) (n + (i + 1))) :: g) x) ∧
      St w0 w' ([.row 54 2 y.1 (rep (mvE m) (n + (i + 1)))] :: g :: kpE { k with E := k.E ++ l, eq := qa, N := k.N ++ List.replicate l.length m, em := qm } :: F)) ?_ ?_
    · rintro ⟨y, ⟨⟩⟩ w3 ⟨qa', qm', l', g', h1, h2, hx', h3, h⟩
      exact hk2 _ _ ⟨i + 1, y, qa', qm', l', g', rfl, by omega, h1, by omega, hx', h3, h⟩ (by dsimp only; omega)
    · intro k3 hk3
      refine h.newS 2 (bseE _ (mkE m)) rfl rfl rfl ?_
      intro u w3 hu1 hu2 _ h
      refine h.appKeep 1 0 ⟨_, rfl, rfl⟩ (h.rd (k := 0) (i := 0) ⟨_, rfl, rfl⟩) (epv_one _) (by simp only [maxLen]; omega) (by omega) ?_
      intro d' w4 hl' hd'
      have hlen : d'.len = n + (i + 1) := by omega
      have e1 : rep (mvE m) (n + (i + 1)) = rep (mvE m) (n + i) ++ mvE m := by rw [← Nat.add_assoc, rep_succ]
      have hstep : ∃ g', (∀ x ∈ l, Cov 54 (mvE m) (.row 54 2 d' (rep (mvE m) (n + (i + 1))) :: g') x) ∧ St w0 w4 ([.row 54 2 d' (rep (mvE m) (n + (i + 1)))] :: g' :: kpE { k with E := k.E ++ l, eq := qa, N := k.N ++ List.replicate l.length m, em := qm } :: F) := by
        rw [e1]
        rcases hd' with ⟨ha, hcp, h⟩ | h
        · refine ⟨g, fun x hx => (hcov x hx).mono fun t n' ht => ?_, h.drop 0⟩
          rcases List.mem_cons.1 ht with ht | ht
          · obtain ⟨_, _, rfl, heq⟩ := Ent.row.inj ht
            have hn' : n' = n + i := by
              have := congrArg List.length heq
              rw [rep_len, rep_len] at this
              exact Nat.eq_of_mul_eq_mul_right (by rw [hvl]; decide) this
            exact ⟨d', n + (i + 1), by rw [← e1]; exact List.mem_cons_self .., ha, by omega⟩
          · exact ⟨t, n', List.mem_cons_of_mem _ ht, rfl, Nat.le_refl _⟩
        · refine ⟨.row 54 2 d (rep (mvE m) (n + i)) :: g, fun x hx => (hcov x hx).sub fun e he => List.mem_cons_of_mem _ he, ?_⟩
          exact (h.drop 0).perm (by simp [updG, delO])
      obtain ⟨g', hcov', h⟩ := hstep
      have hcap' : d'.len ≤ d'.cap := (h.rd (k := 0) (i := 0) (E := 54) (sz := 2) (s := d') ⟨_, rfl, rfl⟩).2.2
      refine JoinX.mk (fun (y : Bool × Unit) w' => St w0 w' ([.row 54 2 d' (rep (mvE m) (n + (i + 1)))] :: g' :: kpE { k with E := k.E ++ l, eq := qa, N := k.N ++ List.replicate l.length m, em := qm } :: F)) ?_ ?_
      · rintro ⟨y, ⟨⟩⟩ w5 h
        rw [SplitB_iff]
        refine ⟨fun _ => ?_, fun _ => ?_⟩
        · have h := h.ord 3 [2, 0, 1]
          refine recE h (by simp; omega) (by simp; omega) d' m ?_
          intro qa' qm' w6 h
          have h := h.ord 3 [1, 2, 0]
          refine hk3 _ _ ⟨qa', qm', l ++ [d'], g', hlen, by simp; omega, fun x hx => (by rcases List.mem_append.1 hx with hx | hx; exact hlx x hx; simp at hx; subst hx; omega), fun x hx => ?_, ?_⟩
          · rcases List.mem_append.1 hx with hx | hx
            · exact hcov' x hx
            · simp at hx; subst hx
              exact ⟨hcap', .inr ⟨x, n + (i + 1), List.mem_cons_self .., rfl, by omega⟩⟩
          · have e2 : k.N ++ List.replicate (l ++ [d']).length m = (k.N ++ List.replicate l.length m) ++ [m] := by
              rw [List.length_append, List.length_cons, List.length_nil, List.replicate_succ', List.append_assoc]
            rw [e2, ← List.append_assoc]
            exact h
        · exact hk3 _ _ ⟨qa, qm, l, g', hlen, by omega, hlx, hcov', h⟩
      · intro k5 hk5
        rw [SplitB_iff]
        exact ⟨fun _ => hk5 _ _ h, fun _ => hk5 _ _ h⟩
  · have hc : i = 40 := by have : ¬ (i : Int) < 40 := of_decide_eq_false hc; omega
    subst hc
    exact ⟨qa, qm, l, .row 54 2 d (rep (mvE m) (n + 40)) :: g, hll, hlx, hcov, h.perm (by simp)⟩
/-- A list is written full of a mark. -/
theorem fillE {s : Sl} {l : List Ep} (h : St w0 w ([.row 54 2 s (eps l)] :: F)) (hl : l.length ≤ 1000000) (m : Int) :
    CallK Try.prog (.tup .nilT) 74 #[.slice s.a s.len s.cap, .int .i64 m] w fun (_ : Unit) w' => St w0 w' ([.row 54 2 s (rep (mvE m) l.length)] :: F) := by
  refine T74.calls ?_
  unfold T74
  have hsl : s.len = l.length := by
    have := (h.rd (k := 0) (i := 0) (E := 54) (sz := 2) (s := s) (vs := eps l) ⟨_, rfl, rfl⟩).1
    rw [flat_len epv_len] at this; omega
  refine LoopX.mk (fun st w' => ∃ (i : Nat), st = ((i : Int), ()) ∧ i ≤ l.length ∧ St w0 w' ([.row 54 2 s (eps (List.replicate i (mkE m) ++ l.drop i))] :: F)) (fun st => ((l.length : Int) - st.1).toNat) ⟨0, rfl, Nat.zero_le _, h⟩ ?_
  clear h
  rintro _ w1 ⟨i, rfl, hi, h⟩ k hk
  dsimp only at hk ⊢
  rw [SplitB_iff]
  refine ⟨fun hc => ?_, fun hc => ?_⟩
  · have hc : i < l.length := by have : (i : Int) < (s.len : Int) := of_decide_eq_true hc; omega
    have hem : IntKind.i64.wrap ((i : Int) + 1) = ((i + 1 : Nat) : Int) := by rw [wr (by omega)]; omega
    rw [hem]
    have hrd := h.rd (k := 0) (i := 0) (E := 54) (sz := 2) (s := s) ⟨_, rfl, rfl⟩
    have hil : (List.replicate i (mkE m) ++ l.drop i).length = l.length := by simp; omega
    refine hrd.idxK i rfl (by omega) ?_
    intro g o ha
    refine h.storRA 0 0 ⟨_, rfl, rfl⟩ ha (n := 2) (i * 2) rfl (ds := mvE m) (by rw [flat_len epv_len, hil]; omega) rfl (by decide) rfl ?_
    intro w2 h
    have e1 : List.replicate (i + 1) (mkE m) ++ l.drop (i + 1) = (List.replicate i (mkE m) ++ l.drop i).set i (mkE m) := by
      rw [List.set_append_right _ _ (by simp), List.length_replicate, Nat.sub_self, List.drop_eq_getElem_cons hc, List.set_cons_zero, List.replicate_succ', List.append_assoc]; rfl
    have e2 := flat_upd epv_len (List.replicate i (mkE m) ++ l.drop i) i (by omega) 0 (mvE m) (show 0 + 2 ≤ 2 by decide) (mkE m) (by rw [List.take_zero, List.nil_append, List.drop_of_length_le (by rw [epv_len, Nat.zero_add, epv_len]; exact Nat.le_refl _), List.append_nil])
    rw [Nat.add_zero, ← e1] at e2
    refine hk _ _ ⟨i + 1, rfl, by omega, ?_⟩ (by dsimp only; omega)
    rw [eps, ← e2]
    exact h
  · have hc : i = l.length := by have : ¬ (i : Int) < (s.len : Int) := of_decide_eq_false hc; omega
    subst hc
    rw [List.drop_length, List.append_nil] at h
    have e : eps (List.replicate l.length (mkE m)) = rep (mvE m) l.length := by
      rw [eps, rep, List.flatMap_def, List.map_replicate]
    rw [← e]; exact h
end Go.Proofs.Ytmfbmfppjdkeeaa
