/- Words and steps, part 8: What was answered is kept: acts. What was answered is kept: epochs. What was answered is kept: lists compared; all is as it was left. What was answered is kept: the lists that are left till the end. What was answered is kept: both ways of keeping. What was answered is kept: what was left till the end. A machine and the document's side by side: a call, what can be looked at. A machine and the document's side by side: a call is played. A script over two machines in turns. -/
import Derived.Test.YtmfbmfppjdkeeaaEgQ7
/- What was answered is kept: acts. -/
namespace Go.Proofs.Ytmfbmfppjdkeeaa
open Go Go.Fw Go.RowKit
set_option linter.unusedVariables false
set_option linter.unusedSimpArgs false
set_option maxRecDepth 4000
set_option maxHeartbeats 2000000
variable {w0 w : World} {F G : Grps}

theorem bslA (w : World) (s : Sl) : (Instr.buildSlice 49 1 #[(0, .slice s.a s.len s.cap)]).run Try.prog w = .ok (.slice (some ⟨w.heap.size, 0, none⟩) 1 1) (w.alloc (.cells ⟨[slv s]⟩ 66)) := by kernel_rfl
theorem bseA (w : World) (x : A6) : (Instr.buildSlice 66 1 #[(0, .agg ⟨acv x⟩)]).run Try.prog w = .ok (.slice (some ⟨w.heap.size, 0, none⟩) 1 1) (w.alloc (.cells ⟨acv x⟩ 70)) := by kernel_rfl
def mkA (m : Int) : A6 := (-9, m, 0, 0, 0, 0)
abbrev mvA (m : Int) : List Value := acv (mkA m)
theorem recA {k : Kp} (h : St w0 w (kpE k :: F)) (hl : k.A.length ≤ 1000000000) (hm : k.M.length ≤ 1000000000) (s : Sl) (m : Int) {K : World → Prop}
    (hk : ∀ qa qm w', St w0 w' (kpE { k with A := k.A ++ [s], aq := qa, M := k.M ++ [m], am := qm } :: F) → K w') :
    NilP k.p fun t10 =>
      RunN Try.prog .sl (V (Instr.loadAt 49 (.pointer (some (t10.add 1))))) w fun t12 w =>
      RunN Try.prog .sl (V (Instr.buildSlice 49 1 #[(0, .slice s.a s.len s.cap)])) w fun t14 w =>
      RunN Try.prog .sl (V (Builtin.append_ #[49, 49] 49 #[.slice t12.a t12.len t12.cap, .slice t14.a t14.len t14.cap])) w fun t15 w =>
      NilP k.p fun t16 =>
      RunU Try.prog (U (Instr.storeAt 49 (.pointer (some (t16.add 1))) (.slice t15.a t15.len t15.cap))) w fun w =>
      NilP k.p fun t20 =>
      RunN Try.prog .sl (V (Instr.loadAt 26 (.pointer (some (t20.add 3))))) w fun t22 w =>
      RunN Try.prog .sl (V (Instr.buildSlice 26 1 #[(0, .int .i64 m)])) w fun t24 w =>
      RunN Try.prog .sl (V (Builtin.append_ #[26, 26] 26 #[.slice t22.a t22.len t22.cap, .slice t24.a t24.len t24.cap])) w fun t25 w =>
      NilP k.p fun t26 =>
      RunU Try.prog (U (Instr.storeAt 26 (.pointer (some (t26.add 3))) (.slice t25.a t25.len t25.cap))) w K := by
  have hql : k.aq.len = k.A.length := by have := (h.rd (k := 0) (i := 1) (E := 66) (sz := 1) (s := k.aq) (vs := sls k.A) ⟨_, rfl, rfl⟩).1; simp [sls] at this; omega
  have hqm : k.am.len = k.M.length := by have := (h.rd (k := 0) (i := 3) (E := 3) (sz := 1) (s := k.am) (vs := lin k.M) ⟨_, rfl, rfl⟩).1; rw [lin_len] at this; omega
  refine NilP.mk ?_
  refine h.loadB 0 0 ⟨_, rfl, rfl⟩ rfl (kd := .sl) (x := k.aq) rfl ?_
  refine h.newS 1 (bslA _ s) rfl rfl rfl ?_
  intro u w1 hu1 _ _ h
  refine h.app 1 1 ⟨_, rfl, rfl⟩ (h.rd (k := 0) (i := 0) ⟨_, rfl, rfl⟩) (fun v hv => by simp at hv; subst hv; rfl) (by simp only [maxLen]; omega) (by omega) ?_
  intro qa w2 hla h
  have h := h.drop 0
  refine NilP.mk ?_
  refine h.storB 0 0 (j := 1) ⟨_, rfl, rfl⟩ rfl rfl rfl ?_
  intro w3 h
  have ea : sls (k.A ++ [s]) = sls k.A ++ [slv s] := by simp [sls]
  have h : St w0 w3 (kpE { k with A := k.A ++ [s], aq := qa } :: F) := by
    rw [kpE]
    simp only [ea]
    exact h
  refine NilP.mk ?_
  refine h.loadB 0 0 ⟨_, rfl, rfl⟩ rfl (kd := .sl) (x := k.am) rfl ?_
  refine h.newS 1 (bs26a _ m) rfl rfl rfl ?_
  intro u w4 hu1 _ _ h
  refine h.app 1 3 ⟨_, rfl, rfl⟩ (h.rd (k := 0) (i := 0) ⟨_, rfl, rfl⟩) (fun v hv => by simp [lin] at hv; subst hv; rfl) (by simp only [maxLen]; omega) (by dsimp only; omega) ?_
  intro qm w5 hla h
  have h := h.drop 0
  refine NilP.mk ?_
  refine h.storB 0 0 (j := 3) ⟨_, rfl, rfl⟩ rfl rfl rfl ?_
  intro w6 h
  refine hk qa qm w6 ?_
  have em : lin (k.M ++ [m]) = lin k.M ++ lin [m] := by simp [lin]
  rw [kpE]
  simp only [em]
  exact h
/-- A list, full of its mark, and what it becomes. -/
theorem holdA {k : Kp} {s : Sl} {m : Int} {n : Nat} (h : St w0 w ([.row 70 6 s (rep (mvA m) n)] :: kpE k :: F)) (hn : n ≤ 1000000) (hl : k.A.length ≤ 900000000) (hm : k.M.length ≤ 900000000) :
    CallK Try.prog (.tup .nilT) 70 #[.pointer k.p, .slice s.a s.len s.cap, .int .i64 m] w fun (_ : Unit) w' =>
      ∃ (qa qm : Sl) (l : List Sl) (g : List Ent), l.length ≤ 41 ∧ (∀ x ∈ l, x.len ≤ n + 40) ∧ (∀ x ∈ l, Cov 70 (mvA m) g x) ∧ St w0 w' (g :: kpE { k with A := k.A ++ l, aq := qa, M := k.M ++ List.replicate l.length m, am := qm } :: F) := by
  refine T70.calls ?_
  unfold T70
  have hvl : (mvA m).length = 6 := rfl
  have hsl : s.len = n := by
    have := (h.rd (k := 0) (i := 0) (E := 70) (sz := 6) (s := s) (vs := rep (mvA m) n) ⟨_, rfl, rfl⟩).1
    rw [rep_len, hvl] at this; omega
  have hcap : s.len ≤ s.cap := (h.rd (k := 0) (i := 0) (E := 70) (sz := 6) (s := s) (vs := rep (mvA m) n) ⟨_, rfl, rfl⟩).2.2
  have h := h.ord 2 [1, 0]
  refine recA h (by omega) (by omega) s m ?_
  intro qa0 qm0 w1 h
  have h := h.ord 2 [1, 0]
  refine LoopX.mk (fun st w' => ∃ (i : Nat) (d : Sl) (qa qm : Sl) (l : List Sl) (g : List Ent), st = (d, (i : Int), ()) ∧ i ≤ 40 ∧ d.len = n + i ∧ l.length ≤ i + 1 ∧ (∀ x ∈ l, x.len ≤ n + 40) ∧ (∀ x ∈ l, Cov 70 (mvA m) (.row 70 6 d (rep (mvA m) (n + i)) :: g) x) ∧
      St w0 w' ([.row 70 6 d (rep (mvA m) (n + i))] :: g :: kpE { k with A := k.A ++ l, aq := qa, M := k.M ++ List.replicate l.length m, am := qm } :: F)) (fun st => ((40 : Int) - st.2.1).toNat)
    ⟨0, s, qa0, qm0, [s], [], rfl, by omega, hsl, by simp, fun x hx => (by simp at hx; subst hx; omega), fun x hx => ?_, ?_⟩ ?_
  · simp at hx; subst hx
    exact ⟨hcap, .inr ⟨x, n, List.mem_cons_self .., rfl, by omega⟩⟩
  · exact h.perm (by simp [pick, nthO, dropO])
  clear h
  rintro _ w2 ⟨i, d, qa, qm, l, g, rfl, hi, hd, hll, hlx, hcov, h⟩ k2 hk2
  dsimp only at hk2 ⊢
  rw [SplitB_iff]
  refine ⟨fun hc => ?_, fun hc => ?_⟩
  · have hc : i < 40 := by have : (i : Int) < 40 := of_decide_eq_true hc; omega
    have hem : IntKind.i64.wrap ((i : Int) + 1) = ((i + 1 : Nat) : Int) := by rw [wr (by omega)]; omega
    rw [hem]
    refine JoinX.mk (fun (y : Sl × Unit) w' => ∃ (qa qm : Sl) (l : List Sl) (g : List Ent), y.1.len = n + (i + 1) ∧ l.length ≤ i + 2 ∧ (∀ x ∈ l, x.len ≤ n + 40) ∧ (∀ x ∈ l, Cov 70 (mvA m) (.row 70 6 y.1 (rep (mvA m) (n + (i + 1))) :: g) x) ∧
      St w0 w' ([.row 70 6 y.1 (rep (mvA m) (n + (i + 1)))] :: g :: kpE { k with A := k.A ++ l, aq := qa, M := k.M ++ List.replicate l.length m, am := qm } :: F)) ?_ ?_
    · rintro ⟨y, ⟨⟩⟩ w3 ⟨qa', qm', l', g', h1, h2, hx', h3, h⟩
      exact hk2 _ _ ⟨i + 1, y, qa', qm', l', g', rfl, by omega, h1, by omega, hx', h3, h⟩ (by dsimp only; omega)
    · intro k3 hk3
      refine h.newS 6 (bseA _ (mkA m)) rfl rfl rfl ?_
      intro u w3 hu1 hu2 _ h
      refine h.appKeep 1 0 ⟨_, rfl, rfl⟩ (h.rd (k := 0) (i := 0) ⟨_, rfl, rfl⟩) (acv_one _) (by simp only [maxLen]; omega) (by omega) ?_
      intro d' w4 hl' hd'
      have hlen : d'.len = n + (i + 1) := by omega
      have e1 : rep (mvA m) (n + (i + 1)) = rep (mvA m) (n + i) ++ mvA m := by rw [← Nat.add_assoc, rep_succ]
      have hstep : ∃ g', (∀ x ∈ l, Cov 70 (mvA m) (.row 70 6 d' (rep (mvA m) (n + (i + 1))) :: g') x) ∧ St w0 w4 ([.row 70 6 d' (rep (mvA m) (n + (i + 1)))] :: g' :: kpE { k with A := k.A ++ l, aq := qa, M := k.M ++ List.replicate l.length m, am := qm } :: F) := by
        rw [e1]
        rcases hd' with ⟨ha, hcp, h⟩ | h
        · refine ⟨g, fun x hx => (hcov x hx).mono fun t n' ht => ?_, h.drop 0⟩
          rcases List.mem_cons.1 ht with ht | ht
          · obtain ⟨_, _, rfl, heq⟩ := Ent.row.inj ht
            have hn' : n' = n + i := by
              have := congrArg List.length heq
              rw [rep_len, rep_len] at this
              exact Nat.eq_of_mul_eq_mul_right (by rw [hvl]; decide) this
            exact ⟨d', n + (i + 1), by rw [← e1]; exact List.mem_cons_self .., ha, by omega⟩
          · exact ⟨t, n', List.mem_cons_of_mem _ ht, rfl, Nat.le_refl _⟩
        · refine ⟨.row 70 6 d (rep (mvA m) (n + i)) :: g, fun x hx => (hcov x hx).sub fun e he => List.mem_cons_of_mem _ he, ?_⟩
          exact (h.drop 0).perm (by simp [updG, delO])
      obtain ⟨g', hcov', h⟩ := hstep
      have hcap' : d'.len ≤ d'.cap := (h.rd (k := 0) (i := 0) (E := 70) (sz := 6) (s := d') ⟨_, rfl, rfl⟩).2.2
      refine JoinX.mk (fun (y : Bool × Unit) w' => St w0 w' ([.row 70 6 d' (rep (mvA m) (n + (i + 1)))] :: g' :: kpE { k with A := k.A ++ l, aq := qa, M := k.M ++ List.replicate l.length m, am := qm } :: F)) ?_ ?_
      · rintro ⟨y, ⟨⟩⟩ w5 h
        rw [SplitB_iff]
        refine ⟨fun _ => ?_, fun _ => ?_⟩
        · have h := h.ord 3 [2, 0, 1]
          refine recA h (by simp; omega) (by simp; omega) d' m ?_
          intro qa' qm' w6 h
          have h := h.ord 3 [1, 2, 0]
          refine hk3 _ _ ⟨qa', qm', l ++ [d'], g', hlen, by simp; omega, fun x hx => (by rcases List.mem_append.1 hx with hx | hx; exact hlx x hx; simp at hx; subst hx; omega), fun x hx => ?_, ?_⟩
          · rcases List.mem_append.1 hx with hx | hx
            · exact hcov' x hx
            · simp at hx; subst hx
              exact ⟨hcap', .inr ⟨x, n + (i + 1), List.mem_cons_self .., rfl, by omega⟩⟩
          · have e2 : k.M ++ List.replicate (l ++ [d']).length m = (k.M ++ List.replicate l.length m) ++ [m] := by
              rw [List.length_append, List.length_cons, List.length_nil, List.replicate_succ', List.append_assoc]
            rw [e2, ← List.append_assoc]
            exact h
        · exact hk3 _ _ ⟨qa, qm, l, g', hlen, by omega, hlx, hcov', h⟩
      · intro k5 hk5
        rw [SplitB_iff]
        exact ⟨fun _ => hk5 _ _ h, fun _ => hk5 _ _ h⟩
  · have hc : i = 40 := by have : ¬ (i : Int) < 40 := of_decide_eq_false hc; omega
    subst hc
    exact ⟨qa, qm, l, .row 70 6 d (rep (mvA m) (n + 40)) :: g, hll, hlx, hcov, h.perm (by simp)⟩
/-- A list is written full of a mark. -/
theorem fillA {s : Sl} {l : List A6} (h : St w0 w ([.row 70 6 s (acs l)] :: F)) (hl : l.length ≤ 1000000) (m : Int) :
    CallK Try.prog (.tup .nilT) 69 #[.slice s.a s.len s.cap, .int .i64 m] w fun (_ : Unit) w' => St w0 w' ([.row 70 6 s (rep (mvA m) l.length)] :: F) := by
  refine T69.calls ?_
  unfold T69
  have hsl : s.len = l.length := by
    have := (h.rd (k := 0) (i := 0) (E := 70) (sz := 6) (s := s) (vs := acs l) ⟨_, rfl, rfl⟩).1
    rw [flat_len acv_len] at this; omega
  refine LoopX.mk (fun st w' => ∃ (i : Nat), st = ((i : Int), ()) ∧ i ≤ l.length ∧ St w0 w' ([.row 70 6 s (acs (List.replicate i (mkA m) ++ l.drop i))] :: F)) (fun st => ((l.length : Int) - st.1).toNat) ⟨0, rfl, Nat.zero_le _, h⟩ ?_
  clear h
  rintro _ w1 ⟨i, rfl, hi, h⟩ k hk
  dsimp only at hk ⊢
  rw [SplitB_iff]
  refine ⟨fun hc => ?_, fun hc => ?_⟩
  · have hc : i < l.length := by have : (i : Int) < (s.len : Int) := of_decide_eq_true hc; omega
    have hem : IntKind.i64.wrap ((i : Int) + 1) = ((i + 1 : Nat) : Int) := by rw [wr (by omega)]; omega
    rw [hem]
    have hrd := h.rd (k := 0) (i := 0) (E := 70) (sz := 6) (s := s) ⟨_, rfl, rfl⟩
    have hil : (List.replicate i (mkA m) ++ l.drop i).length = l.length := by simp; omega
    refine hrd.idxK i rfl (by omega) ?_
    intro g o ha
    refine h.storRA 0 0 ⟨_, rfl, rfl⟩ ha (n := 6) (i * 6) rfl (ds := mvA m) (by rw [flat_len acv_len, hil]; omega) rfl (by decide) rfl ?_
    intro w2 h
    have e1 : List.replicate (i + 1) (mkA m) ++ l.drop (i + 1) = (List.replicate i (mkA m) ++ l.drop i).set i (mkA m) := by
      rw [List.set_append_right _ _ (by simp), List.length_replicate, Nat.sub_self, List.drop_eq_getElem_cons hc, List.set_cons_zero, List.replicate_succ', List.append_assoc]; rfl
    have e2 := flat_upd acv_len (List.replicate i (mkA m) ++ l.drop i) i (by omega) 0 (mvA m) (show 0 + 6 ≤ 6 by decide) (mkA m) (by rw [List.take_zero, List.nil_append, List.drop_of_length_le (by rw [acv_len, Nat.zero_add, acv_len]; exact Nat.le_refl _), List.append_nil])
    rw [Nat.add_zero, ← e1] at e2
    refine hk _ _ ⟨i + 1, rfl, by omega, ?_⟩ (by dsimp only; omega)
    rw [acs, ← e2]
    exact h
  · have hc : i = l.length := by have : ¬ (i : Int) < (s.len : Int) := of_decide_eq_false hc; omega
    subst hc
    rw [List.drop_length, List.append_nil] at h
    have e : acs (List.replicate l.length (mkA m)) = rep (mvA m) l.length := by
      rw [acs, rep, List.flatMap_def, List.map_replicate]
    rw [← e]; exact h
end Go.Proofs.Ytmfbmfppjdkeeaa

/- What was answered is kept: epochs. -/
namespace Go.Proofs.Ytmfbmfppjdkeeaa
open Go Go.Fw Go.RowKit
set_option linter.unusedVariables false
set_option linter.unusedSimpArgs false
set_option maxRecDepth 4000
set_option maxHeartbeats 2000000
variable {w0 w : World} {F G : Grps}

theorem bslE (w : World) (s : Sl) : (Instr.buildSlice 50 1 #[(0, .slice s.a s.len s.cap)]).run Try.prog w = .ok (.slice (some ⟨w.heap.size, 0, none⟩) 1 1) (w.alloc (.cells ⟨[slv s]⟩ 78)) := by kernel_rfl
theorem bseE (w : World) (x : Ep) : (Instr.buildSlice 78 1 #[(0, .agg ⟨epv x⟩)]).run Try.prog w = .ok (.slice (some ⟨w.heap.size, 0, none⟩) 1 1) (w.alloc (.cells ⟨epv x⟩ 54)) := by kernel_rfl
def mkE (m : Int) : Ep := (-9, m)
abbrev mvE (m : Int) : List Value := epv (mkE m)
theorem recE {k : Kp} (h : St w0 w (kpE k :: F)) (hl : k.E.length ≤ 1000000000) (hm : k.N.length ≤ 1000000000) (s : Sl) (m : Int) {K : World → Prop}
    (hk : ∀ qa qm w', St w0 w' (kpE { k with E := k.E ++ [s], eq := qa, N := k.N ++ [m], em := qm } :: F) → K w') :
    NilP k.p fun t10 =>
      RunN Try.prog .sl (V (Instr.loadAt 50 (.pointer (some (t10.add 4))))) w fun t12 w =>
      RunN Try.prog .sl (V (Instr.buildSlice 50 1 #[(0, .slice s.a s.len s.cap)])) w fun t14 w =>
      RunN Try.prog .sl (V (Builtin.append_ #[50, 50] 50 #[.slice t12.a t12.len t12.cap, .slice t14.a t14.len t14.cap])) w fun t15 w =>
      NilP k.p fun t16 =>
      RunU Try.prog (U (Instr.storeAt 50 (.pointer (some (t16.add 4))) (.slice t15.a t15.len t15.cap))) w fun w =>
      NilP k.p fun t20 =>
      RunN Try.prog .sl (V (Instr.loadAt 26 (.pointer (some (t20.add 6))))) w fun t22 w =>
      RunN Try.prog .sl (V (Instr.buildSlice 26 1 #[(0, .int .i64 m)])) w fun t24 w =>
      RunN Try.prog .sl (V (Builtin.append_ #[26, 26] 26 #[.slice t22.a t22.len t22.cap, .slice t24.a t24.len t24.cap])) w fun t25 w =>
      NilP k.p fun t26 =>
      RunU Try.prog (U (Instr.storeAt 26 (.pointer (some (t26.add 6))) (.slice t25.a t25.len t25.cap))) w K := by
  have hql : k.eq.len = k.E.length := by have := (h.rd (k := 0) (i := 4) (E := 78) (sz := 1) (s := k.eq) (vs := sls k.E) ⟨_, rfl, rfl⟩).1; simp [sls] at this; omega
  have hqm : k.em.len = k.N.length := by have := (h.rd (k := 0) (i := 6) (E := 3) (sz := 1) (s := k.em) (vs := lin k.N) ⟨_, rfl, rfl⟩).1; rw [lin_len] at this; omega
  refine NilP.mk ?_
  refine h.loadB 0 0 ⟨_, rfl, rfl⟩ rfl (kd := .sl) (x := k.eq) rfl ?_
  refine h.newS 1 (bslE _ s) rfl rfl rfl ?_
  intro u w1 hu1 _ _ h
  refine h.app 1 4 ⟨_, rfl, rfl⟩ (h.rd (k := 0) (i := 0) ⟨_, rfl, rfl⟩) (fun v hv => by simp at hv; subst hv; rfl) (by simp only [maxLen]; omega) (by omega) ?_
  intro qa w2 hla h
  have h := h.drop 0
  refine NilP.mk ?_
  refine h.storB 0 0 (j := 4) ⟨_, rfl, rfl⟩ rfl rfl rfl ?_
  intro w3 h
  have ea : sls (k.E ++ [s]) = sls k.E ++ [slv s] := by simp [sls]
  have h : St w0 w3 (kpE { k with E := k.E ++ [s], eq := qa } :: F) := by
    rw [kpE]
    simp only [ea]
    exact h
  refine NilP.mk ?_
  refine h.loadB 0 0 ⟨_, rfl, rfl⟩ rfl (kd := .sl) (x := k.em) rfl ?_
  refine h.newS 1 (bs26a _ m) rfl rfl rfl ?_
  intro u w4 hu1 _ _ h
  refine h.app 1 6 ⟨_, rfl, rfl⟩ (h.rd (k := 0) (i := 0) ⟨_, rfl, rfl⟩) (fun v hv => by simp [lin] at hv; subst hv; rfl) (by simp only [maxLen]; omega) (by dsimp only; omega) ?_
  intro qm w5 hla h
  have h := h.drop 0
  refine NilP.mk ?_
  refine h.storB 0 0 (j := 6) ⟨_, rfl, rfl⟩ rfl rfl rfl ?_
  intro w6 h
  refine hk qa qm w6 ?_
  have em : lin (k.N ++ [m]) = lin k.N ++ lin [m] := by simp [lin]
  rw [kpE]
  simp only [em]
  exact h
/-- A list, full of its mark, and what it becomes. -/
theorem holdE {k : Kp} {s : Sl} {m : Int} {n : Nat} (h : St w0 w ([.row 54 2 s (rep (mvE m) n)] :: kpE k :: F)) (hn : n ≤ 1000000) (hl : k.E.length ≤ 900000000) (hm : k.N.length ≤ 900000000) :
    CallK Try.prog (.tup .nilT) 75 #[.pointer k.p, .slice s.a s.len s.cap, .int .i64 m] w fun (_ : Unit) w' =>
      ∃ (qa qm : Sl) (l : List Sl) (g : List Ent), l.length ≤ 41 ∧ (∀ x ∈ l, x.len ≤ n + 40) ∧ (∀ x ∈ l, Cov 54 (mvE m) g x) ∧ St w0 w' (g :: kpE { k with E := k.E ++ l, eq := qa, N := k.N ++ List.replicate l.length m, em := qm } :: F) := by
  refine T75.calls ?_
  unfold T75
  have hvl : (mvE m).length = 2 := rfl
  have hsl : s.len = n := by
    have := (h.rd (k := 0) (i := 0) (E := 54) (sz := 2) (s := s) (vs := rep (mvE m) n) ⟨_, rfl, rfl⟩).1
    rw [rep_len, hvl] at this; omega
  have hcap : s.len ≤ s.cap := (h.rd (k := 0) (i := 0) (E := 54) (sz := 2) (s := s) (vs := rep (mvE m) n) ⟨_, rfl, rfl⟩).2.2
  have h := h.ord 2 [1, 0]
  refine recE h (by omega) (by omega) s m ?_
  intro qa0 qm0 w1 h
  have h := h.ord 2 [1, 0]
  refine LoopX.mk (fun st w' => ∃ (i : Nat) (d : Sl) (qa qm : Sl) (l : List Sl) (g : List Ent), st = (d, (i : Int), ()) ∧ i ≤ 40 ∧ d.len = n + i ∧ l.length ≤ i + 1 ∧ (∀ x ∈ l, x.len ≤ n + 40) ∧ (∀ x ∈ l, Cov 54 (mvE m) (.row 54 2 d (rep (mvE m) (n + i)) :: g) x) ∧
      St w0 w' ([.row 54 2 d (rep (mvE m) (n + i))] :: g :: kpE { k with E := k.E ++ l, eq := qa, N := k.N ++ List.replicate l.length m, em := qm } :: F)) (fun st => ((40 : Int) - st.2.1).toNat)
    ⟨0, s, qa0, qm0, [s], [], rfl, by omega, hsl, by simp, fun x hx => (by simp at hx; subst hx; omega), fun x hx => ?_, ?_⟩ ?_
  · simp at hx; subst hx
    exact ⟨hcap, .inr ⟨x, n, List.mem_cons_self .., rfl, by omega⟩⟩
  · exact h.perm (by simp [pick, nthO, dropO])
  clear h
  rintro _ w2 ⟨i, d, qa, qm, l, g, rfl, hi, hd, hll, hlx, hcov, h⟩ k2 hk2
  dsimp only at hk2 ⊢
  rw [SplitB_iff]
  refine ⟨fun hc => ?_, fun hc => ?_⟩
  · have hc : i < 40 := by have : (i : Int) < 40 := of_decide_eq_true hc; omega
    have hem : IntKind.i64.wrap ((i : Int) + 1) = ((i + 1 : Nat) : Int) := by rw [wr (by omega)]; omega
    rw [hem]
    refine JoinX.mk (fun (y : Sl × Unit) w' => ∃ (qa qm : Sl) (l : List Sl) (g : List Ent), y.1.len = n + (i + 1) ∧ l.length ≤ i + 2 ∧ (∀ x ∈ l, x.len ≤ n + 40) ∧ (∀ x ∈ l, Cov 54 (mvE m) (.row 54 2 y.1 (rep (mvE m) (n + (i + 1))) :: g) x) ∧
      St w0 w' ([.row 54 2 y.1 (rep (mvE m) (n + (i + 1)))] :: g :: kpE { k with E := k.E ++ l, eq := qa, N := k.N ++ List.replicate l.length m, em := qm } :: F)) ?_ ?_
    · rintro ⟨y, ⟨⟩⟩ w3 ⟨qa', qm', l', g', h1, h2, hx', h3, h⟩
      exact hk2 _ _ ⟨i + 1, y, qa', qm', l', g', rfl, by omega, h1, by omega, hx', h3, h⟩ (by dsimp only; omega)
    · intro k3 hk3
      refine h.newS 2 (bseE _ (mkE m)) rfl rfl rfl ?_
      intro u w3 hu1 hu2 _ h
      refine h.appKeep 1 0 ⟨_, rfl, rfl⟩ (h.rd (k := 0) (i := 0) ⟨_, rfl, rfl⟩) (epv_one _) (by simp only [maxLen]; omega) (by omega) ?_
      intro d' w4 hl' hd'
      have hlen : d'.len = n + (i + 1) := by omega
      have e1 : rep (mvE m) (n + (i + 1)) = rep (mvE m) (n + i) ++ mvE m := by rw [← Nat.add_assoc, rep_succ]
      have hstep : ∃ g', (∀ x ∈ l, Cov 54 (mvE m) (.row 54 2 d' (rep (mvE m) (n + (i + 1))) :: g') x) ∧ St w0 w4 ([.row 54 2 d' (rep (mvE m) (n + (i + 1)))] :: g' :: kpE { k with E := k.E ++ l, eq := qa, N := k.N ++ List.replicate l.length m, em := qm } :: F) := by
        rw [e1]
        rcases hd' with ⟨ha, hcp, h⟩ | h
        · refine ⟨g, fun x hx => (hcov x hx).mono fun t n' ht => ?_, h.drop 0⟩
          rcases List.mem_cons.1 ht with ht | ht
          · obtain ⟨_, _, rfl, heq⟩ := Ent.row.inj ht
            have hn' : n' = n + i := by
              have := congrArg List.length heq
              rw [rep_len, rep_len] at this
              exact Nat.eq_of_mul_eq_mul_right (by rw [hvl]; decide) this
            exact ⟨d', n + (i + 1), by rw [← e1]; exact List.mem_cons_self .., ha, by omega⟩
          · exact ⟨t, n', List.mem_cons_of_mem _ ht, rfl, Nat.le_refl _⟩
        · refine ⟨.row 54 2 d (rep (mvE m) (n + i)) :: g, fun x hx => (hcov x hx).sub fun e he => List.mem_cons_of_mem _ he, ?_⟩
          exact (h.drop 0).perm (by simp [updG, delO])
      obtain ⟨g', hcov', h⟩ := hstep
      have hcap' : d'.len ≤ d'.cap := (h.rd (k := 0) (i := 0) (E := 54) (sz := 2) (s := d') ⟨_, rfl, rfl⟩).2.2
      refine JoinX.mk (fun (y : Bool × Unit) w' => St w0 w' ([.row 54 2 d' (rep (mvE m) (n + (i + 1)))] :: g' :: kpE { k with E := k.E ++ l, eq := qa, N := k.N ++ List.replicate l.length m, em := qm } :: F)) ?_ ?_
      · rintro ⟨y, ⟨⟩⟩ w5 h
        rw [SplitB_iff]
        refine ⟨fun _ => ?_, fun _ => ?_⟩
        · have h := h.ord 3 [2, 0, 1]
          refine recE h (by simp; omega) (by simp; omega) d' m ?_
          intro qa' qm' w6 h
          have h := h.ord 3 [1, 2, 0]
          refine hk3 _ _ ⟨qa', qm', l ++ [d'], g', hlen, by simp; omega, fun x hx => (by rcases List.mem_append.1 hx with hx | hx; exact hlx x hx; simp at hx; subst hx; omega), fun x hx => ?_, ?_⟩
          · rcases List.mem_append.1 hx with hx | hx
            · exact hcov' x hx
            · simp at hx; subst hx
              exact ⟨hcap', .inr ⟨x, n + (i + 1), List.mem_cons_self .., rfl, by omega⟩⟩
          · have e2 : k.N ++ List.replicate (l ++ [d']).length m = (k.N ++ List.replicate l.length m) ++ [m] := by
              rw [List.length_append, List.length_cons, List.length_nil, List.replicate_succ', List.append_assoc]
            rw [e2, ← List.append_assoc]
            exact h
        · exact hk3 _ _ ⟨qa, qm, l, g', hlen, by omega, hlx, hcov', h⟩
      · intro k5 hk5
        rw [SplitB_iff]
        exact ⟨fun _ => hk5 _ _ h, fun _ => hk5 _ _ h⟩
  · have hc : i = 40 := by have : ¬ (i : Int) < 40 := of_decide_eq_false hc; omega
    subst hc
    exact ⟨qa, qm, l, .row 54 2 d (rep (mvE m) (n + 40)) :: g, hll, hlx, hcov, h.perm (by simp)⟩
/-- A list is written full of a mark. -/
theorem fillE {s : Sl} {l : List Ep} (h : St w0 w ([.row 54 2 s (eps l)] :: F)) (hl : l.length ≤ 1000000) (m : Int) :
    CallK Try.prog (.tup .nilT) 74 #[.slice s.a s.len s.cap, .int .i64 m] w fun (_ : Unit) w' => St w0 w' ([.row 54 2 s (rep (mvE m) l.length)] :: F) := by
  refine T74.calls ?_
  unfold T74
  have hsl : s.len = l.length := by
    have := (h.rd (k := 0) (i := 0) (E := 54) (sz := 2) (s := s) (vs := eps l) ⟨_, rfl, rfl⟩).1
    rw [flat_len epv_len] at this; omega
  refine LoopX.mk (fun st w' => ∃ (i : Nat), st = ((i : Int), ()) ∧ i ≤ l.length ∧ St w0 w' ([.row 54 2 s (eps (List.replicate i (mkE m) ++ l.drop i))] :: F)) (fun st => ((l.length : Int) - st.1).toNat) ⟨0, rfl, Nat.zero_le _, h⟩ ?_
  clear h
  rintro _ w1 ⟨i, rfl, hi, h⟩ k hk
  dsimp only at hk ⊢
  rw [SplitB_iff]
  refine ⟨fun hc => ?_, fun hc => ?_⟩
  · have hc : i < l.length := by have : (i : Int) < (s.len : Int) := of_decide_eq_true hc; omega
    have hem : IntKind.i64.wrap ((i : Int) + 1) = ((i + 1 : Nat) : Int) := by rw [wr (by omega)]; omega
    rw [hem]
    have hrd := h.rd (k := 0) (i := 0) (E := 54) (sz := 2) (s := s) ⟨_, rfl, rfl⟩
    have hil : (List.replicate i (mkE m) ++ l.drop i).length = l.length := by simp; omega
    refine hrd.idxK i rfl (by omega) ?_
    intro g o ha
    refine h.storRA 0 0 ⟨_, rfl, rfl⟩ ha (n := 2) (i * 2) rfl (ds := mvE m) (by rw [flat_len epv_len, hil]; omega) rfl (by decide) rfl ?_
    intro w2 h
    have e1 : List.replicate (i + 1) (mkE m) ++ l.drop (i + 1) = (List.replicate i (mkE m) ++ l.drop i).set i (mkE m) := by
      rw [List.set_append_right _ _ (by simp), List.length_replicate, Nat.sub_self, List.drop_eq_getElem_cons hc, List.set_cons_zero, List.replicate_succ', List.append_assoc]; rfl
    have e2 := flat_upd epv_len (List.replicate i (mkE m) ++ l.drop i) i (by omega) 0 (mvE m) (show 0 + 2 ≤ 2 by decide) (mkE m) (by rw [List.take_zero, List.nil_append, List.drop_of_length_le (by rw [epv_len, Nat.zero_add, epv_len]; exact Nat.le_refl _), List.append_nil])
    rw [Nat.add_zero, ← e1] at e2
    refine hk _ _ ⟨i + 1, rfl, by omega, ?_⟩ (by dsimp only; omega)
    rw [eps, ← e2]
    exact h
  · have hc : i = l.length := by have : ¬ (i : Int) < (s.len : Int) := of_decide_eq_false hc; omega
    subst hc
    rw [List.drop_length, List.append_nil] at h
    have e : eps (List.replicate l.length (mkE m)) = rep (mvE m) l.length := by
      rw [eps, rep, List.flatMap_def, List.map_replicate]
    rw [← e]; exact h
end Go.Proofs.Ytmfbmfppjdkeeaa

/- What was answered is kept: lists compared; all is as it was left. -/
namespace Go.Proofs.Ytmfbmfppjdkeeaa
open Go Go.Fw Go.RowKit
set_option linter.unusedVariables false
set_option linter.unusedSimpArgs false
set_option maxRecDepth 4000
set_option maxHeartbeats 2000000
variable {w0 w : World} {F G : Grps}

theorem repAt (v : List Value) {j n : Nat} (h : j < n) : ((rep v n).drop (j * v.length)).take v.length = v := by
  have e : rep v n = rep v j ++ (v ++ rep v (n - (j + 1))) := by
    have h1 : rep v (n - (j + 1) + 1) = v ++ rep v (n - (j + 1)) := by rw [rep, List.replicate_succ, List.flatten_cons, rep]
    rw [← h1, rep, rep, rep, ← List.flatten_append, List.replicate_append_replicate]
    congr 2; omega
  rw [e, List.drop_append_of_le_length (by rw [rep_len]; exact Nat.le_refl _), List.drop_of_length_le (by rw [rep_len]; exact Nat.le_refl _), List.nil_append, List.take_append_of_le_length (Nat.le_refl _), List.take_of_length_le (Nat.le_refl _)]
theorem sls_ix {l : List Sl} {i : Nat} (h : i < l.length) : (sls l)[i * 1]? = some (slv l[i]) := by
  rw [Nat.mul_one, sls, List.getElem?_map, List.getElem?_eq_getElem h]; rfl
theorem lin_ix' {l : List Int} {i : Nat} (h : i < l.length) : (lin l)[i * 1]? = some (.int .i64 l[i]) := by
  rw [Nat.mul_one, lin, List.getElem?_map, List.getElem?_eq_getElem h]; rfl
theorem acts_eq (a b : A6) : (!(eq6 a.1 a.2.1 a.2.2.1 a.2.2.2.1 a.2.2.2.2.1 a.2.2.2.2.2 b.1 b.2.1 b.2.2.1 b.2.2.2.1 b.2.2.2.2.1 b.2.2.2.2.2)) = decide (a ≠ b) := by
  by_cases h : a = b
  · subst h; simp [eq6]
  · rw [decide_eq_true h]
    cases hc : eq6 a.1 a.2.1 a.2.2.1 a.2.2.2.1 a.2.2.2.2.1 a.2.2.2.2.2 b.1 b.2.1 b.2.2.1 b.2.2.2.1 b.2.2.2.2.1 b.2.2.2.2.2 with
    | false => rfl
    | true =>
      exfalso
      simp [eq6] at hc
      obtain ⟨h1, h2, ⟨h3, h4⟩, h5, h6⟩ := hc
      exact h (Prod.ext h1 (Prod.ext h2 (Prod.ext h3 (Prod.ext h4 (Prod.ext h5 h6)))))
/-- The program's acts and the document's. -/
theorem same_st {s t : Sl} {a b : List A6} (hs : Rd w s 6 (acs a)) (ht : Rd w t 6 (acs b)) (hb : a.length ≤ 1000000) : CallK Try.prog .bool 41 #[.slice s.a s.len s.cap, .slice t.a t.len t.cap] w fun (v : Bool) w' => v = decide (a = b) ∧ Upd w w' nobody := by
  have hsl : s.len = a.length := by have := hs.1; rw [flat_len acv_len] at this; omega
  have htl : t.len = b.length := by have := ht.1; rw [flat_len acv_len] at this; omega
  refine T41.calls ?_
  unfold T41
  rw [SplitB_iff]
  refine ⟨fun h0 => ?_, fun h0 => ?_⟩
  · refine ⟨?_, Upd.refl _ _⟩
    rw [decide_eq_false]
    rintro rfl
    rw [hsl, htl] at h0; simp at h0
  have hl : a.length = b.length := by
    have : (s.len : Int) = (t.len : Int) := by simpa using h0
    omega
  refine LoopX.mk (fun st w' => ∃ (i : Nat), st = ((i : Int), ()) ∧ i ≤ a.length ∧ a.take i = b.take i ∧ Upd w w' nobody) (fun st => ((a.length : Int) - st.1).toNat) ⟨0, rfl, Nat.zero_le _, rfl, Upd.refl _ _⟩ ?_
  rintro _ w1 ⟨i, rfl, hi, heq, hu⟩ k hk
  dsimp only at hk ⊢
  rw [SplitB_iff]
  refine ⟨fun hc => ?_, fun hc => ?_⟩
  · have hc : i < a.length := by have : (i : Int) < (s.len : Int) := of_decide_eq_true hc; omega
    have hc2 : i < b.length := by omega
    have hem : IntKind.i64.wrap ((i : Int) + 1) = ((i + 1 : Nat) : Int) := by rw [wr (by omega)]; omega
    rw [hem]
    have hud := hu.trans (Upd.drew w1 nobody)
    have hs1 : Rd w1.drew s 6 (acs a) := hs.upd hud fun _ _ h => h
    have ht1 : Rd w1.drew t 6 (acs b) := ht.upd hud fun _ _ h => h
    refine JoinX.mk (fun (y : Bool × Unit) w' => y.1 = decide (a[i] ≠ b[i]) ∧ Upd w w' nobody) ?_ ?_
    · rintro ⟨y, ⟨⟩⟩ w2 ⟨hy, hu⟩
      dsimp only at hy
      subst hy
      rw [SplitB_iff]
      refine ⟨fun hd => ?_, fun hd => ?_⟩
      · have hd := of_decide_eq_true hd
        refine ⟨?_, hu⟩
        rw [decide_eq_false]
        rintro rfl
        exact hd rfl
      · have hd : a[i] = b[i] := by simpa using hd
        exact hk _ _ ⟨i + 1, rfl, by omega, by rw [List.take_succ_eq_append_getElem hc, List.take_succ_eq_append_getElem hc2, heq, hd], hu⟩ (by dsimp only; omega)
    · intro k3 hk3
      have no : ∀ {p : Bool}, (a[i] ≠ b[i]) → p = true → k3 (p, ()) w1.drew := fun h hp => hk3 _ _ ⟨by rw [hp, decide_eq_true h], hud⟩
      refine hs1.idxR i rfl (by omega) ?_
      intro g o ha
      refine hs1.elR ha (i * 6 + 0) (by rw [add_lit']; rfl) (kd := .int .i64) (x := a[i].1) (flat_cell acv_len hc 0 (by decide)) ?_
      refine ht1.idxR i rfl (by omega) ?_
      intro g2 o2 ha2
      refine ht1.elR ha2 (i * 6 + 0) (by rw [add_lit']; rfl) (kd := .int .i64) (x := b[i].1) (flat_cell acv_len hc2 0 (by decide)) ?_
      rw [SplitB_iff]
      refine ⟨fun h1 => ?_, fun h1 => ?_⟩
      · have h1 : a[i].1 ≠ b[i].1 := by simpa using h1
        exact no (fun h => h1 (by rw [h])) rfl
      have h1 : a[i].1 = b[i].1 := by simpa using h1
      refine hs1.idxR i rfl (by omega) ?_
      intro g o ha
      refine hs1.elR ha (i * 6 + 1) (by rw [add_lit']; rfl) (kd := .int .i64) (x := a[i].2.1) (flat_cell acv_len hc 1 (by decide)) ?_
      refine ht1.idxR i rfl (by omega) ?_
      intro g2 o2 ha2
      refine ht1.elR ha2 (i * 6 + 1) (by rw [add_lit']; rfl) (kd := .int .i64) (x := b[i].2.1) (flat_cell acv_len hc2 1 (by decide)) ?_
      rw [SplitB_iff]
      refine ⟨fun h2 => ?_, fun h2 => ?_⟩
      · have h2 : a[i].2.1 ≠ b[i].2.1 := by simpa using h2
        exact no (fun h => h2 (by rw [h])) rfl
      have h2 : a[i].2.1 = b[i].2.1 := by simpa using h2
      refine hs1.idxR i rfl (by omega) ?_
      intro g o ha
      refine hs1.elAR ha (i * 6 + 2) (by rw [add_lit']; rfl) (kd := Kd2) (a[i].2.2.1, a[i].2.2.2.1, ()) (flat_part acv_len hc 2 2 (by decide)) ?_
      refine ht1.idxR i rfl (by omega) ?_
      intro g2 o2 ha2
      refine ht1.elAR ha2 (i * 6 + 2) (by rw [add_lit']; rfl) (kd := Kd2) (b[i].2.2.1, b[i].2.2.2.1, ()) (flat_part acv_len hc2 2 2 (by decide)) ?_
      refine ReadN.k2Ne ?_
      rw [ne_ep (a[i].2.2.1, a[i].2.2.2.1) (b[i].2.2.1, b[i].2.2.2.1)]
      rw [SplitB_iff]
      refine ⟨fun h3 => ?_, fun h3 => ?_⟩
      · have h3 := of_decide_eq_true h3
        exact no (fun h => h3 (by rw [h])) rfl
      have h3 : (a[i].2.2.1, a[i].2.2.2.1) = (b[i].2.2.1, b[i].2.2.2.1) := by simpa using h3
      refine hs1.idxR i rfl (by omega) ?_
      intro g o ha
      refine hs1.elAR ha (i * 6 + 4) (by rw [add_lit']; rfl) (kd := Kd2) (a[i].2.2.2.2.1, a[i].2.2.2.2.2, ()) (flat_part acv_len hc 4 2 (by decide)) ?_
      refine ht1.idxR i rfl (by omega) ?_
      intro g2 o2 ha2
      refine ht1.elAR ha2 (i * 6 + 4) (by rw [add_lit']; rfl) (kd := Kd2) (b[i].2.2.2.2.1, b[i].2.2.2.2.2, ()) (flat_part acv_len hc2 4 2 (by decide)) ?_
      refine ReadN.k2Ne ?_
      rw [ne_ep (a[i].2.2.2.2.1, a[i].2.2.2.2.2) (b[i].2.2.2.2.1, b[i].2.2.2.2.2)]
      refine hk3 _ _ ⟨?_, hud⟩
      dsimp only
      by_cases h4 : (a[i].2.2.2.2.1, a[i].2.2.2.2.2) = (b[i].2.2.2.2.1, b[i].2.2.2.2.2)
      · have : a[i] = b[i] := Prod.ext h1 (Prod.ext h2 (Prod.ext (Prod.mk.inj h3).1 (Prod.ext (Prod.mk.inj h3).2 h4)))
        rw [this]; simp
      · have hne : a[i] ≠ b[i] := fun hh => h4 (by rw [hh])
        rw [decide_eq_true hne, decide_eq_true (show (a[i].2.2.2.2.1, a[i].2.2.2.2.2) ≠ (b[i].2.2.2.2.1, b[i].2.2.2.2.2) from h4)]
  · have hc : i = a.length := by have : ¬ (i : Int) < (s.len : Int) := of_decide_eq_false hc; omega
    subst hc
    rw [List.take_length, hl, List.take_length] at heq
    exact ⟨by rw [decide_eq_true heq], hu⟩
theorem sameA_st {s t : Sl} {a : List A6} (hs : Rd w s 6 (acs a)) (ht : Rd w t 6 (acs a)) (hb : a.length ≤ 1000000) : CallK Try.prog .bool 73 #[.slice s.a s.len s.cap, .slice t.a t.len t.cap] w fun (v : Bool) w' => v = true ∧ Upd w w' nobody := by
  have hsl : s.len = a.length := by have := hs.1; rw [flat_len acv_len] at this; omega
  have htl : t.len = a.length := by have := ht.1; rw [flat_len acv_len] at this; omega
  refine T73.calls ?_
  unfold T73
  rw [SplitB_iff]
  refine ⟨fun h0 => ?_, fun h0 => ?_⟩
  · rw [hsl, htl] at h0; simp at h0
  refine LoopX.mk (fun st w' => ∃ (i : Nat), st = ((i : Int), ()) ∧ i ≤ a.length ∧ Upd w w' nobody) (fun st => ((a.length : Int) - st.1).toNat) ⟨0, rfl, Nat.zero_le _, Upd.refl _ _⟩ ?_
  rintro _ w1 ⟨i, rfl, hi, hu⟩ k hk
  dsimp only at hk ⊢
  rw [SplitB_iff]
  refine ⟨fun hc => ?_, fun hc => ?_⟩
  · have hc : i < a.length := by have : (i : Int) < (s.len : Int) := of_decide_eq_true hc; omega
    have hem : IntKind.i64.wrap ((i : Int) + 1) = ((i + 1 : Nat) : Int) := by rw [wr (by omega)]; omega
    rw [hem]
    have hud := hu.trans (Upd.drew w1 nobody)
    have hs1 : Rd w1.drew s 6 (acs a) := hs.upd hud fun _ _ h => h
    have ht1 : Rd w1.drew t 6 (acs a) := ht.upd hud fun _ _ h => h
    refine hs1.idxR i rfl (by omega) ?_
    intro g o ha
    refine hs1.elAR ha (i * 6) rfl (kd := Kd6) (act a[i]) (flat_at acv_len _ _ hc) ?_
    refine ht1.idxR i rfl (by omega) ?_
    intro g2 o2 ha2
    refine ht1.elAR ha2 (i * 6) rfl (kd := Kd6) (act a[i]) (flat_at acv_len _ _ hc) ?_
    refine ReadN.of (kd := .bool) (K6.neV _ _ _ _ _ _ _ _ _ _ _ _ _ _ _) ?_
    have e := acts_eq a[i] a[i]
    rw [decide_eq_false (fun hh => hh rfl)] at e
    have e : (!(eq6 (act a[i]).1 (act a[i]).2.1 (act a[i]).2.2.1 (act a[i]).2.2.2.1 (act a[i]).2.2.2.2.1 (act a[i]).2.2.2.2.2.1 (act a[i]).1 (act a[i]).2.1 (act a[i]).2.2.1 (act a[i]).2.2.2.1 (act a[i]).2.2.2.2.1 (act a[i]).2.2.2.2.2.1)) = false := e
    rw [e, SplitB_iff]
    refine ⟨fun hf => (by cases hf), fun _ => ?_⟩
    exact hk _ _ ⟨i + 1, rfl, by omega, hud⟩ (by dsimp only; omega)
  · exact ⟨rfl, hu⟩
theorem sameE_st {s t : Sl} {a : List Ep} (hs : Rd w s 2 (eps a)) (ht : Rd w t 2 (eps a)) (hb : a.length ≤ 1000000) : CallK Try.prog .bool 71 #[.slice s.a s.len s.cap, .slice t.a t.len t.cap] w fun (v : Bool) w' => v = true ∧ Upd w w' nobody := by
  have hsl : s.len = a.length := by have := hs.1; rw [flat_len epv_len] at this; omega
  have htl : t.len = a.length := by have := ht.1; rw [flat_len epv_len] at this; omega
  refine T71.calls ?_
  unfold T71
  rw [SplitB_iff]
  refine ⟨fun h0 => ?_, fun h0 => ?_⟩
  · rw [hsl, htl] at h0; simp at h0
  refine LoopX.mk (fun st w' => ∃ (i : Nat), st = ((i : Int), ()) ∧ i ≤ a.length ∧ Upd w w' nobody) (fun st => ((a.length : Int) - st.1).toNat) ⟨0, rfl, Nat.zero_le _, Upd.refl _ _⟩ ?_
  rintro _ w1 ⟨i, rfl, hi, hu⟩ k hk
  dsimp only at hk ⊢
  rw [SplitB_iff]
  refine ⟨fun hc => ?_, fun hc => ?_⟩
  · have hc : i < a.length := by have : (i : Int) < (s.len : Int) := of_decide_eq_true hc; omega
    have hem : IntKind.i64.wrap ((i : Int) + 1) = ((i + 1 : Nat) : Int) := by rw [wr (by omega)]; omega
    rw [hem]
    have hud := hu.trans (Upd.drew w1 nobody)
    have hs1 : Rd w1.drew s 2 (eps a) := hs.upd hud fun _ _ h => h
    have ht1 : Rd w1.drew t 2 (eps a) := ht.upd hud fun _ _ h => h
    refine hs1.idxR i rfl (by omega) ?_
    intro g o ha
    refine hs1.elAR ha (i * 2) rfl (kd := Kd2) (a[i].1, a[i].2, ()) (flat_at epv_len _ _ hc) ?_
    refine ht1.idxR i rfl (by omega) ?_
    intro g2 o2 ha2
    refine ht1.elAR ha2 (i * 2) rfl (kd := Kd2) (a[i].1, a[i].2, ()) (flat_at epv_len _ _ hc) ?_
    refine ReadN.k2Ne ?_
    rw [ne_ep a[i] a[i], decide_eq_false (fun hh => hh rfl), SplitB_iff]
    refine ⟨fun hf => (by cases hf), fun _ => ?_⟩
    exact hk _ _ ⟨i + 1, rfl, by omega, hud⟩ (by dsimp only; omega)
  · exact ⟨rfl, hu⟩
/-! ### all is as it was left -/
structure KpN (k : Kp) (gA gE : List Ent) : Prop where
  am : k.M.length = k.A.length
  en : k.N.length = k.E.length
  covA : ∀ i (h : i < k.A.length), Cov 70 (mvA (k.M[i]'(by omega))) gA k.A[i]
  covE : ∀ i (h : i < k.E.length), Cov 54 (mvE (k.N[i]'(by omega))) gE k.E[i]
theorem whole_st {k : Kp} {gA gE : List Ent} (h : St w0 w (kpE k :: gA :: gE :: F)) (hlate : k.late = false) (hw : KpN k gA gE) (ha : k.A.length ≤ 1000000000) (he : k.E.length ≤ 1000000000) (hla : ∀ s ∈ k.A, s.len ≤ 1000000000) (hle : ∀ s ∈ k.E, s.len ≤ 1000000000) :
    CallK Try.prog .bool 17 #[.pointer k.p] w fun (v : Bool) w' => v = true ∧ Upd w0 w' nobody := by
  refine T17.calls ?_
  unfold T17
  refine NilP.mk ?_
  refine h.loadB 0 0 ⟨_, rfl, rfl⟩ rfl (kd := .bool) (x := k.late) rfl ?_
  rw [hlate, SplitB_iff]
  refine ⟨fun hf => (by cases hf), fun _ => ?_⟩
  have hqa : ∀ {w' : World}, St w0 w' (kpE k :: gA :: gE :: F) → Rd w' k.aq 1 (sls k.A) := fun h => h.rd (k := 0) (i := 1) (E := 66) (sz := 1) (s := k.aq) (vs := sls k.A) ⟨_, rfl, rfl⟩
  have hqm : ∀ {w' : World}, St w0 w' (kpE k :: gA :: gE :: F) → Rd w' k.am 1 (lin k.M) := fun h => h.rd (k := 0) (i := 3) (E := 3) (sz := 1) (s := k.am) (vs := lin k.M) ⟨_, rfl, rfl⟩
  have hqe : ∀ {w' : World}, St w0 w' (kpE k :: gA :: gE :: F) → Rd w' k.eq 1 (sls k.E) := fun h => h.rd (k := 0) (i := 4) (E := 78) (sz := 1) (s := k.eq) (vs := sls k.E) ⟨_, rfl, rfl⟩
  have hqn : ∀ {w' : World}, St w0 w' (kpE k :: gA :: gE :: F) → Rd w' k.em 1 (lin k.N) := fun h => h.rd (k := 0) (i := 6) (E := 3) (sz := 1) (s := k.em) (vs := lin k.N) ⟨_, rfl, rfl⟩
  have hal : k.aq.len = k.A.length := by have := (hqa h).1; simp [sls] at this; omega
  have hml : k.am.len = k.M.length := by have := (hqm h).1; rw [lin_len] at this; omega
  have hel : k.eq.len = k.E.length := by have := (hqe h).1; simp [sls] at this; omega
  have hnl : k.em.len = k.N.length := by have := (hqn h).1; rw [lin_len] at this; omega
  have ham := hw.am
  have hen := hw.en
  refine LoopX.mk (fun st w' => ∃ (i : Nat), st = ((i : Int), ()) ∧ i ≤ k.A.length ∧ St w0 w' (kpE k :: gA :: gE :: F)) (fun st => ((k.A.length : Int) - st.1).toNat) ⟨0, rfl, Nat.zero_le _, h⟩ ?_
  clear h
  rintro _ w1 ⟨i, rfl, hi, h⟩ k1 hk1
  dsimp only at hk1 ⊢
  refine NilP.mk ?_
  refine h.loadB 0 0 ⟨_, rfl, rfl⟩ rfl (kd := .sl) (x := k.aq) rfl ?_
  rw [hal]
  rw [SplitB_iff]
  refine ⟨fun hc => ?_, fun hc => ?_⟩
  · have hc : i < k.A.length := by have : (i : Int) < (k.A.length : Int) := of_decide_eq_true hc; omega
    have hem : IntKind.i64.wrap ((i : Int) + 1) = ((i + 1 : Nat) : Int) := by rw [wr (by omega)]; omega
    rw [hem]
    have hsl := hla _ (List.getElem_mem hc)
    refine LoopX.mk (fun st w' => ∃ (j : Nat), st = ((j : Int), ()) ∧ j ≤ (k.A[i]).len ∧ St w0 w' (kpE k :: gA :: gE :: F)) (fun st => (((k.A[i]).len : Int) - st.1).toNat) ⟨0, rfl, Nat.zero_le _, h⟩ ?_
    clear h
    rintro _ w2 ⟨j, rfl, hj, h⟩ k2 hk2
    dsimp only at hk2 ⊢
    refine NilP.mk ?_
    refine h.loadB 0 0 ⟨_, rfl, rfl⟩ rfl (kd := .sl) (x := k.aq) rfl ?_
    refine (hqa h).idxK i rfl (by omega) ?_
    intro g o hga
    refine (hqa h).el hga (i * 1) rfl (kd := .sl) (x := k.A[i]) (sls_ix hc) ?_
    rw [SplitB_iff]
    refine ⟨fun hd => ?_, fun hd => ?_⟩
    · have hd : j < (k.A[i]).len := by have : (j : Int) < ((k.A[i]).len : Int) := of_decide_eq_true hd; omega
      have hem2 : IntKind.i64.wrap ((j : Int) + 1) = ((j + 1 : Nat) : Int) := by rw [wr (by omega)]; omega
      rw [hem2]
      refine NilP.mk ?_
      refine h.drew.readB 0 0 ⟨_, rfl, rfl⟩ rfl (kd := .sl) (x := k.aq) rfl ?_
      refine (hqa h.drew).idxR i rfl (by omega) ?_
      intro g o hga
      refine (hqa h.drew).elR hga (i * 1) rfl (kd := .sl) (x := k.A[i]) (sls_ix hc) ?_
      have hrd : Rd w2.drew k.A[i] 6 (rep (mvA (k.M[i]'(by omega))) (k.A[i]).len) := (hw.covA i hc).rd (show 0 < 6 by decide) h.drew (k := 1) (gs := gA) rfl fun _ h => h
      refine hrd.idxR j rfl hd ?_
      intro g2 o2 hga2
      refine hrd.elAR hga2 (j * 6) rfl (kd := Kd6) (act (mkA (k.M[i]'(by omega)))) (repAt (mvA _) hd) ?_
      refine NilP.mk ?_
      refine h.drew.readB 0 0 ⟨_, rfl, rfl⟩ rfl (kd := .sl) (x := k.am) rfl ?_
      refine (hqm h.drew).idxR i rfl (by omega) ?_
      intro g3 o3 hga3
      refine (hqm h.drew).elR hga3 (i * 1) rfl (kd := .int .i64) (x := k.M[i]'(by omega)) (lin_ix' (by omega)) ?_
      refine ReadN.of (kd := .bool) (K6.neV _ _ _ _ _ _ _ _ _ _ _ _ _ _ _) ?_
      have e := acts_eq (mkA (k.M[i]'(by omega))) (mkA (k.M[i]'(by omega)))
      rw [decide_eq_false (fun hh => hh rfl)] at e
      refine (SplitB_iff (b := !(eq6 (act (mkA (k.M[i]'(by omega)))).1 (act (mkA (k.M[i]'(by omega)))).2.1 (act (mkA (k.M[i]'(by omega)))).2.2.1 (act (mkA (k.M[i]'(by omega)))).2.2.2.1 (act (mkA (k.M[i]'(by omega)))).2.2.2.2.1 (act (mkA (k.M[i]'(by omega)))).2.2.2.2.2.1 (-9) (k.M[i]'(by omega)) 0 0 0 0))).2 ⟨fun hf => ?_, fun _ => ?_⟩
      · have hf := e.symm.trans hf
        cases hf
      · exact hk2 _ _ ⟨j + 1, rfl, by omega, h.drew⟩ (by dsimp only; omega)
    · exact hk1 _ _ ⟨i + 1, rfl, by omega, h⟩ (by dsimp only; omega)
  · refine LoopX.mk (fun st w' => ∃ (i : Nat), st = ((i : Int), ()) ∧ i ≤ k.E.length ∧ St w0 w' (kpE k :: gA :: gE :: F)) (fun st => ((k.E.length : Int) - st.1).toNat) ⟨0, rfl, Nat.zero_le _, h⟩ ?_
    clear h hk1 hc hi
    rintro _ w1 ⟨i, rfl, hi, h⟩ k1 hk1
    dsimp only at hk1 ⊢
    refine NilP.mk ?_
    refine h.loadB 0 0 ⟨_, rfl, rfl⟩ rfl (kd := .sl) (x := k.eq) rfl ?_
    rw [hel]
    rw [SplitB_iff]
    refine ⟨fun hc => ?_, fun hc => ?_⟩
    · have hc : i < k.E.length := by have : (i : Int) < (k.E.length : Int) := of_decide_eq_true hc; omega
      have hem : IntKind.i64.wrap ((i : Int) + 1) = ((i + 1 : Nat) : Int) := by rw [wr (by omega)]; omega
      rw [hem]
      have hsl := hle _ (List.getElem_mem hc)
      refine LoopX.mk (fun st w' => ∃ (j : Nat), st = ((j : Int), ()) ∧ j ≤ (k.E[i]).len ∧ St w0 w' (kpE k :: gA :: gE :: F)) (fun st => (((k.E[i]).len : Int) - st.1).toNat) ⟨0, rfl, Nat.zero_le _, h⟩ ?_
      clear h
      rintro _ w2 ⟨j, rfl, hj, h⟩ k2 hk2
      dsimp only at hk2 ⊢
      refine NilP.mk ?_
      refine h.loadB 0 0 ⟨_, rfl, rfl⟩ rfl (kd := .sl) (x := k.eq) rfl ?_
      refine (hqe h).idxK i rfl (by omega) ?_
      intro g o hga
      refine (hqe h).el hga (i * 1) rfl (kd := .sl) (x := k.E[i]) (sls_ix hc) ?_
      rw [SplitB_iff]
      refine ⟨fun hd => ?_, fun hd => ?_⟩
      · have hd : j < (k.E[i]).len := by have : (j : Int) < ((k.E[i]).len : Int) := of_decide_eq_true hd; omega
        have hem2 : IntKind.i64.wrap ((j : Int) + 1) = ((j + 1 : Nat) : Int) := by rw [wr (by omega)]; omega
        rw [hem2]
        refine NilP.mk ?_
        refine h.drew.readB 0 0 ⟨_, rfl, rfl⟩ rfl (kd := .sl) (x := k.eq) rfl ?_
        refine (hqe h.drew).idxR i rfl (by omega) ?_
        intro g o hga
        refine (hqe h.drew).elR hga (i * 1) rfl (kd := .sl) (x := k.E[i]) (sls_ix hc) ?_
        have hrd : Rd w2.drew k.E[i] 2 (rep (mvE (k.N[i]'(by omega))) (k.E[i]).len) := (hw.covE i hc).rd (show 0 < 2 by decide) h.drew (k := 2) (gs := gE) rfl fun _ h => h
        refine hrd.idxR j rfl hd ?_
        intro g2 o2 hga2
        refine hrd.elAR hga2 (j * 2) rfl (kd := Kd2) ((mkE (k.N[i]'(by omega))).1, (mkE (k.N[i]'(by omega))).2, ()) (repAt (mvE _) hd) ?_
        refine NilP.mk ?_
        refine h.drew.readB 0 0 ⟨_, rfl, rfl⟩ rfl (kd := .sl) (x := k.em) rfl ?_
        refine (hqn h.drew).idxR i rfl (by omega) ?_
        intro g3 o3 hga3
        refine (hqn h.drew).elR hga3 (i * 1) rfl (kd := .int .i64) (x := k.N[i]'(by omega)) (lin_ix' (by omega)) ?_
        refine ReadN.k2Ne ?_
        rw [SplitB_iff]
        refine ⟨fun hf => ?_, fun _ => ?_⟩
        · simp [mkE] at hf
        · exact hk2 _ _ ⟨j + 1, rfl, by omega, h.drew⟩ (by dsimp only; omega)
      · exact hk1 _ _ ⟨i + 1, rfl, by omega, h⟩ (by dsimp only; omega)
    · exact ⟨rfl, h.upd⟩
end Go.Proofs.Ytmfbmfppjdkeeaa

/- What was answered is kept: the lists that are left till the end. -/
namespace Go.Proofs.Ytmfbmfppjdkeeaa
open Go Go.Fw Go.RowKit
set_option linter.unusedVariables false
set_option linter.unusedSimpArgs false
set_option maxRecDepth 4000
set_option maxHeartbeats 2000000
variable {w0 w : World} {F G : Grps}

theorem hdrA {k : Kp} (h : St w0 w (kpE k :: F)) (hl : k.A.length ≤ 1000000000) (s : Sl) {K : World → Prop}
    (hk : ∀ qa w', St w0 w' (kpE { k with A := k.A ++ [s], aq := qa } :: F) → K w') :
    NilP k.p fun t10 =>
      RunN Try.prog .sl (V (Instr.loadAt 49 (.pointer (some (t10.add 1))))) w fun t12 w =>
      RunN Try.prog .sl (V (Instr.buildSlice 49 1 #[(0, .slice s.a s.len s.cap)])) w fun t14 w =>
      RunN Try.prog .sl (V (Builtin.append_ #[49, 49] 49 #[.slice t12.a t12.len t12.cap, .slice t14.a t14.len t14.cap])) w fun t15 w =>
      NilP k.p fun t16 =>
      RunU Try.prog (U (Instr.storeAt 49 (.pointer (some (t16.add 1))) (.slice t15.a t15.len t15.cap))) w K := by
  have hql : k.aq.len = k.A.length := by have := (h.rd (k := 0) (i := 1) (E := 66) (sz := 1) (s := k.aq) (vs := sls k.A) ⟨_, rfl, rfl⟩).1; simp [sls] at this; omega
  refine NilP.mk ?_
  refine h.loadB 0 0 ⟨_, rfl, rfl⟩ rfl (kd := .sl) (x := k.aq) rfl ?_
  refine h.newS 1 (bslA _ s) rfl rfl rfl ?_
  intro u w1 hu1 _ _ h
  refine h.app 1 1 ⟨_, rfl, rfl⟩ (h.rd (k := 0) (i := 0) ⟨_, rfl, rfl⟩) (fun v hv => by simp at hv; subst hv; rfl) (by simp only [maxLen]; omega) (by omega) ?_
  intro qa w2 hla h
  have h := h.drop 0
  refine NilP.mk ?_
  refine h.storB 0 0 (j := 1) ⟨_, rfl, rfl⟩ rfl rfl rfl ?_
  intro w3 h
  have ea : sls (k.A ++ [s]) = sls k.A ++ [slv s] := by simp [sls]
  refine hk qa w3 ?_
  rw [kpE]
  simp only [ea]
  exact h
/-- A list and a copy of it are kept. -/
theorem lateA {k : Kp} {s : Sl} {l : List A6} {gk gw : List Ent} (h : St w0 w (kpE k :: [.row 70 6 s (acs l)] :: gk :: gw :: F)) (hl : k.A.length ≤ 1000000000) (hm : k.W.length ≤ 1000000000) (hll : l.length ≤ 1000000) {K : World → Prop}
    (hk : ∀ qa qw s' w', s'.len = s.len → St w0 w' (kpE { k with A := k.A ++ [s], aq := qa, W := k.W ++ [s'], aw := qw } :: (gk ++ [.row 70 6 s (acs l)]) :: (gw ++ [.row 70 6 s' (acs l)]) :: F) → K w') :
    NilP k.p fun t11 =>
    RunN Try.prog .sl (V (Instr.loadAt 49 (.pointer (some (t11.add 1))))) w fun t13 w =>
    RunN Try.prog .sl (V (Instr.buildSlice 49 1 #[(0, .slice s.a s.len s.cap)])) w fun t15 w =>
    RunN Try.prog .sl (V (Builtin.append_ #[49, 49] 49 #[.slice t13.a t13.len t13.cap, .slice t15.a t15.len t15.cap])) w fun t16 w =>
    NilP k.p fun t17 =>
    RunU Try.prog (U (Instr.storeAt 49 (.pointer (some (t17.add 1))) (.slice t16.a t16.len t16.cap))) w fun w =>
    NilP k.p fun t21 =>
    ReadN Try.prog .sl (V (Instr.loadAt 49 (.pointer (some (t21.add 2))))) w.drew fun t23 =>
    RunN Try.prog .sl (V (Builtin.append_ #[66, 66] 66 #[.slice none 0 0, .slice s.a s.len s.cap])) w.drew fun t25 w =>
    StillV Try.prog (V (Instr.loadAt 49 (.pointer (some (t21.add 2))))) (.slice t23.a t23.len t23.cap) w ∧
    RunN Try.prog .sl (V (Instr.buildSlice 49 1 #[(0, .slice t25.a t25.len t25.cap)])) w fun t26 w =>
    StillV Try.prog (V (Instr.loadAt 49 (.pointer (some (t21.add 2))))) (.slice t23.a t23.len t23.cap) w ∧
    RunN Try.prog .sl (V (Builtin.append_ #[49, 49] 49 #[.slice t23.a t23.len t23.cap, .slice t26.a t26.len t26.cap])) w fun t27 w =>
    NilP k.p fun t28 =>
    RunU Try.prog (U (Instr.storeAt 49 (.pointer (some (t28.add 2))) (.slice t27.a t27.len t27.cap))) w K := by
  have hsl : s.len = l.length := by
    have := (h.rd (k := 1) (i := 0) (E := 70) (sz := 6) (s := s) (vs := acs l) ⟨_, rfl, rfl⟩).1
    rw [flat_len acv_len] at this; omega
  have hqw : k.aw.len = k.W.length := by have := (h.rd (k := 0) (i := 2) (E := 66) (sz := 1) (s := k.aw) (vs := sls k.W) ⟨_, rfl, rfl⟩).1; simp [sls] at this; omega
  refine hdrA h hl s ?_
  intro qa w1 h
  refine NilP.mk ?_
  refine h.drew.readB 0 0 ⟨_, rfl, rfl⟩ rfl (kd := .sl) (x := k.aw) rfl ?_
  refine h.drew.appNil (h.drew.rd (k := 1) (i := 0) (E := 70) (sz := 6) (s := s) (vs := acs l) ⟨_, rfl, rfl⟩) (flat_one acv_one l) (by simp only [maxLen]; omega) (by omega) ?_
  intro s' w2 hs' h
  refine ⟨h.stillB 1 0 ⟨_, rfl, rfl⟩ rfl rfl, ?_⟩
  refine h.newS 1 (bslA _ s') rfl rfl rfl ?_
  intro u w3 hu1 _ _ h
  refine ⟨h.stillB 2 0 ⟨_, rfl, rfl⟩ rfl rfl, ?_⟩
  refine h.app 2 2 ⟨_, rfl, rfl⟩ (h.rd (k := 0) (i := 0) ⟨_, rfl, rfl⟩) (fun v hv => by simp at hv; subst hv; rfl) (by simp only [maxLen]; omega) (by dsimp only; omega) ?_
  intro qw w4 hlw h
  have h := h.drop 0
  refine NilP.mk ?_
  refine h.storB 1 0 (j := 2) ⟨_, rfl, rfl⟩ rfl rfl rfl ?_
  intro w5 h
  refine hk qa qw s' w5 hs' ?_
  have ea : sls (k.W ++ [s']) = sls k.W ++ [slv s'] := by simp [sls]
  have h : St w0 w5 ([.row 70 6 s' (acs l)] :: kpE { k with A := k.A ++ [s], aq := qa, W := k.W ++ [s'], aw := qw } :: [.row 70 6 s (acs l)] :: gk :: gw :: F) := by
    rw [kpE]
    simp only [ea]
    exact h
  refine h.perm ?_
  simp only [List.flatten_cons, List.append_assoc, List.cons_append, List.nil_append]
  refine List.Perm.trans ?_ (List.Perm.append_left _ (List.perm_middle.symm))
  refine List.perm_middle.symm.trans (List.Perm.append_left _ ?_)
  refine (List.Perm.swap _ _ _).trans (List.Perm.cons _ ?_)
  rw [← List.append_assoc, ← List.append_assoc]
  exact List.perm_middle.symm
theorem hdrE {k : Kp} (h : St w0 w (kpE k :: F)) (hl : k.E.length ≤ 1000000000) (s : Sl) {K : World → Prop}
    (hk : ∀ qa w', St w0 w' (kpE { k with E := k.E ++ [s], eq := qa } :: F) → K w') :
    NilP k.p fun t10 =>
      RunN Try.prog .sl (V (Instr.loadAt 50 (.pointer (some (t10.add 4))))) w fun t12 w =>
      RunN Try.prog .sl (V (Instr.buildSlice 50 1 #[(0, .slice s.a s.len s.cap)])) w fun t14 w =>
      RunN Try.prog .sl (V (Builtin.append_ #[50, 50] 50 #[.slice t12.a t12.len t12.cap, .slice t14.a t14.len t14.cap])) w fun t15 w =>
      NilP k.p fun t16 =>
      RunU Try.prog (U (Instr.storeAt 50 (.pointer (some (t16.add 4))) (.slice t15.a t15.len t15.cap))) w K := by
  have hql : k.eq.len = k.E.length := by have := (h.rd (k := 0) (i := 4) (E := 78) (sz := 1) (s := k.eq) (vs := sls k.E) ⟨_, rfl, rfl⟩).1; simp [sls] at this; omega
  refine NilP.mk ?_
  refine h.loadB 0 0 ⟨_, rfl, rfl⟩ rfl (kd := .sl) (x := k.eq) rfl ?_
  refine h.newS 1 (bslE _ s) rfl rfl rfl ?_
  intro u w1 hu1 _ _ h
  refine h.app 1 4 ⟨_, rfl, rfl⟩ (h.rd (k := 0) (i := 0) ⟨_, rfl, rfl⟩) (fun v hv => by simp at hv; subst hv; rfl) (by simp only [maxLen]; omega) (by omega) ?_
  intro qa w2 hla h
  have h := h.drop 0
  refine NilP.mk ?_
  refine h.storB 0 0 (j := 4) ⟨_, rfl, rfl⟩ rfl rfl rfl ?_
  intro w3 h
  have ea : sls (k.E ++ [s]) = sls k.E ++ [slv s] := by simp [sls]
  refine hk qa w3 ?_
  rw [kpE]
  simp only [ea]
  exact h
/-- A list and a copy of it are kept. -/
theorem lateE {k : Kp} {s : Sl} {l : List Ep} {gk gw : List Ent} (h : St w0 w (kpE k :: [.row 54 2 s (eps l)] :: gk :: gw :: F)) (hl : k.E.length ≤ 1000000000) (hm : k.X.length ≤ 1000000000) (hll : l.length ≤ 1000000) {K : World → Prop}
    (hk : ∀ qa qw s' w', s'.len = s.len → St w0 w' (kpE { k with E := k.E ++ [s], eq := qa, X := k.X ++ [s'], ew := qw } :: (gk ++ [.row 54 2 s (eps l)]) :: (gw ++ [.row 54 2 s' (eps l)]) :: F) → K w') :
    NilP k.p fun t11 =>
    RunN Try.prog .sl (V (Instr.loadAt 50 (.pointer (some (t11.add 4))))) w fun t13 w =>
    RunN Try.prog .sl (V (Instr.buildSlice 50 1 #[(0, .slice s.a s.len s.cap)])) w fun t15 w =>
    RunN Try.prog .sl (V (Builtin.append_ #[50, 50] 50 #[.slice t13.a t13.len t13.cap, .slice t15.a t15.len t15.cap])) w fun t16 w =>
    NilP k.p fun t17 =>
    RunU Try.prog (U (Instr.storeAt 50 (.pointer (some (t17.add 4))) (.slice t16.a t16.len t16.cap))) w fun w =>
    NilP k.p fun t21 =>
    ReadN Try.prog .sl (V (Instr.loadAt 50 (.pointer (some (t21.add 5))))) w.drew fun t23 =>
    RunN Try.prog .sl (V (Builtin.append_ #[78, 78] 78 #[.slice none 0 0, .slice s.a s.len s.cap])) w.drew fun t25 w =>
    StillV Try.prog (V (Instr.loadAt 50 (.pointer (some (t21.add 5))))) (.slice t23.a t23.len t23.cap) w ∧
    RunN Try.prog .sl (V (Instr.buildSlice 50 1 #[(0, .slice t25.a t25.len t25.cap)])) w fun t26 w =>
    StillV Try.prog (V (Instr.loadAt 50 (.pointer (some (t21.add 5))))) (.slice t23.a t23.len t23.cap) w ∧
    RunN Try.prog .sl (V (Builtin.append_ #[50, 50] 50 #[.slice t23.a t23.len t23.cap, .slice t26.a t26.len t26.cap])) w fun t27 w =>
    NilP k.p fun t28 =>
    RunU Try.prog (U (Instr.storeAt 50 (.pointer (some (t28.add 5))) (.slice t27.a t27.len t27.cap))) w K := by
  have hsl : s.len = l.length := by
    have := (h.rd (k := 1) (i := 0) (E := 54) (sz := 2) (s := s) (vs := eps l) ⟨_, rfl, rfl⟩).1
    rw [flat_len epv_len] at this; omega
  have hqw : k.ew.len = k.X.length := by have := (h.rd (k := 0) (i := 5) (E := 78) (sz := 1) (s := k.ew) (vs := sls k.X) ⟨_, rfl, rfl⟩).1; simp [sls] at this; omega
  refine hdrE h hl s ?_
  intro qa w1 h
  refine NilP.mk ?_
  refine h.drew.readB 0 0 ⟨_, rfl, rfl⟩ rfl (kd := .sl) (x := k.ew) rfl ?_
  refine h.drew.appNil (h.drew.rd (k := 1) (i := 0) (E := 54) (sz := 2) (s := s) (vs := eps l) ⟨_, rfl, rfl⟩) (flat_one epv_one l) (by simp only [maxLen]; omega) (by omega) ?_
  intro s' w2 hs' h
  refine ⟨h.stillB 1 0 ⟨_, rfl, rfl⟩ rfl rfl, ?_⟩
  refine h.newS 1 (bslE _ s') rfl rfl rfl ?_
  intro u w3 hu1 _ _ h
  refine ⟨h.stillB 2 0 ⟨_, rfl, rfl⟩ rfl rfl, ?_⟩
  refine h.app 2 5 ⟨_, rfl, rfl⟩ (h.rd (k := 0) (i := 0) ⟨_, rfl, rfl⟩) (fun v hv => by simp at hv; subst hv; rfl) (by simp only [maxLen]; omega) (by dsimp only; omega) ?_
  intro qw w4 hlw h
  have h := h.drop 0
  refine NilP.mk ?_
  refine h.storB 1 0 (j := 5) ⟨_, rfl, rfl⟩ rfl rfl rfl ?_
  intro w5 h
  refine hk qa qw s' w5 hs' ?_
  have ea : sls (k.X ++ [s']) = sls k.X ++ [slv s'] := by simp [sls]
  have h : St w0 w5 ([.row 54 2 s' (eps l)] :: kpE { k with E := k.E ++ [s], eq := qa, X := k.X ++ [s'], ew := qw } :: [.row 54 2 s (eps l)] :: gk :: gw :: F) := by
    rw [kpE]
    simp only [ea]
    exact h
  refine h.perm ?_
  simp only [List.flatten_cons, List.append_assoc, List.cons_append, List.nil_append]
  refine List.Perm.trans ?_ (List.Perm.append_left _ (List.perm_middle.symm))
  refine List.perm_middle.symm.trans (List.Perm.append_left _ ?_)
  refine (List.Perm.swap _ _ _).trans (List.Perm.cons _ ?_)
  rw [← List.append_assoc, ← List.append_assoc]
  exact List.perm_middle.symm
end Go.Proofs.Ytmfbmfppjdkeeaa

/- What was answered is kept: both ways of keeping. -/
namespace Go.Proofs.Ytmfbmfppjdkeeaa
open Go Go.Fw Go.RowKit
set_option linter.unusedVariables false
set_option linter.unusedSimpArgs false
set_option maxRecDepth 4000
set_option maxHeartbeats 2000000
variable {w0 w : World} {F G : Grps}

def rowsA (L : List (Sl × List A6)) : List Ent := L.map fun x => .row 70 6 x.1 (acs x.2)
def rowsE (L : List (Sl × List Ep)) : List Ent := L.map fun x => .row 54 2 x.1 (eps x.2)
structure KpL (k : Kp) (N : Nat) (LA LW : List (Sl × List A6)) (LE LX : List (Sl × List Ep)) : Prop where
  A : k.A = LA.map (·.1)
  W : k.W = LW.map (·.1)
  E : k.E = LE.map (·.1)
  X : k.X = LX.map (·.1)
  ca : LA.map (·.2) = LW.map (·.2)
  ce : LE.map (·.2) = LX.map (·.2)
  la : ∀ x ∈ LA, x.2.length ≤ 1000
  le : ∀ x ∈ LE, x.2.length ≤ 1000
  na : LA.length ≤ N
  ne : LE.length ≤ N
structure KpM (k : Kp) (N : Nat) (gA gE : List Ent) : Prop where
  n : KpN k gA gE
  na : k.A.length ≤ 41 * N
  ne : k.E.length ≤ 41 * N
  la : ∀ s ∈ k.A, s.len ≤ 1000000
  le : ∀ s ∈ k.E, s.len ≤ 1000000
def KpW (k : Kp) (N : Nat) (gA gW gE gX : List Ent) : Prop :=
  (k.late = false ∧ KpM k N gA gE) ∨ (k.late = true ∧ ∃ LA LW LE LX, gA = rowsA LA ∧ gW = rowsA LW ∧ gE = rowsE LE ∧ gX = rowsE LX ∧ KpL k N LA LW LE LX)
theorem KpM.mono {k : Kp} {N M : Nat} {gA gE : List Ent} (h : KpM k N gA gE) (hm : N ≤ M) : KpM k M gA gE := ⟨h.n, by have := h.na; omega, by have := h.ne; omega, h.la, h.le⟩
theorem KpL.mono {k : Kp} {N M : Nat} {LA LW : List (Sl × List A6)} {LE LX : List (Sl × List Ep)} (h : KpL k N LA LW LE LX) (hm : N ≤ M) : KpL k M LA LW LE LX :=
  ⟨h.A, h.W, h.E, h.X, h.ca, h.ce, h.la, h.le, by have := h.na; omega, by have := h.ne; omega⟩
theorem KpM.holdA {k : Kp} {N : Nat} {gA gE g : List Ent} (h : KpM k N gA gE) {l : List Sl} {m : Int} {qa qm : Sl} {n : Nat} (hn : n ≤ 900000) (h1 : l.length ≤ 41) (hx : ∀ x ∈ l, x.len ≤ n + 40) (h2 : ∀ x ∈ l, Cov 70 (mvA m) g x) :
    KpM { k with A := k.A ++ l, aq := qa, M := k.M ++ List.replicate l.length m, am := qm } (N + 1) (g ++ gA) gE := by
  have ham := h.n.am
  refine ⟨⟨by simp [ham], h.n.en, fun i hi => ?_, h.n.covE⟩, by simp; have := h.na; omega, by have := h.ne; dsimp only; omega, fun s hs => ?_, h.le⟩
  · dsimp only at hi ⊢
    rw [List.length_append] at hi
    by_cases hc : i < k.A.length
    · rw [List.getElem_append_left hc, List.getElem_append_left (by omega)]
      exact (h.n.covA i hc).sub fun e he => List.mem_append_right _ he
    · rw [List.getElem_append_right (by omega), List.getElem_append_right (by omega), List.getElem_replicate]
      exact (h2 _ (List.getElem_mem _)).sub fun e he => List.mem_append_left _ he
  · rcases List.mem_append.1 hs with hs | hs
    · exact h.la s hs
    · have := hx s hs; omega
theorem KpM.holdE {k : Kp} {N : Nat} {gA gE g : List Ent} (h : KpM k N gA gE) {l : List Sl} {m : Int} {qa qm : Sl} {n : Nat} (hn : n ≤ 900000) (h1 : l.length ≤ 41) (hx : ∀ x ∈ l, x.len ≤ n + 40) (h2 : ∀ x ∈ l, Cov 54 (mvE m) g x) :
    KpM { k with E := k.E ++ l, eq := qa, N := k.N ++ List.replicate l.length m, em := qm } (N + 1) gA (g ++ gE) := by
  have hen := h.n.en
  refine ⟨⟨h.n.am, by simp [hen], h.n.covA, fun i hi => ?_⟩, by have := h.na; dsimp only; omega, by simp; have := h.ne; omega, h.la, fun s hs => ?_⟩
  · dsimp only at hi ⊢
    rw [List.length_append] at hi
    by_cases hc : i < k.E.length
    · rw [List.getElem_append_left hc, List.getElem_append_left (by omega)]
      exact (h.n.covE i hc).sub fun e he => List.mem_append_right _ he
    · rw [List.getElem_append_right (by omega), List.getElem_append_right (by omega), List.getElem_replicate]
      exact (h2 _ (List.getElem_mem _)).sub fun e he => List.mem_append_left _ he
  · rcases List.mem_append.1 hs with hs | hs
    · exact h.le s hs
    · have := hx s hs; omega
theorem putA_st {k : Kp} {N : Nat} {s : Sl} {l : List A6} {gA gW gE gX : List Ent} (h : St w0 w ([.row 70 6 s (acs l)] :: kpE k :: gA :: gW :: gE :: gX :: F)) (hw : KpW k N gA gW gE gX) (hN : N ≤ 10000000) (hl : l.length ≤ 1000) :
    CallK Try.prog (.tup .nilT) 42 #[.pointer k.p, .slice s.a s.len s.cap] w fun (_ : Unit) w' => ∃ k' gA' gW', k'.cb = k.cb ∧ k'.late = k.late ∧ KpW k' (N + 1) gA' gW' gE gX ∧ St w0 w' (kpE k' :: gA' :: gW' :: gE :: gX :: F) := by
  refine T42.calls ?_
  unfold T42
  refine NilP.mk ?_
  refine h.loadB 1 0 ⟨_, rfl, rfl⟩ rfl (kd := .bool) (x := k.late) rfl ?_
  rcases hw with ⟨hlate, hw⟩ | ⟨hlate, LA, LW, LE, LX, rfl, rfl, rfl, rfl, hw⟩
  · rw [hlate, SplitB_iff]
    refine ⟨fun hf => (by cases hf), fun _ => ?_⟩
    have hna := hw.na
    have ham := hw.n.am
    refine NilP.mk ?_
    refine h.loadB 1 0 ⟨_, rfl, rfl⟩ rfl (kd := .sl) (x := k.am) rfl ?_
    refine (fillA h (by omega) _).mono ?_
    rintro _ w1 h
    refine (holdA h (by omega) (by omega) (by omega)).mono ?_
    rintro _ w2 ⟨qa, qm, ls, g, h1, h2, h3, h⟩
    refine ⟨{ k with A := k.A ++ ls, aq := qa, M := k.M ++ List.replicate ls.length (k.am.len : Int), am := qm }, g ++ gA, gW, rfl, hlate, .inl ⟨hlate, hw.holdA (by omega) h1 h2 h3⟩, ?_⟩
    have h := h.ord 2 [1, 0]
    exact h.perm (by simp [pick, nthO, dropO])
  · rw [hlate, SplitB_iff]
    refine ⟨fun _ => ?_, fun hf => (by cases hf)⟩
    have hna := hw.na
    have hlw : LW.length = LA.length := by have := congrArg List.length hw.ca; simpa using this.symm
    have h := h.ord 2 [1, 0]
    refine lateA h (by rw [hw.A]; simp; omega) (by rw [hw.W]; simp; omega) (by omega) ?_
    intro qa qw s' w1 hs' h
    refine ⟨{ k with A := k.A ++ [s], aq := qa, W := k.W ++ [s'], aw := qw }, _, _, rfl, hlate, .inr ⟨hlate, LA ++ [(s, l)], LW ++ [(s', l)], LE, LX, ?_, ?_, rfl, rfl, ?_⟩, h⟩
    · simp [rowsA]
    · simp [rowsA]
    · refine ⟨by simp [hw.A], by simp [hw.W], hw.E, hw.X, by simp [hw.ca], hw.ce, fun x hx => ?_, hw.le, by simp; omega, by have := hw.ne; omega⟩
      rcases List.mem_append.1 hx with hx | hx
      · exact hw.la x hx
      · simp at hx; subst hx; exact hl
theorem putE_st {k : Kp} {N : Nat} {s : Sl} {l : List Ep} {gA gW gE gX : List Ent} (h : St w0 w ([.row 54 2 s (eps l)] :: kpE k :: gA :: gW :: gE :: gX :: F)) (hw : KpW k N gA gW gE gX) (hN : N ≤ 10000000) (hl : l.length ≤ 1000) :
    CallK Try.prog (.tup .nilT) 72 #[.pointer k.p, .slice s.a s.len s.cap] w fun (_ : Unit) w' => ∃ k' gE' gX', k'.cb = k.cb ∧ k'.late = k.late ∧ KpW k' (N + 1) gA gW gE' gX' ∧ St w0 w' (kpE k' :: gA :: gW :: gE' :: gX' :: F) := by
  refine T72.calls ?_
  unfold T72
  refine NilP.mk ?_
  refine h.loadB 1 0 ⟨_, rfl, rfl⟩ rfl (kd := .bool) (x := k.late) rfl ?_
  rcases hw with ⟨hlate, hw⟩ | ⟨hlate, LA, LW, LE, LX, rfl, rfl, rfl, rfl, hw⟩
  · rw [hlate, SplitB_iff]
    refine ⟨fun hf => (by cases hf), fun _ => ?_⟩
    have hne := hw.ne
    have hen := hw.n.en
    refine NilP.mk ?_
    refine h.loadB 1 0 ⟨_, rfl, rfl⟩ rfl (kd := .sl) (x := k.em) rfl ?_
    refine (fillE h (by omega) _).mono ?_
    rintro _ w1 h
    refine (holdE h (by omega) (by omega) (by omega)).mono ?_
    rintro _ w2 ⟨qa, qm, ls, g, h1, h2, h3, h⟩
    refine ⟨{ k with E := k.E ++ ls, eq := qa, N := k.N ++ List.replicate ls.length (k.em.len : Int), em := qm }, g ++ gE, gX, rfl, hlate, .inl ⟨hlate, hw.holdE (by omega) h1 h2 h3⟩, ?_⟩
    have h := h.ord 5 [1, 2, 3, 0, 4]
    exact h.perm (by simp [pick, nthO, dropO])
  · rw [hlate, SplitB_iff]
    refine ⟨fun _ => ?_, fun hf => (by cases hf)⟩
    have hne := hw.ne
    have hlw : LX.length = LE.length := by have := congrArg List.length hw.ce; simpa using this.symm
    have h := h.ord 6 [1, 0, 4, 5, 2, 3]
    refine lateE h (by rw [hw.E]; simp; omega) (by rw [hw.X]; simp; omega) (by omega) ?_
    intro qa qw s' w1 hs' h
    have h := h.ord 5 [0, 3, 4, 1, 2]
    refine ⟨{ k with E := k.E ++ [s], eq := qa, X := k.X ++ [s'], ew := qw }, _, _, rfl, hlate, .inr ⟨hlate, LA, LW, LE ++ [(s, l)], LX ++ [(s', l)], rfl, rfl, ?_, ?_, ?_⟩, h⟩
    · simp [rowsE]
    · simp [rowsE]
    · refine ⟨hw.A, hw.W, by simp [hw.E], by simp [hw.X], hw.ca, by simp [hw.ce], hw.la, fun x hx => ?_, by have := hw.na; omega, by simp; omega⟩
      rcases List.mem_append.1 hx with hx | hx
      · exact hw.le x hx
      · simp at hx; subst hx; exact hl
/-! ### a piece by itself -/
theorem St.putBack (h : St w0 w G) {k i : Nat} {e : Ent} (he : Has G k i e) {e' : Ent} {w' : World} (h' : St w0 w' ([e'] :: updG G k i [])) : St w0 w' (updG G k i [e']) := by
  obtain ⟨A, h1, h2⟩ := updG_perm [] he
  obtain ⟨B, h3, h4⟩ := updG_perm [e'] he
  have hAB : A.Perm B := (List.perm_cons e).1 (h1.symm.trans h3)
  refine h'.perm ?_
  rw [List.flatten_cons]
  exact ((h2.append_left [e']).trans (hAB.cons e')).trans h4.symm
end Go.Proofs.Ytmfbmfppjdkeeaa

/- What was answered is kept: what was left till the end. -/
namespace Go.Proofs.Ytmfbmfppjdkeeaa
open Go Go.Fw Go.RowKit
set_option linter.unusedVariables false
set_option linter.unusedSimpArgs false
set_option maxRecDepth 4000
set_option maxHeartbeats 4000000
variable {w0 w : World} {F G : Grps}

theorem rdA {LA : List (Sl × List A6)} {i : Nat} (hi : i < LA.length) (h : St w0 w G) {k : Nat} (hk : nthO G k = some (rowsA LA)) : Rd w LA[i].1 6 (acs LA[i].2) := by
  have hm : Ent.row 70 6 LA[i].1 (acs LA[i].2) ∈ rowsA LA := List.mem_map.2 ⟨LA[i], List.getElem_mem hi, rfl⟩
  have : Ow w w0.heap.size 70 6 LA[i].1 (acs LA[i].2) := (h.memG k hk hm).1
  exact this.rd
theorem rdE {LE : List (Sl × List Ep)} {i : Nat} (hi : i < LE.length) (h : St w0 w G) {k : Nat} (hk : nthO G k = some (rowsE LE)) : Rd w LE[i].1 2 (eps LE[i].2) := by
  have hm : Ent.row 54 2 LE[i].1 (eps LE[i].2) ∈ rowsE LE := List.mem_map.2 ⟨LE[i], List.getElem_mem hi, rfl⟩
  have : Ow w w0.heap.size 54 2 LE[i].1 (eps LE[i].2) := (h.memG k hk hm).1
  exact this.rd
def fA (L : List (Sl × List A6)) (i j : Nat) (x : Sl × List A6) : Ent := if j < i then .row 70 6 x.1 (rep (mvA (j : Int)) x.2.length) else .row 70 6 x.1 (acs x.2)
def rowsFA (L : List (Sl × List A6)) (i : Nat) : List Ent := L.zipIdx.map fun x => fA L i x.2 x.1
def fE (L : List (Sl × List Ep)) (i j : Nat) (x : Sl × List Ep) : Ent := if j < i then .row 54 2 x.1 (rep (mvE (j : Int)) x.2.length) else .row 54 2 x.1 (eps x.2)
def rowsFE (L : List (Sl × List Ep)) (i : Nat) : List Ent := L.zipIdx.map fun x => fE L i x.2 x.1
theorem rowsFA_at {L : List (Sl × List A6)} {i j : Nat} (hj : j < L.length) : (rowsFA L i)[j]? = some (fA L i j L[j]) := by simp [rowsFA, hj]
theorem rowsFE_at {L : List (Sl × List Ep)} {i j : Nat} (hj : j < L.length) : (rowsFE L i)[j]? = some (fE L i j L[j]) := by simp [rowsFE, hj]
theorem rowsFA_zero (L : List (Sl × List A6)) : rowsFA L 0 = rowsA L := by
  refine List.ext_getElem? fun j => ?_
  by_cases hj : j < L.length
  · rw [rowsFA_at hj, fA, if_neg (by omega)]; simp [rowsA, hj]
  · rw [List.getElem?_eq_none (by simp [rowsFA]; omega), List.getElem?_eq_none (by simp [rowsA]; omega)]
theorem rowsFE_zero (L : List (Sl × List Ep)) : rowsFE L 0 = rowsE L := by
  refine List.ext_getElem? fun j => ?_
  by_cases hj : j < L.length
  · rw [rowsFE_at hj, fE, if_neg (by omega)]; simp [rowsE, hj]
  · rw [List.getElem?_eq_none (by simp [rowsFE]; omega), List.getElem?_eq_none (by simp [rowsE]; omega)]
theorem rowsFA_set {L : List (Sl × List A6)} {i : Nat} (hi : i < L.length) : setO (rowsFA L i) i (.row 70 6 L[i].1 (rep (mvA (i : Int)) L[i].2.length)) = rowsFA L (i + 1) := by
  rw [setO_set]
  refine List.ext_getElem? fun j => ?_
  rw [List.getElem?_set]
  by_cases hij : i = j
  · subst hij
    rw [if_pos rfl, if_pos (by simp [rowsFA]; exact hi), rowsFA_at hi, fA, if_pos (by omega)]
  · rw [if_neg hij]
    by_cases hj : j < L.length
    · rw [rowsFA_at hj, rowsFA_at hj, fA, fA]
      by_cases h1 : j < i
      · rw [if_pos h1, if_pos (by omega)]
      · rw [if_neg h1, if_neg (by omega)]
    · rw [List.getElem?_eq_none (by simp [rowsFA]; omega), List.getElem?_eq_none (by simp [rowsFA]; omega)]
theorem rowsFE_set {L : List (Sl × List Ep)} {i : Nat} (hi : i < L.length) : setO (rowsFE L i) i (.row 54 2 L[i].1 (rep (mvE (i : Int)) L[i].2.length)) = rowsFE L (i + 1) := by
  rw [setO_set]
  refine List.ext_getElem? fun j => ?_
  rw [List.getElem?_set]
  by_cases hij : i = j
  · subst hij
    rw [if_pos rfl, if_pos (by simp [rowsFE]; exact hi), rowsFE_at hi, fE, if_pos (by omega)]
  · rw [if_neg hij]
    by_cases hj : j < L.length
    · rw [rowsFE_at hj, rowsFE_at hj, fE, fE]
      by_cases h1 : j < i
      · rw [if_pos h1, if_pos (by omega)]
      · rw [if_neg h1, if_neg (by omega)]
    · rw [List.getElem?_eq_none (by simp [rowsFE]; omega), List.getElem?_eq_none (by simp [rowsFE]; omega)]
theorem delO_drop {α : Type} (l : List α) (i : Nat) : delO (l.drop i) 0 = l.drop (i + 1) := by
  cases h : l.drop i with
  | nil => rw [← List.drop_drop, h]; rfl
  | cons x t => rw [← List.drop_drop, h]; rfl
def kp0 (b : Nat) : Kp := ⟨b, false, ⟨none, 0, 0⟩, ⟨none, 0, 0⟩, ⟨none, 0, 0⟩, ⟨none, 0, 0⟩, ⟨none, 0, 0⟩, ⟨none, 0, 0⟩, [], [], [], [], [], []⟩
theorem kp0_box (h : St w0 w F) (late : Bool) {K : Addr → World → Prop} (hk : ∀ b w', St w0 w' (kpE { kp0 b with late := late } :: F) → K ⟨b, 0, none⟩ w') :
    RunN Try.prog .addr (V (Instr.box 52 (.agg #[.bool late, .slice none 0 0, .slice none 0 0, .slice none 0 0, .slice none 0 0, .slice none 0 0, .slice none 0 0]))) w K := by
  refine h.newB run_boxA rfl ?_
  intro b w1 h
  have h := (((((h.nilrow 66 1).nilrow 66 1).nilrow 3 1).nilrow 78 1).nilrow 78 1).nilrow 3 1
  have h := h.ord 7 [6, 5, 4, 3, 2, 1, 0]
  exact hk b w1 (h.perm (by simp [pick, nthO, dropO, kpE, kp0, kpC, slv, sls, lin]))
theorem kpM0 (b : Nat) : KpM (kp0 b) 0 [] [] := ⟨⟨rfl, rfl, fun i h => by simp [kp0] at h, fun i h => by simp [kp0] at h⟩, by simp [kp0], by simp [kp0], fun s h => by simp [kp0] at h, fun s h => by simp [kp0] at h⟩
theorem lately_st {k : Kp} {N : Nat} {LA LW : List (Sl × List A6)} {LE LX : List (Sl × List Ep)} (h : St w0 w (kpE k :: rowsA LA :: rowsA LW :: rowsE LE :: rowsE LX :: F)) (hw : KpL k N LA LW LE LX) (hN : N ≤ 10000000) :
    CallK Try.prog .bool 44 #[.pointer k.p] w fun (v : Bool) w' => v = true ∧ Upd w0 w' nobody := by
  refine T44.calls ?_
  unfold T44
  have hna := hw.na
  have hne := hw.ne
  have hlw : LW.length = LA.length := by have := congrArg List.length hw.ca; simpa using this.symm
  have hlx : LX.length = LE.length := by have := congrArg List.length hw.ce; simpa using this.symm
  have hkA : k.A.length = LA.length := by rw [hw.A]; simp
  have hkW : k.W.length = LA.length := by rw [hw.W]; simp; omega
  have hkE : k.E.length = LE.length := by rw [hw.E]; simp
  have hkX : k.X.length = LE.length := by rw [hw.X]; simp; omega
  have gA : ∀ {R : Grps} {w' : World}, St w0 w' (kpE k :: R) → Rd w' k.aq 1 (sls k.A) := fun h => h.rd (k := 0) (i := 1) (E := 66) (sz := 1) (s := k.aq) (vs := sls k.A) ⟨_, rfl, rfl⟩
  have gW : ∀ {R : Grps} {w' : World}, St w0 w' (kpE k :: R) → Rd w' k.aw 1 (sls k.W) := fun h => h.rd (k := 0) (i := 2) (E := 66) (sz := 1) (s := k.aw) (vs := sls k.W) ⟨_, rfl, rfl⟩
  have gE : ∀ {R : Grps} {w' : World}, St w0 w' (kpE k :: R) → Rd w' k.eq 1 (sls k.E) := fun h => h.rd (k := 0) (i := 4) (E := 78) (sz := 1) (s := k.eq) (vs := sls k.E) ⟨_, rfl, rfl⟩
  have gX : ∀ {R : Grps} {w' : World}, St w0 w' (kpE k :: R) → Rd w' k.ew 1 (sls k.X) := fun h => h.rd (k := 0) (i := 5) (E := 78) (sz := 1) (s := k.ew) (vs := sls k.X) ⟨_, rfl, rfl⟩
  have qA : k.aq.len = LA.length := by have := (gA h).1; simp [sls] at this; omega
  have qW : k.aw.len = LA.length := by have := (gW h).1; simp [sls] at this; omega
  have qE : k.eq.len = LE.length := by have := (gE h).1; simp [sls] at this; omega
  have qX : k.ew.len = LE.length := by have := (gX h).1; simp [sls] at this; omega
  have atA : ∀ i (hi : i < LA.length), (sls k.A)[i * 1]? = some (slv LA[i].1) := fun i hi => by rw [sls_ix (by omega)]; simp [hw.A]
  have atW : ∀ i (hi : i < LA.length), (sls k.W)[i * 1]? = some (slv (LW[i]'(by omega)).1) := fun i hi => by rw [sls_ix (by omega)]; simp [hw.W]
  have atE : ∀ i (hi : i < LE.length), (sls k.E)[i * 1]? = some (slv LE[i].1) := fun i hi => by rw [sls_ix (by omega)]; simp [hw.E]
  have atX : ∀ i (hi : i < LE.length), (sls k.X)[i * 1]? = some (slv (LX[i]'(by omega)).1) := fun i hi => by rw [sls_ix (by omega)]; simp [hw.X]
  -- the lists of acts are what they were
  refine LoopX.mk (fun st w' => ∃ (i : Nat), st = ((i : Int), ()) ∧ i ≤ LA.length ∧ St w0 w' (kpE k :: rowsA LA :: rowsA LW :: rowsE LE :: rowsE LX :: F)) (fun st => ((LA.length : Int) - st.1).toNat) ⟨0, rfl, Nat.zero_le _, h⟩ ?_
  clear h
  rintro _ w1 ⟨i, rfl, hi, h⟩ k1 hk1
  dsimp only at hk1 ⊢
  refine NilP.mk ?_
  refine h.loadB 0 0 ⟨_, rfl, rfl⟩ rfl (kd := .sl) (x := k.aq) rfl ?_
  rw [SplitB_iff]
  refine ⟨fun hc => ?_, fun hc => ?_⟩
  · have hc : i < LA.length := by have : (i : Int) < (k.aq.len : Int) := of_decide_eq_true hc; omega
    have hem : IntKind.i64.wrap ((i : Int) + 1) = ((i + 1 : Nat) : Int) := by rw [wr (by omega)]; omega
    rw [hem]
    refine NilP.mk ?_
    refine h.drew.readB 0 0 ⟨_, rfl, rfl⟩ rfl (kd := .sl) (x := k.aq) rfl ?_
    refine (gA h.drew).idxR i rfl (by omega) ?_
    intro g o hga
    refine (gA h.drew).elR hga (i * 1) rfl (kd := .sl) (x := LA[i].1) (atA i hc) ?_
    refine NilP.mk ?_
    refine h.drew.readB 0 0 ⟨_, rfl, rfl⟩ rfl (kd := .sl) (x := k.aw) rfl ?_
    refine (gW h.drew).idxR i rfl (by omega) ?_
    intro g2 o2 hga2
    refine (gW h.drew).elR hga2 (i * 1) rfl (kd := .sl) (x := (LW[i]'(by omega)).1) (atW i hc) ?_
    have hcon : (LW[i]'(by omega)).2 = LA[i].2 := by
      have h1 := congrArg (fun l => l[i]?) hw.ca
      simp only [List.getElem?_map, List.getElem?_eq_getElem hc, List.getElem?_eq_getElem (show i < LW.length by omega), Option.map_some] at h1
      exact (Option.some.inj h1).symm
    have hrw := rdA (show i < LW.length by omega) h.drew (k := 2) rfl
    rw [hcon] at hrw
    refine (sameA_st (rdA hc h.drew (k := 1) rfl) hrw (by have := hw.la _ (List.getElem_mem hc); omega)).mono ?_
    rintro _ w2 ⟨rfl, hu⟩
    rw [SplitB_iff]
    refine ⟨fun hf => (by cases hf), fun _ => ?_⟩
    exact hk1 _ _ ⟨i + 1, rfl, by omega, h.drew.keep hu⟩ (by dsimp only; omega)
  -- the lists of epochs too
  clear hk1 hc hi
  refine LoopX.mk (fun st w' => ∃ (i : Nat), st = ((i : Int), ()) ∧ i ≤ LE.length ∧ St w0 w' (kpE k :: rowsA LA :: rowsA LW :: rowsE LE :: rowsE LX :: F)) (fun st => ((LE.length : Int) - st.1).toNat) ⟨0, rfl, Nat.zero_le _, h⟩ ?_
  clear h
  rintro _ w1 ⟨i, rfl, hi, h⟩ k1 hk1
  dsimp only at hk1 ⊢
  refine NilP.mk ?_
  refine h.loadB 0 0 ⟨_, rfl, rfl⟩ rfl (kd := .sl) (x := k.eq) rfl ?_
  rw [SplitB_iff]
  refine ⟨fun hc => ?_, fun hc => ?_⟩
  · have hc : i < LE.length := by have : (i : Int) < (k.eq.len : Int) := of_decide_eq_true hc; omega
    have hem : IntKind.i64.wrap ((i : Int) + 1) = ((i + 1 : Nat) : Int) := by rw [wr (by omega)]; omega
    rw [hem]
    refine NilP.mk ?_
    refine h.drew.readB 0 0 ⟨_, rfl, rfl⟩ rfl (kd := .sl) (x := k.eq) rfl ?_
    refine (gE h.drew).idxR i rfl (by omega) ?_
    intro g o hga
    refine (gE h.drew).elR hga (i * 1) rfl (kd := .sl) (x := LE[i].1) (atE i hc) ?_
    refine NilP.mk ?_
    refine h.drew.readB 0 0 ⟨_, rfl, rfl⟩ rfl (kd := .sl) (x := k.ew) rfl ?_
    refine (gX h.drew).idxR i rfl (by omega) ?_
    intro g2 o2 hga2
    refine (gX h.drew).elR hga2 (i * 1) rfl (kd := .sl) (x := (LX[i]'(by omega)).1) (atX i hc) ?_
    have hcon : (LX[i]'(by omega)).2 = LE[i].2 := by
      have h1 := congrArg (fun l => l[i]?) hw.ce
      simp only [List.getElem?_map, List.getElem?_eq_getElem hc, List.getElem?_eq_getElem (show i < LX.length by omega), Option.map_some] at h1
      exact (Option.some.inj h1).symm
    have hrw := rdE (show i < LX.length by omega) h.drew (k := 4) rfl
    rw [hcon] at hrw
    refine (sameE_st (rdE hc h.drew (k := 3) rfl) hrw (by have := hw.le _ (List.getElem_mem hc); omega)).mono ?_
    rintro _ w2 ⟨rfl, hu⟩
    rw [SplitB_iff]
    refine ⟨fun hf => (by cases hf), fun _ => ?_⟩
    exact hk1 _ _ ⟨i + 1, rfl, by omega, h.drew.keep hu⟩ (by dsimp only; omega)
  clear hk1 hc hi
  have h : St w0 w1 (kpE k :: rowsA LA :: rowsE LE :: F) := (h.drop 2).drop 3
  refine kp0_box h false ?_
  intro b w2 h
  have h := h.ord 4 [1, 2, 3, 0]
  have h : St w0 w2 (kpE k :: rowsFA LA 0 :: rowsE LE :: kpE (kp0 b) :: F) := by rw [rowsFA_zero]; exact h
  -- all are written full
  refine LoopX.mk (fun st w' => ∃ (i : Nat), st = ((i : Int), ()) ∧ i ≤ LA.length ∧ St w0 w' (kpE k :: rowsFA LA i :: rowsE LE :: kpE (kp0 b) :: F)) (fun st => ((LA.length : Int) - st.1).toNat) ⟨0, rfl, Nat.zero_le _, h⟩ ?_
  clear h
  rintro _ w3 ⟨i, rfl, hi, h⟩ k1 hk1
  dsimp only at hk1 ⊢
  refine NilP.mk ?_
  refine h.loadB 0 0 ⟨_, rfl, rfl⟩ rfl (kd := .sl) (x := k.aq) rfl ?_
  rw [SplitB_iff]
  refine ⟨fun hc => ?_, fun hc => ?_⟩
  · have hc : i < LA.length := by have : (i : Int) < (k.aq.len : Int) := of_decide_eq_true hc; omega
    have hem : IntKind.i64.wrap ((i : Int) + 1) = ((i + 1 : Nat) : Int) := by rw [wr (by omega)]; omega
    rw [hem]
    refine NilP.mk ?_
    refine h.loadB 0 0 ⟨_, rfl, rfl⟩ rfl (kd := .sl) (x := k.aq) rfl ?_
    refine (gA h).idxK i rfl (by omega) ?_
    intro g o hga
    refine (gA h).el hga (i * 1) rfl (kd := .sl) (x := LA[i].1) (atA i hc) ?_
    have hhas : Has (kpE k :: rowsFA LA i :: rowsE LE :: kpE (kp0 b) :: F) 1 i (.row 70 6 LA[i].1 (acs LA[i].2)) := ⟨_, rfl, by rw [nthO_get, rowsFA_at hc, fA, if_neg (by omega)]⟩
    have hp := h.pull hhas
    refine (fillA hp (by have := hw.la _ (List.getElem_mem hc); omega) (i : Int)).mono ?_
    rintro _ w4 h'
    have h := St.putBack h hhas h'
    dsimp only [updG] at h
    rw [rowsFA_set hc] at h
    exact hk1 _ _ ⟨i + 1, rfl, by omega, h⟩ (by dsimp only; omega)
  have hc : i = LA.length := by have : ¬ (i : Int) < (k.aq.len : Int) := of_decide_eq_false hc; omega
  subst hc
  clear hk1 hi
  have h : St w0 w3 (kpE k :: rowsFA LA LA.length :: rowsFE LE 0 :: kpE (kp0 b) :: F) := by rw [rowsFE_zero]; exact h
  refine LoopX.mk (fun st w' => ∃ (i : Nat), st = ((i : Int), ()) ∧ i ≤ LE.length ∧ St w0 w' (kpE k :: rowsFA LA LA.length :: rowsFE LE i :: kpE (kp0 b) :: F)) (fun st => ((LE.length : Int) - st.1).toNat) ⟨0, rfl, Nat.zero_le _, h⟩ ?_
  clear h
  rintro _ w3 ⟨i, rfl, hi, h⟩ k1 hk1
  dsimp only at hk1 ⊢
  refine NilP.mk ?_
  refine h.loadB 0 0 ⟨_, rfl, rfl⟩ rfl (kd := .sl) (x := k.eq) rfl ?_
  rw [SplitB_iff]
  refine ⟨fun hc => ?_, fun hc => ?_⟩
  · have hc : i < LE.length := by have : (i : Int) < (k.eq.len : Int) := of_decide_eq_true hc; omega
    have hem : IntKind.i64.wrap ((i : Int) + 1) = ((i + 1 : Nat) : Int) := by rw [wr (by omega)]; omega
    rw [hem]
    refine NilP.mk ?_
    refine h.loadB 0 0 ⟨_, rfl, rfl⟩ rfl (kd := .sl) (x := k.eq) rfl ?_
    refine (gE h).idxK i rfl (by omega) ?_
    intro g o hga
    refine (gE h).el hga (i * 1) rfl (kd := .sl) (x := LE[i].1) (atE i hc) ?_
    have hhas : Has (kpE k :: rowsFA LA LA.length :: rowsFE LE i :: kpE (kp0 b) :: F) 2 i (.row 54 2 LE[i].1 (eps LE[i].2)) := ⟨_, rfl, by rw [nthO_get, rowsFE_at hc, fE, if_neg (by omega)]⟩
    have hp := h.pull hhas
    refine (fillE hp (by have := hw.le _ (List.getElem_mem hc); omega) (i : Int)).mono ?_
    rintro _ w4 h'
    have h := St.putBack h hhas h'
    dsimp only [updG] at h
    rw [rowsFE_set hc] at h
    exact hk1 _ _ ⟨i + 1, rfl, by omega, h⟩ (by dsimp only; omega)
  have hc : i = LE.length := by have : ¬ (i : Int) < (k.eq.len : Int) := of_decide_eq_false hc; omega
  subst hc
  clear hk1 hi
  -- all are grown
  have h : St w0 w3 (kpE k :: (rowsFA LA LA.length).drop 0 :: rowsFE LE LE.length :: kpE (kp0 b) :: [] :: [] :: F) := h.perm (by simp)
  refine LoopX.mk (fun st w' => ∃ (i : Nat) (t : Kp) (gT gU : List Ent), st = ((i : Int), ()) ∧ i ≤ LA.length ∧ t.cb = b ∧ t.late = false ∧ KpM t i gT gU ∧ St w0 w' (kpE k :: (rowsFA LA LA.length).drop i :: rowsFE LE LE.length :: kpE t :: gT :: gU :: F)) (fun st => ((LA.length : Int) - st.1).toNat) ⟨0, kp0 b, [], [], rfl, Nat.zero_le _, rfl, rfl, kpM0 b, h⟩ ?_
  clear h
  rintro _ w4 ⟨i, t, gT, gU, rfl, hi, htb, htl, hM, h⟩ k1 hk1
  dsimp only at hk1 ⊢
  have hpt : (some (⟨b, 0, none⟩ : Addr)) = t.p := by show some _ = some _; rw [htb]
  refine NilP.mk ?_
  refine h.loadB 0 0 ⟨_, rfl, rfl⟩ rfl (kd := .sl) (x := k.aq) rfl ?_
  rw [SplitB_iff]
  refine ⟨fun hc => ?_, fun hc => ?_⟩
  · have hc : i < LA.length := by have : (i : Int) < (k.aq.len : Int) := of_decide_eq_true hc; omega
    have hem : IntKind.i64.wrap ((i : Int) + 1) = ((i + 1 : Nat) : Int) := by rw [wr (by omega)]; omega
    rw [hem]
    refine NilP.mk ?_
    refine h.loadB 0 0 ⟨_, rfl, rfl⟩ rfl (kd := .sl) (x := k.aq) rfl ?_
    refine (gA h).idxK i rfl (by omega) ?_
    intro g o hga
    refine (gA h).el hga (i * 1) rfl (kd := .sl) (x := LA[i].1) (atA i hc) ?_
    have hhas : Has (kpE k :: (rowsFA LA LA.length).drop i :: rowsFE LE LE.length :: kpE t :: gT :: gU :: F) 1 0 (.row 70 6 LA[i].1 (rep (mvA (i : Int)) LA[i].2.length)) :=
      ⟨_, rfl, by rw [nthO_get, List.getElem?_drop, Nat.add_zero, rowsFA_at hc, fA, if_pos hc]⟩
    have h := h.pull hhas
    dsimp only [updG] at h
    rw [delO_drop, List.nil_append] at h
    have h := h.ord 7 [0, 4, 1, 2, 3, 5, 6]
    dsimp only [pick, nthO, dropO] at h
    have hna' := hM.na
    have ham := hM.n.am
    have hcl := hw.la _ (List.getElem_mem hc)
    rw [hpt]
    refine (holdA h (by omega) (by omega) (by omega)).mono ?_
    rintro _ w5 ⟨qa, qm, ls, g2, h1, h2, h3, h⟩
    refine hk1 _ _ ⟨i + 1, { t with A := t.A ++ ls, aq := qa, M := t.M ++ List.replicate ls.length (i : Int), am := qm }, g2 ++ gT, gU, rfl, by omega, htb, htl, hM.holdA (by omega) h1 h2 h3, ?_⟩ (by dsimp only; omega)
    have h := h.ord 7 [2, 3, 4, 1, 0, 5, 6]
    exact h.perm (by simp [pick, nthO, dropO])
  have hc : i = LA.length := by have : ¬ (i : Int) < (k.aq.len : Int) := of_decide_eq_false hc; omega
  subst hc
  clear hk1 hi
  have h : St w0 w4 (kpE k :: (rowsFE LE LE.length).drop 0 :: kpE t :: gT :: gU :: F) := h.drop 1
  refine LoopX.mk (fun st w' => ∃ (i : Nat) (t : Kp) (gT gU : List Ent), st = ((i : Int), ()) ∧ i ≤ LE.length ∧ t.cb = b ∧ t.late = false ∧ KpM t (LA.length + i) gT gU ∧ St w0 w' (kpE k :: (rowsFE LE LE.length).drop i :: kpE t :: gT :: gU :: F)) (fun st => ((LE.length : Int) - st.1).toNat) ⟨0, t, gT, gU, rfl, Nat.zero_le _, htb, htl, hM, h⟩ ?_
  clear h hM hpt htb htl
  rintro _ w5 ⟨i, t, gT, gU, rfl, hi, htb, htl, hM, h⟩ k1 hk1
  dsimp only at hk1 ⊢
  have hpt : (some (⟨b, 0, none⟩ : Addr)) = t.p := by show some _ = some _; rw [htb]
  refine NilP.mk ?_
  refine h.loadB 0 0 ⟨_, rfl, rfl⟩ rfl (kd := .sl) (x := k.eq) rfl ?_
  rw [SplitB_iff]
  refine ⟨fun hc => ?_, fun hc => ?_⟩
  · have hc : i < LE.length := by have : (i : Int) < (k.eq.len : Int) := of_decide_eq_true hc; omega
    have hem : IntKind.i64.wrap ((i : Int) + 1) = ((i + 1 : Nat) : Int) := by rw [wr (by omega)]; omega
    rw [hem]
    refine NilP.mk ?_
    refine h.loadB 0 0 ⟨_, rfl, rfl⟩ rfl (kd := .sl) (x := k.eq) rfl ?_
    refine (gE h).idxK i rfl (by omega) ?_
    intro g o hga
    refine (gE h).el hga (i * 1) rfl (kd := .sl) (x := LE[i].1) (atE i hc) ?_
    have hhas : Has (kpE k :: (rowsFE LE LE.length).drop i :: kpE t :: gT :: gU :: F) 1 0 (.row 54 2 LE[i].1 (rep (mvE (i : Int)) LE[i].2.length)) :=
      ⟨_, rfl, by rw [nthO_get, List.getElem?_drop, Nat.add_zero, rowsFE_at hc, fE, if_pos hc]⟩
    have h := h.pull hhas
    dsimp only [updG] at h
    rw [delO_drop, List.nil_append] at h
    have h := h.ord 6 [0, 3, 1, 2, 4, 5]
    dsimp only [pick, nthO, dropO] at h
    have hne' := hM.ne
    have hen := hM.n.en
    have hcl := hw.le _ (List.getElem_mem hc)
    rw [hpt]
    refine (holdE h (by omega) (by omega) (by omega)).mono ?_
    rintro _ w6 ⟨qa, qm, ls, g2, h1, h2, h3, h⟩
    refine hk1 _ _ ⟨i + 1, { t with E := t.E ++ ls, eq := qa, N := t.N ++ List.replicate ls.length (i : Int), em := qm }, gT, g2 ++ gU, rfl, by omega, htb, htl, hM.holdE (by omega) h1 h2 h3, ?_⟩ (by dsimp only; omega)
    have h := h.ord 6 [2, 3, 1, 4, 0, 5]
    exact h.perm (by simp [pick, nthO, dropO])
  have hna' := hM.na
  have hne' := hM.ne
  have h := h.ord 5 [2, 3, 4]
  dsimp only [pick, nthO, dropO] at h
  rw [hpt]
  exact whole_st h htl hM.n (by omega) (by omega) (fun s hs => by have := hM.la s hs; omega) (fun s hs => by have := hM.le s hs; omega)
/-- All that was answered is as it was left. -/
theorem all_whole {k : Kp} {N : Nat} {gA gW gE gX : List Ent} (h : St w0 w (kpE k :: gA :: gW :: gE :: gX :: F)) (hw : KpW k N gA gW gE gX) (hN : N ≤ 10000000) : CallK Try.prog .bool 17 #[.pointer k.p] w fun (v : Bool) w' => v = true ∧ Upd w0 w' nobody := by
  rcases hw with ⟨hlate, hw⟩ | ⟨hlate, LA, LW, LE, LX, rfl, rfl, rfl, rfl, hw⟩
  · have hna := hw.na
    have hne := hw.ne
    have h := h.ord 5 [0, 1, 3]
    dsimp only [pick, nthO, dropO] at h
    exact whole_st h hlate hw.n (by omega) (by omega) (fun s hs => by have := hw.la s hs; omega) (fun s hs => by have := hw.le s hs; omega)
  · refine T17.calls ?_
    unfold T17
    refine NilP.mk ?_
    refine h.loadB 0 0 ⟨_, rfl, rfl⟩ rfl (kd := .bool) (x := k.late) rfl ?_
    rw [hlate, SplitB_iff]
    refine ⟨fun _ => ?_, fun hf => (by cases hf)⟩
    refine (lately_st h hw hN).mono ?_
    rintro v w1 ⟨rfl, hu⟩
    exact ⟨rfl, hu⟩
end Go.Proofs.Ytmfbmfppjdkeeaa

/- A machine and the document's side by side: a call, what can be looked at. -/
namespace Go.Proofs.Ytmfbmfppjdkeeaa
open Go Go.Fw Go.RowKit
set_option linter.unusedVariables false
set_option linter.unusedSimpArgs false
set_option maxRecDepth 4000
set_option maxHeartbeats 4000000
variable {w0 w : World} {F G : Grps}

/-! ### the document's first answers -/
def ab1 : Mv := ((mv0 1 3).begin_ 10 4 0 false).2.2
theorem ab_acts : ((mv0 1 3).begin_ 10 4 0 false).1 = [(1, -1, 1, 1, 0, 0)] := by decide +kernel
theorem ab_err : ((mv0 1 3).begin_ 10 4 0 false).2.1 = 0 := by decide +kernel
theorem ab_look : ab1.look 10 10 0 = [(4, 1, 1, 1, 0, 0)] := by decide +kernel
theorem ab_top : someE ab1.top = true := by decide +kernel
theorem able_st (h : St w0 w F) : CallK Try.prog .bool 11 #[] w fun (v : Bool) w' => v = true ∧ St w0 w' F := by
  refine T11.calls ?_
  unfold T11
  refine (new_st h 1 3).mono ?_
  rintro _ w1 (⟨h0, _⟩ | ⟨_, e, rfl, h1, h2, h3, hw, h⟩)
  · exact absurd (by decide) h0
  have h1 : e.me = 1 := by omega
  have h2 : e.n = 3 := by omega
  rw [h1, h2] at h3
  refine JoinX.mk (fun (y : Bool × Unit) w' => y.1 = false ∧ St w0 w' (emE e [] :: F)) ?_ ?_
  · rintro ⟨y, ⟨⟩⟩ w2 ⟨hy, h⟩
    dsimp only at hy
    subst hy
    rw [SplitB_iff]
    refine ⟨fun hf => (by cases hf), fun _ => ?_⟩
    refine (begin_st h hw 10 4 0 false).mono ?_
    rintro _ w3 ⟨s, e1, rfl, g1, g2, g3, h⟩
    rw [h3] at g2 g3 h
    rw [h3, ab_err]
    rw [ab_acts] at g3 h
    have hw1 : e1.wf := by rw [g2]; exact wf_begin (wf_mv0 (by omega) (by omega)) _ _ _ _
    have hp : e.p = e1.p := by show some _ = some _; rw [g1]
    have hs : s.len = 1 := g3
    have hrd : ∀ {w' : World}, St w0 w' ([.row 70 6 s (acs [(1, -1, 1, 1, 0, 0)])] :: emE e1 [] :: F) → Rd w' s 6 (acs [(1, -1, 1, 1, 0, 0)]) := fun h => h.rd (k := 0) (i := 0) (E := 70) (sz := 6) (s := s) ⟨_, rfl, rfl⟩
    refine JoinX.mk (fun (y : Bool × Unit) w' => y.1 = false ∧ St w0 w' ([.row 70 6 s (acs [(1, -1, 1, 1, 0, 0)])] :: emE e1 [] :: F)) ?_ ?_
    · rintro ⟨y, ⟨⟩⟩ w4 ⟨hy, h⟩
      dsimp only at hy
      subst hy
      rw [SplitB_iff]
      refine ⟨fun hf => (by cases hf), fun _ => ?_⟩
      have h := h.drop 0
      rw [hp]
      refine (look_st h hw1 10 10 0).mono ?_
      rintro s2 w5 ⟨e2, k1, k2, k3, h⟩
      have g2 : e1.toMv = ab1 := g2
      rw [g2, ab_look] at k3 h
      rw [SplitB_iff]
      refine ⟨fun _ => ?_, fun hf => ?_⟩
      · have hs2 : s2.len = 1 := k3
        have hrd2 := h.rd (k := 0) (i := 0) (E := 70) (sz := 6) (s := s2) ⟨_, rfl, rfl⟩
        refine hrd2.idxK 0 rfl (by omega) ?_
        intro g o ha
        refine hrd2.el ha 0 (add_lit' _ _ _) (kd := .int .i64) (x := 4) rfl ?_
        rw [SplitB_iff]
        refine ⟨fun _ => ?_, fun hf => (by cases hf)⟩
        have h := h.drop 0
        have hp2 : e1.p = e2.p := by show some _ = some _; rw [k1]
        rw [hp2]
        refine (frozen_st h (by rw [k2]; exact hw1)).mono ?_
        rintro _ w6 ⟨rfl, h⟩
        rw [k2, g2, ab_top]
        exact ⟨rfl, h.drop 0⟩
      · exfalso
        have : ¬ (s2.len : Int) = 1 := by simpa using hf
        have : s2.len = 1 := k3
        omega
    · intro k3 hk3
      rw [SplitB_iff]
      refine ⟨fun hf => (by cases hf), fun _ => ?_⟩
      dsimp only
      rw [SplitB_iff]
      refine ⟨fun hf => ?_, fun _ => ?_⟩
      · exfalso
        have : (s.len : Int) ≠ 1 := by simpa using hf
        omega
      refine (hrd h).idxK 0 rfl (by omega) ?_
      intro g o ha
      refine (hrd h).el ha 0 (add_lit' _ _ _) (kd := .int .i64) (x := 1) rfl ?_
      rw [SplitB_iff]
      refine ⟨fun hf => (by cases hf), fun _ => ?_⟩
      refine (hrd h).idxK 0 rfl (by omega) ?_
      intro g o ha
      refine (hrd h).el ha 1 (add_lit' _ _ _) (kd := .int .i64) (x := -1) rfl ?_
      rw [SplitB_iff]
      refine ⟨fun hf => (by cases hf), fun _ => ?_⟩
      refine (hrd h).idxK 0 rfl (by omega) ?_
      intro g o ha
      refine (hrd h).elA ha 2 (add_lit' _ _ _) (kd := Kd2) (1, 1, ()) rfl ?_
      refine RunN.k2Ne ?_
      exact hk3 _ _ ⟨rfl, h⟩
  · intro k1 hk1
    refine RunN.pEqS ?_
    rw [SplitB_iff]
    refine ⟨fun hf => (by cases hf), fun _ => ?_⟩
    exact hk1 _ _ ⟨rfl, h⟩
/-! ### both -/
structure PrW (e : Em) (r : Rm) (N : Nat) : Prop where
  ew : e.wf
  rw' : r.wf N
  rel : Rel e.toMv r.toRn
theorem PrW.mono {e : Em} {r : Rm} {N M : Nat} (h : PrW e r N) (hm : N ≤ M) : PrW e r M := ⟨h.ew, h.rw'.mono hm, h.rel⟩
def cpE (b : Nat) (e : Em) (r : Rm) : List Ent := [.cel b 45 [.pointer e.p, .pointer r.p]]
theorem begin2_st {b : Nat} (h : St w0 w ([.cel b 45 [.pointer none, .pointer none]] :: F)) (me n : Int) : CallK Try.prog .bool 15 #[.pointer (some ⟨b, 0, none⟩), .int .i64 me, .int .i64 n] w fun (v : Bool) w' => v = true ∧
    (St w0 w' ([.cel b 45 [.pointer none, .pointer none]] :: F) ∨ ∃ e r, PrW e r 0 ∧ St w0 w' (emE e [] :: rmE r :: cpE b e r :: F)) := by
  refine T15.calls ?_
  unfold T15
  refine (new_st h me n).mono ?_
  rintro _ w1 (⟨h0, rfl, h⟩ | ⟨h0, e, rfl, h1, h2, h3, hw, h⟩)
  · refine (rnew_st h me n).mono ?_
    rintro _ w2 (⟨_, rfl, h⟩ | ⟨h0', _⟩)
    · refine NilP.mk ?_
      refine h.storB 0 0 ⟨_, rfl, rfl⟩ rfl rfl rfl ?_
      intro w3 h
      refine NilP.mk ?_
      refine h.storB 0 0 ⟨_, rfl, rfl⟩ rfl rfl rfl ?_
      intro w4 h
      rw [SplitB_iff]
      refine ⟨fun _ => ?_, fun hf => ?_⟩
      · refine RunN.pEqN (RunN.pEqN ?_)
        exact ⟨rfl, .inl h⟩
      · simp at hf
    · exact absurd h0' h0
  · refine (rnew_st h me n).mono ?_
    rintro _ w2 (⟨h0', _⟩ | ⟨_, r, rfl, g1, g2, g3, hr, h⟩)
    · exact absurd h0 h0'
    · have h := h.ord 3 [2, 0, 1]
      refine NilP.mk ?_
      refine h.storB 0 0 ⟨_, rfl, rfl⟩ rfl rfl rfl ?_
      intro w3 h
      refine NilP.mk ?_
      refine h.storB 0 0 ⟨_, rfl, rfl⟩ rfl rfl rfl ?_
      intro w4 h
      rw [SplitB_iff]
      refine ⟨fun _ => ?_, fun hf => ?_⟩
      · refine RunN.pEqS (RunN.pEqS ?_)
        refine ⟨rfl, .inr ⟨e, r, ⟨hw, hr, ?_⟩, h.ord 3 [2, 1, 0]⟩⟩
        have e1 : r.me = e.me := by omega
        have e2 : r.n = e.n := by omega
        rw [h3, g3, e1, e2]
        exact rel0
      · simp at hf
theorem looks_st {b N M : Nat} {e : Em} {r : Rm} {k : Kp} {gA gW gE gX : List Ent} (h : St w0 w (emE e [] :: rmE r :: cpE b e r :: kpE k :: gA :: gW :: gE :: gX :: F)) (hp : PrW e r N) (hN : N ≤ 100000000) (hk : KpW k M gA gW gE gX) (hM : M ≤ 10000000) :
    CallK Try.prog .bool 43 #[.pointer (some ⟨b, 0, none⟩), .pointer k.p] w fun (v : Bool) w' => v = true ∧ ∃ k' gE' gX', k'.cb = k.cb ∧ k'.late = k.late ∧ KpW k' (M + 1) gA gW gE' gX' ∧ St w0 w' (emE e [] :: rmE r :: cpE b e r :: kpE k' :: gA :: gW :: gE' :: gX' :: F) := by
  refine T43.calls ?_
  unfold T43
  have hw := hp.ew
  have hr := hp.rw'
  have hrel := hp.rel
  have hn := hw.n
  refine NilP.mk ?_
  refine h.loadB 2 0 ⟨_, rfl, rfl⟩ rfl (kd := .ptr) (x := e.p) rfl ?_
  refine (lives_st h hw).mono ?_
  rintro s w1 ⟨hs, h⟩
  refine NilP.mk ?_
  refine h.loadB 3 0 ⟨_, rfl, rfl⟩ rfl (kd := .ptr) (x := r.p) rfl ?_
  have h := h.ord 3 [2, 0, 1]
  refine (rlives_st h hr (by omega)).mono ?_
  rintro s2 w2 ⟨hs2, h⟩
  rw [hrel.lives] at hs2 h
  have hll : e.lives.length ≤ e.n := livesTo_len e.toMv e.n
  have hrd1 := h.rd (k := 2) (i := 0) (E := 54) (sz := 2) (s := s) (vs := eps e.lives) ⟨_, rfl, rfl⟩
  have hrd2 := h.rd (k := 0) (i := 0) (E := 54) (sz := 2) (s := s2) (vs := eps e.lives) ⟨_, rfl, rfl⟩
  refine (sameE_st hrd1 hrd2 (by omega)).mono ?_
  rintro _ w3 ⟨rfl, hu⟩
  have h := h.keep hu
  have h := h.ord 10 [2, 5, 6, 7, 8, 9, 3, 1, 4]
  refine (putE_st h hk hM (by omega)).mono ?_
  rintro _ w4 ⟨k', gE', gX', q1, q2, q3, h⟩
  have h := h.ord 8 [5, 6, 7, 0, 1, 2, 3, 4]
  have h : St w0 w4 (emE e [] :: rmE r :: cpE b e r :: kpE k' :: gA :: gW :: gE' :: gX' :: F) := h
  refine NilP.mk ?_
  refine h.loadB 2 0 ⟨_, rfl, rfl⟩ rfl (kd := .ptr) (x := r.p) rfl ?_
  have h := h.ord 2 [1, 0]
  refine (rown_st h hr (by omega)).mono ?_
  rintro _ w5 ⟨rfl, h⟩
  rw [hrel.own hw]
  have h := h.ord 2 [1, 0]
  first | refine h.newB (NewC.run _) rfl ?_ | refine h.drew.newB (NewC.run _) rfl ?_
  intro b7 w h
  have h := h.ord 2 [1, 0]
  dsimp only [pick, nthO, dropO] at h
  refine h.stor2 1 0 ⟨_, rfl, rfl⟩ rfl ?_
  intro w6 h
  dsimp only [updG, setO] at h
  generalize hF2 : (kpE k' :: gA :: gW :: gE' :: gX' :: F) = F2
  have h : St w0 w6 (emE e [] :: [.cel b7 54 [.int .i64 e.own.1, .int .i64 e.own.2]] :: rmE r :: cpE b e r :: F2) := by rw [← hF2]; exact h
  have hdone : ∀ {w' : World}, St w0 w' (emE e [] :: [.cel b7 54 [.int .i64 e.own.1, .int .i64 e.own.2]] :: rmE r :: cpE b e r :: F2) → ∃ k' gE' gX', k'.cb = k.cb ∧ k'.late = k.late ∧ KpW k' (M + 1) gA gW gE' gX' ∧ St w0 w' (emE e [] :: rmE r :: cpE b e r :: kpE k' :: gA :: gW :: gE' :: gX' :: F) := by
    intro w' h
    rw [← hF2] at h
    exact ⟨k', gE', gX', q1, q2, q3, h.drop 1⟩
  rw [SplitB_iff]
  refine ⟨fun _ => ?_, fun hf => (by cases hf)⟩
  have rd3 : ∀ {w' : World} {K : Option Addr → Prop}, St w0 w' (emE e [] :: [.cel b7 54 [.int .i64 e.own.1, .int .i64 e.own.2]] :: rmE r :: cpE b e r :: F2) → K e.p → ReadN Try.prog .ptr (V (Instr.loadAt 42 (.pointer (some ((⟨b, 0, none⟩ : Addr).add 0))))) w' K := fun h hk => h.readB 3 0 ⟨_, rfl, rfl⟩ rfl (kd := .ptr) (x := e.p) rfl hk
  have rd4 : ∀ {w' : World} {K : Option Addr → Prop}, St w0 w' (emE e [] :: [.cel b7 54 [.int .i64 e.own.1, .int .i64 e.own.2]] :: rmE r :: cpE b e r :: F2) → K r.p → ReadN Try.prog .ptr (V (Instr.loadAt 43 (.pointer (some ((⟨b, 0, none⟩ : Addr).add 1))))) w' K := fun h hk => h.readB 3 0 ⟨_, rfl, rfl⟩ rfl (kd := .ptr) (x := r.p) rfl hk
  have st4 : ∀ {w' : World}, St w0 w' (emE e [] :: [.cel b7 54 [.int .i64 e.own.1, .int .i64 e.own.2]] :: rmE r :: cpE b e r :: F2) → StillV Try.prog (V (Instr.loadAt 43 (.pointer (some ((⟨b, 0, none⟩ : Addr).add 1))))) (.pointer r.p) w' := fun h => h.stillB 3 0 ⟨_, rfl, rfl⟩ rfl rfl
  have toR : ∀ {w' : World}, St w0 w' (emE e [] :: [.cel b7 54 [.int .i64 e.own.1, .int .i64 e.own.2]] :: rmE r :: cpE b e r :: F2) → St w0 w' (rmE r :: emE e [] :: [.cel b7 54 [.int .i64 e.own.1, .int .i64 e.own.2]] :: cpE b e r :: F2) := fun h => h.ord 3 [2, 0, 1]
  have toE : ∀ {w' : World}, St w0 w' (rmE r :: emE e [] :: [.cel b7 54 [.int .i64 e.own.1, .int .i64 e.own.2]] :: cpE b e r :: F2) → St w0 w' (emE e [] :: [.cel b7 54 [.int .i64 e.own.1, .int .i64 e.own.2]] :: rmE r :: cpE b e r :: F2) := fun h => h.ord 3 [1, 2, 0]
  refine NilP.mk ?_
  refine rd3 h.drew ?_
  refine NilP.mk ?_
  refine rd4 h.drew ?_
  refine (frozen_st h.drew hw).mono ?_
  rintro _ w7 ⟨rfl, h⟩
  refine ⟨st4 h, ?_⟩
  refine (rfrozen_st (toR h) hr (by omega)).mono ?_
  rintro _ w8 ⟨rfl, h⟩
  have h := toE h
  have efr : (someE e.top == decide (r.lives.length > 0)) = true := by
    rw [hrel.lives]
    rcases top_some hw with ⟨g1, g2⟩ | ⟨g1, _, _, g2⟩
    · rw [g1, g2]; rfl
    · rw [g2, decide_eq_true (List.length_pos_iff.2 g1)]; rfl
  rw [efr, SplitB_iff]
  refine ⟨fun _ => ?_, fun hf => (by cases hf)⟩
  refine NilP.mk ?_
  refine rd3 h ?_
  refine NilP.mk ?_
  refine rd4 h ?_
  refine (top_st h hw).mono ?_
  rintro _ w9 ⟨rfl, h⟩
  refine ⟨st4 h, ?_⟩
  refine (rtop_st (toR h) hr (by omega)).mono ?_
  rintro _ w10 ⟨rfl, h⟩
  have h := toE h
  refine ReadN.k2Eq ?_
  rw [hrel.top, eq_ep e.top e.top, decide_eq_true rfl, SplitB_iff]
  refine ⟨fun _ => ?_, fun hf => (by cases hf)⟩
  refine NilP.mk ?_
  refine rd3 h ?_
  refine h.read2 1 0 ⟨_, rfl, rfl⟩ rfl ?_
  refine (own_st h hw).mono ?_
  rintro _ w11 ⟨rfl, h⟩
  refine ⟨h.still2 1 0 ⟨_, rfl, rfl⟩ rfl, ?_⟩
  refine ReadN.k2Eq ?_
  rw [eq_ep e.own e.own, decide_eq_true rfl, SplitB_iff]
  refine ⟨fun _ => ?_, fun hf => (by cases hf)⟩
  refine NilP.mk ?_
  refine rd3 h ?_
  refine h.readB 1 0 ⟨_, rfl, rfl⟩ rfl rfl ?_
  refine (all_st h hw).mono ?_
  rintro _ w12 ⟨rfl, h⟩
  refine ⟨h.stillB 1 0 ⟨_, rfl, rfl⟩ rfl rfl, ?_⟩
  have eall := all_eq hrel hw
  have fin : ∀ {w' : World}, St w0 w' (emE e [] :: [.cel b7 54 [.int .i64 e.own.1, .int .i64 e.own.2]] :: rmE r :: cpE b e r :: F2) →
      (NilP (some ⟨b, 0, none⟩) fun t84 => ReadN Try.prog .ptr (V (Instr.loadAt 42 (.pointer (some (t84.add 0))))) w' fun t86 =>
        NilP (some ⟨b, 0, none⟩) fun t89 => ReadN Try.prog .ptr (V (Instr.loadAt 43 (.pointer (some (t89.add 1))))) w' fun t91 =>
        CallK Try.prog (.int .i64) 49 #[.pointer t86] w' fun (t87 : Int) w =>
        StillV Try.prog (V (Instr.loadAt 43 (.pointer (some (t89.add 1))))) (.pointer t91) w ∧
        CallK Try.prog (.int .i64) 67 #[.pointer t91] w fun (t92 : Int) w => (t87 == t92) = true ∧ ∃ k' gE' gX', k'.cb = k.cb ∧ k'.late = k.late ∧ KpW k' (M + 1) gA gW gE' gX' ∧ St w0 w (emE e [] :: rmE r :: cpE b e r :: kpE k' :: gA :: gW :: gE' :: gX' :: F)) := by
    intro w' h
    refine NilP.mk ?_
    refine rd3 h ?_
    refine NilP.mk ?_
    refine rd4 h ?_
    refine (reported_st h hw).mono ?_
    rintro _ w13 ⟨rfl, h⟩
    refine ⟨st4 h, ?_⟩
    refine (rreported_st (toR h) hr (by omega)).mono ?_
    rintro _ w14 ⟨rfl, h⟩
    have h := toE h
    exact ⟨by rw [reported_eq hrel hw]; simp, hdone h⟩
  rw [SplitB_iff]
  refine ⟨fun h1 => ?_, fun h1 => ?_⟩
  · rw [h1, Bool.true_and] at eall
    refine NilP.mk ?_
    refine rd4 h ?_
    refine (rall_st (toR h) hr (by omega)).mono ?_
    rintro _ w13 ⟨rfl, h⟩
    have h := toE h
    rw [eall, SplitB_iff]
    refine ⟨fun _ => ?_, fun hf => (by simp at hf)⟩
    exact fin h
  · rw [h1, Bool.false_and] at eall
    rw [eall, SplitB_iff]
    refine ⟨fun _ => ?_, fun hf => (by cases hf)⟩
    exact fin h
end Go.Proofs.Ytmfbmfppjdkeeaa

/- A machine and the document's side by side: a call is played. -/
namespace Go.Proofs.Ytmfbmfppjdkeeaa
open Go Go.Fw Go.RowKit
set_option linter.unusedVariables false
set_option linter.unusedSimpArgs false
set_option maxRecDepth 4000
set_option maxHeartbeats 4000000
variable {w0 w : World} {F G : Grps}

structure Ca where
  who : Int
  kind : Int
  limit : Int
  rights : Int
  held : Int
  all : Bool
  own : Bool
  fr : Int
  e : Ep
  o : Ep
def cav (c : Ca) : List Value := [.int .i64 c.who, .int .i64 c.kind, .int .i64 c.limit, .int .i64 c.rights, .int .i64 c.held, .bool c.all, .bool c.own, .int .i64 c.fr, .int .i64 c.e.1, .int .i64 c.e.2, .int .i64 c.o.1, .int .i64 c.o.2]
theorem cav_len (c : Ca) : (cav c).length = 12 := rfl
abbrev cavs (l : List Ca) : List Value := l.flatMap cav
def cat (c : Ca) : (Int × Int × Int × Int × Int × Bool × Bool × Int × Int × Int × Int × Int × Unit) := (c.who, c.kind, c.limit, c.rights, c.held, c.all, c.own, c.fr, c.e.1, c.e.2, c.o.1, c.o.2, ())
theorem turn_len (e : Mv) (was : Ep) : (e.turn was).1.length ≤ 3 := by
  rw [Mv.turn]
  split
  · have := tailA_len e.me e.own e.top e.own
    simp; omega
  · have := tailA_len e.me e.own e.top was
    dsimp only; omega
theorem look_len (e : Mv) (a b c : Int) : (e.look a b c).length ≤ 1 := by rw [Mv.look]; split <;> simp
theorem begin_len (e : Mv) (a b c : Int) (d : Bool) : (e.begin_ a b c d).1.length ≤ 3 := by
  rw [Mv.begin_]
  have := look_len (e.fresh d) a b c
  repeat' split
  all_goals (dsimp only; first | omega | simp)
theorem finish_len (e : Mv) : e.finish.1.length ≤ 3 := by
  rw [Mv.finish]
  split
  · exact turn_len _ _
  · simp
theorem played_st {b N M : Nat} {e : Em} {r : Rm} {k : Kp} {gA gW gE gX : List Ent} (h : St w0 w (emE e [] :: rmE r :: cpE b e r :: kpE k :: gA :: gW :: gE :: gX :: F)) (hp : PrW e r N) (hN : N ≤ 10000000) (hk : KpW k M gA gW gE gX) (hM : M ≤ 1000000 * 9) (c : Ca) :
    CallK Try.prog .bool 16 #[.pointer (some ⟨b, 0, none⟩), .agg ⟨cav c⟩, .pointer k.p] w fun (v : Bool) w' => v = true ∧ ∃ e' r' k' gA' gW' gE' gX', PrW e' r' (N + 4) ∧ e'.cb = e.cb ∧ r'.cb = r.cb ∧ k'.cb = k.cb ∧ KpW k' (M + 2) gA' gW' gE' gX' ∧
      St w0 w' (emE e' [] :: rmE r' :: cpE b e' r' :: kpE k' :: gA' :: gW' :: gE' :: gX' :: F) := by
  refine T16.calls (p1 := cat c) ?_
  unfold T16
  refine h.newB run_boxA rfl ?_
  intro b4 w1 h
  have hw := hp.ew
  have hr := hp.rw'
  have hrel := hp.rel
  generalize hF2 : (kpE k :: gA :: gW :: gE :: gX :: F) = F2
  have h : St w0 w1 (emE e [] :: rmE r :: cpE b e r :: [.cel b4 56 (cav c)] :: F2) := by
    rw [← hF2]; exact h.ord 4 [1, 2, 3, 0]
  refine JoinX.mk (fun (_ : Unit) w' => ∃ c2 : Ca, St w0 w' (emE e [] :: rmE r :: cpE b e r :: [.cel b4 56 (cav c2)] :: F2)) ?_ ?_
  · rintro ⟨⟩ w2 ⟨c2, h⟩
    refine JoinX.mk (fun (y : Sl × Sl × Int × Int × Unit) w' => ∃ (e' : Em) (r' : Rm) (l : List A6), PrW e' r' (N + 4) ∧ l.length ≤ 3 ∧ e'.cb = e.cb ∧ r'.cb = r.cb ∧ y.2.2.1 = y.2.2.2.1 ∧ St w0 w' ([.row 70 6 y.1 (acs l)] :: [.row 114 6 y.2.1 (acs l)] :: emE e' [] :: rmE r' :: cpE b e' r' :: F2)) ?_ ?_
    · rintro ⟨s, t, er, er2, ⟨⟩⟩ w3 ⟨e', r', l, hp', hl, h1, h2, h3, h⟩
      dsimp only at h3 h
      subst h3
      refine JoinX.mk (fun (y : Bool × Unit) w' => y.1 = true ∧ St w0 w' ([.row 70 6 s (acs l)] :: [.row 114 6 t (acs l)] :: emE e' [] :: rmE r' :: cpE b e' r' :: F2)) ?_ ?_
      · rintro ⟨y, ⟨⟩⟩ w4 ⟨hy, h⟩
        dsimp only at hy
        subst hy
        rw [← hF2] at h
        have h := h.ord 10 [0, 5, 6, 7, 8, 9, 2, 3, 4]
        refine (putA_st h hk (by omega) (by omega)).mono ?_
        rintro _ w5 ⟨k1, gA1, gW1, q1, q2, q3, h⟩
        have h := h.ord 8 [5, 6, 7, 0, 1, 2, 3, 4]
        have hpk : k.p = k1.p := by show some _ = some _; rw [q1]
        rw [hpk]
        refine (looks_st h hp' (by omega) q3 (by omega)).mono ?_
        rintro _ w6 ⟨rfl, k2, gE2, gX2, q4, q5, q6, h⟩
        rw [SplitB_iff]
        refine ⟨fun _ => ?_, fun hf => (by cases hf)⟩
        exact ⟨rfl, e', r', k2, gA1, gW1, gE2, gX2, hp', h1, h2, q4.trans q1, q6, h⟩
      · intro k5 hk5
        rw [SplitB_iff]
        refine ⟨fun _ => ?_, fun hf => (by simp at hf)⟩
        refine (same_st (h.rd (k := 0) (i := 0) (E := 70) (sz := 6) (s := s) (vs := acs l) ⟨_, rfl, rfl⟩) (h.rd (k := 1) (i := 0) (E := 114) (sz := 6) (s := t) (vs := acs l) ⟨_, rfl, rfl⟩) (by omega)).mono ?_
        rintro _ w4 ⟨rfl, hu⟩
        exact hk5 _ _ ⟨by simp, h.keep hu⟩
    · intro k3 hk3
      have fin : ∀ {w' : World} {s t : Sl} {er : Int} {e' : Em} {r' : Rm} {l : List A6}, PrW e' r' (N + 4) → l.length ≤ 3 → e'.cb = e.cb → r'.cb = r.cb →
          St w0 w' ([.row 114 6 t (acs l)] :: rmE r' :: [.row 70 6 s (acs l)] :: emE e' [] :: cpE b e r :: [.cel b4 56 (cav c2)] :: F2) → k3 (s, t, er, er, ()) w' := by
        intro w' s t er e' r' l g1 g2 g3 g4 h
        have hcp : cpE b e r = cpE b e' r' := by
          show [Ent.cel b 45 [.pointer (some ⟨e.cb, 0, none⟩), .pointer (some ⟨r.cb, 0, none⟩)]] = [Ent.cel b 45 [.pointer (some ⟨e'.cb, 0, none⟩), .pointer (some ⟨r'.cb, 0, none⟩)]]
          rw [g3, g4]
        rw [hcp] at h
        exact hk3 _ _ ⟨e', r', l, g1, g2, g3, g4, rfl, h.ord 6 [2, 0, 3, 1, 4]⟩
      refine h.loadB 3 0 ⟨_, rfl, rfl⟩ rfl (kd := .int .i64) (x := c2.kind) rfl ?_
      rw [SplitB_iff]
      refine ⟨fun _ => ?_, fun _ => ?_⟩
      · -- Begin
        refine NilP.mk ?_
        refine h.drew.readB 2 0 ⟨_, rfl, rfl⟩ rfl (kd := .ptr) (x := e.p) rfl ?_
        refine h.drew.readB 3 0 ⟨_, rfl, rfl⟩ rfl (kd := .int .i64) (x := c2.limit) rfl ?_
        refine h.drew.readB 3 0 ⟨_, rfl, rfl⟩ rfl (kd := .int .i64) (x := c2.rights) rfl ?_
        refine h.drew.readB 3 0 ⟨_, rfl, rfl⟩ rfl (kd := .int .i64) (x := c2.held) rfl ?_
        refine h.drew.readB 3 0 ⟨_, rfl, rfl⟩ rfl (kd := .bool) (x := c2.all) rfl ?_
        refine (begin_st h.drew hw c2.limit c2.rights c2.held c2.all).mono ?_
        rintro _ w3 ⟨s, e', rfl, g1, g2, g3, h⟩
        refine NilP.mk ?_
        refine h.drew.readB 3 0 ⟨_, rfl, rfl⟩ rfl (kd := .ptr) (x := r.p) rfl ?_
        refine h.drew.readB 4 0 ⟨_, rfl, rfl⟩ rfl (kd := .int .i64) (x := c2.limit) rfl ?_
        refine h.drew.readB 4 0 ⟨_, rfl, rfl⟩ rfl (kd := .int .i64) (x := c2.rights) rfl ?_
        refine h.drew.readB 4 0 ⟨_, rfl, rfl⟩ rfl (kd := .int .i64) (x := c2.held) rfl ?_
        refine h.drew.readB 4 0 ⟨_, rfl, rfl⟩ rfl (kd := .bool) (x := c2.all) rfl ?_
        have h := h.drew.ord 5 [2, 0, 1, 3, 4]
        refine (rbegin_st h hr (by omega) c2.limit c2.rights c2.held c2.all).mono ?_
        rintro _ w4 ⟨t, r', rfl, f1, f2, f3, h⟩
        obtain ⟨l1, l2, l3⟩ := begin_eq hrel hw c2.limit c2.rights c2.held c2.all
        rw [← l1] at h
        dsimp only
        rw [← l2]
        exact fin ⟨by rw [g2]; exact wf_begin hw _ _ _ _, by rw [f2]; exact (rwf_begin hr _ _ _ _).mono (by omega), by rw [g2, f2]; exact l3⟩ (begin_len _ _ _ _ _) g1 f1 h
      rw [SplitB_iff]
      refine ⟨fun _ => ?_, fun _ => ?_⟩
      · -- Hear
        refine NilP.mk ?_
        refine h.drew.readB 2 0 ⟨_, rfl, rfl⟩ rfl (kd := .ptr) (x := e.p) rfl ?_
        refine h.drew.readA 3 0 (b := b4) (t := 56) (cs := cav c2) ⟨_, rfl, rfl⟩ (t' := 54) (n := 2) (j := 8) rfl (kd := Kd2) (c2.e.1, c2.e.2, ()) (vs := epv c2.e) rfl rfl rfl ?_
        refine (hear_st h.drew hw c2.e).mono ?_
        rintro s w3 ⟨e', g1, g2, g3, h⟩
        refine NilP.mk ?_
        refine h.drew.readB 3 0 ⟨_, rfl, rfl⟩ rfl (kd := .ptr) (x := r.p) rfl ?_
        refine h.drew.readA 4 0 (b := b4) (t := 56) (cs := cav c2) ⟨_, rfl, rfl⟩ (t' := 54) (n := 2) (j := 8) rfl (kd := Kd2) (c2.e.1, c2.e.2, ()) (vs := epv c2.e) rfl rfl rfl ?_
        have h := h.drew.ord 5 [2, 0, 1, 3, 4]
        refine (rhear_st h hr (by omega) c2.e).mono ?_
        rintro t w4 ⟨r', f1, f2, f3, h⟩
        obtain ⟨l1, l2⟩ := hear_eq hrel hw c2.e
        rw [← l1] at h
        exact fin ⟨by rw [g2]; exact wf_turn (wf_told hw _ _) _, by rw [f2]; exact (rwf_turn (rwf_told hr _) _).mono (by omega), by rw [g2, f2]; exact l2⟩ (turn_len _ _) g1 f1 h
      rw [SplitB_iff]
      refine ⟨fun _ => ?_, fun _ => ?_⟩
      · -- End
        refine NilP.mk ?_
        refine h.drew.readB 2 0 ⟨_, rfl, rfl⟩ rfl (kd := .ptr) (x := e.p) rfl ?_
        refine h.drew.readA 3 0 (b := b4) (t := 56) (cs := cav c2) ⟨_, rfl, rfl⟩ (t' := 54) (n := 2) (j := 8) rfl (kd := Kd2) (c2.e.1, c2.e.2, ()) (vs := epv c2.e) rfl rfl rfl ?_
        refine h.drew.readA 3 0 (b := b4) (t := 56) (cs := cav c2) ⟨_, rfl, rfl⟩ (t' := 54) (n := 2) (j := 10) rfl (kd := Kd2) (c2.o.1, c2.o.2, ()) (vs := epv c2.o) rfl rfl rfl ?_
        refine (end_st h.drew hw c2.e c2.o).mono ?_
        rintro s w3 ⟨e', g1, g2, g3, h⟩
        refine NilP.mk ?_
        refine h.drew.readB 3 0 ⟨_, rfl, rfl⟩ rfl (kd := .ptr) (x := r.p) rfl ?_
        refine h.drew.readA 4 0 (b := b4) (t := 56) (cs := cav c2) ⟨_, rfl, rfl⟩ (t' := 54) (n := 2) (j := 8) rfl (kd := Kd2) (c2.e.1, c2.e.2, ()) (vs := epv c2.e) rfl rfl rfl ?_
        refine h.drew.readA 4 0 (b := b4) (t := 56) (cs := cav c2) ⟨_, rfl, rfl⟩ (t' := 54) (n := 2) (j := 10) rfl (kd := Kd2) (c2.o.1, c2.o.2, ()) (vs := epv c2.o) rfl rfl rfl ?_
        have h := h.drew.ord 5 [2, 0, 1, 3, 4]
        refine (rend_st h hr (by omega) c2.e c2.o).mono ?_
        rintro t w4 ⟨r', f1, f2, f3, h⟩
        obtain ⟨l1, l2⟩ := end_eq hrel hw c2.e c2.o
        rw [← l1] at h
        exact fin ⟨by rw [g2]; exact wf_turn (wf_told (wf_told hw _ _) _ _) _, by rw [f2]; exact (rwf_turn (rwf_told (rwf_told2 hr _) _) _).mono (by omega), by rw [g2, f2]; exact l2⟩ (turn_len _ _) g1 f1 h
      rw [SplitB_iff]
      refine ⟨fun _ => ?_, fun _ => ?_⟩
      · -- Report
        refine NilP.mk ?_
        refine h.drew.readB 2 0 ⟨_, rfl, rfl⟩ rfl (kd := .ptr) (x := e.p) rfl ?_
        refine h.drew.readB 3 0 ⟨_, rfl, rfl⟩ rfl (kd := .int .i64) (x := c2.fr) rfl ?_
        refine h.drew.readA 3 0 (b := b4) (t := 56) (cs := cav c2) ⟨_, rfl, rfl⟩ (t' := 54) (n := 2) (j := 8) rfl (kd := Kd2) (c2.e.1, c2.e.2, ()) (vs := epv c2.e) rfl rfl rfl ?_
        refine h.drew.readB 3 0 ⟨_, rfl, rfl⟩ rfl (kd := .int .i64) (x := c2.held) rfl ?_
        refine (report_st h.drew hw c2.fr c2.e c2.held).mono ?_
        rintro s w3 ⟨rfl, h⟩
        have h := h.nilrow 70 6
        refine NilP.mk ?_
        refine h.drew.readB 3 0 ⟨_, rfl, rfl⟩ rfl (kd := .ptr) (x := r.p) rfl ?_
        refine h.drew.readB 4 0 ⟨_, rfl, rfl⟩ rfl (kd := .int .i64) (x := c2.fr) rfl ?_
        refine h.drew.readA 4 0 (b := b4) (t := 56) (cs := cav c2) ⟨_, rfl, rfl⟩ (t' := 54) (n := 2) (j := 8) rfl (kd := Kd2) (c2.e.1, c2.e.2, ()) (vs := epv c2.e) rfl rfl rfl ?_
        refine h.drew.readB 4 0 ⟨_, rfl, rfl⟩ rfl (kd := .int .i64) (x := c2.held) rfl ?_
        have h := h.drew.ord 5 [2, 0, 1, 3, 4]
        refine (rreport_st h hr (by omega) c2.fr c2.e c2.held).mono ?_
        rintro _ w4 ⟨r', f1, f2, h⟩
        exact fin (e' := { e with toMv := e.report c2.fr c2.e c2.held }) (l := []) ⟨wf_report hw _ _ _, by rw [f2]; exact (rwf_report hr _ _ _).mono (by omega), by rw [f2]; exact report_rel hrel hw _ _ _⟩ (by simp) rfl f1 (h.nilrow 114 6)
      rw [SplitB_iff]
      refine ⟨fun _ => ?_, fun _ => ?_⟩
      · -- Look
        refine NilP.mk ?_
        refine h.drew.readB 2 0 ⟨_, rfl, rfl⟩ rfl (kd := .ptr) (x := e.p) rfl ?_
        refine h.drew.readB 3 0 ⟨_, rfl, rfl⟩ rfl (kd := .int .i64) (x := c2.limit) rfl ?_
        refine h.drew.readB 3 0 ⟨_, rfl, rfl⟩ rfl (kd := .int .i64) (x := c2.rights) rfl ?_
        refine h.drew.readB 3 0 ⟨_, rfl, rfl⟩ rfl (kd := .int .i64) (x := c2.held) rfl ?_
        refine (look_st h.drew hw c2.limit c2.rights c2.held).mono ?_
        rintro s w3 ⟨e', g1, g2, g3, h⟩
        refine NilP.mk ?_
        refine h.drew.readB 3 0 ⟨_, rfl, rfl⟩ rfl (kd := .ptr) (x := r.p) rfl ?_
        refine h.drew.readB 4 0 ⟨_, rfl, rfl⟩ rfl (kd := .int .i64) (x := c2.limit) rfl ?_
        refine h.drew.readB 4 0 ⟨_, rfl, rfl⟩ rfl (kd := .int .i64) (x := c2.rights) rfl ?_
        refine h.drew.readB 4 0 ⟨_, rfl, rfl⟩ rfl (kd := .int .i64) (x := c2.held) rfl ?_
        have h := h.drew.ord 5 [2, 0, 1, 3, 4]
        refine (rlook_st h hr (by omega) c2.limit c2.rights c2.held).mono ?_
        rintro t w4 ⟨f3, h⟩
        rw [← look_eq hrel hw] at h
        exact fin ⟨by rw [g2]; exact hw, hr.mono (by omega), by rw [g2]; exact hrel⟩ (by have := look_len e.toMv c2.limit c2.rights c2.held; omega) g1 rfl h
      rw [SplitB_iff]
      refine ⟨fun _ => ?_, fun _ => ?_⟩
      · -- Finish
        refine NilP.mk ?_
        refine h.loadB 2 0 ⟨_, rfl, rfl⟩ rfl (kd := .ptr) (x := e.p) rfl ?_
        refine (finish_st h hw).mono ?_
        rintro s w3 ⟨e', g1, g2, g3, h⟩
        refine NilP.mk ?_
        refine h.loadB 3 0 ⟨_, rfl, rfl⟩ rfl (kd := .ptr) (x := r.p) rfl ?_
        have h := h.ord 5 [2, 0, 1, 3, 4]
        refine (rfinish_st h hr (by omega)).mono ?_
        rintro t w4 ⟨r', f1, f2, f3, h⟩
        obtain ⟨l1, l2⟩ := finish_eq hrel hw
        rw [← l1] at h
        exact fin ⟨by rw [g2]; exact wf_finish hw, by rw [f2]; exact (rwf_finish hr).mono (by omega), by rw [g2, f2]; exact l2⟩ (finish_len _) g1 f1 h
      · -- nothing
        have h := (h.nilrow 70 6).nilrow 114 6
        exact fin (l := []) (hp.mono (by omega)) (by simp) rfl rfl (h.ord 6 [0, 3, 1, 2, 4, 5])
  · intro k1 hk1
    refine h.loadB 3 0 ⟨_, rfl, rfl⟩ rfl (kd := .bool) (x := c.own) rfl ?_
    rw [SplitB_iff]
    refine ⟨fun _ => ?_, fun _ => hk1 _ _ ⟨c, h⟩⟩
    refine NilP.mk ?_
    refine h.loadB 2 0 ⟨_, rfl, rfl⟩ rfl (kd := .ptr) (x := r.p) rfl ?_
    have h := h.ord 2 [1, 0]
    refine (rown_st h hr (by omega)).mono ?_
    rintro _ w3 ⟨rfl, h⟩
    have h := h.ord 2 [1, 0]
    refine h.storA 3 0 (b := b4) (t := 56) (cs := cav c) ⟨_, rfl, rfl⟩ (t' := 54) (n := 2) (j := 8) rfl (ds := epv r.own) rfl rfl rfl ?_
    intro w4 h
    exact hk1 _ _ ⟨{ c with e := r.own }, h⟩
end Go.Proofs.Ytmfbmfppjdkeeaa

/- A script over two machines in turns. -/
namespace Go.Proofs.Ytmfbmfppjdkeeaa
open Go Go.Fw Go.RowKit
set_option linter.unusedVariables false
set_option linter.unusedSimpArgs false
set_option maxRecDepth 4000
set_option maxHeartbeats 4000000
variable {w0 w : World} {F G : Grps}

instance : Sc Try.prog 41 := ⟨by kernel_rfl⟩
instance : Ag Try.prog 46 2 := ⟨by kernel_rfl⟩
instance : Ar Try.prog 46 2 := Ar.of (e := 41) (by kernel_rfl) (by kernel_rfl)
instance : NewC Try.prog 46 [.pointer none, .pointer none] := ⟨fun _ => by kernel_rfl⟩
theorem bit1 (x : Int) : ∃ j : Nat, j < 2 ∧ bitAnd .i64 x 1 = (j : Int) := by
  refine ⟨(BitVec.ofInt 64 x &&& BitVec.ofInt 64 1).toNat, ?_, ?_⟩
  · have h := Nat.and_le_right (n := (BitVec.ofInt 64 x).toNat) (m := (BitVec.ofInt 64 1).toNat)
    rw [BitVec.toNat_and]
    have h1 : (BitVec.ofInt 64 1).toNat = 1 := by decide
    omega
  · have h := Nat.and_le_right (n := (BitVec.ofInt 64 x).toNat) (m := (BitVec.ofInt 64 1).toNat)
    have h1 : (BitVec.ofInt 64 1).toNat = 1 := by decide
    show IntKind.i64.wrap ((BitVec.ofInt 64 x &&& BitVec.ofInt 64 1).toNat : Nat) = _
    rw [BitVec.toNat_and]
    exact wr (by omega)
def pE (b : Nat) : Option (Em × Rm) → List Ent
  | none => [.cel b 45 [.pointer none, .pointer none]]
  | some x => emE x.1 [] ++ (rmE x.2 ++ cpE b x.1 x.2)
def PrO (x : Option (Em × Rm)) (N : Nat) : Prop := ∀ y, x = some y → PrW y.1 y.2 N
theorem PrO.mono {x : Option (Em × Rm)} {N M : Nat} (h : PrO x N) (hm : N ≤ M) : PrO x M := fun y hy => (h y hy).mono hm
theorem pE_open {b : Nat} {e : Em} {r : Rm} : St w0 w (pE b (some (e, r)) :: F) ↔ St w0 w (emE e [] :: rmE r :: cpE b e r :: F) := by
  constructor
  · exact fun h => h.perm (by simp [pE])
  · exact fun h => h.perm (by simp [pE])
theorem begin3_st {b : Nat} (h : St w0 w (pE b none :: F)) (me n : Int) : CallK Try.prog .bool 15 #[.pointer (some ⟨b, 0, none⟩), .int .i64 me, .int .i64 n] w fun (v : Bool) w' => v = true ∧ ∃ x, PrO x 0 ∧ St w0 w' (pE b x :: F) := by
  refine (begin2_st h me n).mono ?_
  rintro v w1 ⟨rfl, h | ⟨e, r, hp, h⟩⟩
  · exact ⟨rfl, none, fun y hy => (by cases hy), h⟩
  · exact ⟨rfl, some (e, r), fun y hy => (by cases hy; exact hp), pE_open.2 h⟩
def plG (ab b0 b1 : Nat) (x0 x1 : Option (Em × Rm)) (F : Grps) : Grps := [.cel ab 46 [.pointer (some ⟨b0, 0, none⟩), .pointer (some ⟨b1, 0, none⟩)]] :: pE b0 x0 :: pE b1 x1 :: F
theorem plays_st {s : Sl} {os : List Ca} (hs : Rd w s 12 (cavs os)) (hl : os.length ≤ 1048576) (me n other others lo hi : Int) (late : Bool) :
    CallK Try.prog .bool 9 #[.int .i64 me, .int .i64 n, .int .i64 other, .int .i64 others, .slice s.a s.len s.cap, .int .i64 lo, .int .i64 hi, .bool late] w fun (v : Bool) w' => v = true ∧ Upd w w' nobody := by
  have hsl : s.len = os.length := by have := hs.1; rw [flat_len cav_len] at this; omega
  refine T9.calls ?_
  unfold T9
  have h := St.init w
  refine h.newB run_boxA rfl ?_
  intro b0 w1 h
  refine h.newB run_boxA rfl ?_
  intro b1 w2 h
  refine h.newB (NewC.run _) rfl ?_
  intro ab w3 h
  refine h.storA 0 0 ⟨_, rfl, rfl⟩ (t' := 46) (n := 2) (j := 0) rfl (ds := [.pointer (some ⟨b0, 0, none⟩), .pointer (some ⟨b1, 0, none⟩)]) rfl rfl rfl ?_
  intro w4 h
  have h : St w w4 (plG ab b0 b1 none none []) := h.ord 3 [0, 2, 1]
  refine JoinX.mk (fun (y : Bool × Unit) w' => y.1 = false ∧ ∃ x0 x1, PrO x0 0 ∧ PrO x1 0 ∧ St w w' (plG ab b0 b1 x0 x1 [])) ?_ ?_
  · rintro ⟨y, ⟨⟩⟩ w5 ⟨hy, x0, x1, hp0, hp1, h⟩
    dsimp only at hy
    subst hy
    rw [SplitB_iff]
    refine ⟨fun hf => (by cases hf), fun _ => ?_⟩
    refine kp0_box h late ?_
    intro kb w6 h
    have h := h.ord 4 [1, 2, 3, 0]
    have h : St w w6 (plG ab b0 b1 x0 x1 (kpE { kp0 kb with late := late } :: [] :: [] :: [] :: [] :: [])) := h.perm (by simp [pick, nthO, dropO, plG])
    have hkw : KpW { kp0 kb with late := late } 0 [] [] [] [] := by
      cases late with
      | false => exact .inl ⟨rfl, kpM0 kb⟩
      | true => exact .inr ⟨rfl, [], [], [], [], rfl, rfl, rfl, rfl, ⟨rfl, rfl, rfl, rfl, rfl, rfl, fun x hx => (by cases hx), fun x hx => (by cases hx), Nat.le_refl _, Nat.le_refl _⟩⟩
    refine LoopX.mk (fun st w' => ∃ (i : Nat) (x0 x1 : Option (Em × Rm)) (k : Kp) (gA gW gE gX : List Ent), st = ((i : Int), ()) ∧ i ≤ os.length ∧ PrO x0 (4 * i) ∧ PrO x1 (4 * i) ∧ k.cb = kb ∧ KpW k (2 * i) gA gW gE gX ∧ St w w' (plG ab b0 b1 x0 x1 (kpE k :: gA :: gW :: gE :: gX :: []))) (fun st => ((os.length : Int) - st.1).toNat)
      ⟨0, x0, x1, _, _, _, _, _, rfl, Nat.zero_le _, hp0, hp1, rfl, hkw, h⟩ ?_
    clear h hp0 hp1 hkw
    rintro _ w7 ⟨i, x0, x1, k, gA, gW, gE, gX, rfl, hi, hp0, hp1, hkb, hkw, h⟩ k4 hk4
    dsimp only at hk4 ⊢
    rw [SplitB_iff]
    refine ⟨fun hc => ?_, fun hc => ?_⟩
    · have hc : i < os.length := by have : (i : Int) < (s.len : Int) := of_decide_eq_true hc; omega
      have hem : IntKind.i64.wrap ((i : Int) + 1) = ((i + 1 : Nat) : Int) := by rw [wr (by omega)]; omega
      rw [hem]
      have hpk : (some (⟨kb, 0, none⟩ : Addr)) = k.p := by show some _ = some _; rw [hkb]
      rw [hpk]
      refine JoinX.mk (fun (_ : Unit) w' => ∃ (x0 x1 : Option (Em × Rm)) (k' : Kp) (gA gW gE gX : List Ent), PrO x0 (4 * (i + 1)) ∧ PrO x1 (4 * (i + 1)) ∧ k'.cb = k.cb ∧ KpW k' (2 * (i + 1)) gA gW gE gX ∧ St w w' (plG ab b0 b1 x0 x1 (kpE k' :: gA :: gW :: gE :: gX :: []))) ?_ ?_
      · rintro ⟨⟩ w8 ⟨x0, x1, k', gA, gW, gE, gX, g1, g2, g3, g4, h⟩
        exact hk4 _ _ ⟨i + 1, x0, x1, k', gA, gW, gE, gX, rfl, by omega, g1, g2, g3.trans hkb, g4, h⟩ (by dsimp only; omega)
      · intro k5 hk5
        have hro : ∀ {w' : World} {G : Grps}, St w w' G → Rd w' s 12 (cavs os) := fun h => h.old hs
        refine (hro h).idxK i rfl (by omega) ?_
        intro g o ha
        refine (hro h).el ha (i * 12 + 0) (by rw [add_lit']; rfl) (kd := .int .i64) (x := os[i].who) (flat_cell cav_len hc 0 (by decide)) ?_
        obtain ⟨j, hj2, hj⟩ := bit1 os[i].who
        rw [hj]
        refine RunN.arr rfl j rfl hj2 ?_
        obtain ⟨bj, bo, xj, xo, hld, hst, hpj, hpo, hback⟩ : ∃ (bj bo : Nat) (xj xo : Option (Em × Rm)), nthO ([.pointer (some ⟨b0, 0, none⟩), .pointer (some ⟨b1, 0, none⟩)] : List Value) (0 + j) = some (.pointer (some ⟨bj, 0, none⟩)) ∧
            St w w7 ([.cel ab 46 [.pointer (some ⟨b0, 0, none⟩), .pointer (some ⟨b1, 0, none⟩)]] :: pE bj xj :: pE bo xo :: kpE k :: gA :: gW :: gE :: gX :: []) ∧ PrO xj (4 * i) ∧ PrO xo (4 * i) ∧
            (∀ (w' : World) (y : Option (Em × Rm)) (k' : Kp) (gA gW gE gX : List Ent), PrO y (4 * (i + 1)) → k'.cb = k.cb → KpW k' (2 * (i + 1)) gA gW gE gX → St w w' ([.cel ab 46 [.pointer (some ⟨b0, 0, none⟩), .pointer (some ⟨b1, 0, none⟩)]] :: pE bj y :: pE bo xo :: kpE k' :: gA :: gW :: gE :: gX :: []) → k5 () w') := by
          rcases (by omega : j = 0 ∨ j = 1) with rfl | rfl
          · exact ⟨b0, b1, x0, x1, rfl, h, hp0, hp1, fun w' y k' gA gW gE gX g1 g2 g3 h => hk5 _ _ ⟨y, x1, k', gA, gW, gE, gX, g1, hp1.mono (by omega), g2, g3, h⟩⟩
          · exact ⟨b1, b0, x1, x0, rfl, h.ord 3 [0, 2, 1], hp1, hp0, fun w' y k' gA gW gE gX g1 g2 g3 h => hk5 _ _ ⟨x0, y, k', gA, gW, gE, gX, hp0.mono (by omega), g1, g2, g3, h.ord 3 [0, 2, 1]⟩⟩
        clear h hp0 hp1
        refine hst.loadB 0 0 ⟨_, rfl, rfl⟩ rfl (kd := .ptr) (x := some ⟨bj, 0, none⟩) hld ?_
        refine JoinX.mk (fun (y : Bool × Unit) w' => y.1 = xj.isNone ∧ St w w' ([.cel ab 46 [.pointer (some ⟨b0, 0, none⟩), .pointer (some ⟨b1, 0, none⟩)]] :: pE bj xj :: pE bo xo :: kpE k :: gA :: gW :: gE :: gX :: [])) ?_ ?_
        · rintro ⟨y, ⟨⟩⟩ w8 ⟨hy, h⟩
          dsimp only at hy
          subst hy
          cases xj with
          | none =>
            rw [SplitB_iff]
            refine ⟨fun _ => ?_, fun hf => (by cases hf)⟩
            refine hback _ none k gA gW gE gX (fun y hy => by cases hy) rfl ?_ h
            rcases hkw with ⟨g1, g2⟩ | ⟨g1, LA, LW, LE, LX, g2, g3, g4, g5, g6⟩
            · exact .inl ⟨g1, g2.mono (by omega)⟩
            · exact .inr ⟨g1, LA, LW, LE, LX, g2, g3, g4, g5, g6.mono (by omega)⟩
          | some x =>
            rw [SplitB_iff]
            refine ⟨fun hf => (by cases hf), fun _ => ?_⟩
            refine (hro h).idxK i rfl (by omega) ?_
            intro g o ha
            refine RunN.of (kd := .agg (.cons (.int .i64) (.cons (.int .i64) (.cons (.int .i64) (.cons (.int .i64) (.cons (.int .i64) (.cons .bool (.cons .bool (.cons (.int .i64) (.cons (.int .i64) (.cons (.int .i64) (.cons (.int .i64) (.cons (.int .i64) .nilT))))))))))))) (x := cat os[i]) ((hro h).run_elA ha (i * 12) rfl (ds := cav os[i]) rfl (flat_at cav_len _ _ hc)) ?_
            obtain ⟨e, r⟩ := x
            have h := h.ord 8 [1, 3, 4, 5, 6, 7, 0, 2]
            have h := pE_open.1 h
            refine (played_st h (hpj _ rfl) (by omega) hkw (by omega) os[i]).mono ?_
            rintro _ w9 ⟨rfl, e', r', k', gA', gW', gE', gX', g1, g2, g3, g4, g5, h⟩
            have h := pE_open.2 h
            have h := h.ord 8 [6, 0, 7, 1, 2, 3, 4, 5]
            refine JoinX.mk (fun (y : Bool × Unit) w' => y.1 = false ∧ St w w' ([.cel ab 46 [.pointer (some ⟨b0, 0, none⟩), .pointer (some ⟨b1, 0, none⟩)]] :: pE bj (some (e', r')) :: pE bo xo :: kpE k' :: gA' :: gW' :: gE' :: gX' :: [])) ?_ ?_
            · rintro ⟨y, ⟨⟩⟩ w10 ⟨hy, h⟩
              dsimp only at hy
              subst hy
              rw [SplitB_iff]
              refine ⟨fun hf => (by cases hf), fun _ => ?_⟩
              exact hback _ (some (e', r')) k' gA' gW' gE' gX' (fun y hy => by cases hy; exact g1.mono (by omega)) g4 g5 h
            · intro k9 hk9
              rw [SplitB_iff]
              exact ⟨fun hf => (by cases hf), fun _ => hk9 _ _ ⟨rfl, h⟩⟩
        · intro k7 hk7
          cases xj with
          | none =>
            refine NilP.mk ?_
            refine hst.loadB 1 0 ⟨_, rfl, rfl⟩ rfl (kd := .ptr) (x := none) rfl ?_
            refine RunN.pEqN ?_
            rw [SplitB_iff]
            exact ⟨fun _ => hk7 _ _ ⟨rfl, hst⟩, fun hf => (by cases hf)⟩
          | some x =>
            obtain ⟨e, r⟩ := x
            refine NilP.mk ?_
            refine hst.loadB 1 6 ⟨_, rfl, rfl⟩ rfl (kd := .ptr) (x := e.p) rfl ?_
            refine RunN.pEqS ?_
            rw [SplitB_iff]
            refine ⟨fun hf => (by cases hf), fun _ => ?_⟩
            refine NilP.mk ?_
            refine hst.loadB 1 6 ⟨_, rfl, rfl⟩ rfl (kd := .ptr) (x := r.p) rfl ?_
            refine RunN.pEqS ?_
            exact hk7 _ _ ⟨rfl, hst⟩
    · have hpk : (some (⟨kb, 0, none⟩ : Addr)) = k.p := by show some _ = some _; rw [hkb]
      rw [hpk]
      have h := h.ord 8 [3, 4, 5, 6, 7]
      refine (all_whole h hkw (by omega)).mono ?_
      rintro v w8 ⟨rfl, hu⟩
      exact ⟨rfl, hu⟩
  · intro k1 hk1
    refine (able_st h).mono ?_
    rintro _ w5 ⟨rfl, h⟩
    rw [SplitB_iff]
    refine ⟨fun hf => (by cases hf), fun _ => ?_⟩
    refine RunN.arr rfl 0 rfl (by decide) ?_
    refine h.loadB 0 0 ⟨_, rfl, rfl⟩ rfl (kd := .ptr) (x := some ⟨b0, 0, none⟩) rfl ?_
    have h := h.ord 3 [1, 0, 2]
    refine (begin3_st h me n).mono ?_
    rintro _ w6 ⟨rfl, x0, hp0, h⟩
    rw [SplitB_iff]
    refine ⟨fun hf => (by cases hf), fun _ => ?_⟩
    have h := h.ord 3 [1, 0, 2]
    refine RunN.arr rfl 1 rfl (by decide) ?_
    refine h.loadB 0 0 ⟨_, rfl, rfl⟩ rfl (kd := .ptr) (x := some ⟨b1, 0, none⟩) rfl ?_
    have h := h.ord 3 [2, 0, 1]
    refine (begin3_st h other others).mono ?_
    rintro _ w7 ⟨rfl, x1, hp1, h⟩
    have h := h.ord 3 [1, 2, 0]
    exact hk1 _ _ ⟨rfl, x0, x1, hp0, hp1, h⟩
end Go.Proofs.Ytmfbmfppjdkeeaa
