/- What was answered is kept: the lists that are left till the end. -/
import Derived.Test.YtmfbmfppjdkeeaaEkK
namespace Go.Proofs.Ytmfbmfppjdkeeaa
open Go Go.Fw Go.RowKit
set_option linter.unusedVariables false
set_option linter.unusedSimpArgs false
set_option maxRecDepth 4000
set_option maxHeartbeats 2000000
variable {w0 w : World} {F G : Grps}

theorem hdrA {k : Kp} (h : St w0 w (kpE k :: F)) (hl : k.A.length ≤ 1000000000) (s : Sl) {K : World → Prop}
    (hk : ∀ qa w', St w0 w' (kpE { k with A := k.A ++ [s], aq := qa } :: F) → K w') :
    NilP k.p fun t10 =>
      RunN Try.prog .sl (V (Instr.loadAt 49 (.pointer (some (t10.add 1))))) w fun t12 w =>
      RunN Try.prog .sl (V (Instr.buildSlice 49 1 #[(0, .slice s.a s.len s.cap)])) w fun t14 w =>
      RunN Try.prog .sl (V (Builtin.append_ #[49, 49] 49 #[.slice t12.a t12.len t12.cap, .slice t14.a t14.len t14.cap])) w fun t15 w =>
      NilP k.p fun t16 =>
      RunU Try.prog (U (Instr.storeAt 49 (.pointer (some (t16.add 1))) (.slice t15.a t15.len t15.cap))) w K := by
  have hql : k.aq.len = k.A.length := by have := (h.rd (k := 0) (i := 1) (E := 66) (sz := 1) (s := k.aq) (vs := sls k.A) ⟨_, rfl, rfl⟩).1; simp [sls] at this; omega
  refine NilP.mk ?_
  refine h.loadB 0 0 ⟨_, rfl, rfl⟩ rfl (kd := .sl) (x := k.aq) rfl ?_
  refine h.newS 1 (bslA _ s) rfl rfl rfl ?_
  intro u w1 hu1 _ _ h
  refine h.app 1 1 ⟨_, rfl, rfl⟩ (h.rd (k := 0) (i := 0) ⟨_, rfl, rfl⟩) (fun v hv => by simp at hv; subst hv; rfl) (by simp only [maxLen]; omega) (by omega) ?_
  intro qa w2 hla h
  have h := h.drop 0
  refine NilP.mk ?_
  refine h.storB 0 0 (j := 1) ⟨_, rfl, rfl⟩ rfl rfl rfl ?_
  intro w3 h
  have ea : sls (k.A ++ [s]) = sls k.A ++ [slv s] := by simp [sls]
  refine hk qa w3 ?_
  rw [kpE]
  simp only [ea]
  exact h
/-- A list and a copy of it are kept. -/
theorem lateA {k : Kp} {s : Sl} {l : List A6} {gk gw : List Ent} (h : St w0 w (kpE k :: [.row 70 6 s (acs l)] :: gk :: gw :: F)) (hl : k.A.length ≤ 1000000000) (hm : k.W.length ≤ 1000000000) (hll : l.length ≤ 1000000) {K : World → Prop}
    (hk : ∀ qa qw s' w', s'.len = s.len → St w0 w' (kpE { k with A := k.A ++ [s], aq := qa, W := k.W ++ [s'], aw := qw } :: (gk ++ [.row 70 6 s (acs l)]) :: (gw ++ [.row 70 6 s' (acs l)]) :: F) → K w') :
    NilP k.p fun t11 =>
    RunN Try.prog .sl (V (Instr.loadAt 49 (.pointer (some (t11.add 1))))) w fun t13 w =>
    RunN Try.prog .sl (V (Instr.buildSlice 49 1 #[(0, .slice s.a s.len s.cap)])) w fun t15 w =>
    RunN Try.prog .sl (V (Builtin.append_ #[49, 49] 49 #[.slice t13.a t13.len t13.cap, .slice t15.a t15.len t15.cap])) w fun t16 w =>
    NilP k.p fun t17 =>
    RunU Try.prog (U (Instr.storeAt 49 (.pointer (some (t17.add 1))) (.slice t16.a t16.len t16.cap))) w fun w =>
    NilP k.p fun t21 =>
    ReadN Try.prog .sl (V (Instr.loadAt 49 (.pointer (some (t21.add 2))))) w.drew fun t23 =>
    RunN Try.prog .sl (V (Builtin.append_ #[66, 66] 66 #[.slice none 0 0, .slice s.a s.len s.cap])) w.drew fun t25 w =>
    StillV Try.prog (V (Instr.loadAt 49 (.pointer (some (t21.add 2))))) (.slice t23.a t23.len t23.cap) w ∧
    RunN Try.prog .sl (V (Instr.buildSlice 49 1 #[(0, .slice t25.a t25.len t25.cap)])) w fun t26 w =>
    StillV Try.prog (V (Instr.loadAt 49 (.pointer (some (t21.add 2))))) (.slice t23.a t23.len t23.cap) w ∧
    RunN Try.prog .sl (V (Builtin.append_ #[49, 49] 49 #[.slice t23.a t23.len t23.cap, .slice t26.a t26.len t26.cap])) w fun t27 w =>
    NilP k.p fun t28 =>
    RunU Try.prog (U (Instr.storeAt 49 (.pointer (some (t28.add 2))) (.slice t27.a t27.len t27.cap))) w K := by
  have hsl : s.len = l.length := by
    have := (h.rd (k := 1) (i := 0) (E := 70) (sz := 6) (s := s) (vs := acs l) ⟨_, rfl, rfl⟩).1
    rw [flat_len acv_len] at this; omega
  have hqw : k.aw.len = k.W.length := by have := (h.rd (k := 0) (i := 2) (E := 66) (sz := 1) (s := k.aw) (vs := sls k.W) ⟨_, rfl, rfl⟩).1; simp [sls] at this; omega
  refine hdrA h hl s ?_
  intro qa w1 h
  refine NilP.mk ?_
  refine h.drew.readB 0 0 ⟨_, rfl, rfl⟩ rfl (kd := .sl) (x := k.aw) rfl ?_
  refine h.drew.appNil (h.drew.rd (k := 1) (i := 0) (E := 70) (sz := 6) (s := s) (vs := acs l) ⟨_, rfl, rfl⟩) (flat_one acv_one l) (by simp only [maxLen]; omega) (by omega) ?_
  intro s' w2 hs' h
  refine ⟨h.stillB 1 0 ⟨_, rfl, rfl⟩ rfl rfl, ?_⟩
  refine h.newS 1 (bslA _ s') rfl rfl rfl ?_
  intro u w3 hu1 _ _ h
  refine ⟨h.stillB 2 0 ⟨_, rfl, rfl⟩ rfl rfl, ?_⟩
  refine h.app 2 2 ⟨_, rfl, rfl⟩ (h.rd (k := 0) (i := 0) ⟨_, rfl, rfl⟩) (fun v hv => by simp at hv; subst hv; rfl) (by simp only [maxLen]; omega) (by dsimp only; omega) ?_
  intro qw w4 hlw h
  have h := h.drop 0
  refine NilP.mk ?_
  refine h.storB 1 0 (j := 2) ⟨_, rfl, rfl⟩ rfl rfl rfl ?_
  intro w5 h
  refine hk qa qw s' w5 hs' ?_
  have ea : sls (k.W ++ [s']) = sls k.W ++ [slv s'] := by simp [sls]
  have h : St w0 w5 ([.row 70 6 s' (acs l)] :: kpE { k with A := k.A ++ [s], aq := qa, W := k.W ++ [s'], aw := qw } :: [.row 70 6 s (acs l)] :: gk :: gw :: F) := by
    rw [kpE]
    simp only [ea]
    exact h
  refine h.perm ?_
  simp only [List.flatten_cons, List.append_assoc, List.cons_append, List.nil_append]
  refine List.Perm.trans ?_ (List.Perm.append_left _ (List.perm_middle.symm))
  refine List.perm_middle.symm.trans (List.Perm.append_left _ ?_)
  refine (List.Perm.swap _ _ _).trans (List.Perm.cons _ ?_)
  rw [← List.append_assoc, ← List.append_assoc]
  exact List.perm_middle.symm
theorem hdrE {k : Kp} (h : St w0 w (kpE k :: F)) (hl : k.E.length ≤ 1000000000) (s : Sl) {K : World → Prop}
    (hk : ∀ qa w', St w0 w' (kpE { k with E := k.E ++ [s], eq := qa } :: F) → K w') :
    NilP k.p fun t10 =>
      RunN Try.prog .sl (V (Instr.loadAt 50 (.pointer (some (t10.add 4))))) w fun t12 w =>
      RunN Try.prog .sl (V (Instr.buildSlice 50 1 #[(0, .slice s.a s.len s.cap)])) w fun t14 w =>
      RunN Try.prog .sl (V (Builtin.append_ #[50, 50] 50 #[.slice t12.a t12.len t12.cap, .slice t14.a t14.len t14.cap])) w fun t15 w =>
      NilP k.p fun t16 =>
      RunU Try.prog (U (Instr.storeAt 50 (.pointer (some (t16.add 4))) (.slice t15.a t15.len t15.cap))) w K := by
  have hql : k.eq.len = k.E.length := by have := (h.rd (k := 0) (i := 4) (E := 78) (sz := 1) (s := k.eq) (vs := sls k.E) ⟨_, rfl, rfl⟩).1; simp [sls] at this; omega
  refine NilP.mk ?_
  refine h.loadB 0 0 ⟨_, rfl, rfl⟩ rfl (kd := .sl) (x := k.eq) rfl ?_
  refine h.newS 1 (bslE _ s) rfl rfl rfl ?_
  intro u w1 hu1 _ _ h
  refine h.app 1 4 ⟨_, rfl, rfl⟩ (h.rd (k := 0) (i := 0) ⟨_, rfl, rfl⟩) (fun v hv => by simp at hv; subst hv; rfl) (by simp only [maxLen]; omega) (by omega) ?_
  intro qa w2 hla h
  have h := h.drop 0
  refine NilP.mk ?_
  refine h.storB 0 0 (j := 4) ⟨_, rfl, rfl⟩ rfl rfl rfl ?_
  intro w3 h
  have ea : sls (k.E ++ [s]) = sls k.E ++ [slv s] := by simp [sls]
  refine hk qa w3 ?_
  rw [kpE]
  simp only [ea]
  exact h
/-- A list and a copy of it are kept. -/
theorem lateE {k : Kp} {s : Sl} {l : List Ep} {gk gw : List Ent} (h : St w0 w (kpE k :: [.row 54 2 s (eps l)] :: gk :: gw :: F)) (hl : k.E.length ≤ 1000000000) (hm : k.X.length ≤ 1000000000) (hll : l.length ≤ 1000000) {K : World → Prop}
    (hk : ∀ qa qw s' w', s'.len = s.len → St w0 w' (kpE { k with E := k.E ++ [s], eq := qa, X := k.X ++ [s'], ew := qw } :: (gk ++ [.row 54 2 s (eps l)]) :: (gw ++ [.row 54 2 s' (eps l)]) :: F) → K w') :
    NilP k.p fun t11 =>
    RunN Try.prog .sl (V (Instr.loadAt 50 (.pointer (some (t11.add 4))))) w fun t13 w =>
    RunN Try.prog .sl (V (Instr.buildSlice 50 1 #[(0, .slice s.a s.len s.cap)])) w fun t15 w =>
    RunN Try.prog .sl (V (Builtin.append_ #[50, 50] 50 #[.slice t13.a t13.len t13.cap, .slice t15.a t15.len t15.cap])) w fun t16 w =>
    NilP k.p fun t17 =>
    RunU Try.prog (U (Instr.storeAt 50 (.pointer (some (t17.add 4))) (.slice t16.a t16.len t16.cap))) w fun w =>
    NilP k.p fun t21 =>
    ReadN Try.prog .sl (V (Instr.loadAt 50 (.pointer (some (t21.add 5))))) w.drew fun t23 =>
    RunN Try.prog .sl (V (Builtin.append_ #[78, 78] 78 #[.slice none 0 0, .slice s.a s.len s.cap])) w.drew fun t25 w =>
    StillV Try.prog (V (Instr.loadAt 50 (.pointer (some (t21.add 5))))) (.slice t23.a t23.len t23.cap) w ∧
    RunN Try.prog .sl (V (Instr.buildSlice 50 1 #[(0, .slice t25.a t25.len t25.cap)])) w fun t26 w =>
    StillV Try.prog (V (Instr.loadAt 50 (.pointer (some (t21.add 5))))) (.slice t23.a t23.len t23.cap) w ∧
    RunN Try.prog .sl (V (Builtin.append_ #[50, 50] 50 #[.slice t23.a t23.len t23.cap, .slice t26.a t26.len t26.cap])) w fun t27 w =>
    NilP k.p fun t28 =>
    RunU Try.prog (U (Instr.storeAt 50 (.pointer (some (t28.add 5))) (.slice t27.a t27.len t27.cap))) w K := by
  have hsl : s.len = l.length := by
    have := (h.rd (k := 1) (i := 0) (E := 54) (sz := 2) (s := s) (vs := eps l) ⟨_, rfl, rfl⟩).1
    rw [flat_len epv_len] at this; omega
  have hqw : k.ew.len = k.X.length := by have := (h.rd (k := 0) (i := 5) (E := 78) (sz := 1) (s := k.ew) (vs := sls k.X) ⟨_, rfl, rfl⟩).1; simp [sls] at this; omega
  refine hdrE h hl s ?_
  intro qa w1 h
  refine NilP.mk ?_
  refine h.drew.readB 0 0 ⟨_, rfl, rfl⟩ rfl (kd := .sl) (x := k.ew) rfl ?_
  refine h.drew.appNil (h.drew.rd (k := 1) (i := 0) (E := 54) (sz := 2) (s := s) (vs := eps l) ⟨_, rfl, rfl⟩) (flat_one epv_one l) (by simp only [maxLen]; omega) (by omega) ?_
  intro s' w2 hs' h
  refine ⟨h.stillB 1 0 ⟨_, rfl, rfl⟩ rfl rfl, ?_⟩
  refine h.newS 1 (bslE _ s') rfl rfl rfl ?_
  intro u w3 hu1 _ _ h
  refine ⟨h.stillB 2 0 ⟨_, rfl, rfl⟩ rfl rfl, ?_⟩
  refine h.app 2 5 ⟨_, rfl, rfl⟩ (h.rd (k := 0) (i := 0) ⟨_, rfl, rfl⟩) (fun v hv => by simp at hv; subst hv; rfl) (by simp only [maxLen]; omega) (by dsimp only; omega) ?_
  intro qw w4 hlw h
  have h := h.drop 0
  refine NilP.mk ?_
  refine h.storB 1 0 (j := 5) ⟨_, rfl, rfl⟩ rfl rfl rfl ?_
  intro w5 h
  refine hk qa qw s' w5 hs' ?_
  have ea : sls (k.X ++ [s']) = sls k.X ++ [slv s'] := by simp [sls]
  have h : St w0 w5 ([.row 54 2 s' (eps l)] :: kpE { k with E := k.E ++ [s], eq := qa, X := k.X ++ [s'], ew := qw } :: [.row 54 2 s (eps l)] :: gk :: gw :: F) := by
    rw [kpE]
    simp only [ea]
    exact h
  refine h.perm ?_
  simp only [List.flatten_cons, List.append_assoc, List.cons_append, List.nil_append]
  refine List.Perm.trans ?_ (List.Perm.append_left _ (List.perm_middle.symm))
  refine List.perm_middle.symm.trans (List.Perm.append_left _ ?_)
  refine (List.Perm.swap _ _ _).trans (List.Perm.cons _ ?_)
  rw [← List.append_assoc, ← List.append_assoc]
  exact List.perm_middle.symm
end Go.Proofs.Ytmfbmfppjdkeeaa
