/- The plain law: Begin, End, the lists. -/
import Derived.Test.YtbdhmeefjlkdcaaCkP
namespace Go.Proofs.Ytbdhmeefjlkdcaa
open Go Go.Fw Go.RowKit
set_option linter.unusedVariables false
set_option linter.unusedSimpArgs false
set_option maxRecDepth 4000
set_option maxHeartbeats 2000000
variable {me reps sess room : Nat} {l : List Av} {r : Rv}

/-- One session changes; the others see nothing of it. -/
theorem CRel.put (hp : Par me reps sess room) (h : CRel me reps sess room l r) {j : Nat} (hj : j < l.length) {a' : Av} {r' : Rv} (hl : r'.lasts.length = 64) (h1 : SRel room (ow me reps j) a' r')
    (h2 : ∀ x, x ≠ ow me reps j → x.toNat ≠ (ow me reps j).toNat → r'.lasts[x.toNat]? = r.lasts[x.toNat]? ∧ r'.opn.filter (fun y => y.1 == x) = r.opn.filter (fun y => y.1 == x) ∧ r'.rs.filter (fun y => y.1 == x) = r.rs.filter (fun y => y.1 == x)) (h3 : ∀ y ∈ r'.opn, ∃ j, j < l.length ∧ y.1 = ow me reps j) :
    CRel me reps sess room (l.set j a') r' := by
  refine ⟨fun i => by rw [List.length_set]; exact h.len i, hl, fun i hi => ?_, by rw [List.length_set]; exact h3⟩
  rw [List.length_set] at hi
  by_cases he : j = i
  · subst he; rw [List.getElem_set_self]; exact h1
  · rw [List.getElem_set_ne he]
    have hne : ow me reps i ≠ ow me reps j := fun e => he (ow_inj hp.hreps.1 e).symm
    have hne2 : (ow me reps i).toNat ≠ (ow me reps j).toNat := by simp only [ow] at hne ⊢; omega
    obtain ⟨e1, e2, e3⟩ := h2 _ hne hne2
    have h4 := h.each i hi
    exact ⟨by rw [e1]; exact h4.last, by rw [e2]; exact h4.pend, h4.srt, h4.low, by rw [e3]; exact h4.S⟩
theorem CRel.self (h : CRel me reps sess room l r) (j : Nat) (hj : j < l.length) : CRel me reps sess room (l.set j l[j]) r := by rw [List.set_getElem_self]; exact h
theorem begin_eq (hp : Par me reps sess room) (h : CRel me reps sess room l r) (x id : Int) :
    (beginC me reps l x id).1 = (rbegV me reps sess room r x id).1 ∧ CRel me reps sess room (beginC me reps l x id).2 (rbegV me reps sess room r x id).2 := by
  rw [beginC, rbegV]
  cases hi : idxV me reps l.length x with
  | none =>
    rw [not_mine hp h.len hi, if_pos rfl]
    exact ⟨rfl, h⟩
  | some j =>
    obtain ⟨hj, rfl⟩ := idx_some hi
    have hmine := mine_ow hp ((h.len j).1 hj)
    have e1 : ¬ mineV me reps sess (ow me reps j) = false := by rw [hmine]; decide
    rw [if_neg e1, last_eq hp h hj]
    dsimp only
    rw [List.getElem?_eq_getElem hj]
    dsimp only
    have hS := h.each j hj
    generalize hL : l[j] = a at hS
    rw [beginV]
    by_cases h1 : id < 1 ∨ id > 1099511627776
    · rw [if_pos h1, if_pos h1, ← hL]; exact ⟨rfl, h.self j hj⟩
    rw [if_neg h1, if_neg h1]
    by_cases h2 : id > a.last + 1
    · rw [if_pos h2, if_pos h2, ← hL]; exact ⟨rfl, h.self j hj⟩
    rw [if_neg h2, if_neg h2]
    by_cases h3 : id = a.last + 1
    · rw [if_pos h3, if_pos h3]
      refine ⟨rfl, h.put hp hj (by simp [h.lasts]) ⟨?_, ?_, ?_, ?_, ?_⟩ ?_ (fun y hy => ?_)⟩
      · have : (ow me reps j).toNat < r.lasts.length := by
          have := (h.len j).1 hj
          have := hp.hsess.2
          rw [h.lasts]; simp only [ow]; omega
        dsimp only
        rw [List.getElem?_set_self this]
      · dsimp only
        rw [List.filter_append, List.map_append, ← hS.pend]
        simp
      · dsimp only
        rw [List.pairwise_append]
        refine ⟨hS.srt, by simp, fun y hy z hz => ?_⟩
        simp at hz; subst hz
        have := hS.low y hy; omega
      · intro y hy
        rcases List.mem_append.1 hy with hy | hy
        · have := hS.low y hy; dsimp only; omega
        · simp at hy; subst hy; exact Int.le_refl _
      · obtain ⟨S, s1, s2, s3, s4⟩ := hS.S
        refine ⟨S, s1, s2, s3, fun s hs => ?_⟩
        have := s4 s hs
        refine ⟨by dsimp only; omega, fun hm => ?_⟩
        rcases List.mem_append.1 hm with hm | hm
        · exact this.2 hm
        · simp at hm; omega
      · intro y hy hy2
        dsimp only
        refine ⟨List.getElem?_set_ne (fun e => hy2 e.symm), ?_, rfl⟩
        rw [List.filter_append, List.filter_cons, if_neg (by simpa using fun e => hy e.symm)]
        simp
      · rcases List.mem_append.1 hy with hy | hy
        · exact h.own y hy
        · simp at hy; subst hy; exact ⟨j, hj, rfl⟩
    rw [if_neg h3, if_neg h3]
    have hmo : id ∈ a.pend ↔ opnV r.opn (ow me reps j, id) ≥ 0 := by rw [opnV_iff, hS.pend, mem_open]
    by_cases h4 : id ∈ a.pend
    · rw [if_pos h4, if_pos (hmo.1 h4), ← hL]; exact ⟨rfl, h.self j hj⟩
    rw [if_neg h4, if_neg (fun hh => h4 (hmo.2 hh))]
    obtain ⟨S, s1, s2, s3, s4⟩ := hS.S
    have hk := kept_eq hp.hroom.1 (id := id) s1 s2
    rw [← s3] at hk
    cases hf : a.kept.find? (fun r => r.2.1 == id) with
    | none =>
      rw [hf] at hk
      dsimp only at hk ⊢
      by_cases h5 : (keptV room r.rs (ow me reps j, id)).2 = true
      · rw [if_pos h5] at hk; simp at hk
      · rw [if_neg h5, ← hL]; exact ⟨rfl, h.self j hj⟩
    | some q =>
      rw [hf] at hk
      dsimp only at hk ⊢
      by_cases h5 : (keptV room r.rs (ow me reps j, id)).2 = true
      · rw [if_pos h5] at hk ⊢
        rw [← hL]
        exact ⟨hk, h.self j hj⟩
      · rw [if_neg h5] at hk; simp at hk
theorem erase_filter (o : List Cl) (x id : Int) : ((o.eraseP (fun y => y.1 == x && y.2 == id)).filter (fun y => y.1 == x)).map (·.2) = ((o.filter (fun y => y.1 == x)).map (·.2)).erase id := by
  induction o with
  | nil => rfl
  | cons y o ih =>
    rw [List.eraseP_cons]
    by_cases h1 : y.1 = x
    · by_cases h2 : y.2 = id
      · simp [h1, h2]
      · have : (y.1 == x && y.2 == id) = false := by simp [h2]
        rw [this]
        simp only [cond_false, List.filter_cons, h1, beq_self_eq_true, if_true, List.map_cons]
        rw [List.erase_cons_tail (by simpa using h2), ih]
    · have : (y.1 == x && y.2 == id) = false := by simp [h1]
      rw [this]
      simp only [cond_false, List.filter_cons]
      rw [if_neg (by simpa using h1), if_neg (by simpa using h1), ih]
theorem erase_other (o : List Cl) (x id z : Int) (hz : z ≠ x) : (o.eraseP (fun y => y.1 == x && y.2 == id)).filter (fun y => y.1 == z) = o.filter (fun y => y.1 == z) := by
  induction o with
  | nil => rfl
  | cons y o ih =>
    rw [List.eraseP_cons]
    cases h : (y.1 == x && y.2 == id) with
    | true =>
      have h1 : y.1 = x := by simp at h; exact h.1
      simp only [cond_true, List.filter_cons]
      rw [if_neg (by rw [h1]; simpa using fun e => hz e.symm)]
    | false =>
      simp only [cond_false, List.filter_cons, ih]
theorem ins_perm (S : List Rp) (i : Nat) (q : Rp) : (insL S i q).Perm (S ++ [q]) := by
  have h1 : (insL S i q).Perm (q :: (S.take i ++ S.drop i)) := List.perm_middle
  rw [List.take_append_drop] at h1
  exact h1.trans (by simpa using (List.perm_append_comm (l₁ := [q]) (l₂ := S)))
theorem lb_ex : ∀ (l : List Int) (x : Int), l.Pairwise (· < ·) → ∃ i, LB l x i
  | [], x, _ => ⟨0, Nat.le_refl _, fun j h => by simp at h, fun j h => by simp at h⟩
  | y :: l, x, h => by
    have hc := List.pairwise_cons.1 h
    by_cases hy : y < x
    · obtain ⟨i, h1, h2, h3⟩ := lb_ex l x hc.2
      refine ⟨i + 1, by simpa using h1, fun j hj hji => ?_, fun j hj hji => ?_⟩
      · cases j with
        | zero => exact hy
        | succ j => exact h2 j (by simpa using hj) (by omega)
      · cases j with
        | zero => omega
        | succ j => exact h3 j (by simpa using hj) (by omega)
    · refine ⟨0, Nat.zero_le _, fun j hj h0 => by omega, fun j hj _ => ?_⟩
      cases j with
      | zero => simp; omega
      | succ j =>
        have hj' : j < l.length := by simpa using hj
        have := hc.1 l[j] (List.getElem_mem hj')
        simp only [List.getElem_cons_succ]
        omega
theorem lb_ids {S : List Rp} (hs : (ids S).Pairwise (· < ·)) (x : Int) : LB (ids S) x (lbN (ids S) x) := by
  obtain ⟨i, hi⟩ := lb_ex (ids S) x hs
  rw [← hi.eq]; exact hi
/-- The last few of a list, next to one that is new. -/
theorem keep_drop {S : List Rp} (hs : (ids S).Pairwise (· < ·)) (q : Rp) (room : Nat) (hr : 1 ≤ room) : keepV room (S.drop (S.length - room)) q = (insL S (lbN (ids S) q.2.1) q).drop ((insL S (lbN (ids S) q.2.1) q).length - room) := by
  have hlb := lb_ids hs q.2.1
  have hlen : lbN (ids S) q.2.1 ≤ S.length := by simpa [ids] using hlb.1
  generalize lbN (ids S) q.2.1 = p at hlb hlen
  have e1 : ids (S.drop (S.length - room)) = (ids S).drop (S.length - room) := by simp [ids, List.map_drop]
  have hil : (ids S).length = S.length := by simp [ids]
  have hl2 : LB (ids (S.drop (S.length - room))) q.2.1 (p - (S.length - room)) := by
    rw [e1]
    refine ⟨by rw [List.length_drop, hil]; omega, fun j hj h => ?_, fun j hj h => ?_⟩
    · rw [List.getElem_drop]; exact hlb.2.1 _ _ (by omega)
    · rw [List.getElem_drop]; exact hlb.2.2 _ _ (by omega)
  rw [keepV, ← hl2.eq, keepL, ins_len S p q hlen]
  have hdl : (S.drop (S.length - room)).length = S.length - (S.length - room) := List.length_drop ..
  by_cases h : S.length < room
  · rw [if_pos (by rw [hdl]; omega)]
    have d0 : S.length - room = 0 := by omega
    have d1 : S.length + 1 - room = 0 := by omega
    rw [d0, d1, List.drop_zero, List.drop_zero, Nat.sub_zero]
  · rw [if_neg (by rw [hdl]; omega)]
    refine List.ext_getElem? fun m => ?_
    simp only [insL, List.getElem?_append, List.getElem?_take, List.getElem?_drop, List.length_append, List.length_take, List.length_drop, List.getElem?_cons, List.length_cons, List.length_nil]
    repeat' split
    all_goals first | rfl | (exfalso; omega) | (congr 1; omega) | skip
theorem end_eq (hp : Par me reps sess room) (h : CRel me reps sess room l r) (q : Rp) :
    (endC me reps room l q).1 = (rendV me reps sess r q).1 ∧ CRel me reps sess room (endC me reps room l q).2 (rendV me reps sess r q).2 := by
  rw [endC, rendV]
  cases hi : idxV me reps l.length q.1 with
  | none =>
    rw [not_mine hp h.len hi, if_pos rfl]
    exact ⟨rfl, h⟩
  | some j =>
    obtain ⟨hj, hx⟩ := idx_some hi
    have hmine := mine_ow hp ((h.len j).1 hj)
    have e1 : ¬ mineV me reps sess q.1 = false := by rw [hx, hmine]; decide
    rw [if_neg e1, hx, last_eq hp h hj]
    dsimp only
    rw [List.getElem?_eq_getElem hj]
    dsimp only
    have hS := h.each j hj
    generalize hL : l[j] = a at hS
    rw [endV]
    by_cases h2 : q.2.1 > a.last
    · rw [if_pos h2, if_pos h2, ← hL]; exact ⟨rfl, h.self j hj⟩
    rw [if_neg h2, if_neg h2]
    have hmo : q.2.1 ∈ a.pend ↔ (ow me reps j, q.2.1) ∈ r.opn := by rw [hS.pend, mem_open]
    cases hf : r.opn.findIdx? (fun y => y.1 == ow me reps j && y.2 == q.2.1) with
    | none =>
      have : ¬ q.2.1 ∈ a.pend := fun hh => by
        have := (find_open _ _ _).2 (hmo.1 hh)
        rw [hf] at this; cases this
      rw [if_neg this, ← hL]
      exact ⟨rfl, h.self j hj⟩
    | some i =>
      have h4 : q.2.1 ∈ a.pend := hmo.2 ((find_open _ _ _).1 (by rw [hf]; rfl))
      rw [if_pos h4]
      have he : r.opn.eraseIdx i = r.opn.eraseP (fun y => y.1 == ow me reps j && y.2 == q.2.1) := by rw [List.eraseP_eq_eraseIdx, hf]
      dsimp only
      rw [he]
      have hsub : (a.pend.erase q.2.1).Sublist a.pend := List.erase_sublist
      refine ⟨rfl, h.put hp hj h.lasts ⟨hS.last, ?_, hS.srt.sublist hsub, fun y hy => hS.low y (hsub.subset hy), ?_⟩ ?_ (fun y hy => h.own y (List.mem_of_mem_eraseP hy))⟩
      · dsimp only
        rw [erase_filter, ← hS.pend]
      · obtain ⟨S, s1, s2, s3, s4⟩ := hS.S
        have hnm : q.2.1 ∉ ids S := fun hh => by
          obtain ⟨s, hs, he⟩ := List.mem_map.1 hh
          exact (s4 s hs).2 (by rw [show s.2.1 = q.2.1 from he]; exact h4)
        have hlb := lb_ids s2 q.2.1
        have hlen : lbN (ids S) q.2.1 ≤ S.length := by simpa [ids] using hlb.1
        refine ⟨insL S (lbN (ids S) q.2.1) q, ?_, ins_sorted s2 hlb hnm, ?_, fun s hs => ?_⟩
        · refine (ins_perm _ _ _).trans ?_
          dsimp only
          rw [List.filter_append, List.filter_cons, if_pos (by simp [hx])]
          exact s1.append_right _
        · dsimp only
          rw [s3]; exact keep_drop s2 q room hp.hroom.1
        · rcases List.mem_append.1 ((ins_perm _ _ _).mem_iff.1 hs) with hs | hs
          · exact ⟨(s4 s hs).1, fun hh => (s4 s hs).2 (hsub.subset hh)⟩
          · simp at hs; subst hs
            refine ⟨by dsimp only; omega, fun hh => ?_⟩
            have hnd : a.pend.Nodup := hS.srt.imp fun h => by omega
            exact (List.Nodup.mem_erase_iff hnd).1 hh |>.1 rfl
      · intro z hz _
        dsimp only
        refine ⟨rfl, erase_other _ _ _ _ hz, ?_⟩
        rw [List.filter_append, List.filter_cons, if_neg (by rw [hx]; simpa using fun e => hz e.symm)]
        simp
end Go.Proofs.Ytbdhmeefjlkdcaa
