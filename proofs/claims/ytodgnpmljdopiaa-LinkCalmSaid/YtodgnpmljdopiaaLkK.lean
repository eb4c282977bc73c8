/- The link: what its calls keep true. -/
import Derived.Test.YtodgnpmljdopiaaLkJ
namespace Go.Proofs.Ytodgnpmljdopiaa
open Go Go.Fw Go.RowKit
set_option linter.unusedVariables false
set_option linter.unusedSimpArgs false
set_option maxRecDepth 4000
set_option maxHeartbeats 4000000
variable {w0 w : World} {F G : Grps}

theorem refuse_zero {e : Lk} {l : List UInt8} (h : e.refuse l = 0) : l.length ≤ 4000 ∧ 0 < e.room ∧ e.last < 1099511627776 := by
  rw [Lk.refuse] at h
  split at h
  · cases h
  · split at h
    · cases h
    · omega
theorem sent_wf {e : Lm} (hw : e.wf) (s : Sl) {l : List UInt8} (h : e.refuse l = 0) : (e.sent s l).wf := by
  have hr := refuse_zero h
  have hroom : e.room = (e.win : Int) - e.bx.length - e.un.length := rfl
  have hc := hw.cnt; have hg := hw.gone; have hlo := hw.low
  refine ⟨hw.me, hw.peer, hw.win, hw.res, ?_, ?_, ?_, ?_, hw.want, hw.ag, ?_, ?_, hw.elens, hw.erange, hw.nodup⟩
  · simp [Lm.sent]; omega
  · simp [Lm.sent]; omega
  · simp only [Lm.sent, List.length_append, List.length_cons, List.length_nil]; omega
  · show e.last + 1 ≤ _; omega
  · intro i hi
    have hlen : (e.un ++ e.bx).length = e.un.length + e.bx.length := List.length_append
    simp only [Lm.sent] at hi ⊢
    by_cases h1 : i < (e.un ++ e.bx).length
    · have := hw.seq i h1
      have e1 : (e.un ++ (e.bx ++ [(e.last + 1, s, l)]))[i] = (e.un ++ e.bx)[i] := by
        simp only [← List.append_assoc]
        exact List.getElem_append_left h1
      rw [e1, this]
      simp only [List.length_append, List.length_cons, List.length_nil]
      omega
    · have h2 : i = (e.un ++ e.bx).length := by simp only [List.length_append, List.length_cons, List.length_nil] at hi h1 ⊢; omega
      have e1 : (e.un ++ (e.bx ++ [(e.last + 1, s, l)]))[i] = (e.last + 1, s, l) := by
        simp only [← List.append_assoc]
        rw [List.getElem_append_right (by omega)]
        simp
      rw [e1]
      simp only [List.length_append, List.length_cons, List.length_nil]
      omega
  · intro p hp
    have hp : p ∈ e.un ++ (e.bx ++ [(e.last + 1, s, l)]) := hp
    rw [← List.append_assoc] at hp
    rcases List.mem_append.1 hp with hp | hp
    · exact hw.lens p hp
    · simp at hp; subst hp; exact hr.1
theorem took_wf {e : Lm} (hw : e.wf) {g : Sg} (hf : e.fits g = true) {u l : List Ea} (ht : TakeR e.toLk g u l) (us : Sl) (mc : Nat) : (e.took g us mc u.length l).wf := by
  have hfs := fits_seq hf
  have hj := ackd_le e.un g.ack
  have hc := hw.cnt; have hg := hw.gone; have hlo := hw.low; have hwant := hw.want
  have hdl : (e.un.drop (ackd e.un g.ack)).length = e.un.length - ackd e.un g.ack := List.length_drop
  have hdm : e.un.drop (ackd e.un g.ack) ++ e.bx = (e.un ++ e.bx).drop (ackd e.un g.ack) := by rw [List.drop_append_of_le_length hj]
  have hE : (e.want + u.length ≤ 1099511627777) ∧ (∀ x ∈ l, x.1.2.2.length ≤ 4000) ∧ (∀ x ∈ l, e.want + u.length < x.1.1 ∧ x.1.1 < e.want + u.length + e.win ∧ x.1.1 ≤ 1099511627776) ∧ (l.map (·.1.1)).Nodup := by
    by_cases hn : e.news g
    · obtain ⟨s, c, hp, hk, hl⟩ := ht.yes hn
      have hmem : ∀ x, x ∈ u ++ l → x.1.2.2.length ≤ 4000 ∧ e.want ≤ x.1.1 ∧ x.1.1 < e.want + e.win ∧ x.1.1 ≤ 1099511627776 := by
        intro x hx
        rcases List.mem_append.1 (hp.mem_iff.2 hx) with h1 | h1
        · have := hw.erange x h1
          exact ⟨hw.elens x h1, by omega, by omega, by omega⟩
        · simp at h1; subst h1
          exact ⟨hfs.2.2.2.2.1, hn.2.2.1, hn.2.2.2, hfs.2.1⟩
      have hnd : ((u ++ l).map (·.1.1)).Nodup := by
        refine (hp.map _).nodup_iff.1 ?_
        rw [List.map_append, List.nodup_append]
        refine ⟨hw.nodup, by simp, ?_⟩
        intro a ha b hb hab
        obtain ⟨x, hx, rfl⟩ := List.mem_map.1 ha
        simp at hb
        exact hn.2.1 x hx (hab.trans hb)
      rw [List.map_append, List.nodup_append] at hnd
      refine ⟨?_, fun x hx => (hmem x (List.mem_append_right _ hx)).1, fun x hx => ?_, hnd.2.1⟩
      · cases hu : u with
        | nil => simp; exact hwant.2
        | cons a r =>
          have hi : u.length - 1 < u.length := by rw [hu]; simp
          have h1 := hk _ hi
          have h2 := (hmem _ (List.mem_append_left _ (List.getElem_mem hi))).2.2.2
          rw [← hu]
          have : 0 < u.length := by rw [hu]; simp
          omega
      · have h1 := hmem x (List.mem_append_right _ hx)
        have h2 := hl x hx
        refine ⟨?_, by omega, h1.2.2.2⟩
        by_cases h3 : x.1.1 < e.want + u.length
        · exfalso
          have hi : (x.1.1 - e.want).toNat < u.length := by omega
          have h4 := hk _ hi
          have h5 : (u[(x.1.1 - e.want).toNat]'hi).1.1 = x.1.1 := by rw [h4]; omega
          exact hnd.2.2 _ (List.mem_map.2 ⟨_, List.getElem_mem hi, rfl⟩) _ (List.mem_map.2 ⟨x, hx, rfl⟩) h5
        · omega
    · obtain ⟨rfl, rfl⟩ := ht.no hn
      refine ⟨by simp; exact hwant.2, hw.elens, fun x hx => ?_, hw.nodup⟩
      have := hw.erange x hx
      simp; omega
  refine ⟨hw.me, hw.peer, hw.win, hw.res, ?_, hw.gone, ?_, hw.last, ?_, hw.ag, ?_, ?_, hE.2.1, ?_, hE.2.2.2⟩
  · simp only [Lm.took, hdl]; omega
  · simp only [Lm.took, hdl]; omega
  · simp only [Lm.took]; omega
  · intro i hi
    simp only [Lm.took] at hi ⊢
    have hi2 : ackd e.un g.ack + i < (e.un ++ e.bx).length := by rw [hdm, List.length_drop] at hi; omega
    have := hw.seq _ hi2
    have e1 : (e.un.drop (ackd e.un g.ack) ++ e.bx)[i] = (e.un ++ e.bx)[ackd e.un g.ack + i] := by
      simp only [hdm]
      exact List.getElem_drop
    rw [e1, this, hdl]
    omega
  · intro p hp
    simp only [Lm.took, hdm] at hp
    exact hw.lens p (List.mem_of_mem_drop hp)
  · exact hE.2.2.1
end Go.Proofs.Ytodgnpmljdopiaa
