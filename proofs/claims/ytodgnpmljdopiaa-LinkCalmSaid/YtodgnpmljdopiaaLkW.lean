/- One round of two ends that tell each other all they have. -/
import Derived.Test.YtodgnpmljdopiaaLkV
namespace Go.Proofs.Ytodgnpmljdopiaa
open Go Go.Fw Go.RowKit
set_option linter.unusedVariables false
set_option linter.unusedSimpArgs false
set_option maxRecDepth 4000
set_option maxHeartbeats 8000000

def outg (x : Ln) (us : Sl) (gs : List Sg) : Ln := { x with e := x.e.outed us, gh := x.gh ++ gs, g8 := x.g8 ++ outD gs }
structure Round (n : Nat) (x : Ln) (gA gB : List Sg) (y z : Ln) (ua ub : Sl) : Prop where
  ix : LnI 0 n x
  iy : LnI 1 n y
  iz : LnI 0 n z
  a : gA.map Sg.pl = x.e.tells x.e.outs
  pa : Pass (outg x ua gA).sw gA y
  b : gB.map Sg.pl = y.e.tells y.e.outs
  pb : Pass (outg y ub gB).sw gB z
theorem un_nil {e : Lk} (hw : e.wf) {a : Int} (h : ∀ p ∈ e.un, a < p.1) (ha : e.last ≤ a) : e.un = [] := by
  cases hu : e.un with
  | nil => rfl
  | cons p r =>
    exfalso
    have h1 := h p (by rw [hu]; exact List.mem_cons_self ..)
    have h2 := hw.seq 0 (by rw [hu]; simp)
    have h3 : (e.un ++ e.bx)[0]'(by rw [hu]; simp) = p := by simp [hu]
    rw [h3] at h2
    have h4 : 0 < e.un.length := by rw [hu]; simp
    omega
section
variable {n : Nat} {x y z : Ln} {gA gB : List Sg} {ua ub : Sl}
theorem Round.facts (r : Round n x gA gB y z ua ub) : z.f = y.e.outed ub ∧ z.e.bx = [] ∧ z.e.du = false ∧ z.e.last = x.e.last ∧ y.e.bx = x.f.bx ∧ y.e.last = x.f.last ∧ y.e.du = x.f.du ∧ y.e.ag = x.f.ag ∧ (∃ d, y.e.un = x.f.un.drop d) ∧
    (∃ d, z.e.un = (x.e.un ++ x.e.bx).drop d) ∧ z.e.ag = (x.e.outed ua).ag ∧ y.f = x.e.outed ua := by
  have s1 := r.pa.same
  have s2 := r.pb.same
  have e1 : y.f = x.e.outed ua := s1.f
  refine ⟨s2.f, ?_, ?_, ?_, s1.bx, s1.last, s1.du, s1.ag, r.pa.un, ?_, ?_, e1⟩
  · have := s2.bx
    rw [this]; show y.f.bx = []
    rw [e1]; rfl
  · have := s2.du
    rw [this]; show y.f.du = false
    rw [e1]; rfl
  · have := s2.last
    rw [this]; show y.f.last = _
    rw [e1]; rfl
  · obtain ⟨d, hd⟩ := r.pb.un
    refine ⟨d, ?_⟩
    rw [hd]; show y.f.un.drop d = _
    rw [e1]; rfl
  · have := s2.ag
    rw [this]; show y.f.ag = _
    rw [e1]
theorem Round.first (r : Round n x gA gB y z ua ub) (h : x.e.un = [] ∨ x.e.du = true) : z.e.un = [] := by
  obtain ⟨f1, f2, f3, f4, f5, f6, f7, f8, f9, ⟨d2, f10⟩, f11, f12⟩ := r.facts
  by_cases h0 : x.e.un.length + x.e.bx.length = 0
  · have : x.e.un ++ x.e.bx = [] := List.eq_nil_of_length_eq_zero (by rw [List.length_append]; exact h0)
    rw [f10, this]; simp
  · obtain ⟨q, hq1, hq2⟩ := outs_seq r.ix.we h r.a
    have hlow := r.ix.we.low
    have hdone := r.ix.ef.done
    have hwant := r.ix.ef.want
    have hw := r.pa.want hq2 (by omega) (by show _ ≤ x.f.want; omega)
    have how : y.e.ow = true := by
      rw [r.pa.ow]
      refine .inr ⟨gA[q]'(by omega), List.getElem_mem _, ?_⟩
      rw [hq2 q (by omega), if_neg (by omega)]
      omega
    have hmem : ∃ g ∈ gB, g.ack = y.e.want - 1 := by
      have hne : 0 < gB.length := by
        have := congrArg List.length r.b
        simp only [Lk.tells, Lk.outs, how, List.length_map, List.length_append] at this
        simp at this; omega
      exact ⟨gB[0], List.getElem_mem hne, outs_ack r.b _ (List.getElem_mem hne)⟩
    exact un_nil r.iz.we (r.pb.acked hmem) (by rw [f4]; omega)
theorem Round.second (r : Round n x gA gB y z ua ub) (h : y.e.un = [] ∨ y.e.du = true) : z.f.un = [] ∨ (z.e.ow = true ∧ z.e.want = z.f.last + 1) := by
  obtain ⟨f1, f2, f3, f4, f5, f6, f7, f8, f9, f10, f11, f12⟩ := r.facts
  by_cases h0 : y.e.un.length + y.e.bx.length = 0
  · left
    have : y.e.un ++ y.e.bx = [] := List.eq_nil_of_length_eq_zero (by rw [List.length_append]; exact h0)
    rw [f1]; exact this
  · right
    obtain ⟨q, hq1, hq2⟩ := outs_seq r.iy.we h r.b
    have hlow := r.iy.we.low
    have hdone := r.iy.ef.done
    have hwant := r.iy.ef.want
    have hw := r.pb.want hq2 (by omega) (by show _ ≤ y.f.want; omega)
    refine ⟨?_, ?_⟩
    · rw [r.pb.ow]
      refine .inr ⟨gB[q]'(by omega), List.getElem_mem _, ?_⟩
      rw [hq2 q (by omega), if_neg (by omega)]
      omega
    · have h1 := r.iz.fe.want
      have h2 := r.iz.fe.og
      have h3 := r.iz.wf.gone
      have h4 : z.f.last = y.e.last := by rw [f1]; rfl
      omega
/-- Behind a round: an end has nothing out any more, or its clock goes on. -/
structure Idle (x0 z : Ln) : Prop where
  ebx : z.e.bx = []
  edu : z.e.du = false
  fbx : z.f.bx = []
  fdu : z.f.du = false
  fow : z.f.ow = false
  ce : z.e.un = [] ∨ (z.e.ag = x0.e.ag ∧ x0.e.un ≠ [] ∧ x0.e.du = false)
  cf : (z.f.un = [] ∨ (z.f.ag = x0.f.ag ∧ x0.f.un ≠ [] ∧ x0.f.du = false)) ∨ (z.e.ow = true ∧ z.e.want = z.f.last + 1)
theorem Round.ow0 (r : Round n x gA gB y z ua ub) (h : gB = []) : z.e.ow = false := by
  obtain ⟨f1, f2, f3, f4, f5, f6, f7, f8, f9, f10, f11, f12⟩ := r.facts
  cases hz : z.e.ow with
  | false => rfl
  | true =>
    have := r.pb.ow.1 hz
    subst h
    rcases this with h1 | ⟨g, hg, _⟩
    · have h2 : y.f.ow = true := h1
      rw [f12] at h2
      cases h2
    · cases hg
theorem Round.idle (r : Round n x gA gB y z ua ub) : Idle x z := by
  obtain ⟨f1, f2, f3, f4, f5, f6, f7, f8, ⟨d, f9⟩, f10, f11, f12⟩ := r.facts
  refine ⟨f2, f3, by rw [f1]; rfl, by rw [f1]; rfl, by rw [f1]; rfl, ?_, ?_⟩
  · by_cases h : x.e.un = [] ∨ x.e.du = true
    · exact .inl (r.first h)
    · rw [not_or] at h
      have h2 : ¬ x.e.un.length = 0 := fun h0 => h.1 (List.eq_nil_of_length_eq_zero h0)
      refine .inr ⟨?_, h.1, by simpa using h.2⟩
      rw [f11]
      show (if x.e.un.length = 0 ∧ 0 < x.e.bx.length then 0 else x.e.ag) = x.e.ag
      rw [if_neg (fun hh => h2 hh.1)]
  · by_cases h : y.e.un = [] ∨ y.e.du = true
    · rcases r.second h with h1 | h1
      · exact .inl (.inl h1)
      · exact .inr h1
    · rw [not_or] at h
      left; right
      have h2 : ¬ y.e.un.length = 0 := fun h0 => h.1 (List.eq_nil_of_length_eq_zero h0)
      refine ⟨?_, fun h0 => h.1 (by rw [f9, h0]; simp), by rw [← f7]; simpa using h.2⟩
      rw [f1, ← f8]
      show (if y.e.un.length = 0 ∧ 0 < y.e.bx.length then 0 else y.e.ag) = y.e.ag
      rw [if_neg (fun hh => h2 hh.1)]
theorem Round.again (r : Round n x gA gB y z ua ub) {x0 : Ln} (hi : Idle x0 x) : gB = [] ∧ (x.e.ow = false → gA = []) ∧ Idle x0 z ∧ z.e.ow = false := by
  obtain ⟨f1, f2, f3, f4, f5, f6, f7, f8, ⟨d, f9⟩, ⟨d2, f10⟩, f11, f12⟩ := r.facts
  have hA : x.e.outs = if x.e.ow = true then [ackP] else [] := by rw [Lk.outs, hi.ebx, hi.edu]; simp
  have hAq : ∀ g ∈ gA, g.seq = 0 := by
    intro g hg
    have h2 : g.pl ∈ x.e.tells x.e.outs := by rw [← r.a]; exact List.mem_map.2 ⟨g, hg, rfl⟩
    obtain ⟨p, hp1, hp2⟩ := List.mem_map.1 h2
    simp only [Sg.pl, Prod.mk.injEq] at hp2
    rw [← hp2.2.2.1]
    rw [hA] at hp1
    split at hp1
    · simp at hp1; rw [hp1]; rfl
    · cases hp1
  have hyow : y.e.ow = false := by
    cases hz : y.e.ow with
    | false => rfl
    | true =>
      rcases r.pa.ow.1 hz with h1 | ⟨g, hg, h1⟩
      · have h2 : x.f.ow = true := h1
        rw [hi.fow] at h2; cases h2
      · exact absurd (hAq g hg) h1
  have hB : gB = [] := by
    have := r.b
    rw [Lk.outs, hyow, f5, f7, hi.fbx, hi.fdu] at this
    simpa [Lk.tells] using this
  have hzow := r.ow0 hB
  refine ⟨hB, fun h => ?_, ?_, hzow⟩
  · have := r.a
    rw [hA, h] at this
    simpa [Lk.tells] using this
  · have hea : z.e.ag = x.e.ag := by
      rw [f11]
      show (if x.e.un.length = 0 ∧ 0 < x.e.bx.length then 0 else x.e.ag) = x.e.ag
      rw [hi.ebx, if_neg (by simp)]
    have hfa : z.f.ag = x.f.ag := by
      rw [f1, ← f8]
      show (if y.e.un.length = 0 ∧ 0 < y.e.bx.length then 0 else y.e.ag) = y.e.ag
      rw [f5, hi.fbx, if_neg (by simp)]
    have hfu : z.f.un = y.e.un := by
      rw [f1]; show y.e.un ++ y.e.bx = _
      rw [f5, hi.fbx, List.append_nil]
    refine ⟨f2, f3, by rw [f1]; rfl, by rw [f1]; rfl, by rw [f1]; rfl, ?_, .inl ?_⟩
    · rcases hi.ce with h1 | h1
      · left; rw [f10, h1, hi.ebx]; simp
      · right; rw [hea]; exact h1
    · rcases hi.cf with (h1 | h1) | ⟨h1, h2⟩
      · left; rw [hfu, f9, h1]; simp
      · right; rw [hfa]; exact h1
      · left
        rw [hfu]
        have hmem : ∃ g ∈ gA, g.ack = x.e.want - 1 := by
          have hne : 0 < gA.length := by
            have := congrArg List.length r.a
            rw [hA, h1] at this
            simp [Lk.tells] at this; omega
          exact ⟨gA[0], List.getElem_mem hne, outs_ack r.a _ (List.getElem_mem hne)⟩
        exact un_nil r.iy.we (r.pa.acked hmem) (by rw [f6]; omega)
end
end Go.Proofs.Ytodgnpmljdopiaa
