/- The plain law: what is pending, in order. -/
import Derived.Test.YtbdhmeefjlkdcaaCkS
namespace Go.Proofs.Ytbdhmeefjlkdcaa
open Go Go.Fw Go.RowKit
set_option linter.unusedVariables false
set_option linter.unusedSimpArgs false
set_option maxRecDepth 4000
set_option maxHeartbeats 4000000
variable {me reps sess room : Nat} {l : List Av} {r : Rv}

theorem mem_pendL {x : Cl} : x ∈ pendL me reps l ↔ ∃ j, ∃ h : j < l.length, x.1 = ow me reps j ∧ x.2 ∈ l[j].pend := by
  rw [pendL, List.mem_flatMap]
  constructor
  · rintro ⟨⟨a, j⟩, ha, hx⟩
    obtain ⟨id, hid, rfl⟩ := List.mem_map.1 hx
    obtain ⟨h1, h2, h3⟩ := List.mem_zipIdx ha
    refine ⟨j, by omega, rfl, ?_⟩
    dsimp only at hid
    simp at h3
    rw [← h3]; exact hid
  · rintro ⟨j, hj, h1, h2⟩
    refine ⟨(l[j], j), List.mem_zipIdx_iff_getElem?.2 (by simp [hj]), List.mem_map.2 ⟨x.2, h2, ?_⟩⟩
    exact Prod.ext h1.symm rfl
theorem pendL_srt (hr : 2 ≤ reps) : ∀ (l : List Av) (k : Nat), (∀ a ∈ l, a.pend.Pairwise (· < ·)) → ((l.zipIdx k).flatMap fun y => y.1.pend.map fun id => (((me + y.2 * reps : Nat) : Int), id)).Pairwise (fun x y => clt y x = true)
  | [], k, _ => by simp
  | a :: l, k, h => by
    rw [List.zipIdx_cons, List.flatMap_cons, List.pairwise_append]
    refine ⟨?_, pendL_srt hr l (k + 1) fun b hb => h b (List.mem_cons_of_mem _ hb), fun x hx y hy => ?_⟩
    · rw [List.pairwise_map]
      refine (h a (List.mem_cons_self ..)).imp fun {u v} huv => ?_
      simp [clt, huv]
    · obtain ⟨id, _, rfl⟩ := List.mem_map.1 hx
      obtain ⟨⟨b, j⟩, hb, hy2⟩ := List.mem_flatMap.1 hy
      obtain ⟨id2, _, rfl⟩ := List.mem_map.1 hy2
      have h1 := (List.mem_zipIdx hb).1
      have h2 : (k + 1) * reps ≤ j * reps := Nat.mul_le_mul_right _ h1
      rw [Nat.add_mul, Nat.one_mul] at h2
      have : ((me + k * reps : Nat) : Int) < ((me + j * reps : Nat) : Int) := by omega
      simp only [clt, Bool.or_eq_true, decide_eq_true_eq]
      exact .inl this
theorem clt_irr (x : Cl) : clt x x = false := by simp [clt]
theorem clt_asy {x y : Cl} (h : clt x y = true) : clt y x = false := by
  simp [clt] at h ⊢
  omega
theorem rank_srt {P : List Cl} (h : P.Pairwise (fun x y => clt y x = true)) (i : Nat) (hi : i < P.length) : rank P P[i] = i := by
  rw [rank]
  conv => lhs; arg 2; rw [← List.take_append_drop i P]
  rw [List.countP_append]
  have h1 : (P.take i).countP (clt P[i]) = (P.take i).length := by
    rw [List.countP_eq_length]
    intro y hy
    obtain ⟨j, hj, rfl⟩ := List.mem_iff_getElem.1 hy
    rw [List.getElem_take]
    simp at hj
    exact List.pairwise_iff_getElem.1 h j i (by omega) hi (by omega)
  have h2 : (P.drop i).countP (clt P[i]) = 0 := by
    rw [List.countP_eq_zero]
    intro y hy
    obtain ⟨j, hj, rfl⟩ := List.mem_iff_getElem.1 hy
    rw [List.getElem_drop]
    simp at hj
    cases j with
    | zero => simp [clt_irr]
    | succ j =>
      have := List.pairwise_iff_getElem.1 h i (i + (j + 1)) hi (by omega) (by omega)
      rw [clt_asy this]; decide
  rw [h1, h2, List.length_take, Nat.min_eq_left (by omega), Nat.add_zero]
theorem count_map (o : List Cl) (x id : Int) : o.count (x, id) = ((o.filter (fun y => y.1 == x)).map (·.2)).count id := by
  induction o with
  | nil => rfl
  | cons y o ih =>
    rw [List.count_cons, ih, List.filter_cons]
    by_cases h : y.1 = x
    · have e1 : (y.1 == x) = true := by simpa using h
      have e2 : (y == (x, id)) = (y.2 == id) := by rw [Bool.eq_iff_iff]; simp [Prod.ext_iff, h]
      simp only [e1, if_true, List.map_cons, List.count_cons, e2]
    · have e1 : (y.1 == x) = false := by simpa using h
      have e2 : (y == (x, id)) = false := by simp [Prod.ext_iff, h]
      simp only [e1, e2, Bool.false_eq_true, if_false, Nat.add_zero]
theorem open_nodup (h : CRel me reps sess room l r) : r.opn.Nodup := by
  rw [List.nodup_iff_count]
  intro y
  by_cases hy : y ∈ r.opn
  · obtain ⟨j, hj, he⟩ := h.own y hy
    have hS := h.each j hj
    have h1 := count_map r.opn y.1 y.2
    rw [he, ← hS.pend] at h1
    have hnd : l[j].pend.Nodup := hS.srt.imp fun h => by omega
    have h2 := List.nodup_iff_count.1 hnd y.2
    rw [← he] at h1
    have h1 : r.opn.count y = l[j].pend.count y.2 := h1
    omega
  · rw [List.count_eq_zero.2 hy]; omega
theorem pend_perm (hp : Par me reps sess room) (h : CRel me reps sess room l r) : (pendL me reps l).Perm r.opn := by
  have hs := pendL_srt (me := me) hp.hreps.1 l 0 fun a ha => by
    obtain ⟨j, hj, rfl⟩ := List.mem_iff_getElem.1 ha
    exact (h.each j hj).srt
  have hnd : (pendL me reps l).Nodup := hs.imp fun {x y} hxy he => by
    subst he; rw [clt_irr] at hxy; cases hxy
  rw [List.perm_ext_iff_of_nodup hnd (open_nodup h)]
  intro x
  rw [mem_pendL]
  constructor
  · rintro ⟨j, hj, h1, h2⟩
    rw [(h.each j hj).pend, mem_open, ← h1] at h2
    exact h2
  · intro hx
    obtain ⟨j, hj, he⟩ := h.own x hx
    refine ⟨j, hj, he, ?_⟩
    rw [(h.each j hj).pend, mem_open, ← he]
    exact hx
theorem pend_rank (hp : Par me reps sess room) (h : CRel me reps sess room l r) (i : Nat) (hi : i < (pendL me reps l).length) : rank (pendL me reps l) (pendL me reps l)[i] = i :=
  rank_srt (pendL_srt (me := me) hp.hreps.1 l 0 fun a ha => by
    obtain ⟨j, hj, rfl⟩ := List.mem_iff_getElem.1 ha
    exact (h.each j hj).srt) i hi
end Go.Proofs.Ytbdhmeefjlkdcaa
