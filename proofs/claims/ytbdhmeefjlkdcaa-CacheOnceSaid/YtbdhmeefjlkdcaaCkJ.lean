/- The cache: Pending. -/
import Derived.Test.YtbdhmeefjlkdcaaCkI
namespace Go.Proofs.Ytbdhmeefjlkdcaa
open Go Go.Fw Go.RowKit
set_option linter.unusedVariables false
set_option linter.unusedSimpArgs false
set_option maxRecDepth 4000
set_option maxHeartbeats 2000000
variable {w0 w : World} {F G : Grps}

abbrev Cl := Int × Int
def clv (x : Cl) : List Value := [.int .i64 x.1, .int .i64 x.2]
theorem clv_len (x : Cl) : (clv x).length = 2 := rfl
abbrev clvs (l : List Cl) : List Value := l.flatMap clv
theorem clvs_one (l : List Cl) : ∀ v ∈ clvs l, v.oneCell' = true := by
  intro v hv
  obtain ⟨r, _, hr⟩ := List.mem_flatMap.1 hv
  simp [clv] at hr
  rcases hr with rfl | rfl <;> rfl
theorem clvs_snoc (l : List Cl) (x : Cl) : clvs (l ++ [x]) = clvs l ++ [.int .i64 x.1, .int .i64 x.2] := by simp [clvs, clv]
def pendL (me reps : Nat) (l : List Av) : List Cl := l.zipIdx.flatMap fun y => y.1.pend.map fun id => (((me + y.2 * reps : Nat) : Int), id)
theorem pendL_snoc (me reps : Nat) (l : List Av) (a : Av) : pendL me reps (l ++ [a]) = pendL me reps l ++ a.pend.map fun id => (((me + l.length * reps : Nat) : Int), id) := by
  simp [pendL, List.zipIdx_append]
theorem pendL_len' {me reps N : Nat} : ∀ (l : List Av) (k : Nat), (∀ a ∈ l, a.pend.length ≤ N) → ((l.zipIdx k).flatMap fun y => y.1.pend.map fun id => (((me + y.2 * reps : Nat) : Int), id)).length ≤ l.length * N
  | [], k, _ => by simp
  | a :: l, k, h => by
    rw [List.zipIdx_cons, List.flatMap_cons, List.length_append, List.length_map, List.length_cons, Nat.add_mul, Nat.one_mul]
    have h1 := pendL_len' (me := me) (reps := reps) l (k + 1) fun b hb => h b (List.mem_cons_of_mem _ hb)
    have h2 := h a (List.mem_cons_self ..)
    dsimp only
    omega
theorem pendL_len {me reps N : Nat} (l : List Av) (h : ∀ a ∈ l, a.pend.length ≤ N) : (pendL me reps l).length ≤ l.length * N := pendL_len' l 0 h
theorem own_of {c : Cc} {N : Nat} (hw : c.wf N) {j : Nat} (hj : j < c.ss.length) : c.own ((c.me + j * c.reps : Nat) : Int) j := ⟨hj, rfl⟩
theorem ss_len {c : Cc} {N : Nat} (hw : c.wf N) : c.ss.length ≤ 64 := by
  rcases Nat.lt_or_ge 64 c.ss.length with h | h
  · have h1 := (hw.len 64).1 h
    have h2 := hw.sess.2
    have h3 := Nat.le_mul_of_pos_right 64 (show 0 < c.reps by have := hw.reps.1; omega)
    omega
  · exact h
theorem pend_st {c : Cc} {N : Nat} (h : St w0 w (ccG c F)) (hw : c.wf N) (hN : N ≤ 1000000) :
    CallK Try.prog .sl 43 #[.pointer c.p] w fun (q : Sl) w' => St w0 w' (ccG c ([.row 32 2 q (clvs (pendL c.me c.reps (c.ss.map Ses.V)))] :: F)) := by
  have hr := hw.reps.1
  have hss := ss_len hw
  have hbd : ∀ j, j ≤ c.ss.length → (pendL c.me c.reps ((c.ss.take j).map Ses.V)).length ≤ 64000000 := by
    intro j hj
    have h1 := pendL_len (me := c.me) (reps := c.reps) (N := N) ((c.ss.take j).map Ses.V) fun a ha => by
      obtain ⟨s, hs, rfl⟩ := List.mem_map.1 ha
      exact (hw.ses s (List.mem_of_mem_take hs)).len
    have h2 : ((c.ss.take j).map Ses.V).length * N ≤ 64 * 1000000 := Nat.mul_le_mul (by simp; omega) hN
    omega
  have hmul : ∀ i, i ≤ 64 → i * c.reps ≤ 1024 := fun i hi => Nat.le_trans (Nat.mul_le_mul hi (show c.reps ≤ 16 from hw.reps.2)) (by decide)
  refine T43.calls ?_
  unfold T43
  refine NilP.mk ?_
  refine h.loadB 0 0 ⟨_, rfl, rfl⟩ rfl rfl ?_
  have h := (h.nilrow 32 2).ord 4 [1, 2, 3, 0]
  have h : St w0 w (ccG c ([.row 32 2 ⟨none, 0, 0⟩ (clvs [])] :: F)) := h
  refine LoopX.mk (fun st w' => ∃ (q : Sl) (j : Nat), st = (q, ((c.me + j * c.reps : Nat) : Int), ()) ∧ j ≤ c.ss.length ∧ St w0 w' (ccG c ([.row 32 2 q (clvs (pendL c.me c.reps ((c.ss.take j).map Ses.V)))] :: F))) (fun st => ((c.sess : Int) - st.2.1).toNat) ⟨⟨none, 0, 0⟩, 0, by simp, Nat.zero_le _, by simpa [pendL] using h⟩ ?_
  clear h
  rintro _ w1 ⟨q, j, rfl, hj, h⟩ k hk
  dsimp only at hk ⊢
  refine NilP.mk ?_
  refine h.loadB 0 0 ⟨_, rfl, rfl⟩ rfl rfl ?_
  rw [SplitB_iff]
  refine ⟨fun hc => ?_, fun hc => ?_⟩
  · have hc : c.me + j * c.reps < c.sess := by have : ((c.me + j * c.reps : Nat) : Int) < (c.sess : Int) := of_decide_eq_true hc; omega
    have hj := (hw.len j).2 hc
    have hown := own_of hw hj
    refine of_st h hr _ (fun w2 j' hj' h => ?_) (fun w2 hn h => absurd hown (hn j))
    have := own_inj hr hj' hown
    subst this
    have hje := has_e (F := [.row 32 2 q (clvs (pendL c.me c.reps ((c.ss.take j').map Ses.V)))] :: F) hj
    have hS := hw.ses _ (List.getElem_mem hj)
    have hb1 := hbd (j' + 1) (by omega)
    have hsnoc : pendL c.me c.reps ((c.ss.take (j' + 1)).map Ses.V) = pendL c.me c.reps ((c.ss.take j').map Ses.V) ++ c.ss[j'].pend.map fun id => (((c.me + j' * c.reps : Nat) : Int), id) := by
      rw [List.take_succ_eq_append_getElem hj, List.map_append, List.map_cons, List.map_nil, pendL_snoc]
      simp [Ses.V, Nat.min_eq_left (Nat.le_of_lt hj)]
    rw [hsnoc, List.length_append, List.length_map] at hb1
    refine NilP.mk ?_
    refine h.loadB 1 j' hje rfl (kd := .sl) (x := c.ss[j'].q) rfl ?_
    have hql : c.ss[j'].q.len = c.ss[j'].pend.length := by have := (h.rd (has_r hj)).1; rw [lin_len] at this; omega
    refine LoopX.mk (fun st w' => ∃ (q : Sl) (i : Nat), st = (q, (i : Int), ()) ∧ i ≤ c.ss[j'].pend.length ∧ St w0 w' (ccG c ([.row 32 2 q (clvs (pendL c.me c.reps ((c.ss.take j').map Ses.V) ++ (c.ss[j'].pend.take i).map fun id => (((c.me + j' * c.reps : Nat) : Int), id)))] :: F))) (fun st => ((c.ss[j'].q.len : Int) - st.2.1).toNat) ⟨q, 0, rfl, Nat.zero_le _, by simpa using h⟩ ?_
    clear h hje
    rintro _ w3 ⟨q, i, rfl, hi, h⟩ k2 hk2
    dsimp only at hk2 ⊢
    rw [SplitB_iff]
    refine ⟨fun hd => ?_, fun hd => ?_⟩
    · have hd : i < c.ss[j'].pend.length := by have : (i : Int) < (c.ss[j'].q.len : Int) := of_decide_eq_true hd; omega
      have hrr := h.rd (has_r hj)
      refine hrr.idxK i rfl (by omega) ?_
      intro g o ha
      refine hrr.el ha i (by rw [Nat.mul_one]) (kd := .int .i64) (x := (c.ss[j'].pend[i] : Int)) (lin_at hd) ?_
      refine h.newS 2 (bs60 _ _ _) rfl rfl rfl ?_
      intro u w4 hu1 hu2 _ h
      have hru := h.rd (k := 0) (i := 0) ⟨_, rfl, rfl⟩
      have hq := (h.rd (k := 4) (i := 0) ⟨_, rfl, rfl⟩).1
      rw [flat_len clv_len, List.length_append, List.length_map, List.length_take] at hq
      refine h.app 4 0 ⟨_, rfl, rfl⟩ hru (clvs_one [(((c.me + j' * c.reps : Nat) : Int), c.ss[j'].pend[i])]) (by simp only [maxLen]; omega) (by omega) ?_
      intro q' w5 hq' h
      have h := h.drop 0
      have h : St w0 w5 (ccG c ([.row 32 2 q' (clvs (pendL c.me c.reps ((c.ss.take j').map Ses.V) ++ (c.ss[j'].pend.take i).map fun id => (((c.me + j' * c.reps : Nat) : Int), id)) ++ clvs [(((c.me + j' * c.reps : Nat) : Int), c.ss[j'].pend[i])])] :: F)) := h
      have e : IntKind.i64.wrap ((i : Int) + 1) = ((i + 1 : Nat) : Int) := by rw [wr (by omega)]; omega
      rw [e]
      refine hk2 _ _ ⟨q', i + 1, rfl, by omega, ?_⟩ (by dsimp only; omega)
      rw [List.take_succ_eq_append_getElem hd, List.map_append, ← List.append_assoc, clvs, List.flatMap_append]
      exact h
    · have hd : i = c.ss[j'].pend.length := by have : ¬ (i : Int) < (c.ss[j'].q.len : Int) := of_decide_eq_false hd; omega
      subst hd
      refine NilP.mk ?_
      refine h.loadB 0 0 ⟨_, rfl, rfl⟩ rfl rfl ?_
      have hm1 := hmul (j' + 1) (by omega)
      rw [Nat.add_mul, Nat.one_mul] at hm1
      have hme := hw.me
      have e : IntKind.i64.wrap (((c.me + j' * c.reps : Nat) : Int) + (c.reps : Int)) = ((c.me + (j' + 1) * c.reps : Nat) : Int) := by
        have := hw.reps.2
        rw [wr (by omega), Nat.add_mul, Nat.one_mul]; omega
      rw [List.take_of_length_le (Nat.le_refl _), ← hsnoc] at h
      try dsimp only
      rw [e]
      refine hk _ _ ⟨q, j' + 1, rfl, by omega, h⟩ ?_
      rw [Nat.add_mul, Nat.one_mul]; dsimp only; omega
  · have hc : ¬ c.me + j * c.reps < c.sess := by have : ¬ ((c.me + j * c.reps : Nat) : Int) < (c.sess : Int) := of_decide_eq_false hc; omega
    have hj2 : j = c.ss.length := by
      rcases Nat.lt_or_ge j c.ss.length with h1 | h1
      · exact absurd ((hw.len j).1 h1) hc
      · omega
    subst hj2
    rw [List.take_of_length_le (Nat.le_refl _)] at h
    exact h
end Go.Proofs.Ytbdhmeefjlkdcaa
