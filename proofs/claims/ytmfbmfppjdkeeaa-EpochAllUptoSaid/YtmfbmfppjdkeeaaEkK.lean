/- What was answered is kept: lists compared; all is as it was left. -/
import Derived.Test.YtmfbmfppjdkeeaaEkJ
namespace Go.Proofs.Ytmfbmfppjdkeeaa
open Go Go.Fw Go.RowKit
set_option linter.unusedVariables false
set_option linter.unusedSimpArgs false
set_option maxRecDepth 4000
set_option maxHeartbeats 2000000
variable {w0 w : World} {F G : Grps}

theorem repAt (v : List Value) {j n : Nat} (h : j < n) : ((rep v n).drop (j * v.length)).take v.length = v := by
  have e : rep v n = rep v j ++ (v ++ rep v (n - (j + 1))) := by
    have h1 : rep v (n - (j + 1) + 1) = v ++ rep v (n - (j + 1)) := by rw [rep, List.replicate_succ, List.flatten_cons, rep]
    rw [← h1, rep, rep, rep, ← List.flatten_append, List.replicate_append_replicate]
    congr 2; omega
  rw [e, List.drop_append_of_le_length (by rw [rep_len]; exact Nat.le_refl _), List.drop_of_length_le (by rw [rep_len]; exact Nat.le_refl _), List.nil_append, List.take_append_of_le_length (Nat.le_refl _), List.take_of_length_le (Nat.le_refl _)]
theorem sls_ix {l : List Sl} {i : Nat} (h : i < l.length) : (sls l)[i * 1]? = some (slv l[i]) := by
  rw [Nat.mul_one, sls, List.getElem?_map, List.getElem?_eq_getElem h]; rfl
theorem lin_ix' {l : List Int} {i : Nat} (h : i < l.length) : (lin l)[i * 1]? = some (.int .i64 l[i]) := by
  rw [Nat.mul_one, lin, List.getElem?_map, List.getElem?_eq_getElem h]; rfl
theorem acts_eq (a b : A6) : (!(eq6 a.1 a.2.1 a.2.2.1 a.2.2.2.1 a.2.2.2.2.1 a.2.2.2.2.2 b.1 b.2.1 b.2.2.1 b.2.2.2.1 b.2.2.2.2.1 b.2.2.2.2.2)) = decide (a ≠ b) := by
  by_cases h : a = b
  · subst h; simp [eq6]
  · rw [decide_eq_true h]
    cases hc : eq6 a.1 a.2.1 a.2.2.1 a.2.2.2.1 a.2.2.2.2.1 a.2.2.2.2.2 b.1 b.2.1 b.2.2.1 b.2.2.2.1 b.2.2.2.2.1 b.2.2.2.2.2 with
    | false => rfl
    | true =>
      exfalso
      simp [eq6] at hc
      obtain ⟨h1, h2, ⟨h3, h4⟩, h5, h6⟩ := hc
      exact h (Prod.ext h1 (Prod.ext h2 (Prod.ext h3 (Prod.ext h4 (Prod.ext h5 h6)))))
/-- The program's acts and the document's. -/
theorem same_st {s t : Sl} {a b : List A6} (hs : Rd w s 6 (acs a)) (ht : Rd w t 6 (acs b)) (hb : a.length ≤ 1000000) : CallK Try.prog .bool 41 #[.slice s.a s.len s.cap, .slice t.a t.len t.cap] w fun (v : Bool) w' => v = decide (a = b) ∧ Upd w w' nobody := by
  have hsl : s.len = a.length := by have := hs.1; rw [flat_len acv_len] at this; omega
  have htl : t.len = b.length := by have := ht.1; rw [flat_len acv_len] at this; omega
  refine T41.calls ?_
  unfold T41
  rw [SplitB_iff]
  refine ⟨fun h0 => ?_, fun h0 => ?_⟩
  · refine ⟨?_, Upd.refl _ _⟩
    rw [decide_eq_false]
    rintro rfl
    rw [hsl, htl] at h0; simp at h0
  have hl : a.length = b.length := by
    have : (s.len : Int) = (t.len : Int) := by simpa using h0
    omega
  refine LoopX.mk (fun st w' => ∃ (i : Nat), st = ((i : Int), ()) ∧ i ≤ a.length ∧ a.take i = b.take i ∧ Upd w w' nobody) (fun st => ((a.length : Int) - st.1).toNat) ⟨0, rfl, Nat.zero_le _, rfl, Upd.refl _ _⟩ ?_
  rintro _ w1 ⟨i, rfl, hi, heq, hu⟩ k hk
  dsimp only at hk ⊢
  rw [SplitB_iff]
  refine ⟨fun hc => ?_, fun hc => ?_⟩
  · have hc : i < a.length := by have : (i : Int) < (s.len : Int) := of_decide_eq_true hc; omega
    have hc2 : i < b.length := by omega
    have hem : IntKind.i64.wrap ((i : Int) + 1) = ((i + 1 : Nat) : Int) := by rw [wr (by omega)]; omega
    rw [hem]
    have hud := hu.trans (Upd.drew w1 nobody)
    have hs1 : Rd w1.drew s 6 (acs a) := hs.upd hud fun _ _ h => h
    have ht1 : Rd w1.drew t 6 (acs b) := ht.upd hud fun _ _ h => h
    refine JoinX.mk (fun (y : Bool × Unit) w' => y.1 = decide (a[i] ≠ b[i]) ∧ Upd w w' nobody) ?_ ?_
    · rintro ⟨y, ⟨⟩⟩ w2 ⟨hy, hu⟩
      dsimp only at hy
      subst hy
      rw [SplitB_iff]
      refine ⟨fun hd => ?_, fun hd => ?_⟩
      · have hd := of_decide_eq_true hd
        refine ⟨?_, hu⟩
        rw [decide_eq_false]
        rintro rfl
        exact hd rfl
      · have hd : a[i] = b[i] := by simpa using hd
        exact hk _ _ ⟨i + 1, rfl, by omega, by rw [List.take_succ_eq_append_getElem hc, List.take_succ_eq_append_getElem hc2, heq, hd], hu⟩ (by dsimp only; omega)
    · intro k3 hk3
      have no : ∀ {p : Bool}, (a[i] ≠ b[i]) → p = true → k3 (p, ()) w1.drew := fun h hp => hk3 _ _ ⟨by rw [hp, decide_eq_true h], hud⟩
      refine hs1.idxR i rfl (by omega) ?_
      intro g o ha
      refine hs1.elR ha (i * 6 + 0) (by rw [add_lit']; rfl) (kd := .int .i64) (x := a[i].1) (flat_cell acv_len hc 0 (by decide)) ?_
      refine ht1.idxR i rfl (by omega) ?_
      intro g2 o2 ha2
      refine ht1.elR ha2 (i * 6 + 0) (by rw [add_lit']; rfl) (kd := .int .i64) (x := b[i].1) (flat_cell acv_len hc2 0 (by decide)) ?_
      rw [SplitB_iff]
      refine ⟨fun h1 => ?_, fun h1 => ?_⟩
      · have h1 : a[i].1 ≠ b[i].1 := by simpa using h1
        exact no (fun h => h1 (by rw [h])) rfl
      have h1 : a[i].1 = b[i].1 := by simpa using h1
      refine hs1.idxR i rfl (by omega) ?_
      intro g o ha
      refine hs1.elR ha (i * 6 + 1) (by rw [add_lit']; rfl) (kd := .int .i64) (x := a[i].2.1) (flat_cell acv_len hc 1 (by decide)) ?_
      refine ht1.idxR i rfl (by omega) ?_
      intro g2 o2 ha2
      refine ht1.elR ha2 (i * 6 + 1) (by rw [add_lit']; rfl) (kd := .int .i64) (x := b[i].2.1) (flat_cell acv_len hc2 1 (by decide)) ?_
      rw [SplitB_iff]
      refine ⟨fun h2 => ?_, fun h2 => ?_⟩
      · have h2 : a[i].2.1 ≠ b[i].2.1 := by simpa using h2
        exact no (fun h => h2 (by rw [h])) rfl
      have h2 : a[i].2.1 = b[i].2.1 := by simpa using h2
      refine hs1.idxR i rfl (by omega) ?_
      intro g o ha
      refine hs1.elAR ha (i * 6 + 2) (by rw [add_lit']; rfl) (kd := Kd2) (a[i].2.2.1, a[i].2.2.2.1, ()) (flat_part acv_len hc 2 2 (by decide)) ?_
      refine ht1.idxR i rfl (by omega) ?_
      intro g2 o2 ha2
      refine ht1.elAR ha2 (i * 6 + 2) (by rw [add_lit']; rfl) (kd := Kd2) (b[i].2.2.1, b[i].2.2.2.1, ()) (flat_part acv_len hc2 2 2 (by decide)) ?_
      refine ReadN.k2Ne ?_
      rw [ne_ep (a[i].2.2.1, a[i].2.2.2.1) (b[i].2.2.1, b[i].2.2.2.1)]
      rw [SplitB_iff]
      refine ⟨fun h3 => ?_, fun h3 => ?_⟩
      · have h3 := of_decide_eq_true h3
        exact no (fun h => h3 (by rw [h])) rfl
      have h3 : (a[i].2.2.1, a[i].2.2.2.1) = (b[i].2.2.1, b[i].2.2.2.1) := by simpa using h3
      refine hs1.idxR i rfl (by omega) ?_
      intro g o ha
      refine hs1.elAR ha (i * 6 + 4) (by rw [add_lit']; rfl) (kd := Kd2) (a[i].2.2.2.2.1, a[i].2.2.2.2.2, ()) (flat_part acv_len hc 4 2 (by decide)) ?_
      refine ht1.idxR i rfl (by omega) ?_
      intro g2 o2 ha2
      refine ht1.elAR ha2 (i * 6 + 4) (by rw [add_lit']; rfl) (kd := Kd2) (b[i].2.2.2.2.1, b[i].2.2.2.2.2, ()) (flat_part acv_len hc2 4 2 (by decide)) ?_
      refine ReadN.k2Ne ?_
      rw [ne_ep (a[i].2.2.2.2.1, a[i].2.2.2.2.2) (b[i].2.2.2.2.1, b[i].2.2.2.2.2)]
      refine hk3 _ _ ⟨?_, hud⟩
      dsimp only
      by_cases h4 : (a[i].2.2.2.2.1, a[i].2.2.2.2.2) = (b[i].2.2.2.2.1, b[i].2.2.2.2.2)
      · have : a[i] = b[i] := Prod.ext h1 (Prod.ext h2 (Prod.ext (Prod.mk.inj h3).1 (Prod.ext (Prod.mk.inj h3).2 h4)))
        rw [this]; simp
      · have hne : a[i] ≠ b[i] := fun hh => h4 (by rw [hh])
        rw [decide_eq_true hne, decide_eq_true (show (a[i].2.2.2.2.1, a[i].2.2.2.2.2) ≠ (b[i].2.2.2.2.1, b[i].2.2.2.2.2) from h4)]
  · have hc : i = a.length := by have : ¬ (i : Int) < (s.len : Int) := of_decide_eq_false hc; omega
    subst hc
    rw [List.take_length, hl, List.take_length] at heq
    exact ⟨by rw [decide_eq_true heq], hu⟩
theorem sameA_st {s t : Sl} {a : List A6} (hs : Rd w s 6 (acs a)) (ht : Rd w t 6 (acs a)) (hb : a.length ≤ 1000000) : CallK Try.prog .bool 73 #[.slice s.a s.len s.cap, .slice t.a t.len t.cap] w fun (v : Bool) w' => v = true ∧ Upd w w' nobody := by
  have hsl : s.len = a.length := by have := hs.1; rw [flat_len acv_len] at this; omega
  have htl : t.len = a.length := by have := ht.1; rw [flat_len acv_len] at this; omega
  refine T73.calls ?_
  unfold T73
  rw [SplitB_iff]
  refine ⟨fun h0 => ?_, fun h0 => ?_⟩
  · rw [hsl, htl] at h0; simp at h0
  refine LoopX.mk (fun st w' => ∃ (i : Nat), st = ((i : Int), ()) ∧ i ≤ a.length ∧ Upd w w' nobody) (fun st => ((a.length : Int) - st.1).toNat) ⟨0, rfl, Nat.zero_le _, Upd.refl _ _⟩ ?_
  rintro _ w1 ⟨i, rfl, hi, hu⟩ k hk
  dsimp only at hk ⊢
  rw [SplitB_iff]
  refine ⟨fun hc => ?_, fun hc => ?_⟩
  · have hc : i < a.length := by have : (i : Int) < (s.len : Int) := of_decide_eq_true hc; omega
    have hem : IntKind.i64.wrap ((i : Int) + 1) = ((i + 1 : Nat) : Int) := by rw [wr (by omega)]; omega
    rw [hem]
    have hud := hu.trans (Upd.drew w1 nobody)
    have hs1 : Rd w1.drew s 6 (acs a) := hs.upd hud fun _ _ h => h
    have ht1 : Rd w1.drew t 6 (acs a) := ht.upd hud fun _ _ h => h
    refine hs1.idxR i rfl (by omega) ?_
    intro g o ha
    refine hs1.elAR ha (i * 6) rfl (kd := Kd6) (act a[i]) (flat_at acv_len _ _ hc) ?_
    refine ht1.idxR i rfl (by omega) ?_
    intro g2 o2 ha2
    refine ht1.elAR ha2 (i * 6) rfl (kd := Kd6) (act a[i]) (flat_at acv_len _ _ hc) ?_
    refine ReadN.of (kd := .bool) (K6.neV _ _ _ _ _ _ _ _ _ _ _ _ _ _ _) ?_
    have e := acts_eq a[i] a[i]
    rw [decide_eq_false (fun hh => hh rfl)] at e
    have e : (!(eq6 (act a[i]).1 (act a[i]).2.1 (act a[i]).2.2.1 (act a[i]).2.2.2.1 (act a[i]).2.2.2.2.1 (act a[i]).2.2.2.2.2.1 (act a[i]).1 (act a[i]).2.1 (act a[i]).2.2.1 (act a[i]).2.2.2.1 (act a[i]).2.2.2.2.1 (act a[i]).2.2.2.2.2.1)) = false := e
    rw [e, SplitB_iff]
    refine ⟨fun hf => (by cases hf), fun _ => ?_⟩
    exact hk _ _ ⟨i + 1, rfl, by omega, hud⟩ (by dsimp only; omega)
  · exact ⟨rfl, hu⟩
theorem sameE_st {s t : Sl} {a : List Ep} (hs : Rd w s 2 (eps a)) (ht : Rd w t 2 (eps a)) (hb : a.length ≤ 1000000) : CallK Try.prog .bool 71 #[.slice s.a s.len s.cap, .slice t.a t.len t.cap] w fun (v : Bool) w' => v = true ∧ Upd w w' nobody := by
  have hsl : s.len = a.length := by have := hs.1; rw [flat_len epv_len] at this; omega
  have htl : t.len = a.length := by have := ht.1; rw [flat_len epv_len] at this; omega
  refine T71.calls ?_
  unfold T71
  rw [SplitB_iff]
  refine ⟨fun h0 => ?_, fun h0 => ?_⟩
  · rw [hsl, htl] at h0; simp at h0
  refine LoopX.mk (fun st w' => ∃ (i : Nat), st = ((i : Int), ()) ∧ i ≤ a.length ∧ Upd w w' nobody) (fun st => ((a.length : Int) - st.1).toNat) ⟨0, rfl, Nat.zero_le _, Upd.refl _ _⟩ ?_
  rintro _ w1 ⟨i, rfl, hi, hu⟩ k hk
  dsimp only at hk ⊢
  rw [SplitB_iff]
  refine ⟨fun hc => ?_, fun hc => ?_⟩
  · have hc : i < a.length := by have : (i : Int) < (s.len : Int) := of_decide_eq_true hc; omega
    have hem : IntKind.i64.wrap ((i : Int) + 1) = ((i + 1 : Nat) : Int) := by rw [wr (by omega)]; omega
    rw [hem]
    have hud := hu.trans (Upd.drew w1 nobody)
    have hs1 : Rd w1.drew s 2 (eps a) := hs.upd hud fun _ _ h => h
    have ht1 : Rd w1.drew t 2 (eps a) := ht.upd hud fun _ _ h => h
    refine hs1.idxR i rfl (by omega) ?_
    intro g o ha
    refine hs1.elAR ha (i * 2) rfl (kd := Kd2) (a[i].1, a[i].2, ()) (flat_at epv_len _ _ hc) ?_
    refine ht1.idxR i rfl (by omega) ?_
    intro g2 o2 ha2
    refine ht1.elAR ha2 (i * 2) rfl (kd := Kd2) (a[i].1, a[i].2, ()) (flat_at epv_len _ _ hc) ?_
    refine ReadN.k2Ne ?_
    rw [ne_ep a[i] a[i], decide_eq_false (fun hh => hh rfl), SplitB_iff]
    refine ⟨fun hf => (by cases hf), fun _ => ?_⟩
    exact hk _ _ ⟨i + 1, rfl, by omega, hud⟩ (by dsimp only; omega)
  · exact ⟨rfl, hu⟩
/-! ### all is as it was left -/
structure KpN (k : Kp) (gA gE : List Ent) : Prop where
  am : k.M.length = k.A.length
  en : k.N.length = k.E.length
  covA : ∀ i (h : i < k.A.length), Cov 70 (mvA (k.M[i]'(by omega))) gA k.A[i]
  covE : ∀ i (h : i < k.E.length), Cov 54 (mvE (k.N[i]'(by omega))) gE k.E[i]
theorem whole_st {k : Kp} {gA gE : List Ent} (h : St w0 w (kpE k :: gA :: gE :: F)) (hlate : k.late = false) (hw : KpN k gA gE) (ha : k.A.length ≤ 1000000000) (he : k.E.length ≤ 1000000000) (hla : ∀ s ∈ k.A, s.len ≤ 1000000000) (hle : ∀ s ∈ k.E, s.len ≤ 1000000000) :
    CallK Try.prog .bool 17 #[.pointer k.p] w fun (v : Bool) w' => v = true ∧ Upd w0 w' nobody := by
  refine T17.calls ?_
  unfold T17
  refine NilP.mk ?_
  refine h.loadB 0 0 ⟨_, rfl, rfl⟩ rfl (kd := .bool) (x := k.late) rfl ?_
  rw [hlate, SplitB_iff]
  refine ⟨fun hf => (by cases hf), fun _ => ?_⟩
  have hqa : ∀ {w' : World}, St w0 w' (kpE k :: gA :: gE :: F) → Rd w' k.aq 1 (sls k.A) := fun h => h.rd (k := 0) (i := 1) (E := 66) (sz := 1) (s := k.aq) (vs := sls k.A) ⟨_, rfl, rfl⟩
  have hqm : ∀ {w' : World}, St w0 w' (kpE k :: gA :: gE :: F) → Rd w' k.am 1 (lin k.M) := fun h => h.rd (k := 0) (i := 3) (E := 3) (sz := 1) (s := k.am) (vs := lin k.M) ⟨_, rfl, rfl⟩
  have hqe : ∀ {w' : World}, St w0 w' (kpE k :: gA :: gE :: F) → Rd w' k.eq 1 (sls k.E) := fun h => h.rd (k := 0) (i := 4) (E := 78) (sz := 1) (s := k.eq) (vs := sls k.E) ⟨_, rfl, rfl⟩
  have hqn : ∀ {w' : World}, St w0 w' (kpE k :: gA :: gE :: F) → Rd w' k.em 1 (lin k.N) := fun h => h.rd (k := 0) (i := 6) (E := 3) (sz := 1) (s := k.em) (vs := lin k.N) ⟨_, rfl, rfl⟩
  have hal : k.aq.len = k.A.length := by have := (hqa h).1; simp [sls] at this; omega
  have hml : k.am.len = k.M.length := by have := (hqm h).1; rw [lin_len] at this; omega
  have hel : k.eq.len = k.E.length := by have := (hqe h).1; simp [sls] at this; omega
  have hnl : k.em.len = k.N.length := by have := (hqn h).1; rw [lin_len] at this; omega
  have ham := hw.am
  have hen := hw.en
  refine LoopX.mk (fun st w' => ∃ (i : Nat), st = ((i : Int), ()) ∧ i ≤ k.A.length ∧ St w0 w' (kpE k :: gA :: gE :: F)) (fun st => ((k.A.length : Int) - st.1).toNat) ⟨0, rfl, Nat.zero_le _, h⟩ ?_
  clear h
  rintro _ w1 ⟨i, rfl, hi, h⟩ k1 hk1
  dsimp only at hk1 ⊢
  refine NilP.mk ?_
  refine h.loadB 0 0 ⟨_, rfl, rfl⟩ rfl (kd := .sl) (x := k.aq) rfl ?_
  rw [hal]
  rw [SplitB_iff]
  refine ⟨fun hc => ?_, fun hc => ?_⟩
  · have hc : i < k.A.length := by have : (i : Int) < (k.A.length : Int) := of_decide_eq_true hc; omega
    have hem : IntKind.i64.wrap ((i : Int) + 1) = ((i + 1 : Nat) : Int) := by rw [wr (by omega)]; omega
    rw [hem]
    have hsl := hla _ (List.getElem_mem hc)
    refine LoopX.mk (fun st w' => ∃ (j : Nat), st = ((j : Int), ()) ∧ j ≤ (k.A[i]).len ∧ St w0 w' (kpE k :: gA :: gE :: F)) (fun st => (((k.A[i]).len : Int) - st.1).toNat) ⟨0, rfl, Nat.zero_le _, h⟩ ?_
    clear h
    rintro _ w2 ⟨j, rfl, hj, h⟩ k2 hk2
    dsimp only at hk2 ⊢
    refine NilP.mk ?_
    refine h.loadB 0 0 ⟨_, rfl, rfl⟩ rfl (kd := .sl) (x := k.aq) rfl ?_
    refine (hqa h).idxK i rfl (by omega) ?_
    intro g o hga
    refine (hqa h).el hga (i * 1) rfl (kd := .sl) (x := k.A[i]) (sls_ix hc) ?_
    rw [SplitB_iff]
    refine ⟨fun hd => ?_, fun hd => ?_⟩
    · have hd : j < (k.A[i]).len := by have : (j : Int) < ((k.A[i]).len : Int) := of_decide_eq_true hd; omega
      have hem2 : IntKind.i64.wrap ((j : Int) + 1) = ((j + 1 : Nat) : Int) := by rw [wr (by omega)]; omega
      rw [hem2]
      refine NilP.mk ?_
      refine h.drew.readB 0 0 ⟨_, rfl, rfl⟩ rfl (kd := .sl) (x := k.aq) rfl ?_
      refine (hqa h.drew).idxR i rfl (by omega) ?_
      intro g o hga
      refine (hqa h.drew).elR hga (i * 1) rfl (kd := .sl) (x := k.A[i]) (sls_ix hc) ?_
      have hrd : Rd w2.drew k.A[i] 6 (rep (mvA (k.M[i]'(by omega))) (k.A[i]).len) := (hw.covA i hc).rd (show 0 < 6 by decide) h.drew (k := 1) (gs := gA) rfl fun _ h => h
      refine hrd.idxR j rfl hd ?_
      intro g2 o2 hga2
      refine hrd.elAR hga2 (j * 6) rfl (kd := Kd6) (act (mkA (k.M[i]'(by omega)))) (repAt (mvA _) hd) ?_
      refine NilP.mk ?_
      refine h.drew.readB 0 0 ⟨_, rfl, rfl⟩ rfl (kd := .sl) (x := k.am) rfl ?_
      refine (hqm h.drew).idxR i rfl (by omega) ?_
      intro g3 o3 hga3
      refine (hqm h.drew).elR hga3 (i * 1) rfl (kd := .int .i64) (x := k.M[i]'(by omega)) (lin_ix' (by omega)) ?_
      refine ReadN.of (kd := .bool) (K6.neV _ _ _ _ _ _ _ _ _ _ _ _ _ _ _) ?_
      have e := acts_eq (mkA (k.M[i]'(by omega))) (mkA (k.M[i]'(by omega)))
      rw [decide_eq_false (fun hh => hh rfl)] at e
      refine (SplitB_iff (b := !(eq6 (act (mkA (k.M[i]'(by omega)))).1 (act (mkA (k.M[i]'(by omega)))).2.1 (act (mkA (k.M[i]'(by omega)))).2.2.1 (act (mkA (k.M[i]'(by omega)))).2.2.2.1 (act (mkA (k.M[i]'(by omega)))).2.2.2.2.1 (act (mkA (k.M[i]'(by omega)))).2.2.2.2.2.1 (-9) (k.M[i]'(by omega)) 0 0 0 0))).2 ⟨fun hf => ?_, fun _ => ?_⟩
      · have hf := e.symm.trans hf
        cases hf
      · exact hk2 _ _ ⟨j + 1, rfl, by omega, h.drew⟩ (by dsimp only; omega)
    · exact hk1 _ _ ⟨i + 1, rfl, by omega, h⟩ (by dsimp only; omega)
  · refine LoopX.mk (fun st w' => ∃ (i : Nat), st = ((i : Int), ()) ∧ i ≤ k.E.length ∧ St w0 w' (kpE k :: gA :: gE :: F)) (fun st => ((k.E.length : Int) - st.1).toNat) ⟨0, rfl, Nat.zero_le _, h⟩ ?_
    clear h hk1 hc hi
    rintro _ w1 ⟨i, rfl, hi, h⟩ k1 hk1
    dsimp only at hk1 ⊢
    refine NilP.mk ?_
    refine h.loadB 0 0 ⟨_, rfl, rfl⟩ rfl (kd := .sl) (x := k.eq) rfl ?_
    rw [hel]
    rw [SplitB_iff]
    refine ⟨fun hc => ?_, fun hc => ?_⟩
    · have hc : i < k.E.length := by have : (i : Int) < (k.E.length : Int) := of_decide_eq_true hc; omega
      have hem : IntKind.i64.wrap ((i : Int) + 1) = ((i + 1 : Nat) : Int) := by rw [wr (by omega)]; omega
      rw [hem]
      have hsl := hle _ (List.getElem_mem hc)
      refine LoopX.mk (fun st w' => ∃ (j : Nat), st = ((j : Int), ()) ∧ j ≤ (k.E[i]).len ∧ St w0 w' (kpE k :: gA :: gE :: F)) (fun st => (((k.E[i]).len : Int) - st.1).toNat) ⟨0, rfl, Nat.zero_le _, h⟩ ?_
      clear h
      rintro _ w2 ⟨j, rfl, hj, h⟩ k2 hk2
      dsimp only at hk2 ⊢
      refine NilP.mk ?_
      refine h.loadB 0 0 ⟨_, rfl, rfl⟩ rfl (kd := .sl) (x := k.eq) rfl ?_
      refine (hqe h).idxK i rfl (by omega) ?_
      intro g o hga
      refine (hqe h).el hga (i * 1) rfl (kd := .sl) (x := k.E[i]) (sls_ix hc) ?_
      rw [SplitB_iff]
      refine ⟨fun hd => ?_, fun hd => ?_⟩
      · have hd : j < (k.E[i]).len := by have : (j : Int) < ((k.E[i]).len : Int) := of_decide_eq_true hd; omega
        have hem2 : IntKind.i64.wrap ((j : Int) + 1) = ((j + 1 : Nat) : Int) := by rw [wr (by omega)]; omega
        rw [hem2]
        refine NilP.mk ?_
        refine h.drew.readB 0 0 ⟨_, rfl, rfl⟩ rfl (kd := .sl) (x := k.eq) rfl ?_
        refine (hqe h.drew).idxR i rfl (by omega) ?_
        intro g o hga
        refine (hqe h.drew).elR hga (i * 1) rfl (kd := .sl) (x := k.E[i]) (sls_ix hc) ?_
        have hrd : Rd w2.drew k.E[i] 2 (rep (mvE (k.N[i]'(by omega))) (k.E[i]).len) := (hw.covE i hc).rd (show 0 < 2 by decide) h.drew (k := 2) (gs := gE) rfl fun _ h => h
        refine hrd.idxR j rfl hd ?_
        intro g2 o2 hga2
        refine hrd.elAR hga2 (j * 2) rfl (kd := Kd2) ((mkE (k.N[i]'(by omega))).1, (mkE (k.N[i]'(by omega))).2, ()) (repAt (mvE _) hd) ?_
        refine NilP.mk ?_
        refine h.drew.readB 0 0 ⟨_, rfl, rfl⟩ rfl (kd := .sl) (x := k.em) rfl ?_
        refine (hqn h.drew).idxR i rfl (by omega) ?_
        intro g3 o3 hga3
        refine (hqn h.drew).elR hga3 (i * 1) rfl (kd := .int .i64) (x := k.N[i]'(by omega)) (lin_ix' (by omega)) ?_
        refine ReadN.k2Ne ?_
        rw [SplitB_iff]
        refine ⟨fun hf => ?_, fun _ => ?_⟩
        · simp [mkE] at hf
        · exact hk2 _ _ ⟨j + 1, rfl, by omega, h.drew⟩ (by dsimp only; omega)
      · exact hk1 _ _ ⟨i + 1, rfl, by omega, h⟩ (by dsimp only; omega)
    · exact ⟨rfl, h.upd⟩
end Go.Proofs.Ytmfbmfppjdkeeaa
