/- The cache: what it computes, and End. -/
import Derived.Test.YtbdhmeefjlkdcaaCkF
namespace Go.Proofs.Ytbdhmeefjlkdcaa
open Go Go.Fw Go.RowKit
set_option linter.unusedVariables false
set_option linter.unusedSimpArgs false
set_option maxRecDepth 4000
set_option maxHeartbeats 2000000
variable {w0 w : World} {F G : Grps}

structure Av where
  last : Int
  pend : List Int
  kept : List Rp
def Ses.V (s : Ses) : Av := ⟨s.last, s.pend, s.kept⟩
def lbN (l : List Int) (x : Int) : Nat := (l.filter (fun y => decide (y < x))).length
theorem LB.eq {l : List Int} {x : Int} {i : Nat} (h : LB l x i) : i = lbN l x := by
  have e : l.filter (fun y => decide (y < x)) = l.take i := by
    conv => lhs; rw [← List.take_append_drop i l]
    rw [List.filter_append]
    have h1 : (l.take i).filter (fun y => decide (y < x)) = l.take i := by
      rw [List.filter_eq_self]
      intro y hy
      obtain ⟨j, hj, rfl⟩ := List.mem_iff_getElem.1 hy
      rw [List.getElem_take]
      have hj2 : j < i := by simp at hj; omega
      have := h.2.1 j (by simp at hj; omega) hj2
      simpa using this
    have h2 : (l.drop i).filter (fun y => decide (y < x)) = [] := by
      rw [List.filter_eq_nil_iff]
      intro y hy
      obtain ⟨j, hj, rfl⟩ := List.mem_iff_getElem.1 hy
      rw [List.getElem_drop]
      have := h.2.2 (i + j) (by simp at hj; omega) (by omega)
      simp; omega
    rw [h1, h2, List.append_nil]
  rw [lbN, e, List.length_take, Nat.min_eq_left h.1]
def keepV (room : Nat) (l : List Rp) (r : Rp) : List Rp := keepL room l (lbN (ids l) r.2.1) r
def endV (room : Nat) (a : Av) (r : Rp) : Int × Av :=
  if r.2.1 > a.last then (131, a) else if r.2.1 ∈ a.pend then (0, ⟨a.last, a.pend.erase r.2.1, keepV room a.kept r⟩) else (130, a)
/-- The number of the session among one's own. -/
def idxV (me reps n : Nat) (x : Int) : Option Nat := (List.range n).find? (fun j => x == ((me + j * reps : Nat) : Int))
def endC (me reps room : Nat) (l : List Av) (r : Rp) : Int × List Av :=
  match idxV me reps l.length r.1 with
  | none => (132, l)
  | some j => match l[j]? with | some a => ((endV room a r).1, l.set j (endV room a r).2) | none => (132, l)
theorem idx_own {c : Cc} (hr : 2 ≤ c.reps) {x : Int} {j : Nat} (h : c.own x j) : idxV c.me c.reps c.ss.length x = some j := by
  rw [idxV, List.find?_eq_some_iff_getElem]
  refine ⟨by simpa using h.2, j, by simpa using h.1, by simp, fun i hi => ?_⟩
  have h1 : i < c.ss.length := by have := h.1; omega
  simp only [List.getElem_range, Bool.not_eq_true', beq_eq_false_iff_ne, ne_eq]
  intro he
  have := own_inj hr h ⟨h1, he⟩
  omega
theorem idx_none {c : Cc} {x : Int} (h : ∀ j, ¬ c.own x j) : idxV c.me c.reps c.ss.length x = none := by
  rw [idxV, List.find?_eq_none]
  intro j hj
  have := List.mem_range.1 hj
  simp only [beq_iff_eq]
  exact fun he => h j ⟨this, he⟩
theorem endC_own {c : Cc} (hr : 2 ≤ c.reps) {r : Rp} {j : Nat} (hj : c.own r.1 j) : endC c.me c.reps c.room (c.ss.map Ses.V) r = ((endV c.room (c.ss[j]'hj.1).V r).1, (c.ss.map Ses.V).set j (endV c.room (c.ss[j]'hj.1).V r).2) := by
  have h1 := hj.1
  rw [endC, List.length_map, idx_own hr hj]
  simp [h1]
theorem wf_mono {c : Cc} {N M : Nat} (h : c.wf N) (hm : N ≤ M) : c.wf M := ⟨h.reps, h.me, h.sess, h.room, h.len, fun s hs => { h.ses s hs with len := Nat.le_trans (h.ses s hs).len hm }⟩
theorem wf_set {c : Cc} {N M : Nat} (h : c.wf N) (hm : N ≤ M) {j : Nat} {s : Ses} (hs : SesW c.room M s) : (c.set j s).wf M := by
  refine ⟨h.reps, h.me, h.sess, h.room, fun i => by simp only [Cc.set, List.length_set]; exact h.len i, fun t ht => ?_⟩
  rcases List.mem_or_eq_of_mem_set ht with ht | rfl
  · exact (wf_mono h hm).ses t ht
  · exact hs
theorem ins_sorted {l : List Rp} {r : Rp} {i : Nat} (hs : (ids l).Pairwise (· < ·)) (hi : LB (ids l) r.2.1 i) (hn : r.2.1 ∉ ids l) : (ids (insL l i r)).Pairwise (· < ·) := by
  have e : ids (insL l i r) = (ids l).take i ++ r.2.1 :: (ids l).drop i := by simp [ids, insL, List.map_take, List.map_drop]
  rw [e]
  have hmem : ∀ y ∈ (ids l).take i, y < r.2.1 := by
    intro y hy
    obtain ⟨j, hj, rfl⟩ := List.mem_iff_getElem.1 hy
    rw [List.getElem_take]
    simp at hj
    exact hi.2.1 j (by omega) (by omega)
  have hmem2 : ∀ y ∈ (ids l).drop i, r.2.1 < y := by
    intro y hy
    have hy' := List.mem_of_mem_drop hy
    obtain ⟨j, hj, rfl⟩ := List.mem_iff_getElem.1 hy
    rw [List.getElem_drop] at hy' ⊢
    simp at hj
    have h1 := hi.2.2 (i + j) (by omega) (by omega)
    have h2 : r.2.1 ≠ (ids l)[i + j] := fun he => hn (by rw [he]; exact List.getElem_mem _)
    omega
  rw [List.pairwise_append]
  refine ⟨hs.sublist (List.take_sublist _ _), ?_, fun a ha b hb => ?_⟩
  · rw [List.pairwise_cons]
    exact ⟨hmem2, hs.sublist (List.drop_sublist _ _)⟩
  · have h1 := hmem a ha
    rcases List.mem_cons.1 hb with rfl | hb
    · exact h1
    · have := hmem2 b hb; omega
theorem ins_len (l : List Rp) (i : Nat) (r : Rp) (hi : i ≤ l.length) : (insL l i r).length = l.length + 1 := by simp [insL]; omega
theorem keep_len {room : Nat} {l : List Rp} {i : Nat} {r : Rp} (hi : i ≤ l.length) (hl : l.length ≤ room) : (keepL room l i r).length ≤ room := by
  rw [keepL]; split
  · rw [ins_len l i r hi]; omega
  · rw [List.length_drop, ins_len l i r hi]; omega
theorem keep_sorted {room : Nat} {l : List Rp} {r : Rp} {i : Nat} (hs : (ids l).Pairwise (· < ·)) (hi : LB (ids l) r.2.1 i) (hn : r.2.1 ∉ ids l) : (ids (keepL room l i r)).Pairwise (· < ·) := by
  have h := ins_sorted hs hi hn
  rw [keepL]; split
  · exact h
  · have e : ids ((insL l i r).drop 1) = (ids (insL l i r)).drop 1 := by simp [ids, List.map_drop]
    rw [e]; exact h.sublist (List.drop_sublist _ _)
theorem erase_idx {l : List Int} (hs : l.Pairwise (· < ·)) {x : Int} {i : Nat} (hi : i < l.length) (he : l[i] = x) : l.eraseIdx i = l.erase x := by
  have hfind : l.idxOf x = i := by
    have hx : x ∈ l := by rw [← he]; exact List.getElem_mem hi
    have h1 := List.getElem_idxOf (List.idxOf_lt_length_of_mem hx)
    rcases Nat.lt_trichotomy (l.idxOf x) i with h2 | h2 | h2
    · have := List.pairwise_iff_getElem.1 hs _ i (by omega) hi h2
      omega
    · exact h2
    · have := List.pairwise_iff_getElem.1 hs i _ hi (List.idxOf_lt_length_of_mem hx) h2
      omega
  rw [List.erase_eq_eraseIdx_of_idxOf hfind]
theorem end_st {c : Cc} {N : Nat} (h : St w0 w (ccG c F)) (hw : c.wf N) (hN : N ≤ 1000000) (hdis : ∀ s ∈ c.ss, ∀ x ∈ s.pend, x ∉ ids s.kept) (r : Rp) :
    CallK Try.prog (.int .i64) 17 #[.pointer c.p, .agg #[.int .i64 r.1, .int .i64 r.2.1, .int .i64 r.2.2.1, .int .i64 r.2.2.2]] w fun (v : Int) w' =>
      ∃ ss', St w0 w' (ccG { c with ss := ss' } F) ∧ ({ c with ss := ss' } : Cc).wf N ∧ (v, ss'.map Ses.V) = endC c.me c.reps c.room (c.ss.map Ses.V) r := by
  have hr := hw.reps.1
  refine T17.calls (p1 := rpt r) ?_
  unfold T17
  refine h.newB run_boxA rfl ?_
  intro b w1 h
  refine h.loadB 0 0 ⟨_, rfl, rfl⟩ rfl rfl ?_
  have h := h.ord 4 [1, 2, 3, 0]
  have h : St w0 w1 (ccG c ([Ent.cel b 43 (rpv r)] :: F)) := h
  refine of_st h hr r.1 (fun w j hj h => ?_) (fun w hn h => ?_)
  · have hje := has_e (F := [Ent.cel b 43 (rpv r)] :: F) hj.1
    have hjr := has_r (F := [Ent.cel b 43 (rpv r)] :: F) hj.1
    have hS := hw.ses _ (List.getElem_mem hj.1)
    have hD := hdis _ (List.getElem_mem hj.1)
    have hE := endC_own hr hj
    generalize hs : c.ss[j]'hj.1 = s at hje hjr hS hD hE
    have same : ∀ w', St w0 w' (ccG c ([Ent.cel b 43 (rpv r)] :: F)) → ∀ v, endV c.room s.V r = (v, s.V) → ∃ ss', St w0 w' (ccG { c with ss := ss' } F) ∧ ({ c with ss := ss' } : Cc).wf N ∧ (v, ss'.map Ses.V) = endC c.me c.reps c.room (c.ss.map Ses.V) r := by
      intro w' h v hv
      refine ⟨c.ss, h.drop 3, hw, ?_⟩
      rw [hE, hv, ← hs, ← List.map_set, List.set_getElem_self]
    refine RunN.pEqS ?_
    rw [SplitB_iff]
    refine ⟨fun hc => (by cases hc), fun _ => ?_⟩
    refine h.drew.readB 3 0 ⟨_, rfl, rfl⟩ rfl rfl ?_
    refine NilP.mk ?_
    refine h.drew.readB 1 j hje rfl rfl ?_
    rw [SplitB_iff]
    refine ⟨fun hc => ?_, fun hc => ?_⟩
    · have hc : r.2.1 > s.last := of_decide_eq_true hc
      exact same _ h.drew 131 (by rw [endV]; exact if_pos hc)
    · have hc : ¬ r.2.1 > s.last := of_decide_eq_false hc
      refine NilP.mk ?_
      refine h.drew.drew.readB 1 j hje rfl (kd := .sl) (x := s.q) rfl ?_
      refine h.drew.drew.readB 3 0 ⟨_, rfl, rfl⟩ rfl rfl ?_
      refine (bs_ok (h.drew.drew.rd hjr) hS.sorted (by have := hS.len; omega) r.2.1).mono ?_
      rintro _ w2 ⟨rfl, i, hi, rfl⟩
      have h := h.drew.drew
      have hmem := hi.mem hS.sorted
      rw [SplitB_iff]
      refine ⟨fun hd => ?_, fun hd => ?_⟩
      · have hd : r.2.1 ∉ s.pend := by simpa using hd
        exact same _ h 130 ((if_neg hc).trans (if_neg hd))
      · have hd : r.2.1 ∈ s.pend := by simpa using hd
        obtain ⟨hil, hie⟩ := hmem.1 hd
        refine NilP.mk ?_
        refine h.loadB 1 j hje rfl (kd := .sl) (x := s.q) rfl ?_
        have e1 : IntKind.i64.wrap ((i : Int) + 1) = ((i + 1 : Nat) : Int) := by have := hS.len; rw [wr (by omega)]; omega
        have e1 : IntKind.i64.wrap (((i : Int), decide (r.2.1 ∈ s.pend), ()).1 + 1) = ((i + 1 : Nat) : Int) := e1
        rw [e1]
        refine (delete_st h hjr (by have := hS.len; omega) hil).mono ?_
        intro q w3 h
        rw [erase_idx hS.sorted hil hie] at h
        have hje2 : Has (updG (ccG c ([Ent.cel b 43 (rpv r)] :: F)) 2 j [.row 3 1 q (lin (s.pend.erase r.2.1))]) 1 j (sesE s) := hje
        refine NilP.mk ?_
        refine h.storB 1 j hje2 rfl rfl rfl ?_
        intro w4 h
        have hje3 : Has (updG (updG (ccG c ([Ent.cel b 43 (rpv r)] :: F)) 2 j [.row 3 1 q (lin (s.pend.erase r.2.1))]) 1 j [sesE { s with q := q, pend := s.pend.erase r.2.1 }]) 1 j (sesE { s with q := q, pend := s.pend.erase r.2.1 }) := has_upd hje2 _
        have h : St w0 w4 (updG (updG (ccG c ([Ent.cel b 43 (rpv r)] :: F)) 2 j [.row 3 1 q (lin (s.pend.erase r.2.1))]) 1 j [sesE { s with q := q, pend := s.pend.erase r.2.1 }]) := h
        refine ReadN.of (kd := .agg (.cons (.int .i64) (.cons (.int .i64) (.cons (.int .i64) (.cons (.int .i64) .nilT))))) (x := rpt r) (h.drew.run_loadA (k := 3) (i := 0) (b := b) (t := 43) (cs := rpv r) ⟨_, rfl, rfl⟩ (t' := 43) (n := 4) (j := 0) rfl (vs := rpv r) rfl rfl) ?_
        refine NilP.mk ?_
        refine h.drew.readB 0 0 ⟨_, rfl, rfl⟩ rfl (kd := .int .i64) (x := (c.room : Int)) rfl ?_
        have hwf2 : ({ s with q := q, pend := s.pend.erase r.2.1 } : Ses).wf := ⟨hS.wf.ring, hS.wf.n, hS.wf.sorted⟩
        refine (keep_st h.drew hje3 hwf2 r c.room hw.room hS.n).mono ?_
        rintro _ w5 ⟨m, ring', n', hm, h16, hn', hk, h⟩
        rw [upd_upd hje2] at h
        have hsub : (s.pend.erase r.2.1).Sublist s.pend := List.erase_sublist
        have hkl := kept_len hS.wf
        have hnk : r.2.1 ∉ ids s.kept := hD _ hd
        have hm' : LB (ids s.kept) r.2.1 m := hm
        have hk' : ring'.take n' = keepL c.room s.kept m r := hk
        have hmk : m ≤ s.kept.length := by have := hm'.1; simpa [ids] using this
        refine ⟨(c.ss.set j { s with q := q, pend := s.pend.erase r.2.1, ring := ring', n := n' }), ?_, wf_set hw (Nat.le_refl _) (j := j) (s := { s with q := q, pend := s.pend.erase r.2.1, ring := ring', n := n' }) ⟨⟨h16, by have := hw.room.2; dsimp only; omega, ?_⟩, hn', hS.sorted.sublist hsub, Nat.le_trans hsub.length_le hS.len, hS.last, fun x hx => hS.low x (hsub.subset hx)⟩, ?_⟩
        · refine St.drop (G := ccG (c.set j { s with q := q, pend := s.pend.erase r.2.1, ring := ring', n := n' }) ([Ent.cel b 43 (rpv r)] :: F)) ?_ 3
          exact set_st hj.1 (by rw [hs]) h
        · dsimp only
          rw [hk']
          exact keep_sorted hS.wf.sorted hm' hnk
        · have e2 : endV c.room s.V r = (0, ⟨s.last, s.pend.erase r.2.1, keepV c.room s.kept r⟩) := (if_neg hc).trans (if_pos hd)
          rw [hE, e2, List.map_set]
          refine congrArg _ (congrArg _ ?_)
          show Av.mk _ _ _ = Av.mk _ _ _
          congr 1
          show ring'.take n' = _
          rw [hk', keepV, ← hm'.eq]
  · refine RunN.pEqN ?_
    rw [SplitB_iff]
    refine ⟨fun _ => ⟨c.ss, h.drop 3, hw, ?_⟩, fun hc => (by cases hc)⟩
    rw [endC, List.length_map, idx_none hn]
end Go.Proofs.Ytbdhmeefjlkdcaa
