/- The document's machine: what is kept. -/
import Derived.Test.YtbdhmeefjlkdcaaCkK
namespace Go.Proofs.Ytbdhmeefjlkdcaa
open Go Go.Fw Go.RowKit
set_option linter.unusedVariables false
set_option linter.unusedSimpArgs false
set_option maxRecDepth 4000
set_option maxHeartbeats 2000000
variable {w0 w : World} {F G : Grps}

def isC (x : Cl) (r : Rp) : Bool := r.1 == x.1 && r.2.1 == x.2
def gtC (x : Cl) (r : Rp) : Bool := r.1 == x.1 && decide (r.2.1 > x.2)
def lastC (l : List Rp) (x : Cl) : Option Rp := (l.filter (isC x)).getLast?
def keptV (room : Nat) (l : List Rp) (x : Cl) : Rp × Bool :=
  match lastC l x with
  | none => (zrp, false)
  | some r => if l.countP (gtC x) ≥ room then (zrp, false) else (r, true)
theorem lastC_snoc (l : List Rp) (r : Rp) (x : Cl) : lastC (l ++ [r]) x = if isC x r = true then some r else lastC l x := by
  rw [lastC, List.filter_append, List.filter_cons, List.filter_nil]
  split
  · rw [List.getLast?_append]; rfl
  · rw [List.append_nil]; rfl
theorem gt_snoc (l : List Rp) (r : Rp) (x : Cl) : (l ++ [r]).countP (gtC x) = l.countP (gtC x) + if gtC x r = true then 1 else 0 := by
  rw [List.countP_append, List.countP_cons, List.countP_nil, Nat.zero_add]
theorem kept_st {c : Rc} {N : Nat} (h : St w0 w (rcG c F)) (hw : c.wf N) (hN : N ≤ 1000000) (x : Cl) :
    CallK Try.prog (.tup (.cons (.agg (.cons (.int .i64) (.cons (.int .i64) (.cons (.int .i64) (.cons (.int .i64) .nilT))))) (.cons .bool .nilT))) 46 #[.pointer c.p, .agg #[.int .i64 x.1, .int .i64 x.2]] w fun (v : (Int × Int × Int × Int × Unit) × Bool × Unit) w' =>
      St w0 w' (rcG c F) ∧ v = (rpt (keptV c.room c.rs x).1, (keptV c.room c.rs x).2, ()) := by
  refine T46.calls (p1 := (x.1, x.2, ())) ?_
  unfold T46
  refine h.newB run_boxA rfl ?_
  intro b3 w1 h
  refine h.newB (NewC.run _) rfl ?_
  intro b4 w2 h
  refine h.newB (NewC.run _) rfl ?_
  intro b6 w3 h
  have h := h.ord 4 [3, 0, 1, 2]
  have hql : c.rq.len = c.rs.length := by have := (h.rd (k := 0) (i := 2) ⟨_, rfl, rfl⟩).1; rw [flat_len rpv_len] at this; omega
  have hrl := hw.rs
  generalize hM : (fun z : Rp => [Ent.cel b6 43 (rpv z)] :: [Ent.cel b4 43 (rpv zrp)] :: [Ent.cel b3 32 (clv x)] :: F) = M
  have h : St w0 w3 (rcG c (M zrp)) := by rw [← hM]; exact h
  have h6 : ∀ z, Has (rcG c (M z)) 1 0 (.cel b6 43 (rpv z)) := fun z => by rw [← hM]; exact ⟨_, rfl, rfl⟩
  have u6 : ∀ z z', updG (rcG c (M z)) 1 0 [.cel b6 43 (rpv z')] = rcG c (M z') := fun z z' => by rw [← hM]; rfl
  have h4 : ∀ z, Has (rcG c (M z)) 2 0 (.cel b4 43 (rpv zrp)) := fun z => by rw [← hM]; exact ⟨_, rfl, rfl⟩
  have h3 : ∀ z, Has (rcG c (M z)) 3 0 (.cel b3 32 (clv x)) := fun z => by rw [← hM]; exact ⟨_, rfl, rfl⟩
  have hout : ∀ {w' z z'}, St w0 w' (updG (rcG c (M z)) 2 0 [.cel b4 43 (rpv z')]) → St w0 w' (rcG c F) := fun {w' z z'} h => by
    rw [← hM] at h
    exact ((h.drop 1).drop 1).drop 1
  clear hM
  refine LoopX.mk (fun st w' => ∃ i : Nat, st = ((lastC (c.rs.take i) x).isSome, (((c.rs.take i).countP (gtC x) : Nat) : Int), (i : Int), ()) ∧ i ≤ c.rs.length ∧ St w0 w' (rcG c (M ((lastC (c.rs.take i) x).getD zrp)))) (fun st => ((c.rs.length : Int) - st.2.2.1).toNat) ⟨0, rfl, Nat.zero_le _, h⟩ ?_
  clear h
  rintro _ w4 ⟨i, rfl, hi, h⟩ k hk
  dsimp only at hk ⊢
  refine NilP.mk ?_
  refine h.loadB 0 0 ⟨_, rfl, rfl⟩ rfl (kd := .sl) (x := c.rq) (rcC_rq hw.lasts) ?_
  rw [SplitB_iff]
  refine ⟨fun hc => ?_, fun hc => ?_⟩
  · have hc : i < c.rs.length := by have : (i : Int) < (c.rq.len : Int) := of_decide_eq_true hc; omega
    have hts : c.rs.take (i + 1) = c.rs.take i ++ [c.rs[i]] := List.take_succ_eq_append_getElem hc
    have hcnt : (c.rs.take i).countP (gtC x) ≤ i := Nat.le_trans List.countP_le_length (by simp; omega)
    refine JoinX.mk (fun (y : Bool × Int × Unit) w' => y = ((lastC (c.rs.take (i + 1)) x).isSome, (((c.rs.take (i + 1)).countP (gtC x) : Nat) : Int), ()) ∧ St w0 w' (rcG c (M ((lastC (c.rs.take (i + 1)) x).getD zrp)))) ?_ ?_
    · rintro _ w5 ⟨rfl, h⟩
      dsimp only
      have e : IntKind.i64.wrap ((i : Int) + 1) = ((i + 1 : Nat) : Int) := by rw [wr (by omega)]; omega
      rw [e]
      exact hk _ _ ⟨i + 1, rfl, by omega, h⟩ (by dsimp only; omega)
    · intro k3 hk3
      refine NilP.mk ?_
      refine h.loadB 0 0 ⟨_, rfl, rfl⟩ rfl (kd := .sl) (x := c.rq) (rcC_rq hw.lasts) ?_
      have hrr := h.rd (k := 0) (i := 2) ⟨_, rfl, rfl⟩
      refine hrr.idxK i rfl (by omega) ?_
      intro g o ha
      have hat := flat_at rpv_len c.rs i hc
      have hat2 : ((rps c.rs).drop (i * 4)).take 2 = clv (c.rs[i].1, c.rs[i].2.1) := by
        have := congrArg (List.take 2) hat
        rw [List.take_take] at this
        exact this
      refine hrr.elA ha (i * 4) rfl (kd := .agg (.cons (.int .i64) (.cons (.int .i64) .nilT))) (c.rs[i].1, c.rs[i].2.1, ()) hat2 ?_
      refine h.newB (NewC.run _) rfl ?_
      intro b10 w5 h
      refine h.storA 0 0 (b := b10) (t := 32) (cs := clv (0, 0)) ⟨_, rfl, rfl⟩ (t' := 32) (n := 2) (j := 0) rfl (ds := clv (c.rs[i].1, c.rs[i].2.1)) rfl rfl rfl ?_
      intro w6 h
      have h : St w0 w6 ([Ent.cel b10 32 (clv (c.rs[i].1, c.rs[i].2.1))] :: rcG c (M ((lastC (c.rs.take i) x).getD zrp))) := h
      refine JoinX.mk (fun (y : Bool × Unit) w' => y.1 = (lastC (c.rs.take (i + 1)) x).isSome ∧ St w0 w' ([Ent.cel b10 32 (clv (c.rs[i].1, c.rs[i].2.1))] :: rcG c (M ((lastC (c.rs.take (i + 1)) x).getD zrp)))) ?_ ?_
      · rintro ⟨y, ⟨⟩⟩ w7 ⟨hy, h⟩
        dsimp only at hy ⊢
        subst hy
        refine JoinX.mk (fun (y : Bool × Unit) w' => y.1 = gtC x c.rs[i] ∧ St w0 w' ([Ent.cel b10 32 (clv (c.rs[i].1, c.rs[i].2.1))] :: rcG c (M ((lastC (c.rs.take (i + 1)) x).getD zrp)))) ?_ ?_
        · rintro ⟨y, ⟨⟩⟩ w8 ⟨hy, h⟩
          dsimp only at hy ⊢
          subst hy
          have hgs := gt_snoc (c.rs.take i) c.rs[i] x
          rw [← hts] at hgs
          rw [SplitB_iff]
          refine ⟨fun hd => ?_, fun hd => ?_⟩
          · rw [if_pos hd] at hgs
            have e : IntKind.i64.wrap ((((c.rs.take i).countP (gtC x) : Nat) : Int) + 1) = (((c.rs.take (i + 1)).countP (gtC x) : Nat) : Int) := by rw [wr (by omega), hgs]; omega
            rw [e]
            exact hk3 _ _ ⟨rfl, h.drop 0⟩
          · rw [if_neg (by rw [hd]; decide)] at hgs
            have hgs : (c.rs.take (i + 1)).countP (gtC x) = (c.rs.take i).countP (gtC x) := hgs
            rw [← hgs]
            exact hk3 _ _ ⟨rfl, h.drop 0⟩
        · intro k7 hk7
          refine h.loadB 0 0 ⟨_, rfl, rfl⟩ rfl rfl ?_
          refine h.loadB 4 0 (h3 _) rfl rfl ?_
          rw [SplitB_iff]
          refine ⟨fun hd => ?_, fun hd => ?_⟩
          · have hd : c.rs[i].1 = x.1 := by simpa using hd
            refine h.loadB 0 0 ⟨_, rfl, rfl⟩ rfl rfl ?_
            refine h.loadB 4 0 (h3 _) rfl rfl ?_
            refine hk7 _ _ ⟨?_, h⟩
            show decide (c.rs[i].2.1 > x.2) = gtC x c.rs[i]
            simp [gtC, hd]
          · have hd : ¬ c.rs[i].1 = x.1 := by simpa using hd
            refine hk7 _ _ ⟨?_, h⟩
            show false = gtC x c.rs[i]
            simp [gtC, hd]
      · intro k5 hk5
        have hls := lastC_snoc (c.rs.take i) c.rs[i] x
        rw [← hts] at hls
        refine RunN.of (kd := .agg (.cons (.int .i64) (.cons (.int .i64) .nilT))) (x := (c.rs[i].1, c.rs[i].2.1, ())) (h.run_loadA (k := 0) (i := 0) (b := b10) (t := 32) (cs := clv (c.rs[i].1, c.rs[i].2.1)) ⟨_, rfl, rfl⟩ (t' := 32) (n := 2) (j := 0) rfl (vs := clv (c.rs[i].1, c.rs[i].2.1)) rfl rfl) ?_
        refine RunN.of (kd := .agg (.cons (.int .i64) (.cons (.int .i64) .nilT))) (x := (x.1, x.2, ())) (h.run_loadA (k := 4) (i := 0) (b := b3) (t := 32) (cs := clv x) (h3 _) (t' := 32) (n := 2) (j := 0) rfl (vs := clv x) rfl rfl) ?_
        refine RunN.k2Eq ?_
        rw [SplitB_iff]
        refine ⟨fun hd => ?_, fun hd => ?_⟩
        · have hd : isC x c.rs[i] = true := hd
          rw [if_pos hd] at hls
          refine NilP.mk ?_
          refine h.loadB 1 0 ⟨_, rfl, rfl⟩ rfl (kd := .sl) (x := c.rq) (rcC_rq hw.lasts) ?_
          have hrr := h.rd (k := 1) (i := 2) ⟨_, rfl, rfl⟩
          refine hrr.idxK i rfl (by omega) ?_
          intro g o ha
          refine hrr.elA ha (i * 4) rfl (kd := .agg (.cons (.int .i64) (.cons (.int .i64) (.cons (.int .i64) (.cons (.int .i64) .nilT))))) (rpt c.rs[i]) hat ?_
          refine h.storA 2 0 (b := b6) (t := 43) (cs := rpv ((lastC (c.rs.take i) x).getD zrp)) (h6 _) (t' := 43) (n := 4) (j := 0) rfl (ds := rpv c.rs[i]) rfl rfl rfl ?_
          intro w8 h
          have h : St w0 w8 ([Ent.cel b10 32 (clv (c.rs[i].1, c.rs[i].2.1))] :: updG (rcG c (M ((lastC (c.rs.take i) x).getD zrp))) 1 0 [.cel b6 43 (rpv c.rs[i])]) := h
          rw [u6] at h
          refine hk5 _ _ ⟨by rw [hls]; rfl, ?_⟩
          rw [hls]
          exact h
        · have hd : isC x c.rs[i] = false := hd
          rw [if_neg (by rw [hd]; decide)] at hls
          rw [← hls] at h ⊢
          exact hk5 _ _ ⟨rfl, h⟩
  · have hc : i = c.rs.length := by have : ¬ (i : Int) < (c.rq.len : Int) := of_decide_eq_false hc; omega
    rw [hc, List.take_of_length_le (Nat.le_refl _)] at h ⊢
    refine JoinX.mk (fun (y : Bool × Unit) w' => y.1 = decide ((lastC c.rs x).isSome = false ∨ c.rs.countP (gtC x) ≥ c.room) ∧ St w0 w' (rcG c (M ((lastC c.rs x).getD zrp)))) ?_ ?_
    · rintro ⟨y, ⟨⟩⟩ w5 ⟨hy, h⟩
      dsimp only at hy ⊢
      subst hy
      rw [SplitB_iff]
      refine ⟨fun hd => ?_, fun hd => ?_⟩
      · have hd : (lastC c.rs x).isSome = false ∨ c.rs.countP (gtC x) ≥ c.room := of_decide_eq_true hd
        refine ret_st h 2 0 (h4 _) zrp fun w6 h => ⟨hout h, ?_⟩
        have e : keptV c.room c.rs x = (zrp, false) := by
          rw [keptV]
          cases hl : lastC c.rs x with
          | none => rfl
          | some r =>
            rw [hl] at hd
            rcases hd with hd | hd
            · cases hd
            · exact if_pos hd
        rw [e]
      · have hd : ¬ ((lastC c.rs x).isSome = false ∨ c.rs.countP (gtC x) ≥ c.room) := of_decide_eq_false hd
        refine RunN.of (kd := .agg (.cons (.int .i64) (.cons (.int .i64) (.cons (.int .i64) (.cons (.int .i64) .nilT))))) (x := rpt ((lastC c.rs x).getD zrp)) (h.run_loadA (k := 1) (i := 0) (b := b6) (t := 43) (cs := rpv ((lastC c.rs x).getD zrp)) (h6 _) (t' := 43) (n := 4) (j := 0) rfl (vs := rpv ((lastC c.rs x).getD zrp)) rfl rfl) ?_
        refine ret_st h 2 0 (h4 _) ((lastC c.rs x).getD zrp) fun w6 h => ⟨hout h, ?_⟩
        have e : keptV c.room c.rs x = ((lastC c.rs x).getD zrp, true) := by
          rw [keptV]
          cases hl : lastC c.rs x with
          | none => rw [hl] at hd; exact absurd (.inl rfl) hd
          | some r =>
            have : ¬ c.rs.countP (gtC x) ≥ c.room := fun h => hd (.inr h)
            exact if_neg this
        rw [e]
    · intro k9 hk9
      rw [SplitB_iff]
      refine ⟨fun hd => ?_, fun hd => ?_⟩
      · have hd : (lastC c.rs x).isSome = false := by simpa using hd
        exact hk9 _ _ ⟨by rw [hd]; rfl, h⟩
      · have hd : (lastC c.rs x).isSome = true := by simpa using hd
        refine NilP.mk ?_
        refine h.loadB 0 0 ⟨_, rfl, rfl⟩ rfl rfl ?_
        refine hk9 _ _ ⟨?_, h⟩
        show decide (((c.rs.countP (gtC x) : Nat) : Int) ≥ (c.room : Int)) = _
        rw [hd]; simp
end Go.Proofs.Ytbdhmeefjlkdcaa
