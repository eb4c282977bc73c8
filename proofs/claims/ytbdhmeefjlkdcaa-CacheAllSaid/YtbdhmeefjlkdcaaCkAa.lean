/- Two pairs in turns. -/
import Derived.Test.YtbdhmeefjlkdcaaCkRow
namespace Go.Proofs.Ytbdhmeefjlkdcaa
open Go.ChangeShapes Go.WideShapes Go.ChangeAt Go.RowKit Go Go.Fw
set_option linter.unusedVariables false
set_option linter.unusedSimpArgs false
set_option maxRecDepth 4000
set_option maxHeartbeats 4000000
variable {w0 w : World} {F G : Grps}

abbrev OP := Option (Cc × Rc × Po)
def oG (o : OP) (F : Grps) : Grps := match o with | none => F | some x => prG x.1 x.2.1 x.2.2 F
def oP (o : OP) : Option Addr := match o with | none => none | some x => x.2.2.p
def oW (o : OP) (N : Nat) : Prop := match o with | none => True | some x => PW x.1 x.2.1 N ∧ PoW N x.2.2
theorem oW.up {o : OP} {N M : Nat} (h : oW o N) (hm : N ≤ M) : oW o M := by
  cases o with
  | none => trivial
  | some x => exact ⟨h.1.mono hm, h.2.mono hm⟩
theorem o_swap {a b : OP} (h : St w0 w (oG a (oG b F))) : St w0 w (oG b (oG a F)) := by
  cases a with
  | none => cases b <;> exact h
  | some x => cases b with
    | none => exact h
    | some y => exact h.ord 16 [8, 9, 10, 11, 12, 13, 14, 15, 0, 1, 2, 3, 4, 5, 6, 7]
theorem o_ne (o : OP) {x y : Operand} {K : Bool → World → Prop} (h : K o.isSome w) : RunN Try.prog .bool (V (do eqGuard .neq 26 x y (.pointer (oP o)) (.pointer none); binOp .neq 26 (.pointer (oP o)) (.pointer none))) w K := by
  cases o with
  | none => exact RunN.pNeN h
  | some z => exact RunN.pNeS h
theorem o_eq (o : OP) {x y : Operand} {K : Bool → World → Prop} (h : K o.isNone w) : RunN Try.prog .bool (V (do eqGuard .eql 26 x y (.pointer (oP o)) (.pointer none); binOp .eql 26 (.pointer (oP o)) (.pointer none))) w K := by
  cases o with
  | none => exact RunN.pEqN h
  | some z => exact RunN.pEqS h
theorem o_plays {o : OP} {N : Nat} (hs : o.isSome = true) (h : St w0 w (oG o F)) (hw : oW o N) (hN : N ≤ 100000) (x : Op5) :
    CallK Try.prog .bool 12 #[.pointer (oP o), .agg #[.int .i64 x.1, .int .i64 x.2.1, .int .i64 x.2.2.1, .int .i64 x.2.2.2.1, .int .i64 x.2.2.2.2]] w fun (v : Bool) w' => v = true ∧ ∃ o', oP o' = oP o ∧ oW o' (N + 1) ∧ St w0 w' (oG o' F) := by
  cases o with
  | none => cases hs
  | some z =>
    refine (plays_st h hw.1 hN hw.2 x).mono ?_
    rintro v w1 ⟨rfl, c', r', p', h0, h1, h2, h3, h4, h5, h6, h7, h8, h9, h⟩
    exact ⟨rfl, some (c', r', p'), by show p'.p = z.2.2.p; rw [Po.p, Po.p, h3], ⟨h4, h5⟩, h⟩
theorem o_stands {o : OP} {N : Nat} (hs : o.isSome = true) (h : St w0 w (oG o F)) (hw : oW o N) : CallK Try.prog .bool 13 #[.pointer (oP o)] w fun (v : Bool) w' => v = true ∧ St w0 w' (oG o F) := by
  cases o with
  | none => cases hs
  | some z => exact stands_st h hw.2
theorem o_apart {o : OP} {N : Nat} (hs : o.isNone = false) (h : St w0 w (oG o F)) (hw : oW o N) (hN : N ≤ 100000) : CallK Try.prog .bool 14 #[.pointer (oP o)] w fun (v : Bool) w' => v = true ∧ St w0 w' F := by
  cases o with
  | none => cases hs
  | some z => exact apart_st h hw.2 hN
theorem o_made (h : St w0 w F) (me reps sess room : Int) : CallK Try.prog (.tup (.cons .ptr (.cons .bool .nilT))) 10 #[.int .i64 me, .int .i64 reps, .int .i64 sess, .int .i64 room] w fun (v : Option Addr × Bool × Unit) w' => ∃ o : OP, v = (oP o, true, ()) ∧ oW o 0 ∧ St w0 w' (oG o F) := by
  refine (made_st h me reps sess room).mono ?_
  rintro v w1 (⟨_, rfl, h⟩ | ⟨_, c, r, p, rfl, hw, hpo, _, _, _, _, _, h⟩)
  · exact ⟨none, rfl, trivial, h⟩
  · exact ⟨some (c, r, p), rfl, ⟨hw, hpo⟩, h⟩
theorem trodAll_six {H : Type} {enc : TypeId × Value → H} {P : Program} {w : World} {base : Nat} {spare : Nat → Bool} {held : Bool} {t0 t1 t2 t3 t4 t5 : TypeId} {args : Array Value} {ds : List (DataW H)} {ps : List MemPlace} (h : DataW.TrodAll enc P w base spare held [t0, t1, t2, t3, t4, t5] args.toList ds ps) :
    ∃ v0 v1 v2 v3 v4 v5 d0 d1 d2 d3 d4 d5 p0 p1 p2 p3 p4 p5, args = #[v0, v1, v2, v3, v4, v5] ∧ ds = [d0, d1, d2, d3, d4, d5] ∧ ps = p0 ++ (p1 ++ (p2 ++ (p3 ++ (p4 ++ p5)))) ∧ DataW.Trod enc P w base spare held t0 v0 d0 p0 ∧ DataW.Trod enc P w base spare held t1 v1 d1 p1 ∧ DataW.Trod enc P w base spare held t2 v2 d2 p2 ∧
      DataW.Trod enc P w base spare held t3 v3 d3 p3 ∧ DataW.Trod enc P w base spare held t4 v4 d4 p4 ∧ DataW.Trod enc P w base spare held t5 v5 d5 p5 := by
  obtain ⟨v0, vs0, d0, ds0, p0, q0, hargs, rfl, rfl, h0, h⟩ := trodAll_cons h
  obtain ⟨v1, vs1, d1, ds1, p1, q1, rfl, rfl, rfl, h1, h⟩ := trodAll_cons h
  obtain ⟨v2, vs2, d2, ds2, p2, q2, rfl, rfl, rfl, h2, h⟩ := trodAll_cons h
  obtain ⟨v3, vs3, d3, ds3, p3, q3, rfl, rfl, rfl, h3, h⟩ := trodAll_cons h
  obtain ⟨v4, vs4, d4, ds4, p4, q4, rfl, rfl, rfl, h4, h⟩ := trodAll_cons h
  obtain ⟨v5, vs5, d5, ds5, p5, q5, rfl, rfl, rfl, h5, h⟩ := trodAll_cons h
  obtain ⟨rfl, rfl, rfl⟩ := trodAll_nil h
  exact ⟨v0, v1, v2, v3, v4, v5, d0, d1, d2, d3, d4, d5, p0, p1, p2, p3, p4, p5, by cases args; simp_all, rfl, by simp, h0, h1, h2, h3, h4, h5⟩
theorem law5 {s : Sl} {os : List Op5} (hs : Rd w s 5 (opvs os)) (me reps sess room other : Int) : CallK Try.prog .bool 5 #[.int .i64 me, .int .i64 reps, .int .i64 sess, .int .i64 room, .int .i64 other, .slice s.a s.len s.cap] w fun (v : Bool) w' => Upd w w' nobody ∧ v = true := by
  have hsl : s.len = os.length := by have := hs.1; rw [flat_len opv_len] at this; omega
  refine T5.calls ?_
  unfold T5
  rw [SplitB_iff]
  refine ⟨fun hc => ?_, fun hc => ?_⟩
  · exact ⟨Upd.refl _ _, rfl⟩
  have hc : os.length ≤ 400 := by have : ¬ (s.len : Int) > 400 := of_decide_eq_false hc; omega
  refine (alive_st (St.init w)).mono ?_
  rintro v w1 ⟨rfl, h⟩
  refine (o_made h me reps sess room).mono ?_
  rintro _ w2 ⟨a, rfl, ha, h⟩
  refine (slot_ok _ 16 (by decide) (by decide)).mono ?_
  rintro t w3 ⟨rfl, _⟩
  refine (o_made h other reps sess _).mono ?_
  rintro _ w4 ⟨b, rfl, hb, h⟩
  refine JoinX.mk (fun (y : Bool × Unit) w' => y.1 = false ∧ St w w' (oG b (oG a []))) ?_ ?_
  · rintro ⟨y, ⟨⟩⟩ w5 ⟨hy, h⟩
    dsimp only at hy
    subst hy
    rw [SplitB_iff]
    refine ⟨fun hf => (by cases hf), fun _ => ?_⟩
    have h := o_swap h
    refine LoopX.mk (fun st w' => ∃ (i : Nat) (a' b' : OP), st = ((i : Int), ()) ∧ i ≤ os.length ∧ oP a' = oP a ∧ oP b' = oP b ∧ oW a' i ∧ oW b' i ∧ St w w' (oG a' (oG b' []))) (fun st => ((os.length : Int) - st.1).toNat) ⟨0, a, b, rfl, by omega, rfl, rfl, ha, hb, h⟩ ?_
    clear h ha hb
    rintro _ w6 ⟨i, a', b', rfl, hi, ea, eb, ha, hb, h⟩ k hk
    dsimp only at hk ⊢
    rw [← ea, ← eb]
    rw [SplitB_iff]
    refine ⟨fun hd => ?_, fun hd => ?_⟩
    · have hd : i < os.length := by have : (i : Int) < (s.len : Int) := of_decide_eq_true hd; omega
      have hat := flat_at opv_len os i hd
      have e : IntKind.i64.wrap ((i : Int) + 1) = ((i + 1 : Nat) : Int) := by rw [wr (by omega)]; omega
      refine JoinX.mk (fun (y : Bool × Unit) w' => y.1 = true ∧ ∃ a2, oP a2 = oP a' ∧ oW a2 (i + 1) ∧ St w w' (oG a2 (oG b' []))) ?_ ?_
      · rintro ⟨y, ⟨⟩⟩ w7 ⟨hy, a2, ea2, ha2, h⟩
        dsimp only at hy
        subst hy
        rw [← ea2]
        refine JoinX.mk (fun (y : Bool × Unit) w' => y.1 = true ∧ ∃ b2, oP b2 = oP b' ∧ oW b2 (i + 1) ∧ St w w' (oG a2 (oG b2 []))) ?_ ?_
        · rintro ⟨y, ⟨⟩⟩ w8 ⟨hy, b2, eb2, hb2, h⟩
          dsimp only at hy
          subst hy
          rw [← eb2]
          refine JoinX.mk (fun (y : Bool × Unit) w' => y.1 = false ∧ St w w' (oG a2 (oG b2 []))) ?_ ?_
          · rintro ⟨y, ⟨⟩⟩ w9 ⟨hy, h⟩
            dsimp only at hy
            subst hy
            rw [SplitB_iff]
            refine ⟨fun hf => (by cases hf), fun _ => ?_⟩
            rw [e]
            exact hk _ _ ⟨i + 1, a2, b2, rfl, by omega, ea2.trans ea, eb2.trans eb, ha2, hb2, h⟩ (by dsimp only; omega)
          · intro k9 hk9
            have sec : ∀ {w' : World}, St w w' (oG a2 (oG b2 [])) → ∀ {x y : Operand}, RunN Try.prog .bool (V (do eqGuard .neq 26 x y (.pointer (oP b2)) (.pointer none); binOp .neq 26 (.pointer (oP b2)) (.pointer none))) w' fun t97 w => SplitB t97 (CallK Try.prog .bool 13 #[.pointer (oP b2)] w fun t100 w => k9 (!t100, ()) w) (k9 (false, ()) w) := by
              intro w' h x y
              refine o_ne b2 ?_
              rw [SplitB_iff]
              refine ⟨fun hq => ?_, fun hq => ?_⟩
              · refine (o_stands hq (o_swap h) hb2).mono ?_
                rintro v w9 ⟨rfl, h⟩
                exact hk9 _ _ ⟨rfl, o_swap h⟩
              · exact hk9 _ _ ⟨rfl, h⟩
            rw [SplitB_iff]
            refine ⟨fun hf => (by cases hf), fun _ => ?_⟩
            refine o_ne a2 ?_
            rw [SplitB_iff]
            refine ⟨fun hq => ?_, fun hq => ?_⟩
            · refine (o_stands hq h ha2).mono ?_
              rintro v w9 ⟨rfl, h⟩
              rw [SplitB_iff]
              exact ⟨fun hf => (by cases hf), fun _ => sec h⟩
            · exact sec h
        · intro k7 hk7
          refine JoinX.mk (fun (y : Bool × Unit) w' => (y.1 = true → b'.isSome = true) ∧ St w w' (oG a2 (oG b' []))) ?_ ?_
          · rintro ⟨y, ⟨⟩⟩ w8 ⟨hy, h⟩
            dsimp only at hy
            rw [SplitB_iff]
            refine ⟨fun hq => ?_, fun hq => ?_⟩
            · have hrr := h.old hs
              refine hrr.idxK i rfl (by omega) ?_
              intro g o hg
              refine hrr.elA hg (i * 5) rfl (kd := .agg (.cons (.int .i64) (.cons (.int .i64) (.cons (.int .i64) (.cons (.int .i64) (.cons (.int .i64) .nilT)))))) (opt os[i]) hat ?_
              refine (o_plays (hy hq) (o_swap h) hb (by omega) os[i]).mono ?_
              rintro v w9 ⟨rfl, b2, eb2, hb2, h⟩
              exact hk7 _ _ ⟨rfl, b2, eb2, hb2, o_swap h⟩
            · exact hk7 _ _ ⟨rfl, b', rfl, hb.up (Nat.le_succ _), h⟩
          · intro k11 hk11
            rw [SplitB_iff]
            refine ⟨fun _ => ?_, fun _ => hk11 _ _ ⟨fun hf => (by cases hf), h⟩⟩
            refine o_ne b' ?_
            exact hk11 _ _ ⟨fun hf => hf, h⟩
      · intro k5 hk5
        refine JoinX.mk (fun (y : Bool × Unit) w' => (y.1 = true → a'.isSome = true) ∧ St w w' (oG a' (oG b' []))) ?_ ?_
        · rintro ⟨y, ⟨⟩⟩ w7 ⟨hy, h⟩
          dsimp only at hy
          rw [SplitB_iff]
          refine ⟨fun hq => ?_, fun hq => ?_⟩
          · have hrr := h.old hs
            refine hrr.idxK i rfl (by omega) ?_
            intro g o hg
            refine hrr.elA hg (i * 5) rfl (kd := .agg (.cons (.int .i64) (.cons (.int .i64) (.cons (.int .i64) (.cons (.int .i64) (.cons (.int .i64) .nilT)))))) (opt os[i]) hat ?_
            refine (o_plays (hy hq) h ha (by omega) os[i]).mono ?_
            rintro v w8 ⟨rfl, a2, ea2, ha2, h⟩
            exact hk5 _ _ ⟨rfl, a2, ea2, ha2, h⟩
          · exact hk5 _ _ ⟨rfl, a', rfl, ha.up (Nat.le_succ _), h⟩
        · intro k13 hk13
          rw [SplitB_iff]
          refine ⟨fun _ => ?_, fun _ => hk13 _ _ ⟨fun hf => (by cases hf), h⟩⟩
          refine o_ne a' ?_
          exact hk13 _ _ ⟨fun hf => hf, h⟩
    · refine o_eq a' ?_
      rw [SplitB_iff]
      refine ⟨fun hq => ?_, fun hq => ?_⟩
      · refine o_eq b' ?_
        rw [SplitB_iff]
        refine ⟨fun hz => ?_, fun hz => ?_⟩
        · exact ⟨h.upd, rfl⟩
        · refine (o_apart hz (o_swap h) hb (by omega)).mono ?_
          rintro v w9 ⟨rfl, h⟩
          exact ⟨h.upd, rfl⟩
      · refine (o_apart hq h ha (by omega)).mono ?_
        rintro v w9 ⟨rfl, h⟩
        rw [SplitB_iff]
        refine ⟨fun _ => ?_, fun hf => by cases hf⟩
        refine o_eq b' ?_
        rw [SplitB_iff]
        refine ⟨fun hz => ?_, fun hz => ?_⟩
        · exact ⟨h.upd, rfl⟩
        · refine (o_apart hz h hb (by omega)).mono ?_
          rintro v w9 ⟨rfl, h⟩
          exact ⟨h.upd, rfl⟩
  · intro k hk
    rw [SplitB_iff]
    refine ⟨fun hf => (by cases hf), fun _ => ?_⟩
    rw [SplitB_iff]
    refine ⟨fun hf => (by cases hf), fun _ => ?_⟩
    exact hk _ _ ⟨rfl, h⟩
end Go.Proofs.Ytbdhmeefjlkdcaa
