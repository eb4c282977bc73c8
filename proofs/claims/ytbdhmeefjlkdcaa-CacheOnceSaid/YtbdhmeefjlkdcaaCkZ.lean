/- The pair plays a script. -/
import Derived.Test.YtbdhmeefjlkdcaaCkY
namespace Go.Proofs.Ytbdhmeefjlkdcaa
open Go Go.Fw Go.RowKit
set_option linter.unusedVariables false
set_option linter.unusedSimpArgs false
set_option maxRecDepth 4000
set_option maxHeartbeats 4000000
variable {w0 w : World} {F G : Grps}

theorem opv_len (x : Op5) : (opv x).length = 5 := rfl
abbrev opvs (l : List Op5) : List Value := l.flatMap opv
def lastG (me reps sess : Int) (l : List Int) (x : Int) : Int := lastV me.toNat reps.toNat sess.toNat l x
def aliveOps : List Op5 := [(1, 4, 2, 0, 0), (1, 4, 1, 0, 0), (1, 4, 1, 0, 0), (5, 0, 0, 0, 0), (2, 4, 1, 0, 7), (1, 4, 1, 0, 0), (3, 4, 1, 0, 0), (4, 0, 0, 0, 8), (1, 4, 1, 0, 0), (1, 4, 2, 0, 0), (6, 4, 1, 0, 0)]
theorem bs22 (w : World) : (Instr.buildSlice 22 11 #[(0, .agg #[.int .i64 1, .int .i64 4, .int .i64 2, .int .i64 0, .int .i64 0]), (1, .agg #[.int .i64 1, .int .i64 4, .int .i64 1, .int .i64 0, .int .i64 0]), (2, .agg #[.int .i64 1, .int .i64 4, .int .i64 1, .int .i64 0, .int .i64 0]), (3, .agg #[.int .i64 5, .int .i64 0, .int .i64 0, .int .i64 0, .int .i64 0]), (4, .agg #[.int .i64 2, .int .i64 4, .int .i64 1, .int .i64 0, .int .i64 7]), (5, .agg #[.int .i64 1, .int .i64 4, .int .i64 1, .int .i64 0, .int .i64 0]), (6, .agg #[.int .i64 3, .int .i64 4, .int .i64 1, .int .i64 0, .int .i64 0]), (7, .agg #[.int .i64 4, .int .i64 0, .int .i64 0, .int .i64 0, .int .i64 8]), (8, .agg #[.int .i64 1, .int .i64 4, .int .i64 1, .int .i64 0, .int .i64 0]), (9, .agg #[.int .i64 1, .int .i64 4, .int .i64 2, .int .i64 0, .int .i64 0]), (10, .agg #[.int .i64 6, .int .i64 4, .int .i64 1, .int .i64 0, .int .i64 0])]).run Try.prog w = .ok (.slice (some ⟨w.heap.size, 0, none⟩) 11 11) (w.alloc (.cells ⟨opvs aliveOps⟩ 34)) := by kernel_rfl
theorem alive_law : lastV 1 3 6 (aliveOps.foldl (stepL 1 3 6) (List.replicate 64 0)) 4 = 2 := by decide +kernel
theorem alive_st (h : St w0 w F) : CallK Try.prog .bool 9 #[] w fun (v : Bool) w' => v = true ∧ St w0 w' F := by
  refine T9.calls ?_
  unfold T9
  refine (made_st h 1 3 6 1).mono ?_
  rintro _ w1 (⟨h0, _⟩ | ⟨_, c, r, p, rfl, hw, hpo, c1, c2, c3, c4, hl0, h⟩)
  · exact absurd (by decide) h0
  have c1 : c.me = 1 := by omega
  have c2 : c.reps = 3 := by omega
  have c3 : c.sess = 6 := by omega
  refine JoinX.mk (fun (y : Bool × Unit) w' => y.1 = false ∧ St w0 w' (prG c r p F)) ?_ ?_
  · rintro ⟨y, ⟨⟩⟩ w2 ⟨hy, h⟩
    dsimp only at hy
    subst hy
    rw [SplitB_iff]
    refine ⟨fun hf => (by cases hf), fun _ => ?_⟩
    refine h.newB (NewC.run _) rfl ?_
    intro b3 w3 h
    refine h.storA 0 0 (b := b3) (t := 32) (cs := clv (0, 0)) ⟨_, rfl, rfl⟩ (t' := 32) (n := 2) (j := 0) rfl (ds := clv (4, 1)) rfl rfl rfl ?_
    intro w4 h
    refine h.newB (NewC.run _) rfl ?_
    intro b4 w5 h
    refine h.storA 0 0 (b := b4) (t := 32) (cs := clv (0, 0)) ⟨_, rfl, rfl⟩ (t' := 32) (n := 2) (j := 0) rfl (ds := clv (4, 2)) rfl rfl rfl ?_
    intro w6 h
    have h : St w0 w6 ([Ent.cel b4 32 (clv (4, 2))] :: [Ent.cel b3 32 (clv (4, 1))] :: prG c r p F) := h
    have r4 : ∀ {K : (Int × Int × Unit) → World → Prop}, K (4, 2, ()) w6 → RunN Try.prog (.agg (.cons (.int .i64) (.cons (.int .i64) .nilT))) (V (Instr.loadAt 32 (.pointer (some ⟨b4, 0, none⟩)))) w6 K := fun hK =>
      RunN.of (kd := .agg (.cons (.int .i64) (.cons (.int .i64) .nilT))) (x := (4, 2, ())) (h.run_loadA (k := 0) (i := 0) (b := b4) (t := 32) (cs := clv (4, 2)) ⟨_, rfl, rfl⟩ (t' := 32) (n := 2) (j := 0) rfl (vs := clv (4, 2)) rfl rfl) hK
    have r3 : ∀ {K : (Int × Int × Unit) → World → Prop}, K (4, 1, ()) w6 → RunN Try.prog (.agg (.cons (.int .i64) (.cons (.int .i64) .nilT))) (V (Instr.loadAt 32 (.pointer (some ⟨b3, 0, none⟩)))) w6 K := fun hK =>
      RunN.of (kd := .agg (.cons (.int .i64) (.cons (.int .i64) .nilT))) (x := (4, 1, ())) (h.run_loadA (k := 1) (i := 0) (b := b3) (t := 32) (cs := clv (4, 1)) ⟨_, rfl, rfl⟩ (t' := 32) (n := 2) (j := 0) rfl (vs := clv (4, 1)) rfl rfl) hK
    refine r4 (r3 (r3 (r3 (r3 (r3 (r3 (r4 (r3 ?_))))))))
    have h := (h.drop 0).drop 0
    refine h.newS 5 (bs22 _) rfl rfl rfl ?_
    intro q w7 hq1 hq2 _ h
    have h := h.ord 9 [1, 2, 3, 4, 5, 6, 7, 8, 0]
    have h : St w0 w7 (prG c r p ([.row 34 5 q (opvs aliveOps)] :: F)) := h
    refine LoopX.mk (fun st w' => ∃ (i : Nat) (c' : Cc) (r' : Rc) (p' : Po), st = ((i : Int), ()) ∧ i ≤ 11 ∧ p'.b = p.b ∧ PW c' r' i ∧ PoW i p' ∧ c'.me = 1 ∧ c'.reps = 3 ∧ c'.sess = 6 ∧ r'.lasts = (aliveOps.take i).foldl (stepL 1 3 6) (List.replicate 64 0) ∧ St w0 w' (prG c' r' p' ([.row 34 5 q (opvs aliveOps)] :: F))) (fun st => (11 - st.1).toNat) ⟨0, c, r, p, rfl, by omega, rfl, hw, hpo, c1, c2, c3, hl0, h⟩ ?_
    clear h hw hpo hl0 c1 c2 c3
    rintro _ w8 ⟨i, c', r', p', rfl, hi, hb, hw, hpo, c1, c2, c3, hl, h⟩ k hk
    dsimp only at hk ⊢
    rw [SplitB_iff]
    refine ⟨fun hc => ?_, fun hc => ?_⟩
    · have hc : i < aliveOps.length := by have : (i : Int) < (q.len : Int) := of_decide_eq_true hc; show i < 11; omega
      have hc11 : i < 11 := hc
      have hrr := h.rd (k := 8) (i := 0) (E := 34) (sz := 5) (s := q) (vs := opvs aliveOps) ⟨_, rfl, rfl⟩
      refine hrr.idxK i rfl (by have : i < 11 := hc; omega) ?_
      intro g o ha
      refine hrr.elA ha (i * 5) rfl (kd := .agg (.cons (.int .i64) (.cons (.int .i64) (.cons (.int .i64) (.cons (.int .i64) (.cons (.int .i64) .nilT)))))) (opt aliveOps[i]) (flat_at opv_len _ _ hc) ?_
      have hp : p.p = p'.p := by rw [Po.p, Po.p, hb]
      rw [hp]
      refine (plays_st h hw (by omega) hpo aliveOps[i]).mono ?_
      rintro v w9 ⟨rfl, c2', r2', p2', h0, h1, h2, h3, h4, h5, h6, h7, h8, h9, h⟩
      rw [SplitB_iff]
      refine ⟨fun hf => (by cases hf), fun _ => ?_⟩
      have e : IntKind.i64.wrap ((i : Int) + 1) = ((i + 1 : Nat) : Int) := by rw [wr (by omega)]; omega
      rw [e]
      refine hk _ _ ⟨i + 1, c2', r2', p2', rfl, Nat.succ_le_of_lt hc, h3.trans hb, h4, h5, h6.trans c1, h7.trans c2, h8.trans c3, ?_, h⟩ (by dsimp only; omega)
      rw [List.take_succ_eq_append_getElem hc, List.foldl_append, ← hl, h0, c1, c2, c3]
      rfl
    · have hc : i = 11 := by have : ¬ (i : Int) < (q.len : Int) := of_decide_eq_false hc; omega
      subst hc
      have hp : p.p = p'.p := by rw [Po.p, Po.p, hb]
      rw [hp]
      refine NilP.mk ?_
      refine h.loadB 4 0 ⟨_, rfl, rfl⟩ rfl (kd := .ptr) (x := c'.p) rfl ?_
      refine (last_st h hw.hc.reps.1 _).mono ?_
      rintro v w9 ⟨h, hv⟩
      have hv := last_law hw hv
      obtain ⟨p1, p2, p3, p4⟩ := hw.hpar
      rw [p1, p2, p3, c1, c2, c3, hl] at hv
      have hv : v = 2 := hv.trans alive_law
      have h : St w0 w9 (prG c' r' p' ([.row 34 5 q (opvs aliveOps)] :: F)) := h
      refine ⟨by show (v == 2) = true; rw [hv]; rfl, ?_⟩
      exact ((((((((h.drop 0).drop 0).drop 0).drop 0).drop 0).drop 0).drop 0).drop 0).drop 0
  · intro k hk
    rw [SplitB_iff]
    refine ⟨fun hf => (by cases hf), fun _ => ?_⟩
    refine RunN.pEqS ?_
    exact hk _ _ ⟨rfl, h⟩
theorem holds_st {s : Sl} {os : List Op5} (hs : Rd w s 5 (opvs os)) (me reps sess room p5 p6 : Int) : CallK Try.prog .bool 8 #[.int .i64 me, .int .i64 reps, .int .i64 sess, .int .i64 room, .slice s.a s.len s.cap, .int .i64 p5, .int .i64 p6] w fun (v : Bool) w' => v = true ∧ Upd w w' nobody := by
  have hsl : s.len = os.length := by have := hs.1; rw [flat_len opv_len] at this; omega
  refine T8.calls ?_
  unfold T8
  rw [SplitB_iff]
  refine ⟨fun hc => ?_, fun hc => ?_⟩
  · exact ⟨rfl, Upd.refl _ _⟩
  have hc : os.length ≤ 400 := by have : ¬ (s.len : Int) > 400 := of_decide_eq_false hc; omega
  refine (alive_st (St.init w)).mono ?_
  rintro v w1 ⟨rfl, h⟩
  refine (made_st h me reps sess room).mono ?_
  rintro _ w2 (⟨h0, rfl, h⟩ | ⟨_, c, r, p, rfl, hw, hpo, c1, c2, c3, c4, hl0, h⟩)
  · refine JoinX.mk (fun (y : Bool × Unit) w' => y.1 = false ∧ St w w' []) ?_ ?_
    · rintro ⟨y, ⟨⟩⟩ w3 ⟨hy, h⟩
      dsimp only at hy
      subst hy
      rw [SplitB_iff]
      refine ⟨fun hf => (by cases hf), fun _ => ?_⟩
      refine LoopX.mk (fun st w' => st = (0, ()) ∧ St w w' []) (fun st => 0) ⟨rfl, h⟩ ?_
      clear h
      rintro _ w4 ⟨rfl, h⟩ k hk
      refine JoinX.mk (fun (y : Bool × Unit) w' => y.1 = false ∧ St w w' []) ?_ ?_
      · rintro ⟨y, ⟨⟩⟩ w5 ⟨hy, h⟩
        dsimp only at hy
        subst hy
        rw [SplitB_iff]
        refine ⟨fun hf => (by cases hf), fun _ => ?_⟩
        refine RunN.pEqN ?_
        rw [SplitB_iff]
        exact ⟨fun _ => ⟨rfl, h.upd⟩, fun hf => by cases hf⟩
      · intro k5 hk5
        rw [SplitB_iff]
        refine ⟨fun _ => ?_, fun _ => hk5 _ _ ⟨rfl, h⟩⟩
        refine RunN.pNeN ?_
        exact hk5 _ _ ⟨rfl, h⟩
    · intro k hk
      rw [SplitB_iff]
      exact ⟨fun hf => (by cases hf), fun _ => hk _ _ ⟨rfl, h⟩⟩
  · refine JoinX.mk (fun (y : Bool × Unit) w' => y.1 = false ∧ St w w' (prG c r p [])) ?_ ?_
    · rintro ⟨y, ⟨⟩⟩ w3 ⟨hy, h⟩
      dsimp only at hy
      subst hy
      rw [SplitB_iff]
      refine ⟨fun hf => (by cases hf), fun _ => ?_⟩
      refine LoopX.mk (fun st w' => ∃ (i : Nat) (c' : Cc) (r' : Rc) (p' : Po), st = ((i : Int), ()) ∧ i ≤ os.length ∧ p'.b = p.b ∧ PW c' r' i ∧ PoW i p' ∧ St w w' (prG c' r' p' [])) (fun st => ((os.length : Int) - st.1).toNat) ⟨0, c, r, p, rfl, by omega, rfl, hw, hpo, h⟩ ?_
      clear h hw hpo hl0 c1 c2 c3 c4
      rintro _ w4 ⟨i, c', r', p', rfl, hi, hb, hw, hpo, h⟩ k hk
      have hp : p.p = p'.p := by rw [Po.p, Po.p, hb]
      rw [hp]
      dsimp only at hk ⊢
      have e : IntKind.i64.wrap ((i : Int) + 1) = ((i + 1 : Nat) : Int) := by rw [wr (by omega)]; omega
      refine JoinX.mk (fun (y : Bool × Unit) w' => y.1 = decide (i < os.length) ∧ St w w' (prG c' r' p' [])) ?_ ?_
      · rintro ⟨y, ⟨⟩⟩ w5 ⟨hy, h⟩
        dsimp only at hy
        subst hy
        rw [SplitB_iff]
        refine ⟨fun hd => ?_, fun hd => ?_⟩
        · have hd : i < os.length := of_decide_eq_true hd
          refine JoinX.mk (fun (_ : Unit) w' => ∃ (c' : Cc) (r' : Rc) (p' : Po), p'.b = p.b ∧ PW c' r' (i + 1) ∧ PoW (i + 1) p' ∧ St w w' (prG c' r' p' [])) ?_ ?_
          · rintro _ w6 ⟨c2, r2, p2, h1, h2, h3, h4⟩
            rw [e]
            exact hk _ _ ⟨i + 1, c2, r2, p2, rfl, by omega, h1, h2, h3, h4⟩ (by dsimp only; omega)
          · intro k7 hk7
            have hrr := h.old hs
            have hat := flat_at opv_len os i hd
            refine hrr.idxK i rfl (by omega) ?_
            intro g o ha
            have hk0 : (opvs os)[i * 5]? = some (.int .i64 os[i].1) := by
              have h2 := congrArg (fun l => l[0]?) hat
              simp only [List.getElem?_take, List.getElem?_drop] at h2
              simp [opv] at h2
              exact h2
            refine hrr.el ha (i * 5) rfl (kd := .int .i64) (x := os[i].1) hk0 ?_
            refine JoinX.mk (fun (y : Bool × Unit) w' => St w w' (prG c' r' p' [])) ?_ ?_
            · rintro ⟨y, ⟨⟩⟩ w6 h
              rw [SplitB_iff]
              refine ⟨fun _ => ?_, fun _ => ?_⟩
              · exact hk7 _ _ ⟨c', r', p', hb, hw.mono (Nat.le_succ _), hpo.mono (Nat.le_succ _), h⟩
              · have hrr := h.old hs
                refine hrr.idxK i rfl (by omega) ?_
                intro g o ha
                refine hrr.elA ha (i * 5) rfl (kd := .agg (.cons (.int .i64) (.cons (.int .i64) (.cons (.int .i64) (.cons (.int .i64) (.cons (.int .i64) .nilT)))))) (opt os[i]) hat ?_
                refine (plays_st h hw (by omega) hpo os[i]).mono ?_
                rintro v w7 ⟨rfl, c2', r2', p2', h0, h1, h2, h3, h4, h5, h6, h7, h8, h9, h⟩
                rw [SplitB_iff]
                refine ⟨fun hf => (by cases hf), fun _ => ?_⟩
                exact hk7 _ _ ⟨c2', r2', p2', h3.trans hb, h4, h5, h⟩
            · intro k9 hk9
              rw [SplitB_iff]
              refine ⟨fun _ => ?_, fun _ => hk9 _ _ h⟩
              rw [SplitB_iff]
              exact ⟨fun _ => hk9 _ _ h, fun _ => hk9 _ _ h⟩
        · refine RunN.pEqS ?_
          rw [SplitB_iff]
          refine ⟨fun hf => (by cases hf), fun _ => ?_⟩
          refine (apart_st h hpo (by omega)).mono ?_
          rintro v w6 ⟨rfl, h⟩
          exact ⟨rfl, h.upd⟩
      · intro k5 hk5
        rw [SplitB_iff]
        refine ⟨fun hd => ?_, fun hd => ?_⟩
        · have hd : i < os.length := by have : (i : Int) < (s.len : Int) := of_decide_eq_true hd; omega
          refine RunN.pNeS ?_
          exact hk5 _ _ ⟨by simp [hd], h⟩
        · have hd : ¬ i < os.length := by have : ¬ (i : Int) < (s.len : Int) := of_decide_eq_false hd; omega
          exact hk5 _ _ ⟨by simp [hd], h⟩
    · intro k hk
      rw [SplitB_iff]
      exact ⟨fun hf => (by cases hf), fun _ => hk _ _ ⟨rfl, h⟩⟩
end Go.Proofs.Ytbdhmeefjlkdcaa
