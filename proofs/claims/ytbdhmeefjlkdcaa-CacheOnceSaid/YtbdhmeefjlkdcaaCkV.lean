/- The pair: what stands, one call. -/
import Derived.Test.YtbdhmeefjlkdcaaCkU
namespace Go.Proofs.Ytbdhmeefjlkdcaa
open Go Go.Fw Go.RowKit
set_option linter.unusedVariables false
set_option linter.unusedSimpArgs false
set_option maxRecDepth 4000
set_option maxHeartbeats 4000000
variable {w0 w : World} {F G : Grps}

theorem stands_po {cp rp : Option Addr} {p : Po} {N : Nat} (h : St w0 w (poG cp rp p F)) (hpo : PoW N p) : CallK Try.prog .bool 13 #[.pointer p.p] w fun (v : Bool) w' => v = true ∧ St w0 w' (poG cp rp p F) := by
  have hll : p.ls.len = p.lists.length := by have := (h.rd (k := 0) (i := 1) (E := 60) (sz := 1) (s := p.ls) (vs := p.lists.map fun x => slv x.1) ⟨_, rfl, rfl⟩).1; rw [List.length_map] at this; omega
  have hml : p.ms.len = p.lists.length := by have := (h.rd (k := 0) (i := 2) (E := 3) (sz := 1) (s := p.ms) (vs := lin (p.lists.map fun x => x.2.1)) ⟨_, rfl, rfl⟩).1; rw [lin_len, List.length_map] at this; omega
  have hl5 := hpo.lists
  refine T13.calls ?_
  unfold T13
  refine LoopX.mk (fun st w' => ∃ i : Nat, st = ((i : Int), ()) ∧ i ≤ p.lists.length ∧ St w0 w' (poG cp rp p F)) (fun st => ((p.lists.length : Int) - st.1).toNat) ⟨0, rfl, Nat.zero_le _, h⟩ ?_
  clear h
  rintro _ w1 ⟨i, rfl, hi, h⟩ k hk
  dsimp only at hk ⊢
  refine NilP.mk ?_
  refine h.loadB 0 0 ⟨_, rfl, rfl⟩ rfl (kd := .sl) (x := p.ls) rfl ?_
  rw [SplitB_iff]
  refine ⟨fun hc => ?_, fun hc => ?_⟩
  · have hc : i < p.lists.length := by have : (i : Int) < (p.ls.len : Int) := of_decide_eq_true hc; omega
    generalize hx : p.lists[i] = x
    have hat : (p.lists.map fun x => slv x.1)[i]? = some (.slice x.1.a x.1.len x.1.cap) := by simp [hc, hx, slv]
    have hmt : (lin (p.lists.map fun x => x.2.1))[i]? = some (.int .i64 x.2.1) := by simp [lin, hc, hx]
    have hrow : Has (poG cp rp p F) 1 i (.row 32 2 x.1 (clvs (List.replicate x.2.2 (x.2.1, (0 : Int))))) := ⟨_, rfl, by rw [nthO_get]; simp [hc, hx]⟩
    have hn6 : x.2.2 ≤ 64000000 := hpo.lens2 x (by rw [← hx]; exact List.getElem_mem hc)
    refine LoopX.mk (fun st w' => ∃ j : Nat, st = ((j : Int), ()) ∧ j ≤ x.2.2 ∧ St w0 w' (poG cp rp p F)) (fun st => ((x.2.2 : Int) - st.1).toNat) ⟨0, rfl, Nat.zero_le _, h⟩ ?_
    clear h
    rintro _ w2 ⟨j, rfl, hj, h⟩ k2 hk2
    dsimp only at hk2 ⊢
    have hxl : x.1.len = x.2.2 := by have := (h.rd hrow).1; rw [flat_len clv_len, List.length_replicate] at this; omega
    refine NilP.mk ?_
    refine h.loadB 0 0 ⟨_, rfl, rfl⟩ rfl (kd := .sl) (x := p.ls) rfl ?_
    have hrr := h.rd (k := 0) (i := 1) (E := 60) (sz := 1) (s := p.ls) (vs := p.lists.map fun x => slv x.1) ⟨_, rfl, rfl⟩
    refine hrr.idxK i rfl (by omega) ?_
    intro g o ha
    refine hrr.el ha i (by rw [Nat.mul_one]) (kd := .sl) (x := x.1) hat ?_
    rw [SplitB_iff]
    refine ⟨fun hd => ?_, fun hd => ?_⟩
    · have hd : j < x.2.2 := by have : (j : Int) < (x.1.len : Int) := of_decide_eq_true hd; omega
      refine NilP.mk ?_
      refine h.drew.readB 0 0 ⟨_, rfl, rfl⟩ rfl (kd := .sl) (x := p.ls) rfl ?_
      have hrr := h.drew.rd (k := 0) (i := 1) (E := 60) (sz := 1) (s := p.ls) (vs := p.lists.map fun x => slv x.1) ⟨_, rfl, rfl⟩
      refine hrr.idxR i rfl (by omega) ?_
      intro g o ha
      refine hrr.elR ha i (by rw [Nat.mul_one]) (kd := .sl) (x := x.1) hat ?_
      have hre := h.drew.rd hrow
      refine hre.idxR j rfl (by omega) ?_
      intro g2 o2 ha2
      have hv : (clvs (List.replicate x.2.2 (x.2.1, (0 : Int))))[j * 2]? = some (.int .i64 x.2.1) := by
        have h1 := flat_at clv_len (List.replicate x.2.2 (x.2.1, (0 : Int))) j (by simpa using hd)
        have h2 := congrArg (fun l => l[0]?) h1
        simp only [List.getElem?_take, List.getElem?_drop] at h2
        simp at h2
        exact h2
      refine hre.elR ha2 (j * 2) rfl (kd := .int .i64) (x := x.2.1) hv ?_
      refine NilP.mk ?_
      refine h.drew.readB 0 0 ⟨_, rfl, rfl⟩ rfl (kd := .sl) (x := p.ms) rfl ?_
      have hrm := h.drew.rd (k := 0) (i := 2) (E := 3) (sz := 1) (s := p.ms) (vs := lin (p.lists.map fun x => x.2.1)) ⟨_, rfl, rfl⟩
      refine hrm.idxR i rfl (by omega) ?_
      intro g3 o3 ha3
      refine hrm.elR ha3 i (by rw [Nat.mul_one]) (kd := .int .i64) (x := x.2.1) hmt ?_
      rw [SplitB_iff]
      refine ⟨fun he => ?_, fun he => ?_⟩
      · have he : (x.2.1 != x.2.1) = true := he
        simp at he
      · have e : IntKind.i64.wrap ((j : Int) + 1) = ((j + 1 : Nat) : Int) := by rw [wr (by omega)]; omega
        rw [e]
        exact hk2 _ _ ⟨j + 1, rfl, by omega, h.drew⟩ (by dsimp only; omega)
    · have e : IntKind.i64.wrap ((i : Int) + 1) = ((i + 1 : Nat) : Int) := by rw [wr (by omega)]; omega
      rw [e]
      exact hk _ _ ⟨i + 1, rfl, by omega, h⟩ (by dsimp only; omega)
  · exact ⟨rfl, h⟩
theorem stands_st {c : Cc} {r : Rc} {p : Po} {N : Nat} (h : St w0 w (prG c r p F)) (hpo : PoW N p) : CallK Try.prog .bool 13 #[.pointer p.p] w fun (v : Bool) w' => v = true ∧ St w0 w' (prG c r p F) := by
  have h : St w0 w (poG c.p r.p p (ccG c (rcG r F))) := h.ord 8 [4, 5, 6, 7, 0, 1, 2, 3]
  refine (stands_po h hpo).mono ?_
  rintro v w1 ⟨rfl, h⟩
  exact ⟨rfl, h.ord 8 [4, 5, 6, 7, 0, 1, 2, 3]⟩
theorem slot_ok (a : Int) (n : Nat) (hn : 0 < n) (hb : n ≤ 1000000000) : CallK Try.prog (.int .i64) 11 #[.int .i64 a, .int .i64 (n : Int)] w fun (v : Int) w' => w' = w ∧ ∃ k : Nat, k < n ∧ v = (k : Int) := by
  refine T11.calls ?_
  unfold T11
  refine RunN.of (kd := .int .i64) (x := Int.tmod a (n : Int)) (run_rem _ _ _ (by omega)) ?_
  have h1 := Int.tmod_lt_of_pos a (show (0 : Int) < n by omega)
  have h2 : -(n : Int) < Int.tmod a n := by
    have := Int.lt_tmod_of_pos a (show (0 : Int) < n by omega); omega
  rw [SplitB_iff]
  refine ⟨fun hc => ?_, fun hc => ?_⟩
  · have hc : Int.tmod a (n : Int) < 0 := of_decide_eq_true hc
    refine ⟨rfl, (Int.tmod a n + n).toNat, by omega, ?_⟩
    show IntKind.i64.wrap (Int.tmod a (n : Int) + (n : Int)) = _
    rw [wr (by omega)]; omega
  · have hc : ¬ Int.tmod a (n : Int) < 0 := of_decide_eq_false hc
    refine ⟨rfl, (Int.tmod a n).toNat, by omega, ?_⟩
    show Int.tmod a (n : Int) = _
    omega
/-- What both are after a call. -/
def PQ (w0 : World) (c : Cc) (r : Rc) (p : Po) (N : Nat) (F : Grps) (L : List Int) (w : World) : Prop := ∃ c' r' p', r'.lasts = L ∧ c'.p = c.p ∧ r'.p = r.p ∧ p'.b = p.b ∧ PW c' r' N ∧ PoW N p' ∧ c'.me = c.me ∧ c'.reps = c.reps ∧ c'.sess = c.sess ∧ c'.room = c.room ∧ St w0 w (prG c' r' p' F)
theorem PoW.mono {p : Po} {N M : Nat} (h : PoW N p) (hm : N ≤ M) : PoW M p := ⟨Nat.le_trans h.mark hm, h.lists, Nat.le_trans h.left hm, h.lens, h.lens2⟩
theorem PrQ.pq {c : Cc} {r : Rc} {p : Po} {N : Nat} {L : List Int} (h : PrQ w0 c r (N + 1) (poG c.p r.p p F) L w) (hpo : PoW N p) : PQ w0 c r p (N + 1) F L w := by
  obtain ⟨c', r', h0, h1, h2, h3, h4, h5, h6, h7, h⟩ := h
  rw [← h1, ← h2] at h
  exact ⟨c', r', p, h0, h1, h2, rfl, h3, hpo.mono (Nat.le_succ _), h4, h5, h6, h7, h⟩
theorem PQ.drop {c : Cc} {r : Rc} {p : Po} {N : Nat} {g : List Ent} {L : List Int} (h : PQ w0 c r p N (g :: F) L w) : PQ w0 c r p N F L w := by
  obtain ⟨c', r', p', h0, h1, h2, h3, h4, h5, h6, h7, h8, h9, h⟩ := h
  exact ⟨c', r', p', h0, h1, h2, h3, h4, h5, h6, h7, h8, h9, h.drop 8⟩
theorem last_law {c : Cc} {r : Rc} {N : Nat} (hw : PW c r N) {x v : Int} (h : (∃ j, ∃ hj : c.own x j, v = (c.ss[j]'hj.1).last) ∨ ((∀ j, ¬ c.own x j) ∧ v = 0)) : v = lastV r.me r.reps r.sess r.lasts x := by
  obtain ⟨p1, p2, p3, p4⟩ := hw.hpar
  rw [p1, p2, p3]
  rcases h with ⟨j, hj, rfl⟩ | ⟨hn, rfl⟩
  · have := last_eq hw.hc.par hw.hrel (j := j) (by simpa using hj.1)
    rw [List.getElem_map] at this
    have e : x = ow c.me c.reps j := hj.2
    exact (show (c.ss[j]'hj.1).last = _ from this.symm).trans (congrArg (lastV c.me c.reps c.sess r.lasts) e.symm)
  · have h1 := idx_none hn
    have h2 := not_mine (l := c.ss.map Ses.V) hw.hc.par hw.hrel.len (x := x) (by rw [List.length_map]; exact h1)
    rw [lastV, h2]; rfl
abbrev Op5 := Int × Int × Int × Int × Int
def opv (x : Op5) : List Value := [.int .i64 x.1, .int .i64 x.2.1, .int .i64 x.2.2.1, .int .i64 x.2.2.2.1, .int .i64 x.2.2.2.2]
def opt (x : Op5) : (Int × Int × Int × Int × Int × Unit) := (x.1, x.2.1, x.2.2.1, x.2.2.2.1, x.2.2.2.2, ())
/-- The last ids after a call. -/
def stepL (me reps sess : Nat) (l : List Int) (x : Op5) : List Int :=
  if x.1 = 1 then begL me reps sess l x.2.1 x.2.2.1 else if x.1 = 3 then begL me reps sess l x.2.1 (IntKind.i64.wrap (lastV me reps sess l x.2.1 + 1)) else l
theorem call_st {c : Cc} {r : Rc} {p : Po} {N : Nat} (h : St w0 w (prG c r p F)) (hw : PW c r N) (hN : N ≤ 100000) (hpo : PoW N p) (x : Op5) :
    CallK Try.prog .bool 21 #[.pointer p.p, .agg #[.int .i64 x.1, .int .i64 x.2.1, .int .i64 x.2.2.1, .int .i64 x.2.2.2.1, .int .i64 x.2.2.2.2]] w fun (v : Bool) w' => v = true ∧ PQ w0 c r p (N + 1) F (stepL c.me c.reps c.sess r.lasts x) w' := by
  refine T21.calls (p1 := opt x) ?_
  unfold T21
  refine h.newB run_boxA rfl ?_
  intro b w1 h
  have h := h.ord 9 [1, 2, 3, 4, 5, 6, 7, 8, 0]
  have h : St w0 w1 (prG c r p ([Ent.cel b 34 (opv x)] :: F)) := h
  refine h.loadB 8 0 ⟨_, rfl, rfl⟩ rfl rfl ?_
  have base : ∀ {w'}, St w0 w' (prG c r p ([Ent.cel b 34 (opv x)] :: F)) → stepL c.me c.reps c.sess r.lasts x = r.lasts → PQ w0 c r p (N + 1) F (stepL c.me c.reps c.sess r.lasts x) w' := fun {w'} h e => ⟨c, r, p, e.symm, rfl, rfl, rfl, hw.mono (Nat.le_succ _), hpo.mono (Nat.le_succ _), rfl, rfl, rfl, rfl, h.drop 8⟩
  rw [SplitB_iff]
  refine ⟨fun h1 => ?_, fun h1 => ?_⟩
  · have h1 : x.1 = 1 := by simpa using h1
    have es : stepL c.me c.reps c.sess r.lasts x = begL c.me c.reps c.sess r.lasts x.2.1 x.2.2.1 := if_pos h1
    rw [es]
    refine RunN.of (kd := .agg (.cons (.int .i64) (.cons (.int .i64) .nilT))) (x := (x.2.1, x.2.2.1, ())) (h.run_loadA (k := 8) (i := 0) (b := b) (t := 34) (cs := opv x) ⟨_, rfl, rfl⟩ (t' := 32) (n := 2) (j := 1) rfl (vs := clv (x.2.1, x.2.2.1)) rfl rfl) ?_
    refine (pbegin_st h hw (by omega) _ _).mono ?_
    rintro v w2 ⟨rfl, h⟩
    exact ⟨rfl, (h.pq hpo).drop⟩
  have h1 : ¬ x.1 = 1 := by simpa using h1
  rw [SplitB_iff]
  refine ⟨fun h2 => ?_, fun h2 => ?_⟩
  · have h2 : x.1 = 2 := by simpa using h2
    have es : stepL c.me c.reps c.sess r.lasts x = r.lasts := (if_neg h1).trans (if_neg (by omega))
    rw [es]
    refine RunN.of (kd := .agg (.cons (.int .i64) (.cons (.int .i64) .nilT))) (x := (x.2.1, x.2.2.1, ())) (h.run_loadA (k := 8) (i := 0) (b := b) (t := 34) (cs := opv x) ⟨_, rfl, rfl⟩ (t' := 32) (n := 2) (j := 1) rfl (vs := clv (x.2.1, x.2.2.1)) rfl rfl) ?_
    refine h.loadB 8 0 ⟨_, rfl, rfl⟩ rfl rfl ?_
    refine h.loadB 8 0 ⟨_, rfl, rfl⟩ rfl rfl ?_
    refine (pend2_st h hw (by omega) (x.2.1, x.2.2.1, x.2.2.2.1, x.2.2.2.2)).mono ?_
    rintro v w2 ⟨rfl, h⟩
    exact ⟨rfl, (h.pq hpo).drop⟩
  rw [SplitB_iff]
  refine ⟨fun h3 => ?_, fun h3 => ?_⟩
  · have h3 : x.1 = 3 := by simpa using h3
    have es : stepL c.me c.reps c.sess r.lasts x = begL c.me c.reps c.sess r.lasts x.2.1 (IntKind.i64.wrap (lastV c.me c.reps c.sess r.lasts x.2.1 + 1)) := (if_neg h1).trans (if_pos h3)
    rw [es]
    refine h.drew.readB 8 0 ⟨_, rfl, rfl⟩ rfl rfl ?_
    refine NilP.mk ?_
    refine h.drew.readB 4 0 ⟨_, rfl, rfl⟩ rfl (kd := .ptr) (x := r.p) rfl ?_
    refine h.drew.readB 8 0 ⟨_, rfl, rfl⟩ rfl rfl ?_
    have h := h.drew.ord 4 [3, 0, 1, 2]
    have h : St w0 w1.drew (rcG r (ccG c (poG c.p r.p p ([Ent.cel b 34 (opv x)] :: F)))) := h
    refine (rlast_st h hw.hr _).mono ?_
    rintro v w2 ⟨h, hv⟩
    obtain ⟨p1, p2, p3, p4⟩ := hw.hpar
    rw [p1, p2, p3] at hv
    have hv : v = lastV c.me c.reps c.sess r.lasts x.2.1 := hv
    rw [← hv]
    refine ⟨h.stillB 8 0 ⟨_, rfl, rfl⟩ rfl rfl, ?_⟩
    have h := h.ord 4 [1, 2, 3, 0]
    have h : St w0 w2 (prG c r p ([Ent.cel b 34 (opv x)] :: F)) := h
    refine (pbegin_st h hw (by omega) _ _).mono ?_
    rintro v w2 ⟨rfl, h⟩
    exact ⟨rfl, (h.pq hpo).drop⟩
  have h3 : ¬ x.1 = 3 := by simpa using h3
  have es : stepL c.me c.reps c.sess r.lasts x = r.lasts := (if_neg h1).trans (if_neg h3)
  rw [es] at base ⊢
  rw [SplitB_iff]
  refine ⟨fun h4 => ?_, fun h4 => ?_⟩
  · refine NilP.mk ?_
    refine h.loadB 4 0 ⟨_, rfl, rfl⟩ rfl (kd := .ptr) (x := r.p) rfl ?_
    have h := h.ord 4 [3, 0, 1, 2]
    have h : St w0 w1 (rcG r (ccG c (poG c.p r.p p ([Ent.cel b 34 (opv x)] :: F)))) := h
    have hP := pend_perm hw.hc.par hw.hrel
    have hR := pend_rank hw.hc.par hw.hrel
    have hPb : (pendL c.me c.reps (c.ss.map Ses.V)).length ≤ 64000000 := by
      rw [hP.length_eq]; have := hw.hr.opn; show r.opn.length ≤ _; omega
    generalize pendL c.me c.reps (c.ss.map Ses.V) = P at hP hR hPb
    refine (rpend_st h hw.hr (by omega) (P := P) hP hR).mono ?_
    intro q w2 h
    have hql : q.len = P.length := by have := (h.rd (k := 1) (i := 0) ⟨_, rfl, rfl⟩).1; rw [flat_len clv_len] at this; omega
    have h := h.ord 10 [2, 3, 4, 0, 5, 6, 7, 8, 9, 1]
    have h : St w0 w2 (prG c r p ([Ent.cel b 34 (opv x)] :: [.row 32 2 q (clvs P)] :: F)) := h
    rw [SplitB_iff]
    refine ⟨fun h5 => ?_, fun h5 => ?_⟩
    · exact ⟨rfl, c, r, p, rfl, rfl, rfl, rfl, hw.mono (Nat.le_succ _), hpo.mono (Nat.le_succ _), rfl, rfl, rfl, rfl, (h.drop 8).drop 8⟩
    · have h5 : 0 < P.length := by
        have h5 : ((q.len : Int) == 0) = false := h5
        simp at h5; omega
      refine h.drew.readB 8 0 ⟨_, rfl, rfl⟩ rfl rfl ?_
      refine h.drew.readB 8 0 ⟨_, rfl, rfl⟩ rfl rfl ?_
      refine h.drew.readB 8 0 ⟨_, rfl, rfl⟩ rfl rfl ?_
      rw [hql]
      refine (slot_ok _ P.length h5 (by omega)).mono ?_
      rintro _ w3 ⟨rfl, k, hk, rfl⟩
      have h := h.drew
      refine ⟨h.stillB 8 0 ⟨_, rfl, rfl⟩ rfl rfl, ?_⟩
      refine ⟨h.stillB 8 0 ⟨_, rfl, rfl⟩ rfl rfl, ?_⟩
      have hrr := h.rd (k := 9) (i := 0) (E := 32) (sz := 2) (s := q) (vs := clvs P) ⟨_, rfl, rfl⟩
      rw [← hql]
      refine hrr.idxR k rfl (by omega) ?_
      intro g o ha
      refine hrr.elAR ha (k * 2) rfl (kd := .agg (.cons (.int .i64) (.cons (.int .i64) .nilT))) (P[k].1, P[k].2, ()) (flat_at clv_len _ _ hk) ?_
      refine (pend2_st h hw (by omega) (P[k].1, P[k].2, x.2.2.2.1, x.2.2.2.2)).mono ?_
      rintro v w4 ⟨rfl, h⟩
      exact ⟨rfl, (h.pq hpo).drop.drop⟩
  rw [SplitB_iff]
  refine ⟨fun h5 => ?_, fun h5 => ?_⟩
  · refine (looks_st h hw hN hpo).mono ?_
    rintro v w2 ⟨rfl, p', hb, hp', h⟩
    exact ⟨rfl, c, r, p', rfl, rfl, rfl, hb, hw.mono (Nat.le_succ _), hp', rfl, rfl, rfl, rfl, h.drop 8⟩
  rw [SplitB_iff]
  refine ⟨fun h6 => ?_, fun h6 => ?_⟩
  · refine NilP.mk ?_
    refine h.drew.readB 4 0 ⟨_, rfl, rfl⟩ rfl (kd := .ptr) (x := c.p) rfl ?_
    refine h.drew.readB 8 0 ⟨_, rfl, rfl⟩ rfl rfl ?_
    refine NilP.mk ?_
    refine h.drew.readB 4 0 ⟨_, rfl, rfl⟩ rfl (kd := .ptr) (x := r.p) rfl ?_
    refine h.drew.readB 8 0 ⟨_, rfl, rfl⟩ rfl rfl ?_
    refine (last_st h.drew hw.hc.reps.1 _).mono ?_
    rintro v w2 ⟨h, hv⟩
    have hv := last_law hw hv
    have h : St w0 w2 (prG c r p ([Ent.cel b 34 (opv x)] :: F)) := h
    refine ⟨h.stillB 8 0 ⟨_, rfl, rfl⟩ rfl rfl, ?_⟩
    refine ⟨h.stillB 4 0 ⟨_, rfl, rfl⟩ rfl rfl, ?_⟩
    have h := h.ord 4 [3, 0, 1, 2]
    have h : St w0 w2 (rcG r (ccG c (poG c.p r.p p ([Ent.cel b 34 (opv x)] :: F)))) := h
    refine (rlast_st h hw.hr _).mono ?_
    rintro v2 w3 ⟨h, hv2⟩
    have h := h.ord 4 [1, 2, 3, 0]
    refine ⟨?_, base h rfl⟩
    show (v == v2) = true
    rw [hv, hv2]; simp
  · exact ⟨rfl, base h rfl⟩
theorem plays_st {c : Cc} {r : Rc} {p : Po} {N : Nat} (h : St w0 w (prG c r p F)) (hw : PW c r N) (hN : N ≤ 100000) (hpo : PoW N p) (x : Op5) :
    CallK Try.prog .bool 12 #[.pointer p.p, .agg #[.int .i64 x.1, .int .i64 x.2.1, .int .i64 x.2.2.1, .int .i64 x.2.2.2.1, .int .i64 x.2.2.2.2]] w fun (v : Bool) w' => v = true ∧ PQ w0 c r p (N + 1) F (stepL c.me c.reps c.sess r.lasts x) w' := by
  refine T12.calls (p1 := opt x) ?_
  unfold T12
  refine h.newB run_boxA rfl ?_
  intro b w1 h
  have h := h.ord 9 [1, 2, 3, 4, 5, 6, 7, 8, 0]
  have h : St w0 w1 (prG c r p ([Ent.cel b 34 (opv x)] :: F)) := h
  refine RunN.of (kd := .agg (.cons (.int .i64) (.cons (.int .i64) (.cons (.int .i64) (.cons (.int .i64) (.cons (.int .i64) .nilT)))))) (x := opt x) (h.run_loadA (k := 8) (i := 0) (b := b) (t := 34) (cs := opv x) ⟨_, rfl, rfl⟩ (t' := 34) (n := 5) (j := 0) rfl (vs := opv x) rfl rfl) ?_
  have h : St w0 w1 (prG c r p F) := h.drop 8
  refine (call_st h hw hN hpo x).mono ?_
  rintro v w2 ⟨rfl, c', r', p', h0, h1, h2, h3, h4, h5, h6, h7, h8, h9, h⟩
  rw [SplitB_iff]
  refine ⟨fun _ => ?_, fun hf => by cases hf⟩
  have hp : p.p = p'.p := by rw [Po.p, Po.p, h3]
  rw [hp]
  refine (stands_st h h5).mono ?_
  rintro v w3 ⟨rfl, h⟩
  exact ⟨rfl, c', r', p', h0, h1, h2, h3, h4, h5, h6, h7, h8, h9, h⟩
end Go.Proofs.Ytbdhmeefjlkdcaa
