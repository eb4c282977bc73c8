/- The document's machine: what is pending, in order. -/
import Derived.Test.YtbdhmeefjlkdcaaCkR
namespace Go.Proofs.Ytbdhmeefjlkdcaa
open Go Go.Fw Go.RowKit
set_option linter.unusedVariables false
set_option linter.unusedSimpArgs false
set_option maxRecDepth 4000
set_option maxHeartbeats 4000000
variable {w0 w : World} {F G : Grps}

theorem made_two (n : Nat) : (madeCells #[Value.int .i64 0, Value.int .i64 0] (n * 2)).toList = clvs (List.replicate n (0, 0)) := by
  have hl : (clvs (List.replicate n ((0 : Int), (0 : Int)))) = List.replicate (n * 2) (Value.int .i64 0) := by
    induction n with
    | zero => rfl
    | succ n ih => rw [List.replicate_succ, clvs, List.flatMap_cons, ← clvs, ih, Nat.add_mul, Nat.one_mul]; rfl
  rw [hl]
  refine List.ext_getElem (by simp [madeCells]) fun i h1 h2 => ?_
  simp only [madeCells, Array.toList_map, Array.toList_range, List.getElem_map, List.getElem_range, List.getElem_replicate]
  have : i % (#[Value.int .i64 0, Value.int .i64 0] : Array Value).size = i % 2 := rfl
  rw [this]
  rcases Nat.mod_two_eq_zero_or_one i with h | h <;> rw [h] <;> rfl
theorem make60 (h : St w0 w G) (n : Nat) (hn : n ≤ 1000000) {K : Sl → World → Prop} (hk : ∀ (s' : Sl) w', s'.len = n → St w0 w' ([.row 32 2 s' (clvs (List.replicate n (0, 0)))] :: G) → K s' w') :
    RunN Try.prog .sl (V (Instr.makeSlice 60 (.int .i64 (n : Int)) (.int .i64 (n : Int)))) w K := by
  have et : Et Try.prog 60 32 2 16 := inferInstance
  obtain ⟨i, z, hi, hzz, e1, e2, e3⟩ := et.h.hi
  have hz : ((Try.prog.info? 32).bind fun i => i.zero.map (·.cells)) = some #[.int .i64 0, .int .i64 0] := by kernel_rfl
  have hzc : z.cells = #[.int .i64 0, .int .i64 0] := by
    rw [hi] at hz; simp [hzz] at hz; exact hz
  have hr := run_make (P := Try.prog) w 60 32 i z et.h.ht hi hzz .i64 .i64 n n (by omega) (Int.le_refl _) (by rw [e2]; omega) (by omega)
  rw [e1, hzc, Int.toNat_natCast] at hr
  have hl := made_two n
  refine RunN.of (kd := .sl) (x := ⟨some ⟨w.heap.size, 0, none⟩, n, n⟩) hr (hk _ _ rfl (h.new (Upd.alloc _ _ _) ⟨?_, fun v hv => clvs_one _ v hv⟩ fun j hj => ?_))
  · have := Ow.lit (w := w) (e := 32) (sz := 2) (n := n) (c := n) (cs := (madeCells #[Value.int .i64 0, Value.int .i64 0] (n * 2)).toList) h.upd.size (Nat.le_refl n) (by simp only [maxLen]; omega) (by rw [hl, flat_len clv_len]; simp)
    rw [hl, List.take_of_length_le (by rw [flat_len clv_len]; simp)] at this
    have e4 : (⟨clvs (List.replicate n (0, 0))⟩ : Array Value) = madeCells #[Value.int .i64 0, Value.int .i64 0] (n * 2) := by rw [← hl]
    rw [e4] at this
    exact this
  · simp [Ent.blk, Sl.blk] at hj; omega
def clt (x y : Cl) : Bool := decide (y.1 < x.1) || (y.1 == x.1 && decide (y.2 < x.2))
def rank (o : List Cl) (x : Cl) : Nat := o.countP (clt x)
theorem clvs_set (v : List Cl) (k : Nat) (x : Cl) (hk : k < v.length) : (clvs v).take (k * 2) ++ clv x ++ (clvs v).drop (k * 2 + 2) = clvs (v.set k x) := by
  rw [flat_take clv_len _ _ (by omega), show k * 2 + 2 = (k + 1) * 2 by omega, flat_drop clv_len _ _ (by omega), List.set_eq_take_append_cons_drop, if_pos hk]
  simp [clvs]
theorem rpend_st {c : Rc} {N : Nat} (h : St w0 w (rcG c F)) (hw : c.wf N) (hN : N ≤ 1000000) {P : List Cl} (hP : P.Perm c.opn) (hs : ∀ i (hi : i < P.length), rank P P[i] = i) :
    CallK Try.prog .sl 32 #[.pointer c.p] w fun (q : Sl) w' => St w0 w' (rcG c ([.row 32 2 q (clvs P)] :: F)) := by
  have hol := hw.opn
  have hPl := hP.length_eq
  have hrk : ∀ i (hi : i < c.opn.length), ∃ k, ∃ hk : k < P.length, P[k] = c.opn[i] ∧ rank c.opn c.opn[i] = k := by
    intro i hi
    obtain ⟨k, hk, he⟩ := List.mem_iff_getElem.1 (hP.mem_iff.2 (List.getElem_mem hi))
    refine ⟨k, hk, he, ?_⟩
    rw [← he, rank, ← hP.countP_eq]; exact hs k hk
  refine T32.calls ?_
  unfold T32
  have hql : c.oq.len = c.opn.length := by have := (h.rd (k := 0) (i := 1) ⟨_, rfl, rfl⟩).1; rw [flat_len clv_len] at this; omega
  refine NilP.mk ?_
  refine h.loadB 0 0 ⟨_, rfl, rfl⟩ rfl (kd := .sl) (x := c.oq) (rcC_oq hw.lasts) ?_
  rw [hql]
  refine make60 h _ (by omega) ?_
  intro q w1 hq h
  have h := h.ord 2 [1, 0]
  have h : St w0 w1 (rcG c ([.row 32 2 q (clvs (List.replicate c.opn.length (0, 0)))] :: F)) := h
  refine LoopX.mk (fun st w' => ∃ (i : Nat) (v : List Cl), st = ((i : Int), ()) ∧ i ≤ c.opn.length ∧ v.length = c.opn.length ∧ (∀ j (hj : j < c.opn.length), j < i → v[rank c.opn c.opn[j]]? = some c.opn[j]) ∧ St w0 w' (rcG c ([.row 32 2 q (clvs v)] :: F))) (fun st => ((c.opn.length : Int) - st.1).toNat) ⟨0, _, rfl, Nat.zero_le _, by simp, fun j _ hj => by omega, h⟩ ?_
  clear h
  rintro _ w2 ⟨i, v, rfl, hi, hvl, hv, h⟩ k hk
  dsimp only at hk ⊢
  refine NilP.mk ?_
  refine h.loadB 0 0 ⟨_, rfl, rfl⟩ rfl (kd := .sl) (x := c.oq) (rcC_oq hw.lasts) ?_
  rw [SplitB_iff]
  refine ⟨fun hc => ?_, fun hc => ?_⟩
  · have hc : i < c.opn.length := by have : (i : Int) < (c.oq.len : Int) := of_decide_eq_true hc; omega
    refine LoopX.mk (fun st w' => ∃ j : Nat, st = ((((c.opn.take j).countP (clt c.opn[i]) : Nat) : Int), (j : Int), ()) ∧ j ≤ c.opn.length ∧ St w0 w' (rcG c ([.row 32 2 q (clvs v)] :: F))) (fun st => ((c.opn.length : Int) - st.2.1).toNat) ⟨0, rfl, Nat.zero_le _, h⟩ ?_
    clear h
    rintro _ w3 ⟨j, rfl, hj, h⟩ k2 hk2
    dsimp only at hk2 ⊢
    refine NilP.mk ?_
    refine h.loadB 0 0 ⟨_, rfl, rfl⟩ rfl (kd := .sl) (x := c.oq) (rcC_oq hw.lasts) ?_
    rw [SplitB_iff]
    refine ⟨fun hd => ?_, fun hd => ?_⟩
    · have hd : j < c.opn.length := by have : (j : Int) < (c.oq.len : Int) := of_decide_eq_true hd; omega
      have hcnt : (c.opn.take j).countP (clt c.opn[i]) ≤ j := Nat.le_trans List.countP_le_length (by simp; omega)
      have hcs : (c.opn.take (j + 1)).countP (clt c.opn[i]) = (c.opn.take j).countP (clt c.opn[i]) + if clt c.opn[i] c.opn[j] = true then 1 else 0 := by
        rw [List.take_succ_eq_append_getElem hd, List.countP_append, List.countP_cons, List.countP_nil, Nat.zero_add]
      refine JoinX.mk (fun (y : Int × Unit) w' => y.1 = (((c.opn.take (j + 1)).countP (clt c.opn[i]) : Nat) : Int) ∧ St w0 w' (rcG c ([.row 32 2 q (clvs v)] :: F))) ?_ ?_
      · rintro ⟨y, ⟨⟩⟩ w4 ⟨hy, h⟩
        dsimp only at hy ⊢
        subst hy
        have e : IntKind.i64.wrap ((j : Int) + 1) = ((j + 1 : Nat) : Int) := by rw [wr (by omega)]; omega
        rw [e]
        exact hk2 _ _ ⟨j + 1, rfl, by omega, h⟩ (by dsimp only; omega)
      · intro k5 hk5
        refine NilP.mk ?_
        refine h.loadB 0 0 ⟨_, rfl, rfl⟩ rfl (kd := .sl) (x := c.oq) (rcC_oq hw.lasts) ?_
        have hrr := h.rd (k := 0) (i := 1) ⟨_, rfl, rfl⟩
        refine hrr.idxK j rfl (by omega) ?_
        intro g o ha
        refine hrr.elA ha (j * 2) rfl (kd := .agg (.cons (.int .i64) (.cons (.int .i64) .nilT))) (c.opn[j].1, c.opn[j].2, ()) (flat_at clv_len _ _ hd) ?_
        refine h.newB (NewC.run _) rfl ?_
        intro b7 w4 h
        refine h.storA 0 0 (b := b7) (t := 32) (cs := clv (0, 0)) ⟨_, rfl, rfl⟩ (t' := 32) (n := 2) (j := 0) rfl (ds := clv c.opn[j]) rfl rfl rfl ?_
        intro w5 h
        have h : St w0 w5 ([Ent.cel b7 32 (clv c.opn[j])] :: rcG c ([.row 32 2 q (clvs v)] :: F)) := h
        refine NilP.mk ?_
        refine h.loadB 1 0 ⟨_, rfl, rfl⟩ rfl (kd := .sl) (x := c.oq) (rcC_oq hw.lasts) ?_
        have hrr := h.rd (k := 1) (i := 1) ⟨_, rfl, rfl⟩
        refine hrr.idxK i rfl (by omega) ?_
        intro g o ha
        refine hrr.elA ha (i * 2) rfl (kd := .agg (.cons (.int .i64) (.cons (.int .i64) .nilT))) (c.opn[i].1, c.opn[i].2, ()) (flat_at clv_len _ _ hc) ?_
        refine h.newB (NewC.run _) rfl ?_
        intro b8 w6 h
        refine h.storA 0 0 (b := b8) (t := 32) (cs := clv (0, 0)) ⟨_, rfl, rfl⟩ (t' := 32) (n := 2) (j := 0) rfl (ds := clv c.opn[i]) rfl rfl rfl ?_
        intro w7 h
        have h : St w0 w7 ([Ent.cel b8 32 (clv c.opn[i])] :: [Ent.cel b7 32 (clv c.opn[j])] :: rcG c ([.row 32 2 q (clvs v)] :: F)) := h
        refine JoinX.mk (fun (y : Bool × Unit) w' => y.1 = clt c.opn[i] c.opn[j] ∧ St w0 w' (rcG c ([.row 32 2 q (clvs v)] :: F))) ?_ ?_
        · rintro ⟨y, ⟨⟩⟩ w8 ⟨hy, h⟩
          dsimp only at hy ⊢
          subst hy
          rw [SplitB_iff]
          refine ⟨fun he => ?_, fun he => ?_⟩
          · rw [if_pos he] at hcs
            have e : IntKind.i64.wrap ((((c.opn.take j).countP (clt c.opn[i]) : Nat) : Int) + 1) = (((c.opn.take (j + 1)).countP (clt c.opn[i]) : Nat) : Int) := by rw [wr (by omega), hcs]; omega
            rw [e]
            exact hk5 _ _ ⟨rfl, h⟩
          · rw [if_neg (by rw [he]; decide)] at hcs
            have hcs : (c.opn.take (j + 1)).countP (clt c.opn[i]) = (c.opn.take j).countP (clt c.opn[i]) := hcs
            exact hk5 _ _ ⟨by dsimp only; rw [hcs], h⟩
        · intro k7 hk7
          refine h.loadB 1 0 ⟨_, rfl, rfl⟩ rfl rfl ?_
          refine h.loadB 0 0 ⟨_, rfl, rfl⟩ rfl rfl ?_
          rw [SplitB_iff]
          refine ⟨fun he => ?_, fun he => ?_⟩
          · have he : c.opn[j].1 < c.opn[i].1 := of_decide_eq_true he
            exact hk7 _ _ ⟨by dsimp only; simp [clt, he], (h.drop 0).drop 0⟩
          · have he : ¬ c.opn[j].1 < c.opn[i].1 := of_decide_eq_false he
            refine h.loadB 1 0 ⟨_, rfl, rfl⟩ rfl rfl ?_
            refine h.loadB 0 0 ⟨_, rfl, rfl⟩ rfl rfl ?_
            rw [SplitB_iff]
            refine ⟨fun hf => ?_, fun hf => ?_⟩
            · have hf : c.opn[j].1 = c.opn[i].1 := by simpa using hf
              refine h.loadB 1 0 ⟨_, rfl, rfl⟩ rfl rfl ?_
              refine h.loadB 0 0 ⟨_, rfl, rfl⟩ rfl rfl ?_
              refine hk7 _ _ ⟨?_, (h.drop 0).drop 0⟩
              show decide (c.opn[j].2 < c.opn[i].2) = clt c.opn[i] c.opn[j]
              simp [clt, hf]
            · have hf : ¬ c.opn[j].1 = c.opn[i].1 := by simpa using hf
              refine hk7 _ _ ⟨?_, (h.drop 0).drop 0⟩
              show false = clt c.opn[i] c.opn[j]
              simp [clt, hf, he]
    · have hd : j = c.opn.length := by have : ¬ (j : Int) < (c.oq.len : Int) := of_decide_eq_false hd; omega
      subst hd
      rw [List.take_of_length_le (Nat.le_refl _)]
      obtain ⟨m, hm, hme, hmr⟩ := hrk i hc
      have hmr' : c.opn.countP (clt c.opn[i]) = m := hmr
      rw [hmr']
      refine NilP.mk ?_
      refine h.loadB 0 0 ⟨_, rfl, rfl⟩ rfl (kd := .sl) (x := c.oq) (rcC_oq hw.lasts) ?_
      have hrr := h.rd (k := 0) (i := 1) ⟨_, rfl, rfl⟩
      refine hrr.idxK i rfl (by omega) ?_
      intro g o ha
      refine hrr.elA ha (i * 2) rfl (kd := .agg (.cons (.int .i64) (.cons (.int .i64) .nilT))) (c.opn[i].1, c.opn[i].2, ()) (flat_at clv_len _ _ hc) ?_
      have hrq := h.rd (k := 1) (i := 0) ⟨_, rfl, rfl⟩
      refine hrq.idxK m rfl (by omega) ?_
      intro g2 o2 ha2
      refine h.storRA 1 0 (vs := clvs v) ⟨_, rfl, rfl⟩ ha2 (t' := 32) (n := 2) (m * 2) rfl (ds := clv c.opn[i]) (by rw [flat_len clv_len]; omega) rfl (by decide) rfl ?_
      intro w4 h
      have h : St w0 w4 (rcG c ([.row 32 2 q ((clvs v).take (m * 2) ++ clv c.opn[i] ++ (clvs v).drop (m * 2 + 2))] :: F)) := h
      rw [clvs_set v m _ (by omega)] at h
      have e : IntKind.i64.wrap ((i : Int) + 1) = ((i + 1 : Nat) : Int) := by rw [wr (by omega)]; omega
      rw [e]
      refine hk _ _ ⟨i + 1, v.set m c.opn[i], rfl, by omega, by simpa using hvl, fun j hj hji => ?_, h⟩ (by dsimp only; omega)
      by_cases hr : m = rank c.opn c.opn[j]
      · obtain ⟨m2, hm2, hme2, hmr2⟩ := hrk j hj
        have : m2 = m := by omega
        subst this
        rw [← hr, List.getElem?_set_self (by omega), ← hme, ← hme2]
      · rw [List.getElem?_set_ne hr]
        rcases Nat.lt_or_ge j i with h3 | h3
        · exact hv j hj h3
        · have : j = i := by omega
          subst this; omega
  · have hc : i = c.opn.length := by have : ¬ (i : Int) < (c.oq.len : Int) := of_decide_eq_false hc; omega
    have : v = P := by
      refine List.ext_getElem (by omega) fun n h1 h2 => ?_
      obtain ⟨j, hj, he⟩ := List.mem_iff_getElem.1 (hP.mem_iff.1 (List.getElem_mem h2))
      have h3 := hv j hj (by omega)
      obtain ⟨m2, hm2, hme2, hmr2⟩ := hrk j hj
      have h4 : rank c.opn c.opn[j] = n := by
        rw [he, rank, ← hP.countP_eq]; exact hs n h2
      rw [h4, List.getElem?_eq_getElem h1, he] at h3
      exact Option.some.inj h3
    rw [this] at h
    exact h
end Go.Proofs.Ytbdhmeefjlkdcaa
