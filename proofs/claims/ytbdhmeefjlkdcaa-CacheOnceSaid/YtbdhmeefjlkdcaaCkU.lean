/- The pair looks. -/
import Derived.Test.YtbdhmeefjlkdcaaCkT
import Derived.Test.YtbdhmeefjlkdcaaFwZ
namespace Go.Proofs.Ytbdhmeefjlkdcaa
open Go Go.Fw Go.RowKit
set_option linter.unusedVariables false
set_option linter.unusedSimpArgs false
set_option maxRecDepth 4000
set_option maxHeartbeats 4000000
variable {w0 w : World} {F G : Grps}

theorem same_ok {p q : Sl} {a : List Cl} (hp : Rd w p 2 (clvs a)) (hq : Rd w q 2 (clvs a)) (ha : a.length ≤ 1048576000) : CallK Try.prog .bool 22 #[.slice p.a p.len p.cap, .slice q.a q.len q.cap] w fun (r : Bool) w' => Upd w w' nobody ∧ r = true := by
  have h1 : p.len = a.length := by have := hp.1; rw [flat_len clv_len] at this; omega
  have h2 : q.len = a.length := by have := hq.1; rw [flat_len clv_len] at this; omega
  refine T22.calls ?_
  unfold T22
  rw [SplitB_iff]
  refine ⟨fun hc => ?_, fun hc => ?_⟩
  · rw [h1, h2] at hc; simp at hc
  · refine LoopX.mk (fun st w' => Upd w w' nobody ∧ ∃ i : Nat, st = ((i : Int), ()) ∧ i ≤ a.length) (fun st => ((a.length : Int) - st.1).toNat) ⟨Upd.refl _ _, 0, rfl, Nat.zero_le _⟩ ?_
    rintro _ w1 ⟨hu, i, rfl, hi⟩ k hk
    have hu2 := hu.trans (Upd.drew w1 nobody)
    have hp := hp.upd hu2 fun _ _ h => h
    have hq := hq.upd hu2 fun _ _ h => h
    dsimp only at hk ⊢
    rw [SplitB_iff]
    refine ⟨fun hd => ?_, fun hd => ?_⟩
    · have hd : i < a.length := by have : (i : Int) < (p.len : Int) := of_decide_eq_true hd; omega
      refine hp.idxR i rfl (by omega) ?_
      intro g o hg
      refine hp.elAR hg (i * 2) rfl (kd := .agg (.cons (.int .i64) (.cons (.int .i64) .nilT))) (a[i].1, a[i].2, ()) (flat_at clv_len _ _ hd) ?_
      refine hq.idxR i rfl (by omega) ?_
      intro g2 o2 hg2
      refine hq.elAR hg2 (i * 2) rfl (kd := .agg (.cons (.int .i64) (.cons (.int .i64) .nilT))) (a[i].1, a[i].2, ()) (flat_at clv_len _ _ hd) ?_
      refine ReadN.k2Ne ?_
      rw [SplitB_iff]
      refine ⟨fun he => ?_, fun he => ?_⟩
      · have he : (!(a[i].1 == a[i].1 && a[i].2 == a[i].2)) = true := he
        simp at he
      · have e : IntKind.i64.wrap ((i : Int) + 1) = ((i + 1 : Nat) : Int) := by rw [wr (by omega)]; omega
        rw [e]
        exact hk _ _ ⟨hu2, i + 1, rfl, by omega⟩ (by dsimp only; omega)
    · exact ⟨hu, rfl⟩
theorem bs55 (w : World) (a : Option Addr) (n c : Nat) : (Instr.buildSlice 55 1 #[(0, .slice a n c)]).run Try.prog w = .ok (.slice (some ⟨w.heap.size, 0, none⟩) 1 1) (w.alloc (.cells ⟨[.slice a n c]⟩ 60)) := by kernel_rfl
theorem po_left {cp rp : Option Addr} {p : Po} {x : Sl × Sl × List Cl} {m : Nat} {fs gs : Sl} (h : St w0 w ([.cel p.b 57 (poC cp rp { p with mark := m, fs := fs, gs := gs }), .row 60 1 p.ls (p.lists.map fun x => slv x.1), .row 3 1 p.ms (lin (p.lists.map fun x => x.2.1)), .row 60 1 fs ((p.left.map fun x => slv x.1) ++ [slv x.1]), .row 60 1 gs ((p.left.map fun x => slv x.2.1) ++ [slv x.2.1])] ::
    (p.lists.map fun x => .row 32 2 x.1 (clvs (List.replicate x.2.2 (x.2.1, (0 : Int))))) :: ((p.left.map fun x => .row 32 2 x.1 (clvs x.2.2)) ++ [.row 32 2 x.1 (clvs x.2.2)]) :: ((p.left.map fun x => .row 32 2 x.2.1 (clvs x.2.2)) ++ [.row 32 2 x.2.1 (clvs x.2.2)]) :: F)) :
    St w0 w (poG cp rp { p with mark := m, fs := fs, gs := gs, left := p.left ++ [x] } F) := by
  simpa [poG, poC] using h
theorem po_lists {cp rp : Option Addr} {p : Po} {x : Sl × Int × Nat} {m : Nat} {ls ms : Sl} (h : St w0 w ([.cel p.b 57 (poC cp rp { p with mark := m, ls := ls, ms := ms }), .row 60 1 ls ((p.lists.map fun x => slv x.1) ++ [slv x.1]), .row 3 1 ms (lin (p.lists.map fun x => x.2.1) ++ [.int .i64 x.2.1]), .row 60 1 p.fs (p.left.map fun x => slv x.1), .row 60 1 p.gs (p.left.map fun x => slv x.2.1)] ::
    ((p.lists.map fun x => .row 32 2 x.1 (clvs (List.replicate x.2.2 (x.2.1, (0 : Int))))) ++ [.row 32 2 x.1 (clvs (List.replicate x.2.2 (x.2.1, (0 : Int))))]) :: (p.left.map fun x => .row 32 2 x.1 (clvs x.2.2)) :: (p.left.map fun x => .row 32 2 x.2.1 (clvs x.2.2)) :: F)) :
    St w0 w (poG cp rp { p with mark := m, ls := ls, ms := ms, lists := p.lists ++ [x] } F) := by
  simpa [poG, poC, lin] using h
/-- Bounds of the pair's own. -/
structure PoW (N : Nat) (p : Po) : Prop where
  mark : p.mark ≤ N
  lists : p.lists.length ≤ 5
  left : p.left.length ≤ N
  lens : ∀ x ∈ p.left, x.2.2.length ≤ 64000000
  lens2 : ∀ x ∈ p.lists, x.2.2 ≤ 64000000
theorem slv_one {α : Type} (f : α → Sl) (l : List α) : ∀ v ∈ l.map (fun x => slv (f x)), v.oneCell' = true := by
  intro v hv
  obtain ⟨x, _, rfl⟩ := List.mem_map.1 hv
  rfl
theorem looks_st {c : Cc} {r : Rc} {p : Po} {N : Nat} (h : St w0 w (prG c r p F)) (hw : PW c r N) (hN : N ≤ 100000) (hpo : PoW N p) :
    CallK Try.prog .bool 33 #[.pointer p.p] w fun (v : Bool) w' => v = true ∧ ∃ p', p'.b = p.b ∧ PoW (N + 1) p' ∧ St w0 w' (prG c r p' F) := by
  refine T33.calls ?_
  unfold T33
  refine NilP.mk ?_
  refine h.loadB 4 0 ⟨_, rfl, rfl⟩ rfl (kd := .ptr) (x := c.p) rfl ?_
  refine (pend_st h hw.hc (by omega)).mono ?_
  intro q w1 h
  obtain ⟨p1, p2, p3, p4⟩ := hw.hpar
  have hP := pend_perm hw.hc.par hw.hrel
  have hR := pend_rank hw.hc.par hw.hrel
  have hPb : (pendL c.me c.reps (c.ss.map Ses.V)).length ≤ 64000000 := by
    rw [hP.length_eq]; have := hw.hr.opn; show r.opn.length ≤ _; omega
  generalize pendL c.me c.reps (c.ss.map Ses.V) = P at h hP hR hPb
  refine NilP.mk ?_
  have h : St w0 w1 (ccG c ([.row 32 2 q (clvs P)] :: rcG r (poG c.p r.p p F))) := h
  refine h.loadB 5 0 ⟨_, rfl, rfl⟩ rfl (kd := .ptr) (x := r.p) rfl ?_
  have h := h.ord 5 [4, 0, 1, 2, 3]
  have h : St w0 w1 (rcG r (ccG c ([.row 32 2 q (clvs P)] :: poG c.p r.p p F))) := h
  refine (rpend_st h hw.hr (by omega) (P := P) hP hR).mono ?_
  intro q2 w2 h
  refine (same_ok (h.rd (k := 5) (i := 0) ⟨_, rfl, rfl⟩) (h.rd (k := 1) (i := 0) ⟨_, rfl, rfl⟩) (by omega)).mono ?_
  rintro v w3 ⟨hu, rfl⟩
  have h := (h.keep hu).ord 10 [6, 7, 8, 9, 5, 2, 3, 4, 0]
  have h : St w0 w3 (poG c.p r.p p ([.row 32 2 q (clvs P)] :: ccG c (rcG r F))) := h
  have hout : ∀ {w' p'}, St w0 w' (poG c.p r.p p' (ccG c (rcG r F))) → St w0 w' (prG c r p' F) := fun {w' p'} h => h.ord 8 [4, 5, 6, 7, 0, 1, 2, 3]
  generalize ccG c (rcG r F) = F2 at h hout
  generalize c.p = cp at h hout
  generalize r.p = rp at h hout
  have hql : q.len = P.length := by have := (h.rd (k := 4) (i := 0) ⟨_, rfl, rfl⟩).1; rw [flat_len clv_len] at this; omega
  have hpm := hpo.mark
  refine NilP.mk ?_
  refine h.loadB 0 0 ⟨_, rfl, rfl⟩ rfl (kd := .int .i64) (x := (p.mark : Int)) rfl ?_
  have em : IntKind.i64.wrap ((p.mark : Int) + 1) = ((p.mark + 1 : Nat) : Int) := by rw [wr (by omega)]; omega
  rw [em]
  refine NilP.mk ?_
  refine h.storB 0 0 ⟨_, rfl, rfl⟩ rfl rfl rfl ?_
  intro w4 h
  have h : St w0 w4 (poG cp rp { p with mark := p.mark + 1 } ([.row 32 2 q (clvs P)] :: F2)) := h
  refine NilP.mk ?_
  refine h.loadB 0 0 ⟨_, rfl, rfl⟩ rfl (kd := .int .i64) (x := ((p.mark + 1 : Nat) : Int)) rfl ?_
  rw [SplitB_iff]
  refine ⟨fun hc => ?_, fun hc => ?_⟩
  · refine NilP.mk ?_
    refine h.loadB 0 0 ⟨_, rfl, rfl⟩ rfl (kd := .sl) (x := p.fs) rfl ?_
    refine h.newS 1 (bs55 _ _ _ _) rfl rfl rfl ?_
    intro u w5 hu1 hu2 _ h
    have hru := h.rd (k := 0) (i := 0) ⟨_, rfl, rfl⟩
    have hfl : p.fs.len = p.left.length := by have := (h.rd (k := 1) (i := 3) (E := 60) (sz := 1) (s := p.fs) (vs := p.left.map fun x => slv x.1) ⟨_, rfl, rfl⟩).1; rw [List.length_map] at this; omega
    have hgl : p.gs.len = p.left.length := by have := (h.rd (k := 1) (i := 4) (E := 60) (sz := 1) (s := p.gs) (vs := p.left.map fun x => slv x.2.1) ⟨_, rfl, rfl⟩).1; rw [List.length_map] at this; omega
    have hll := hpo.left
    refine h.app 1 3 (s := p.fs) (xs := p.left.map fun x => slv x.1) ⟨_, rfl, rfl⟩ hru one_slice (by simp only [maxLen]; omega) (by omega) ?_
    intro fs w6 hfs h
    have h := h.drop 0
    refine NilP.mk ?_
    refine h.storB 0 0 ⟨_, rfl, rfl⟩ rfl rfl rfl ?_
    intro w7 h
    refine NilP.mk ?_
    refine h.drew.readB 0 0 ⟨_, rfl, rfl⟩ rfl (kd := .sl) (x := p.gs) rfl ?_
    have hrq := h.drew.rd (k := 4) (i := 0) (E := 32) (sz := 2) (s := q) (vs := clvs P) ⟨_, rfl, rfl⟩
    refine h.drew.appNil hrq (clvs_one _) (by simp only [maxLen]; omega) (by omega) ?_
    intro q3 w8 hq3 h
    refine ⟨h.stillB 1 0 ⟨_, rfl, rfl⟩ rfl rfl, ?_⟩
    refine h.newS 1 (bs55 _ _ _ _) rfl rfl rfl ?_
    intro u2 w9 hv1 hv2 _ h
    refine ⟨h.stillB 2 0 ⟨_, rfl, rfl⟩ rfl rfl, ?_⟩
    have hru := h.rd (k := 0) (i := 0) ⟨_, rfl, rfl⟩
    refine h.app 2 4 (s := p.gs) (xs := p.left.map fun x => slv x.2.1) ⟨_, rfl, rfl⟩ hru one_slice (by simp only [maxLen]; omega) (by omega) ?_
    intro gs w10 hgs h
    have h := h.drop 0
    refine NilP.mk ?_
    refine h.storB 1 0 ⟨_, rfl, rfl⟩ rfl rfl rfl ?_
    intro w11 h
    have h := (h.ord 6 [0, 4, 1, 2, 3, 5]).into
    have h := (h.ord 5 [4, 3, 1, 2, 0]).into
    have h := h.ord 4 [1, 2, 0, 3]
    refine ⟨rfl, { p with mark := p.mark + 1, fs := fs, gs := gs, left := p.left ++ [(q, q3, P)] }, rfl, ⟨by dsimp only; omega, hpo.lists, by simp; omega, fun x hx => ?_, hpo.lens2⟩, hout ?_⟩
    · rcases List.mem_append.1 hx with hx | hx
      · exact hpo.lens x hx
      · simp at hx; subst hx; exact hPb
    · exact po_left (x := (q, q3, P)) h
  · refine LoopX.mk (fun st w' => ∃ i : Nat, st = ((i : Int), ()) ∧ i ≤ P.length ∧ St w0 w' (poG cp rp { p with mark := p.mark + 1 } ([.row 32 2 q (clvs (List.replicate i (-((p.mark + 1 : Nat) : Int), (0 : Int)) ++ P.drop i))] :: F2))) (fun st => ((P.length : Int) - st.1).toNat) ⟨0, rfl, Nat.zero_le _, by simpa using h⟩ ?_
    clear h
    rintro _ w5 ⟨i, rfl, hi, h⟩ k hk
    dsimp only at hk ⊢
    rw [SplitB_iff]
    refine ⟨fun hd => ?_, fun hd => ?_⟩
    · have hd : i < P.length := by have : (i : Int) < (q.len : Int) := of_decide_eq_true hd; omega
      refine NilP.mk ?_
      refine h.loadB 0 0 ⟨_, rfl, rfl⟩ rfl (kd := .int .i64) (x := ((p.mark + 1 : Nat) : Int)) rfl ?_
      have en : IntKind.i64.wrap (0 - ((p.mark + 1 : Nat) : Int)) = -((p.mark + 1 : Nat) : Int) := by rw [wr (by omega)]; omega
      rw [en]
      have hrq := h.rd (k := 4) (i := 0) ⟨_, rfl, rfl⟩
      refine hrq.idxK i rfl (by omega) ?_
      intro g2 o2 ha2
      refine h.storRA 4 0 (vs := clvs (List.replicate i (-((p.mark + 1 : Nat) : Int), (0 : Int)) ++ P.drop i)) ⟨_, rfl, rfl⟩ ha2 (t' := 32) (n := 2) (i * 2) rfl (ds := clv (-((p.mark + 1 : Nat) : Int), 0)) (by rw [flat_len clv_len]; simp; omega) rfl (by decide) rfl ?_
      intro w6 h
      have h : St w0 w6 (poG cp rp { p with mark := p.mark + 1 } ([.row 32 2 q ((clvs (List.replicate i (-((p.mark + 1 : Nat) : Int), (0 : Int)) ++ P.drop i)).take (i * 2) ++ clv (-((p.mark + 1 : Nat) : Int), 0) ++ (clvs (List.replicate i (-((p.mark + 1 : Nat) : Int), (0 : Int)) ++ P.drop i)).drop (i * 2 + 2))] :: F2)) := h
      rw [clvs_set _ i _ (by simp; omega)] at h
      have e : IntKind.i64.wrap ((i : Int) + 1) = ((i + 1 : Nat) : Int) := by rw [wr (by omega)]; omega
      rw [e]
      refine hk _ _ ⟨i + 1, rfl, by omega, ?_⟩ (by dsimp only; omega)
      have e2 : (List.replicate i (-((p.mark + 1 : Nat) : Int), (0 : Int)) ++ P.drop i).set i (-((p.mark + 1 : Nat) : Int), 0) = List.replicate (i + 1) (-((p.mark + 1 : Nat) : Int), (0 : Int)) ++ P.drop (i + 1) := by
        rw [List.set_append_right _ _ (by simp), List.length_replicate, Nat.sub_self, List.drop_eq_getElem_cons hd, List.set_cons_zero, List.replicate_succ', List.append_assoc]
        rfl
      rw [e2] at h
      exact h
    · have hd : i = P.length := by have : ¬ (i : Int) < (q.len : Int) := of_decide_eq_false hd; omega
      subst hd
      rw [List.drop_of_length_le (Nat.le_refl _), List.append_nil] at h
      generalize hV : clvs (List.replicate P.length (-((p.mark + 1 : Nat) : Int), (0 : Int))) = V0 at h
      have h := h.ord 5 [4, 0, 1, 2, 3]
      have h : St w0 w5 ([.row 32 2 q V0] :: poG cp rp { p with mark := p.mark + 1 } F2) := h
      refine LoopX.mk (fun st w' => ∃ (d : Sl) (n : Nat) (e : List Value), st = (d, (n : Int), ()) ∧ n ≤ 80 ∧ GrowS 32 2 w0 w' q V0 d n e (poG cp rp { p with mark := p.mark + 1 } F2)) (fun st => (80 - st.2.1).toNat) ⟨q, 0, [], rfl, by omega, GrowS.start h⟩ ?_
      clear h
      rintro _ w6 ⟨d, n, e, rfl, hn, h⟩ k2 hk2
      dsimp only at hk2 ⊢
      rw [SplitB_iff]
      refine ⟨fun he => ?_, fun he => ?_⟩
      · have he : n < 80 := by have : (n : Int) < 80 := of_decide_eq_true he; omega
        refine NilP.mk ?_
        have hrd : ∀ {K : Int → World → Prop}, K ((p.mark + 1 : Nat) : Int) w6 → RunN Try.prog (.int .i64) (V (Instr.loadAt 3 (.pointer (some ((⟨p.b, 0, none⟩ : Addr).add 4))))) w6 K := fun {K} hK => by
          obtain ⟨_, _, _, h2⟩ := h
          rcases h2 with ⟨_, _, h2⟩ | h2
          · exact h2.loadB 1 0 ⟨_, rfl, rfl⟩ rfl (kd := .int .i64) (x := ((p.mark + 1 : Nat) : Int)) rfl hK
          · exact h2.loadB 1 0 ⟨_, rfl, rfl⟩ rfl (kd := .int .i64) (x := ((p.mark + 1 : Nat) : Int)) rfl hK
        refine hrd ?_
        refine h.app (by_ := 16) [.int .i64 (IntKind.i64.wrap (-1000000 - ((p.mark + 1 : Nat) : Int))), .int .i64 0] rfl rfl (bs60 · _ _) (by omega) (by omega) ?_
        intro d' w8 h
        have e : IntKind.i64.wrap ((n : Int) + 1) = ((n + 1 : Nat) : Int) := by rw [wr (by omega)]; omega
        rw [e]
        exact hk2 _ _ ⟨d', n + 1, _, rfl, by omega, h⟩ (by dsimp only; omega)
      · have he : n = 80 := by have : ¬ (n : Int) < 80 := of_decide_eq_false he; omega
        subst he
        have hdl := h.2.2.1
        have h := h.done
        refine NilP.mk ?_
        refine h.loadB 1 0 ⟨_, rfl, rfl⟩ rfl (kd := .sl) (x := p.ls) rfl ?_
        refine h.newS 1 (bs55 _ _ _ _) rfl rfl rfl ?_
        intro u w7 hu1 hu2 _ h
        have hru := h.rd (k := 0) (i := 0) ⟨_, rfl, rfl⟩
        have hll : p.ls.len = p.lists.length := by have := (h.rd (k := 2) (i := 1) (E := 60) (sz := 1) (s := p.ls) (vs := p.lists.map fun x => slv x.1) ⟨_, rfl, rfl⟩).1; rw [List.length_map] at this; omega
        have hml : p.ms.len = p.lists.length := by have := (h.rd (k := 2) (i := 2) (E := 3) (sz := 1) (s := p.ms) (vs := lin (p.lists.map fun x => x.2.1)) ⟨_, rfl, rfl⟩).1; rw [lin_len, List.length_map] at this; omega
        have hl5 := hpo.lists
        refine h.app 2 1 (s := p.ls) (xs := p.lists.map fun x => slv x.1) ⟨_, rfl, rfl⟩ hru one_slice (by simp only [maxLen]; omega) (by omega) ?_
        intro ls w8 hls h
        have h := h.drop 0
        refine NilP.mk ?_
        refine h.storB 1 0 ⟨_, rfl, rfl⟩ rfl rfl rfl ?_
        intro w9 h
        refine NilP.mk ?_
        refine h.drew.readB 1 0 ⟨_, rfl, rfl⟩ rfl (kd := .sl) (x := p.ms) rfl ?_
        refine NilP.mk ?_
        refine h.drew.readB 1 0 ⟨_, rfl, rfl⟩ rfl (kd := .int .i64) (x := ((p.mark + 1 : Nat) : Int)) rfl ?_
        have en : IntKind.i64.wrap (0 - ((p.mark + 1 : Nat) : Int)) = -((p.mark + 1 : Nat) : Int) := by rw [wr (by omega)]; omega
        rw [en]
        refine h.drew.newS 1 (bs50 _ _) rfl rfl rfl ?_
        intro u2 w10 hv1 hv2 _ h
        refine ⟨h.stillB 2 0 ⟨_, rfl, rfl⟩ rfl rfl, ?_⟩
        have hru := h.rd (k := 0) (i := 0) ⟨_, rfl, rfl⟩
        refine h.app 2 2 (s := p.ms) (xs := lin (p.lists.map fun x => x.2.1)) ⟨_, rfl, rfl⟩ hru one_int (by simp only [maxLen]; omega) (by omega) ?_
        intro ms w11 hms h
        have h := h.drop 0
        refine NilP.mk ?_
        refine h.storB 1 0 ⟨_, rfl, rfl⟩ rfl rfl rfl ?_
        intro w12 h
        have h := (h.ord 5 [0, 2, 1, 3, 4]).into
        have h := h.ord 4 [1, 0, 2, 3]
        rw [← hV] at h
        have h : St w0 w12 (poG cp rp { p with mark := p.mark + 1, ls := ls, ms := ms, lists := p.lists ++ [(q, -((p.mark + 1 : Nat) : Int), P.length)] } F2) := po_lists (x := (q, -((p.mark + 1 : Nat) : Int), P.length)) h
        have hlens : ∀ x ∈ p.lists ++ [(q, -((p.mark + 1 : Nat) : Int), P.length)], x.2.2 ≤ 64000000 := fun x hx => by
          rcases List.mem_append.1 hx with hx | hx
          · exact hpo.lens2 x hx
          · simp at hx; subst hx; exact hPb
        generalize hLL : p.lists ++ [(q, -((p.mark + 1 : Nat) : Int), P.length)] = L at h hlens
        have hL : L.length = p.lists.length + 1 := by rw [← hLL]; simp
        have hlsl : ls.len = L.length := by rw [hls, hu1]; omega
        have hmsl : ms.len = L.length := by rw [hms, hv1]; omega
        refine JoinX.mk (fun (_ : Unit) w' => ∃ p', p'.b = p.b ∧ PoW (N + 1) p' ∧ St w0 w' (poG cp rp p' F2)) ?_ ?_
        · rintro _ w13 ⟨p', hb, hp', h⟩
          rw [SplitB_iff]
          refine ⟨fun _ => ⟨?_, p', hb, hp', hout h⟩, fun hf => by cases hf⟩
          show ((d.len : Int) == IntKind.i64.wrap ((q.len : Int) + 80)) = true
          rw [wr (by omega), hdl]; simp
        · intro k5 hk5
          refine NilP.mk ?_
          refine h.loadB 0 0 ⟨_, rfl, rfl⟩ rfl (kd := .sl) (x := ls) rfl ?_
          rw [SplitB_iff]
          refine ⟨fun hf => ?_, fun hf => ?_⟩
          · have hf : 4 < L.length := by have : (ls.len : Int) > 4 := of_decide_eq_true hf; omega
            refine NilP.mk ?_
            refine h.loadB 0 0 ⟨_, rfl, rfl⟩ rfl (kd := .sl) (x := ls) rfl ?_
            refine RunN.sL 1 rfl (by omega) ?_
            have h := h.sufR (k := 0) (i := 1) (s := ls) (vs := L.map fun x => slv x.1) ⟨_, rfl, rfl⟩ (lo := 1) (by omega)
            refine NilP.mk ?_
            refine h.storB 0 0 ⟨_, rfl, rfl⟩ rfl rfl rfl ?_
            intro w13 h
            refine NilP.mk ?_
            refine h.loadB 0 0 ⟨_, rfl, rfl⟩ rfl (kd := .sl) (x := ms) rfl ?_
            refine RunN.sL 1 rfl (by omega) ?_
            have h := h.sufR (k := 0) (i := 2) (s := ms) (vs := lin (L.map fun x => x.2.1)) ⟨_, rfl, rfl⟩ (lo := 1) (by omega)
            refine NilP.mk ?_
            refine h.storB 0 0 ⟨_, rfl, rfl⟩ rfl rfl rfl ?_
            intro w14 h
            cases L with
            | nil => simp at hf
            | cons x L =>
              have h := h.rest (k := 1) (i := 0) (e := .row 32 2 x.1 (clvs (List.replicate x.2.2 (x.2.1, (0 : Int))))) ⟨_, rfl, rfl⟩
              refine hk5 _ _ ⟨{ p with mark := p.mark + 1, ls := subS ls 1 ls.len 1, ms := subS ms 1 ms.len 1, lists := L }, rfl, ⟨Nat.succ_le_succ hpm, by simp at hL; dsimp only; omega, Nat.le_succ_of_le hpo.left, hpo.lens, fun y hy => hlens y (List.mem_cons_of_mem _ hy)⟩, h⟩
          · have hf : ¬ 4 < L.length := by have : ¬ (ls.len : Int) > 4 := of_decide_eq_false hf; omega
            exact hk5 _ _ ⟨{ p with mark := p.mark + 1, ls := ls, ms := ms, lists := L }, rfl, ⟨Nat.succ_le_succ hpm, by dsimp only; omega, Nat.le_succ_of_le hpo.left, hpo.lens, hlens⟩, h⟩
end Go.Proofs.Ytbdhmeefjlkdcaa
