/- Words and steps, part 10: A segment comes: both answer alike; what goes up is kept or written over. The calls of an end, within all that is in memory. One call, at both: they answer alike. What goes out, and what is not acknowledged, at both: alike, kept or written over. One call of a script, at both. The lists around the answers: written over, grown, looked at. Words. The lists around the answers: written over, grown, looked at. -/
import Derived.Test.YtodgnpmljdopiaaLsQ9
/- A segment comes: both answer alike; what goes up is kept or written over. -/
namespace Go.Proofs.Ytodgnpmljdopiaa
open Go Go.Fw Go.RowKit
set_option linter.unusedVariables false
set_option linter.unusedSimpArgs false
set_option maxRecDepth 4000
set_option maxHeartbeats 4000000
variable {w0 w : World} {F G : Grps}

theorem upv_lsl (u : List Ea) : u.flatMap upv = lsl (u.map (·.1.2)) := by
  induction u with
  | nil => rfl
  | cons x r ih => rw [List.flatMap_cons, ih]; rfl
theorem ups_brow (u : List Ea) : ups u = (u.map (·.1.2)).map brow := by simp [ups]
theorem pk_pl (D E : List Bs) (h : D.map (·.2) = E.map (·.2)) : (D.map pk).map Sg.pl = (E.map pk).map Sg.pl := by
  have e : ∀ D : List Bs, (D.map pk).map Sg.pl = (D.map (·.2)).map fun l => ((0, 0, 0, 0, l) : Pl) := fun D => by simp [pk, Sg.pl]
  rw [e, e, h]
theorem pk_ds (D : List Bs) : (D.map pk).map (·.d) = D := by
  rw [List.map_map]
  exact List.map_id'' (fun _ => rfl) D
theorem row_some {o : Sl} {D : List Bs} (h : Rd w o 1 (lsl D)) (hD : 0 < D.length) : o.a ≠ none := by
  rcases h.2.1 with h0 | ⟨b, q, ha, _⟩
  · have := congrArg List.length h0
    rw [lsl_len, List.length_nil] at this
    omega
  · rw [ha]; simp
theorem u_lens {e : Lk} (hw : e.wf) {g : Sg} (hg : g.d.2.length ≤ 4000) {u l : List Ea} (ht : TakeR e g u l) : (∀ x ∈ u, x.1.2.2.length ≤ 4000) := by
  intro x hx
  by_cases hn : e.news g
  · obtain ⟨s, c, hp, _, _⟩ := ht.yes hn
    rcases List.mem_append.1 (hp.mem_iff.2 (List.mem_append_left _ hx)) with h1 | h1
    · exact hw.elens x h1
    · simp at h1; subst h1; exact hg
  · rw [(ht.no hn).1] at hx; cases hx
theorem u_few {e : Lm} (hw : e.wf) {g : Sg} (hf : e.fits g = true) {u l : List Ea} (ht : TakeR e.toLk g u l) : u.length ≤ 17 := by
  by_cases hn : e.news g
  · obtain ⟨s, c, hp, hk, _⟩ := ht.yes hn
    have h1 := hp.length_eq
    have h2 : e.ea.length ≤ 16 := by
      have := pig (a := e.want) e.win (e.ea.map (·.1.1)) hw.nodup (fun x hx => by
        obtain ⟨y, hy, rfl⟩ := List.mem_map.1 hx
        have := hw.erange y hy
        exact ⟨by omega, by omega⟩)
      rw [List.length_map] at this
      have := hw.win; omega
    simp at h1; omega
  · rw [(ht.no hn).1]; exact Nat.zero_le _
theorem takes_st {n bb : Nat} {x : En} {y : Bk} {g : Sg} (h : St w0 w (enG bb x (bkG bb y F))) (hI : EnI n x) (hB : BkI w0 n y) (hn : n ≤ 4000) (hp : SeesX w0 y.H g.d.1 1 (bys g.d.2)) (hl : g.d.2.length ≤ 140737488351232) :
    CallK Try.prog .bool 39 #[.pointer (some ⟨x.xb, 0, none⟩), .agg #[.int .i64 g.fr, .int .i64 g.to, .int .i64 g.seq, .int .i64 g.ack, .slice g.d.1.a g.d.1.len g.d.1.cap]] w
    fun (v : Bool) w' => v = true ∧ ∃ x' y', x'.e.cb = x.e.cb ∧ x'.r.rb = x.r.rb ∧ x'.sb = x.sb ∧ x'.xb = x.xb ∧ EnI (n + 1) x' ∧ BkI w0 (n + 1) y' ∧ (∃ m, y'.H = y.H ++ m) ∧ St w0 w' (enG bb x' (bkG bb y' F)) := by
  have hdl : g.d.1.len = g.d.2.length := (hp.at 13 rfl _ h).bys_len
  refine T39.calls (p1 := sgt g) ?_
  unfold T39
  refine h.newB run_boxA rfl ?_
  intro c3 w1 h
  have h : St w0 w1 ([.cel c3 62 (sgv g)] :: enG bb x (bkG bb y F)) := h
  refine h.loadB 0 0 ⟨_, rfl, rfl⟩ rfl (kd := .sl) (x := g.d.1) rfl ?_
  refine (lend_st h (hp.at 14 rfl) hl).mono ?_
  intro t w2 ⟨htl, h⟩
  refine RunN.of (kd := Kds) (x := sgt g) (h.run_loadA (k := 1) (i := 0) (b := c3) (t := 62) (cs := sgv g) ⟨_, rfl, rfl⟩ (t' := 62) (n := 5) (j := 0) rfl (vs := sgv g) rfl rfl) ?_
  refine h.newB (NewC.run _) rfl ?_
  intro c6 w3 h
  refine h.storA (P := Try.prog) 0 0 (b := c6) ⟨_, rfl, rfl⟩ (t' := 62) (n := 5) (j := 0) rfl (ds := sgv g) rfl rfl rfl ?_
  intro w4 h
  dsimp only [updG, setO] at h
  have h : St w0 w4 ([.cel c6 62 (sgv g)] :: [brow (t, g.d.2 ++ mks)] :: [.cel c3 62 (sgv g)] :: enG bb x (bkG bb y F)) := h
  refine h.loadB 2 0 ⟨_, rfl, rfl⟩ rfl (kd := .sl) (x := g.d.1) rfl ?_
  refine RunN.sH g.d.2.length (by rw [hdl]) (by have := (h.rd (k := 1) (i := 0) (E := 5) (sz := 1) (s := t) (vs := bys (g.d.2 ++ mks)) ⟨_, rfl, rfl⟩).2.2; omega) ?_
  refine h.storB 0 0 ⟨_, rfl, rfl⟩ rfl rfl rfl ?_
  intro w5 h
  let g' : Sg := { g with d := (subS t 0 g.d.2.length 1, g.d.2) }
  have h : St w0 w5 ([.cel c6 62 (sgv g')] :: [brow (t, g.d.2 ++ mks)] :: [.cel c3 62 (sgv g)] :: enG bb x (bkG bb y F)) := h
  refine NilP.mk ?_
  refine h.drew.readB 11 0 ⟨_, rfl, rfl⟩ rfl (kd := .ptr) (x := x.e.p) rfl ?_
  refine ReadN.of (kd := Kds) (x := sgt g') (h.drew.run_loadA (k := 0) (i := 0) (b := c6) (t := 62) (cs := sgv g') ⟨_, rfl, rfl⟩ (t' := 62) (n := 5) (j := 0) rfl (vs := sgv g') rfl rfl) ?_
  have h := h.drew.ord 6 [3, 4, 5, 1, 0, 2]
  dsimp only [enG, pick, nthO, dropO] at h
  refine (take_st (e := x.e) h hI.we (g := g') (lent_sees htl) (by show g.d.2.length ≤ _; omega)).mono ?_
  rintro ⟨up, er, ⟨⟩⟩ w6 hT
  have hlr := hI.lr
  -- what the program's link makes of it
  have hU : ∃ (e' : Lm) (u : List Ea), e'.cb = x.e.cb ∧ e'.wf ∧ up.len = u.length ∧ (∀ g2 : Sg, g2.seq = g.seq → (x.e.fits g = true → ¬ e'.toLk.news g2)) ∧ e'.me = x.e.me ∧ e'.peer = x.e.peer ∧ e'.gone = x.e.gone ∧
      (x.e.fits g = false ∧ er = 31 ∧ e' = x.e ∧ u = [] ∨ x.e.fits g = true ∧ er = 0 ∧ ∃ us mc l, TakeR x.e.toLk g u l ∧ e' = x.e.took g us mc u.length l) ∧
      St w0 w6 (lmE e' :: dat e'.toLk :: ups e'.ea :: upE up u :: ups u :: [brow (t, g.d.2 ++ mks)] :: [.cel c6 62 (sgv g')] :: [.cel c3 62 (sgv g)] :: rmE 115 x.r :: rsd x.r.toRl :: rcd x.r.toRl :: shE x.sb x.ls x.L :: x.g :: [endC x.xb x.e x.r.rb x.sb bb] :: bkG bb y F) := by
    rcases hT with ⟨hf, hv, h⟩ | ⟨hf, hv, us, mc, u, l, ht, hul, h⟩
    · have e1 : up = ⟨none, 0, 0⟩ := congrArg (·.1) hv
      have e2 : er = 31 := congrArg (·.2.1) hv
      subst e1
      have hff : x.e.fits g = false := hf
      have h := h.nilrow 45 1
      have h := St.empty.2 h
      have h := h.ord 5 [2, 3, 4, 1, 0]
      dsimp only [pick, nthO, dropO] at h
      exact ⟨x.e, [], rfl, hI.we, rfl, fun g2 _ hh => (by rw [hff] at hh; cases hh), rfl, rfl, rfl, .inl ⟨hff, e2, rfl, rfl⟩, h⟩
    · have ht : TakeR x.e.toLk g u l := ⟨ht.yes, ht.no⟩
      have hff : x.e.fits g = true := hf
      exact ⟨x.e.took g us mc u.length l, u, rfl, took_wf hI.we hff ht us mc, hul, fun g2 hs _ => took_old ht hs us mc, rfl, rfl, rfl, .inr ⟨hff, hv, us, mc, l, ht, rfl⟩, h⟩
  clear hT h
  obtain ⟨e', u, hcb, hwf', hul, hno, hme, hpeer, hgone, hcase, h⟩ := hU
  dsimp only
  refine NilP.mk ?_
  refine h.drew.readB 13 0 ⟨_, rfl, rfl⟩ rfl (kd := .ptr) (x := some ⟨x.r.rb, 0, none⟩) rfl ?_
  refine ReadN.of (kd := Kds) (x := sgt g) (h.drew.run_loadA (k := 7) (i := 0) (b := c3) (t := 62) (cs := sgv g) ⟨_, rfl, rfl⟩ (t' := 62) (n := 5) (j := 0) rfl (vs := sgv g) rfl rfl) ?_
  have h := h.drew.ord 11 [8, 10, 0, 1, 2, 3, 4, 5, 6, 7, 9]
  dsimp only [pick, nthO, dropO] at h
  refine (rtake_st (r := x.r) h (hI.wr (by omega)) hI.cs (by have := hI.cl; omega) (g := g) (hp.at 16 rfl)).mono ?_
  rintro ⟨v, f, ⟨⟩⟩ w7 hT
  have hfr : x.r.fits g = x.e.fits g := (hlr.fits g).symm
  have hV : ∃ (r' : Rm) (u2 : List Bs), r'.rb = x.r.rb ∧ r'.sent = x.r.sent ∧ v.len = u2.length ∧ er = f ∧ u.map (·.1.2.2) = u2.map (·.2) ∧ LRel e'.toLk r'.toRl ∧ (∀ p ∈ r'.came, p.1 ≤ 1099511627776) ∧ r'.came.length ≤ n + 1 ∧ (∀ p ∈ r'.came, p.2.2.length ≤ 4000) ∧ (∀ x ∈ u, x.1.2.2.length ≤ 4000) ∧ u.length ≤ 17 ∧
      St w0 w7 (rmE 115 r' :: rcd r'.toRl :: [.row 45 1 v (lsl u2)] :: u2.map brow :: lmE e' :: dat e'.toLk :: ups e'.ea :: upE up u :: ups u :: [brow (t, g.d.2 ++ mks)] :: [.cel c6 62 (sgv g')] :: [.cel c3 62 (sgv g)] :: rsd x.r.toRl :: shE x.sb x.ls x.L :: x.g :: [endC x.xb x.e x.r.rb x.sb bb] :: bkG bb y F) := by
    rcases hT with ⟨hf, hv, h⟩ | ⟨hf, hv, cs, c, u2, ht, hul2, h⟩
    · rcases hcase with ⟨hf1, he, rfl, rfl⟩ | ⟨hf1, _⟩
      · have e1 : v = ⟨none, 0, 0⟩ := congrArg (·.1) hv
        have e2 : f = 31 := congrArg (·.2.1) hv
        subst e1
        have h := h.nilrow 45 1
        have h := St.empty.2 h
        have h := h.ord 4 [2, 3, 1, 0]
        dsimp only [pick, nthO, dropO] at h
        exact ⟨x.r, [], rfl, rfl, rfl, by rw [he, e2], rfl, hlr, hI.cs, by have := hI.cl; omega, hI.clens, fun x hx => (by cases hx), Nat.zero_le _, h⟩
      · rw [hfr, hf1] at hf; cases hf
    · rcases hcase with ⟨hf1, he, rfl, rfl⟩ | ⟨hf1, he, us, mc, l, ht1, rfl⟩
      · rw [hfr, hf1] at hf; cases hf
      · have hlt := hlr.take hI.we hf1 ht1 ht us mc cs
        have hfs := fits_seq hf1
        have hc : (∀ p ∈ c, p.1 ≤ 1099511627776) ∧ c.length ≤ n + 1 ∧ ∀ p ∈ c, p.2.2.length ≤ 4000 := by
          by_cases hnr : x.r.toRl.news g
          · obtain ⟨s, rfl, _, _⟩ := ht.yes hnr
            refine ⟨fun p hp => ?_, by have := hI.cl; simp; omega, fun p hp => ?_⟩
            · rcases List.mem_append.1 hp with hp | hp
              · exact hI.cs p hp
              · simp at hp; subst hp; exact hfs.2.1
            · rcases List.mem_append.1 hp with hp | hp
              · exact hI.clens p hp
              · simp at hp; subst hp; exact hfs.2.2.2.2.1
          · obtain ⟨rfl, rfl⟩ := ht.no hnr
            exact ⟨hI.cs, by have := hI.cl; omega, hI.clens⟩
        exact ⟨x.r.took g cs c u2.length, u2, rfl, rfl, hul2, by rw [he]; exact hv.symm, hlt.1, hlt.2, hc.1, hc.2.1, hc.2.2, u_lens hI.we hfs.2.2.2.2.1 ht1, u_few hI.we hf1 ht1, h⟩
  clear hT h
  obtain ⟨r', u2, hrb, hrs, hvl, hef, huu, hlr', hcs', hcl', hclens', hulen, hufew, h⟩ := hV
  dsimp only
  have hu2l : u.length = u2.length := by have := congrArg List.length huu; simpa using this
  -- the ends as they are now
  have e1 : rsd x.r.toRl = rsd r'.toRl := by rw [rsd, rsd, hrs]
  have e2 : endC x.xb x.e x.r.rb x.sb bb = endC x.xb e' r'.rb x.sb bb := by rw [endC, endC, Lm.p, Lm.p, hcb, hrb]
  rw [e1, e2] at h
  refine h.loadB 11 0 ⟨_, rfl, rfl⟩ rfl (kd := .sl) (x := g.d.1) rfl ?_
  have h := h.ord 16 [9, 10, 2, 3, 7, 8, 4, 5, 6, 0, 12, 1, 13, 14, 15]
  dsimp only [pick, nthO, dropO] at h
  refine (kept_st h (hp.at 18 rfl) (by omega)).mono ?_
  intro (kv : Bool) w8 ⟨hkv, l', hl', h⟩
  rw [hkv]
  have hI' : EnI (n + 1) { x with e := e', r := r' } := ⟨hwf', hlr', hI.sh, hcs', hcl', by show r'.sent.length ≤ n + 1; rw [hrs]; have := hI.sl; omega, by have := hI.Ll; show x.L.length ≤ _; omega, by show ∀ b ∈ r'.sent, _; rw [hrs]; exact hI.lens, hclens'⟩
  have h : St w0 w8 ([brow (t, l')] :: [.cel c6 62 (sgv g')] :: [.row 45 1 v (lsl u2)] :: u2.map brow :: upE up u :: ups u :: enG bb { x with e := e', r := r' } (bkG bb y F)) := h
  refine JoinX.mk (fun (z : Bool × Unit) w' => z.1 = false ∧ St w0 w' ([brow (t, l')] :: [.cel c6 62 (sgv g')] :: [.row 45 1 v (lsl u2)] :: u2.map brow :: upE up u :: ups u :: enG bb { x with e := e', r := r' } (bkG bb y F))) ?_ ?_
  rotate_left
  · intro k hk
    rw [SplitB_iff]
    refine ⟨fun hf => (by cases hf), fun _ => ?_⟩
    rw [SplitB_iff]
    refine ⟨fun hf => ?_, fun _ => ?_⟩
    · rw [hef] at hf; simp at hf
    · refine hk _ _ ⟨?_, h⟩
      have : (up.len : Int) = (v.len : Int) := by omega
      dsimp only
      rw [this]; simp
  clear h
  rintro ⟨z, ⟨⟩⟩ w9 ⟨hz, h⟩
  dsimp only at hz
  subst hz
  dsimp only
  rw [SplitB_iff]
  refine ⟨fun hf => (by cases hf), fun _ => ?_⟩
  refine LoopX.mk (fun st w' => ∃ m : Nat, st = ((m : Int), ()) ∧ m ≤ u.length ∧ St w0 w' ([brow (t, l')] :: [.cel c6 62 (sgv g')] :: [.row 45 1 v (lsl u2)] :: u2.map brow :: upE up u :: ups u :: enG bb { x with e := e', r := r' } (bkG bb y F))) (fun st => u.length - st.1.toNat) ⟨0, rfl, Nat.zero_le _, h⟩ ?_
  clear h
  rintro _ w10 ⟨m, rfl, hm, h⟩ k4 hk4
  dsimp only at hk4 ⊢
  rw [SplitB_iff]
  refine ⟨fun hc => ?_, fun hc => ?_⟩
  · have hc : m < u.length := by have : (m : Int) < (up.len : Int) := of_decide_eq_true hc
                                 omega
    have hc2 : m < u2.length := by omega
    have hem : IntKind.i64.wrap ((m : Int) + 1) = ((m + 1 : Nat) : Int) := by rw [wr (by omega)]; omega
    rw [hem]
    have hur := h.drew.rd (k := 4) (i := 0) (E := 45) (sz := 1) (s := up) (vs := u.flatMap upv) ⟨_, rfl, rfl⟩
    refine hur.idxR m rfl (by omega) ?_
    intro b1 o1 ha1
    refine hur.elR ha1 (m * 1) rfl (kd := .sl) (x := u[m].1.2.1) (flat_cell upv_len (l := u) hc 0 (by decide)) ?_
    have hvr := h.drew.rd (k := 2) (i := 0) (E := 45) (sz := 1) (s := v) (vs := lsl u2) ⟨_, rfl, rfl⟩
    refine hvr.idxR m rfl (by omega) ?_
    intro b2 o2 ha2
    refine hvr.elR ha2 (m * 1) rfl (kd := .sl) (x := u2[m].1) (by rw [Nat.mul_one]; exact lsl_at hc2) ?_
    have hp1 : Rd w10.drew u[m].1.2.1 1 (bys u[m].1.2.2) :=
      ((h.drew.memG (k := 5) rfl (List.mem_map.2 ⟨u[m], List.getElem_mem hc, rfl⟩) : (brow u[m].1.2).ok w10.drew w0.heap.size)).1.rd
    have hp2 : Rd w10.drew u2[m].1 1 (bys u2[m].2) :=
      ((h.drew.memG (k := 3) rfl (List.mem_map.2 ⟨u2[m], List.getElem_mem hc2, rfl⟩) : (brow u2[m]).ok w10.drew w0.heap.size)).1.rd
    have heq : u[m].1.2.2 = u2[m].2 := by
      have : (u.map (·.1.2.2))[m]? = (u2.map (·.2))[m]? := by rw [huu]
      rw [List.getElem?_map, List.getElem?_map, List.getElem?_eq_getElem hc, List.getElem?_eq_getElem hc2] at this
      simpa using this
    refine (same_ok hp1 hp2).mono ?_
    rintro r3 w11 ⟨rfl, hr3⟩
    have hr3 : (r3 : Bool) = true := by rw [hr3]; exact decide_eq_true heq
    rw [hr3, SplitB_iff]
    refine ⟨fun hf => (by cases hf), fun _ => ?_⟩
    exact hk4 _ _ ⟨m + 1, rfl, by omega, h.drew⟩ (by dsimp only; omega)
  · clear hk4 hc hm
    refine JoinX.mk (fun (_ : Unit) w' => ∃ x' y', x'.e = e' ∧ x'.r = r' ∧ x'.sb = x.sb ∧ x'.xb = x.xb ∧ EnI (n + 1) x' ∧ BkI w0 (n + 1) y' ∧ (∃ m, y'.H = y.H ++ m) ∧ St w0 w' ([brow (t, l')] :: [.cel c6 62 (sgv g')] :: enG bb x' (bkG bb y' F))) ?_ ?_
    · clear h
      rintro _ w11 ⟨x', y', he', hr', hsb', hxb', hI2, hB2, hH2, h⟩
      refine RunN.of (kd := Kds) (x := sgt g') (h.run_loadA (k := 1) (i := 0) (b := c6) (t := 62) (cs := sgv g') ⟨_, rfl, rfl⟩ (t' := 62) (n := 5) (j := 0) rfl (vs := sgv g') rfl rfl) ?_
      let g2 : Sg := { g with d := (subS t 0 g.d.2.length 1, l'.take g.d.2.length) }
      have hg2l : g2.d.2.length = g.d.2.length := by show (l'.take g.d.2.length).length = _; simp; omega
      have hs2 : SeesX w0 [brow (t, l')] g2.d.1 1 (bys g2.d.2) := fun w F h => by
        have hr := h.rd (k := 0) (i := 0) (E := 5) (sz := 1) (s := t) (vs := bys l') ⟨_, rfl, rfl⟩
        have h1 := hr.pre (hi := g.d.2.length) (by omega)
        rw [bys_take] at h1
        exact h1
      have hff : x'.e.fits g2 = x.e.fits g := by
        have h1 : x'.e.fits g2 = x'.e.fits g := fits_like rfl rfl rfl rfl hg2l
        rw [h1, he', Lk.fits, Lk.fits, hme, hpeer, hgone]
      have := again_st (g := g2) h hI2 (by omega) hs2 (by rw [hg2l]; exact hl) (fun hh => by
        rw [hff] at hh
        rw [he']
        exact hno g2 rfl hh)
      rw [← hxb']
      refine this.mono ?_
      rintro v2 w12 ⟨hv2, e3, r3, hcb3, hrb3, hI3, h⟩
      exact ⟨hv2, { x' with e := e3, r := r3 }, y', by show e3.cb = _; rw [hcb3, he', hcb], by show r3.rb = _; rw [hrb3, hr', hrb], hsb', rfl, hI3, hB2, hH2, h⟩
    · intro k5 hk5
      have eA : upE up u = [.row 45 1 up (lsl (u.map (·.1.2)))] := by rw [upE, upv_lsl]
      have eB : ups u = (u.map (·.1.2)).map brow := ups_brow u
      rw [eA, eB] at h
      have hDE : (u.map (·.1.2)).map (·.2) = u2.map (·.2) := by rw [List.map_map]; exact huu
      have hDl : ∀ b ∈ u.map (·.1.2), b.2.length ≤ 4000 := fun b hb => by
        obtain ⟨z, hz, rfl⟩ := List.mem_map.1 hb
        exact hulen z hz
      have hDn : (u.map (·.1.2)).length = u.length := List.length_map ..
      generalize u.map (·.1.2) = D at h hDE hDl hDn eA eB
      refine JoinX.mk (fun (z : Bool × Unit) w' => ∃ n', n' ≤ n + 1 ∧ (z.1 = true → y.A.length < 120 ∧ 0 < u2.length) ∧ St w0 w' ([brow (t, l')] :: [.cel c6 62 (sgv g')] :: [.row 45 1 v (lsl u2)] :: u2.map brow :: [.row 45 1 up (lsl D)] :: D.map brow :: enG bb { x with e := e', r := r' } (bkG bb { y with n := n' } F))) ?_ ?_
      · clear h
        rintro ⟨z, ⟨⟩⟩ w11 ⟨n', hn', hz, h⟩
        dsimp only at hz ⊢
        rw [SplitB_iff]
        refine ⟨fun hzt => ?_, fun _ => ?_⟩
        · -- it is kept
          obtain ⟨hA, hu0⟩ := hz hzt
          refine NilP.mk ?_
          refine h.loadB 14 0 ⟨_, rfl, rfl⟩ rfl (kd := .ptr) (x := some ⟨bb, 0, none⟩) rfl ?_
          have hup := row_some (h.rd (k := 4) (i := 0) (E := 45) (sz := 1) (s := up) (vs := lsl D) ⟨_, rfl, rfl⟩) (by omega)
          have h := h.ord 16 [15, 0, 1, 2, 3, 4, 5, 6, 7, 8, 9, 10, 11, 12, 13, 14]
          dsimp only [enG, bkG, pick, nthO, dropO] at h
          refine (handed_st h (by rw [List.length_map]; omega) (rowG (E := 45) 4 rfl (List.mem_cons_self ..)) (rowG (E := 45) 2 rfl (List.mem_cons_self ..)) (by omega) (by omega)).mono ?_
          rintro _ w12 ⟨bs', s, s2, h⟩
          let a : An := ⟨s, s2, up, D.map pk, u2.map pk, D⟩
          have ha : AnI w0 (y.H ++ ([.row 62 5 s2 ((u2.map pk).flatMap sgv)] ++ u2.map brow)) a := by
            refine ⟨pk_pl D u2 hDE, SeesX.late (SeesX.more (SeesX.row (E := 62) (List.mem_cons_self ..))), fun q hq => ?_, ?_, ?_, fun q hq => ?_, .inr hup⟩
            · obtain ⟨b, hb, rfl⟩ := List.mem_map.1 hq
              exact SeesX.late (SeesX.late (SeesX.rowB (List.mem_map.2 ⟨b, hb, rfl⟩)))
            · show (D.map pk).length ≤ 1000
              rw [List.length_map]; omega
            · show D.length ≤ 1000
              omega
            · obtain ⟨b, hb, rfl⟩ := List.mem_map.1 hq
              exact hDl b hb
          have hgr : St w0 w12 (bkE bb bs' (y.A.map An.hd ++ [a.hd]) n' :: [a.lr] :: y.A.map An.lr :: [a.ur] :: y.A.map An.ur :: D.map brow :: (y.A.flatMap An.ds).map brow :: ([.row 62 5 s2 ((u2.map pk).flatMap sgv)] ++ u2.map brow) :: y.H :: [brow (t, l')] :: [.cel c6 62 (sgv g')] :: enG bb { x with e := e', r := r' } F) := by
            have h := h.ord 22 [0, 1, 18, 7, 19, 8, 20, 2, 6, 21, 3, 4, 9, 10, 11, 12, 13, 14, 15, 16, 17]
            dsimp only [pick, nthO, dropO] at h
            exact h.perm (by simp only [List.flatten_cons, List.append_assoc, enG]; exact .refl _)
          have hds : a.ds = D := pk_ds D
          rw [← hds] at hgr
          have hgr := book_add hgr
          have hgr := hgr.ord 16 [5, 6, 7, 8, 9, 10, 11, 12, 13, 14, 15, 0, 1, 2, 3, 4]
          dsimp only [bkG, enG, pick, nthO, dropO] at hgr
          have hB2 : BkI w0 (n + 1) { y with n := n' } := ⟨hB.few, hn', hB.ok⟩
          exact hk5 _ _ ⟨{ x with e := e', r := r' }, ⟨bs', n', y.A ++ [a], y.H ++ ([Ent.row 62 5 s2 ((u2.map pk).flatMap sgv)] ++ u2.map brow)⟩, rfl, rfl, rfl, rfl, hI', hB2.add hA ha, ⟨_, rfl⟩, hgr⟩
        · -- it is written over
          refine NilP.mk ?_
          refine h.loadB 14 0 ⟨_, rfl, rfl⟩ rfl (kd := .ptr) (x := some ⟨x.sb, 0, none⟩) rfl ?_
          have h := h.ord 15 [4, 5, 12, 13, 0, 1, 6, 7, 8, 9, 10, 11, 14]
          dsimp only [enG, pick, nthO, dropO] at h
          refine (put_st h hI.sh hDl (by have := hI.Ll; omega)).mono ?_
          rintro _ w12 ⟨ls', L', gg', hSh, hL', h⟩
          have h := h.ord 12 [3, 4, 5, 6, 7, 8, 9, 10, 1, 2, 11]
          dsimp only [pick, nthO, dropO] at h
          exact hk5 _ _ ⟨{ x with e := e', r := r', ls := ls', L := L', g := gg' }, { y with n := n' }, rfl, rfl, rfl, rfl, ⟨hI'.we, hI'.lr, hSh, hI'.cs, hI'.cl, hI'.sl, by show L'.length ≤ _; have := hI.Ll; omega, hI'.lens, hI'.clens⟩, ⟨hB.few, hn', hB.ok⟩, ⟨[], by simp⟩, h⟩
      · intro k7 hk7
        rw [SplitB_iff]
        refine ⟨fun hc => ?_, fun hc => ?_⟩
        · have hc : 0 < u2.length := by have : (v.len : Int) > 0 := of_decide_eq_true hc
                                        omega
          refine NilP.mk ?_
          refine h.loadB 14 0 ⟨_, rfl, rfl⟩ rfl (kd := .ptr) (x := some ⟨bb, 0, none⟩) rfl ?_
          have h := h.ord 16 [15, 0, 1, 2, 3, 4, 5, 6, 7, 8, 9, 10, 11, 12, 13, 14]
          dsimp only [enG, bkG, pick, nthO, dropO] at h
          refine (turn_st h (by have := hB.nn; omega)).mono ?_
          intro (tv : Bool) w11 ⟨htv, h⟩
          have h := h.ord 16 [1, 2, 3, 4, 5, 6, 7, 8, 9, 10, 11, 12, 13, 14, 15, 0]
          dsimp only [pick, nthO, dropO] at h
          exact hk7 _ _ ⟨y.n + 1, by have := hB.nn; omega, fun hh => ⟨by have := htv hh; rwa [List.length_map] at this, hc⟩, h⟩
        · exact hk7 _ _ ⟨y.n, by have := hB.nn; omega, fun hh => (by cases hh), h⟩
end Go.Proofs.Ytodgnpmljdopiaa

/- The calls of an end, within all that is in memory. -/
namespace Go.Proofs.Ytodgnpmljdopiaa
open Go Go.Fw Go.RowKit
set_option linter.unusedVariables false
set_option linter.unusedSimpArgs false
set_option maxRecDepth 4000
set_option maxHeartbeats 4000000
variable {w0 w : World} {F G : Grps}

def En.withE (x : En) (e : Lm) (r : Rm) : En := { x with e := e, r := r }
theorem under_en {bb : Nat} {x : En} (h : St w0 w (enG bb x F)) (hw : x.e.wf) : CallK Try.prog .sl 14 #[.pointer x.e.p] w
    fun (o : Sl) w' => ∃ gs, gs.map Sg.pl = x.e.tells x.e.un ∧ o.len = gs.length ∧ St w0 w' (outE o gs :: outD gs :: enG bb x F) := by
  refine (under_st h hw).mono ?_
  rintro o w1 ⟨gs, h1, h2, h⟩
  have h := h.ord 4 [2, 3, 0, 1]
  dsimp only [pick, nthO, dropO] at h
  exact ⟨gs, h1, h2, h⟩
theorem runder_en {bb : Nat} {x : En} (h : St w0 w (enG bb x F)) (hw : x.r.wf) : CallK Try.prog .sl 47 #[.pointer x.r.p] w
    fun (o : Sl) w' => ∃ gs, gs.map Sg.pl = x.r.tells (nums (x.r.done + 1) (x.r.gone - x.r.done).toNat) ∧ o.len = gs.length ∧ St w0 w' (outE o gs :: outD gs :: enG bb x F) := by
  have h := h.ord 5 [3, 4, 0, 1, 2]
  dsimp only [enG, pick, nthO, dropO] at h
  refine (runder_st h hw).mono ?_
  rintro o w1 ⟨gs, h1, h2, h⟩
  have h := h.ord 7 [2, 3, 4, 5, 6, 0, 1]
  dsimp only [pick, nthO, dropO] at h
  exact ⟨gs, h1, h2, h⟩
theorem out_en {bb : Nat} {x : En} (h : St w0 w (enG bb x F)) (hw : x.e.wf) : CallK Try.prog .sl 13 #[.pointer x.e.p] w
    fun (o : Sl) w' => ∃ us gs, gs.map Sg.pl = x.e.tells x.e.outs ∧ o.len = gs.length ∧ St w0 w' (outE o gs :: outD gs :: enG bb (x.withE (x.e.outed us) x.r) F) := by
  refine (out_st h hw).mono ?_
  rintro o w1 ⟨us, gs, h1, h2, h⟩
  have h := h.ord 4 [2, 3, 0, 1]
  dsimp only [pick, nthO, dropO] at h
  exact ⟨us, gs, h1, h2, h⟩
theorem rout_en {bb : Nat} {x : En} (h : St w0 w (enG bb x F)) (hw : x.r.wf) : CallK Try.prog .sl 41 #[.pointer x.r.p] w
    fun (o : Sl) w' => ∃ gs, gs.map Sg.pl = x.r.tells x.r.outs ∧ o.len = gs.length ∧ St w0 w' (outE o gs :: outD gs :: enG bb (x.withE x.e { x.r with toRl := x.r.toRl.outed }) F) := by
  have h := h.ord 5 [3, 4, 0, 1, 2]
  dsimp only [enG, pick, nthO, dropO] at h
  refine (rout_st h hw).mono ?_
  rintro o w1 ⟨gs, h1, h2, h⟩
  have h := h.ord 7 [2, 3, 4, 5, 6, 0, 1]
  dsimp only [pick, nthO, dropO] at h
  exact ⟨gs, h1, h2, h⟩
theorem ticked_same (r : Rl) : r.ticked.sent = r.sent ∧ r.ticked.came = r.came := by
  unfold Rl.ticked
  split <;> exact ⟨rfl, rfl⟩
theorem tick_en {bb : Nat} {x : En} (h : St w0 w (enG bb x F)) (hw : x.e.wf) : CallK Try.prog (.tup .nilT) 20 #[.pointer x.e.p] w
    fun (_ : Unit) w' => St w0 w' (enG bb (x.withE x.e.tick x.r) F) := tick_st' h hw
theorem rtick_en {bb : Nat} {x : En} (h : St w0 w (enG bb x F)) (hw : x.r.wf) : CallK Try.prog (.tup .nilT) 40 #[.pointer x.r.p] w
    fun (_ : Unit) w' => St w0 w' (enG bb (x.withE x.e { x.r with toRl := x.r.toRl.ticked }) F) := by
  have h := h.ord 4 [3, 0, 1, 2]
  dsimp only [enG, pick, nthO, dropO] at h
  refine (rtick_st h hw).mono ?_
  intro _ w1 h
  have h := h.ord 4 [1, 2, 3, 0]
  dsimp only [pick, nthO, dropO] at h
  have e1 : rsd x.r.toRl = rsd x.r.toRl.ticked := by rw [rsd, rsd, (ticked_same _).1]
  have e2 : rcd x.r.toRl = rcd x.r.toRl.ticked := by rw [rcd, rcd, (ticked_same _).2]
  rw [e1, e2] at h
  exact h
theorem told_en {bb : Nat} {x : En} {o o2 : Sl} {gs gw : List Sg} (h : St w0 w (outE o gs :: outD gs :: enG bb x F)) (hI : ShI x.L x.g) (r2 : SeesG w0 F o2 5 (gw.flatMap sgv)) (s2 : ∀ g ∈ gw, SeesG w0 F g.d.1 1 (bys g.d.2)) (hg : gs.map Sg.pl = gw.map Sg.pl) (hl : gs.length ≤ 1000) (hlen : ∀ g ∈ gs, g.d.2.length ≤ 4000) (hfew : x.L.length ≤ 900000) :
    CallK Try.prog .bool 46 #[.pointer (some ⟨x.xb, 0, none⟩), .slice o.a o.len o.cap, .slice o2.a o2.len o2.cap] w
    fun (v : Bool) w' => v = true ∧ ∃ ls' L' g', ShI L' g' ∧ L'.length = x.L.length + gs.length ∧ St w0 w' (enG bb { x with ls := ls', L := L', g := g' } F) := by
  have h := h.ord 11 [0, 1, 8, 9, 10, 2, 3, 4, 5, 6, 7]
  dsimp only [enG, pick, nthO, dropO] at h
  refine (told_st (x := x) h hI (sup (sup (sup (sup (sup (sup r2)))))) (fun g hg => sup (sup (sup (sup (sup (sup (s2 g hg))))))) hg hl hlen hfew).mono ?_
  rintro v w1 ⟨hv, ls', L', g', hS, hL, h⟩
  have h := h.ord 9 [3, 4, 5, 6, 7, 8, 0, 1, 2]
  dsimp only [pick, nthO, dropO] at h
  exact ⟨hv, ls', L', g', hS, hL, h⟩
theorem pl_lens {gs : List Sg} {e : Lk} {ps : List Pc} (h : gs.map Sg.pl = e.tells ps) (hp : ∀ p ∈ ps, p.2.2.length ≤ 4000) : ∀ g ∈ gs, g.d.2.length ≤ 4000 := by
  intro g hg
  have : g.pl ∈ e.tells ps := h ▸ List.mem_map.2 ⟨g, hg, rfl⟩
  obtain ⟨p, hpm, he⟩ := List.mem_map.1 this
  have : p.2.2 = g.d.2 := congrArg (fun z : Pl => z.2.2.2.2) he
  rw [← this]; exact hp p hpm
theorem pl_lens2 {gs gw : List Sg} (h : gs.map Sg.pl = gw.map Sg.pl) (hg : ∀ g ∈ gs, g.d.2.length ≤ 4000) : ∀ g ∈ gw, g.d.2.length ≤ 4000 := by
  intro g hgm
  have : g.pl ∈ gs.map Sg.pl := h ▸ List.mem_map.2 ⟨g, hgm, rfl⟩
  obtain ⟨p, hpm, he⟩ := List.mem_map.1 this
  have : p.d.2 = g.d.2 := congrArg (fun z : Pl => z.2.2.2.2) he
  rw [← this]; exact hg p hpm
theorem outs_lens {e : Lk} (hw : e.wf) : (∀ p ∈ e.outs, p.2.2.length ≤ 4000) ∧ e.outs.length ≤ 40 := by
  have h1 := hw.cnt; have h2 := hw.win
  refine ⟨fun p hp => ?_, ?_⟩
  · rcases List.mem_append.1 hp with hp | hp
    · rcases List.mem_append.1 hp with hp | hp
      · split at hp
        · simp at hp; subst hp; exact Nat.zero_le _
        · cases hp
      · split at hp
        · exact hw.lens p (List.mem_append_left _ hp)
        · cases hp
    · exact hw.lens p (List.mem_append_right _ hp)
  · simp only [Lk.outs, List.length_append]
    split <;> split <;> simp <;> omega
/-- One more answer of segments. -/
theorem seg_add {bb : Nat} {bs : Sl} {y : Bk} {o o2 : Sl} {gs gw : List Sg} (h : St w0 w (bkE bb bs (y.A.map An.hd ++ [(o, o2, ⟨none, 0, 0⟩)]) y.n :: y.A.map An.lr :: y.A.map An.ur :: (y.A.flatMap An.ds).map brow :: y.H :: outE o gs :: outD gs :: F)) :
    St w0 w (bkG bb ⟨bs, y.n, y.A ++ [⟨o, o2, ⟨none, 0, 0⟩, gs, gw, []⟩], y.H⟩ F) := by
  let a : An := ⟨o, o2, ⟨none, 0, 0⟩, gs, gw, []⟩
  have h := h.nilrow 45 1
  have h := St.empty.2 h
  have h := h.ord 9 [2, 7, 3, 1, 4, 8, 5, 0, 6]
  dsimp only [pick, nthO, dropO] at h
  have e : outD gs = a.ds.map brow := by simp [outD, a, An.ds]
  rw [e] at h
  have h : St w0 w (bkE bb bs (y.A.map An.hd ++ [a.hd]) y.n :: [a.lr] :: y.A.map An.lr :: [a.ur] :: y.A.map An.ur :: a.ds.map brow :: (y.A.flatMap An.ds).map brow :: [] :: y.H :: F) := h
  have h := book_add h
  rw [List.append_nil] at h
  exact h
theorem seg_I {H : List Ent} {o o2 : Sl} {gs gw : List Sg} (hg : gs.map Sg.pl = gw.map Sg.pl) (hl : gs.length ≤ 1000) (hlen : ∀ g ∈ gs, g.d.2.length ≤ 4000) (r : SeesX w0 H o2 5 (gw.flatMap sgv)) (s : ∀ g ∈ gw, SeesX w0 H g.d.1 1 (bys g.d.2)) : AnI w0 H ⟨o, o2, ⟨none, 0, 0⟩, gs, gw, []⟩ :=
  ⟨hg, r, s, hl, Nat.zero_le _, hlen, .inl ⟨rfl, rfl⟩⟩
theorem BkI.add0 {n : Nat} {bs : Sl} {y : Bk} (h : BkI w0 n y) (hf : y.A.length < 120) {a : An} (ha : AnI w0 y.H a) : BkI w0 n ⟨bs, y.n, y.A ++ [a], y.H⟩ := by
  refine ⟨by simp; omega, h.nn, fun b hb => ?_⟩
  rcases List.mem_append.1 hb with hb | hb
  · exact h.ok b hb
  · simp at hb; subst hb; exact ha
theorem outH {o : Sl} {gs : List Sg} (H : List Ent) : SeesX w0 (H ++ (outE o gs ++ outD gs)) o 5 (gs.flatMap sgv) ∧ ∀ g ∈ gs, SeesX w0 (H ++ (outE o gs ++ outD gs)) g.d.1 1 (bys g.d.2) :=
  ⟨SeesX.late (SeesX.more (SeesX.row (E := 62) (List.mem_cons_self ..))), fun g hg => SeesX.late (SeesX.late (SeesX.rowB (List.mem_map.2 ⟨g, hg, rfl⟩)))⟩
end Go.Proofs.Ytodgnpmljdopiaa

/- One call, at both: they answer alike. -/
namespace Go.Proofs.Ytodgnpmljdopiaa
open Go Go.Fw Go.RowKit
set_option linter.unusedVariables false
set_option linter.unusedSimpArgs false
set_option maxRecDepth 4000
set_option maxHeartbeats 8000000
variable {w0 w : World} {F G : Grps}

/-- A call of a script. -/
structure Cl where
  kind : Int
  who : Int
  a : Int
  d : Bs
  s : Sg
def clv (o : Cl) : List Value := [.int .i64 o.kind, .int .i64 o.who, .int .i64 o.a, sv o.d.1, .int .i64 o.s.fr, .int .i64 o.s.to, .int .i64 o.s.seq, .int .i64 o.s.ack, sv o.s.d.1]
theorem clv_len (o : Cl) : (clv o).length = 9 := rfl
def clt (o : Cl) : (Int × Int × Int × Sl × Int × Int × Int × Int × Sl × Unit) := (o.kind, o.who, o.a, o.d.1, o.s.fr, o.s.to, o.s.seq, o.s.ack, o.s.d.1, ())
structure Cl.ok (w0 : World) (o : Cl) : Prop where
  kind : -9223372036854775808 ≤ o.kind ∧ o.kind ≤ 9223372036854775807
  who : -9223372036854775808 ≤ o.who ∧ o.who ≤ 9223372036854775807
  a : -9223372036854775808 ≤ o.a ∧ o.a ≤ 9223372036854775807
  dl : o.d.2.length ≤ 140737488351232
  sl : o.s.d.2.length ≤ 140737488351232
  d : Rd w0 o.d.1 1 (bys o.d.2)
  s : Rd w0 o.s.d.1 1 (bys o.s.d.2)
structure Ws where
  x : En
  y : Bk
  ps : Sl
  pool : List Sg
def wsG (bb pb : Nat) (z : Ws) (F : Grps) : Grps := enG bb z.x (bkG bb z.y (plE pb z.ps z.pool :: F))
structure WsI (w0 : World) (n : Nat) (z : Ws) : Prop where
  en : EnI n z.x
  bk : BkI w0 n z.y
  pl : z.pool.length ≤ 400
  sees : ∀ g ∈ z.pool, SeesX w0 z.y.H g.d.1 1 (bys g.d.2) ∧ g.d.2.length ≤ 4000
theorem WsI.mono {n m : Nat} {z : Ws} (h : WsI w0 n z) (hm : n ≤ m) : WsI w0 m z := ⟨h.en.mono hm, h.bk.mono hm, h.pl, h.sees⟩
/-- What a call leaves. -/
def Now (w0 : World) (bb pb xb n : Nat) (c : Ent) (F : Grps) (w : World) : Prop := ∃ z, z.x.xb = xb ∧ WsI w0 n z ∧ St w0 w ([c] :: wsG bb pb z F)
theorem takes_now {n bb pb : Nat} {z : Ws} {c : Ent} {g : Sg} (h : St w0 w ([c] :: wsG bb pb z F)) (hI : WsI w0 n z) (hn : n ≤ 4000) (hp : SeesX w0 z.y.H g.d.1 1 (bys g.d.2)) (hl : g.d.2.length ≤ 140737488351232) :
    CallK Try.prog .bool 39 #[.pointer (some ⟨z.x.xb, 0, none⟩), .agg #[.int .i64 g.fr, .int .i64 g.to, .int .i64 g.seq, .int .i64 g.ack, .slice g.d.1.a g.d.1.len g.d.1.cap]] w
    fun (v : Bool) w' => v = true ∧ Now w0 bb pb z.x.xb (n + 4) c F w' := by
  have h := h.ord 16 [1, 2, 3, 4, 5, 6, 7, 8, 9, 10, 11, 12, 13, 14, 15, 0]
  dsimp only [wsG, enG, bkG, pick, nthO, dropO] at h
  refine (takes_st (x := z.x) (y := z.y) h hI.en hI.bk hn hp hl).mono ?_
  rintro v w1 ⟨hv, x', y', _, _, _, hxb, hE, hB, ⟨m, hm⟩, h⟩
  have h := h.ord 16 [15, 0, 1, 2, 3, 4, 5, 6, 7, 8, 9, 10, 11, 12, 13, 14]
  dsimp only [enG, bkG, pick, nthO, dropO] at h
  refine ⟨hv, ⟨x', y', z.ps, z.pool⟩, hxb, ⟨hE.mono (by omega), hB.mono (by omega), hI.pl, fun q hq => ?_⟩, h⟩
  have := hI.sees q hq
  exact ⟨by show SeesX w0 y'.H _ _ _; rw [hm]; exact this.1.more, this.2⟩
theorem send_now {n bb pb : Nat} {z : Ws} {o : Cl} {c4 : Nat} (h : St w0 w ([.cel c4 86 (clv o)] :: wsG bb pb z F)) (hI : WsI w0 n z) (hn : n ≤ 4000) (ho : o.ok w0) {K : Bool × Unit → World → Prop}
    (hk : ∀ w', Now w0 bb pb z.x.xb (n + 4) (.cel c4 86 (clv o)) F w' → K (true, ()) w') :
    RunN Try.prog .sl (V (Instr.loadAt 45 (.pointer (some ((⟨c4, 0, none⟩ : Addr).add 3))))) w fun t21 w =>
      CallK Try.prog .sl 24 #[.slice t21.a t21.len t21.cap] w fun t22 w =>
      NilP (some ⟨z.x.xb, 0, none⟩) fun t24 =>
      ReadN Try.prog .ptr (V (Instr.loadAt 26 (.pointer (some (t24.add 0))))) w.drew fun t26 =>
      ReadN Try.prog .sl (V (Instr.loadAt 45 (.pointer (some ((⟨c4, 0, none⟩ : Addr).add 3))))) w.drew fun t29 =>
      ReadN Try.prog .sl (V (Instr.sliceAt 45 (.slice t22.a t22.len t22.cap) none (some (.int .i64 (t29.len : Int))) none)) w.drew fun t31 =>
      CallK Try.prog (.int .i64) 23 #[.pointer t26, .slice t31.a t31.len t31.cap] w.drew fun t32 w =>
      NilP (some ⟨z.x.xb, 0, none⟩) fun t34 =>
      ReadN Try.prog .ptr (V (Instr.loadAt 27 (.pointer (some (t34.add 1))))) w.drew fun t36 =>
      ReadN Try.prog .sl (V (Instr.loadAt 45 (.pointer (some ((⟨c4, 0, none⟩ : Addr).add 3))))) w.drew fun t38 =>
      CallK Try.prog (.int .i64) 37 #[.pointer t36, .slice t38.a t38.len t38.cap] w.drew fun t39 w =>
      RunN Try.prog .sl (V (Instr.loadAt 45 (.pointer (some ((⟨c4, 0, none⟩ : Addr).add 3))))) w fun t42 w =>
      CallK Try.prog .bool 38 #[.slice t22.a t22.len t22.cap, .slice t42.a t42.len t42.cap] w fun t43 w =>
      SplitB t43
        (K ((t32 : Int) == t39, ()) w)
        (K (false, ()) w) := by
  have hdl : o.d.1.len = o.d.2.length := ho.d.bys_len
  have hE := hI.en
  have hlr := hE.lr
  have hlen := ho.dl
  refine h.loadB 0 0 ⟨_, rfl, rfl⟩ rfl (kd := .sl) (x := o.d.1) rfl ?_
  refine (lend_st h (p := o.d.1) (l := o.d.2) (fun w h => h.old ho.d) hlen).mono ?_
  intro t w1 ⟨htl, h⟩
  refine NilP.mk ?_
  refine h.drew.readB 10 0 ⟨_, rfl, rfl⟩ rfl (kd := .ptr) (x := z.x.e.p) rfl ?_
  refine h.drew.readB 1 0 ⟨_, rfl, rfl⟩ rfl (kd := .sl) (x := o.d.1) rfl ?_
  refine ReadN.sH o.d.2.length (by rw [hdl]) (by have := (h.drew.rd (k := 0) (i := 0) (E := 5) (sz := 1) (s := t) (vs := bys (o.d.2 ++ mks)) ⟨_, rfl, rfl⟩).2.2; omega) ?_
  have h := h.drew.ord 4 [2, 3, 0, 1]
  dsimp only [wsG, enG, pick, nthO, dropO] at h
  refine (send_st h hE.we (lent_sees htl) hlen).mono ?_
  intro (v : Int) w2 ⟨hv, hno, hyes⟩
  have hU : ∃ e' : Lm, e'.cb = z.x.e.cb ∧ e'.wf ∧ (v ≠ 0 ∧ e' = z.x.e ∨ v = 0 ∧ ∃ s, e' = z.x.e.sent s o.d.2) ∧ ups e'.ea = ups z.x.e.ea ∧
      St w0 w2 (lmE e' :: dat e'.toLk :: [brow (t, o.d.2 ++ mks)] :: [.cel c4 86 (clv o)] :: ups z.x.e.ea :: rmE 115 z.x.r :: rsd z.x.r.toRl :: rcd z.x.r.toRl :: shE z.x.sb z.x.ls z.x.L :: z.x.g :: [endC z.x.xb z.x.e z.x.r.rb z.x.sb bb] :: bkG bb z.y (plE pb z.ps z.pool :: F)) := by
    by_cases hz : v = 0
    · obtain ⟨s, h⟩ := hyes hz
      exact ⟨z.x.e.sent s o.d.2, rfl, sent_wf hE.we s (by rw [← hv, hz]), .inr ⟨hz, s, rfl⟩, rfl, h⟩
    · exact ⟨z.x.e, rfl, hE.we, .inl ⟨hz, rfl⟩, rfl, hno hz⟩
  clear h hno hyes
  obtain ⟨e', hcb, hwf', hcase, hups, h⟩ := hU
  refine NilP.mk ?_
  refine h.drew.readB 10 0 ⟨_, rfl, rfl⟩ rfl (kd := .ptr) (x := some ⟨z.x.r.rb, 0, none⟩) rfl ?_
  refine h.drew.readB 3 0 ⟨_, rfl, rfl⟩ rfl (kd := .sl) (x := o.d.1) rfl ?_
  have h := h.drew.ord 7 [5, 6, 0, 1, 2, 3, 4]
  dsimp only [pick, nthO, dropO] at h
  refine (rsend_st (r := z.x.r) h (hE.wr (by omega)) (p := o.d.1) (l := o.d.2) (fun w h => h.old ho.d)).mono ?_
  intro (f : Int) w3 ⟨hf, hno, hyes⟩
  have hvf : v = f := by rw [hv, hf]; exact hlr.refuse o.d.2
  have hV : ∃ r' : Rm, r'.rb = z.x.r.rb ∧ LRel e'.toLk r'.toRl ∧ r'.came = z.x.r.came ∧ r'.sent.length ≤ n + 1 ∧ (∀ b ∈ r'.sent, b.2.length ≤ 4000) ∧
      St w0 w3 (rmE 115 r' :: rsd r'.toRl :: lmE e' :: dat e'.toLk :: [brow (t, o.d.2 ++ mks)] :: [.cel c4 86 (clv o)] :: ups z.x.e.ea :: rcd z.x.r.toRl :: shE z.x.sb z.x.ls z.x.L :: z.x.g :: [endC z.x.xb z.x.e z.x.r.rb z.x.sb bb] :: bkG bb z.y (plE pb z.ps z.pool :: F)) := by
    rcases hcase with ⟨hz, rfl⟩ | ⟨hz, s, rfl⟩
    · exact ⟨z.x.r, rfl, hlr, rfl, by have := hE.sl; omega, hE.lens, hno (by rw [← hvf]; exact hz)⟩
    · obtain ⟨s2, ss, h⟩ := hyes (by rw [← hvf]; exact hz)
      have href := refuse_zero (show z.x.e.refuse o.d.2 = 0 by rw [← hv, hz])
      refine ⟨{ z.x.r with sent := z.x.r.sent ++ [(s2, o.d.2)], ss := ss }, rfl, hlr.send s s2 o.d.2, rfl, by have := hE.sl; simp; omega, fun b hb => ?_, h⟩
      rcases List.mem_append.1 hb with hb | hb
      · exact hE.lens b hb
      · simp at hb; subst hb; exact href.1
  clear h hno hyes hcase
  obtain ⟨r', hrb, hlr', hrc, hsl', hlens', h⟩ := hV
  refine h.loadB 5 0 ⟨_, rfl, rfl⟩ rfl (kd := .sl) (x := o.d.1) rfl ?_
  have h := h.ord 7 [4, 5, 2, 3, 6, 0, 1]
  dsimp only [pick, nthO, dropO] at h
  refine (kept_st h (p := o.d.1) (l := o.d.2) (fun w h => h.old ho.d) (by omega)).mono ?_
  intro (kv : Bool) w4 ⟨hkv, l', hl', h⟩
  have h := h.drop 0
  dsimp only [delO] at h
  rw [hkv, SplitB_iff]
  refine ⟨fun _ => ?_, fun hf => (by cases hf)⟩
  have hb : ((v : Int) == f) = true := by rw [hvf]; simp
  rw [hb]
  have e1 : rcd z.x.r.toRl = rcd r'.toRl := by rw [rcd, rcd, hrc]
  have e2 : endC z.x.xb z.x.e z.x.r.rb z.x.sb bb = endC z.x.xb e' r'.rb z.x.sb bb := by rw [endC, endC, Lm.p, Lm.p, hcb, hrb]
  rw [e1, e2, ← hups] at h
  refine hk _ ⟨{ z with x := z.x.withE e' r' }, rfl, ⟨⟨hwf', hlr', hE.sh, ?_, ?_, ?_, ?_, hlens', ?_⟩, hI.bk.mono (by omega), hI.pl, hI.sees⟩, h⟩
  · show ∀ p ∈ r'.came, _
    rw [hrc]; exact hE.cs
  · show r'.came.length ≤ _
    rw [hrc]; have := hE.cl; omega
  · show r'.sent.length ≤ _
    omega
  · show z.x.L.length ≤ _
    have := hE.Ll; omega
  · show ∀ p ∈ r'.came, _
    rw [hrc]; exact hE.clens
end Go.Proofs.Ytodgnpmljdopiaa

/- What goes out, and what is not acknowledged, at both: alike, kept or written over. -/
namespace Go.Proofs.Ytodgnpmljdopiaa
open Go Go.Fw Go.RowKit
set_option linter.unusedVariables false
set_option linter.unusedSimpArgs false
set_option maxRecDepth 4000
set_option maxHeartbeats 8000000
variable {w0 w : World} {F G : Grps}

theorem out_now {n bb pb : Nat} {z : Ws} {c : Ent} (h : St w0 w ([c] :: wsG bb pb z F)) (hI : WsI w0 n z) (hn : n ≤ 4000) {K : Bool × Unit → World → Prop}
    (hk : ∀ w', Now w0 bb pb z.x.xb (n + 4) c F w' → K (true, ()) w') :
    NilP (some ⟨z.x.xb, 0, none⟩) fun t70 =>
    RunN Try.prog .ptr (V (Instr.loadAt 27 (.pointer (some (t70.add 1))))) w fun t72 w =>
    CallK Try.prog .sl 41 #[.pointer t72] w fun t73 w =>
    CallK Try.prog (.tup .nilT) 42 #[.pointer (some ⟨pb, 0, none⟩), .slice t73.a t73.len t73.cap] w fun t76 w =>
    NilP (some ⟨z.x.xb, 0, none⟩) fun t78 =>
    RunN Try.prog .ptr (V (Instr.loadAt 26 (.pointer (some (t78.add 0))))) w fun t80 w =>
    CallK Try.prog .sl 13 #[.pointer t80] w fun t81 w =>
    NilP (some ⟨z.x.xb, 0, none⟩) fun t83 =>
    RunN Try.prog .ptr (V (Instr.loadAt 29 (.pointer (some (t83.add 3))))) w fun t85 w =>
    CallK Try.prog .bool 43 #[.pointer t85] w fun t86 w =>
    SplitB t86
      (NilP (some ⟨z.x.xb, 0, none⟩) fun t88 =>
      RunN Try.prog .ptr (V (Instr.loadAt 29 (.pointer (some (t88.add 3))))) w fun t90 w =>
      CallK Try.prog (.tup .nilT) 44 #[.pointer t90, .slice t81.a t81.len t81.cap, .slice t73.a t73.len t73.cap] w fun t93 w =>
      CallK Try.prog .bool 45 #[.slice t81.a t81.len t81.cap, .slice t73.a t73.len t73.cap] w fun t96 w =>
      K (t96, ()) w)
      (CallK Try.prog .bool 46 #[.pointer (some ⟨z.x.xb, 0, none⟩), .slice t81.a t81.len t81.cap, .slice t73.a t73.len t73.cap] w fun t100 w =>
      K (t100, ()) w) := by
  have hE := hI.en
  have hlr := hE.lr
  have houts := hlr.outs hE.we
  have hol := outs_lens hE.we
  refine NilP.mk ?_
  refine h.loadB 9 0 ⟨_, rfl, rfl⟩ rfl (kd := .ptr) (x := some ⟨z.x.r.rb, 0, none⟩) rfl ?_
  have h := h.ord 16 [1, 2, 3, 4, 5, 6, 7, 8, 9, 0, 10, 11, 12, 13, 14, 15]
  dsimp only [wsG, enG, bkG, pick, nthO, dropO] at h
  refine (rout_en (x := z.x) h (hE.wr (by omega))).mono ?_
  rintro o2 w1 ⟨gw, hgw, ho2, h⟩
  have hgwl : gw.length ≤ 40 := by
    have := congrArg List.length hgw
    rw [← houts, List.length_map, Lk.tells, List.length_map] at this
    have := hol.2; omega
  have h := h.ord 18 [17, 0, 1, 2, 3, 4, 5, 6, 7, 8, 9, 10, 11, 12, 13, 14, 15, 16]
  dsimp only [enG, pick, nthO, dropO] at h
  refine (add_st h (rowG (E := 62) 0 rfl (List.mem_cons_self ..)) (gs := gw) (by omega) hI.pl).mono ?_
  rintro _ w2 ⟨ps', more, hmore, hpl', h⟩
  -- what was told by the document is held from now on
  have hH := outH (w0 := w0) (o := o2) (gs := gw) z.y.H
  have h : St w0 w2 ([c] :: enG bb (z.x.withE z.x.e { z.x.r with toRl := z.x.r.toRl.outed }) (bkG bb { z.y with H := z.y.H ++ (outE o2 gw ++ outD gw) } (plE pb ps' (z.pool ++ more) :: F))) := by
    have h := h.ord 18 [12, 3, 4, 5, 6, 7, 8, 9, 10, 11, 13, 14, 15, 16, 17, 1, 2, 0]
    dsimp only [pick, nthO, dropO] at h
    exact h.perm (by simp only [List.flatten_cons, List.append_assoc, enG, bkG]; exact .refl _)
  refine NilP.mk ?_
  refine h.loadB 9 0 ⟨_, rfl, rfl⟩ rfl (kd := .ptr) (x := z.x.e.p) rfl ?_
  have h := h.ord 16 [1, 2, 3, 4, 5, 6, 7, 8, 9, 0, 10, 11, 12, 13, 14, 15]
  dsimp only [enG, bkG, pick, nthO, dropO] at h
  refine (out_en (x := z.x.withE z.x.e { z.x.r with toRl := z.x.r.toRl.outed }) h hE.we).mono ?_
  rintro o w3 ⟨us, gs, hgs, ho, h⟩
  have hgs : gs.map Sg.pl = z.x.e.tells z.x.e.outs := hgs
  have hgg : gs.map Sg.pl = gw.map Sg.pl := by rw [hgs, hgw, houts]
  have hgsl : gs.length ≤ 40 := by
    have := congrArg List.length hgg
    rw [List.length_map, List.length_map] at this; omega
  have hlen := pl_lens hgs hol.1
  have hlenw := pl_lens2 hgg hlen
  let x1 : En := z.x.withE (z.x.e.outed us) { z.x.r with toRl := z.x.r.toRl.outed }
  let y1 : Bk := { z.y with H := z.y.H ++ (outE o2 gw ++ outD gw) }
  have hE1 : EnI (n + 1) x1 := ⟨outed_wf hE.we us, hlr.outed hE.we us, hE.sh, hE.cs, by have := hE.cl; show z.x.r.came.length ≤ _; omega, by have := hE.sl; show z.x.r.sent.length ≤ _; omega, by have := hE.Ll; show z.x.L.length ≤ _; omega, hE.lens, hE.clens⟩
  have hB1 : BkI w0 n y1 := hI.bk.keep _
  have hP1 : ∀ g ∈ z.pool ++ more, SeesX w0 y1.H g.d.1 1 (bys g.d.2) ∧ g.d.2.length ≤ 4000 := fun g hg => by
    rcases List.mem_append.1 hg with hg | hg
    · exact ⟨(hI.sees g hg).1.more, (hI.sees g hg).2⟩
    · exact ⟨hH.2 g (hmore g hg), hlenw g (hmore g hg)⟩
  have h : St w0 w3 (outE o gs :: outD gs :: enG bb x1 ([c] :: bkG bb y1 (plE pb ps' (z.pool ++ more) :: F))) := h
  refine NilP.mk ?_
  refine h.loadB 10 0 ⟨_, rfl, rfl⟩ rfl (kd := .ptr) (x := some ⟨bb, 0, none⟩) rfl ?_
  have h := h.ord 18 [12, 0, 1, 2, 3, 4, 5, 6, 7, 8, 9, 10, 11, 13, 14, 15, 16, 17]
  dsimp only [enG, bkG, pick, nthO, dropO] at h
  refine (turn_st h (by show z.y.n ≤ _; have := hI.bk.nn; omega)).mono ?_
  intro (tv : Bool) w4 ⟨htv, h⟩
  rw [List.length_map] at htv
  rw [SplitB_iff]
  refine ⟨fun ht => ?_, fun _ => ?_⟩
  · have hA := htv ht
    refine NilP.mk ?_
    refine h.loadB 11 0 ⟨_, rfl, rfl⟩ rfl (kd := .ptr) (x := some ⟨bb, 0, none⟩) rfl ?_
    refine (segments_st h (by rw [List.length_map]; exact Nat.le_trans (Nat.le_of_lt hA) (by decide)) o o2).mono ?_
    rintro _ w5 (⟨_, bs', h⟩ | ⟨hh, _⟩)
    rotate_left
    · rw [List.length_map] at hh
      have hA : z.y.A.length < 120 := hA
      have hh : 120 ≤ z.y.A.length := hh
      omega
    refine (all_st h (rowG (E := 62) 1 rfl (List.mem_cons_self ..)) (hH.1.at 16 rfl) (fun g hg => rowG (E := 5) 2 rfl (List.mem_map.2 ⟨g, hg, rfl⟩)) (fun g hg => (hH.2 g hg).at 16 rfl) hgg (by omega)).mono ?_
    intro (v : Bool) w6 ⟨hv, h⟩
    rw [hv]
    have h := h.ord 17 [0, 13, 14, 15, 16, 1, 2, 12, 3, 4, 5, 6, 7, 8, 9, 10, 11]
    dsimp only [pick, nthO, dropO] at h
    have h := seg_add (y := { y1 with n := z.y.n + 1 }) (gw := gw) h
    have h := h.ord 15 [5, 6, 7, 8, 9, 10, 11, 12, 13, 14, 0, 1, 2, 3, 4]
    dsimp only [bkG, pick, nthO, dropO] at h
    have hB2 : BkI w0 (n + 1) { y1 with n := z.y.n + 1 } := ⟨hB1.few, by have := hI.bk.nn; show z.y.n + 1 ≤ n + 1; omega, hB1.ok⟩
    let a : An := ⟨o, o2, ⟨none, 0, 0⟩, gs, gw, []⟩
    let z2 : Ws := ⟨x1, ⟨bs', z.y.n + 1, z.y.A ++ [a], z.y.H ++ (outE o2 gw ++ outD gw)⟩, ps', z.pool ++ more⟩
    refine hk _ ⟨z2, rfl, ⟨hE1.mono (by omega), (hB2.add0 hA (seg_I hgg (by omega) hlen hH.1 hH.2)).mono (by omega), by rw [List.length_append]; exact hpl', hP1⟩, h⟩
  · have h := h.ord 18 [1, 2, 3, 4, 5, 6, 7, 8, 9, 10, 11, 12, 0, 13, 14, 15, 16, 17]
    dsimp only [pick, nthO, dropO] at h
    refine (told_en (x := x1) h hE.sh (hH.1.at 5 rfl) (fun g hg => (hH.2 g hg).at 5 rfl) hgg (by omega) hlen (by have := hE.Ll; show z.x.L.length ≤ _; omega)).mono ?_
    rintro v w5 ⟨hv, ls', L', g', hS, hL, h⟩
    have hv : v = true := hv
    rw [hv]
    have h := h.ord 10 [9, 0, 1, 2, 3, 4, 5, 6, 7, 8]
    dsimp only [enG, pick, nthO, dropO] at h
    refine hk _ ⟨⟨{ x1 with ls := ls', L := L', g := g' }, { y1 with n := z.y.n + 1 }, ps', z.pool ++ more⟩, rfl, ⟨⟨hE1.we, hE1.lr, hS, hE1.cs, Nat.le_trans hE1.cl (by omega), Nat.le_trans hE1.sl (by omega), ?_, hE1.lens, hE1.clens⟩, ⟨hB1.few, by have := hI.bk.nn; show z.y.n + 1 ≤ n + 4; omega, hB1.ok⟩, by rw [List.length_append]; exact hpl', hP1⟩, h⟩
    show L'.length ≤ _
    have hL : L'.length = z.x.L.length + gs.length := hL
    have := hE.Ll; omega
theorem unders_lens {e : Lk} (hw : e.wf) : (∀ p ∈ e.un, p.2.2.length ≤ 4000) ∧ e.un.length ≤ 16 :=
  ⟨fun p hp => hw.lens p (List.mem_append_left _ hp), by have h1 := hw.cnt; have h2 := hw.win; omega⟩
theorem under_now {n bb pb : Nat} {z : Ws} {c : Ent} (h : St w0 w ([c] :: wsG bb pb z F)) (hI : WsI w0 n z) (hn : n ≤ 4000) {K : Bool × Unit → World → Prop}
    (hk : ∀ w', Now w0 bb pb z.x.xb (n + 4) c F w' → K (true, ()) w') :
    NilP (some ⟨z.x.xb, 0, none⟩) fun t104 =>
    RunN Try.prog .ptr (V (Instr.loadAt 26 (.pointer (some (t104.add 0))))) w fun t106 w =>
    CallK Try.prog .sl 14 #[.pointer t106] w fun t107 w =>
    NilP (some ⟨z.x.xb, 0, none⟩) fun t109 =>
    RunN Try.prog .ptr (V (Instr.loadAt 26 (.pointer (some (t109.add 0))))) w fun t111 w =>
    CallK Try.prog .sl 14 #[.pointer t111] w fun t112 w =>
    NilP (some ⟨z.x.xb, 0, none⟩) fun t114 =>
    ReadN Try.prog .ptr (V (Instr.loadAt 29 (.pointer (some (t114.add 3))))) w.drew fun t116 =>
    NilP (some ⟨z.x.xb, 0, none⟩) fun t118 =>
    ReadN Try.prog .ptr (V (Instr.loadAt 26 (.pointer (some (t118.add 0))))) w.drew fun t120 =>
    NilP (some ⟨z.x.xb, 0, none⟩) fun t123 =>
    ReadN Try.prog .ptr (V (Instr.loadAt 27 (.pointer (some (t123.add 1))))) w.drew fun t125 =>
    CallK Try.prog .sl 14 #[.pointer t120] w.drew fun t121 w =>
    StillV Try.prog (V (Instr.loadAt 27 (.pointer (some (t123.add 1))))) (.pointer t125) w ∧
    StillV Try.prog (V (Instr.loadAt 29 (.pointer (some (t114.add 3))))) (.pointer t116) w ∧
    CallK Try.prog .sl 47 #[.pointer t125] w fun t126 w =>
    StillV Try.prog (V (Instr.loadAt 29 (.pointer (some (t114.add 3))))) (.pointer t116) w ∧
    CallK Try.prog (.tup .nilT) 44 #[.pointer t116, .slice t121.a t121.len t121.cap, .slice t126.a t126.len t126.cap] w fun t127 w =>
    NilP (some ⟨z.x.xb, 0, none⟩) fun t131 =>
    RunN Try.prog .ptr (V (Instr.loadAt 27 (.pointer (some (t131.add 1))))) w fun t133 w =>
    CallK Try.prog .sl 47 #[.pointer t133] w fun t134 w =>
    CallK Try.prog .bool 46 #[.pointer (some ⟨z.x.xb, 0, none⟩), .slice t107.a t107.len t107.cap, .slice t134.a t134.len t134.cap] w fun t135 w =>
    NilP (some ⟨z.x.xb, 0, none⟩) fun t139 =>
    RunN Try.prog .ptr (V (Instr.loadAt 27 (.pointer (some (t139.add 1))))) w fun t141 w =>
    CallK Try.prog .sl 47 #[.pointer t141] w fun t142 w =>
    CallK Try.prog .bool 46 #[.pointer (some ⟨z.x.xb, 0, none⟩), .slice t112.a t112.len t112.cap, .slice t142.a t142.len t142.cap] w fun t143 w =>
    SplitB t143
      (K (t135, ()) w)
      (K (false, ()) w) := by
  have hE := hI.en
  have hlr := hE.lr
  have hund := hlr.under hE.we
  have hul := unders_lens hE.we
  have hwr := hE.wr (by omega)
  have hfew : ∀ gs : List Sg, gs.map Sg.pl = z.x.e.tells z.x.e.un → gs.length ≤ 16 := fun gs hg => by
    have := congrArg List.length hg
    rw [List.length_map, Lk.tells, List.length_map] at this
    have := hul.2; omega
  refine NilP.mk ?_
  refine h.loadB 9 0 ⟨_, rfl, rfl⟩ rfl (kd := .ptr) (x := z.x.e.p) rfl ?_
  have h := h.ord 16 [1, 2, 3, 4, 5, 6, 7, 8, 9, 0, 10, 11, 12, 13, 14, 15]
  dsimp only [wsG, enG, bkG, pick, nthO, dropO] at h
  refine (under_en (x := z.x) h hE.we).mono ?_
  rintro o1 w1 ⟨g1, hg1, ho1, h⟩
  refine NilP.mk ?_
  refine h.loadB 10 0 ⟨_, rfl, rfl⟩ rfl (kd := .ptr) (x := z.x.e.p) rfl ?_
  have h := h.ord 11 [2, 3, 4, 5, 6, 7, 8, 9, 10, 0, 1]
  dsimp only [enG, pick, nthO, dropO] at h
  refine (under_en (x := z.x) h hE.we).mono ?_
  rintro o2 w2 ⟨g2, hg2, ho2, h⟩
  refine NilP.mk ?_
  refine h.drew.readB 10 0 ⟨_, rfl, rfl⟩ rfl (kd := .ptr) (x := some ⟨bb, 0, none⟩) rfl ?_
  refine NilP.mk ?_
  refine h.drew.readB 10 0 ⟨_, rfl, rfl⟩ rfl (kd := .ptr) (x := z.x.e.p) rfl ?_
  refine NilP.mk ?_
  refine h.drew.readB 10 0 ⟨_, rfl, rfl⟩ rfl (kd := .ptr) (x := some ⟨z.x.r.rb, 0, none⟩) rfl ?_
  have h := h.drew.ord 11 [2, 3, 4, 5, 6, 7, 8, 9, 10, 0, 1]
  dsimp only [enG, pick, nthO, dropO] at h
  refine (under_en (x := z.x) h hE.we).mono ?_
  rintro o3 w3 ⟨g3, hg3, ho3, h⟩
  refine ⟨h.stillB 10 0 ⟨_, rfl, rfl⟩ rfl rfl, ?_⟩
  refine ⟨h.stillB 10 0 ⟨_, rfl, rfl⟩ rfl rfl, ?_⟩
  have h := h.ord 11 [2, 3, 4, 5, 6, 7, 8, 9, 10, 0, 1]
  dsimp only [enG, pick, nthO, dropO] at h
  refine (runder_en (x := z.x) h hwr).mono ?_
  rintro o4 w4 ⟨gw, hgw, ho4, h⟩
  refine ⟨h.stillB 10 0 ⟨_, rfl, rfl⟩ rfl rfl, ?_⟩
  have hgw : gw.map Sg.pl = z.x.e.tells z.x.e.un := by rw [hgw, hund]
  have hgg : g3.map Sg.pl = gw.map Sg.pl := by rw [hg3, hgw]
  have h3l := hfew g3 hg3
  have hlen3 := pl_lens hg3 hul.1
  have hH := outH (w0 := w0) (o := o4) (gs := gw) z.y.H
  -- order: o4 D4 | end (9) | o3 D3 o2 D2 o1 D1 c | bk(5)
  have h := h.ord 23 [18, 19, 20, 21, 22, 0, 1, 11, 12, 2, 3, 4, 5, 6, 7, 8, 9, 10, 13, 14, 15, 16, 17]
  dsimp only [pick, nthO, dropO] at h
  have h : St w0 w4 (bkE bb z.y.bs (z.y.A.map An.hd) z.y.n :: z.y.A.map An.lr :: z.y.A.map An.ur :: (z.y.A.flatMap An.ds).map brow :: (z.y.H ++ (outE o4 gw ++ outD gw)) :: outE o3 g3 :: outD g3 :: enG bb z.x (outE o2 g2 :: outD g2 :: outE o1 g1 :: outD g1 :: [c] :: plE pb z.ps z.pool :: F)) :=
    h.perm (by simp only [List.flatten_cons, List.append_assoc, enG]; exact .refl _)
  have hAf := hI.bk.few
  refine (segments_st h (by rw [List.length_map]; omega) o3 o4).mono ?_
  rintro _ w5 hS
  let y1 : Bk := { z.y with H := z.y.H ++ (outE o4 gw ++ outD gw) }
  have hB1 : BkI w0 n y1 := hI.bk.keep _
  have hY : ∃ y2, BkI w0 n y2 ∧ y2.H = y1.H ∧ St w0 w5 (enG bb z.x (outE o2 g2 :: outD g2 :: outE o1 g1 :: outD g1 :: [c] :: bkG bb y2 (plE pb z.ps z.pool :: F))) := by
    rcases hS with ⟨hA, bs', h⟩ | ⟨_, h⟩
    · rw [List.length_map] at hA
      have h := seg_add (y := y1) (gw := gw) h
      have h := h.ord 19 [5, 6, 7, 8, 9, 10, 11, 12, 13, 14, 15, 16, 17, 18, 0, 1, 2, 3, 4]
      dsimp only [bkG, enG, pick, nthO, dropO] at h
      let a : An := ⟨o3, o4, ⟨none, 0, 0⟩, g3, gw, []⟩
      let y2 : Bk := ⟨bs', y1.n, y1.A ++ [a], y1.H⟩
      exact ⟨y2, hB1.add0 hA (seg_I hgg (by omega) hlen3 hH.1 hH.2), rfl, h⟩
    · have h := h.ord 21 [7, 8, 9, 10, 11, 12, 13, 14, 15, 16, 17, 18, 19, 20, 0, 1, 2, 3, 4]
      dsimp only [bkG, enG, pick, nthO, dropO] at h
      exact ⟨y1, hB1, rfl, h⟩
  clear h hS
  obtain ⟨y2, hB2, hy2, h⟩ := hY
  refine NilP.mk ?_
  refine h.loadB 8 0 ⟨_, rfl, rfl⟩ rfl (kd := .ptr) (x := some ⟨z.x.r.rb, 0, none⟩) rfl ?_
  refine (runder_en (x := z.x) h hwr).mono ?_
  rintro o5 w6 ⟨gv, hgv, ho5, h⟩
  have hgv : gv.map Sg.pl = z.x.e.tells z.x.e.un := by rw [hgv, hund]
  have h := h.ord 15 [13, 14, 2, 3, 4, 5, 6, 7, 8, 9, 10, 0, 1, 11, 12]
  dsimp only [enG, pick, nthO, dropO] at h
  refine (told_en (x := z.x) h hE.sh (rowG (E := 62) 0 rfl (List.mem_cons_self ..)) (fun g hg => rowG (E := 5) 1 rfl (List.mem_map.2 ⟨g, hg, rfl⟩)) (hg1.trans hgv.symm) (by have := hfew g1 hg1; omega) (pl_lens hg1 hul.1) (by have := hE.Ll; omega)).mono ?_
  rintro v w7 ⟨hv, ls', L', g', hSh, hL, h⟩
  have hv : v = true := hv
  refine NilP.mk ?_
  refine h.loadB 8 0 ⟨_, rfl, rfl⟩ rfl (kd := .ptr) (x := some ⟨z.x.r.rb, 0, none⟩) rfl ?_
  refine (runder_en (x := { z.x with ls := ls', L := L', g := g' }) h hwr).mono ?_
  rintro o6 w8 ⟨gu, hgu, ho6, h⟩
  have hgu : gu.map Sg.pl = z.x.e.tells z.x.e.un := by rw [hund]; exact hgu
  have h := h.ord 15 [13, 14, 2, 3, 4, 5, 6, 7, 8, 9, 10, 0, 1, 11, 12]
  dsimp only [enG, pick, nthO, dropO] at h
  have hL1 := hfew g1 hg1
  have hL2 := hfew g2 hg2
  have hLl := hE.Ll
  refine (told_en (x := { z.x with ls := ls', L := L', g := g' }) h hSh (rowG (E := 62) 0 rfl (List.mem_cons_self ..)) (fun g hg => rowG (E := 5) 1 rfl (List.mem_map.2 ⟨g, hg, rfl⟩)) (hg2.trans hgu.symm) (by omega) (pl_lens hg2 hul.1) (by show L'.length ≤ _; omega)).mono ?_
  rintro v2 w9 ⟨hv2, ls2, L2, g2', hSh2, hL2', h⟩
  have hv2 : v2 = true := hv2
  rw [hv2, hv, SplitB_iff]
  refine ⟨fun _ => ?_, fun hf => (by cases hf)⟩
  have h := h.ord 14 [13, 0, 1, 2, 3, 4, 5, 6, 7, 8]
  dsimp only [enG, pick, nthO, dropO] at h
  have hL2' : L2.length = L'.length + g2.length := hL2'
  refine hk _ ⟨⟨{ z.x with ls := ls2, L := L2, g := g2' }, y2, z.ps, z.pool⟩, rfl, ⟨⟨hE.we, hE.lr, hSh2, hE.cs, Nat.le_trans hE.cl (by omega), Nat.le_trans hE.sl (by omega), by show L2.length ≤ _; omega, hE.lens, hE.clens⟩, hB2.mono (by omega), hI.pl, fun g hg => ?_⟩, h⟩
  have := hI.sees g hg
  exact ⟨by show SeesX w0 y2.H _ _ _; rw [hy2]; exact this.1.more, this.2⟩
end Go.Proofs.Ytodgnpmljdopiaa

/- One call of a script, at both. -/
namespace Go.Proofs.Ytodgnpmljdopiaa
open Go Go.Fw Go.RowKit
set_option linter.unusedVariables false
set_option linter.unusedSimpArgs false
set_option maxRecDepth 4000
set_option maxHeartbeats 8000000
variable {w0 w : World} {F G : Grps}

theorem old_sees {H : List Ent} {p : Sl} {sz : Nat} {vs : List Value} (h : Rd w0 p sz vs) : SeesX w0 H p sz vs := fun w F hs => hs.old h
theorem stands_now {n bb pb xb : Nat} {c : Ent} (h : Now w0 bb pb xb n c F w) {K : Bool → World → Prop} (hk : ∀ w', Now w0 bb pb xb n c F w' → K true w') :
    NilP (some ⟨xb, 0, none⟩) fun t201 =>
      RunN Try.prog .ptr (V (Instr.loadAt 28 (.pointer (some (t201.add 2))))) w fun t203 w =>
      CallK Try.prog .bool 50 #[.pointer t203] w fun t204 w =>
      K t204 w := by
  obtain ⟨z, rfl, hI, h⟩ := h
  refine NilP.mk ?_
  refine h.loadB 9 0 ⟨_, rfl, rfl⟩ rfl (kd := .ptr) (x := some ⟨z.x.sb, 0, none⟩) rfl ?_
  have h := h.ord 9 [7, 8, 0, 1, 2, 3, 4, 5, 6]
  dsimp only [wsG, enG, pick, nthO, dropO] at h
  refine (stands_st h hI.en.sh).mono ?_
  intro v w1 ⟨hv, h⟩
  have hv : v = true := hv
  rw [hv]
  have h := h.ord 9 [2, 3, 4, 5, 6, 7, 8, 0, 1]
  dsimp only [pick, nthO, dropO] at h
  exact hk _ ⟨z, rfl, hI, h⟩
theorem played_st {n bb pb : Nat} {z : Ws} {o : Cl} (h : St w0 w (wsG bb pb z F)) (hI : WsI w0 n z) (hn : n ≤ 4000) (ho : o.ok w0) :
    CallK Try.prog .bool 29 #[.pointer (some ⟨z.x.xb, 0, none⟩), .agg #[.int .i64 o.kind, .int .i64 o.who, .int .i64 o.a, .slice o.d.1.a o.d.1.len o.d.1.cap, .int .i64 o.s.fr, .int .i64 o.s.to, .int .i64 o.s.seq, .int .i64 o.s.ack, .slice o.s.d.1.a o.s.d.1.len o.s.d.1.cap], .pointer (some ⟨pb, 0, none⟩)] w
    fun (v : Bool) w' => v = true ∧ ∃ z', z'.x.xb = z.x.xb ∧ WsI w0 (n + 4) z' ∧ St w0 w' (wsG bb pb z' F) := by
  refine T29.calls (p1 := clt o) ?_
  unfold T29
  refine h.newB run_boxA rfl ?_
  intro c4 w1 h
  have h : St w0 w1 ([.cel c4 86 (clv o)] :: wsG bb pb z F) := h
  refine JoinX.mk (fun (y : Bool × Unit) w' => y.1 = true ∧ Now w0 bb pb z.x.xb (n + 4) (.cel c4 86 (clv o)) F w') ?_ ?_
  · clear h
    rintro ⟨y, ⟨⟩⟩ w2 ⟨hy, h⟩
    dsimp only at hy
    subst hy
    rw [SplitB_iff]
    refine ⟨fun _ => ?_, fun hf => (by cases hf)⟩
    refine stands_now h ?_
    rintro w3 ⟨z', hz', hI', h⟩
    exact ⟨rfl, z', hz', hI', h.drop 0⟩
  intro k hk
  have hk' : ∀ w', Now w0 bb pb z.x.xb (n + 4) (.cel c4 86 (clv o)) F w' → k (true, ()) w' := fun w' h => hk _ _ ⟨rfl, h⟩
  refine h.loadB 0 0 ⟨_, rfl, rfl⟩ rfl (kd := .int .i64) (x := o.kind) rfl ?_
  rw [SplitB_iff]
  refine ⟨fun _ => send_now h hI hn ho hk', fun _ => ?_⟩
  rw [SplitB_iff]
  refine ⟨fun _ => ?_, fun _ => ?_⟩
  · refine RunN.of (kd := Kds) (x := sgt o.s) (h.run_loadA (k := 0) (i := 0) (b := c4) (t := 86) (cs := clv o) ⟨_, rfl, rfl⟩ (t' := 62) (n := 5) (j := 4) rfl (vs := sgv o.s) rfl rfl) ?_
    refine (takes_now h hI hn (old_sees ho.s) ho.sl).mono ?_
    intro v w2 ⟨hv, h⟩
    have hv : v = true := hv
    rw [hv]
    exact hk' _ h
  rw [SplitB_iff]
  refine ⟨fun _ => ?_, fun _ => ?_⟩
  · have hE := hI.en
    refine NilP.mk ?_
    refine h.loadB 9 0 ⟨_, rfl, rfl⟩ rfl (kd := .ptr) (x := z.x.e.p) rfl ?_
    have h := h.ord 16 [1, 2, 3, 4, 5, 6, 7, 8, 9, 0, 10, 11, 12, 13, 14, 15]
    dsimp only [wsG, enG, bkG, pick, nthO, dropO] at h
    refine (tick_en (x := z.x) h hE.we).mono ?_
    intro _ w2 h
    refine NilP.mk ?_
    refine h.loadB 8 0 ⟨_, rfl, rfl⟩ rfl (kd := .ptr) (x := some ⟨z.x.r.rb, 0, none⟩) rfl ?_
    refine (rtick_en (x := z.x.withE z.x.e.tick z.x.r) h (hE.wr (by omega))).mono ?_
    intro _ w3 h
    have h := h.ord 10 [9, 0, 1, 2, 3, 4, 5, 6, 7, 8]
    dsimp only [enG, pick, nthO, dropO] at h
    have ht := ticked_same z.x.r.toRl
    refine hk' _ ⟨⟨z.x.withE z.x.e.tick { z.x.r with toRl := z.x.r.toRl.ticked }, z.y, z.ps, z.pool⟩, rfl, ⟨⟨ticked_wf hE.we, hE.lr.tick hE.we, hE.sh, ?_, ?_, ?_, ?_, ?_, ?_⟩, hI.bk.mono (by omega), hI.pl, hI.sees⟩, h⟩
    · show ∀ p ∈ z.x.r.toRl.ticked.came, _
      rw [ht.2]; exact hE.cs
    · show z.x.r.toRl.ticked.came.length ≤ _
      rw [ht.2]; have := hE.cl; omega
    · show z.x.r.toRl.ticked.sent.length ≤ _
      rw [ht.1]; have := hE.sl; omega
    · show z.x.L.length ≤ _
      have := hE.Ll; omega
    · show ∀ b ∈ z.x.r.toRl.ticked.sent, _
      rw [ht.1]; exact hE.lens
    · show ∀ p ∈ z.x.r.toRl.ticked.came, _
      rw [ht.2]; exact hE.clens
  rw [SplitB_iff]
  refine ⟨fun _ => out_now h hI hn hk', fun _ => ?_⟩
  rw [SplitB_iff]
  refine ⟨fun _ => under_now h hI hn hk', fun _ => ?_⟩
  rw [SplitB_iff]
  refine ⟨fun _ => ?_, fun _ => ?_⟩
  · have hE := hI.en
    have hlr := hE.lr
    refine NilP.mk ?_
    refine h.drew.readB 9 0 ⟨_, rfl, rfl⟩ rfl (kd := .ptr) (x := z.x.e.p) rfl ?_
    refine NilP.mk ?_
    refine h.drew.readB 9 0 ⟨_, rfl, rfl⟩ rfl (kd := .ptr) (x := some ⟨z.x.r.rb, 0, none⟩) rfl ?_
    have h := h.drew.ord 10 [1, 2, 3, 4, 5, 6, 7, 8, 9, 0]
    dsimp only [wsG, enG, pick, nthO, dropO] at h
    refine (next_st (e := z.x.e) h).mono ?_
    intro (a1 : Int) w2 ⟨ha1, h⟩
    refine ⟨h.stillB 8 0 ⟨_, rfl, rfl⟩ rfl rfl, ?_⟩
    have h := h.ord 4 [3, 0, 1, 2]
    dsimp only [pick, nthO, dropO] at h
    refine (rnext_st (r := z.x.r) h).mono ?_
    intro (a2 : Int) w3 ⟨ha2, h⟩
    have h := h.ord 4 [1, 2, 3, 0]
    dsimp only [pick, nthO, dropO] at h
    have e1 : (a1 == a2) = true := by rw [ha1, ha2, hlr.want]; simp
    rw [e1, SplitB_iff]
    refine ⟨fun _ => ?_, fun hf => (by cases hf)⟩
    refine NilP.mk ?_
    refine h.readB 8 0 ⟨_, rfl, rfl⟩ rfl (kd := .ptr) (x := z.x.e.p) rfl ?_
    refine NilP.mk ?_
    refine h.readB 8 0 ⟨_, rfl, rfl⟩ rfl (kd := .ptr) (x := some ⟨z.x.r.rb, 0, none⟩) rfl ?_
    refine (room_st (e := z.x.e) h hE.we).mono ?_
    intro (b1 : Int) w4 ⟨hb1, h⟩
    refine ⟨h.stillB 8 0 ⟨_, rfl, rfl⟩ rfl rfl, ?_⟩
    have h := h.ord 4 [3, 0, 1, 2]
    dsimp only [pick, nthO, dropO] at h
    refine (rroom_st (r := z.x.r) h (hE.wr (by omega))).mono ?_
    intro (b2 : Int) w5 ⟨hb2, h⟩
    have h := h.ord 4 [1, 2, 3, 0]
    dsimp only [pick, nthO, dropO] at h
    have e2 : (b1 == b2) = true := by rw [hb1, hb2, hlr.room]; simp
    rw [e2]
    have h := h.ord 10 [9, 0, 1, 2, 3, 4, 5, 6, 7, 8]
    dsimp only [pick, nthO, dropO] at h
    exact hk' _ ⟨z, rfl, hI.mono (by omega), h⟩
  rw [SplitB_iff]
  refine ⟨fun _ => ?_, fun _ => hk' _ ⟨z, rfl, hI.mono (by omega), h⟩⟩
  have hpsl := out_len (h.rd (k := 15) (i := 1) (E := 62) (sz := 5) (s := z.ps) (vs := z.pool.flatMap sgv) ⟨_, rfl, rfl⟩)
  have hpl := hI.pl
  refine NilP.mk ?_
  refine h.loadB 15 0 ⟨_, rfl, rfl⟩ rfl (kd := .sl) (x := z.ps) rfl ?_
  rw [SplitB_iff]
  refine ⟨fun hc => ?_, fun _ => hk' _ ⟨z, rfl, hI.mono (by omega), h⟩⟩
  have hc : 0 < z.pool.length := by have : (z.ps.len : Int) > 0 := of_decide_eq_true hc
                                    omega
  refine NilP.mk ?_
  refine h.drew.readB 15 0 ⟨_, rfl, rfl⟩ rfl (kd := .sl) (x := z.ps) rfl ?_
  refine h.drew.readB 0 0 ⟨_, rfl, rfl⟩ rfl (kd := .int .i64) (x := o.a) rfl ?_
  refine NilP.mk ?_
  refine h.drew.readB 15 0 ⟨_, rfl, rfl⟩ rfl (kd := .sl) (x := z.ps) rfl ?_
  rw [wr (by omega)]
  refine (within_st h.drew (x := o.a) (lo := 0) (hi := (z.ps.len : Int) - 1) (by decide) (by omega) (by omega) ho.a).mono ?_
  intro (v : Int) w5 ⟨hv, h⟩
  have hin := wi_in (x := o.a) (lo := 0) (hi := (z.ps.len : Int) - 1) (by omega)
  rw [← hv] at hin
  obtain ⟨q, rfl⟩ := Int.eq_ofNat_of_zero_le hin.1
  have hq : q < z.pool.length := by omega
  refine ⟨h.stillB 15 0 ⟨_, rfl, rfl⟩ rfl rfl, ?_⟩
  have hrr := h.rd (k := 15) (i := 1) (E := 62) (sz := 5) (s := z.ps) (vs := z.pool.flatMap sgv) ⟨_, rfl, rfl⟩
  refine hrr.idxR q rfl (by omega) ?_
  intro b0 o0 ha
  refine hrr.elAR ha (q * 5) rfl (kd := Kds) (sgt z.pool[q]) (ds := sgv z.pool[q]) (flat_at sgv_len _ _ hq) ?_
  have hs := hI.sees _ (List.getElem_mem hq)
  refine (takes_now h hI hn hs.1 (by have := hs.2; omega)).mono ?_
  intro v w2 ⟨hv, h⟩
  have hv : v = true := hv
  rw [hv]
  exact hk' _ h
end Go.Proofs.Ytodgnpmljdopiaa

/- The lists around the answers: written over, grown, looked at. Words. -/
namespace Go.Proofs.Ytodgnpmljdopiaa
open Go Go.Fw Go.RowKit
set_option linter.unusedVariables false
set_option linter.unusedSimpArgs false
set_option maxRecDepth 4000
set_option maxHeartbeats 8000000
variable {w0 w : World} {F G : Grps}

instance : Et Try.prog 111 33 1 24 := ⟨ET.of (by kernel_rfl), by decide⟩
instance : Et Try.prog 112 51 1 24 := ⟨ET.of (by kernel_rfl), by decide⟩
instance : NewC Try.prog 101 [.slice none 0 0, .slice none 0 0, .slice none 0 0] := ⟨fun _ => by kernel_rfl⟩
theorem bs111 (w : World) (s : Sl) : (Instr.buildSlice 111 1 #[(0, .slice s.a s.len s.cap)]).run Try.prog w = .ok (.slice (some ⟨w.heap.size, 0, none⟩) 1 1) (w.alloc (.cells ⟨[slv s]⟩ 33)) := by kernel_rfl
theorem bs112 (w : World) (s : Sl) : (Instr.buildSlice 112 1 #[(0, .slice s.a s.len s.cap)]).run Try.prog w = .ok (.slice (some ⟨w.heap.size, 0, none⟩) 1 1) (w.alloc (.cells ⟨[slv s]⟩ 51)) := by kernel_rfl
theorem eqnil51s (w : World) (x y : Operand) (a : Addr) (l c : Nat) : (do eqGuard .eql 51 x y (.slice (some a) l c) (.slice none 0 0); binOp .eql 51 (.slice (some a) l c) (.slice none 0 0) : Sem Value).run Try.prog w = .ok (.bool false) w := by kernel_rfl
theorem eqnil51n (w : World) (x y : Operand) (l c : Nat) : (do eqGuard .eql 51 x y (.slice none l c) (.slice none 0 0); binOp .eql 51 (.slice none l c) (.slice none 0 0) : Sem Value).run Try.prog w = .ok (.bool true) w := by kernel_rfl
def isNil (s : Sl) : Bool := match s.a with | none => true | some _ => false
theorem nil51 {s : Sl} {x y : Operand} {K : Bool → World → Prop} (hk : K (isNil s) w) : RunN Try.prog .bool (V (do eqGuard .eql 51 x y (.slice s.a s.len s.cap) (.slice none 0 0); binOp .eql 51 (.slice s.a s.len s.cap) (.slice none 0 0))) w K := by
  unfold isNil at hk
  cases ha : s.a with
  | none => rw [ha] at hk; exact RunN.of (kd := .bool) (eqnil51n _ _ _ _ _) hk
  | some a => rw [ha] at hk; exact RunN.of (kd := .bool) (eqnil51s _ _ _ _ _ _) hk
theorem isNil_iff {s : Sl} : isNil s = true ↔ s.a = none := by
  unfold isNil; cases s.a <;> simp
/-- A segment that is a mark. -/
def mS (j k : Nat) : Sg := ⟨0, 0, -1000 - j, k, (⟨none, 0, 0⟩, [])⟩
def mkS (j n : Nat) : List Sg := (List.range n).map (mS j)
theorem mkS_len (j n : Nat) : (mkS j n).length = n := by simp [mkS]
theorem mkS_succ (j n : Nat) : mkS j (n + 1) = mkS j n ++ [mS j n] := by simp [mkS, List.range_succ]
theorem mkS_at {j n k : Nat} (h : k < (mkS j n).length) : (mkS j n)[k] = mS j k := by simp [mkS]
def b3 (j k : Nat) : List UInt8 := [by8 (j : Int), by8 (Int.fdiv (j : Int) (2 ^ 8)), by8 (k : Int)]
theorem b3_v (j k : Nat) : [Value.int .u8 (IntKind.u8.wrap (j : Int)), .int .u8 (IntKind.u8.wrap (Int.fdiv (j : Int) (2 ^ 8))), .int .u8 (IntKind.u8.wrap (k : Int))] = bys (b3 j k) := by
  rw [by8_v, by8_v, by8_v]; rfl
theorem flat_set {α : Type} {f : α → List Value} {n : Nat} (hf : ∀ x, (f x).length = n) (l : List α) (i : Nat) (hi : i < l.length) (x : α) : (l.flatMap f).take (i * n) ++ f x ++ (l.flatMap f).drop (i * n + n) = (l.set i x).flatMap f := by
  have e1 : l = l.take i ++ l[i] :: l.drop (i + 1) := by rw [← List.drop_eq_getElem_cons hi, List.take_append_drop]
  have hA : ((l.take i).flatMap f).length = i * n := by rw [flat_len hf, List.length_take, Nat.min_eq_left (by omega)]
  have e3 : l.flatMap f = (l.take i).flatMap f ++ (f l[i] ++ (l.drop (i + 1)).flatMap f) := by
    conv => lhs; rw [e1]
    rw [List.flatMap_append, List.flatMap_cons]
  have e4 : l.set i x = l.take i ++ x :: l.drop (i + 1) := List.set_eq_take_append_cons_drop .. ▸ if_pos hi
  rw [e4, List.flatMap_append, List.flatMap_cons, e3]
  have h1 : ((l.take i).flatMap f ++ (f l[i] ++ (l.drop (i + 1)).flatMap f)).take (i * n) = (l.take i).flatMap f := by
    rw [List.take_append_of_le_length (by omega), List.take_of_length_le (by omega)]
  have h2 : ((l.take i).flatMap f ++ (f l[i] ++ (l.drop (i + 1)).flatMap f)).drop (i * n + n) = (l.drop (i + 1)).flatMap f := by
    rw [← List.append_assoc, List.drop_append, List.drop_of_length_le (by rw [List.length_append, hA, hf]; exact Nat.le_refl _), List.nil_append, List.length_append, hA, hf, Nat.sub_self, List.drop_zero]
  rw [h1, h2, List.append_assoc]
theorem lsl_set (l : List Bs) (i : Nat) (x : Bs) : (lsl l).set i (.slice x.1.a x.1.len x.1.cap) = lsl (l.set i x) := by
  rw [lsl, lsl, List.map_set]
/-- A new piece in the midst of what grows. -/
theorem GrowV.newS {P : Program} {E : TypeId} {q : Sl} {v : List Value} {d : Sl} {e : List Value} {G : Grps} (hg : GrowV E w0 w q v d e G) {s : Sem Value} {cs : List Value} {t : TypeId} {n : Nat} (sz : Nat) (hr : s.run P w = .ok (.slice (some ⟨w.heap.size, 0, none⟩) n n) (w.alloc (.cells ⟨cs⟩ t))) (hn : Nat.ble n maxLen = true) (hl : cs.length = n * sz) (h1 : cs.all Value.oneCell' = true) {K : Sl → World → Prop}
    (hk : ∀ (s : Sl) w', s.len = n → s.cap = n → s.a ≠ none → GrowV E w0 w' q v d e ([.row t sz s cs] :: G) → K s w') : RunN P .sl (V s) w K := by
  obtain ⟨h1', h2, h3⟩ := hg
  rcases h3 with ⟨ha, hc, h⟩ | h
  · refine h.newS sz hr hn hl h1 ?_
    intro u w1 hu1 hu2 hu3 h
    exact hk u w1 hu1 hu2 hu3 ⟨h1', h2, .inl ⟨ha, hc, h.perm (by simp only [List.flatten_cons, List.singleton_append]; exact .swap _ _ _)⟩⟩
  · refine h.newS sz hr hn hl h1 ?_
    intro u w1 hu1 hu2 hu3 h
    exact hk u w1 hu1 hu2 hu3 ⟨h1', h2, .inr (h.perm (by
      simp only [List.flatten_cons, List.singleton_append, List.cons_append, List.nil_append]
      exact (List.Perm.swap _ _ _).trans (.cons _ (.swap _ _ _))))⟩
theorem FarS.seesX {E : TypeId} {sz : Nat} {x y : Sl × List Value} {g : List Ent} (hf : FarS E sz x y g) : SeesX w0 g y.1 sz y.2 ∧ SeesX w0 g x.1 sz x.2 :=
  ⟨fun w F h => (hf.reads h (k := 0) rfl (fun e he => he)).1, fun w F h => (hf.reads h (k := 0) rfl (fun e he => he)).2⟩
theorem FarV.seesX {E : TypeId} {x y : Sl × List Value} {g : List Ent} (hf : FarV E x y g) : SeesX w0 g y.1 1 y.2 ∧ SeesX w0 g x.1 1 x.2 :=
  ⟨fun w F h => (hf.reads h (k := 0) rfl (fun e he => he)).1, fun w F h => (hf.reads h (k := 0) rfl (fun e he => he)).2⟩
theorem map_hd_at {A A' : List An} (h : A'.map An.hd = A.map An.hd) {j : Nat} (h1 : j < A'.length) (h2 : j < A.length) : A'[j].hd = A[j].hd := by
  have : (A'.map An.hd)[j]? = (A.map An.hd)[j]? := by rw [h]
  rw [List.getElem?_map, List.getElem?_map, List.getElem?_eq_getElem h1, List.getElem?_eq_getElem h2] at this
  simpa using this
/-- The book's m-th answer, as it is read again and again. -/
theorem bk_at {bb : Nat} {bs : Sl} {T : List S3} {n m : Nat} (h : St w0 w (bkE bb bs T n :: F)) (hm : m < T.length) (c : Nat) {v : Sl} (hv : (s3v T[m])[c]? = some (slv v)) {K : Sl → World → Prop} (hk : K v w) :
    NilP (some ⟨bb, 0, none⟩) fun t28 =>
      RunN Try.prog .sl (V (Instr.loadAt 71 (.pointer (some (t28.add 0))))) w fun t30 w =>
      RunN Try.prog .addr (V (Instr.indexAt 71 (.slice t30.a t30.len t30.cap) (.int .i64 (m : Int)))) w fun t32 w =>
      RunN Try.prog .sl (V (Instr.loadAt 33 (.pointer (some (t32.add c))))) w K := by
  have hr := h.rd (k := 0) (i := 1) (E := 101) (sz := 3) (s := bs) (vs := T.flatMap s3v) ⟨_, rfl, rfl⟩
  have hl := bk_len hr
  refine NilP.mk ?_
  refine h.loadB 0 0 ⟨_, rfl, rfl⟩ rfl (kd := .sl) (x := bs) rfl ?_
  refine hr.idxK m rfl (by omega) ?_
  intro b0 o0 ha
  have hc : c < 3 := by
    rcases Nat.lt_or_ge c 3 with h | h
    · exact h
    · rw [List.getElem?_eq_none (by rw [s3v_len]; exact h)] at hv; cases hv
  exact hr.el ha (m * 3 + c) (by rw [add_lit', Nat.add_assoc]) (kd := .sl) (x := v) (by rw [flat_cell s3v_len hm c hc]; exact hv) hk
theorem bk_at51 {bb : Nat} {bs : Sl} {T : List S3} {n m : Nat} (h : St w0 w (bkE bb bs T n :: F)) (hm : m < T.length) (c : Nat) {v : Sl} (hv : (s3v T[m])[c]? = some (slv v)) {K : Sl → World → Prop} (hk : K v w) :
    NilP (some ⟨bb, 0, none⟩) fun t28 =>
      RunN Try.prog .sl (V (Instr.loadAt 71 (.pointer (some (t28.add 0))))) w fun t30 w =>
      RunN Try.prog .addr (V (Instr.indexAt 71 (.slice t30.a t30.len t30.cap) (.int .i64 (m : Int)))) w fun t32 w =>
      RunN Try.prog .sl (V (Instr.loadAt 51 (.pointer (some (t32.add c))))) w K := by
  have hr := h.rd (k := 0) (i := 1) (E := 101) (sz := 3) (s := bs) (vs := T.flatMap s3v) ⟨_, rfl, rfl⟩
  have hl := bk_len hr
  refine NilP.mk ?_
  refine h.loadB 0 0 ⟨_, rfl, rfl⟩ rfl (kd := .sl) (x := bs) rfl ?_
  refine hr.idxK m rfl (by omega) ?_
  intro b0 o0 ha
  have hc : c < 3 := by
    rcases Nat.lt_or_ge c 3 with h | h
    · exact h
    · rw [List.getElem?_eq_none (by rw [s3v_len]; exact h)] at hv; cases hv
  exact hr.el ha (m * 3 + c) (by rw [add_lit', Nat.add_assoc]) (kd := .sl) (x := v) (by rw [flat_cell s3v_len hm c hc]; exact hv) hk
end Go.Proofs.Ytodgnpmljdopiaa

/- The lists around the answers: written over, grown, looked at. -/
namespace Go.Proofs.Ytodgnpmljdopiaa
open Go Go.Fw Go.RowKit
set_option linter.unusedVariables false
set_option linter.unusedSimpArgs false
set_option maxRecDepth 4000
set_option maxHeartbeats 8000000
variable {w0 w : World} {F G : Grps}

theorem map_setO {α : Type} (f : α → Ent) (l : List α) (i : Nat) (x : α) : setO (l.map f) i (f x) = (l.set i x).map f := by rw [setO_set, List.map_set]
theorem map_set_same {α β : Type} (f : α → β) {l : List α} {i : Nat} {x : α} (hi : i < l.length) (h : f x = f l[i]) : (l.set i x).map f = l.map f := by
  rw [List.map_set, h]
  have : l.map f = l.map f := rfl
  have e : (l.map f)[i]'(by simpa using hi) = f l[i] := by simp
  rw [← e]; exact List.set_getElem_self _
theorem GrowV.imp {E : TypeId} {q : Sl} {v : List Value} {d : Sl} {e : List Value} {G G' : Grps} (hg : GrowV E w0 w q v d e G) (h : ∀ l, St w0 w (l :: G) → St w0 w (l :: G')) : GrowV E w0 w q v d e G' := by
  obtain ⟨h1, h2, h3⟩ := hg
  rcases h3 with ⟨ha, hc, h3⟩ | h3
  · exact ⟨h1, h2, .inl ⟨ha, hc, h _ h3⟩⟩
  · exact ⟨h1, h2, .inr (h _ h3)⟩
structure Few (a : An) : Prop where
  gl : a.gl.length ≤ 1000
  ul : a.ul.length ≤ 1000
  kind : (a.up = ⟨none, 0, 0⟩ ∧ a.ul = []) ∨ a.up.a ≠ none
structure P1 (w0 : World) (B : List Ent) (j : Nat) (a : An) : Prop where
  g : a.up.a = none → a.gl = mkS j a.gl.length
  u : ∀ (k : Nat) (h : k < a.ul.length), a.ul[k].2 = b3 j k ∧ SeesX w0 B a.ul[k].1 1 (bys (b3 j k))
theorem P1.more {B m : List Ent} {j : Nat} {a : An} (h : P1 w0 B j a) : P1 w0 (B ++ m) j a := ⟨h.g, fun k hk => ⟨(h.u k hk).1, (h.u k hk).2.more⟩⟩
abbrev Ml := Sl × List Sg
abbrev Ul := Sl × List Bs
structure P2 (w0 : World) (D : List Ent) (j : Nat) (a : An) (M : Ml) (U : Ul) : Prop where
  m : M.2 = mkS j M.2.length
  ml : M.2.length ≤ 1100
  ms : SeesX w0 D M.1 5 (M.2.flatMap sgv)
  l : a.up.a = none → SeesX w0 D a.l 5 ((mkS j a.gl.length).flatMap sgv)
  u : ∀ (k : Nat) (h : k < U.2.length), U.2[k].2 = b3 j k ∧ SeesX w0 D U.2[k].1 1 (bys (b3 j k))
  ul : U.2.length ≤ 1100
  us : SeesX w0 D U.1 1 (lsl U.2)
  up : SeesX w0 D a.up 1 (lsl a.ul)
  a1 : P1 w0 D j a
theorem P2.more {D m : List Ent} {j : Nat} {a : An} {M : Ml} {U : Ul} (h : P2 w0 D j a M U) : P2 w0 (D ++ m) j a M U :=
  ⟨h.m, h.ml, h.ms.more, fun hh => (h.l hh).more, fun k hk => ⟨(h.u k hk).1, (h.u k hk).2.more⟩, h.ul, h.us.more, h.up.more, h.a1.more⟩
def mrow (L : List Ml) : List Value := L.map fun x => slv x.1
def urow (L : List Ul) : List Value := L.map fun x => slv x.1
theorem mrow_at {L : List Ml} {m : Nat} (h : m < L.length) : (mrow L)[m]? = some (.slice L[m].1.a L[m].1.len L[m].1.cap) := by simp [mrow, h]
theorem urow_at {L : List Ul} {m : Nat} (h : m < L.length) : (urow L)[m]? = some (.slice L[m].1.a L[m].1.len L[m].1.cap) := by simp [urow, h]
theorem outer_st {bb : Nat} {bs : Sl} {A : List An} {n : Nat} (h : St w0 w (bkE bb bs (A.map An.hd) n :: A.map An.lr :: A.map An.ur :: F)) (hA : A.length ≤ 120) (hok : ∀ a ∈ A, Few a) :
    CallK Try.prog .bool 52 #[.pointer (some ⟨bb, 0, none⟩)] w fun (v : Bool) w' => v = true ∧ ∃ G, St w0 w' G := by
  have hbl : bs.len = A.length := by
    have := bk_len (h.rd (k := 0) (i := 1) (E := 101) (sz := 3) (s := bs) (vs := (A.map An.hd).flatMap s3v) ⟨_, rfl, rfl⟩)
    rw [List.length_map] at this; exact this
  refine T52.calls ?_
  unfold T52
  have h := St.empty.2 h
  have h := h.ord 4 [1, 2, 3, 0]
  dsimp only [pick, nthO, dropO] at h
  refine LoopX.mk (fun st w' => ∃ (m : Nat) (A' : List An) (B : List Ent), st = ((m : Int), ()) ∧ m ≤ A.length ∧ A'.map An.hd = A.map An.hd ∧ (∀ a ∈ A', Few a) ∧ (∀ (j : Nat) (hj : j < A'.length), j < m → P1 w0 B j A'[j]) ∧
    St w0 w' (bkE bb bs (A.map An.hd) n :: A'.map An.lr :: A'.map An.ur :: B :: F)) (fun st => A.length - st.1.toNat) ⟨0, A, [], rfl, Nat.zero_le _, rfl, hok, fun j hj h0 => absurd h0 (Nat.not_lt_zero _), h⟩ ?_
  clear h
  rintro _ w1 ⟨m, A', B, rfl, hm, hA', hok', hp1, h⟩ k2 hk2
  have hAl : A'.length = A.length := by have := congrArg List.length hA'; simpa using this
  dsimp only at hk2 ⊢
  refine NilP.mk ?_
  refine h.loadB 0 0 ⟨_, rfl, rfl⟩ rfl (kd := .sl) (x := bs) rfl ?_
  rw [SplitB_iff]
  refine ⟨fun hc => ?_, fun hc => ?_⟩
  · have hc : m < A.length := by have : (m : Int) < (bs.len : Int) := of_decide_eq_true hc
                                 omega
    have hcT : m < (A.map An.hd).length := by rw [List.length_map]; exact hc
    have hc1 : m < A'.length := by omega
    have hem : IntKind.i64.wrap ((m : Int) + 1) = ((m + 1 : Nat) : Int) := by rw [wr (by omega)]; omega
    rw [hem]
    generalize ha : A'[m] = a
    have hf : Few a := ha ▸ hok' _ (List.getElem_mem hc1)
    have hT : (A.map An.hd)[m] = a.hd := by rw [List.getElem_map, ← ha]; exact (map_hd_at hA' hc1 hc).symm
    have hT0 : (s3v (A.map An.hd)[m])[0]? = some (slv a.l) := by rw [hT]; rfl
    have hT2 : (s3v (A.map An.hd)[m])[2]? = some (slv a.up) := by rw [hT]; rfl
    let A1 : Nat → List An := fun q => A'.set m { a with gl := mkS m q ++ a.gl.drop q }
    have hA1l : ∀ q, (A1 q).length = A'.length := fun q => by simp [A1]
    have hA1m : ∀ q, (A1 q)[m]'(by rw [hA1l]; exact hc1) = { a with gl := mkS m q ++ a.gl.drop q } := fun q => by simp [A1]
    have hA10 : A1 0 = A' := by
      show A'.set m { a with gl := mkS m 0 ++ a.gl.drop 0 } = A'
      have : ({ a with gl := mkS m 0 ++ a.gl.drop 0 } : An) = A'[m] := by rw [ha]; rfl
      rw [this]; exact List.set_getElem_self hc1
    refine LoopX.mk (fun st w' => ∃ q : Nat, st = ((q : Int), ()) ∧ q ≤ a.gl.length ∧ (a.up.a ≠ none → q = 0) ∧ St w0 w' (bkE bb bs (A.map An.hd) n :: (A1 q).map An.lr :: A'.map An.ur :: B :: F)) (fun st => a.gl.length - st.1.toNat) ⟨0, rfl, Nat.zero_le _, fun _ => rfl, by rw [hA10]; exact h⟩ ?_
    clear h
    rintro _ w2 ⟨q, rfl, hq, hq0, h⟩ k4 hk4
    dsimp only at hk4 ⊢
    have hlr := nthO_map An.lr (A1 q) (i := m) (by rw [hA1l]; exact hc1)
    rw [hA1m] at hlr
    have hgl := hf.gl
    have hqn : (mkS m q ++ a.gl.drop q).length = a.gl.length := by rw [List.length_append, mkS_len, List.length_drop]; omega
    have hll : a.l.len = a.gl.length := by
      have := out_len (h.rd (k := 1) (i := m) (E := 62) (sz := 5) (s := a.l) (vs := (mkS m q ++ a.gl.drop q).flatMap sgv) ⟨_, rfl, hlr⟩)
      omega
    refine JoinX.mk (fun (y : Bool × Unit) w' => y.1 = decide (q < a.gl.length ∧ a.up.a = none) ∧ St w0 w' (bkE bb bs (A.map An.hd) n :: (A1 q).map An.lr :: A'.map An.ur :: B :: F)) ?_ ?_
    rotate_left
    · intro k5 hk5
      refine bk_at h hcT 0 hT0 ?_
      rw [SplitB_iff]
      refine ⟨fun hq1 => ?_, fun hq1 => ?_⟩
      · have hq1 : q < a.gl.length := by have : (q : Int) < (a.l.len : Int) := of_decide_eq_true hq1
                                         omega
        refine bk_at51 h hcT 2 hT2 ?_
        refine nil51 ?_
        refine hk5 _ _ ⟨?_, h⟩
        by_cases hn : a.up.a = none
        · rw [isNil_iff.2 hn, decide_eq_true ⟨hq1, hn⟩]
        · rw [decide_eq_false (fun hh => hn hh.2)]
          cases hi : isNil a.up with
          | false => rfl
          | true => exact absurd (isNil_iff.1 hi) hn
      · have hq1 : ¬ q < a.gl.length := by have : ¬ (q : Int) < (a.l.len : Int) := of_decide_eq_false hq1
                                           omega
        exact hk5 _ _ ⟨by rw [decide_eq_false (fun hh => hq1 hh.1)], h⟩
    clear h
    rintro ⟨y, ⟨⟩⟩ w3 ⟨hy, h⟩
    dsimp only at hy
    subst hy
    dsimp only
    rw [SplitB_iff]
    refine ⟨fun hc2 => ?_, fun hc2 => ?_⟩
    · obtain ⟨hq1, hn⟩ := of_decide_eq_true hc2
      have hem2 : IntKind.i64.wrap ((q : Int) + 1) = ((q + 1 : Nat) : Int) := by rw [wr (by omega)]; omega
      rw [hem2]
      have hr := h.rd (k := 1) (i := m) (E := 62) (sz := 5) (s := a.l) (vs := (mkS m q ++ a.gl.drop q).flatMap sgv) ⟨_, rfl, hlr⟩
      refine bk_at h hcT 0 hT0 ?_
      refine hr.idxK q rfl (by omega) ?_
      intro b0 o0 ha0
      have hv : IntKind.i64.wrap ((-1000) - (m : Int)) = -1000 - (m : Int) := wr (by omega)
      rw [hv]
      refine h.storRA (P := Try.prog) 1 m (E := 62) (sz := 5) (s := a.l) (vs := (mkS m q ++ a.gl.drop q).flatMap sgv) ⟨_, rfl, hlr⟩ ha0 (t' := 62) (n := 5) (q * 5) rfl (ds := sgv (mS m q)) (by rw [flat_len sgv_len]; omega) rfl (by decide) rfl ?_
      intro w4 h
      rw [flat_set sgv_len _ _ (by omega)] at h
      have e1 : (mkS m q ++ a.gl.drop q).set q (mS m q) = mkS m (q + 1) ++ a.gl.drop (q + 1) := by
        rw [List.drop_eq_getElem_cons hq1, List.set_append_right _ _ (by rw [mkS_len]; exact Nat.le_refl _), mkS_len, Nat.sub_self, List.set_cons_zero, mkS_succ, List.append_assoc]
        rfl
      rw [e1] at h
      dsimp only [updG] at h
      have e2 : setO ((A1 q).map An.lr) m (.row 62 5 a.l ((mkS m (q + 1) ++ a.gl.drop (q + 1)).flatMap sgv)) = (A1 (q + 1)).map An.lr := by
        refine (map_setO An.lr (A1 q) m { a with gl := mkS m (q + 1) ++ a.gl.drop (q + 1) }).trans ?_
        simp [A1]
      rw [e2] at h
      exact hk4 _ _ ⟨q + 1, rfl, by omega, fun hh => absurd hn hh, h⟩ (by dsimp only; omega)
    · have hfin : a.up.a = none → q = a.gl.length := fun hn => by
        have := of_decide_eq_false hc2
        rcases Nat.lt_or_ge q a.gl.length with h1 | h1
        · exact absurd ⟨h1, hn⟩ this
        · omega
      clear hk4
      let A2 : Nat → List Bs → List An := fun r U => A'.set m { a with ul := U ++ a.ul.drop r }
      have hA2l : ∀ r U, (A2 r U).length = A'.length := fun r U => by simp [A2]
      have hA2m : ∀ r U, (A2 r U)[m]'(by rw [hA2l]; exact hc1) = { a with ul := U ++ a.ul.drop r } := fun r U => by simp [A2]
      have hA20 : A2 0 [] = A' := by
        show A'.set m { a with ul := [] ++ a.ul.drop 0 } = A'
        have : ({ a with ul := [] ++ a.ul.drop 0 } : An) = A'[m] := by rw [ha]; rfl
        rw [this]; exact List.set_getElem_self hc1
      refine LoopX.mk (fun st w' => ∃ (r : Nat) (U : List Bs) (B' : List Ent), st = ((r : Int), ()) ∧ r ≤ a.ul.length ∧ U.length = r ∧ (∀ (k : Nat) (hk : k < U.length), U[k].2 = b3 m k ∧ SeesX w0 B' U[k].1 1 (bys (b3 m k))) ∧ (∀ (j : Nat) (hj : j < A'.length), j < m → P1 w0 B' j A'[j]) ∧
        St w0 w' (bkE bb bs (A.map An.hd) n :: (A1 q).map An.lr :: (A2 r U).map An.ur :: B' :: F)) (fun st => a.ul.length - st.1.toNat) ⟨0, [], B, rfl, Nat.zero_le _, rfl, fun k hk => absurd hk (Nat.not_lt_zero _), hp1, by rw [hA20]; exact h⟩ ?_
      clear h
      rintro _ w4 ⟨r, U, B', rfl, hr, hUl, hU, hp1', h⟩ k8 hk8
      dsimp only at hk8 ⊢
      have hur := nthO_map An.ur (A2 r U) (i := m) (by rw [hA2l]; exact hc1)
      rw [hA2m] at hur
      have hul := hf.ul
      have hun : (U ++ a.ul.drop r).length = a.ul.length := by rw [List.length_append, List.length_drop]; omega
      have hull : a.up.len = a.ul.length := by
        have := lsl_rd (h.rd (k := 2) (i := m) (E := 45) (sz := 1) (s := a.up) (vs := lsl (U ++ a.ul.drop r)) ⟨_, rfl, hur⟩)
        omega
      refine bk_at51 h hcT 2 hT2 ?_
      rw [SplitB_iff]
      refine ⟨fun hc3 => ?_, fun hc3 => ?_⟩
      · have hc3 : r < a.ul.length := by have : (r : Int) < (a.up.len : Int) := of_decide_eq_true hc3
                                         omega
        have hem3 : IntKind.i64.wrap ((r : Int) + 1) = ((r + 1 : Nat) : Int) := by rw [wr (by omega)]; omega
        rw [hem3]
        refine bk_at51 h hcT 2 hT2 ?_
        refine h.newS 1 (bs45m _ _ _ _) rfl rfl rfl ?_
        intro u w5 hu1 hu2 _ h
        rw [b3_v] at h
        have h : St w0 w5 ([brow (u, b3 m r)] :: bkE bb bs (A.map An.hd) n :: (A1 q).map An.lr :: (A2 r U).map An.ur :: B' :: F) := h
        have h := h.ord 5 [1, 2, 3, 0, 4]
        dsimp only [pick, nthO, dropO] at h
        have h := joinAt [_, _, _] h
        simp only [List.cons_append, List.nil_append] at h
        have hrd := h.rd (k := 2) (i := m) (E := 45) (sz := 1) (s := a.up) (vs := lsl (U ++ a.ul.drop r)) ⟨_, rfl, hur⟩
        refine hrd.idxK r rfl (by omega) ?_
        intro b0 o0 ha0
        refine h.storR 2 m (E := 45) (sz := 1) (s := a.up) (vs := lsl (U ++ a.ul.drop r)) ⟨_, rfl, hur⟩ ha0 (r * 1) rfl (by rw [lsl_len]; omega) rfl ?_
        intro w6 h
        rw [Nat.mul_one, lsl_set _ _ (u, b3 m r)] at h
        have e1 : (U ++ a.ul.drop r).set r (u, b3 m r) = (U ++ [(u, b3 m r)]) ++ a.ul.drop (r + 1) := by
          rw [List.drop_eq_getElem_cons hc3, List.set_append_right _ _ (by omega), hUl, Nat.sub_self, List.set_cons_zero, List.append_assoc]
          rfl
        rw [e1] at h
        dsimp only [updG] at h
        have e2 : setO ((A2 r U).map An.ur) m (.row 45 1 a.up (lsl ((U ++ [(u, b3 m r)]) ++ a.ul.drop (r + 1)))) = (A2 (r + 1) (U ++ [(u, b3 m r)])).map An.ur := by
          refine (map_setO An.ur (A2 r U) m { a with ul := (U ++ [(u, b3 m r)]) ++ a.ul.drop (r + 1) }).trans ?_
          simp [A2]
        rw [e2] at h
        refine hk8 _ _ ⟨r + 1, U ++ [(u, b3 m r)], B' ++ [brow (u, b3 m r)], rfl, by omega, by simp; omega, fun k hk => ?_, fun j hj hjm => (hp1' j hj hjm).more, h⟩ (by dsimp only; omega)
        rcases Nat.lt_or_ge k U.length with hlt | hge
        · rw [List.getElem_append_left hlt]
          exact ⟨(hU k hlt).1, (hU k hlt).2.more⟩
        · have : k = r := by simp at hk; omega
          subst this
          have e3 : (U ++ [(u, b3 m k)])[k]'hk = (u, b3 m k) := by rw [List.getElem_append_right (by omega)]; simp [hUl]
          rw [e3]
          exact ⟨rfl, SeesX.late (SeesX.rowB (List.mem_cons_self ..))⟩
      · have hc3 : r = a.ul.length := by have : ¬ (r : Int) < (a.up.len : Int) := of_decide_eq_false hc3
                                         omega
        subst hc3
        let a' : An := { a with gl := mkS m q ++ a.gl.drop q, ul := U }
        have e1 : (A1 q).map An.lr = (A'.set m a').map An.lr := by simp only [A1, List.map_set]; rfl
        have e2 : (A2 a.ul.length U).map An.ur = (A'.set m a').map An.ur := by
          simp only [A2, List.map_set, List.drop_length, List.append_nil]; rfl
        rw [e1, e2] at h
        have hfa : Few a' := ⟨by show (mkS m q ++ a.gl.drop q).length ≤ _; omega, by show U.length ≤ _; omega, by
          rcases hf.kind with ⟨h1, h2⟩ | h1
          · left; refine ⟨h1, ?_⟩
            show U = []
            rw [h2] at hUl; exact List.length_eq_zero_iff.1 hUl
          · exact .inr h1⟩
        refine hk2 _ _ ⟨m + 1, A'.set m a', B', rfl, by omega, ?_, fun b hb => ?_, fun j hj hjm => ?_, h⟩ (by dsimp only; omega)
        · rw [map_set_same An.hd hc1 (by rw [ha]; rfl)]; exact hA'
        · rcases List.mem_or_eq_of_mem_set hb with hb | rfl
          · exact hok' b hb
          · exact hfa
        · rcases Nat.lt_or_ge j m with hlt | hge
          · have : (A'.set m a')[j]'hj = A'[j]'(by rw [List.length_set] at hj; exact hj) := List.getElem_set_ne (by omega) _
            rw [this]
            exact hp1' j _ hlt
          · have : j = m := by omega
            subst this
            have : (A'.set j a')[j]'hj = a' := by simp
            rw [this]
            refine ⟨fun hn => ?_, hU⟩
            show mkS j q ++ a.gl.drop q = mkS j (mkS j q ++ a.gl.drop q).length
            rw [hqn, hfin hn, List.drop_length, List.append_nil]
  · have hc : m = A.length := by have : ¬ (m : Int) < (bs.len : Int) := of_decide_eq_false hc
                                 omega
    subst hc
    have hp1 : ∀ (j : Nat) (hj : j < A'.length), P1 w0 B j A'[j] := fun j hj => hp1 j hj (by omega)
    clear hk2
    have h := h.nilrow 33 1
    have h := h.nilrow 51 1
    have h := h.ord 6 [2, 3, 4, 5, 1, 0]
    dsimp only [pick, nthO, dropO] at h
    refine LoopX.mk (fun st w' => ∃ (m : Nat) (mo us : Sl) (M : List Ml) (U : List Ul) (D : List Ent), st = (mo, us, (m : Int), ()) ∧ m ≤ A.length ∧ M.length = m ∧ U.length = m ∧ (∀ (j : Nat) (hj : j < A'.length), P1 w0 D j A'[j]) ∧ (∀ (j : Nat) (hj : j < A'.length) (h1 : j < M.length) (h2 : j < U.length), P2 w0 D j A'[j] M[j] U[j]) ∧
      St w0 w' (bkE bb bs (A.map An.hd) n :: (A'.drop m).map An.lr :: (A'.drop m).map An.ur :: D :: [.row 33 1 mo (mrow M)] :: [.row 51 1 us (urow U)] :: F)) (fun st => A.length - st.2.2.1.toNat) ⟨0, _, _, [], [], B, rfl, Nat.zero_le _, rfl, rfl, hp1, fun j hj h1 => absurd h1 (Nat.not_lt_zero _), h⟩ ?_
    clear h hp1
    rintro _ w2 ⟨m, mo, us, M, U, D, rfl, hm2, hMl, hUl, hp1, hp2, h⟩ k10 hk10
    dsimp only at hk10 ⊢
    have hmol : mo.len = m := by
      have := (h.rd (k := 4) (i := 0) (E := 33) (sz := 1) (s := mo) (vs := mrow M) ⟨_, rfl, rfl⟩).1
      simp [mrow] at this; omega
    have husl : us.len = m := by
      have := (h.rd (k := 5) (i := 0) (E := 51) (sz := 1) (s := us) (vs := urow U) ⟨_, rfl, rfl⟩).1
      simp [urow] at this; omega
    refine NilP.mk ?_
    refine h.loadB 0 0 ⟨_, rfl, rfl⟩ rfl (kd := .sl) (x := bs) rfl ?_
    rw [SplitB_iff]
    refine ⟨fun hc => ?_, fun hc => ?_⟩
    · have hc : m < A.length := by have : (m : Int) < (bs.len : Int) := of_decide_eq_true hc
                                   omega
      have hcT : m < (A.map An.hd).length := by rw [List.length_map]; exact hc
      have hc1 : m < A'.length := by omega
      have hem : IntKind.i64.wrap ((m : Int) + 1) = ((m + 1 : Nat) : Int) := by rw [wr (by omega)]; omega
      rw [hem]
      have hpa := hp1 m hc1
      have hf : Few A'[m] := hok' _ (List.getElem_mem hc1)
      have hT : (A.map An.hd)[m] = A'[m].hd := by rw [List.getElem_map]; exact (map_hd_at hA' hc1 hc).symm
      have el : (A'.drop m).map An.lr = A'[m].lr :: (A'.drop (m + 1)).map An.lr := by rw [List.drop_eq_getElem_cons hc1]; rfl
      have eu : (A'.drop m).map An.ur = A'[m].ur :: (A'.drop (m + 1)).map An.ur := by rw [List.drop_eq_getElem_cons hc1]; rfl
      rw [el, eu] at h
      generalize ha : A'[m] = a at h hpa hf hT
      have hT0 : (s3v (A.map An.hd)[m])[0]? = some (slv a.l) := by rw [hT]; rfl
      have hT2 : (s3v (A.map An.hd)[m])[2]? = some (slv a.up) := by rw [hT]; rfl
      have hgl := hf.gl
      have hul := hf.ul
      have hmo33 : ∀ {W : World} {s : Sl}, True := fun {_ _} => trivial
      -- the list that is to grow: the answer's, or none
      refine JoinX.mk (fun (y : Sl × Unit) w' => y.1 = (if isNil a.up = true then a.l else ⟨none, 0, 0⟩) ∧ St w0 w' (bkE bb bs (A.map An.hd) n :: (a.lr :: (A'.drop (m + 1)).map An.lr) :: (a.ur :: (A'.drop (m + 1)).map An.ur) :: D :: [.row 33 1 mo (mrow M)] :: [.row 51 1 us (urow U)] :: F)) ?_ ?_
      rotate_left
      · intro k11 hk11
        refine bk_at51 h hcT 2 hT2 ?_
        refine nil51 ?_
        rw [SplitB_iff]
        refine ⟨fun hn => ?_, fun hn => ?_⟩
        · refine bk_at h hcT 0 hT0 ?_
          exact hk11 _ _ ⟨by rw [if_pos hn], h⟩
        · refine hk11 _ _ ⟨?_, h⟩
          rw [if_neg (by rw [hn]; decide)]
      clear h
      rintro ⟨y, ⟨⟩⟩ w3 ⟨hy, h⟩
      dsimp only at hy ⊢
      have hX : ∃ X : Ml, y = X.1 ∧ X.2 = mkS m X.2.length ∧ X.2.length ≤ 1000 ∧ (a.up.a = none → X = (a.l, mkS m a.gl.length)) ∧ St w0 w3 ([.row 62 5 X.1 (X.2.flatMap sgv)] :: bkE bb bs (A.map An.hd) n :: (A'.drop (m + 1)).map An.lr :: (a.ur :: (A'.drop (m + 1)).map An.ur) :: D :: [.row 33 1 mo (mrow M)] :: [.row 51 1 us (urow U)] :: F) := by
        have h := h.ord 2 [1, 0]
        dsimp only [pick, nthO, dropO] at h
        have h := St.one.1 h
        have h := h.ord 3 [0, 2, 1]
        dsimp only [pick, nthO, dropO] at h
        by_cases hn : a.up.a = none
        · rw [if_pos (isNil_iff.2 hn)] at hy
          have hg := hpa.g hn
          have e : a.lr = .row 62 5 a.l ((mkS m a.gl.length).flatMap sgv) := by rw [An.lr, ← hg]
          rw [e] at h
          exact ⟨(a.l, mkS m a.gl.length), hy, by show mkS m a.gl.length = mkS m (mkS m a.gl.length).length; rw [mkS_len], by show (mkS m a.gl.length).length ≤ _; rw [mkS_len]; exact hgl, fun _ => rfl, h⟩
        · rw [if_neg (fun hh => hn (isNil_iff.1 hh))] at hy
          have h := (h.drop 0).nilrow 62 5
          exact ⟨(⟨none, 0, 0⟩, []), hy, rfl, Nat.zero_le _, fun hh => absurd hh hn, h⟩
      clear h hy
      obtain ⟨X, rfl, hX2, hXl, hXn, h⟩ := hX
      have hXr := h.rd (k := 0) (i := 0) (E := 62) (sz := 5) (s := X.1) (vs := X.2.flatMap sgv) ⟨_, rfl, rfl⟩
      have hXlen : X.1.len = X.2.length := out_len hXr
      have hXcap := hXr.2.2
      have hg0 := GrowS.start (E := 62) (sz := 5) h
      refine LoopX.mk (fun st w' => ∃ (k : Nat) (s : Sl) (e : List Sg), st = (s, (k : Int), ()) ∧ X.2.length ≤ k ∧ k ≤ 1000 ∧ X.2 ++ e = mkS m k ∧ e.length = k - X.2.length ∧
        GrowS 62 5 w0 w' X.1 (X.2.flatMap sgv) s (k - X.2.length) (e.flatMap sgv) (bkE bb bs (A.map An.hd) n :: (A'.drop (m + 1)).map An.lr :: (a.ur :: (A'.drop (m + 1)).map An.ur) :: D :: [.row 33 1 mo (mrow M)] :: [.row 51 1 us (urow U)] :: F)) (fun st => 100 - st.2.1.toNat)
        ⟨X.2.length, X.1, [], by rw [hXlen], Nat.le_refl _, hXl, by rw [List.append_nil]; exact hX2, by simp, by rw [Nat.sub_self]; exact hg0⟩ ?_
      clear h hg0 hXr
      rintro _ w4 ⟨k, s, e, rfl, hk1, hk2, hke, hel, hgr⟩ k14 hk14
      dsimp only at hk14 ⊢
      rw [SplitB_iff]
      refine ⟨fun hc2 => ?_, fun hc2 => ?_⟩
      · have hc2 : k < 100 := by have : (k : Int) < 100 := of_decide_eq_true hc2
                                 omega
        have hem2 : IntKind.i64.wrap ((k : Int) + 1) = ((k + 1 : Nat) : Int) := by rw [wr (by omega)]; omega
        have hv : IntKind.i64.wrap ((-1000) - (m : Int)) = -1000 - (m : Int) := wr (by omega)
        rw [hem2, hv]
        have hkk : k + 1 - X.2.length = k - X.2.length + 1 := by omega
        refine hgr.app (P := Try.prog) (sgv (mS m k)) rfl rfl (fun w => bs33 w 0 0 (-1000 - (m : Int)) (k : Int) none 0 0) (by omega) (by omega) ?_
        intro s' w5 hgr'
        refine hk14 _ _ ⟨k + 1, s', e ++ [mS m k], rfl, by omega, by omega, by rw [← List.append_assoc, hke, mkS_succ], by simp; omega, ?_⟩ (by dsimp only; omega)
        rw [hkk]
        have : (e ++ [mS m k]).flatMap sgv = e.flatMap sgv ++ sgv (mS m k) := by rw [List.flatMap_append]; simp
        rw [this]; exact hgr'
      · clear hk14
        obtain ⟨g1, hfar, h⟩ := hgr.far hXcap
        have hsee := FarS.seesX (w0 := w0) hfar
        have hml : (mkS m k).length = k := mkS_len _ _
        have hcat : X.2.flatMap sgv ++ e.flatMap sgv = (mkS m k).flatMap sgv := by rw [← List.flatMap_append, hke]
        rw [hcat] at hsee
        dsimp only at hsee
        -- the grown one goes into the list of such
        refine h.newS 1 (bs111 _ _) rfl rfl rfl ?_
        intro u w5 hu1 hu2 _ h
        refine h.app 6 0 (s := mo) ⟨_, rfl, rfl⟩ (h.rd (k := 0) (i := 0) ⟨_, rfl, rfl⟩) (fun v hv => by simp at hv; subst hv; rfl) (by simp only [maxLen]; omega) (by omega) ?_
        intro mo' w6 hmo' h
        have h := h.drop 0
        dsimp only [delO, updG, setO] at h
        have em : mrow (M ++ [(s, mkS m k)]) = mrow M ++ [slv s] := by simp [mrow]
        have h : St w0 w6 (g1 :: bkE bb bs (A.map An.hd) n :: (A'.drop (m + 1)).map An.lr :: (a.ur :: (A'.drop (m + 1)).map An.ur) :: D :: [.row 33 1 mo' (mrow (M ++ [(s, mkS m k)]))] :: [.row 51 1 us (urow U)] :: F) := by rw [em]; exact h
        have h := h.ord 5 [1, 3, 2, 0, 4]
        dsimp only [pick, nthO, dropO] at h
        have h := joinAt [_, _, _] h
        simp only [List.cons_append, List.nil_append] at h
        refine bk_at51 h hcT 2 hT2 ?_
        have h := h.ord 2 [1, 0]
        dsimp only [pick, nthO, dropO] at h
        have h := St.one.1 h
        have h : St w0 w6 ([.row 45 1 a.up (lsl a.ul)] :: (A'.drop (m + 1)).map An.ur :: bkE bb bs (A.map An.hd) n :: (A'.drop (m + 1)).map An.lr :: (D ++ g1) :: [.row 33 1 mo' (mrow (M ++ [(s, mkS m k)]))] :: [.row 51 1 us (urow U)] :: F) := h
        have hur := h.rd (k := 0) (i := 0) (E := 45) (sz := 1) (s := a.up) (vs := lsl a.ul) ⟨_, rfl, rfl⟩
        have hull := lsl_rd hur
        have hucap := hur.2.2
        have hg0 := GrowV.imp (GrowV.start (E := 45) h) (G' := [] :: (A'.drop (m + 1)).map An.ur :: bkE bb bs (A.map An.hd) n :: (A'.drop (m + 1)).map An.lr :: (D ++ g1) :: [.row 33 1 mo' (mrow (M ++ [(s, mkS m k)]))] :: [.row 51 1 us (urow U)] :: F) fun l h => h.perm (by simp)
        refine LoopX.mk (fun st w' => ∃ (r : Nat) (d : Sl) (eb : List Bs) (B' : List Ent), st = (d, (r : Int), ()) ∧ a.ul.length ≤ r ∧ r ≤ 1000 ∧ eb.length = r - a.ul.length ∧ (∀ (i : Nat) (hi : i < eb.length), eb[i].2 = b3 m (a.ul.length + i) ∧ SeesX w0 B' eb[i].1 1 (bys (b3 m (a.ul.length + i)))) ∧
          GrowV 45 w0 w' a.up (lsl a.ul) d (lsl eb) (B' :: (A'.drop (m + 1)).map An.ur :: bkE bb bs (A.map An.hd) n :: (A'.drop (m + 1)).map An.lr :: (D ++ g1) :: [.row 33 1 mo' (mrow (M ++ [(s, mkS m k)]))] :: [.row 51 1 us (urow U)] :: F)) (fun st => 100 - st.2.1.toNat)
          ⟨a.ul.length, a.up, [], [], by rw [hull], Nat.le_refl _, hul, by simp, fun i hi => absurd hi (Nat.not_lt_zero _), hg0⟩ ?_
        clear h hg0 hur
        rintro _ w7 ⟨r, d, eb, B', rfl, hr1, hr2, hebl, heb, hgr⟩ k16 hk16
        dsimp only at hk16 ⊢
        rw [SplitB_iff]
        refine ⟨fun hc3 => ?_, fun hc3 => ?_⟩
        · have hc3 : r < 100 := by have : (r : Int) < 100 := of_decide_eq_true hc3
                                   omega
          have hem3 : IntKind.i64.wrap ((r : Int) + 1) = ((r + 1 : Nat) : Int) := by rw [wr (by omega)]; omega
          rw [hem3]
          refine GrowV.newS hgr 1 (bs45m _ _ _ _) rfl rfl rfl ?_
          intro u w8 hu1 hu2 _ hgr
          rw [b3_v] at hgr
          have hgr := GrowV.imp hgr (G' := (B' ++ [brow (u, b3 m r)]) :: (A'.drop (m + 1)).map An.ur :: bkE bb bs (A.map An.hd) n :: (A'.drop (m + 1)).map An.lr :: (D ++ g1) :: [.row 33 1 mo' (mrow (M ++ [(s, mkS m k)]))] :: [.row 51 1 us (urow U)] :: F) fun l h => joinAt [l] h
          refine hgr.app (P := Try.prog) (slv u) rfl (fun w => bs51 w _ _ _) (by rw [lsl_len, lsl_len]; omega) (by rw [lsl_len, lsl_len]; omega) ?_
          intro d' w9 hgr'
          have e1 : lsl (eb ++ [(u, b3 m r)]) = lsl eb ++ [slv u] := by simp [lsl]
          refine hk16 _ _ ⟨r + 1, d', eb ++ [(u, b3 m r)], B' ++ [brow (u, b3 m r)], rfl, by omega, by omega, by simp; omega, fun i hi => ?_, by rw [e1]; exact hgr'⟩ (by dsimp only; omega)
          rcases Nat.lt_or_ge i eb.length with hlt | hge
          · rw [List.getElem_append_left hlt]
            exact ⟨(heb i hlt).1, (heb i hlt).2.more⟩
          · have hi2 : i = eb.length := by simp at hi; omega
            subst hi2
            have e3 : (eb ++ [(u, b3 m r)])[eb.length]'hi = (u, b3 m r) := by rw [List.getElem_append_right (Nat.le_refl _)]; simp
            rw [e3]
            have : a.ul.length + eb.length = r := by omega
            rw [this]
            exact ⟨rfl, SeesX.late (SeesX.rowB (List.mem_cons_self ..))⟩
        · clear hk16
          obtain ⟨g2, hfar2, h⟩ := hgr.far hucap
          have hsee2 := FarV.seesX (w0 := w0) hfar2
          have hcat2 : lsl a.ul ++ lsl eb = lsl (a.ul ++ eb) := (lsl_app _ _).symm
          rw [hcat2] at hsee2
          dsimp only at hsee2
          refine h.newS 1 (bs112 _ _) rfl rfl rfl ?_
          intro u w8 hu1 hu2 _ h
          refine h.app 8 0 (s := us) ⟨_, rfl, rfl⟩ (h.rd (k := 0) (i := 0) ⟨_, rfl, rfl⟩) (fun v hv => by simp at hv; subst hv; rfl) (by simp only [maxLen]; omega) (by omega) ?_
          intro us' w9 hus' h
          have h := h.drop 0
          dsimp only [delO, updG, setO] at h
          have eu2 : urow (U ++ [(d, a.ul ++ eb)]) = urow U ++ [slv d] := by simp [urow]
          have h : St w0 w9 (g2 :: B' :: (A'.drop (m + 1)).map An.ur :: bkE bb bs (A.map An.hd) n :: (A'.drop (m + 1)).map An.lr :: (D ++ g1) :: [.row 33 1 mo' (mrow (M ++ [(s, mkS m k)]))] :: [.row 51 1 us' (urow (U ++ [(d, a.ul ++ eb)]))] :: F) := by rw [eu2]; exact h
          have h := h.ord 6 [3, 4, 2, 1, 0, 5]
          dsimp only [pick, nthO, dropO] at h
          have h := joinAt [_, _, _, _] h
          have h := joinAt [_, _, _] h
          simp only [List.cons_append, List.nil_append] at h
          let D2 := ((D ++ g1) ++ g2) ++ B'
          have hD : ∀ (j : Nat) (hj : j < A'.length), P1 w0 D2 j A'[j] := fun j hj => (((hp1 j hj).more).more).more
          refine hk10 _ _ ⟨m + 1, mo', us', M ++ [(s, mkS m k)], U ++ [(d, a.ul ++ eb)], D2, rfl, by omega, by simp; omega, by simp; omega, hD, fun j hj h1 h2 => ?_, h⟩ (by dsimp only; omega)
          rcases Nat.lt_or_ge j m with hlt | hge
          · have q1 : (M ++ [(s, mkS m k)])[j]'h1 = M[j]'(by omega) := List.getElem_append_left (by omega)
            have q2 : (U ++ [(d, a.ul ++ eb)])[j]'h2 = U[j]'(by omega) := List.getElem_append_left (by omega)
            rw [q1, q2]
            exact (((hp2 j hj (by omega) (by omega)).more).more).more
          · have hjm : j = m := by simp at h1; omega
            subst hjm
            have q1 : (M ++ [(s, mkS j k)])[j]'h1 = (s, mkS j k) := by rw [List.getElem_append_right (by omega)]; simp [hMl]
            have q2 : (U ++ [(d, a.ul ++ eb)])[j]'h2 = (d, a.ul ++ eb) := by rw [List.getElem_append_right (by omega)]; simp [hUl]
            rw [q1, q2, ha]
            have hpa2 : P1 w0 D2 j a := ((hpa.more).more).more
            refine ⟨by show mkS j k = mkS j (mkS j k).length; rw [hml], by show (mkS j k).length ≤ _; omega, ((hsee.1.late).more).more, fun hn => ?_, fun i hi => ?_, by show (a.ul ++ eb).length ≤ _; rw [List.length_append]; omega, (hsee2.1.late).more, (hsee2.2.late).more, hpa2⟩
            · have hx := hXn hn
              rw [hx] at hsee
              exact ((hsee.2.late).more).more
            · have hi : i < (a.ul ++ eb).length := hi
              show (a.ul ++ eb)[i].2 = _ ∧ SeesX w0 D2 (a.ul ++ eb)[i].1 1 _
              rcases Nat.lt_or_ge i a.ul.length with hlt | hge
              · rw [List.getElem_append_left hlt]
                exact ⟨(hpa2.u i hlt).1, (hpa2.u i hlt).2⟩
              · rw [List.getElem_append_right hge]
                have hi3 : i - a.ul.length < eb.length := by rw [List.length_append] at hi; omega
                have h3 := heb (i - a.ul.length) hi3
                have : a.ul.length + (i - a.ul.length) = i := by omega
                rw [this] at h3
                exact ⟨h3.1, h3.2.late⟩
    · have hc : m = A.length := by have : ¬ (m : Int) < (bs.len : Int) := of_decide_eq_false hc
                                   omega
      subst hc
      clear hk10
      have h := h.ord 6 [0, 3, 4, 5]
      dsimp only [pick, nthO, dropO] at h
      refine LoopX.mk (fun st w' => ∃ m : Nat, st = ((m : Int), ()) ∧ m ≤ A.length ∧ St w0 w' (bkE bb bs (A.map An.hd) n :: D :: [.row 33 1 mo (mrow M)] :: [.row 51 1 us (urow U)] :: F)) (fun st => A.length - st.1.toNat) ⟨0, rfl, Nat.zero_le _, h⟩ ?_
      clear h hm2
      rintro _ w3 ⟨m, rfl, hm2, h⟩ k18 hk18
      dsimp only at hk18 ⊢
      refine NilP.mk ?_
      refine h.loadB 0 0 ⟨_, rfl, rfl⟩ rfl (kd := .sl) (x := bs) rfl ?_
      rw [SplitB_iff]
      refine ⟨fun hc => ?_, fun _ => ⟨rfl, _, h⟩⟩
      have hc : m < A.length := by have : (m : Int) < (bs.len : Int) := of_decide_eq_true hc
                                   omega
      have hcT : m < (A.map An.hd).length := by rw [List.length_map]; exact hc
      have hc1 : m < A'.length := by omega
      have hcM : m < M.length := by omega
      have hcU : m < U.length := by omega
      have hem : IntKind.i64.wrap ((m : Int) + 1) = ((m + 1 : Nat) : Int) := by rw [wr (by omega)]; omega
      rw [hem]
      have hpp := hp2 m hc1 hcM hcU
      have hf : Few A'[m] := hok' _ (List.getElem_mem hc1)
      have hT : (A.map An.hd)[m] = A'[m].hd := by rw [List.getElem_map]; exact (map_hd_at hA' hc1 hc).symm
      generalize ha : A'[m] = a at hpp hf hT
      have hMat := mrow_at hcM
      have hUat := urow_at hcU
      generalize hMm : M[m] = X at hpp hMat
      generalize hUm : U[m] = Y at hpp hUat
      have hT0 : (s3v (A.map An.hd)[m])[0]? = some (slv a.l) := by rw [hT]; rfl
      have hT2 : (s3v (A.map An.hd)[m])[2]? = some (slv a.up) := by rw [hT]; rfl
      have hv : IntKind.i64.wrap ((-1000) - (m : Int)) = -1000 - (m : Int) := wr (by omega)
      have hDat : ∀ {s : Sl} {sz : Nat} {vs : List Value}, SeesX w0 D s sz vs → ∀ {w' : World}, St w0 w' (bkE bb bs (A.map An.hd) n :: D :: [.row 33 1 mo (mrow M)] :: [.row 51 1 us (urow U)] :: F) → Rd w' s sz vs := fun hs w' h => hs.at 1 rfl w' h
      have hMr : ∀ {w' : World}, St w0 w' (bkE bb bs (A.map An.hd) n :: D :: [.row 33 1 mo (mrow M)] :: [.row 51 1 us (urow U)] :: F) → Rd w' mo 1 (mrow M) := fun h => h.rd (k := 2) (i := 0) (E := 33) (sz := 1) ⟨_, rfl, rfl⟩
      have hUr : ∀ {w' : World}, St w0 w' (bkE bb bs (A.map An.hd) n :: D :: [.row 33 1 mo (mrow M)] :: [.row 51 1 us (urow U)] :: F) → Rd w' us 1 (urow U) := fun h => h.rd (k := 3) (i := 0) (E := 51) (sz := 1) ⟨_, rfl, rfl⟩
      have hmol : mo.len = A.length := by
        have := (hMr h).1
        simp [mrow] at this; omega
      have husl : us.len = A.length := by
        have := (hUr h).1
        simp [urow] at this; omega
      have hXl : X.1.len = X.2.length := out_len (hDat hpp.ms h)
      have hYl : Y.1.len = Y.2.length := lsl_rd (hDat hpp.us h)
      have hupl : a.up.len = a.ul.length := lsl_rd (hDat hpp.up h)
      have hml := hpp.ml
      have hul := hpp.ul
      have hXm : X.2 = mkS m X.2.length := hpp.m
      have hXat : ∀ q (hq : q < X.2.length), X.2[q] = mS m q := fun q hq => by
        have h1 : X.2[q]? = (mkS m X.2.length)[q]? := by rw [← hXm]
        have h2 : q < (mkS m X.2.length).length := by rw [mkS_len]; exact hq
        rw [List.getElem?_eq_getElem hq, List.getElem?_eq_getElem h2, mkS_at h2] at h1
        simpa using h1
      refine LoopX.mk (fun st w' => ∃ q : Nat, st = ((q : Int), ()) ∧ q ≤ X.2.length ∧ St w0 w' (bkE bb bs (A.map An.hd) n :: D :: [.row 33 1 mo (mrow M)] :: [.row 51 1 us (urow U)] :: F)) (fun st => X.2.length - st.1.toNat) ⟨0, rfl, Nat.zero_le _, h⟩ ?_
      clear h
      rintro _ w4 ⟨q, rfl, hq, h⟩ k20 hk20
      dsimp only at hk20 ⊢
      refine (hMr h).idxK m rfl (by omega) ?_
      intro b1 o1 ha1
      refine (hMr h).el ha1 (m * 1) rfl (kd := .sl) (x := X.1) (by rw [Nat.mul_one]; exact hMat) ?_
      rw [SplitB_iff]
      refine ⟨fun hc2 => ?_, fun hc2 => ?_⟩
      · have hc2 : q < X.2.length := by have : (q : Int) < (X.1.len : Int) := of_decide_eq_true hc2
                                        omega
        have hem2 : IntKind.i64.wrap ((q : Int) + 1) = ((q + 1 : Nat) : Int) := by rw [wr (by omega)]; omega
        rw [hem2]
        refine JoinX.mk (fun (y : Bool × Unit) w' => y.1 = false ∧ St w0 w' (bkE bb bs (A.map An.hd) n :: D :: [.row 33 1 mo (mrow M)] :: [.row 51 1 us (urow U)] :: F)) ?_ ?_
        · clear h
          rintro ⟨y, ⟨⟩⟩ w5 ⟨hy, h⟩
          dsimp only at hy
          subst hy
          rw [SplitB_iff]
          exact ⟨fun hf => (by cases hf), fun _ => hk20 _ _ ⟨q + 1, rfl, by omega, h⟩ (by dsimp only; omega)⟩
        intro k21 hk21
        have hXr := hDat hpp.ms h
        refine (hMr h).idxK m rfl (by omega) ?_
        intro b2 o2 ha2
        refine (hMr h).el ha2 (m * 1) rfl (kd := .sl) (x := X.1) (by rw [Nat.mul_one]; exact hMat) ?_
        refine hXr.idxK q rfl (by omega) ?_
        intro b3' o3 ha3
        refine hXr.el ha3 (q * 5 + 2) (by rw [add_lit', Nat.add_assoc]) (kd := .int .i64) (x := -1000 - (m : Int)) (by rw [flat_cell sgv_len hc2 2 (by decide), hXat q hc2]; rfl) ?_
        rw [hv, SplitB_iff]
        refine ⟨fun hf => by simp at hf, fun _ => ?_⟩
        refine (hMr h).idxK m rfl (by omega) ?_
        intro b4 o4 ha4
        refine (hMr h).el ha4 (m * 1) rfl (kd := .sl) (x := X.1) (by rw [Nat.mul_one]; exact hMat) ?_
        refine hXr.idxK q rfl (by omega) ?_
        intro b5 o5 ha5
        refine hXr.el ha5 (q * 5 + 3) (by rw [add_lit', Nat.add_assoc]) (kd := .int .i64) (x := (q : Int)) (by rw [flat_cell sgv_len hc2 3 (by decide), hXat q hc2]; rfl) ?_
        rw [SplitB_iff]
        refine ⟨fun hf => by simp at hf, fun _ => ?_⟩
        refine bk_at h hcT 0 hT0 ?_
        rw [SplitB_iff]
        refine ⟨fun hl => ?_, fun _ => hk21 _ _ ⟨rfl, h⟩⟩
        refine bk_at51 h hcT 2 hT2 ?_
        refine nil51 ?_
        rw [SplitB_iff]
        refine ⟨fun hn => ?_, fun _ => hk21 _ _ ⟨rfl, h⟩⟩
        have hlr := hDat (hpp.l (isNil_iff.1 hn)) h
        have hll : a.l.len = a.gl.length := by have := out_len hlr; rw [mkS_len] at this; exact this
        have hql : q < (mkS m a.gl.length).length := by
          rw [mkS_len]
          have : (q : Int) < (a.l.len : Int) := of_decide_eq_true hl
          omega
        refine bk_at h hcT 0 hT0 ?_
        refine hlr.idxK q rfl (by rw [mkS_len] at hql; omega) ?_
        intro b6 o6 ha6
        refine hlr.el ha6 (q * 5 + 2) (by rw [add_lit', Nat.add_assoc]) (kd := .int .i64) (x := -1000 - (m : Int)) (by rw [flat_cell sgv_len hql 2 (by decide), mkS_at hql]; rfl) ?_
        rw [SplitB_iff]
        refine ⟨fun hf => by simp at hf, fun _ => ?_⟩
        refine bk_at h hcT 0 hT0 ?_
        refine hlr.idxK q rfl (by rw [mkS_len] at hql; omega) ?_
        intro b7 o7 ha7
        refine hlr.el ha7 (q * 5 + 3) (by rw [add_lit', Nat.add_assoc]) (kd := .int .i64) (x := (q : Int)) (by rw [flat_cell sgv_len hql 3 (by decide), mkS_at hql]; rfl) ?_
        exact hk21 _ _ ⟨by simp, h⟩
      · clear hk20
        refine LoopX.mk (fun st w' => ∃ q : Nat, st = ((q : Int), ()) ∧ q ≤ Y.2.length ∧ St w0 w' (bkE bb bs (A.map An.hd) n :: D :: [.row 33 1 mo (mrow M)] :: [.row 51 1 us (urow U)] :: F)) (fun st => Y.2.length - st.1.toNat) ⟨0, rfl, Nat.zero_le _, h⟩ ?_
        clear h hc2
        rintro _ w5 ⟨r, rfl, hr, h⟩ k24 hk24
        dsimp only at hk24 ⊢
        refine (hUr h).idxK m rfl (by omega) ?_
        intro b1 o1 ha1
        refine (hUr h).el ha1 (m * 1) rfl (kd := .sl) (x := Y.1) (by rw [Nat.mul_one]; exact hUat) ?_
        rw [SplitB_iff]
        refine ⟨fun hc2 => ?_, fun hc2 => ?_⟩
        · have hc2 : r < Y.2.length := by have : (r : Int) < (Y.1.len : Int) := of_decide_eq_true hc2
                                          omega
          have hem2 : IntKind.i64.wrap ((r : Int) + 1) = ((r + 1 : Nat) : Int) := by rw [wr (by omega)]; omega
          rw [hem2]
          refine h.newS 1 (bs45m _ _ _ _) rfl rfl rfl ?_
          intro u w6 hu1 hu2 _ hh
          rw [b3_v] at hh
          clear h
          have hwant : Rd w6 u 1 (bys (b3 m r)) := hh.rd (k := 0) (i := 0) (E := 5) (sz := 1) ⟨_, rfl, rfl⟩
          have h := hh.drop 0
          dsimp only [delO] at h
          refine JoinX.mk (fun (y : Bool × Unit) w' => y.1 = false ∧ St w0 w' (bkE bb bs (A.map An.hd) n :: D :: [.row 33 1 mo (mrow M)] :: [.row 51 1 us (urow U)] :: F)) ?_ ?_
          · clear h hh hwant
            rintro ⟨y, ⟨⟩⟩ w7 ⟨hy, h⟩
            dsimp only at hy
            subst hy
            rw [SplitB_iff]
            exact ⟨fun hf => (by cases hf), fun _ => hk24 _ _ ⟨r + 1, rfl, by omega, h⟩ (by dsimp only; omega)⟩
          intro k25 hk25
          have hYr := hDat hpp.us h
          have hy2 := hpp.u r hc2
          refine (hUr h).idxK m rfl (by omega) ?_
          intro b2 o2 ha2
          refine (hUr h).el ha2 (m * 1) rfl (kd := .sl) (x := Y.1) (by rw [Nat.mul_one]; exact hUat) ?_
          refine hYr.idxK r rfl (by omega) ?_
          intro b3' o3 ha3
          refine hYr.el ha3 (r * 1) rfl (kd := .sl) (x := Y.2[r].1) (by rw [Nat.mul_one]; exact lsl_at hc2) ?_
          refine (same_ok (hDat hy2.2 h) hwant).mono ?_
          rintro r3 w7 ⟨rfl, hr3⟩
          have hr3 : (r3 : Bool) = true := by rw [hr3]; exact decide_eq_true rfl
          rw [hr3, SplitB_iff]
          refine ⟨fun hf => (by cases hf), fun _ => ?_⟩
          refine bk_at51 h hcT 2 hT2 ?_
          rw [SplitB_iff]
          refine ⟨fun hl => ?_, fun _ => hk25 _ _ ⟨rfl, h⟩⟩
          have hl : r < a.ul.length := by have : (r : Int) < (a.up.len : Int) := of_decide_eq_true hl
                                          omega
          have hpr := hDat hpp.up h
          have hpu := hpp.a1.u r hl
          refine bk_at51 h hcT 2 hT2 ?_
          refine hpr.idxK r rfl (by omega) ?_
          intro b4 o4 ha4
          refine hpr.el ha4 (r * 1) rfl (kd := .sl) (x := a.ul[r].1) (by rw [Nat.mul_one]; exact lsl_at hl) ?_
          refine (same_ok (hDat hpu.2 h) hwant).mono ?_
          rintro r4 w8 ⟨rfl, hr4⟩
          have hr4 : (r4 : Bool) = true := by rw [hr4]; exact decide_eq_true rfl
          rw [hr4]
          exact hk25 _ _ ⟨rfl, h⟩
        · exact hk18 _ _ ⟨m + 1, rfl, by omega, h⟩ (by dsimp only; omega)
end Go.Proofs.Ytodgnpmljdopiaa
