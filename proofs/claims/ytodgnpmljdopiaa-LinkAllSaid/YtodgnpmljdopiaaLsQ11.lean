/- Words and steps, part 11: The kept answers are as they were; marked and grown they hold their marks. A script at both ends of a pair. LinkSends and LinkAll. What a law of the link reads of its arguments: a script of calls. -/
import Derived.Test.YtodgnpmljdopiaaLsQ10
/- The kept answers are as they were; marked and grown they hold their marks. -/
namespace Go.Proofs.Ytodgnpmljdopiaa
open Go Go.Fw Go.RowKit
set_option linter.unusedVariables false
set_option linter.unusedSimpArgs false
set_option maxRecDepth 4000
set_option maxHeartbeats 8000000
variable {w0 w : World} {F G : Grps}

theorem holds_st {p : Sl} {i k : Nat} (hp : Rd w p 1 (bys (mark i k))) (hi : i ≤ 100000000) (hk : k ≤ 1000000) : CallK Try.prog .bool 51 #[.slice p.a p.len p.cap, .int .i64 (i : Int)] w fun (v : Bool) w' => v = true ∧ w' = w := by
  have hl := hp.bys_len
  rw [mark_len] at hl
  refine T51.calls ?_
  unfold T51
  refine LoopX.mk (fun st w' => ∃ m : Nat, st = ((m : Int), ()) ∧ m ≤ k ∧ w' = w) (fun st => k - st.1.toNat) ⟨0, rfl, Nat.zero_le _, rfl⟩ ?_
  rintro _ _ ⟨m, rfl, hm, rfl⟩ k2 hk2
  dsimp only at hk2 ⊢
  rw [SplitB_iff]
  refine ⟨fun hc => ?_, fun _ => ⟨rfl, rfl⟩⟩
  have hc : m < k := by have : (m : Int) < (p.len : Int) := of_decide_eq_true hc
                        omega
  have hem : IntKind.i64.wrap ((m : Int) + 1) = ((m + 1 : Nat) : Int) := by rw [wr (by omega)]; omega
  rw [hem]
  refine hp.idxK m rfl (by omega) ?_
  intro b o ha
  have hcm : m < (mark i k).length := by rw [mark_len]; exact hc
  have hval : (mark i k)[m] = UInt8.ofNat (i + m) := by
    have h1 := mark_at (i := i) hc
    rw [List.getElem?_eq_getElem hcm] at h1
    simpa using h1
  refine hp.el ha (m * 1) rfl (kd := .int .u8) (x := ((mark i k)[m].toNat : Int)) (by rw [Nat.mul_one]; exact bys_get hcm) ?_
  have hv : IntKind.u8.wrap (IntKind.i64.wrap ((i : Int) + (m : Int))) = ((mark i k)[m].toNat : Int) := by
    rw [wr (by omega), hval, ← u8_of]
    congr 1
  rw [hv, SplitB_iff]
  refine ⟨fun hf => by simp at hf, fun _ => ?_⟩
  exact hk2 _ _ ⟨m + 1, rfl, by omega, rfl⟩ (by dsimp only; omega)
theorem mark_snoc (i n : Nat) : mark i (n + 1) = mark i n ++ [UInt8.ofNat (i + n)] := by simp [mark, List.range_succ]
/-- Lists that are marked and grown. -/
structure Gr (D : List Ent) (i : Nat) (b g : Bs) : Prop where
  sb : Sees8 D b
  sg : Sees8 D g
  bm : b.2 = mark i b.2.length
  gm : g.2 = mark i g.2.length
  gl : g.2.length ≤ 5000
theorem Gr.more {D m : List Ent} {i : Nat} {b g : Bs} (h : Gr D i b g) : Gr (D ++ m) i b g := ⟨h.sb.more, h.sg.more, h.bm, h.gm, h.gl⟩
theorem ds_snoc (A : List An) {m : Nat} (hm : m < A.length) : (A.take (m + 1)).flatMap An.ds = (A.take m).flatMap An.ds ++ A[m].ds := by
  rw [List.take_succ_eq_append_getElem hm, List.flatMap_append]; simp
theorem ds_len {A : List An} (h : ∀ a ∈ A, a.gl.length ≤ 1000) : (A.flatMap An.ds).length ≤ A.length * 1000 := by
  induction A with
  | nil => simp
  | cons a r ih =>
    have h1 := h a (List.mem_cons_self ..)
    have h2 := ih fun b hb => h b (List.mem_cons_of_mem _ hb)
    rw [List.flatMap_cons, List.length_append, List.length_cons]
    have : a.ds.length = a.gl.length := by simp [An.ds]
    omega
theorem apart_st {n bb : Nat} {y : Bk} (h : St w0 w (bkG bb y F)) (hB : BkI w0 n y) : CallK Try.prog .bool 30 #[.pointer (some ⟨bb, 0, none⟩)] w fun (v : Bool) w' => v = true ∧ ∃ G, St w0 w' G := by
  have hA := hB.few
  have hbl : y.bs.len = y.A.length := by
    have := bk_len (h.rd (k := 0) (i := 1) (E := 101) (sz := 3) (s := y.bs) (vs := (y.A.map An.hd).flatMap s3v) ⟨_, rfl, rfl⟩)
    rw [List.length_map] at this; exact this
  have hdl : (y.A.flatMap An.ds).length ≤ 120000 := by
    have := ds_len (A := y.A) fun a ha => (hB.ok a ha).few
    omega
  refine T30.calls ?_
  unfold T30
  have h := h.nilrow 45 1
  have h := h.ord 2 [1, 0]
  dsimp only [bkG, pick, nthO, dropO] at h
  refine LoopX.mk (fun st w' => ∃ (m : Nat) (s : Sl), st = (s, (m : Int), ()) ∧ m ≤ y.A.length ∧ St w0 w' (bkE bb y.bs (y.A.map An.hd) y.n :: [.row 45 1 s (lsl ((y.A.take m).flatMap An.ds))] :: y.A.map An.lr :: y.A.map An.ur :: (y.A.flatMap An.ds).map brow :: y.H :: F)) (fun st => y.A.length - st.2.1.toNat) ⟨0, _, rfl, Nat.zero_le _, h⟩ ?_
  clear h
  rintro _ w1 ⟨m, s, rfl, hm, h⟩ k2 hk2
  dsimp only at hk2 ⊢
  refine NilP.mk ?_
  refine h.loadB 0 0 ⟨_, rfl, rfl⟩ rfl (kd := .sl) (x := y.bs) rfl ?_
  rw [SplitB_iff]
  refine ⟨fun hc => ?_, fun hc => ?_⟩
  · have hc : m < y.A.length := by have : (m : Int) < (y.bs.len : Int) := of_decide_eq_true hc
                                   omega
    have hem : IntKind.i64.wrap ((m : Int) + 1) = ((m + 1 : Nat) : Int) := by rw [wr (by omega)]; omega
    rw [hem]
    have hcT : m < (y.A.map An.hd).length := by rw [List.length_map]; exact hc
    have ha := hB.ok _ (List.getElem_mem hc)
    have hmem := List.getElem_mem hc
    have hsn := ds_snoc y.A hc
    have hT : (y.A.map An.hd)[m] = y.A[m].hd := by rw [List.getElem_map]
    have hall : (y.A.take (m + 1)).flatMap An.ds = (y.A.take m).flatMap An.ds ++ y.A[m].ds := hsn
    have hpre : ((y.A.take (m + 1)).flatMap An.ds).length ≤ 120000 := by
      have h1 : (y.A.take (m + 1)).length ≤ 120 := by rw [List.length_take]; omega
      have := ds_len (A := y.A.take (m + 1)) fun a ha => (hB.ok a (List.mem_of_mem_take ha)).few
      omega
    generalize y.A[m] = a at ha hmem hT hall hsn
    have hbr := h.rd (k := 0) (i := 1) (E := 101) (sz := 3) (s := y.bs) (vs := (y.A.map An.hd).flatMap s3v) ⟨_, rfl, rfl⟩
    refine NilP.mk ?_
    refine h.loadB 0 0 ⟨_, rfl, rfl⟩ rfl (kd := .sl) (x := y.bs) rfl ?_
    refine hbr.idxK m rfl (by omega) ?_
    intro b0 o0 ha0
    refine hbr.elA ha0 (m * 3) rfl (kd := .agg (.cons .sl (.cons .sl (.cons .sl .nilT)))) (a.l, a.want, a.up, ()) (ds := s3v a.hd) (by rw [← hT]; exact flat_at s3v_len _ _ hcT) ?_
    refine h.newB (NewC.run _) rfl ?_
    intro c5 w2 h
    refine h.storA (P := Try.prog) 0 0 (b := c5) ⟨_, rfl, rfl⟩ (t' := 101) (n := 3) (j := 0) rfl (ds := s3v a.hd) rfl rfl rfl ?_
    intro w3 h
    dsimp only [updG, setO] at h
    have h : St w0 w3 ([.cel c5 101 (s3v a.hd)] :: bkE bb y.bs (y.A.map An.hd) y.n :: [.row 45 1 s (lsl ((y.A.take m).flatMap An.ds))] :: y.A.map An.lr :: y.A.map An.ur :: (y.A.flatMap An.ds).map brow :: y.H :: F) := h
    refine h.loadB 0 0 ⟨_, rfl, rfl⟩ rfl (kd := .sl) (x := a.l) rfl ?_
    refine h.loadB 0 0 ⟨_, rfl, rfl⟩ rfl (kd := .sl) (x := a.want) rfl ?_
    refine (all_st h (rowG (E := 62) (s := a.l) (vs := a.gl.flatMap sgv) 3 rfl (List.mem_map.2 ⟨a, hmem, rfl⟩)) (ha.rw.at 6 rfl) (fun g hg => rowG (E := 5) 5 rfl (List.mem_map.2 ⟨g.d, List.mem_flatMap.2 ⟨a, hmem, List.mem_map.2 ⟨g, hg, rfl⟩⟩, rfl⟩)) (fun g hg => (ha.rd g hg).at 6 rfl) ha.pl (by have := ha.few; omega)).mono ?_
    intro (v : Bool) w4 ⟨hv, h⟩
    rw [hv, SplitB_iff]
    refine ⟨fun hf => (by cases hf), fun _ => ?_⟩
    have hll : ∀ {w' : World} {Z : List Ent}, St w0 w' ([.cel c5 101 (s3v a.hd)] :: bkE bb y.bs (y.A.map An.hd) y.n :: Z :: y.A.map An.lr :: y.A.map An.ur :: (y.A.flatMap An.ds).map brow :: y.H :: F) → Rd w' a.l 5 (a.gl.flatMap sgv) := fun h =>
      (rowG (E := 62) (s := a.l) (vs := a.gl.flatMap sgv) 3 rfl (List.mem_map.2 ⟨a, hmem, rfl⟩)) _ h
    have hgl := ha.few
    have hln := out_len (hll h)
    have hdsl : a.ds.length = a.gl.length := by simp [An.ds]
    refine LoopX.mk (fun st w' => ∃ (q : Nat) (s' : Sl), st = (s', (q : Int), ()) ∧ q ≤ a.gl.length ∧ St w0 w' ([.cel c5 101 (s3v a.hd)] :: bkE bb y.bs (y.A.map An.hd) y.n :: [.row 45 1 s' (lsl ((y.A.take m).flatMap An.ds ++ a.ds.take q))] :: y.A.map An.lr :: y.A.map An.ur :: (y.A.flatMap An.ds).map brow :: y.H :: F)) (fun st => a.gl.length - st.2.1.toNat) ⟨0, s, rfl, Nat.zero_le _, by rw [List.take_zero, List.append_nil]; exact h⟩ ?_
    clear h
    rintro _ w5 ⟨q, s', rfl, hq, h⟩ k4 hk4
    dsimp only at hk4 ⊢
    refine h.loadB 0 0 ⟨_, rfl, rfl⟩ rfl (kd := .sl) (x := a.l) rfl ?_
    rw [SplitB_iff]
    refine ⟨fun hc2 => ?_, fun hc2 => ?_⟩
    · have hc2 : q < a.gl.length := by have : (q : Int) < (a.l.len : Int) := of_decide_eq_true hc2
                                       omega
      have hem2 : IntKind.i64.wrap ((q : Int) + 1) = ((q + 1 : Nat) : Int) := by rw [wr (by omega)]; omega
      rw [hem2]
      refine h.loadB 0 0 ⟨_, rfl, rfl⟩ rfl (kd := .sl) (x := a.l) rfl ?_
      refine (hll h).idxK q rfl (by omega) ?_
      intro b1 o1 ha1
      refine (hll h).el ha1 (q * 5 + 4) (by rw [add_lit', Nat.add_assoc]) (kd := .sl) (x := a.gl[q].d.1) (by rw [flat_cell sgv_len hc2 4 (by decide)]; rfl) ?_
      refine h.newS 1 (bs51 _ _ _ _) rfl rfl rfl ?_
      intro u w6 hu1 hu2 _ h
      have hsl := lsl_rd (h.rd (k := 3) (i := 0) (E := 45) (sz := 1) (s := s') (vs := lsl ((y.A.take m).flatMap An.ds ++ a.ds.take q)) ⟨_, rfl, rfl⟩)
      have hsn2 : s'.len ≤ 120000 := by
        rw [hall, List.length_append] at hpre
        rw [List.length_append, List.length_take] at hsl
        omega
      refine h.app 3 0 (s := s') ⟨_, rfl, rfl⟩ (h.rd (k := 0) (i := 0) ⟨_, rfl, rfl⟩) (fun v hv => by simp at hv; subst hv; rfl) (by simp only [maxLen]; omega) (by omega) ?_
      intro s2 w7 hl2 h
      have h := h.drop 0
      dsimp only [delO, updG, setO] at h
      have e1 : lsl ((y.A.take m).flatMap An.ds ++ a.ds.take (q + 1)) = lsl ((y.A.take m).flatMap An.ds ++ a.ds.take q) ++ [.slice a.gl[q].d.1.a a.gl[q].d.1.len a.gl[q].d.1.cap] := by
        rw [List.take_succ_eq_append_getElem (by omega), ← List.append_assoc]
        have : a.ds[q]'(by omega) = a.gl[q].d := by simp [An.ds]
        rw [this]; exact lsl_snoc _ _
      exact hk4 _ _ ⟨q + 1, s2, rfl, by omega, by rw [e1]; exact h⟩ (by dsimp only; omega)
    · have hc2 : q = a.gl.length := by have : ¬ (q : Int) < (a.l.len : Int) := of_decide_eq_false hc2
                                       omega
      subst hc2
      have h := h.drop 0
      dsimp only [delO] at h
      refine hk2 _ _ ⟨m + 1, s', rfl, by omega, ?_⟩ (by dsimp only; omega)
      have hds : a.ds.take a.gl.length = a.ds := by rw [← hdsl, List.take_length]
      rw [hds, ← hall] at h
      exact h
  · have hc : m = y.A.length := by have : ¬ (m : Int) < (y.bs.len : Int) := of_decide_eq_false hc
                                   omega
    subst hc
    clear hk2
    rw [List.take_length] at h
    have hlens : ∀ b ∈ y.A.flatMap An.ds, b.2.length ≤ 4000 := fun b hb => by
      obtain ⟨a, ha, hb⟩ := List.mem_flatMap.1 hb
      obtain ⟨g, hg, rfl⟩ := List.mem_map.1 hb
      exact (hB.ok a ha).lens g hg
    have h := h.ord 6 [1, 4, 0, 2, 3, 5]
    dsimp only [pick, nthO, dropO] at h
    have hfew' : ∀ a ∈ y.A, Few a := fun a ha => ⟨(hB.ok a ha).few, (hB.ok a ha).ufew, (hB.ok a ha).kind⟩
    generalize y.A.flatMap An.ds = D at h hdl hlens
    have hol : s.len = D.length := lsl_rd (h.rd (k := 0) (i := 0) (E := 45) (sz := 1) (s := s) (vs := lsl D) ⟨_, rfl, rfl⟩)
    refine LoopX.mk (fun st w' => ∃ (m : Nat) (D' : List Bs), st = ((m : Int), ()) ∧ m ≤ D.length ∧ D'.map (·.1) = D.map (·.1) ∧ (∀ b ∈ D', b.2.length ≤ 4000) ∧ (∀ (i : Nat) (hi : i < D'.length), i < m → D'[i].2 = mark (7 * i) D'[i].2.length) ∧
      St w0 w' ([.row 45 1 s (lsl D)] :: D'.map brow :: bkE bb y.bs (y.A.map An.hd) y.n :: y.A.map An.lr :: y.A.map An.ur :: y.H :: F)) (fun st => D.length - st.1.toNat) ⟨0, D, rfl, Nat.zero_le _, rfl, hlens, fun i hi h0 => absurd h0 (Nat.not_lt_zero _), h⟩ ?_
    clear h
    rintro _ w1 ⟨m, D1, rfl, hm, hD1, hlen1, hmk, h⟩ k hk
    dsimp only at hk ⊢
    have hDl : D1.length = D.length := by have := congrArg List.length hD1; simpa using this
    have hls := lsl_of hD1
    rw [SplitB_iff]
    refine ⟨fun hc => ?_, fun hc => ?_⟩
    · have hc : m < D.length := by have : (m : Int) < (s.len : Int) := of_decide_eq_true hc
                                   omega
      have hc1 : m < D1.length := by omega
      have hem : IntKind.i64.wrap ((m : Int) + 1) = ((m + 1 : Nat) : Int) := by rw [wr (by omega)]; omega
      have h7 : IntKind.i64.wrap (7 * (m : Int)) = ((7 * m : Nat) : Int) := by rw [wr (by omega)]; omega
      rw [hem, h7]
      have hbl := hlen1 _ (List.getElem_mem hc1)
      let Q : Nat → List Bs := fun q => D1.set m (D1[m].1, mark (7 * m) q ++ D1[m].2.drop q)
      have hQ0 : Q 0 = D1 := by
        show D1.set m _ = D1
        have : (D1[m].1, mark (7 * m) 0 ++ D1[m].2.drop 0) = D1[m] := by simp [mark]
        rw [this]; exact List.set_getElem_self hc1
      have hQf : ∀ q, (Q q).map (·.1) = D.map (·.1) := fun q => (set_fst hc1 _).trans hD1
      have hQl : ∀ q, (Q q).length = D1.length := fun q => by simp [Q]
      have hQm : ∀ q, (Q q)[m]'(by rw [hQl]; exact hc1) = (D1[m].1, mark (7 * m) q ++ D1[m].2.drop q) := fun q => by simp [Q]
      refine LoopX.mk (fun st w' => ∃ q : Nat, st = ((q : Int), ()) ∧ q ≤ D1[m].2.length ∧ St w0 w' ([.row 45 1 s (lsl D)] :: (Q q).map brow :: bkE bb y.bs (y.A.map An.hd) y.n :: y.A.map An.lr :: y.A.map An.ur :: y.H :: F)) (fun st => D1[m].2.length - st.1.toNat) ⟨0, rfl, Nat.zero_le _, by rw [hQ0]; exact h⟩ ?_
      clear h
      rintro _ w2 ⟨q, rfl, hq, h⟩ k4 hk4
      dsimp only at hk4 ⊢
      have hr : Rd w2 s 1 (lsl D) := h.rd (k := 0) (i := 0) (E := 45) (sz := 1) (s := s) (vs := lsl D) ⟨_, rfl, rfl⟩
      have hat : (lsl D)[m * 1]? = some (Value.slice D1[m].1.a D1[m].1.len D1[m].1.cap) := by rw [Nat.mul_one, ← hls]; exact lsl_at hc1
      have hgm := brow_at (l := Q q) (i := m) (by rw [hQl]; exact hc1)
      rw [hQm] at hgm
      have hbr : Rd w2 D1[m].1 1 (bys (mark (7 * m) q ++ D1[m].2.drop q)) := h.rd (k := 1) (i := m) (E := 5) (sz := 1) ⟨_, rfl, hgm⟩
      have hbn := hbr.bys_len
      have hln : (mark (7 * m) q ++ D1[m].2.drop q).length = D1[m].2.length := by simp [mark]; omega
      refine hr.idxK m rfl (by omega) ?_
      intro b0 o0 ha
      refine hr.el ha (m * 1) rfl (kd := .sl) (x := D1[m].1) hat ?_
      rw [SplitB_iff]
      refine ⟨fun hc2 => ?_, fun hc2 => ?_⟩
      · have hc2 : q < D1[m].2.length := by have : (q : Int) < (D1[m].1.len : Int) := of_decide_eq_true hc2
                                            omega
        have hem2 : IntKind.i64.wrap ((q : Int) + 1) = ((q + 1 : Nat) : Int) := by rw [wr (by omega)]; omega
        rw [hem2]
        refine hr.idxK m rfl (by omega) ?_
        intro b1 o1 ha1
        refine hr.el ha1 (m * 1) rfl (kd := .sl) (x := D1[m].1) hat ?_
        refine hbr.idxK q rfl (by omega) ?_
        intro b2 o2 ha2
        have hv : IntKind.u8.wrap (IntKind.i64.wrap (((7 * m : Nat) : Int) + (q : Int))) = ((UInt8.ofNat (7 * m + q)).toNat : Int) := by
          rw [wr (by omega), ← u8_of]
          congr 1
        rw [hv]
        refine h.storR 1 m ⟨_, rfl, hgm⟩ ha2 (q * 1) rfl (by rw [bys_length, hln]; omega) rfl ?_
        intro w3 h
        have e1 : (bys (mark (7 * m) q ++ D1[m].2.drop q)).set (q * 1) (.int .u8 ((UInt8.ofNat (7 * m + q)).toNat : Int)) = bys (mark (7 * m) (q + 1) ++ D1[m].2.drop (q + 1)) := by
          rw [Nat.mul_one]
          exact (bys_set _ _ _).trans (congrArg bys (mark_step hc2))
        rw [e1] at h
        dsimp only [updG] at h
        have e2 : setO ((Q q).map brow) m (.row 5 1 D1[m].1 (bys (mark (7 * m) (q + 1) ++ D1[m].2.drop (q + 1)))) = (Q (q + 1)).map brow := by
          refine (brow_set (Q q) m (D1[m].1, mark (7 * m) (q + 1) ++ D1[m].2.drop (q + 1))).trans ?_
          simp [Q]
        rw [e2] at h
        exact hk4 _ _ ⟨q + 1, rfl, by omega, h⟩ (by dsimp only; omega)
      · have hc2 : q = D1[m].2.length := by have : ¬ (q : Int) < (D1[m].1.len : Int) := of_decide_eq_false hc2
                                            omega
        subst hc2
        have hfin : (Q D1[m].2.length)[m]'(by rw [hQl]; exact hc1) = (D1[m].1, mark (7 * m) D1[m].2.length) := by rw [hQm, List.drop_length, List.append_nil]
        refine hk _ _ ⟨m + 1, Q D1[m].2.length, rfl, by omega, hQf _, fun b hb => ?_, fun i hi him => ?_, h⟩ (by dsimp only; omega)
        · rcases List.mem_or_eq_of_mem_set hb with hb | rfl
          · exact hlen1 b hb
          · rw [hln]; exact hbl
        · rcases Nat.lt_or_ge i m with hlt | hge
          · have : (Q D1[m].2.length)[i] = D1[i]'(by rw [hQl] at hi; exact hi) := by
              simp only [Q]
              rw [List.getElem_set_ne (by omega)]
            rw [this]
            exact hmk i _ hlt
          · have : i = m := by omega
            subst this
            rw [hfin, mark_len]
    · have hc : m = D.length := by have : ¬ (m : Int) < (s.len : Int) := of_decide_eq_false hc
                                   omega
      subst hc
      clear hk
      have hmk : ∀ (i : Nat) (hi : i < D1.length), D1[i].2 = mark (7 * i) D1[i].2.length := fun i hi => hmk i hi (by omega)
      rw [← hls] at h
      have h := h.nilrow 45 1
      have h := St.empty.2 h
      have h := h.ord 4 [2, 3, 0, 1]
      dsimp only [pick, nthO, dropO] at h
      refine LoopX.mk (fun st w' => ∃ (m : Nat) (gs : Sl) (R : List Bs) (gd : List Ent), st = (gs, (m : Int), ()) ∧ m ≤ D.length ∧ R.length = m ∧ (∀ (i : Nat) (hi : i < D1.length) (hr : i < R.length), Gr gd (7 * i) D1[i] R[i]) ∧ St w0 w' ([.row 45 1 s (lsl D1)] :: (D1.drop m).map brow :: gd :: [.row 45 1 gs (lsl R)] :: bkE bb y.bs (y.A.map An.hd) y.n :: y.A.map An.lr :: y.A.map An.ur :: y.H :: F)) (fun st => D.length - st.2.1.toNat) ⟨0, _, [], [], rfl, Nat.zero_le _, rfl, fun i hi hr => absurd hr (Nat.not_lt_zero _), h⟩ ?_
      clear h
      rintro _ w2 ⟨m, gs, R, gd, rfl, hm, hRl, hgd, h⟩ k6 hk6
      dsimp only at hk6 ⊢
      have hgsl : gs.len = R.length := lsl_rd (h.rd (k := 3) (i := 0) (E := 45) (sz := 1) (s := gs) (vs := lsl R) ⟨_, rfl, rfl⟩)
      rw [SplitB_iff]
      refine ⟨fun hc => ?_, fun hc => ?_⟩
      · have hc : m < D.length := by have : (m : Int) < (s.len : Int) := of_decide_eq_true hc
                                     omega
        have hc1 : m < D1.length := by omega
        have hem : IntKind.i64.wrap ((m : Int) + 1) = ((m + 1 : Nat) : Int) := by rw [wr (by omega)]; omega
        have h7 : IntKind.i64.wrap (7 * (m : Int)) = ((7 * m : Nat) : Int) := by rw [wr (by omega)]; omega
        rw [hem, h7]
        have hbl := hlen1 _ (List.getElem_mem hc1)
        have hbm := hmk m hc1
        have hat : (lsl D1)[m * 1]? = some (Value.slice D1[m].1.a D1[m].1.len D1[m].1.cap) := by rw [Nat.mul_one]; exact lsl_at hc1
        have hr := h.rd (k := 0) (i := 0) (E := 45) (sz := 1) (s := s) (vs := lsl D1) ⟨_, rfl, rfl⟩
        refine hr.idxK m rfl (by omega) ?_
        intro b0 o0 ha
        refine hr.el ha (m * 1) rfl (kd := .sl) (x := D1[m].1) hat ?_
        have e1 : (D1.drop m).map brow = brow D1[m] :: (D1.drop (m + 1)).map brow := by rw [List.drop_eq_getElem_cons hc1]; rfl
        rw [e1] at h
        have h := h.ord 2 [1, 0]
        dsimp only [pick, nthO, dropO] at h
        have h := St.one.1 h
        have hbr := h.rd (k := 0) (i := 0) (E := 5) (sz := 1) (s := D1[m].1) (vs := bys D1[m].2) ⟨_, rfl, rfl⟩
        have hcap : D1[m].1.len ≤ D1[m].1.cap := hbr.2.2
        have hbn := hbr.bys_len
        have hg0 := Grow.start (E := 5) h
        refine LoopX.mk (fun st w' => ∃ (q : Nat) (d : Sl) (e : List UInt8), st = (d, ((D1[m].2.length + q : Nat) : Int), ()) ∧ q ≤ 100 ∧ e.length = q ∧ D1[m].2 ++ e = mark (7 * m) (D1[m].2.length + q) ∧ Grow 5 w0 w' D1[m].1 D1[m].2 d e ((D1.drop (m + 1)).map brow :: [.row 45 1 s (lsl D1)] :: gd :: [.row 45 1 gs (lsl R)] :: bkE bb y.bs (y.A.map An.hd) y.n :: y.A.map An.lr :: y.A.map An.ur :: y.H :: F)) (fun st => D1[m].2.length + 100 - st.2.1.toNat) ⟨0, D1[m].1, [], by rw [hbn]; rfl, Nat.zero_le _, rfl, by rw [List.append_nil]; exact hbm, hg0⟩ ?_
        clear h hg0 hbr hr
        rintro _ w3 ⟨q, d, e, rfl, hq, hel, hde, hgr⟩ k8 hk8
        dsimp only at hk8 ⊢
        have hdlen := hgr.2.1
        have hin : ∀ {Z : List Ent}, True := fun {_} => trivial
        have hst : ∃ Y : List Ent, St w0 w3 (Y :: (D1.drop (m + 1)).map brow :: [.row 45 1 s (lsl D1)] :: gd :: [.row 45 1 gs (lsl R)] :: bkE bb y.bs (y.A.map An.hd) y.n :: y.A.map An.lr :: y.A.map An.ur :: y.H :: F) := by
          rcases hgr.2.2 with ⟨_, _, h⟩ | h
          · exact ⟨_, h⟩
          · exact ⟨_, h⟩
        obtain ⟨Y, hst⟩ := hst
        have hr := hst.rd (k := 2) (i := 0) (E := 45) (sz := 1) (s := s) (vs := lsl D1) ⟨_, rfl, rfl⟩
        refine hr.idxK m rfl (by omega) ?_
        intro b1 o1 ha1
        refine hr.el ha1 (m * 1) rfl (kd := .sl) (x := D1[m].1) hat ?_
        have h100 : IntKind.i64.wrap ((D1[m].1.len : Int) + 100) = ((D1[m].2.length + 100 : Nat) : Int) := by rw [wr (by omega)]; omega
        rw [h100, SplitB_iff]
        refine ⟨fun hc2 => ?_, fun hc2 => ?_⟩
        · have hc2 : q < 100 := by have : (d.len : Int) < ((D1[m].2.length + 100 : Nat) : Int) := of_decide_eq_true hc2
                                   omega
          have hem2 : IntKind.i64.wrap (((D1[m].2.length + q : Nat) : Int) + 1) = ((D1[m].2.length + (q + 1) : Nat) : Int) := by rw [wr (by omega)]; omega
          have hv : IntKind.u8.wrap (IntKind.i64.wrap (((7 * m : Nat) : Int) + ((D1[m].2.length + q : Nat) : Int))) = ((UInt8.ofNat (7 * m + (D1[m].2.length + q))).toNat : Int) := by
            rw [wr (by omega), ← u8_of]
            congr 1
          rw [hem2, hv]
          refine hgr.app (fun w x => bs45 w x) _ (UInt8.ofNat (7 * m + (D1[m].2.length + q))) rfl (by omega) ?_
          intro d' w4 hgr'
          refine hk8 _ _ ⟨q + 1, d', _, rfl, by omega, by simp; omega, ?_, hgr'⟩ (by dsimp only; omega)
          rw [← List.append_assoc, hde]
          exact (mark_snoc _ _).symm
        · have hc2 : q = 100 := by have : ¬ (d.len : Int) < ((D1[m].2.length + 100 : Nat) : Int) := of_decide_eq_false hc2
                                   omega
          subst hc2
          clear hk8 hst
          obtain ⟨g1, hfar, h⟩ := hgr.far hcap
          rw [hde] at hfar
          refine h.newS 1 (bs51 _ _ _ _) rfl rfl rfl ?_
          intro u w4 hu1 hu2 _ h
          refine h.app 5 0 (s := gs) ⟨_, rfl, rfl⟩ (h.rd (k := 0) (i := 0) ⟨_, rfl, rfl⟩) (fun v hv => by simp at hv; subst hv; rfl) (by simp only [maxLen]; omega) (by omega) ?_
          intro gs' w5 hl5 h
          have h := h.drop 0
          dsimp only [delO, updG, setO] at h
          have e2 : lsl (R ++ [(d, mark (7 * m) (D1[m].2.length + 100))]) = lsl R ++ [.slice d.a d.len d.cap] := lsl_snoc _ _
          have h := h.ord 4 [2, 1, 0, 3]
          dsimp only [pick, nthO, dropO] at h
          have h := joinAt [_, _] h
          simp only [List.cons_append, List.nil_append] at h
          refine hk6 _ _ ⟨m + 1, gs', R ++ [(d, mark (7 * m) (D1[m].2.length + 100))], gd ++ g1, rfl, by omega, by simp; omega, fun i hi hri => ?_, by rw [e2]; exact h⟩ (by dsimp only; omega)
          rcases Nat.lt_or_ge i R.length with hlt | hge
          · rw [List.getElem_append_left hlt]
            exact (hgd i hi hlt).more
          · have hiR : i = R.length := by simp at hri; omega
            have him : i = m := by omega
            have e3 : (R ++ [(d, mark (7 * m) (D1[m].2.length + 100))])[i]'hri = (d, mark (7 * m) (D1[m].2.length + 100)) := by
              rw [List.getElem_append_right hge]; simp [hiR]
            rw [e3]
            subst him
            refine ⟨Sees8.late fun wa wb Fa hs => (hfar.reads hs (k := 0) rfl (fun e he => he)).2, Sees8.late fun wa wb Fa hs => (hfar.reads hs (k := 0) rfl (fun e he => he)).1, hbm, by dsimp only; rw [mark_len], by dsimp only; rw [mark_len]; omega⟩
      · have hc : m = D.length := by have : ¬ (m : Int) < (s.len : Int) := of_decide_eq_false hc
                                     omega
        subst hc
        clear hk6
        have h := h.ord 7 [4, 5, 6, 0, 2, 3]
        dsimp only [pick, nthO, dropO] at h
        refine LoopX.mk (fun st w' => ∃ m : Nat, st = ((m : Int), ()) ∧ m ≤ D.length ∧ St w0 w' (bkE bb y.bs (y.A.map An.hd) y.n :: y.A.map An.lr :: y.A.map An.ur :: [.row 45 1 s (lsl D1)] :: gd :: [.row 45 1 gs (lsl R)] :: y.H :: F)) (fun st => D.length - st.1.toNat) ⟨0, rfl, Nat.zero_le _, h⟩ ?_
        clear h hm
        rintro _ w3 ⟨m, rfl, hm, h⟩ k14 hk14
        dsimp only at hk14 ⊢
        rw [SplitB_iff]
        refine ⟨fun hc => ?_, fun hc => ?_⟩
        · have hc : m < D.length := by have : (m : Int) < (s.len : Int) := of_decide_eq_true hc
                                       omega
          have hc1 : m < D1.length := by omega
          have hcR : m < R.length := by omega
          have hem : IntKind.i64.wrap ((m : Int) + 1) = ((m + 1 : Nat) : Int) := by rw [wr (by omega)]; omega
          have h7 : IntKind.i64.wrap (7 * (m : Int)) = ((7 * m : Nat) : Int) := by rw [wr (by omega)]; omega
          rw [hem, h7]
          have hg := hgd m hc1 hcR
          have hbl := hlen1 _ (List.getElem_mem hc1)
          have hsee : ∀ b : Bs, Sees8 gd b → Rd w3 b.1 1 (bys b.2) := fun b hb => hb _ _ _ (h.bring 4 rfl)
          refine JoinX.mk (fun (z : Bool × Unit) w' => z.1 = false ∧ w' = w3) ?_ ?_
          · rintro ⟨z, ⟨⟩⟩ w4 ⟨hz, rfl⟩
            dsimp only at hz
            subst hz
            rw [SplitB_iff]
            exact ⟨fun hf => (by cases hf), fun _ => hk14 _ _ ⟨m + 1, rfl, by omega, h⟩ (by dsimp only; omega)⟩
          intro k15 hk15
          have hr := h.rd (k := 3) (i := 0) (E := 45) (sz := 1) (s := s) (vs := lsl D1) ⟨_, rfl, rfl⟩
          refine hr.idxK m rfl (by omega) ?_
          intro b1 o1 ha1
          refine hr.el ha1 (m * 1) rfl (kd := .sl) (x := D1[m].1) (by rw [Nat.mul_one]; exact lsl_at hc1) ?_
          have hb1 := hsee _ hg.sb
          rw [hg.bm] at hb1
          refine (holds_st hb1 (by omega) (by omega)).mono ?_
          rintro v w4 ⟨hv, rfl⟩
          have hv : v = true := hv
          rw [hv, SplitB_iff]
          refine ⟨fun hf => (by cases hf), fun _ => ?_⟩
          have hr2 := h.rd (k := 5) (i := 0) (E := 45) (sz := 1) (s := gs) (vs := lsl R) ⟨_, rfl, rfl⟩
          have hgsl := lsl_rd hr2
          refine hr2.idxK m rfl (by omega) ?_
          intro b2 o2 ha2
          refine hr2.el ha2 (m * 1) rfl (kd := .sl) (x := R[m].1) (by rw [Nat.mul_one]; exact lsl_at hcR) ?_
          have hb2 := hsee _ hg.sg
          rw [hg.gm] at hb2
          refine (holds_st hb2 (by omega) (by have := hg.gl; omega)).mono ?_
          rintro v2 w5 ⟨hv2, rfl⟩
          have hv2 : v2 = true := hv2
          rw [hv2]
          exact hk15 _ _ ⟨rfl, rfl⟩
        · refine (outer_st h hA hfew').mono ?_
          intro v w4 hv
          exact hv
end Go.Proofs.Ytodgnpmljdopiaa

/- A script at both ends of a pair. -/
namespace Go.Proofs.Ytodgnpmljdopiaa
open Go Go.Fw Go.RowKit
set_option linter.unusedVariables false
set_option linter.unusedSimpArgs false
set_option maxRecDepth 4000
set_option maxHeartbeats 8000000
variable {W w0 w : World} {F G : Grps}

instance : Sc Try.prog 36 := ⟨by kernel_rfl⟩
instance : Et Try.prog 36 86 9 104 := ⟨ET.of (by kernel_rfl), by decide⟩
instance : Ag Try.prog 86 9 := ⟨by kernel_rfl⟩
instance : NewC Try.prog 86 [.int .i64 0, .int .i64 0, .int .i64 0, .slice none 0 0, .int .i64 0, .int .i64 0, .int .i64 0, .int .i64 0, .slice none 0 0] := ⟨fun _ => by kernel_rfl⟩
def rl00 (p0 p1 p2 p3 : Int) : Rl := ⟨p0, p1, p2, p3, [], 0, 0, [], 1, false, false, 0⟩
theorem lrel0 {p0 p1 p2 p3 : Int} (h : ((lk0 p0 p1 p2 p3).win : Int) = p2) : LRel (lk0 p0 p1 p2 p3) (rl00 p0 p1 p2 p3) := by
  refine ⟨rfl, rfl, h, rfl, rfl, rfl, rfl, rfl, rfl, rfl, rfl, ?_, ?_, ?_⟩
  · intro p hp; simp [lk0] at hp
  · intro x hx; simp [lk0] at hx
  · intro n hn hc; exact absurd rfl hc
theorem made_en (h : St w0 w F) (p0 p1 p2 p3 : Int) : CallK Try.prog (.tup (.cons .ptr (.cons .bool .nilT))) 10 #[.int .i64 p0, .int .i64 p1, .int .i64 p2, .int .i64 p3] w fun (r : Option Addr × Bool × Unit) w' =>
    (r = (none, true, ()) ∧ St w0 w' F) ∨ (∃ x bb, r = (some ⟨x.xb, 0, none⟩, true, ()) ∧ EnI 0 x ∧ St w0 w' (enG bb x F)) := by
  refine (made_st h p0 p1 p2 p3).mono ?_
  rintro r w1 (⟨_, hr, h⟩ | ⟨hE, xb, rb, sb, bb, e, hr, he, h⟩)
  · exact .inl ⟨hr, h⟩
  have hl := lk0_wf hE
  have h := h.drop 4
  dsimp only [delO] at h
  let r0 : Rm := { rl00 p0 p1 p2 p3 with rb := rb, ss := ⟨none, 0, 0⟩, cs := ⟨none, 0, 0⟩ }
  let x : En := ⟨e, r0, sb, ⟨none, 0, 0⟩, [], [], xb⟩
  have hd : dat e.toLk = [] := by rw [he]; rfl
  have hu : ups e.ea = [] := by
    have : e.ea = (lk0 p0 p1 p2 p3).ea := congrArg Lk.ea he
    rw [this]; rfl
  have h := ((h.nilrow 45 1).nilrow 115 2).nilrow 45 1
  -- the pieces: three empty rows, the links, the end, the document's, the shelf
  have h1 : St w0 w1 (enG bb x F) := by
    have e1 : rmE 115 x.r = [.cel rb 95 (rl0 p0 p1 p2 p3), .row 45 1 ⟨none, 0, 0⟩ [], .row 115 2 ⟨none, 0, 0⟩ []] := rfl
    have e2 : shE x.sb x.ls x.L = [.cel sb 70 [.slice none 0 0, .int .i64 0], .row 45 1 ⟨none, 0, 0⟩ []] := rfl
    have e3 : rsd x.r.toRl = [] := rfl
    have e4 : rcd x.r.toRl = [] := rfl
    have e5 : x.g = [] := rfl
    have e6 : x.e = e := rfl
    rw [enG, e1, e2, e3, e4, e5, e6, hd, hu]
    have h := h.ord 7 [3, 5, 0, 1, 6, 2, 4]
    dsimp only [pick, nthO, dropO] at h
    exact h.perm (by simp only [List.flatten_cons, List.cons_append, List.nil_append, List.singleton_append]; exact .refl _)
  have heq : x.e.toLk = lk0 p0 p1 p2 p3 := he
  refine .inr ⟨x, bb, hr, ⟨?_, ?_, ⟨fun b hb => (by cases hb), fun i hi => absurd hi (Nat.not_lt_zero _), fun b hb => (by cases hb), Nat.zero_le _⟩, fun p hp => (by cases hp), Nat.le_refl _, Nat.le_refl _, Nat.zero_le _, fun b hb => (by cases hb), fun p hp => (by cases hp)⟩, h1⟩
  · rw [heq]; exact hl.1
  · rw [heq]; exact lrel0 hl.2
def optG (bb : Nat) (o : Option En) (F : Grps) : Grps := match o with | some x => enG bb x F | none => F
def ptr (o : Option En) : Option Addr := o.map fun x => ⟨x.xb, 0, none⟩
/-- Both ends, one of which there may not be. -/
def Two (w0 : World) (bb pb n : Nat) (pa pc : Option Addr) (F : Grps) (w : World) : Prop :=
  ∃ (a c : Option En) (y : Bk) (ps : Sl) (pool : List Sg), ptr a = pa ∧ ptr c = pc ∧ (∀ x, a = some x → EnI n x) ∧ (∀ x, c = some x → EnI n x) ∧ BkI w0 n y ∧ pool.length ≤ 400 ∧ (∀ g ∈ pool, SeesX w0 y.H g.d.1 1 (bys g.d.2) ∧ g.d.2.length ≤ 4000) ∧
    St w0 w (optG bb a (optG bb c (bkG bb y (plE pb ps pool :: F))))
theorem opt_mono {n m : Nat} (hn : n ≤ m) {a : Option En} (h : ∀ x, a = some x → EnI n x) : ∀ x, a = some x → EnI m x := fun x hx => (h x hx).mono hn
/-- One call at one of the two. -/
theorem two_st {bb pb n : Nat} {pa pc p : Option Addr} {o : Cl} (h : Two w0 bb pb n pa pc F w) (hp : p = pa ∨ p = pc) (hp0 : p ≠ none) (hn : n ≤ 4000) (ho : o.ok w0) :
    CallK Try.prog .bool 29 #[.pointer p, .agg #[.int .i64 o.kind, .int .i64 o.who, .int .i64 o.a, .slice o.d.1.a o.d.1.len o.d.1.cap, .int .i64 o.s.fr, .int .i64 o.s.to, .int .i64 o.s.seq, .int .i64 o.s.ack, .slice o.s.d.1.a o.s.d.1.len o.s.d.1.cap], .pointer (some ⟨pb, 0, none⟩)] w
    fun (v : Bool) w' => v = true ∧ Two w0 bb pb (n + 4) pa pc F w' := by
  obtain ⟨a, c, y, ps, pool, hpa, hpc, ha, hc, hB, hpl, hps, h⟩ := h
  rcases hp with rfl | rfl
  · cases a with
    | none => exact absurd hpa.symm hp0
    | some x =>
      subst hpa
      have hx := ha x rfl
      have h : St w0 w (wsG bb pb ⟨x, y, ps, pool⟩ (optG bb c F)) := by
        cases c with
        | none => exact h
        | some z =>
          have h := h.ord 24 [0, 1, 2, 3, 4, 5, 6, 7, 8, 18, 19, 20, 21, 22, 23, 9, 10, 11, 12, 13, 14, 15, 16, 17]
          dsimp only [optG, enG, bkG, pick, nthO, dropO] at h
          exact h
      refine (played_st h ⟨hx, hB, hpl, hps⟩ hn ho).mono ?_
      rintro v w1 ⟨hv, z, hz, hI, h⟩
      refine ⟨hv, some z.x, c, z.y, z.ps, z.pool, ?_, hpc, fun x' hx' => by cases hx'; exact hI.en, opt_mono (by omega) hc, hI.bk, hI.pl, hI.sees, ?_⟩
      · show some (⟨z.x.xb, 0, none⟩ : Addr) = some ⟨x.xb, 0, none⟩
        rw [hz]
      · cases c with
        | none => exact h
        | some u =>
          have h := h.ord 24 [0, 1, 2, 3, 4, 5, 6, 7, 8, 15, 16, 17, 18, 19, 20, 21, 22, 23, 9, 10, 11, 12, 13, 14]
          dsimp only [wsG, optG, enG, bkG, pick, nthO, dropO] at h
          exact h
  · cases c with
    | none => exact absurd hpc.symm hp0
    | some x =>
      subst hpc
      have hx := hc x rfl
      have h : St w0 w (wsG bb pb ⟨x, y, ps, pool⟩ (optG bb a F)) := by
        cases a with
        | none => exact h
        | some z =>
          have h := h.ord 24 [9, 10, 11, 12, 13, 14, 15, 16, 17, 18, 19, 20, 21, 22, 23, 0, 1, 2, 3, 4, 5, 6, 7, 8]
          dsimp only [optG, enG, bkG, pick, nthO, dropO] at h
          exact h
      refine (played_st h ⟨hx, hB, hpl, hps⟩ hn ho).mono ?_
      rintro v w1 ⟨hv, z, hz, hI, h⟩
      refine ⟨hv, a, some z.x, z.y, z.ps, z.pool, hpa, ?_, opt_mono (by omega) ha, fun x' hx' => by cases hx'; exact hI.en, hI.bk, hI.pl, hI.sees, ?_⟩
      · show some (⟨z.x.xb, 0, none⟩ : Addr) = some ⟨x.xb, 0, none⟩
        rw [hz]
      · cases a with
        | none => exact h
        | some u =>
          have h := h.ord 24 [15, 16, 17, 18, 19, 20, 21, 22, 23, 0, 1, 2, 3, 4, 5, 6, 7, 8, 9, 10, 11, 12, 13, 14]
          dsimp only [wsG, optG, enG, bkG, pick, nthO, dropO] at h
          exact h
theorem Two.mono {bb pb n m : Nat} {pa pc : Option Addr} (h : Two w0 bb pb n pa pc F w) (hn : n ≤ m) : Two w0 bb pb m pa pc F w := by
  obtain ⟨a, c, y, ps, pool, hpa, hpc, ha, hc, hB, hpl, hps, h⟩ := h
  exact ⟨a, c, y, ps, pool, hpa, hpc, opt_mono hn ha, opt_mono hn hc, hB.mono hn, hpl, hps, h⟩
/-- A variable more: it lies in the rest. -/
theorem Two.add {bb pb n : Nat} {pa pc : Option Addr} (h : Two w0 bb pb n pa pc F w) {K : World → Prop} {g : List Ent} (hst : ∀ G, St w0 w G → St w0 w (g :: G)) : Two w0 bb pb n pa pc (g :: F) w := by
  obtain ⟨a, c, y, ps, pool, hpa, hpc, ha, hc, hB, hpl, hps, h⟩ := h
  refine ⟨a, c, y, ps, pool, hpa, hpc, ha, hc, hB, hpl, hps, ?_⟩
  have h := hst _ h
  cases a <;> cases c
  · exact h.ord 7 [1, 2, 3, 4, 5, 6, 0]
  · exact h.ord 16 [1, 2, 3, 4, 5, 6, 7, 8, 9, 10, 11, 12, 13, 14, 15, 0]
  · exact h.ord 16 [1, 2, 3, 4, 5, 6, 7, 8, 9, 10, 11, 12, 13, 14, 15, 0]
  · exact h.ord 25 [1, 2, 3, 4, 5, 6, 7, 8, 9, 10, 11, 12, 13, 14, 15, 16, 17, 18, 19, 20, 21, 22, 23, 24, 0]
end Go.Proofs.Ytodgnpmljdopiaa

/- LinkSends and LinkAll. -/
namespace Go.Proofs.Ytodgnpmljdopiaa
open Go Go.Fw Go.RowKit
set_option linter.unusedVariables false
set_option linter.unusedSimpArgs false
set_option maxRecDepth 4000
set_option maxHeartbeats 8000000
variable {W w0 w : World} {F G : Grps}

theorem set_bb {bb b1 : Nat} {x : En} (h : St w0 w (enG b1 x F)) {K : World → Prop} (hk : ∀ w', St w0 w' (enG bb x F) → K w') :
    RunU Try.prog (U (Instr.storeAt 29 (.pointer (some ((⟨x.xb, 0, none⟩ : Addr).add 3))) (.pointer (some ⟨bb, 0, none⟩)))) w K := by
  refine h.storB 8 0 ⟨_, rfl, rfl⟩ rfl rfl rfl ?_
  intro w1 h
  exact hk _ h
def clvs (L : List Cl) : List Value := L.flatMap clv
theorem run_law {s : Sl} {L : List Cl} (hs : Rd W s 9 (clvs L)) (hL : ∀ o ∈ L, o.ok W) (p0 p1 p2 p3 p4 p6 p7 : Int) :
    CallK Try.prog .bool 15 #[.int .i64 p0, .int .i64 p1, .int .i64 p2, .int .i64 p3, .int .i64 p4, .slice s.a s.len s.cap, .int .i64 p6, .int .i64 p7] W fun (r : Bool) w' => Upd W w' nobody ∧ r = true := by
  have hsl : s.len = L.length := by have := hs.1; rw [clvs, flat_len clv_len] at this; omega
  have h0 : St W W [] := St.init W
  -- what has not changed is known from any state: the answer comes with it
  suffices hmain : CallK Try.prog .bool 15 #[.int .i64 p0, .int .i64 p1, .int .i64 p2, .int .i64 p3, .int .i64 p4, .slice s.a s.len s.cap, .int .i64 p6, .int .i64 p7] W fun (r : Bool) w' => r = true ∧ ∃ G, St W w' G by
    exact hmain.mono fun r w' ⟨hr, G, h⟩ => ⟨h.upd, hr⟩
  have hend : ∀ {bb pb n : Nat} {pa pc : Option Addr} {w : World}, Two W bb pb n pa pc [] w → ∀ {K : Bool → World → Prop}, (∀ w', (∃ G, St W w' G) → K true w') →
      CallK Try.prog .bool 30 #[.pointer (some ⟨bb, 0, none⟩)] w K := by
    rintro bb pb n pa pc w ⟨a, c, y, ps, pool, hpa, hpc, ha, hc, hB, hpl, hps, h⟩ K hK
    have h : ∃ F, St W w (bkG bb y F) := by
      cases a <;> cases c
      · exact ⟨_, h⟩
      · exact ⟨_, h.ord 15 [9, 10, 11, 12, 13, 14]⟩
      · exact ⟨_, h.ord 15 [9, 10, 11, 12, 13, 14]⟩
      · exact ⟨_, h.ord 24 [18, 19, 20, 21, 22, 23]⟩
    obtain ⟨F, h⟩ := h
    refine (apart_st h hB).mono ?_
    intro v w' ⟨hv, hG⟩
    have hv : v = true := hv
    rw [hv]; exact hK _ hG
  refine T15.calls ?_
  unfold T15
  refine (alive_st h0).mono ?_
  intro (al : Bool) w1 ⟨hal, h⟩
  refine (made_en h p0 p1 p2 p4).mono ?_
  rintro ra w2 hra
  have hA : ∃ (a : Option En) (b1 : Nat), ra = (ptr a, true, ()) ∧ (∀ x, a = some x → EnI 0 x) ∧ St W w2 (optG b1 a []) := by
    rcases hra with ⟨hr, h⟩ | ⟨x, b1, hr, hx, h⟩
    · exact ⟨none, 0, hr, fun x hx => (by cases hx), h⟩
    · exact ⟨some x, b1, hr, fun x' hx' => (by cases hx'; exact hx), h⟩
  clear hra h
  obtain ⟨a, b1, rfl, ha, h⟩ := hA
  refine (made_en h p1 p0 p3 p4).mono ?_
  rintro rc w3 hrc
  have hC : ∃ (c : Option En) (b2 : Nat), rc = (ptr c, true, ()) ∧ (∀ x, c = some x → EnI 0 x) ∧ St W w3 (optG b2 c (optG b1 a [])) := by
    rcases hrc with ⟨hr, h⟩ | ⟨x, b2, hr, hx, h⟩
    · exact ⟨none, 0, hr, fun x hx => (by cases hx), h⟩
    · exact ⟨some x, b2, hr, fun x' hx' => (by cases hx'; exact hx), h⟩
  clear hrc h
  obtain ⟨c, b2, rfl, hc, h⟩ := hC
  refine JoinX.mk (fun (y : Bool × Unit) w' => y.1 = false ∧ St W w' (optG b2 c (optG b1 a []))) ?_ ?_
  rotate_left
  · intro k hk
    dsimp only
    rw [hal, SplitB_iff]
    refine ⟨fun hf => (by cases hf), fun _ => ?_⟩
    rw [SplitB_iff]
    refine ⟨fun hf => (by cases hf), fun _ => ?_⟩
    exact hk _ _ ⟨rfl, h⟩
  clear h
  rintro ⟨y, ⟨⟩⟩ w4 ⟨hy, h⟩
  dsimp only at hy
  subst hy
  rw [SplitB_iff]
  refine ⟨fun hf => (by cases hf), fun _ => ?_⟩
  refine h.newB run_boxA rfl ?_
  intro pb w5 h
  refine h.newB run_boxA rfl ?_
  intro bb w6 h
  have h : St W w6 ([.cel bb 73 [.slice none 0 0, .int .i64 0]] :: [.cel pb 84 [.slice none 0 0]] :: optG b2 c (optG b1 a [])) := h
  -- a's book
  refine JoinX.mk (fun (_ : Unit) w' => St W w' ([.cel bb 73 [.slice none 0 0, .int .i64 0]] :: [.cel pb 84 [.slice none 0 0]] :: optG b2 c (optG bb a []))) ?_ ?_
  rotate_left
  · intro k hk
    cases a with
    | none =>
      refine RunN.pNeN ?_
      rw [SplitB_iff]
      exact ⟨fun hf => (by cases hf), fun _ => hk _ _ h⟩
    | some x =>
      refine RunN.pNeS ?_
      rw [SplitB_iff]
      refine ⟨fun _ => ?_, fun hf => (by cases hf)⟩
      refine NilP.mk ?_
      have h : ∃ G, St W w6 (enG b1 x G) ∧ ∀ w', St W w' (enG bb x G) → St W w' ([.cel bb 73 [.slice none 0 0, .int .i64 0]] :: [.cel pb 84 [.slice none 0 0]] :: optG b2 c (optG bb (some x) [])) := by
        cases c with
        | none =>
          refine ⟨_, h.ord 11 [2, 3, 4, 5, 6, 7, 8, 9, 10, 0, 1], fun w' h => h.ord 11 [9, 10, 0, 1, 2, 3, 4, 5, 6, 7, 8]⟩
        | some z =>
          refine ⟨_, h.ord 20 [11, 12, 13, 14, 15, 16, 17, 18, 19, 0, 1, 2, 3, 4, 5, 6, 7, 8, 9, 10], fun w' h => h.ord 20 [9, 10, 11, 12, 13, 14, 15, 16, 17, 18, 19, 0, 1, 2, 3, 4, 5, 6, 7, 8]⟩
      obtain ⟨G, h, hback⟩ := h
      exact set_bb h fun w' h => hk _ _ (hback _ h)
  clear h
  rintro ⟨⟩ w7 h
  refine JoinX.mk (fun (_ : Unit) w' => St W w' ([.cel bb 73 [.slice none 0 0, .int .i64 0]] :: [.cel pb 84 [.slice none 0 0]] :: optG bb c (optG bb a []))) ?_ ?_
  rotate_left
  · intro k hk
    cases c with
    | none =>
      refine RunN.pNeN ?_
      rw [SplitB_iff]
      exact ⟨fun hf => (by cases hf), fun _ => hk _ _ h⟩
    | some x =>
      refine RunN.pNeS ?_
      rw [SplitB_iff]
      refine ⟨fun _ => ?_, fun hf => (by cases hf)⟩
      refine NilP.mk ?_
      have h := h.ord 11 [2, 3, 4, 5, 6, 7, 8, 9, 10, 0, 1]
      dsimp only [optG, enG, pick, nthO, dropO] at h
      refine set_bb (x := x) h fun w' h => hk _ _ ?_
      exact h.ord 11 [9, 10, 0, 1, 2, 3, 4, 5, 6, 7, 8]
  clear h
  rintro ⟨⟩ w8 h
  have hTwo : Two W bb pb 0 (ptr a) (ptr c) [] w8 := by
    have h := ((h.nilrow 101 3).nilrow 62 5)
    have h := St.empty.2 (St.empty.2 (St.empty.2 (St.empty.2 h)))
    refine ⟨a, c, ⟨⟨none, 0, 0⟩, 0, [], []⟩, ⟨none, 0, 0⟩, [], rfl, rfl, ha, hc, ⟨Nat.zero_le _, Nat.le_refl _, fun a ha => (by cases ha)⟩, Nat.zero_le _, fun g hg => (by cases hg), ?_⟩
    have e1 : bkG bb ⟨⟨none, 0, 0⟩, 0, [], []⟩ (plE pb ⟨none, 0, 0⟩ [] :: []) = [[.cel bb 73 [.slice none 0 0, .int .i64 0], .row 101 3 ⟨none, 0, 0⟩ []], [], [], [], [], [.cel pb 84 [.slice none 0 0], .row 62 5 ⟨none, 0, 0⟩ []]] := rfl
    rw [e1]
    have h : St W w8 ([] :: [] :: [] :: [] :: [.row 62 5 ⟨none, 0, 0⟩ []] :: [.row 101 3 ⟨none, 0, 0⟩ []] :: [.cel bb 73 [.slice none 0 0, .int .i64 0]] :: [.cel pb 84 [.slice none 0 0]] :: optG bb c (optG bb a [])) := h
    have h : St W w8 ([.cel bb 73 [.slice none 0 0, .int .i64 0], .row 101 3 ⟨none, 0, 0⟩ []] :: [] :: [] :: [] :: [] :: [.cel pb 84 [.slice none 0 0], .row 62 5 ⟨none, 0, 0⟩ []] :: optG bb c (optG bb a [])) := by
      have h := h.ord 8 [6, 5, 0, 1, 2, 3, 7, 4]
      dsimp only [pick, nthO, dropO] at h
      exact h.perm (by simp only [List.flatten_cons, List.cons_append, List.nil_append, List.singleton_append]; exact .refl _)
    cases a <;> cases c
    · exact h
    · exact h.ord 15 [6, 7, 8, 9, 10, 11, 12, 13, 14, 0, 1, 2, 3, 4, 5]
    · exact h.ord 15 [6, 7, 8, 9, 10, 11, 12, 13, 14, 0, 1, 2, 3, 4, 5]
    · exact h.ord 24 [15, 16, 17, 18, 19, 20, 21, 22, 23, 6, 7, 8, 9, 10, 11, 12, 13, 14, 0, 1, 2, 3, 4, 5]
  clear h
  refine LoopX.mk (fun st w' => ∃ m : Nat, st = ((m : Int), ()) ∧ m ≤ L.length ∧ m ≤ 300 ∧ Two W bb pb (4 * m) (ptr a) (ptr c) [] w') (fun st => 300 - st.1.toNat) ⟨0, rfl, Nat.zero_le _, Nat.zero_le _, hTwo⟩ ?_
  clear hTwo ha hc
  rintro _ w9 ⟨m, rfl, hm, hm3, hT⟩ k8 hk8
  dsimp only at hk8 ⊢
  refine JoinX.mk (fun (y : Bool × Unit) w' => (y.1 = true → m < L.length ∧ m < 300) ∧ w' = w9) ?_ ?_
  rotate_left
  · intro k hk
    rw [SplitB_iff]
    refine ⟨fun hc => hk _ _ ⟨fun h => ?_, rfl⟩, fun _ => hk _ _ ⟨fun h => (by cases h), rfl⟩⟩
    have h1 : (m : Int) < (s.len : Int) := of_decide_eq_true hc
    have h2 : (m : Int) < 300 := of_decide_eq_true h
    omega
  rintro ⟨y, ⟨⟩⟩ _ ⟨hy, rfl⟩
  dsimp only at hy ⊢
  rw [SplitB_iff]
  refine ⟨fun hyt => ?_, fun _ => ?_⟩
  rotate_left
  · exact hend hT fun w' hG => ⟨rfl, hG⟩
  obtain ⟨hmL, hm300⟩ := hy hyt
  have hem : IntKind.i64.wrap ((m : Int) + 1) = ((m + 1 : Nat) : Int) := by rw [wr (by omega)]; omega
  rw [hem]
  have ho := hL _ (List.getElem_mem hmL)
  refine JoinX.mk (fun (_ : Unit) w' => Two W bb pb (4 * m + 4) (ptr a) (ptr c) [] w') ?_ ?_
  · rintro ⟨⟩ w10 hT
    exact hk8 _ _ ⟨m + 1, rfl, by omega, by omega, hT.mono (by omega)⟩ (by dsimp only; omega)
  intro k11 hk11
  have hT0 := hT
  obtain ⟨a', c', y', ps, pool, hpa, hpc, ha, hc, hB, hpl, hps, h⟩ := hT
  have hback : ∀ w', St W w' (optG bb a' (optG bb c' (bkG bb y' (plE pb ps pool :: [])))) → Two W bb pb (4 * m) (ptr a) (ptr c) [] w' := fun w' h => ⟨a', c', y', ps, pool, hpa, hpc, ha, hc, hB, hpl, hps, h⟩
  generalize optG bb a' (optG bb c' (bkG bb y' (plE pb ps pool :: []))) = Gt at h hback
  have hsr := h.old hs
  refine hsr.idxK m rfl (by omega) ?_
  intro b0 o0 ha0
  refine hsr.elA ha0 (m * 9) rfl (kd := .agg (.cons (.int .i64) (.cons (.int .i64) (.cons (.int .i64) (.cons .sl (.cons (.int .i64) (.cons (.int .i64) (.cons (.int .i64) (.cons (.int .i64) (.cons .sl .nilT)))))))))) (clt L[m]) (ds := clv L[m]) (flat_at clv_len _ _ hmL) ?_
  refine h.newB (NewC.run _) rfl ?_
  intro c25 w10 h
  refine h.storA (P := Try.prog) 0 0 (b := c25) ⟨_, rfl, rfl⟩ (t' := 86) (n := 9) (j := 0) rfl (ds := clv L[m]) rfl rfl rfl ?_
  intro w11 h
  dsimp only [updG, setO] at h
  have h : St W w11 ([.cel c25 86 (clv L[m])] :: Gt) := h
  refine JoinX.mk (fun (z : Option Addr × Unit) w' => (z.1 = ptr a ∨ z.1 = ptr c) ∧ St W w' ([.cel c25 86 (clv L[m])] :: Gt)) ?_ ?_
  rotate_left
  · intro k hk
    refine h.loadB 0 0 ⟨_, rfl, rfl⟩ rfl (kd := .int .i64) (x := L[m].who) rfl ?_
    rw [SplitB_iff]
    exact ⟨fun _ => hk _ _ ⟨.inr rfl, h⟩, fun _ => hk _ _ ⟨.inl rfl, h⟩⟩
  clear h
  rintro ⟨z, ⟨⟩⟩ w12 ⟨hz, h⟩
  dsimp only at hz ⊢
  refine JoinX.mk (fun (y : Bool × Unit) w' => (y.1 = false → z ≠ none) ∧ St W w' ([.cel c25 86 (clv L[m])] :: Gt)) ?_ ?_
  · clear h
    rintro ⟨y, ⟨⟩⟩ w13 ⟨hy, h⟩
    dsimp only at hy ⊢
    rw [SplitB_iff]
    refine ⟨fun _ => hk11 _ _ ((hback _ (h.drop 0)).mono (by omega)), fun hyf => ?_⟩
    refine RunN.of (kd := .agg (.cons (.int .i64) (.cons (.int .i64) (.cons (.int .i64) (.cons .sl (.cons (.int .i64) (.cons (.int .i64) (.cons (.int .i64) (.cons (.int .i64) (.cons .sl .nilT)))))))))) (x := clt L[m]) (h.run_loadA (k := 0) (i := 0) (b := c25) (t := 86) (cs := clv L[m]) ⟨_, rfl, rfl⟩ (t' := 86) (n := 9) (j := 0) rfl (vs := clv L[m]) rfl rfl) ?_
    refine (two_st (hback _ (h.drop 0)) hz (hy hyf) (by omega) ho).mono ?_
    intro v w14 ⟨hv, hT⟩
    have hv : v = true := hv
    rw [hv, SplitB_iff]
    exact ⟨fun hf => (by cases hf), fun _ => hk11 _ _ hT⟩
  intro k15 hk15
  cases z with
  | none =>
    refine RunN.pEqN ?_
    rw [SplitB_iff]
    exact ⟨fun _ => hk15 _ _ ⟨fun hf => (by cases hf), h⟩, fun hf => (by cases hf)⟩
  | some z =>
    have hz' : ∀ (b : Bool), b = false → (some z : Option Addr) ≠ none := fun _ _ => by simp
    refine RunN.pEqS ?_
    rw [SplitB_iff]
    refine ⟨fun hf => (by cases hf), fun _ => ?_⟩
    refine h.loadB 0 0 ⟨_, rfl, rfl⟩ rfl (kd := .int .i64) (x := L[m].kind) rfl ?_
    rw [SplitB_iff]
    refine ⟨fun _ => ?_, fun _ => hk15 _ _ ⟨hz' _, h⟩⟩
    refine h.loadB 0 0 ⟨_, rfl, rfl⟩ rfl (kd := .int .i64) (x := L[m].kind) rfl ?_
    rw [SplitB_iff]
    refine ⟨fun _ => ?_, fun _ => hk15 _ _ ⟨hz' _, h⟩⟩
    refine h.loadB 0 0 ⟨_, rfl, rfl⟩ rfl (kd := .int .i64) (x := L[m].kind) rfl ?_
    rw [SplitB_iff]
    refine ⟨fun _ => hk15 _ _ ⟨hz' _, h⟩, fun _ => ?_⟩
    refine h.loadB 0 0 ⟨_, rfl, rfl⟩ rfl (kd := .int .i64) (x := L[m].kind) rfl ?_
    exact hk15 _ _ ⟨hz' _, h⟩
theorem law4 {s : Sl} {L : List Cl} (hs : Rd W s 9 (clvs L) ∧ ∀ o ∈ L, o.ok W) (p0 p1 p2 p3 p4 : Int) :
    CallK Try.prog .bool 4 #[.int .i64 p0, .int .i64 p1, .int .i64 p2, .int .i64 p3, .int .i64 p4, .slice s.a s.len s.cap] W fun (r : Bool) w' => Upd W w' nobody ∧ r = true := by
  refine T4.calls ?_
  unfold T4
  exact (run_law hs.1 hs.2 p0 p1 p2 p3 p4 0 0).mono fun _ _ h => h
theorem law5 {s : Sl} {L : List Cl} (hs : Rd W s 9 (clvs L) ∧ ∀ o ∈ L, o.ok W) (p0 p1 p2 p3 p4 : Int) :
    CallK Try.prog .bool 5 #[.int .i64 p0, .int .i64 p1, .int .i64 p2, .int .i64 p3, .int .i64 p4, .slice s.a s.len s.cap] W fun (r : Bool) w' => Upd W w' nobody ∧ r = true := by
  refine T5.calls ?_
  unfold T5
  exact (run_law hs.1 hs.2 p0 p1 p2 p3 p4 5 6).mono fun _ _ h => h
end Go.Proofs.Ytodgnpmljdopiaa

/- What a law of the link reads of its arguments: a script of calls. -/
namespace Go.Proofs.Ytodgnpmljdopiaa
open Go.ChangeShapes Go.WideShapes Go.ChangeAt Go.RowKit Go Go.Fw
set_option linter.unusedVariables false
set_option linter.unusedSimpArgs false
set_option maxRecDepth 20000

theorem trodAll_six {H : Type} {enc : TypeId × Value → H} {P : Program} {w : World} {base : Nat} {spare : Nat → Bool} {held : Bool} {t0 t1 t2 t3 t4 t5 : TypeId} {args : Array Value} {ds : List (DataW H)} {ps : List MemPlace} (h : DataW.TrodAll enc P w base spare held [t0, t1, t2, t3, t4, t5] args.toList ds ps) :
    ∃ v0 v1 v2 v3 v4 v5 d0 d1 d2 d3 d4 d5 p0 p1 p2 p3 p4 p5, args = #[v0, v1, v2, v3, v4, v5] ∧ ds = [d0, d1, d2, d3, d4, d5] ∧ ps = p0 ++ (p1 ++ (p2 ++ (p3 ++ (p4 ++ p5)))) ∧ DataW.Trod enc P w base spare held t0 v0 d0 p0 ∧ DataW.Trod enc P w base spare held t1 v1 d1 p1 ∧ DataW.Trod enc P w base spare held t2 v2 d2 p2 ∧
      DataW.Trod enc P w base spare held t3 v3 d3 p3 ∧ DataW.Trod enc P w base spare held t4 v4 d4 p4 ∧ DataW.Trod enc P w base spare held t5 v5 d5 p5 := by
  obtain ⟨v0, vs0, d0, ds0, p0, q0, hargs, rfl, rfl, h0, h⟩ := trodAll_cons h
  obtain ⟨v1, vs1, d1, ds1, p1, q1, rfl, rfl, rfl, h1, h⟩ := trodAll_cons h
  obtain ⟨v2, vs2, d2, ds2, p2, q2, rfl, rfl, rfl, h2, h⟩ := trodAll_cons h
  obtain ⟨v3, vs3, d3, ds3, p3, q3, rfl, rfl, rfl, h3, h⟩ := trodAll_cons h
  obtain ⟨v4, vs4, d4, ds4, p4, q4, rfl, rfl, rfl, h4, h⟩ := trodAll_cons h
  obtain ⟨v5, vs5, d5, ds5, p5, q5, rfl, rfl, rfl, h5, h⟩ := trodAll_cons h
  obtain ⟨rfl, rfl, rfl⟩ := trodAll_nil h
  exact ⟨v0, v1, v2, v3, v4, v5, d0, d1, d2, d3, d4, d5, p0, p1, p2, p3, p4, p5, by cases args; simp_all, rfl, by simp, h0, h1, h2, h3, h4, h5⟩
theorem u36 : Try.prog.underlying 36 = some (.slice 86) := by kernel_rfl
noncomputable def fields86 : Array Field := match Try.prog.underlying 86 with | some (.struct fs) => fs | _ => #[]
theorem u86 : Try.prog.underlying 86 = some (.struct fields86) := by kernel_rfl
theorem f86 : fields86.toList.map (fun f => (f.type, f.offset)) = [(3, 0), (3, 1), (3, 2), (45, 3), (62, 4)] := by kernel_rfl
noncomputable def fields62 : Array Field := match Try.prog.underlying 62 with | some (.struct fs) => fs | _ => #[]
theorem u62 : Try.prog.underlying 62 = some (.struct fields62) := by kernel_rfl
theorem f62 : fields62.toList.map (fun f => (f.type, f.offset)) = [(3, 0), (3, 1), (3, 2), (3, 3), (45, 4)] := by kernel_rfl
theorem sg_of {H : Type} {enc : TypeId × Value → H} {W : World} {base : Nat} {spare : Nat → Bool} {held : Bool} {n : Nat} {c : List Value} {y : DataW H × List MemPlace} (hc : c.length = 5)
    (hd : DataW.trod enc Try.prog W base spare held n 62 c = some y) (hw : Wt Try.prog 62 y.1) : ∃ m : Sg, c = sgv m ∧ Rd W m.d.1 1 (bys m.d.2) ∧ m.d.2.length ≤ 140737488351232 := by
  have hf := open_fields u62 hd hw
  have c3 : Try.prog.cellsOf 3 = 1 := by kernel_rfl
  have c45 : Try.prog.cellsOf 45 = 1 := by kernel_rfl
  obtain ⟨g0, h0, t0, o0⟩ := field_of f62 (i := 0) rfl
  obtain ⟨g1, h1, t1, o1⟩ := field_of f62 (i := 1) rfl
  obtain ⟨g2, h2, t2, o2⟩ := field_of f62 (i := 2) rfl
  obtain ⟨g3, h3, t3, o3⟩ := field_of f62 (i := 3) rfl
  obtain ⟨g4, h4, t4, o4⟩ := field_of f62 (i := 4) rfl
  obtain ⟨n0, y0, e0, _⟩ := hf 0 g0 h0
  obtain ⟨n1, y1, e1, _⟩ := hf 1 g1 h1
  obtain ⟨n2, y2, e2, _⟩ := hf 2 g2 h2
  obtain ⟨n3, y3, e3, _⟩ := hf 3 g3 h3
  obtain ⟨n4, y4, e4, w4⟩ := hf 4 g4 h4
  rw [t0, o0, c3] at e0
  rw [t1, o1, c3] at e1
  rw [t2, o2, c3] at e2
  rw [t3, o3, c3] at e3
  rw [t4, o4, c45] at e4
  rw [t4] at w4
  obtain ⟨a0, ha0, _, _⟩ := DataW.trod_int u3 e0
  obtain ⟨a1, ha1, _, _⟩ := DataW.trod_int u3 e1
  obtain ⟨a2, ha2, _, _⟩ := DataW.trod_int u3 e2
  obtain ⟨a3, ha3, _, _⟩ := DataW.trod_int u3 e3
  obtain ⟨s, l, hs, hr, hl⟩ := open_bys u45 u5 (by kernel_rfl) (by kernel_rfl) e4 w4
  refine ⟨⟨a0, a1, a2, a3, (s, l)⟩, ?_, hr, Nat.le_trans hl (Nat.le_of_eq rfl)⟩
  match c, hc with
  | [x0, x1, x2, x3, x4], _ =>
    simp at ha0 ha1 ha2 ha3 hs
    subst ha0; subst ha1; subst ha2; subst ha3; subst hs
    rfl
theorem cl_of {H : Type} {enc : TypeId × Value → H} {W : World} {base : Nat} {spare : Nat → Bool} {held : Bool} {n : Nat} {c : List Value} {y : DataW H × List MemPlace} (hc : c.length = 9)
    (hd : DataW.trod enc Try.prog W base spare held n 86 c = some y) (hw : Wt Try.prog 86 y.1) : ∃ m : Cl, c = clv m ∧ m.ok W := by
  have hf := open_fields u86 hd hw
  have c3 : Try.prog.cellsOf 3 = 1 := by kernel_rfl
  have c45 : Try.prog.cellsOf 45 = 1 := by kernel_rfl
  have c62 : Try.prog.cellsOf 62 = 5 := by kernel_rfl
  obtain ⟨g0, h0, t0, o0⟩ := field_of f86 (i := 0) rfl
  obtain ⟨g1, h1, t1, o1⟩ := field_of f86 (i := 1) rfl
  obtain ⟨g2, h2, t2, o2⟩ := field_of f86 (i := 2) rfl
  obtain ⟨g3, h3, t3, o3⟩ := field_of f86 (i := 3) rfl
  obtain ⟨g4, h4, t4, o4⟩ := field_of f86 (i := 4) rfl
  obtain ⟨n0, y0, e0, _⟩ := hf 0 g0 h0
  obtain ⟨n1, y1, e1, _⟩ := hf 1 g1 h1
  obtain ⟨n2, y2, e2, _⟩ := hf 2 g2 h2
  obtain ⟨n3, y3, e3, w3⟩ := hf 3 g3 h3
  obtain ⟨n4, y4, e4, w4⟩ := hf 4 g4 h4
  rw [t0, o0, c3] at e0
  rw [t1, o1, c3] at e1
  rw [t2, o2, c3] at e2
  rw [t3, o3, c45] at e3
  rw [t3] at w3
  rw [t4, o4, c62] at e4
  rw [t4] at w4
  obtain ⟨a0, ha0, _, wa0⟩ := DataW.trod_int u3 e0
  obtain ⟨a1, ha1, _, wa1⟩ := DataW.trod_int u3 e1
  obtain ⟨a2, ha2, _, wa2⟩ := DataW.trod_int u3 e2
  obtain ⟨s, l, hs, hr, hl⟩ := open_bys u45 u5 (by kernel_rfl) (by kernel_rfl) e3 w3
  obtain ⟨m, hm, hmr, hml⟩ := sg_of (by simp [hc]) e4 w4
  refine ⟨⟨a0, a1, a2, (s, l), m⟩, ?_, ⟨wf_i64 wa0, wf_i64 wa1, wf_i64 wa2, Nat.le_trans hl (Nat.le_of_eq rfl), hml, hr, hmr⟩⟩
  match c, hc with
  | [x0, x1, x2, x3, x4, x5, x6, x7, x8], _ =>
    simp [sgv] at ha0 ha1 ha2 hs hm
    obtain ⟨m4, m5, m6, m7, m8⟩ := hm
    subst ha0; subst ha1; subst ha2; subst hs
    subst m4; subst m5; subst m6; subst m7; subst m8
    rfl
theorem clvs_of {H : Type} {enc : TypeId × Value → H} {W : World} {base b : Nat} {spare : Nat → Bool} {held : Bool} {v : Value} {d : DataW H} {ps : List MemPlace} (hval : Value.okWide Try.prog W .any b 36 v)
    (hd : DataW.Trod enc Try.prog W base spare held 36 v d ps) (hw : Wt Try.prog 36 d) : ∃ (s : Sl) (L : List Cl), v = .slice s.a s.len s.cap ∧ Rd W s 9 (clvs L) ∧ ∀ m ∈ L, m.ok W := by
  obtain ⟨a0, len, cap, rfl⟩ := okWide_slice u36 hval
  obtain ⟨fuel0, hf⟩ := hd
  obtain ⟨s, els, hcs, hl, hr, _, hel⟩ := open_rd u36 (sz := 9) (by kernel_rfl) (by decide) hf hw
  have : ∃ L : List Cl, els.flatten = clvs L ∧ ∀ m ∈ L, m.ok W := by
    clear hl hr hcs
    induction els with
    | nil => exact ⟨[], rfl, fun m hm => by cases hm⟩
    | cons c r ih =>
      obtain ⟨L, e, hL⟩ := ih fun c hc => hel c (List.mem_cons_of_mem _ hc)
      obtain ⟨hc1, n, y, hy, hwy⟩ := hel c (List.mem_cons_self ..)
      obtain ⟨m, rfl, hm⟩ := cl_of hc1 hy hwy
      refine ⟨m :: L, by rw [List.flatten_cons, e]; rfl, fun z hz => ?_⟩
      rcases List.mem_cons.1 hz with rfl | hz
      · exact hm
      · exact hL z hz
  obtain ⟨L, e, hL⟩ := this
  rw [e] at hr
  simp [Value.cells] at hcs
  obtain ⟨rfl, rfl, rfl⟩ := hcs
  exact ⟨s, L, rfl, hr, hL⟩
end Go.Proofs.Ytodgnpmljdopiaa
