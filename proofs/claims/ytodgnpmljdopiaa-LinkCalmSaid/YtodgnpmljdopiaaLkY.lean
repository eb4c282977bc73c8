/- LinkCalm. -/
import Derived.Test.YtodgnpmljdopiaaLkX
namespace Go.Proofs.Ytodgnpmljdopiaa
open Go Go.Fw Go.RowKit
set_option linter.unusedVariables false
set_option linter.unusedSimpArgs false
set_option maxRecDepth 4000
set_option maxHeartbeats 8000000
variable {W w0 w : World} {F G : Grps} {j n : Nat} {x : Ln}

/-- Nothing is to be told. -/
structure Fin0 (x : Ln) : Prop where
  ebx : x.e.bx = []
  edu : x.e.du = false
  eow : x.e.ow = false
  fbx : x.f.bx = []
  fdu : x.f.du = false
  fow : x.f.ow = false
/-- How long an end's clock has gone. -/
def Clk (e : Lk) (i : Nat) (r : Int) : Prop := e.un = [] ∨ ((i : Int) ≤ e.ag ∧ (i = 0 ∨ e.ag < r))
theorem clk_next {e z : Lk} {i : Nat} {r : Int} (h : Clk e i r) (hr : e.res = r) (hz : z.un = [] ∨ (z.ag = e.ticked.ag ∧ e.ticked.un ≠ [] ∧ e.ticked.du = false)) : Clk z (i + 1) r := by
  rcases hz with h1 | ⟨h1, h2, h3⟩
  · exact .inl h1
  · have h2 : e.un ≠ [] := h2
    rcases h with h4 | ⟨h4, _⟩
    · exact absurd h4 h2
    · have hl : ¬ e.un.length = 0 := fun h0 => h2 (List.eq_nil_of_length_eq_zero h0)
      have h3 : (if e.un.length = 0 then e.du else if e.ag + 1 ≥ e.res then true else e.du) = false := h3
      rw [if_neg hl] at h3
      have h1 : z.ag = (if e.un.length = 0 then e.ag else if e.ag + 1 ≥ e.res then 0 else e.ag + 1) := h1
      rw [if_neg hl] at h1
      by_cases hf : e.ag + 1 ≥ e.res
      · rw [if_pos hf] at h3; cases h3
      · rw [if_neg hf] at h1
        right
        refine ⟨?_, .inr ?_⟩ <;> omega
theorem clk_end {e : Lk} {i : Nat} {r : Int} (h : Clk e i r) (hi : 0 < i) (hr : r ≤ i) : e.un = [] := by
  rcases h with h | ⟨h1, h2⟩
  · exact h
  · omega
theorem step0 {cb : Nat} {wn : Nat → Int} (h : At w0 F cb wn 0 n w) (hn : n ≤ 1048000) (who : Int) (hwho : who = 0 ∨ who = 1) {d : Sl} {l : List UInt8} (hd : Rd w0 d 1 (bys l)) (hl : l.length ≤ 140737488351232) :
    CallK Try.prog .bool 18 #[.pointer (some ⟨cb, 0, none⟩), .agg #[.int .i64 0, .int .i64 who, .int .i64 0, .slice d.a d.len d.cap], .agg #[.int .i64 (wn 0), .int .i64 (wn 1)]] w
      fun (r : Bool) w' => r = true ∧ At w0 F cb wn 0 (n + 1) w' :=
  step_st (m := ⟨0, who, 0, (d, l)⟩) (by decide) h hn ⟨by dsimp only; omega, by dsimp only; omega, by dsimp only; omega, hl⟩ hd
theorem calm_st {s d : Sl} {L : List Mo} {l : List UInt8} (hs : Rd W s 4 (movs L)) (hL : ∀ m ∈ L, m.ok ∧ Rd W m.d.1 1 (bys m.d.2)) (hd : Rd W d 1 (bys l)) (hl : l.length ≤ 140737488351232) {p0 p1 p2 : Int} (r0 : -9223372036854775808 ≤ p0 ∧ p0 ≤ 9223372036854775807) (r1 : -9223372036854775808 ≤ p1 ∧ p1 ≤ 9223372036854775807) (r2 : -9223372036854775808 ≤ p2 ∧ p2 ≤ 9223372036854775807) :
    CallK Try.prog .bool 7 #[.int .i64 p0, .int .i64 p1, .int .i64 p2, .slice s.a s.len s.cap, .slice d.a d.len d.cap] W fun (r : Bool) w' => r = true ∧ Upd W w' nobody := by
  have hsl : s.len = L.length := by have := hs.1; rw [flat_len mov_len] at this; omega
  refine T7.calls ?_
  unfold T7
  refine (alive_st (St.init W)).mono ?_
  intro (al : Bool) w1 ⟨hal, h⟩
  rw [hal]
  refine (begun_st h r0 r1 r2).mono ?_
  rintro r w2 ⟨cb, rfl, hA⟩
  refine JoinX.mk (fun (y : Bool × Unit) w' => y.1 = false ∧ At W [] cb (wns p0 p1 p2) 0 0 w') ?_ ?_
  rotate_left
  · intro k hk
    rw [SplitB_iff]
    refine ⟨fun hf => (by cases hf), fun _ => ?_⟩
    refine RunN.pEqS ?_
    exact hk _ _ ⟨rfl, hA⟩
  clear h hA
  rintro ⟨y, ⟨⟩⟩ w3 ⟨hy, x, hI, rfl, hwe, hwf, h⟩
  dsimp only at hy
  subst hy
  rw [SplitB_iff]
  refine ⟨fun hf => (by cases hf), fun _ => ?_⟩
  refine (within_st h (by decide) (by decide) (by decide) r0).mono ?_
  intro (a : Int) w4 ⟨ha, h⟩
  refine (within_st h (by decide) (by decide) (by decide) r1).mono ?_
  intro (b : Int) w5 ⟨hb, h⟩
  have ha : a = wns p0 p1 p2 0 := ha
  have hb : b = wns p0 p1 p2 1 := hb
  rw [ha, hb]
  refine h.newB (NewC.run _) rfl ?_
  intro b3 w6 h
  refine h.stor2 0 0 ⟨_, rfl, rfl⟩ rfl ?_
  intro w7 h
  dsimp only [updG, setO] at h
  have h := h.ord 12 [1, 2, 3, 4, 5, 6, 7, 8, 9, 10, 11, 0]
  dsimp only [lnG, pick, nthO, dropO] at h
  let F' : Grps := [[.cel b3 43 [.int .i64 (wns p0 p1 p2 0), .int .i64 (wns p0 p1 p2 1)]]]
  have hA : At W F' x.cb (wns p0 p1 p2) 0 0 w7 := ⟨x, hI, rfl, hwe, hwf, h⟩
  have hcell : ∀ {n w'}, At W F' x.cb (wns p0 p1 p2) 0 n w' → ∃ y, LnI 0 n y ∧ y.cb = x.cb ∧ (y.e.win : Int) = wns p0 p1 p2 0 ∧ ((y.f.win : Int) = wns p0 p1 p2 1 ∧ y.e.res = wns p0 p1 p2 2 ∧ y.f.res = wns p0 p1 p2 2) ∧ St W w' (lnG 0 y F') := fun h => h
  generalize x.cb = cb at hA hcell ⊢
  clear hI hwe hwf h
  refine LoopX.mk (fun st w' => ∃ m : Nat, st = ((m : Int), ()) ∧ m ≤ L.length ∧ m ≤ 300 ∧ At W F' cb (wns p0 p1 p2) 0 m w') (fun st => 400 - st.1.toNat) ⟨0, rfl, Nat.zero_le _, by omega, hA⟩ ?_
  clear hA
  rintro _ w8 ⟨m, rfl, hm, hm3, hA⟩ k hk
  dsimp only at hk ⊢
  refine JoinX.mk (fun (y : Bool × Unit) w' => y.1 = decide (m < L.length ∧ m < 300) ∧ At W F' cb (wns p0 p1 p2) 0 m w') ?_ ?_
  rotate_left
  · intro k2 hk2
    rw [hsl, SplitB_iff]
    refine ⟨fun hc => ?_, fun hc => ?_⟩
    · have hc : (m : Int) < (L.length : Int) := of_decide_eq_true hc
      refine hk2 _ _ ⟨?_, hA⟩
      exact decide_eq_decide.2 ⟨fun h => ⟨by omega, by omega⟩, fun h => by omega⟩
    · have hc : ¬ (m : Int) < (L.length : Int) := of_decide_eq_false hc
      refine hk2 _ _ ⟨?_, hA⟩
      symm
      exact decide_eq_false (fun h => by omega)
  clear hA
  rintro ⟨y, ⟨⟩⟩ w9 ⟨hy, hA⟩
  dsimp only at hy
  subst hy
  obtain ⟨y, hI2, hcb2, hwe2, hwf2, h⟩ := hcell hA
  rw [SplitB_iff]
  refine ⟨fun hc => ?_, fun hc => ?_⟩
  · have hc : m < L.length ∧ m < 300 := of_decide_eq_true hc
    have hem : IntKind.i64.wrap ((m : Int) + 1) = ((m + 1 : Nat) : Int) := by rw [wr (by omega)]; omega
    rw [hem]
    have hsr : Rd w9.drew s 4 (movs L) := h.drew.old hs
    refine hsr.idxR m rfl (by omega) ?_
    intro b0 o0 ha0
    refine hsr.elAR ha0 (m * 4) rfl (kd := .agg (.cons (.int .i64) (.cons (.int .i64) (.cons (.int .i64) (.cons .sl .nilT))))) (L[m].kind, L[m].who, L[m].a, L[m].d.1, ()) (ds := mov L[m]) (flat_at mov_len _ _ hc.1) ?_
    refine h.drew.read2 11 0 ⟨_, rfl, rfl⟩ rfl ?_
    have hmo := hL _ (List.getElem_mem hc.1)
    have hA2 : At W F' cb (wns p0 p1 p2) 0 m w9.drew := ⟨y, hI2, hcb2, hwe2, hwf2, h.drew⟩
    refine (step_st (by decide) hA2 (by omega) hmo.1 hmo.2).mono ?_
    intro (r : Bool) w10 ⟨hr, hA⟩
    rw [hr, SplitB_iff]
    refine ⟨fun hf => (by cases hf), fun _ => ?_⟩
    exact hk _ _ ⟨m + 1, rfl, by omega, by omega, hA⟩ (by dsimp only; omega)
  clear hk hc
  refine JoinX.mk (fun (y : Bool × Unit) w' => y.1 = true ∧ At W F' cb (wns p0 p1 p2) 0 (m + 2) w') ?_ ?_
  rotate_left
  · intro k7 hk7
    refine h.load2 11 0 ⟨_, rfl, rfl⟩ rfl ?_
    refine (step0 ⟨y, hI2, hcb2, hwe2, hwf2, h⟩ (by omega) 0 (.inl rfl) hd hl).mono ?_
    intro (r : Bool) w10 ⟨hr, hA⟩
    obtain ⟨y, hI2, hcb2, hwe2, hwf2, h⟩ := hcell hA
    rw [hr, SplitB_iff]
    refine ⟨fun _ => ?_, fun hf => (by cases hf)⟩
    refine h.load2 11 0 ⟨_, rfl, rfl⟩ rfl ?_
    refine (step0 ⟨y, hI2, hcb2, hwe2, hwf2, h⟩ (by omega) 1 (.inr rfl) hd hl).mono ?_
    intro (r : Bool) w11 ⟨hr, hA⟩
    exact hk7 _ _ ⟨hr, hA⟩
  clear h hA hI2 hcb2 hwe2 hwf2
  rintro ⟨v, ⟨⟩⟩ w10 ⟨hv, hA⟩
  dsimp only at hv
  subst hv
  rw [SplitB_iff]
  refine ⟨fun hf => (by cases hf), fun _ => ?_⟩
  obtain ⟨y, hI2, hcb2, hwe2, hwf2, h⟩ := hcell hA
  have hnm : m + 2 ≤ 1048576 := by omega
  generalize m + 2 = N at hI2 hnm
  refine (within_st h (by decide) (by decide) (by decide) r2).mono ?_
  intro (t : Int) w11 ⟨ht, h⟩
  have ht : t = wns p0 p1 p2 2 := ht
  have htin := wi_in (x := p2) (lo := 1) (hi := 20) (by decide)
  have hte : wns p0 p1 p2 2 = wi p2 1 20 := rfl
  rw [← hte, ← ht] at htin
  rw [← ht] at hwf2
  refine LoopX.mk (fun st w' => ∃ (i : Nat) (x : Ln), st = ((i : Int), ()) ∧ (i : Int) ≤ t ∧ LnI 0 N x ∧ x.cb = cb ∧ (x.e.win : Int) = wns p0 p1 p2 0 ∧ ((x.f.win : Int) = wns p0 p1 p2 1 ∧ x.e.res = t ∧ x.f.res = t) ∧ (i = 0 ∨ Fin0 x) ∧ Clk x.e.toLk i t ∧ Clk x.f.toLk i t ∧ St W w' (lnG 0 x F')) (fun st => 100 - st.1.toNat)
    ⟨0, y, rfl, by omega, hI2, hcb2, hwe2, hwf2, .inl rfl, .inr ⟨hI2.we.ag.1, .inl rfl⟩, .inr ⟨hI2.wf.ag.1, .inl rfl⟩, h⟩ ?_
  clear h hA hI2 hcb2 hwe2 hwf2
  rintro _ w12 ⟨i, x, rfl, hit, hI, hcb, hwe, hwf, hfin, hce, hcf, h⟩ k hk
  dsimp only at hk ⊢
  subst hcb
  rw [SplitB_iff]
  refine ⟨fun hc => ?_, fun hc => ?_⟩
  · have hc : (i : Int) < t := of_decide_eq_true hc
    have hem : IntKind.i64.wrap ((i : Int) + 1) = ((i + 1 : Nat) : Int) := by rw [wr (by omega)]; omega
    rw [hem]
    refine NilP.mk ?_
    refine RunN.arr (ha := add_lit' _ _ _) 0 rfl (by decide) ?_
    refine h.loadB 0 0 (j := 0 + 0 + 0) ⟨_, rfl, rfl⟩ rfl (kd := .ptr) (x := x.e.p) (c_e (by decide)) ?_
    refine (tick_ln h hI.we).mono ?_
    intro _ w13 h
    have hI := ticked_I hI
    have h := sw_st (by decide) h
    have hI := sw_I (by decide) hI
    refine NilP.mk ?_
    refine RunN.arr (ha := add_lit' _ _ _) 1 rfl (by decide) ?_
    refine h.loadB 0 0 (j := 0 + 0 + 1) ⟨_, rfl, rfl⟩ rfl (kd := .ptr) (x := x.f.p) (c_e (x := Ln.sw { x with e := x.e.tick }) (j := 1) (by decide)) ?_
    refine (tick_ln h hI.we).mono ?_
    intro _ w14 h
    have hI := ticked_I hI
    have h := sw_st (j := 1) (by decide) h
    have hI := sw_I (j := 1) (by decide) hI
    let x2 : Ln := { x with e := x.e.tick, f := x.f.tick }
    have h : St W w14 (lnG 0 x2 F') := h
    have hI : LnI 0 N x2 := hI
    refine (quiet_st h hI hnm).mono ?_
    rintro r w15 ⟨hr, z, hz, hzow, hIz, hkz, h⟩
    have hr : (r : Bool) = true := hr
    rw [hr, SplitB_iff]
    refine ⟨fun hf => (by cases hf), fun _ => ?_⟩
    refine hk _ _ ⟨i + 1, z, rfl, by omega, hIz, hkz.1, by rw [hkz.2.1]; exact hwe, ⟨by rw [hkz.2.2.1]; exact hwf.1, hkz.2.2.2.1.trans hwf.2.1, hkz.2.2.2.2.trans hwf.2.2⟩, .inr ⟨hz.ebx, hz.edu, hzow, hz.fbx, hz.fdu, hz.fow⟩, clk_next hce hwf.2.1 hz.ce, clk_next hcf hwf.2.2 ?_, h⟩ (by dsimp only; omega)
    rcases hz.cf with h1 | ⟨h1, _⟩
    · exact h1
    · rw [hzow] at h1; cases h1
  · have hc : (i : Int) = t := by have : ¬ (i : Int) < t := of_decide_eq_false hc
                                  omega
    have hf : Fin0 x := by
      rcases hfin with h0 | h0
      · omega
      · exact h0
    have heu := clk_end hce (by omega) (by omega)
    have hfu := clk_end hcf (by omega) (by omega)
    clear hk
    refine LoopX.mk (fun st w' => ∃ m : Nat, st = ((m : Int), ()) ∧ m ≤ 2 ∧ St W w' (lnG 0 x F')) (fun st => 2 - st.1.toNat) ⟨0, rfl, by omega, h⟩ ?_
    clear h
    rintro _ w13 ⟨q, rfl, hq, h⟩ k hk
    dsimp only at hk ⊢
    rw [SplitB_iff]
    refine ⟨fun hc2 => ?_, fun hc2 => ?_⟩
    · have hj : q < 2 := by have : (q : Int) < 2 := of_decide_eq_true hc2
                            omega
      have hem : IntKind.i64.wrap ((q : Int) + 1) = ((q + 1 : Nat) : Int) := by rw [wr (by omega)]; omega
      rw [hem]
      obtain ⟨v, hvI, hvcb, hvwin, hvun, hvbx, hto, hback⟩ : ∃ v : Ln, LnI q N v ∧ v.cb = x.cb ∧ (v.e.win : Int) = wns p0 p1 p2 q ∧ v.e.un = [] ∧ v.e.bx = [] ∧ (∀ w', St W w' (lnG 0 x F') → St W w' (lnG q v F')) ∧ (∀ w', St W w' (lnG q v F') → St W w' (lnG 0 x F')) := by
        rcases (by omega : q = 0 ∨ q = 1) with rfl | rfl
        · exact ⟨x, hI, rfl, hwe, heu, hf.ebx, fun _ h => h, fun _ h => h⟩
        · exact ⟨x.sw, sw_I (by decide) hI, rfl, hwf.1, hfu, hf.fbx, fun _ h => sw_st (by decide) h, fun _ h => sw_st (j := 1) (by decide) h⟩
      have h := hto _ h
      refine JoinX.mk (fun (y : Bool × Unit) w' => y.1 = false ∧ St W w' (lnG q v F')) ?_ ?_
      · rintro ⟨b, ⟨⟩⟩ w14 ⟨hb, h⟩
        dsimp only at hb
        subst hb
        rw [SplitB_iff]
        refine ⟨fun hf => (by cases hf), fun _ => ?_⟩
        exact hk _ _ ⟨q + 1, rfl, by omega, hback _ h⟩ (by dsimp only; omega)
      · intro k13 hk13
        have hlast := hvI.ef.last
        have hdone := hvI.ef.done
        have hog := hvI.ef.og
        have hgo := hvI.we.gone
        have hlow := hvI.we.low
        rw [hvun, hvbx] at hdone hlow
        rw [hvbx] at hgo
        simp only [List.length_nil, List.length_map] at hdone hgo hlast hlow
        refine NilP.mk ?_
        refine ReadN.arr (ha := add_lit' _ _ _) q rfl hj ?_
        refine h.drew.readB 0 0 (j := 0 + 4 + q) ⟨_, rfl, rfl⟩ (by rw [hvcb]) (kd := .int .i64) (x := (v.oe : Int)) (by rw [Nat.zero_add]; exact c_oe hj) ?_
        refine NilP.mk ?_
        refine ReadN.arr (ha := add_lit' _ _ _) q rfl hj ?_
        refine h.drew.readB 0 0 (j := 0 + 2 + q) ⟨_, rfl, rfl⟩ (by rw [hvcb]) (kd := .sl) (x := v.ie.1) (by rw [Nat.zero_add]; exact c_ie hj) ?_
        have hil := lsl_rd (h.drew.rd (k := 7) (i := 0) (E := 45) (sz := 1) (s := v.ie.1) (vs := lsl v.ie.2) ⟨_, rfl, rfl⟩)
        have hoe : (v.oe : Int) = (v.ie.1.len : Int) := by omega
        rw [hoe, SplitB_iff]
        refine ⟨fun hf => by simp at hf, fun _ => ?_⟩
        refine NilP.mk ?_
        refine ReadN.arr (ha := add_lit' _ _ _) q rfl hj ?_
        refine h.drew.readB 0 0 (j := 0 + 0 + q) ⟨_, rfl, rfl⟩ (by rw [hvcb]) (kd := .ptr) (x := v.e.p) (c_e hj) ?_
        refine (under_ln h.drew hvI.we).mono ?_
        rintro o w14 ⟨gs, hgs, hol, h⟩
        have hg0 : gs.length = 0 := by
          have := congrArg List.length hgs
          rw [hvun] at this
          simpa [Lk.tells] using this
        have ho0 : (o.len : Int) = 0 := by omega
        rw [ho0, SplitB_iff]
        refine ⟨fun hf => (by cases hf), fun _ => ?_⟩
        have h := (h.drop 0).drop 0
        dsimp only [delO] at h
        have hwin2 : nthO [Value.int .i64 (wns p0 p1 p2 0), .int .i64 (wns p0 p1 p2 1)] (0 + q) = some (.int .i64 (wns p0 p1 p2 q)) := by
          rcases (by omega : q = 0 ∨ q = 1) with h0 | h0 <;> rw [h0] <;> rfl
        refine NilP.mk ?_
        refine ReadN.arr (ha := add_lit' _ _ _) q rfl hj ?_
        refine h.readB 0 0 (j := 0 + 0 + q) ⟨_, rfl, rfl⟩ (by rw [hvcb]) (kd := .ptr) (x := v.e.p) (c_e hj) ?_
        refine ReadN.arr rfl q rfl hj ?_
        refine h.readB 11 0 (j := 0 + q) ⟨_, rfl, rfl⟩ rfl (kd := .int .i64) (x := wns p0 p1 p2 q) hwin2 ?_
        refine (room_ln h hvI.we).mono ?_
        intro (rm : Int) w15 ⟨hrm, h⟩
        refine ⟨h.stillB 11 0 (j := 0 + q) ⟨_, rfl, rfl⟩ rfl hwin2, ?_⟩
        refine ⟨StillV.of (run_arr rfl q rfl hj), ?_⟩
        refine hk13 _ _ ⟨?_, h⟩
        have : rm = wns p0 p1 p2 q := by
          rw [hrm, Lk.room, hvun, hvbx, ← hvwin]
          simp
        rw [this]
        simp
    · -- at the end nothing is told
      refine NilP.mk ?_
      refine RunN.arr (ha := add_lit' _ _ _) 0 rfl (by decide) ?_
      refine h.loadB 0 0 (j := 0 + 0 + 0) ⟨_, rfl, rfl⟩ rfl (kd := .ptr) (x := x.e.p) (c_e (by decide)) ?_
      refine (outg_ln h hI).mono ?_
      rintro o w14 ⟨us, gs, hgs, hol, hI2, h⟩
      have hg0 : gs.length = 0 := by
        have := congrArg List.length hgs
        rw [Lk.outs, hf.eow, hf.edu, hf.ebx] at this
        simpa [Lk.tells] using this
      have ho0 : (o.len : Int) = 0 := by omega
      rw [ho0, SplitB_iff]
      refine ⟨fun _ => ?_, fun hf => (by cases hf)⟩
      have h := sw_st (by decide) h
      have hI3 := sw_I (by decide) hI2
      refine NilP.mk ?_
      refine RunN.arr (ha := add_lit' _ _ _) 1 rfl (by decide) ?_
      refine h.loadB 0 0 (j := 0 + 0 + 1) ⟨_, rfl, rfl⟩ rfl (kd := .ptr) (x := x.f.p) (c_e (x := (outg x us gs).sw) (j := 1) (by decide)) ?_
      refine (outg_ln h hI3).mono ?_
      rintro o2 w15 ⟨us2, gs2, hgs2, hol2, _, h⟩
      have hg2 : gs2.length = 0 := by
        have := congrArg List.length hgs2
        have e1 : (outg x us gs).sw.e = x.f := rfl
        rw [e1, Lk.outs, hf.fow, hf.fdu, hf.fbx] at this
        simpa [Lk.tells] using this
      refine ⟨?_, h.upd⟩
      rw [hol2, hg2]; rfl
theorem law7 {s d : Sl} {L : List Mo} {l : List UInt8} (hs : Rd W s 4 (movs L) ∧ ∀ m ∈ L, m.ok ∧ Rd W m.d.1 1 (bys m.d.2)) (hd : Rd W d 1 (bys l)) (hl : l.length ≤ 140737488351232) {p0 p1 p2 : Int} (r0 : -9223372036854775808 ≤ p0 ∧ p0 ≤ 9223372036854775807) (r1 : -9223372036854775808 ≤ p1 ∧ p1 ≤ 9223372036854775807) (r2 : -9223372036854775808 ≤ p2 ∧ p2 ≤ 9223372036854775807) :
    CallK Try.prog .bool 7 #[.int .i64 p0, .int .i64 p1, .int .i64 p2, .slice s.a s.len s.cap, .slice d.a d.len d.cap] W fun (r : Bool) w' => Upd W w' nobody ∧ r = true :=
  (calm_st hs.1 hs.2 hd hl r0 r1 r2).mono fun _ _ h => ⟨h.2, h.1⟩
end Go.Proofs.Ytodgnpmljdopiaa
