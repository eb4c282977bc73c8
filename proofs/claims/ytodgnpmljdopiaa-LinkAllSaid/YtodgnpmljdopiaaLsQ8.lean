/- Words and steps, part 8: LinkCalm. The document's link in memory. The document's link in memory: Send, segments, Under. The document's link in memory: Under, Out. The document's link in memory: Out. The document's link in memory: what is sought, what is taken. The document's link in memory: Take. The plain law: the program's link and the document's answer alike. The plain law: Out and Take, alike. -/
import Derived.Test.YtodgnpmljdopiaaProg
import Derived.Test.YtodgnpmljdopiaaLsQ7
/- LinkCalm. -/
namespace Go.Proofs.Ytodgnpmljdopiaa
open Go Go.Fw Go.RowKit
set_option linter.unusedVariables false
set_option linter.unusedSimpArgs false
set_option maxRecDepth 4000
set_option maxHeartbeats 8000000
variable {W w0 w : World} {F G : Grps} {j n : Nat} {x : Ln}

/-- Nothing is to be told. -/
structure Fin0 (x : Ln) : Prop where
  ebx : x.e.bx = []
  edu : x.e.du = false
  eow : x.e.ow = false
  fbx : x.f.bx = []
  fdu : x.f.du = false
  fow : x.f.ow = false
/-- How long an end's clock has gone. -/
def Clk (e : Lk) (i : Nat) (r : Int) : Prop := e.un = [] ∨ ((i : Int) ≤ e.ag ∧ (i = 0 ∨ e.ag < r))
theorem clk_next {e z : Lk} {i : Nat} {r : Int} (h : Clk e i r) (hr : e.res = r) (hz : z.un = [] ∨ (z.ag = e.ticked.ag ∧ e.ticked.un ≠ [] ∧ e.ticked.du = false)) : Clk z (i + 1) r := by
  rcases hz with h1 | ⟨h1, h2, h3⟩
  · exact .inl h1
  · have h2 : e.un ≠ [] := h2
    rcases h with h4 | ⟨h4, _⟩
    · exact absurd h4 h2
    · have hl : ¬ e.un.length = 0 := fun h0 => h2 (List.eq_nil_of_length_eq_zero h0)
      have h3 : (if e.un.length = 0 then e.du else if e.ag + 1 ≥ e.res then true else e.du) = false := h3
      rw [if_neg hl] at h3
      have h1 : z.ag = (if e.un.length = 0 then e.ag else if e.ag + 1 ≥ e.res then 0 else e.ag + 1) := h1
      rw [if_neg hl] at h1
      by_cases hf : e.ag + 1 ≥ e.res
      · rw [if_pos hf] at h3; cases h3
      · rw [if_neg hf] at h1
        right
        refine ⟨?_, .inr ?_⟩ <;> omega
theorem clk_end {e : Lk} {i : Nat} {r : Int} (h : Clk e i r) (hi : 0 < i) (hr : r ≤ i) : e.un = [] := by
  rcases h with h | ⟨h1, h2⟩
  · exact h
  · omega
theorem step0 {cb : Nat} {wn : Nat → Int} (h : At w0 F cb wn 0 n w) (hn : n ≤ 1048000) (who : Int) (hwho : who = 0 ∨ who = 1) {d : Sl} {l : List UInt8} (hd : Rd w0 d 1 (bys l)) (hl : l.length ≤ 140737488351232) :
    CallK Try.prog .bool 18 #[.pointer (some ⟨cb, 0, none⟩), .agg #[.int .i64 0, .int .i64 who, .int .i64 0, .slice d.a d.len d.cap], .agg #[.int .i64 (wn 0), .int .i64 (wn 1)]] w
      fun (r : Bool) w' => r = true ∧ At w0 F cb wn 0 (n + 1) w' :=
  step_st (m := ⟨0, who, 0, (d, l)⟩) (by decide) h hn ⟨by dsimp only; omega, by dsimp only; omega, by dsimp only; omega, hl⟩ hd
theorem calm_st {s d : Sl} {L : List Mo} {l : List UInt8} (hs : Rd W s 4 (movs L)) (hL : ∀ m ∈ L, m.ok ∧ Rd W m.d.1 1 (bys m.d.2)) (hd : Rd W d 1 (bys l)) (hl : l.length ≤ 140737488351232) {p0 p1 p2 : Int} (r0 : -9223372036854775808 ≤ p0 ∧ p0 ≤ 9223372036854775807) (r1 : -9223372036854775808 ≤ p1 ∧ p1 ≤ 9223372036854775807) (r2 : -9223372036854775808 ≤ p2 ∧ p2 ≤ 9223372036854775807) :
    CallK Try.prog .bool 7 #[.int .i64 p0, .int .i64 p1, .int .i64 p2, .slice s.a s.len s.cap, .slice d.a d.len d.cap] W fun (r : Bool) w' => r = true ∧ Upd W w' nobody := by
  have hsl : s.len = L.length := by have := hs.1; rw [flat_len mov_len] at this; omega
  refine T7.calls ?_
  unfold T7
  refine (alive_st (St.init W)).mono ?_
  intro (al : Bool) w1 ⟨hal, h⟩
  rw [hal]
  refine (begun_st h r0 r1 r2).mono ?_
  rintro r w2 ⟨cb, rfl, hA⟩
  refine JoinX.mk (fun (y : Bool × Unit) w' => y.1 = false ∧ At W [] cb (wns p0 p1 p2) 0 0 w') ?_ ?_
  rotate_left
  · intro k hk
    rw [SplitB_iff]
    refine ⟨fun hf => (by cases hf), fun _ => ?_⟩
    refine RunN.pEqS ?_
    exact hk _ _ ⟨rfl, hA⟩
  clear h hA
  rintro ⟨y, ⟨⟩⟩ w3 ⟨hy, x, hI, rfl, hwe, hwf, h⟩
  dsimp only at hy
  subst hy
  rw [SplitB_iff]
  refine ⟨fun hf => (by cases hf), fun _ => ?_⟩
  refine (within_st h (by decide) (by decide) (by decide) r0).mono ?_
  intro (a : Int) w4 ⟨ha, h⟩
  refine (within_st h (by decide) (by decide) (by decide) r1).mono ?_
  intro (b : Int) w5 ⟨hb, h⟩
  have ha : a = wns p0 p1 p2 0 := ha
  have hb : b = wns p0 p1 p2 1 := hb
  rw [ha, hb]
  refine h.newB (NewC.run _) rfl ?_
  intro b3 w6 h
  refine h.stor2 0 0 ⟨_, rfl, rfl⟩ rfl ?_
  intro w7 h
  dsimp only [updG, setO] at h
  have h := h.ord 12 [1, 2, 3, 4, 5, 6, 7, 8, 9, 10, 11, 0]
  dsimp only [lnG, pick, nthO, dropO] at h
  let F' : Grps := [[.cel b3 43 [.int .i64 (wns p0 p1 p2 0), .int .i64 (wns p0 p1 p2 1)]]]
  have hA : At W F' x.cb (wns p0 p1 p2) 0 0 w7 := ⟨x, hI, rfl, hwe, hwf, h⟩
  have hcell : ∀ {n w'}, At W F' x.cb (wns p0 p1 p2) 0 n w' → ∃ y, LnI 0 n y ∧ y.cb = x.cb ∧ (y.e.win : Int) = wns p0 p1 p2 0 ∧ ((y.f.win : Int) = wns p0 p1 p2 1 ∧ y.e.res = wns p0 p1 p2 2 ∧ y.f.res = wns p0 p1 p2 2) ∧ St W w' (lnG 0 y F') := fun h => h
  generalize x.cb = cb at hA hcell ⊢
  clear hI hwe hwf h
  refine LoopX.mk (fun st w' => ∃ m : Nat, st = ((m : Int), ()) ∧ m ≤ L.length ∧ m ≤ 300 ∧ At W F' cb (wns p0 p1 p2) 0 m w') (fun st => 400 - st.1.toNat) ⟨0, rfl, Nat.zero_le _, by omega, hA⟩ ?_
  clear hA
  rintro _ w8 ⟨m, rfl, hm, hm3, hA⟩ k hk
  dsimp only at hk ⊢
  refine JoinX.mk (fun (y : Bool × Unit) w' => y.1 = decide (m < L.length ∧ m < 300) ∧ At W F' cb (wns p0 p1 p2) 0 m w') ?_ ?_
  rotate_left
  · intro k2 hk2
    rw [hsl, SplitB_iff]
    refine ⟨fun hc => ?_, fun hc => ?_⟩
    · have hc : (m : Int) < (L.length : Int) := of_decide_eq_true hc
      refine hk2 _ _ ⟨?_, hA⟩
      exact decide_eq_decide.2 ⟨fun h => ⟨by omega, by omega⟩, fun h => by omega⟩
    · have hc : ¬ (m : Int) < (L.length : Int) := of_decide_eq_false hc
      refine hk2 _ _ ⟨?_, hA⟩
      symm
      exact decide_eq_false (fun h => by omega)
  clear hA
  rintro ⟨y, ⟨⟩⟩ w9 ⟨hy, hA⟩
  dsimp only at hy
  subst hy
  obtain ⟨y, hI2, hcb2, hwe2, hwf2, h⟩ := hcell hA
  rw [SplitB_iff]
  refine ⟨fun hc => ?_, fun hc => ?_⟩
  · have hc : m < L.length ∧ m < 300 := of_decide_eq_true hc
    have hem : IntKind.i64.wrap ((m : Int) + 1) = ((m + 1 : Nat) : Int) := by rw [wr (by omega)]; omega
    rw [hem]
    have hsr : Rd w9.drew s 4 (movs L) := h.drew.old hs
    refine hsr.idxR m rfl (by omega) ?_
    intro b0 o0 ha0
    refine hsr.elAR ha0 (m * 4) rfl (kd := .agg (.cons (.int .i64) (.cons (.int .i64) (.cons (.int .i64) (.cons .sl .nilT))))) (L[m].kind, L[m].who, L[m].a, L[m].d.1, ()) (ds := mov L[m]) (flat_at mov_len _ _ hc.1) ?_
    refine h.drew.read2 11 0 ⟨_, rfl, rfl⟩ rfl ?_
    have hmo := hL _ (List.getElem_mem hc.1)
    have hA2 : At W F' cb (wns p0 p1 p2) 0 m w9.drew := ⟨y, hI2, hcb2, hwe2, hwf2, h.drew⟩
    refine (step_st (by decide) hA2 (by omega) hmo.1 hmo.2).mono ?_
    intro (r : Bool) w10 ⟨hr, hA⟩
    rw [hr, SplitB_iff]
    refine ⟨fun hf => (by cases hf), fun _ => ?_⟩
    exact hk _ _ ⟨m + 1, rfl, by omega, by omega, hA⟩ (by dsimp only; omega)
  clear hk hc
  refine JoinX.mk (fun (y : Bool × Unit) w' => y.1 = true ∧ At W F' cb (wns p0 p1 p2) 0 (m + 2) w') ?_ ?_
  rotate_left
  · intro k7 hk7
    refine h.load2 11 0 ⟨_, rfl, rfl⟩ rfl ?_
    refine (step0 ⟨y, hI2, hcb2, hwe2, hwf2, h⟩ (by omega) 0 (.inl rfl) hd hl).mono ?_
    intro (r : Bool) w10 ⟨hr, hA⟩
    obtain ⟨y, hI2, hcb2, hwe2, hwf2, h⟩ := hcell hA
    rw [hr, SplitB_iff]
    refine ⟨fun _ => ?_, fun hf => (by cases hf)⟩
    refine h.load2 11 0 ⟨_, rfl, rfl⟩ rfl ?_
    refine (step0 ⟨y, hI2, hcb2, hwe2, hwf2, h⟩ (by omega) 1 (.inr rfl) hd hl).mono ?_
    intro (r : Bool) w11 ⟨hr, hA⟩
    exact hk7 _ _ ⟨hr, hA⟩
  clear h hA hI2 hcb2 hwe2 hwf2
  rintro ⟨v, ⟨⟩⟩ w10 ⟨hv, hA⟩
  dsimp only at hv
  subst hv
  rw [SplitB_iff]
  refine ⟨fun hf => (by cases hf), fun _ => ?_⟩
  obtain ⟨y, hI2, hcb2, hwe2, hwf2, h⟩ := hcell hA
  have hnm : m + 2 ≤ 1048576 := by omega
  generalize m + 2 = N at hI2 hnm
  refine (within_st h (by decide) (by decide) (by decide) r2).mono ?_
  intro (t : Int) w11 ⟨ht, h⟩
  have ht : t = wns p0 p1 p2 2 := ht
  have htin := wi_in (x := p2) (lo := 1) (hi := 20) (by decide)
  have hte : wns p0 p1 p2 2 = wi p2 1 20 := rfl
  rw [← hte, ← ht] at htin
  rw [← ht] at hwf2
  refine LoopX.mk (fun st w' => ∃ (i : Nat) (x : Ln), st = ((i : Int), ()) ∧ (i : Int) ≤ t ∧ LnI 0 N x ∧ x.cb = cb ∧ (x.e.win : Int) = wns p0 p1 p2 0 ∧ ((x.f.win : Int) = wns p0 p1 p2 1 ∧ x.e.res = t ∧ x.f.res = t) ∧ (i = 0 ∨ Fin0 x) ∧ Clk x.e.toLk i t ∧ Clk x.f.toLk i t ∧ St W w' (lnG 0 x F')) (fun st => 100 - st.1.toNat)
    ⟨0, y, rfl, by omega, hI2, hcb2, hwe2, hwf2, .inl rfl, .inr ⟨hI2.we.ag.1, .inl rfl⟩, .inr ⟨hI2.wf.ag.1, .inl rfl⟩, h⟩ ?_
  clear h hA hI2 hcb2 hwe2 hwf2
  rintro _ w12 ⟨i, x, rfl, hit, hI, hcb, hwe, hwf, hfin, hce, hcf, h⟩ k hk
  dsimp only at hk ⊢
  subst hcb
  rw [SplitB_iff]
  refine ⟨fun hc => ?_, fun hc => ?_⟩
  · have hc : (i : Int) < t := of_decide_eq_true hc
    have hem : IntKind.i64.wrap ((i : Int) + 1) = ((i + 1 : Nat) : Int) := by rw [wr (by omega)]; omega
    rw [hem]
    refine NilP.mk ?_
    refine RunN.arr (ha := add_lit' _ _ _) 0 rfl (by decide) ?_
    refine h.loadB 0 0 (j := 0 + 0 + 0) ⟨_, rfl, rfl⟩ rfl (kd := .ptr) (x := x.e.p) (c_e (by decide)) ?_
    refine (tick_ln h hI.we).mono ?_
    intro _ w13 h
    have hI := ticked_I hI
    have h := sw_st (by decide) h
    have hI := sw_I (by decide) hI
    refine NilP.mk ?_
    refine RunN.arr (ha := add_lit' _ _ _) 1 rfl (by decide) ?_
    refine h.loadB 0 0 (j := 0 + 0 + 1) ⟨_, rfl, rfl⟩ rfl (kd := .ptr) (x := x.f.p) (c_e (x := Ln.sw { x with e := x.e.tick }) (j := 1) (by decide)) ?_
    refine (tick_ln h hI.we).mono ?_
    intro _ w14 h
    have hI := ticked_I hI
    have h := sw_st (j := 1) (by decide) h
    have hI := sw_I (j := 1) (by decide) hI
    let x2 : Ln := { x with e := x.e.tick, f := x.f.tick }
    have h : St W w14 (lnG 0 x2 F') := h
    have hI : LnI 0 N x2 := hI
    refine (quiet_st h hI hnm).mono ?_
    rintro r w15 ⟨hr, z, hz, hzow, hIz, hkz, h⟩
    have hr : (r : Bool) = true := hr
    rw [hr, SplitB_iff]
    refine ⟨fun hf => (by cases hf), fun _ => ?_⟩
    refine hk _ _ ⟨i + 1, z, rfl, by omega, hIz, hkz.1, by rw [hkz.2.1]; exact hwe, ⟨by rw [hkz.2.2.1]; exact hwf.1, hkz.2.2.2.1.trans hwf.2.1, hkz.2.2.2.2.trans hwf.2.2⟩, .inr ⟨hz.ebx, hz.edu, hzow, hz.fbx, hz.fdu, hz.fow⟩, clk_next hce hwf.2.1 hz.ce, clk_next hcf hwf.2.2 ?_, h⟩ (by dsimp only; omega)
    rcases hz.cf with h1 | ⟨h1, _⟩
    · exact h1
    · rw [hzow] at h1; cases h1
  · have hc : (i : Int) = t := by have : ¬ (i : Int) < t := of_decide_eq_false hc
                                  omega
    have hf : Fin0 x := by
      rcases hfin with h0 | h0
      · omega
      · exact h0
    have heu := clk_end hce (by omega) (by omega)
    have hfu := clk_end hcf (by omega) (by omega)
    clear hk
    refine LoopX.mk (fun st w' => ∃ m : Nat, st = ((m : Int), ()) ∧ m ≤ 2 ∧ St W w' (lnG 0 x F')) (fun st => 2 - st.1.toNat) ⟨0, rfl, by omega, h⟩ ?_
    clear h
    rintro _ w13 ⟨q, rfl, hq, h⟩ k hk
    dsimp only at hk ⊢
    rw [SplitB_iff]
    refine ⟨fun hc2 => ?_, fun hc2 => ?_⟩
    · have hj : q < 2 := by have : (q : Int) < 2 := of_decide_eq_true hc2
                            omega
      have hem : IntKind.i64.wrap ((q : Int) + 1) = ((q + 1 : Nat) : Int) := by rw [wr (by omega)]; omega
      rw [hem]
      obtain ⟨v, hvI, hvcb, hvwin, hvun, hvbx, hto, hback⟩ : ∃ v : Ln, LnI q N v ∧ v.cb = x.cb ∧ (v.e.win : Int) = wns p0 p1 p2 q ∧ v.e.un = [] ∧ v.e.bx = [] ∧ (∀ w', St W w' (lnG 0 x F') → St W w' (lnG q v F')) ∧ (∀ w', St W w' (lnG q v F') → St W w' (lnG 0 x F')) := by
        rcases (by omega : q = 0 ∨ q = 1) with rfl | rfl
        · exact ⟨x, hI, rfl, hwe, heu, hf.ebx, fun _ h => h, fun _ h => h⟩
        · exact ⟨x.sw, sw_I (by decide) hI, rfl, hwf.1, hfu, hf.fbx, fun _ h => sw_st (by decide) h, fun _ h => sw_st (j := 1) (by decide) h⟩
      have h := hto _ h
      refine JoinX.mk (fun (y : Bool × Unit) w' => y.1 = false ∧ St W w' (lnG q v F')) ?_ ?_
      · rintro ⟨b, ⟨⟩⟩ w14 ⟨hb, h⟩
        dsimp only at hb
        subst hb
        rw [SplitB_iff]
        refine ⟨fun hf => (by cases hf), fun _ => ?_⟩
        exact hk _ _ ⟨q + 1, rfl, by omega, hback _ h⟩ (by dsimp only; omega)
      · intro k13 hk13
        have hlast := hvI.ef.last
        have hdone := hvI.ef.done
        have hog := hvI.ef.og
        have hgo := hvI.we.gone
        have hlow := hvI.we.low
        rw [hvun, hvbx] at hdone hlow
        rw [hvbx] at hgo
        simp only [List.length_nil, List.length_map] at hdone hgo hlast hlow
        refine NilP.mk ?_
        refine ReadN.arr (ha := add_lit' _ _ _) q rfl hj ?_
        refine h.drew.readB 0 0 (j := 0 + 4 + q) ⟨_, rfl, rfl⟩ (by rw [hvcb]) (kd := .int .i64) (x := (v.oe : Int)) (by rw [Nat.zero_add]; exact c_oe hj) ?_
        refine NilP.mk ?_
        refine ReadN.arr (ha := add_lit' _ _ _) q rfl hj ?_
        refine h.drew.readB 0 0 (j := 0 + 2 + q) ⟨_, rfl, rfl⟩ (by rw [hvcb]) (kd := .sl) (x := v.ie.1) (by rw [Nat.zero_add]; exact c_ie hj) ?_
        have hil := lsl_rd (h.drew.rd (k := 7) (i := 0) (E := 45) (sz := 1) (s := v.ie.1) (vs := lsl v.ie.2) ⟨_, rfl, rfl⟩)
        have hoe : (v.oe : Int) = (v.ie.1.len : Int) := by omega
        rw [hoe, SplitB_iff]
        refine ⟨fun hf => by simp at hf, fun _ => ?_⟩
        refine NilP.mk ?_
        refine ReadN.arr (ha := add_lit' _ _ _) q rfl hj ?_
        refine h.drew.readB 0 0 (j := 0 + 0 + q) ⟨_, rfl, rfl⟩ (by rw [hvcb]) (kd := .ptr) (x := v.e.p) (c_e hj) ?_
        refine (under_ln h.drew hvI.we).mono ?_
        rintro o w14 ⟨gs, hgs, hol, h⟩
        have hg0 : gs.length = 0 := by
          have := congrArg List.length hgs
          rw [hvun] at this
          simpa [Lk.tells] using this
        have ho0 : (o.len : Int) = 0 := by omega
        rw [ho0, SplitB_iff]
        refine ⟨fun hf => (by cases hf), fun _ => ?_⟩
        have h := (h.drop 0).drop 0
        dsimp only [delO] at h
        have hwin2 : nthO [Value.int .i64 (wns p0 p1 p2 0), .int .i64 (wns p0 p1 p2 1)] (0 + q) = some (.int .i64 (wns p0 p1 p2 q)) := by
          rcases (by omega : q = 0 ∨ q = 1) with h0 | h0 <;> rw [h0] <;> rfl
        refine NilP.mk ?_
        refine ReadN.arr (ha := add_lit' _ _ _) q rfl hj ?_
        refine h.readB 0 0 (j := 0 + 0 + q) ⟨_, rfl, rfl⟩ (by rw [hvcb]) (kd := .ptr) (x := v.e.p) (c_e hj) ?_
        refine ReadN.arr rfl q rfl hj ?_
        refine h.readB 11 0 (j := 0 + q) ⟨_, rfl, rfl⟩ rfl (kd := .int .i64) (x := wns p0 p1 p2 q) hwin2 ?_
        refine (room_ln h hvI.we).mono ?_
        intro (rm : Int) w15 ⟨hrm, h⟩
        refine ⟨h.stillB 11 0 (j := 0 + q) ⟨_, rfl, rfl⟩ rfl hwin2, ?_⟩
        refine ⟨StillV.of (run_arr rfl q rfl hj), ?_⟩
        refine hk13 _ _ ⟨?_, h⟩
        have : rm = wns p0 p1 p2 q := by
          rw [hrm, Lk.room, hvun, hvbx, ← hvwin]
          simp
        rw [this]
        simp
    · -- at the end nothing is told
      refine NilP.mk ?_
      refine RunN.arr (ha := add_lit' _ _ _) 0 rfl (by decide) ?_
      refine h.loadB 0 0 (j := 0 + 0 + 0) ⟨_, rfl, rfl⟩ rfl (kd := .ptr) (x := x.e.p) (c_e (by decide)) ?_
      refine (outg_ln h hI).mono ?_
      rintro o w14 ⟨us, gs, hgs, hol, hI2, h⟩
      have hg0 : gs.length = 0 := by
        have := congrArg List.length hgs
        rw [Lk.outs, hf.eow, hf.edu, hf.ebx] at this
        simpa [Lk.tells] using this
      have ho0 : (o.len : Int) = 0 := by omega
      rw [ho0, SplitB_iff]
      refine ⟨fun _ => ?_, fun hf => (by cases hf)⟩
      have h := sw_st (by decide) h
      have hI3 := sw_I (by decide) hI2
      refine NilP.mk ?_
      refine RunN.arr (ha := add_lit' _ _ _) 1 rfl (by decide) ?_
      refine h.loadB 0 0 (j := 0 + 0 + 1) ⟨_, rfl, rfl⟩ rfl (kd := .ptr) (x := x.f.p) (c_e (x := (outg x us gs).sw) (j := 1) (by decide)) ?_
      refine (outg_ln h hI3).mono ?_
      rintro o2 w15 ⟨us2, gs2, hgs2, hol2, _, h⟩
      have hg2 : gs2.length = 0 := by
        have := congrArg List.length hgs2
        have e1 : (outg x us gs).sw.e = x.f := rfl
        rw [e1, Lk.outs, hf.fow, hf.fdu, hf.fbx] at this
        simpa [Lk.tells] using this
      refine ⟨?_, h.upd⟩
      rw [hol2, hg2]; rfl
theorem law7 {s d : Sl} {L : List Mo} {l : List UInt8} (hs : Rd W s 4 (movs L) ∧ ∀ m ∈ L, m.ok ∧ Rd W m.d.1 1 (bys m.d.2)) (hd : Rd W d 1 (bys l)) (hl : l.length ≤ 140737488351232) {p0 p1 p2 : Int} (r0 : -9223372036854775808 ≤ p0 ∧ p0 ≤ 9223372036854775807) (r1 : -9223372036854775808 ≤ p1 ∧ p1 ≤ 9223372036854775807) (r2 : -9223372036854775808 ≤ p2 ∧ p2 ≤ 9223372036854775807) :
    CallK Try.prog .bool 7 #[.int .i64 p0, .int .i64 p1, .int .i64 p2, .slice s.a s.len s.cap, .slice d.a d.len d.cap] W fun (r : Bool) w' => Upd W w' nobody ∧ r = true :=
  (calm_st hs.1 hs.2 hd hl r0 r1 r2).mono fun _ _ h => ⟨h.2, h.1⟩
end Go.Proofs.Ytodgnpmljdopiaa

namespace Go.Proofs.Ytodgnpmljdopiaa
open Go Go.Fw Go.Proofs
set_option maxRecDepth 100000
set_option linter.unusedVariables false

/-- (*sluice/sluiceref3.Link).Send -/
def T37 (p0 : Option Addr) (p1 : Sl) (w : World) (K : Int → World → Prop) : Prop :=
  SplitB (decide ((p1.len : Int) > 4000))
    (K 2 w)
    (JoinX (α := Bool × Unit) (fun j2 w =>
      SplitB j2.1
        (K 30 w)
        (NilP p0 fun t21 =>
        ReadN Try.prog .sl (V (Instr.loadAt 51 (.pointer (some (t21.add 4))))) w.drew fun t23 =>
        CallK Try.prog .sl 53 #[.slice p1.a p1.len p1.cap] w.drew fun t25 w =>
        StillV Try.prog (V (Instr.loadAt 51 (.pointer (some (t21.add 4))))) (.slice t23.a t23.len t23.cap) w ∧
        RunN Try.prog .sl (V (Instr.buildSlice 51 1 #[(0, .slice t25.a t25.len t25.cap)])) w fun t26 w =>
        StillV Try.prog (V (Instr.loadAt 51 (.pointer (some (t21.add 4))))) (.slice t23.a t23.len t23.cap) w ∧
        RunN Try.prog .sl (V (Builtin.append_ #[51, 51] 51 #[.slice t23.a t23.len t23.cap, .slice t26.a t26.len t26.cap])) w fun t27 w =>
        NilP p0 fun t28 =>
        RunU Try.prog (U (Instr.storeAt 51 (.pointer (some (t28.add 4))) (.slice t27.a t27.len t27.cap))) w fun w =>
        K 0 w))
    fun k1 =>
      CallK Try.prog (.int .i64) 49 #[.pointer p0] w fun t9 w =>
      SplitB (decide (t9 ≤ 0))
        (k1 (true, ()) w)
        (NilP p0 fun t13 =>
        RunN Try.prog .sl (V (Instr.loadAt 51 (.pointer (some (t13.add 4))))) w fun t15 w =>
        k1 (decide ((t15.len : Int) ≥ 1099511627776), ()) w))
theorem T37.calls {p0 : Option Addr} {p1 : Sl} {w : World} {K : Int → World → Prop} (h : T37 p0 p1 w K) : CallK Try.prog (.int .i64) 37 #[.pointer p0, .slice p1.a p1.len p1.cap] w K :=
  bodyZ_sound (κ := kappa) (ann := [(5, [(18, .bool)])]) (fn := Try.f37) Try.func37 rfl (by kernel_rfl) (cast (show T37 p0 p1 w K = bodyZ Try.prog kappa [(5, [(18, .bool)])] (.int .i64) Try.f37 [.pointer p0, .slice p1.a p1.len p1.cap] w K by kernel_rfl) h)

/-- (*sluice/sluiceref3.Link).Tick -/
def T40 (p0 : Option Addr) (w : World) (K : Unit → World → Prop) : Prop :=
  NilP p0 fun t3 =>
  ReadN Try.prog (.int .i64) (V (Instr.loadAt 3 (.pointer (some (t3.add 5))))) w.drew fun t5 =>
  NilP p0 fun t7 =>
  ReadN Try.prog (.int .i64) (V (Instr.loadAt 3 (.pointer (some (t7.add 6))))) w.drew fun t9 =>
  SplitB (t5 == t9)
    (K () w.drew)
    (NilP p0 fun t12 =>
    RunN Try.prog (.int .i64) (V (Instr.loadAt 3 (.pointer (some (t12.add 11))))) w.drew fun t14 w =>
    NilP p0 fun t16 =>
    RunU Try.prog (U (Instr.storeAt 3 (.pointer (some (t16.add 11))) (.int .i64 (IntKind.i64.wrap (t14 + 1))))) w fun w =>
    NilP p0 fun t19 =>
    ReadN Try.prog (.int .i64) (V (Instr.loadAt 3 (.pointer (some (t19.add 11))))) w.drew fun t21 =>
    NilP p0 fun t23 =>
    ReadN Try.prog (.int .i64) (V (Instr.loadAt 3 (.pointer (some (t23.add 3))))) w.drew fun t25 =>
    SplitB (decide (t21 ≥ t25))
      (NilP p0 fun t28 =>
      RunU Try.prog (U (Instr.storeAt 4 (.pointer (some (t28.add 10))) (.bool true))) w.drew fun w =>
      NilP p0 fun t31 =>
      RunU Try.prog (U (Instr.storeAt 3 (.pointer (some (t31.add 11))) (.int .i64 0))) w fun w =>
      K () w)
      (K () w.drew))
theorem T40.calls {p0 : Option Addr} {w : World} {K : Unit → World → Prop} (h : T40 p0 w K) : CallK Try.prog (.tup .nilT) 40 #[.pointer p0] w K :=
  bodyZ_sound (κ := kappa) (ann := []) (fn := Try.f40) Try.func40 rfl (by kernel_rfl) (cast (show T40 p0 w K = bodyZ Try.prog kappa [] (.tup .nilT) Try.f40 [.pointer p0] w K by kernel_rfl) h)

/-- (*sluice/sluiceref3.Link).Out -/
def T41 (p0 : Option Addr) (w : World) (K : Sl → World → Prop) : Prop :=
  JoinX (α := Sl × Unit) (fun j2 w =>
    NilP p0 fun t15 =>
    RunN Try.prog (.int .i64) (V (Instr.loadAt 3 (.pointer (some (t15.add 6))))) w fun t17 w =>
    LoopX (α := Sl × Int × Unit) (fun s3 w k4 =>
      NilP p0 fun t21 =>
      RunN Try.prog .sl (V (Instr.loadAt 51 (.pointer (some (t21.add 4))))) w fun t23 w =>
      SplitB (decide (s3.2.1 ≤ (t23.len : Int)))
        (JoinX (α := Sl × Unit) (fun j6 w =>
          k4 (j6.1, IntKind.i64.wrap (s3.2.1 + 1), ()) w)
        fun k5 =>
          JoinX (α := Bool × Unit) (fun j8 w =>
            SplitB j8.1
              (CallK Try.prog (.agg (.cons (.int .i64) (.cons (.int .i64) (.cons (.int .i64) (.cons (.int .i64) (.cons .sl .nilT)))))) 58 #[.pointer p0, .int .i64 s3.2.1] w fun t43 w =>
              RunN Try.prog .sl (V (Instr.buildSlice 33 1 #[(0, .agg #[.int .i64 t43.1, .int .i64 t43.2.1, .int .i64 t43.2.2.1, .int .i64 t43.2.2.2.1, .slice t43.2.2.2.2.1.a t43.2.2.2.2.1.len t43.2.2.2.2.1.cap])])) w fun t44 w =>
              RunN Try.prog .sl (V (Builtin.append_ #[33, 33] 33 #[.slice s3.1.a s3.1.len s3.1.cap, .slice t44.a t44.len t44.cap])) w fun t45 w =>
              k5 (t45, ()) w)
              (k5 (s3.1, ()) w))
          fun k7 =>
            NilP p0 fun t29 =>
            RunN Try.prog .bool (V (Instr.loadAt 4 (.pointer (some (t29.add 10))))) w fun t31 w =>
            SplitB t31
              (k7 (true, ()) w)
              (NilP p0 fun t35 =>
              RunN Try.prog (.int .i64) (V (Instr.loadAt 3 (.pointer (some (t35.add 5))))) w fun t37 w =>
              k7 (decide (s3.2.1 > t37), ()) w))
        (JoinX (α := Unit) (fun j10 w =>
          NilP p0 fun t71 =>
          RunU Try.prog (U (Instr.storeAt 4 (.pointer (some (t71.add 9))) (.bool false))) w fun w =>
          NilP p0 fun t74 =>
          RunU Try.prog (U (Instr.storeAt 4 (.pointer (some (t74.add 10))) (.bool false))) w fun w =>
          NilP p0 fun t78 =>
          RunN Try.prog .sl (V (Instr.loadAt 51 (.pointer (some (t78.add 4))))) w fun t80 w =>
          NilP p0 fun t82 =>
          RunU Try.prog (U (Instr.storeAt 3 (.pointer (some (t82.add 5))) (.int .i64 (t80.len : Int)))) w fun w =>
          K s3.1 w)
        fun k9 =>
          JoinX (α := Bool × Unit) (fun j12 w =>
            SplitB j12.1
              (NilP p0 fun t68 =>
              RunU Try.prog (U (Instr.storeAt 3 (.pointer (some (t68.add 11))) (.int .i64 0))) w fun w =>
              k9 () w)
              (k9 () w))
          fun k11 =>
            NilP p0 fun t47 =>
            ReadN Try.prog (.int .i64) (V (Instr.loadAt 3 (.pointer (some (t47.add 5))))) w.drew fun t49 =>
            NilP p0 fun t51 =>
            ReadN Try.prog (.int .i64) (V (Instr.loadAt 3 (.pointer (some (t51.add 6))))) w.drew fun t53 =>
            SplitB (t49 == t53)
              (NilP p0 fun t57 =>
              ReadN Try.prog .sl (V (Instr.loadAt 51 (.pointer (some (t57.add 4))))) w.drew fun t59 =>
              NilP p0 fun t62 =>
              ReadN Try.prog (.int .i64) (V (Instr.loadAt 3 (.pointer (some (t62.add 5))))) w.drew fun t64 =>
              k11 (decide ((t59.len : Int) > t64), ()) w.drew)
              (k11 (false, ()) w.drew)))
    (j2.1, IntKind.i64.wrap (t17 + 1), ()) w)
  fun k1 =>
    NilP p0 fun t6 =>
    RunN Try.prog .bool (V (Instr.loadAt 4 (.pointer (some (t6.add 9))))) w fun t8 w =>
    SplitB t8
      (CallK Try.prog (.agg (.cons (.int .i64) (.cons (.int .i64) (.cons (.int .i64) (.cons (.int .i64) (.cons .sl .nilT)))))) 58 #[.pointer p0, .int .i64 0] w fun t11 w =>
      RunN Try.prog .sl (V (Instr.buildSlice 33 1 #[(0, .agg #[.int .i64 t11.1, .int .i64 t11.2.1, .int .i64 t11.2.2.1, .int .i64 t11.2.2.2.1, .slice t11.2.2.2.2.1.a t11.2.2.2.2.1.len t11.2.2.2.2.1.cap])])) w fun t12 w =>
      RunN Try.prog .sl (V (Builtin.append_ #[33, 33] 33 #[.slice none 0 0, .slice t12.a t12.len t12.cap])) w fun t13 w =>
      k1 (t13, ()) w)
      (k1 ((⟨none, 0, 0⟩ : Sl), ()) w)
theorem T41.calls {p0 : Option Addr} {w : World} {K : Sl → World → Prop} (h : T41 p0 w K) : CallK Try.prog .sl 41 #[.pointer p0] w K :=
  bodyZ_sound (κ := kappa) (ann := [(2, [(3, .sl)]), (6, [(3, .sl), (4, (.int .i64))]), (9, [(3, .sl)]), (10, [(39, .bool)]), (11, []), (12, [(66, .bool)])]) (fn := Try.f41) Try.func41 rfl (by kernel_rfl) (cast (show T41 p0 w K = bodyZ Try.prog kappa [(2, [(3, .sl)]), (6, [(3, .sl), (4, (.int .i64))]), (9, [(3, .sl)]), (10, [(39, .bool)]), (11, []), (12, [(66, .bool)])] .sl Try.f41 [.pointer p0] w K by kernel_rfl) h)

/-- (*sluice/sluiceref3.Link).Under -/
def T47 (p0 : Option Addr) (w : World) (K : Sl → World → Prop) : Prop :=
  NilP p0 fun t6 =>
  RunN Try.prog (.int .i64) (V (Instr.loadAt 3 (.pointer (some (t6.add 6))))) w fun t8 w =>
  LoopX (α := Sl × Int × Unit) (fun s1 w k2 =>
    NilP p0 fun t12 =>
    RunN Try.prog (.int .i64) (V (Instr.loadAt 3 (.pointer (some (t12.add 5))))) w fun t14 w =>
    SplitB (decide (s1.2.1 ≤ t14))
      (CallK Try.prog (.agg (.cons (.int .i64) (.cons (.int .i64) (.cons (.int .i64) (.cons (.int .i64) (.cons .sl .nilT)))))) 58 #[.pointer p0, .int .i64 s1.2.1] w fun t21 w =>
      RunN Try.prog .sl (V (Instr.buildSlice 33 1 #[(0, .agg #[.int .i64 t21.1, .int .i64 t21.2.1, .int .i64 t21.2.2.1, .int .i64 t21.2.2.2.1, .slice t21.2.2.2.2.1.a t21.2.2.2.2.1.len t21.2.2.2.2.1.cap])])) w fun t22 w =>
      RunN Try.prog .sl (V (Builtin.append_ #[33, 33] 33 #[.slice s1.1.a s1.1.len s1.1.cap, .slice t22.a t22.len t22.cap])) w fun t23 w =>
      k2 (t23, IntKind.i64.wrap (s1.2.1 + 1), ()) w)
      (K s1.1 w))
  ((⟨none, 0, 0⟩ : Sl), IntKind.i64.wrap (t8 + 1), ()) w
theorem T47.calls {p0 : Option Addr} {w : World} {K : Sl → World → Prop} (h : T47 p0 w K) : CallK Try.prog .sl 47 #[.pointer p0] w K :=
  bodyZ_sound (κ := kappa) (ann := [(4, [(3, .sl), (4, (.int .i64))])]) (fn := Try.f47) Try.func47 rfl (by kernel_rfl) (cast (show T47 p0 w K = bodyZ Try.prog kappa [(4, [(3, .sl), (4, (.int .i64))])] .sl Try.f47 [.pointer p0] w K by kernel_rfl) h)

/-- (*sluice/sluiceref3.Link).Next -/
def T48 (p0 : Option Addr) (w : World) (K : Int → World → Prop) : Prop :=
  NilP p0 fun t4 =>
  RunN Try.prog (.int .i64) (V (Instr.loadAt 3 (.pointer (some (t4.add 8))))) w fun t6 w =>
  K t6 w
theorem T48.calls {p0 : Option Addr} {w : World} {K : Int → World → Prop} (h : T48 p0 w K) : CallK Try.prog (.int .i64) 48 #[.pointer p0] w K :=
  bodyZ_sound (κ := kappa) (ann := []) (fn := Try.f48) Try.func48 rfl (by kernel_rfl) (cast (show T48 p0 w K = bodyZ Try.prog kappa [] (.int .i64) Try.f48 [.pointer p0] w K by kernel_rfl) h)

/-- (*sluice/sluiceref3.Link).Room -/
def T49 (p0 : Option Addr) (w : World) (K : Int → World → Prop) : Prop :=
  NilP p0 fun t4 =>
  ReadN Try.prog (.int .i64) (V (Instr.loadAt 3 (.pointer (some (t4.add 2))))) w.drew fun t6 =>
  NilP p0 fun t8 =>
  ReadN Try.prog .sl (V (Instr.loadAt 51 (.pointer (some (t8.add 4))))) w.drew fun t10 =>
  NilP p0 fun t13 =>
  ReadN Try.prog (.int .i64) (V (Instr.loadAt 3 (.pointer (some (t13.add 6))))) w.drew fun t15 =>
  K (IntKind.i64.wrap (t6 - (IntKind.i64.wrap ((t10.len : Int) - t15)))) w.drew
theorem T49.calls {p0 : Option Addr} {w : World} {K : Int → World → Prop} (h : T49 p0 w K) : CallK Try.prog (.int .i64) 49 #[.pointer p0] w K :=
  bodyZ_sound (κ := kappa) (ann := []) (fn := Try.f49) Try.func49 rfl (by kernel_rfl) (cast (show T49 p0 w K = bodyZ Try.prog kappa [] (.int .i64) Try.f49 [.pointer p0] w K by kernel_rfl) h)

/-- sluice/sluiceref3.copied -/
def T53 (p0 : Sl) (w : World) (K : Sl → World → Prop) : Prop :=
  LoopX (α := Sl × Int × Unit) (fun s1 w k2 =>
    SplitB (decide (s1.2.1 < (p0.len : Int)))
      (RunN Try.prog .addr (V (Instr.indexAt 45 (.slice p0.a p0.len p0.cap) (.int .i64 s1.2.1))) w fun t14 w =>
      RunN Try.prog (.int .u8) (V (Instr.loadAt 5 (.pointer (some t14)))) w fun t15 w =>
      RunN Try.prog .sl (V (Instr.buildSlice 45 1 #[(0, .int .u8 t15)])) w fun t16 w =>
      RunN Try.prog .sl (V (Builtin.append_ #[45, 45] 45 #[.slice s1.1.a s1.1.len s1.1.cap, .slice t16.a t16.len t16.cap])) w fun t17 w =>
      k2 (t17, IntKind.i64.wrap (s1.2.1 + 1), ()) w)
      (K s1.1 w))
  ((⟨none, 0, 0⟩ : Sl), 0, ()) w
theorem T53.calls {p0 : Sl} {w : World} {K : Sl → World → Prop} (h : T53 p0 w K) : CallK Try.prog .sl 53 #[.slice p0.a p0.len p0.cap] w K :=
  bodyZ_sound (κ := kappa) (ann := [(4, [(3, .sl), (4, (.int .i64))])]) (fn := Try.f53) Try.func53 rfl (by kernel_rfl) (cast (show T53 p0 w K = bodyZ Try.prog kappa [(4, [(3, .sl), (4, (.int .i64))])] .sl Try.f53 [.slice p0.a p0.len p0.cap] w K by kernel_rfl) h)

/-- (*sluice/sluiceref3.Link).Take -/
def T54 (p0 : Option Addr) (p1 : (Int × Int × Int × Int × Sl × Unit)) (w : World) (K : (Sl × Int × Unit) → World → Prop) : Prop :=
  RunN Try.prog .addr (V (Instr.box 62 (.agg #[.int .i64 p1.1, .int .i64 p1.2.1, .int .i64 p1.2.2.1, .int .i64 p1.2.2.2.1, .slice p1.2.2.2.2.1.a p1.2.2.2.2.1.len p1.2.2.2.2.1.cap]))) w fun t3 w =>
  JoinX (α := Bool × Unit) (fun j2 w =>
    SplitB j2.1
      (K ((⟨none, 0, 0⟩ : Sl), 31, ()) w)
      (JoinX (α := Bool × Unit) (fun j4 w =>
        SplitB j4.1
          (K ((⟨none, 0, 0⟩ : Sl), 31, ()) w)
          (NilP p0 fun t68 =>
          ReadN Try.prog (.int .i64) (V (Instr.loadAt 3 (.pointer (some (t68.add 6))))) w.drew fun t70 =>
          ReadN Try.prog (.int .i64) (V (Instr.loadAt 3 (.pointer (some (t3.add 3))))) w.drew fun t72 =>
          ReadN Try.prog (.int .i64) (V (Builtin.max_ #[3, 3] 3 #[.int .i64 t70, .int .i64 t72])) w.drew fun t73 =>
          NilP p0 fun t74 =>
          RunU Try.prog (U (Instr.storeAt 3 (.pointer (some (t74.add 6))) (.int .i64 t73))) w.drew fun w =>
          RunN Try.prog (.int .i64) (V (Instr.loadAt 3 (.pointer (some (t3.add 2))))) w fun t77 w =>
          SplitB (t77 == 0)
            (K ((⟨none, 0, 0⟩ : Sl), 0, ()) w)
            (NilP p0 fun t80 =>
            RunU Try.prog (U (Instr.storeAt 4 (.pointer (some (t80.add 9))) (.bool true))) w fun w =>
            RunN Try.prog (.int .i64) (V (Instr.loadAt 3 (.pointer (some (t3.add 2))))) w fun t85 w =>
            CallK Try.prog (.tup (.cons .sl (.cons .bool .nilT))) 61 #[.pointer p0, .int .i64 t85] w fun t86 w =>
            JoinX (α := Bool × Unit) (fun j6 w =>
              SplitB j6.1
                (K ((⟨none, 0, 0⟩ : Sl), 0, ()) w)
                (NilP p0 fun t115 =>
                ReadN Try.prog .sl (V (Instr.loadAt 93 (.pointer (some (t115.add 7))))) w.drew fun t117 =>
                ReadN Try.prog (.int .i64) (V (Instr.loadAt 3 (.pointer (some (t3.add 2))))) w.drew fun t119 =>
                ReadN Try.prog .sl (V (Instr.loadAt 45 (.pointer (some (t3.add 4))))) w.drew fun t121 =>
                CallK Try.prog .sl 53 #[.slice t121.a t121.len t121.cap] w.drew fun t122 w =>
                StillV Try.prog (V (Instr.loadAt 3 (.pointer (some (t3.add 2))))) (.int .i64 t119) w ∧
                StillV Try.prog (V (Instr.loadAt 93 (.pointer (some (t115.add 7))))) (.slice t117.a t117.len t117.cap) w ∧
                RunN Try.prog .sl (V (Instr.buildSlice 93 1 #[(0, .agg #[.int .i64 t119, .slice t122.a t122.len t122.cap])])) w fun t124 w =>
                StillV Try.prog (V (Instr.loadAt 93 (.pointer (some (t115.add 7))))) (.slice t117.a t117.len t117.cap) w ∧
                RunN Try.prog .sl (V (Builtin.append_ #[93, 93] 93 #[.slice t117.a t117.len t117.cap, .slice t124.a t124.len t124.cap])) w fun t125 w =>
                NilP p0 fun t126 =>
                RunU Try.prog (U (Instr.storeAt 93 (.pointer (some (t126.add 7))) (.slice t125.a t125.len t125.cap))) w fun w =>
                LoopX (α := Sl × Unit) (fun s7 w k8 =>
                  NilP p0 fun t131 =>
                  RunN Try.prog (.int .i64) (V (Instr.loadAt 3 (.pointer (some (t131.add 8))))) w fun t133 w =>
                  CallK Try.prog (.tup (.cons .sl (.cons .bool .nilT))) 61 #[.pointer p0, .int .i64 t133] w fun t134 w =>
                  SplitB (!t134.2.1)
                    (K (s7.1, 0, ()) w)
                    (CallK Try.prog .sl 53 #[.slice t134.1.a t134.1.len t134.1.cap] w fun t142 w =>
                    RunN Try.prog .sl (V (Instr.buildSlice 51 1 #[(0, .slice t142.a t142.len t142.cap)])) w fun t143 w =>
                    RunN Try.prog .sl (V (Builtin.append_ #[51, 51] 51 #[.slice s7.1.a s7.1.len s7.1.cap, .slice t143.a t143.len t143.cap])) w fun t144 w =>
                    NilP p0 fun t146 =>
                    RunN Try.prog (.int .i64) (V (Instr.loadAt 3 (.pointer (some (t146.add 8))))) w fun t148 w =>
                    NilP p0 fun t150 =>
                    RunU Try.prog (U (Instr.storeAt 3 (.pointer (some (t150.add 8))) (.int .i64 (IntKind.i64.wrap (t148 + 1))))) w fun w =>
                    k8 (t144, ()) w))
                ((⟨none, 0, 0⟩ : Sl), ()) w))
            fun k5 =>
              ReadN Try.prog (.int .i64) (V (Instr.loadAt 3 (.pointer (some (t3.add 2))))) w.drew fun t90 =>
              NilP p0 fun t92 =>
              ReadN Try.prog (.int .i64) (V (Instr.loadAt 3 (.pointer (some (t92.add 8))))) w.drew fun t94 =>
              SplitB (decide (t90 < t94))
                (k5 (true, ()) w.drew)
                (SplitB t86.2.1
                  (k5 (true, ()) w.drew)
                  (ReadN Try.prog (.int .i64) (V (Instr.loadAt 3 (.pointer (some (t3.add 2))))) w.drew fun t101 =>
                  NilP p0 fun t103 =>
                  ReadN Try.prog (.int .i64) (V (Instr.loadAt 3 (.pointer (some (t103.add 8))))) w.drew fun t105 =>
                  NilP p0 fun t107 =>
                  ReadN Try.prog (.int .i64) (V (Instr.loadAt 3 (.pointer (some (t107.add 2))))) w.drew fun t109 =>
                  k5 (decide (t101 ≥ (IntKind.i64.wrap (t105 + t109))), ()) w.drew)))))
      fun k3 =>
        RunN Try.prog (.int .i64) (V (Instr.loadAt 3 (.pointer (some (t3.add 2))))) w fun t52 w =>
        SplitB (t52 == 0)
          (RunN Try.prog .sl (V (Instr.loadAt 45 (.pointer (some (t3.add 4))))) w fun t56 w =>
          SplitB (decide ((t56.len : Int) > 0))
            (k3 (true, ()) w)
            (RunN Try.prog .sl (V (Instr.loadAt 45 (.pointer (some (t3.add 4))))) w fun t62 w =>
            k3 (decide ((t62.len : Int) > 4000), ()) w))
          (RunN Try.prog .sl (V (Instr.loadAt 45 (.pointer (some (t3.add 4))))) w fun t62 w =>
          k3 (decide ((t62.len : Int) > 4000), ()) w)))
  fun k1 =>
    ReadN Try.prog (.int .i64) (V (Instr.loadAt 3 (.pointer (some (t3.add 0))))) w.drew fun t12 =>
    NilP p0 fun t14 =>
    ReadN Try.prog (.int .i64) (V (Instr.loadAt 3 (.pointer (some (t14.add 1))))) w.drew fun t16 =>
    SplitB (t12 != t16)
      (k1 (true, ()) w.drew)
      (ReadN Try.prog (.int .i64) (V (Instr.loadAt 3 (.pointer (some (t3.add 1))))) w.drew fun t20 =>
      NilP p0 fun t22 =>
      ReadN Try.prog (.int .i64) (V (Instr.loadAt 3 (.pointer (some (t22.add 0))))) w.drew fun t24 =>
      SplitB (t20 != t24)
        (k1 (true, ()) w.drew)
        (ReadN Try.prog (.int .i64) (V (Instr.loadAt 3 (.pointer (some (t3.add 2))))) w.drew fun t29 =>
        SplitB (decide (t29 < 0))
          (k1 (true, ()) w.drew)
          (ReadN Try.prog (.int .i64) (V (Instr.loadAt 3 (.pointer (some (t3.add 2))))) w.drew fun t34 =>
          SplitB (decide (t34 > 1099511627776))
            (k1 (true, ()) w.drew)
            (ReadN Try.prog (.int .i64) (V (Instr.loadAt 3 (.pointer (some (t3.add 3))))) w.drew fun t39 =>
            SplitB (decide (t39 < 0))
              (k1 (true, ()) w.drew)
              (ReadN Try.prog (.int .i64) (V (Instr.loadAt 3 (.pointer (some (t3.add 3))))) w.drew fun t44 =>
              NilP p0 fun t46 =>
              ReadN Try.prog (.int .i64) (V (Instr.loadAt 3 (.pointer (some (t46.add 5))))) w.drew fun t48 =>
              k1 (decide (t44 > t48), ()) w.drew)))))
theorem T54.calls {p0 : Option Addr} {p1 : (Int × Int × Int × Int × Sl × Unit)} {w : World} {K : (Sl × Int × Unit) → World → Prop} (h : T54 p0 p1 w K) : CallK Try.prog (.tup (.cons .sl (.cons (.int .i64) .nilT))) 54 #[.pointer p0, .agg #[.int .i64 p1.1, .int .i64 p1.2.1, .int .i64 p1.2.2.1, .int .i64 p1.2.2.2.1, .slice p1.2.2.2.2.1.a p1.2.2.2.2.1.len p1.2.2.2.2.1.cap]] w K :=
  bodyZ_sound (κ := kappa) (ann := [(2, [(50, .bool)]), (5, [(65, .bool)]), (14, [(112, .bool)]), (18, [(8, .sl)])]) (fn := Try.f54) Try.func54 rfl (by kernel_rfl) (cast (show T54 p0 p1 w K = bodyZ Try.prog kappa [(2, [(50, .bool)]), (5, [(65, .bool)]), (14, [(112, .bool)]), (18, [(8, .sl)])] (.tup (.cons .sl (.cons (.int .i64) .nilT))) Try.f54 [.pointer p0, .agg #[.int .i64 p1.1, .int .i64 p1.2.1, .int .i64 p1.2.2.1, .int .i64 p1.2.2.2.1, .slice p1.2.2.2.2.1.a p1.2.2.2.2.1.len p1.2.2.2.2.1.cap]] w K by kernel_rfl) h)

/-- (*sluice/sluiceref3.Link).segment -/
def T58 (p0 : Option Addr) (p1 : Int) (w : World) (K : (Int × Int × Int × Int × Sl × Unit) → World → Prop) : Prop :=
  RunN Try.prog .addr (V (Instr.alloc 62 true (.tuple #[]))) w fun t4 w =>
  NilP p0 fun t7 =>
  ReadN Try.prog (.int .i64) (V (Instr.loadAt 3 (.pointer (some (t7.add 0))))) w.drew fun t9 =>
  NilP p0 fun t11 =>
  ReadN Try.prog (.int .i64) (V (Instr.loadAt 3 (.pointer (some (t11.add 1))))) w.drew fun t13 =>
  NilP p0 fun t16 =>
  ReadN Try.prog (.int .i64) (V (Instr.loadAt 3 (.pointer (some (t16.add 8))))) w.drew fun t18 =>
  RunN Try.prog .addr (V (Instr.alloc 62 true (.tuple #[]))) w.drew fun t5 w =>
  StillV Try.prog (V (Instr.loadAt 3 (.pointer (some (t16.add 8))))) (.int .i64 t18) w ∧
  StillV Try.prog (V (Instr.loadAt 3 (.pointer (some (t11.add 1))))) (.int .i64 t13) w ∧
  StillV Try.prog (V (Instr.loadAt 3 (.pointer (some (t7.add 0))))) (.int .i64 t9) w ∧
  RunU Try.prog (U (Instr.storeAt 62 (.pointer (some t5)) (.agg #[.int .i64 t9, .int .i64 t13, .int .i64 p1, .int .i64 (IntKind.i64.wrap (t18 - 1)), .slice none 0 0]))) w fun w =>
  SplitB (decide (p1 > 0))
    (NilP p0 fun t24 =>
    RunN Try.prog .sl (V (Instr.loadAt 51 (.pointer (some (t24.add 4))))) w fun t26 w =>
    RunN Try.prog .addr (V (Instr.indexAt 51 (.slice t26.a t26.len t26.cap) (.int .i64 (IntKind.i64.wrap (p1 - 1))))) w fun t29 w =>
    RunN Try.prog .sl (V (Instr.loadAt 45 (.pointer (some t29)))) w fun t30 w =>
    CallK Try.prog .sl 53 #[.slice t30.a t30.len t30.cap] w fun t31 w =>
    RunU Try.prog (U (Instr.storeAt 45 (.pointer (some (t5.add 4))) (.slice t31.a t31.len t31.cap))) w fun w =>
    RunN Try.prog (.agg (.cons (.int .i64) (.cons (.int .i64) (.cons (.int .i64) (.cons (.int .i64) (.cons .sl .nilT)))))) (V (Instr.loadAt 62 (.pointer (some t5)))) w fun t33 w =>
    RunU Try.prog (U (Instr.storeAt 62 (.pointer (some t4)) (.agg #[.int .i64 t33.1, .int .i64 t33.2.1, .int .i64 t33.2.2.1, .int .i64 t33.2.2.2.1, .slice t33.2.2.2.2.1.a t33.2.2.2.2.1.len t33.2.2.2.2.1.cap]))) w fun w =>
    ReadN Try.prog (.agg (.cons (.int .i64) (.cons (.int .i64) (.cons (.int .i64) (.cons (.int .i64) (.cons .sl .nilT)))))) (V (Instr.loadAt 62 (.pointer (some t4)))) w fun r0 =>
    K (r0.1, r0.2.1, r0.2.2.1, r0.2.2.2.1, r0.2.2.2.2.1, ()) w)
    (RunN Try.prog (.agg (.cons (.int .i64) (.cons (.int .i64) (.cons (.int .i64) (.cons (.int .i64) (.cons .sl .nilT)))))) (V (Instr.loadAt 62 (.pointer (some t5)))) w fun t33 w =>
    RunU Try.prog (U (Instr.storeAt 62 (.pointer (some t4)) (.agg #[.int .i64 t33.1, .int .i64 t33.2.1, .int .i64 t33.2.2.1, .int .i64 t33.2.2.2.1, .slice t33.2.2.2.2.1.a t33.2.2.2.2.1.len t33.2.2.2.2.1.cap]))) w fun w =>
    ReadN Try.prog (.agg (.cons (.int .i64) (.cons (.int .i64) (.cons (.int .i64) (.cons (.int .i64) (.cons .sl .nilT)))))) (V (Instr.loadAt 62 (.pointer (some t4)))) w fun r0 =>
    K (r0.1, r0.2.1, r0.2.2.1, r0.2.2.2.1, r0.2.2.2.2.1, ()) w)
theorem T58.calls {p0 : Option Addr} {p1 : Int} {w : World} {K : (Int × Int × Int × Int × Sl × Unit) → World → Prop} (h : T58 p0 p1 w K) : CallK Try.prog (.agg (.cons (.int .i64) (.cons (.int .i64) (.cons (.int .i64) (.cons (.int .i64) (.cons .sl .nilT)))))) 58 #[.pointer p0, .int .i64 p1] w K :=
  bodyZ_sound (κ := kappa) (ann := []) (fn := Try.f58) Try.func58 rfl (by kernel_rfl) (cast (show T58 p0 p1 w K = bodyZ Try.prog kappa [] (.agg (.cons (.int .i64) (.cons (.int .i64) (.cons (.int .i64) (.cons (.int .i64) (.cons .sl .nilT)))))) Try.f58 [.pointer p0, .int .i64 p1] w K by kernel_rfl) h)

/-- (*sluice/sluiceref3.Link).find -/
def T61 (p0 : Option Addr) (p1 : Int) (w : World) (K : (Sl × Bool × Unit) → World → Prop) : Prop :=
  LoopX (α := Int × Unit) (fun s1 w k2 =>
    NilP p0 fun t9 =>
    RunN Try.prog .sl (V (Instr.loadAt 93 (.pointer (some (t9.add 7))))) w fun t11 w =>
    SplitB (decide (s1.1 < (t11.len : Int)))
      (NilP p0 fun t17 =>
      RunN Try.prog .sl (V (Instr.loadAt 93 (.pointer (some (t17.add 7))))) w fun t19 w =>
      RunN Try.prog .addr (V (Instr.indexAt 93 (.slice t19.a t19.len t19.cap) (.int .i64 s1.1))) w fun t21 w =>
      RunN Try.prog (.int .i64) (V (Instr.loadAt 3 (.pointer (some (t21.add 0))))) w fun t23 w =>
      SplitB (t23 == p1)
        (NilP p0 fun t27 =>
        RunN Try.prog .sl (V (Instr.loadAt 93 (.pointer (some (t27.add 7))))) w fun t29 w =>
        RunN Try.prog .addr (V (Instr.indexAt 93 (.slice t29.a t29.len t29.cap) (.int .i64 s1.1))) w fun t31 w =>
        RunN Try.prog .sl (V (Instr.loadAt 45 (.pointer (some (t31.add 1))))) w fun t33 w =>
        K (t33, true, ()) w)
        (k2 (IntKind.i64.wrap (s1.1 + 1), ()) w))
      (K ((⟨none, 0, 0⟩ : Sl), false, ()) w))
  (0, ()) w
theorem T61.calls {p0 : Option Addr} {p1 : Int} {w : World} {K : (Sl × Bool × Unit) → World → Prop} (h : T61 p0 p1 w K) : CallK Try.prog (.tup (.cons .sl (.cons .bool .nilT))) 61 #[.pointer p0, .int .i64 p1] w K :=
  bodyZ_sound (κ := kappa) (ann := [(3, [(6, (.int .i64))])]) (fn := Try.f61) Try.func61 rfl (by kernel_rfl) (cast (show T61 p0 p1 w K = bodyZ Try.prog kappa [(3, [(6, (.int .i64))])] (.tup (.cons .sl (.cons .bool .nilT))) Try.f61 [.pointer p0, .int .i64 p1] w K by kernel_rfl) h)
end Go.Proofs.Ytodgnpmljdopiaa

/- The document's link in memory. -/
namespace Go.Proofs.Ytodgnpmljdopiaa
open Go Go.Fw Go.RowKit
set_option linter.unusedVariables false
set_option linter.unusedSimpArgs false
set_option maxRecDepth 4000
set_option maxHeartbeats 4000000
variable {w0 w : World} {F G : Grps}

instance : Sc Try.prog 93 := ⟨by kernel_rfl⟩
theorem copied_st (h : St w0 w F) {p : Sl} {l : List UInt8} (hp : SeesG w0 F p 1 (bys l)) (hl : l.length ≤ 1048576) : CallK Try.prog .sl 53 #[.slice p.a p.len p.cap] w fun (s : Sl) w' => s.len = l.length ∧ St w0 w' ([brow (s, l)] :: F) := by
  have hpl := (hp w h).bys_len
  refine T53.calls ?_
  unfold T53
  have h := h.nilrow 5 1
  refine LoopX.mk (fun st w' => ∃ (s : Sl) (m : Nat), st = (s, (m : Int), ()) ∧ m ≤ l.length ∧ s.len = m ∧ St w0 w' ([brow (s, l.take m)] :: F)) (fun st => l.length - st.2.1.toNat) ⟨_, 0, rfl, Nat.zero_le _, rfl, h⟩ ?_
  clear h
  rintro _ w1 ⟨s, m, rfl, hm, hs, h⟩ k hk
  dsimp only at hk ⊢
  rw [hpl]
  rw [SplitB_iff]
  refine ⟨fun hc => ?_, fun hc => ?_⟩
  · have hc : m < l.length := by have : (m : Int) < (l.length : Int) := of_decide_eq_true hc
                                 omega
    have hem : IntKind.i64.wrap ((m : Int) + 1) = ((m + 1 : Nat) : Int) := by rw [wr (by omega)]; omega
    rw [hem, ← hpl]
    have hr := hp _ (h.drop 0)
    refine hr.idxK m rfl (by omega) ?_
    intro b o ha
    refine hr.el ha (m * 1) rfl (kd := .int .u8) (x := (l[m].toNat : Int)) (by rw [Nat.mul_one]; exact bys_get hc) ?_
    refine h.newS 1 (bs45 _ _) rfl rfl rfl ?_
    intro u w2 hu1 hu2 _ h
    refine h.app 1 0 ⟨_, rfl, rfl⟩ (h.rd (k := 0) (i := 0) ⟨_, rfl, rfl⟩) (fun v hv => by simp at hv; subst hv; rfl) (by dsimp only [maxLen]; omega) (by dsimp only; omega) ?_
    intro s' w3 hl3 h
    dsimp only at hl3
    have h := h.drop 0
    dsimp only [delO, updG, setO] at h
    refine hk _ _ ⟨s', m + 1, rfl, by omega, by omega, ?_⟩ (by dsimp only; omega)
    have e1 : bys (l.take (m + 1)) = bys (l.take m) ++ [.int .u8 (l[m].toNat : Int)] := by
      rw [List.take_succ_eq_append_getElem hc, bys_append]; rfl
    rw [brow, e1]
    exact h
  · have hc : m = l.length := by have : ¬ (m : Int) < (l.length : Int) := of_decide_eq_false hc
                                 omega
    subst hc
    rw [List.take_length] at h
    exact ⟨hs, h⟩
/-- The document's link: all that was handed in, all that came. -/
structure Rl where
  me : Int
  peer : Int
  win : Int
  res : Int
  sent : List Bs
  gone : Int
  done : Int
  came : List Pc
  want : Int
  ow : Bool
  du : Bool
  ag : Int
structure Rm extends Rl where
  rb : Nat
  ss : Sl
  cs : Sl
def rmC (r : Rm) : List Value := [.int .i64 r.me, .int .i64 r.peer, .int .i64 r.win, .int .i64 r.res, sv r.ss, .int .i64 r.gone, .int .i64 r.done, sv r.cs, .int .i64 r.want, .bool r.ow, .bool r.du, .int .i64 r.ag]
def rmE (et : TypeId) (r : Rm) : List Ent := [.cel r.rb 95 (rmC r), .row 45 1 r.ss (lsl r.sent), .row et 2 r.cs (r.came.flatMap pcv)]
def rsd (r : Rl) : List Ent := r.sent.map brow
def rcd (r : Rl) : List Ent := r.came.map fun p => brow p.2
abbrev Rm.p (r : Rm) : Option Addr := some ⟨r.rb, 0, none⟩
structure Rl.wf (r : Rl) : Prop where
  win : 1 ≤ r.win ∧ r.win ≤ 16
  res : 1 ≤ r.res ∧ r.res ≤ 1000
  gone : 0 ≤ r.done ∧ r.done ≤ r.gone ∧ r.gone ≤ r.sent.length
  few : r.sent.length ≤ 1048576 ∧ r.came.length ≤ 1048576
  want : 1 ≤ r.want ∧ r.want ≤ 1099511627777
  ag : 0 ≤ r.ag ∧ r.ag ≤ 1000
  lens : ∀ b ∈ r.sent, b.2.length ≤ 4000
  clens : ∀ p ∈ r.came, p.2.2.length ≤ 4000
def Rl.room (r : Rl) : Int := r.win - (r.sent.length - r.done)
section
variable {t : TypeId}
theorem rnext_st {r : Rm} (h : St w0 w (rmE t r :: F)) : CallK Try.prog (.int .i64) 48 #[.pointer r.p] w fun (v : Int) w' => v = r.want ∧ St w0 w' (rmE t r :: F) := by
  refine T48.calls ?_
  unfold T48
  repeat (first | (with_reducible refine NilP.mk ?_) | ((with_reducible refine RunN.isLoad ?_); (first | refine h.load2 0 0 ⟨_, rfl, rfl⟩ rfl ?_ | refine h.loadB 0 0 ⟨_, rfl, rfl⟩ rfl rfl ?_ | refine h.drew.load2 0 0 ⟨_, rfl, rfl⟩ rfl ?_ | refine h.drew.loadB 0 0 ⟨_, rfl, rfl⟩ rfl rfl ?_)) | ((with_reducible refine ReadN.isLoad ?_); (first | refine h.read2 0 0 ⟨_, rfl, rfl⟩ rfl ?_ | refine h.readB 0 0 ⟨_, rfl, rfl⟩ rfl rfl ?_ | refine h.drew.read2 0 0 ⟨_, rfl, rfl⟩ rfl ?_ | refine h.drew.readB 0 0 ⟨_, rfl, rfl⟩ rfl rfl ?_)) | ((with_reducible refine StillV.isLoad ?_); (first | refine ⟨h.stillB 0 0 ⟨_, rfl, rfl⟩ rfl rfl, ?_⟩ | refine ⟨h.still2 0 0 ⟨_, rfl, rfl⟩ rfl, ?_⟩)) | ((with_reducible refine RunU.isStor ?_); (first | (refine h.stor2 0 0 ⟨_, rfl, rfl⟩ rfl ?_; intro w h; dsimp only [updG, setO] at h) | (refine h.storB 0 0 ⟨_, rfl, rfl⟩ rfl rfl rfl ?_; intro w h; dsimp only [updG, setO] at h) | (refine h.drew.stor2 0 0 ⟨_, rfl, rfl⟩ rfl ?_; intro w h; dsimp only [updG, setO] at h) | (refine h.drew.storB 0 0 ⟨_, rfl, rfl⟩ rfl rfl rfl ?_; intro w h; dsimp only [updG, setO] at h))) | ((with_reducible refine RunN.isBox ?_); (first | (refine h.newB run_boxA rfl ?_; intro bn w h; try dsimp only at h; have h := h.ord 2 [1, 0]; dsimp only [pick, nthO, dropO] at h) | (refine h.drew.newB run_boxA rfl ?_; intro bn w h; try dsimp only at h; have h := h.ord 2 [1, 0]; dsimp only [pick, nthO, dropO] at h))) | ((with_reducible refine RunN.isNew ?_); (first | (refine h.newB (NewC.run _) rfl ?_; intro bn w h; have h := h.ord 2 [1, 0]; dsimp only [pick, nthO, dropO] at h) | (refine h.drew.newB (NewC.run _) rfl ?_; intro bn w h; have h := h.ord 2 [1, 0]; dsimp only [pick, nthO, dropO] at h))) | (refine RunN.k2Eq ?_) | (refine RunN.k2Ne ?_) | (refine ReadN.k2Eq ?_) | (refine ReadN.k2Ne ?_))
  exact ⟨rfl, h⟩
theorem rroom_st {r : Rm} (h : St w0 w (rmE t r :: F)) (hw : r.wf) : CallK Try.prog (.int .i64) 49 #[.pointer r.p] w fun (v : Int) w' => v = r.room ∧ St w0 w' (rmE t r :: F) := by
  refine T49.calls ?_
  unfold T49
  have hsl := lsl_rd (h.rd (k := 0) (i := 1) (E := 45) (sz := 1) (s := r.ss) (vs := lsl r.sent) ⟨_, rfl, rfl⟩)
  have h1 := hw.gone; have h2 := hw.few; have h3 := hw.win
  repeat (first | (with_reducible refine NilP.mk ?_) | ((with_reducible refine RunN.isLoad ?_); (first | refine h.load2 0 0 ⟨_, rfl, rfl⟩ rfl ?_ | refine h.loadB 0 0 ⟨_, rfl, rfl⟩ rfl rfl ?_ | refine h.drew.load2 0 0 ⟨_, rfl, rfl⟩ rfl ?_ | refine h.drew.loadB 0 0 ⟨_, rfl, rfl⟩ rfl rfl ?_)) | ((with_reducible refine ReadN.isLoad ?_); (first | refine h.read2 0 0 ⟨_, rfl, rfl⟩ rfl ?_ | refine h.readB 0 0 ⟨_, rfl, rfl⟩ rfl rfl ?_ | refine h.drew.read2 0 0 ⟨_, rfl, rfl⟩ rfl ?_ | refine h.drew.readB 0 0 ⟨_, rfl, rfl⟩ rfl rfl ?_)) | ((with_reducible refine StillV.isLoad ?_); (first | refine ⟨h.stillB 0 0 ⟨_, rfl, rfl⟩ rfl rfl, ?_⟩ | refine ⟨h.still2 0 0 ⟨_, rfl, rfl⟩ rfl, ?_⟩)) | ((with_reducible refine RunU.isStor ?_); (first | (refine h.stor2 0 0 ⟨_, rfl, rfl⟩ rfl ?_; intro w h; dsimp only [updG, setO] at h) | (refine h.storB 0 0 ⟨_, rfl, rfl⟩ rfl rfl rfl ?_; intro w h; dsimp only [updG, setO] at h) | (refine h.drew.stor2 0 0 ⟨_, rfl, rfl⟩ rfl ?_; intro w h; dsimp only [updG, setO] at h) | (refine h.drew.storB 0 0 ⟨_, rfl, rfl⟩ rfl rfl rfl ?_; intro w h; dsimp only [updG, setO] at h))) | ((with_reducible refine RunN.isBox ?_); (first | (refine h.newB run_boxA rfl ?_; intro bn w h; try dsimp only at h; have h := h.ord 2 [1, 0]; dsimp only [pick, nthO, dropO] at h) | (refine h.drew.newB run_boxA rfl ?_; intro bn w h; try dsimp only at h; have h := h.ord 2 [1, 0]; dsimp only [pick, nthO, dropO] at h))) | ((with_reducible refine RunN.isNew ?_); (first | (refine h.newB (NewC.run _) rfl ?_; intro bn w h; have h := h.ord 2 [1, 0]; dsimp only [pick, nthO, dropO] at h) | (refine h.drew.newB (NewC.run _) rfl ?_; intro bn w h; have h := h.ord 2 [1, 0]; dsimp only [pick, nthO, dropO] at h))) | (refine RunN.k2Eq ?_) | (refine RunN.k2Ne ?_) | (refine ReadN.k2Eq ?_) | (refine ReadN.k2Ne ?_))
  have hsi : (r.ss.len : Int) = (r.sent.length : Int) := by omega
  rw [hsi]
  refine ⟨?_, h.drew⟩
  rw [wr (x := (r.sent.length : Int) - r.done) (by omega), wr (by omega), Rl.room]
def Rl.ticked (r : Rl) : Rl := if r.gone = r.done then r else { r with ag := if r.ag + 1 ≥ r.res then 0 else r.ag + 1, du := if r.ag + 1 ≥ r.res then true else r.du }
theorem rtick_st {r : Rm} (h : St w0 w (rmE t r :: F)) (hw : r.wf) : CallK Try.prog (.tup .nilT) 40 #[.pointer r.p] w fun (_ : Unit) w' => St w0 w' (rmE t { r with toRl := r.toRl.ticked } :: F) := by
  refine T40.calls ?_
  unfold T40
  have h1 := hw.ag
  repeat (first | (with_reducible refine NilP.mk ?_) | ((with_reducible refine RunN.isLoad ?_); (first | refine h.load2 0 0 ⟨_, rfl, rfl⟩ rfl ?_ | refine h.loadB 0 0 ⟨_, rfl, rfl⟩ rfl rfl ?_ | refine h.drew.load2 0 0 ⟨_, rfl, rfl⟩ rfl ?_ | refine h.drew.loadB 0 0 ⟨_, rfl, rfl⟩ rfl rfl ?_)) | ((with_reducible refine ReadN.isLoad ?_); (first | refine h.read2 0 0 ⟨_, rfl, rfl⟩ rfl ?_ | refine h.readB 0 0 ⟨_, rfl, rfl⟩ rfl rfl ?_ | refine h.drew.read2 0 0 ⟨_, rfl, rfl⟩ rfl ?_ | refine h.drew.readB 0 0 ⟨_, rfl, rfl⟩ rfl rfl ?_)) | ((with_reducible refine StillV.isLoad ?_); (first | refine ⟨h.stillB 0 0 ⟨_, rfl, rfl⟩ rfl rfl, ?_⟩ | refine ⟨h.still2 0 0 ⟨_, rfl, rfl⟩ rfl, ?_⟩)) | ((with_reducible refine RunU.isStor ?_); (first | (refine h.stor2 0 0 ⟨_, rfl, rfl⟩ rfl ?_; intro w h; dsimp only [updG, setO] at h) | (refine h.storB 0 0 ⟨_, rfl, rfl⟩ rfl rfl rfl ?_; intro w h; dsimp only [updG, setO] at h) | (refine h.drew.stor2 0 0 ⟨_, rfl, rfl⟩ rfl ?_; intro w h; dsimp only [updG, setO] at h) | (refine h.drew.storB 0 0 ⟨_, rfl, rfl⟩ rfl rfl rfl ?_; intro w h; dsimp only [updG, setO] at h))) | ((with_reducible refine RunN.isBox ?_); (first | (refine h.newB run_boxA rfl ?_; intro bn w h; try dsimp only at h; have h := h.ord 2 [1, 0]; dsimp only [pick, nthO, dropO] at h) | (refine h.drew.newB run_boxA rfl ?_; intro bn w h; try dsimp only at h; have h := h.ord 2 [1, 0]; dsimp only [pick, nthO, dropO] at h))) | ((with_reducible refine RunN.isNew ?_); (first | (refine h.newB (NewC.run _) rfl ?_; intro bn w h; have h := h.ord 2 [1, 0]; dsimp only [pick, nthO, dropO] at h) | (refine h.drew.newB (NewC.run _) rfl ?_; intro bn w h; have h := h.ord 2 [1, 0]; dsimp only [pick, nthO, dropO] at h))) | (refine RunN.k2Eq ?_) | (refine RunN.k2Ne ?_) | (refine ReadN.k2Eq ?_) | (refine ReadN.k2Ne ?_))
  rw [SplitB_iff]
  refine ⟨fun hc => ?_, fun hc => ?_⟩
  · have hc : r.gone = r.done := by simpa using hc
    have : r.toRl.ticked = r.toRl := if_pos hc
    rw [this]
    exact h.drew
  · have hc : ¬ r.gone = r.done := by simpa using hc
    have : r.toRl.ticked = { r.toRl with ag := if r.ag + 1 ≥ r.res then 0 else r.ag + 1, du := if r.ag + 1 ≥ r.res then true else r.du } := if_neg hc
    rw [this]
    repeat (first | (with_reducible refine NilP.mk ?_) | ((with_reducible refine RunN.isLoad ?_); (first | refine h.load2 0 0 ⟨_, rfl, rfl⟩ rfl ?_ | refine h.loadB 0 0 ⟨_, rfl, rfl⟩ rfl rfl ?_ | refine h.drew.load2 0 0 ⟨_, rfl, rfl⟩ rfl ?_ | refine h.drew.loadB 0 0 ⟨_, rfl, rfl⟩ rfl rfl ?_)) | ((with_reducible refine ReadN.isLoad ?_); (first | refine h.read2 0 0 ⟨_, rfl, rfl⟩ rfl ?_ | refine h.readB 0 0 ⟨_, rfl, rfl⟩ rfl rfl ?_ | refine h.drew.read2 0 0 ⟨_, rfl, rfl⟩ rfl ?_ | refine h.drew.readB 0 0 ⟨_, rfl, rfl⟩ rfl rfl ?_)) | ((with_reducible refine StillV.isLoad ?_); (first | refine ⟨h.stillB 0 0 ⟨_, rfl, rfl⟩ rfl rfl, ?_⟩ | refine ⟨h.still2 0 0 ⟨_, rfl, rfl⟩ rfl, ?_⟩)) | ((with_reducible refine RunU.isStor ?_); (first | (refine h.stor2 0 0 ⟨_, rfl, rfl⟩ rfl ?_; intro w h; dsimp only [updG, setO] at h) | (refine h.storB 0 0 ⟨_, rfl, rfl⟩ rfl rfl rfl ?_; intro w h; dsimp only [updG, setO] at h) | (refine h.drew.stor2 0 0 ⟨_, rfl, rfl⟩ rfl ?_; intro w h; dsimp only [updG, setO] at h) | (refine h.drew.storB 0 0 ⟨_, rfl, rfl⟩ rfl rfl rfl ?_; intro w h; dsimp only [updG, setO] at h))) | ((with_reducible refine RunN.isBox ?_); (first | (refine h.newB run_boxA rfl ?_; intro bn w h; try dsimp only at h; have h := h.ord 2 [1, 0]; dsimp only [pick, nthO, dropO] at h) | (refine h.drew.newB run_boxA rfl ?_; intro bn w h; try dsimp only at h; have h := h.ord 2 [1, 0]; dsimp only [pick, nthO, dropO] at h))) | ((with_reducible refine RunN.isNew ?_); (first | (refine h.newB (NewC.run _) rfl ?_; intro bn w h; have h := h.ord 2 [1, 0]; dsimp only [pick, nthO, dropO] at h) | (refine h.drew.newB (NewC.run _) rfl ?_; intro bn w h; have h := h.ord 2 [1, 0]; dsimp only [pick, nthO, dropO] at h))) | (refine RunN.k2Eq ?_) | (refine RunN.k2Ne ?_) | (refine ReadN.k2Eq ?_) | (refine ReadN.k2Ne ?_))
    rw [wr (by omega)] at h ⊢
    rw [SplitB_iff]
    refine ⟨fun hd => ?_, fun hd => ?_⟩
    · have hd : r.ag + 1 ≥ r.res := of_decide_eq_true hd
      simp only [if_pos hd]
      refine NilP.mk ?_
      refine h.drew.storB 0 0 ⟨_, rfl, rfl⟩ rfl rfl rfl ?_
      intro w h
      dsimp only [updG, setO] at h
      repeat (first | (with_reducible refine NilP.mk ?_) | ((with_reducible refine RunN.isLoad ?_); (first | refine h.load2 0 0 ⟨_, rfl, rfl⟩ rfl ?_ | refine h.loadB 0 0 ⟨_, rfl, rfl⟩ rfl rfl ?_ | refine h.drew.load2 0 0 ⟨_, rfl, rfl⟩ rfl ?_ | refine h.drew.loadB 0 0 ⟨_, rfl, rfl⟩ rfl rfl ?_)) | ((with_reducible refine ReadN.isLoad ?_); (first | refine h.read2 0 0 ⟨_, rfl, rfl⟩ rfl ?_ | refine h.readB 0 0 ⟨_, rfl, rfl⟩ rfl rfl ?_ | refine h.drew.read2 0 0 ⟨_, rfl, rfl⟩ rfl ?_ | refine h.drew.readB 0 0 ⟨_, rfl, rfl⟩ rfl rfl ?_)) | ((with_reducible refine StillV.isLoad ?_); (first | refine ⟨h.stillB 0 0 ⟨_, rfl, rfl⟩ rfl rfl, ?_⟩ | refine ⟨h.still2 0 0 ⟨_, rfl, rfl⟩ rfl, ?_⟩)) | ((with_reducible refine RunU.isStor ?_); (first | (refine h.stor2 0 0 ⟨_, rfl, rfl⟩ rfl ?_; intro w h; dsimp only [updG, setO] at h) | (refine h.storB 0 0 ⟨_, rfl, rfl⟩ rfl rfl rfl ?_; intro w h; dsimp only [updG, setO] at h) | (refine h.drew.stor2 0 0 ⟨_, rfl, rfl⟩ rfl ?_; intro w h; dsimp only [updG, setO] at h) | (refine h.drew.storB 0 0 ⟨_, rfl, rfl⟩ rfl rfl rfl ?_; intro w h; dsimp only [updG, setO] at h))) | ((with_reducible refine RunN.isBox ?_); (first | (refine h.newB run_boxA rfl ?_; intro bn w h; try dsimp only at h; have h := h.ord 2 [1, 0]; dsimp only [pick, nthO, dropO] at h) | (refine h.drew.newB run_boxA rfl ?_; intro bn w h; try dsimp only at h; have h := h.ord 2 [1, 0]; dsimp only [pick, nthO, dropO] at h))) | ((with_reducible refine RunN.isNew ?_); (first | (refine h.newB (NewC.run _) rfl ?_; intro bn w h; have h := h.ord 2 [1, 0]; dsimp only [pick, nthO, dropO] at h) | (refine h.drew.newB (NewC.run _) rfl ?_; intro bn w h; have h := h.ord 2 [1, 0]; dsimp only [pick, nthO, dropO] at h))) | (refine RunN.k2Eq ?_) | (refine RunN.k2Ne ?_) | (refine ReadN.k2Eq ?_) | (refine ReadN.k2Ne ?_))
      exact h
    · have hd : ¬ r.ag + 1 ≥ r.res := of_decide_eq_false hd
      simp only [if_neg hd]
      exact h.drew
end
end Go.Proofs.Ytodgnpmljdopiaa

/- The document's link in memory: Send, segments, Under. -/
namespace Go.Proofs.Ytodgnpmljdopiaa
open Go Go.Fw Go.RowKit
set_option linter.unusedVariables false
set_option linter.unusedSimpArgs false
set_option maxRecDepth 4000
set_option maxHeartbeats 4000000
variable {w0 w : World} {F G : Grps} {t : TypeId}

def Rl.refuse (r : Rl) (l : List UInt8) : Int := if l.length > 4000 then 2 else if r.room ≤ 0 ∨ (r.sent.length : Int) ≥ 1099511627776 then 30 else 0
theorem rsend_st {r : Rm} (h : St w0 w (rmE t r :: rsd r.toRl :: F)) (hw : r.wf) {p : Sl} {l : List UInt8} (hp : SeesG w0 F p 1 (bys l)) : CallK Try.prog (.int .i64) 37 #[.pointer r.p, .slice p.a p.len p.cap] w
    fun (v : Int) w' => v = r.refuse l ∧ (v ≠ 0 → St w0 w' (rmE t r :: rsd r.toRl :: F)) ∧ (v = 0 → ∃ s ss, St w0 w' (rmE t { r with sent := r.sent ++ [(s, l)], ss := ss } :: rsd { r.toRl with sent := r.sent ++ [(s, l)] } :: F)) := by
  have hpl := (hp _ ((h.drop 0).drop 0)).bys_len
  have hfew := hw.few
  refine T37.calls ?_
  unfold T37
  rw [SplitB_iff]
  refine ⟨fun hc => ?_, fun hc => ?_⟩
  · have hc : l.length > 4000 := by have : (p.len : Int) > 4000 := of_decide_eq_true hc
                                    omega
    have : r.refuse l = 2 := by rw [Rl.refuse, if_pos hc]
    rw [this]
    exact ⟨rfl, fun _ => h, fun h0 => by cases h0⟩
  · have hc : ¬ l.length > 4000 := by have : ¬ (p.len : Int) > 4000 := of_decide_eq_false hc
                                      omega
    refine JoinX.mk (fun (y : Bool × Unit) w' => y.1 = decide (r.room ≤ 0 ∨ (r.sent.length : Int) ≥ 1099511627776) ∧ St w0 w' (rmE t r :: rsd r.toRl :: F)) ?_ ?_
    · rintro ⟨y, ⟨⟩⟩ w1 ⟨hy, h⟩
      dsimp only at hy
      subst hy
      rw [SplitB_iff]
      refine ⟨fun hd => ?_, fun hd => ?_⟩
      · have hd : r.room ≤ 0 ∨ (r.sent.length : Int) ≥ 1099511627776 := of_decide_eq_true hd
        have : r.refuse l = 30 := by rw [Rl.refuse, if_neg hc, if_pos hd]
        rw [this]
        exact ⟨rfl, fun _ => h, fun h0 => by cases h0⟩
      · have hd : ¬ (r.room ≤ 0 ∨ (r.sent.length : Int) ≥ 1099511627776) := of_decide_eq_false hd
        have : r.refuse l = 0 := by rw [Rl.refuse, if_neg hc, if_neg hd]
        rw [this]
        refine NilP.mk ?_
        refine h.drew.readB 0 0 ⟨_, rfl, rfl⟩ rfl (kd := .sl) (x := r.ss) rfl ?_
        refine (copied_st h.drew (sup (sup hp)) (by omega)).mono ?_
        rintro s w2 ⟨hs, h⟩
        refine ⟨h.stillB 1 0 ⟨_, rfl, rfl⟩ rfl rfl, ?_⟩
        refine h.newS 1 (bs51 _ _ _ _) rfl rfl rfl ?_
        intro u w3 hu1 hu2 _ h
        refine ⟨h.stillB 2 0 ⟨_, rfl, rfl⟩ rfl rfl, ?_⟩
        have hsl := lsl_rd (h.rd (k := 2) (i := 1) (E := 45) (sz := 1) (s := r.ss) (vs := lsl r.sent) ⟨_, rfl, rfl⟩)
        refine h.app 2 1 ⟨_, rfl, rfl⟩ (h.rd (k := 0) (i := 0) ⟨_, rfl, rfl⟩) (fun v hv => by simp at hv; subst hv; rfl) (by simp only [maxLen]; omega) (by omega) ?_
        intro ss w4 hl4 h
        have h := h.drop 0
        dsimp only [delO, updG, setO] at h
        refine NilP.mk ?_
        refine h.storB 1 0 ⟨_, rfl, rfl⟩ rfl rfl rfl ?_
        intro w5 h
        dsimp only [updG, setO] at h
        refine ⟨rfl, fun h0 => absurd rfl h0, fun _ => ⟨s, ss, ?_⟩⟩
        have h := snoc_grp h
        have e1 : rsd { r.toRl with sent := r.sent ++ [(s, l)] } = rsd r.toRl ++ [brow (s, l)] := by simp [rsd]
        have e2 : lsl (r.sent ++ [(s, l)]) = lsl r.sent ++ [.slice s.a s.len s.cap] := lsl_snoc _ _
        have e3 : rmE t { r with sent := r.sent ++ [(s, l)], ss := ss } = [.cel r.rb 95 (rmC { r with ss := ss }), .row 45 1 ss (lsl r.sent ++ [.slice s.a s.len s.cap]), .row t 2 r.cs (r.came.flatMap pcv)] := by rw [← e2]; rfl
        rw [e1, e3]
        exact h
    · intro k hk
      refine (rroom_st h hw).mono ?_
      intro (v : Int) w1 ⟨hv, h⟩
      rw [hv]
      rw [SplitB_iff]
      refine ⟨fun hd => ?_, fun hd => ?_⟩
      · have hd : r.room ≤ 0 := of_decide_eq_true hd
        exact hk _ _ ⟨by simp [hd], h⟩
      · have hd : ¬ r.room ≤ 0 := of_decide_eq_false hd
        refine NilP.mk ?_
        refine h.loadB 0 0 ⟨_, rfl, rfl⟩ rfl (kd := .sl) (x := r.ss) rfl ?_
        have hsl := lsl_rd (h.rd (k := 0) (i := 1) (E := 45) (sz := 1) (s := r.ss) (vs := lsl r.sent) ⟨_, rfl, rfl⟩)
        have hsi : (r.ss.len : Int) = (r.sent.length : Int) := by omega
        rw [hsi]
        exact hk _ _ ⟨by simp [hd], h⟩
/-- The segment with that number. -/
def Rl.data (r : Rl) (n : Int) : List UInt8 := if n > 0 then ((r.sent[(n - 1).toNat]?).map (·.2)).getD [] else []
def Rl.seg (r : Rl) (n : Int) (s : Sl) : Sg := ⟨r.me, r.peer, n, r.want - 1, (s, r.data n)⟩
theorem rsd_sees {r : Rl} {b : Bs} (hb : b ∈ r.sent) : SeesG w0 (rsd r :: F) b.1 1 (bys b.2) := fun w h =>
  ((h.memG 0 rfl (List.mem_map.2 ⟨b, hb, rfl⟩) : (brow b).ok w w0.heap.size)).1.rd
theorem rsegment_st {r : Rm} (h : St w0 w (rmE t r :: rsd r.toRl :: F)) (hw : r.wf) {n : Int} (hn : 0 ≤ n ∧ n ≤ r.sent.length) :
    CallK Try.prog (.agg (.cons (.int .i64) (.cons (.int .i64) (.cons (.int .i64) (.cons (.int .i64) (.cons .sl .nilT)))))) 58 #[.pointer r.p, .int .i64 n] w
    fun (v : Int × Int × Int × Int × Sl × Unit) w' => ∃ s, v = sgt (r.seg n s) ∧ St w0 w' ([brow (s, r.data n)] :: rmE t r :: rsd r.toRl :: F) := by
  refine T58.calls ?_
  unfold T58
  have h1 := hw.want; have hfew := hw.few
  refine h.newB (NewC.run _) rfl ?_
  intro b4 w1 h
  refine NilP.mk ?_
  refine h.drew.readB 1 0 ⟨_, rfl, rfl⟩ rfl (kd := .int .i64) (x := r.me) rfl ?_
  refine NilP.mk ?_
  refine h.drew.readB 1 0 ⟨_, rfl, rfl⟩ rfl (kd := .int .i64) (x := r.peer) rfl ?_
  refine NilP.mk ?_
  refine h.drew.readB 1 0 ⟨_, rfl, rfl⟩ rfl (kd := .int .i64) (x := r.want) rfl ?_
  refine h.drew.newB (NewC.run _) rfl ?_
  intro b5 w2 h
  refine ⟨h.stillB 2 0 ⟨_, rfl, rfl⟩ rfl rfl, ?_⟩
  refine ⟨h.stillB 2 0 ⟨_, rfl, rfl⟩ rfl rfl, ?_⟩
  refine ⟨h.stillB 2 0 ⟨_, rfl, rfl⟩ rfl rfl, ?_⟩
  rw [wr (by omega)]
  let g0 : Sg := ⟨r.me, r.peer, n, r.want - 1, (⟨none, 0, 0⟩, [])⟩
  refine h.storA 0 0 ⟨_, rfl, rfl⟩ (t' := 62) (n := 5) (j := 0) rfl (ds := sgv g0) rfl rfl rfl ?_
  intro w3 h
  have h : St w0 w3 ([.cel b5 62 (sgv g0)] :: [.cel b4 62 [.int .i64 0, .int .i64 0, .int .i64 0, .int .i64 0, .slice none 0 0]] :: rmE t r :: rsd r.toRl :: F) := h
  rw [SplitB_iff]
  refine ⟨fun hp => ?_, fun hp => ?_⟩
  · have hp : n > 0 := of_decide_eq_true hp
    obtain ⟨k, hk⟩ : ∃ k : Nat, n - 1 = (k : Int) := ⟨(n - 1).toNat, by omega⟩
    have hkl : k < r.sent.length := by omega
    have hdat : r.data n = r.sent[k].2 := by
      rw [Rl.data, if_pos hp, show (n - 1).toNat = k by omega, List.getElem?_eq_getElem hkl]; rfl
    refine NilP.mk ?_
    refine h.loadB 2 0 ⟨_, rfl, rfl⟩ rfl (kd := .sl) (x := r.ss) rfl ?_
    rw [wr (by omega), hk]
    have hrr := h.rd (k := 2) (i := 1) (E := 45) (sz := 1) (s := r.ss) (vs := lsl r.sent) ⟨_, rfl, rfl⟩
    have hsl := lsl_rd hrr
    refine hrr.idxK k rfl (by omega) ?_
    intro b0 o0 ha
    refine hrr.el ha (k * 1) rfl (kd := .sl) (x := r.sent[k].1) (by rw [Nat.mul_one]; exact lsl_at hkl) ?_
    have hlen := hw.lens _ (List.getElem_mem hkl)
    refine (copied_st h (p := r.sent[k].1) (l := r.sent[k].2) (sup (sup (sup (rsd_sees (List.getElem_mem hkl))))) (by omega)).mono ?_
    rintro s w4 ⟨hs, h⟩
    refine h.storB 1 0 ⟨_, rfl, rfl⟩ rfl rfl rfl ?_
    intro w5 h
    have h : St w0 w5 ([brow (s, r.sent[k].2)] :: [.cel b5 62 (sgv (r.seg n s))] :: [.cel b4 62 [.int .i64 0, .int .i64 0, .int .i64 0, .int .i64 0, .slice none 0 0]] :: rmE t r :: rsd r.toRl :: F) := h
    refine RunN.of (kd := Kds) (x := sgt (r.seg n s)) (h.run_loadA (k := 1) (i := 0) (b := b5) (t := 62) (cs := sgv (r.seg n s)) ⟨_, rfl, rfl⟩ (t' := 62) (n := 5) (j := 0) rfl (vs := sgv (r.seg n s)) rfl rfl) ?_
    refine h.storA 2 0 ⟨_, rfl, rfl⟩ (t' := 62) (n := 5) (j := 0) rfl (ds := sgv (r.seg n s)) rfl rfl rfl ?_
    intro w6 h
    refine ReadN.of (kd := Kds) (x := sgt (r.seg n s)) (h.run_loadA (k := 2) (i := 0) (b := b4) (t := 62) (cs := sgv (r.seg n s)) ⟨_, rfl, rfl⟩ (t' := 62) (n := 5) (j := 0) rfl (vs := sgv (r.seg n s)) rfl rfl) ?_
    refine ⟨s, rfl, ?_⟩
    rw [hdat]
    exact (h.drop 1).drop 1
  · have hp : ¬ n > 0 := of_decide_eq_false hp
    have hdat : r.data n = [] := by rw [Rl.data, if_neg hp]
    refine RunN.of (kd := Kds) (x := sgt g0) (h.run_loadA (k := 0) (i := 0) (b := b5) (t := 62) (cs := sgv g0) ⟨_, rfl, rfl⟩ (t' := 62) (n := 5) (j := 0) rfl (vs := sgv g0) rfl rfl) ?_
    refine h.storA 1 0 ⟨_, rfl, rfl⟩ (t' := 62) (n := 5) (j := 0) rfl (ds := sgv g0) rfl rfl rfl ?_
    intro w6 h
    refine ReadN.of (kd := Kds) (x := sgt g0) (h.run_loadA (k := 1) (i := 0) (b := b4) (t := 62) (cs := sgv g0) ⟨_, rfl, rfl⟩ (t' := 62) (n := 5) (j := 0) rfl (vs := sgv g0) rfl rfl) ?_
    refine ⟨⟨none, 0, 0⟩, rfl, ?_⟩
    rw [hdat]
    have h := ((h.drop 0).drop 0).nilrow 5 1
    exact h
end Go.Proofs.Ytodgnpmljdopiaa

/- The document's link in memory: Under, Out. -/
namespace Go.Proofs.Ytodgnpmljdopiaa
open Go Go.Fw Go.RowKit
set_option linter.unusedVariables false
set_option linter.unusedSimpArgs false
set_option maxRecDepth 4000
set_option maxHeartbeats 4000000
variable {w0 w : World} {F G : Grps} {t : TypeId}

def Rl.tells (r : Rl) (ns : List Int) : List Pl := ns.map fun n => (r.me, r.peer, n, r.want - 1, r.data n)
theorem rtells_snoc (r : Rl) (ns : List Int) (n : Int) : r.tells (ns ++ [n]) = r.tells ns ++ [(r.me, r.peer, n, r.want - 1, r.data n)] := by simp [Rl.tells]
theorem remit {r : Rm} {o : Sl} {gs : List Sg} {ns : List Int} (h : St w0 w (rmE t r :: rsd r.toRl :: outE o gs :: outD gs :: F)) (hw : r.wf) {n : Int} (hn : 0 ≤ n ∧ n ≤ r.sent.length) (hg : gs.length ≤ 16777216) (hgs : gs.map Sg.pl = r.tells ns)
    {K : Sl → World → Prop} (hk : ∀ (o' : Sl) (gs' : List Sg) w', gs'.map Sg.pl = r.tells (ns ++ [n]) → gs'.length = gs.length + 1 → o'.len = o.len + 1 → St w0 w' (rmE t r :: rsd r.toRl :: outE o' gs' :: outD gs' :: F) → K o' w') :
    CallK Try.prog (.agg (.cons (.int .i64) (.cons (.int .i64) (.cons (.int .i64) (.cons (.int .i64) (.cons .sl .nilT)))))) 58 #[.pointer r.p, .int .i64 n] w fun t18 w =>
      RunN Try.prog .sl (V (Instr.buildSlice 33 1 #[(0, .agg #[.int .i64 t18.1, .int .i64 t18.2.1, .int .i64 t18.2.2.1, .int .i64 t18.2.2.2.1, .slice t18.2.2.2.2.1.a t18.2.2.2.2.1.len t18.2.2.2.2.1.cap])])) w fun t19 w =>
      RunN Try.prog .sl (V (Builtin.append_ #[33, 33] 33 #[.slice o.a o.len o.cap, .slice t19.a t19.len t19.cap])) w fun t20 w => K t20 w := by
  refine (rsegment_st h hw hn).mono ?_
  rintro v w1 ⟨s, rfl, h⟩
  refine h.newS 5 (bs33' _ (r.seg n s)) rfl rfl rfl ?_
  intro u w2 hu1 hu2 _ h
  have hol := out_len (h.rd (k := 4) (i := 0) (E := 62) (sz := 5) (s := o) (vs := gs.flatMap sgv) ⟨_, rfl, rfl⟩)
  refine h.app 4 0 ⟨_, rfl, rfl⟩ (h.rd (k := 0) (i := 0) ⟨_, rfl, rfl⟩) (sgv_one _) (by dsimp only [maxLen]; omega) (by omega) ?_
  intro o' w3 hl3 h
  have h := h.drop 0
  dsimp only [delO, updG, setO] at h
  have h := h.ord 5 [1, 2, 3, 0, 4]
  dsimp only [pick, nthO, dropO] at h
  refine hk o' (gs ++ [r.seg n s]) w3 ?_ (by simp) (by omega) ?_
  · rw [List.map_append, hgs, rtells_snoc]; rfl
  have h := snocAt [rmE t r, rsd r.toRl, [Ent.row 62 5 o' (gs.flatMap sgv ++ sgv (r.seg n s))]] h
  have e1 : outE o' (gs ++ [r.seg n s]) = [Ent.row 62 5 o' (gs.flatMap sgv ++ sgv (r.seg n s))] := by simp [outE]
  have e2 : outD (gs ++ [r.seg n s]) = outD gs ++ [brow (s, r.data n)] := by simp [outD, Rl.seg]
  rw [e1, e2]
  exact h
/-- From 'a' on, so many numbers. -/
def nums (a : Int) (k : Nat) : List Int := (List.range k).map fun i => a + (i : Nat)
theorem nums_succ (a : Int) (k : Nat) : nums a (k + 1) = nums a k ++ [a + (k : Nat)] := by simp [nums, List.range_succ]
theorem nums_len (a : Int) (k : Nat) : (nums a k).length = k := by simp [nums]
theorem outs0 {r : Rm} {q : Rl} (h : St w0 w (rmE t r :: rsd q :: F)) : St w0 w (rmE t r :: rsd q :: outE ⟨none, 0, 0⟩ [] :: outD [] :: F) := by
  have h1 := h.nilrow 62 5
  have h2 := h1.ord 3 [1, 2, 0]
  dsimp only [pick, nthO, dropO] at h2
  exact h2.perm (by simp [outE, outD])
theorem runder_st {r : Rm} (h : St w0 w (rmE t r :: rsd r.toRl :: F)) (hw : r.wf) : CallK Try.prog .sl 47 #[.pointer r.p] w
    fun (o : Sl) w' => ∃ gs, gs.map Sg.pl = r.tells (nums (r.done + 1) (r.gone - r.done).toNat) ∧ o.len = gs.length ∧ St w0 w' (rmE t r :: rsd r.toRl :: outE o gs :: outD gs :: F) := by
  refine T47.calls ?_
  unfold T47
  have hg := hw.gone; have hfew := hw.few
  refine NilP.mk ?_
  refine h.loadB 0 0 ⟨_, rfl, rfl⟩ rfl (kd := .int .i64) (x := r.done) rfl ?_
  have h := outs0 h
  rw [wr (by omega)]
  refine LoopX.mk (fun st w' => ∃ (o : Sl) (m : Nat) (gs : List Sg), st = (o, r.done + 1 + (m : Nat), ()) ∧ (m : Int) ≤ r.gone - r.done ∧ gs.map Sg.pl = r.tells (nums (r.done + 1) m) ∧ o.len = gs.length ∧ gs.length = m ∧ St w0 w' (rmE t r :: rsd r.toRl :: outE o gs :: outD gs :: F)) (fun st => (r.gone + 1 - st.2.1).toNat) ⟨_, 0, [], by simp, by omega, rfl, rfl, rfl, h⟩ ?_
  clear h
  rintro _ w1 ⟨o, m, gs, rfl, hm, hgs, hol, hgl, h⟩ k hk
  dsimp only at hk ⊢
  refine NilP.mk ?_
  refine h.loadB 0 0 ⟨_, rfl, rfl⟩ rfl (kd := .int .i64) (x := r.gone) rfl ?_
  rw [SplitB_iff]
  refine ⟨fun hc => ?_, fun hc => ?_⟩
  · have hc : r.done + 1 + (m : Nat) ≤ r.gone := of_decide_eq_true hc
    have hem : IntKind.i64.wrap (r.done + 1 + (m : Nat) + 1) = r.done + 1 + ((m + 1 : Nat) : Int) := by rw [wr (by omega)]; omega
    rw [hem]
    refine remit h hw (n := r.done + 1 + (m : Nat)) (by omega) (by omega) hgs ?_
    intro o' gs' w2 hgs' hgl' ho' h
    rw [← nums_succ] at hgs'
    exact hk _ _ ⟨o', m + 1, gs', rfl, by omega, hgs', by omega, by omega, h⟩ (by dsimp only; omega)
  · have hc : ¬ r.done + 1 + (m : Nat) ≤ r.gone := of_decide_eq_false hc
    have : (r.gone - r.done).toNat = m := by omega
    rw [this]
    exact ⟨gs, hgs, hol, h⟩
end Go.Proofs.Ytodgnpmljdopiaa

/- The document's link in memory: Out. -/
namespace Go.Proofs.Ytodgnpmljdopiaa
open Go Go.Fw Go.RowKit
set_option linter.unusedVariables false
set_option linter.unusedSimpArgs false
set_option maxRecDepth 4000
set_option maxHeartbeats 4000000
variable {w0 w : World} {F G : Grps} {t : TypeId}

def Rl.goes (r : Rl) (n : Int) : Bool := r.du || decide (n > r.gone)
def Rl.outs (r : Rl) : List Int := (if r.ow = true then [0] else []) ++ (nums (r.done + 1) (r.sent.length - r.done).toNat).filter r.goes
def Rl.outed (r : Rl) : Rl := { r with ag := if r.gone = r.done ∧ (r.sent.length : Int) > r.gone then 0 else r.ag, ow := false, du := false, gone := r.sent.length }
theorem rout_st {r : Rm} (h : St w0 w (rmE t r :: rsd r.toRl :: F)) (hw : r.wf) : CallK Try.prog .sl 41 #[.pointer r.p] w
    fun (o : Sl) w' => ∃ gs, gs.map Sg.pl = r.tells r.outs ∧ o.len = gs.length ∧ St w0 w' (rmE t { r with toRl := r.toRl.outed } :: rsd r.toRl :: outE o gs :: outD gs :: F) := by
  have hg := hw.gone; have hfew := hw.few
  refine T41.calls ?_
  unfold T41
  have h := outs0 h
  refine JoinX.mk (fun (y : Sl × Unit) w' => ∃ gs, gs.map Sg.pl = r.tells (if r.ow = true then [0] else []) ∧ y.1.len = gs.length ∧ gs.length ≤ 1 ∧ St w0 w' (rmE t r :: rsd r.toRl :: outE y.1 gs :: outD gs :: F)) ?_ ?_
  rotate_left
  · intro k hk
    refine NilP.mk ?_
    refine h.loadB 0 0 ⟨_, rfl, rfl⟩ rfl (kd := .bool) (x := r.ow) rfl ?_
    rw [SplitB_iff]
    refine ⟨fun hd => ?_, fun hd => ?_⟩
    · refine remit (o := ⟨none, 0, 0⟩) (ns := []) h hw (n := 0) (by omega) (by simp) rfl ?_
      intro o' gs' w2 hgs' hgl' ho' h
      exact hk _ _ ⟨gs', by rw [hd]; exact hgs', by rw [ho', hgl']; rfl, by rw [hgl']; simp, h⟩
    · exact hk _ _ ⟨[], by rw [hd]; rfl, rfl, by simp, h⟩
  clear h
  rintro ⟨o, ⟨⟩⟩ w1 ⟨gs, hgs, hol, hgl, h⟩
  dsimp only at hol h ⊢
  refine NilP.mk ?_
  refine h.loadB 0 0 ⟨_, rfl, rfl⟩ rfl (kd := .int .i64) (x := r.done) rfl ?_
  rw [wr (by omega)]
  refine LoopX.mk (fun st w' => ∃ (o : Sl) (m : Nat) (gs : List Sg), st = (o, r.done + 1 + (m : Nat), ()) ∧ (m : Int) ≤ r.sent.length - r.done ∧ gs.map Sg.pl = r.tells ((if r.ow = true then [0] else []) ++ (nums (r.done + 1) m).filter r.goes) ∧ o.len = gs.length ∧ gs.length ≤ m + 1 ∧ St w0 w' (rmE t r :: rsd r.toRl :: outE o gs :: outD gs :: F)) (fun st => ((r.sent.length : Int) + 1 - st.2.1).toNat) ⟨o, 0, gs, by simp, by omega, by rw [hgs]; simp [nums], hol, by omega, h⟩ ?_
  clear h hgs hol hgl
  rintro _ w2 ⟨o, m, gs, rfl, hm, hgs, hol, hgl, h⟩ k hk
  dsimp only at hk ⊢
  have hsl := lsl_rd (h.rd (k := 0) (i := 1) (E := 45) (sz := 1) (s := r.ss) (vs := lsl r.sent) ⟨_, rfl, rfl⟩)
  have hsi : (r.ss.len : Int) = (r.sent.length : Int) := by omega
  refine NilP.mk ?_
  refine h.loadB 0 0 ⟨_, rfl, rfl⟩ rfl (kd := .sl) (x := r.ss) rfl ?_
  rw [hsi, SplitB_iff]
  refine ⟨fun hc => ?_, fun hc => ?_⟩
  · have hc : r.done + 1 + (m : Nat) ≤ r.sent.length := of_decide_eq_true hc
    have hem : IntKind.i64.wrap (r.done + 1 + (m : Nat) + 1) = r.done + 1 + ((m + 1 : Nat) : Int) := by rw [wr (by omega)]; omega
    rw [hem]
    have hsucc : (nums (r.done + 1) (m + 1)).filter r.goes = (nums (r.done + 1) m).filter r.goes ++ (if r.goes (r.done + 1 + (m : Nat)) = true then [r.done + 1 + (m : Nat)] else []) := by
      rw [nums_succ, List.filter_append]
      congr 1
      rw [List.filter_cons]
      split <;> simp
    refine JoinX.mk (fun (y : Sl × Unit) w' => ∃ gs, gs.map Sg.pl = r.tells ((if r.ow = true then [0] else []) ++ (nums (r.done + 1) (m + 1)).filter r.goes) ∧ y.1.len = gs.length ∧ gs.length ≤ m + 2 ∧ St w0 w' (rmE t r :: rsd r.toRl :: outE y.1 gs :: outD gs :: F)) ?_ ?_
    · rintro ⟨o', ⟨⟩⟩ w3 ⟨gs', a1, a2, a3, h⟩
      exact hk _ _ ⟨o', m + 1, gs', rfl, by omega, a1, a2, a3, h⟩ (by dsimp only; omega)
    · intro k5 hk5
      refine JoinX.mk (fun (y : Bool × Unit) w' => y.1 = r.goes (r.done + 1 + (m : Nat)) ∧ St w0 w' (rmE t r :: rsd r.toRl :: outE o gs :: outD gs :: F)) ?_ ?_
      · rintro ⟨b, ⟨⟩⟩ w3 ⟨hb, h⟩
        dsimp only at hb
        subst hb
        rw [SplitB_iff]
        refine ⟨fun hd => ?_, fun hd => ?_⟩
        · refine remit h hw (n := r.done + 1 + (m : Nat)) (by omega) (by omega) hgs ?_
          intro o' gs' w2 hgs' hgl' ho' h
          refine hk5 _ _ ⟨gs', ?_, by dsimp only; omega, by omega, h⟩
          have hd : r.goes (r.done + 1 + (m : Nat)) = true := hd
          rw [hsucc, hd, ← List.append_assoc]; exact hgs'
        · refine hk5 _ _ ⟨gs, ?_, hol, by omega, h⟩
          have hd : r.goes (r.done + 1 + (m : Nat)) = false := hd
          rw [hsucc, hd]
          simp only [Bool.false_eq_true, if_false, List.append_nil]
          exact hgs
      · intro k7 hk7
        refine NilP.mk ?_
        refine h.loadB 0 0 ⟨_, rfl, rfl⟩ rfl (kd := .bool) (x := r.du) rfl ?_
        rw [SplitB_iff]
        refine ⟨fun hd => ?_, fun hd => ?_⟩
        · exact hk7 _ _ ⟨by dsimp only; rw [Rl.goes, hd]; rfl, h⟩
        · refine NilP.mk ?_
          refine h.loadB 0 0 ⟨_, rfl, rfl⟩ rfl (kd := .int .i64) (x := r.gone) rfl ?_
          exact hk7 _ _ ⟨by dsimp only; rw [Rl.goes, hd]; rfl, h⟩
  · have hc : ¬ r.done + 1 + (m : Nat) ≤ r.sent.length := of_decide_eq_false hc
    have hmm : ((r.sent.length : Int) - r.done).toNat = m := by omega
    have hgs : gs.map Sg.pl = r.tells r.outs := by rw [hgs, Rl.outs, hmm]
    let r1 : Rm := { r with ag := if r.gone = r.done ∧ (r.sent.length : Int) > r.gone then 0 else r.ag }
    refine JoinX.mk (fun (_ : Unit) w' => St w0 w' (rmE t r1 :: rsd r.toRl :: outE o gs :: outD gs :: F)) ?_ ?_
    · rintro ⟨⟩ w3 h
      refine NilP.mk ?_
      refine h.storB 0 0 ⟨_, rfl, rfl⟩ rfl rfl rfl ?_
      intro w4 h
      dsimp only [updG, setO] at h
      refine NilP.mk ?_
      refine h.storB 0 0 ⟨_, rfl, rfl⟩ rfl rfl rfl ?_
      intro w5 h
      dsimp only [updG, setO] at h
      refine NilP.mk ?_
      refine h.loadB 0 0 ⟨_, rfl, rfl⟩ rfl (kd := .sl) (x := r.ss) rfl ?_
      refine NilP.mk ?_
      rw [hsi]
      refine h.storB 0 0 ⟨_, rfl, rfl⟩ rfl rfl rfl ?_
      intro w6 h
      dsimp only [updG, setO] at h
      exact ⟨gs, hgs, hol, h⟩
    · intro k9 hk9
      refine JoinX.mk (fun (y : Bool × Unit) w' => y.1 = decide (r.gone = r.done ∧ (r.sent.length : Int) > r.gone) ∧ St w0 w' (rmE t r :: rsd r.toRl :: outE o gs :: outD gs :: F)) ?_ ?_
      · rintro ⟨b, ⟨⟩⟩ w3 ⟨hb, h⟩
        dsimp only at hb
        subst hb
        rw [SplitB_iff]
        refine ⟨fun hd => ?_, fun hd => ?_⟩
        · have hd := of_decide_eq_true hd
          refine NilP.mk ?_
          refine h.storB 0 0 ⟨_, rfl, rfl⟩ rfl rfl rfl ?_
          intro w4 h
          dsimp only [updG, setO] at h
          have : r1 = { r with ag := 0 } := by simp only [r1, if_pos hd]
          refine hk9 _ _ ?_
          rw [this]; exact h
        · have hd := of_decide_eq_false hd
          have : r1 = r := by simp only [r1, if_neg hd]
          refine hk9 _ _ ?_
          rw [this]; exact h
      · intro k11 hk11
        refine NilP.mk ?_
        refine h.drew.readB 0 0 ⟨_, rfl, rfl⟩ rfl (kd := .int .i64) (x := r.gone) rfl ?_
        refine NilP.mk ?_
        refine h.drew.readB 0 0 ⟨_, rfl, rfl⟩ rfl (kd := .int .i64) (x := r.done) rfl ?_
        rw [SplitB_iff]
        refine ⟨fun hd => ?_, fun hd => ?_⟩
        · have hd : r.gone = r.done := by simpa using hd
          refine NilP.mk ?_
          refine h.drew.readB 0 0 ⟨_, rfl, rfl⟩ rfl (kd := .sl) (x := r.ss) rfl ?_
          refine NilP.mk ?_
          refine h.drew.readB 0 0 ⟨_, rfl, rfl⟩ rfl (kd := .int .i64) (x := r.gone) rfl ?_
          refine hk11 _ _ ⟨?_, h.drew⟩
          dsimp only
          rw [hsi]
          exact decide_eq_decide.2 ⟨fun h => ⟨hd, h⟩, fun h => h.2⟩
        · have hd : ¬ r.gone = r.done := by simpa using hd
          refine hk11 _ _ ⟨?_, h.drew⟩
          symm
          exact decide_eq_false (fun hh => hd hh.1)
end Go.Proofs.Ytodgnpmljdopiaa

/- The document's link in memory: what is sought, what is taken. -/
namespace Go.Proofs.Ytodgnpmljdopiaa
open Go Go.Fw Go.RowKit
set_option linter.unusedVariables false
set_option linter.unusedSimpArgs false
set_option maxRecDepth 4000
set_option maxHeartbeats 4000000
variable {w0 w : World} {F G : Grps}

instance : Et Try.prog 93 115 2 32 := ⟨ET.of (by kernel_rfl), by decide⟩
def findC (l : List Pc) (n : Int) : Option Pc := l.find? fun p => p.1 == n
def fres (o : Option Pc) : Sl × Bool × Unit := match o with | some p => (p.2.1, true, ()) | none => (⟨none, 0, 0⟩, false, ())
theorem findC_at {l : List Pc} {n : Int} {m : Nat} (hm : m < l.length) (h : ∀ (i : Nat) (hi : i < l.length), i < m → l[i].1 ≠ n) (hk : l[m].1 = n) : findC l n = some l[m] := by
  rw [findC, List.find?_eq_some_iff_getElem]
  refine ⟨by simpa using hk, m, hm, rfl, fun j hj => ?_⟩
  have := h j (by omega) hj
  simpa using this
theorem findC_no {l : List Pc} {n : Int} (h : ∀ (i : Nat) (hi : i < l.length), l[i].1 ≠ n) : findC l n = none := by
  rw [findC, List.find?_eq_none]
  intro x hx
  obtain ⟨i, hi, rfl⟩ := List.mem_iff_getElem.1 hx
  simpa using h i hi
theorem rfind_st {r : Rm} (h : St w0 w (rmE 115 r :: F)) (hw : r.came.length ≤ 1048576) (n : Int) : CallK Try.prog (.tup (.cons .sl (.cons .bool .nilT))) 61 #[.pointer r.p, .int .i64 n] w
    fun (v : Sl × Bool × Unit) w' => v = fres (findC r.came n) ∧ St w0 w' (rmE 115 r :: F) := by
  refine T61.calls ?_
  unfold T61
  refine LoopX.mk (fun st w' => ∃ m : Nat, st = ((m : Int), ()) ∧ m ≤ r.came.length ∧ (∀ (i : Nat) (hi : i < r.came.length), i < m → r.came[i].1 ≠ n) ∧ St w0 w' (rmE 115 r :: F)) (fun st => r.came.length - st.1.toNat) ⟨0, rfl, Nat.zero_le _, fun _ _ h => by omega, h⟩ ?_
  clear h
  rintro _ w1 ⟨m, rfl, hm, hlow, h⟩ k hk
  dsimp only at hk ⊢
  have hrr := h.rd (k := 0) (i := 2) (E := 115) (sz := 2) (s := r.cs) (vs := r.came.flatMap pcv) ⟨_, rfl, rfl⟩
  have hcl : r.cs.len = r.came.length := by have := hrr.1; rw [flat_len pcv_len] at this; omega
  have hci : (r.cs.len : Int) = (r.came.length : Int) := by omega
  refine NilP.mk ?_
  refine h.loadB 0 0 ⟨_, rfl, rfl⟩ rfl (kd := .sl) (x := r.cs) rfl ?_
  rw [hci, SplitB_iff]
  refine ⟨fun hc => ?_, fun hc => ?_⟩
  · have hc : m < r.came.length := by have : (m : Int) < (r.came.length : Int) := of_decide_eq_true hc
                                      omega
    have hem : IntKind.i64.wrap ((m : Int) + 1) = ((m + 1 : Nat) : Int) := by rw [wr (by omega)]; omega
    rw [hem]
    refine NilP.mk ?_
    refine h.loadB 0 0 ⟨_, rfl, rfl⟩ rfl (kd := .sl) (x := r.cs) rfl ?_
    refine hrr.idxK m rfl (by omega) ?_
    intro b0 o0 ha
    refine hrr.el ha (m * 2 + 0) (by rw [add_lit', Nat.add_assoc]) (kd := .int .i64) (x := r.came[m].1) (by rw [flat_cell pcv_len hc 0 (by decide)]; rfl) ?_
    rw [SplitB_iff]
    refine ⟨fun hd => ?_, fun hd => ?_⟩
    · have hd : r.came[m].1 = n := by simpa using hd
      refine NilP.mk ?_
      refine h.loadB 0 0 ⟨_, rfl, rfl⟩ rfl (kd := .sl) (x := r.cs) rfl ?_
      refine hrr.idxK m rfl (by omega) ?_
      intro b1 o1 ha1
      refine hrr.el ha1 (m * 2 + 1) (by rw [add_lit', Nat.add_assoc]) (kd := .sl) (x := r.came[m].2.1) (by rw [flat_cell pcv_len hc 1 (by decide)]; rfl) ?_
      exact ⟨by rw [findC_at hc hlow hd]; rfl, h⟩
    · have hd : ¬ r.came[m].1 = n := by simpa using hd
      refine hk _ _ ⟨m + 1, rfl, by omega, fun i hi him => ?_, h⟩ (by dsimp only; omega)
      by_cases h1 : i < m
      · exact hlow i hi h1
      · have : i = m := by omega
        subst this; exact hd
  · have hc : m = r.came.length := by have : ¬ (m : Int) < (r.came.length : Int) := of_decide_eq_false hc
                                      omega
    exact ⟨by rw [findC_no fun i hi => hlow i hi (by omega)]; rfl, h⟩
def Rl.fits (r : Rl) (g : Sg) : Bool :=
  g.fr == r.peer && (g.to == r.me && (decide (g.seq ≥ 0) && (decide (g.seq ≤ 1099511627776) && (decide (g.ack ≥ 0) && (decide (g.ack ≤ r.gone) && ((decide (g.seq > 0) || decide (g.d.2.length = 0)) && decide (g.d.2.length ≤ 4000)))))))
theorem rcd_sees {r : Rl} {p : Pc} (hp : p ∈ r.came) : SeesG w0 (rcd r :: F) p.2.1 1 (bys p.2.2) := fun w h =>
  ((h.memG 0 rfl (List.mem_map.2 ⟨p, hp, rfl⟩) : (brow p.2).ok w w0.heap.size)).1.rd
/-- What is in turn goes up: copies. -/
theorem rrise {r : Rm} {c3 : Ent} {D : List Ent} (h : St w0 w (rmE 115 r :: rcd r.toRl :: [c3] :: D :: F)) (hw : r.came.length ≤ 1048576) (hcl : ∀ p ∈ r.came, p.2.2.length ≤ 4000 ∧ p.1 ≤ 1099511627776) (hwant : 1 ≤ r.want ∧ r.want ≤ 1099511627777) {Q : Sl × Int × Unit → World → Prop}
    (hQ : ∀ (o : Sl) (u : List Bs) w', (∀ (i : Nat) (hi : i < u.length), ∃ p, findC r.came (r.want + i) = some p ∧ p.2.2 = u[i].2) → findC r.came (r.want + u.length) = none → o.len = u.length → r.want + u.length ≤ 1099511627777 →
      St w0 w' (rmE 115 { r with want := r.want + u.length } :: rcd r.toRl :: [c3] :: D :: [.row 45 1 o (lsl u)] :: u.map brow :: F) → Q (o, 0, ()) w') :
    LoopX (α := Sl × Unit) (fun s7 w k8 =>
                  NilP r.p fun t131 =>
                  RunN Try.prog (.int .i64) (V (Instr.loadAt 3 (.pointer (some (t131.add 8))))) w fun t133 w =>
                  CallK Try.prog (.tup (.cons .sl (.cons .bool .nilT))) 61 #[.pointer r.p, .int .i64 t133] w fun t134 w =>
                  SplitB (!t134.2.1)
                    (Q (s7.1, 0, ()) w)
                    (CallK Try.prog .sl 53 #[.slice t134.1.a t134.1.len t134.1.cap] w fun t142 w =>
                    RunN Try.prog .sl (V (Instr.buildSlice 51 1 #[(0, .slice t142.a t142.len t142.cap)])) w fun t143 w =>
                    RunN Try.prog .sl (V (Builtin.append_ #[51, 51] 51 #[.slice s7.1.a s7.1.len s7.1.cap, .slice t143.a t143.len t143.cap])) w fun t144 w =>
                    NilP r.p fun t146 =>
                    RunN Try.prog (.int .i64) (V (Instr.loadAt 3 (.pointer (some (t146.add 8))))) w fun t148 w =>
                    NilP r.p fun t150 =>
                    RunU Try.prog (U (Instr.storeAt 3 (.pointer (some (t150.add 8))) (.int .i64 (IntKind.i64.wrap (t148 + 1))))) w fun w =>
                    k8 (t144, ()) w))
                ((⟨none, 0, 0⟩ : Sl), ()) w := by
  have h : St w0 w (rmE 115 r :: rcd r.toRl :: [c3] :: D :: [.row 45 1 ⟨none, 0, 0⟩ (lsl [])] :: ([] : List Bs).map brow :: F) := by
    have h1 := h.nilrow 45 1
    have h2 := h1.ord 5 [1, 2, 3, 4, 0]
    dsimp only [pick, nthO, dropO] at h2
    exact h2.perm (by simp [lsl])
  have e0 : ({ r with want := r.want + ((0 : Nat) : Int) } : Rm) = r := by simp
  rw [← e0] at h
  refine LoopX.mk (fun st w' => ∃ (o : Sl) (u : List Bs), st = (o, ()) ∧ o.len = u.length ∧ r.want + u.length ≤ 1099511627777 ∧ u.length ≤ 1099511627777 ∧ (∀ (i : Nat) (hi : i < u.length), ∃ p, findC r.came (r.want + i) = some p ∧ p.2.2 = u[i].2) ∧
    St w0 w' (rmE 115 { r with want := r.want + u.length } :: rcd r.toRl :: [c3] :: D :: [.row 45 1 o (lsl u)] :: u.map brow :: F)) (fun st => 1099511627778 - st.1.len) ⟨_, [], rfl, rfl, by simpa using hwant.2, by simp, (fun i hi => by cases hi), h⟩ ?_
  clear h
  rintro _ w1 ⟨o, u, rfl, hol, hub, hub2, hkeys, h⟩ k hk
  dsimp only at hk ⊢
  refine NilP.mk ?_
  refine h.loadB 0 0 ⟨_, rfl, rfl⟩ rfl (kd := .int .i64) (x := r.want + u.length) rfl ?_
  refine (rfind_st (r := { r with want := r.want + u.length }) h hw (r.want + u.length)).mono ?_
  rintro v w2 ⟨rfl, h⟩
  have hcame : ({ r with want := r.want + u.length } : Rm).came = r.came := rfl
  rw [hcame]
  cases hf : findC r.came (r.want + u.length) with
  | none =>
    rw [SplitB_iff]
    refine ⟨fun _ => ?_, fun hf2 => (by cases hf2)⟩
    exact hQ o u _ hkeys hf hol hub h
  | some p =>
    have hpm : p ∈ r.came := List.mem_of_find?_eq_some hf
    have hpk : p.1 = r.want + u.length := by
      have := List.find?_some hf
      simpa using this
    have hpl := hcl p hpm
    rw [SplitB_iff]
    refine ⟨fun hf2 => (by cases hf2), fun _ => ?_⟩
    refine (copied_st h (p := p.2.1) (l := p.2.2) (sup (rcd_sees hpm)) (by omega)).mono ?_
    rintro s w3 ⟨hs, h⟩
    refine h.newS 1 (bs51 _ _ _ _) rfl rfl rfl ?_
    intro x w4 hx1 hx2 _ h
    refine h.app 6 0 ⟨_, rfl, rfl⟩ (h.rd (k := 0) (i := 0) ⟨_, rfl, rfl⟩) (fun v hv => by simp at hv; subst hv; rfl) (by simp only [maxLen]; omega) (by omega) ?_
    intro o' w5 hl5 h
    have h := h.drop 0
    dsimp only [delO, updG, setO] at h
    have h := h.ord 7 [1, 2, 3, 4, 5, 0, 6]
    dsimp only [pick, nthO, dropO] at h
    have h := snocAt [_, _, _, _, _] h
    refine NilP.mk ?_
    refine h.loadB 0 0 ⟨_, rfl, rfl⟩ rfl (kd := .int .i64) (x := r.want + u.length) rfl ?_
    refine NilP.mk ?_
    rw [wr (by omega)]
    refine h.storB 0 0 ⟨_, rfl, rfl⟩ rfl rfl rfl ?_
    intro w6 h
    dsimp only [updG, setO] at h
    refine hk _ _ ⟨o', u ++ [(s, p.2.2)], rfl, by simp; omega, by simp; omega, by simp; omega, fun i hi => ?_, ?_⟩ (by dsimp only; omega)
    · by_cases h1 : i < u.length
      · obtain ⟨q, hq1, hq2⟩ := hkeys i h1
        exact ⟨q, hq1, by rw [List.getElem_append_left h1]; exact hq2⟩
      · have : i = u.length := by simp at hi; omega
        subst this
        refine ⟨p, hf, ?_⟩
        rw [List.getElem_append_right (Nat.le_refl _)]; simp
    · have e1 : lsl (u ++ [(s, p.2.2)]) = lsl u ++ [.slice s.a s.len s.cap] := lsl_snoc _ _
      have e2 : (u ++ [(s, p.2.2)]).map brow = u.map brow ++ [brow (s, p.2.2)] := by simp
      have e3 : r.want + ((u ++ [(s, p.2.2)]).length : Nat) = r.want + u.length + 1 := by simp; omega
      rw [e1, e2, e3]
      exact h
end Go.Proofs.Ytodgnpmljdopiaa

/- The document's link in memory: Take. -/
namespace Go.Proofs.Ytodgnpmljdopiaa
open Go Go.Fw Go.RowKit
set_option linter.unusedVariables false
set_option linter.unusedSimpArgs false
set_option maxRecDepth 4000
set_option maxHeartbeats 4000000
variable {w0 w : World} {F G : Grps}

def Rl.news (r : Rl) (g : Sg) : Prop := g.seq ≠ 0 ∧ findC r.came g.seq = none ∧ r.want ≤ g.seq ∧ g.seq < r.want + r.win
/-- What the document's Take makes of what came, and what goes up. -/
structure RTakeR (r : Rl) (g : Sg) (c : List Pc) (u : List Bs) : Prop where
  yes : r.news g → ∃ s, c = r.came ++ [(g.seq, s, g.d.2)] ∧ (∀ (i : Nat) (hi : i < u.length), ∃ p, findC c (r.want + i) = some p ∧ p.2.2 = u[i].2) ∧ findC c (r.want + u.length) = none
  no : ¬ r.news g → c = r.came ∧ u = []
def Rm.took (r : Rm) (g : Sg) (cs : Sl) (c : List Pc) (k : Nat) : Rm := { r with done := max r.done g.ack, ow := if g.seq = 0 then r.ow else true, came := c, cs := cs, want := r.want + k }
def RTakeS (w0 : World) (F : Grps) (r : Rm) (g : Sg) (v : Sl × Int × Unit) (w' : World) : Prop :=
  (r.fits g = false ∧ v = (⟨none, 0, 0⟩, 31, ()) ∧ St w0 w' (rmE 115 r :: rcd r.toRl :: F)) ∨
  (r.fits g = true ∧ v.2.1 = 0 ∧ ∃ cs c u, RTakeR r.toRl g c u ∧ v.1.len = u.length ∧ St w0 w' (rmE 115 (r.took g cs c u.length) :: rcd (r.took g cs c u.length).toRl :: [.row 45 1 v.1 (lsl u)] :: u.map brow :: F))
theorem rmax_i (w : World) (a b : Int) : (Builtin.max_ #[3, 3] 3 #[.int .i64 a, .int .i64 b]).run Try.prog w = .ok (.int .i64 (max a b)) w := by
  rw [run_max_int2]
  congr 2
  omega
theorem bs93 (w : World) (x : Int) (a : Option Addr) (l c : Nat) : (Instr.buildSlice 93 1 #[(0, .agg #[.int .i64 x, .slice a l c])]).run Try.prog w = .ok (.slice (some ⟨w.heap.size, 0, none⟩) 1 1) (w.alloc (.cells ⟨[.int .i64 x, .slice a l c]⟩ 115)) := by kernel_rfl
def Rl.bad1 (r : Rl) (g : Sg) : Prop := g.fr ≠ r.peer ∨ g.to ≠ r.me ∨ g.seq < 0 ∨ g.seq > 1099511627776 ∨ g.ack < 0 ∨ g.ack > r.gone
def bad2 (g : Sg) : Prop := (g.seq = 0 ∧ g.d.2.length > 0) ∨ g.d.2.length > 4000
instance (r : Rl) (g : Sg) : Decidable (r.bad1 g) := by unfold Rl.bad1; exact inferInstance
instance (g : Sg) : Decidable (bad2 g) := by unfold bad2; exact inferInstance
theorem rfits_iff {r : Rl} {g : Sg} : r.fits g = true ↔ ¬ r.bad1 g ∧ ¬ bad2 g := by
  simp only [Rl.fits, Rl.bad1, bad2, Bool.and_eq_true, decide_eq_true_eq, Bool.or_eq_true, beq_iff_eq, not_or, not_and]
  constructor
  · rintro ⟨h1, h2, h3, h4, h5, h6, h7, h8⟩
    refine ⟨⟨?_, ?_, ?_, ?_, ?_, ?_⟩, fun h => ?_, ?_⟩ <;> omega
  · rintro ⟨⟨h1, h2, h3, h4, h5, h6⟩, h7, h8⟩
    refine ⟨?_, ?_, ?_, ?_, ?_, ?_, ?_, ?_⟩ <;> omega
instance (r : Rl) (g : Sg) : Decidable (r.news g) := by unfold Rl.news; exact inferInstance
theorem rtake_st {r : Rm} (h : St w0 w (rmE 115 r :: rcd r.toRl :: F)) (hw : r.wf) (hcs : ∀ p ∈ r.came, p.1 ≤ 1099511627776) (hfew : r.came.length < 1048576) {g : Sg} (hp : SeesG w0 F g.d.1 1 (bys g.d.2)) :
    CallK Try.prog (.tup (.cons .sl (.cons (.int .i64) .nilT))) 54 #[.pointer r.p, .agg #[.int .i64 g.fr, .int .i64 g.to, .int .i64 g.seq, .int .i64 g.ack, .slice g.d.1.a g.d.1.len g.d.1.cap]] w (RTakeS w0 F r g) := by
  have hgl : g.d.1.len = g.d.2.length := (hp _ ((h.drop 0).drop 0)).bys_len
  have hgli : (g.d.1.len : Int) = (g.d.2.length : Int) := by omega
  have hwant := hw.want; have hwin := hw.win
  refine T54.calls (p1 := sgt g) ?_
  unfold T54
  refine h.newB run_boxA rfl ?_
  intro b3 w1 h
  have h := h.ord 3 [1, 2, 0]
  dsimp only [pick, nthO, dropO] at h
  have h : St w0 w1 (rmE 115 r :: rcd r.toRl :: [.cel b3 62 (sgv g)] :: F) := h
  refine JoinX.mk (fun (y : Bool × Unit) w' => y.1 = decide (r.bad1 g) ∧ St w0 w' (rmE 115 r :: rcd r.toRl :: [.cel b3 62 (sgv g)] :: F)) ?_ ?_
  rotate_left
  · intro k hk
    have hk := fun (b : Bool) (hb : b = decide (r.bad1 g)) => hk (b, ()) _ ⟨hb, h.drew⟩
    refine h.drew.readB 2 0 ⟨_, rfl, rfl⟩ rfl (kd := .int .i64) (x := g.fr) rfl ?_
    refine NilP.mk ?_
    refine h.drew.readB 0 0 ⟨_, rfl, rfl⟩ rfl (kd := .int .i64) (x := r.peer) rfl ?_
    rw [SplitB_iff]
    refine ⟨fun c => hk _ ?_, fun c1 => ?_⟩
    · have c : g.fr ≠ r.peer := by simpa using c
      exact (decide_eq_true (.inl c)).symm
    have c1 : g.fr = r.peer := by simpa using c1
    refine h.drew.readB 2 0 ⟨_, rfl, rfl⟩ rfl (kd := .int .i64) (x := g.to) rfl ?_
    refine NilP.mk ?_
    refine h.drew.readB 0 0 ⟨_, rfl, rfl⟩ rfl (kd := .int .i64) (x := r.me) rfl ?_
    rw [SplitB_iff]
    refine ⟨fun c => hk _ ?_, fun c2 => ?_⟩
    · have c : g.to ≠ r.me := by simpa using c
      exact (decide_eq_true (.inr (.inl c))).symm
    have c2 : g.to = r.me := by simpa using c2
    refine h.drew.readB 2 0 ⟨_, rfl, rfl⟩ rfl (kd := .int .i64) (x := g.seq) rfl ?_
    rw [SplitB_iff]
    refine ⟨fun c => hk _ ?_, fun c3 => ?_⟩
    · have c : g.seq < 0 := of_decide_eq_true c
      exact (decide_eq_true (.inr (.inr (.inl c)))).symm
    have c3 : ¬ g.seq < 0 := of_decide_eq_false c3
    refine h.drew.readB 2 0 ⟨_, rfl, rfl⟩ rfl (kd := .int .i64) (x := g.seq) rfl ?_
    rw [SplitB_iff]
    refine ⟨fun c => hk _ ?_, fun c4 => ?_⟩
    · have c : g.seq > 1099511627776 := of_decide_eq_true c
      exact (decide_eq_true (.inr (.inr (.inr (.inl c))))).symm
    have c4 : ¬ g.seq > 1099511627776 := of_decide_eq_false c4
    refine h.drew.readB 2 0 ⟨_, rfl, rfl⟩ rfl (kd := .int .i64) (x := g.ack) rfl ?_
    rw [SplitB_iff]
    refine ⟨fun c => hk _ ?_, fun c5 => ?_⟩
    · have c : g.ack < 0 := of_decide_eq_true c
      exact (decide_eq_true (.inr (.inr (.inr (.inr (.inl c)))))).symm
    have c5 : ¬ g.ack < 0 := of_decide_eq_false c5
    refine h.drew.readB 2 0 ⟨_, rfl, rfl⟩ rfl (kd := .int .i64) (x := g.ack) rfl ?_
    refine NilP.mk ?_
    refine h.drew.readB 0 0 ⟨_, rfl, rfl⟩ rfl (kd := .int .i64) (x := r.gone) rfl ?_
    refine hk _ ?_
    refine decide_eq_decide.2 ⟨fun c => .inr (.inr (.inr (.inr (.inr c)))), ?_⟩
    rintro (c | c | c | c | c | c)
    · exact absurd c1 c
    · exact absurd c2 c
    · omega
    · omega
    · omega
    · exact c
  clear h
  rintro ⟨y, ⟨⟩⟩ w2 ⟨hy, h⟩
  dsimp only at hy
  subst hy
  rw [SplitB_iff]
  refine ⟨fun hb => ?_, fun hb1 => ?_⟩
  · have hb : r.bad1 g := of_decide_eq_true hb
    refine .inl ⟨?_, rfl, h.drop 2⟩
    cases hf : r.fits g with
    | false => rfl
    | true => exact absurd hb (rfits_iff.1 hf).1
  have hb1 : ¬ r.bad1 g := of_decide_eq_false hb1
  refine JoinX.mk (fun (y : Bool × Unit) w' => y.1 = decide (bad2 g) ∧ St w0 w' (rmE 115 r :: rcd r.toRl :: [.cel b3 62 (sgv g)] :: F)) ?_ ?_
  rotate_left
  · intro k hk
    have hk := fun (b : Bool) (hb : b = decide (bad2 g)) => hk (b, ()) _ ⟨hb, h⟩
    refine h.loadB 2 0 ⟨_, rfl, rfl⟩ rfl (kd := .int .i64) (x := g.seq) rfl ?_
    rw [SplitB_iff]
    refine ⟨fun c => ?_, fun c => ?_⟩
    · have c : g.seq = 0 := by simpa using c
      refine h.loadB 2 0 ⟨_, rfl, rfl⟩ rfl (kd := .sl) (x := g.d.1) rfl ?_
      rw [hgli, SplitB_iff]
      refine ⟨fun c2 => hk _ ?_, fun c2 => ?_⟩
      · have c2 : (g.d.2.length : Int) > 0 := of_decide_eq_true c2
        exact (decide_eq_true (.inl ⟨c, by omega⟩)).symm
      · have c2 : ¬ (g.d.2.length : Int) > 0 := of_decide_eq_false c2
        refine h.loadB 2 0 ⟨_, rfl, rfl⟩ rfl (kd := .sl) (x := g.d.1) rfl ?_
        rw [hgli]
        refine hk _ ?_
        exact decide_eq_decide.2 ⟨fun h => .inr (by omega), fun h => by unfold bad2 at h; omega⟩
    · have c : g.seq ≠ 0 := by intro h0; rw [h0] at c; simp at c
      refine h.loadB 2 0 ⟨_, rfl, rfl⟩ rfl (kd := .sl) (x := g.d.1) rfl ?_
      rw [hgli]
      refine hk _ ?_
      exact decide_eq_decide.2 ⟨fun h => .inr (by omega), fun h => by unfold bad2 at h; omega⟩
  clear h
  rintro ⟨y, ⟨⟩⟩ w3 ⟨hy, h⟩
  dsimp only at hy
  subst hy
  rw [SplitB_iff]
  refine ⟨fun hb => ?_, fun hb2 => ?_⟩
  · have hb : bad2 g := of_decide_eq_true hb
    refine .inl ⟨?_, rfl, h.drop 2⟩
    cases hf : r.fits g with
    | false => rfl
    | true => exact absurd hb (rfits_iff.1 hf).2
  have hb2 : ¬ bad2 g := of_decide_eq_false hb2
  have hfit : r.fits g = true := rfits_iff.2 ⟨hb1, hb2⟩
  have hseq : 0 ≤ g.seq ∧ g.seq ≤ 1099511627776 ∧ g.d.2.length ≤ 4000 := by
    unfold Rl.bad1 at hb1; unfold bad2 at hb2
    omega
  refine NilP.mk ?_
  refine h.drew.readB 0 0 ⟨_, rfl, rfl⟩ rfl (kd := .int .i64) (x := r.done) rfl ?_
  refine h.drew.readB 2 0 ⟨_, rfl, rfl⟩ rfl (kd := .int .i64) (x := g.ack) rfl ?_
  refine ReadN.of (kd := .int .i64) (rmax_i _ _ _) ?_
  refine NilP.mk ?_
  refine h.drew.storB 0 0 ⟨_, rfl, rfl⟩ rfl rfl rfl ?_
  intro w4 h
  dsimp only [updG, setO] at h
  refine h.loadB 2 0 ⟨_, rfl, rfl⟩ rfl (kd := .int .i64) (x := g.seq) rfl ?_
  let r1 : Rm := { r with done := max r.done g.ack }
  have h : St w0 w4 (rmE 115 r1 :: rcd r1.toRl :: [.cel b3 62 (sgv g)] :: F) := h
  have hnil : ∀ {r2 : Rm} {w'}, ¬ r.news g → r2 = r.took g r.cs r.came 0 → St w0 w' (rmE 115 r2 :: rcd r2.toRl :: [.cel b3 62 (sgv g)] :: F) → RTakeS w0 F r g (⟨none, 0, 0⟩, 0, ()) w' := by
    intro r2 w' hn hr2 h
    refine .inr ⟨hfit, rfl, r.cs, r.came, [], ⟨fun hn' => absurd hn' hn, fun _ => ⟨rfl, rfl⟩⟩, rfl, ?_⟩
    have e3 : r.took g r.cs r.came ([] : List Bs).length = r2 := hr2.symm
    rw [e3]
    have h := (h.drop 2).nilrow 45 1
    have h := h.ord 3 [1, 2, 0]
    dsimp only [pick, nthO, dropO, delO] at h
    exact h.perm (by simp [lsl])
  rw [SplitB_iff]
  refine ⟨fun hc => ?_, fun hc => ?_⟩
  · have hc : g.seq = 0 := by simpa using hc
    refine hnil (r2 := r1) (fun hn => hn.1 hc) ?_ h
    simp [Rm.took, hc, r1]
  have hc : g.seq ≠ 0 := by intro h0; rw [h0] at hc; simp at hc
  refine NilP.mk ?_
  refine h.storB 0 0 ⟨_, rfl, rfl⟩ rfl rfl rfl ?_
  intro w5 h
  dsimp only [updG, setO] at h
  let r2 : Rm := { r1 with ow := true }
  have h : St w0 w5 (rmE 115 r2 :: rcd r2.toRl :: [.cel b3 62 (sgv g)] :: F) := h
  have hr2 : r2 = r.took g r.cs r.came 0 := by simp [Rm.took, hc, r2, r1]
  refine h.loadB 2 0 ⟨_, rfl, rfl⟩ rfl (kd := .int .i64) (x := g.seq) rfl ?_
  refine (rfind_st (r := r2) h (by show r.came.length ≤ _; omega) g.seq).mono ?_
  rintro v w6 ⟨rfl, h⟩
  have hthere : (fres (findC r2.came g.seq)).2.1 = true ↔ findC r.came g.seq ≠ none := by
    show (fres (findC r.came g.seq)).2.1 = true ↔ _
    cases findC r.came g.seq <;> simp [fres]
  refine JoinX.mk (fun (y : Bool × Unit) w' => y.1 = !decide (r.news g) ∧ St w0 w' (rmE 115 r2 :: rcd r2.toRl :: [.cel b3 62 (sgv g)] :: F)) ?_ ?_
  rotate_left
  · intro k hk
    have hk := fun (b : Bool) (hb : b = !decide (r.news g)) => hk (b, ()) _ ⟨hb, h.drew⟩
    refine h.drew.readB 2 0 ⟨_, rfl, rfl⟩ rfl (kd := .int .i64) (x := g.seq) rfl ?_
    refine NilP.mk ?_
    refine h.drew.readB 0 0 ⟨_, rfl, rfl⟩ rfl (kd := .int .i64) (x := r.want) rfl ?_
    rw [SplitB_iff]
    refine ⟨fun hlt => hk _ ?_, fun hlt => ?_⟩
    · have hlt : g.seq < r.want := of_decide_eq_true hlt
      rw [decide_eq_false (fun hn : r.news g => by have := hn.2.2.1; omega)]; rfl
    have hlt : ¬ g.seq < r.want := of_decide_eq_false hlt
    rw [SplitB_iff]
    refine ⟨fun ht => hk _ ?_, fun ht => ?_⟩
    · rw [decide_eq_false (fun hn : r.news g => (hthere.1 ht) hn.2.1)]; rfl
    have ht : findC r.came g.seq = none := by
      cases hf : findC r.came g.seq with
      | none => rfl
      | some p =>
        exfalso
        have := hthere.2 (by rw [hf]; simp)
        rw [this] at ht; cases ht
    refine h.drew.readB 2 0 ⟨_, rfl, rfl⟩ rfl (kd := .int .i64) (x := g.seq) rfl ?_
    refine NilP.mk ?_
    refine h.drew.readB 0 0 ⟨_, rfl, rfl⟩ rfl (kd := .int .i64) (x := r.want) rfl ?_
    refine NilP.mk ?_
    refine h.drew.readB 0 0 ⟨_, rfl, rfl⟩ rfl (kd := .int .i64) (x := r.win) rfl ?_
    rw [wr (by omega)]
    refine hk _ ?_
    by_cases hge : g.seq ≥ r.want + r.win
    · rw [decide_eq_true hge, decide_eq_false (fun hn : r.news g => by have := hn.2.2.2; omega)]; rfl
    · rw [decide_eq_false hge, decide_eq_true (show r.news g from ⟨hc, ht, by omega, by omega⟩)]; rfl
  clear h
  rintro ⟨y, ⟨⟩⟩ w7 ⟨hy, h⟩
  dsimp only at hy
  subst hy
  rw [SplitB_iff]
  refine ⟨fun hn => ?_, fun hn => ?_⟩
  · have hn : ¬ r.news g := by simpa using hn
    exact hnil hn hr2 h
  have hn : r.news g := by simpa using hn
  refine NilP.mk ?_
  refine h.drew.readB 0 0 ⟨_, rfl, rfl⟩ rfl (kd := .sl) (x := r.cs) rfl ?_
  refine h.drew.readB 2 0 ⟨_, rfl, rfl⟩ rfl (kd := .int .i64) (x := g.seq) rfl ?_
  refine h.drew.readB 2 0 ⟨_, rfl, rfl⟩ rfl (kd := .sl) (x := g.d.1) rfl ?_
  refine (copied_st h.drew (p := g.d.1) (l := g.d.2) (sup (sup (sup hp))) (by omega)).mono ?_
  rintro s w8 ⟨hs, h⟩
  refine ⟨h.stillB 3 0 ⟨_, rfl, rfl⟩ rfl rfl, ?_⟩
  refine ⟨h.stillB 1 0 ⟨_, rfl, rfl⟩ rfl rfl, ?_⟩
  refine h.newS 2 (bs93 _ _ _ _ _) rfl rfl rfl ?_
  intro x w9 hx1 hx2 _ h
  refine ⟨h.stillB 2 0 ⟨_, rfl, rfl⟩ rfl rfl, ?_⟩
  have hcl : r.cs.len = r.came.length := by
    have := (h.rd (k := 2) (i := 2) (E := 115) (sz := 2) (s := r.cs) (vs := r.came.flatMap pcv) ⟨_, rfl, rfl⟩).1
    rw [flat_len pcv_len] at this; omega
  refine h.app 2 2 (s := r.cs) ⟨_, rfl, rfl⟩ (h.rd (k := 0) (i := 0) ⟨_, rfl, rfl⟩) (fun v hv => by simp at hv; rcases hv with rfl | rfl <;> rfl) (by simp only [maxLen]; omega) (by omega) ?_
  intro cs w10 hl10 h
  have h := h.drop 0
  dsimp only [delO, updG, setO] at h
  refine NilP.mk ?_
  refine h.storB 1 0 ⟨_, rfl, rfl⟩ rfl rfl rfl ?_
  intro w11 h
  dsimp only [updG, setO] at h
  have h := snoc_grp h
  let c : List Pc := r.came ++ [(g.seq, s, g.d.2)]
  let r3 : Rm := { r2 with came := c, cs := cs }
  have e4 : rcd r3.toRl = rcd r2.toRl ++ [brow (s, g.d.2)] := by simp [rcd, r3, r2, r1, c]
  have e5 : rmE 115 r3 = [.cel r.rb 95 (rmC { r2 with cs := cs }), .row 45 1 r.ss (lsl r.sent), .row 115 2 cs (r.came.flatMap pcv ++ [.int .i64 g.seq, .slice s.a s.len s.cap])] := by
    have : c.flatMap pcv = r.came.flatMap pcv ++ [.int .i64 g.seq, .slice s.a s.len s.cap] := by simp [c, pcv]
    rw [← this]; rfl
  have h : St w0 w11 (rmE 115 r3 :: rcd r3.toRl :: [.cel b3 62 (sgv g)] :: [] :: F) := by
    have h0 : St w0 w11 (rmE 115 r3 :: rcd r3.toRl :: [.cel b3 62 (sgv g)] :: F) := by rw [e4, e5]; exact h
    exact h0.perm (by simp)
  refine rrise (r := r3) h (by show c.length ≤ _; simp [c]; omega) ?_ hwant ?_
  · intro p hpm
    rcases List.mem_append.1 hpm with h1 | h1
    · exact ⟨hw.clens p h1, hcs p h1⟩
    · simp at h1; subst h1
      exact ⟨hseq.2.2, hseq.2.1⟩
  · intro o u w' hk2 hl2 hol hub h
    refine .inr ⟨hfit, rfl, cs, c, u, ⟨fun _ => ⟨s, rfl, hk2, hl2⟩, fun hn' => absurd hn hn'⟩, hol, ?_⟩
    have e6 : r.took g cs c u.length = { r3 with want := r3.want + u.length } := by simp [Rm.took, hc, r1, r2, r3]
    rw [e6]
    exact (h.drop 2).drop 2
end Go.Proofs.Ytodgnpmljdopiaa

/- The plain law: the program's link and the document's answer alike. -/
namespace Go.Proofs.Ytodgnpmljdopiaa
open Go Go.Fw Go.RowKit
set_option linter.unusedVariables false
set_option linter.unusedSimpArgs false
set_option maxRecDepth 4000
set_option maxHeartbeats 4000000

structure LRel (e : Lk) (r : Rl) : Prop where
  me : e.me = r.me
  peer : e.peer = r.peer
  win : (e.win : Int) = r.win
  res : e.res = r.res
  want : e.want = r.want
  ow : e.ow = r.ow
  du : e.du = r.du
  ag : e.ag = r.ag
  last : e.last = r.sent.length
  gone : e.gone = r.gone
  done : r.done = e.last - (e.un.length + e.bx.length : Nat)
  dat : ∀ (p : Pc), p ∈ e.un ++ e.bx → ∃ i : Nat, p.1 = i + 1 ∧ (r.sent[i]?).map (·.2) = some p.2.2
  ea : ∀ x ∈ e.ea, ∃ p, findC r.came x.1.1 = some p ∧ p.2.2 = x.1.2.2
  came : ∀ n, e.want ≤ n → findC r.came n ≠ none → ∃ x ∈ e.ea, x.1.1 = n
section
variable {e : Lk} {r : Rl}
theorem LRel.room (h : LRel e r) : e.room = r.room := by
  have h1 := h.done; have h2 := h.last; have h3 := h.win
  rw [Lk.room, Rl.room]
  omega
theorem LRel.refuse (h : LRel e r) (l : List UInt8) : e.refuse l = r.refuse l := by
  rw [Lk.refuse, Rl.refuse, h.room, h.last]
theorem LRel.gd (h : LRel e r) (hw : e.wf) : (r.gone = r.done ↔ e.un.length = 0) := by
  have h1 := h.done; have h2 := h.gone; have h3 := hw.gone
  omega
theorem LRel.tick (h : LRel e r) (hw : e.wf) : LRel e.ticked r.ticked := by
  have hgd := h.gd hw
  by_cases h0 : e.un.length = 0
  · have e1 : e.ticked = e := by simp only [Lk.ticked, if_pos h0]
    have e2 : r.ticked = r := if_pos (hgd.2 h0)
    rw [e1, e2]; exact h
  · have e2 : r.ticked = { r with ag := if r.ag + 1 ≥ r.res then 0 else r.ag + 1, du := if r.ag + 1 ≥ r.res then true else r.du } := if_neg (fun hh => h0 (hgd.1 hh))
    have e1 : e.ticked = { e with ag := if e.ag + 1 ≥ e.res then 0 else e.ag + 1, du := if e.ag + 1 ≥ e.res then true else e.du } := by simp only [Lk.ticked, if_neg h0]
    rw [e1, e2]
    refine ⟨h.me, h.peer, h.win, h.res, h.want, h.ow, ?_, ?_, h.last, h.gone, h.done, h.dat, h.ea, h.came⟩
    · show (if e.ag + 1 ≥ e.res then true else e.du) = _
      rw [h.ag, h.res, h.du]
    · show (if e.ag + 1 ≥ e.res then 0 else e.ag + 1) = _
      rw [h.ag, h.res]
theorem LRel.send {e : Lm} (h : LRel e.toLk r) (s s2 : Sl) (l : List UInt8) : LRel (e.sent s l).toLk { r with sent := r.sent ++ [(s2, l)] } := by
  have hl := h.last
  refine ⟨h.me, h.peer, h.win, h.res, h.want, h.ow, h.du, h.ag, ?_, h.gone, ?_, ?_, h.ea, h.came⟩
  · show e.last + 1 = _
    simp; omega
  · have := h.done
    show r.done = e.last + 1 - (e.un.length + (e.bx ++ [(e.last + 1, s, l)]).length : Nat)
    simp; omega
  · intro p hp
    have hp : p ∈ e.un ++ (e.bx ++ [(e.last + 1, s, l)]) := hp
    rw [← List.append_assoc] at hp
    rcases List.mem_append.1 hp with hp | hp
    · obtain ⟨i, h1, h2⟩ := h.dat p hp
      refine ⟨i, h1, ?_⟩
      have hi : i < r.sent.length := by
        rcases Nat.lt_or_ge i r.sent.length with h3 | h3
        · exact h3
        · rw [List.getElem?_eq_none h3] at h2; cases h2
      rw [List.getElem?_append_left hi]; exact h2
    · simp at hp; subst hp
      exact ⟨r.sent.length, by dsimp only; omega, by simp⟩
theorem LRel.data (h : LRel e r) {p : Pc} (hp : p ∈ e.un ++ e.bx) : r.data p.1 = p.2.2 := by
  obtain ⟨i, h1, h2⟩ := h.dat p hp
  rw [Rl.data, if_pos (by omega), show (p.1 - 1).toNat = i by omega, h2]; rfl
/-- The numbers of these parcels, in turn. -/
theorem LRel.seqs (h : LRel e r) (hw : e.wf) : (e.un ++ e.bx).map (·.1) = nums (r.done + 1) (e.un.length + e.bx.length) := by
  refine List.ext_getElem? fun i => ?_
  have hd := h.done
  by_cases hi : i < (e.un ++ e.bx).length
  · have := hw.seq i hi
    rw [List.getElem?_map, List.getElem?_eq_getElem hi]
    rw [List.length_append] at hi
    rw [nums, List.getElem?_map, List.getElem?_range hi]
    simp only [Option.map_some]
    rw [this]; congr 1; omega
  · rw [List.length_append] at hi
    rw [List.getElem?_eq_none (by simp; omega), List.getElem?_eq_none (by rw [nums_len]; omega)]
theorem LRel.tell (h : LRel e r) {ps : List Pc} {ns : List Int} (hp : ∀ p ∈ ps, p ∈ e.un ++ e.bx) (hn : ps.map (·.1) = ns) : e.tells ps = r.tells ns := by
  subst hn
  rw [Lk.tells, Rl.tells, List.map_map]
  refine List.map_congr_left fun p hpm => ?_
  simp only [Function.comp, h.me, h.peer, h.want, h.data (hp p hpm)]
theorem LRel.under (h : LRel e r) (hw : e.wf) : e.tells e.un = r.tells (nums (r.done + 1) (r.gone - r.done).toNat) := by
  have hs := h.seqs hw
  refine h.tell (fun p hp => List.mem_append_left _ hp) ?_
  have h1 := congrArg (List.take e.un.length) hs
  rw [List.map_append, List.take_append_of_le_length (by simp), List.take_of_length_le (by simp)] at h1
  rw [h1]
  have hd := h.done; have hg := h.gone; have h3 := hw.gone
  have : (r.gone - r.done).toNat = e.un.length := by omega
  rw [this, nums, nums, ← List.map_take, List.take_range, Nat.min_eq_left (by omega)]
theorem LRel.fits (h : LRel e r) (g : Sg) : e.fits g = r.fits g := by
  rw [Lk.fits, Rl.fits, h.peer, h.me, h.gone]
end
end Go.Proofs.Ytodgnpmljdopiaa

/- The plain law: Out and Take, alike. -/
namespace Go.Proofs.Ytodgnpmljdopiaa
open Go Go.Fw Go.RowKit
set_option linter.unusedVariables false
set_option linter.unusedSimpArgs false
set_option maxRecDepth 4000
set_option maxHeartbeats 4000000

section
variable {e : Lk} {r : Rl}
theorem LRel.outs (h : LRel e r) (hw : e.wf) : e.tells e.outs = r.tells r.outs := by
  have hs := h.seqs hw
  have hd := h.done; have hl := h.last; have hg := h.gone; have hwg := hw.gone
  have hk : ((r.sent.length : Int) - r.done).toNat = e.un.length + e.bx.length := by omega
  have hack : e.tells (if e.ow = true then [ackP] else []) = r.tells (if r.ow = true then [0] else []) := by
    rw [h.ow]
    split
    · simp [Lk.tells, Rl.tells, ackP, h.me, h.peer, h.want, Rl.data]
    · rfl
  have hrest : e.tells ((if e.du = true then e.un else []) ++ e.bx) = r.tells ((nums (r.done + 1) ((r.sent.length : Int) - r.done).toNat).filter r.goes) := by
    refine h.tell (fun p hp => ?_) ?_
    · rcases List.mem_append.1 hp with hp | hp
      · split at hp
        · exact List.mem_append_left _ hp
        · cases hp
      · exact List.mem_append_right _ hp
    · rw [hk, ← hs, h.du]
      have hseq : ∀ (i : Nat) (hi : i < (e.un ++ e.bx).length), ((e.un ++ e.bx)[i]).1 = r.done + 1 + i := by
        intro i hi
        rw [hw.seq i hi]; omega
      have hun : ∀ n ∈ e.un.map (·.1), n ≤ r.gone := by
        intro n hn
        obtain ⟨p, hp, rfl⟩ := List.mem_map.1 hn
        obtain ⟨i, hi, rfl⟩ := List.mem_iff_getElem.1 hp
        have := hseq i (by rw [List.length_append]; omega)
        rw [List.getElem_append_left hi] at this
        omega
      have hbx : ∀ n ∈ e.bx.map (·.1), n > r.gone := by
        intro n hn
        obtain ⟨p, hp, rfl⟩ := List.mem_map.1 hn
        obtain ⟨i, hi, rfl⟩ := List.mem_iff_getElem.1 hp
        have := hseq (e.un.length + i) (by rw [List.length_append]; omega)
        rw [List.getElem_append_right (by omega)] at this
        simp only [Nat.add_sub_cancel_left] at this
        omega
      rw [List.map_append, List.map_append, List.filter_append]
      have hb : (e.bx.map (·.1)).filter r.goes = e.bx.map (·.1) := List.filter_eq_self.2 fun n hn => by
        rw [Rl.goes, decide_eq_true (hbx n hn), Bool.or_true]
      rw [hb]
      congr 1
      cases hdu : r.du with
      | true =>
        symm
        exact List.filter_eq_self.2 fun n hn => by rw [Rl.goes, hdu]; rfl
      | false =>
        symm
        refine List.filter_eq_nil_iff.2 fun n hn => ?_
        have := hun n hn
        rw [Rl.goes, hdu, decide_eq_false (by omega)]
        decide
  have e1 : e.tells e.outs = e.tells (if e.ow = true then [ackP] else []) ++ e.tells ((if e.du = true then e.un else []) ++ e.bx) := by
    rw [Lk.outs, List.append_assoc, Lk.tells, List.map_append]; rfl
  have e2 : r.tells r.outs = r.tells (if r.ow = true then [0] else []) ++ r.tells ((nums (r.done + 1) ((r.sent.length : Int) - r.done).toNat).filter r.goes) := by
    rw [Rl.outs, Rl.tells, List.map_append]; rfl
  rw [e1, e2, hack, hrest]
theorem LRel.outed {e : Lm} (h : LRel e.toLk r) (hw : e.wf) (us : Sl) : LRel (e.outed us).toLk r.outed := by
  have hd := h.done; have hl := h.last; have hg := h.gone; have hwg := hw.gone
  refine ⟨h.me, h.peer, h.win, h.res, h.want, rfl, rfl, ?_, h.last, h.last, ?_, ?_, h.ea, h.came⟩
  · show (if e.un.length = 0 ∧ 0 < e.bx.length then 0 else e.ag) = (if r.gone = r.done ∧ (r.sent.length : Int) > r.gone then 0 else r.ag)
    by_cases hc : e.un.length = 0 ∧ 0 < e.bx.length
    · rw [if_pos hc, if_pos (by omega)]
    · rw [if_neg hc, if_neg (by omega), h.ag]
  · show r.done = e.last - ((e.un ++ e.bx).length + ([] : List Pc).length : Nat)
    rw [List.length_append]; simpa using hd
  · intro p hp
    have hp : p ∈ (e.un ++ e.bx) ++ [] := hp
    rw [List.append_nil] at hp
    exact h.dat p hp
theorem LRel.acks (h : LRel e r) (hw : e.wf) {a : Int} (h0 : 0 ≤ a) (ha : a ≤ e.gone) : max r.done a = r.done + ackd e.un a := by
  have hd := h.done; have hg := h.gone; have hwg := hw.gone; have hlow := hw.low
  have hseq : ∀ (i : Nat) (hi : i < e.un.length), (e.un[i]).1 = r.done + 1 + i := by
    intro i hi
    have := hw.seq i (by rw [List.length_append]; omega)
    rw [List.getElem_append_left hi] at this
    omega
  have hk : ackd e.un a = (a - r.done).toNat := by
    refine ackd_of (by omega) (fun i hi him => by rw [hseq i hi]; omega) (fun hh => by rw [hseq _ hh]; omega)
  rw [hk]; omega
theorem findC_snoc (l : List Pc) (p : Pc) (n : Int) : findC (l ++ [p]) n = match findC l n with | some q => some q | none => if p.1 = n then some p else none := by
  rw [findC, List.find?_append, findC]
  cases l.find? (fun p => p.1 == n) with
  | some q => rfl
  | none =>
    by_cases h : p.1 = n <;> simp [h]
theorem LRel.news (h : LRel e r) (g : Sg) : e.news g ↔ r.news g := by
  have hw := h.want; have hwin := h.win
  constructor
  · rintro ⟨h1, h2, h3, h4⟩
    refine ⟨h1, ?_, by omega, by omega⟩
    cases hf : findC r.came g.seq with
    | none => rfl
    | some p =>
      obtain ⟨x, hx, hk⟩ := h.came g.seq h3 (by rw [hf]; simp)
      exact absurd hk (h2 x hx)
  · rintro ⟨h1, h2, h3, h4⟩
    refine ⟨h1, fun x hx hk => ?_, by omega, by omega⟩
    obtain ⟨p, hp, _⟩ := h.ea x hx
    rw [hk, h2] at hp; cases hp
theorem LRel.take {e : Lm} {r : Rm} (h : LRel e.toLk r.toRl) (hw : e.wf) {g : Sg} (hf : e.fits g = true) {u l : List Ea} (ht : TakeR e.toLk g u l) {c : List Pc} {u2 : List Bs} (ht2 : RTakeR r.toRl g c u2) (us : Sl) (mc : Nat) (cs : Sl) :
    u.map (·.1.2.2) = u2.map (·.2) ∧ LRel (e.took g us mc u.length l).toLk (r.took g cs c u2.length).toRl := by
  have hfs := fits_seq hf
  have hak := h.acks hw hfs.2.2.1 hfs.2.2.2.1
  have hle := ackd_le e.un g.ack
  have hwant := h.want
  -- what came, in either form
  have hmain : u.map (·.1.2.2) = u2.map (·.2) ∧ (∀ x ∈ l, ∃ p, findC c x.1.1 = some p ∧ p.2.2 = x.1.2.2) ∧ (∀ n, e.want + u.length ≤ n → findC c n ≠ none → ∃ x ∈ l, x.1.1 = n) := by
    by_cases hn : e.news g
    · obtain ⟨s, cc, hp, hk, hl⟩ := ht.yes hn
      obtain ⟨s2, rfl, hk2, hl2⟩ := ht2.yes ((h.news g).1 hn)
      have hno : findC r.came g.seq = none := ((h.news g).1 hn).2.1
      have hall : ∀ x ∈ u ++ l, ∃ p, findC (r.came ++ [(g.seq, s2, g.d.2)]) x.1.1 = some p ∧ p.2.2 = x.1.2.2 := by
        intro x hx
        rcases List.mem_append.1 (hp.mem_iff.2 hx) with h1 | h1
        · obtain ⟨p, h2, h3⟩ := h.ea x h1
          exact ⟨p, by rw [findC_snoc, h2], h3⟩
        · simp at h1; subst h1
          exact ⟨(g.seq, s2, g.d.2), by rw [findC_snoc, hno]; simp, rfl⟩
      have hback : ∀ n, e.want ≤ n → findC (r.came ++ [(g.seq, s2, g.d.2)]) n ≠ none → ∃ x ∈ u ++ l, x.1.1 = n := by
        intro n hn2 hfn
        cases hfo : findC r.came n with
        | some q =>
          obtain ⟨x, hx, hxk⟩ := h.came n hn2 (by rw [hfo]; simp)
          exact ⟨x, hp.mem_iff.1 (List.mem_append_left _ hx), hxk⟩
        | none =>
          rw [findC_snoc, hfo] at hfn
          by_cases hgn : g.seq = n
          · exact ⟨((g.seq, s, g.d.2), cc), hp.mem_iff.1 (by simp), hgn⟩
          · simp [hgn] at hfn
      have hlen : u.length = u2.length := by
        rcases Nat.lt_trichotomy u.length u2.length with h1 | h1 | h1
        · exfalso
          obtain ⟨p, hp1, _⟩ := hk2 u.length h1
          obtain ⟨x, hx, hxk⟩ := hback (e.want + u.length) (by omega) (by rw [hwant, hp1]; simp)
          rcases List.mem_append.1 hx with hx | hx
          · obtain ⟨i, hi, rfl⟩ := List.mem_iff_getElem.1 hx
            have := hk i hi; omega
          · exact hl x hx hxk
        · exact h1
        · exfalso
          have h3 := hk u2.length h1
          obtain ⟨p, hp1, _⟩ := hall _ (List.mem_append_left _ (List.getElem_mem h1))
          rw [h3, hwant, hl2] at hp1; cases hp1
      refine ⟨List.ext_getElem? fun i => ?_, fun x hx => hall x (List.mem_append_right _ hx), fun n hn2 hfn => ?_⟩
      · by_cases hi : i < u.length
        · have hi2 : i < u2.length := by omega
          obtain ⟨p, hp1, hp2⟩ := hk2 i hi2
          obtain ⟨q, hq1, hq2⟩ := hall _ (List.mem_append_left _ (List.getElem_mem hi))
          rw [hk i hi, hwant, hp1] at hq1
          cases hq1
          rw [List.getElem?_map, List.getElem?_map, List.getElem?_eq_getElem hi, List.getElem?_eq_getElem hi2]
          simp only [Option.map_some]
          rw [← hp2, hq2]
        · rw [List.getElem?_eq_none (by simp; omega), List.getElem?_eq_none (by simp; omega)]
      · obtain ⟨x, hx, hxk⟩ := hback n (by omega) hfn
        rcases List.mem_append.1 hx with hx | hx
        · obtain ⟨i, hi, rfl⟩ := List.mem_iff_getElem.1 hx
          have := hk i hi; omega
        · exact ⟨x, hx, hxk⟩
    · obtain ⟨rfl, rfl⟩ := ht.no hn
      obtain ⟨rfl, rfl⟩ := ht2.no (fun hh => hn ((h.news g).2 hh))
      exact ⟨rfl, h.ea, fun n hn2 => h.came n (by simpa using hn2)⟩
  have hul : u.length = u2.length := by have := congrArg List.length hmain.1; simpa using this
  refine ⟨hmain.1, h.me, h.peer, h.win, h.res, ?_, ?_, h.du, h.ag, h.last, h.gone, ?_, ?_, hmain.2.1, fun n hn2 => hmain.2.2 n hn2⟩
  · show e.want + (u.length : Int) = r.want + (u2.length : Int)
    rw [hul, hwant]
  · show (if g.seq = 0 then e.ow else true) = (if g.seq = 0 then r.ow else true)
    rw [h.ow]
  · have hd := h.done
    show max r.done g.ack = e.last - ((e.un.drop (ackd e.un g.ack)).length + e.bx.length : Nat)
    rw [hak, List.length_drop]
    have : r.done = e.last - (e.un.length + e.bx.length : Nat) := hd
    omega
  · intro p hp
    have hp : p ∈ e.un.drop (ackd e.un g.ack) ++ e.bx := hp
    refine h.dat p ?_
    rcases List.mem_append.1 hp with hp | hp
    · exact List.mem_append_left _ (List.mem_of_mem_drop hp)
    · exact List.mem_append_right _ hp
end
end Go.Proofs.Ytodgnpmljdopiaa

namespace Go.Proofs.Ytodgnpmljdopiaa
open Go Go.Fw Go.Proofs
set_option maxRecDepth 100000
set_option linter.unusedVariables false

/-- sluice/sluicelaw3.kept -/
def T38 (p0 : Sl) (p1 : Sl) (w : World) (K : Bool → World → Prop) : Prop :=
  CallK Try.prog .sl 24 #[.slice p1.a p1.len p1.cap] w fun t9 w =>
  CallK Try.prog .bool 25 #[.slice p0.a p0.len p0.cap, .slice t9.a t9.len t9.cap] w fun t10 w =>
  LoopX (α := Int × Unit) (fun s1 w k2 =>
    SplitB (decide (s1.1 < (p0.len : Int)))
      (RunN Try.prog .addr (V (Instr.indexAt 45 (.slice p0.a p0.len p0.cap) (.int .i64 s1.1))) w fun t22 w =>
      RunU Try.prog (U (Instr.storeAt 5 (.pointer (some t22)) (.int .u8 (IntKind.u8.wrap (IntKind.i64.wrap (60 + s1.1)))))) w fun w =>
      k2 (IntKind.i64.wrap (s1.1 + 1), ()) w)
      (K t10 w))
  (0, ()) w
theorem T38.calls {p0 : Sl} {p1 : Sl} {w : World} {K : Bool → World → Prop} (h : T38 p0 p1 w K) : CallK Try.prog .bool 38 #[.slice p0.a p0.len p0.cap, .slice p1.a p1.len p1.cap] w K :=
  bodyZ_sound (κ := kappa) (ann := [(4, [(6, (.int .i64))])]) (fn := Try.f38) Try.func38 rfl (by kernel_rfl) (cast (show T38 p0 p1 w K = bodyZ Try.prog kappa [(4, [(6, (.int .i64))])] .bool Try.f38 [.slice p0.a p0.len p0.cap, .slice p1.a p1.len p1.cap] w K by kernel_rfl) h)

/-- (*sluice/sluicelaw3.book).turn -/
def T43 (p0 : Option Addr) (w : World) (K : Bool → World → Prop) : Prop :=
  NilP p0 fun t4 =>
  RunN Try.prog (.int .i64) (V (Instr.loadAt 3 (.pointer (some (t4.add 1))))) w fun t6 w =>
  NilP p0 fun t8 =>
  RunU Try.prog (U (Instr.storeAt 3 (.pointer (some (t8.add 1))) (.int .i64 (IntKind.i64.wrap (t6 + 1))))) w fun w =>
  NilP p0 fun t11 =>
  RunN Try.prog (.int .i64) (V (Instr.loadAt 3 (.pointer (some (t11.add 1))))) w fun t13 w =>
  SplitB ((Int.tmod t13 2) == 0)
    (NilP p0 fun t18 =>
    RunN Try.prog .sl (V (Instr.loadAt 71 (.pointer (some (t18.add 0))))) w fun t20 w =>
    K (decide ((t20.len : Int) < 120)) w)
    (K false w)
theorem T43.calls {p0 : Option Addr} {w : World} {K : Bool → World → Prop} (h : T43 p0 w K) : CallK Try.prog .bool 43 #[.pointer p0] w K :=
  bodyZ_sound (κ := kappa) (ann := []) (fn := Try.f43) Try.func43 rfl (by kernel_rfl) (cast (show T43 p0 w K = bodyZ Try.prog kappa [] .bool Try.f43 [.pointer p0] w K by kernel_rfl) h)

/-- sluice/sluicelaw3.all -/
def T45 (p0 : Sl) (p1 : Sl) (w : World) (K : Bool → World → Prop) : Prop :=
  SplitB ((p0.len : Int) != (p1.len : Int))
    (K false w)
    (LoopX (α := Int × Unit) (fun s1 w k2 =>
      SplitB (decide (s1.1 < (p0.len : Int)))
        (ReadN Try.prog .addr (V (Instr.indexAt 33 (.slice p0.a p0.len p0.cap) (.int .i64 s1.1))) w.drew fun t19 =>
        ReadN Try.prog (.agg (.cons (.int .i64) (.cons (.int .i64) (.cons (.int .i64) (.cons (.int .i64) (.cons .sl .nilT)))))) (V (Instr.loadAt 62 (.pointer (some t19)))) w.drew fun t20 =>
        ReadN Try.prog .addr (V (Instr.indexAt 33 (.slice p1.a p1.len p1.cap) (.int .i64 s1.1))) w.drew fun t23 =>
        ReadN Try.prog (.agg (.cons (.int .i64) (.cons (.int .i64) (.cons (.int .i64) (.cons (.int .i64) (.cons .sl .nilT)))))) (V (Instr.loadAt 62 (.pointer (some t23)))) w.drew fun t24 =>
        CallK Try.prog .bool 59 #[.agg #[.int .i64 t20.1, .int .i64 t20.2.1, .int .i64 t20.2.2.1, .int .i64 t20.2.2.2.1, .slice t20.2.2.2.2.1.a t20.2.2.2.2.1.len t20.2.2.2.2.1.cap], .agg #[.int .i64 t24.1, .int .i64 t24.2.1, .int .i64 t24.2.2.1, .int .i64 t24.2.2.2.1, .slice t24.2.2.2.2.1.a t24.2.2.2.2.1.len t24.2.2.2.2.1.cap]] w.drew fun t25 w =>
        SplitB (!t25)
          (K false w)
          (k2 (IntKind.i64.wrap (s1.1 + 1), ()) w))
        (K true w))
    (0, ()) w)
theorem T45.calls {p0 : Sl} {p1 : Sl} {w : World} {K : Bool → World → Prop} (h : T45 p0 p1 w K) : CallK Try.prog .bool 45 #[.slice p0.a p0.len p0.cap, .slice p1.a p1.len p1.cap] w K :=
  bodyZ_sound (κ := kappa) (ann := [(6, [(5, (.int .i64))])]) (fn := Try.f45) Try.func45 rfl (by kernel_rfl) (cast (show T45 p0 p1 w K = bodyZ Try.prog kappa [(6, [(5, (.int .i64))])] .bool Try.f45 [.slice p0.a p0.len p0.cap, .slice p1.a p1.len p1.cap] w K by kernel_rfl) h)

/-- sluice/sluicelaw3.alike -/
def T59 (p0 : (Int × Int × Int × Int × Sl × Unit)) (p1 : (Int × Int × Int × Int × Sl × Unit)) (w : World) (K : Bool → World → Prop) : Prop :=
  RunN Try.prog .addr (V (Instr.box 62 (.agg #[.int .i64 p0.1, .int .i64 p0.2.1, .int .i64 p0.2.2.1, .int .i64 p0.2.2.2.1, .slice p0.2.2.2.2.1.a p0.2.2.2.2.1.len p0.2.2.2.2.1.cap]))) w fun t2 w =>
  RunN Try.prog .addr (V (Instr.box 62 (.agg #[.int .i64 p1.1, .int .i64 p1.2.1, .int .i64 p1.2.2.1, .int .i64 p1.2.2.2.1, .slice p1.2.2.2.2.1.a p1.2.2.2.2.1.len p1.2.2.2.2.1.cap]))) w fun t3 w =>
  RunN Try.prog (.int .i64) (V (Instr.loadAt 3 (.pointer (some (t2.add 0))))) w fun t6 w =>
  RunN Try.prog (.int .i64) (V (Instr.loadAt 3 (.pointer (some (t3.add 0))))) w fun t8 w =>
  SplitB (t6 == t8)
    (RunN Try.prog (.int .i64) (V (Instr.loadAt 3 (.pointer (some (t2.add 1))))) w fun t12 w =>
    RunN Try.prog (.int .i64) (V (Instr.loadAt 3 (.pointer (some (t3.add 1))))) w fun t14 w =>
    SplitB (t12 == t14)
      (RunN Try.prog (.int .i64) (V (Instr.loadAt 3 (.pointer (some (t2.add 2))))) w fun t19 w =>
      RunN Try.prog (.int .i64) (V (Instr.loadAt 3 (.pointer (some (t3.add 2))))) w fun t21 w =>
      SplitB (t19 == t21)
        (RunN Try.prog (.int .i64) (V (Instr.loadAt 3 (.pointer (some (t2.add 3))))) w fun t26 w =>
        RunN Try.prog (.int .i64) (V (Instr.loadAt 3 (.pointer (some (t3.add 3))))) w fun t28 w =>
        SplitB (t26 == t28)
          (RunN Try.prog .sl (V (Instr.loadAt 45 (.pointer (some (t2.add 4))))) w fun t33 w =>
          RunN Try.prog .sl (V (Instr.loadAt 45 (.pointer (some (t3.add 4))))) w fun t35 w =>
          CallK Try.prog .bool 25 #[.slice t33.a t33.len t33.cap, .slice t35.a t35.len t35.cap] w fun t36 w =>
          K t36 w)
          (K false w))
        (K false w))
      (K false w))
    (K false w)
theorem T59.calls {p0 : (Int × Int × Int × Int × Sl × Unit)} {p1 : (Int × Int × Int × Int × Sl × Unit)} {w : World} {K : Bool → World → Prop} (h : T59 p0 p1 w K) : CallK Try.prog .bool 59 #[.agg #[.int .i64 p0.1, .int .i64 p0.2.1, .int .i64 p0.2.2.1, .int .i64 p0.2.2.2.1, .slice p0.2.2.2.2.1.a p0.2.2.2.2.1.len p0.2.2.2.2.1.cap], .agg #[.int .i64 p1.1, .int .i64 p1.2.1, .int .i64 p1.2.2.1, .int .i64 p1.2.2.2.1, .slice p1.2.2.2.2.1.a p1.2.2.2.2.1.len p1.2.2.2.2.1.cap]] w K :=
  bodyZ_sound (κ := kappa) (ann := []) (fn := Try.f59) Try.func59 rfl (by kernel_rfl) (cast (show T59 p0 p1 w K = bodyZ Try.prog kappa [] .bool Try.f59 [.agg #[.int .i64 p0.1, .int .i64 p0.2.1, .int .i64 p0.2.2.1, .int .i64 p0.2.2.2.1, .slice p0.2.2.2.2.1.a p0.2.2.2.2.1.len p0.2.2.2.2.1.cap], .agg #[.int .i64 p1.1, .int .i64 p1.2.1, .int .i64 p1.2.2.1, .int .i64 p1.2.2.2.1, .slice p1.2.2.2.2.1.a p1.2.2.2.2.1.len p1.2.2.2.2.1.cap]] w K by kernel_rfl) h)

/-- sluice/sluicelaw3.datas -/
def T60 (p0 : Sl) (w : World) (K : Sl → World → Prop) : Prop :=
  LoopX (α := Sl × Int × Unit) (fun s1 w k2 =>
    SplitB (decide (s1.2.1 < (p0.len : Int)))
      (RunN Try.prog .addr (V (Instr.indexAt 33 (.slice p0.a p0.len p0.cap) (.int .i64 s1.2.1))) w fun t14 w =>
      RunN Try.prog .sl (V (Instr.loadAt 45 (.pointer (some (t14.add 4))))) w fun t16 w =>
      RunN Try.prog .sl (V (Instr.buildSlice 51 1 #[(0, .slice t16.a t16.len t16.cap)])) w fun t17 w =>
      RunN Try.prog .sl (V (Builtin.append_ #[51, 51] 51 #[.slice s1.1.a s1.1.len s1.1.cap, .slice t17.a t17.len t17.cap])) w fun t18 w =>
      k2 (t18, IntKind.i64.wrap (s1.2.1 + 1), ()) w)
      (K s1.1 w))
  ((⟨none, 0, 0⟩ : Sl), 0, ()) w
theorem T60.calls {p0 : Sl} {w : World} {K : Sl → World → Prop} (h : T60 p0 w K) : CallK Try.prog .sl 60 #[.slice p0.a p0.len p0.cap] w K :=
  bodyZ_sound (κ := kappa) (ann := [(4, [(3, .sl), (4, (.int .i64))])]) (fn := Try.f60) Try.func60 rfl (by kernel_rfl) (cast (show T60 p0 w K = bodyZ Try.prog kappa [(4, [(3, .sl), (4, (.int .i64))])] .sl Try.f60 [.slice p0.a p0.len p0.cap] w K by kernel_rfl) h)
end Go.Proofs.Ytodgnpmljdopiaa
