/- The line in memory: one thing that happens. -/
import Derived.Test.YtodgnpmljdopiaaLkS
namespace Go.Proofs.Ytodgnpmljdopiaa
open Go Go.Fw Go.RowKit
set_option linter.unusedVariables false
set_option linter.unusedSimpArgs false
set_option maxRecDepth 4000
set_option maxHeartbeats 8000000
variable {w0 w : World} {F G : Grps} {j n : Nat} {x : Ln}

theorem sent_I (hI : LnI j n x) {l : List UInt8} (hr : x.e.refuse l = 0) (s t : Sl) (ht : t.len = l.length + 3) (is : Sl) :
    LnI j (n + 1) { x with e := x.e.sent s l, ie := (is, x.ie.2 ++ [(subS t 0 l.length 1, l)]), g8 := x.g8 ++ [brow (t, l ++ mks)] } := by
  have hl := (refuse_zero hr).1
  have hne := hI.ne; have hnf := hI.nf
  refine ⟨sent_wf hI.we s hr, hI.wf, ?_, hI.fe.sendT l s, hI.me, hI.mf, hI.pe, hI.pf, ?_, fun b hb => (hI.sef b hb).more, fun g hg => (hI.sep g hg).more, hI.tos, hI.pl, by simp; omega, by simp; omega⟩
  · have := hI.ef.sendS hl s
    show Dir _ _ ((x.ie.2 ++ [(subS t 0 l.length 1, l)]).map (·.2)) _ _
    rw [List.map_append]
    exact this
  · intro b hb
    rcases List.mem_append.1 hb with hb | hb
    · exact (hI.see b hb).more
    · simp at hb
      subst hb
      intro w0 w F h
      have h2 : St w0 w ([brow (t, l ++ mks)] :: x.g8 :: F) := by
        have := St.two.1 h
        have := this.ord 2 [1, 0]
        dsimp only [pick, nthO, dropO] at this
        exact this
      exact lent_sees (w0 := w0) (F := x.g8 :: F) ht w h2
theorem ticked_I (hI : LnI j n x) : LnI j n { x with e := x.e.tick } :=
  ⟨ticked_wf hI.we, hI.wf, hI.ef.tickS, hI.fe.tickT, hI.me, hI.mf, hI.pe, hI.pf, hI.see, hI.sef, hI.sep, hI.tos, hI.pl, hI.ne, hI.nf⟩
theorem outed_I (hI : LnI j n x) (us : Sl) {gs more : List Sg} (hg : gs.map Sg.pl = x.e.tells x.e.outs) (hm : ∀ g ∈ more, g ∈ gs) (hl : x.pool.length + more.length ≤ 400) (ps : Sl) :
    LnI j n { x with e := x.e.outed us, pool := x.pool ++ more, ps := ps, g8 := x.g8 ++ outD gs } := by
  have hp : ∀ g ∈ x.pool ++ more ++ x.gh, g ∈ x.pool ++ x.gh ∨ g ∈ gs := fun g h => by
    rcases List.mem_append.1 h with h | h
    · rcases List.mem_append.1 h with h | h
      · exact .inl (List.mem_append_left _ h)
      · exact .inr (hm g h)
    · exact .inl (List.mem_append_right _ h)
  have hjj : x.e.me ≠ x.e.peer := by
    rw [hI.pe, hI.me, hI.mf]
    unfold mej
    split <;> split <;> omega
  refine ⟨outed_wf hI.we us, hI.wf, hI.ef.outS hI.we hI.pf.symm hg us hp, hI.fe.outT hjj hg us hp, hI.me, hI.mf, hI.pe, hI.pf, fun b hb => (hI.see b hb).more, fun b hb => (hI.sef b hb).more, fun g hg2 => ?_, fun g hg2 => ?_, by simpa using hl, hI.ne, hI.nf⟩
  · rcases hp g hg2 with h1 | h1
    · exact (hI.sep g h1).more
    · intro w0 w F h
      have h2 : St w0 w (outD gs :: x.g8 :: F) := by
        have := St.two.1 h
        have := this.ord 2 [1, 0]
        dsimp only [pick, nthO, dropO] at this
        exact this
      exact outD_sees h1 w h2
  · rcases hp g hg2 with h1 | h1
    · exact hI.tos g h1
    · have h2 : g.pl ∈ x.e.tells x.e.outs := by rw [← hg]; exact List.mem_map.2 ⟨g, h1, rfl⟩
      obtain ⟨p, hp1, hp2⟩ := List.mem_map.1 h2
      simp only [Sg.pl, Prod.mk.injEq] at hp2
      refine .inr ?_
      show g.to = x.f.me
      rw [← hI.pe]; exact hp2.2.1.symm
/-- What happens: kind, who, which, data. -/
structure Mo where
  kind : Int
  who : Int
  a : Int
  d : Sl × List UInt8
def mov (m : Mo) : List Value := [.int .i64 m.kind, .int .i64 m.who, .int .i64 m.a, sv m.d.1]
structure Mo.ok (m : Mo) : Prop where
  kind : -9223372036854775808 ≤ m.kind ∧ m.kind ≤ 9223372036854775807
  who : -9223372036854775808 ≤ m.who ∧ m.who ≤ 9223372036854775807
  a : -9223372036854775808 ≤ m.a ∧ m.a ≤ 9223372036854775807
  len : m.d.2.length ≤ 140737488351232
theorem step_st {cb : Nat} {wn : Nat → Int} {i : Nat} (hi : i < 2) (h : At w0 F cb wn i n w) (hn : n ≤ 1048000) {m : Mo} (hm : m.ok) (hd : Rd w0 m.d.1 1 (bys m.d.2)) :
    CallK Try.prog .bool 18 #[.pointer (some ⟨cb, 0, none⟩), .agg #[.int .i64 m.kind, .int .i64 m.who, .int .i64 m.a, .slice m.d.1.a m.d.1.len m.d.1.cap], .agg #[.int .i64 (wn 0), .int .i64 (wn 1)]] w
      fun (r : Bool) w' => r = true ∧ At w0 F cb wn 0 (n + 1) w' := by
  have hdl := hd.bys_len
  have hml := hm.len
  refine T18.calls (p1 := (m.kind, m.who, m.a, m.d.1, ())) (p2 := (wn 0, wn 1, ())) ?_
  unfold T18
  obtain ⟨jn, hjn⟩ : ∃ jn : Nat, wi m.who 0 1 = (jn : Int) ∧ jn < 2 := by
    have := wi_in (x := m.who) (lo := 0) (hi := 1) (by decide)
    exact ⟨(wi m.who 0 1).toNat, by omega, by omega⟩
  obtain ⟨hj1, hj⟩ := hjn
  obtain ⟨x, hI, rfl, hwe, hwf, h⟩ := h.to hi hj
  generalize jn = j at hI hwe hwf h hj1 hj
  refine h.newB run_boxA rfl ?_
  intro b4 w1 h
  refine h.newB run_boxA rfl ?_
  intro b5 w2 h
  have h := h.ord 13 [2, 3, 4, 5, 6, 7, 8, 9, 10, 11, 12, 1, 0]
  dsimp only [lnG, pick, nthO, dropO] at h
  have h : St w0 w2 (lnG j x ([.cel b4 47 (mov m)] :: [.cel b5 43 [.int .i64 (wn 0), .int .i64 (wn 1)]] :: F)) := h
  refine h.loadB 11 0 ⟨_, rfl, rfl⟩ rfl (kd := .int .i64) (x := m.who) rfl ?_
  refine (within_st h (by decide) (by decide) (by decide) hm.who).mono ?_
  intro (v : Int) w3 ⟨hv, h⟩
  rw [hv, hj1]
  clear hv v
  let F' : Grps := [.cel b4 47 (mov m)] :: [.cel b5 43 [.int .i64 (wn 0), .int .i64 (wn 1)]] :: F
  have h : St w0 w3 (lnG j x F') := h
  have hfin : ∀ {i : Nat} {w'}, i < 2 → At w0 F' x.cb wn i (n + 1) w' → At w0 F x.cb wn 0 (n + 1) w' := by
    intro i w' hi h
    obtain ⟨x', g1, g2, g3, g4, h⟩ := h.to hi (i := 0) (by decide)
    have h := h.ord 13 [0, 1, 2, 3, 4, 5, 6, 7, 8, 9, 10]
    dsimp only [lnG, pick, nthO, dropO] at h
    exact ⟨x', g1, g2, g3, g4, h⟩
  refine JoinX.mk (fun (y : Unit) w' => At w0 F' x.cb wn j (n + 1) w') ?_ ?_
  · rintro ⟨⟩ w4 ⟨x', hI', hcb', hwe', hwf', h⟩
    refine RunN.arr rfl j rfl hj ?_
    have hwin : nthO [Value.int .i64 (wn 0), .int .i64 (wn 1)] (0 + j) = some (.int .i64 (wn j)) := by
      rcases (by omega : j = 0 ∨ j = 1) with h0 | h0 <;> rw [h0] <;> rfl
    refine h.loadB 12 0 (j := 0 + j) ⟨_, rfl, rfl⟩ rfl (kd := .int .i64) (x := wn j) hwin ?_
    have hso := sound_st hj h hI' (by omega)
    rw [hcb', hwe'] at hso
    refine hso.mono ?_
    intro (r : Bool) w5 ⟨hr, h⟩
    exact ⟨hr, hfin hj ⟨x', hI', hcb', hwe', hwf', h⟩⟩
  intro k hk
  have hkA : ∀ {w'}, At w0 F' x.cb wn j n w' → k () w' := fun h => hk _ _ (h.mono (by omega))
  refine h.loadB 11 0 ⟨_, rfl, rfl⟩ rfl (kd := .int .i64) (x := m.kind) rfl ?_
  refine (within_st h (by decide) (by decide) (by decide) hm.kind).mono ?_
  intro (v : Int) w4 ⟨hv, h⟩
  clear hv
  rw [SplitB_iff]
  refine ⟨fun _ => ?_, fun _ => ?_⟩
  · -- data is handed in
    refine NilP.mk ?_
    refine RunN.arr (ha := add_lit' _ _ _) j rfl hj ?_
    refine h.loadB 0 0 (j := 0 + 0 + j) ⟨_, rfl, rfl⟩ rfl (kd := .ptr) (x := x.e.p) (c_e hj) ?_
    refine (room_ln h hI.we).mono ?_
    intro (rm : Int) w5 ⟨hrm, h⟩
    refine h.loadB 11 0 ⟨_, rfl, rfl⟩ rfl (kd := .sl) (x := m.d.1) rfl ?_
    refine (lend_st h (p := m.d.1) (l := m.d.2) (fun w h => h.old hd) hml).mono ?_
    intro t w6 ⟨htl, h⟩
    refine NilP.mk ?_
    refine ReadN.arr (ha := add_lit' _ _ _) j rfl hj ?_
    refine h.drew.readB 1 0 (j := 0 + 0 + j) ⟨_, rfl, rfl⟩ rfl (kd := .ptr) (x := x.e.p) (c_e hj) ?_
    refine h.drew.readB 12 0 ⟨_, rfl, rfl⟩ rfl (kd := .sl) (x := m.d.1) rfl ?_
    refine ReadN.sH m.d.2.length (by rw [hdl]) (by have := (h.drew.rd (k := 0) (i := 0) (E := 5) (sz := 1) (s := t) (vs := bys (m.d.2 ++ mks)) ⟨_, rfl, rfl⟩).2.2; omega) ?_
    refine (send_ln h.drew htl hI.we hml).mono ?_
    intro (v2 : Int) w7 ⟨hv2, hno, hyes⟩
    have hroom : x.e.room = (x.e.win : Int) - x.e.bx.length - x.e.un.length := rfl
    have hlast := hI.ef.last
    rw [List.length_map] at hlast
    have hne := hI.ne
    have hcase : (v2 = 0 → x.e.refuse m.d.2 = 0) ∧ (m.d.2.length > 4000 → v2 = 2) ∧ (¬ m.d.2.length > 4000 → (v2 == 0) = decide (rm > 0)) := by
      refine ⟨fun h0 => by rw [← hv2, h0], fun hl => by rw [hv2, Lk.refuse, if_pos hl], fun hl => ?_⟩
      rw [hv2, hrm, Lk.refuse, if_neg hl]
      by_cases hr : x.e.room ≤ 0
      · rw [if_pos (.inl hr), decide_eq_false (by omega)]; rfl
      · rw [if_neg (by omega), decide_eq_true (by omega)]; rfl
    by_cases hz : v2 = 0
    · obtain ⟨s, h⟩ := hyes hz
      have href := hcase.1 hz
      have hl4 := (refuse_zero href).1
      refine h.loadB 12 0 ⟨_, rfl, rfl⟩ rfl (kd := .sl) (x := m.d.1) rfl ?_
      rw [hdl, SplitB_iff]
      refine ⟨fun hf => ?_, fun _ => ?_⟩
      · have : (m.d.2.length : Int) > 4000 := of_decide_eq_true hf
        omega
      rw [hcase.2.2 (by omega), SplitB_iff]
      refine ⟨fun hf => by simp at hf, fun _ => ?_⟩
      rw [← hcase.2.2 (by omega), hz, SplitB_iff]
      refine ⟨fun _ => ?_, fun hf => (by cases hf)⟩
      let x1 : Ln := { x with e := x.e.sent s m.d.2 }
      have h : St w0 w7 ([brow (t, m.d.2 ++ mks)] :: lnG j x1 F') := h
      refine NilP.mk ?_
      refine ReadN.arr (ha := add_lit' _ _ _) j rfl hj ?_
      refine h.drew.readB 1 0 (j := 0 + 2 + j) ⟨_, rfl, rfl⟩ rfl (kd := .sl) (x := x.ie.1) (by rw [Nat.zero_add]; exact c_ie hj) ?_
      refine h.drew.readB 12 0 ⟨_, rfl, rfl⟩ rfl (kd := .sl) (x := m.d.1) rfl ?_
      refine h.drew.readB 12 0 ⟨_, rfl, rfl⟩ rfl (kd := .sl) (x := m.d.1) rfl ?_
      refine NilP.mk ?_
      refine (lend_st h.drew (p := m.d.1) (l := m.d.2) (fun w h => h.old hd) hml).mono ?_
      intro t2 w8 ⟨htl2, h⟩
      refine ⟨h.stillB 13 0 ⟨_, rfl, rfl⟩ rfl rfl, ?_⟩
      refine ⟨h.stillB 2 0 (j := 0 + 2 + j) ⟨_, rfl, rfl⟩ rfl (by rw [Nat.zero_add]; exact c_ie hj), ?_⟩
      refine ⟨StillV.of (run_arr (add_lit' _ _ _) j rfl hj), ?_⟩
      refine ReadN.sH m.d.2.length (by rw [hdl]) (by have := (h.rd (k := 0) (i := 0) (E := 5) (sz := 1) (s := t2) (vs := bys (m.d.2 ++ mks)) ⟨_, rfl, rfl⟩).2.2; omega) ?_
      refine h.newS 1 (bs51 _ _ _ _) rfl rfl rfl ?_
      intro u w9 hu1 hu2 _ h
      refine ⟨h.stillB 3 0 (j := 0 + 2 + j) ⟨_, rfl, rfl⟩ rfl (by rw [Nat.zero_add]; exact c_ie hj), ?_⟩
      refine ⟨StillV.of (run_arr (add_lit' _ _ _) j rfl hj), ?_⟩
      have hil := lsl_rd (h.rd (k := 10) (i := 0) (E := 45) (sz := 1) (s := x.ie.1) (vs := lsl x.ie.2) ⟨_, rfl, rfl⟩)
      have hx1 : x1.ie.1.len = x.ie.1.len := rfl
      refine h.app 10 0 ⟨_, rfl, rfl⟩ (h.rd (k := 0) (i := 0) ⟨_, rfl, rfl⟩) (fun v hv => by simp at hv; subst hv; rfl) (by simp only [maxLen]; omega) (by omega) ?_
      intro is w10 his h
      have h := h.drop 0
      dsimp only [delO, updG, setO, lnG] at h
      refine ReadN.arr (ha := add_lit' _ _ _) j rfl hj ?_
      refine h.storB 2 0 (j := 0 + 2 + j) ⟨_, rfl, rfl⟩ rfl (by rw [c_len]; rcases (by omega : j = 0 ∨ j = 1) with h0 | h0 <;> rw [h0] <;> rfl) rfl ?_
      intro w11 h
      dsimp only [updG, setO] at h
      have e0 : setO (lnC j x1) (0 + 2 + j) (sv is) = lnC j { x1 with ie := (is, x1.ie.2) } := by rw [Nat.zero_add]; exact s_ie hj _
      have h := h.ord 13 [2, 3, 4, 5, 6, 7, 8, 9, 10, 11, 0, 12]
      dsimp only [pick, nthO, dropO] at h
      have h := snocAt [_, _, _, _, _, _, _, _, _, _] h
      refine hk _ _ ⟨{ x with e := x.e.sent s m.d.2, ie := (is, x.ie.2 ++ [(subS t2 0 m.d.2.length 1, m.d.2)]), g8 := x.g8 ++ [brow (t2, m.d.2 ++ mks)] }, sent_I hI href s t2 htl2 is, rfl, hwe, hwf, ?_⟩
      have e1 : lsl (x.ie.2 ++ [(subS t2 0 m.d.2.length 1, m.d.2)]) = lsl x.ie.2 ++ [.slice (subS t2 0 m.d.2.length 1).a (subS t2 0 m.d.2.length 1).len (subS t2 0 m.d.2.length 1).cap] := lsl_snoc _ _
      have e2 : setO (lnC j x1) (0 + 2 + j) (.slice is.a is.len is.cap) = lnC j { x1 with ie := (is, x1.ie.2) } := e0
      have hg : lnG j { x with e := x.e.sent s m.d.2, ie := (is, x.ie.2 ++ [(subS t2 0 m.d.2.length 1, m.d.2)]), g8 := x.g8 ++ [brow (t2, m.d.2 ++ mks)] } F' =
          [.cel x.cb 54 (setO (lnC j x1) (0 + 2 + j) (.slice is.a is.len is.cap))] :: lmE x1.e :: dat x1.e.toLk :: ups x1.e.ea :: lmE x.f :: dat x.f.toLk :: ups x.f.ea :: [.row 45 1 is (lsl x.ie.2 ++ [.slice (subS t2 0 m.d.2.length 1).a (subS t2 0 m.d.2.length 1).len (subS t2 0 m.d.2.length 1).cap])] :: [.row 45 1 x.jf.1 (lsl x.jf.2)] :: [.row 62 5 x.ps (x.pool.flatMap sgv)] :: (x.g8 ++ [brow (t2, m.d.2 ++ mks)]) :: F' := by
        rw [e2, ← e1]; rfl
      rw [hg]
      exact h
    · have h := (hno hz).drop 0
      dsimp only [delO] at h
      refine h.loadB 11 0 ⟨_, rfl, rfl⟩ rfl (kd := .sl) (x := m.d.1) rfl ?_
      rw [hdl, SplitB_iff]
      refine ⟨fun hf => ?_, fun hf => ?_⟩
      · have hf : m.d.2.length > 4000 := by have : (m.d.2.length : Int) > 4000 := of_decide_eq_true hf
                                            omega
        rw [hcase.2.1 hf]
        exact ⟨rfl, hfin hj (At.mono ⟨x, hI, rfl, hwe, hwf, h⟩ (by omega))⟩
      · have hf : ¬ m.d.2.length > 4000 := by have : ¬ (m.d.2.length : Int) > 4000 := of_decide_eq_false hf
                                              omega
        rw [hcase.2.2 hf, SplitB_iff]
        refine ⟨fun hf2 => by simp at hf2, fun _ => ?_⟩
        rw [← hcase.2.2 hf, SplitB_iff]
        refine ⟨fun hf2 => absurd (by simpa using hf2) hz, fun _ => ?_⟩
        exact hkA ⟨x, hI, rfl, hwe, hwf, h⟩
  rw [SplitB_iff]
  refine ⟨fun _ => ?_, fun _ => ?_⟩
  · -- a tick
    refine NilP.mk ?_
    refine RunN.arr (ha := add_lit' _ _ _) j rfl hj ?_
    refine h.loadB 0 0 (j := 0 + 0 + j) ⟨_, rfl, rfl⟩ rfl (kd := .ptr) (x := x.e.p) (c_e hj) ?_
    refine (tick_ln h hI.we).mono ?_
    intro _ w5 h
    exact hkA ⟨_, ticked_I hI, rfl, hwe, hwf, h⟩
  rw [SplitB_iff]
  refine ⟨fun _ => ?_, fun _ => ?_⟩
  · -- what is told is under way
    refine NilP.mk ?_
    refine RunN.arr (ha := add_lit' _ _ _) j rfl hj ?_
    refine h.loadB 0 0 (j := 0 + 0 + j) ⟨_, rfl, rfl⟩ rfl (kd := .ptr) (x := x.e.p) (c_e hj) ?_
    refine (out_ln h hI.we).mono ?_
    rintro o w5 ⟨us, gs, hgs, hol, h⟩
    let x1 : Ln := { x with e := x.e.outed us }
    have h : St w0 w5 (outE o gs :: outD gs :: lnG j { x1 with pool := x.pool ++ gs.take 0, ps := x.ps } F') := by
      rw [List.take_zero, List.append_nil]; exact h
    have hpl := hI.pl
    have hgl : gs.length ≤ 1048576 := by
      have := congrArg List.length hgs
      have h1 := hI.we.cnt; have h2 := hI.we.win
      simp only [Lk.tells, Lk.outs, List.length_map, List.length_append] at this
      split at this <;> split at this <;> simp at this <;> omega
    refine LoopX.mk (fun st w' => ∃ (m : Nat) (ps : Sl), st = ((m : Int), ()) ∧ m ≤ gs.length ∧ x.pool.length + m ≤ 400 ∧ St w0 w' (outE o gs :: outD gs :: lnG j { x1 with pool := x.pool ++ gs.take m, ps := ps } F')) (fun st => gs.length - st.1.toNat) ⟨0, x.ps, rfl, Nat.zero_le _, by omega, h⟩ ?_
    clear h
    rintro _ w6 ⟨m2, ps, rfl, hm2, hpm, h⟩ k4 hk4
    dsimp only at hk4 ⊢
    have hlen2 : (x.pool ++ gs.take m2).length = x.pool.length + m2 := by simp; omega
    have hpsl : ps.len = x.pool.length + m2 := by
      have := out_len (h.rd (k := 11) (i := 0) (E := 62) (sz := 5) (s := ps) (vs := (x.pool ++ gs.take m2).flatMap sgv) ⟨_, rfl, rfl⟩)
      omega
    have hoi : (o.len : Int) = (gs.length : Int) := by omega
    refine JoinX.mk (fun (y : Bool × Unit) w' => y.1 = decide (m2 < gs.length ∧ x.pool.length + m2 < 400) ∧ St w0 w' (outE o gs :: outD gs :: lnG j { x1 with pool := x.pool ++ gs.take m2, ps := ps } F')) ?_ ?_
    rotate_left
    · intro k5 hk5
      rw [hoi, SplitB_iff]
      refine ⟨fun hc => ?_, fun hc => ?_⟩
      · have hc : (m2 : Int) < (gs.length : Int) := of_decide_eq_true hc
        refine NilP.mk ?_
        refine h.loadB 2 0 (j := 6) ⟨_, rfl, rfl⟩ rfl (kd := .sl) (x := ps) c_ps ?_
        refine hk5 _ _ ⟨?_, h⟩
        exact decide_eq_decide.2 ⟨fun h => ⟨by omega, by omega⟩, fun h => by omega⟩
      · have hc : ¬ (m2 : Int) < (gs.length : Int) := of_decide_eq_false hc
        refine hk5 _ _ ⟨?_, h⟩
        symm
        exact decide_eq_false (fun h => by omega)
    clear h
    rintro ⟨y, ⟨⟩⟩ w7 ⟨hy, h⟩
    dsimp only at hy
    subst hy
    rw [SplitB_iff]
    refine ⟨fun hc => ?_, fun hc => ?_⟩
    · have hc : m2 < gs.length ∧ x.pool.length + m2 < 400 := of_decide_eq_true hc
      have hem : IntKind.i64.wrap ((m2 : Int) + 1) = ((m2 + 1 : Nat) : Int) := by rw [wr (by omega)]; omega
      rw [hem]
      refine NilP.mk ?_
      refine h.drew.readB 2 0 (j := 6) ⟨_, rfl, rfl⟩ rfl (kd := .sl) (x := ps) c_ps ?_
      have hrr := h.drew.rd (k := 0) (i := 0) (E := 62) (sz := 5) (s := o) (vs := gs.flatMap sgv) ⟨_, rfl, rfl⟩
      refine hrr.idxR m2 rfl (by omega) ?_
      intro b0 o0 ha
      refine hrr.elAR ha (m2 * 5) rfl (kd := Kds) (sgt gs[m2]) (ds := sgv gs[m2]) (flat_at sgv_len _ _ hc.1) ?_
      refine h.drew.newS 5 (bs33' _ gs[m2]) rfl rfl rfl ?_
      intro u w8 hu1 hu2 _ h
      refine ⟨h.stillB 3 0 (j := 6) ⟨_, rfl, rfl⟩ rfl c_ps, ?_⟩
      refine h.app 12 0 (s := ps) ⟨_, rfl, rfl⟩ (h.rd (k := 0) (i := 0) ⟨_, rfl, rfl⟩) (sgv_one _) (by simp only [maxLen]; omega) (by omega) ?_
      intro ps' w9 hl9 h
      have h := h.drop 0
      dsimp only [delO, updG, setO, lnG] at h
      refine NilP.mk ?_
      refine h.storB 2 0 (j := 6) ⟨_, rfl, rfl⟩ rfl (by rw [c_len]; rfl) rfl ?_
      intro w10 h
      dsimp only [updG, setO] at h
      refine hk4 _ _ ⟨m2 + 1, ps', rfl, by omega, by omega, ?_⟩ (by dsimp only; omega)
      have e1 : (x.pool ++ gs.take (m2 + 1)).flatMap sgv = (x.pool ++ gs.take m2).flatMap sgv ++ sgv gs[m2] := by
        rw [List.take_succ_eq_append_getElem hc.1, ← List.append_assoc, List.flatMap_append]
        congr 1
        first | done | simp
      have e2 : setO (lnC j { x1 with pool := x.pool ++ gs.take m2, ps := ps }) 6 (.slice ps'.a ps'.len ps'.cap) = lnC j { x1 with pool := x.pool ++ gs.take (m2 + 1), ps := ps' } := s_ps ps'
      have hg : lnG j { x1 with pool := x.pool ++ gs.take (m2 + 1), ps := ps' } F' =
          [.cel x.cb 54 (setO (lnC j { x1 with pool := x.pool ++ gs.take m2, ps := ps }) 6 (.slice ps'.a ps'.len ps'.cap))] :: lmE x1.e :: dat x1.e.toLk :: ups x1.e.ea :: lmE x.f :: dat x.f.toLk :: ups x.f.ea :: [.row 45 1 x.ie.1 (lsl x.ie.2)] :: [.row 45 1 x.jf.1 (lsl x.jf.2)] :: [.row 62 5 ps' ((x.pool ++ gs.take m2).flatMap sgv ++ sgv gs[m2])] :: x.g8 :: F' := by
        rw [e2, ← e1]; rfl
      rw [hg]
      exact h
    · have h := h.ord 13 [2, 3, 4, 5, 6, 7, 8, 9, 10, 11, 1, 12]
      dsimp only [lnG, pick, nthO, dropO] at h
      have h := joinAt [_, _, _, _, _, _, _, _, _, _] h
      refine hkA ⟨_, outed_I hI us hgs (more := gs.take m2) (fun g hg => List.mem_of_mem_take hg) (by rw [← List.length_append, hlen2]; exact hpm) ps, rfl, hwe, hwf, ?_⟩
      exact h
  rw [SplitB_iff]
  refine ⟨fun _ => ?_, fun _ => ?_⟩
  · -- a segment comes
    refine JoinX.mk (fun (y : Bool × Unit) w' => y.1 = false ∧ At w0 F' x.cb wn j n w') ?_ ?_
    · rintro ⟨y, ⟨⟩⟩ w5 ⟨hy, h⟩
      dsimp only at hy
      subst hy
      rw [SplitB_iff]
      exact ⟨fun hf => (by cases hf), fun _ => hkA h⟩
    intro k7 hk7
    have hpl := hI.pl
    have hpsl := out_len (h.rd (k := 9) (i := 0) (E := 62) (sz := 5) (s := x.ps) (vs := x.pool.flatMap sgv) ⟨_, rfl, rfl⟩)
    refine NilP.mk ?_
    refine h.drew.readB 0 0 (j := 6) ⟨_, rfl, rfl⟩ rfl (kd := .sl) (x := x.ps) c_ps ?_
    rw [SplitB_iff]
    refine ⟨fun hc => ?_, fun hc => ?_⟩
    · have hc : 0 < x.pool.length := by have : (x.ps.len : Int) > 0 := of_decide_eq_true hc
                                        omega
      refine NilP.mk ?_
      refine h.drew.readB 0 0 (j := 6) ⟨_, rfl, rfl⟩ rfl (kd := .sl) (x := x.ps) c_ps ?_
      refine h.drew.readB 11 0 ⟨_, rfl, rfl⟩ rfl (kd := .int .i64) (x := m.a) rfl ?_
      refine NilP.mk ?_
      refine h.drew.readB 0 0 (j := 6) ⟨_, rfl, rfl⟩ rfl (kd := .sl) (x := x.ps) c_ps ?_
      rw [wr (by omega)]
      refine (within_st h.drew (x := m.a) (lo := 0) (hi := (x.ps.len : Int) - 1) (by decide) (by omega) (by omega) hm.a).mono ?_
      intro (v : Int) w5 ⟨hv, h⟩
      have hin := wi_in (x := m.a) (lo := 0) (hi := (x.ps.len : Int) - 1) (by omega)
      rw [← hv] at hin
      obtain ⟨q, rfl⟩ := Int.eq_ofNat_of_zero_le hin.1
      have hq : q < x.pool.length := by omega
      refine ⟨h.stillB 0 0 (j := 6) ⟨_, rfl, rfl⟩ rfl c_ps, ?_⟩
      have hrr := h.rd (k := 9) (i := 0) (E := 62) (sz := 5) (s := x.ps) (vs := x.pool.flatMap sgv) ⟨_, rfl, rfl⟩
      refine hrr.idxR q rfl (by omega) ?_
      intro b0 o0 ha
      refine hrr.elAR ha (q * 5) rfl (kd := Kds) (sgt x.pool[q]) (ds := sgv x.pool[q]) (flat_at sgv_len _ _ hq) ?_
      have hgm : x.pool[q] ∈ x.pool ++ x.gh := List.mem_append_left _ (List.getElem_mem hq)
      rcases hI.tos _ hgm with hto | hto
      · refine (comes_st hj h hI (by omega) hgm hto).mono ?_
        rintro r w6 ⟨hr, us, mc, u, l, _, hI', h⟩
        have hr : (r : Bool) = true := hr
        rw [hr]
        exact hk7 _ _ ⟨rfl, _, hI', rfl, hwe, hwf, h⟩
      · have h1j : 1 - j < 2 := by omega
        have e : 1 - (1 - j) = j := by omega
        refine (comes_st (x := x.sw) h1j (sw_st hj h) (sw_I hj hI) (by omega) hgm hto).mono ?_
        rintro r w6 ⟨hr, us, mc, u, l, _, hI', h⟩
        have hr : (r : Bool) = true := hr
        rw [hr]
        have hA : At w0 F' x.cb wn (1 - j) n w6 := ⟨_, hI', rfl, hwf.1, ⟨by rw [e]; exact hwe, hwf.2.2, hwf.2.1⟩, h⟩
        exact hk7 _ _ ⟨rfl, hA.to h1j hj⟩
    · exact hk7 _ _ ⟨rfl, x, hI, rfl, hwe, hwf, h.drew⟩
  · exact hkA ⟨x, hI, rfl, hwe, hwf, h⟩
end Go.Proofs.Ytodgnpmljdopiaa
