/- The line in memory: both ends tell each other all they have. -/
import Derived.Test.YtodgnpmljdopiaaLkW
import Derived.Test.YtodgnpmljdopiaaTLc
namespace Go.Proofs.Ytodgnpmljdopiaa
open Go Go.Fw Go.RowKit
set_option linter.unusedVariables false
set_option linter.unusedSimpArgs false
set_option maxRecDepth 4000
set_option maxHeartbeats 8000000
variable {w0 w : World} {F G : Grps} {j n : Nat} {x : Ln}

theorem outg_I (hI : LnI j n x) (us : Sl) {gs : List Sg} (hg : gs.map Sg.pl = x.e.tells x.e.outs) : LnI j n (outg x us gs) := by
  have hp : ∀ g ∈ x.pool ++ (x.gh ++ gs), g ∈ x.pool ++ x.gh ∨ g ∈ gs := fun g h => by
    rw [← List.append_assoc] at h
    exact List.mem_append.1 h
  have hjj : x.e.me ≠ x.e.peer := by
    rw [hI.pe, hI.me, hI.mf]
    unfold mej
    split <;> split <;> omega
  refine ⟨outed_wf hI.we us, hI.wf, hI.ef.outS hI.we hI.pf.symm hg us hp, hI.fe.outT hjj hg us hp, hI.me, hI.mf, hI.pe, hI.pf, fun b hb => (hI.see b hb).more, fun b hb => (hI.sef b hb).more, fun g hg2 => ?_, fun g hg2 => ?_, hI.pl, hI.ne, hI.nf⟩
  · rcases hp g hg2 with h1 | h1
    · exact (hI.sep g h1).more
    · intro w0 w F h
      have h2 : St w0 w (outD gs :: x.g8 :: F) := by
        have := St.two.1 h
        have := this.ord 2 [1, 0]
        dsimp only [pick, nthO, dropO] at this
        exact this
      exact outD_sees h1 w h2
  · rcases hp g hg2 with h1 | h1
    · exact hI.tos g h1
    · have h2 : g.pl ∈ x.e.tells x.e.outs := by rw [← hg]; exact List.mem_map.2 ⟨g, h1, rfl⟩
      obtain ⟨p, hp1, hp2⟩ := List.mem_map.1 h2
      simp only [Sg.pl, Prod.mk.injEq] at hp2
      refine .inr ?_
      show g.to = x.f.me
      rw [← hI.pe]; exact hp2.2.1.symm
theorem told_to (hI : LnI j n x) {gs : List Sg} (hg : gs.map Sg.pl = x.e.tells x.e.outs) : ∀ g ∈ gs, g.to = x.f.me := by
  intro g h1
  have h2 : g.pl ∈ x.e.tells x.e.outs := by rw [← hg]; exact List.mem_map.2 ⟨g, h1, rfl⟩
  obtain ⟨p, hp1, hp2⟩ := List.mem_map.1 h2
  simp only [Sg.pl, Prod.mk.injEq] at hp2
  rw [← hI.pe]; exact hp2.2.1.symm
theorem told_len (hI : LnI j n x) {gs : List Sg} (hg : gs.map Sg.pl = x.e.tells x.e.outs) : gs.length ≤ 1048576 := by
  have := congrArg List.length hg
  have h1 := hI.we.cnt; have h2 := hI.we.win
  simp only [Lk.tells, Lk.outs, List.length_map, List.length_append] at this
  split at this <;> split at this <;> simp at this <;> omega
theorem outg_ln (h : St w0 w (lnG j x F)) (hI : LnI j n x) : CallK Try.prog .sl 13 #[.pointer x.e.p] w
    fun (o : Sl) w' => ∃ us gs, gs.map Sg.pl = x.e.tells x.e.outs ∧ o.len = gs.length ∧ LnI j n (outg x us gs) ∧ St w0 w' (lnG j (outg x us gs) (outE o gs :: F)) := by
  refine (out_ln h hI.we).mono ?_
  rintro o w1 ⟨us, gs, h1, h2, h⟩
  have h := h.ord 13 [2, 3, 4, 5, 6, 7, 8, 9, 10, 11, 1, 12, 0]
  dsimp only [lnG, pick, nthO, dropO] at h
  have h := joinAt [_, _, _, _, _, _, _, _, _, _] h
  exact ⟨us, gs, h1, h2, outg_I hI us h1, h⟩
theorem pass_st (hj : j < 2) {o : Sl} {gs : List Sg} (h : St w0 w (lnG j x (outE o gs :: F))) (hI : LnI j n x) (hn : n ≤ 1048576) (hgs : ∀ g ∈ gs, g ∈ x.pool ++ x.gh ∧ g.to = x.e.me) (hol : o.len = gs.length) (hgl : gs.length ≤ 1048576) {Kf Rest : World → Prop}
    (hR : ∀ y w', Pass x gs y → LnI j n y → St w0 w' (lnG j y (outE o gs :: F)) → Rest w') :
    LoopX (α := Int × Unit) (fun s3 w k4 =>
        SplitB (decide (s3.1 < (o.len : Int)))
          (RunN Try.prog .addr (V (Instr.indexAt 33 (.slice o.a o.len o.cap) (.int .i64 s3.1))) w fun t27 w =>
          RunN Try.prog (.agg (.cons (.int .i64) (.cons (.int .i64) (.cons (.int .i64) (.cons (.int .i64) (.cons .sl .nilT)))))) (V (Instr.loadAt 62 (.pointer (some t27)))) w fun t28 w =>
          CallK Try.prog .bool 31 #[.pointer (some ⟨x.cb, 0, none⟩), .agg #[.int .i64 t28.1, .int .i64 t28.2.1, .int .i64 t28.2.2.1, .int .i64 t28.2.2.2.1, .slice t28.2.2.2.2.1.a t28.2.2.2.2.1.len t28.2.2.2.2.1.cap]] w fun t29 w =>
          SplitB (!t29)
            (Kf w)
            (k4 (IntKind.i64.wrap (s3.1 + 1), ()) w))
          (Rest w)) (0, ()) w := by
  refine LoopX.mk (fun st w' => ∃ (m : Nat) (y : Ln), st = ((m : Int), ()) ∧ m ≤ gs.length ∧ Pass x (gs.take m) y ∧ LnI j n y ∧ St w0 w' (lnG j y (outE o gs :: F))) (fun st => gs.length - st.1.toNat) ⟨0, x, rfl, Nat.zero_le _, by rw [List.take_zero]; exact .nil, hI, h⟩ ?_
  clear h
  rintro _ w1 ⟨m, y, rfl, hm, hp, hI2, h⟩ k hk
  dsimp only at hk ⊢
  have hoi : (o.len : Int) = (gs.length : Int) := by omega
  have sm := hp.same
  rw [SplitB_iff]
  refine ⟨fun hc => ?_, fun hc => ?_⟩
  · have hc : m < gs.length := by have : (m : Int) < (o.len : Int) := of_decide_eq_true hc
                                  omega
    have hem : IntKind.i64.wrap ((m : Int) + 1) = ((m + 1 : Nat) : Int) := by rw [wr (by omega)]; omega
    rw [hem]
    have hrr := h.rd (k := 11) (i := 0) (E := 62) (sz := 5) (s := o) (vs := gs.flatMap sgv) ⟨_, rfl, rfl⟩
    refine hrr.idxK m rfl (by omega) ?_
    intro b0 o0 ha
    refine hrr.elA ha (m * 5) rfl (kd := Kds) (sgt gs[m]) (ds := sgv gs[m]) (flat_at sgv_len _ _ hc) ?_
    obtain ⟨hg1, hg2⟩ := hgs _ (List.getElem_mem hc)
    have hg1 : gs[m] ∈ y.pool ++ y.gh := by rw [sm.pool, sm.gh]; exact hg1
    have hg2 : gs[m].to = y.e.me := by rw [sm.me]; exact hg2
    rw [← sm.cb]
    refine (comes_st hj h hI2 hn hg1 hg2).mono ?_
    rintro r w2 ⟨hr, us, mc, u, l, ht, hI3, h⟩
    have hr : (r : Bool) = true := hr
    rw [hr, SplitB_iff]
    refine ⟨fun hf => (by cases hf), fun _ => ?_⟩
    refine hk _ _ ⟨m + 1, _, rfl, by omega, ?_, hI3, h⟩ (by dsimp only; omega)
    rw [List.take_succ_eq_append_getElem hc]
    exact .snoc hp hI2.we ht (hI2.fe.fits hI2.ef hI2.wf hI2.we hg1 hg2)
  · have hc : m = gs.length := by have : ¬ (m : Int) < (o.len : Int) := of_decide_eq_false hc
                                  omega
    subst hc
    rw [List.take_length] at hp
    exact hR y _ hp hI2 h
theorem Round.keep {y z : Ln} {gA gB : List Sg} {ua ub : Sl} (r : Round n x gA gB y z ua ub) : z.cb = x.cb ∧ z.e.win = x.e.win ∧ z.f.win = x.f.win ∧ z.e.res = x.e.res ∧ z.f.res = x.f.res := by
  have s1 := r.pa.same
  have s2 := r.pb.same
  have e1 : y.f = x.e.outed ua := s1.f
  have e2 : z.f = y.e.outed ub := s2.f
  refine ⟨s2.cb.trans s1.cb, s2.win.trans ?_, ?_, s2.res.trans ?_, ?_⟩
  · show y.f.win = _
    rw [e1]; rfl
  · rw [e2]; exact s1.win
  · show y.f.res = _
    rw [e1]; rfl
  · rw [e2]; exact s1.res
theorem quiet_st (h : St w0 w (lnG 0 x F)) (hI : LnI 0 n x) (hn : n ≤ 1048576) : CallK Try.prog .bool 21 #[.pointer (some ⟨x.cb, 0, none⟩)] w
    fun (r : Bool) w' => r = true ∧ ∃ z, Idle x z ∧ z.e.ow = false ∧ LnI 0 n z ∧ (z.cb = x.cb ∧ z.e.win = x.e.win ∧ z.f.win = x.f.win ∧ z.e.res = x.e.res ∧ z.f.res = x.f.res) ∧ St w0 w' (lnG 0 z F) := by
  refine T21.calls ?_
  unfold T21
  refine LoopX.mk (fun st w' => ∃ (i : Nat) (x1 : Ln), st = ((i : Int), ()) ∧ LnI 0 n x1 ∧ (x1.cb = x.cb ∧ x1.e.win = x.e.win ∧ x1.f.win = x.f.win ∧ x1.e.res = x.e.res ∧ x1.f.res = x.f.res) ∧ ((i = 0 ∧ x1 = x) ∨ (i = 1 ∧ Idle x x1) ∨ (i = 2 ∧ Idle x x1 ∧ x1.e.ow = false)) ∧ St w0 w' (lnG 0 x1 F)) (fun st => 10 - st.1.toNat) ⟨0, x, rfl, hI, ⟨rfl, rfl, rfl, rfl, rfl⟩, .inl ⟨rfl, rfl⟩, h⟩ ?_
  clear h
  rintro _ w1 ⟨i, x1, rfl, hI1, hkp, hph, h⟩ k hk
  dsimp only at hk ⊢
  have hi : i ≤ 2 := by rcases hph with h | h | h <;> omega
  have hem : IntKind.i64.wrap ((i : Int) + 1) = ((i + 1 : Nat) : Int) := by rw [wr (by omega)]; omega
  rw [hem, SplitB_iff]
  refine ⟨fun _ => ?_, fun hf => ?_⟩
  rotate_left
  · have : ¬ (i : Int) < 200 := of_decide_eq_false hf
    omega
  rw [← hkp.1]
  refine NilP.mk ?_
  refine RunN.arr (ha := add_lit' _ _ _) 0 rfl (by decide) ?_
  refine h.loadB 0 0 (j := 0 + 0 + 0) ⟨_, rfl, rfl⟩ rfl (kd := .ptr) (x := x1.e.p) (c_e (by decide)) ?_
  refine (outg_ln h hI1).mono ?_
  rintro oa w2 ⟨ua, gA, hgA, hoa, hIa, h⟩
  have h := sw_st (by decide) h
  have hIs := sw_I (by decide) hIa
  have ht1 := told_to hI1 hgA
  refine pass_st (x := (outg x1 ua gA).sw) (j := 1) (by decide) h hIs hn (fun g hg => ⟨List.mem_append_right _ (List.mem_append_right _ hg), ht1 g hg⟩) hoa (told_len hI1 hgA) ?_
  intro y w3 hpa hIy h
  have sa := hpa.same
  refine NilP.mk ?_
  refine RunN.arr (ha := add_lit' _ _ _) 1 rfl (by decide) ?_
  have hcy : y.cb = x1.cb := sa.cb
  refine h.loadB 0 0 (j := 0 + 0 + 1) ⟨_, rfl, rfl⟩ (by rw [hcy]) (kd := .ptr) (x := y.e.p) (c_e (by decide)) ?_
  refine (outg_ln h hIy).mono ?_
  rintro ob w4 ⟨ub, gB, hgB, hob, hIb, h⟩
  have h := sw_st (j := 1) (by decide) h
  have hIs2 := sw_I (j := 1) (by decide) hIb
  have ht2 := told_to hIy hgB
  have hcb2 : x1.cb = (outg y ub gB).sw.cb := hcy.symm
  rw [hcb2]
  refine pass_st (x := (outg y ub gB).sw) (j := 0) (by decide) h hIs2 hn (fun g hg => ⟨List.mem_append_right _ (List.mem_append_right _ hg), ht2 g hg⟩) hob (told_len hIy hgB) ?_
  intro z w5 hpb hIz h
  have r : Round n x1 gA gB y z ua ub := ⟨hI1, hIy, hIz, hgA, hpa, hgB, hpb⟩
  have hkz := r.keep
  have hkeep : z.cb = x.cb ∧ z.e.win = x.e.win ∧ z.f.win = x.f.win ∧ z.e.res = x.e.res ∧ z.f.res = x.f.res := ⟨hkz.1.trans hkp.1, hkz.2.1.trans hkp.2.1, hkz.2.2.1.trans hkp.2.2.1, hkz.2.2.2.1.trans hkp.2.2.2.1, hkz.2.2.2.2.trans hkp.2.2.2.2⟩
  have hz : St w0 w5 (lnG 0 z F) := by
    have h := h.ord 13 [0, 1, 2, 3, 4, 5, 6, 7, 8, 9, 10]
    dsimp only [lnG, pick, nthO, dropO] at h
    exact h
  have hidle : Idle x z := by
    rcases hph with ⟨_, rfl⟩ | ⟨_, hd⟩ | ⟨_, hd, _⟩
    · exact r.idle
    · exact (r.again hd).2.2.1
    · exact (r.again hd).2.2.1
  refine JoinX.mk (fun (y : Bool × Unit) w' => y.1 = decide (gA.length = 0 ∧ gB.length = 0) ∧ St w0 w' (lnG 0 z F)) ?_ ?_
  · rintro ⟨v, ⟨⟩⟩ w6 ⟨hv, h⟩
    dsimp only at hv
    subst hv
    rw [SplitB_iff]
    refine ⟨fun hc => ?_, fun hc => ?_⟩
    · have hc : gA.length = 0 ∧ gB.length = 0 := of_decide_eq_true hc
      exact ⟨rfl, z, hidle, r.ow0 (List.eq_nil_of_length_eq_zero hc.2), hIz, ⟨hpb.same.cb, hkeep.2⟩, h⟩
    · have hc : ¬ (gA.length = 0 ∧ gB.length = 0) := of_decide_eq_false hc
      rcases hph with ⟨h0, rfl⟩ | ⟨h0, hd⟩ | ⟨h0, hd, how⟩
      · exact hk _ _ ⟨i + 1, z, rfl, hIz, hkeep, .inr (.inl ⟨by omega, hidle⟩), h⟩ (by dsimp only; omega)
      · exact hk _ _ ⟨i + 1, z, rfl, hIz, hkeep, .inr (.inr ⟨by omega, hidle, (r.again hd).2.2.2⟩), h⟩ (by dsimp only; omega)
      · have h1 := r.again hd
        exact absurd ⟨by rw [h1.2.1 how]; rfl, by rw [h1.1]; rfl⟩ hc
  · intro k7 hk7
    have hai : (oa.len : Int) = (gA.length : Int) := by omega
    have hbi : (ob.len : Int) = (gB.length : Int) := by omega
    rw [hai, hbi, SplitB_iff]
    refine ⟨fun hc => ?_, fun hc => ?_⟩
    · have hc : gA.length = 0 := by have : ((gA.length : Nat) : Int) = 0 := by simpa using hc
                                    omega
      refine hk7 _ _ ⟨?_, hz⟩
      rw [Bool.eq_iff_iff]
      simp [hc]
    · have hc : ¬ gA.length = 0 := by intro h0; rw [h0] at hc; simp at hc
      refine hk7 _ _ ⟨?_, hz⟩
      symm
      exact decide_eq_false (fun hh => hc hh.1)
end Go.Proofs.Ytodgnpmljdopiaa
