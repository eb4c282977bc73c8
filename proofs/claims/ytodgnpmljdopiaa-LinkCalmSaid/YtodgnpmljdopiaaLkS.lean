/- The line in memory: its ends, looked at from either side; what always holds. -/
import Derived.Test.YtodgnpmljdopiaaLkR
namespace Go.Proofs.Ytodgnpmljdopiaa
open Go Go.Fw Go.RowKit
set_option linter.unusedVariables false
set_option linter.unusedSimpArgs false
set_option maxRecDepth 4000
set_option maxHeartbeats 4000000
variable {w0 w : World} {F G : Grps} {j n : Nat} {x : Ln}

def Ln.sw (x : Ln) : Ln := ⟨x.f, x.e, x.jf, x.ie, x.of, x.oe, x.ps, x.pool, x.cb, x.g8, x.gh⟩
theorem lnC_sw (hj : j < 2) : lnC (1 - j) x.sw = lnC j x := by
  rcases (by omega : j = 0 ∨ j = 1) with rfl | rfl <;> rfl
theorem sw_st (hj : j < 2) (h : St w0 w (lnG j x F)) : St w0 w (lnG (1 - j) x.sw F) := by
  have h := h.ord 11 [0, 4, 5, 6, 1, 2, 3, 8, 7, 9, 10]
  dsimp only [lnG, pick, nthO, dropO] at h
  rw [← lnC_sw hj] at h
  exact h
theorem sw_I (hj : j < 2) (h : LnI j n x) : LnI (1 - j) n x.sw := by
  have e : 1 - (1 - j) = j := by omega
  exact ⟨h.wf, h.we, h.fe, h.ef, h.mf, by rw [e]; exact h.me, h.pf, h.pe, h.sef, h.see, h.sep, fun g hg => (h.tos g hg).symm, h.pl, h.nf, h.ne⟩
/-- The line, from the end j. -/
def At (w0 : World) (F : Grps) (cb : Nat) (wn : Nat → Int) (j n : Nat) (w : World) : Prop :=
  ∃ x, LnI j n x ∧ x.cb = cb ∧ (x.e.win : Int) = wn j ∧ ((x.f.win : Int) = wn (1 - j) ∧ x.e.res = wn 2 ∧ x.f.res = wn 2) ∧ St w0 w (lnG j x F)
theorem At.swap {cb : Nat} {wn : Nat → Int} (hj : j < 2) (h : At w0 F cb wn j n w) : At w0 F cb wn (1 - j) n w := by
  obtain ⟨x, h1, h2, h3, h4, h5⟩ := h
  have e : 1 - (1 - j) = j := by omega
  exact ⟨x.sw, sw_I hj h1, h2, h4.1, ⟨by rw [e]; exact h3, h4.2.2, h4.2.1⟩, sw_st hj h5⟩
theorem At.to {cb : Nat} {wn : Nat → Int} (hj : j < 2) (h : At w0 F cb wn j n w) {i : Nat} (hi : i < 2) : At w0 F cb wn i n w := by
  by_cases hij : i = j
  · subst hij; exact h
  · have : i = 1 - j := by omega
    rw [this]; exact h.swap hj
theorem LnI.mono (h : LnI j n x) {m : Nat} (hm : n ≤ m) : LnI j m x := ⟨h.we, h.wf, h.ef, h.fe, h.me, h.mf, h.pe, h.pf, h.see, h.sef, h.sep, h.tos, h.pl, Nat.le_trans h.ne hm, Nat.le_trans h.nf hm⟩
theorem At.mono {cb : Nat} {wn : Nat → Int} (h : At w0 F cb wn j n w) {m : Nat} (hm : n ≤ m) : At w0 F cb wn j m w := by
  obtain ⟨x, h1, r⟩ := h
  exact ⟨x, h1.mono hm, r⟩
theorem room_ln (h : St w0 w (lnG j x F)) (hw : x.e.wf) : CallK Try.prog (.int .i64) 12 #[.pointer x.e.p] w fun (v : Int) w' => v = x.e.room ∧ St w0 w' (lnG j x F) := by
  have h := h.ord 2 [1, 0]
  dsimp only [lnG, pick, nthO, dropO] at h
  refine (room_st h hw).mono ?_
  intro (v : Int) w1 ⟨hv, h⟩
  have h := h.ord 2 [1, 0]
  dsimp only [pick, nthO, dropO] at h
  exact ⟨hv, h⟩
theorem tick_ln (h : St w0 w (lnG j x F)) (hw : x.e.wf) : CallK Try.prog (.tup .nilT) 20 #[.pointer x.e.p] w fun (_ : Unit) w' => St w0 w' (lnG j { x with e := x.e.tick } F) := by
  have h := h.ord 3 [1, 2, 0]
  dsimp only [lnG, pick, nthO, dropO] at h
  refine (tick_st' h hw).mono ?_
  intro _ w1 h
  have h := h.ord 3 [2, 0, 1]
  dsimp only [pick, nthO, dropO] at h
  exact h
theorem send_ln {t : Sl} {l : List UInt8} (h : St w0 w ([brow (t, l ++ mks)] :: lnG j x F)) (htl : t.len = l.length + 3) (hw : x.e.wf) (hl : l.length ≤ 140737488351232) : CallK Try.prog (.int .i64) 23 #[.pointer x.e.p, .slice (subS t 0 l.length 1).a (subS t 0 l.length 1).len (subS t 0 l.length 1).cap] w
    fun (v : Int) w' => v = x.e.refuse l ∧ (v ≠ 0 → St w0 w' ([brow (t, l ++ mks)] :: lnG j x F)) ∧ (v = 0 → ∃ s, St w0 w' ([brow (t, l ++ mks)] :: lnG j { x with e := x.e.sent s l } F)) := by
  have h := h.ord 4 [2, 3, 0, 1]
  dsimp only [lnG, pick, nthO, dropO] at h
  refine (send_st h hw (lent_sees htl) hl).mono ?_
  intro (v : Int) w1 ⟨hv, h1, h2⟩
  refine ⟨hv, fun hne => ?_, fun h0 => ?_⟩
  · have h := (h1 hne).ord 4 [2, 3, 0, 1]
    dsimp only [pick, nthO, dropO] at h
    exact h
  · obtain ⟨s, h⟩ := h2 h0
    have h := h.ord 4 [2, 3, 0, 1]
    dsimp only [pick, nthO, dropO] at h
    exact ⟨s, h⟩
theorem out_ln (h : St w0 w (lnG j x F)) (hw : x.e.wf) : CallK Try.prog .sl 13 #[.pointer x.e.p] w
    fun (o : Sl) w' => ∃ us gs, gs.map Sg.pl = x.e.tells x.e.outs ∧ o.len = gs.length ∧ St w0 w' (outE o gs :: outD gs :: lnG j { x with e := x.e.outed us } F) := by
  have h := h.ord 3 [1, 2, 0]
  dsimp only [lnG, pick, nthO, dropO] at h
  refine (out_st h hw).mono ?_
  rintro o w1 ⟨us, gs, h1, h2, h⟩
  have h := h.ord 5 [2, 3, 4, 0, 1]
  dsimp only [pick, nthO, dropO] at h
  exact ⟨us, gs, h1, h2, h⟩
theorem under_ln (h : St w0 w (lnG j x F)) (hw : x.e.wf) : CallK Try.prog .sl 14 #[.pointer x.e.p] w
    fun (o : Sl) w' => ∃ gs, gs.map Sg.pl = x.e.tells x.e.un ∧ o.len = gs.length ∧ St w0 w' (outE o gs :: outD gs :: lnG j x F) := by
  have h := h.ord 3 [1, 2, 0]
  dsimp only [lnG, pick, nthO, dropO] at h
  refine (under_st h hw).mono ?_
  rintro o w1 ⟨gs, h1, h2, h⟩
  have h := h.ord 5 [2, 3, 4, 0, 1]
  dsimp only [pick, nthO, dropO] at h
  exact ⟨gs, h1, h2, h⟩
theorem sound_st (hj : j < 2) (h : St w0 w (lnG j x F)) (hI : LnI j n x) (hn : n ≤ 1048576) : CallK Try.prog .bool 19 #[.pointer (some ⟨x.cb, 0, none⟩), .int .i64 (j : Int), .int .i64 (x.e.win : Int)] w
    fun (r : Bool) w' => r = true ∧ St w0 w' (lnG j x F) := by
  have hroom : x.e.room = (x.e.win : Int) - x.e.bx.length - x.e.un.length := rfl
  have hcnt := hI.we.cnt; have hwin := hI.we.win; have hlow := hI.we.low
  have hlast := hI.ef.last
  have hdone := hI.ef.done
  rw [List.length_map] at hlast
  refine T19.calls ?_
  unfold T19
  refine NilP.mk ?_
  refine RunN.arr (ha := add_lit' _ _ _) j rfl hj ?_
  refine h.loadB 0 0 (j := 0 + 0 + j) ⟨_, rfl, rfl⟩ rfl (kd := .ptr) (x := x.e.p) (c_e hj) ?_
  refine (room_ln h hI.we).mono ?_
  intro (v : Int) w1 ⟨hv, h⟩
  refine NilP.mk ?_
  refine RunN.arr (ha := add_lit' _ _ _) j rfl hj ?_
  refine h.loadB 0 0 (j := 0 + 0 + j) ⟨_, rfl, rfl⟩ rfl (kd := .ptr) (x := x.e.p) (c_e hj) ?_
  refine (under_ln h hI.we).mono ?_
  rintro o w2 ⟨gs, hgs, hol, h⟩
  have hgl : gs.length = x.e.un.length := by have := congrArg List.length hgs; simpa [Lk.tells] using this
  have h := (h.drop 0).drop 0
  dsimp only [delO] at h
  have hop : IntKind.i64.wrap ((x.e.win : Int) - v) = (x.e.bx.length : Int) + x.e.un.length := by rw [hv, hroom, wr (by omega)]; omega
  rw [hop]
  rw [SplitB_iff]
  refine ⟨fun _ => ?_, fun hf => ?_⟩
  rotate_left
  · have : ¬ (x.e.bx.length : Int) + x.e.un.length ≥ (o.len : Int) := of_decide_eq_false hf
    omega
  rw [SplitB_iff]
  refine ⟨fun _ => ?_, fun hf => ?_⟩
  rotate_left
  · have : ¬ (x.e.bx.length : Int) + x.e.un.length ≤ (x.e.win : Int) := of_decide_eq_false hf
    omega
  refine NilP.mk ?_
  refine ReadN.arr (ha := add_lit' _ _ _) j rfl hj ?_
  refine h.drew.readB 0 0 (j := 0 + 2 + j) ⟨_, rfl, rfl⟩ rfl (kd := .sl) (x := x.ie.1) (by rw [Nat.zero_add]; exact c_ie hj) ?_
  have hil := lsl_rd (h.drew.rd (k := 7) (i := 0) (E := 45) (sz := 1) (s := x.ie.1) (vs := lsl x.ie.2) ⟨_, rfl, rfl⟩)
  refine NilP.mk ?_
  refine ReadN.arr (ha := add_lit' _ _ _) j rfl hj ?_
  refine h.drew.readB 0 0 (j := 0 + 4 + j) ⟨_, rfl, rfl⟩ rfl (kd := .int .i64) (x := (x.oe : Int)) (by rw [Nat.zero_add]; exact c_oe hj) ?_
  have hili : (x.ie.1.len : Int) = x.ie.2.length := by omega
  have hne := hI.ne
  rw [hili, wr (x := (x.ie.2.length : Int) - ((x.e.bx.length : Int) + x.e.un.length)) (by omega), SplitB_iff]
  refine ⟨fun _ => ?_, fun hf => ?_⟩
  rotate_left
  · have : ¬ (x.ie.2.length : Int) - ((x.e.bx.length : Int) + x.e.un.length) ≤ (x.oe : Int) := of_decide_eq_false hf
    omega
  rw [SplitB_iff]
  refine ⟨fun _ => ⟨rfl, h.drew⟩, fun hf => ?_⟩
  have hf : ¬ (x.e.bx.length : Int) + x.e.un.length = 0 := by simpa using hf
  refine NilP.mk ?_
  refine ReadN.arr (ha := add_lit' _ _ _) j rfl hj ?_
  refine h.drew.readB 0 0 (j := 0 + 2 + j) ⟨_, rfl, rfl⟩ rfl (kd := .sl) (x := x.ie.1) (by rw [Nat.zero_add]; exact c_ie hj) ?_
  refine ⟨?_, h.drew⟩
  exact decide_eq_true (by omega)
end Go.Proofs.Ytodgnpmljdopiaa
