/- LinkStill. -/
import Derived.Test.YtodgnpmljdopiaaLkN
namespace Go.Proofs.Ytodgnpmljdopiaa
open Go Go.Fw Go.RowKit
set_option linter.unusedVariables false
set_option linter.unusedSimpArgs false
set_option maxRecDepth 4000
set_option maxHeartbeats 4000000
variable {W w0 w : World} {F G : Grps}

def Lk.ticked (e : Lk) : Lk := { e with ag := if e.un.length = 0 then e.ag else if e.ag + 1 ≥ e.res then 0 else e.ag + 1, du := if e.un.length = 0 then e.du else if e.ag + 1 ≥ e.res then true else e.du }
theorem ticked_wf {e : Lk} (hw : e.wf) : e.ticked.wf := by
  have h1 := hw.ag; have h2 := hw.res
  refine ⟨hw.me, hw.peer, hw.win, hw.res, hw.cnt, hw.gone, hw.low, hw.last, hw.want, ?_, hw.seq, hw.lens, hw.elens, hw.erange, hw.nodup⟩
  simp only [Lk.ticked]
  split
  · exact h1
  · split <;> omega
def Lm.tick (e : Lm) : Lm := { e with toLk := e.toLk.ticked }
theorem tick_st' {e : Lm} (h : St w0 w (lmE e :: dat e.toLk :: F)) (hw : e.wf) : CallK Try.prog (.tup .nilT) 20 #[.pointer e.p] w fun (_ : Unit) w' => St w0 w' (lmE e.tick :: dat e.tick.toLk :: F) :=
  tick_st h hw
theorem tmod_step {n q a i : Int} (hn : 1 ≤ n) (hq : 0 ≤ q) (h0 : 0 ≤ a) (h1 : a < n) (hi : i = n * q + (a + 1)) : (Int.tmod i n = 0 ↔ a + 1 = n) := by
  have hnq : 0 ≤ n * q := Int.mul_nonneg (by omega) hq
  rw [Int.tmod_eq_emod_of_nonneg (by omega), hi, Int.add_comm, Int.add_mul_emod_self_left]
  by_cases h : a + 1 = n
  · rw [h, Int.emod_self]; simp
  · rw [Int.emod_eq_of_lt (by omega) (by omega)]; omega
/-- What has been handed in and not acknowledged, in full: its bytes. -/
structure Holds (e : Lk) (a n : Int) (D : List Bs) : Prop where
  me : e.me = 3
  peer : e.peer = 5
  win : (e.win : Int) = a
  res : e.res = n
  want : e.want = 1
  ow : e.ow = false
  du : e.du = false
  last : e.last = D.length
  wf : e.wf
  dat : (e.un ++ e.bx).map (fun p => p.2.2) = D.map (·.2)
theorem Holds.len {e : Lk} {a n : Int} {D : List Bs} (h : Holds e a n D) : e.un.length + e.bx.length = D.length := by
  have := congrArg List.length h.dat
  simpa using this
theorem Holds.tells {e : Lk} {a n : Int} {D : List Bs} (h : Holds e a n D) {gs : List Sg} (hg : gs.map Sg.pl = e.tells (e.un ++ e.bx)) {k : Nat} (hk : k < D.length) : ∃ h : k < gs.length, gs[k].fr = 3 ∧ gs[k].to = 5 ∧ gs[k].seq = k + 1 ∧ gs[k].ack = 0 ∧ gs[k].d.2 = D[k].2 := by
  have hl := h.len
  have hgl : gs.length = e.un.length + e.bx.length := by have := congrArg List.length hg; simpa [Lk.tells] using this
  have hk1 : k < gs.length := by omega
  have hk2 : k < (e.un ++ e.bx).length := by simp; omega
  have h1 : (gs.map Sg.pl)[k]? = (e.tells (e.un ++ e.bx))[k]? := by rw [hg]
  rw [Lk.tells, List.getElem?_map, List.getElem?_map, List.getElem?_eq_getElem hk1, List.getElem?_eq_getElem hk2] at h1
  simp only [Option.map_some, Option.some.injEq, Sg.pl, Prod.mk.injEq] at h1
  obtain ⟨a1, a2, a3, a4, a5⟩ := h1
  have h2 : ((e.un ++ e.bx).map (fun p => p.2.2))[k]? = (D.map (·.2))[k]? := by rw [h.dat]
  rw [List.getElem?_map, List.getElem?_map, List.getElem?_eq_getElem hk, List.getElem?_eq_getElem hk2] at h2
  simp only [Option.map_some, Option.some.injEq] at h2
  have h3 := h.wf.seq k hk2
  have h4 := h.last
  refine ⟨hk1, by rw [a1, h.me], by rw [a2, h.peer], ?_, by rw [a4, h.want]; rfl, by rw [a5, h2]⟩
  rw [a3, h3]; omega
theorem still_st {s : Sl} {L : List Bs} (hs : Rd W s 1 (lsl L)) (hL : ∀ x ∈ L, Rd W x.1 1 (bys x.2)) (hLl : L.length ≤ 4611686018427387904) {p0 p1 p3 : Int} (r0 : -9223372036854775808 ≤ p0 ∧ p0 ≤ 9223372036854775807) (r1 : -9223372036854775808 ≤ p1 ∧ p1 ≤ 9223372036854775807) (r3 : -9223372036854775808 ≤ p3 ∧ p3 ≤ 9223372036854775807) :
    CallK Try.prog .bool 8 #[.int .i64 p0, .int .i64 p1, .slice s.a s.len s.cap, .int .i64 p3] W fun (r : Bool) w' => r = true ∧ Upd W w' nobody := by
  have hsl : s.len = L.length := by have := hs.1; rw [lsl_len] at this; omega
  have h := St.init W
  refine T8.calls ?_
  unfold T8
  refine (alive_st h).mono ?_
  intro (al : Bool) w1 ⟨hal, h⟩
  rw [hal]
  refine (within_st h (by decide) (by decide) (by decide) r0).mono ?_
  intro (a : Int) w2 ⟨ha, h⟩
  have ha1 := wi_in (x := p0) (lo := 1) (hi := 16) (by decide)
  rw [← ha] at ha1
  refine (within_st h (by decide) (by decide) (by decide) r1).mono ?_
  intro (n : Int) w3 ⟨hn, h⟩
  have hn1 := wi_in (x := p1) (lo := 1) (hi := 20) (by decide)
  rw [← hn] at hn1
  refine (new_st h 3 5 a n).mono ?_
  have hE : newE 3 5 a n = 0 := by
    rw [newE, if_neg (by decide), if_neg (by omega)]
  rintro r w4 (⟨hne, _⟩ | ⟨_, e, rfl, he, h⟩)
  · exact absurd hE hne
  have hlw := lk0_wf hE
  have h : St W w4 (lmE e :: dat e.toLk :: []) := by rw [(lk0_dat he).1]; exact h.perm (by simp)
  refine JoinX.mk (fun (y : Bool × Unit) w' => y.1 = false ∧ St W w' (lmE e :: dat e.toLk :: [])) ?_ ?_
  rotate_left
  · intro k hk
    rw [SplitB_iff]
    refine ⟨fun hf => (by cases hf), fun _ => ?_⟩
    rw [SplitB_iff]
    refine ⟨fun hf => (by cases hf), fun _ => ?_⟩
    refine RunN.pEqS ?_
    exact hk _ _ ⟨rfl, h⟩
  clear h
  rintro ⟨y, ⟨⟩⟩ w5 ⟨hy, h⟩
  dsimp only at hy
  subst hy
  rw [SplitB_iff]
  refine ⟨fun hf => (by cases hf), fun _ => ?_⟩
  dsimp only
  -- ticks of an idle link
  have hag0 : e.ag = 0 := by
    have : e.ag = e.toLk.ag := rfl
    rw [this, he]; rfl
  refine LoopX.mk (fun st w' => ∃ (m : Nat) (e1 : Lm), st = ((m : Int), ()) ∧ m ≤ 45 ∧ e1.p = e.p ∧ Holds e1.toLk a n [] ∧ e1.ag = 0 ∧ St W w' (lmE e1 :: dat e1.toLk :: [])) (fun st => 45 - st.1.toNat) ⟨0, e, rfl, by omega, rfl, ?_, hag0, h⟩ ?_
  · rw [he]
    exact ⟨rfl, rfl, hlw.2, rfl, rfl, rfl, rfl, rfl, hlw.1, rfl⟩
  clear h he
  rintro _ w6 ⟨m, e1, rfl, hm, hep, hh, hag, h⟩ k hk
  dsimp only at hk ⊢
  have hll := hh.len
  simp only [List.length_nil] at hll
  rw [← hep]
  rw [SplitB_iff]
  refine ⟨fun hc => ?_, fun hc => ?_⟩
  · have hc : m < 45 := by have : (m : Int) < 45 := of_decide_eq_true hc
                           omega
    have hem : IntKind.i64.wrap ((m : Int) + 1) = ((m + 1 : Nat) : Int) := by rw [wr (by omega)]; omega
    rw [hem]
    refine (tick_st' h hh.wf).mono ?_
    intro _ w7 h
    have hun : e1.un = [] := List.eq_nil_of_length_eq_zero (by omega)
    have hbx : e1.bx = [] := List.eq_nil_of_length_eq_zero (by omega)
    have ht : e1.toLk.ticked = e1.toLk := by rw [Lk.ticked, if_pos (by rw [hun]; rfl), if_pos (by rw [hun]; rfl)]
    have het : e1.tick = e1 := by rw [Lm.tick, ht]
    rw [het] at h
    refine (out_st h hh.wf).mono ?_
    rintro o w8 ⟨us, gs, hgs, hol, h⟩
    have hgs : gs = [] := by
      rw [Lk.outs, hh.ow, hh.du, hbx] at hgs
      simpa [Lk.tells] using hgs
    subst hgs
    have hol : o.len = 0 := hol
    rw [hol, SplitB_iff]
    refine ⟨fun hf => (by cases hf), fun _ => ?_⟩
    have h := h.ord 4 [0, 1]
    dsimp only [pick, nthO, dropO] at h
    refine hk _ _ ⟨m + 1, e1.outed us, rfl, by omega, hep, ?_, ?_, h⟩ (by dsimp only; omega)
    · refine ⟨hh.me, hh.peer, hh.win, hh.res, hh.want, rfl, rfl, hh.last, outed_wf hh.wf us, ?_⟩
      simp [Lm.outed, hun, hbx]
    · simp [Lm.outed, hag]
  clear hc hk hm
  -- data is handed in
  have h := h.nilrow 45 1
  have h := h.ord 3 [1, 2, 0]
  dsimp only [pick, nthO, dropO] at h
  have hun : e1.un = [] := List.eq_nil_of_length_eq_zero (by omega)
  refine LoopX.mk (fun st w' => ∃ (ws : Sl) (m : Nat) (e2 : Lm) (D : List Bs), st = (ws, (m : Int), ()) ∧ m ≤ L.length ∧ (m : Int) ≤ a ∧ D.length ≤ m ∧ ws.len = D.length ∧ (∀ x ∈ D, x ∈ L) ∧ e2.p = e1.p ∧ Holds e2.toLk a n D ∧ e2.un = [] ∧ e2.ag = 0 ∧
      St W w' (lmE e2 :: dat e2.toLk :: [.row 45 1 ws (lsl D)] :: [])) (fun st => 20 - st.2.1.toNat) ⟨_, 0, e1, [], rfl, by omega, by omega, by simp, rfl, fun _ h => (by cases h), rfl, hh, hun, hag, h⟩ ?_
  clear h hh hag hun hll
  rintro _ w7 ⟨ws, m, e2, D, rfl, hm, hma, hDm, hwl, hDL, hep2, hh, hun, hag, h⟩ k hk
  dsimp only at hk ⊢
  have hll := hh.len
  rw [hun] at hll
  simp only [List.length_nil, Nat.zero_add] at hll
  rw [hsl]
  refine JoinX.mk (fun (y : Bool × Unit) w' => y.1 = decide (m < L.length ∧ (m : Int) < a) ∧ St W w' (lmE e2 :: dat e2.toLk :: [.row 45 1 ws (lsl D)] :: [])) ?_ ?_
  rotate_left
  · intro k2 hk2
    rw [SplitB_iff]
    refine ⟨fun hc => ?_, fun hc => ?_⟩
    · have hc : (m : Int) < (L.length : Int) := of_decide_eq_true hc
      refine hk2 _ _ ⟨?_, h⟩
      dsimp only
      exact decide_eq_decide.2 ⟨fun h => ⟨by omega, h⟩, fun h => h.2⟩
    · have hc : ¬ (m : Int) < (L.length : Int) := of_decide_eq_false hc
      refine hk2 _ _ ⟨?_, h⟩
      symm
      exact decide_eq_false (fun h => by omega)
  clear h
  rintro ⟨y, ⟨⟩⟩ w8 ⟨hy, h⟩
  dsimp only at hy
  subst hy
  rw [SplitB_iff]
  refine ⟨fun hc => ?_, fun hc => ?_⟩
  · have hc : m < L.length ∧ (m : Int) < a := of_decide_eq_true hc
    have hem : IntKind.i64.wrap ((m : Int) + 1) = ((m + 1 : Nat) : Int) := by rw [wr (by omega)]; omega
    rw [hem]
    refine JoinX.mk (fun (y : Sl × Unit) w' => ∃ (e3 : Lm) (D' : List Bs), D'.length ≤ m + 1 ∧ y.1.len = D'.length ∧ (∀ x ∈ D', x ∈ L) ∧ e3.p = e1.p ∧ Holds e3.toLk a n D' ∧ e3.un = [] ∧ e3.ag = 0 ∧
      St W w' (lmE e3 :: dat e3.toLk :: [.row 45 1 y.1 (lsl D')] :: [])) ?_ ?_
    · rintro ⟨y, ⟨⟩⟩ w9 ⟨e3, D', g1, g2, g3, g4, g5, g6, g7, h⟩
      exact hk _ _ ⟨y, m + 1, e3, D', rfl, by omega, by omega, g1, g2, g3, g4, g5, g6, g7, h⟩ (by dsimp only; omega)
    · intro k9 hk9
      have hrs : ∀ {w'} {G : Grps}, St W w' G → Rd w' s 1 (lsl L) := fun h => h.old hs
      rw [← hsl]
      have hsr := hrs h
      refine hsr.idxK m rfl (by omega) ?_
      intro b0 o0 hsa
      refine hsr.el hsa (m * 1) rfl (kd := .sl) (x := L[m].1) (by rw [Nat.mul_one]; exact lsl_at hc.1) ?_
      have hmem : L[m] ∈ L := List.getElem_mem hc.1
      have hx := hL _ hmem
      have hxl := hx.bys_len
      rw [hxl, SplitB_iff]
      refine ⟨fun hle => ?_, fun hle => ?_⟩
      · have hle : L[m].2.length ≤ 4000 := by have : (L[m].2.length : Int) ≤ 4000 := of_decide_eq_true hle
                                              omega
        have hsr := hrs h.drew
        refine hsr.idxR m rfl (by omega) ?_
        intro b1 o1 hsa1
        refine hsr.elR hsa1 (m * 1) rfl (kd := .sl) (x := L[m].1) (by rw [Nat.mul_one]; exact lsl_at hc.1) ?_
        refine hsr.idxR m rfl (by omega) ?_
        intro b2 o2 hsa2
        refine hsr.elR hsa2 (m * 1) rfl (kd := .sl) (x := L[m].1) (by rw [Nat.mul_one]; exact lsl_at hc.1) ?_
        refine (lend_st h.drew (p := L[m].1) (l := L[m].2) (fun w h => h.old hx) (by omega)).mono ?_
        intro t w10 ⟨htl, h⟩
        have hsr := hrs h
        refine ⟨StillV.el hsr hsa2 (m * 1) rfl (by rw [Nat.mul_one]; exact lsl_at hc.1), ?_⟩
        refine ⟨StillV.idx hsr hsa2 m rfl (by omega), ?_⟩
        refine ReadN.sH L[m].2.length (by rw [hxl]) (by have := (h.rd (k := 0) (i := 0) (E := 5) (sz := 1) (s := t) (vs := bys (L[m].2 ++ mks)) ⟨_, rfl, rfl⟩).2.2; omega) ?_
        have h := h.ord 4 [1, 2, 0, 3]
        dsimp only [pick, nthO, dropO] at h
        rw [← hep2]
        refine (send_st h hh.wf (p := subS t 0 L[m].2.length 1) (l := L[m].2) (lent_sees htl) (by omega)).mono ?_
        intro (v : Int) w11 ⟨hv, _, h⟩
        have hroom : e2.room = (e2.win : Int) - e2.bx.length - e2.un.length := rfl
        have hw9 := hh.win
        have hla := hh.last
        have href : e2.refuse L[m].2 = 0 := by
          rw [Lk.refuse, if_neg (by omega), if_neg (by rw [hroom, hun]; simp; omega)]
        have hv : v = 0 := hv.trans href
        obtain ⟨s1, h⟩ := h hv
        rw [hv, SplitB_iff]
        refine ⟨fun hf => (by cases hf), fun _ => ?_⟩
        have hsr := hrs h
        refine hsr.idxK m rfl (by omega) ?_
        intro b3 o3 hsa3
        refine hsr.el hsa3 (m * 1) rfl (kd := .sl) (x := L[m].1) (by rw [Nat.mul_one]; exact lsl_at hc.1) ?_
        refine h.newS 1 (bs51 _ _ _ _) rfl rfl rfl ?_
        intro u w12 hu1 hu2 _ h
        refine h.app 4 0 ⟨_, rfl, rfl⟩ (h.rd (k := 0) (i := 0) ⟨_, rfl, rfl⟩) (fun v hv => by simp at hv; subst hv; rfl) (by simp only [maxLen]; omega) (by omega) ?_
        intro ws' w13 hl13 h
        have h := h.ord 5 [1, 2, 4]
        dsimp only [pick, nthO, dropO, updG, setO] at h
        refine hk9 _ _ ⟨e2.sent s1 L[m].2, D ++ [L[m]], by simp; omega, by simp; omega, fun x hx => ?_, hep2, ?_, hun, hag, ?_⟩
        · rcases List.mem_append.1 hx with hx | hx
          · exact hDL x hx
          · simp at hx; subst hx; exact hmem
        · refine ⟨hh.me, hh.peer, hh.win, hh.res, hh.want, hh.ow, hh.du, ?_, sent_wf hh.wf s1 href, ?_⟩
          · simp [Lm.sent]; omega
          · have := hh.dat
            rw [hun, List.nil_append] at this
            simp [Lm.sent, hun, this]
        · rw [lsl_snoc]; exact h
      · refine hk9 _ _ ⟨e2, D, by omega, hwl, hDL, hep2, hh, hun, hag, h⟩
  clear hk hc
  rw [← hep2]
  refine (out_st h hh.wf).mono ?_
  rintro o w9 ⟨us, gs, hgs, hol, h⟩
  have hgl : gs.length = D.length := by
    have := congrArg List.length hgs
    rw [Lk.outs, hh.ow, hh.du] at this
    simp [Lk.tells] at this
    omega
  have hoi : (o.len : Int) = (D.length : Int) := by omega
  have hwi : (ws.len : Int) = (D.length : Int) := by omega
  rw [hoi, hwi, SplitB_iff]
  refine ⟨fun hf => by simp at hf, fun _ => ?_⟩
  have h := h.ord 5 [0, 1, 4]
  dsimp only [pick, nthO, dropO] at h
  have hh3 : Holds (e2.outed us).toLk a n D := by
    refine ⟨hh.me, hh.peer, hh.win, hh.res, hh.want, rfl, rfl, hh.last, outed_wf hh.wf us, ?_⟩
    have := hh.dat
    simpa [Lm.outed] using this
  have hres := hh.res
  have hagz : (e2.outed us).ag = 0 := by simp [Lm.outed, hag]
  refine LoopX.mk (fun st w' => ∃ (i : Nat) (e4 : Lm) (q : Int), st = ((i : Int), ()) ∧ 1 ≤ i ∧ i ≤ 61 ∧ e4.p = e2.p ∧ Holds e4.toLk a n D ∧ e4.bx = [] ∧ 0 ≤ q ∧ 0 ≤ e4.ag ∧ e4.ag < n ∧ (0 < D.length → (i : Int) = n * q + (e4.ag + 1)) ∧
      St W w' (lmE e4 :: dat e4.toLk :: [.row 45 1 ws (lsl D)] :: [])) (fun st => 100 - st.1.toNat) ⟨1, e2.outed us, 0, rfl, by omega, by omega, rfl, hh3, rfl, by omega, by omega, by omega, fun _ => by rw [hagz]; simp, h⟩ ?_
  clear h hh3 hagz hh hag hll hgs hol
  rintro _ w10 ⟨i, e4, q, rfl, hi1, hi2, hep4, hh, hbx, hq, hag0, hagn, hiq, h⟩ k hk
  dsimp only at hk ⊢
  refine (within_st h (by decide) (by decide) (by decide) r3).mono ?_
  intro (t : Int) w11 ⟨ht, h⟩
  have ht1 := wi_in (x := p3) (lo := 1) (hi := 60) (by decide)
  rw [← ht] at ht1
  have hll := hh.len
  have hun : e4.un.length = D.length := by rw [hbx] at hll; simpa using hll
  have hres4 := hh.res
  rw [← hep4, SplitB_iff]
  refine ⟨fun hc => ?_, fun hc => ?_⟩
  · have hc : (i : Int) ≤ t := of_decide_eq_true hc
    have hem : IntKind.i64.wrap ((i : Int) + 1) = ((i + 1 : Nat) : Int) := by rw [wr (by omega)]; omega
    rw [hem]
    refine JoinX.mk (fun (y : Unit) w' => ∃ (e5 : Lm) (q' : Int), e5.p = e2.p ∧ Holds e5.toLk a n D ∧ e5.bx = [] ∧ 0 ≤ q' ∧ 0 ≤ e5.ag ∧ e5.ag < n ∧ (0 < D.length → ((i + 1 : Nat) : Int) = n * q' + (e5.ag + 1)) ∧ St W w' (lmE e5 :: dat e5.toLk :: [.row 45 1 ws (lsl D)] :: [])) ?_ ?_
    · rintro ⟨⟩ w12 ⟨e5, q', g1, g2, g3, g4, g5, g6, g7, h⟩
      exact hk _ _ ⟨i + 1, e5, q', rfl, by omega, by omega, g1, g2, g3, g4, g5, g6, g7, h⟩ (by dsimp only; omega)
    intro k13 hk13
    refine (tick_st' h hh.wf).mono ?_
    intro _ w12 h
    refine (out_st (e := e4.tick) h (ticked_wf hh.wf)).mono ?_
    rintro o w13 ⟨us4, gs, hgs, hol, h⟩
    have hfin : ∀ {w'}, St W w' (lmE (e4.tick.outed us4) :: dat (e4.tick.outed us4).toLk :: outE o gs :: outD gs :: [.row 45 1 ws (lsl D)] :: []) → k13 () w' := by
      intro w' h
      have h := h.ord 5 [0, 1, 4]
      dsimp only [pick, nthO, dropO] at h
      have hu5 : (e4.tick.outed us4).un = e4.un := by
        show e4.un ++ e4.bx = e4.un
        rw [hbx, List.append_nil]
      have hag5 : (e4.tick.outed us4).ag = e4.tick.ag := by
        show (if e4.un.length = 0 ∧ 0 < e4.bx.length then 0 else e4.tick.ag) = e4.tick.ag
        rw [hbx, if_neg (by simp)]
      have htag : e4.tick.ag = if e4.un.length = 0 then e4.ag else if e4.ag + 1 ≥ e4.res then 0 else e4.ag + 1 := rfl
      have hH : Holds (e4.tick.outed us4).toLk a n D := by
        refine ⟨hh.me, hh.peer, hh.win, hh.res, hh.want, rfl, rfl, hh.last, outed_wf (e := e4.tick) (ticked_wf hh.wf) us4, ?_⟩
        have := hh.dat
        simpa [Lm.outed, Lm.tick, Lk.ticked] using this
      by_cases hz : e4.ag + 1 ≥ n
      · by_cases h0 : e4.un.length = 0
        · refine hk13 _ _ ⟨e4.tick.outed us4, q, hep4, hH, rfl, hq, by rw [hag5, htag, if_pos h0]; exact hag0, by rw [hag5, htag, if_pos h0]; exact hagn, fun hD => by omega, h⟩
        · refine hk13 _ _ ⟨e4.tick.outed us4, q + 1, hep4, hH, rfl, by omega, by rw [hag5, htag, if_neg h0, if_pos (by omega)]; decide, by rw [hag5, htag, if_neg h0, if_pos (by omega)]; omega, fun hD => ?_, h⟩
          rw [hag5, htag, if_neg h0, if_pos (by omega), Int.mul_add]
          have := hiq hD
          omega
      · by_cases h0 : e4.un.length = 0
        · refine hk13 _ _ ⟨e4.tick.outed us4, q, hep4, hH, rfl, hq, by rw [hag5, htag, if_pos h0]; exact hag0, by rw [hag5, htag, if_pos h0]; exact hagn, fun hD => by omega, h⟩
        · refine hk13 _ _ ⟨e4.tick.outed us4, q, hep4, hH, rfl, hq, by rw [hag5, htag, if_neg h0, if_neg (by omega)]; omega, by rw [hag5, htag, if_neg h0, if_neg (by omega)]; omega, fun hD => ?_, h⟩
          rw [hag5, htag, if_neg h0, if_neg (by omega)]
          have := hiq hD
          omega
    have hdu : e4.tick.du = if e4.un.length = 0 then false else decide (e4.ag + 1 = n) := by
      show (if e4.un.length = 0 then e4.du else if e4.ag + 1 ≥ e4.res then true else e4.du) = _
      rw [hh.du]
      split
      · rfl
      · split
        · rw [decide_eq_true (by omega)]
        · rw [decide_eq_false (by omega)]
    have houts : e4.tick.outs = if e4.tick.du = true then e4.un else [] := by
      have h1 : e4.tick.ow = false := hh.ow
      have h2 : e4.tick.bx = [] := hbx
      rw [Lk.outs, h1, h2]
      simp
      rfl
    refine JoinX.mk (fun (y : Bool × Unit) w' => y.1 = decide (¬ (0 < D.length ∧ e4.ag + 1 = n)) ∧ St W w' (lmE (e4.tick.outed us4) :: dat (e4.tick.outed us4).toLk :: outE o gs :: outD gs :: [.row 45 1 ws (lsl D)] :: [])) ?_ ?_
    rotate_left
    · intro k15 hk15
      refine RunN.of (kd := .int .i64) (x := Int.tmod (i : Int) n) (w' := w13) (by simp [binOp, Op.intDiv, show n ≠ 0 by omega, Kd.val]) ?_
      rw [SplitB_iff]
      refine ⟨fun hr => ?_, fun hr => ?_⟩
      · have hr : Int.tmod (i : Int) n ≠ 0 := by simpa using hr
        refine hk15 _ _ ⟨?_, h⟩
        symm
        refine decide_eq_true fun hx => hr ?_
        exact (tmod_step hn1.1 hq hag0 hagn (hiq hx.1)).2 hx.2
      · have hr : Int.tmod (i : Int) n = 0 := by simpa using hr
        refine hk15 _ _ ⟨?_, h⟩
        dsimp only
        by_cases hD : 0 < D.length
        · have := (tmod_step hn1.1 hq hag0 hagn (hiq hD)).1 hr
          rw [decide_eq_false (fun hx => hx ⟨hD, this⟩)]
          exact beq_eq_false_iff_ne.2 (by omega)
        · have hD0 : D.length = 0 := by omega
          rw [hD0, decide_eq_true (by simp)]
          rfl
    clear h
    rintro ⟨y, ⟨⟩⟩ w14 ⟨hy, h⟩
    dsimp only at hy
    subst hy
    rw [SplitB_iff]
    refine ⟨fun hc2 => ?_, fun hc2 => ?_⟩
    · have hc2 : ¬ (0 < D.length ∧ e4.ag + 1 = n) := of_decide_eq_true hc2
      have hdf : e4.tick.du = false := by
        rw [hdu]
        split
        · rfl
        · exact decide_eq_false (by omega)
      have hg0 : gs = [] := by
        rw [houts, hdf] at hgs
        simpa [Lk.tells] using hgs
      have ho0 : o.len = 0 := by rw [hol, hg0]; rfl
      rw [ho0, SplitB_iff]
      refine ⟨fun hf => (by cases hf), fun _ => ?_⟩
      exact hfin h
    · have hc2 : 0 < D.length ∧ e4.ag + 1 = n := by
        have := of_decide_eq_false hc2
        exact Classical.not_not.1 this
      have hdf : e4.tick.du = true := by
        rw [hdu, if_neg (by omega)]
        exact decide_eq_true hc2.2
      have hgs' : gs.map Sg.pl = e4.tells (e4.un ++ e4.bx) := by
        rw [hgs, houts, hdf, hbx, List.append_nil]; rfl
      have hgl : gs.length = D.length := by
        have := congrArg List.length hgs'
        simp [Lk.tells] at this
        omega
      have hoi : (o.len : Int) = (D.length : Int) := by omega
      rw [hoi, SplitB_iff]
      refine ⟨fun hf => by simp at hf, fun _ => ?_⟩
      refine LoopX.mk (fun st w' => ∃ (m : Nat), st = ((m : Int), ()) ∧ m ≤ D.length ∧ St W w' (lmE (e4.tick.outed us4) :: dat (e4.tick.outed us4).toLk :: outE o gs :: outD gs :: [.row 45 1 ws (lsl D)] :: [])) (fun st => D.length - st.1.toNat) ⟨0, rfl, Nat.zero_le _, h⟩ ?_
      clear h
      rintro _ w15 ⟨m, rfl, hm, h⟩ k18 hk18
      dsimp only at hk18 ⊢
      rw [SplitB_iff]
      refine ⟨fun hc3 => ?_, fun hc3 => ?_⟩
      · have hc3 : m < D.length := by have : (m : Int) < (D.length : Int) := of_decide_eq_true hc3
                                      omega
        have hcnt := hh.wf.cnt; have hwin := hh.wf.win
        have hem : IntKind.i64.wrap ((m : Int) + 1) = ((m + 1 : Nat) : Int) := by rw [wr (by omega)]; omega
        rw [hem]
        obtain ⟨hgm, t1, t2, t3, t4, t5⟩ := hh.tells hgs' hc3
        refine JoinX.mk (fun (y : Bool × Unit) w' => y.1 = false ∧ St W w' (lmE (e4.tick.outed us4) :: dat (e4.tick.outed us4).toLk :: outE o gs :: outD gs :: [.row 45 1 ws (lsl D)] :: [])) ?_ ?_
        · rintro ⟨y, ⟨⟩⟩ w16 ⟨hy, h⟩
          dsimp only at hy
          subst hy
          rw [SplitB_iff]
          refine ⟨fun hf => (by cases hf), fun _ => ?_⟩
          exact hk18 _ _ ⟨m + 1, rfl, by omega, h⟩ (by dsimp only; omega)
        · intro k19 hk19
          have hrr := h.drew.rd (k := 2) (i := 0) (E := 62) (sz := 5) (s := o) (vs := gs.flatMap sgv) ⟨_, rfl, rfl⟩
          have hcell : ∀ j, j < 5 → (gs.flatMap sgv)[m * 5 + j]? = (sgv gs[m])[j]? := fun j hj => flat_cell sgv_len hgm j hj
          refine hrr.idxR m rfl (by omega) ?_
          intro b1 o1 ha1
          refine hrr.elR ha1 (m * 5 + 2) (by rw [add_lit', Nat.add_assoc]) (kd := .int .i64) (x := gs[m].seq) (by rw [hcell 2 (by decide)]; rfl) ?_
          rw [t3, SplitB_iff]
          refine ⟨fun hf => by simp at hf, fun _ => ?_⟩
          refine hrr.idxR m rfl (by omega) ?_
          intro b2 o2 ha2
          refine hrr.elR ha2 (m * 5 + 3) (by rw [add_lit', Nat.add_assoc]) (kd := .int .i64) (x := gs[m].ack) (by rw [hcell 3 (by decide)]; rfl) ?_
          rw [t4, SplitB_iff]
          refine ⟨fun hf => (by cases hf), fun _ => ?_⟩
          refine hrr.idxR m rfl (by omega) ?_
          intro b3 o3 ha3
          refine hrr.elR ha3 (m * 5 + 0) (by rw [add_lit', Nat.add_assoc]) (kd := .int .i64) (x := gs[m].fr) (by rw [hcell 0 (by decide)]; rfl) ?_
          rw [t1, SplitB_iff]
          refine ⟨fun hf => (by cases hf), fun _ => ?_⟩
          refine hrr.idxR m rfl (by omega) ?_
          intro b4 o4 ha4
          refine hrr.elR ha4 (m * 5 + 1) (by rw [add_lit', Nat.add_assoc]) (kd := .int .i64) (x := gs[m].to) (by rw [hcell 1 (by decide)]; rfl) ?_
          rw [t2, SplitB_iff]
          refine ⟨fun hf => (by cases hf), fun _ => ?_⟩
          refine hrr.idxR m rfl (by omega) ?_
          intro b5 o5 ha5
          refine hrr.elR ha5 (m * 5 + 4) (by rw [add_lit', Nat.add_assoc]) (kd := .sl) (x := gs[m].d.1) (by rw [hcell 4 (by decide)]; rfl) ?_
          have hwr := h.drew.rd (k := 4) (i := 0) (E := 45) (sz := 1) (s := ws) (vs := lsl D) ⟨_, rfl, rfl⟩
          refine hwr.idxR m rfl (by omega) ?_
          intro b6 o6 ha6
          refine hwr.elR ha6 (m * 1) rfl (kd := .sl) (x := D[m].1) (by rw [Nat.mul_one]; exact lsl_at hc3) ?_
          have hp1 : Rd w15.drew gs[m].d.1 1 (bys gs[m].d.2) :=
            ((h.drew.memG (k := 3) rfl (List.mem_map.2 ⟨gs[m], List.getElem_mem hgm, rfl⟩) : (brow gs[m].d).ok w15.drew W.heap.size)).1.rd
          rw [t5] at hp1
          refine (same_ok hp1 (h.drew.old (hL _ (hDL _ (List.getElem_mem hc3))))).mono ?_
          rintro r3 w16 ⟨rfl, hr3⟩
          have hr3 : (r3 : Bool) = true := by rw [hr3]; simp
          rw [hr3]
          exact hk19 _ _ ⟨rfl, h.drew⟩
      · exact hfin h
  · refine (under_st h hh.wf).mono ?_
    rintro o w12 ⟨gs, hgs, hol, h⟩
    have hgl : gs.length = D.length := by
      have := congrArg List.length hgs
      simp [Lk.tells] at this
      omega
    refine ⟨?_, h.upd⟩
    rw [hol, hgl]
    simp
theorem law8 {s : Sl} {L : List Bs} (hs : Rd W s 1 (lsl L) ∧ ∀ x ∈ L, Rd W x.1 1 (bys x.2)) (hLl : L.length ≤ 4611686018427387904) {p0 p1 p3 : Int} (r0 : -9223372036854775808 ≤ p0 ∧ p0 ≤ 9223372036854775807) (r1 : -9223372036854775808 ≤ p1 ∧ p1 ≤ 9223372036854775807) (r3 : -9223372036854775808 ≤ p3 ∧ p3 ≤ 9223372036854775807) :
    CallK Try.prog .bool 8 #[.int .i64 p0, .int .i64 p1, .slice s.a s.len s.cap, .int .i64 p3] W fun (r : Bool) w' => Upd W w' nobody ∧ r = true :=
  (still_st hs.1 hs.2 hLl r0 r1 r3).mono fun _ _ h => ⟨h.2, h.1⟩
end Go.Proofs.Ytodgnpmljdopiaa
