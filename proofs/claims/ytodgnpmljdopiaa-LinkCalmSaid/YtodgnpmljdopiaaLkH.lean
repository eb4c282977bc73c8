/- The link in memory: Take, whole. -/
import Derived.Test.YtodgnpmljdopiaaLkG
namespace Go.Proofs.Ytodgnpmljdopiaa
open Go Go.Fw Go.RowKit
set_option linter.unusedVariables false
set_option linter.unusedSimpArgs false
set_option maxRecDepth 4000
set_option maxHeartbeats 4000000
variable {w0 w : World} {F G : Grps}

/-- What Take leaves. -/
def TakeS (w0 : World) (F : Grps) (e : Lm) (g : Sg) (v : Sl × Int × Unit) (w' : World) : Prop :=
  (e.fits g = false ∧ v = (⟨none, 0, 0⟩, 31, ()) ∧ St w0 w' (lmE e :: dat e.toLk :: ups e.ea :: F)) ∨
  (e.fits g = true ∧ v.2.1 = 0 ∧ ∃ us mc u l, TakeR e.toLk g u l ∧ v.1.len = u.length ∧ St w0 w' (lmE (e.took g us mc u.length l) :: dat (e.took g us mc u.length l).toLk :: ups l :: upE v.1 u :: ups u :: F))
theorem fits_seq {e : Lk} {g : Sg} (h : e.fits g = true) : 0 ≤ g.seq ∧ g.seq ≤ 1099511627776 ∧ 0 ≤ g.ack ∧ g.ack ≤ e.gone ∧ g.d.2.length ≤ 4000 ∧ (0 < g.seq ∨ g.d.2 = []) ∧ g.fr = e.peer ∧ g.to = e.me := by
  simp only [Lk.fits, Bool.and_eq_true, decide_eq_true_eq, Bool.or_eq_true, beq_iff_eq] at h
  obtain ⟨h1, h2, h3, h4, h5, h6, h7, h8⟩ := h
  refine ⟨by omega, h4, by omega, h6, h8, ?_, h1, h2⟩
  rcases h7 with h7 | h7
  · exact .inl (by omega)
  · exact .inr (List.eq_nil_of_length_eq_zero h7)
theorem look_st {e : Lm} (h : St w0 w (lmE e :: F)) (k : Int) {K : Sl × Bool × Unit → Prop} (hK : ∀ s, K (s, decide (∃ x ∈ e.ea, x.1.1 = k), ())) :
    ReadN Try.prog (.tup (.cons .sl (.cons .bool .nilT))) (V (Instr.lookup 76 (.map (some e.mb)) (.int .i64 k) true)) w K := by
  by_cases hx : ∃ x ∈ e.ea, x.1.1 = k
  · have hK := fun s => hK s
    rw [decide_eq_true hx] at hK
    obtain ⟨pre, x, post, hea, hxk, hpre⟩ := split_key hx
    have hme : m1o (e.ea.map eav) e.mc = m1o (pre.map eav ++ (k, .slice x.1.2.1.a x.1.2.1.len x.1.2.1.cap, x.2) :: post.map eav) e.mc := by
      rw [hea, List.map_append, List.map_cons, ← hxk]; rfl
    rw [lmE, hme] at h
    exact h.lookS 0 2 (s := x.1.2.1) ⟨_, rfl, rfl⟩ (noKey_of hpre) map76 int3 (hK _)
  · have hK := fun s => hK s
    rw [decide_eq_false hx] at hK
    exact h.lookN 0 2 ⟨_, rfl, rfl⟩ (noKey_of fun y hy hk => hx ⟨y, hy, hk⟩) map76 int3 zero45 (hK _)
instance (e : Lk) (g : Sg) : Decidable (e.news g) := by unfold Lk.news; exact inferInstance
theorem take_st {e : Lm} (h : St w0 w (lmE e :: dat e.toLk :: ups e.ea :: F)) (hw : e.wf) {g : Sg} (hp : SeesG w0 F g.d.1 1 (bys g.d.2)) (hl : g.d.2.length ≤ 1048576) :
    CallK Try.prog (.tup (.cons .sl (.cons (.int .i64) .nilT))) 26 #[.pointer e.p, .agg #[.int .i64 g.fr, .int .i64 g.to, .int .i64 g.seq, .int .i64 g.ack, .slice g.d.1.a g.d.1.len g.d.1.cap]] w (TakeS w0 F e g) := by
  have hgl : g.d.1.len = g.d.2.length := (hp _ (((h.drop 0).drop 0).drop 0)).bys_len
  have hcnt := hw.cnt; have hwin := hw.win; have hwant := hw.want
  refine T26.calls (p1 := sgt g) ?_
  unfold T26
  first | refine h.newB run_boxA rfl ?_ | refine h.drew.newB run_boxA rfl ?_
  intro b3 w h
  have h := h.ord 2 [1, 0]
  dsimp only [pick, nthO, dropO] at h
  refine RunN.of (kd := Kds) (x := sgt g) (h.run_loadA (k := 1) (i := 0) (b := b3) (t := 62) (cs := sgv g) ⟨_, rfl, rfl⟩ (t' := 62) (n := 5) (j := 0) rfl (vs := sgv g) rfl rfl) ?_
  refine (fits_st h hgl).mono ?_
  rintro v w1 ⟨hv, h⟩
  have hv : (v : Bool) = e.fits g := hv
  rw [hv]
  rw [SplitB_iff]
  refine ⟨fun hf => ?_, fun hf => ?_⟩
  · have hf : e.fits g = false := by simpa using hf
    exact .inl ⟨hf, rfl, h.drop 1⟩
  have hf : e.fits g = true := by simpa using hf
  have hfs := fits_seq hf
  have hj := ackd_le e.un g.ack
  refine NilP.mk ?_
  refine h.loadB 0 0 ⟨_, rfl, rfl⟩ rfl (kd := .sl) (x := e.us) rfl ?_
  refine (find_st h (k := 0) (i := 3) (s := e.us) (l := e.un) ⟨_, rfl, rfl⟩ (by omega) (k2 := 1) (i2 := 0) (b := b3) (g := g) ⟨_, rfl, rfl⟩).mono ?_
  intro (v : Int) w2 hvh
  obtain ⟨hv, h⟩ := hvh
  have hv : (v = (ackd e.un g.ack : Nat) ∧ ackd e.un g.ack < e.un.length) ∨ (v = -1 ∧ ackd e.un g.ack = e.un.length) := hv
  refine JoinX.mk (fun (y : Int × Unit) w' => y.1 = (ackd e.un g.ack : Nat) ∧ St w0 w' (lmE e :: [.cel b3 62 (sgv g)] :: dat e.toLk :: ups e.ea :: F)) ?_ ?_
  rotate_left
  · intro k hk
    rw [SplitB_iff]
    refine ⟨fun hc => ?_, fun hc => ?_⟩
    · have hc : (v : Int) < 0 := of_decide_eq_true hc
      refine NilP.mk ?_
      refine h.loadB 0 0 ⟨_, rfl, rfl⟩ rfl (kd := .sl) (x := e.us) rfl ?_
      have hul := us_len (h.rd (k := 0) (i := 3) (E := 81) (sz := 2) (s := e.us) (vs := e.un.flatMap pcv) ⟨_, rfl, rfl⟩)
      exact hk _ _ ⟨by show ((e.us.len : Nat) : Int) = (ackd e.un g.ack : Nat); rw [hul]; rcases hv with h1 | h1 <;> omega, h⟩
    · have hc : ¬ (v : Int) < 0 := of_decide_eq_false hc
      exact hk _ _ ⟨by show (v : Int) = (ackd e.un g.ack : Nat); rcases hv with h1 | h1 <;> omega, h⟩
  clear h hv
  rintro ⟨y, ⟨⟩⟩ w3 ⟨hy, h⟩
  dsimp only at hy
  subst hy
  dsimp only
  refine NilP.mk ?_
  refine h.loadB 0 0 ⟨_, rfl, rfl⟩ rfl (kd := .sl) (x := e.us) rfl ?_
  refine (delete_st h (k := 0) (i := 3) (s := e.us) (l := e.un) ⟨_, rfl, rfl⟩ (by omega) hj).mono ?_
  intro r w4 h
  dsimp only [updG, setO] at h
  refine NilP.mk ?_
  refine h.storB 0 0 ⟨_, rfl, rfl⟩ rfl rfl rfl ?_
  intro w5 h
  dsimp only [updG, setO] at h
  have hd1 : dat e.toLk = ((e.un.take (ackd e.un g.ack)).map fun p => brow p.2) ++ ((e.un.drop (ackd e.un g.ack) ++ e.bx).map fun p => brow p.2) := by
    rw [dat, ← List.map_append, ← List.append_assoc, List.take_append_drop]
  rw [hd1] at h
  have h := dropIn [_, _] h
  -- the link without what is acknowledged
  let e1 : Lm := { e with un := e.un.drop (ackd e.un g.ack), us := r }
  have h : St w0 w5 (lmE e1 :: [.cel b3 62 (sgv g)] :: dat e1.toLk :: ups e.ea :: F) := h
  refine h.loadB 1 0 ⟨_, rfl, rfl⟩ rfl (kd := .int .i64) (x := g.seq) rfl ?_
  rw [SplitB_iff]
  refine ⟨fun hc => ?_, fun hc => ?_⟩
  · have hc : g.seq = 0 := by simpa using hc
    refine .inr ⟨hf, rfl, r, e.mc, [], e.ea, ⟨fun hn => absurd hc hn.1, fun _ => ⟨rfl, rfl⟩⟩, rfl, ?_⟩
    have e2 : e.took g r e.mc ([] : List Ea).length e.ea = e1 := by simp [Lm.took, hc, e1]
    rw [e2]
    have h := (h.drop 1).nilrow 45 1
    have h := h.ord 4 [1, 2, 3, 0]
    dsimp only [pick, nthO, dropO, delO] at h
    exact h.perm (by simp [upE, ups])
  have hc : g.seq ≠ 0 := by intro h0; rw [h0] at hc; simp at hc
  refine NilP.mk ?_
  refine h.storB 0 0 ⟨_, rfl, rfl⟩ rfl rfl rfl ?_
  intro w6 h
  dsimp only [updG, setO] at h
  let e2 : Lm := { e1 with ow := true }
  have h : St w0 w6 (lmE e2 :: [.cel b3 62 (sgv g)] :: dat e2.toLk :: ups e.ea :: F) := h
  have hnil : ∀ {w'}, ¬ e.news g → St w0 w' (lmE e2 :: [.cel b3 62 (sgv g)] :: dat e2.toLk :: ups e.ea :: F) → TakeS w0 F e g (⟨none, 0, 0⟩, 0, ()) w' := by
    intro w' hn h
    refine .inr ⟨hf, rfl, r, e.mc, [], e.ea, ⟨fun hn' => absurd hn' hn, fun _ => ⟨rfl, rfl⟩⟩, rfl, ?_⟩
    have e3 : e.took g r e.mc ([] : List Ea).length e.ea = e2 := by simp [Lm.took, hc, e1, e2]
    rw [e3]
    have h := (h.drop 1).nilrow 45 1
    have h := h.ord 4 [1, 2, 3, 0]
    dsimp only [pick, nthO, dropO, delO] at h
    exact h.perm (by simp [upE, ups])
  refine NilP.mk ?_
  refine h.drew.readB 0 0 ⟨_, rfl, rfl⟩ rfl (kd := .map) (x := some e.mb) rfl ?_
  refine h.drew.readB 1 0 ⟨_, rfl, rfl⟩ rfl (kd := .int .i64) (x := g.seq) rfl ?_
  refine look_st (e := e2) h.drew g.seq ?_
  intro s0
  refine JoinX.mk (fun (y : Bool × Unit) w' => y.1 = !decide (e.news g) ∧ St w0 w' (lmE e2 :: [.cel b3 62 (sgv g)] :: dat e2.toLk :: ups e.ea :: F)) ?_ ?_
  rotate_left
  · intro k hk
    rw [SplitB_iff]
    refine ⟨fun hx => ?_, fun hx => ?_⟩
    · have hx : ∃ x ∈ e.ea, x.1.1 = g.seq := of_decide_eq_true hx
      have hn : ¬ e.news g := fun hn => by obtain ⟨x, h1, h2⟩ := hx; exact hn.2.1 x h1 h2
      exact hk _ _ ⟨by rw [decide_eq_false hn]; rfl, h.drew.drew⟩
    · have hx : ¬ ∃ x ∈ e.ea, x.1.1 = g.seq := of_decide_eq_false hx
      have hx : ∀ x ∈ e.ea, x.1.1 ≠ g.seq := fun x h1 h2 => hx ⟨x, h1, h2⟩
      refine h.drew.drew.readB 1 0 ⟨_, rfl, rfl⟩ rfl (kd := .int .i64) (x := g.seq) rfl ?_
      refine NilP.mk ?_
      refine h.drew.drew.readB 0 0 ⟨_, rfl, rfl⟩ rfl (kd := .int .i64) (x := e.want) rfl ?_
      rw [SplitB_iff]
      refine ⟨fun hlt => ?_, fun hlt => ?_⟩
      · have hlt : g.seq < e.want := of_decide_eq_true hlt
        have hn : ¬ e.news g := fun hn => by have := hn.2.2.1; omega
        exact hk _ _ ⟨by rw [decide_eq_false hn]; rfl, h.drew.drew⟩
      · have hlt : ¬ g.seq < e.want := of_decide_eq_false hlt
        refine h.drew.drew.readB 1 0 ⟨_, rfl, rfl⟩ rfl (kd := .int .i64) (x := g.seq) rfl ?_
        refine NilP.mk ?_
        refine h.drew.drew.readB 0 0 ⟨_, rfl, rfl⟩ rfl (kd := .int .i64) (x := e.want) rfl ?_
        refine NilP.mk ?_
        refine h.drew.drew.readB 0 0 ⟨_, rfl, rfl⟩ rfl (kd := .int .i64) (x := (e.win : Int)) rfl ?_
        refine hk _ _ ⟨?_, h.drew.drew⟩
        dsimp only
        rw [wr (by omega)]
        by_cases hge : g.seq ≥ e.want + e.win
        · have hn : ¬ e.news g := fun hn => by have := hn.2.2.2; omega
          rw [decide_eq_true hge, decide_eq_false hn]; rfl
        · have hn : e.news g := ⟨hc, hx, by omega, by omega⟩
          rw [decide_eq_false hge, decide_eq_true hn]; rfl
  clear h
  rintro ⟨y, ⟨⟩⟩ w7 ⟨hy, h⟩
  dsimp only at hy
  subst hy
  rw [SplitB_iff]
  refine ⟨fun hn => ?_, fun hn => ?_⟩
  · have hn : ¬ e.news g := by simpa using hn
    exact hnil hn h
  have hn : e.news g := by simpa using hn
  refine NilP.mk ?_
  refine h.drew.readB 0 0 ⟨_, rfl, rfl⟩ rfl (kd := .map) (x := some e.mb) rfl ?_
  refine h.drew.readB 1 0 ⟨_, rfl, rfl⟩ rfl (kd := .int .i64) (x := g.seq) rfl ?_
  refine h.drew.readB 1 0 ⟨_, rfl, rfl⟩ rfl (kd := .sl) (x := g.d.1) rfl ?_
  refine (clone_st h.drew (sup (sup (sup (sup hp)))) hl).mono ?_
  intro s w8 h
  refine ⟨h.stillB 2 0 ⟨_, rfl, rfl⟩ rfl rfl, ?_⟩
  refine ⟨h.stillB 1 0 ⟨_, rfl, rfl⟩ rfl rfl, ?_⟩
  refine h.map1Put 1 2 ⟨_, rfl, rfl⟩ (noKey_of hn.2.1) map76 int3 ?_
  intro w9 h
  dsimp only [updG, setO] at h
  let e3 : Lm := { e2 with ea := e.ea ++ [((g.seq, s, g.d.2), e.mc)], mc := e.mc + 1 }
  have h := h.ord 5 [1, 2, 3, 0, 4]
  dsimp only [pick, nthO, dropO] at h
  have h := snocAt [_, _, _] h
  have e4 : ups e3.ea = ups e.ea ++ [brow (s, g.d.2)] := by simp [ups, e3]
  have e5 : lmE e3 = [.cel e.cb 78 (lmC e2), .obj e.ch (.chan e.win ⟨e.bx.map pco⟩ false e.cs e.cr false), .obj e.mb (m1o (e.ea.map eav ++ [(g.seq, .slice s.a s.len s.cap, e.mc)]) (e.mc + 1)), .row 81 2 r ((e.un.drop (ackd e.un g.ack)).flatMap pcv)] := by
    have : (e.ea ++ [((g.seq, s, g.d.2), e.mc)]).map eav = e.ea.map eav ++ [(g.seq, .slice s.a s.len s.cap, e.mc)] := by simp [eav]
    rw [← this]; rfl
  have h : St w0 w9 (lmE e3 :: [.cel b3 62 (sgv g)] :: dat e2.toLk :: ups e3.ea :: F) := by rw [e4, e5]; exact h
  refine rise (e := e3) h ?_ ?_ hwin.2 hwant.1 ?_
  · show ((e.ea ++ [((g.seq, s, g.d.2), e.mc)]).map (·.1.1)).Nodup
    rw [List.map_append, List.nodup_append]
    refine ⟨hw.nodup, by simp, ?_⟩
    intro a ha b hb hab
    obtain ⟨x, hx, rfl⟩ := List.mem_map.1 ha
    simp at hb
    exact hn.2.1 x hx (hab.trans hb)
  · intro x hx
    rcases List.mem_append.1 hx with hx | hx
    · have := hw.erange x hx
      exact ⟨by show e.want ≤ _; omega, this.2.1, this.2.2⟩
    · simp at hx; subst hx
      exact ⟨hn.2.2.1, hn.2.2.2, hfs.2.1⟩
  · intro o u l w' hp2 hk2 hl2 hol h
    refine .inr ⟨hf, rfl, r, e.mc + 1, u, l, ⟨fun _ => ⟨s, e.mc, hp2, hk2, hl2⟩, fun hn' => absurd hn hn'⟩, hol, ?_⟩
    have e6 : e.took g r (e.mc + 1) u.length l = { e3 with want := e3.want + u.length, ea := l } := by simp [Lm.took, hc, e1, e2, e3]
    rw [e6]
    exact h.drop 1
end Go.Proofs.Ytodgnpmljdopiaa
