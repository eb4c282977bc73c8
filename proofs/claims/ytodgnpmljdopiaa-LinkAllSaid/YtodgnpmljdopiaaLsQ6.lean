/- Words and steps, part 6: The link in memory: Take, whole. The link in memory: New, of the program and of the document; an end. The link: the examples. The link: what its calls keep true. The link: the document's examples come out so. LinkNews. What a law of the link reads of its arguments. The link's laws: what is lent; numbers brought into range. LinkStill. What a law of the link reads of its arguments: lists of bytes. Plain law of a pair of links: one direction. -/
import Derived.Test.YtodgnpmljdopiaaRows
import Derived.Test.YtodgnpmljdopiaaProg
import Derived.Test.YtodgnpmljdopiaaLsQ5
/- The link in memory: Take, whole. -/
namespace Go.Proofs.Ytodgnpmljdopiaa
open Go Go.Fw Go.RowKit
set_option linter.unusedVariables false
set_option linter.unusedSimpArgs false
set_option maxRecDepth 4000
set_option maxHeartbeats 4000000
variable {w0 w : World} {F G : Grps}

/-- What Take leaves. -/
def TakeS (w0 : World) (F : Grps) (e : Lm) (g : Sg) (v : Sl × Int × Unit) (w' : World) : Prop :=
  (e.fits g = false ∧ v = (⟨none, 0, 0⟩, 31, ()) ∧ St w0 w' (lmE e :: dat e.toLk :: ups e.ea :: F)) ∨
  (e.fits g = true ∧ v.2.1 = 0 ∧ ∃ us mc u l, TakeR e.toLk g u l ∧ v.1.len = u.length ∧ St w0 w' (lmE (e.took g us mc u.length l) :: dat (e.took g us mc u.length l).toLk :: ups l :: upE v.1 u :: ups u :: F))
theorem fits_seq {e : Lk} {g : Sg} (h : e.fits g = true) : 0 ≤ g.seq ∧ g.seq ≤ 1099511627776 ∧ 0 ≤ g.ack ∧ g.ack ≤ e.gone ∧ g.d.2.length ≤ 4000 ∧ (0 < g.seq ∨ g.d.2 = []) ∧ g.fr = e.peer ∧ g.to = e.me := by
  simp only [Lk.fits, Bool.and_eq_true, decide_eq_true_eq, Bool.or_eq_true, beq_iff_eq] at h
  obtain ⟨h1, h2, h3, h4, h5, h6, h7, h8⟩ := h
  refine ⟨by omega, h4, by omega, h6, h8, ?_, h1, h2⟩
  rcases h7 with h7 | h7
  · exact .inl (by omega)
  · exact .inr (List.eq_nil_of_length_eq_zero h7)
theorem look_st {e : Lm} (h : St w0 w (lmE e :: F)) (k : Int) {K : Sl × Bool × Unit → Prop} (hK : ∀ s, K (s, decide (∃ x ∈ e.ea, x.1.1 = k), ())) :
    ReadN Try.prog (.tup (.cons .sl (.cons .bool .nilT))) (V (Instr.lookup 76 (.map (some e.mb)) (.int .i64 k) true)) w K := by
  by_cases hx : ∃ x ∈ e.ea, x.1.1 = k
  · have hK := fun s => hK s
    rw [decide_eq_true hx] at hK
    obtain ⟨pre, x, post, hea, hxk, hpre⟩ := split_key hx
    have hme : m1o (e.ea.map eav) e.mc = m1o (pre.map eav ++ (k, .slice x.1.2.1.a x.1.2.1.len x.1.2.1.cap, x.2) :: post.map eav) e.mc := by
      rw [hea, List.map_append, List.map_cons, ← hxk]; rfl
    rw [lmE, hme] at h
    exact h.lookS 0 2 (s := x.1.2.1) ⟨_, rfl, rfl⟩ (noKey_of hpre) map76 int3 (hK _)
  · have hK := fun s => hK s
    rw [decide_eq_false hx] at hK
    exact h.lookN 0 2 ⟨_, rfl, rfl⟩ (noKey_of fun y hy hk => hx ⟨y, hy, hk⟩) map76 int3 zero45 (hK _)
instance (e : Lk) (g : Sg) : Decidable (e.news g) := by unfold Lk.news; exact inferInstance
theorem take_st {e : Lm} (h : St w0 w (lmE e :: dat e.toLk :: ups e.ea :: F)) (hw : e.wf) {g : Sg} (hp : SeesG w0 F g.d.1 1 (bys g.d.2)) (hl : g.d.2.length ≤ 140737488355328) :
    CallK Try.prog (.tup (.cons .sl (.cons (.int .i64) .nilT))) 26 #[.pointer e.p, .agg #[.int .i64 g.fr, .int .i64 g.to, .int .i64 g.seq, .int .i64 g.ack, .slice g.d.1.a g.d.1.len g.d.1.cap]] w (TakeS w0 F e g) := by
  have hgl : g.d.1.len = g.d.2.length := (hp _ (((h.drop 0).drop 0).drop 0)).bys_len
  have hcnt := hw.cnt; have hwin := hw.win; have hwant := hw.want
  refine T26.calls (p1 := sgt g) ?_
  unfold T26
  first | refine h.newB run_boxA rfl ?_ | refine h.drew.newB run_boxA rfl ?_
  intro b3 w h
  have h := h.ord 2 [1, 0]
  dsimp only [pick, nthO, dropO] at h
  refine RunN.of (kd := Kds) (x := sgt g) (h.run_loadA (k := 1) (i := 0) (b := b3) (t := 62) (cs := sgv g) ⟨_, rfl, rfl⟩ (t' := 62) (n := 5) (j := 0) rfl (vs := sgv g) rfl rfl) ?_
  refine (fits_st h hgl).mono ?_
  rintro v w1 ⟨hv, h⟩
  have hv : (v : Bool) = e.fits g := hv
  rw [hv]
  rw [SplitB_iff]
  refine ⟨fun hf => ?_, fun hf => ?_⟩
  · have hf : e.fits g = false := by simpa using hf
    exact .inl ⟨hf, rfl, h.drop 1⟩
  have hf : e.fits g = true := by simpa using hf
  have hfs := fits_seq hf
  have hj := ackd_le e.un g.ack
  refine NilP.mk ?_
  refine h.loadB 0 0 ⟨_, rfl, rfl⟩ rfl (kd := .sl) (x := e.us) rfl ?_
  refine (find_st h (k := 0) (i := 3) (s := e.us) (l := e.un) ⟨_, rfl, rfl⟩ (by omega) (k2 := 1) (i2 := 0) (b := b3) (g := g) ⟨_, rfl, rfl⟩).mono ?_
  intro (v : Int) w2 hvh
  obtain ⟨hv, h⟩ := hvh
  have hv : (v = (ackd e.un g.ack : Nat) ∧ ackd e.un g.ack < e.un.length) ∨ (v = -1 ∧ ackd e.un g.ack = e.un.length) := hv
  refine JoinX.mk (fun (y : Int × Unit) w' => y.1 = (ackd e.un g.ack : Nat) ∧ St w0 w' (lmE e :: [.cel b3 62 (sgv g)] :: dat e.toLk :: ups e.ea :: F)) ?_ ?_
  rotate_left
  · intro k hk
    rw [SplitB_iff]
    refine ⟨fun hc => ?_, fun hc => ?_⟩
    · have hc : (v : Int) < 0 := of_decide_eq_true hc
      refine NilP.mk ?_
      refine h.loadB 0 0 ⟨_, rfl, rfl⟩ rfl (kd := .sl) (x := e.us) rfl ?_
      have hul := us_len (h.rd (k := 0) (i := 3) (E := 81) (sz := 2) (s := e.us) (vs := e.un.flatMap pcv) ⟨_, rfl, rfl⟩)
      exact hk _ _ ⟨by show ((e.us.len : Nat) : Int) = (ackd e.un g.ack : Nat); rw [hul]; rcases hv with h1 | h1 <;> omega, h⟩
    · have hc : ¬ (v : Int) < 0 := of_decide_eq_false hc
      exact hk _ _ ⟨by show (v : Int) = (ackd e.un g.ack : Nat); rcases hv with h1 | h1 <;> omega, h⟩
  clear h hv
  rintro ⟨y, ⟨⟩⟩ w3 ⟨hy, h⟩
  dsimp only at hy
  subst hy
  dsimp only
  refine NilP.mk ?_
  refine h.loadB 0 0 ⟨_, rfl, rfl⟩ rfl (kd := .sl) (x := e.us) rfl ?_
  refine (delete_st h (k := 0) (i := 3) (s := e.us) (l := e.un) ⟨_, rfl, rfl⟩ (by omega) hj).mono ?_
  intro r w4 h
  dsimp only [updG, setO] at h
  refine NilP.mk ?_
  refine h.storB 0 0 ⟨_, rfl, rfl⟩ rfl rfl rfl ?_
  intro w5 h
  dsimp only [updG, setO] at h
  have hd1 : dat e.toLk = ((e.un.take (ackd e.un g.ack)).map fun p => brow p.2) ++ ((e.un.drop (ackd e.un g.ack) ++ e.bx).map fun p => brow p.2) := by
    rw [dat, ← List.map_append, ← List.append_assoc, List.take_append_drop]
  rw [hd1] at h
  have h := dropIn [_, _] h
  -- the link without what is acknowledged
  let e1 : Lm := { e with un := e.un.drop (ackd e.un g.ack), us := r }
  have h : St w0 w5 (lmE e1 :: [.cel b3 62 (sgv g)] :: dat e1.toLk :: ups e.ea :: F) := h
  refine h.loadB 1 0 ⟨_, rfl, rfl⟩ rfl (kd := .int .i64) (x := g.seq) rfl ?_
  rw [SplitB_iff]
  refine ⟨fun hc => ?_, fun hc => ?_⟩
  · have hc : g.seq = 0 := by simpa using hc
    refine .inr ⟨hf, rfl, r, e.mc, [], e.ea, ⟨fun hn => absurd hc hn.1, fun _ => ⟨rfl, rfl⟩⟩, rfl, ?_⟩
    have e2 : e.took g r e.mc ([] : List Ea).length e.ea = e1 := by simp [Lm.took, hc, e1]
    rw [e2]
    have h := (h.drop 1).nilrow 45 1
    have h := h.ord 4 [1, 2, 3, 0]
    dsimp only [pick, nthO, dropO, delO] at h
    exact h.perm (by simp [upE, ups])
  have hc : g.seq ≠ 0 := by intro h0; rw [h0] at hc; simp at hc
  refine NilP.mk ?_
  refine h.storB 0 0 ⟨_, rfl, rfl⟩ rfl rfl rfl ?_
  intro w6 h
  dsimp only [updG, setO] at h
  let e2 : Lm := { e1 with ow := true }
  have h : St w0 w6 (lmE e2 :: [.cel b3 62 (sgv g)] :: dat e2.toLk :: ups e.ea :: F) := h
  have hnil : ∀ {w'}, ¬ e.news g → St w0 w' (lmE e2 :: [.cel b3 62 (sgv g)] :: dat e2.toLk :: ups e.ea :: F) → TakeS w0 F e g (⟨none, 0, 0⟩, 0, ()) w' := by
    intro w' hn h
    refine .inr ⟨hf, rfl, r, e.mc, [], e.ea, ⟨fun hn' => absurd hn' hn, fun _ => ⟨rfl, rfl⟩⟩, rfl, ?_⟩
    have e3 : e.took g r e.mc ([] : List Ea).length e.ea = e2 := by simp [Lm.took, hc, e1, e2]
    rw [e3]
    have h := (h.drop 1).nilrow 45 1
    have h := h.ord 4 [1, 2, 3, 0]
    dsimp only [pick, nthO, dropO, delO] at h
    exact h.perm (by simp [upE, ups])
  refine NilP.mk ?_
  refine h.drew.readB 0 0 ⟨_, rfl, rfl⟩ rfl (kd := .map) (x := some e.mb) rfl ?_
  refine h.drew.readB 1 0 ⟨_, rfl, rfl⟩ rfl (kd := .int .i64) (x := g.seq) rfl ?_
  refine look_st (e := e2) h.drew g.seq ?_
  intro s0
  refine JoinX.mk (fun (y : Bool × Unit) w' => y.1 = !decide (e.news g) ∧ St w0 w' (lmE e2 :: [.cel b3 62 (sgv g)] :: dat e2.toLk :: ups e.ea :: F)) ?_ ?_
  rotate_left
  · intro k hk
    rw [SplitB_iff]
    refine ⟨fun hx => ?_, fun hx => ?_⟩
    · have hx : ∃ x ∈ e.ea, x.1.1 = g.seq := of_decide_eq_true hx
      have hn : ¬ e.news g := fun hn => by obtain ⟨x, h1, h2⟩ := hx; exact hn.2.1 x h1 h2
      exact hk _ _ ⟨by rw [decide_eq_false hn]; rfl, h.drew.drew⟩
    · have hx : ¬ ∃ x ∈ e.ea, x.1.1 = g.seq := of_decide_eq_false hx
      have hx : ∀ x ∈ e.ea, x.1.1 ≠ g.seq := fun x h1 h2 => hx ⟨x, h1, h2⟩
      refine h.drew.drew.readB 1 0 ⟨_, rfl, rfl⟩ rfl (kd := .int .i64) (x := g.seq) rfl ?_
      refine NilP.mk ?_
      refine h.drew.drew.readB 0 0 ⟨_, rfl, rfl⟩ rfl (kd := .int .i64) (x := e.want) rfl ?_
      rw [SplitB_iff]
      refine ⟨fun hlt => ?_, fun hlt => ?_⟩
      · have hlt : g.seq < e.want := of_decide_eq_true hlt
        have hn : ¬ e.news g := fun hn => by have := hn.2.2.1; omega
        exact hk _ _ ⟨by rw [decide_eq_false hn]; rfl, h.drew.drew⟩
      · have hlt : ¬ g.seq < e.want := of_decide_eq_false hlt
        refine h.drew.drew.readB 1 0 ⟨_, rfl, rfl⟩ rfl (kd := .int .i64) (x := g.seq) rfl ?_
        refine NilP.mk ?_
        refine h.drew.drew.readB 0 0 ⟨_, rfl, rfl⟩ rfl (kd := .int .i64) (x := e.want) rfl ?_
        refine NilP.mk ?_
        refine h.drew.drew.readB 0 0 ⟨_, rfl, rfl⟩ rfl (kd := .int .i64) (x := (e.win : Int)) rfl ?_
        refine hk _ _ ⟨?_, h.drew.drew⟩
        dsimp only
        rw [wr (by omega)]
        by_cases hge : g.seq ≥ e.want + e.win
        · have hn : ¬ e.news g := fun hn => by have := hn.2.2.2; omega
          rw [decide_eq_true hge, decide_eq_false hn]; rfl
        · have hn : e.news g := ⟨hc, hx, by omega, by omega⟩
          rw [decide_eq_false hge, decide_eq_true hn]; rfl
  clear h
  rintro ⟨y, ⟨⟩⟩ w7 ⟨hy, h⟩
  dsimp only at hy
  subst hy
  rw [SplitB_iff]
  refine ⟨fun hn => ?_, fun hn => ?_⟩
  · have hn : ¬ e.news g := by simpa using hn
    exact hnil hn h
  have hn : e.news g := by simpa using hn
  refine NilP.mk ?_
  refine h.drew.readB 0 0 ⟨_, rfl, rfl⟩ rfl (kd := .map) (x := some e.mb) rfl ?_
  refine h.drew.readB 1 0 ⟨_, rfl, rfl⟩ rfl (kd := .int .i64) (x := g.seq) rfl ?_
  refine h.drew.readB 1 0 ⟨_, rfl, rfl⟩ rfl (kd := .sl) (x := g.d.1) rfl ?_
  refine (clone_st h.drew (sup (sup (sup (sup hp)))) (by have := hfs.2.2.2.2.1; omega)).mono ?_
  intro s w8 h
  refine ⟨h.stillB 2 0 ⟨_, rfl, rfl⟩ rfl rfl, ?_⟩
  refine ⟨h.stillB 1 0 ⟨_, rfl, rfl⟩ rfl rfl, ?_⟩
  refine h.map1Put 1 2 ⟨_, rfl, rfl⟩ (noKey_of hn.2.1) map76 int3 ?_
  intro w9 h
  dsimp only [updG, setO] at h
  let e3 : Lm := { e2 with ea := e.ea ++ [((g.seq, s, g.d.2), e.mc)], mc := e.mc + 1 }
  have h := h.ord 5 [1, 2, 3, 0, 4]
  dsimp only [pick, nthO, dropO] at h
  have h := snocAt [_, _, _] h
  have e4 : ups e3.ea = ups e.ea ++ [brow (s, g.d.2)] := by simp [ups, e3]
  have e5 : lmE e3 = [.cel e.cb 78 (lmC e2), .obj e.ch (.chan e.win ⟨e.bx.map pco⟩ false e.cs e.cr false), .obj e.mb (m1o (e.ea.map eav ++ [(g.seq, .slice s.a s.len s.cap, e.mc)]) (e.mc + 1)), .row 81 2 r ((e.un.drop (ackd e.un g.ack)).flatMap pcv)] := by
    have : (e.ea ++ [((g.seq, s, g.d.2), e.mc)]).map eav = e.ea.map eav ++ [(g.seq, .slice s.a s.len s.cap, e.mc)] := by simp [eav]
    rw [← this]; rfl
  have h : St w0 w9 (lmE e3 :: [.cel b3 62 (sgv g)] :: dat e2.toLk :: ups e3.ea :: F) := by rw [e4, e5]; exact h
  refine rise (e := e3) h ?_ ?_ hwin.2 hwant.1 ?_
  · show ((e.ea ++ [((g.seq, s, g.d.2), e.mc)]).map (·.1.1)).Nodup
    rw [List.map_append, List.nodup_append]
    refine ⟨hw.nodup, by simp, ?_⟩
    intro a ha b hb hab
    obtain ⟨x, hx, rfl⟩ := List.mem_map.1 ha
    simp at hb
    exact hn.2.1 x hx (hab.trans hb)
  · intro x hx
    rcases List.mem_append.1 hx with hx | hx
    · have := hw.erange x hx
      exact ⟨by show e.want ≤ _; omega, this.2.1, this.2.2⟩
    · simp at hx; subst hx
      exact ⟨hn.2.2.1, hn.2.2.2, hfs.2.1⟩
  · intro o u l w' hp2 hk2 hl2 hol h
    refine .inr ⟨hf, rfl, r, e.mc + 1, u, l, ⟨fun _ => ⟨s, e.mc, hp2, hk2, hl2⟩, fun hn' => absurd hn hn'⟩, hol, ?_⟩
    have e6 : e.took g r (e.mc + 1) u.length l = { e3 with want := e3.want + u.length, ea := l } := by simp [Lm.took, hc, e1, e2, e3]
    rw [e6]
    exact h.drop 1
end Go.Proofs.Ytodgnpmljdopiaa

/- The link in memory: New, of the program and of the document; an end. -/
namespace Go.Proofs.Ytodgnpmljdopiaa
open Go Go.Fw Go.RowKit
set_option linter.unusedVariables false
set_option linter.unusedSimpArgs false
set_option maxRecDepth 4000
set_option maxHeartbeats 2000000
variable {w0 w : World} {F G : Grps}

def newE (p0 p1 p2 p3 : Int) : Int := if p0 < 0 ∨ p0 ≥ 16 ∨ p1 < 0 ∨ p1 ≥ 16 ∨ p0 = p1 then 3 else if p2 < 1 ∨ p2 > 16 ∨ p3 < 1 ∨ p3 > 1000 then 1 else 0
/-- A new link. -/
def lk0 (p0 p1 p2 p3 : Int) : Lk := ⟨p0, p1, p2.toNat, p3, 0, 0, 1, false, false, 0, [], [], []⟩
theorem lk0_wf {p0 p1 p2 p3 : Int} (h : newE p0 p1 p2 p3 = 0) : (lk0 p0 p1 p2 p3).wf ∧ ((lk0 p0 p1 p2 p3).win : Int) = p2 := by
  rw [newE] at h
  split at h
  · cases h
  · split at h
    · cases h
    · refine ⟨⟨by dsimp only [lk0]; omega, by dsimp only [lk0]; omega, by dsimp only [lk0]; omega, by dsimp only [lk0]; omega, by simp [lk0], rfl, by simp [lk0], by simp [lk0], by simp [lk0], by simp [lk0], ?_, ?_, ?_, ?_, by simp [lk0]⟩, by dsimp only [lk0]; omega⟩
      · intro i hi; simp [lk0] at hi
      · intro p hp; simp [lk0] at hp
      · intro p hp; simp [lk0] at hp
      · intro p hp; simp [lk0] at hp
theorem mkch1 (w : World) : (Instr.makeChan 74 (.int .i64 ((1 : Nat) : Int))).run Try.prog w = .ok (.chan (some w.heap.size)) (w.alloc (.chan 1 #[] false 0 0 false)) := by kernel_rfl
theorem mkch2 (w : World) : (Instr.makeChan 74 (.int .i64 ((2 : Nat) : Int))).run Try.prog w = .ok (.chan (some w.heap.size)) (w.alloc (.chan 2 #[] false 0 0 false)) := by kernel_rfl
theorem mkch3 (w : World) : (Instr.makeChan 74 (.int .i64 ((3 : Nat) : Int))).run Try.prog w = .ok (.chan (some w.heap.size)) (w.alloc (.chan 3 #[] false 0 0 false)) := by kernel_rfl
theorem mkch4 (w : World) : (Instr.makeChan 74 (.int .i64 ((4 : Nat) : Int))).run Try.prog w = .ok (.chan (some w.heap.size)) (w.alloc (.chan 4 #[] false 0 0 false)) := by kernel_rfl
theorem mkch5 (w : World) : (Instr.makeChan 74 (.int .i64 ((5 : Nat) : Int))).run Try.prog w = .ok (.chan (some w.heap.size)) (w.alloc (.chan 5 #[] false 0 0 false)) := by kernel_rfl
theorem mkch6 (w : World) : (Instr.makeChan 74 (.int .i64 ((6 : Nat) : Int))).run Try.prog w = .ok (.chan (some w.heap.size)) (w.alloc (.chan 6 #[] false 0 0 false)) := by kernel_rfl
theorem mkch7 (w : World) : (Instr.makeChan 74 (.int .i64 ((7 : Nat) : Int))).run Try.prog w = .ok (.chan (some w.heap.size)) (w.alloc (.chan 7 #[] false 0 0 false)) := by kernel_rfl
theorem mkch8 (w : World) : (Instr.makeChan 74 (.int .i64 ((8 : Nat) : Int))).run Try.prog w = .ok (.chan (some w.heap.size)) (w.alloc (.chan 8 #[] false 0 0 false)) := by kernel_rfl
theorem mkch9 (w : World) : (Instr.makeChan 74 (.int .i64 ((9 : Nat) : Int))).run Try.prog w = .ok (.chan (some w.heap.size)) (w.alloc (.chan 9 #[] false 0 0 false)) := by kernel_rfl
theorem mkch10 (w : World) : (Instr.makeChan 74 (.int .i64 ((10 : Nat) : Int))).run Try.prog w = .ok (.chan (some w.heap.size)) (w.alloc (.chan 10 #[] false 0 0 false)) := by kernel_rfl
theorem mkch11 (w : World) : (Instr.makeChan 74 (.int .i64 ((11 : Nat) : Int))).run Try.prog w = .ok (.chan (some w.heap.size)) (w.alloc (.chan 11 #[] false 0 0 false)) := by kernel_rfl
theorem mkch12 (w : World) : (Instr.makeChan 74 (.int .i64 ((12 : Nat) : Int))).run Try.prog w = .ok (.chan (some w.heap.size)) (w.alloc (.chan 12 #[] false 0 0 false)) := by kernel_rfl
theorem mkch13 (w : World) : (Instr.makeChan 74 (.int .i64 ((13 : Nat) : Int))).run Try.prog w = .ok (.chan (some w.heap.size)) (w.alloc (.chan 13 #[] false 0 0 false)) := by kernel_rfl
theorem mkch14 (w : World) : (Instr.makeChan 74 (.int .i64 ((14 : Nat) : Int))).run Try.prog w = .ok (.chan (some w.heap.size)) (w.alloc (.chan 14 #[] false 0 0 false)) := by kernel_rfl
theorem mkch15 (w : World) : (Instr.makeChan 74 (.int .i64 ((15 : Nat) : Int))).run Try.prog w = .ok (.chan (some w.heap.size)) (w.alloc (.chan 15 #[] false 0 0 false)) := by kernel_rfl
theorem mkch16 (w : World) : (Instr.makeChan 74 (.int .i64 ((16 : Nat) : Int))).run Try.prog w = .ok (.chan (some w.heap.size)) (w.alloc (.chan 16 #[] false 0 0 false)) := by kernel_rfl
theorem mkch (w : World) (n : Nat) (hn : 1 ≤ n ∧ n ≤ 16) : (Instr.makeChan 74 (.int .i64 (n : Int))).run Try.prog w = .ok (.chan (some w.heap.size)) (w.alloc (.chan n #[] false 0 0 false)) := by
  have : n = 1 ∨ n = 2 ∨ n = 3 ∨ n = 4 ∨ n = 5 ∨ n = 6 ∨ n = 7 ∨ n = 8 ∨ n = 9 ∨ n = 10 ∨ n = 11 ∨ n = 12 ∨ n = 13 ∨ n = 14 ∨ n = 15 ∨ n = 16 := by omega
  rcases this with rfl | rfl | rfl | rfl | rfl | rfl | rfl | rfl | rfl | rfl | rfl | rfl | rfl | rfl | rfl | rfl
  · exact mkch1 w
  · exact mkch2 w
  · exact mkch3 w
  · exact mkch4 w
  · exact mkch5 w
  · exact mkch6 w
  · exact mkch7 w
  · exact mkch8 w
  · exact mkch9 w
  · exact mkch10 w
  · exact mkch11 w
  · exact mkch12 w
  · exact mkch13 w
  · exact mkch14 w
  · exact mkch15 w
  · exact mkch16 w
theorem mkchan (h : St w0 w F) {n : Nat} (hn : 1 ≤ n ∧ n ≤ 16) {K : Option Nat → World → Prop} (hk : ∀ ch w', St w0 w' ([.obj ch (.chan n ⟨[]⟩ false 0 0 false)] :: F) → K (some ch) w') : RunN Try.prog .chan (V (Instr.makeChan 74 (.int .i64 (n : Int)))) w K := by
  exact RunN.of (kd := .chan) (x := some w.heap.size) (w' := w.alloc (.chan n #[] false 0 0 false)) (mkch w n hn) (hk _ _ (h.newOb _))
def badN (p0 p1 : Int) : Prop := p0 < 0 ∨ p0 ≥ 16 ∨ p1 < 0 ∨ p1 ≥ 16 ∨ p0 = p1
def badA (p2 p3 : Int) : Prop := p2 < 1 ∨ p2 > 16 ∨ p3 < 1 ∨ p3 > 1000
instance (a b : Int) : Decidable (badN a b) := by unfold badN; exact inferInstance
instance (a b : Int) : Decidable (badA a b) := by unfold badA; exact inferInstance
theorem new_st (h : St w0 w F) (p0 p1 p2 p3 : Int) : CallK Try.prog (.tup (.cons .ptr (.cons (.int .i64) .nilT))) 22 #[.int .i64 p0, .int .i64 p1, .int .i64 p2, .int .i64 p3] w fun (r : Option Addr × Int × Unit) w' =>
    (newE p0 p1 p2 p3 ≠ 0 ∧ r = (none, newE p0 p1 p2 p3, ()) ∧ St w0 w' F) ∨
    (newE p0 p1 p2 p3 = 0 ∧ ∃ e : Lm, r = (e.p, 0, ()) ∧ e.toLk = lk0 p0 p1 p2 p3 ∧ St w0 w' (lmE e :: F)) := by
  refine T22.calls ?_
  unfold T22
  refine JoinX.mk (fun (y : Bool × Unit) w' => y.1 = decide (badN p0 p1) ∧ St w0 w' F) ?_ ?_
  · rintro ⟨y, ⟨⟩⟩ w2 ⟨hy, h⟩
    dsimp only at hy
    subst hy
    rw [SplitB_iff]
    refine ⟨fun h1 => ?_, fun h1 => ?_⟩
    · have h1 := of_decide_eq_true h1
      have e : newE p0 p1 p2 p3 = 3 := if_pos h1
      exact .inl ⟨by rw [e]; decide, by rw [e], h⟩
    have h1 := of_decide_eq_false h1
    refine JoinX.mk (fun (y : Bool × Unit) w' => y.1 = decide (badA p2 p3) ∧ St w0 w' F) ?_ ?_
    · rintro ⟨y, ⟨⟩⟩ w3 ⟨hy, h⟩
      dsimp only at hy
      subst hy
      rw [SplitB_iff]
      refine ⟨fun h2 => ?_, fun h2 => ?_⟩
      · have h2 := of_decide_eq_true h2
        have e : newE p0 p1 p2 p3 = 1 := (if_neg h1).trans (if_pos h2)
        exact .inl ⟨by rw [e]; decide, by rw [e], h⟩
      have h2 := of_decide_eq_false h2
      have e : newE p0 p1 p2 p3 = 0 := (if_neg h1).trans (if_neg h2)
      simp only [badA, not_or] at h2
      obtain ⟨n, rfl⟩ := Int.eq_ofNat_of_zero_le (show 0 ≤ p2 by omega)
      refine mkchan h (by omega) ?_
      intro ch w4 h
      refine h.newMap1 ?_
      intro mb w5 h
      refine h.newB run_boxA rfl ?_
      intro cb w6 h
      have h := h.nilrow 81 2
      refine .inr ⟨e, ⟨lk0 p0 p1 n p3, cb, ch, 0, 0, mb, 0, ⟨none, 0, 0⟩⟩, rfl, rfl, ?_⟩
      have h := h.ord 4 [1, 3, 2, 0]
      dsimp only [pick, nthO, dropO] at h
      exact h.perm (by simp [lmE, lmC, lk0])
    · intro k hk
      rw [SplitB_iff]
      refine ⟨fun g1 => ?_, fun g1 => ?_⟩
      · exact hk _ _ ⟨by have g1 := of_decide_eq_true g1; simp [badA, g1], h⟩
      rw [SplitB_iff]
      refine ⟨fun g2 => ?_, fun g2 => ?_⟩
      · exact hk _ _ ⟨by have g2 := of_decide_eq_true g2; simp [badA, g2], h⟩
      rw [SplitB_iff]
      refine ⟨fun g3 => ?_, fun g3 => ?_⟩
      · exact hk _ _ ⟨by have g3 := of_decide_eq_true g3; simp [badA, g3], h⟩
      · exact hk _ _ ⟨by have g1 := of_decide_eq_false g1; have g2 := of_decide_eq_false g2; have g3 := of_decide_eq_false g3; simp [badA, g1, g2, g3], h⟩
  · intro k hk
    rw [SplitB_iff]
    refine ⟨fun g1 => ?_, fun g1 => ?_⟩
    · exact hk _ _ ⟨by have g1 := of_decide_eq_true g1; simp [badN, g1], h⟩
    rw [SplitB_iff]
    refine ⟨fun g2 => ?_, fun g2 => ?_⟩
    · exact hk _ _ ⟨by have g2 := of_decide_eq_true g2; simp [badN, g2], h⟩
    rw [SplitB_iff]
    refine ⟨fun g3 => ?_, fun g3 => ?_⟩
    · exact hk _ _ ⟨by have g3 := of_decide_eq_true g3; simp [badN, g3], h⟩
    rw [SplitB_iff]
    refine ⟨fun g4 => ?_, fun g4 => ?_⟩
    · exact hk _ _ ⟨by have g4 := of_decide_eq_true g4; simp [badN, g4], h⟩
    · exact hk _ _ ⟨by have g1 := of_decide_eq_false g1; have g2 := of_decide_eq_false g2; have g3 := of_decide_eq_false g3; have g4 := of_decide_eq_false g4; simp [badN, g1, g2, g3, g4]; rfl, h⟩
def rl0 (p0 p1 p2 p3 : Int) : List Value := [.int .i64 p0, .int .i64 p1, .int .i64 p2, .int .i64 p3, .slice none 0 0, .int .i64 0, .int .i64 0, .slice none 0 0, .int .i64 1, .bool false, .bool false, .int .i64 0]
theorem rnew_st (h : St w0 w F) (p0 p1 p2 p3 : Int) : CallK Try.prog (.tup (.cons .ptr (.cons (.int .i64) .nilT))) 27 #[.int .i64 p0, .int .i64 p1, .int .i64 p2, .int .i64 p3] w fun (r : Option Addr × Int × Unit) w' =>
    (newE p0 p1 p2 p3 ≠ 0 ∧ r = (none, newE p0 p1 p2 p3, ()) ∧ St w0 w' F) ∨
    (newE p0 p1 p2 p3 = 0 ∧ ∃ rb, r = (some ⟨rb, 0, none⟩, 0, ()) ∧ St w0 w' ([.cel rb 95 (rl0 p0 p1 p2 p3)] :: F)) := by
  refine T27.calls ?_
  unfold T27
  refine JoinX.mk (fun (y : Bool × Unit) w' => y.1 = decide (badN p0 p1) ∧ St w0 w' F) ?_ ?_
  · rintro ⟨y, ⟨⟩⟩ w2 ⟨hy, h⟩
    dsimp only at hy
    subst hy
    rw [SplitB_iff]
    refine ⟨fun h1 => ?_, fun h1 => ?_⟩
    · have h1 := of_decide_eq_true h1
      have e : newE p0 p1 p2 p3 = 3 := if_pos h1
      exact .inl ⟨by rw [e]; decide, by rw [e], h⟩
    have h1 := of_decide_eq_false h1
    refine JoinX.mk (fun (y : Bool × Unit) w' => y.1 = decide (badA p2 p3) ∧ St w0 w' F) ?_ ?_
    · rintro ⟨y, ⟨⟩⟩ w3 ⟨hy, h⟩
      dsimp only at hy
      subst hy
      rw [SplitB_iff]
      refine ⟨fun h2 => ?_, fun h2 => ?_⟩
      · have h2 := of_decide_eq_true h2
        have e : newE p0 p1 p2 p3 = 1 := (if_neg h1).trans (if_pos h2)
        exact .inl ⟨by rw [e]; decide, by rw [e], h⟩
      have h2 := of_decide_eq_false h2
      have e : newE p0 p1 p2 p3 = 0 := (if_neg h1).trans (if_neg h2)
      refine h.newB run_boxA rfl ?_
      intro rb w6 h
      exact .inr ⟨e, rb, rfl, h⟩
    · intro k hk
      rw [SplitB_iff]
      refine ⟨fun g1 => ?_, fun g1 => ?_⟩
      · exact hk _ _ ⟨by have g1 := of_decide_eq_true g1; simp [badA, g1], h⟩
      rw [SplitB_iff]
      refine ⟨fun g2 => ?_, fun g2 => ?_⟩
      · exact hk _ _ ⟨by have g2 := of_decide_eq_true g2; simp [badA, g2], h⟩
      rw [SplitB_iff]
      refine ⟨fun g3 => ?_, fun g3 => ?_⟩
      · exact hk _ _ ⟨by have g3 := of_decide_eq_true g3; simp [badA, g3], h⟩
      · exact hk _ _ ⟨by have g1 := of_decide_eq_false g1; have g2 := of_decide_eq_false g2; have g3 := of_decide_eq_false g3; simp [badA, g1, g2, g3], h⟩
  · intro k hk
    rw [SplitB_iff]
    refine ⟨fun g1 => ?_, fun g1 => ?_⟩
    · exact hk _ _ ⟨by have g1 := of_decide_eq_true g1; simp [badN, g1], h⟩
    rw [SplitB_iff]
    refine ⟨fun g2 => ?_, fun g2 => ?_⟩
    · exact hk _ _ ⟨by have g2 := of_decide_eq_true g2; simp [badN, g2], h⟩
    rw [SplitB_iff]
    refine ⟨fun g3 => ?_, fun g3 => ?_⟩
    · exact hk _ _ ⟨by have g3 := of_decide_eq_true g3; simp [badN, g3], h⟩
    rw [SplitB_iff]
    refine ⟨fun g4 => ?_, fun g4 => ?_⟩
    · exact hk _ _ ⟨by have g4 := of_decide_eq_true g4; simp [badN, g4], h⟩
    · exact hk _ _ ⟨by have g1 := of_decide_eq_false g1; have g2 := of_decide_eq_false g2; have g3 := of_decide_eq_false g3; have g4 := of_decide_eq_false g4; simp [badN, g1, g2, g3, g4]; rfl, h⟩
/-- An end: where its parts are. -/
def endC (xb : Nat) (e : Lm) (rb sb bb : Nat) : Ent := .cel xb 31 [.pointer e.p, .pointer (some ⟨rb, 0, none⟩), .pointer (some ⟨sb, 0, none⟩), .pointer (some ⟨bb, 0, none⟩)]
theorem made_st (h : St w0 w F) (p0 p1 p2 p3 : Int) : CallK Try.prog (.tup (.cons .ptr (.cons .bool .nilT))) 10 #[.int .i64 p0, .int .i64 p1, .int .i64 p2, .int .i64 p3] w fun (r : Option Addr × Bool × Unit) w' =>
    (newE p0 p1 p2 p3 ≠ 0 ∧ r = (none, true, ()) ∧ St w0 w' F) ∨
    (newE p0 p1 p2 p3 = 0 ∧ ∃ (xb rb sb bb : Nat) (e : Lm), r = (some ⟨xb, 0, none⟩, true, ()) ∧ e.toLk = lk0 p0 p1 p2 p3 ∧
      St w0 w' (lmE e :: [endC xb e rb sb bb] :: [.cel rb 95 (rl0 p0 p1 p2 p3)] :: [.cel sb 70 [.slice none 0 0, .int .i64 0]] :: [.cel bb 73 [.slice none 0 0, .int .i64 0]] :: F)) := by
  refine T10.calls ?_
  unfold T10
  refine (new_st h p0 p1 p2 p3).mono ?_
  rintro r1 w1 (⟨hn, rfl, h⟩ | ⟨hn, e, rfl, he, h⟩)
  · refine (rnew_st h p0 p1 p2 p3).mono ?_
    rintro r2 w2 (⟨_, rfl, h⟩ | ⟨hn', _⟩)
    rotate_left
    · exact absurd hn' hn
    refine JoinX.mk (fun (y : Bool × Unit) w' => y.1 = false ∧ St w0 w' F) ?_ ?_
    · rintro ⟨y, ⟨⟩⟩ w3 ⟨hy, h⟩
      dsimp only at hy
      subst hy
      rw [SplitB_iff]
      refine ⟨fun hf => (by cases hf), fun _ => ?_⟩
      refine JoinX.mk (fun (y : Bool × Unit) w' => y.1 = true ∧ St w0 w' F) ?_ ?_
      · rintro ⟨y, ⟨⟩⟩ w3 ⟨hy, h⟩
        dsimp only at hy
        subst hy
        rw [SplitB_iff]
        refine ⟨fun _ => ?_, fun hf => (by cases hf)⟩
        exact .inl ⟨hn, rfl, h⟩
      · intro k hk
        refine RunN.pEqN ?_
        rw [SplitB_iff]
        refine ⟨fun _ => ?_, fun hf => (by cases hf)⟩
        exact hk _ _ ⟨rfl, h⟩
    · intro k hk
      rw [SplitB_iff]
      refine ⟨fun hf => ?_, fun _ => ?_⟩
      · simp at hf
      refine RunN.pEqN ?_
      refine RunN.pEqN ?_
      exact hk _ _ ⟨rfl, h⟩
  · refine (rnew_st h p0 p1 p2 p3).mono ?_
    rintro r2 w2 (⟨hn', _⟩ | ⟨_, rb, rfl, h⟩)
    · exact absurd hn hn'
    refine JoinX.mk (fun (y : Bool × Unit) w' => y.1 = false ∧ St w0 w' ([.cel rb 95 (rl0 p0 p1 p2 p3)] :: lmE e :: F)) ?_ ?_
    · rintro ⟨y, ⟨⟩⟩ w3 ⟨hy, h⟩
      dsimp only at hy
      subst hy
      rw [SplitB_iff]
      refine ⟨fun hf => (by cases hf), fun _ => ?_⟩
      refine JoinX.mk (fun (y : Bool × Unit) w' => y.1 = false ∧ St w0 w' ([.cel rb 95 (rl0 p0 p1 p2 p3)] :: lmE e :: F)) ?_ ?_
      · rintro ⟨y, ⟨⟩⟩ w3 ⟨hy, h⟩
        dsimp only at hy
        subst hy
        rw [SplitB_iff]
        refine ⟨fun hf => (by cases hf), fun _ => ?_⟩
        refine h.newB run_boxA rfl ?_
        intro sb w4 h
        refine h.newB run_boxA rfl ?_
        intro bb w5 h
        refine h.newB run_boxA rfl ?_
        intro xb w6 h
        have h := h.ord 5 [4, 0, 3, 2, 1]
        dsimp only [pick, nthO, dropO] at h
        exact .inr ⟨hn, xb, rb, sb, bb, e, rfl, he, h⟩
      · intro k hk
        refine RunN.pEqS ?_
        rw [SplitB_iff]
        refine ⟨fun hf => (by cases hf), fun _ => ?_⟩
        refine RunN.pEqS ?_
        exact hk _ _ ⟨rfl, h⟩
    · intro k hk
      rw [SplitB_iff]
      refine ⟨fun hf => ?_, fun _ => ?_⟩
      · simp at hf
      refine RunN.pEqS ?_
      refine RunN.pEqS ?_
      exact hk _ _ ⟨rfl, h⟩
end Go.Proofs.Ytodgnpmljdopiaa

/- The link: the examples. -/
namespace Go.Proofs.Ytodgnpmljdopiaa
open Go Go.Fw Go.RowKit
set_option linter.unusedVariables false
set_option linter.unusedSimpArgs false
set_option maxRecDepth 4000
set_option maxHeartbeats 4000000
variable {w0 w : World} {F G : Grps}

theorem lit_rdf {w : World} {x : Int} {fr : Nat × Nat} : Rd (w.alloc (.cells ⟨[.int .u8 x]⟩ 5 fr)) ⟨some ⟨w.heap.size, 0, none⟩, 1, 1⟩ 1 [.int .u8 x] := by
  refine ⟨by simp, .inr ⟨w.heap.size, 0, rfl, fun i v hv => ?_⟩, Nat.le_refl _⟩
  rw [cell_of_row _ _ _ ⟨[.int .u8 x]⟩ 5 fr (heap_alloc_new w _)]
  simpa using hv
/-- Bytes of a literal string. -/
theorem lit45 (h : St w0 w G) (x : Int) {K : Sl → World → Prop} (hk : ∀ (s : Sl) w', s.len = 1 → St w0 w' ([.ro s 1 [.int .u8 x]] :: G) → K s w') :
    RunN Try.prog .sl (V (Instr.buildSlice 45 1 #[(0, .int .u8 x)])) w fun u w => RunN Try.prog .sl (V (convert 45 45 (.slice u.a u.len u.cap))) w K := by
  refine RunN.of (kd := .sl) (x := ⟨some ⟨w.heap.size, 0, none⟩, 1, 1⟩) (bs45 w x) ?_
  refine RunN.of (kd := .sl) (x := ⟨some ⟨w.heap.size, 0, none⟩, 1, 1⟩) (w' := w.alloc (.cells ⟨[.int .u8 x]⟩ 5 (1, 2))) (Lib.run_convert_bytes_const w 45 5 ⟨[.int .u8 x]⟩ 1 1 (Et.h (P := Try.prog) (t := 45)).ht (by kernel_rfl)) ?_
  refine hk _ _ rfl (h.new (Upd.alloc _ _ _) ⟨⟨fun b hb => ?_, lit_rdf⟩, fun v hv => ?_⟩ fun j hj => ?_)
  · simp [Sl.blk] at hb; subst hb
    exact ⟨h.upd.size, by simp⟩
  · simp [Ent.vals] at hv; subst hv; rfl
  · simp [Ent.blk, Sl.blk] at hj; omega
theorem same_ok {p q : Sl} {a b : List UInt8} (hp : Rd w p 1 (bys a)) (hq : Rd w q 1 (bys b)) : CallK Try.prog .bool 25 #[.slice p.a p.len p.cap, .slice q.a q.len q.cap] w fun (r : Bool) w' => w' = w ∧ r = decide (a = b) := by
  refine T25.calls ?_
  unfold T25
  refine RunN.toStr strB45 hp ?_
  refine RunN.toStr strB45 hq ?_
  refine ⟨rfl, ?_⟩
  have e : ∀ l : List UInt8, (ByteArray.mk l.toArray).toList = l := fun l => by
    simp [ByteArray.toList_eq]
  rw [e, e, Bool.eq_iff_iff]; simp
theorem ro_sees {s : Sl} {vs : List Value} {sz : Nat} : SeesG w0 ([.ro s sz vs] :: F) s sz vs := fun w h => h.rdo (k := 0) (i := 0) ⟨_, rfl, rfl⟩
theorem nil_sees : SeesG w0 F ⟨none, 0, 0⟩ 1 (bys []) := fun w _ => Rd.nil w 1
end Go.Proofs.Ytodgnpmljdopiaa

/- The link: what its calls keep true. -/
namespace Go.Proofs.Ytodgnpmljdopiaa
open Go Go.Fw Go.RowKit
set_option linter.unusedVariables false
set_option linter.unusedSimpArgs false
set_option maxRecDepth 4000
set_option maxHeartbeats 4000000
variable {w0 w : World} {F G : Grps}

theorem refuse_zero {e : Lk} {l : List UInt8} (h : e.refuse l = 0) : l.length ≤ 4000 ∧ 0 < e.room ∧ e.last < 1099511627776 := by
  rw [Lk.refuse] at h
  split at h
  · cases h
  · split at h
    · cases h
    · omega
theorem sent_wf {e : Lm} (hw : e.wf) (s : Sl) {l : List UInt8} (h : e.refuse l = 0) : (e.sent s l).wf := by
  have hr := refuse_zero h
  have hroom : e.room = (e.win : Int) - e.bx.length - e.un.length := rfl
  have hc := hw.cnt; have hg := hw.gone; have hlo := hw.low
  refine ⟨hw.me, hw.peer, hw.win, hw.res, ?_, ?_, ?_, ?_, hw.want, hw.ag, ?_, ?_, hw.elens, hw.erange, hw.nodup⟩
  · simp [Lm.sent]; omega
  · simp [Lm.sent]; omega
  · simp only [Lm.sent, List.length_append, List.length_cons, List.length_nil]; omega
  · show e.last + 1 ≤ _; omega
  · intro i hi
    have hlen : (e.un ++ e.bx).length = e.un.length + e.bx.length := List.length_append
    simp only [Lm.sent] at hi ⊢
    by_cases h1 : i < (e.un ++ e.bx).length
    · have := hw.seq i h1
      have e1 : (e.un ++ (e.bx ++ [(e.last + 1, s, l)]))[i] = (e.un ++ e.bx)[i] := by
        simp only [← List.append_assoc]
        exact List.getElem_append_left h1
      rw [e1, this]
      simp only [List.length_append, List.length_cons, List.length_nil]
      omega
    · have h2 : i = (e.un ++ e.bx).length := by simp only [List.length_append, List.length_cons, List.length_nil] at hi h1 ⊢; omega
      have e1 : (e.un ++ (e.bx ++ [(e.last + 1, s, l)]))[i] = (e.last + 1, s, l) := by
        simp only [← List.append_assoc]
        rw [List.getElem_append_right (by omega)]
        simp
      rw [e1]
      simp only [List.length_append, List.length_cons, List.length_nil]
      omega
  · intro p hp
    have hp : p ∈ e.un ++ (e.bx ++ [(e.last + 1, s, l)]) := hp
    rw [← List.append_assoc] at hp
    rcases List.mem_append.1 hp with hp | hp
    · exact hw.lens p hp
    · simp at hp; subst hp; exact hr.1
theorem took_wf {e : Lm} (hw : e.wf) {g : Sg} (hf : e.fits g = true) {u l : List Ea} (ht : TakeR e.toLk g u l) (us : Sl) (mc : Nat) : (e.took g us mc u.length l).wf := by
  have hfs := fits_seq hf
  have hj := ackd_le e.un g.ack
  have hc := hw.cnt; have hg := hw.gone; have hlo := hw.low; have hwant := hw.want
  have hdl : (e.un.drop (ackd e.un g.ack)).length = e.un.length - ackd e.un g.ack := List.length_drop
  have hdm : e.un.drop (ackd e.un g.ack) ++ e.bx = (e.un ++ e.bx).drop (ackd e.un g.ack) := by rw [List.drop_append_of_le_length hj]
  have hE : (e.want + u.length ≤ 1099511627777) ∧ (∀ x ∈ l, x.1.2.2.length ≤ 4000) ∧ (∀ x ∈ l, e.want + u.length < x.1.1 ∧ x.1.1 < e.want + u.length + e.win ∧ x.1.1 ≤ 1099511627776) ∧ (l.map (·.1.1)).Nodup := by
    by_cases hn : e.news g
    · obtain ⟨s, c, hp, hk, hl⟩ := ht.yes hn
      have hmem : ∀ x, x ∈ u ++ l → x.1.2.2.length ≤ 4000 ∧ e.want ≤ x.1.1 ∧ x.1.1 < e.want + e.win ∧ x.1.1 ≤ 1099511627776 := by
        intro x hx
        rcases List.mem_append.1 (hp.mem_iff.2 hx) with h1 | h1
        · have := hw.erange x h1
          exact ⟨hw.elens x h1, by omega, by omega, by omega⟩
        · simp at h1; subst h1
          exact ⟨hfs.2.2.2.2.1, hn.2.2.1, hn.2.2.2, hfs.2.1⟩
      have hnd : ((u ++ l).map (·.1.1)).Nodup := by
        refine (hp.map _).nodup_iff.1 ?_
        rw [List.map_append, List.nodup_append]
        refine ⟨hw.nodup, by simp, ?_⟩
        intro a ha b hb hab
        obtain ⟨x, hx, rfl⟩ := List.mem_map.1 ha
        simp at hb
        exact hn.2.1 x hx (hab.trans hb)
      rw [List.map_append, List.nodup_append] at hnd
      refine ⟨?_, fun x hx => (hmem x (List.mem_append_right _ hx)).1, fun x hx => ?_, hnd.2.1⟩
      · cases hu : u with
        | nil => simp; exact hwant.2
        | cons a r =>
          have hi : u.length - 1 < u.length := by rw [hu]; simp
          have h1 := hk _ hi
          have h2 := (hmem _ (List.mem_append_left _ (List.getElem_mem hi))).2.2.2
          rw [← hu]
          have : 0 < u.length := by rw [hu]; simp
          omega
      · have h1 := hmem x (List.mem_append_right _ hx)
        have h2 := hl x hx
        refine ⟨?_, by omega, h1.2.2.2⟩
        by_cases h3 : x.1.1 < e.want + u.length
        · exfalso
          have hi : (x.1.1 - e.want).toNat < u.length := by omega
          have h4 := hk _ hi
          have h5 : (u[(x.1.1 - e.want).toNat]'hi).1.1 = x.1.1 := by rw [h4]; omega
          exact hnd.2.2 _ (List.mem_map.2 ⟨_, List.getElem_mem hi, rfl⟩) _ (List.mem_map.2 ⟨x, hx, rfl⟩) h5
        · omega
    · obtain ⟨rfl, rfl⟩ := ht.no hn
      refine ⟨by simp; exact hwant.2, hw.elens, fun x hx => ?_, hw.nodup⟩
      have := hw.erange x hx
      simp; omega
  refine ⟨hw.me, hw.peer, hw.win, hw.res, ?_, hw.gone, ?_, hw.last, ?_, hw.ag, ?_, ?_, hE.2.1, ?_, hE.2.2.2⟩
  · simp only [Lm.took, hdl]; omega
  · simp only [Lm.took, hdl]; omega
  · simp only [Lm.took]; omega
  · intro i hi
    simp only [Lm.took] at hi ⊢
    have hi2 : ackd e.un g.ack + i < (e.un ++ e.bx).length := by rw [hdm, List.length_drop] at hi; omega
    have := hw.seq _ hi2
    have e1 : (e.un.drop (ackd e.un g.ack) ++ e.bx)[i] = (e.un ++ e.bx)[ackd e.un g.ack + i] := by
      simp only [hdm]
      exact List.getElem_drop
    rw [e1, this, hdl]
    omega
  · intro p hp
    simp only [Lm.took, hdm] at hp
    exact hw.lens p (List.mem_of_mem_drop hp)
  · exact hE.2.2.1
end Go.Proofs.Ytodgnpmljdopiaa

/- The link: the document's examples come out so. -/
namespace Go.Proofs.Ytodgnpmljdopiaa
open Go Go.Fw Go.RowKit
set_option linter.unusedVariables false
set_option linter.unusedSimpArgs false
set_option maxRecDepth 4000
set_option maxHeartbeats 4000000
variable {w0 w : World} {F G : Grps}

theorem take1 {e : Lk} {g : Sg} {u l : List Ea} (h : TakeR e g u l) (he : e.want = 1) (hea : e.ea = []) (hn : e.news g) (h2 : g.seq = 2) : u = [] ∧ ∃ s c, l = [((2, s, g.d.2), c)] := by
  obtain ⟨s, c, hp, hk, hl⟩ := h.yes hn
  rw [hea, List.nil_append, h2] at hp
  have hlen := hp.length_eq
  simp at hlen
  cases hu : u with
  | nil =>
    rw [hu, List.nil_append] at hp
    exact ⟨rfl, s, c, (List.perm_singleton.1 hp.symm)⟩
  | cons a r =>
    exfalso
    have h1 := hk 0 (by rw [hu]; simp)
    have ha : u[0]'(by rw [hu]; simp) ∈ u ++ l := List.mem_append_left _ (List.getElem_mem _)
    have h3 := hp.mem_iff.2 ha
    simp at h3
    rw [h3, he] at h1
    simp at h1
theorem take2 {e : Lk} {g : Sg} {u l : List Ea} (h : TakeR e g u l) (he : e.want = 1) {x : Ea} (hx : x.1.1 = 2) (hea : e.ea = [x]) (hn : e.news g) (h2 : g.seq = 1) : u.length = 2 ∧ ∀ h : 0 < u.length, u[0].1.2.2 = g.d.2 := by
  obtain ⟨s, c, hp, hk, hl⟩ := h.yes hn
  rw [hea, h2] at hp
  have hlen := hp.length_eq
  simp only [List.length_append, List.length_cons, List.length_nil] at hlen
  have hmem : ∀ y, y ∈ u ++ l → y = x ∨ y = ((1, s, g.d.2), c) := by
    intro y hy
    have := hp.mem_iff.2 hy
    simpa using this
  have h0 : ∀ h : 0 < u.length, u[0].1.2.2 = g.d.2 := by
    intro h
    have h1 := hk 0 h
    rcases hmem _ (List.mem_append_left _ (List.getElem_mem h)) with h3 | h3
    · rw [h3, hx, he] at h1; simp at h1
    · rw [h3]
  refine ⟨?_, h0⟩
  have m1 : ((1, s, g.d.2), c) ∈ u ++ l := hp.mem_iff.1 (by simp)
  have m2 : x ∈ u ++ l := hp.mem_iff.1 (by simp)
  rcases Nat.lt_or_ge u.length 1 with h3 | h3
  · exfalso
    have hu : u = [] := List.eq_nil_of_length_eq_zero (by omega)
    subst hu
    have := hl _ (by simpa using m1)
    simp [he] at this
  rcases Nat.lt_or_ge u.length 2 with h4 | h4
  · exfalso
    have hu : u.length = 1 := by omega
    rcases List.mem_append.1 m2 with h5 | h5
    · obtain ⟨i, hi, hxi⟩ := List.mem_iff_getElem.1 h5
      have h6 := hk i hi
      rw [hxi, hx, he] at h6
      omega
    · have h6 := hl _ h5
      rw [hx, he, hu] at h6
      simp at h6
  · omega
theorem lk0_dat {e : Lm} {p0 p1 p2 p3 : Int} (he : e.toLk = lk0 p0 p1 p2 p3) : dat e.toLk = [] ∧ ups e.ea = [] := by
  rw [he]
  exact ⟨rfl, rfl⟩
theorem two_of {α : Type} (l : List α) (h : l.length = 2) : ∃ a b, l = [a, b] := by
  match l, h with
  | [a, b], _ => exact ⟨a, b, rfl⟩
theorem alive_st (h : St w0 w F) : CallK Try.prog .bool 9 #[] w fun (r : Bool) w' => r = true ∧ St w0 w' F := by
  refine T9.calls ?_
  unfold T9
  refine (made_st h 0 1 2 3).mono ?_
  rintro r1 w1 (⟨hn, _⟩ | ⟨_, xa, ra, sa, ba, ea, rfl, hea, h⟩)
  · exact absurd (by decide) hn
  refine (made_st h 1 0 2 3).mono ?_
  rintro r2 w2 (⟨hn, _⟩ | ⟨_, xb, rb, sb, bb, eb, rfl, heb, h⟩)
  · exact absurd (by decide) hn
  have h := h.ord 10 [5, 6, 1, 0]
  dsimp only [pick, nthO, dropO] at h
  have h : St w0 w2 (lmE ea :: dat ea.toLk :: [endC xa ea ra sa ba] :: [endC xb eb rb sb bb] :: lmE eb :: dat eb.toLk :: ups eb.ea :: F) := by
    rw [(lk0_dat hea).1, (lk0_dat heb).1, (lk0_dat heb).2]
    exact h.perm (by simp)
  have wa : ea.wf := by rw [hea]; exact (lk0_wf (by decide)).1
  have wb : eb.wf := by rw [heb]; exact (lk0_wf (by decide)).1
  refine JoinX.mk (fun (y : Bool × Unit) w' => y.1 = false ∧ St w0 w' (lmE ea :: dat ea.toLk :: [endC xa ea ra sa ba] :: [endC xb eb rb sb bb] :: lmE eb :: dat eb.toLk :: ups eb.ea :: F)) ?_ ?_
  rotate_left
  · intro k hk
    rw [SplitB_iff]
    refine ⟨fun hf => (by cases hf), fun _ => ?_⟩
    rw [SplitB_iff]
    refine ⟨fun hf => (by cases hf), fun _ => ?_⟩
    refine RunN.pEqS ?_
    rw [SplitB_iff]
    refine ⟨fun hf => (by cases hf), fun _ => ?_⟩
    refine RunN.pEqS ?_
    exact hk _ _ ⟨rfl, h⟩
  clear h
  rintro ⟨y, ⟨⟩⟩ w3 ⟨hy, h⟩
  dsimp only at hy
  subst hy
  rw [SplitB_iff]
  refine ⟨fun hf => (by cases hf), fun _ => ?_⟩
  -- "a" is handed in
  refine NilP.mk ?_
  refine h.loadB 2 0 ⟨_, rfl, rfl⟩ rfl (kd := .ptr) (x := ea.p) rfl ?_
  refine lit45 h 97 ?_
  intro s w4 hs h
  have h := h.ord 3 [1, 2, 0]
  dsimp only [pick, nthO, dropO] at h
  refine (send_st h wa (p := s) (l := [97]) ro_sees (by simp)).mono ?_
  intro (v1 : Int) w5 ⟨hv1, _, h⟩
  have hr1 : ea.refuse [97] = 0 := by rw [hea]; decide
  have hv1 : v1 = 0 := hv1.trans hr1
  subst hv1
  obtain ⟨s1, h⟩ := h rfl
  -- nothing is handed in
  refine NilP.mk ?_
  refine h.loadB 3 0 ⟨_, rfl, rfl⟩ rfl (kd := .ptr) (x := (ea.sent s1 [97]).p) rfl ?_
  have wa1 := sent_wf wa s1 hr1
  refine (send_st h wa1 (p := ⟨none, 0, 0⟩) (l := []) nil_sees (by simp)).mono ?_
  intro (v2 : Int) w6 ⟨hv2, _, h⟩
  have ht1 : (ea.sent s1 [97]).toLk = { lk0 0 1 2 3 with last := 1, bx := [(1, s1, [97])] } := by simp [Lm.sent, hea, lk0]
  have hr2 : (ea.sent s1 [97]).refuse [] = 0 := by rw [ht1]; simp [Lk.refuse, Lk.room, lk0]
  have hv2 : v2 = 0 := hv2.trans hr2
  subst hv2
  obtain ⟨s2, h⟩ := h rfl
  have wa2 := sent_wf wa1 s2 hr2
  have ht2 : ((ea.sent s1 [97]).sent s2 []).toLk = { lk0 0 1 2 3 with last := 2, bx := [(1, s1, [97]), (2, s2, [])] } := by
    have : ((ea.sent s1 [97]).sent s2 []).toLk = { (ea.sent s1 [97]).toLk with last := (ea.sent s1 [97]).toLk.last + 1, bx := (ea.sent s1 [97]).toLk.bx ++ [((ea.sent s1 [97]).toLk.last + 1, s2, [])] } := rfl
    rw [this, ht1]; rfl
  generalize hA2 : (ea.sent s1 [97]).sent s2 [] = a2 at h wa2 ht2
  have hp2 : a2.p = ea.p := by rw [← hA2]; rfl
  -- "c" finds no room
  refine NilP.mk ?_
  refine h.loadB 3 0 ⟨_, rfl, rfl⟩ rfl (kd := .ptr) (x := ea.p) rfl ?_
  refine lit45 h 99 ?_
  intro s' w7 hs' h
  have h := h.ord 3 [1, 2, 0]
  dsimp only [pick, nthO, dropO] at h
  rw [← hp2]
  refine (send_st h wa2 (p := s') (l := [99]) ro_sees (by simp)).mono ?_
  intro (v3 : Int) w8 ⟨hv3, h, _⟩
  have hr3 : a2.refuse [99] = 30 := by rw [ht2]; simp [Lk.refuse, Lk.room, lk0]
  have hv3 : v3 = 30 := hv3.trans hr3
  subst hv3
  have h := h (by decide)
  -- what is told
  refine NilP.mk ?_
  refine h.loadB 4 0 ⟨_, rfl, rfl⟩ rfl (kd := .ptr) (x := a2.p) (by rw [hp2]; rfl) ?_
  refine (out_st h wa2).mono ?_
  rintro o w9 ⟨us, gs, hgs, hol, h⟩
  have hgs : gs.map Sg.pl = [(0, 1, 1, 0, [97]), (0, 1, 2, 0, [])] := by rw [hgs, ht2]; rfl
  have hgl : gs.length = 2 := by have := congrArg List.length hgs; simpa using this
  obtain ⟨g0, g1, rfl⟩ := two_of gs hgl
  simp only [List.map_cons, List.map_nil, Sg.pl, List.cons.injEq, Prod.mk.injEq, and_true] at hgs
  obtain ⟨⟨f0, t0, q0, k0, d0⟩, f1, t1, q1, k1, d1⟩ := hgs
  have hol : o.len = 2 := hol
  have h := h.ord 11 [8, 9, 10, 2, 3, 7]
  dsimp only [pick, nthO, dropO] at h
  refine JoinX.mk (fun (y : Bool × Unit) w' => y.1 = false ∧ St w0 w' (lmE eb :: dat eb.toLk :: ups eb.ea :: outE o [g0, g1] :: outD [g0, g1] :: [endC xb eb rb sb bb] :: F)) ?_ ?_
  rotate_left
  · intro k hk
    rw [SplitB_iff]
    refine ⟨fun hf => (by cases hf), fun _ => ?_⟩
    rw [SplitB_iff]
    refine ⟨fun hf => (by cases hf), fun _ => ?_⟩
    rw [SplitB_iff]
    refine ⟨fun hf => (by cases hf), fun _ => ?_⟩
    rw [SplitB_iff]
    refine ⟨fun hf => ?_, fun _ => ?_⟩
    · rw [hol] at hf; cases hf
    have hrr := h.rd (k := 3) (i := 0) (E := 62) (sz := 5) (s := o) (vs := [g0, g1].flatMap sgv) ⟨_, rfl, rfl⟩
    refine hrr.idxK 1 rfl (by omega) ?_
    intro b0 o0 ha
    refine hrr.el ha (1 * 5 + 2) (by rw [add_lit']) (kd := .int .i64) (x := g1.seq) rfl ?_
    rw [q1, SplitB_iff]
    refine ⟨fun hf => (by cases hf), fun _ => ?_⟩
    refine hrr.idxK 0 rfl (by omega) ?_
    intro b1 o1 ha1
    refine hrr.el ha1 (0 * 5 + 3) (by rw [add_lit']) (kd := .int .i64) (x := g0.ack) rfl ?_
    rw [k0]
    exact hk _ _ ⟨rfl, h⟩
  clear h
  rintro ⟨y, ⟨⟩⟩ w10 ⟨hy, h⟩
  dsimp only at hy
  subst hy
  rw [SplitB_iff]
  refine ⟨fun hf => (by cases hf), fun _ => ?_⟩
  -- the second comes
  refine NilP.mk ?_
  refine h.drew.readB 5 0 ⟨_, rfl, rfl⟩ rfl (kd := .ptr) (x := eb.p) rfl ?_
  have hrr := h.drew.rd (k := 3) (i := 0) (E := 62) (sz := 5) (s := o) (vs := [g0, g1].flatMap sgv) ⟨_, rfl, rfl⟩
  refine hrr.idxR 1 rfl (by omega) ?_
  intro b0 o0 ha
  refine hrr.elAR ha (1 * 5) rfl (kd := Kds) (sgt g1) (ds := sgv g1) rfl ?_
  have hfit1 : eb.fits g1 = true := by rw [heb]; simp [Lk.fits, lk0, f1, t1, q1, k1, d1]
  have hnews1 : eb.news g1 := by rw [heb]; simp [Lk.news, lk0, q1]
  refine (take_st h.drew wb (g := g1) (sup (outD_sees (by simp))) (by rw [d1]; simp)).mono ?_
  rintro ⟨up1, er1, ⟨⟩⟩ w11 (⟨hf, _⟩ | ⟨_, he1, us1, mc1, u1, l1, ht1', hul1, h⟩)
  · rw [hfit1] at hf; cases hf
  dsimp only at he1 hul1 h
  have wb1 := took_wf wb hfit1 ht1' us1 mc1
  obtain ⟨rfl, sx, cx, rfl⟩ := take1 ht1' (by rw [heb]; rfl) (by rw [heb]; rfl) hnews1 q1
  -- the first comes
  refine NilP.mk ?_
  refine h.drew.readB 7 0 ⟨_, rfl, rfl⟩ rfl (kd := .ptr) (x := eb.p) rfl ?_
  have hrr := h.drew.rd (k := 5) (i := 0) (E := 62) (sz := 5) (s := o) (vs := [g0, g1].flatMap sgv) ⟨_, rfl, rfl⟩
  refine hrr.idxR 0 rfl (by omega) ?_
  intro b1 o1 ha1
  refine hrr.elAR ha1 (0 * 5) rfl (kd := Kds) (sgt g0) (ds := sgv g0) rfl ?_
  let e2 : Lm := eb.took g1 us1 mc1 ([] : List Ea).length [((2, sx, g1.d.2), cx)]
  have he2 : e2.me = 1 ∧ e2.peer = 0 ∧ e2.gone = 0 ∧ e2.want = 1 ∧ e2.win = 2 ∧ e2.ea = [((2, sx, g1.d.2), cx)] := by
    have h1 : e2.me = (lk0 1 0 2 3).me := by rw [← heb]; rfl
    have h2 : e2.peer = (lk0 1 0 2 3).peer := by rw [← heb]; rfl
    have h3 : e2.gone = (lk0 1 0 2 3).gone := by rw [← heb]; rfl
    have h4 : e2.want = (lk0 1 0 2 3).want + ((0 : Nat) : Int) := by rw [← heb]; rfl
    have h5 : e2.win = (lk0 1 0 2 3).win := by rw [← heb]; rfl
    exact ⟨h1, h2, h3, h4, h5, rfl⟩
  have hfit2 : e2.fits g0 = true := by
    simp [Lk.fits, he2.1, he2.2.1, he2.2.2.1, f0, t0, q0, k0, d0]
  have hnews2 : e2.news g0 := by
    simp [Lk.news, he2.2.2.2.1, he2.2.2.2.2.1, he2.2.2.2.2.2, q0]
  refine (take_st (e := e2) h.drew wb1 (g := g0) (sup (sup (sup (outD_sees (by simp))))) (by rw [d0]; simp)).mono ?_
  rintro ⟨up2, er2, ⟨⟩⟩ w12 (⟨hf, _⟩ | ⟨_, he2', us2, mc2, u2, l2, ht2', hul2, h⟩)
  · rw [hfit2] at hf; cases hf
  dsimp only at he2' hul2 h
  obtain ⟨hu2, hd2⟩ := take2 ht2' he2.2.2.2.1 (x := ((2, sx, g1.d.2), cx)) rfl he2.2.2.2.2.2 hnews2 q0
  rw [he1, SplitB_iff]
  refine ⟨fun _ => ?_, fun hf => (by cases hf)⟩
  dsimp only
  rw [he2', SplitB_iff]
  refine ⟨fun _ => ?_, fun hf => (by cases hf)⟩
  rw [hul1, SplitB_iff]
  refine ⟨fun _ => ?_, fun hf => (by cases hf)⟩
  rw [SplitB_iff]
  refine ⟨fun _ => ?_, fun hf => ?_⟩
  rotate_left
  · rw [hul2, hu2] at hf; cases hf
  have hrr := h.rd (k := 3) (i := 0) (E := 45) (sz := 1) (s := up2) (vs := u2.flatMap upv) ⟨_, rfl, rfl⟩
  refine hrr.idxK 0 rfl (by omega) ?_
  intro b2 o2 ha2
  have h0 : 0 < u2.length := by omega
  refine hrr.el ha2 (0 * 1) rfl (kd := .sl) (x := u2[0].1.2.1) (by
    have := flat_cell upv_len (l := u2) h0 0 (by decide)
    exact this) ?_
  refine lit45 h 97 ?_
  intro s3 w13 hs3 h
  have hp1 : Rd w13 u2[0].1.2.1 1 (bys [97]) := by
    have := h.memG (k := 5) rfl (List.mem_map.2 ⟨u2[0], List.getElem_mem h0, rfl⟩)
    have h9 : Rd w13 u2[0].1.2.1 1 (bys u2[0].1.2.2) := (this : (brow u2[0].1.2).ok w13 w0.heap.size).1.rd
    rw [hd2 h0, d0] at h9
    exact h9
  refine (same_ok (w := w13) hp1 (q := s3) (b := [97]) (h.rdo (k := 0) (i := 0) ⟨_, rfl, rfl⟩)).mono ?_
  rintro r3 w14 ⟨rfl, hr3⟩
  have hr3 : (r3 : Bool) = true := hr3
  rw [hr3, SplitB_iff]
  refine ⟨fun _ => ?_, fun hf => (by cases hf)⟩
  have h := h.ord 11 [1, 10]
  dsimp only [pick, nthO, dropO] at h
  refine NilP.mk ?_
  refine h.loadB 1 0 ⟨_, rfl, rfl⟩ rfl (kd := .ptr) (x := eb.p) rfl ?_
  refine (next_st (e := e2.took g0 us2 mc2 u2.length l2) h).mono ?_
  intro (v9 : Int) w15 ⟨hv9, h⟩
  have hv9 : v9 = 3 := by
    rw [hv9]
    show e2.want + (u2.length : Int) = 3
    rw [he2.2.2.2.1, hu2]; rfl
  subst hv9
  exact ⟨rfl, (h.drop 0).drop 0⟩
end Go.Proofs.Ytodgnpmljdopiaa

/- LinkNews. -/
namespace Go.Proofs.Ytodgnpmljdopiaa
open Go Go.Fw Go.RowKit
set_option linter.unusedVariables false
set_option linter.unusedSimpArgs false
set_option maxRecDepth 4000
set_option maxHeartbeats 4000000
variable {w0 w : World} {F G : Grps}

theorem news_st (h : St w0 w F) (p0 p1 p2 p3 : Int) : CallK Try.prog .bool 3 #[.int .i64 p0, .int .i64 p1, .int .i64 p2, .int .i64 p3] w fun (r : Bool) w' => r = true ∧ St w0 w' F := by
  refine T3.calls ?_
  unfold T3
  refine (alive_st h).mono ?_
  intro (a : Bool) w1 ⟨ha, h⟩
  subst ha
  refine (made_st h p0 p1 p2 p3).mono ?_
  rintro r2 w2 (⟨hn, rfl, h⟩ | ⟨hn, xb, rb, sb, bb, e, rfl, he, h⟩)
  · refine JoinX.mk (fun (y : Bool × Unit) w' => y.1 = true ∧ St w0 w' F) ?_ ?_
    · rintro ⟨y, ⟨⟩⟩ w3 ⟨hy, h⟩
      dsimp only at hy
      subst hy
      rw [SplitB_iff]
      refine ⟨fun _ => ?_, fun hf => (by cases hf)⟩
      rw [SplitB_iff]
      refine ⟨fun _ => ?_, fun hf => (by cases hf)⟩
      exact ⟨rfl, h⟩
    · intro k hk
      rw [SplitB_iff]
      refine ⟨fun hf => (by cases hf), fun _ => ?_⟩
      rw [SplitB_iff]
      refine ⟨fun hf => (by cases hf), fun _ => ?_⟩
      refine RunN.pEqN ?_
      exact hk _ _ ⟨rfl, h⟩
  · have h := h.ord 5 [0, 1]
    dsimp only [pick, nthO, dropO] at h
    refine JoinX.mk (fun (y : Bool × Unit) w' => y.1 = false ∧ St w0 w' (lmE e :: [endC xb e rb sb bb] :: F)) ?_ ?_
    rotate_left
    · intro k hk
      rw [SplitB_iff]
      refine ⟨fun hf => (by cases hf), fun _ => ?_⟩
      rw [SplitB_iff]
      refine ⟨fun hf => (by cases hf), fun _ => ?_⟩
      refine RunN.pEqS ?_
      exact hk _ _ ⟨rfl, h⟩
    clear h
    rintro ⟨y, ⟨⟩⟩ w3 ⟨hy, h⟩
    dsimp only at hy
    subst hy
    rw [SplitB_iff]
    refine ⟨fun hf => (by cases hf), fun _ => ?_⟩
    have hwf := lk0_wf hn
    have wa : e.wf := by rw [he]; exact hwf.1
    refine NilP.mk ?_
    refine h.loadB 1 0 ⟨_, rfl, rfl⟩ rfl (kd := .ptr) (x := e.p) rfl ?_
    refine (next_st h).mono ?_
    intro (v : Int) w4 ⟨hv, h⟩
    have hv : v = 1 := by
      rw [hv]
      have : e.want = (lk0 p0 p1 p2 p3).want := by rw [← he]
      rw [this]; rfl
    subst hv
    rw [SplitB_iff]
    refine ⟨fun _ => ?_, fun hf => (by cases hf)⟩
    refine NilP.mk ?_
    refine h.loadB 1 0 ⟨_, rfl, rfl⟩ rfl (kd := .ptr) (x := e.p) rfl ?_
    refine (room_st h wa).mono ?_
    intro (v : Int) w5 ⟨hv, h5⟩
    have hv : v = p2 := by
      rw [hv, he]
      have h2 : ((lk0 p0 p1 p2 p3).win : Int) = p2 := hwf.2
      rw [Lk.room, h2]
      simp [lk0]
    rw [hv]
    clear h
    have h := h5
    rw [SplitB_iff]
    refine ⟨fun _ => ?_, fun hf => (by simp at hf)⟩
    refine NilP.mk ?_
    refine h.loadB 1 0 ⟨_, rfl, rfl⟩ rfl (kd := .ptr) (x := e.p) rfl ?_
    have h : St w0 w5 (lmE e :: dat e.toLk :: [endC xb e rb sb bb] :: F) := by
      rw [(lk0_dat he).1]
      exact h.perm (by simp)
    refine (out_st h wa).mono ?_
    rintro o w6 ⟨us, gs, hgs, hol, h⟩
    have hgs : gs = [] := by
      rw [he] at hgs
      simpa [Lk.outs, lk0, Lk.tells] using hgs
    subst hgs
    have hol : o.len = 0 := hol
    rw [hol, SplitB_iff]
    refine ⟨fun _ => ?_, fun hf => (by cases hf)⟩
    refine NilP.mk ?_
    refine h.loadB 4 0 ⟨_, rfl, rfl⟩ rfl (kd := .ptr) (x := e.p) rfl ?_
    refine (under_st (e := e.outed us) h (outed_wf wa us)).mono ?_
    rintro o2 w7 ⟨gs2, hgs2, hol2, h⟩
    have hgs2 : gs2 = [] := by
      have : (e.outed us).un = (lk0 p0 p1 p2 p3).un := by
        have : (e.outed us).un = e.toLk.un ++ e.toLk.bx := rfl
        rw [this, he]; rfl
      rw [this] at hgs2
      simpa [lk0, Lk.tells] using hgs2
    subst hgs2
    have hol2 : o2.len = 0 := hol2
    rw [hol2]
    refine ⟨rfl, ?_⟩
    have h := h.ord 7 []
    dsimp only [pick, nthO, dropO] at h
    exact h
theorem law3 (W : World) (a b c d : Int) : CallK Try.prog .bool 3 #[.int .i64 a, .int .i64 b, .int .i64 c, .int .i64 d] W fun (r : Bool) w' => Upd W w' nobody ∧ r = true :=
  (news_st (St.init W) a b c d).mono fun _ _ h => ⟨h.2.upd, h.1⟩
end Go.Proofs.Ytodgnpmljdopiaa

/- What a law of the link reads of its arguments. -/
namespace Go.Proofs.Ytodgnpmljdopiaa
open Go.ChangeShapes Go.WideShapes Go.ChangeAt Go.RowKit Go Go.Fw
set_option linter.unusedVariables false
set_option linter.unusedSimpArgs false
set_option maxRecDepth 20000

theorem own : ownKnob Try.prog.godebug = none := by kernel_rfl
theorem laidOut : laidOutB Try.prog = true := by kernel_rfl
theorem u3 : Try.prog.underlying 3 = some (.int .i64) := by kernel_rfl
theorem u4 : Try.prog.underlying 4 = some .bool := by kernel_rfl
end Go.Proofs.Ytodgnpmljdopiaa

namespace Go.Proofs.Ytodgnpmljdopiaa
open Go Go.Fw Go.Proofs
set_option maxRecDepth 100000
set_option linter.unusedVariables false

/-- sluice/sluicelaw3.LinkStill -/
def T8 (p0 : Int) (p1 : Int) (p2 : Sl) (p3 : Int) (w : World) (K : Bool → World → Prop) : Prop :=
  CallK Try.prog .bool 9 #[] w fun t22 w =>
  CallK Try.prog (.int .i64) 17 #[.int .i64 p0, .int .i64 1, .int .i64 16] w fun t24 w =>
  CallK Try.prog (.int .i64) 17 #[.int .i64 p1, .int .i64 1, .int .i64 20] w fun t26 w =>
  CallK Try.prog (.tup (.cons .ptr (.cons (.int .i64) .nilT))) 22 #[.int .i64 3, .int .i64 5, .int .i64 t24, .int .i64 t26] w fun t30 w =>
  JoinX (α := Bool × Unit) (fun j2 w =>
    SplitB j2.1
      (K false w)
      (LoopX (α := Int × Unit) (fun s3 w k4 =>
        SplitB (decide (s3.1 < 45))
          (CallK Try.prog (.tup .nilT) 20 #[.pointer t30.1] w fun t48 w =>
          CallK Try.prog .sl 13 #[.pointer t30.1] w fun t50 w =>
          SplitB ((t50.len : Int) != 0)
            (K false w)
            (k4 (IntKind.i64.wrap (s3.1 + 1), ()) w))
          (LoopX (α := Sl × Int × Unit) (fun s5 w k6 =>
            JoinX (α := Bool × Unit) (fun j8 w =>
              SplitB j8.1
                (JoinX (α := Sl × Unit) (fun j10 w =>
                  k6 (j10.1, IntKind.i64.wrap (s5.2.1 + 1), ()) w)
                fun k9 =>
                  RunN Try.prog .addr (V (Instr.indexAt 51 (.slice p2.a p2.len p2.cap) (.int .i64 s5.2.1))) w fun t66 w =>
                  RunN Try.prog .sl (V (Instr.loadAt 45 (.pointer (some t66)))) w fun t67 w =>
                  SplitB (decide ((t67.len : Int) ≤ 4000))
                    (ReadN Try.prog .addr (V (Instr.indexAt 51 (.slice p2.a p2.len p2.cap) (.int .i64 s5.2.1))) w.drew fun t73 =>
                    ReadN Try.prog .sl (V (Instr.loadAt 45 (.pointer (some t73)))) w.drew fun t74 =>
                    ReadN Try.prog .addr (V (Instr.indexAt 51 (.slice p2.a p2.len p2.cap) (.int .i64 s5.2.1))) w.drew fun t78 =>
                    ReadN Try.prog .sl (V (Instr.loadAt 45 (.pointer (some t78)))) w.drew fun t79 =>
                    CallK Try.prog .sl 24 #[.slice t74.a t74.len t74.cap] w.drew fun t75 w =>
                    StillV Try.prog (V (Instr.loadAt 45 (.pointer (some t78)))) (.slice t79.a t79.len t79.cap) w ∧
                    StillV Try.prog (V (Instr.indexAt 51 (.slice p2.a p2.len p2.cap) (.int .i64 s5.2.1))) (.pointer (some t78)) w ∧
                    ReadN Try.prog .sl (V (Instr.sliceAt 45 (.slice t75.a t75.len t75.cap) none (some (.int .i64 (t79.len : Int))) none)) w fun t81 =>
                    CallK Try.prog (.int .i64) 23 #[.pointer t30.1, .slice t81.a t81.len t81.cap] w fun t82 w =>
                    SplitB (t82 != 0)
                      (K false w)
                      (RunN Try.prog .addr (V (Instr.indexAt 51 (.slice p2.a p2.len p2.cap) (.int .i64 s5.2.1))) w fun t88 w =>
                      RunN Try.prog .sl (V (Instr.loadAt 45 (.pointer (some t88)))) w fun t89 w =>
                      RunN Try.prog .sl (V (Instr.buildSlice 51 1 #[(0, .slice t89.a t89.len t89.cap)])) w fun t90 w =>
                      RunN Try.prog .sl (V (Builtin.append_ #[51, 51] 51 #[.slice s5.1.a s5.1.len s5.1.cap, .slice t90.a t90.len t90.cap])) w fun t91 w =>
                      k9 (t91, ()) w))
                    (k9 (s5.1, ()) w))
                (CallK Try.prog .sl 13 #[.pointer t30.1] w fun t93 w =>
                SplitB ((t93.len : Int) != (s5.1.len : Int))
                  (K false w)
                  (LoopX (α := Int × Unit) (fun s11 w k12 =>
                    CallK Try.prog (.int .i64) 17 #[.int .i64 p3, .int .i64 1, .int .i64 60] w fun t101 w =>
                    SplitB (decide (s11.1 ≤ t101))
                      (JoinX (α := Unit) (fun j14 w =>
                        k12 (IntKind.i64.wrap (s11.1 + 1), ()) w)
                      fun k13 =>
                        CallK Try.prog (.tup .nilT) 20 #[.pointer t30.1] w fun t106 w =>
                        CallK Try.prog .sl 13 #[.pointer t30.1] w fun t108 w =>
                        JoinX (α := Bool × Unit) (fun j16 w =>
                          SplitB j16.1
                            (SplitB ((t108.len : Int) != 0)
                              (K false w)
                              (k13 () w))
                            (SplitB ((t108.len : Int) != (s5.1.len : Int))
                              (K false w)
                              (LoopX (α := Int × Unit) (fun s17 w k18 =>
                                SplitB (decide (s17.1 < (s5.1.len : Int)))
                                  (JoinX (α := Bool × Unit) (fun j20 w =>
                                    SplitB j20.1
                                      (K false w)
                                      (k18 (IntKind.i64.wrap (s17.1 + 1), ()) w))
                                  fun k19 =>
                                    ReadN Try.prog .addr (V (Instr.indexAt 33 (.slice t108.a t108.len t108.cap) (.int .i64 s17.1))) w.drew fun t134 =>
                                    ReadN Try.prog (.int .i64) (V (Instr.loadAt 3 (.pointer (some (t134.add 2))))) w.drew fun t136 =>
                                    SplitB (t136 != (IntKind.i64.wrap (s17.1 + 1)))
                                      (k19 (true, ()) w.drew)
                                      (ReadN Try.prog .addr (V (Instr.indexAt 33 (.slice t108.a t108.len t108.cap) (.int .i64 s17.1))) w.drew fun t143 =>
                                      ReadN Try.prog (.int .i64) (V (Instr.loadAt 3 (.pointer (some (t143.add 3))))) w.drew fun t145 =>
                                      SplitB (t145 != 0)
                                        (k19 (true, ()) w.drew)
                                        (ReadN Try.prog .addr (V (Instr.indexAt 33 (.slice t108.a t108.len t108.cap) (.int .i64 s17.1))) w.drew fun t151 =>
                                        ReadN Try.prog (.int .i64) (V (Instr.loadAt 3 (.pointer (some (t151.add 0))))) w.drew fun t153 =>
                                        SplitB (t153 != 3)
                                          (k19 (true, ()) w.drew)
                                          (ReadN Try.prog .addr (V (Instr.indexAt 33 (.slice t108.a t108.len t108.cap) (.int .i64 s17.1))) w.drew fun t159 =>
                                          ReadN Try.prog (.int .i64) (V (Instr.loadAt 3 (.pointer (some (t159.add 1))))) w.drew fun t161 =>
                                          SplitB (t161 != 5)
                                            (k19 (true, ()) w.drew)
                                            (ReadN Try.prog .addr (V (Instr.indexAt 33 (.slice t108.a t108.len t108.cap) (.int .i64 s17.1))) w.drew fun t167 =>
                                            ReadN Try.prog .sl (V (Instr.loadAt 45 (.pointer (some (t167.add 4))))) w.drew fun t169 =>
                                            ReadN Try.prog .addr (V (Instr.indexAt 51 (.slice s5.1.a s5.1.len s5.1.cap) (.int .i64 s17.1))) w.drew fun t172 =>
                                            ReadN Try.prog .sl (V (Instr.loadAt 45 (.pointer (some t172)))) w.drew fun t173 =>
                                            CallK Try.prog .bool 25 #[.slice t169.a t169.len t169.cap, .slice t173.a t173.len t173.cap] w.drew fun t174 w =>
                                            k19 (!t174, ()) w)))))
                                  (k13 () w))
                              (0, ()) w)))
                        fun k15 =>
                          RunN Try.prog (.int .i64) (V (binOp .rem 3 (.int .i64 s11.1) (.int .i64 t26))) w fun t111 w =>
                          SplitB (t111 != 0)
                            (k15 (true, ()) w)
                            (k15 ((s5.1.len : Int) == 0, ()) w))
                      (CallK Try.prog .sl 14 #[.pointer t30.1] w fun t178 w =>
                      K ((t178.len : Int) == (s5.1.len : Int)) w))
                  (1, ()) w)))
            fun k7 =>
              SplitB (decide (s5.2.1 < (p2.len : Int)))
                (k7 (decide (s5.2.1 < t24), ()) w)
                (k7 (false, ()) w))
          ((⟨none, 0, 0⟩ : Sl), 0, ()) w))
      (0, ()) w))
  fun k1 =>
    SplitB (!t22)
      (k1 (true, ()) w)
      (SplitB (t30.2.1 != 0)
        (k1 (true, ()) w)
        (RunN Try.prog .bool (V (do eqGuard .eql 26 (.tmp 40) (.const (.pointer none)) (.pointer t30.1) (.pointer none); binOp .eql 26 (.pointer t30.1) (.pointer none))) w fun t41 w =>
        k1 (t41, ()) w))
theorem T8.calls {p0 : Int} {p1 : Int} {p2 : Sl} {p3 : Int} {w : World} {K : Bool → World → Prop} (h : T8 p0 p1 p2 p3 w K) : CallK Try.prog .bool 8 #[.int .i64 p0, .int .i64 p1, .slice p2.a p2.len p2.cap, .int .i64 p3] w K :=
  bodyZ_sound (κ := kappa) (ann := [(6, [(42, .bool)]), (10, [(14, (.int .i64))]), (20, [(15, .sl), (16, (.int .i64))]), (22, [(61, .bool)]), (23, [(15, .sl)]), (35, [(19, (.int .i64))]), (38, []), (42, [(117, .bool)]), (50, [(21, (.int .i64))]), (54, [(176, .bool)])]) (fn := Try.f8) Try.func8 rfl (by kernel_rfl) (cast (show T8 p0 p1 p2 p3 w K = bodyZ Try.prog kappa [(6, [(42, .bool)]), (10, [(14, (.int .i64))]), (20, [(15, .sl), (16, (.int .i64))]), (22, [(61, .bool)]), (23, [(15, .sl)]), (35, [(19, (.int .i64))]), (38, []), (42, [(117, .bool)]), (50, [(21, (.int .i64))]), (54, [(176, .bool)])] .bool Try.f8 [.int .i64 p0, .int .i64 p1, .slice p2.a p2.len p2.cap, .int .i64 p3] w K by kernel_rfl) h)

/-- sluice/sluicelaw3.within -/
def T17 (p0 : Int) (p1 : Int) (p2 : Int) (w : World) (K : Int → World → Prop) : Prop :=
  JoinX (α := Int × Unit) (fun j2 w =>
    RunN Try.prog (.int .i64) (V (binOp .rem 3 (.int .i64 j2.1) (.int .i64 (IntKind.i64.wrap ((IntKind.i64.wrap (p2 - p1)) + 1))))) w fun t18 w =>
    K (IntKind.i64.wrap (p1 + t18)) w)
  fun k1 =>
    SplitB (decide (p0 < 0))
      (k1 (IntKind.i64.wrap (0 - (IntKind.i64.wrap (p0 + 1))), ()) w)
      (k1 (p0, ()) w)
theorem T17.calls {p0 : Int} {p1 : Int} {p2 : Int} {w : World} {K : Int → World → Prop} (h : T17 p0 p1 p2 w K) : CallK Try.prog (.int .i64) 17 #[.int .i64 p0, .int .i64 p1, .int .i64 p2] w K :=
  bodyZ_sound (κ := kappa) (ann := [(1, [(0, (.int .i64))])]) (fn := Try.f17) Try.func17 rfl (by kernel_rfl) (cast (show T17 p0 p1 p2 w K = bodyZ Try.prog kappa [(1, [(0, (.int .i64))])] (.int .i64) Try.f17 [.int .i64 p0, .int .i64 p1, .int .i64 p2] w K by kernel_rfl) h)
end Go.Proofs.Ytodgnpmljdopiaa

/- The link's laws: what is lent; numbers brought into range. -/
namespace Go.Proofs.Ytodgnpmljdopiaa
open Go Go.Fw Go.RowKit
set_option linter.unusedVariables false
set_option linter.unusedSimpArgs false
set_option maxRecDepth 4000
set_option maxHeartbeats 4000000
variable {w0 w : World} {F G : Grps}

def wi (x lo hi : Int) : Int := lo + Int.tmod (if x < 0 then -(x + 1) else x) (hi - lo + 1)
theorem wi_in {x lo hi : Int} (h : lo ≤ hi) : lo ≤ wi x lo hi ∧ wi x lo hi ≤ hi := by
  have h0 : 0 ≤ (if x < 0 then -(x + 1) else x) := by split <;> omega
  have h1 : Int.tmod (if x < 0 then -(x + 1) else x) (hi - lo + 1) < hi - lo + 1 := Int.tmod_lt_of_pos _ (by omega)
  have h2 : 0 ≤ Int.tmod (if x < 0 then -(x + 1) else x) (hi - lo + 1) := Int.tmod_nonneg _ h0
  rw [wi]; omega
theorem within_st (h : St w0 w F) {x lo hi : Int} (h0 : 0 ≤ lo) (h1 : lo ≤ hi) (hn : hi ≤ 1048576) (hx : -9223372036854775808 ≤ x ∧ x ≤ 9223372036854775807) : CallK Try.prog (.int .i64) 17 #[.int .i64 x, .int .i64 lo, .int .i64 hi] w fun (r : Int) w' => r = wi x lo hi ∧ St w0 w' F := by
  refine T17.calls ?_
  unfold T17
  have hne : hi - lo + 1 ≠ 0 := by omega
  have hin := wi_in (x := x) h1
  refine JoinX.mk (fun (jv : Int × Unit) w' => jv.1 = (if x < 0 then -(x + 1) else x) ∧ St w0 w' F) ?_ ?_
  · rintro ⟨v, ⟨⟩⟩ w ⟨hj, h⟩
    dsimp only at hj ⊢
    subst hj
    rw [wr (x := hi - lo) (by omega), wr (x := hi - lo + 1) (by omega)]
    refine RunN.of (kd := .int .i64) (x := Int.tmod (if x < 0 then -(x + 1) else x) (hi - lo + 1)) (w' := w) (by simp [binOp, Op.intDiv, hne, Kd.val]) ?_
    refine ⟨?_, h⟩
    rw [wr (by rw [wi] at hin; omega)]; rfl
  · intro k hk
    rw [SplitB_iff]
    refine ⟨fun hz => ?_, fun hz => ?_⟩
    · have hz : x < 0 := of_decide_eq_true hz
      rw [wr (x := x + 1) (by omega), wr (x := 0 - (x + 1)) (by omega)]
      exact hk _ _ ⟨by dsimp only; rw [if_pos hz]; omega, h⟩
    · have hz : ¬ x < 0 := of_decide_eq_false hz
      exact hk _ _ ⟨by dsimp only; rw [if_neg hz], h⟩
def mks : List UInt8 := [0xA7, 0xB6, 0xC5]
theorem lend_st (h : St w0 w F) {p : Sl} {l : List UInt8} (hp : SeesG w0 F p 1 (bys l)) (hl : l.length ≤ 140737488351232) : CallK Try.prog .sl 24 #[.slice p.a p.len p.cap] w fun (s : Sl) w' => s.len = l.length + 3 ∧ St w0 w' ([brow (s, l ++ mks)] :: F) := by
  have hpl := (hp w h).bys_len
  refine T24.calls ?_
  unfold T24
  have h := h.nilrow 5 1
  refine LoopX.mk (fun st w' => ∃ (s : Sl) (m : Nat), st = (s, (m : Int), ()) ∧ m ≤ l.length ∧ s.len = m ∧ St w0 w' ([brow (s, l.take m)] :: F)) (fun st => l.length - st.2.1.toNat) ⟨_, 0, rfl, Nat.zero_le _, rfl, h⟩ ?_
  clear h
  rintro _ w1 ⟨s, m, rfl, hm, hs, h⟩ k hk
  dsimp only at hk ⊢
  rw [hpl]
  rw [SplitB_iff]
  refine ⟨fun hc => ?_, fun hc => ?_⟩
  · have hc : m < l.length := by have : (m : Int) < (l.length : Int) := of_decide_eq_true hc
                                 omega
    have hem : IntKind.i64.wrap ((m : Int) + 1) = ((m + 1 : Nat) : Int) := by rw [wr (by omega)]; omega
    rw [hem, ← hpl]
    have hr := hp _ (h.drop 0)
    refine hr.idxK m rfl (by omega) ?_
    intro b o ha
    refine hr.el ha (m * 1) rfl (kd := .int .u8) (x := (l[m].toNat : Int)) (by rw [Nat.mul_one]; exact bys_get hc) ?_
    refine h.newS 1 (bs45 _ _) rfl rfl rfl ?_
    intro u w2 hu1 hu2 _ h
    refine h.app 1 0 ⟨_, rfl, rfl⟩ (h.rd (k := 0) (i := 0) ⟨_, rfl, rfl⟩) (fun v hv => by simp at hv; subst hv; rfl) (by dsimp only [maxLen]; omega) (by dsimp only; omega) ?_
    intro s' w3 hl3 h
    dsimp only at hl3
    have h := h.drop 0
    dsimp only [delO, updG, setO] at h
    refine hk _ _ ⟨s', m + 1, rfl, by omega, by omega, ?_⟩ (by dsimp only; omega)
    have e1 : bys (l.take (m + 1)) = bys (l.take m) ++ [.int .u8 (l[m].toNat : Int)] := by
      rw [List.take_succ_eq_append_getElem hc, bys_append]; rfl
    rw [brow, e1]
    exact h
  · have hc : m = l.length := by have : ¬ (m : Int) < (l.length : Int) := of_decide_eq_false hc
                                 omega
    subst hc
    rw [List.take_length] at h
    refine h.newS 1 (bs45m _ _ _ _) rfl rfl rfl ?_
    intro u w2 hu1 hu2 _ h
    refine h.app 1 0 ⟨_, rfl, rfl⟩ (h.rd (k := 0) (i := 0) ⟨_, rfl, rfl⟩) (fun v hv => by simp at hv; rcases hv with rfl | rfl | rfl <;> rfl) (by dsimp only [maxLen]; omega) (by dsimp only; omega) ?_
    intro s' w3 hl3 h
    dsimp only at hl3
    have h := h.drop 0
    dsimp only [delO, updG, setO] at h
    refine ⟨by omega, ?_⟩
    rw [brow, bys_append]
    exact h
/-- The beginning of what was lent, without the marks. -/
theorem lent_sees {s : Sl} {l : List UInt8} (hs : s.len = l.length + 3) : SeesG w0 ([brow (s, l ++ mks)] :: F) (subS s 0 l.length 1) 1 (bys l) := fun w h => by
  have hr := h.rd (k := 0) (i := 0) (E := 5) (sz := 1) (s := s) (vs := bys (l ++ mks)) ⟨_, rfl, rfl⟩
  have h1 := hr.pre (hi := l.length) (by omega)
  have e : (bys (l ++ mks)).take (l.length * 1) = bys l := by
    rw [bys_take, List.take_left']; rfl
  rwa [e] at h1
end Go.Proofs.Ytodgnpmljdopiaa

/- LinkStill. -/
namespace Go.Proofs.Ytodgnpmljdopiaa
open Go Go.Fw Go.RowKit
set_option linter.unusedVariables false
set_option linter.unusedSimpArgs false
set_option maxRecDepth 4000
set_option maxHeartbeats 4000000
variable {W w0 w : World} {F G : Grps}

def Lk.ticked (e : Lk) : Lk := { e with ag := if e.un.length = 0 then e.ag else if e.ag + 1 ≥ e.res then 0 else e.ag + 1, du := if e.un.length = 0 then e.du else if e.ag + 1 ≥ e.res then true else e.du }
theorem ticked_wf {e : Lk} (hw : e.wf) : e.ticked.wf := by
  have h1 := hw.ag; have h2 := hw.res
  refine ⟨hw.me, hw.peer, hw.win, hw.res, hw.cnt, hw.gone, hw.low, hw.last, hw.want, ?_, hw.seq, hw.lens, hw.elens, hw.erange, hw.nodup⟩
  simp only [Lk.ticked]
  split
  · exact h1
  · split <;> omega
def Lm.tick (e : Lm) : Lm := { e with toLk := e.toLk.ticked }
theorem tick_st' {e : Lm} (h : St w0 w (lmE e :: dat e.toLk :: F)) (hw : e.wf) : CallK Try.prog (.tup .nilT) 20 #[.pointer e.p] w fun (_ : Unit) w' => St w0 w' (lmE e.tick :: dat e.tick.toLk :: F) :=
  tick_st h hw
theorem tmod_step {n q a i : Int} (hn : 1 ≤ n) (hq : 0 ≤ q) (h0 : 0 ≤ a) (h1 : a < n) (hi : i = n * q + (a + 1)) : (Int.tmod i n = 0 ↔ a + 1 = n) := by
  have hnq : 0 ≤ n * q := Int.mul_nonneg (by omega) hq
  rw [Int.tmod_eq_emod_of_nonneg (by omega), hi, Int.add_comm, Int.add_mul_emod_self_left]
  by_cases h : a + 1 = n
  · rw [h, Int.emod_self]; simp
  · rw [Int.emod_eq_of_lt (by omega) (by omega)]; omega
/-- What has been handed in and not acknowledged, in full: its bytes. -/
structure Holds (e : Lk) (a n : Int) (D : List Bs) : Prop where
  me : e.me = 3
  peer : e.peer = 5
  win : (e.win : Int) = a
  res : e.res = n
  want : e.want = 1
  ow : e.ow = false
  du : e.du = false
  last : e.last = D.length
  wf : e.wf
  dat : (e.un ++ e.bx).map (fun p => p.2.2) = D.map (·.2)
theorem Holds.len {e : Lk} {a n : Int} {D : List Bs} (h : Holds e a n D) : e.un.length + e.bx.length = D.length := by
  have := congrArg List.length h.dat
  simpa using this
theorem Holds.tells {e : Lk} {a n : Int} {D : List Bs} (h : Holds e a n D) {gs : List Sg} (hg : gs.map Sg.pl = e.tells (e.un ++ e.bx)) {k : Nat} (hk : k < D.length) : ∃ h : k < gs.length, gs[k].fr = 3 ∧ gs[k].to = 5 ∧ gs[k].seq = k + 1 ∧ gs[k].ack = 0 ∧ gs[k].d.2 = D[k].2 := by
  have hl := h.len
  have hgl : gs.length = e.un.length + e.bx.length := by have := congrArg List.length hg; simpa [Lk.tells] using this
  have hk1 : k < gs.length := by omega
  have hk2 : k < (e.un ++ e.bx).length := by simp; omega
  have h1 : (gs.map Sg.pl)[k]? = (e.tells (e.un ++ e.bx))[k]? := by rw [hg]
  rw [Lk.tells, List.getElem?_map, List.getElem?_map, List.getElem?_eq_getElem hk1, List.getElem?_eq_getElem hk2] at h1
  simp only [Option.map_some, Option.some.injEq, Sg.pl, Prod.mk.injEq] at h1
  obtain ⟨a1, a2, a3, a4, a5⟩ := h1
  have h2 : ((e.un ++ e.bx).map (fun p => p.2.2))[k]? = (D.map (·.2))[k]? := by rw [h.dat]
  rw [List.getElem?_map, List.getElem?_map, List.getElem?_eq_getElem hk, List.getElem?_eq_getElem hk2] at h2
  simp only [Option.map_some, Option.some.injEq] at h2
  have h3 := h.wf.seq k hk2
  have h4 := h.last
  refine ⟨hk1, by rw [a1, h.me], by rw [a2, h.peer], ?_, by rw [a4, h.want]; rfl, by rw [a5, h2]⟩
  rw [a3, h3]; omega
theorem still_st {s : Sl} {L : List Bs} (hs : Rd W s 1 (lsl L)) (hL : ∀ x ∈ L, Rd W x.1 1 (bys x.2)) (hLl : L.length ≤ 4611686018427387904) {p0 p1 p3 : Int} (r0 : -9223372036854775808 ≤ p0 ∧ p0 ≤ 9223372036854775807) (r1 : -9223372036854775808 ≤ p1 ∧ p1 ≤ 9223372036854775807) (r3 : -9223372036854775808 ≤ p3 ∧ p3 ≤ 9223372036854775807) :
    CallK Try.prog .bool 8 #[.int .i64 p0, .int .i64 p1, .slice s.a s.len s.cap, .int .i64 p3] W fun (r : Bool) w' => r = true ∧ Upd W w' nobody := by
  have hsl : s.len = L.length := by have := hs.1; rw [lsl_len] at this; omega
  have h := St.init W
  refine T8.calls ?_
  unfold T8
  refine (alive_st h).mono ?_
  intro (al : Bool) w1 ⟨hal, h⟩
  rw [hal]
  refine (within_st h (by decide) (by decide) (by decide) r0).mono ?_
  intro (a : Int) w2 ⟨ha, h⟩
  have ha1 := wi_in (x := p0) (lo := 1) (hi := 16) (by decide)
  rw [← ha] at ha1
  refine (within_st h (by decide) (by decide) (by decide) r1).mono ?_
  intro (n : Int) w3 ⟨hn, h⟩
  have hn1 := wi_in (x := p1) (lo := 1) (hi := 20) (by decide)
  rw [← hn] at hn1
  refine (new_st h 3 5 a n).mono ?_
  have hE : newE 3 5 a n = 0 := by
    rw [newE, if_neg (by decide), if_neg (by omega)]
  rintro r w4 (⟨hne, _⟩ | ⟨_, e, rfl, he, h⟩)
  · exact absurd hE hne
  have hlw := lk0_wf hE
  have h : St W w4 (lmE e :: dat e.toLk :: []) := by rw [(lk0_dat he).1]; exact h.perm (by simp)
  refine JoinX.mk (fun (y : Bool × Unit) w' => y.1 = false ∧ St W w' (lmE e :: dat e.toLk :: [])) ?_ ?_
  rotate_left
  · intro k hk
    rw [SplitB_iff]
    refine ⟨fun hf => (by cases hf), fun _ => ?_⟩
    rw [SplitB_iff]
    refine ⟨fun hf => (by cases hf), fun _ => ?_⟩
    refine RunN.pEqS ?_
    exact hk _ _ ⟨rfl, h⟩
  clear h
  rintro ⟨y, ⟨⟩⟩ w5 ⟨hy, h⟩
  dsimp only at hy
  subst hy
  rw [SplitB_iff]
  refine ⟨fun hf => (by cases hf), fun _ => ?_⟩
  dsimp only
  -- ticks of an idle link
  have hag0 : e.ag = 0 := by
    have : e.ag = e.toLk.ag := rfl
    rw [this, he]; rfl
  refine LoopX.mk (fun st w' => ∃ (m : Nat) (e1 : Lm), st = ((m : Int), ()) ∧ m ≤ 45 ∧ e1.p = e.p ∧ Holds e1.toLk a n [] ∧ e1.ag = 0 ∧ St W w' (lmE e1 :: dat e1.toLk :: [])) (fun st => 45 - st.1.toNat) ⟨0, e, rfl, by omega, rfl, ?_, hag0, h⟩ ?_
  · rw [he]
    exact ⟨rfl, rfl, hlw.2, rfl, rfl, rfl, rfl, rfl, hlw.1, rfl⟩
  clear h he
  rintro _ w6 ⟨m, e1, rfl, hm, hep, hh, hag, h⟩ k hk
  dsimp only at hk ⊢
  have hll := hh.len
  simp only [List.length_nil] at hll
  rw [← hep]
  rw [SplitB_iff]
  refine ⟨fun hc => ?_, fun hc => ?_⟩
  · have hc : m < 45 := by have : (m : Int) < 45 := of_decide_eq_true hc
                           omega
    have hem : IntKind.i64.wrap ((m : Int) + 1) = ((m + 1 : Nat) : Int) := by rw [wr (by omega)]; omega
    rw [hem]
    refine (tick_st' h hh.wf).mono ?_
    intro _ w7 h
    have hun : e1.un = [] := List.eq_nil_of_length_eq_zero (by omega)
    have hbx : e1.bx = [] := List.eq_nil_of_length_eq_zero (by omega)
    have ht : e1.toLk.ticked = e1.toLk := by rw [Lk.ticked, if_pos (by rw [hun]; rfl), if_pos (by rw [hun]; rfl)]
    have het : e1.tick = e1 := by rw [Lm.tick, ht]
    rw [het] at h
    refine (out_st h hh.wf).mono ?_
    rintro o w8 ⟨us, gs, hgs, hol, h⟩
    have hgs : gs = [] := by
      rw [Lk.outs, hh.ow, hh.du, hbx] at hgs
      simpa [Lk.tells] using hgs
    subst hgs
    have hol : o.len = 0 := hol
    rw [hol, SplitB_iff]
    refine ⟨fun hf => (by cases hf), fun _ => ?_⟩
    have h := h.ord 4 [0, 1]
    dsimp only [pick, nthO, dropO] at h
    refine hk _ _ ⟨m + 1, e1.outed us, rfl, by omega, hep, ?_, ?_, h⟩ (by dsimp only; omega)
    · refine ⟨hh.me, hh.peer, hh.win, hh.res, hh.want, rfl, rfl, hh.last, outed_wf hh.wf us, ?_⟩
      simp [Lm.outed, hun, hbx]
    · simp [Lm.outed, hag]
  clear hc hk hm
  -- data is handed in
  have h := h.nilrow 45 1
  have h := h.ord 3 [1, 2, 0]
  dsimp only [pick, nthO, dropO] at h
  have hun : e1.un = [] := List.eq_nil_of_length_eq_zero (by omega)
  refine LoopX.mk (fun st w' => ∃ (ws : Sl) (m : Nat) (e2 : Lm) (D : List Bs), st = (ws, (m : Int), ()) ∧ m ≤ L.length ∧ (m : Int) ≤ a ∧ D.length ≤ m ∧ ws.len = D.length ∧ (∀ x ∈ D, x ∈ L) ∧ e2.p = e1.p ∧ Holds e2.toLk a n D ∧ e2.un = [] ∧ e2.ag = 0 ∧
      St W w' (lmE e2 :: dat e2.toLk :: [.row 45 1 ws (lsl D)] :: [])) (fun st => 20 - st.2.1.toNat) ⟨_, 0, e1, [], rfl, by omega, by omega, by simp, rfl, fun _ h => (by cases h), rfl, hh, hun, hag, h⟩ ?_
  clear h hh hag hun hll
  rintro _ w7 ⟨ws, m, e2, D, rfl, hm, hma, hDm, hwl, hDL, hep2, hh, hun, hag, h⟩ k hk
  dsimp only at hk ⊢
  have hll := hh.len
  rw [hun] at hll
  simp only [List.length_nil, Nat.zero_add] at hll
  rw [hsl]
  refine JoinX.mk (fun (y : Bool × Unit) w' => y.1 = decide (m < L.length ∧ (m : Int) < a) ∧ St W w' (lmE e2 :: dat e2.toLk :: [.row 45 1 ws (lsl D)] :: [])) ?_ ?_
  rotate_left
  · intro k2 hk2
    rw [SplitB_iff]
    refine ⟨fun hc => ?_, fun hc => ?_⟩
    · have hc : (m : Int) < (L.length : Int) := of_decide_eq_true hc
      refine hk2 _ _ ⟨?_, h⟩
      dsimp only
      exact decide_eq_decide.2 ⟨fun h => ⟨by omega, h⟩, fun h => h.2⟩
    · have hc : ¬ (m : Int) < (L.length : Int) := of_decide_eq_false hc
      refine hk2 _ _ ⟨?_, h⟩
      symm
      exact decide_eq_false (fun h => by omega)
  clear h
  rintro ⟨y, ⟨⟩⟩ w8 ⟨hy, h⟩
  dsimp only at hy
  subst hy
  rw [SplitB_iff]
  refine ⟨fun hc => ?_, fun hc => ?_⟩
  · have hc : m < L.length ∧ (m : Int) < a := of_decide_eq_true hc
    have hem : IntKind.i64.wrap ((m : Int) + 1) = ((m + 1 : Nat) : Int) := by rw [wr (by omega)]; omega
    rw [hem]
    refine JoinX.mk (fun (y : Sl × Unit) w' => ∃ (e3 : Lm) (D' : List Bs), D'.length ≤ m + 1 ∧ y.1.len = D'.length ∧ (∀ x ∈ D', x ∈ L) ∧ e3.p = e1.p ∧ Holds e3.toLk a n D' ∧ e3.un = [] ∧ e3.ag = 0 ∧
      St W w' (lmE e3 :: dat e3.toLk :: [.row 45 1 y.1 (lsl D')] :: [])) ?_ ?_
    · rintro ⟨y, ⟨⟩⟩ w9 ⟨e3, D', g1, g2, g3, g4, g5, g6, g7, h⟩
      exact hk _ _ ⟨y, m + 1, e3, D', rfl, by omega, by omega, g1, g2, g3, g4, g5, g6, g7, h⟩ (by dsimp only; omega)
    · intro k9 hk9
      have hrs : ∀ {w'} {G : Grps}, St W w' G → Rd w' s 1 (lsl L) := fun h => h.old hs
      rw [← hsl]
      have hsr := hrs h
      refine hsr.idxK m rfl (by omega) ?_
      intro b0 o0 hsa
      refine hsr.el hsa (m * 1) rfl (kd := .sl) (x := L[m].1) (by rw [Nat.mul_one]; exact lsl_at hc.1) ?_
      have hmem : L[m] ∈ L := List.getElem_mem hc.1
      have hx := hL _ hmem
      have hxl := hx.bys_len
      rw [hxl, SplitB_iff]
      refine ⟨fun hle => ?_, fun hle => ?_⟩
      · have hle : L[m].2.length ≤ 4000 := by have : (L[m].2.length : Int) ≤ 4000 := of_decide_eq_true hle
                                              omega
        have hsr := hrs h.drew
        refine hsr.idxR m rfl (by omega) ?_
        intro b1 o1 hsa1
        refine hsr.elR hsa1 (m * 1) rfl (kd := .sl) (x := L[m].1) (by rw [Nat.mul_one]; exact lsl_at hc.1) ?_
        refine hsr.idxR m rfl (by omega) ?_
        intro b2 o2 hsa2
        refine hsr.elR hsa2 (m * 1) rfl (kd := .sl) (x := L[m].1) (by rw [Nat.mul_one]; exact lsl_at hc.1) ?_
        refine (lend_st h.drew (p := L[m].1) (l := L[m].2) (fun w h => h.old hx) (by omega)).mono ?_
        intro t w10 ⟨htl, h⟩
        have hsr := hrs h
        refine ⟨StillV.el hsr hsa2 (m * 1) rfl (by rw [Nat.mul_one]; exact lsl_at hc.1), ?_⟩
        refine ⟨StillV.idx hsr hsa2 m rfl (by omega), ?_⟩
        refine ReadN.sH L[m].2.length (by rw [hxl]) (by have := (h.rd (k := 0) (i := 0) (E := 5) (sz := 1) (s := t) (vs := bys (L[m].2 ++ mks)) ⟨_, rfl, rfl⟩).2.2; omega) ?_
        have h := h.ord 4 [1, 2, 0, 3]
        dsimp only [pick, nthO, dropO] at h
        rw [← hep2]
        refine (send_st h hh.wf (p := subS t 0 L[m].2.length 1) (l := L[m].2) (lent_sees htl) (by omega)).mono ?_
        intro (v : Int) w11 ⟨hv, _, h⟩
        have hroom : e2.room = (e2.win : Int) - e2.bx.length - e2.un.length := rfl
        have hw9 := hh.win
        have hla := hh.last
        have href : e2.refuse L[m].2 = 0 := by
          rw [Lk.refuse, if_neg (by omega), if_neg (by rw [hroom, hun]; simp; omega)]
        have hv : v = 0 := hv.trans href
        obtain ⟨s1, h⟩ := h hv
        rw [hv, SplitB_iff]
        refine ⟨fun hf => (by cases hf), fun _ => ?_⟩
        have hsr := hrs h
        refine hsr.idxK m rfl (by omega) ?_
        intro b3 o3 hsa3
        refine hsr.el hsa3 (m * 1) rfl (kd := .sl) (x := L[m].1) (by rw [Nat.mul_one]; exact lsl_at hc.1) ?_
        refine h.newS 1 (bs51 _ _ _ _) rfl rfl rfl ?_
        intro u w12 hu1 hu2 _ h
        refine h.app 4 0 ⟨_, rfl, rfl⟩ (h.rd (k := 0) (i := 0) ⟨_, rfl, rfl⟩) (fun v hv => by simp at hv; subst hv; rfl) (by simp only [maxLen]; omega) (by omega) ?_
        intro ws' w13 hl13 h
        have h := h.ord 5 [1, 2, 4]
        dsimp only [pick, nthO, dropO, updG, setO] at h
        refine hk9 _ _ ⟨e2.sent s1 L[m].2, D ++ [L[m]], by simp; omega, by simp; omega, fun x hx => ?_, hep2, ?_, hun, hag, ?_⟩
        · rcases List.mem_append.1 hx with hx | hx
          · exact hDL x hx
          · simp at hx; subst hx; exact hmem
        · refine ⟨hh.me, hh.peer, hh.win, hh.res, hh.want, hh.ow, hh.du, ?_, sent_wf hh.wf s1 href, ?_⟩
          · simp [Lm.sent]; omega
          · have := hh.dat
            rw [hun, List.nil_append] at this
            simp [Lm.sent, hun, this]
        · rw [lsl_snoc]; exact h
      · refine hk9 _ _ ⟨e2, D, by omega, hwl, hDL, hep2, hh, hun, hag, h⟩
  clear hk hc
  rw [← hep2]
  refine (out_st h hh.wf).mono ?_
  rintro o w9 ⟨us, gs, hgs, hol, h⟩
  have hgl : gs.length = D.length := by
    have := congrArg List.length hgs
    rw [Lk.outs, hh.ow, hh.du] at this
    simp [Lk.tells] at this
    omega
  have hoi : (o.len : Int) = (D.length : Int) := by omega
  have hwi : (ws.len : Int) = (D.length : Int) := by omega
  rw [hoi, hwi, SplitB_iff]
  refine ⟨fun hf => by simp at hf, fun _ => ?_⟩
  have h := h.ord 5 [0, 1, 4]
  dsimp only [pick, nthO, dropO] at h
  have hh3 : Holds (e2.outed us).toLk a n D := by
    refine ⟨hh.me, hh.peer, hh.win, hh.res, hh.want, rfl, rfl, hh.last, outed_wf hh.wf us, ?_⟩
    have := hh.dat
    simpa [Lm.outed] using this
  have hres := hh.res
  have hagz : (e2.outed us).ag = 0 := by simp [Lm.outed, hag]
  refine LoopX.mk (fun st w' => ∃ (i : Nat) (e4 : Lm) (q : Int), st = ((i : Int), ()) ∧ 1 ≤ i ∧ i ≤ 61 ∧ e4.p = e2.p ∧ Holds e4.toLk a n D ∧ e4.bx = [] ∧ 0 ≤ q ∧ 0 ≤ e4.ag ∧ e4.ag < n ∧ (0 < D.length → (i : Int) = n * q + (e4.ag + 1)) ∧
      St W w' (lmE e4 :: dat e4.toLk :: [.row 45 1 ws (lsl D)] :: [])) (fun st => 100 - st.1.toNat) ⟨1, e2.outed us, 0, rfl, by omega, by omega, rfl, hh3, rfl, by omega, by omega, by omega, fun _ => by rw [hagz]; simp, h⟩ ?_
  clear h hh3 hagz hh hag hll hgs hol
  rintro _ w10 ⟨i, e4, q, rfl, hi1, hi2, hep4, hh, hbx, hq, hag0, hagn, hiq, h⟩ k hk
  dsimp only at hk ⊢
  refine (within_st h (by decide) (by decide) (by decide) r3).mono ?_
  intro (t : Int) w11 ⟨ht, h⟩
  have ht1 := wi_in (x := p3) (lo := 1) (hi := 60) (by decide)
  rw [← ht] at ht1
  have hll := hh.len
  have hun : e4.un.length = D.length := by rw [hbx] at hll; simpa using hll
  have hres4 := hh.res
  rw [← hep4, SplitB_iff]
  refine ⟨fun hc => ?_, fun hc => ?_⟩
  · have hc : (i : Int) ≤ t := of_decide_eq_true hc
    have hem : IntKind.i64.wrap ((i : Int) + 1) = ((i + 1 : Nat) : Int) := by rw [wr (by omega)]; omega
    rw [hem]
    refine JoinX.mk (fun (y : Unit) w' => ∃ (e5 : Lm) (q' : Int), e5.p = e2.p ∧ Holds e5.toLk a n D ∧ e5.bx = [] ∧ 0 ≤ q' ∧ 0 ≤ e5.ag ∧ e5.ag < n ∧ (0 < D.length → ((i + 1 : Nat) : Int) = n * q' + (e5.ag + 1)) ∧ St W w' (lmE e5 :: dat e5.toLk :: [.row 45 1 ws (lsl D)] :: [])) ?_ ?_
    · rintro ⟨⟩ w12 ⟨e5, q', g1, g2, g3, g4, g5, g6, g7, h⟩
      exact hk _ _ ⟨i + 1, e5, q', rfl, by omega, by omega, g1, g2, g3, g4, g5, g6, g7, h⟩ (by dsimp only; omega)
    intro k13 hk13
    refine (tick_st' h hh.wf).mono ?_
    intro _ w12 h
    refine (out_st (e := e4.tick) h (ticked_wf hh.wf)).mono ?_
    rintro o w13 ⟨us4, gs, hgs, hol, h⟩
    have hfin : ∀ {w'}, St W w' (lmE (e4.tick.outed us4) :: dat (e4.tick.outed us4).toLk :: outE o gs :: outD gs :: [.row 45 1 ws (lsl D)] :: []) → k13 () w' := by
      intro w' h
      have h := h.ord 5 [0, 1, 4]
      dsimp only [pick, nthO, dropO] at h
      have hu5 : (e4.tick.outed us4).un = e4.un := by
        show e4.un ++ e4.bx = e4.un
        rw [hbx, List.append_nil]
      have hag5 : (e4.tick.outed us4).ag = e4.tick.ag := by
        show (if e4.un.length = 0 ∧ 0 < e4.bx.length then 0 else e4.tick.ag) = e4.tick.ag
        rw [hbx, if_neg (by simp)]
      have htag : e4.tick.ag = if e4.un.length = 0 then e4.ag else if e4.ag + 1 ≥ e4.res then 0 else e4.ag + 1 := rfl
      have hH : Holds (e4.tick.outed us4).toLk a n D := by
        refine ⟨hh.me, hh.peer, hh.win, hh.res, hh.want, rfl, rfl, hh.last, outed_wf (e := e4.tick) (ticked_wf hh.wf) us4, ?_⟩
        have := hh.dat
        simpa [Lm.outed, Lm.tick, Lk.ticked] using this
      by_cases hz : e4.ag + 1 ≥ n
      · by_cases h0 : e4.un.length = 0
        · refine hk13 _ _ ⟨e4.tick.outed us4, q, hep4, hH, rfl, hq, by rw [hag5, htag, if_pos h0]; exact hag0, by rw [hag5, htag, if_pos h0]; exact hagn, fun hD => by omega, h⟩
        · refine hk13 _ _ ⟨e4.tick.outed us4, q + 1, hep4, hH, rfl, by omega, by rw [hag5, htag, if_neg h0, if_pos (by omega)]; decide, by rw [hag5, htag, if_neg h0, if_pos (by omega)]; omega, fun hD => ?_, h⟩
          rw [hag5, htag, if_neg h0, if_pos (by omega), Int.mul_add]
          have := hiq hD
          omega
      · by_cases h0 : e4.un.length = 0
        · refine hk13 _ _ ⟨e4.tick.outed us4, q, hep4, hH, rfl, hq, by rw [hag5, htag, if_pos h0]; exact hag0, by rw [hag5, htag, if_pos h0]; exact hagn, fun hD => by omega, h⟩
        · refine hk13 _ _ ⟨e4.tick.outed us4, q, hep4, hH, rfl, hq, by rw [hag5, htag, if_neg h0, if_neg (by omega)]; omega, by rw [hag5, htag, if_neg h0, if_neg (by omega)]; omega, fun hD => ?_, h⟩
          rw [hag5, htag, if_neg h0, if_neg (by omega)]
          have := hiq hD
          omega
    have hdu : e4.tick.du = if e4.un.length = 0 then false else decide (e4.ag + 1 = n) := by
      show (if e4.un.length = 0 then e4.du else if e4.ag + 1 ≥ e4.res then true else e4.du) = _
      rw [hh.du]
      split
      · rfl
      · split
        · rw [decide_eq_true (by omega)]
        · rw [decide_eq_false (by omega)]
    have houts : e4.tick.outs = if e4.tick.du = true then e4.un else [] := by
      have h1 : e4.tick.ow = false := hh.ow
      have h2 : e4.tick.bx = [] := hbx
      rw [Lk.outs, h1, h2]
      simp
      rfl
    refine JoinX.mk (fun (y : Bool × Unit) w' => y.1 = decide (¬ (0 < D.length ∧ e4.ag + 1 = n)) ∧ St W w' (lmE (e4.tick.outed us4) :: dat (e4.tick.outed us4).toLk :: outE o gs :: outD gs :: [.row 45 1 ws (lsl D)] :: [])) ?_ ?_
    rotate_left
    · intro k15 hk15
      refine RunN.of (kd := .int .i64) (x := Int.tmod (i : Int) n) (w' := w13) (by simp [binOp, Op.intDiv, show n ≠ 0 by omega, Kd.val]) ?_
      rw [SplitB_iff]
      refine ⟨fun hr => ?_, fun hr => ?_⟩
      · have hr : Int.tmod (i : Int) n ≠ 0 := by simpa using hr
        refine hk15 _ _ ⟨?_, h⟩
        symm
        refine decide_eq_true fun hx => hr ?_
        exact (tmod_step hn1.1 hq hag0 hagn (hiq hx.1)).2 hx.2
      · have hr : Int.tmod (i : Int) n = 0 := by simpa using hr
        refine hk15 _ _ ⟨?_, h⟩
        dsimp only
        by_cases hD : 0 < D.length
        · have := (tmod_step hn1.1 hq hag0 hagn (hiq hD)).1 hr
          rw [decide_eq_false (fun hx => hx ⟨hD, this⟩)]
          exact beq_eq_false_iff_ne.2 (by omega)
        · have hD0 : D.length = 0 := by omega
          rw [hD0, decide_eq_true (by simp)]
          rfl
    clear h
    rintro ⟨y, ⟨⟩⟩ w14 ⟨hy, h⟩
    dsimp only at hy
    subst hy
    rw [SplitB_iff]
    refine ⟨fun hc2 => ?_, fun hc2 => ?_⟩
    · have hc2 : ¬ (0 < D.length ∧ e4.ag + 1 = n) := of_decide_eq_true hc2
      have hdf : e4.tick.du = false := by
        rw [hdu]
        split
        · rfl
        · exact decide_eq_false (by omega)
      have hg0 : gs = [] := by
        rw [houts, hdf] at hgs
        simpa [Lk.tells] using hgs
      have ho0 : o.len = 0 := by rw [hol, hg0]; rfl
      rw [ho0, SplitB_iff]
      refine ⟨fun hf => (by cases hf), fun _ => ?_⟩
      exact hfin h
    · have hc2 : 0 < D.length ∧ e4.ag + 1 = n := by
        have := of_decide_eq_false hc2
        exact Classical.not_not.1 this
      have hdf : e4.tick.du = true := by
        rw [hdu, if_neg (by omega)]
        exact decide_eq_true hc2.2
      have hgs' : gs.map Sg.pl = e4.tells (e4.un ++ e4.bx) := by
        rw [hgs, houts, hdf, hbx, List.append_nil]; rfl
      have hgl : gs.length = D.length := by
        have := congrArg List.length hgs'
        simp [Lk.tells] at this
        omega
      have hoi : (o.len : Int) = (D.length : Int) := by omega
      rw [hoi, SplitB_iff]
      refine ⟨fun hf => by simp at hf, fun _ => ?_⟩
      refine LoopX.mk (fun st w' => ∃ (m : Nat), st = ((m : Int), ()) ∧ m ≤ D.length ∧ St W w' (lmE (e4.tick.outed us4) :: dat (e4.tick.outed us4).toLk :: outE o gs :: outD gs :: [.row 45 1 ws (lsl D)] :: [])) (fun st => D.length - st.1.toNat) ⟨0, rfl, Nat.zero_le _, h⟩ ?_
      clear h
      rintro _ w15 ⟨m, rfl, hm, h⟩ k18 hk18
      dsimp only at hk18 ⊢
      rw [SplitB_iff]
      refine ⟨fun hc3 => ?_, fun hc3 => ?_⟩
      · have hc3 : m < D.length := by have : (m : Int) < (D.length : Int) := of_decide_eq_true hc3
                                      omega
        have hcnt := hh.wf.cnt; have hwin := hh.wf.win
        have hem : IntKind.i64.wrap ((m : Int) + 1) = ((m + 1 : Nat) : Int) := by rw [wr (by omega)]; omega
        rw [hem]
        obtain ⟨hgm, t1, t2, t3, t4, t5⟩ := hh.tells hgs' hc3
        refine JoinX.mk (fun (y : Bool × Unit) w' => y.1 = false ∧ St W w' (lmE (e4.tick.outed us4) :: dat (e4.tick.outed us4).toLk :: outE o gs :: outD gs :: [.row 45 1 ws (lsl D)] :: [])) ?_ ?_
        · rintro ⟨y, ⟨⟩⟩ w16 ⟨hy, h⟩
          dsimp only at hy
          subst hy
          rw [SplitB_iff]
          refine ⟨fun hf => (by cases hf), fun _ => ?_⟩
          exact hk18 _ _ ⟨m + 1, rfl, by omega, h⟩ (by dsimp only; omega)
        · intro k19 hk19
          have hrr := h.drew.rd (k := 2) (i := 0) (E := 62) (sz := 5) (s := o) (vs := gs.flatMap sgv) ⟨_, rfl, rfl⟩
          have hcell : ∀ j, j < 5 → (gs.flatMap sgv)[m * 5 + j]? = (sgv gs[m])[j]? := fun j hj => flat_cell sgv_len hgm j hj
          refine hrr.idxR m rfl (by omega) ?_
          intro b1 o1 ha1
          refine hrr.elR ha1 (m * 5 + 2) (by rw [add_lit', Nat.add_assoc]) (kd := .int .i64) (x := gs[m].seq) (by rw [hcell 2 (by decide)]; rfl) ?_
          rw [t3, SplitB_iff]
          refine ⟨fun hf => by simp at hf, fun _ => ?_⟩
          refine hrr.idxR m rfl (by omega) ?_
          intro b2 o2 ha2
          refine hrr.elR ha2 (m * 5 + 3) (by rw [add_lit', Nat.add_assoc]) (kd := .int .i64) (x := gs[m].ack) (by rw [hcell 3 (by decide)]; rfl) ?_
          rw [t4, SplitB_iff]
          refine ⟨fun hf => (by cases hf), fun _ => ?_⟩
          refine hrr.idxR m rfl (by omega) ?_
          intro b3 o3 ha3
          refine hrr.elR ha3 (m * 5 + 0) (by rw [add_lit', Nat.add_assoc]) (kd := .int .i64) (x := gs[m].fr) (by rw [hcell 0 (by decide)]; rfl) ?_
          rw [t1, SplitB_iff]
          refine ⟨fun hf => (by cases hf), fun _ => ?_⟩
          refine hrr.idxR m rfl (by omega) ?_
          intro b4 o4 ha4
          refine hrr.elR ha4 (m * 5 + 1) (by rw [add_lit', Nat.add_assoc]) (kd := .int .i64) (x := gs[m].to) (by rw [hcell 1 (by decide)]; rfl) ?_
          rw [t2, SplitB_iff]
          refine ⟨fun hf => (by cases hf), fun _ => ?_⟩
          refine hrr.idxR m rfl (by omega) ?_
          intro b5 o5 ha5
          refine hrr.elR ha5 (m * 5 + 4) (by rw [add_lit', Nat.add_assoc]) (kd := .sl) (x := gs[m].d.1) (by rw [hcell 4 (by decide)]; rfl) ?_
          have hwr := h.drew.rd (k := 4) (i := 0) (E := 45) (sz := 1) (s := ws) (vs := lsl D) ⟨_, rfl, rfl⟩
          refine hwr.idxR m rfl (by omega) ?_
          intro b6 o6 ha6
          refine hwr.elR ha6 (m * 1) rfl (kd := .sl) (x := D[m].1) (by rw [Nat.mul_one]; exact lsl_at hc3) ?_
          have hp1 : Rd w15.drew gs[m].d.1 1 (bys gs[m].d.2) :=
            ((h.drew.memG (k := 3) rfl (List.mem_map.2 ⟨gs[m], List.getElem_mem hgm, rfl⟩) : (brow gs[m].d).ok w15.drew W.heap.size)).1.rd
          rw [t5] at hp1
          refine (same_ok hp1 (h.drew.old (hL _ (hDL _ (List.getElem_mem hc3))))).mono ?_
          rintro r3 w16 ⟨rfl, hr3⟩
          have hr3 : (r3 : Bool) = true := by rw [hr3]; simp
          rw [hr3]
          exact hk19 _ _ ⟨rfl, h.drew⟩
      · exact hfin h
  · refine (under_st h hh.wf).mono ?_
    rintro o w12 ⟨gs, hgs, hol, h⟩
    have hgl : gs.length = D.length := by
      have := congrArg List.length hgs
      simp [Lk.tells] at this
      omega
    refine ⟨?_, h.upd⟩
    rw [hol, hgl]
    simp
theorem law8 {s : Sl} {L : List Bs} (hs : Rd W s 1 (lsl L) ∧ ∀ x ∈ L, Rd W x.1 1 (bys x.2)) (hLl : L.length ≤ 4611686018427387904) {p0 p1 p3 : Int} (r0 : -9223372036854775808 ≤ p0 ∧ p0 ≤ 9223372036854775807) (r1 : -9223372036854775808 ≤ p1 ∧ p1 ≤ 9223372036854775807) (r3 : -9223372036854775808 ≤ p3 ∧ p3 ≤ 9223372036854775807) :
    CallK Try.prog .bool 8 #[.int .i64 p0, .int .i64 p1, .slice s.a s.len s.cap, .int .i64 p3] W fun (r : Bool) w' => Upd W w' nobody ∧ r = true :=
  (still_st hs.1 hs.2 hLl r0 r1 r3).mono fun _ _ h => ⟨h.2, h.1⟩
end Go.Proofs.Ytodgnpmljdopiaa

/- What a law of the link reads of its arguments: lists of bytes. -/
namespace Go.Proofs.Ytodgnpmljdopiaa
open Go.ChangeShapes Go.WideShapes Go.ChangeAt Go.RowKit Go Go.Fw
set_option linter.unusedVariables false
set_option linter.unusedSimpArgs false
set_option maxRecDepth 20000

theorem u5 : Try.prog.underlying 5 = some (.int .u8) := by kernel_rfl
theorem u51 : Try.prog.underlying 51 = some (.slice 45) := by kernel_rfl
theorem u45 : Try.prog.underlying 45 = some (.slice 5) := by kernel_rfl
theorem wf_i64 {n : Int} (h : Lit.wf (.int .i64 n) = true) : -9223372036854775808 ≤ n ∧ n ≤ 9223372036854775807 := by
  have hmax : IntKind.i64.max = 9223372036854775807 := rfl
  have hmin : IntKind.i64.min = -9223372036854775808 := rfl
  simp [Lit.wf, hmax, hmin] at h
  omega
theorem recs_els {H : Type} {enc : TypeId × Value → H} {W : World} {base : Nat} {spare : Nat → Bool} {held : Bool} {els : List (List Value)} (hel : ∀ c ∈ els, c.length = 1 ∧ ∃ (n : Nat) (y : DataW H × List MemPlace), DataW.trod enc Try.prog W base spare held n 45 c = some y ∧ Wt Try.prog 45 y.1) :
    ∃ L : List Bs, els.flatten = lsl L ∧ L.length = els.length ∧ ∀ x ∈ L, Rd W x.1 1 (bys x.2) ∧ x.2.length ≤ 140737488351232 := by
  induction els with
  | nil => exact ⟨[], rfl, rfl, fun x hx => by cases hx⟩
  | cons c r ih =>
    obtain ⟨L, e, el, hx⟩ := ih fun c hc => hel c (List.mem_cons_of_mem _ hc)
    obtain ⟨hc1, n, y, hy, hwy⟩ := hel c (List.mem_cons_self ..)
    obtain ⟨s, l, rfl, hr, hl⟩ := open_bys u45 u5 (by kernel_rfl) (by kernel_rfl) hy hwy
    refine ⟨(s, l) :: L, by rw [List.flatten_cons, e]; rfl, by simp [el], fun z hz => ?_⟩
    rcases List.mem_cons.1 hz with rfl | hz
    · exact ⟨hr, Nat.le_trans hl (Nat.le_of_eq rfl)⟩
    · exact hx z hz
theorem recs_of {H : Type} {enc : TypeId × Value → H} {W : World} {base b : Nat} {spare : Nat → Bool} {held : Bool} {v : Value} {d : DataW H} {ps : List MemPlace} (hval : Value.okWide Try.prog W .any b 51 v)
    (hd : DataW.Trod enc Try.prog W base spare held 51 v d ps) (hw : Wt Try.prog 51 d) : ∃ (s : Sl) (L : List Bs), v = .slice s.a s.len s.cap ∧ (Rd W s 1 (lsl L) ∧ ∀ x ∈ L, Rd W x.1 1 (bys x.2) ∧ x.2.length ≤ 140737488351232) ∧ L.length * 24 ≤ 140737488351232 := by
  obtain ⟨a0, len, cap, rfl⟩ := okWide_slice u51 hval
  obtain ⟨fuel0, hf⟩ := hd
  obtain ⟨s, els, hcs, hl, hr, hlen, hel⟩ := open_rd u51 (sz := 1) (by kernel_rfl) (by decide) hf hw
  have hb : Try.prog.bytesOf 45 = 24 := by kernel_rfl
  rw [hb] at hlen
  obtain ⟨L, e, el, hx⟩ := recs_els hel
  rw [e] at hr
  simp [Value.cells] at hcs
  obtain ⟨rfl, rfl, rfl⟩ := hcs
  have hrb : reachBytes = 140737488351232 := rfl
  exact ⟨s, L, rfl, ⟨hr, hx⟩, by rw [el]; omega⟩
end Go.Proofs.Ytodgnpmljdopiaa

/- Plain law of a pair of links: one direction. -/
namespace Go.Proofs.Ytodgnpmljdopiaa
open Go Go.Fw Go.RowKit
set_option linter.unusedVariables false
set_option linter.unusedSimpArgs false
set_option maxRecDepth 4000
set_option maxHeartbeats 4000000

/-- From S to T: what was handed in, how much came out, what is under way. -/
structure Dir (S T : Lk) (IN : List (List UInt8)) (O : Nat) (pool : List Sg) : Prop where
  last : S.last = IN.length
  un : ∀ p ∈ S.un ++ S.bx, ∃ i : Nat, p.1 = i + 1 ∧ IN[i]? = some p.2.2
  want : T.want = O + 1
  og : (O : Int) ≤ S.gone
  done : S.last - (S.un.length + S.bx.length : Nat) ≤ O
  ea : ∀ x ∈ T.ea, x.1.1 ≤ S.gone ∧ ∃ i : Nat, x.1.1 = i + 1 ∧ IN[i]? = some x.1.2.2
  po : ∀ g ∈ pool, g.to = T.me → g.fr = T.peer ∧ g.seq ≤ S.gone ∧ 0 ≤ g.ack ∧ g.ack + 1 ≤ S.want ∧ (g.seq = 0 ∧ g.d.2 = [] ∨ ∃ i : Nat, g.seq = i + 1 ∧ IN[i]? = some g.d.2)
  lens : ∀ l ∈ IN, l.length ≤ 4000
section
variable {S T S' T' : Lk} {IN IN2 : List (List UInt8)} {O O2 : Nat} {pool : List Sg}
theorem Dir.fits (h : Dir S T IN O pool) (h2 : Dir T S IN2 O2 pool) (hw : S.wf) (hw2 : T.wf) {g : Sg} (hg : g ∈ pool) (hto : g.to = T.me) : T.fits g = true := by
  obtain ⟨a1, a2, a3, a4, a5⟩ := h.po g hg hto
  have h3 := h2.want; have h4 := h2.og; have h5 := hw.last; have h6 := hw.gone
  have hl : g.d.2.length ≤ 4000 := by
    rcases a5 with ⟨_, hd⟩ | ⟨i, _, hd⟩
    · rw [hd]; simp
    · exact h.lens _ (List.mem_of_getElem? hd)
  have hs : 0 ≤ g.seq ∧ (0 < g.seq ∨ g.d.2.length = 0) := by
    rcases a5 with ⟨h0, hd⟩ | ⟨i, hi, hd⟩
    · exact ⟨by omega, .inr (by rw [hd]; rfl)⟩
    · exact ⟨by omega, .inl (by omega)⟩
  simp only [Lk.fits, Bool.and_eq_true, decide_eq_true_eq, Bool.or_eq_true, beq_iff_eq]
  refine ⟨a1, hto, by omega, by omega, by omega, by omega, ?_, hl⟩
  rcases hs.2 with h7 | h7
  · exact .inl (by omega)
  · exact .inr h7
theorem Dir.tickS (h : Dir S T IN O pool) : Dir S.ticked T IN O pool := ⟨h.last, h.un, h.want, h.og, h.done, h.ea, h.po, h.lens⟩
theorem Dir.tickT (h : Dir S T IN O pool) : Dir S T.ticked IN O pool := ⟨h.last, h.un, h.want, h.og, h.done, h.ea, h.po, h.lens⟩
theorem get_snoc {l : List (List UInt8)} {i : Nat} {x y : List UInt8} (h : l[i]? = some x) : (l ++ [y])[i]? = some x := by
  rw [List.getElem?_append_left (List.getElem?_eq_some_iff.1 h).1]; exact h
theorem Dir.sendS {S : Lm} (h : Dir S.toLk T IN O pool) {l : List UInt8} (hl : l.length ≤ 4000) (s : Sl) : Dir (S.sent s l).toLk T (IN ++ [l]) O pool := by
  refine ⟨?_, ?_, h.want, h.og, ?_, ?_, ?_, ?_⟩
  · have := h.last
    simp [Lm.sent, this]
  · intro p hp
    have hp : p ∈ S.un ++ (S.bx ++ [(S.last + 1, s, l)]) := hp
    rw [← List.append_assoc] at hp
    rcases List.mem_append.1 hp with hp | hp
    · obtain ⟨i, h1, h2⟩ := h.un p hp
      exact ⟨i, h1, get_snoc h2⟩
    · simp at hp
      subst hp
      exact ⟨IN.length, by have := h.last; dsimp only; omega, by simp⟩
  · have := h.done
    simp only [Lm.sent, List.length_append, List.length_cons, List.length_nil]
    omega
  · intro x hx
    obtain ⟨h1, i, h2, h3⟩ := h.ea x hx
    exact ⟨h1, i, h2, get_snoc h3⟩
  · intro g hg hto
    obtain ⟨a1, a2, a3, a4, a5⟩ := h.po g hg hto
    refine ⟨a1, a2, a3, a4, ?_⟩
    rcases a5 with h0 | ⟨i, hi, hd⟩
    · exact .inl h0
    · exact .inr ⟨i, hi, get_snoc hd⟩
  · intro x hx
    rcases List.mem_append.1 hx with hx | hx
    · exact h.lens x hx
    · simp at hx; subst hx; exact hl
theorem Dir.sendT {T : Lm} (h : Dir S T.toLk IN O pool) (l : List UInt8) (s : Sl) : Dir S (T.sent s l).toLk IN O pool := ⟨h.last, h.un, h.want, h.og, h.done, h.ea, h.po, h.lens⟩
/-- What Out tells may be under way from then on. -/
theorem Dir.outS {S : Lm} (h : Dir S.toLk T IN O pool) (hw : S.wf) (hme : S.me = T.peer) {gs : List Sg} (hg : gs.map Sg.pl = S.tells S.outs) (us : Sl) {pool2 : List Sg} (hp : ∀ g ∈ pool2, g ∈ pool ∨ g ∈ gs) : Dir (S.outed us).toLk T IN O pool2 := by
  have hgo := hw.gone
  have hge : S.gone ≤ S.last := by omega
  refine ⟨h.last, ?_, h.want, ?_, ?_, ?_, ?_, h.lens⟩
  · intro p hp
    have hp : p ∈ (S.un ++ S.bx) ++ [] := hp
    rw [List.append_nil] at hp
    exact h.un p hp
  · show (O : Int) ≤ S.last
    have := h.og; omega
  · have := h.done
    simp only [Lm.outed, List.length_append, List.length_nil, Nat.add_zero]
    exact this
  · intro x hx
    obtain ⟨h1, r⟩ := h.ea x hx
    exact ⟨by show x.1.1 ≤ S.last; omega, r⟩
  · intro g hg2 hto
    rcases hp g hg2 with h1 | h1
    · obtain ⟨a1, a2, a3, a4, a5⟩ := h.po g h1 hto
      exact ⟨a1, by show g.seq ≤ S.last; omega, a3, a4, a5⟩
    · have h2 : g.pl ∈ S.tells S.outs := by rw [← hg]; exact List.mem_map.2 ⟨g, h1, rfl⟩
      obtain ⟨p, hp1, hp2⟩ := List.mem_map.1 h2
      simp only [Sg.pl, Prod.mk.injEq] at hp2
      obtain ⟨b1, b2, b3, b4, b5⟩ := hp2
      have hwt := hw.want
      have h3 : p = ackP ∨ p ∈ S.un ++ S.bx := by
        rw [Lk.outs] at hp1
        rcases List.mem_append.1 hp1 with hp1 | hp1
        · rcases List.mem_append.1 hp1 with hp1 | hp1
          · split at hp1
            · simp at hp1; exact .inl hp1
            · cases hp1
          · split at hp1
            · exact .inr (List.mem_append_left _ hp1)
            · cases hp1
        · exact .inr (List.mem_append_right _ hp1)
      refine ⟨by rw [← b1, hme], ?_, by omega, by show g.ack + 1 ≤ S.want; omega, ?_⟩
      · show g.seq ≤ S.last
        rcases h3 with rfl | h3
        · rw [← b3]; show (0 : Int) ≤ S.last
          have := hw.low; omega
        · obtain ⟨i, h4, h5⟩ := h.un p h3
          have := (List.getElem?_eq_some_iff.1 h5).1
          have := h.last
          omega
      · rcases h3 with rfl | h3
        · exact .inl ⟨b3.symm, b5.symm⟩
        · obtain ⟨i, h4, h5⟩ := h.un p h3
          exact .inr ⟨i, by omega, by rw [← b5]; exact h5⟩
theorem Dir.outT {T : Lm} (h : Dir S T.toLk IN O pool) (hne : T.me ≠ T.peer) {gs : List Sg} (hg : gs.map Sg.pl = T.tells T.outs) (us : Sl) {pool2 : List Sg} (hp : ∀ g ∈ pool2, g ∈ pool ∨ g ∈ gs) : Dir S (T.outed us).toLk IN O pool2 := by
  refine ⟨h.last, h.un, h.want, h.og, h.done, h.ea, ?_, h.lens⟩
  intro g hg2 hto
  rcases hp g hg2 with h1 | h1
  · exact h.po g h1 hto
  · exfalso
    have h2 : g.pl ∈ T.tells T.outs := by rw [← hg]; exact List.mem_map.2 ⟨g, h1, rfl⟩
    obtain ⟨p, hp1, hp2⟩ := List.mem_map.1 h2
    simp only [Sg.pl, Prod.mk.injEq] at hp2
    exact hne (hto.symm.trans hp2.2.1.symm)
/-- What goes up is the next of what was handed in. -/
theorem Dir.up {T : Lm} (h : Dir S T.toLk IN O pool) (hw : S.wf) {g : Sg} (hg : g ∈ pool) (hto : g.to = T.me) {u l : List Ea} (ht : TakeR T.toLk g u l) :
    (∀ (i : Nat) (hi : i < u.length), IN[O + i]? = some u[i].1.2.2) ∧ ((O + u.length : Nat) : Int) ≤ S.gone ∧ ∀ x ∈ l, x.1.1 ≤ S.gone ∧ ∃ i : Nat, x.1.1 = i + 1 ∧ IN[i]? = some x.1.2.2 := by
  by_cases hn : T.toLk.news g
  · obtain ⟨s, c, hp, hk, hl⟩ := ht.yes hn
    have hwt := h.want
    have hall : ∀ x ∈ u ++ l, x.1.1 ≤ S.gone ∧ ∃ i : Nat, x.1.1 = i + 1 ∧ IN[i]? = some x.1.2.2 := by
      intro x hx
      rcases List.mem_append.1 (hp.mem_iff.2 hx) with h1 | h1
      · exact h.ea x h1
      · simp at h1; subst h1
        obtain ⟨a1, a2, a3, a4, a5⟩ := h.po g hg hto
        refine ⟨a2, ?_⟩
        rcases a5 with h0 | h0
        · exact absurd h0.1 hn.1
        · exact h0
    refine ⟨fun i hi => ?_, ?_, fun x hx => hall x (List.mem_append_right _ hx)⟩
    · obtain ⟨_, k, h1, h2⟩ := hall _ (List.mem_append_left _ (List.getElem_mem hi))
      have h3 := hk i hi
      have : O + i = k := by omega
      rw [this]; exact h2
    · rcases Nat.eq_zero_or_pos u.length with h0 | h0
      · rw [h0]; exact h.og
      · have hi : u.length - 1 < u.length := by omega
        have h1 := hk _ hi
        have h2 := (hall _ (List.mem_append_left _ (List.getElem_mem hi))).1
        omega
  · obtain ⟨rfl, rfl⟩ := ht.no hn
    exact ⟨fun i hi => by simp at hi, by simpa using h.og, h.ea⟩
theorem Dir.takeT {T : Lm} (h : Dir S T.toLk IN O pool) (hw : S.wf) {g : Sg} (hg : g ∈ pool) (hto : g.to = T.me) {u l : List Ea} (ht : TakeR T.toLk g u l) (us : Sl) (mc : Nat) :
    Dir S (T.took g us mc u.length l).toLk IN (O + u.length) pool := by
  obtain ⟨h1, h2, h3⟩ := h.up hw hg hto ht
  refine ⟨h.last, h.un, ?_, h2, ?_, h3, h.po, h.lens⟩
  · have := h.want
    simp only [Lm.took]
    omega
  · have := h.done; omega
theorem ackd_low {l : List Pc} {a : Int} {i : Nat} (hi : i < ackd l a) : ∃ h : i < l.length, l[i].1 ≤ a := by
  have hl := ackd_le l a
  refine ⟨by omega, ?_⟩
  induction l generalizing i with
  | nil => simp [ackd] at hi
  | cons x r ih =>
    rw [ackd, List.takeWhile_cons] at hi
    split at hi
    · rename_i hx
      cases i with
      | zero => simpa using hx
      | succ i =>
        have hi : i < ackd r a := by simp at hi; exact hi
        have := ih hi (ackd_le r a)
        simpa using this
    · simp at hi
theorem Dir.takeS {S : Lm} (h : Dir S.toLk T IN O pool) (hw : S.wf) {g : Sg} (hak : g.ack ≤ O) (us : Sl) (mc n : Nat) (l : List Ea) : Dir (S.took g us mc n l).toLk T IN O pool := by
  have hle := ackd_le S.un g.ack
  refine ⟨h.last, ?_, h.want, h.og, ?_, h.ea, ?_, h.lens⟩
  · intro p hp
    have hp : p ∈ S.un.drop (ackd S.un g.ack) ++ S.bx := hp
    refine h.un p ?_
    rcases List.mem_append.1 hp with hp | hp
    · exact List.mem_append_left _ (List.mem_of_mem_drop hp)
    · exact List.mem_append_right _ hp
  · have hd := h.done
    simp only [Lm.took, List.length_drop]
    rcases Nat.eq_zero_or_pos (ackd S.un g.ack) with h0 | h0
    · rw [h0]; simpa using hd
    · obtain ⟨h1, h2⟩ := ackd_low (l := S.un) (a := g.ack) (i := ackd S.un g.ack - 1) (by omega)
      have h3 : ackd S.un g.ack - 1 < (S.un ++ S.bx).length := by rw [List.length_append]; omega
      have h4 := hw.seq _ h3
      rw [List.getElem_append_left h1] at h4
      rw [h4] at h2
      omega
  · intro g2 hg2 hto
    obtain ⟨a1, a2, a3, a4, a5⟩ := h.po g2 hg2 hto
    refine ⟨a1, a2, a3, ?_, a5⟩
    show g2.ack + 1 ≤ S.want + n
    have : g2.ack + 1 ≤ S.want := a4
    omega
end
end Go.Proofs.Ytodgnpmljdopiaa
