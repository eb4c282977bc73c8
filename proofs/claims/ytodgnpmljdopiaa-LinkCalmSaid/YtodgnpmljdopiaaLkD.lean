/- The link in memory: Under. -/
import Derived.Test.YtodgnpmljdopiaaLkC
namespace Go.Proofs.Ytodgnpmljdopiaa
open Go Go.Fw Go.RowKit
set_option linter.unusedVariables false
set_option linter.unusedSimpArgs false
set_option maxRecDepth 4000
set_option maxHeartbeats 2000000
variable {w0 w : World} {F G : Grps}

theorem snocAt (P : Grps) {x : Ent} {B : List Ent} (h : St w0 w (P ++ [x] :: B :: F)) : St w0 w (P ++ (B ++ [x]) :: F) := by
  refine h.perm ?_
  simp only [List.flatten_append, List.flatten_cons, List.append_assoc]
  refine List.Perm.append_left _ ?_
  exact (List.perm_middle (a := x) (l₁ := B) (l₂ := F.flatten)).symm
theorem joinAt (P : Grps) {A B : List Ent} (h : St w0 w (P ++ A :: B :: F)) : St w0 w (P ++ (B ++ A) :: F) := by
  refine h.perm ?_
  simp only [List.flatten_append, List.flatten_cons, List.append_assoc]
  refine List.Perm.append_left _ ?_
  rw [← List.append_assoc, ← List.append_assoc]
  exact List.Perm.append_right _ List.perm_append_comm
abbrev Pl := Int × Int × Int × Int × List UInt8
def Sg.pl (g : Sg) : Pl := (g.fr, g.to, g.seq, g.ack, g.d.2)
def Lk.tells (e : Lk) (ps : List Pc) : List Pl := ps.map fun p => (e.me, e.peer, p.1, e.want - 1, p.2.2)
/-- A list of segments in memory: two groups. -/
def outE (o : Sl) (gs : List Sg) : List Ent := [.row 62 5 o (gs.flatMap sgv)]
def outD (gs : List Sg) : List Ent := gs.map fun g => brow g.d
theorem out_len {o : Sl} {gs : List Sg} (h : Rd w o 5 (gs.flatMap sgv)) : o.len = gs.length := by
  have := h.1; rw [flat_len sgv_len] at this; omega
theorem dat_sees {e : Lk} {p : Pc} (hp : p ∈ e.un ++ e.bx) : SeesG w0 (dat e :: F) p.2.1 1 (bys p.2.2) := fun w h =>
  ((h.memG 0 rfl (List.mem_map.2 ⟨p, hp, rfl⟩) : (brow p.2).ok w w0.heap.size)).1.rd
theorem outD_sees {gs : List Sg} {g : Sg} (hp : g ∈ gs) : SeesG w0 (outD gs :: F) g.d.1 1 (bys g.d.2) := fun w h =>
  ((h.memG 0 rfl (List.mem_map.2 ⟨g, hp, rfl⟩) : (brow g.d).ok w w0.heap.size)).1.rd
theorem bs33' (w : World) (g : Sg) : (Instr.buildSlice 33 1 #[(0, .agg #[.int .i64 (sgt g).1, .int .i64 (sgt g).2.1, .int .i64 (sgt g).2.2.1, .int .i64 (sgt g).2.2.2.1, .slice (sgt g).2.2.2.2.1.a (sgt g).2.2.2.2.1.len (sgt g).2.2.2.2.1.cap])]).run Try.prog w = .ok (.slice (some ⟨w.heap.size, 0, none⟩) 1 1) (w.alloc (.cells ⟨sgv g⟩ 62)) := bs33 w _ _ _ _ _ _ _
/-- A parcel's segment onto the list. -/
theorem emit (e : Lm) {D : List Ent} {o : Sl} {gs : List Sg} (h : St w0 w (lmE e :: D :: outE o gs :: outD gs :: F)) (hw : 1 ≤ e.want ∧ e.want ≤ 1099511627777) {p : Pc} (hp : SeesG w0 (D :: outE o gs :: outD gs :: F) p.2.1 1 (bys p.2.2)) (hl : p.2.2.length ≤ 1048576) (hg : gs.length ≤ 1048576)
    {K : Sl → World → Prop} (hk : ∀ (o' : Sl) (g : Sg) w', g = e.seg p g.d.1 → o'.len = o.len + 1 → St w0 w' (lmE e :: D :: outE o' (gs ++ [g]) :: outD (gs ++ [g]) :: F) → K o' w') :
    CallK Try.prog (.agg (.cons (.int .i64) (.cons (.int .i64) (.cons (.int .i64) (.cons (.int .i64) (.cons .sl .nilT)))))) 28 #[.pointer e.p, .agg #[.int .i64 p.1, .slice p.2.1.a p.2.1.len p.2.1.cap]] w fun t18 w =>
      RunN Try.prog .sl (V (Instr.buildSlice 33 1 #[(0, .agg #[.int .i64 t18.1, .int .i64 t18.2.1, .int .i64 t18.2.2.1, .int .i64 t18.2.2.2.1, .slice t18.2.2.2.2.1.a t18.2.2.2.2.1.len t18.2.2.2.2.1.cap])])) w fun t19 w =>
      RunN Try.prog .sl (V (Builtin.append_ #[33, 33] 33 #[.slice o.a o.len o.cap, .slice t19.a t19.len t19.cap])) w fun t20 w => K t20 w := by
  refine (segment_st h hw hp hl).mono ?_
  rintro v w1 ⟨s, rfl, h⟩
  refine h.newS 5 (bs33' _ (e.seg p s)) rfl rfl rfl ?_
  intro u w2 hu1 hu2 _ h
  have hol := out_len (h.rd (k := 4) (i := 0) (E := 62) (sz := 5) (s := o) (vs := gs.flatMap sgv) ⟨_, rfl, rfl⟩)
  refine h.app 4 0 ⟨_, rfl, rfl⟩ (h.rd (k := 0) (i := 0) ⟨_, rfl, rfl⟩) (sgv_one _) (by dsimp only [maxLen]; omega) (by omega) ?_
  intro o' w3 hl3 h
  have h := h.drop 0
  dsimp only [delO, updG, setO] at h
  have h := h.ord 5 [1, 2, 3, 0, 4]
  dsimp only [pick, nthO, dropO] at h
  refine hk o' (e.seg p s) w3 rfl (by omega) ?_
  have h := snocAt [lmE e, D, [Ent.row 62 5 o' (gs.flatMap sgv ++ sgv (e.seg p s))]] h
  have e1 : outE o' (gs ++ [e.seg p s]) = [Ent.row 62 5 o' (gs.flatMap sgv ++ sgv (e.seg p s))] := by simp [outE]
  have e2 : outD (gs ++ [e.seg p s]) = outD gs ++ [brow (s, p.2.2)] := by simp [outD, Lk.seg]
  rw [e1, e2]
  exact h
theorem seg_pl {e : Lk} {p : Pc} {g : Sg} (h : g = e.seg p g.d.1) : g.pl = (e.me, e.peer, p.1, e.want - 1, p.2.2) := by rw [h]; rfl
theorem under_st {e : Lm} (h : St w0 w (lmE e :: dat e.toLk :: F)) (hw : e.wf) : CallK Try.prog .sl 14 #[.pointer e.p] w
    fun (o : Sl) w' => ∃ gs, gs.map Sg.pl = e.tells e.un ∧ o.len = gs.length ∧ St w0 w' (lmE e :: dat e.toLk :: outE o gs :: outD gs :: F) := by
  refine T14.calls ?_
  unfold T14
  have hul := us_len (h.rd (k := 0) (i := 3) ⟨_, rfl, rfl⟩)
  have hcnt := hw.cnt; have hwin := hw.win
  repeat (first | (with_reducible refine NilP.mk ?_) | ((with_reducible refine RunN.isLoad ?_); (first | refine h.load2 0 0 ⟨_, rfl, rfl⟩ rfl ?_ | refine h.loadB 0 0 ⟨_, rfl, rfl⟩ rfl rfl ?_ | refine h.drew.load2 0 0 ⟨_, rfl, rfl⟩ rfl ?_ | refine h.drew.loadB 0 0 ⟨_, rfl, rfl⟩ rfl rfl ?_)) | ((with_reducible refine ReadN.isLoad ?_); (first | refine h.read2 0 0 ⟨_, rfl, rfl⟩ rfl ?_ | refine h.readB 0 0 ⟨_, rfl, rfl⟩ rfl rfl ?_ | refine h.drew.read2 0 0 ⟨_, rfl, rfl⟩ rfl ?_ | refine h.drew.readB 0 0 ⟨_, rfl, rfl⟩ rfl rfl ?_)) | ((with_reducible refine StillV.isLoad ?_); (first | refine ⟨h.stillB 0 0 ⟨_, rfl, rfl⟩ rfl rfl, ?_⟩ | refine ⟨h.still2 0 0 ⟨_, rfl, rfl⟩ rfl, ?_⟩)) | ((with_reducible refine RunU.isStor ?_); (first | (refine h.stor2 0 0 ⟨_, rfl, rfl⟩ rfl ?_; intro w h; dsimp only [updG, setO] at h) | (refine h.storB 0 0 ⟨_, rfl, rfl⟩ rfl rfl rfl ?_; intro w h; dsimp only [updG, setO] at h) | (refine h.drew.stor2 0 0 ⟨_, rfl, rfl⟩ rfl ?_; intro w h; dsimp only [updG, setO] at h) | (refine h.drew.storB 0 0 ⟨_, rfl, rfl⟩ rfl rfl rfl ?_; intro w h; dsimp only [updG, setO] at h))) | ((with_reducible refine RunN.isBox ?_); (first | (refine h.newB run_boxA rfl ?_; intro bn w h; try dsimp only at h; have h := h.ord 2 [1, 0]; dsimp only [pick, nthO, dropO] at h) | (refine h.drew.newB run_boxA rfl ?_; intro bn w h; try dsimp only at h; have h := h.ord 2 [1, 0]; dsimp only [pick, nthO, dropO] at h))) | ((with_reducible refine RunN.isNew ?_); (first | (refine h.newB (NewC.run _) rfl ?_; intro bn w h; have h := h.ord 2 [1, 0]; dsimp only [pick, nthO, dropO] at h) | (refine h.drew.newB (NewC.run _) rfl ?_; intro bn w h; have h := h.ord 2 [1, 0]; dsimp only [pick, nthO, dropO] at h))) | (refine RunN.k2Eq ?_) | (refine RunN.k2Ne ?_) | (refine ReadN.k2Eq ?_) | (refine ReadN.k2Ne ?_))
  have h : St w0 w (lmE e :: dat e.toLk :: outE ⟨none, 0, 0⟩ [] :: outD [] :: F) := by
    have h1 := h.nilrow 62 5
    have h2 := h1.ord 3 [1, 2, 0]
    dsimp only [pick, nthO, dropO] at h2
    exact h2.perm (by simp [outE, outD])
  refine LoopX.mk (fun st w' => ∃ (o : Sl) (m : Nat) (gs : List Sg), st = (o, (m : Int), ()) ∧ m ≤ e.un.length ∧ gs.map Sg.pl = e.tells (e.un.take m) ∧ o.len = gs.length ∧ gs.length = m ∧ St w0 w' (lmE e :: dat e.toLk :: outE o gs :: outD gs :: F)) (fun st => e.un.length - st.2.1.toNat) ⟨_, 0, [], rfl, Nat.zero_le _, rfl, rfl, rfl, h⟩ ?_
  clear h
  rintro _ w1 ⟨o, m, gs, rfl, hm, hgs, hol, hgl, h⟩ k hk
  dsimp only at hk ⊢
  rw [hul]
  rw [SplitB_iff]
  refine ⟨fun hc => ?_, fun hc => ?_⟩
  · have hc : m < e.un.length := by have : (m : Int) < (e.un.length : Int) := of_decide_eq_true hc
                                    omega
    have hem : IntKind.i64.wrap ((m : Int) + 1) = ((m + 1 : Nat) : Int) := by rw [wr (by omega)]; omega
    rw [hem, ← hul]
    have hrr := h.rd (k := 0) (i := 3) (E := 81) (sz := 2) (s := e.us) (vs := e.un.flatMap pcv) ⟨_, rfl, rfl⟩
    refine hrr.idxK m rfl (by omega) ?_
    intro g0 o0 ha
    refine hrr.elA ha (m * 2) rfl (kd := Kdp) (pct e.un[m]) (ds := pcv e.un[m]) (flat_at pcv_len _ _ hc) ?_
    refine h.newB (NewC.run _) rfl ?_
    intro b w2 h
    refine h.storA 0 0 ⟨_, rfl, rfl⟩ (t' := 81) (n := 2) (j := 0) rfl (ds := pcv e.un[m]) rfl rfl rfl ?_
    intro w3 h
    refine RunN.of (kd := Kdp) (x := pct e.un[m]) (h.run_loadA (k := 0) (i := 0) (b := b) (t := 81) (cs := pcv e.un[m]) ⟨_, rfl, rfl⟩ (t' := 81) (n := 2) (j := 0) rfl (vs := pcv e.un[m]) rfl rfl) ?_
    have h := h.drop 0
    have hpm : e.un[m] ∈ e.un ++ e.bx := List.mem_append_left _ (List.getElem_mem hc)
    have := hw.lens _ hpm
    refine emit e h hw.want (p := e.un[m]) (dat_sees hpm) (by omega) (by omega) ?_
    intro o' g w4 hg ho' h
    refine hk _ _ ⟨o', m + 1, gs ++ [g], rfl, by omega, ?_, by simp; omega, by simp; omega, h⟩ (by dsimp only; omega)
    rw [List.map_append, hgs, List.take_succ_eq_append_getElem hc, Lk.tells, Lk.tells, List.map_append]
    simp [seg_pl hg]
  · have hc : m = e.un.length := by have : ¬ (m : Int) < (e.un.length : Int) := of_decide_eq_false hc
                                    omega
    refine ⟨gs, ?_, hol, h⟩
    rw [hgs, hc, List.take_length]
end Go.Proofs.Ytodgnpmljdopiaa
