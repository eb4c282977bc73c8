/- The link: the document's examples come out so. -/
import Derived.Test.YtodgnpmljdopiaaLkK
namespace Go.Proofs.Ytodgnpmljdopiaa
open Go Go.Fw Go.RowKit
set_option linter.unusedVariables false
set_option linter.unusedSimpArgs false
set_option maxRecDepth 4000
set_option maxHeartbeats 4000000
variable {w0 w : World} {F G : Grps}

theorem take1 {e : Lk} {g : Sg} {u l : List Ea} (h : TakeR e g u l) (he : e.want = 1) (hea : e.ea = []) (hn : e.news g) (h2 : g.seq = 2) : u = [] ∧ ∃ s c, l = [((2, s, g.d.2), c)] := by
  obtain ⟨s, c, hp, hk, hl⟩ := h.yes hn
  rw [hea, List.nil_append, h2] at hp
  have hlen := hp.length_eq
  simp at hlen
  cases hu : u with
  | nil =>
    rw [hu, List.nil_append] at hp
    exact ⟨rfl, s, c, (List.perm_singleton.1 hp.symm)⟩
  | cons a r =>
    exfalso
    have h1 := hk 0 (by rw [hu]; simp)
    have ha : u[0]'(by rw [hu]; simp) ∈ u ++ l := List.mem_append_left _ (List.getElem_mem _)
    have h3 := hp.mem_iff.2 ha
    simp at h3
    rw [h3, he] at h1
    simp at h1
theorem take2 {e : Lk} {g : Sg} {u l : List Ea} (h : TakeR e g u l) (he : e.want = 1) {x : Ea} (hx : x.1.1 = 2) (hea : e.ea = [x]) (hn : e.news g) (h2 : g.seq = 1) : u.length = 2 ∧ ∀ h : 0 < u.length, u[0].1.2.2 = g.d.2 := by
  obtain ⟨s, c, hp, hk, hl⟩ := h.yes hn
  rw [hea, h2] at hp
  have hlen := hp.length_eq
  simp only [List.length_append, List.length_cons, List.length_nil] at hlen
  have hmem : ∀ y, y ∈ u ++ l → y = x ∨ y = ((1, s, g.d.2), c) := by
    intro y hy
    have := hp.mem_iff.2 hy
    simpa using this
  have h0 : ∀ h : 0 < u.length, u[0].1.2.2 = g.d.2 := by
    intro h
    have h1 := hk 0 h
    rcases hmem _ (List.mem_append_left _ (List.getElem_mem h)) with h3 | h3
    · rw [h3, hx, he] at h1; simp at h1
    · rw [h3]
  refine ⟨?_, h0⟩
  have m1 : ((1, s, g.d.2), c) ∈ u ++ l := hp.mem_iff.1 (by simp)
  have m2 : x ∈ u ++ l := hp.mem_iff.1 (by simp)
  rcases Nat.lt_or_ge u.length 1 with h3 | h3
  · exfalso
    have hu : u = [] := List.eq_nil_of_length_eq_zero (by omega)
    subst hu
    have := hl _ (by simpa using m1)
    simp [he] at this
  rcases Nat.lt_or_ge u.length 2 with h4 | h4
  · exfalso
    have hu : u.length = 1 := by omega
    rcases List.mem_append.1 m2 with h5 | h5
    · obtain ⟨i, hi, hxi⟩ := List.mem_iff_getElem.1 h5
      have h6 := hk i hi
      rw [hxi, hx, he] at h6
      omega
    · have h6 := hl _ h5
      rw [hx, he, hu] at h6
      simp at h6
  · omega
theorem lk0_dat {e : Lm} {p0 p1 p2 p3 : Int} (he : e.toLk = lk0 p0 p1 p2 p3) : dat e.toLk = [] ∧ ups e.ea = [] := by
  rw [he]
  exact ⟨rfl, rfl⟩
theorem two_of {α : Type} (l : List α) (h : l.length = 2) : ∃ a b, l = [a, b] := by
  match l, h with
  | [a, b], _ => exact ⟨a, b, rfl⟩
theorem alive_st (h : St w0 w F) : CallK Try.prog .bool 9 #[] w fun (r : Bool) w' => r = true ∧ St w0 w' F := by
  refine T9.calls ?_
  unfold T9
  refine (made_st h 0 1 2 3).mono ?_
  rintro r1 w1 (⟨hn, _⟩ | ⟨_, xa, ra, sa, ba, ea, rfl, hea, h⟩)
  · exact absurd (by decide) hn
  refine (made_st h 1 0 2 3).mono ?_
  rintro r2 w2 (⟨hn, _⟩ | ⟨_, xb, rb, sb, bb, eb, rfl, heb, h⟩)
  · exact absurd (by decide) hn
  have h := h.ord 10 [5, 6, 1, 0]
  dsimp only [pick, nthO, dropO] at h
  have h : St w0 w2 (lmE ea :: dat ea.toLk :: [endC xa ea ra sa ba] :: [endC xb eb rb sb bb] :: lmE eb :: dat eb.toLk :: ups eb.ea :: F) := by
    rw [(lk0_dat hea).1, (lk0_dat heb).1, (lk0_dat heb).2]
    exact h.perm (by simp)
  have wa : ea.wf := by rw [hea]; exact (lk0_wf (by decide)).1
  have wb : eb.wf := by rw [heb]; exact (lk0_wf (by decide)).1
  refine JoinX.mk (fun (y : Bool × Unit) w' => y.1 = false ∧ St w0 w' (lmE ea :: dat ea.toLk :: [endC xa ea ra sa ba] :: [endC xb eb rb sb bb] :: lmE eb :: dat eb.toLk :: ups eb.ea :: F)) ?_ ?_
  rotate_left
  · intro k hk
    rw [SplitB_iff]
    refine ⟨fun hf => (by cases hf), fun _ => ?_⟩
    rw [SplitB_iff]
    refine ⟨fun hf => (by cases hf), fun _ => ?_⟩
    refine RunN.pEqS ?_
    rw [SplitB_iff]
    refine ⟨fun hf => (by cases hf), fun _ => ?_⟩
    refine RunN.pEqS ?_
    exact hk _ _ ⟨rfl, h⟩
  clear h
  rintro ⟨y, ⟨⟩⟩ w3 ⟨hy, h⟩
  dsimp only at hy
  subst hy
  rw [SplitB_iff]
  refine ⟨fun hf => (by cases hf), fun _ => ?_⟩
  -- "a" is handed in
  refine NilP.mk ?_
  refine h.loadB 2 0 ⟨_, rfl, rfl⟩ rfl (kd := .ptr) (x := ea.p) rfl ?_
  refine lit45 h 97 ?_
  intro s w4 hs h
  have h := h.ord 3 [1, 2, 0]
  dsimp only [pick, nthO, dropO] at h
  refine (send_st h wa (p := s) (l := [97]) ro_sees (by simp)).mono ?_
  intro (v1 : Int) w5 ⟨hv1, _, h⟩
  have hr1 : ea.refuse [97] = 0 := by rw [hea]; decide
  have hv1 : v1 = 0 := hv1.trans hr1
  subst hv1
  obtain ⟨s1, h⟩ := h rfl
  -- nothing is handed in
  refine NilP.mk ?_
  refine h.loadB 3 0 ⟨_, rfl, rfl⟩ rfl (kd := .ptr) (x := (ea.sent s1 [97]).p) rfl ?_
  have wa1 := sent_wf wa s1 hr1
  refine (send_st h wa1 (p := ⟨none, 0, 0⟩) (l := []) nil_sees (by simp)).mono ?_
  intro (v2 : Int) w6 ⟨hv2, _, h⟩
  have ht1 : (ea.sent s1 [97]).toLk = { lk0 0 1 2 3 with last := 1, bx := [(1, s1, [97])] } := by simp [Lm.sent, hea, lk0]
  have hr2 : (ea.sent s1 [97]).refuse [] = 0 := by rw [ht1]; simp [Lk.refuse, Lk.room, lk0]
  have hv2 : v2 = 0 := hv2.trans hr2
  subst hv2
  obtain ⟨s2, h⟩ := h rfl
  have wa2 := sent_wf wa1 s2 hr2
  have ht2 : ((ea.sent s1 [97]).sent s2 []).toLk = { lk0 0 1 2 3 with last := 2, bx := [(1, s1, [97]), (2, s2, [])] } := by
    have : ((ea.sent s1 [97]).sent s2 []).toLk = { (ea.sent s1 [97]).toLk with last := (ea.sent s1 [97]).toLk.last + 1, bx := (ea.sent s1 [97]).toLk.bx ++ [((ea.sent s1 [97]).toLk.last + 1, s2, [])] } := rfl
    rw [this, ht1]; rfl
  generalize hA2 : (ea.sent s1 [97]).sent s2 [] = a2 at h wa2 ht2
  have hp2 : a2.p = ea.p := by rw [← hA2]; rfl
  -- "c" finds no room
  refine NilP.mk ?_
  refine h.loadB 3 0 ⟨_, rfl, rfl⟩ rfl (kd := .ptr) (x := ea.p) rfl ?_
  refine lit45 h 99 ?_
  intro s' w7 hs' h
  have h := h.ord 3 [1, 2, 0]
  dsimp only [pick, nthO, dropO] at h
  rw [← hp2]
  refine (send_st h wa2 (p := s') (l := [99]) ro_sees (by simp)).mono ?_
  intro (v3 : Int) w8 ⟨hv3, h, _⟩
  have hr3 : a2.refuse [99] = 30 := by rw [ht2]; simp [Lk.refuse, Lk.room, lk0]
  have hv3 : v3 = 30 := hv3.trans hr3
  subst hv3
  have h := h (by decide)
  -- what is told
  refine NilP.mk ?_
  refine h.loadB 4 0 ⟨_, rfl, rfl⟩ rfl (kd := .ptr) (x := a2.p) (by rw [hp2]; rfl) ?_
  refine (out_st h wa2).mono ?_
  rintro o w9 ⟨us, gs, hgs, hol, h⟩
  have hgs : gs.map Sg.pl = [(0, 1, 1, 0, [97]), (0, 1, 2, 0, [])] := by rw [hgs, ht2]; rfl
  have hgl : gs.length = 2 := by have := congrArg List.length hgs; simpa using this
  obtain ⟨g0, g1, rfl⟩ := two_of gs hgl
  simp only [List.map_cons, List.map_nil, Sg.pl, List.cons.injEq, Prod.mk.injEq, and_true] at hgs
  obtain ⟨⟨f0, t0, q0, k0, d0⟩, f1, t1, q1, k1, d1⟩ := hgs
  have hol : o.len = 2 := hol
  have h := h.ord 11 [8, 9, 10, 2, 3, 7]
  dsimp only [pick, nthO, dropO] at h
  refine JoinX.mk (fun (y : Bool × Unit) w' => y.1 = false ∧ St w0 w' (lmE eb :: dat eb.toLk :: ups eb.ea :: outE o [g0, g1] :: outD [g0, g1] :: [endC xb eb rb sb bb] :: F)) ?_ ?_
  rotate_left
  · intro k hk
    rw [SplitB_iff]
    refine ⟨fun hf => (by cases hf), fun _ => ?_⟩
    rw [SplitB_iff]
    refine ⟨fun hf => (by cases hf), fun _ => ?_⟩
    rw [SplitB_iff]
    refine ⟨fun hf => (by cases hf), fun _ => ?_⟩
    rw [SplitB_iff]
    refine ⟨fun hf => ?_, fun _ => ?_⟩
    · rw [hol] at hf; cases hf
    have hrr := h.rd (k := 3) (i := 0) (E := 62) (sz := 5) (s := o) (vs := [g0, g1].flatMap sgv) ⟨_, rfl, rfl⟩
    refine hrr.idxK 1 rfl (by omega) ?_
    intro b0 o0 ha
    refine hrr.el ha (1 * 5 + 2) (by rw [add_lit']) (kd := .int .i64) (x := g1.seq) rfl ?_
    rw [q1, SplitB_iff]
    refine ⟨fun hf => (by cases hf), fun _ => ?_⟩
    refine hrr.idxK 0 rfl (by omega) ?_
    intro b1 o1 ha1
    refine hrr.el ha1 (0 * 5 + 3) (by rw [add_lit']) (kd := .int .i64) (x := g0.ack) rfl ?_
    rw [k0]
    exact hk _ _ ⟨rfl, h⟩
  clear h
  rintro ⟨y, ⟨⟩⟩ w10 ⟨hy, h⟩
  dsimp only at hy
  subst hy
  rw [SplitB_iff]
  refine ⟨fun hf => (by cases hf), fun _ => ?_⟩
  -- the second comes
  refine NilP.mk ?_
  refine h.drew.readB 5 0 ⟨_, rfl, rfl⟩ rfl (kd := .ptr) (x := eb.p) rfl ?_
  have hrr := h.drew.rd (k := 3) (i := 0) (E := 62) (sz := 5) (s := o) (vs := [g0, g1].flatMap sgv) ⟨_, rfl, rfl⟩
  refine hrr.idxR 1 rfl (by omega) ?_
  intro b0 o0 ha
  refine hrr.elAR ha (1 * 5) rfl (kd := Kds) (sgt g1) (ds := sgv g1) rfl ?_
  have hfit1 : eb.fits g1 = true := by rw [heb]; simp [Lk.fits, lk0, f1, t1, q1, k1, d1]
  have hnews1 : eb.news g1 := by rw [heb]; simp [Lk.news, lk0, q1]
  refine (take_st h.drew wb (g := g1) (sup (outD_sees (by simp))) (by rw [d1]; simp)).mono ?_
  rintro ⟨up1, er1, ⟨⟩⟩ w11 (⟨hf, _⟩ | ⟨_, he1, us1, mc1, u1, l1, ht1', hul1, h⟩)
  · rw [hfit1] at hf; cases hf
  dsimp only at he1 hul1 h
  have wb1 := took_wf wb hfit1 ht1' us1 mc1
  obtain ⟨rfl, sx, cx, rfl⟩ := take1 ht1' (by rw [heb]; rfl) (by rw [heb]; rfl) hnews1 q1
  -- the first comes
  refine NilP.mk ?_
  refine h.drew.readB 7 0 ⟨_, rfl, rfl⟩ rfl (kd := .ptr) (x := eb.p) rfl ?_
  have hrr := h.drew.rd (k := 5) (i := 0) (E := 62) (sz := 5) (s := o) (vs := [g0, g1].flatMap sgv) ⟨_, rfl, rfl⟩
  refine hrr.idxR 0 rfl (by omega) ?_
  intro b1 o1 ha1
  refine hrr.elAR ha1 (0 * 5) rfl (kd := Kds) (sgt g0) (ds := sgv g0) rfl ?_
  let e2 : Lm := eb.took g1 us1 mc1 ([] : List Ea).length [((2, sx, g1.d.2), cx)]
  have he2 : e2.me = 1 ∧ e2.peer = 0 ∧ e2.gone = 0 ∧ e2.want = 1 ∧ e2.win = 2 ∧ e2.ea = [((2, sx, g1.d.2), cx)] := by
    have h1 : e2.me = (lk0 1 0 2 3).me := by rw [← heb]; rfl
    have h2 : e2.peer = (lk0 1 0 2 3).peer := by rw [← heb]; rfl
    have h3 : e2.gone = (lk0 1 0 2 3).gone := by rw [← heb]; rfl
    have h4 : e2.want = (lk0 1 0 2 3).want + ((0 : Nat) : Int) := by rw [← heb]; rfl
    have h5 : e2.win = (lk0 1 0 2 3).win := by rw [← heb]; rfl
    exact ⟨h1, h2, h3, h4, h5, rfl⟩
  have hfit2 : e2.fits g0 = true := by
    simp [Lk.fits, he2.1, he2.2.1, he2.2.2.1, f0, t0, q0, k0, d0]
  have hnews2 : e2.news g0 := by
    simp [Lk.news, he2.2.2.2.1, he2.2.2.2.2.1, he2.2.2.2.2.2, q0]
  refine (take_st (e := e2) h.drew wb1 (g := g0) (sup (sup (sup (outD_sees (by simp))))) (by rw [d0]; simp)).mono ?_
  rintro ⟨up2, er2, ⟨⟩⟩ w12 (⟨hf, _⟩ | ⟨_, he2', us2, mc2, u2, l2, ht2', hul2, h⟩)
  · rw [hfit2] at hf; cases hf
  dsimp only at he2' hul2 h
  obtain ⟨hu2, hd2⟩ := take2 ht2' he2.2.2.2.1 (x := ((2, sx, g1.d.2), cx)) rfl he2.2.2.2.2.2 hnews2 q0
  rw [he1, SplitB_iff]
  refine ⟨fun _ => ?_, fun hf => (by cases hf)⟩
  dsimp only
  rw [he2', SplitB_iff]
  refine ⟨fun _ => ?_, fun hf => (by cases hf)⟩
  rw [hul1, SplitB_iff]
  refine ⟨fun _ => ?_, fun hf => (by cases hf)⟩
  rw [SplitB_iff]
  refine ⟨fun _ => ?_, fun hf => ?_⟩
  rotate_left
  · rw [hul2, hu2] at hf; cases hf
  have hrr := h.rd (k := 3) (i := 0) (E := 45) (sz := 1) (s := up2) (vs := u2.flatMap upv) ⟨_, rfl, rfl⟩
  refine hrr.idxK 0 rfl (by omega) ?_
  intro b2 o2 ha2
  have h0 : 0 < u2.length := by omega
  refine hrr.el ha2 (0 * 1) rfl (kd := .sl) (x := u2[0].1.2.1) (by
    have := flat_cell upv_len (l := u2) h0 0 (by decide)
    exact this) ?_
  refine lit45 h 97 ?_
  intro s3 w13 hs3 h
  have hp1 : Rd w13 u2[0].1.2.1 1 (bys [97]) := by
    have := h.memG (k := 5) rfl (List.mem_map.2 ⟨u2[0], List.getElem_mem h0, rfl⟩)
    have h9 : Rd w13 u2[0].1.2.1 1 (bys u2[0].1.2.2) := (this : (brow u2[0].1.2).ok w13 w0.heap.size).1.rd
    rw [hd2 h0, d0] at h9
    exact h9
  refine (same_ok (w := w13) hp1 (q := s3) (b := [97]) (h.rdo (k := 0) (i := 0) ⟨_, rfl, rfl⟩)).mono ?_
  rintro r3 w14 ⟨rfl, hr3⟩
  have hr3 : (r3 : Bool) = true := hr3
  rw [hr3, SplitB_iff]
  refine ⟨fun _ => ?_, fun hf => (by cases hf)⟩
  have h := h.ord 11 [1, 10]
  dsimp only [pick, nthO, dropO] at h
  refine NilP.mk ?_
  refine h.loadB 1 0 ⟨_, rfl, rfl⟩ rfl (kd := .ptr) (x := eb.p) rfl ?_
  refine (next_st (e := e2.took g0 us2 mc2 u2.length l2) h).mono ?_
  intro (v9 : Int) w15 ⟨hv9, h⟩
  have hv9 : v9 = 3 := by
    rw [hv9]
    show e2.want + (u2.length : Int) = 3
    rw [he2.2.2.2.1, hu2]; rfl
  subst hv9
  exact ⟨rfl, (h.drop 0).drop 0⟩
end Go.Proofs.Ytodgnpmljdopiaa
