/- The line in memory: a segment comes. -/
import Derived.Test.YtodgnpmljdopiaaLkQ
namespace Go.Proofs.Ytodgnpmljdopiaa
open Go Go.Fw Go.RowKit
set_option linter.unusedVariables false
set_option linter.unusedSimpArgs false
set_option maxRecDepth 4000
set_option maxHeartbeats 4000000
variable {w0 w : World} {F G : Grps}

/-- The line, looked at from the end j: this end and the other. -/
structure Ln where
  e : Lm
  f : Lm
  ie : Sl × List Bs
  jf : Sl × List Bs
  oe : Nat
  of : Nat
  ps : Sl
  pool : List Sg
  cb : Nat
  g8 : List Ent
  gh : List Sg
def sv (s : Sl) : Value := .slice s.a s.len s.cap
def lnC (j : Nat) (x : Ln) : List Value :=
  if j = 0 then [.pointer x.e.p, .pointer x.f.p, sv x.ie.1, sv x.jf.1, .int .i64 (x.oe : Int), .int .i64 (x.of : Int), sv x.ps]
  else [.pointer x.f.p, .pointer x.e.p, sv x.jf.1, sv x.ie.1, .int .i64 (x.of : Int), .int .i64 (x.oe : Int), sv x.ps]
def lnG (j : Nat) (x : Ln) (F : Grps) : Grps :=
  [.cel x.cb 54 (lnC j x)] :: lmE x.e :: dat x.e.toLk :: ups x.e.ea :: lmE x.f :: dat x.f.toLk :: ups x.f.ea :: [.row 45 1 x.ie.1 (lsl x.ie.2)] :: [.row 45 1 x.jf.1 (lsl x.jf.2)] :: [.row 62 5 x.ps (x.pool.flatMap sgv)] :: x.g8 :: F
def Sees8 (g8 : List Ent) (b : Bs) : Prop := ∀ (w0 w : World) (F : Grps), St w0 w (g8 :: F) → Rd w b.1 1 (bys b.2)
theorem Sees8.more {g8 m : List Ent} {b : Bs} (h : Sees8 g8 b) : Sees8 (g8 ++ m) b := fun w0 w F hs => h w0 w (m :: F) (St.two.1 hs)
def mej (j : Nat) : Int := if j = 0 then 3 else 5
structure LnI (j n : Nat) (x : Ln) : Prop where
  we : x.e.wf
  wf : x.f.wf
  ef : Dir x.e.toLk x.f.toLk (x.ie.2.map (·.2)) x.oe (x.pool ++ x.gh)
  fe : Dir x.f.toLk x.e.toLk (x.jf.2.map (·.2)) x.of (x.pool ++ x.gh)
  me : x.e.me = mej j
  mf : x.f.me = mej (1 - j)
  pe : x.e.peer = x.f.me
  pf : x.f.peer = x.e.me
  see : ∀ b ∈ x.ie.2, Sees8 x.g8 b
  sef : ∀ b ∈ x.jf.2, Sees8 x.g8 b
  sep : ∀ g ∈ x.pool ++ x.gh, Sees8 x.g8 g.d
  tos : ∀ g ∈ x.pool ++ x.gh, g.to = x.e.me ∨ g.to = x.f.me
  pl : x.pool.length ≤ 400
  ne : x.ie.2.length ≤ n
  nf : x.jf.2.length ≤ n
section cells
variable {j : Nat} {x : Ln}
theorem c_e (h : j < 2) : nthO (lnC j x) (0 + j) = some (.pointer x.e.p) := by
  rcases (by omega : j = 0 ∨ j = 1) with rfl | rfl <;> rfl
theorem c_ie (h : j < 2) : nthO (lnC j x) (2 + j) = some (sv x.ie.1) := by
  rcases (by omega : j = 0 ∨ j = 1) with rfl | rfl <;> rfl
theorem c_if (h : j < 2) : nthO (lnC j x) (2 + (1 - j)) = some (sv x.jf.1) := by
  rcases (by omega : j = 0 ∨ j = 1) with rfl | rfl <;> rfl
theorem c_oe (h : j < 2) : nthO (lnC j x) (4 + j) = some (.int .i64 (x.oe : Int)) := by
  rcases (by omega : j = 0 ∨ j = 1) with rfl | rfl <;> rfl
theorem c_of (h : j < 2) : nthO (lnC j x) (4 + (1 - j)) = some (.int .i64 (x.of : Int)) := by
  rcases (by omega : j = 0 ∨ j = 1) with rfl | rfl <;> rfl
theorem c_ps : nthO (lnC j x) 6 = some (sv x.ps) := by
  unfold lnC; split <;> rfl
theorem c_len : (lnC j x).length = 7 := by
  unfold lnC; split <;> rfl
theorem s_of (h : j < 2) (n : Nat) : setO (lnC j x) (4 + (1 - j)) (.int .i64 (n : Int)) = lnC j { x with of := n } := by
  rcases (by omega : j = 0 ∨ j = 1) with rfl | rfl <;> rfl
theorem s_ie (h : j < 2) (s : Sl) : setO (lnC j x) (2 + j) (sv s) = lnC j { x with ie := (s, x.ie.2) } := by
  rcases (by omega : j = 0 ∨ j = 1) with rfl | rfl <;> rfl
theorem s_ps (s : Sl) : setO (lnC j x) 6 (sv s) = lnC j { x with ps := s } := by
  unfold lnC; split <;> rfl
end cells
theorem lsl_rd {W : World} {s : Sl} {L : List Bs} (h : Rd W s 1 (lsl L)) : s.len = L.length := by have := h.1; rw [lsl_len] at this; omega
theorem comes_st {j n : Nat} {x : Ln} (hj : j < 2) (h : St w0 w (lnG j x F)) (hI : LnI j n x) (hn : n ≤ 1048576) {g : Sg} (hg : g ∈ x.pool ++ x.gh) (hto : g.to = x.e.me) :
    CallK Try.prog .bool 31 #[.pointer (some ⟨x.cb, 0, none⟩), .agg #[.int .i64 g.fr, .int .i64 g.to, .int .i64 g.seq, .int .i64 g.ack, .slice g.d.1.a g.d.1.len g.d.1.cap]] w
      fun (r : Bool) w' => r = true ∧ ∃ us mc u l, TakeR x.e.toLk g u l ∧ LnI j n { x with e := x.e.took g us mc u.length l, of := x.of + u.length } ∧ St w0 w' (lnG j { x with e := x.e.took g us mc u.length l, of := x.of + u.length } F) := by
  have hfit := hI.fe.fits hI.ef hI.wf hI.we hg hto
  have hfs := fits_seq hfit
  refine T31.calls (p1 := sgt g) ?_
  unfold T31
  refine h.newB run_boxA rfl ?_
  intro b3 w1 h
  have h : St w0 w1 ([.cel b3 62 (sgv g)] :: lnG j x F) := h
  refine JoinX.mk (fun (y : Int × Unit) w' => y.1 = (j : Int) ∧ St w0 w' ([.cel b3 62 (sgv g)] :: lnG j x F)) ?_ ?_
  rotate_left
  · intro k hk
    refine h.loadB 0 0 ⟨_, rfl, rfl⟩ rfl (kd := .int .i64) (x := g.to) rfl ?_
    rw [hto, hI.me, SplitB_iff]
    refine ⟨fun hc => ?_, fun hc => ?_⟩
    · have hc : mej j = 5 := by simpa using hc
      refine hk _ _ ⟨?_, h⟩
      unfold mej at hc
      split at hc
      · cases hc
      · show (1 : Int) = j; omega
    · have hc : ¬ mej j = 5 := by simpa using hc
      refine hk _ _ ⟨?_, h⟩
      unfold mej at hc
      split at hc
      · show (0 : Int) = j; omega
      · exact absurd rfl hc
  clear h
  rintro ⟨y, ⟨⟩⟩ w2 ⟨hy, h⟩
  dsimp only at hy
  subst hy
  dsimp only
  refine h.loadB 0 0 ⟨_, rfl, rfl⟩ rfl (kd := .sl) (x := g.d.1) rfl ?_
  have hs8 := hI.sep g hg
  have hsee : SeesG w0 ([.cel b3 62 (sgv g)] :: lnG j x F) g.d.1 1 (bys g.d.2) := fun w h => by
    have h2 := h.ord 12 [11]
    dsimp only [lnG, pick, nthO, dropO] at h2
    exact hs8 _ _ _ h2
  have hgl : g.d.1.len = g.d.2.length := (hsee _ h).bys_len
  refine (lend_st h hsee (by omega)).mono ?_
  intro t w3 ⟨htl, h⟩
  refine h.loadB 1 0 ⟨_, rfl, rfl⟩ rfl (kd := .sl) (x := g.d.1) rfl ?_
  refine RunN.sH g.d.2.length (by rw [hgl]) (by have := (h.rd (k := 0) (i := 0) (E := 5) (sz := 1) (s := t) (vs := bys (g.d.2 ++ mks)) ⟨_, rfl, rfl⟩).2.2; omega) ?_
  refine h.storB 1 0 ⟨_, rfl, rfl⟩ rfl rfl rfl ?_
  intro w4 h
  let g' : Sg := { g with d := (subS t 0 g.d.2.length 1, g.d.2) }
  have h : St w0 w4 ([brow (t, g.d.2 ++ mks)] :: [.cel b3 62 (sgv g')] :: lnG j x F) := h
  refine NilP.mk ?_
  refine ReadN.arr (ha := add_lit' _ _ _) j rfl hj ?_
  refine h.drew.readB 2 0 (j := 0 + 0 + j) ⟨_, rfl, rfl⟩ rfl (kd := .ptr) (x := x.e.p) (c_e hj) ?_
  refine ReadN.of (kd := Kds) (x := sgt g') (h.drew.run_loadA (k := 1) (i := 0) (b := b3) (t := 62) (cs := sgv g') ⟨_, rfl, rfl⟩ (t' := 62) (n := 5) (j := 0) rfl (vs := sgv g') rfl rfl) ?_
  have h := h.drew.ord 13 [3, 4, 5, 0, 2, 1, 6, 7, 8, 9, 10, 11, 12]
  dsimp only [lnG, pick, nthO, dropO] at h
  refine (take_st (e := x.e) h hI.we (g := g') (lent_sees htl) (by show g.d.2.length ≤ _; omega)).mono ?_
  rintro ⟨up, er, ⟨⟩⟩ w5 (⟨hf, _⟩ | ⟨_, he0, us, mc, u, l, ht, hul, h⟩)
  · have : x.e.fits g = false := hf
    rw [hfit] at this; cases this
  dsimp only at he0 hul h
  have ht : TakeR x.e.toLk g u l := ⟨ht.yes, ht.no⟩
  have hup := hI.fe.up hI.wf hg hto ht
  dsimp only
  rw [he0, SplitB_iff]
  refine ⟨fun hf => (by cases hf), fun _ => ?_⟩
  have hw1j : IntKind.i64.wrap (1 - (j : Int)) = ((1 - j : Nat) : Int) := by
    rcases (by omega : j = 0 ∨ j = 1) with rfl | rfl <;> rfl
  rw [hw1j]
  have h1j : 1 - j < 2 := by omega
  let x1 : Ln := { x with e := x.e.took g us mc u.length l }
  have hIN : (x.jf.2.map (·.2)).length = x.jf.2.length := List.length_map ..
  have hnf := hI.nf
  have hul4 : u.length ≤ 1048576 := by
    rcases Nat.eq_zero_or_pos u.length with h0 | h0
    · omega
    · have := (List.getElem?_eq_some_iff.1 (hup.1 (u.length - 1) (by omega))).1
      omega
  have hof : x.of ≤ 1048576 ∧ x.of + u.length ≤ x.jf.2.length := by
    have h1 := hup.2.1
    have h2 := hI.fe.last
    have h3 := hI.wf.gone
    omega
  have h : St w0 w5 (lmE x1.e :: dat x1.e.toLk :: ups l :: upE up u :: ups u :: [brow (t, g.d.2 ++ mks)] :: [.cel x.cb 54 (lnC j { x1 with of := x.of + 0 })] :: [.cel b3 62 (sgv g')] :: lmE x.f :: dat x.f.toLk :: ups x.f.ea :: [.row 45 1 x.ie.1 (lsl x.ie.2)] :: [.row 45 1 x.jf.1 (lsl x.jf.2)] :: [.row 62 5 x.ps (x.pool.flatMap sgv)] :: x.g8 :: F) := h
  refine LoopX.mk (fun st w' => ∃ m : Nat, st = ((m : Int), ()) ∧ m ≤ u.length ∧ St w0 w' (lmE x1.e :: dat x1.e.toLk :: ups l :: upE up u :: ups u :: [brow (t, g.d.2 ++ mks)] :: [.cel x.cb 54 (lnC j { x1 with of := x.of + m })] :: [.cel b3 62 (sgv g')] :: lmE x.f :: dat x.f.toLk :: ups x.f.ea :: [.row 45 1 x.ie.1 (lsl x.ie.2)] :: [.row 45 1 x.jf.1 (lsl x.jf.2)] :: [.row 62 5 x.ps (x.pool.flatMap sgv)] :: x.g8 :: F)) (fun st => u.length - st.1.toNat) ⟨0, rfl, Nat.zero_le _, h⟩ ?_
  clear h
  rintro _ w6 ⟨m, rfl, hm, h⟩ k hk
  dsimp only at hk ⊢
  have huli : (up.len : Int) = (u.length : Int) := by omega
  rw [huli, SplitB_iff]
  refine ⟨fun hc => ?_, fun hc => ?_⟩
  · have hc : m < u.length := by have : (m : Int) < (u.length : Int) := of_decide_eq_true hc
                                 omega
    have hem : IntKind.i64.wrap ((m : Int) + 1) = ((m + 1 : Nat) : Int) := by rw [wr (by omega)]; omega
    rw [hem]
    have hini := hup.1 m hc
    obtain ⟨hil, hix⟩ := List.getElem?_eq_some_iff.1 hini
    rw [List.getElem_map] at hix
    rw [hIN] at hil
    refine NilP.mk ?_
    refine RunN.arr (ha := add_lit' _ _ _) (1 - j) rfl h1j ?_
    refine h.loadB 6 0 (j := 0 + 4 + (1 - j)) ⟨_, rfl, rfl⟩ rfl (kd := .int .i64) (x := ((x.of + m : Nat) : Int)) (by rw [Nat.zero_add]; exact c_of hj) ?_
    refine JoinX.mk (fun (y : Bool × Unit) w' => y.1 = false ∧ St w0 w' (lmE x1.e :: dat x1.e.toLk :: ups l :: upE up u :: ups u :: [brow (t, g.d.2 ++ mks)] :: [.cel x.cb 54 (lnC j { x1 with of := x.of + m })] :: [.cel b3 62 (sgv g')] :: lmE x.f :: dat x.f.toLk :: ups x.f.ea :: [.row 45 1 x.ie.1 (lsl x.ie.2)] :: [.row 45 1 x.jf.1 (lsl x.jf.2)] :: [.row 62 5 x.ps (x.pool.flatMap sgv)] :: x.g8 :: F)) ?_ ?_
    · rintro ⟨y, ⟨⟩⟩ w7 ⟨hy, h⟩
      dsimp only at hy
      subst hy
      rw [SplitB_iff]
      refine ⟨fun hf => (by cases hf), fun _ => ?_⟩
      refine NilP.mk ?_
      refine ReadN.arr (ha := add_lit' _ _ _) (1 - j) rfl h1j ?_
      refine h.drew.readB 6 0 (j := 0 + 4 + (1 - j)) ⟨_, rfl, rfl⟩ rfl (kd := .int .i64) (x := ((x.of + m : Nat) : Int)) (by rw [Nat.zero_add]; exact c_of hj) ?_
      refine NilP.mk ?_
      refine ReadN.arr (ha := add_lit' _ _ _) (1 - j) rfl h1j ?_
      have hem2 : IntKind.i64.wrap (((x.of + m : Nat) : Int) + 1) = ((x.of + (m + 1) : Nat) : Int) := by rw [wr (by omega)]; omega
      rw [hem2]
      refine h.drew.storB 6 0 (j := 0 + 4 + (1 - j)) ⟨_, rfl, rfl⟩ rfl (by rw [c_len]; rcases (by omega : j = 0 ∨ j = 1) with rfl | rfl <;> rfl) rfl ?_
      intro w8 h
      dsimp only [updG, setO] at h
      have e0 : setO (lnC j { x1 with of := x.of + m }) (0 + 4 + (1 - j)) (.int .i64 ((x.of + (m + 1) : Nat) : Int)) = lnC j { x1 with of := x.of + (m + 1) } := by rw [Nat.zero_add]; exact s_of hj _
      rw [e0] at h
      exact hk _ _ ⟨m + 1, rfl, by omega, h⟩ (by dsimp only; omega)
    · intro k5 hk5
      refine NilP.mk ?_
      refine ReadN.arr (ha := add_lit' _ _ _) (1 - j) rfl h1j ?_
      refine h.drew.readB 6 0 (j := 0 + 2 + (1 - j)) ⟨_, rfl, rfl⟩ rfl (kd := .sl) (x := x.jf.1) (by rw [Nat.zero_add]; exact c_if hj) ?_
      have hjr := h.drew.rd (k := 12) (i := 0) (E := 45) (sz := 1) (s := x.jf.1) (vs := lsl x.jf.2) ⟨_, rfl, rfl⟩
      have hjl := lsl_rd hjr
      rw [SplitB_iff]
      refine ⟨fun hf => ?_, fun _ => ?_⟩
      · have : ((x.of + m : Nat) : Int) ≥ (x.jf.1.len : Int) := of_decide_eq_true hf
        omega
      have hur := h.drew.rd (k := 3) (i := 0) (E := 45) (sz := 1) (s := up) (vs := u.flatMap upv) ⟨_, rfl, rfl⟩
      refine hur.idxR m rfl (by omega) ?_
      intro b1 o1 ha1
      refine hur.elR ha1 (m * 1) rfl (kd := .sl) (x := u[m].1.2.1) (flat_cell upv_len (l := u) hc 0 (by decide)) ?_
      refine NilP.mk ?_
      refine ReadN.arr (ha := add_lit' _ _ _) (1 - j) rfl h1j ?_
      refine h.drew.readB 6 0 (j := 0 + 2 + (1 - j)) ⟨_, rfl, rfl⟩ rfl (kd := .sl) (x := x.jf.1) (by rw [Nat.zero_add]; exact c_if hj) ?_
      refine hjr.idxR (x.of + m) rfl (by omega) ?_
      intro b2 o2 ha2
      refine hjr.elR ha2 ((x.of + m) * 1) rfl (kd := .sl) (x := x.jf.2[x.of + m].1) (by rw [Nat.mul_one]; exact lsl_at hil) ?_
      have hp1 : Rd w6.drew u[m].1.2.1 1 (bys u[m].1.2.2) :=
        ((h.drew.memG (k := 4) rfl (List.mem_map.2 ⟨u[m], List.getElem_mem hc, rfl⟩) : (brow u[m].1.2).ok w6.drew w0.heap.size)).1.rd
      have hp2 : Rd w6.drew x.jf.2[x.of + m].1 1 (bys x.jf.2[x.of + m].2) := by
        have h2 := h.drew.ord 15 [14]
        dsimp only [pick, nthO, dropO] at h2
        exact hI.sef _ (List.getElem_mem hil) _ _ _ h2
      refine (same_ok hp1 hp2).mono ?_
      rintro r3 w7 ⟨rfl, hr3⟩
      have hr3 : (r3 : Bool) = true := by rw [hr3]; exact decide_eq_true hix.symm
      rw [hr3]
      exact hk5 _ _ ⟨rfl, h.drew⟩
  · have hc : m = u.length := by have : ¬ (m : Int) < (u.length : Int) := of_decide_eq_false hc
                                 omega
    subst hc
    refine NilP.mk ?_
    refine ReadN.arr (ha := add_lit' _ _ _) j rfl hj ?_
    refine h.drew.readB 6 0 (j := 0 + 0 + j) ⟨_, rfl, rfl⟩ rfl (kd := .ptr) (x := x.e.p) (c_e hj) ?_
    refine NilP.mk ?_
    refine ReadN.arr (ha := add_lit' _ _ _) (1 - j) rfl h1j ?_
    refine h.drew.readB 6 0 (j := 0 + 4 + (1 - j)) ⟨_, rfl, rfl⟩ rfl (kd := .int .i64) (x := ((x.of + u.length : Nat) : Int)) (by rw [Nat.zero_add]; exact c_of hj) ?_
    refine (next_st (e := x1.e) h.drew).mono ?_
    intro (v : Int) w7 ⟨hv, h⟩
    refine ⟨h.stillB 6 0 (j := 0 + 4 + (1 - j)) ⟨_, rfl, rfl⟩ rfl (by rw [Nat.zero_add]; exact c_of hj), ?_⟩
    refine ⟨StillV.of (run_arr (add_lit' _ _ _) (1 - j) rfl h1j), ?_⟩
    have hwt := hI.fe.want
    have hvv : v = ((x.of + u.length : Nat) : Int) + 1 := by
      rw [hv]
      show x.e.want + (u.length : Int) = _
      have : x.e.want = x.e.toLk.want := rfl
      omega
    rw [wr (by omega), hvv]
    refine ⟨by simp, us, mc, u, l, ht, ?_, ?_⟩
    · have hak : g.ack ≤ (x.oe : Int) := by
        have h1 := (hI.fe.po g hg hto).2.2.2.1
        have h2 := hI.ef.want
        omega
      exact ⟨took_wf hI.we hfit ht us mc, hI.wf, hI.ef.takeS hI.we hak us mc _ _, hI.fe.takeT hI.wf hg hto ht us mc, hI.me, hI.mf, hI.pe, hI.pf, hI.see, hI.sef, hI.sep, hI.tos, hI.pl, hI.ne, hI.nf⟩
    · have h := h.ord 15 [6, 0, 1, 2, 8, 9, 10, 11, 12, 13, 14]
      dsimp only [pick, nthO, dropO] at h
      exact h
end Go.Proofs.Ytodgnpmljdopiaa
