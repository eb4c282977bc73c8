/- Two journals on two disks: each goes as it would alone. -/
import Derived.Test.YtimebochhbfkgaaJkFi
namespace Go.Proofs.Ytimebochhbfkgaa
open Go Go.Fw Go.RowKit
set_option linter.unusedVariables false
set_option linter.unusedSimpArgs false
set_option maxRecDepth 4000
set_option maxHeartbeats 2000000
variable {w0 w : World} {F G : Grps} {d : D} {j : J}
instance : NewC Try.prog 24 [.pointer none, .pointer none, .pointer none] := ⟨fun _ => by kernel_rfl⟩
instance : Ar Try.prog 24 3 := Ar.of (e := 23) (by kernel_rfl) (by kernel_rfl)

theorem puts_wr (a : A) (n : Nat) (l : List (List UInt8)) : (a.puts n l).2.wr ≤ a.wr + l.length ∧ (a.puts n l).2.ims.length = a.ims.length ∧ a.wr ≤ (a.puts n l).2.wr := by
  induction l generalizing a n with
  | nil => simp [A.puts]
  | cons c r ih =>
    obtain ⟨h1, h2, h3⟩ := A.write_wr a n c
    simp only [A.puts]
    split
    · simp only [List.length_cons]; exact ⟨by omega, h2, h3⟩
    · obtain ⟨i1, i2, i3⟩ := ih (a.write n c).2 (n + 1)
      simp only [List.length_cons]
      exact ⟨by omega, by omega, by omega⟩
theorem JA.append_wr (x : JA) (a : A) (b : List UInt8) : (x.append a b).2.2.wr ≤ a.wr + 17 ∧ (x.append a b).2.2.ims.length = a.ims.length ∧ a.wr ≤ (x.append a b).2.2.wr := by
  unfold JA.append
  split
  · exact ⟨by dsimp only; omega, rfl, Int.le_refl _⟩
  · split
    · exact ⟨by dsimp only; omega, rfl, Int.le_refl _⟩
    · rename_i hb
      split
      · exact ⟨by dsimp only; omega, rfl, Int.le_refl _⟩
      · obtain ⟨h1, h2, h3⟩ := puts_wr a x.next (secs (x.recs.length + 1) b)
        rw [secs_len] at h1
        have := cnt_le (n := b.length) (by omega)
        split
        · exact ⟨by dsimp only; omega, h2, h3⟩
        · exact ⟨by dsimp only; omega, h2, h3⟩
/-- A journal on a disk that is on and not armed. -/
structure Lv (d : D) (j : J) : Prop where
  ok : DOk d
  jok : JOk j d
  off : d.off = false
  armed : d.armed = false
  dead : j.dead = false
theorem append_any (h : St w0 w (dg d :: jg j d.p :: F)) (ok : DOk d) (jok : JOk j d) (hw : d.wr ≤ 2305843009213693952) {p : Sl} {c : List UInt8} (hp : SeesG w0 F p 1 (bys c)) :
    CallK Try.prog (.int .i64) 13 #[.pointer j.p, .slice p.a p.len p.cap] w fun (r : Int) w' =>
      ∃ (d' : D) (j' : J), d'.b = d.b ∧ j'.b = j.b ∧ DOk d' ∧ JOk j' d' ∧ d'.wr ≤ d.wr + 17 ∧ St w0 w' (dg d' :: jg j' d'.p :: F) := by
  refine (append_st h ok jok hw hp).mono ?_
  rintro r w ⟨rfl, d2, j2, hb2, hjb2, ha2, hd2, ok2, jok2, h⟩
  have hp2 : d2.p = d.p := by rw [D.p, D.p, hb2]
  rw [← hp2] at h
  refine ⟨d2, j2, hb2, hjb2, ok2, jok2, ?_, h⟩
  obtain ⟨h1, h2, h3⟩ := JA.append_wr j.abs d.abs c
  rw [← hd2] at h1
  simpa using h1
theorem append_live (h : St w0 w (dg d :: jg j d.p :: F)) (lv : Lv d j) (hw : d.wr ≤ 2305843009213693952) {p : Sl} {c : List UInt8} (hp : SeesG w0 F p 1 (bys c)) (hfit : c.length ≤ 8192 → j.next + cnt c.length ≤ d.secs.length) :
    CallK Try.prog (.int .i64) 13 #[.pointer j.p, .slice p.a p.len p.cap] w fun (r : Int) w' =>
      ∃ (d' : D) (j' : J), d'.b = d.b ∧ j'.b = j.b ∧ Lv d' j' ∧ d'.secs.length = d.secs.length ∧ d'.wr ≤ d.wr + 17 ∧
        (c.length ≤ 8192 ∧ r = 0 ∧ j'.recs.map (·.2) = j.recs.map (·.2) ++ [c] ∧ j'.next = j.next + cnt c.length ∨ 8192 < c.length ∧ r = 2 ∧ j'.recs.map (·.2) = j.recs.map (·.2) ∧ j'.next = j.next) ∧ St w0 w' (dg d' :: jg j' d'.p :: F) := by
  refine (append_st h lv.ok lv.jok hw hp).mono ?_
  rintro r w ⟨rfl, d2, j2, hb2, hjb2, ha2, hd2, ok2, jok2, h⟩
  have hp2 : d2.p = d.p := by rw [D.p, D.p, hb2]
  rw [← hp2] at h
  obtain ⟨h1, h2, h3⟩ := JA.append_wr j.abs d.abs c
  rw [← hd2] at h1 h2
  simp only [abs_len, abs_wr] at h1 h2
  rcases Nat.lt_or_ge 8192 c.length with hc | hc
  · have e := JA.append_long (x := j.abs) (a := d.abs) (b := c) lv.dead lv.off hc
    rw [e] at ha2 hd2 ⊢
    dsimp only at ha2 hd2 ⊢
    refine ⟨d2, j2, hb2, hjb2, ⟨ok2, jok2, ?_, ?_, ?_⟩, h2, h1, .inr ⟨hc, rfl, congrArg JA.recs ha2, congrArg JA.next ha2⟩, h⟩
    · exact (congrArg A.off hd2).trans lv.off
    · exact (congrArg A.armed hd2).trans lv.armed
    · exact (congrArg JA.dead ha2).trans lv.dead
  · obtain ⟨a', e, ho, ha, him, hwr⟩ := JA.append_ok (x := j.abs) (a := d.abs) (b := c) lv.dead lv.off lv.armed hc (by simp only [J.abs, abs_len]; exact hfit hc)
    rw [e] at ha2 hd2 ⊢
    dsimp only at ha2 hd2 ⊢
    refine ⟨d2, j2, hb2, hjb2, ⟨ok2, jok2, ?_, ?_, ?_⟩, h2, h1, .inl ⟨hc, rfl, congrArg JA.recs ha2, congrArg JA.next ha2⟩, h⟩
    · exact (congrArg A.off hd2).trans ho
    · exact (congrArg A.armed hd2).trans ha
    · exact (congrArg JA.dead ha2).trans lv.dead

def ptrs (l : List (D × J)) : List Value := l.reverse.map (fun x => .pointer x.2.p) ++ List.replicate (3 - l.length) (.pointer none)
def grps (l : List (D × J)) : Grps := l.flatMap fun x => [dg x.1, jg x.2 x.1.p]
/-- A new journal. -/
structure Nw (d : D) (j : J) : Prop where
  lv : Lv d j
  recs : j.recs = []
  next : j.next = 0
  secs : d.secs.length = 300
  wr : d.wr = 0

theorem law3 {wi : World} {p q : Sl} {L M : List Bs} (hp : Recs wi p L) (hq : Recs wi q M) : CallK Try.prog .bool 3 #[.slice p.a p.len p.cap, .slice q.a q.len q.cap] wi fun (r : Bool) w' => Upd wi w' nobody ∧ r = true := by
  have h := St.init wi
  have hpl := hp.len
  have hql := hq.len
  refine T3.calls ?_
  unfold T3
  refine h.newB (NewC.run _) rfl ?_
  intro bp w h
  refine LoopX.mk (fun st w' => ∃ l : List (D × J), l.length ≤ 3 ∧ st.1 = (l.length : Int) ∧ (∀ x ∈ l, Nw x.1 x.2) ∧ St wi w' ([.cel bp 24 (ptrs l)] :: grps l)) (fun st => 3 - st.1.toNat) ⟨[], by decide, rfl, (fun x hx => by cases hx), h⟩ ?_
  clear h
  rintro ⟨_, ⟨⟩⟩ w ⟨l, hl, rfl, hnw, h⟩ K hK
  dsimp only at h hK ⊢
  rw [SplitB_iff]
  refine ⟨fun hz => ?_, fun hz => ?_⟩
  · have hz : l.length < 3 := by have := of_decide_eq_true hz; omega
    refine (new_st h (n := 300) (by decide) (by decide)).mono ?_
    rintro r w ⟨b, s, rfl, h⟩
    have ok := fresh_ok b s (n := 300) (by decide)
    dsimp only
    refine JoinX.mk (fun jv w' => jv.1 = false ∧ St wi w' (dg (fresh b s 300) :: [.cel bp 24 (ptrs l)] :: grps l)) ?_ ?_
    · rintro ⟨_, ⟨⟩⟩ w ⟨hj, h⟩
      dsimp only at hj h ⊢
      subst hj
      rw [SplitB_iff]
      refine ⟨(fun hz => by cases hz), fun _ => ?_⟩
      refine (open_st (d := fresh b s 300) h ok rfl).mono ?_
      rintro r w ⟨j, rfl, hjd, jok, hop, h⟩
      rw [fresh_ims] at hop
      obtain ⟨hr0, hn0⟩ := zer_opened hop
      dsimp only
      refine RunN.arr rfl l.length rfl hz ?_
      refine h.storB 2 0 ⟨_, rfl, rfl⟩ rfl (by rw [Nat.blt_eq]; simp [ptrs]; omega) rfl ?_
      intro w h
      dsimp only [updG, setO] at h
      have e : setO (ptrs l) (0 + l.length) (.pointer j.p) = ptrs ((fresh b s 300, j) :: l) := by
        rw [setO_set, Nat.zero_add]
        have : 3 - l.length = (3 - (l.length + 1)) + 1 := by omega
        simp only [ptrs, List.length_cons, this, List.replicate_succ]
        rw [List.set_append, if_neg (by simp)]
        simp
      rw [e] at h
      have h := h.ord 3 [2, 0, 1]
      dsimp only [pick, nthO, dropO] at h
      have h : St wi w ([.cel bp 24 (ptrs ((fresh b s 300, j) :: l))] :: grps ((fresh b s 300, j) :: l)) := h
      have hnw2 : ∀ x ∈ (fresh b s 300, j) :: l, Nw x.1 x.2 := by
        intro x hx
        rcases List.mem_cons.1 hx with rfl | hx
        · exact ⟨⟨ok, jok, rfl, rfl, hjd⟩, by simpa using hr0, hn0, by simp [fresh], rfl⟩
        · exact hnw x hx
      have hat : nthO (ptrs ((fresh b s 300, j) :: l)) (0 + l.length) = some (.pointer j.p) := by
        rw [nthO_get, Nat.zero_add]
        simp [ptrs, List.getElem?_append]
      refine JoinX.mk (fun jv w' => jv.1 = false ∧ St wi w' ([.cel bp 24 (ptrs ((fresh b s 300, j) :: l))] :: grps ((fresh b s 300, j) :: l))) ?_ ?_
      · rintro ⟨_, ⟨⟩⟩ w ⟨hj, h⟩
        dsimp only at hj h ⊢
        subst hj
        rw [SplitB_iff]
        refine ⟨(fun hz => by cases hz), fun _ => ?_⟩
        exact hK _ _ ⟨_, by simp; omega, by dsimp only; rw [wr (by omega)]; simp, hnw2, h⟩ (by dsimp only; rw [wr (by omega)]; omega)
      · intro k hk
        refine RunN.arr rfl l.length rfl hz ?_
        refine h.loadB 0 0 ⟨_, rfl, rfl⟩ rfl (kd := .ptr) (x := j.p) hat ?_
        first | refine RunN.pEqS ?_ | refine RunN.pEqN ?_ | refine RunN.pNeS ?_ | refine RunN.pNeN ?_
        rw [SplitB_iff]
        exact ⟨(fun hz => by cases hz), fun _ => hk _ _ ⟨rfl, h⟩⟩
    · intro k hk
      first | refine RunN.pEqS ?_ | refine RunN.pEqN ?_ | refine RunN.pNeS ?_ | refine RunN.pNeN ?_
      rw [SplitB_iff]
      exact ⟨(fun hz => by cases hz), fun _ => hk _ _ ⟨rfl, h⟩⟩
  · have hz : l.length = 3 := by have := of_decide_eq_false hz; omega
    match l, hz with
    | [(d2, j2), (d1, j1), (d0, j0)], _ =>
    have n0 := hnw (d0, j0) (by simp)
    have n1 := hnw (d1, j1) (by simp)
    have n2 := hnw (d2, j2) (by simp)
    dsimp only at n0 n1 n2
    have h : St wi w ([.cel bp 24 [.pointer j0.p, .pointer j1.p, .pointer j2.p]] :: dg d2 :: jg j2 d2.p :: dg d1 :: jg j1 d1.p :: dg d0 :: jg j0 d0.p :: []) := h
    have h := h.nilrow 31 1
    have h := h.ord 8 [1, 0, 6, 7, 4, 5, 2, 3]
    dsimp only [pick, nthO, dropO] at h
    clear hnw hl hK
    refine LoopX.mk (fun st w' => ∃ (k : Nat) (W : List Bs) (e0 e1 e2 : D) (i0 i1 i2 : J), k ≤ L.length ∧ k ≤ 12 ∧ st.2.1 = (k : Int) ∧ i0.b = j0.b ∧ i1.b = j1.b ∧ i2.b = j2.b ∧ Lv e0 i0 ∧ DOk e1 ∧ JOk i1 e1 ∧ Lv e2 i2 ∧
        e0.secs.length = 300 ∧ e2.secs.length = 300 ∧ i0.next ≤ 17 * k ∧ i2.next = i0.next ∧ e0.wr ≤ 17 * k ∧ e1.wr ≤ 17 * k ∧ e2.wr ≤ 17 * k ∧ (∀ x ∈ W, x ∈ L) ∧ W.length ≤ k ∧ st.1.len = W.length ∧
        i0.recs.map (·.2) = W.map (·.2) ∧ i2.recs.map (·.2) = W.map (·.2) ∧
        St wi w' ([.cel bp 24 [.pointer j0.p, .pointer j1.p, .pointer j2.p]] :: [.row 31 1 st.1 (lsl W)] :: dg e0 :: jg i0 e0.p :: dg e1 :: jg i1 e1.p :: dg e2 :: jg i2 e2.p :: [])) (fun st => L.length - st.2.1.toNat)
      ⟨0, [], d0, d1, d2, j0, j1, j2, Nat.zero_le _, by decide, rfl, rfl, rfl, rfl, n0.lv, n1.lv.ok, n1.lv.jok, n2.lv, n0.secs, n2.secs, by rw [n0.next]; decide, by rw [n0.next, n2.next], by rw [n0.wr]; decide, by rw [n1.wr]; decide, by rw [n2.wr]; decide, (fun x hx => by cases hx), Nat.le_refl _, rfl, by rw [n0.recs], by rw [n2.recs], h⟩ ?_
    clear h n0 n1 n2
    rintro ⟨s, _, ⟨⟩⟩ w ⟨k, W, e0, e1, e2, i0, i1, i2, hk, hk12, rfl, hb0, hb1, hb2, v0, ok1, jok1, v2, hs0, hs2, hn0, hn2, hw0, hw1, hw2, hWL, hWk, hsl, hr0, hr2, h⟩ K hK
    dsimp only at h hK hsl ⊢
    have hp0 : j0.p = i0.p := by rw [J.p, J.p, hb0]
    have hp1 : j1.p = i1.p := by rw [J.p, J.p, hb1]
    have hp2 : j2.p = i2.p := by rw [J.p, J.p, hb2]
    refine JoinX.mk (fun jv w' => jv.1 = decide (k < L.length ∧ k < 12) ∧ w' = w) ?_ ?_
    · rintro ⟨_, ⟨⟩⟩ w' ⟨hj, hw⟩
      dsimp only at hj ⊢
      subst hj; subst hw
      rw [SplitB_iff]
      refine ⟨fun hz => ?_, fun hz => ?_⟩
      · obtain ⟨hz, hz12⟩ := of_decide_eq_true hz
        obtain ⟨hx1, hx2⟩ := hp.2 _ (List.getElem_mem hz)
        have hxl := hx1.bys_len
        refine JoinX.mk (fun jv w' => ∃ (W' : List Bs) (e0 e1 e2 : D) (i0 i1 i2 : J), i0.b = j0.b ∧ i1.b = j1.b ∧ i2.b = j2.b ∧ Lv e0 i0 ∧ DOk e1 ∧ JOk i1 e1 ∧ Lv e2 i2 ∧
          e0.secs.length = 300 ∧ e2.secs.length = 300 ∧ i0.next ≤ 17 * (k + 1) ∧ i2.next = i0.next ∧ e0.wr ≤ 17 * (k + 1) ∧ e1.wr ≤ 17 * (k + 1) ∧ e2.wr ≤ 17 * (k + 1) ∧ (∀ x ∈ W', x ∈ L) ∧ W'.length ≤ k + 1 ∧ jv.1.len = W'.length ∧
          i0.recs.map (·.2) = W'.map (·.2) ∧ i2.recs.map (·.2) = W'.map (·.2) ∧
          St wi w' ([.cel bp 24 [.pointer j0.p, .pointer j1.p, .pointer j2.p]] :: [.row 31 1 jv.1 (lsl W')] :: dg e0 :: jg i0 e0.p :: dg e1 :: jg i1 e1.p :: dg e2 :: jg i2 e2.p :: [])) ?_ ?_
        · rintro ⟨s', ⟨⟩⟩ w ⟨W', e0, e1, e2, i0, i1, i2, hb0, hb1, hb2, v0, ok1, jok1, v2, hs0, hs2, hn0, hn2, hw0, hw1, hw2, hWL, hWk, hsl, hr0, hr2, h⟩
          exact hK _ _ ⟨k + 1, W', e0, e1, e2, i0, i1, i2, hz, by omega, by dsimp only; rw [wr (by omega)]; omega, hb0, hb1, hb2, v0, ok1, jok1, v2, hs0, hs2, hn0, hn2, by omega, by omega, by omega, hWL, hWk, hsl, hr0, hr2, h⟩ (by dsimp only; rw [wr (by omega)]; omega)
        · intro k11 hk11
          refine (h.old hp.1).idxK k rfl (by omega) ?_
          intro b o hb
          refine (h.old hp.1).el hb (k * 1) rfl (kd := .sl) (x := L[k].1) (by rw [Nat.mul_one, lsl_at hz]; rfl) ?_
          refine (lent_st h (h.old hx1) (by omega)).mono ?_
          rintro r w ⟨hrl, h⟩
          refine ReadN.arr rfl 0 rfl (by decide) ?_
          try (with_reducible refine NilP.mk ?_)
          refine h.drew.readB 1 0 ⟨_, rfl, rfl⟩ rfl rfl ?_
          have hrcap := (h.rd (k := 0) (i := 0) ⟨_, rfl, rfl⟩).2.2
          have hxi : (L[k].1.len : Int) = (L[k].2.length : Int) := by rw [hxl]
          refine ReadN.sH (s := r) L[k].2.length hxi (by omega) ?_
          have h := h.ord 9 [3, 4, 0, 1, 2, 5, 6, 7, 8]
          dsimp only [pick, nthO, dropO] at h
          rw [hp0]
          refine (append_live h.drew v0 (by omega) (p := subS r 0 L[k].2.length 1) (c := L[k].2) (fun w h => by
            have := (h.rd (k := 0) (i := 0) ⟨_, rfl, rfl⟩).pre (hi := L[k].2.length) (by omega)
            rw [bys_take, List.take_append_of_le_length (Nat.le_refl _), List.take_of_length_le (Nat.le_refl _)] at this
            exact this) (fun hc => by have := cnt_le hc; omega)).mono ?_
          rintro t w ⟨f0, g0, hfb, hgb, v0', hfs, hfw, hcase, h⟩
          have h := h.ord 9 [2, 3, 4, 0, 1, 5, 6, 7, 8]
          dsimp only [pick, nthO, dropO] at h
          refine (back_st h (by omega) (fun w h => h.old hx1)).mono ?_
          rintro bb w ⟨rfl, h⟩
          rw [SplitB_iff]
          refine ⟨(fun hz => by simp at hz), fun _ => ?_⟩
          have hi0 : j0.p = g0.p := by rw [hp0, J.p, J.p, hgb]
          refine JoinX.mk (fun _ w' => ∃ (f1 : D) (g1 : J), g1.b = j1.b ∧ DOk f1 ∧ JOk g1 f1 ∧ f1.wr ≤ 17 * (k + 1) ∧
            St wi w' ([.cel bp 24 [.pointer j0.p, .pointer j1.p, .pointer j2.p]] :: [.row 31 1 s (lsl W)] :: dg f0 :: jg g0 f0.p :: dg f1 :: jg g1 f1.p :: dg e2 :: jg i2 e2.p :: [])) ?_ ?_
          · rintro ⟨⟩ w ⟨f1, g1, hg1, okf1, jokg1, hwf1, h⟩
            refine RunN.arr rfl 2 rfl (by decide) ?_
            try (with_reducible refine NilP.mk ?_)
            refine h.loadB 0 0 ⟨_, rfl, rfl⟩ rfl rfl ?_
            have h := h.ord 8 [6, 7, 0, 1, 2, 3, 4, 5]
            dsimp only [pick, nthO, dropO] at h
            rw [hp2]
            refine (append_live h v2 (by omega) (p := L[k].1) (c := L[k].2) (fun w h => h.old hx1) (fun hc => by have := cnt_le hc; omega)).mono ?_
            rintro t2 w ⟨f2, g2, hfb2, hgb2, v2', hfs2, hfw2, hcase2, h⟩
            have h := h.ord 8 [2, 3, 4, 5, 6, 7, 0, 1]
            dsimp only [pick, nthO, dropO] at h
            have ht : t2 = t ∧ (decide (t = 0) = decide (L[k].2.length ≤ 8192)) ∧ g2.next = g0.next ∧ g0.next ≤ 17 * (k + 1) := by
              rcases hcase with ⟨c1, c2, c3, c4⟩ | ⟨c1, c2, c3, c4⟩ <;> rcases hcase2 with ⟨d1, d2, d3, d4⟩ | ⟨d1, d2, d3, d4⟩
              · have := cnt_le c1
                refine ⟨by rw [c2, d2], by simp [c2, c1], by rw [c4, d4, hn2], by omega⟩
              · omega
              · omega
              · refine ⟨by rw [c2, d2], ?_, by rw [c4, d4, hn2], by omega⟩
                rw [c2]; simp; omega
            obtain ⟨rfl, ht2, ht3, ht4⟩ := ht
            have hj2 : j2.p = g2.p := by rw [hp2, J.p, J.p, hgb2]
            refine JoinX.mk (fun jv w' => jv.1 = false ∧ St wi w' ([.cel bp 24 [.pointer j0.p, .pointer j1.p, .pointer j2.p]] :: [.row 31 1 s (lsl W)] :: dg f0 :: jg g0 f0.p :: dg f1 :: jg g1 f1.p :: dg f2 :: jg g2 f2.p :: [])) ?_ ?_
            · rintro ⟨_, ⟨⟩⟩ w ⟨hj, h⟩
              dsimp only at hj h ⊢
              subst hj
              rw [SplitB_iff]
              refine ⟨(fun hz => by cases hz), fun _ => ?_⟩
              rw [SplitB_iff]
              refine ⟨fun hy => ?_, fun hy => ?_⟩
              · have hy : t2 = 0 := by simpa using hy
                subst hy
                refine h.newS 1 (bs22 _ _ _ _) rfl rfl rfl ?_
                intro u w hul huc _ h
                refine h.app 2 0 ⟨_, rfl, rfl⟩ (h.rd (k := 0) (i := 0) ⟨_, rfl, rfl⟩) one_slice (by simp only [maxLen]; omega) (by omega) ?_
                intro s' w hs' h
                dsimp only [updG, setO] at h
                have h := h.drop 0
                dsimp only [delO] at h
                rw [← lsl_snoc] at h
                rcases hcase with ⟨c1, c2, c3, c4⟩ | ⟨c1, c2, c3, c4⟩
                · rcases hcase2 with ⟨q1, q2, q3, q4⟩ | ⟨q1, q2, q3, q4⟩
                  · refine hk11 _ _ ⟨W ++ [L[k]], f0, f1, f2, g0, g1, g2, hgb.trans hb0, hg1, hgb2.trans hb2, v0', okf1, jokg1, v2', hfs.trans hs0, hfs2.trans hs2, ht4, ht3, by omega, hwf1, by omega, ?_, by simp; omega, by dsimp only; rw [hs', hul, hsl]; simp, ?_, ?_, h⟩
                    · intro x hx
                      rcases List.mem_append.1 hx with hx | hx
                      · exact hWL x hx
                      · simp at hx; subst hx; exact List.getElem_mem hz
                    · rw [c3, hr0]; simp
                    · rw [q3, hr2]; simp
                  · omega
                · cases c2
              · have hy : t2 ≠ 0 := by simpa using hy
                rcases hcase with ⟨c1, c2, c3, c4⟩ | ⟨c1, c2, c3, c4⟩
                · exact absurd c2 hy
                · rcases hcase2 with ⟨q1, q2, q3, q4⟩ | ⟨q1, q2, q3, q4⟩
                  · omega
                  · exact hk11 _ _ ⟨W, f0, f1, f2, g0, g1, g2, hgb.trans hb0, hg1, hgb2.trans hb2, v0', okf1, jokg1, v2', hfs.trans hs0, hfs2.trans hs2, ht4, ht3, by omega, hwf1, by omega, hWL, by omega, hsl, by rw [c3, hr0], by rw [q3, hr2], h⟩
            · intro k15 hk15
              rw [SplitB_iff]
              refine ⟨(fun hz => by simp at hz), fun _ => ?_⟩
              rw [hxi, SplitB_iff]
              refine ⟨fun hz => ?_, fun _ => ?_⟩
              · exfalso
                have e : (t2 == 0) = decide (((L[k].2.length : Nat) : Int) ≤ 8192) := by
                  rw [show (t2 == 0) = decide (t2 = 0) from by rw [Bool.eq_iff_iff]; simp, ht2]
                  exact decide_eq_decide.2 (by omega)
                rw [e] at hz; simp at hz
              refine ReadN.arr rfl 0 rfl (by decide) ?_
              try (with_reducible refine NilP.mk ?_)
              refine h.drew.readB 0 0 ⟨_, rfl, rfl⟩ rfl rfl ?_
              refine ReadN.arr rfl 2 rfl (by decide) ?_
              try (with_reducible refine NilP.mk ?_)
              refine h.drew.readB 0 0 ⟨_, rfl, rfl⟩ rfl rfl ?_
              have h := h.ord 8 [2, 3, 0, 1, 4, 5, 6, 7]
              dsimp only [pick, nthO, dropO] at h
              rw [hi0]
              refine (room_st h.drew v0'.ok v0'.jok).mono ?_
              rintro r1 w ⟨rfl, h⟩
              refine ⟨h.stillB 2 0 ⟨_, rfl, rfl⟩ rfl rfl, ?_⟩
              refine ⟨StillV.of (run_arr rfl 2 rfl (by decide)), ?_⟩
              have h := h.ord 8 [6, 7, 2, 3, 0, 1, 4, 5]
              dsimp only [pick, nthO, dropO] at h
              rw [hj2]
              refine (room_st h v2'.ok v2'.jok).mono ?_
              rintro r2 w ⟨rfl, h⟩
              have h := h.ord 8 [2, 3, 4, 5, 6, 7, 0, 1]
              dsimp only [pick, nthO, dropO] at h
              refine hk15 _ _ ⟨?_, h⟩
              dsimp only
              rw [v0'.dead, v2'.dead, hfs, hfs2, hs0, hs2, ht3]; simp
          · intro k13 hk13
            rw [SplitB_iff]
            refine ⟨fun hy => ?_, fun hy => ?_⟩
            · have hy : k < M.length := by have := of_decide_eq_true hy; omega
              obtain ⟨hy1, hy2⟩ := hq.2 _ (List.getElem_mem hy)
              refine ReadN.arr rfl 1 rfl (by decide) ?_
              try (with_reducible refine NilP.mk ?_)
              refine h.drew.readB 0 0 ⟨_, rfl, rfl⟩ rfl rfl ?_
              refine (h.drew.old hq.1).idxR k rfl (by omega) ?_
              intro b2 o2 hb2'
              refine (h.drew.old hq.1).elR hb2' (k * 1) rfl (kd := .sl) (x := M[k].1) (by rw [Nat.mul_one, lsl_at hy]; rfl) ?_
              have h := h.ord 8 [4, 5, 0, 1, 2, 3, 6, 7]
              dsimp only [pick, nthO, dropO] at h
              rw [hp1]
              refine (append_any h.drew ok1 jok1 (by omega) (p := M[k].1) (c := M[k].2) (fun w h => h.old hy1)).mono ?_
              rintro t w ⟨f1, g1, hfb1, hgb1, okf1, jokg1, hwf1, h⟩
              have h := h.ord 8 [2, 3, 4, 5, 0, 1, 6, 7]
              dsimp only [pick, nthO, dropO] at h
              exact hk13 _ _ ⟨f1, g1, hgb1.trans hb1, okf1, jokg1, by omega, h⟩
            · exact hk13 _ _ ⟨e1, i1, hb1, ok1, jok1, by omega, h⟩
      · have hW : ∀ w, St wi w ([.cel bp 24 [.pointer j0.p, .pointer j1.p, .pointer j2.p]] :: [.row 31 1 s (lsl W)] :: []) → Rd w s 1 (lsl W) ∧ ∀ x ∈ W, Rd w x.1 1 (bys x.2) :=
          fun w h => ⟨h.rd (k := 1) (i := 0) ⟨_, rfl, rfl⟩, fun x hx => h.old (hp.2 x (hWL x hx)).1⟩
        refine (able_st h).mono ?_
        rintro bb w ⟨rfl, h⟩
        rw [SplitB_iff]
        refine ⟨fun _ => ?_, (fun hz => by cases hz)⟩
        have hl0 : i0.recs.length = W.length := by have := congrArg List.length hr0; simpa using this
        have hl2 : i2.recs.length = W.length := by have := congrArg List.length hr2; simpa using this
        refine RunN.arr rfl 0 rfl (by decide) ?_
        try (with_reducible refine NilP.mk ?_)
        refine h.loadB 0 0 ⟨_, rfl, rfl⟩ rfl rfl ?_
        have h := h.ord 8 [2, 3, 0, 1, 6, 7]
        dsimp only [pick, nthO, dropO] at h
        rw [hp0]
        refine (tells_st h v0.jok v0.dead (p := s) (L := W) (fun w h => hW w (h.ord 4 [0, 1])) hr0 (by omega)).mono ?_
        rintro bb w ⟨rfl, h⟩
        rw [SplitB_iff]
        refine ⟨fun _ => ?_, (fun hz => by cases hz)⟩
        refine RunN.arr rfl 2 rfl (by decide) ?_
        try (with_reducible refine NilP.mk ?_)
        refine h.loadB 2 0 ⟨_, rfl, rfl⟩ rfl rfl ?_
        have h := h.ord 6 [4, 5, 2, 3]
        dsimp only [pick, nthO, dropO] at h
        rw [hp2]
        refine (tells_st h v2.jok v2.dead (p := s) (L := W) (fun w h => hW w h) hr2 (by omega)).mono ?_
        rintro bb w ⟨rfl, h⟩
        exact ⟨h.upd, rfl⟩
    · intro k9 hk9
      rw [SplitB_iff]
      refine ⟨fun hz => ?_, fun hz => ?_⟩
      · have hz : k < L.length := by have := of_decide_eq_true hz; omega
        refine hk9 _ _ ⟨?_, rfl⟩
        dsimp only
        exact decide_eq_decide.2 (by omega)
      · have hz : ¬ k < L.length := by have := of_decide_eq_false hz; omega
        refine hk9 _ _ ⟨?_, rfl⟩
        dsimp only
        exact (decide_eq_false (by omega)).symm
end Go.Proofs.Ytimebochhbfkgaa
