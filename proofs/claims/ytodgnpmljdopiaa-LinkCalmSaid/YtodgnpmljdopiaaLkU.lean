/- LinkOnce. -/
import Derived.Test.YtodgnpmljdopiaaLkT
namespace Go.Proofs.Ytodgnpmljdopiaa
open Go Go.Fw Go.RowKit
set_option linter.unusedVariables false
set_option linter.unusedSimpArgs false
set_option maxRecDepth 4000
set_option maxHeartbeats 8000000
variable {W w0 w : World} {F G : Grps} {j n : Nat} {x : Ln}

def wns (p0 p1 p2 : Int) (k : Nat) : Int := if k = 0 then wi p0 1 16 else if k = 1 then wi p1 1 16 else wi p2 1 20
theorem dir0 (a b c d a' b' c' d' : Int) : Dir (lk0 a b c d) (lk0 a' b' c' d') [] 0 [] := by
  refine ⟨rfl, ?_, rfl, ?_, ?_, ?_, ?_, ?_⟩
  · intro p hp; simp [lk0] at hp
  · show ((0 : Nat) : Int) ≤ 0; decide
  · show (0 : Int) - _ ≤ _; simp [lk0]
  · intro x hx; simp [lk0] at hx
  · intro g hg; cases hg
  · intro l hl; cases hl
theorem begun_st (h : St w0 w F) {p0 p1 p2 : Int} (r0 : -9223372036854775808 ≤ p0 ∧ p0 ≤ 9223372036854775807) (r1 : -9223372036854775808 ≤ p1 ∧ p1 ≤ 9223372036854775807) (r2 : -9223372036854775808 ≤ p2 ∧ p2 ≤ 9223372036854775807) :
    CallK Try.prog .ptr 16 #[.int .i64 p0, .int .i64 p1, .int .i64 p2] w fun (r : Option Addr) w' => ∃ cb, r = some ⟨cb, 0, none⟩ ∧ At w0 F cb (wns p0 p1 p2) 0 0 w' := by
  refine T16.calls ?_
  unfold T16
  have ha1 := wi_in (x := p0) (lo := 1) (hi := 16) (by decide)
  have hb1 := wi_in (x := p1) (lo := 1) (hi := 16) (by decide)
  have hn1 := wi_in (x := p2) (lo := 1) (hi := 20) (by decide)
  refine (within_st h (by decide) (by decide) (by decide) r0).mono ?_
  intro (a : Int) w2 ⟨ha, h⟩
  refine (within_st h (by decide) (by decide) (by decide) r2).mono ?_
  intro (n : Int) w3 ⟨hn, h⟩
  rw [← ha] at ha1
  rw [← hn] at hn1
  have hE : newE 3 5 a n = 0 := by
    rw [newE, if_neg (by decide), if_neg (by omega)]
  refine (new_st h 3 5 a n).mono ?_
  rintro r w4 (⟨hne, _⟩ | ⟨_, e, rfl, he, h⟩)
  · exact absurd hE hne
  refine (within_st h (by decide) (by decide) (by decide) r1).mono ?_
  intro (b : Int) w5 ⟨hb, h⟩
  refine (within_st h (by decide) (by decide) (by decide) r2).mono ?_
  intro (n2 : Int) w6 ⟨hn2, h⟩
  rw [← hb] at hb1
  have hnn : n2 = n := hn2.trans hn.symm
  rw [hnn]
  have hE2 : newE 5 3 b n = 0 := by
    rw [newE, if_neg (by decide), if_neg (by omega)]
  refine (new_st h 5 3 b n).mono ?_
  rintro r w7 (⟨hne, _⟩ | ⟨_, f, rfl, hf, h⟩)
  · exact absurd hE2 hne
  have hl1 := lk0_wf hE
  have hl2 := lk0_wf hE2
  refine JoinX.mk (fun (y : Bool × Unit) w' => y.1 = false ∧ St w0 w' (lmE f :: lmE e :: F)) ?_ ?_
  · rintro ⟨y, ⟨⟩⟩ w8 ⟨hy, h⟩
    dsimp only at hy
    subst hy
    rw [SplitB_iff]
    refine ⟨fun hf => (by cases hf), fun _ => ?_⟩
    refine h.newB run_boxA rfl ?_
    intro cb w9 h
    have h := ((h.nilrow 45 1).nilrow 45 1).nilrow 62 5
    have h := h.ord 6 [3, 5, 4, 1, 2, 0]
    dsimp only [pick, nthO, dropO] at h
    refine ⟨cb, rfl, ⟨e, f, (⟨none, 0, 0⟩, []), (⟨none, 0, 0⟩, []), 0, 0, ⟨none, 0, 0⟩, [], cb, [], []⟩, ?_, rfl, ?_, ⟨?_, ?_, ?_⟩, ?_⟩
    · refine ⟨by show e.toLk.wf; rw [he]; exact hl1.1, by show f.toLk.wf; rw [hf]; exact hl2.1, ?_, ?_, by show e.toLk.me = _; rw [he]; rfl, by show f.toLk.me = _; rw [hf]; rfl, by show e.toLk.peer = f.toLk.me; rw [he, hf]; rfl, by show f.toLk.peer = e.toLk.me; rw [he, hf]; rfl, fun b hb => (by cases hb), fun b hb => (by cases hb), fun b hb => (by cases hb), fun b hb => (by cases hb), Nat.zero_le _, Nat.zero_le _, Nat.zero_le _⟩
      · show Dir e.toLk f.toLk _ _ _
        rw [he, hf]; exact dir0 _ _ _ _ _ _ _ _
      · show Dir f.toLk e.toLk _ _ _
        rw [he, hf]; exact dir0 _ _ _ _ _ _ _ _
    · show ((e.toLk.win : Nat) : Int) = _
      rw [he, hl1.2, ha]; rfl
    · show ((f.toLk.win : Nat) : Int) = _
      rw [hf, hl2.2, hb]; rfl
    · show e.toLk.res = _
      rw [he]; exact hn
    · show f.toLk.res = _
      rw [hf]; exact hn
    · have h : St w0 w9 ([.cel cb 54 [.pointer e.p, .pointer f.p, .slice none 0 0, .slice none 0 0, .int .i64 0, .int .i64 0, .slice none 0 0]] :: lmE e :: dat e.toLk :: ups e.ea :: lmE f :: dat f.toLk :: ups f.ea :: [.row 45 1 ⟨none, 0, 0⟩ []] :: [.row 45 1 ⟨none, 0, 0⟩ []] :: [.row 62 5 ⟨none, 0, 0⟩ []] :: [] :: F) := by
        rw [(lk0_dat he).1, (lk0_dat he).2, (lk0_dat hf).1, (lk0_dat hf).2]
        exact h.perm (by simp)
      exact h
  · intro k hk
    rw [SplitB_iff]
    refine ⟨fun hf => (by cases hf), fun _ => ?_⟩
    rw [SplitB_iff]
    refine ⟨fun hf => (by cases hf), fun _ => ?_⟩
    refine RunN.pEqS ?_
    rw [SplitB_iff]
    refine ⟨fun hf => (by cases hf), fun _ => ?_⟩
    refine RunN.pEqS ?_
    exact hk _ _ ⟨rfl, h⟩
theorem sound0 {cb : Nat} {wn : Nat → Int} {i n : Nat} (hi : i < 2) (h : At w0 F cb wn i n w) (hn : n ≤ 1048576) {k : Nat} (hk : k < 2) : CallK Try.prog .bool 19 #[.pointer (some ⟨cb, 0, none⟩), .int .i64 (k : Int), .int .i64 (wn k)] w
    fun (r : Bool) w' => r = true ∧ At w0 F cb wn k n w' := by
  obtain ⟨x, hI, rfl, hwe, hwf, h⟩ := h.to hi hk
  rw [← hwe]
  refine (sound_st hk h hI hn).mono ?_
  intro (r : Bool) w5 ⟨hr, h⟩
  exact ⟨hr, x, hI, rfl, hwe, hwf, h⟩
abbrev movs (l : List Mo) : List Value := l.flatMap mov
theorem mov_len (m : Mo) : (mov m).length = 4 := rfl
theorem once_st {s : Sl} {L : List Mo} (hs : Rd W s 4 (movs L)) (hL : ∀ m ∈ L, m.ok ∧ Rd W m.d.1 1 (bys m.d.2)) {p0 p1 p2 : Int} (r0 : -9223372036854775808 ≤ p0 ∧ p0 ≤ 9223372036854775807) (r1 : -9223372036854775808 ≤ p1 ∧ p1 ≤ 9223372036854775807) (r2 : -9223372036854775808 ≤ p2 ∧ p2 ≤ 9223372036854775807) :
    CallK Try.prog .bool 6 #[.int .i64 p0, .int .i64 p1, .int .i64 p2, .slice s.a s.len s.cap] W fun (r : Bool) w' => r = true ∧ Upd W w' nobody := by
  have hsl : s.len = L.length := by have := hs.1; rw [flat_len mov_len] at this; omega
  refine T6.calls ?_
  unfold T6
  refine (alive_st (St.init W)).mono ?_
  intro (al : Bool) w1 ⟨hal, h⟩
  rw [hal]
  refine (begun_st h r0 r1 r2).mono ?_
  rintro r w2 ⟨cb, rfl, hA⟩
  refine JoinX.mk (fun (y : Bool × Unit) w' => y.1 = false ∧ At W [] cb (wns p0 p1 p2) 0 0 w') ?_ ?_
  rotate_left
  · intro k hk
    rw [SplitB_iff]
    refine ⟨fun hf => (by cases hf), fun _ => ?_⟩
    refine RunN.pEqS ?_
    exact hk _ _ ⟨rfl, hA⟩
  clear h hA
  rintro ⟨y, ⟨⟩⟩ w3 ⟨hy, x, hI, rfl, hwe, hwf, h⟩
  dsimp only at hy
  subst hy
  rw [SplitB_iff]
  refine ⟨fun hf => (by cases hf), fun _ => ?_⟩
  refine (within_st h (by decide) (by decide) (by decide) r0).mono ?_
  intro (a : Int) w4 ⟨ha, h⟩
  refine (within_st h (by decide) (by decide) (by decide) r1).mono ?_
  intro (b : Int) w5 ⟨hb, h⟩
  have ha : a = wns p0 p1 p2 0 := ha
  have hb : b = wns p0 p1 p2 1 := hb
  rw [ha, hb]
  refine h.newB (NewC.run _) rfl ?_
  intro b3 w6 h
  refine h.stor2 0 0 ⟨_, rfl, rfl⟩ rfl ?_
  intro w7 h
  dsimp only [updG, setO] at h
  have h := h.ord 12 [1, 2, 3, 4, 5, 6, 7, 8, 9, 10, 11, 0]
  dsimp only [lnG, pick, nthO, dropO] at h
  let F' : Grps := [[.cel b3 43 [.int .i64 (wns p0 p1 p2 0), .int .i64 (wns p0 p1 p2 1)]]]
  have hA : At W F' x.cb (wns p0 p1 p2) 0 0 w7 := ⟨x, hI, rfl, hwe, hwf, h⟩
  have hcell : ∀ {n w'}, At W F' x.cb (wns p0 p1 p2) 0 n w' → ∃ y, LnI 0 n y ∧ y.cb = x.cb ∧ (y.e.win : Int) = wns p0 p1 p2 0 ∧ ((y.f.win : Int) = wns p0 p1 p2 1 ∧ y.e.res = wns p0 p1 p2 2 ∧ y.f.res = wns p0 p1 p2 2) ∧ St W w' (lnG 0 y F') := fun h => h
  refine LoopX.mk (fun st w' => ∃ m : Nat, st = ((m : Int), ()) ∧ m ≤ L.length ∧ m ≤ 300 ∧ At W F' x.cb (wns p0 p1 p2) 0 m w') (fun st => 400 - st.1.toNat) ⟨0, rfl, Nat.zero_le _, by omega, hA⟩ ?_
  clear h hA
  rintro _ w8 ⟨m, rfl, hm, hm3, hA⟩ k hk
  dsimp only at hk ⊢
  refine JoinX.mk (fun (y : Bool × Unit) w' => y.1 = decide (m < L.length ∧ m < 300) ∧ At W F' x.cb (wns p0 p1 p2) 0 m w') ?_ ?_
  rotate_left
  · intro k2 hk2
    rw [hsl, SplitB_iff]
    refine ⟨fun hc => ?_, fun hc => ?_⟩
    · have hc : (m : Int) < (L.length : Int) := of_decide_eq_true hc
      refine hk2 _ _ ⟨?_, hA⟩
      exact decide_eq_decide.2 ⟨fun h => ⟨by omega, by omega⟩, fun h => by omega⟩
    · have hc : ¬ (m : Int) < (L.length : Int) := of_decide_eq_false hc
      refine hk2 _ _ ⟨?_, hA⟩
      symm
      exact decide_eq_false (fun h => by omega)
  clear hA
  rintro ⟨y, ⟨⟩⟩ w9 ⟨hy, hA⟩
  dsimp only at hy
  subst hy
  obtain ⟨y, hI2, hcb2, hwe2, hwf2, h⟩ := hcell hA
  rw [SplitB_iff]
  refine ⟨fun hc => ?_, fun hc => ?_⟩
  · have hc : m < L.length ∧ m < 300 := of_decide_eq_true hc
    have hem : IntKind.i64.wrap ((m : Int) + 1) = ((m + 1 : Nat) : Int) := by rw [wr (by omega)]; omega
    rw [hem]
    have hsr : Rd w9.drew s 4 (movs L) := h.drew.old hs
    refine hsr.idxR m rfl (by omega) ?_
    intro b0 o0 ha0
    refine hsr.elAR ha0 (m * 4) rfl (kd := .agg (.cons (.int .i64) (.cons (.int .i64) (.cons (.int .i64) (.cons .sl .nilT))))) (L[m].kind, L[m].who, L[m].a, L[m].d.1, ()) (ds := mov L[m]) (flat_at mov_len _ _ hc.1) ?_
    refine h.drew.read2 11 0 ⟨_, rfl, rfl⟩ rfl ?_
    have hmo := hL _ (List.getElem_mem hc.1)
    have hA2 : At W F' x.cb (wns p0 p1 p2) 0 m w9.drew := ⟨y, hI2, hcb2, hwe2, hwf2, h.drew⟩
    refine (step_st (by decide) hA2 (by omega) hmo.1 hmo.2).mono ?_
    intro (r : Bool) w10 ⟨hr, hA⟩
    rw [hr, SplitB_iff]
    refine ⟨fun hf => (by cases hf), fun _ => ?_⟩
    exact hk _ _ ⟨m + 1, rfl, by omega, by omega, hA⟩ (by dsimp only; omega)
  · refine RunN.arr rfl 0 rfl (by decide) ?_
    refine h.loadB 11 0 (j := 0 + 0) ⟨_, rfl, rfl⟩ rfl (kd := .int .i64) (x := wns p0 p1 p2 0) rfl ?_
    refine (sound0 (by decide) hA (by omega) (k := 0) (by decide)).mono ?_
    intro (r : Bool) w10 ⟨hr, hA⟩
    rw [hr, SplitB_iff]
    refine ⟨fun _ => ?_, fun hf => (by cases hf)⟩
    obtain ⟨y, hI2, hcb2, hwe2, hwf2, h⟩ := hcell hA
    refine RunN.arr rfl 1 rfl (by decide) ?_
    refine h.loadB 11 0 (j := 0 + 1) ⟨_, rfl, rfl⟩ rfl (kd := .int .i64) (x := wns p0 p1 p2 1) rfl ?_
    refine (sound0 (by decide) hA (by omega) (k := 1) (by decide)).mono ?_
    intro (r : Bool) w11 ⟨hr, x3, _, _, _, _, h⟩
    exact ⟨hr, h.upd⟩
theorem law6 {s : Sl} {L : List Mo} (hs : Rd W s 4 (movs L) ∧ ∀ m ∈ L, m.ok ∧ Rd W m.d.1 1 (bys m.d.2)) {p0 p1 p2 : Int} (r0 : -9223372036854775808 ≤ p0 ∧ p0 ≤ 9223372036854775807) (r1 : -9223372036854775808 ≤ p1 ∧ p1 ≤ 9223372036854775807) (r2 : -9223372036854775808 ≤ p2 ∧ p2 ≤ 9223372036854775807) :
    CallK Try.prog .bool 6 #[.int .i64 p0, .int .i64 p1, .int .i64 p2, .slice s.a s.len s.cap] W fun (r : Bool) w' => Upd W w' nobody ∧ r = true :=
  (once_st hs.1 hs.2 r0 r1 r2).mono fun _ _ h => ⟨h.2, h.1⟩
end Go.Proofs.Ytodgnpmljdopiaa
