/- The document's machine of epochs in memory: what is read of it. -/
import Derived.Test.YtmfbmfppjdkeeaaEkE
namespace Go.Proofs.Ytmfbmfppjdkeeaa
open Go Go.Fw Go.RowKit
set_option linter.unusedVariables false
set_option linter.unusedSimpArgs false
set_option maxRecDepth 4000
set_option maxHeartbeats 2000000
variable {w0 w : World} {F G : Grps}

abbrev Nt := Int × Int × Int × Int
def ntv (x : Nt) : List Value := [.int .i64 x.1, .int .i64 x.2.1, .int .i64 x.2.2.1, .int .i64 x.2.2.2]
theorem ntv_len (e : Nt) : (ntv e).length = 4 := rfl
theorem ntv_one (x : Nt) : ∀ v ∈ ntv x, v.oneCell' = true := by intro v hv; simp [ntv] at hv; rcases hv with rfl | rfl | rfl | rfl <;> rfl
abbrev nts (l : List Nt) : List Value := l.flatMap ntv
structure Rn where
  me : Nat
  n : Nat
  known : List Ep
  over : List Ep
  notes : List Nt
  needs : Bool
structure Rm extends Rn where
  cb : Nat
  kq : Sl
  oq : Sl
  nq : Sl
def rmC (r : Rm) : List Value := [.int .i64 (r.me : Int), .int .i64 (r.n : Int), .slice r.kq.a r.kq.len r.kq.cap, .slice r.oq.a r.oq.len r.oq.cap, .slice r.nq.a r.nq.len r.nq.cap, .bool r.needs]
def rmE (r : Rm) : List Ent := [.cel r.cb 111 (rmC r), .row 54 2 r.kq (eps r.known), .row 54 2 r.oq (eps r.over), .row 118 4 r.nq (nts r.notes)]
abbrev Rm.p (r : Rm) : Option Addr := some ⟨r.cb, 0, none⟩
structure Rn.wf (r : Rn) (N : Nat) : Prop where
  n : 2 ≤ r.n ∧ r.n ≤ 16
  me : r.me < r.n
  kl : r.known.length ≤ N
  ol : r.over.length ≤ N
  nl : r.notes.length ≤ N
  nb : ∀ x ∈ r.notes, 0 ≤ x.2.1 ∧ x.2.1 ≤ 1099511627776
theorem Rn.wf.mono {r : Rn} {N M : Nat} (h : r.wf N) (hm : N ≤ M) : r.wf M := ⟨h.n, h.me, by have := h.kl; omega, by have := h.ol; omega, by have := h.nl; omega, h.nb⟩
def grV (l : List Ep) (k : Int) : Int := l.foldl (fun n x => if x.2 = k ∧ x.1 > n then x.1 else n) 0
theorem grV_snoc (l : List Ep) (x : Ep) (k : Int) : grV (l ++ [x]) k = if x.2 = k ∧ x.1 > grV l k then x.1 else grV l k := by rw [grV, List.foldl_append]; rfl
theorem greatest_st {s : Sl} {l : List Ep} (h : Rd w s 2 (eps l)) (hl : l.length ≤ 1000000000) (k : Int) : CallK Try.prog (.int .i64) 60 #[.slice s.a s.len s.cap, .int .i64 k] w fun (v : Int) w' => v = grV l k ∧ w' = w := by
  have hsl : s.len = l.length := by have := h.1; rw [flat_len epv_len] at this; omega
  refine T60.calls ?_
  unfold T60
  refine LoopX.mk (fun st w' => ∃ (m : Nat), st = (grV (l.take m) k, (m : Int), ()) ∧ m ≤ l.length ∧ w' = w) (fun st => ((l.length : Int) - st.2.1).toNat) ⟨0, rfl, Nat.zero_le _, rfl⟩ ?_
  rintro _ w1 ⟨m, rfl, hm, rfl⟩ kk hk
  dsimp only at hk ⊢
  rw [SplitB_iff]
  refine ⟨fun hc => ?_, fun hc => ?_⟩
  · have hc : m < l.length := by have : (m : Int) < (s.len : Int) := of_decide_eq_true hc; omega
    have hem : IntKind.i64.wrap ((m : Int) + 1) = ((m + 1 : Nat) : Int) := by rw [wr (by omega)]; omega
    rw [hem]
    have hs := grV_snoc (l.take m) l[m] k
    rw [← List.take_succ_eq_append_getElem hc] at hs
    refine JoinX.mk (fun (y : Int × Unit) w' => y.1 = grV (l.take (m + 1)) k ∧ w' = w1) ?_ ?_
    · rintro ⟨y, ⟨⟩⟩ w2 ⟨hy, rfl⟩
      dsimp only at hy
      subst hy
      exact hk _ _ ⟨m + 1, rfl, by omega, rfl⟩ (by dsimp only; omega)
    · intro k3 hk3
      have e0 : ∀ (b o : Nat), ((⟨b, o + m * 2, none⟩ : Addr).add 0) = ⟨b, o + (m * 2 + 0), none⟩ := fun b o => by rw [add_lit']; rfl
      have e1 : ∀ (b o : Nat), ((⟨b, o + m * 2, none⟩ : Addr).add 1) = ⟨b, o + (m * 2 + 1), none⟩ := fun b o => by rw [add_lit']; rfl
      refine JoinX.mk (fun (y : Bool × Unit) w' => y.1 = decide (l[m].2 = k ∧ l[m].1 > grV (l.take m) k) ∧ w' = w1) ?_ ?_
      · rintro ⟨y, ⟨⟩⟩ w2 ⟨hy, rfl⟩
        dsimp only at hy
        subst hy
        rw [SplitB_iff]
        refine ⟨fun hd => ?_, fun hd => ?_⟩
        · have hd := of_decide_eq_true hd
          rw [if_pos hd] at hs
          refine h.idxK m rfl (by omega) ?_
          intro g o ha
          refine h.el ha (m * 2 + 0) (e0 g o) (kd := .int .i64) (x := l[m].1) (flat_cell epv_len hc 0 (by decide)) ?_
          exact hk3 _ _ ⟨hs.symm, rfl⟩
        · have hd := of_decide_eq_false hd
          rw [if_neg hd] at hs
          exact hk3 _ _ ⟨hs.symm, rfl⟩
      · intro k5 hk5
        refine h.idxK m rfl (by omega) ?_
        intro g o ha
        refine h.el ha (m * 2 + 1) (e1 g o) (kd := .int .i64) (x := l[m].2) (flat_cell epv_len hc 1 (by decide)) ?_
        rw [SplitB_iff]
        refine ⟨fun hd => ?_, fun hd => ?_⟩
        · have hd : l[m].2 = k := by simpa using hd
          refine h.idxK m rfl (by omega) ?_
          intro g o ha
          refine h.el ha (m * 2 + 0) (e0 g o) (kd := .int .i64) (x := l[m].1) (flat_cell epv_len hc 0 (by decide)) ?_
          exact hk5 _ _ ⟨by simp [hd], rfl⟩
        · have hd : ¬ l[m].2 = k := by simpa using hd
          exact hk5 _ _ ⟨by simp [hd], rfl⟩
  · have hc : m = l.length := by have : ¬ (m : Int) < (s.len : Int) := of_decide_eq_false hc; omega
    subst hc
    rw [List.take_length]
    exact ⟨rfl, rfl⟩
/-! ### what lives -/
def Rn.lv (r : Rn) (i : Nat) : Bool := decide (grV r.known (i : Int) > grV r.over (i : Int))
def Rn.livesTo (r : Rn) (m : Nat) : List Ep := ((List.range m).filter r.lv).map fun (i : Nat) => (grV r.known (i : Int), (i : Int))
def Rn.lives (r : Rn) : List Ep := r.livesTo r.n
def Rn.top (r : Rn) : Ep := topE r.lives
def Rn.own (r : Rn) : Ep := (r.lives.find? fun x => x.2 == (r.me : Int)).getD (0, 0)
theorem rlivesTo_succ (r : Rn) (m : Nat) : r.livesTo (m + 1) = r.livesTo m ++ (if r.lv m = true then [(grV r.known (m : Int), (m : Int))] else []) := by
  rw [Rn.livesTo, List.range_succ, List.filter_append, List.map_append, Rn.livesTo]
  congr 1
  rw [List.filter_cons, List.filter_nil]
  split <;> simp
theorem rlivesTo_len (r : Rn) (m : Nat) : (r.livesTo m).length ≤ m := by
  rw [Rn.livesTo, List.length_map]
  exact Nat.le_trans (List.length_filter_le _ _) (by simp)
theorem rlives_st {r : Rm} {N : Nat} (h : St w0 w (rmE r :: F)) (hw : r.wf N) (hN : N ≤ 1000000000) : CallK Try.prog .sl 57 #[.pointer r.p] w
    fun (s : Sl) w' => s.len = r.lives.length ∧ St w0 w' ([.row 54 2 s (eps r.lives)] :: rmE r :: F) := by
  refine T57.calls ?_
  unfold T57
  have hn := hw.n
  have h := h.nilrow 54 2
  refine LoopX.mk (fun st w' => ∃ (s : Sl) (m : Nat), st = (s, (m : Int), ()) ∧ m ≤ r.n ∧ s.len = (r.livesTo m).length ∧ St w0 w' ([.row 54 2 s (eps (r.livesTo m))] :: rmE r :: F)) (fun st => ((r.n : Int) - st.2.1).toNat) ⟨_, 0, rfl, Nat.zero_le _, rfl, h⟩ ?_
  clear h
  rintro _ w1 ⟨s, m, rfl, hm, hs, h⟩ k hk
  dsimp only at hk ⊢
  refine NilP.mk ?_
  refine h.loadB 1 0 ⟨_, rfl, rfl⟩ rfl rfl ?_
  rw [SplitB_iff]
  refine ⟨fun hc => ?_, fun hc => ?_⟩
  · have hc : m < r.n := by have : (m : Int) < (r.n : Int) := of_decide_eq_true hc; omega
    have hem : IntKind.i64.wrap ((m : Int) + 1) = ((m + 1 : Nat) : Int) := by rw [wr (by omega)]; omega
    rw [hem]
    have hll := rlivesTo_len r.toRn m
    have e3 := rlivesTo_succ r.toRn m
    refine JoinX.mk (fun (y : Sl × Unit) w' => y.1.len = (r.livesTo (m + 1)).length ∧ St w0 w' ([.row 54 2 y.1 (eps (r.livesTo (m + 1)))] :: rmE r :: F)) ?_ ?_
    · rintro ⟨y, ⟨⟩⟩ w2 ⟨hy, h⟩
      exact hk _ _ ⟨y, m + 1, rfl, by omega, hy, h⟩ (by dsimp only; omega)
    · intro k3 hk3
      refine NilP.mk ?_
      refine h.loadB 1 0 ⟨_, rfl, rfl⟩ rfl (kd := .sl) (x := r.kq) rfl ?_
      refine (greatest_st (h.rd (k := 1) (i := 1) (E := 54) (sz := 2) (s := r.kq) (vs := eps r.known) ⟨_, rfl, rfl⟩) (by have := hw.kl; omega) _).mono ?_
      rintro _ w2 ⟨rfl, rfl⟩
      refine NilP.mk ?_
      refine h.loadB 1 0 ⟨_, rfl, rfl⟩ rfl (kd := .sl) (x := r.oq) rfl ?_
      refine (greatest_st (h.rd (k := 1) (i := 2) (E := 54) (sz := 2) (s := r.oq) (vs := eps r.over) ⟨_, rfl, rfl⟩) (by have := hw.ol; omega) _).mono ?_
      rintro _ w3 ⟨rfl, rfl⟩
      rw [SplitB_iff]
      refine ⟨fun hl => ?_, fun hl => ?_⟩
      · have hl : r.lv m = true := hl
        rw [if_pos hl] at e3
        refine h.newS 2 (bs78 _ _ _) rfl rfl rfl ?_
        intro u w3 hu1 hu2 _ h
        refine h.app 1 0 ⟨_, rfl, rfl⟩ (h.rd (k := 0) (i := 0) ⟨_, rfl, rfl⟩) (fun v hv => ?_) (by simp only [maxLen]; omega) (by omega) ?_
        · simp at hv; rcases hv with rfl | rfl <;> rfl
        intro s' w4 hl' h
        have h := h.drop 0
        refine hk3 _ _ ⟨?_, ?_⟩
        · rw [e3]; dsimp only; rw [hl', hs, hu1]; simp
        · rw [e3, eps, List.flatMap_append]; exact h
      · have hl : ¬ r.lv m = true := by rw [show r.lv m = false from hl]; decide
        rw [if_neg hl, List.append_nil] at e3
        refine hk3 _ _ ⟨?_, ?_⟩
        · rw [e3]; exact hs
        · rw [e3]; exact h
  · have hc : m = r.n := by have : ¬ (m : Int) < (r.n : Int) := of_decide_eq_false hc; omega
    subst hc
    exact ⟨hs, h⟩
theorem rtop_st {r : Rm} {N : Nat} (h : St w0 w (rmE r :: F)) (hw : r.wf N) (hN : N ≤ 1000000000) : CallK Try.prog (.agg (.cons (.int .i64) (.cons (.int .i64) .nilT))) 63 #[.pointer r.p] w
    fun (v : Int × Int × Unit) w' => v = (r.top.1, r.top.2, ()) ∧ St w0 w' (rmE r :: F) := by
  refine T63.calls ?_
  unfold T63
  first | refine h.newB (NewC.run _) rfl ?_ | refine h.drew.newB (NewC.run _) rfl ?_
  intro b2 w h
  have h := h.ord 2 [1, 0]
  dsimp only [pick, nthO, dropO] at h
  first | refine h.newB (NewC.run _) rfl ?_ | refine h.drew.newB (NewC.run _) rfl ?_
  intro b1 w h
  have h := h.ord 2 [1, 0]
  dsimp only [pick, nthO, dropO] at h
  refine (rlives_st h hw hN).mono ?_
  rintro s w1 ⟨hs, h⟩
  have hll : r.lives.length ≤ r.n := rlivesTo_len r.toRn r.n
  have hn := hw.n
  refine LoopX.mk (fun st w' => ∃ (m : Nat), st = ((m : Int), ()) ∧ m ≤ r.lives.length ∧ St w0 w' ([.row 54 2 s (eps r.lives)] :: rmE r :: [.cel b1 54 (epv (topE (r.lives.take m)))] :: [.cel b2 54 [.int .i64 0, .int .i64 0]] :: F)) (fun st => ((r.lives.length : Int) - st.1).toNat) ⟨0, rfl, Nat.zero_le _, h⟩ ?_
  clear h
  rintro _ w2 ⟨m, rfl, hm, h⟩ k hk
  dsimp only at hk ⊢
  rw [hs]
  rw [SplitB_iff]
  refine ⟨fun hc => ?_, fun hc => ?_⟩
  · have hc : m < r.lives.length := by have : (m : Int) < (r.lives.length : Int) := of_decide_eq_true hc; omega
    have hem : IntKind.i64.wrap ((m : Int) + 1) = ((m + 1 : Nat) : Int) := by rw [wr (by omega)]; omega
    rw [hem, ← hs]
    have et := topE_snoc (r.lives.take m) r.lives[m]
    rw [← List.take_succ_eq_append_getElem hc] at et
    refine JoinX.mk (fun (_ : Unit) w' => St w0 w' ([.row 54 2 s (eps r.lives)] :: rmE r :: [.cel b1 54 (epv (topE (r.lives.take (m + 1))))] :: [.cel b2 54 [.int .i64 0, .int .i64 0]] :: F)) ?_ ?_
    · rintro ⟨⟩ w3 h
      exact hk _ _ ⟨m + 1, rfl, by omega, h⟩ (by dsimp only; omega)
    · intro k3 hk3
      have hrr := h.drew.rd (k := 0) (i := 0) (E := 54) (sz := 2) (s := s) (vs := eps r.lives) ⟨_, rfl, rfl⟩
      refine hrr.idxR m rfl (by omega) ?_
      intro g o ha
      refine hrr.elR ha (m * 2 + 0) (by rw [add_lit']; rfl) (kd := .int .i64) (x := r.lives[m].1) (flat_cell epv_len hc 0 (by decide)) ?_
      have h : St w0 w2 ([.row 54 2 s (eps r.lives)] :: rmE r :: [.cel b1 54 [.int .i64 (topE (r.lives.take m)).1, .int .i64 (topE (r.lives.take m)).2]] :: [.cel b2 54 [.int .i64 0, .int .i64 0]] :: F) := h
      refine h.drew.readB 2 0 ⟨_, rfl, rfl⟩ rfl rfl ?_
      rw [SplitB_iff]
      refine ⟨fun hd => ?_, fun hd => ?_⟩
      · have hd : r.lives[m].1 ≥ (topE (r.lives.take m)).1 := of_decide_eq_true hd
        rw [if_pos hd] at et
        refine hrr.idxK m rfl (by omega) ?_
        intro g o ha
        refine Rd.el2 hrr ha hc ?_
        refine h.drew.stor2 2 0 ⟨_, rfl, rfl⟩ rfl ?_
        intro w h
        dsimp only [updG, setO] at h
        refine hk3 _ _ ?_
        rw [et]; exact h
      · have hd : ¬ r.lives[m].1 ≥ (topE (r.lives.take m)).1 := of_decide_eq_false hd
        rw [if_neg hd] at et
        refine hk3 _ _ ?_
        rw [et]; exact h.drew
  · have hc : m = r.lives.length := by have : ¬ (m : Int) < (r.lives.length : Int) := of_decide_eq_false hc; omega
    subst hc
    rw [List.take_length] at h
    have h : St w0 w2 ([.row 54 2 s (eps r.lives)] :: rmE r :: [.cel b1 54 [.int .i64 (topE r.lives).1, .int .i64 (topE r.lives).2]] :: [.cel b2 54 [.int .i64 0, .int .i64 0]] :: F) := h
    refine h.load2 2 0 ⟨_, rfl, rfl⟩ rfl ?_
    refine h.stor2 3 0 ⟨_, rfl, rfl⟩ rfl ?_
    intro w h
    dsimp only [updG, setO] at h
    refine h.read2 3 0 ⟨_, rfl, rfl⟩ rfl ?_
    exact ⟨rfl, ((h.drop 0).drop 1).drop 1⟩
theorem rown_st {r : Rm} {N : Nat} (h : St w0 w (rmE r :: F)) (hw : r.wf N) (hN : N ≤ 1000000000) : CallK Try.prog (.agg (.cons (.int .i64) (.cons (.int .i64) .nilT))) 30 #[.pointer r.p] w
    fun (v : Int × Int × Unit) w' => v = (r.own.1, r.own.2, ()) ∧ St w0 w' (rmE r :: F) := by
  refine T30.calls ?_
  unfold T30
  first | refine h.newB (NewC.run _) rfl ?_ | refine h.drew.newB (NewC.run _) rfl ?_
  intro b2 w h
  have h := h.ord 2 [1, 0]
  dsimp only [pick, nthO, dropO] at h
  refine (rlives_st h hw hN).mono ?_
  rintro s w1 ⟨hs, h⟩
  have hll : r.lives.length ≤ r.n := rlivesTo_len r.toRn r.n
  have hn := hw.n
  refine LoopX.mk (fun st w' => ∃ (m : Nat), st = ((m : Int), ()) ∧ m ≤ r.lives.length ∧ (∀ j (hj : j < r.lives.length), j < m → r.lives[j].2 ≠ (r.me : Int)) ∧ St w0 w' ([.row 54 2 s (eps r.lives)] :: rmE r :: [.cel b2 54 [.int .i64 0, .int .i64 0]] :: F)) (fun st => ((r.lives.length : Int) - st.1).toNat) ⟨0, rfl, Nat.zero_le _, fun j _ hj => by omega, h⟩ ?_
  clear h
  rintro _ w2 ⟨m, rfl, hm, hno, h⟩ k hk
  dsimp only at hk ⊢
  rw [hs]
  rw [SplitB_iff]
  refine ⟨fun hc => ?_, fun hc => ?_⟩
  · have hc : m < r.lives.length := by have : (m : Int) < (r.lives.length : Int) := of_decide_eq_true hc; omega
    have hem : IntKind.i64.wrap ((m : Int) + 1) = ((m + 1 : Nat) : Int) := by rw [wr (by omega)]; omega
    rw [hem, ← hs]
    have hrr := h.drew.rd (k := 0) (i := 0) (E := 54) (sz := 2) (s := s) (vs := eps r.lives) ⟨_, rfl, rfl⟩
    refine hrr.idxR m rfl (by omega) ?_
    intro g o ha
    refine hrr.elR ha (m * 2 + 1) (by rw [add_lit']; rfl) (kd := .int .i64) (x := r.lives[m].2) (flat_cell epv_len hc 1 (by decide)) ?_
    refine NilP.mk ?_
    refine h.drew.readB 1 0 ⟨_, rfl, rfl⟩ rfl rfl ?_
    rw [SplitB_iff]
    refine ⟨fun hd => ?_, fun hd => ?_⟩
    · have hd : r.lives[m].2 = (r.me : Int) := by simpa using hd
      refine hrr.idxK m rfl (by omega) ?_
      intro g o ha
      refine Rd.el2 hrr ha hc ?_
      refine h.drew.stor2 2 0 ⟨_, rfl, rfl⟩ rfl ?_
      intro w h
      dsimp only [updG, setO] at h
      refine h.read2 2 0 ⟨_, rfl, rfl⟩ rfl ?_
      have hf : r.lives.find? (fun x => x.2 == (r.me : Int)) = some r.lives[m] := by
        rw [List.find?_eq_some_iff_getElem]
        exact ⟨by simpa using hd, m, hc, rfl, fun j hj => by simpa using hno j (by omega) hj⟩
      refine ⟨?_, (h.drop 0).drop 1⟩
      rw [Rn.own, hf]; rfl
    · have hd : ¬ r.lives[m].2 = (r.me : Int) := by simpa using hd
      refine hk _ _ ⟨m + 1, rfl, by omega, fun j hj hjm => ?_, h.drew⟩ (by dsimp only; omega)
      rcases Nat.lt_or_ge j m with h1 | h1
      · exact hno j hj h1
      · have : j = m := by omega
        subst this; exact hd
  · have hc : m = r.lives.length := by have : ¬ (m : Int) < (r.lives.length : Int) := of_decide_eq_false hc; omega
    refine h.stor2 2 0 ⟨_, rfl, rfl⟩ rfl ?_
    intro w h
    dsimp only [updG, setO] at h
    refine h.read2 2 0 ⟨_, rfl, rfl⟩ rfl ?_
    have hf : r.lives.find? (fun x => x.2 == (r.me : Int)) = none := by
      rw [List.find?_eq_none]
      intro x hx
      obtain ⟨j, hj, rfl⟩ := List.mem_iff_getElem.1 hx
      simpa using hno j hj (by omega)
    refine ⟨?_, (h.drop 0).drop 1⟩
    rw [Rn.own, hf]; rfl
theorem rfrozen_st {r : Rm} {N : Nat} (h : St w0 w (rmE r :: F)) (hw : r.wf N) (hN : N ≤ 1000000000) : CallK Try.prog .bool 59 #[.pointer r.p] w fun (v : Bool) w' => v = decide (r.lives.length > 0) ∧ St w0 w' (rmE r :: F) := by
  refine T59.calls ?_
  unfold T59
  refine (rlives_st h hw hN).mono ?_
  rintro s w1 ⟨hs, h⟩
  refine ⟨?_, h.drop 0⟩
  rw [hs]
  exact Bool.eq_iff_iff.2 (by simp)
/-! ### reports -/
def isN (own : Ep) (k : Int) (x : Nt) : Bool := x.1 == k && (x.2.2.1 == own.1 && x.2.2.2 == own.2)
def repV (l : List Nt) (own : Ep) (k : Int) : Option Int := if own.1 > 0 then ((l.filter (isN own k)).getLast?).map (·.2.1) else none
def Rn.rep (r : Rn) (k : Int) : Option Int := repV r.notes r.own k
theorem last_filter {α : Type} {l : List α} {p : α → Bool} {m : Nat} (hm : m < l.length) (hp : p l[m] = true) (hno : ∀ j (hj : j < l.length), m < j → p l[j] = false) : (l.filter p).getLast? = some l[m] := by
  have e1 : l = l.take m ++ l[m] :: l.drop (m + 1) := by rw [← List.drop_eq_getElem_cons hm, List.take_append_drop]
  have e2 : (l.drop (m + 1)).filter p = [] := by
    rw [List.filter_eq_nil_iff]
    intro x hx
    obtain ⟨j, hj, rfl⟩ := List.mem_iff_getElem.1 hx
    rw [List.getElem_drop, hno _ _ (by omega)]; decide
  conv => lhs; rw [e1]
  rw [List.filter_append, List.filter_cons, if_pos hp, e2]
  simp
theorem rep_st {r : Rm} {N : Nat} (h : St w0 w (rmE r :: F)) (hw : r.wf N) (hN : N ≤ 1000000000) (k : Int) : CallK Try.prog (.tup (.cons (.int .i64) (.cons .bool .nilT))) 76 #[.pointer r.p, .int .i64 k] w
    fun (v : Int × Bool × Unit) w' => v = ((r.rep k).getD 0, (r.rep k).isSome, ()) ∧ St w0 w' (rmE r :: F) := by
  refine T76.calls ?_
  unfold T76
  refine (rown_st h hw hN).mono ?_
  rintro _ w1 ⟨rfl, h⟩
  first | refine h.newB (NewC.run _) rfl ?_ | refine h.drew.newB (NewC.run _) rfl ?_
  intro b6 w h
  have h := h.ord 2 [1, 0]
  dsimp only [pick, nthO, dropO] at h
  refine h.stor2 1 0 ⟨_, rfl, rfl⟩ rfl ?_
  intro w2 h
  dsimp only [updG, setO] at h
  refine NilP.mk ?_
  refine h.loadB 0 0 ⟨_, rfl, rfl⟩ rfl (kd := .sl) (x := r.nq) rfl ?_
  have hnl := hw.nl
  have hql : r.nq.len = r.notes.length := by have := (h.rd (k := 0) (i := 3) (E := 118) (sz := 4) (s := r.nq) (vs := nts r.notes) ⟨_, rfl, rfl⟩).1; rw [flat_len ntv_len] at this; omega
  have e0 : IntKind.i64.wrap ((r.nq.len : Int) - 1) = (r.notes.length : Int) - 1 := by rw [wr (by omega)]; omega
  rw [e0]
  refine LoopX.mk (fun st w' => ∃ (m : Nat), st = ((m : Int) - 1, ()) ∧ m ≤ r.notes.length ∧ (r.own.1 > 0 → ∀ j (hj : j < r.notes.length), m ≤ j → isN r.own k r.notes[j] = false) ∧ St w0 w' (rmE r :: [.cel b6 54 [.int .i64 r.own.1, .int .i64 r.own.2]] :: F)) (fun st => (st.1 + 1).toNat) ⟨r.notes.length, rfl, Nat.le_refl _, fun _ j hj h => by omega, h⟩ ?_
  clear h
  rintro _ w3 ⟨m, rfl, hm, hno, h⟩ kk hk
  dsimp only at hk ⊢
  rw [SplitB_iff]
  refine ⟨fun hc => ?_, fun hc => ?_⟩
  · obtain ⟨i, rfl⟩ : ∃ i, m = i + 1 := ⟨m - 1, by have : (m : Int) - 1 ≥ 0 := of_decide_eq_true hc; omega⟩
    have hi : i < r.notes.length := by omega
    have ei : ((i + 1 : Nat) : Int) - 1 = (i : Int) := by omega
    have ew : IntKind.i64.wrap ((i : Int) - 1) = (i : Int) - 1 := wr (by omega)
    rw [ei, ew]
    rw [ei] at hk
    have hrd : ∀ {w' : World}, St w0 w' (rmE r :: [.cel b6 54 [.int .i64 r.own.1, .int .i64 r.own.2]] :: F) → Rd w' r.nq 4 (nts r.notes) := fun h => h.rd (k := 0) (i := 3) (E := 118) (sz := 4) (s := r.nq) (vs := nts r.notes) ⟨_, rfl, rfl⟩
    refine JoinX.mk (fun (y : Bool × Unit) w' => y.1 = (isN r.own k r.notes[i] && decide (r.own.1 > 0)) ∧ St w0 w' (rmE r :: [.cel b6 54 [.int .i64 r.own.1, .int .i64 r.own.2]] :: F)) ?_ ?_
    · rintro ⟨y, ⟨⟩⟩ w4 ⟨hy, h⟩
      dsimp only at hy
      subst hy
      rw [SplitB_iff]
      refine ⟨fun hd => ?_, fun hd => ?_⟩
      · have hd2 : isN r.own k r.notes[i] = true ∧ r.own.1 > 0 := by
          rw [Bool.and_eq_true] at hd; exact ⟨hd.1, of_decide_eq_true hd.2⟩
        refine NilP.mk ?_
        refine h.loadB 0 0 ⟨_, rfl, rfl⟩ rfl (kd := .sl) (x := r.nq) rfl ?_
        refine (hrd h).idxK i rfl (by omega) ?_
        intro g o ha
        refine (hrd h).el ha (i * 4 + 1) (by rw [add_lit']; rfl) (kd := .int .i64) (x := r.notes[i].2.1) (flat_cell ntv_len hi 1 (by decide)) ?_
        have hr : r.rep k = some r.notes[i].2.1 := by
          rw [Rn.rep, repV, if_pos hd2.2, last_filter hi hd2.1 fun j hj hj2 => hno hd2.2 j hj (by omega)]; rfl
        exact ⟨by rw [hr]; rfl, h.drop 1⟩
      · refine hk _ _ ⟨i, rfl, by omega, fun h0 j hj hj2 => ?_, h⟩ (by dsimp only; omega)
        rcases Nat.lt_or_ge i j with h1 | h1
        · exact hno h0 j hj (by omega)
        · have : j = i := by omega
          subst this
          rw [decide_eq_true h0, Bool.and_true] at hd
          exact hd
    · intro k3 hk3
      refine NilP.mk ?_
      refine h.drew.readB 0 0 ⟨_, rfl, rfl⟩ rfl (kd := .sl) (x := r.nq) rfl ?_
      refine (hrd h.drew).idxR i rfl (by omega) ?_
      intro g o ha
      refine (hrd h.drew).elR ha (i * 4 + 0) (by rw [add_lit']; rfl) (kd := .int .i64) (x := r.notes[i].1) (flat_cell ntv_len hi 0 (by decide)) ?_
      rw [SplitB_iff]
      refine ⟨fun hd => ?_, fun hd => ?_⟩
      · have hd : (r.notes[i].1 == k) = true := hd
        refine NilP.mk ?_
        refine h.drew.readB 0 0 ⟨_, rfl, rfl⟩ rfl (kd := .sl) (x := r.nq) rfl ?_
        refine (hrd h.drew).idxR i rfl (by omega) ?_
        intro g o ha
        refine (hrd h.drew).elAR ha (i * 4 + 2) (by rw [add_lit']; rfl) (kd := Kd2) (r.notes[i].2.2.1, r.notes[i].2.2.2, ()) (flat_part ntv_len hi 2 2 (by decide)) ?_
        refine h.drew.read2 1 0 ⟨_, rfl, rfl⟩ rfl ?_
        refine ReadN.k2Eq ?_
        rw [SplitB_iff]
        refine ⟨fun hf => ?_, fun hf => ?_⟩
        · have hf : (r.notes[i].2.2.1 == r.own.1 && r.notes[i].2.2.2 == r.own.2) = true := hf
          refine h.drew.readB 1 0 ⟨_, rfl, rfl⟩ rfl rfl ?_
          exact hk3 _ _ ⟨by dsimp only; rw [isN, hd, hf]; rfl, h.drew⟩
        · have hf : (r.notes[i].2.2.1 == r.own.1 && r.notes[i].2.2.2 == r.own.2) = false := hf
          exact hk3 _ _ ⟨by dsimp only; rw [isN, hd, hf]; rfl, h.drew⟩
      · have hd : (r.notes[i].1 == k) = false := hd
        exact hk3 _ _ ⟨by dsimp only; rw [isN, hd]; rfl, h.drew⟩
  · have hc : m = 0 := by have : ¬ (m : Int) - 1 ≥ 0 := of_decide_eq_false hc; omega
    have hr : r.rep k = none := by
      rw [Rn.rep, repV]
      split
      · rename_i h0
        have : r.notes.filter (isN r.own k) = [] := by
          rw [List.filter_eq_nil_iff]
          intro x hx
          obtain ⟨j, hj, rfl⟩ := List.mem_iff_getElem.1 hx
          rw [hno h0 j hj (by omega)]; decide
        rw [this]; rfl
      · rfl
    exact ⟨by rw [hr]; rfl, h.drop 1⟩
end Go.Proofs.Ytmfbmfppjdkeeaa
