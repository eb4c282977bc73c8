/- Pairs of images. -/
import Derived.Test.YtpdaoahamgegoaaDkZb
namespace Go.Proofs.Ytpdaoahamgegoaa
open Go Go.Fw Go.RowKit
set_option linter.unusedVariables false
set_option linter.unusedSimpArgs false
set_option maxRecDepth 4000
set_option maxHeartbeats 4000000
variable {w0 w : World} {F G : Grps} {p : Q} {N : Nat} {d : D}

theorem chunks (m : Nat) : ∀ (l : List UInt8), l.length = 512 * m → ∃ ls : List (List UInt8), l = ls.flatten ∧ (∀ x ∈ ls, x.length = 512) ∧ ls.length = m := by
  induction m with
  | zero => intro l hl; exact ⟨[], by simpa using List.length_eq_zero_iff.1 hl, (fun x hx => by cases hx), rfl⟩
  | succ m ih =>
    intro l hl
    obtain ⟨ls, h1, h2, h3⟩ := ih (l.drop 512) (by rw [List.length_drop]; omega)
    refine ⟨l.take 512 :: ls, by rw [List.flatten_cons, ← h1, List.take_append_drop], fun x hx => ?_, by simp [h3]⟩
    rcases List.mem_cons.1 hx with rfl | hx
    · rw [List.length_take]; omega
    · exact h2 x hx
section
variable {t : TypeId} [PtE Try.prog t] {x y : Operand} {K : Bool → Prop}
theorem rEqS {a : Addr} (h : K false) : ReadN Try.prog .bool (V (do eqGuard .eql t x y (.pointer (some a)) (.pointer none); binOp .eql t (.pointer (some a)) (.pointer none))) w K := ReadN.of (kd := .bool) (PtE.eqS w x y a) h
theorem rEqN (h : K true) : ReadN Try.prog .bool (V (do eqGuard .eql t x y (.pointer none) (.pointer none); binOp .eql t (.pointer none) (.pointer none))) w K := ReadN.of (kd := .bool) (PtE.eqN w x y) h
theorem rNeS {a : Addr} (h : K true) : ReadN Try.prog .bool (V (do eqGuard .neq t x y (.pointer (some a)) (.pointer none); binOp .neq t (.pointer (some a)) (.pointer none))) w K := ReadN.of (kd := .bool) (PtE.neS w x y a) h
theorem rNeN (h : K false) : ReadN Try.prog .bool (V (do eqGuard .neq t x y (.pointer none) (.pointer none); binOp .neq t (.pointer none) (.pointer none))) w K := ReadN.of (kd := .bool) (PtE.neN w x y) h
end
theorem taken_st (h : St w0 w F) {p : Sl} {l : List UInt8} (hp : SeesG w0 F p 1 (bys l)) (hl : l.length ≤ 4194304) : CallK Try.prog (.tup (.cons .ptr (.cons .bool .nilT))) 33 #[.slice p.a p.len p.cap] w fun (x : Option Addr × Bool × Unit) w' =>
    x = (none, true, ()) ∧ St w0 w' F ∨ ∃ b d r, x = (some ⟨b, 0, none⟩, true, ()) ∧ POk 0 (q0 b d r) ∧ d.off = false ∧ d.wr = 0 ∧ St w0 w' (gs (q0 b d r) F) := by
  have hpl := (hp _ h).bys_len
  refine T33.calls ?_
  unfold T33
  refine (lend_st h hp (by omega)).mono ?_
  rintro c w ⟨hcl, h⟩
  have hcc := (h.rd (k := 0) (i := 0) ⟨_, rfl, rfl⟩).2.2
  refine RunN.sH (s := c) l.length (by rw [hpl]) (by omega) ?_
  have hsub : ∀ (l' : List UInt8) (w : World), l'.length = l.length + 40 → Rd w c 1 (bys l') → Rd w (subS c 0 l.length 1) 1 (bys (l'.take l.length)) := fun l' w hl' hr => by
    have := hr.pre (hi := l.length) (by omega)
    rw [Nat.mul_one] at this
    simpa [bys, List.map_take] using this
  have hmk : (l ++ mks).length = l.length + 40 := by rw [List.length_append, mks_len]
  have htk : (l ++ mks).take l.length = l := by rw [List.take_append_of_le_length (Nat.le_refl _), List.take_of_length_le (Nat.le_refl _)]
  have hsl : (subS c 0 l.length 1).len = l.length := by simp [subS]
  by_cases hg : l.length % 512 = 0 ∧ 1 ≤ l.length / 512 ∧ l.length / 512 ≤ 65536
  · obtain ⟨hg0, hg1, hg2⟩ := hg
    obtain ⟨ls, hls, h5, hlm⟩ := chunks (l.length / 512) l (by omega)
    refine (from_st h (p := subS c 0 l.length 1) (ls := ls) (fun w h => ?_) h5 (by omega) (by omega)).mono ?_
    · have := hsub _ w hmk (h.rd (k := 0) (i := 0) ⟨_, rfl, rfl⟩)
      rw [htk] at this; rw [← hls]; exact this
    rintro x w ⟨d, rfl, okd, hda, h⟩
    refine (rfrom_st h (p := p) (ls := ls) (fun w h => by rw [← hls]; exact hp w (tl 2 h)) h5 (by omega) (by omega)).mono ?_
    rintro x w ⟨b2, s2, rfl, h⟩
    have h := h.bring 2 rfl
    dsimp only [delO] at h
    refine (kept_st h (hp _ (tl 3 h)) (by omega)).mono ?_
    rintro x w ⟨rfl, l', hl', h⟩
    refine JoinX.mk (fun j w' => j.1 = false ∧ St w0 w' ([.row 5 1 c (bys l')] :: rg (rof b2 s2 ls) :: dg d :: F)) ?_ ?_
    · rintro ⟨_, ⟨⟩⟩ w ⟨hj, h⟩
      dsimp only at hj h ⊢
      subst hj
      rw [SplitB_iff]
      refine ⟨(fun hz => by cases hz), fun _ => ?_⟩
      refine RunN.sH (s := c) l.length (by rw [hpl]) (by omega) ?_
      obtain ⟨ls', hls', h5', hlm'⟩ := chunks (l.length / 512) (l'.take l.length) (by rw [List.length_take]; omega)
      refine (from_st h (p := subS c 0 l.length 1) (ls := ls') (fun w h => ?_) h5' (by omega) (by omega)).mono ?_
      · rw [← hls']; exact hsub _ w hl' (h.rd (k := 0) (i := 0) ⟨_, rfl, rfl⟩)
      rintro x w ⟨d2, rfl, okd2, hda2, h⟩
      refine JoinX.mk (fun j w' => j.1 = false ∧ St w0 w' (dg d2 :: [.row 5 1 c (bys l')] :: rg (rof b2 s2 ls) :: dg d :: F)) ?_ ?_
      · rintro ⟨_, ⟨⟩⟩ w ⟨hj, h⟩
        dsimp only at hj h ⊢
        subst hj
        rw [SplitB_iff]
        refine ⟨(fun hz => by cases hz), fun _ => ?_⟩
        refine JoinX.mk (fun j w' => j.1 = false ∧ St w0 w' (rg (rof b2 s2 ls) :: dg d :: F)) ?_ ?_
        · rintro ⟨_, ⟨⟩⟩ w ⟨hj, h⟩
          dsimp only at hj h ⊢
          subst hj
          rw [SplitB_iff]
          refine ⟨(fun hz => by cases hz), fun _ => ?_⟩
          have h := h.bring 1 rfl
          dsimp only [delO] at h
          refine h.newB run_boxA (by rfl) ?_
          intro b w h
          exact .inr ⟨b, _, _, rfl, q0_ok okd (rof_ok _ _ h5 (by omega) (by omega)) (rel_from hda _ _) rfl, congrArg A.off hda, congrArg A.wr hda, q0_st h⟩
        · intro k5 hk5
          first | refine RunN.pEqS ?_ | refine RunN.pEqN ?_ | refine RunN.pNeS ?_ | refine RunN.pNeN ?_
          rw [SplitB_iff]
          refine ⟨(fun hz => by cases hz), fun _ => ?_⟩
          first | refine RunN.pEqS ?_ | refine RunN.pEqN ?_ | refine RunN.pNeS ?_ | refine RunN.pNeN ?_
          exact hk5 _ _ ⟨rfl, (h.drop 0).drop 0⟩
      · intro k3 hk3
        have h := h.drew
        refine (num_ok 0).mono ?_
        rintro x w' ⟨hw', rfl⟩
        subst hw'
        rw [SplitB_iff]
        refine ⟨(fun hz => by simp at hz), fun _ => ?_⟩
        refine rEqS ?_
        refine rEqS ?_
        rw [SplitB_iff]
        refine ⟨(fun hz => by simp at hz), fun _ => ?_⟩
        refine rNeS ?_
        rw [SplitB_iff]
        refine ⟨fun _ => ?_, (fun hz => by cases hz)⟩
        refine ReadN.sH (s := c) l.length (by rw [hpl]) (by omega) ?_
        refine (image_st h okd2).mono ?_
        rintro q w h
        refine ⟨StillV.sH (s := c) l.length (by rw [hpl]) (by omega), ?_⟩
        have him : d2.abs.ims.flatten = l'.take l.length := by
          have := congrArg A.ims hda2
          dsimp only at this
          rw [this, ← hls']
        rw [him] at h
        refine (same_ok (h.rd (k := 0) (i := 0) ⟨_, rfl, rfl⟩) (hsub _ _ hl' (h.rd (k := 2) (i := 0) ⟨_, rfl, rfl⟩))).mono ?_
        rintro x w' ⟨hw', rfl⟩
        subst hw'
        exact hk3 _ _ ⟨by simp, h.drop 0⟩
    · intro k1 hk1
      rw [SplitB_iff]
      refine ⟨(fun hz => by cases hz), fun _ => ?_⟩
      refine (num_ok 0).mono ?_
      rintro x w' ⟨hw', rfl⟩
      subst hw'
      rw [SplitB_iff]
      refine ⟨(fun hz => by simp at hz), fun _ => ?_⟩
      first | refine RunN.pEqS ?_ | refine RunN.pEqN ?_ | refine RunN.pNeS ?_ | refine RunN.pNeN ?_
      first | refine RunN.pEqS ?_ | refine RunN.pEqN ?_ | refine RunN.pNeS ?_ | refine RunN.pNeN ?_
      exact hk1 _ _ ⟨rfl, h⟩
  · have hbad : ¬ ((subS c 0 l.length 1).len % 512 = 0 ∧ 1 ≤ (subS c 0 l.length 1).len / 512 ∧ (subS c 0 l.length 1).len / 512 ≤ 65536) := by rw [hsl]; exact hg
    refine (from_bad h (p := subS c 0 l.length 1) hbad (by rw [hsl]; omega)).mono ?_
    rintro x w ⟨rfl, h⟩
    refine (rfrom_bad h (p := p) (by rw [hpl]; exact hg) (by omega)).mono ?_
    rintro x w ⟨rfl, h⟩
    refine (kept_st h (hp _ (tl 1 h)) (by omega)).mono ?_
    rintro x w ⟨rfl, l', hl', h⟩
    refine JoinX.mk (fun j w' => j.1 = false ∧ St w0 w' ([.row 5 1 c (bys l')] :: F)) ?_ ?_
    · rintro ⟨_, ⟨⟩⟩ w ⟨hj, h⟩
      dsimp only at hj h ⊢
      subst hj
      rw [SplitB_iff]
      refine ⟨(fun hz => by cases hz), fun _ => ?_⟩
      refine RunN.sH (s := c) l.length (by rw [hpl]) (by omega) ?_
      refine (from_bad h (p := subS c 0 l.length 1) hbad (by rw [hsl]; omega)).mono ?_
      rintro x w ⟨rfl, h⟩
      refine JoinX.mk (fun j w' => j.1 = false ∧ St w0 w' ([.row 5 1 c (bys l')] :: F)) ?_ ?_
      · rintro ⟨_, ⟨⟩⟩ w ⟨hj, h⟩
        dsimp only at hj h ⊢
        subst hj
        rw [SplitB_iff]
        refine ⟨(fun hz => by cases hz), fun _ => ?_⟩
        refine JoinX.mk (fun j w' => j.1 = true ∧ St w0 w' F) ?_ ?_
        · rintro ⟨_, ⟨⟩⟩ w ⟨hj, h⟩
          dsimp only at hj h ⊢
          subst hj
          rw [SplitB_iff]
          exact ⟨fun _ => .inl ⟨rfl, h⟩, (fun hz => by cases hz)⟩
        · intro k5 hk5
          first | refine RunN.pEqS ?_ | refine RunN.pEqN ?_ | refine RunN.pNeS ?_ | refine RunN.pNeN ?_
          rw [SplitB_iff]
          exact ⟨fun _ => hk5 _ _ ⟨rfl, h.drop 0⟩, (fun hz => by cases hz)⟩
      · intro k3 hk3
        have h := h.drew
        refine (num_ok 1).mono ?_
        rintro x w' ⟨hw', rfl⟩
        subst hw'
        rw [SplitB_iff]
        refine ⟨(fun hz => by simp at hz), fun _ => ?_⟩
        refine rEqN ?_
        refine rEqN ?_
        rw [SplitB_iff]
        refine ⟨(fun hz => by simp at hz), fun _ => ?_⟩
        refine rNeN ?_
        rw [SplitB_iff]
        exact ⟨(fun hz => by cases hz), fun _ => hk3 _ _ ⟨rfl, h⟩⟩
    · intro k1 hk1
      rw [SplitB_iff]
      refine ⟨(fun hz => by cases hz), fun _ => ?_⟩
      refine (num_ok 1).mono ?_
      rintro x w' ⟨hw', rfl⟩
      subst hw'
      rw [SplitB_iff]
      refine ⟨(fun hz => by simp at hz), fun _ => ?_⟩
      first | refine RunN.pEqS ?_ | refine RunN.pEqN ?_ | refine RunN.pNeS ?_ | refine RunN.pNeN ?_
      first | refine RunN.pEqS ?_ | refine RunN.pEqN ?_ | refine RunN.pNeS ?_ | refine RunN.pNeN ?_
      exact hk1 _ _ ⟨rfl, h⟩
end Go.Proofs.Ytpdaoahamgegoaa
