/- What was answered is kept: both ways of keeping. -/
import Derived.Test.YtmfbmfppjdkeeaaEkL
namespace Go.Proofs.Ytmfbmfppjdkeeaa
open Go Go.Fw Go.RowKit
set_option linter.unusedVariables false
set_option linter.unusedSimpArgs false
set_option maxRecDepth 4000
set_option maxHeartbeats 2000000
variable {w0 w : World} {F G : Grps}

def rowsA (L : List (Sl × List A6)) : List Ent := L.map fun x => .row 70 6 x.1 (acs x.2)
def rowsE (L : List (Sl × List Ep)) : List Ent := L.map fun x => .row 54 2 x.1 (eps x.2)
structure KpL (k : Kp) (N : Nat) (LA LW : List (Sl × List A6)) (LE LX : List (Sl × List Ep)) : Prop where
  A : k.A = LA.map (·.1)
  W : k.W = LW.map (·.1)
  E : k.E = LE.map (·.1)
  X : k.X = LX.map (·.1)
  ca : LA.map (·.2) = LW.map (·.2)
  ce : LE.map (·.2) = LX.map (·.2)
  la : ∀ x ∈ LA, x.2.length ≤ 1000
  le : ∀ x ∈ LE, x.2.length ≤ 1000
  na : LA.length ≤ N
  ne : LE.length ≤ N
structure KpM (k : Kp) (N : Nat) (gA gE : List Ent) : Prop where
  n : KpN k gA gE
  na : k.A.length ≤ 41 * N
  ne : k.E.length ≤ 41 * N
  la : ∀ s ∈ k.A, s.len ≤ 1000000
  le : ∀ s ∈ k.E, s.len ≤ 1000000
def KpW (k : Kp) (N : Nat) (gA gW gE gX : List Ent) : Prop :=
  (k.late = false ∧ KpM k N gA gE) ∨ (k.late = true ∧ ∃ LA LW LE LX, gA = rowsA LA ∧ gW = rowsA LW ∧ gE = rowsE LE ∧ gX = rowsE LX ∧ KpL k N LA LW LE LX)
theorem KpM.mono {k : Kp} {N M : Nat} {gA gE : List Ent} (h : KpM k N gA gE) (hm : N ≤ M) : KpM k M gA gE := ⟨h.n, by have := h.na; omega, by have := h.ne; omega, h.la, h.le⟩
theorem KpL.mono {k : Kp} {N M : Nat} {LA LW : List (Sl × List A6)} {LE LX : List (Sl × List Ep)} (h : KpL k N LA LW LE LX) (hm : N ≤ M) : KpL k M LA LW LE LX :=
  ⟨h.A, h.W, h.E, h.X, h.ca, h.ce, h.la, h.le, by have := h.na; omega, by have := h.ne; omega⟩
theorem KpM.holdA {k : Kp} {N : Nat} {gA gE g : List Ent} (h : KpM k N gA gE) {l : List Sl} {m : Int} {qa qm : Sl} {n : Nat} (hn : n ≤ 900000) (h1 : l.length ≤ 41) (hx : ∀ x ∈ l, x.len ≤ n + 40) (h2 : ∀ x ∈ l, Cov 70 (mvA m) g x) :
    KpM { k with A := k.A ++ l, aq := qa, M := k.M ++ List.replicate l.length m, am := qm } (N + 1) (g ++ gA) gE := by
  have ham := h.n.am
  refine ⟨⟨by simp [ham], h.n.en, fun i hi => ?_, h.n.covE⟩, by simp; have := h.na; omega, by have := h.ne; dsimp only; omega, fun s hs => ?_, h.le⟩
  · dsimp only at hi ⊢
    rw [List.length_append] at hi
    by_cases hc : i < k.A.length
    · rw [List.getElem_append_left hc, List.getElem_append_left (by omega)]
      exact (h.n.covA i hc).sub fun e he => List.mem_append_right _ he
    · rw [List.getElem_append_right (by omega), List.getElem_append_right (by omega), List.getElem_replicate]
      exact (h2 _ (List.getElem_mem _)).sub fun e he => List.mem_append_left _ he
  · rcases List.mem_append.1 hs with hs | hs
    · exact h.la s hs
    · have := hx s hs; omega
theorem KpM.holdE {k : Kp} {N : Nat} {gA gE g : List Ent} (h : KpM k N gA gE) {l : List Sl} {m : Int} {qa qm : Sl} {n : Nat} (hn : n ≤ 900000) (h1 : l.length ≤ 41) (hx : ∀ x ∈ l, x.len ≤ n + 40) (h2 : ∀ x ∈ l, Cov 54 (mvE m) g x) :
    KpM { k with E := k.E ++ l, eq := qa, N := k.N ++ List.replicate l.length m, em := qm } (N + 1) gA (g ++ gE) := by
  have hen := h.n.en
  refine ⟨⟨h.n.am, by simp [hen], h.n.covA, fun i hi => ?_⟩, by have := h.na; dsimp only; omega, by simp; have := h.ne; omega, h.la, fun s hs => ?_⟩
  · dsimp only at hi ⊢
    rw [List.length_append] at hi
    by_cases hc : i < k.E.length
    · rw [List.getElem_append_left hc, List.getElem_append_left (by omega)]
      exact (h.n.covE i hc).sub fun e he => List.mem_append_right _ he
    · rw [List.getElem_append_right (by omega), List.getElem_append_right (by omega), List.getElem_replicate]
      exact (h2 _ (List.getElem_mem _)).sub fun e he => List.mem_append_left _ he
  · rcases List.mem_append.1 hs with hs | hs
    · exact h.le s hs
    · have := hx s hs; omega
theorem putA_st {k : Kp} {N : Nat} {s : Sl} {l : List A6} {gA gW gE gX : List Ent} (h : St w0 w ([.row 70 6 s (acs l)] :: kpE k :: gA :: gW :: gE :: gX :: F)) (hw : KpW k N gA gW gE gX) (hN : N ≤ 10000000) (hl : l.length ≤ 1000) :
    CallK Try.prog (.tup .nilT) 42 #[.pointer k.p, .slice s.a s.len s.cap] w fun (_ : Unit) w' => ∃ k' gA' gW', k'.cb = k.cb ∧ k'.late = k.late ∧ KpW k' (N + 1) gA' gW' gE gX ∧ St w0 w' (kpE k' :: gA' :: gW' :: gE :: gX :: F) := by
  refine T42.calls ?_
  unfold T42
  refine NilP.mk ?_
  refine h.loadB 1 0 ⟨_, rfl, rfl⟩ rfl (kd := .bool) (x := k.late) rfl ?_
  rcases hw with ⟨hlate, hw⟩ | ⟨hlate, LA, LW, LE, LX, rfl, rfl, rfl, rfl, hw⟩
  · rw [hlate, SplitB_iff]
    refine ⟨fun hf => (by cases hf), fun _ => ?_⟩
    have hna := hw.na
    have ham := hw.n.am
    refine NilP.mk ?_
    refine h.loadB 1 0 ⟨_, rfl, rfl⟩ rfl (kd := .sl) (x := k.am) rfl ?_
    refine (fillA h (by omega) _).mono ?_
    rintro _ w1 h
    refine (holdA h (by omega) (by omega) (by omega)).mono ?_
    rintro _ w2 ⟨qa, qm, ls, g, h1, h2, h3, h⟩
    refine ⟨{ k with A := k.A ++ ls, aq := qa, M := k.M ++ List.replicate ls.length (k.am.len : Int), am := qm }, g ++ gA, gW, rfl, hlate, .inl ⟨hlate, hw.holdA (by omega) h1 h2 h3⟩, ?_⟩
    have h := h.ord 2 [1, 0]
    exact h.perm (by simp [pick, nthO, dropO])
  · rw [hlate, SplitB_iff]
    refine ⟨fun _ => ?_, fun hf => (by cases hf)⟩
    have hna := hw.na
    have hlw : LW.length = LA.length := by have := congrArg List.length hw.ca; simpa using this.symm
    have h := h.ord 2 [1, 0]
    refine lateA h (by rw [hw.A]; simp; omega) (by rw [hw.W]; simp; omega) (by omega) ?_
    intro qa qw s' w1 hs' h
    refine ⟨{ k with A := k.A ++ [s], aq := qa, W := k.W ++ [s'], aw := qw }, _, _, rfl, hlate, .inr ⟨hlate, LA ++ [(s, l)], LW ++ [(s', l)], LE, LX, ?_, ?_, rfl, rfl, ?_⟩, h⟩
    · simp [rowsA]
    · simp [rowsA]
    · refine ⟨by simp [hw.A], by simp [hw.W], hw.E, hw.X, by simp [hw.ca], hw.ce, fun x hx => ?_, hw.le, by simp; omega, by have := hw.ne; omega⟩
      rcases List.mem_append.1 hx with hx | hx
      · exact hw.la x hx
      · simp at hx; subst hx; exact hl
theorem putE_st {k : Kp} {N : Nat} {s : Sl} {l : List Ep} {gA gW gE gX : List Ent} (h : St w0 w ([.row 54 2 s (eps l)] :: kpE k :: gA :: gW :: gE :: gX :: F)) (hw : KpW k N gA gW gE gX) (hN : N ≤ 10000000) (hl : l.length ≤ 1000) :
    CallK Try.prog (.tup .nilT) 72 #[.pointer k.p, .slice s.a s.len s.cap] w fun (_ : Unit) w' => ∃ k' gE' gX', k'.cb = k.cb ∧ k'.late = k.late ∧ KpW k' (N + 1) gA gW gE' gX' ∧ St w0 w' (kpE k' :: gA :: gW :: gE' :: gX' :: F) := by
  refine T72.calls ?_
  unfold T72
  refine NilP.mk ?_
  refine h.loadB 1 0 ⟨_, rfl, rfl⟩ rfl (kd := .bool) (x := k.late) rfl ?_
  rcases hw with ⟨hlate, hw⟩ | ⟨hlate, LA, LW, LE, LX, rfl, rfl, rfl, rfl, hw⟩
  · rw [hlate, SplitB_iff]
    refine ⟨fun hf => (by cases hf), fun _ => ?_⟩
    have hne := hw.ne
    have hen := hw.n.en
    refine NilP.mk ?_
    refine h.loadB 1 0 ⟨_, rfl, rfl⟩ rfl (kd := .sl) (x := k.em) rfl ?_
    refine (fillE h (by omega) _).mono ?_
    rintro _ w1 h
    refine (holdE h (by omega) (by omega) (by omega)).mono ?_
    rintro _ w2 ⟨qa, qm, ls, g, h1, h2, h3, h⟩
    refine ⟨{ k with E := k.E ++ ls, eq := qa, N := k.N ++ List.replicate ls.length (k.em.len : Int), em := qm }, g ++ gE, gX, rfl, hlate, .inl ⟨hlate, hw.holdE (by omega) h1 h2 h3⟩, ?_⟩
    have h := h.ord 5 [1, 2, 3, 0, 4]
    exact h.perm (by simp [pick, nthO, dropO])
  · rw [hlate, SplitB_iff]
    refine ⟨fun _ => ?_, fun hf => (by cases hf)⟩
    have hne := hw.ne
    have hlw : LX.length = LE.length := by have := congrArg List.length hw.ce; simpa using this.symm
    have h := h.ord 6 [1, 0, 4, 5, 2, 3]
    refine lateE h (by rw [hw.E]; simp; omega) (by rw [hw.X]; simp; omega) (by omega) ?_
    intro qa qw s' w1 hs' h
    have h := h.ord 5 [0, 3, 4, 1, 2]
    refine ⟨{ k with E := k.E ++ [s], eq := qa, X := k.X ++ [s'], ew := qw }, _, _, rfl, hlate, .inr ⟨hlate, LA, LW, LE ++ [(s, l)], LX ++ [(s', l)], rfl, rfl, ?_, ?_, ?_⟩, h⟩
    · simp [rowsE]
    · simp [rowsE]
    · refine ⟨hw.A, hw.W, by simp [hw.E], by simp [hw.X], hw.ca, by simp [hw.ce], hw.la, fun x hx => ?_, by have := hw.na; omega, by simp; omega⟩
      rcases List.mem_append.1 hx with hx | hx
      · exact hw.le x hx
      · simp at hx; subst hx; exact hl
/-! ### a piece by itself -/
theorem St.putBack (h : St w0 w G) {k i : Nat} {e : Ent} (he : Has G k i e) {e' : Ent} {w' : World} (h' : St w0 w' ([e'] :: updG G k i [])) : St w0 w' (updG G k i [e']) := by
  obtain ⟨A, h1, h2⟩ := updG_perm [] he
  obtain ⟨B, h3, h4⟩ := updG_perm [e'] he
  have hAB : A.Perm B := (List.perm_cons e).1 (h1.symm.trans h3)
  refine h'.perm ?_
  rw [List.flatten_cons]
  exact ((h2.append_left [e']).trans (hAB.cons e')).trans h4.symm
end Go.Proofs.Ytmfbmfppjdkeeaa
