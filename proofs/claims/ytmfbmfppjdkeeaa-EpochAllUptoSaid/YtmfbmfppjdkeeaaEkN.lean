/- What was answered is kept: what was left till the end. -/
import Derived.Test.YtmfbmfppjdkeeaaEkM
namespace Go.Proofs.Ytmfbmfppjdkeeaa
open Go Go.Fw Go.RowKit
set_option linter.unusedVariables false
set_option linter.unusedSimpArgs false
set_option maxRecDepth 4000
set_option maxHeartbeats 4000000
variable {w0 w : World} {F G : Grps}

theorem rdA {LA : List (Sl × List A6)} {i : Nat} (hi : i < LA.length) (h : St w0 w G) {k : Nat} (hk : nthO G k = some (rowsA LA)) : Rd w LA[i].1 6 (acs LA[i].2) := by
  have hm : Ent.row 70 6 LA[i].1 (acs LA[i].2) ∈ rowsA LA := List.mem_map.2 ⟨LA[i], List.getElem_mem hi, rfl⟩
  have : Ow w w0.heap.size 70 6 LA[i].1 (acs LA[i].2) := (h.memG k hk hm).1
  exact this.rd
theorem rdE {LE : List (Sl × List Ep)} {i : Nat} (hi : i < LE.length) (h : St w0 w G) {k : Nat} (hk : nthO G k = some (rowsE LE)) : Rd w LE[i].1 2 (eps LE[i].2) := by
  have hm : Ent.row 54 2 LE[i].1 (eps LE[i].2) ∈ rowsE LE := List.mem_map.2 ⟨LE[i], List.getElem_mem hi, rfl⟩
  have : Ow w w0.heap.size 54 2 LE[i].1 (eps LE[i].2) := (h.memG k hk hm).1
  exact this.rd
def fA (L : List (Sl × List A6)) (i j : Nat) (x : Sl × List A6) : Ent := if j < i then .row 70 6 x.1 (rep (mvA (j : Int)) x.2.length) else .row 70 6 x.1 (acs x.2)
def rowsFA (L : List (Sl × List A6)) (i : Nat) : List Ent := L.zipIdx.map fun x => fA L i x.2 x.1
def fE (L : List (Sl × List Ep)) (i j : Nat) (x : Sl × List Ep) : Ent := if j < i then .row 54 2 x.1 (rep (mvE (j : Int)) x.2.length) else .row 54 2 x.1 (eps x.2)
def rowsFE (L : List (Sl × List Ep)) (i : Nat) : List Ent := L.zipIdx.map fun x => fE L i x.2 x.1
theorem rowsFA_at {L : List (Sl × List A6)} {i j : Nat} (hj : j < L.length) : (rowsFA L i)[j]? = some (fA L i j L[j]) := by simp [rowsFA, hj]
theorem rowsFE_at {L : List (Sl × List Ep)} {i j : Nat} (hj : j < L.length) : (rowsFE L i)[j]? = some (fE L i j L[j]) := by simp [rowsFE, hj]
theorem rowsFA_zero (L : List (Sl × List A6)) : rowsFA L 0 = rowsA L := by
  refine List.ext_getElem? fun j => ?_
  by_cases hj : j < L.length
  · rw [rowsFA_at hj, fA, if_neg (by omega)]; simp [rowsA, hj]
  · rw [List.getElem?_eq_none (by simp [rowsFA]; omega), List.getElem?_eq_none (by simp [rowsA]; omega)]
theorem rowsFE_zero (L : List (Sl × List Ep)) : rowsFE L 0 = rowsE L := by
  refine List.ext_getElem? fun j => ?_
  by_cases hj : j < L.length
  · rw [rowsFE_at hj, fE, if_neg (by omega)]; simp [rowsE, hj]
  · rw [List.getElem?_eq_none (by simp [rowsFE]; omega), List.getElem?_eq_none (by simp [rowsE]; omega)]
theorem rowsFA_set {L : List (Sl × List A6)} {i : Nat} (hi : i < L.length) : setO (rowsFA L i) i (.row 70 6 L[i].1 (rep (mvA (i : Int)) L[i].2.length)) = rowsFA L (i + 1) := by
  rw [setO_set]
  refine List.ext_getElem? fun j => ?_
  rw [List.getElem?_set]
  by_cases hij : i = j
  · subst hij
    rw [if_pos rfl, if_pos (by simp [rowsFA]; exact hi), rowsFA_at hi, fA, if_pos (by omega)]
  · rw [if_neg hij]
    by_cases hj : j < L.length
    · rw [rowsFA_at hj, rowsFA_at hj, fA, fA]
      by_cases h1 : j < i
      · rw [if_pos h1, if_pos (by omega)]
      · rw [if_neg h1, if_neg (by omega)]
    · rw [List.getElem?_eq_none (by simp [rowsFA]; omega), List.getElem?_eq_none (by simp [rowsFA]; omega)]
theorem rowsFE_set {L : List (Sl × List Ep)} {i : Nat} (hi : i < L.length) : setO (rowsFE L i) i (.row 54 2 L[i].1 (rep (mvE (i : Int)) L[i].2.length)) = rowsFE L (i + 1) := by
  rw [setO_set]
  refine List.ext_getElem? fun j => ?_
  rw [List.getElem?_set]
  by_cases hij : i = j
  · subst hij
    rw [if_pos rfl, if_pos (by simp [rowsFE]; exact hi), rowsFE_at hi, fE, if_pos (by omega)]
  · rw [if_neg hij]
    by_cases hj : j < L.length
    · rw [rowsFE_at hj, rowsFE_at hj, fE, fE]
      by_cases h1 : j < i
      · rw [if_pos h1, if_pos (by omega)]
      · rw [if_neg h1, if_neg (by omega)]
    · rw [List.getElem?_eq_none (by simp [rowsFE]; omega), List.getElem?_eq_none (by simp [rowsFE]; omega)]
theorem delO_drop {α : Type} (l : List α) (i : Nat) : delO (l.drop i) 0 = l.drop (i + 1) := by
  cases h : l.drop i with
  | nil => rw [← List.drop_drop, h]; rfl
  | cons x t => rw [← List.drop_drop, h]; rfl
def kp0 (b : Nat) : Kp := ⟨b, false, ⟨none, 0, 0⟩, ⟨none, 0, 0⟩, ⟨none, 0, 0⟩, ⟨none, 0, 0⟩, ⟨none, 0, 0⟩, ⟨none, 0, 0⟩, [], [], [], [], [], []⟩
theorem kp0_box (h : St w0 w F) (late : Bool) {K : Addr → World → Prop} (hk : ∀ b w', St w0 w' (kpE { kp0 b with late := late } :: F) → K ⟨b, 0, none⟩ w') :
    RunN Try.prog .addr (V (Instr.box 52 (.agg #[.bool late, .slice none 0 0, .slice none 0 0, .slice none 0 0, .slice none 0 0, .slice none 0 0, .slice none 0 0]))) w K := by
  refine h.newB run_boxA rfl ?_
  intro b w1 h
  have h := (((((h.nilrow 66 1).nilrow 66 1).nilrow 3 1).nilrow 78 1).nilrow 78 1).nilrow 3 1
  have h := h.ord 7 [6, 5, 4, 3, 2, 1, 0]
  exact hk b w1 (h.perm (by simp [pick, nthO, dropO, kpE, kp0, kpC, slv, sls, lin]))
theorem kpM0 (b : Nat) : KpM (kp0 b) 0 [] [] := ⟨⟨rfl, rfl, fun i h => by simp [kp0] at h, fun i h => by simp [kp0] at h⟩, by simp [kp0], by simp [kp0], fun s h => by simp [kp0] at h, fun s h => by simp [kp0] at h⟩
theorem lately_st {k : Kp} {N : Nat} {LA LW : List (Sl × List A6)} {LE LX : List (Sl × List Ep)} (h : St w0 w (kpE k :: rowsA LA :: rowsA LW :: rowsE LE :: rowsE LX :: F)) (hw : KpL k N LA LW LE LX) (hN : N ≤ 10000000) :
    CallK Try.prog .bool 44 #[.pointer k.p] w fun (v : Bool) w' => v = true ∧ Upd w0 w' nobody := by
  refine T44.calls ?_
  unfold T44
  have hna := hw.na
  have hne := hw.ne
  have hlw : LW.length = LA.length := by have := congrArg List.length hw.ca; simpa using this.symm
  have hlx : LX.length = LE.length := by have := congrArg List.length hw.ce; simpa using this.symm
  have hkA : k.A.length = LA.length := by rw [hw.A]; simp
  have hkW : k.W.length = LA.length := by rw [hw.W]; simp; omega
  have hkE : k.E.length = LE.length := by rw [hw.E]; simp
  have hkX : k.X.length = LE.length := by rw [hw.X]; simp; omega
  have gA : ∀ {R : Grps} {w' : World}, St w0 w' (kpE k :: R) → Rd w' k.aq 1 (sls k.A) := fun h => h.rd (k := 0) (i := 1) (E := 66) (sz := 1) (s := k.aq) (vs := sls k.A) ⟨_, rfl, rfl⟩
  have gW : ∀ {R : Grps} {w' : World}, St w0 w' (kpE k :: R) → Rd w' k.aw 1 (sls k.W) := fun h => h.rd (k := 0) (i := 2) (E := 66) (sz := 1) (s := k.aw) (vs := sls k.W) ⟨_, rfl, rfl⟩
  have gE : ∀ {R : Grps} {w' : World}, St w0 w' (kpE k :: R) → Rd w' k.eq 1 (sls k.E) := fun h => h.rd (k := 0) (i := 4) (E := 78) (sz := 1) (s := k.eq) (vs := sls k.E) ⟨_, rfl, rfl⟩
  have gX : ∀ {R : Grps} {w' : World}, St w0 w' (kpE k :: R) → Rd w' k.ew 1 (sls k.X) := fun h => h.rd (k := 0) (i := 5) (E := 78) (sz := 1) (s := k.ew) (vs := sls k.X) ⟨_, rfl, rfl⟩
  have qA : k.aq.len = LA.length := by have := (gA h).1; simp [sls] at this; omega
  have qW : k.aw.len = LA.length := by have := (gW h).1; simp [sls] at this; omega
  have qE : k.eq.len = LE.length := by have := (gE h).1; simp [sls] at this; omega
  have qX : k.ew.len = LE.length := by have := (gX h).1; simp [sls] at this; omega
  have atA : ∀ i (hi : i < LA.length), (sls k.A)[i * 1]? = some (slv LA[i].1) := fun i hi => by rw [sls_ix (by omega)]; simp [hw.A]
  have atW : ∀ i (hi : i < LA.length), (sls k.W)[i * 1]? = some (slv (LW[i]'(by omega)).1) := fun i hi => by rw [sls_ix (by omega)]; simp [hw.W]
  have atE : ∀ i (hi : i < LE.length), (sls k.E)[i * 1]? = some (slv LE[i].1) := fun i hi => by rw [sls_ix (by omega)]; simp [hw.E]
  have atX : ∀ i (hi : i < LE.length), (sls k.X)[i * 1]? = some (slv (LX[i]'(by omega)).1) := fun i hi => by rw [sls_ix (by omega)]; simp [hw.X]
  -- the lists of acts are what they were
  refine LoopX.mk (fun st w' => ∃ (i : Nat), st = ((i : Int), ()) ∧ i ≤ LA.length ∧ St w0 w' (kpE k :: rowsA LA :: rowsA LW :: rowsE LE :: rowsE LX :: F)) (fun st => ((LA.length : Int) - st.1).toNat) ⟨0, rfl, Nat.zero_le _, h⟩ ?_
  clear h
  rintro _ w1 ⟨i, rfl, hi, h⟩ k1 hk1
  dsimp only at hk1 ⊢
  refine NilP.mk ?_
  refine h.loadB 0 0 ⟨_, rfl, rfl⟩ rfl (kd := .sl) (x := k.aq) rfl ?_
  rw [SplitB_iff]
  refine ⟨fun hc => ?_, fun hc => ?_⟩
  · have hc : i < LA.length := by have : (i : Int) < (k.aq.len : Int) := of_decide_eq_true hc; omega
    have hem : IntKind.i64.wrap ((i : Int) + 1) = ((i + 1 : Nat) : Int) := by rw [wr (by omega)]; omega
    rw [hem]
    refine NilP.mk ?_
    refine h.drew.readB 0 0 ⟨_, rfl, rfl⟩ rfl (kd := .sl) (x := k.aq) rfl ?_
    refine (gA h.drew).idxR i rfl (by omega) ?_
    intro g o hga
    refine (gA h.drew).elR hga (i * 1) rfl (kd := .sl) (x := LA[i].1) (atA i hc) ?_
    refine NilP.mk ?_
    refine h.drew.readB 0 0 ⟨_, rfl, rfl⟩ rfl (kd := .sl) (x := k.aw) rfl ?_
    refine (gW h.drew).idxR i rfl (by omega) ?_
    intro g2 o2 hga2
    refine (gW h.drew).elR hga2 (i * 1) rfl (kd := .sl) (x := (LW[i]'(by omega)).1) (atW i hc) ?_
    have hcon : (LW[i]'(by omega)).2 = LA[i].2 := by
      have h1 := congrArg (fun l => l[i]?) hw.ca
      simp only [List.getElem?_map, List.getElem?_eq_getElem hc, List.getElem?_eq_getElem (show i < LW.length by omega), Option.map_some] at h1
      exact (Option.some.inj h1).symm
    have hrw := rdA (show i < LW.length by omega) h.drew (k := 2) rfl
    rw [hcon] at hrw
    refine (sameA_st (rdA hc h.drew (k := 1) rfl) hrw (by have := hw.la _ (List.getElem_mem hc); omega)).mono ?_
    rintro _ w2 ⟨rfl, hu⟩
    rw [SplitB_iff]
    refine ⟨fun hf => (by cases hf), fun _ => ?_⟩
    exact hk1 _ _ ⟨i + 1, rfl, by omega, h.drew.keep hu⟩ (by dsimp only; omega)
  -- the lists of epochs too
  clear hk1 hc hi
  refine LoopX.mk (fun st w' => ∃ (i : Nat), st = ((i : Int), ()) ∧ i ≤ LE.length ∧ St w0 w' (kpE k :: rowsA LA :: rowsA LW :: rowsE LE :: rowsE LX :: F)) (fun st => ((LE.length : Int) - st.1).toNat) ⟨0, rfl, Nat.zero_le _, h⟩ ?_
  clear h
  rintro _ w1 ⟨i, rfl, hi, h⟩ k1 hk1
  dsimp only at hk1 ⊢
  refine NilP.mk ?_
  refine h.loadB 0 0 ⟨_, rfl, rfl⟩ rfl (kd := .sl) (x := k.eq) rfl ?_
  rw [SplitB_iff]
  refine ⟨fun hc => ?_, fun hc => ?_⟩
  · have hc : i < LE.length := by have : (i : Int) < (k.eq.len : Int) := of_decide_eq_true hc; omega
    have hem : IntKind.i64.wrap ((i : Int) + 1) = ((i + 1 : Nat) : Int) := by rw [wr (by omega)]; omega
    rw [hem]
    refine NilP.mk ?_
    refine h.drew.readB 0 0 ⟨_, rfl, rfl⟩ rfl (kd := .sl) (x := k.eq) rfl ?_
    refine (gE h.drew).idxR i rfl (by omega) ?_
    intro g o hga
    refine (gE h.drew).elR hga (i * 1) rfl (kd := .sl) (x := LE[i].1) (atE i hc) ?_
    refine NilP.mk ?_
    refine h.drew.readB 0 0 ⟨_, rfl, rfl⟩ rfl (kd := .sl) (x := k.ew) rfl ?_
    refine (gX h.drew).idxR i rfl (by omega) ?_
    intro g2 o2 hga2
    refine (gX h.drew).elR hga2 (i * 1) rfl (kd := .sl) (x := (LX[i]'(by omega)).1) (atX i hc) ?_
    have hcon : (LX[i]'(by omega)).2 = LE[i].2 := by
      have h1 := congrArg (fun l => l[i]?) hw.ce
      simp only [List.getElem?_map, List.getElem?_eq_getElem hc, List.getElem?_eq_getElem (show i < LX.length by omega), Option.map_some] at h1
      exact (Option.some.inj h1).symm
    have hrw := rdE (show i < LX.length by omega) h.drew (k := 4) rfl
    rw [hcon] at hrw
    refine (sameE_st (rdE hc h.drew (k := 3) rfl) hrw (by have := hw.le _ (List.getElem_mem hc); omega)).mono ?_
    rintro _ w2 ⟨rfl, hu⟩
    rw [SplitB_iff]
    refine ⟨fun hf => (by cases hf), fun _ => ?_⟩
    exact hk1 _ _ ⟨i + 1, rfl, by omega, h.drew.keep hu⟩ (by dsimp only; omega)
  clear hk1 hc hi
  have h : St w0 w1 (kpE k :: rowsA LA :: rowsE LE :: F) := (h.drop 2).drop 3
  refine kp0_box h false ?_
  intro b w2 h
  have h := h.ord 4 [1, 2, 3, 0]
  have h : St w0 w2 (kpE k :: rowsFA LA 0 :: rowsE LE :: kpE (kp0 b) :: F) := by rw [rowsFA_zero]; exact h
  -- all are written full
  refine LoopX.mk (fun st w' => ∃ (i : Nat), st = ((i : Int), ()) ∧ i ≤ LA.length ∧ St w0 w' (kpE k :: rowsFA LA i :: rowsE LE :: kpE (kp0 b) :: F)) (fun st => ((LA.length : Int) - st.1).toNat) ⟨0, rfl, Nat.zero_le _, h⟩ ?_
  clear h
  rintro _ w3 ⟨i, rfl, hi, h⟩ k1 hk1
  dsimp only at hk1 ⊢
  refine NilP.mk ?_
  refine h.loadB 0 0 ⟨_, rfl, rfl⟩ rfl (kd := .sl) (x := k.aq) rfl ?_
  rw [SplitB_iff]
  refine ⟨fun hc => ?_, fun hc => ?_⟩
  · have hc : i < LA.length := by have : (i : Int) < (k.aq.len : Int) := of_decide_eq_true hc; omega
    have hem : IntKind.i64.wrap ((i : Int) + 1) = ((i + 1 : Nat) : Int) := by rw [wr (by omega)]; omega
    rw [hem]
    refine NilP.mk ?_
    refine h.loadB 0 0 ⟨_, rfl, rfl⟩ rfl (kd := .sl) (x := k.aq) rfl ?_
    refine (gA h).idxK i rfl (by omega) ?_
    intro g o hga
    refine (gA h).el hga (i * 1) rfl (kd := .sl) (x := LA[i].1) (atA i hc) ?_
    have hhas : Has (kpE k :: rowsFA LA i :: rowsE LE :: kpE (kp0 b) :: F) 1 i (.row 70 6 LA[i].1 (acs LA[i].2)) := ⟨_, rfl, by rw [nthO_get, rowsFA_at hc, fA, if_neg (by omega)]⟩
    have hp := h.pull hhas
    refine (fillA hp (by have := hw.la _ (List.getElem_mem hc); omega) (i : Int)).mono ?_
    rintro _ w4 h'
    have h := St.putBack h hhas h'
    dsimp only [updG] at h
    rw [rowsFA_set hc] at h
    exact hk1 _ _ ⟨i + 1, rfl, by omega, h⟩ (by dsimp only; omega)
  have hc : i = LA.length := by have : ¬ (i : Int) < (k.aq.len : Int) := of_decide_eq_false hc; omega
  subst hc
  clear hk1 hi
  have h : St w0 w3 (kpE k :: rowsFA LA LA.length :: rowsFE LE 0 :: kpE (kp0 b) :: F) := by rw [rowsFE_zero]; exact h
  refine LoopX.mk (fun st w' => ∃ (i : Nat), st = ((i : Int), ()) ∧ i ≤ LE.length ∧ St w0 w' (kpE k :: rowsFA LA LA.length :: rowsFE LE i :: kpE (kp0 b) :: F)) (fun st => ((LE.length : Int) - st.1).toNat) ⟨0, rfl, Nat.zero_le _, h⟩ ?_
  clear h
  rintro _ w3 ⟨i, rfl, hi, h⟩ k1 hk1
  dsimp only at hk1 ⊢
  refine NilP.mk ?_
  refine h.loadB 0 0 ⟨_, rfl, rfl⟩ rfl (kd := .sl) (x := k.eq) rfl ?_
  rw [SplitB_iff]
  refine ⟨fun hc => ?_, fun hc => ?_⟩
  · have hc : i < LE.length := by have : (i : Int) < (k.eq.len : Int) := of_decide_eq_true hc; omega
    have hem : IntKind.i64.wrap ((i : Int) + 1) = ((i + 1 : Nat) : Int) := by rw [wr (by omega)]; omega
    rw [hem]
    refine NilP.mk ?_
    refine h.loadB 0 0 ⟨_, rfl, rfl⟩ rfl (kd := .sl) (x := k.eq) rfl ?_
    refine (gE h).idxK i rfl (by omega) ?_
    intro g o hga
    refine (gE h).el hga (i * 1) rfl (kd := .sl) (x := LE[i].1) (atE i hc) ?_
    have hhas : Has (kpE k :: rowsFA LA LA.length :: rowsFE LE i :: kpE (kp0 b) :: F) 2 i (.row 54 2 LE[i].1 (eps LE[i].2)) := ⟨_, rfl, by rw [nthO_get, rowsFE_at hc, fE, if_neg (by omega)]⟩
    have hp := h.pull hhas
    refine (fillE hp (by have := hw.le _ (List.getElem_mem hc); omega) (i : Int)).mono ?_
    rintro _ w4 h'
    have h := St.putBack h hhas h'
    dsimp only [updG] at h
    rw [rowsFE_set hc] at h
    exact hk1 _ _ ⟨i + 1, rfl, by omega, h⟩ (by dsimp only; omega)
  have hc : i = LE.length := by have : ¬ (i : Int) < (k.eq.len : Int) := of_decide_eq_false hc; omega
  subst hc
  clear hk1 hi
  -- all are grown
  have h : St w0 w3 (kpE k :: (rowsFA LA LA.length).drop 0 :: rowsFE LE LE.length :: kpE (kp0 b) :: [] :: [] :: F) := h.perm (by simp)
  refine LoopX.mk (fun st w' => ∃ (i : Nat) (t : Kp) (gT gU : List Ent), st = ((i : Int), ()) ∧ i ≤ LA.length ∧ t.cb = b ∧ t.late = false ∧ KpM t i gT gU ∧ St w0 w' (kpE k :: (rowsFA LA LA.length).drop i :: rowsFE LE LE.length :: kpE t :: gT :: gU :: F)) (fun st => ((LA.length : Int) - st.1).toNat) ⟨0, kp0 b, [], [], rfl, Nat.zero_le _, rfl, rfl, kpM0 b, h⟩ ?_
  clear h
  rintro _ w4 ⟨i, t, gT, gU, rfl, hi, htb, htl, hM, h⟩ k1 hk1
  dsimp only at hk1 ⊢
  have hpt : (some (⟨b, 0, none⟩ : Addr)) = t.p := by show some _ = some _; rw [htb]
  refine NilP.mk ?_
  refine h.loadB 0 0 ⟨_, rfl, rfl⟩ rfl (kd := .sl) (x := k.aq) rfl ?_
  rw [SplitB_iff]
  refine ⟨fun hc => ?_, fun hc => ?_⟩
  · have hc : i < LA.length := by have : (i : Int) < (k.aq.len : Int) := of_decide_eq_true hc; omega
    have hem : IntKind.i64.wrap ((i : Int) + 1) = ((i + 1 : Nat) : Int) := by rw [wr (by omega)]; omega
    rw [hem]
    refine NilP.mk ?_
    refine h.loadB 0 0 ⟨_, rfl, rfl⟩ rfl (kd := .sl) (x := k.aq) rfl ?_
    refine (gA h).idxK i rfl (by omega) ?_
    intro g o hga
    refine (gA h).el hga (i * 1) rfl (kd := .sl) (x := LA[i].1) (atA i hc) ?_
    have hhas : Has (kpE k :: (rowsFA LA LA.length).drop i :: rowsFE LE LE.length :: kpE t :: gT :: gU :: F) 1 0 (.row 70 6 LA[i].1 (rep (mvA (i : Int)) LA[i].2.length)) :=
      ⟨_, rfl, by rw [nthO_get, List.getElem?_drop, Nat.add_zero, rowsFA_at hc, fA, if_pos hc]⟩
    have h := h.pull hhas
    dsimp only [updG] at h
    rw [delO_drop, List.nil_append] at h
    have h := h.ord 7 [0, 4, 1, 2, 3, 5, 6]
    dsimp only [pick, nthO, dropO] at h
    have hna' := hM.na
    have ham := hM.n.am
    have hcl := hw.la _ (List.getElem_mem hc)
    rw [hpt]
    refine (holdA h (by omega) (by omega) (by omega)).mono ?_
    rintro _ w5 ⟨qa, qm, ls, g2, h1, h2, h3, h⟩
    refine hk1 _ _ ⟨i + 1, { t with A := t.A ++ ls, aq := qa, M := t.M ++ List.replicate ls.length (i : Int), am := qm }, g2 ++ gT, gU, rfl, by omega, htb, htl, hM.holdA (by omega) h1 h2 h3, ?_⟩ (by dsimp only; omega)
    have h := h.ord 7 [2, 3, 4, 1, 0, 5, 6]
    exact h.perm (by simp [pick, nthO, dropO])
  have hc : i = LA.length := by have : ¬ (i : Int) < (k.aq.len : Int) := of_decide_eq_false hc; omega
  subst hc
  clear hk1 hi
  have h : St w0 w4 (kpE k :: (rowsFE LE LE.length).drop 0 :: kpE t :: gT :: gU :: F) := h.drop 1
  refine LoopX.mk (fun st w' => ∃ (i : Nat) (t : Kp) (gT gU : List Ent), st = ((i : Int), ()) ∧ i ≤ LE.length ∧ t.cb = b ∧ t.late = false ∧ KpM t (LA.length + i) gT gU ∧ St w0 w' (kpE k :: (rowsFE LE LE.length).drop i :: kpE t :: gT :: gU :: F)) (fun st => ((LE.length : Int) - st.1).toNat) ⟨0, t, gT, gU, rfl, Nat.zero_le _, htb, htl, hM, h⟩ ?_
  clear h hM hpt htb htl
  rintro _ w5 ⟨i, t, gT, gU, rfl, hi, htb, htl, hM, h⟩ k1 hk1
  dsimp only at hk1 ⊢
  have hpt : (some (⟨b, 0, none⟩ : Addr)) = t.p := by show some _ = some _; rw [htb]
  refine NilP.mk ?_
  refine h.loadB 0 0 ⟨_, rfl, rfl⟩ rfl (kd := .sl) (x := k.eq) rfl ?_
  rw [SplitB_iff]
  refine ⟨fun hc => ?_, fun hc => ?_⟩
  · have hc : i < LE.length := by have : (i : Int) < (k.eq.len : Int) := of_decide_eq_true hc; omega
    have hem : IntKind.i64.wrap ((i : Int) + 1) = ((i + 1 : Nat) : Int) := by rw [wr (by omega)]; omega
    rw [hem]
    refine NilP.mk ?_
    refine h.loadB 0 0 ⟨_, rfl, rfl⟩ rfl (kd := .sl) (x := k.eq) rfl ?_
    refine (gE h).idxK i rfl (by omega) ?_
    intro g o hga
    refine (gE h).el hga (i * 1) rfl (kd := .sl) (x := LE[i].1) (atE i hc) ?_
    have hhas : Has (kpE k :: (rowsFE LE LE.length).drop i :: kpE t :: gT :: gU :: F) 1 0 (.row 54 2 LE[i].1 (rep (mvE (i : Int)) LE[i].2.length)) :=
      ⟨_, rfl, by rw [nthO_get, List.getElem?_drop, Nat.add_zero, rowsFE_at hc, fE, if_pos hc]⟩
    have h := h.pull hhas
    dsimp only [updG] at h
    rw [delO_drop, List.nil_append] at h
    have h := h.ord 6 [0, 3, 1, 2, 4, 5]
    dsimp only [pick, nthO, dropO] at h
    have hne' := hM.ne
    have hen := hM.n.en
    have hcl := hw.le _ (List.getElem_mem hc)
    rw [hpt]
    refine (holdE h (by omega) (by omega) (by omega)).mono ?_
    rintro _ w6 ⟨qa, qm, ls, g2, h1, h2, h3, h⟩
    refine hk1 _ _ ⟨i + 1, { t with E := t.E ++ ls, eq := qa, N := t.N ++ List.replicate ls.length (i : Int), em := qm }, gT, g2 ++ gU, rfl, by omega, htb, htl, hM.holdE (by omega) h1 h2 h3, ?_⟩ (by dsimp only; omega)
    have h := h.ord 6 [2, 3, 1, 4, 0, 5]
    exact h.perm (by simp [pick, nthO, dropO])
  have hna' := hM.na
  have hne' := hM.ne
  have h := h.ord 5 [2, 3, 4]
  dsimp only [pick, nthO, dropO] at h
  rw [hpt]
  exact whole_st h htl hM.n (by omega) (by omega) (fun s hs => by have := hM.la s hs; omega) (fun s hs => by have := hM.le s hs; omega)
/-- All that was answered is as it was left. -/
theorem all_whole {k : Kp} {N : Nat} {gA gW gE gX : List Ent} (h : St w0 w (kpE k :: gA :: gW :: gE :: gX :: F)) (hw : KpW k N gA gW gE gX) (hN : N ≤ 10000000) : CallK Try.prog .bool 17 #[.pointer k.p] w fun (v : Bool) w' => v = true ∧ Upd w0 w' nobody := by
  rcases hw with ⟨hlate, hw⟩ | ⟨hlate, LA, LW, LE, LX, rfl, rfl, rfl, rfl, hw⟩
  · have hna := hw.na
    have hne := hw.ne
    have h := h.ord 5 [0, 1, 3]
    dsimp only [pick, nthO, dropO] at h
    exact whole_st h hlate hw.n (by omega) (by omega) (fun s hs => by have := hw.la s hs; omega) (fun s hs => by have := hw.le s hs; omega)
  · refine T17.calls ?_
    unfold T17
    refine NilP.mk ?_
    refine h.loadB 0 0 ⟨_, rfl, rfl⟩ rfl (kd := .bool) (x := k.late) rfl ?_
    rw [hlate, SplitB_iff]
    refine ⟨fun _ => ?_, fun hf => (by cases hf)⟩
    refine (lately_st h hw hN).mono ?_
    rintro v w1 ⟨rfl, hu⟩
    exact ⟨rfl, hu⟩
end Go.Proofs.Ytmfbmfppjdkeeaa
