/- The pair: what was handed out stands apart. -/
import Derived.Test.YtbdhmeefjlkdcaaCkV
namespace Go.Proofs.Ytbdhmeefjlkdcaa
open Go Go.Fw Go.RowKit
set_option linter.unusedVariables false
set_option linter.unusedSimpArgs false
set_option maxRecDepth 4000
set_option maxHeartbeats 4000000
variable {w0 w : World} {F G : Grps}

def rwE (x : Sl × List Cl) : Ent := .row 32 2 x.1 (clvs x.2)
def mk1 (i : Nat) : Int := IntKind.i64.wrap (-1 - (i : Int))
def mk2 (i : Nat) : Int := IntKind.i64.wrap (-1000000 - (i : Int))
/-- The pair's cells, the row of the lists handed out, and these lists. -/
def apG (b : Nat) (cs : List Value) (fs : Sl) (xs : List (Sl × List Cl)) (F : Grps) : Grps := [.cel b 57 cs] :: [.row 60 1 fs (xs.map fun x => slv x.1)] :: xs.map rwE :: F
def same1 (xs ys : List (Sl × List Cl)) : Prop := xs.map (·.1) = ys.map (·.1)
theorem sl_at {xs : List (Sl × List Cl)} {i : Nat} (hi : i < xs.length) : (xs.map fun x => slv x.1)[i]? = some (.slice xs[i].1.a xs[i].1.len xs[i].1.cap) := by simp [hi, slv]
theorem clv_at0 {l : List Cl} {j : Nat} (hj : j < l.length) : (clvs l)[j * 2]? = some (.int .i64 l[j].1) := by
  have h1 := flat_at clv_len l j hj
  have h2 := congrArg (fun l => l[0]?) h1
  simp only [List.getElem?_take, List.getElem?_drop] at h2
  simp [clv] at h2
  exact h2
structure Gr where
  s : Sl
  n : Nat
  y : Sl
  g : List Ent
/-- The first list, and what grew from it, hold these marks. -/
structure GrW (i : Nat) (z : Gr) : Prop where
  far : FarS 32 2 (z.s, clvs (List.replicate z.n (mk1 i, 0))) (z.y, clvs (List.replicate z.n (mk1 i, 0) ++ List.replicate 100 (mk2 i, 0))) z.g
  len : z.y.len = z.n + 100
theorem apart_ap {cs : List Value} {b : Nat} {fs gs : Sl} {xs : List (Sl × List Cl)} {ys : List Sl} {M : Nat} (hc5 : nthO cs 5 = some (.slice fs.a fs.len fs.cap)) (hc6 : nthO cs 6 = some (.slice gs.a gs.len gs.cap)) (hM : xs.length ≤ 1000000) (hlen : ∀ x ∈ xs, x.2.length ≤ 64000000) (hys : ys.length = xs.length)
    (h : St w0 w (apG b cs fs xs ([.row 60 1 gs (ys.map slv)] :: (List.zipWith (fun (y : Sl) (x : Sl × List Cl) => Ent.row 32 2 y (clvs x.2)) ys xs) :: F))) :
    CallK Try.prog .bool 14 #[.pointer (some ⟨b, 0, none⟩)] w fun (v : Bool) w' => v = true ∧ St w0 w' F := by
  have hfl : fs.len = xs.length := by have := (h.rd (k := 1) (i := 0) ⟨_, rfl, rfl⟩).1; rw [List.length_map] at this; omega
  have hgl : gs.len = xs.length := by have := (h.rd (k := 3) (i := 0) ⟨_, rfl, rfl⟩).1; rw [List.length_map] at this; omega
  have hxl : ∀ (G : Grps) (w : World) (xs : List (Sl × List Cl)), St w0 w (apG b cs fs xs G) → ∀ i (hi : i < xs.length), xs[i].1.len = xs[i].2.length := fun G w xs h i hi => by
    have := (h.rd (k := 2) (i := i) (E := 32) (sz := 2) (s := xs[i].1) (vs := clvs xs[i].2) ⟨_, rfl, nthO_map rwE _ hi⟩).1
    rw [flat_len clv_len] at this; omega
  refine T14.calls ?_
  unfold T14
  refine LoopX.mk (fun st w' => ∃ i : Nat, st = ((i : Int), ()) ∧ i ≤ xs.length ∧ St w0 w' (apG b cs fs xs ([.row 60 1 gs (ys.map slv)] :: (List.zipWith (fun (y : Sl) (x : Sl × List Cl) => Ent.row 32 2 y (clvs x.2)) ys xs) :: F))) (fun st => ((xs.length : Int) - st.1).toNat) ⟨0, rfl, Nat.zero_le _, h⟩ ?_
  clear h
  rintro _ w1 ⟨i, rfl, hi, h⟩ k hk
  dsimp only at hk ⊢
  refine NilP.mk ?_
  refine h.loadB 0 0 ⟨_, rfl, rfl⟩ rfl (kd := .sl) (x := fs) hc5 ?_
  rw [SplitB_iff]
  refine ⟨fun hc => ?_, fun hc => ?_⟩
  · have hc : i < xs.length := by have : (i : Int) < (fs.len : Int) := of_decide_eq_true hc; omega
    refine NilP.mk ?_
    refine h.drew.readB 0 0 ⟨_, rfl, rfl⟩ rfl (kd := .sl) (x := fs) hc5 ?_
    have hrr := h.drew.rd (k := 1) (i := 0) ⟨_, rfl, rfl⟩
    refine hrr.idxR i rfl (by omega) ?_
    intro g o ha
    refine hrr.elR ha i (by rw [Nat.mul_one]) (kd := .sl) (x := xs[i].1) (sl_at hc) ?_
    refine NilP.mk ?_
    refine h.drew.readB 0 0 ⟨_, rfl, rfl⟩ rfl (kd := .sl) (x := gs) hc6 ?_
    have hrg := h.drew.rd (k := 3) (i := 0) ⟨_, rfl, rfl⟩
    refine hrg.idxR i rfl (by omega) ?_
    intro g2 o2 ha2
    have hiy : i < ys.length := by omega
    refine hrg.elR ha2 i (by rw [Nat.mul_one]) (kd := .sl) (x := ys[i]) (by simp [hiy, slv]; rfl) ?_
    have r1 := h.drew.rd (k := 2) (i := i) (E := 32) (sz := 2) (s := xs[i].1) (vs := clvs xs[i].2) ⟨_, rfl, nthO_map rwE _ hc⟩
    have r2 := h.drew.rd (k := 4) (i := i) (E := 32) (sz := 2) (s := ys[i]) (vs := clvs xs[i].2) ⟨_, rfl, by rw [nthO_get]; simp [List.getElem?_zipWith, hc, hiy]⟩
    refine (same_ok r1 r2 (by have := hlen _ (List.getElem_mem hc); omega)).mono ?_
    rintro v w2 ⟨hu, rfl⟩
    rw [SplitB_iff]
    refine ⟨fun hf => (by cases hf), fun _ => ?_⟩
    have e : IntKind.i64.wrap ((i : Int) + 1) = ((i + 1 : Nat) : Int) := by rw [wr (by omega)]; omega
    rw [e]
    exact hk _ _ ⟨i + 1, rfl, by omega, h.drew.keep hu⟩ (by dsimp only; omega)
  clear hc hk k hi i
  have h : St w0 w1 (apG b cs fs xs F) := (h.drop 3).drop 3
  -- the lists are written over
  refine LoopX.mk (fun st w' => ∃ (i : Nat) (zs : List (Sl × List Cl)), st = ((i : Int), ()) ∧ i ≤ zs.length ∧ same1 xs zs ∧ (∀ j (hj : j < zs.length), zs[j].2.length ≤ 64000000 ∧ (j < i → zs[j].2 = List.replicate zs[j].1.len (mk1 j, 0))) ∧ St w0 w' (apG b cs fs zs F)) (fun st => ((xs.length : Int) - st.1).toNat) ⟨0, xs, rfl, Nat.zero_le _, rfl, fun j hj => ⟨hlen _ (List.getElem_mem hj), fun h => by omega⟩, h⟩ ?_
  clear h hlen
  rintro _ w2 ⟨i, zs, rfl, hi, hsame, hz, h⟩ k hk
  have hzl : zs.length = xs.length := by have := congrArg List.length hsame; simpa using this.symm
  dsimp only at hk ⊢
  refine NilP.mk ?_
  refine h.loadB 0 0 ⟨_, rfl, rfl⟩ rfl (kd := .sl) (x := fs) hc5 ?_
  rw [SplitB_iff]
  refine ⟨fun hc => ?_, fun hc => ?_⟩
  · have hc : i < zs.length := by have : (i : Int) < (fs.len : Int) := of_decide_eq_true hc; omega
    have hzil := hxl _ _ _ h i hc
    refine LoopX.mk (fun st w' => ∃ (j : Nat), st = ((j : Int), ()) ∧ j ≤ zs[i].2.length ∧ St w0 w' (apG b cs fs (zs.set i (zs[i].1, List.replicate j (mk1 i, 0) ++ zs[i].2.drop j)) F)) (fun st => ((zs[i].2.length : Int) - st.1).toNat) ⟨0, rfl, Nat.zero_le _, by rw [show (zs[i].1, List.replicate 0 (mk1 i, (0 : Int)) ++ zs[i].2.drop 0) = zs[i] from by simp, List.set_getElem_self]; exact h⟩ ?_
    clear h
    rintro _ w3 ⟨j, rfl, hj, h⟩ k2 hk2
    dsimp only at hk2 ⊢
    have h64 := (hz i hc).1
    generalize hv : List.replicate j (mk1 i, (0 : Int)) ++ zs[i].2.drop j = v at h
    have hvl : v.length = zs[i].2.length := by rw [← hv]; simp; omega
    have hci : i < (zs.set i (zs[i].1, v)).length := by simpa using hc
    have hzi : (zs.set i (zs[i].1, v))[i] = (zs[i].1, v) := by simp
    have hfx : ∀ (w : World) (h : St w0 w (apG b cs fs (zs.set i (zs[i].1, v)) F)), Rd w fs 1 ((zs.set i (zs[i].1, v)).map fun x => slv x.1) := fun w h => h.rd (k := 1) (i := 0) ⟨_, rfl, rfl⟩
    have hat : ((zs.set i (zs[i].1, v)).map fun x => slv x.1)[i]? = some (.slice zs[i].1.a zs[i].1.len zs[i].1.cap) := by rw [sl_at hci, hzi]
    refine NilP.mk ?_
    refine h.loadB 0 0 ⟨_, rfl, rfl⟩ rfl (kd := .sl) (x := fs) hc5 ?_
    refine (hfx _ h).idxK i rfl (by omega) ?_
    intro g o ha
    refine (hfx _ h).el ha i (by rw [Nat.mul_one]) (kd := .sl) (x := zs[i].1) hat ?_
    rw [SplitB_iff]
    refine ⟨fun hd => ?_, fun hd => ?_⟩
    · have hd : j < zs[i].2.length := by have : (j : Int) < (zs[i].1.len : Int) := of_decide_eq_true hd; omega
      refine NilP.mk ?_
      refine h.loadB 0 0 ⟨_, rfl, rfl⟩ rfl (kd := .sl) (x := fs) hc5 ?_
      refine (hfx _ h).idxK i rfl (by omega) ?_
      intro g o ha
      refine (hfx _ h).el ha i (by rw [Nat.mul_one]) (kd := .sl) (x := zs[i].1) hat ?_
      have hrow : Has (apG b cs fs (zs.set i (zs[i].1, v)) F) 2 i (.row 32 2 zs[i].1 (clvs v)) := ⟨_, rfl, by rw [nthO_map rwE _ hci, hzi]; rfl⟩
      have hre := h.rd hrow
      refine hre.idxK j rfl (by omega) ?_
      intro g2 o2 ha2
      refine h.storRA 2 i hrow ha2 (t' := 32) (n := 2) (j * 2) rfl (ds := clv (mk1 i, 0)) (by rw [flat_len clv_len, hvl]; omega) rfl (by decide) rfl ?_
      intro w4 h
      rw [clvs_set v j _ (by omega)] at h
      have e1 : updG (apG b cs fs (zs.set i (zs[i].1, v)) F) 2 i [.row 32 2 zs[i].1 (clvs (v.set j (mk1 i, 0)))] = apG b cs fs (zs.set i (zs[i].1, v.set j (mk1 i, 0))) F := by
        simp only [apG, updG, setO_set, List.map_set, List.set_set, rwE]
      rw [e1] at h
      have e : IntKind.i64.wrap ((j : Int) + 1) = ((j + 1 : Nat) : Int) := by rw [wr (by omega)]; omega
      rw [e]
      refine hk2 _ _ ⟨j + 1, rfl, by omega, ?_⟩ (by dsimp only; omega)
      have e2 : v.set j (mk1 i, 0) = List.replicate (j + 1) (mk1 i, (0 : Int)) ++ zs[i].2.drop (j + 1) := by
        rw [← hv, List.set_append_right _ _ (by simp), List.length_replicate, Nat.sub_self, List.drop_eq_getElem_cons hd, List.set_cons_zero, List.replicate_succ', List.append_assoc]
        rfl
      rw [e2] at h
      exact h
    · have hd : j = zs[i].2.length := by have : ¬ (j : Int) < (zs[i].1.len : Int) := of_decide_eq_false hd; omega
      have e : IntKind.i64.wrap ((i : Int) + 1) = ((i + 1 : Nat) : Int) := by rw [wr (by omega)]; omega
      rw [e]
      have ev : v = List.replicate zs[i].1.len (mk1 i, 0) := by rw [← hv, hd, List.drop_of_length_le (Nat.le_refl _), List.append_nil, hzil]
      refine hk _ _ ⟨i + 1, zs.set i (zs[i].1, v), rfl, by simp; omega, ?_, fun m hm => ?_, h⟩ (by dsimp only; omega)
      · have e9 : zs[i].1 = (zs.map (·.1))[i]'(by simpa using hc) := by simp
        rw [same1, hsame, List.map_set]
        show zs.map (·.1) = (zs.map (·.1)).set i zs[i].1
        rw [e9, List.set_getElem_self]
      · rw [List.length_set] at hm
        by_cases he : i = m
        · subst he
          simp only [List.getElem_set_self]
          exact ⟨by omega, fun _ => ev⟩
        · simp only [List.getElem_set_ne he]
          refine ⟨(hz m hm).1, fun hlt => (hz m hm).2 (by omega)⟩
  have hc : i = zs.length := by have : ¬ (i : Int) < (fs.len : Int) := of_decide_eq_false hc; omega
  subst hc
  clear hk k
  have hfl : fs.len = zs.length := by omega
  have hzr : ∀ j (hj : j < zs.length), zs[j].2 = List.replicate zs[j].1.len (mk1 j, 0) := fun j hj => (hz j hj).2 hj
  have hzlen : ∀ j (hj : j < zs.length), zs[j].1.len ≤ 64000000 := fun j hj => by have := (hz j hj).1; rw [hzr j hj, List.length_replicate] at this; exact this
  have hzM : zs.length ≤ 1000000 := by omega
  clear hz hsame hzl hgl hys hM hc6 hxl
  -- each grows
  have h := St.empty.2 ((h.nilrow 60 1).ord 4 [1, 2, 3, 0])
  have h := h.ord 5 [1, 2, 3, 4, 0]
  have h : St w0 w2 ([.cel b 57 cs] :: [.row 60 1 fs (zs.map fun x => slv x.1)] :: (zs.drop 0).map rwE :: [.row 60 1 ⟨none, 0, 0⟩ (([] : List Gr).map fun z => slv z.y)] :: (([] : List Gr).flatMap (·.g)) :: F) := h
  refine LoopX.mk (fun (st : Sl × Int × Unit) w' => ∃ grs : List Gr, st.2.1 = (grs.length : Int) ∧ grs.length ≤ zs.length ∧ (∀ j (hj : j < grs.length) (hj2 : j < zs.length), grs[j].s = zs[j].1 ∧ grs[j].n = zs[j].1.len ∧ GrW j grs[j]) ∧ St w0 w' ([.cel b 57 cs] :: [.row 60 1 fs (zs.map fun x => slv x.1)] :: (zs.drop grs.length).map rwE :: [.row 60 1 st.1 (grs.map fun z => slv z.y)] :: (grs.flatMap (·.g)) :: F)) (fun st => ((zs.length : Int) - st.2.1).toNat) ⟨[], rfl, Nat.zero_le _, fun j hj => by simp at hj, h⟩ ?_
  clear h
  rintro ⟨d, _, ⟨⟩⟩ w3 ⟨grs, rfl, hgl, hgr, h⟩ k hk
  dsimp only at hk h ⊢
  refine NilP.mk ?_
  refine h.loadB 0 0 ⟨_, rfl, rfl⟩ rfl (kd := .sl) (x := fs) hc5 ?_
  rw [SplitB_iff]
  refine ⟨fun hc => ?_, fun hc => ?_⟩
  · have hc : grs.length < zs.length := by have : (grs.length : Int) < (fs.len : Int) := of_decide_eq_true hc; omega
    generalize hI : grs.length = i at hc h hk hgl
    have hz64 := hzlen i hc
    refine NilP.mk ?_
    refine h.loadB 0 0 ⟨_, rfl, rfl⟩ rfl (kd := .sl) (x := fs) hc5 ?_
    have hrr := h.rd (k := 1) (i := 0) ⟨_, rfl, rfl⟩
    refine hrr.idxK i rfl (by omega) ?_
    intro g o ha
    refine hrr.el ha i (by rw [Nat.mul_one]) (kd := .sl) (x := zs[i].1) (sl_at hc) ?_
    rw [List.drop_eq_getElem_cons hc] at h
    have hdl : d.len = i := by have := (h.rd (k := 3) (i := 0) ⟨_, rfl, rfl⟩).1; rw [List.length_map] at this; omega
    have hrow : Has ([.cel b 57 cs] :: [.row 60 1 fs (zs.map fun x => slv x.1)] :: (zs[i] :: zs.drop (i + 1)).map rwE :: [.row 60 1 d (grs.map fun z => slv z.y)] :: (grs.flatMap (·.g)) :: F) 2 0 (.row 32 2 zs[i].1 (clvs zs[i].2)) := ⟨_, rfl, rfl⟩
    have hcap := (h.rd hrow).2.2
    have h := h.pull hrow
    have h : St w0 w3 ([.row 32 2 zs[i].1 (clvs zs[i].2)] :: [.cel b 57 cs] :: [.row 60 1 fs (zs.map fun x => slv x.1)] :: (zs.drop (i + 1)).map rwE :: [.row 60 1 d (grs.map fun z => slv z.y)] :: (grs.flatMap (·.g)) :: F) := h
    rw [hzr i hc] at h
    refine LoopX.mk (fun st w' => ∃ (d2 : Sl) (n : Nat), st = (d2, (n : Int), ()) ∧ n ≤ 100 ∧ GrowS 32 2 w0 w' zs[i].1 (clvs (List.replicate zs[i].1.len (mk1 i, 0))) d2 n (clvs (List.replicate n (mk2 i, 0))) ([.cel b 57 cs] :: [.row 60 1 fs (zs.map fun x => slv x.1)] :: (zs.drop (i + 1)).map rwE :: [.row 60 1 d (grs.map fun z => slv z.y)] :: (grs.flatMap (·.g)) :: F)) (fun st => (100 - st.2.1).toNat) ⟨zs[i].1, 0, rfl, by omega, GrowS.start h⟩ ?_
    clear h
    rintro _ w4 ⟨d2, n, rfl, hn, h⟩ k2 hk2
    dsimp only at hk2 ⊢
    rw [SplitB_iff]
    refine ⟨fun he => ?_, fun he => ?_⟩
    · have he : n < 100 := by have : (n : Int) < 100 := of_decide_eq_true he; omega
      refine h.app (by_ := 16) (clv (mk2 i, 0)) rfl rfl (bs60 · _ _) (by omega) (by omega) ?_
      intro d' w5 h
      have e : IntKind.i64.wrap ((n : Int) + 1) = ((n + 1 : Nat) : Int) := by rw [wr (by omega)]; omega
      rw [e]
      have e2 : clvs (List.replicate n (mk2 i, (0 : Int))) ++ clv (mk2 i, 0) = clvs (List.replicate (n + 1) (mk2 i, 0)) := by rw [List.replicate_succ', clvs, clvs, List.flatMap_append]; rfl
      rw [e2] at h
      exact hk2 _ _ ⟨d', n + 1, rfl, by omega, h⟩ (by dsimp only; omega)
    · have he : n = 100 := by have : ¬ (n : Int) < 100 := of_decide_eq_false he; omega
      subst he
      have hd2 := h.2.2.1
      obtain ⟨g, hfar, h⟩ := h.far hcap
      refine h.newS 1 (bs55 _ _ _ _) rfl rfl rfl ?_
      intro u w5 hu1 hu2 _ h
      have hru := h.rd (k := 0) (i := 0) ⟨_, rfl, rfl⟩
      refine h.app 5 0 (s := d) (xs := grs.map fun z => slv z.y) ⟨_, rfl, rfl⟩ hru one_slice (by simp only [maxLen]; omega) (by omega) ?_
      intro d3 w6 hd3 h
      have h := h.drop 0
      have h := St.two.2 (h.ord 6 [5, 0, 1, 2, 3, 4])
      have h := h.ord 5 [1, 2, 3, 4, 0]
      have e : IntKind.i64.wrap ((i : Int) + 1) = ((i + 1 : Nat) : Int) := by rw [wr (by omega)]; omega
      rw [e]
      refine hk _ _ ⟨grs ++ [⟨zs[i].1, zs[i].1.len, d2, g⟩], by simp [hI], by simp [hI]; omega, fun j hj hj2 => ?_, ?_⟩ (by dsimp only; omega)
      · rcases Nat.lt_or_ge j grs.length with h1 | h1
        · rw [List.getElem_append_left h1]; exact hgr j h1 hj2
        · have hj3 : j = i := by simp at hj; omega
          subst hj3
          rw [List.getElem_append_right (by omega)]
          simp only [hI, Nat.sub_self, List.getElem_cons_zero]
          refine ⟨trivial, trivial, ?_, hd2⟩
          show FarS 32 2 (zs[j].1, clvs (List.replicate zs[j].1.len (mk1 j, 0))) (d2, clvs (List.replicate zs[j].1.len (mk1 j, 0) ++ List.replicate 100 (mk2 j, 0))) g
          have e7 : clvs (List.replicate zs[j].1.len (mk1 j, (0 : Int)) ++ List.replicate 100 (mk2 j, (0 : Int))) = clvs (List.replicate zs[j].1.len (mk1 j, 0)) ++ clvs (List.replicate 100 (mk2 j, 0)) := List.flatMap_append
          rw [e7]
          exact hfar
      · have e5 : (grs ++ [(⟨zs[i].1, zs[i].1.len, d2, g⟩ : Gr)]).length = i + 1 := by simp [hI]
        have h : St w0 w6 ([.cel b 57 cs] :: [.row 60 1 fs (zs.map fun x => slv x.1)] :: (zs.drop (i + 1)).map rwE :: [.row 60 1 d3 (grs.map (fun z => slv z.y) ++ [slv d2])] :: (grs.flatMap (·.g) ++ g) :: F) := h
        have e6 : (grs ++ [(⟨zs[i].1, zs[i].1.len, d2, g⟩ : Gr)]).flatMap (·.g) = grs.flatMap (·.g) ++ g := by rw [List.flatMap_append]; simp
        have e8 : (grs ++ [(⟨zs[i].1, zs[i].1.len, d2, g⟩ : Gr)]).map (fun z => slv z.y) = grs.map (fun z => slv z.y) ++ [slv d2] := by rw [List.map_append]; rfl
        rw [e5, e6, e8]
        exact h
  · have hc : grs.length = zs.length := by have : ¬ (grs.length : Int) < (fs.len : Int) := of_decide_eq_false hc; omega
    clear hk k
    have hdl : d.len = grs.length := by have := (h.rd (k := 3) (i := 0) ⟨_, rfl, rfl⟩).1; rw [List.length_map] at this; omega
    generalize hM : (zs.drop grs.length).map rwE = R at h
    refine LoopX.mk (fun st w' => ∃ i : Nat, st = ((i : Int), ()) ∧ i ≤ grs.length ∧ St w0 w' ([.cel b 57 cs] :: [.row 60 1 fs (zs.map fun x => slv x.1)] :: R :: [.row 60 1 d (grs.map fun z => slv z.y)] :: (grs.flatMap (·.g)) :: F)) (fun st => ((grs.length : Int) - st.1).toNat) ⟨0, rfl, Nat.zero_le _, h⟩ ?_
    clear h
    rintro _ w4 ⟨i, rfl, hi, h⟩ k hk
    dsimp only at hk ⊢
    rw [SplitB_iff]
    refine ⟨fun hd => ?_, fun hd => ?_⟩
    · have hd : i < grs.length := by have : (i : Int) < (d.len : Int) := of_decide_eq_true hd; omega
      have hdz : i < zs.length := by omega
      obtain ⟨z1, z2, z3⟩ := hgr i hd hdz
      have hz64 := hzlen i hdz
      have hyl := z3.len
      have hmem : ∀ e ∈ grs[i].g, e ∈ grs.flatMap (·.g) := fun e he => List.mem_flatMap.2 ⟨_, List.getElem_mem hd, he⟩
      refine NilP.mk ?_
      refine h.loadB 0 0 ⟨_, rfl, rfl⟩ rfl (kd := .sl) (x := fs) hc5 ?_
      have hrr := h.rd (k := 1) (i := 0) ⟨_, rfl, rfl⟩
      refine hrr.idxK i rfl (by omega) ?_
      intro g o ha
      refine hrr.el ha i (by rw [Nat.mul_one]) (kd := .sl) (x := zs[i].1) (sl_at hdz) ?_
      refine LoopX.mk (fun st w' => ∃ j : Nat, st = ((j : Int), ()) ∧ j ≤ grs[i].y.len ∧ St w0 w' ([.cel b 57 cs] :: [.row 60 1 fs (zs.map fun x => slv x.1)] :: R :: [.row 60 1 d (grs.map fun z => slv z.y)] :: (grs.flatMap (·.g)) :: F)) (fun st => ((grs[i].y.len : Int) - st.1).toNat) ⟨0, rfl, Nat.zero_le _, h⟩ ?_
      clear h hrr ha
      rintro _ w5 ⟨j, rfl, hj, h⟩ k2 hk2
      dsimp only at hk2 ⊢
      obtain ⟨ry, rs⟩ := z3.far.reads h (k := 4) rfl hmem
      have hrd := h.rd (k := 3) (i := 0) ⟨_, rfl, rfl⟩
      have hrf := h.rd (k := 1) (i := 0) ⟨_, rfl, rfl⟩
      have hyat : (grs.map fun z => slv z.y)[i]? = some (.slice grs[i].y.a grs[i].y.len grs[i].y.cap) := by simp [hd, slv]
      have hlong : ∀ {K : Addr → World → Prop}, (∀ g o, K ⟨g, o + i * 1, none⟩ w5) → RunN Try.prog .addr (V (Instr.indexAt 55 (.slice d.a d.len d.cap) (.int .i64 (i : Int)))) w5 K := fun {K} hK => hrd.idxK i rfl (by omega) fun g o _ => hK g o
      refine hrd.idxK i rfl (by omega) ?_
      intro g o ha
      refine hrd.el ha i (by rw [Nat.mul_one]) (kd := .sl) (x := grs[i].y) hyat ?_
      rw [SplitB_iff]
      refine ⟨fun he => ?_, fun he => ?_⟩
      · have he : j < grs[i].y.len := by have : (j : Int) < (grs[i].y.len : Int) := of_decide_eq_true he; omega
        have eV : ∀ m (hm : m < grs[i].n + 100), (clvs (List.replicate grs[i].n (mk1 i, (0 : Int)) ++ List.replicate 100 (mk2 i, 0)))[m * 2]? = some (.int .i64 (if m < grs[i].n then mk1 i else mk2 i)) := fun m hm => by
          rw [clv_at0 (by rw [List.length_append, List.length_replicate, List.length_replicate]; exact hm)]
          by_cases hm2 : m < grs[i].n
          · rw [List.getElem_append_left (by rw [List.length_replicate]; exact hm2), List.getElem_replicate, if_pos hm2]
          · rw [List.getElem_append_right (by rw [List.length_replicate]; omega), List.getElem_replicate, if_neg hm2]
        refine JoinX.mk (fun (y : Bool × Unit) w' => y.1 = false ∧ St w0 w' ([.cel b 57 cs] :: [.row 60 1 fs (zs.map fun x => slv x.1)] :: R :: [.row 60 1 d (grs.map fun z => slv z.y)] :: (grs.flatMap (·.g)) :: F)) ?_ ?_
        · rintro ⟨y, ⟨⟩⟩ w6 ⟨hy, h⟩
          dsimp only at hy
          subst hy
          rw [SplitB_iff]
          refine ⟨fun hf => (by cases hf), fun _ => ?_⟩
          have e : IntKind.i64.wrap ((j : Int) + 1) = ((j + 1 : Nat) : Int) := by rw [wr (by omega)]; omega
          rw [e]
          exact hk2 _ _ ⟨j + 1, rfl, by omega, h⟩ (by dsimp only; omega)
        · intro k15 hk15
          rw [SplitB_iff]
          refine ⟨fun hf => ?_, fun hf => ?_⟩
          · have hf : j < grs[i].n := by have : (j : Int) < (zs[i].1.len : Int) := of_decide_eq_true hf; omega
            refine NilP.mk ?_
            refine h.loadB 0 0 ⟨_, rfl, rfl⟩ rfl (kd := .sl) (x := fs) hc5 ?_
            refine hrf.idxK i rfl (by omega) ?_
            intro g o ha
            refine hrf.el ha i (by rw [Nat.mul_one]) (kd := .sl) (x := zs[i].1) (sl_at hdz) ?_
            rw [z1] at rs
            refine rs.idxK j rfl (show j < zs[i].1.len by omega) ?_
            intro g o ha
            refine rs.el ha (j * 2) rfl (kd := .int .i64) (x := mk1 i) (by rw [clv_at0 (by simpa using hf)]; simp; rfl) ?_
            rw [SplitB_iff]
            refine ⟨fun hx => ?_, fun hx => ?_⟩
            · have hx : (mk1 i != mk1 i) = true := hx
              simp at hx
            refine hrd.idxK i rfl (by omega) ?_
            intro g o ha
            refine hrd.el ha i (by rw [Nat.mul_one]) (kd := .sl) (x := grs[i].y) hyat ?_
            refine ry.idxK j rfl he ?_
            intro g o ha
            refine ry.el ha (j * 2) rfl (kd := .int .i64) (x := mk1 i) (by rw [eV j (by omega), if_pos hf]; rfl) ?_
            rw [SplitB_iff]
            refine ⟨fun hx => ?_, fun hx => ?_⟩
            · have hx : (mk1 i != mk1 i) = true := hx
              simp at hx
            rw [SplitB_iff]
            refine ⟨fun hx => ?_, fun hx => ?_⟩
            · have hx : (j : Int) ≥ (zs[i].1.len : Int) := of_decide_eq_true hx
              omega
            exact hk15 _ _ ⟨rfl, h⟩
          · have hf : ¬ j < grs[i].n := by have : ¬ (j : Int) < (zs[i].1.len : Int) := of_decide_eq_false hf; omega
            rw [SplitB_iff]
            refine ⟨fun hx => ?_, fun hx => ?_⟩
            · refine hrd.idxK i rfl (by omega) ?_
              intro g o ha
              refine hrd.el ha i (by rw [Nat.mul_one]) (kd := .sl) (x := grs[i].y) hyat ?_
              refine ry.idxK j rfl he ?_
              intro g o ha
              refine ry.el ha (j * 2) rfl (kd := .int .i64) (x := mk2 i) (by rw [eV j (by omega), if_neg hf]; rfl) ?_
              refine hk15 _ _ ⟨?_, h⟩
              show (mk2 i != mk2 i) = false
              simp
            · have hx : ¬ (j : Int) ≥ (zs[i].1.len : Int) := of_decide_eq_false hx
              omega
      · have e : IntKind.i64.wrap ((i : Int) + 1) = ((i + 1 : Nat) : Int) := by rw [wr (by omega)]; omega
        rw [e]
        exact hk _ _ ⟨i + 1, rfl, by omega, h⟩ (by dsimp only; omega)
    · exact ⟨rfl, ((((h.drop 0).drop 0).drop 0).drop 0).drop 0⟩
end Go.Proofs.Ytbdhmeefjlkdcaa
