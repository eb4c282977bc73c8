/- The law of the copied disk. -/
import Derived.Test.YtpdaoahamgegoaaDkE
import Derived.Test.YtpdaoahamgegoaaDkL
namespace Go.Proofs.Ytpdaoahamgegoaa
open Go Go.Fw Go.RowKit
set_option linter.unusedVariables false
set_option linter.unusedSimpArgs false
set_option maxRecDepth 4000
set_option maxHeartbeats 4000000
variable {w0 w : World} {F G : Grps} {d : D}

theorem cont_set {c2 : D} {l : List (List UInt8)} {m : Nat} {c : List UInt8} (h : c2.abs.ims = l.set m c) (hm : m < c2.secs.length) : cont c2.secs[m] = c := by
  have hl : m < l.length := by have := congrArg List.length h; simp at this; omega
  have := congrArg (fun a => a[m]?) h
  simp [D.abs, hm, hl] at this
  exact this
theorem law5 {wi : World} {p p2 : Sl} {os os2 : List Pt} (hp : Rd wi p 2 (pts os)) (hp2 : Rd wi p2 2 (pts os2)) {x : Int} : CallK Try.prog .bool 5 #[.int .i64 x, .slice p.a p.len p.cap, .slice p2.a p2.len p2.cap] wi fun (r : Bool) w' => Upd wi w' nobody ∧ r = true := by
  have hl := pts_rd hp
  have hl2 := pts_rd hp2
  have h := St.init wi
  refine T5.calls ?_
  unfold T5
  refine JoinX.mk (fun j w' => (j.1 = false → os.length ≤ 200 ∧ os2.length ≤ 200) ∧ St wi w' []) ?_ ?_
  · rintro ⟨j0, ⟨⟩⟩ w ⟨hj, h⟩
    dsimp only at hj h ⊢
    rw [SplitB_iff]
    refine ⟨fun _ => ⟨h.upd, rfl⟩, fun hz => ?_⟩
    obtain ⟨hz, hz2⟩ := hj hz
    clear hj
    refine (count_ok x).mono ?_
    rintro r w' ⟨hw', n, rfl, hn1, hn2⟩
    subst hw'
    refine (new_st h hn1 (by omega)).mono ?_
    rintro r w ⟨b, s, rfl, h⟩
    refine JoinX.mk (fun j w' => j.1 = false ∧ St wi w' (dg (fresh b s n) :: [])) ?_ ?_
    · rintro ⟨_, ⟨⟩⟩ w ⟨hj, h⟩
      dsimp only at hj h ⊢
      subst hj
      rw [SplitB_iff]
      refine ⟨(fun hz => by cases hz), fun _ => ?_⟩
      refine LoopX.mk (fun st w' => ∃ (i : Nat) (d : D), i ≤ os.length ∧ st.1 = (i : Int) ∧ d.b = b ∧ DOk d ∧ d.off = false ∧ d.armed = false ∧ d.wr = i ∧ d.secs.length = n ∧ St wi w' (dg d :: [])) (fun st => os.length - st.1.toNat)
        ⟨0, fresh b s n, by omega, rfl, rfl, fresh_ok _ _ (by omega), rfl, rfl, rfl, by simp [fresh], h⟩ ?_
      clear h
      rintro ⟨_, ⟨⟩⟩ w ⟨i, d, hi, rfl, rfl, ok, ho, ha, hdw, hdl, h⟩ K hK
      dsimp only at h hK ⊢
      rw [SplitB_iff]
      refine ⟨fun hc => ?_, fun hc => ?_⟩
      · have hc : i < os.length := by have := of_decide_eq_true hc; omega
        have h := h.drew
        refine (h.old hp).idxR i rfl (by omega) ?_
        intro b1 o1 hb1
        refine (h.old hp).elR hb1 (i * 2 + 0) (by simp only [add_lit', Nat.add_assoc]) (kd := .int .i64) (x := os[i].1) (by rw [pts_get os i 0 hc (by decide)]; rfl) ?_
        refine (h.old hp).idxR i rfl (by omega) ?_
        intro b2 o2 hb2
        refine (h.old hp).elR hb2 (i * 2 + 1) (by simp only [add_lit', Nat.add_assoc]) (kd := .int .u8) (x := (os[i].2.toNat : Int)) (by rw [pts_get os i 1 hc (by decide)]; rfl) ?_
        refine (slot_ok (by omega) (by omega)).mono ?_
        rintro r w' ⟨hw', rfl⟩
        subst hw'
        refine ⟨StillV.el (h.old hp) hb2 (i * 2 + 1) (by simp only [add_lit', Nat.add_assoc]) (by rw [pts_get os i 1 hc (by decide)]; rfl), ?_⟩
        refine ⟨StillV.idx (h.old hp) hb2 i rfl (by omega), ?_⟩
        obtain ⟨hs0, hs1⟩ := slotI_lt (i := os[i].1) (n := (n : Int)) (by omega)
        obtain ⟨m, hm⟩ : ∃ m : Nat, slotI os[i].1 (n : Int) = (m : Int) := ⟨(slotI os[i].1 (n : Int)).toNat, by omega⟩
        rw [hm] at hs1 ⊢
        refine (full_st os[i].2 h).mono ?_
        rintro t w ⟨htl, h⟩
        have h := h.bring 1 rfl
        dsimp only [delO] at h
        refine (write_st h ok (by omega) (p := t) (c := List.replicate 512 os[i].2) (fun w h => h.rd (k := 0) (i := 0) ⟨_, rfl, rfl⟩) (m : Int)).mono ?_
        rintro r w ⟨_, d', hb', hd', ok', h⟩
        rw [A.write_ok ho ha (by rw [abs_len]; omega) (by simp)] at hd'
        have h := h.drop 1
        refine hK _ _ ⟨i + 1, d', by omega, by dsimp only; rw [wr (by omega)]; omega, hb', ok', (congrArg A.off hd').trans ho, (congrArg A.armed hd').trans ha, ?_, ?_, h⟩ (by dsimp only; rw [wr (by omega)]; omega)
        · have := congrArg A.wr hd'
          dsimp only [D.abs] at this; rw [this, hdw]; omega
        · have := congrArg (fun a => a.ims.length) hd'
          simp at this; omega
      · have hio : i = os.length := by have := of_decide_eq_false hc; omega
        have hI5 := ims_len ok
        have hIl : d.abs.ims.length = n := by rw [abs_len]; exact hdl
        have hIf := len_flat hI5
        generalize hI : d.abs.ims = I at hI5 hIl hIf
        have hbl : ∀ l : List UInt8, (ByteArray.mk l.toArray).toList = l := fun l => by simp [ByteArray.toList_eq]
        have himg : ∀ {w : World} {F : Grps}, St wi w (dg d :: F) → CallK Try.prog .sl 22 #[.pointer d.p] w fun (r : Sl) w' => St wi w' ([.row 5 1 r (bys I.flatten)] :: dg d :: F) := fun h => by
          rw [← hI]; exact image_st h ok
        refine (himg h).mono ?_
        rintro t w h
        refine RunN.toStr str30 (h.rd (k := 0) (i := 0) ⟨_, rfl, rfl⟩) ?_
        refine (from_st h (p := t) (ls := I) (fun w h => h.rd (k := 0) (i := 0) ⟨_, rfl, rfl⟩) hI5 (by omega) (by omega)).mono ?_
        rintro r w ⟨c, rfl, okc, hcd, h⟩
        have hcl : c.secs.length = n := by
          have := congrArg (fun a => a.ims.length) hcd
          simp at this; omega
        have hcI : c.abs.ims = I := congrArg A.ims hcd
        refine JoinX.mk (fun j w' => j.1 = false ∧ St wi w' (dg c :: [.row 5 1 t (bys I.flatten)] :: dg d :: [])) ?_ ?_
        · rintro ⟨_, ⟨⟩⟩ w ⟨hj, h⟩
          dsimp only at hj h ⊢
          subst hj
          rw [SplitB_iff]
          refine ⟨(fun hz => by cases hz), fun _ => ?_⟩
          have h := h.bring 1 rfl
          dsimp only [delO] at h
          refine (spoil_st h (by rw [hIf]; omega)).mono ?_
          rintro ⟨⟩ w h
          refine JoinX.mk (fun j w' => j.1 = false ∧ St wi w' (dg c :: dg d :: [])) ?_ ?_
          · rintro ⟨_, ⟨⟩⟩ w ⟨hj, h⟩
            dsimp only at hj h ⊢
            subst hj
            rw [SplitB_iff]
            refine ⟨(fun hz => by cases hz), fun _ => ?_⟩
            have hco : c.off = false := congrArg A.off hcd
            have hca : c.armed = false := congrArg A.armed hcd
            have hcw : c.wr = 0 := congrArg A.wr hcd
            refine LoopX.mk (fun st w' => ∃ (i : Nat) (c' : D), i ≤ os2.length ∧ st.1 = (i : Int) ∧ c'.b = c.b ∧ DOk c' ∧ c'.off = false ∧ c'.armed = false ∧ c'.wr = i ∧ c'.secs.length = n ∧ St wi w' (dg c' :: dg d :: [])) (fun st => os2.length - st.1.toNat)
              ⟨0, c, by omega, rfl, rfl, okc, hco, hca, hcw, hcl, h⟩ ?_
            clear h hco hca hcw okc hcl hcI hcd
            rintro ⟨_, ⟨⟩⟩ w ⟨i2, c1, hi2, rfl, hb1, okc, hco, hca, hcw, hcl, h⟩ K hK
            dsimp only at h hK ⊢
            have hpc : c.p = c1.p := by simp only [D.p]; rw [hb1]
            rw [hpc]
            rw [SplitB_iff]
            refine ⟨fun hc => ?_, fun hc => ?_⟩
            · have hc : i2 < os2.length := by have := of_decide_eq_true hc; omega
              have v0 : (pts os2)[i2 * 2 + 0]? = some (Kd.val (.int .i64) os2[i2].1) := by rw [pts_get os2 i2 0 hc (by decide)]; rfl
              have v1 : (pts os2)[i2 * 2 + 1]? = some (Kd.val (.int .u8) (os2[i2].2.toNat : Int)) := by rw [pts_get os2 i2 1 hc (by decide)]; rfl
              obtain ⟨hs0, hs1⟩ := slotI_lt (i := os2[i2].1) (n := (n : Int)) (by omega)
              obtain ⟨m, hm⟩ : ∃ m : Nat, slotI os2[i2].1 (n : Int) = (m : Int) := ⟨(slotI os2[i2].1 (n : Int)).toNat, by omega⟩
              have h := h.drew
              refine (h.old hp2).idxR i2 rfl (by omega) ?_
              intro b1 o1 hb1
              refine (h.old hp2).elR hb1 (i2 * 2 + 0) (by simp only [add_lit', Nat.add_assoc]) v0 ?_
              refine (h.old hp2).idxR i2 rfl (by omega) ?_
              intro b2 o2 hb2
              refine (h.old hp2).elR hb2 (i2 * 2 + 1) (by simp only [add_lit', Nat.add_assoc]) v1 ?_
              refine (slot_ok (by omega) (by omega)).mono ?_
              rintro r w' ⟨hw', rfl⟩
              subst hw'
              refine ⟨StillV.el (h.old hp2) hb2 (i2 * 2 + 1) (by simp only [add_lit', Nat.add_assoc]) v1, ?_⟩
              refine ⟨StillV.idx (h.old hp2) hb2 i2 rfl (by omega), ?_⟩
              rw [hm] at hs1 ⊢
              have hmn : m < n := by omega
              refine (full_st os2[i2].2 h).mono ?_
              rintro t w ⟨htl, h⟩
              have h := h.bring 1 rfl
              dsimp only [delO] at h
              refine (write_st h okc (by omega) (p := t) (c := List.replicate 512 os2[i2].2) (fun w h => h.rd (k := 0) (i := 0) ⟨_, rfl, rfl⟩) (m : Int)).mono ?_
              rintro r w ⟨_, c2, hb2, hd2, okc2, h⟩
              rw [A.write_ok hco hca (by rw [abs_len]; omega) (by simp)] at hd2
              have h := h.drop 1
              dsimp only [delO] at h
              have hc2l : c2.secs.length = n := by
                have := congrArg (fun a => a.ims.length) hd2
                simp at this; omega
              have hc2o : c2.off = false := (congrArg A.off hd2).trans hco
              have hc2a : c2.armed = false := (congrArg A.armed hd2).trans hca
              have hc2w : c2.wr = (i2 + 1 : Nat) := by
                have := congrArg A.wr hd2
                dsimp only [D.abs] at this; rw [this, hcw]; omega
              have hct : cont (c2.secs[m]'(by omega)) = List.replicate 512 os2[i2].2 := by
                exact cont_set (congrArg A.ims hd2) (by omega)
              have hpc2 : c1.p = c2.p := by simp only [D.p]; rw [hb2]
              rw [hpc2]
              refine (h.old hp2).idxK i2 rfl (by omega) ?_
              intro b3 o3 hb3
              refine (h.old hp2).el hb3 (i2 * 2 + 0) (by simp only [add_lit', Nat.add_assoc]) v0 ?_
              refine (slot_ok (by omega) (by omega)).mono ?_
              rintro r w' ⟨hw', rfl⟩
              subst hw'
              rw [hm]
              refine (read_st h okc2 (n := m) (by omega) hc2o).mono ?_
              rintro ⟨rs, re, ⟨⟩⟩ w ⟨_, hrl, h⟩
              dsimp only at hrl h ⊢
              rw [hct] at h
              refine (h.old hp2).idxK i2 rfl (by omega) ?_
              intro b4 o4 hb4
              refine (h.old hp2).el hb4 (i2 * 2 + 1) (by simp only [add_lit', Nat.add_assoc]) v1 ?_
              refine (full_st os2[i2].2 h).mono ?_
              rintro t4 w ⟨ht4, h⟩
              refine (same_ok (h.rd (k := 1) (i := 0) ⟨_, rfl, rfl⟩) (h.rd (k := 0) (i := 0) ⟨_, rfl, rfl⟩)).mono ?_
              rintro r w' ⟨hw', rfl⟩
              subst hw'
              have h := h.drop 0
              dsimp only [delO] at h
              refine (spoil_st h (by simp)).mono ?_
              rintro ⟨⟩ w h
              refine JoinX.mk (fun j w' => j.1 = false ∧ St wi w' (dg c2 :: dg d :: [])) ?_ ?_
              · rintro ⟨_, ⟨⟩⟩ w ⟨hj, h⟩
                dsimp only at hj h ⊢
                subst hj
                rw [SplitB_iff]
                refine ⟨(fun hz => by cases hz), fun _ => ?_⟩
                exact hK _ _ ⟨i2 + 1, c2, by omega, by dsimp only; rw [wr (by omega)]; omega, by omega, okc2, hc2o, hc2a, hc2w, hc2l, h⟩ (by dsimp only; rw [wr (by omega)]; omega)
              · intro k13 hk13
                rw [SplitB_iff]
                refine ⟨(fun hz => by simp at hz), fun _ => ?_⟩
                have h := h.drew
                refine (h.old hp2).idxR i2 rfl (by omega) ?_
                intro b5 o5 hb5
                refine (h.old hp2).elR hb5 (i2 * 2 + 0) (by simp only [add_lit', Nat.add_assoc]) v0 ?_
                refine (h.old hp2).idxR i2 rfl (by omega) ?_
                intro b6 o6 hb6
                refine (h.old hp2).elR hb6 (i2 * 2 + 1) (by simp only [add_lit', Nat.add_assoc]) v1 ?_
                refine (slot_ok (by omega) (by omega)).mono ?_
                rintro r w' ⟨hw', rfl⟩
                subst hw'
                refine ⟨StillV.el (h.old hp2) hb6 (i2 * 2 + 1) (by simp only [add_lit', Nat.add_assoc]) v1, ?_⟩
                refine ⟨StillV.idx (h.old hp2) hb6 i2 rfl (by omega), ?_⟩
                rw [hm]
                refine (full_st os2[i2].2 h).mono ?_
                rintro t5 w ⟨ht5, h⟩
                have h := h.bring 1 rfl
                dsimp only [delO] at h
                refine (reads_st h okc2 (n := m) (by omega) hc2o (p := t5) (c := List.replicate 512 os2[i2].2) (fun w h => h.rd (k := 0) (i := 0) ⟨_, rfl, rfl⟩)).mono ?_
                rintro r w ⟨rfl, h⟩
                rw [hct, SplitB_iff]
                refine ⟨(fun hz => by simp at hz), fun _ => ?_⟩
                have h := (h.drop 1).bring 1 rfl
                dsimp only [delO] at h
                refine (himg h).mono ?_
                rintro t6 w h
                refine ReadN.toStr str30 (h.rd (k := 0) (i := 0) ⟨_, rfl, rfl⟩) ?_
                refine hk13 _ _ ⟨?_, (h.drop 0).bring 1 rfl⟩
                dsimp only
                simp
            · have hio2 : i2 = os2.length := by have := of_decide_eq_false hc; omega
              refine (off_st h).mono ?_
              rintro ⟨⟩ w h
              have h := h.bring 1 rfl
              dsimp only [delO] at h
              refine (ison_st h).mono ?_
              rintro r w ⟨rfl, h⟩
              rw [SplitB_iff]
              refine ⟨fun _ => ?_, (fun hz => by rw [ho] at hz; simp at hz)⟩
              have h := h.bring 1 rfl
              dsimp only [delO] at h
              refine (ison_st h).mono ?_
              rintro r w ⟨rfl, h⟩
              rw [SplitB_iff]
              refine ⟨fun _ => ?_, (fun hz => by simp at hz)⟩
              refine (writes_st h).mono ?_
              rintro r w ⟨rfl, h⟩
              rw [SplitB_iff]
              refine ⟨fun _ => ?_, (fun hz => by dsimp only at hz; rw [hcw, hl2, hio2] at hz; simp at hz)⟩
              have h := h.bring 1 rfl
              dsimp only [delO] at h
              refine (writes_st h).mono ?_
              rintro r w ⟨rfl, h⟩
              rw [SplitB_iff]
              refine ⟨fun _ => ?_, (fun hz => by rw [hdw, hl, hio] at hz; simp at hz)⟩
              refine (himg h).mono ?_
              rintro t6 w h
              refine RunN.toStr str30 (h.rd (k := 0) (i := 0) ⟨_, rfl, rfl⟩) ?_
              exact ⟨h.upd, by simp⟩
          · intro k9 hk9
            refine (image_st h okc).mono ?_
            rintro t7 w h
            rw [hcI] at h
            refine RunN.toStr str30 (h.rd (k := 0) (i := 0) ⟨_, rfl, rfl⟩) ?_
            rw [SplitB_iff]
            refine ⟨(fun hz => by simp at hz), fun _ => ?_⟩
            have h := (h.drop 0).bring 1 rfl
            dsimp only [delO] at h
            refine (himg h).mono ?_
            rintro t8 w h
            refine RunN.toStr str30 (h.rd (k := 0) (i := 0) ⟨_, rfl, rfl⟩) ?_
            refine hk9 _ _ ⟨?_, (h.drop 0).bring 1 rfl⟩
            dsimp only
            simp
        · intro k7 hk7
          refine (num_ok 0).mono ?_
          rintro r w' ⟨hw', rfl⟩
          subst hw'
          rw [SplitB_iff]
          refine ⟨(fun hz => by simp at hz), fun _ => ?_⟩
          first | refine RunN.pEqS ?_ | refine RunN.pEqN ?_ | refine RunN.pNeS ?_ | refine RunN.pNeN ?_
          rw [SplitB_iff]
          refine ⟨(fun hz => by cases hz), fun _ => ?_⟩
          refine (sectors_st h).mono ?_
          rintro r w ⟨rfl, h⟩
          rw [SplitB_iff]
          refine ⟨(fun hz => by rw [hcl] at hz; simp at hz), fun _ => ?_⟩
          refine hk7 _ _ ⟨?_, h⟩
          dsimp only
          rw [wr (by omega)]
          have : (ByteArray.mk I.flatten.toArray).size = 512 * n := by
            show I.flatten.toArray.size = _
            rw [List.size_toArray, hIf, hIl]
          rw [this]; simp
    · intro k1 hk1
      refine (num_ok 0).mono ?_
      rintro r w' ⟨hw', rfl⟩
      subst hw'
      rw [SplitB_iff]
      refine ⟨(fun hz => by simp at hz), fun _ => ?_⟩
      first | refine RunN.pEqS ?_ | refine RunN.pEqN ?_ | refine RunN.pNeS ?_ | refine RunN.pNeN ?_
      exact hk1 _ _ ⟨rfl, h⟩
  · intro k1 hk1
    rw [SplitB_iff]
    refine ⟨fun hz => hk1 _ _ ⟨(fun hh => by cases hh), h⟩, fun hz => hk1 _ _ ⟨fun hh => ?_, h⟩⟩
    have h1 := of_decide_eq_false hz
    have h2 := of_decide_eq_false hh
    omega
end Go.Proofs.Ytpdaoahamgegoaa
