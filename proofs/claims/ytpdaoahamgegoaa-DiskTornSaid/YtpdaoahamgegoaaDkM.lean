/- The law of the write that is torn. -/
import Derived.Test.YtpdaoahamgegoaaDkL
namespace Go.Proofs.Ytpdaoahamgegoaa
open Go Go.Fw Go.RowKit
set_option linter.unusedVariables false
set_option linter.unusedSimpArgs false
set_option maxRecDepth 4000
set_option maxHeartbeats 4000000
variable {w0 w : World} {F G : Grps} {d : D}

theorem A.write_armed {a : A} (ho : a.off = false) (ha : a.armed = true) (h0 : a.after ≠ 0) {n : Nat} (hn : n < a.ims.length) {c : List UInt8} (hc : c.length = 512) :
    a.write n c = (0, { a with tr := a.tr.set (a.wr.toNat % 64) n, wr := a.wr + 1, ims := a.ims.set n c, after := a.after - 1 }) := by
  have h1 : a.reach n = 0 := by simp [A.reach, ho, hn]
  unfold A.write
  rw [if_neg (fun h => h h1), if_neg (fun h => h hc)]
  unfold A.wrote
  rw [if_neg (fun h => h0 h.2)]
  simp [ha]
theorem A.write_torn {a : A} (ho : a.off = false) (ha : a.armed = true) (h0 : a.after = 0) {n : Nat} (hn : n < a.ims.length) {c : List UInt8} (hc : c.length = 512) :
    a.write n c = (200, { a with tr := a.tr.set (a.wr.toNat % 64) n, wr := a.wr + 1, ims := a.ims.set n (c.take a.torn.toNat ++ (a.ims.getD n []).drop a.torn.toNat), off := true, armed := false }) := by
  have h1 : a.reach n = 0 := by simp [A.reach, ho, hn]
  unfold A.write
  rw [if_neg (fun h => h h1), if_neg (fun h => h hc)]
  unfold A.wrote
  rw [if_pos ⟨ha, h0⟩]
  simp

theorem law4 {wi : World} {p : Sl} {os : List Pt} (hp : Rd wi p 2 (pts os)) {x y z : Int} : CallK Try.prog .bool 4 #[.int .i64 x, .slice p.a p.len p.cap, .int .i64 y, .int .i64 z] wi fun (r : Bool) w' => Upd wi w' nobody ∧ r = true := by
  have hl := pts_rd hp
  have h := St.init wi
  refine T4.calls ?_
  unfold T4
  refine JoinX.mk (fun j w' => (j.1 = false → os.length ≤ 300 ∧ 0 < os.length) ∧ St wi w' []) ?_ ?_
  · rintro ⟨j0, ⟨⟩⟩ w ⟨hj, h⟩
    dsimp only at hj h ⊢
    rw [SplitB_iff]
    refine ⟨fun _ => ⟨h.upd, rfl⟩, fun hz => ?_⟩
    obtain ⟨hz, hpos⟩ := hj hz
    clear hj
    refine (count_ok x).mono ?_
    rintro r w' ⟨hw', n, rfl, hn1, hn2⟩
    subst hw'
    refine (slot_ok (by omega) (by omega)).mono ?_
    rintro r w' ⟨hw', rfl⟩
    subst hw'
    obtain ⟨hk0, hk1⟩ := slotI_lt (i := y) (n := (p.len : Int)) (by omega)
    obtain ⟨k, hk⟩ : ∃ k : Nat, slotI y (p.len : Int) = (k : Int) := ⟨(slotI y (p.len : Int)).toNat, by omega⟩
    rw [hk] at hk1 ⊢
    have hkl : k < os.length := by omega
    refine (slot_ok (by omega) (by omega)).mono ?_
    rintro r w' ⟨hw', rfl⟩
    subst hw'
    obtain ⟨hj0, hj1⟩ := slotI_lt (i := z) (n := 513) (by omega)
    obtain ⟨j, hj⟩ : ∃ j : Nat, slotI z 513 = (j : Int) := ⟨(slotI z 513).toNat, by omega⟩
    rw [hj] at hj1 ⊢
    have hjl : j ≤ 512 := by omega
    clear hk hj hk0 hj0
    refine (new_st h hn1 (by omega)).mono ?_
    rintro r w ⟨b, s, rfl, h⟩
    refine JoinX.mk (fun j w' => j.1 = false ∧ St wi w' (dg (fresh b s n) :: [])) ?_ ?_
    · rintro ⟨_, ⟨⟩⟩ w ⟨hj, h⟩
      dsimp only at hj h ⊢
      subst hj
      rw [SplitB_iff]
      refine ⟨(fun hz => by cases hz), fun _ => ?_⟩
      have h : St wi w ([.row 30 1 ⟨none, 0, 0⟩ (lsl [])] :: ([] : List Bs).map (brw 5) :: dg (fresh b s n) :: []) := (St.empty.2 h).nilrow 30 1
      refine LoopX.mk (fun st w' => ∃ (k : Nat) (want : List Bs), k ≤ n ∧ st.2.1 = (k : Int) ∧ want.length = k ∧ st.1.len = k ∧ want.map (·.2) = zer k ∧ (∀ x ∈ want, x.1.len = 512) ∧ St wi w' ([.row 30 1 st.1 (lsl want)] :: want.map (brw 5) :: dg (fresh b s n) :: [])) (fun st => n - st.2.1.toNat) ⟨0, [], by omega, rfl, rfl, rfl, rfl, (fun x hx => by cases hx), h⟩ ?_
      clear h
      rintro ⟨q, _, ⟨⟩⟩ w ⟨c0, want, hk, rfl, hwl, hql, hwz, hw5, h⟩ K hK
      dsimp only at h hK hql ⊢
      rw [SplitB_iff]
      refine ⟨fun hc => ?_, fun hc => ?_⟩
      · have hc : c0 < n := by have := of_decide_eq_true hc; omega
        refine (full_st 0 h).mono ?_
        rintro t w ⟨htl, h⟩
        refine h.newS 1 (bs29 _ _ rfl) rfl rfl rfl ?_
        intro u w hul huc _ h
        refine h.app 2 0 ⟨_, rfl, rfl⟩ (h.rd (k := 0) (i := 0) ⟨_, rfl, rfl⟩) one_slice (by simp only [maxLen]; omega) (by omega) ?_
        intro q' w hq' h
        dsimp only [updG, setO] at h
        have h := h.drop 0
        dsimp only [delO] at h
        have h := (h.bring 2 rfl)
        dsimp only [delO] at h
        have h := h.bring 1 rfl
        dsimp only [delO] at h
        have h := h.into
        have h := h.bring 1 rfl
        dsimp only [delO] at h
        refine hK _ _ ⟨c0 + 1, want ++ [(t, List.replicate 512 0)], by omega, by dsimp only; rw [wr (by omega)]; omega, by simp [hwl], by dsimp only; omega, ?_, ?_, ?_⟩ (by dsimp only; rw [wr (by omega)]; omega)
        · rw [List.map_append, hwz]; simp [zer, List.replicate_succ']
        · intro x hx
          rcases List.mem_append.1 hx with hx | hx
          · exact hw5 x hx
          · simp at hx; subst hx; exact htl
        · rw [lsl_snoc, List.map_append]
          exact h
      · have hc : c0 = n := by have := of_decide_eq_false hc; omega
        subst hc
        have h := h.bring 2 rfl
        dsimp only [delO] at h
        refine (arm_st h (fresh_ok _ _ (by omega)) (k : Int) (j : Int) (by omega)).mono ?_
        rintro ⟨⟩ w ⟨d0, hb0, hd0, ok0, h⟩
        have hd0 : d0.abs = { (fresh b s c0).abs with armed := true, after := (k : Int), torn := (j : Int) } := by
          rw [hd0]
          unfold A.arm
          rw [if_neg (by simp [fresh])]
          have e1 : decide ((k : Int) ≥ 0) = true := decide_eq_true (by omega)
          have e2 : min (max (j : Int) 0) 512 = (j : Int) := by omega
          rw [e1, e2]
        have h := (h.bring 2 rfl).back 0
        dsimp only [delO, insO] at h
        have h := h.bring 1 rfl
        dsimp only [delO] at h
        have h := h.back 2
        dsimp only [insO] at h
        refine LoopX.mk (fun st w' => ∃ (i : Nat) (d : D) (want : List Bs), i ≤ os.length ∧ st.1 = (i : Int) ∧ d.b = b ∧ DOk d ∧ want.map (·.2) = d.abs.ims ∧ want.length = q.len ∧ (∀ x ∈ want, x.1.len = 512) ∧
            (i ≤ k ∧ d.off = false ∧ d.armed = true ∧ d.after = (k : Int) - i ∧ d.torn = j ∧ d.wr = i ∨ k < i ∧ d.off = true ∧ d.armed = false ∧ d.wr = (k + 1 : Nat) ∧ d.tr[k % 64]? = some (slotI os[k].1 (c0 : Int))) ∧
            St wi w' (want.map (brw 5) :: [.row 30 1 q (lsl want)] :: dg d :: [])) (fun st => os.length - st.1.toNat)
          ⟨0, d0, want, by omega, rfl, hb0, ok0, by rw [hd0]; dsimp only; rw [fresh_ims, hwz], by omega, hw5, .inl ⟨by omega, congrArg A.off hd0, congrArg A.armed hd0, by have := congrArg A.after hd0; dsimp only [D.abs] at this; rw [this]; omega, congrArg A.torn hd0, congrArg A.wr hd0⟩, h⟩ ?_
        clear h hwz hwl hd0 ok0 hb0 hw5
        rintro ⟨_, ⟨⟩⟩ w ⟨i, d, want, hi, rfl, rfl, ok, hwd, hwl, hw5, hcase, h⟩ K hK
        dsimp only at h hK ⊢
        have hdl : d.secs.length = c0 := by
          have := congrArg List.length hwd
          simp at this; omega
        rw [SplitB_iff]
        refine ⟨fun hc => ?_, fun hc => ?_⟩
        · have hc : i < os.length := by have := of_decide_eq_true hc; omega
          refine JoinX.mk (fun _ w' => ∃ (d' : D) (want : List Bs), d'.b = d.b ∧ DOk d' ∧ want.map (·.2) = d'.abs.ims ∧ want.length = q.len ∧ (∀ x ∈ want, x.1.len = 512) ∧
              (i + 1 ≤ k ∧ d'.off = false ∧ d'.armed = true ∧ d'.after = (k : Int) - (i + 1 : Nat) ∧ d'.torn = j ∧ d'.wr = (i + 1 : Nat) ∨ k < i + 1 ∧ d'.off = true ∧ d'.armed = false ∧ d'.wr = (k + 1 : Nat) ∧ d'.tr[k % 64]? = some (slotI os[k].1 (c0 : Int))) ∧
              St wi w' (want.map (brw 5) :: [.row 30 1 q (lsl want)] :: dg d' :: [])) ?_ ?_
          · rintro ⟨⟩ w ⟨d', want', hb', ok', hwd', hwl', hw5', hcase', h⟩
            exact hK _ _ ⟨i + 1, d', want', by omega, by dsimp only; rw [wr (by omega)]; omega, hb', ok', hwd', hwl', hw5', hcase', h⟩ (by dsimp only; rw [wr (by omega)]; omega)
          · intro k9 hk9
            refine (h.old hp).idxK i rfl (by omega) ?_
            intro b1 o1 hb1
            refine (h.old hp).el hb1 (i * 2 + 0) (by simp only [add_lit', Nat.add_assoc]) (kd := .int .i64) (x := os[i].1) (by rw [pts_get os i 0 hc (by decide)]; rfl) ?_
            refine (slot_ok (by omega) (by omega)).mono ?_
            rintro r w' ⟨hw', rfl⟩
            subst hw'
            obtain ⟨hs0, hs1⟩ := slotI_lt (i := os[i].1) (n := (c0 : Int)) (by omega)
            obtain ⟨m, hm⟩ : ∃ m : Nat, slotI os[i].1 (c0 : Int) = (m : Int) := ⟨(slotI os[i].1 (c0 : Int)).toNat, by omega⟩
            rw [hm] at hs1 ⊢
            have hmk : m < c0 := by omega
            refine (h.old hp).idxK i rfl (by omega) ?_
            intro b2 o2 hb2
            refine (h.old hp).el hb2 (i * 2 + 1) (by simp only [add_lit', Nat.add_assoc]) (kd := .int .u8) (x := (os[i].2.toNat : Int)) (by rw [pts_get os i 1 hc (by decide)]; rfl) ?_
            refine (full_st os[i].2 h).mono ?_
            rintro t w ⟨htl, h⟩
            have h := h.bring 3 rfl
            dsimp only [delO] at h
            have hdw : d.wr ≤ 1099511627776 := by rcases hcase with hh | hh <;> omega
            refine (write_st h ok hdw (p := t) (c := List.replicate 512 os[i].2) (fun w h => h.rd (k := 0) (i := 0) ⟨_, rfl, rfl⟩) (m : Int)).mono ?_
            rintro r w ⟨hr, d', hb', hd', ok', h⟩
            have htr := ok.tr
            have hf : (i < k → r = 0) ∧ (k ≤ i → r = 200) ∧ d'.off = decide (k ≤ i) ∧
                (i < k ∧ d'.armed = true ∧ d'.after = (k : Int) - (i + 1 : Nat) ∧ d'.torn = j ∧ d'.wr = (i + 1 : Nat) ∧ d'.abs.ims = d.abs.ims.set m (List.replicate 512 os[i].2) ∨
                 i = k ∧ d'.armed = false ∧ d'.wr = (k + 1 : Nat) ∧ d'.tr[k % 64]? = some (slotI os[k].1 (c0 : Int)) ∧ d'.abs.ims = d.abs.ims.set m ((List.replicate 512 os[i].2).take j ++ (d.abs.ims.getD m []).drop j) ∨
                 k < i ∧ d'.armed = false ∧ d'.wr = (k + 1 : Nat) ∧ d'.tr[k % 64]? = some (slotI os[k].1 (c0 : Int)) ∧ d'.abs.ims = d.abs.ims) := by
              rcases hcase with ⟨h1, ho, ha, haf, ht, hwr⟩ | ⟨h1, ho, ha, hwr, htk⟩
              · by_cases hik : i < k
                · rw [A.write_armed (a := d.abs) ho ha (by show d.after ≠ 0; omega) (by rw [abs_len]; omega) (by simp)] at hr hd'
                  refine ⟨fun _ => hr, fun h => by omega, ?_, .inl ⟨hik, congrArg A.armed hd' |>.trans ha, ?_, congrArg A.torn hd' |>.trans ht, ?_, congrArg A.ims hd'⟩⟩
                  · rw [decide_eq_false (by omega)]; exact (congrArg A.off hd').trans ho
                  · have := congrArg A.after hd'
                    dsimp only [D.abs] at this; rw [this, haf]; omega
                  · have := congrArg A.wr hd'
                    dsimp only [D.abs] at this; rw [this, hwr]; omega
                · have hik : i = k := by omega
                  subst hik
                  rw [A.write_torn (a := d.abs) ho ha (by show d.after = 0; omega) (by rw [abs_len]; omega) (by simp)] at hr hd'
                  have ht' : d.abs.torn.toNat = j := by show d.torn.toNat = j; omega
                  refine ⟨fun h => by omega, fun _ => hr, ?_, .inr (.inl ⟨rfl, congrArg A.armed hd', ?_, ?_, ?_⟩)⟩
                  · rw [decide_eq_true (by omega)]; exact congrArg A.off hd'
                  · have := congrArg A.wr hd'
                    dsimp only [D.abs] at this; rw [this, hwr]; omega
                  · have := congrArg A.tr hd'
                    dsimp only [D.abs] at this
                    have e : d.wr.toNat = i := by omega
                    rw [this, e, List.getElem?_set_self (by omega), hm]
                  · have := congrArg A.ims hd'
                    dsimp only at this
                    rw [this, ht']
              · rw [A.write_off (a := d.abs) ho] at hr hd'
                refine ⟨fun h => by omega, fun _ => hr, ?_, .inr (.inr ⟨h1, (congrArg A.armed hd').trans ha, (congrArg A.wr hd').trans hwr, ?_, congrArg A.ims hd'⟩)⟩
                · rw [decide_eq_true (by omega)]; exact (congrArg A.off hd').trans ho
                · have := congrArg A.tr hd'
                  dsimp only [D.abs] at this
                  rw [this]; exact htk
            clear hr hd' hcase
            obtain ⟨hr0, hr1, hoff, hcase⟩ := hf
            refine (num_ok r).mono ?_
            rintro r' w' ⟨hw', hr'⟩
            subst hw'
            subst hr'
            rw [← hb']
            refine JoinX.mk (fun j w' => j.1 = false ∧ St wi w' (dg d' :: [.row 5 1 t (bys (List.replicate 512 os[i].2))] :: want.map (brw 5) :: [.row 30 1 q (lsl want)] :: [])) ?_ ?_
            · rintro ⟨_, ⟨⟩⟩ w ⟨hj, h⟩
              dsimp only at hj h ⊢
              subst hj
              rw [SplitB_iff]
              refine ⟨(fun hz => by cases hz), fun _ => ?_⟩
              refine JoinX.mk (fun _ w' => ∃ want' : List Bs, want'.length = q.len ∧ (∀ x ∈ want', x.1.len = 512) ∧ (i < k → want'.map (·.2) = d'.abs.ims) ∧ (¬ i < k → want' = want) ∧ St wi w' (want'.map (brw 5) :: [.row 30 1 q (lsl want')] :: dg d' :: [])) ?_ ?_
              · clear h
                rintro ⟨⟩ w ⟨want', hwl', hw5', hwa, hwb, h⟩
                rw [SplitB_iff]
                refine ⟨fun hik => ?_, fun hik => ?_⟩
                · have hik : i = k := by have := beq_iff_eq.1 hik; omega
                  have hwb := hwb (by omega)
                  rw [hwb] at h
                  rcases hcase with hh | ⟨_, ha', hw', htk, him⟩ | hh
                  · omega
                  · refine (h.old hp).idxK i rfl (by omega) ?_
                    intro b3 o3 hb3
                    refine (h.old hp).el hb3 (i * 2 + 1) (by simp only [add_lit', Nat.add_assoc]) (kd := .int .u8) (x := (os[i].2.toNat : Int)) (by rw [pts_get os i 1 hc (by decide)]; rfl) ?_
                    refine (full_st os[i].2 h).mono ?_
                    rintro t2 w ⟨ht2, h⟩
                    have h := h.drew
                    have hm2 : m < want.length := by omega
                    have hv5 := hw5 _ (List.getElem_mem hm2)
                    refine ReadN.sL j rfl (by omega) ?_
                    refine (h.rd (k := 2) (i := 0) ⟨_, rfl, rfl⟩).idxR m rfl (by omega) ?_
                    intro b4 o4 hb4
                    refine (h.rd (k := 2) (i := 0) ⟨_, rfl, rfl⟩).elR hb4 (m * 1) rfl (kd := .sl) (x := want[m].1) (by rw [Nat.mul_one, lsl_at hm2]; rfl) ?_
                    refine ReadN.sL (s := want[m].1) j rfl (by omega) ?_
                    have hrw := (h.rd (k := 1) (i := m) (E := 5) (s := want[m].1) (vs := bys want[m].2) (sz := 1) ⟨_, rfl, nthO_map (brw 5) want hm2⟩)
                    have hrl := hrw.bys_len
                    have hc2 := (h.rd (k := 0) (i := 0) ⟨_, rfl, rfl⟩).2.2
                    refine h.copy 0 0 ⟨_, rfl, rfl⟩ (dl := (subS t2 j t2.len 1).len) j (fun b o hb hh => subS_addr hb (by simp only [subS] at hh; omega)) (by simp only [subS]; omega) (hrw.suf (lo := j) (by omega)) (fun v hv => bys_one _ v (List.mem_of_mem_drop hv)) ?_
                    intro w h
                    have hmn : Nat.min (subS want[m].1 j want[m].1.len 1).len (subS t2 j t2.len 1).len = 512 - j := by
                      simp only [subS]; rw [hv5, ht2]; exact Nat.min_self _
                    rw [hmn] at h
                    have e : (bys (List.replicate 512 os[i].2)).take (j * 1) ++ ((bys want[m].2).drop (j * 1)).take ((512 - j) * 1) ++ (bys (List.replicate 512 os[i].2)).drop ((j + (512 - j)) * 1) = bys ((List.replicate 512 os[i].2).take j ++ want[m].2.drop j) := by
                      rw [Nat.mul_one, Nat.mul_one, Nat.mul_one, List.drop_of_length_le (l := bys (List.replicate 512 os[i].2)) (by simp; omega), List.append_nil, List.take_of_length_le (l := (bys want[m].2).drop j) (by simp; omega), bys_append]
                      simp [bys, List.map_drop, List.map_take]
                    rw [e] at h
                    dsimp only [updG, setO] at h
                    refine (h.rd (k := 2) (i := 0) ⟨_, rfl, rfl⟩).idxK m rfl (by omega) ?_
                    intro b6 o6 hb6
                    refine h.storR 2 0 ⟨_, rfl, rfl⟩ hb6 m (by rw [Nat.mul_one]) (by rw [lsl_len]; omega) rfl ?_
                    intro w h
                    dsimp only [updG, setO] at h
                    have h := h.plug (i := m) (nthO_map (brw 5) want hm2)
                    generalize hcv : (List.replicate 512 os[i].2).take j ++ want[m].2.drop j = cv at h
                    have e1 : Ent.row 5 1 t2 (bys cv) = brw 5 (t2, cv) := rfl
                    rw [e1, setO_brw, ← lsl_set want m (t2, cv)] at h
                    refine hk9 _ _ ⟨d', want.set m (t2, cv), hb', ok', ?_, by rw [List.length_set]; exact hwl, ?_, .inr ⟨by omega, by rw [hoff]; exact decide_eq_true (by omega), ha', hw', htk⟩, h⟩
                    · rw [him, List.map_set, hwd, ← hcv]
                      congr 2
                      have hia : m < d.abs.ims.length := by rw [abs_len]; omega
                      rw [List.getD_eq_getElem?_getD, List.getElem?_eq_getElem hia, Option.getD_some]
                      congr 1
                      rw [← ims_at (d := d) (by omega) hwd hm2]
                      simp [D.abs]
                    · intro x hx
                      rcases List.mem_or_eq_of_mem_set hx with hx | hx
                      · exact hw5 x hx
                      · subst hx; exact ht2
                  · omega
                · have hik : i ≠ k := by intro e; rw [e] at hik; simp at hik
                  rcases hcase with ⟨hik2, ha', haf, ht', hw', him⟩ | hh | ⟨hik2, ha', hw', htk, him⟩
                  · exact hk9 _ _ ⟨d', want', hb', ok', hwa hik2, hwl', hw5', .inl ⟨by omega, by rw [hoff]; exact decide_eq_false (by omega), ha', haf, ht', hw'⟩, h⟩
                  · omega
                  · have hwb := hwb (by omega)
                    rw [hwb] at h
                    exact hk9 _ _ ⟨d', want, hb', ok', by rw [him]; exact hwd, hwl, hw5, .inr ⟨by omega, by rw [hoff]; exact decide_eq_true (by omega), ha', hw', htk⟩, h⟩
              · intro k13 hk13
                rw [SplitB_iff]
                refine ⟨fun hik => ?_, fun hik => ?_⟩
                · have hik : i < k := by have := of_decide_eq_true hik; omega
                  have him : d'.abs.ims = d.abs.ims.set m (List.replicate 512 os[i].2) := by
                    rcases hcase with hh | hh | hh
                    · exact hh.2.2.2.2.2
                    · omega
                    · omega
                  have h := h.back 3
                  dsimp only [insO] at h
                  refine (h.rd (k := 2) (i := 0) ⟨_, rfl, rfl⟩).idxK m rfl (by omega) ?_
                  intro b4 o4 hb4
                  refine h.storR 2 0 ⟨_, rfl, rfl⟩ hb4 m (by rw [Nat.mul_one]) (by rw [lsl_len]; omega) rfl ?_
                  intro w h
                  dsimp only [updG, setO] at h
                  have h := h.plug (i := m) (nthO_map (brw 5) want (by omega))
                  have e1 : Ent.row 5 1 t (bys (List.replicate 512 os[i].2)) = brw 5 (t, List.replicate 512 os[i].2) := rfl
                  rw [e1, setO_brw, ← lsl_set want m (t, List.replicate 512 os[i].2)] at h
                  refine hk13 _ _ ⟨want.set m (t, List.replicate 512 os[i].2), by rw [List.length_set]; exact hwl, ?_, fun _ => ?_, fun hh => absurd hik hh, h⟩
                  · intro x hx
                    rcases List.mem_or_eq_of_mem_set hx with hx | hx
                    · exact hw5 x hx
                    · subst hx; exact htl
                  · rw [him, List.map_set, hwd]
                · have hik : ¬ i < k := by have := of_decide_eq_false hik; omega
                  have h := h.drop 1
                  dsimp only [delO] at h
                  have h := h.back 2
                  dsimp only [insO] at h
                  exact hk13 _ _ ⟨want, hwl, hw5, fun hh => absurd hh hik, fun _ => rfl, h⟩
            · intro k11 hk11
              rw [SplitB_iff]
              refine ⟨fun hik => ?_, fun hik => ?_⟩
              · have hik : i < k := by have := of_decide_eq_true hik; omega
                have hr0 := hr0 hik
                subst hr0
                rw [SplitB_iff]
                refine ⟨(fun hz => by simp at hz), fun _ => ?_⟩
                rw [SplitB_iff]
                refine ⟨(fun hz => by have := of_decide_eq_true hz; omega), fun _ => ?_⟩
                refine (ison_st h).mono ?_
                rintro r w ⟨rfl, h⟩
                refine hk11 _ _ ⟨?_, h⟩
                dsimp only
                rw [hoff, decide_eq_false (show ¬ k ≤ i by omega), decide_eq_true (show (i : Int) < (k : Int) by omega)]; rfl
              · have hik : k ≤ i := by have := of_decide_eq_false hik; omega
                have hr1 := hr1 hik
                subst hr1
                rw [SplitB_iff]
                refine ⟨fun _ => ?_, (fun hz => by have := of_decide_eq_false hz; omega)⟩
                rw [SplitB_iff]
                refine ⟨(fun hz => by simp at hz), fun _ => ?_⟩
                refine (ison_st h).mono ?_
                rintro r w ⟨rfl, h⟩
                refine hk11 _ _ ⟨?_, h⟩
                dsimp only
                rw [hoff, decide_eq_true (show k ≤ i by omega), decide_eq_false (show ¬ (i : Int) < (k : Int) by omega)]; rfl
        · have hio : i = os.length := by have := of_decide_eq_false hc; omega
          rcases hcase with hh | ⟨hki, ho, ha, hdw, htk⟩
          · omega
          have h := h.bring 2 rfl
          dsimp only [delO] at h
          refine (on_st h).mono ?_
          rintro ⟨⟩ w h
          have ok1 : DOk { d with off := false } := ⟨ok.tr, ok.full, ok.small, ok.w0, ok.torn, ok.after⟩
          have hwd1 : want.map (·.2) = ({ d with off := false } : D).abs.ims := hwd
          have hp1 : d.p = ({ d with off := false } : D).p := rfl
          rw [show some (⟨d.b, 0, none⟩ : Addr) = ({ d with off := false } : D).p from rfl]
          generalize hd1 : ({ d with off := false } : D) = d1 at h ok1 hwd1
          have ho1 : d1.off = false := by rw [← hd1]
          have ha1 : d1.armed = false := by rw [← hd1]; exact ha
          have hdw1 : d1.wr = (k + 1 : Nat) := by rw [← hd1]; exact hdw
          have htk1 : d1.tr[k % 64]? = some (slotI os[k].1 (c0 : Int)) := by rw [← hd1]; exact htk
          have hdl1 : d1.secs.length = c0 := by rw [← hd1]; exact hdl
          clear hd1 ok hwd ho ha hdw htk hdl
          refine LoopX.mk (fun st w' => ∃ (j : Nat), j ≤ c0 ∧ st.1 = (j : Int) ∧ St wi w' (dg d1 :: want.map (brw 5) :: [.row 30 1 q (lsl want)] :: [])) (fun st => c0 - st.1.toNat) ⟨0, by omega, rfl, h⟩ ?_
          clear h
          rintro ⟨_, ⟨⟩⟩ w ⟨jj, hj, rfl, h⟩ K hK
          dsimp only at h hK ⊢
          rw [SplitB_iff]
          refine ⟨fun hc => ?_, fun hc => ?_⟩
          · have hc : jj < c0 := by have := of_decide_eq_true hc; omega
            refine (h.rd (k := 2) (i := 0) ⟨_, rfl, rfl⟩).idxK jj rfl (by omega) ?_
            intro b1 o1 hb1
            refine (h.rd (k := 2) (i := 0) ⟨_, rfl, rfl⟩).el hb1 (jj * 1) rfl (kd := .sl) (x := want[jj].1) (by rw [Nat.mul_one, lsl_at (by omega)]; rfl) ?_
            refine (reads_st h ok1 (n := jj) (by omega) ho1 (p := want[jj].1) (c := want[jj].2) (fun w h => h.rd (k := 0) (i := jj) ⟨_, rfl, nthO_map (brw 5) want (by omega)⟩)).mono ?_
            rintro r w ⟨rfl, h⟩
            rw [ims_at (by omega) hwd1 (by omega), SplitB_iff]
            refine ⟨(fun hz => by simp at hz), fun _ => ?_⟩
            exact hK _ _ ⟨jj + 1, by omega, by dsimp only; rw [wr (by omega)]; omega, h⟩ (by dsimp only; rw [wr (by omega)]; omega)
          · refine (trace_st h ok1 (by omega)).mono ?_
            rintro r w h
            have h := h.drew.bring 1 rfl
            dsimp only [delO] at h
            refine (writes_st h).mono ?_
            rintro r2 w ⟨rfl, h⟩
            rw [wr (x := (k : Int) + 1) (by omega)]
            rw [SplitB_iff]
            refine ⟨fun _ => ?_, (fun hz => by rw [hdw1] at hz; simp at hz)⟩
            have hrl : r.len = d1.abs.m := by
              have := (h.rd (k := 1) (i := 0) ⟨_, rfl, rfl⟩).1
              rw [lin_len] at this
              simp only [A.trace, List.length_map, List.length_range] at this
              omega
            have hm : d1.abs.m = min (k + 1) 64 := by
              simp only [A.m, abs_wr, hdw1]
              omega
            refine ReadN.of (kd := .int .i64) (min_i _ _ _) ?_
            rw [SplitB_iff]
            refine ⟨fun _ => ?_, (fun hz => by rw [hrl, hm] at hz; simp at hz; omega)⟩
            rw [wr (x := (r.len : Int) - 1) (by omega)]
            refine (h.rd (k := 1) (i := 0) ⟨_, rfl, rfl⟩).idxR (r.len - 1) (by omega) (by omega) ?_
            intro b1 o1 hb1
            have hval : (lin d1.abs.trace)[(r.len - 1) * 1]? = some (Value.int .i64 (slotI os[k].1 (c0 : Int))) := by
              have htl : d1.abs.trace.length = d1.abs.m := by simp [A.trace]
              rw [Nat.mul_one, lin_at (by omega)]
              congr 2
              simp only [A.trace, List.getElem_map, List.getElem_range]
              rw [List.getD_eq_getElem?_getD]
              have e2 : d1.abs.tr = d1.tr := rfl
              have e4 : d1.abs.wr.toNat - d1.abs.m + (r.len - 1) = k := by rw [abs_wr, hdw1, hrl, hm]; omega
              rw [e4, e2, htk1]; rfl
            refine (h.rd (k := 1) (i := 0) ⟨_, rfl, rfl⟩).elR hb1 ((r.len - 1) * 1) rfl (kd := .int .i64) (x := slotI os[k].1 (c0 : Int)) hval ?_
            refine (h.old hp).idxR k rfl (by omega) ?_
            intro b2 o2 hb2
            refine (h.old hp).elR hb2 (k * 2 + 0) (by simp only [add_lit', Nat.add_assoc]) (kd := .int .i64) (x := os[k].1) (by rw [pts_get os k 0 hkl (by decide)]; rfl) ?_
            refine (slot_ok (by omega) (by omega)).mono ?_
            rintro r3 w' ⟨hw', rfl⟩
            subst hw'
            refine ⟨StillV.el (h.rd (k := 1) (i := 0) ⟨_, rfl, rfl⟩) hb1 ((r.len - 1) * 1) rfl hval, ?_⟩
            refine ⟨StillV.idx (h.rd (k := 1) (i := 0) ⟨_, rfl, rfl⟩) hb1 (r.len - 1) (by omega) (by omega), ?_⟩
            rw [SplitB_iff]
            refine ⟨fun _ => ?_, (fun hz => by simp at hz)⟩
            refine (full_st 1 h).mono ?_
            rintro t3 w ⟨ht3, h⟩
            have h := h.bring 1 rfl
            dsimp only [delO] at h
            refine (write_st h ok1 (by omega) (p := t3) (c := List.replicate 512 1) (fun w h => h.rd (k := 0) (i := 0) ⟨_, rfl, rfl⟩) ((0 : Nat) : Int)).mono ?_
            rintro r w ⟨rfl, d3, hb3, hd3, ok3, h⟩
            rw [A.write_ok (a := d1.abs) ho1 ha1 (by rw [abs_len]; omega) (by simp)]
            refine (num_ok _).mono ?_
            rintro r w' ⟨hw', rfl⟩
            subst hw'
            exact ⟨h.upd, rfl⟩
    · intro k1 hk1
      refine (num_ok 0).mono ?_
      rintro r w' ⟨hw', rfl⟩
      subst hw'
      rw [SplitB_iff]
      refine ⟨(fun hz => by simp at hz), fun _ => ?_⟩
      first | refine RunN.pEqS ?_ | refine RunN.pEqN ?_ | refine RunN.pNeS ?_ | refine RunN.pNeN ?_
      exact hk1 _ _ ⟨rfl, h⟩
  · intro k1 hk1
    rw [SplitB_iff]
    refine ⟨fun hz => hk1 _ _ ⟨(fun hh => by cases hh), h⟩, fun hz => hk1 _ _ ⟨fun hh => ?_, h⟩⟩
    have h1 := of_decide_eq_false hz
    have h2 : ¬ (p.len : Int) = 0 := by intro e; rw [e] at hh; simp at hh
    omega
end Go.Proofs.Ytpdaoahamgegoaa
