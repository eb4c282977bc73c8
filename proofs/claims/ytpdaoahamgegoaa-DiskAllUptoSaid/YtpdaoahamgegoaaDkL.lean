/- The law that what was written lasts. -/
import Derived.Test.YtpdaoahamgegoaaDkD
namespace Go.Proofs.Ytpdaoahamgegoaa
open Go Go.Fw Go.RowKit
set_option linter.unusedVariables false
set_option linter.unusedSimpArgs false
set_option maxRecDepth 4000
set_option maxHeartbeats 2000000

abbrev Pt := Int × UInt8
def ptc (o : Pt) : List Value := [.int .i64 o.1, .int .u8 (o.2.toNat : Int)]
def pts (os : List Pt) : List Value := os.flatMap ptc
theorem pts_len (os : List Pt) : (pts os).length = os.length * 2 := by
  induction os with
  | nil => rfl
  | cons x r ih => simp only [pts, List.flatMap_cons, List.length_append, List.length_cons] at ih ⊢; rw [ih]; simp [ptc]; omega
theorem pts_drop (os : List Pt) (n : Nat) : (pts os).drop (n * 2) = pts (os.drop n) := by
  induction n generalizing os with
  | zero => simp
  | succ n ih =>
    cases os with
    | nil => simp [pts]
    | cons x r =>
      have e : (n + 1) * 2 = 2 + n * 2 := by omega
      rw [e, ← List.drop_drop]
      have : (pts (x :: r)).drop 2 = pts r := by simp [pts, ptc]
      rw [this, ih]; rfl
theorem pts_get (os : List Pt) (i j : Nat) (h : i < os.length) (hj : j < 2) : (pts os)[i * 2 + j]? = (ptc os[i])[j]? := by
  have e : ∀ x r, pts (x :: r) = ptc x ++ pts r := fun x r => by simp [pts]
  rw [← List.getElem?_drop, pts_drop, List.drop_eq_getElem_cons h, e, List.getElem?_append_left (by simp [ptc]; omega)]
theorem pts_rd {w : World} {s : Sl} {os : List Pt} (h : Rd w s 2 (pts os)) : s.len = os.length := by have := h.1; rw [pts_len] at this; omega
theorem lsl_set (l : List Bs) (i : Nat) (x : Bs) : lsl (l.set i x) = (lsl l).set i (.slice x.1.a x.1.len x.1.cap) := by simp [lsl, List.map_set]
theorem A.write_ok {a : A} (ho : a.off = false) (ha : a.armed = false) {n : Nat} (hn : n < a.ims.length) {c : List UInt8} (hc : c.length = 512) :
    a.write n c = (0, { a with tr := a.tr.set (a.wr.toNat % 64) n, wr := a.wr + 1, ims := a.ims.set n c }) := by
  have h1 : a.reach n = 0 := by simp [A.reach, ho, hn]
  unfold A.write
  rw [if_neg (fun h => h h1), if_neg (fun h => h hc)]
  unfold A.wrote
  rw [if_neg (by rw [ha]; simp)]
  simp [ha]
theorem A.write_off {a : A} (ho : a.off = true) (n : Int) (c : List UInt8) : a.write n c = (200, a) := by
  have h1 : a.reach n = 200 := by simp [A.reach, ho]
  unfold A.write
  rw [if_pos (by rw [h1]; decide), h1]
@[simp] theorem abs_off (d : D) : d.abs.off = d.off := rfl
@[simp] theorem abs_armed (d : D) : d.abs.armed = d.armed := rfl
@[simp] theorem abs_wr (d : D) : d.abs.wr = d.wr := rfl
@[simp] theorem abs_len (d : D) : d.abs.ims.length = d.secs.length := by simp [D.abs]
variable {w0 w : World} {F G : Grps} {d : D}
theorem ims_at {n : Nat} (hn : n < d.secs.length) {want : List Bs} (hw : want.map (·.2) = d.abs.ims) (hn2 : n < want.length) : cont d.secs[n] = want[n].2 := by
  have := congrArg (fun l => l[n]?) hw
  simp [D.abs, hn, hn2] at this
  exact this.symm
/-- The list of what is wanted, all zeros at first. -/
def zer (n : Nat) : List (List UInt8) := List.replicate n (List.replicate 512 0)
theorem fresh_ims (b : Nat) (s : Sl) (n : Nat) : (fresh b s n).abs.ims = zer n := by simp [fresh, D.abs, cont, zer]

theorem law3 {wi : World} {p : Sl} {os : List Pt} (hp : Rd wi p 2 (pts os)) {x y : Int} : CallK Try.prog .bool 3 #[.int .i64 x, .slice p.a p.len p.cap, .int .i64 y] wi fun (r : Bool) w' => Upd wi w' nobody ∧ r = true := by
  have hl := pts_rd hp
  have h := St.init wi
  refine T3.calls ?_
  unfold T3
  rw [SplitB_iff]
  refine ⟨fun _ => ⟨Upd.refl _ _, rfl⟩, fun hz => ?_⟩
  have hz : os.length ≤ 300 := by have := of_decide_eq_false hz; omega
  refine (count_ok x).mono ?_
  rintro r w ⟨hw, n, rfl, hn1, hn2⟩
  have hw := hw.symm
  subst hw
  refine (new_st h hn1 (by omega)).mono ?_
  rintro r w ⟨b, s, rfl, h⟩
  refine JoinX.mk (fun j w' => j.1 = false ∧ St wi w' (dg (fresh b s n) :: [])) ?_ ?_
  · rintro ⟨_, ⟨⟩⟩ w ⟨hj, h⟩
    dsimp only at hj h ⊢
    subst hj
    rw [SplitB_iff]
    refine ⟨(fun hz => by cases hz), fun _ => ?_⟩
    have h : St wi w ([.row 30 1 ⟨none, 0, 0⟩ (lsl [])] :: ([] : List Bs).map (brw 5) :: dg (fresh b s n) :: []) := (St.empty.2 h).nilrow 30 1
    refine LoopX.mk (fun st w' => ∃ (k : Nat) (want : List Bs), k ≤ n ∧ st.2.1 = (k : Int) ∧ want.length = k ∧ st.1.len = k ∧ want.map (·.2) = zer k ∧ St wi w' ([.row 30 1 st.1 (lsl want)] :: want.map (brw 5) :: dg (fresh b s n) :: [])) (fun st => n - st.2.1.toNat) ⟨0, [], by omega, rfl, rfl, rfl, rfl, h⟩ ?_
    clear h
    rintro ⟨q, _, ⟨⟩⟩ w ⟨k, want, hk, rfl, hwl, hql, hwz, h⟩ K hK
    dsimp only at h hK hql ⊢
    rw [SplitB_iff]
    refine ⟨fun hc => ?_, fun hc => ?_⟩
    · have hc : k < n := by have := of_decide_eq_true hc; omega
      refine (full_st 0 h).mono ?_
      rintro t w ⟨htl, h⟩
      refine h.newS 1 (bs29 _ _ rfl) rfl rfl rfl ?_
      intro u w hul huc _ h
      refine h.app 2 0 ⟨_, rfl, rfl⟩ (h.rd (k := 0) (i := 0) ⟨_, rfl, rfl⟩) one_slice (by simp only [maxLen]; omega) (by omega) ?_
      intro q' w hq' h
      dsimp only [updG, setO] at h
      have h := h.drop 0
      dsimp only [delO] at h
      have h := (h.bring 2 rfl)
      dsimp only [delO] at h
      have h := h.bring 1 rfl
      dsimp only [delO] at h
      have h := h.into
      have h := h.bring 1 rfl
      dsimp only [delO] at h
      refine hK _ _ ⟨k + 1, want ++ [(t, List.replicate 512 0)], by omega, by dsimp only; rw [wr (by omega)]; omega, by simp [hwl], by dsimp only; omega, ?_, ?_⟩ (by dsimp only; rw [wr (by omega)]; omega)
      · rw [List.map_append, hwz]; simp [zer, List.replicate_succ']
      · rw [lsl_snoc, List.map_append]
        exact h
    · have hc : k = n := by have := of_decide_eq_false hc; omega
      subst hc
      have h := h.bring 1 rfl
      dsimp only [delO] at h
      refine LoopX.mk (fun st w' => ∃ (k : Nat) (d : D) (want : List Bs), k ≤ os.length ∧ st.1 = (k : Int) ∧ d.b = b ∧ DOk d ∧ d.off = false ∧ d.armed = false ∧ d.wr = k ∧ want.map (·.2) = d.abs.ims ∧ want.length = q.len ∧ St wi w' (want.map (brw 5) :: [.row 30 1 q (lsl want)] :: dg d :: [])) (fun st => os.length - st.1.toNat)
        ⟨0, fresh b s k, want, by omega, rfl, rfl, fresh_ok _ _ (by omega), rfl, rfl, rfl, by rw [fresh_ims, hwz], by omega, h⟩ ?_
      clear h hwz hwl
      rintro ⟨_, ⟨⟩⟩ w ⟨i, d, want, hi, rfl, rfl, ok, ho, ha, hdw, hwd, hwl, h⟩ K hK
      dsimp only at h hK ⊢
      have hdl : d.secs.length = k := by
        have := congrArg List.length hwd
        simp at this; omega
      rw [SplitB_iff]
      refine ⟨fun hc => ?_, fun hc => ?_⟩
      · have hc : i < os.length := by have := of_decide_eq_true hc; omega
        refine JoinX.mk (fun _ w' => ∃ (d' : D) (want : List Bs), d'.b = d.b ∧ DOk d' ∧ d'.off = false ∧ d'.armed = false ∧ d'.wr = (i + 1 : Nat) ∧ want.map (·.2) = d'.abs.ims ∧ want.length = q.len ∧ St wi w' (want.map (brw 5) :: [.row 30 1 q (lsl want)] :: dg d' :: [])) ?_ ?_
        · rintro ⟨⟩ w ⟨d', want', hb', ok', ho', ha', hdw', hwd', hwl', h⟩
          exact hK _ _ ⟨i + 1, d', want', by omega, by dsimp only; rw [wr (by omega)]; omega, hb', ok', ho', ha', hdw', hwd', hwl', h⟩ (by dsimp only; rw [wr (by omega)]; omega)
        · intro k7 hk7
          refine (h.old hp).idxK i rfl (by omega) ?_
          intro b1 o1 hb1
          refine (h.old hp).el hb1 (i * 2 + 0) (by simp only [add_lit', Nat.add_assoc]) (kd := .int .i64) (x := os[i].1) (by rw [pts_get os i 0 hc (by decide)]; rfl) ?_
          refine (slot_ok (by omega) (by omega)).mono ?_
          rintro r w' ⟨hw', rfl⟩
          subst hw'
          obtain ⟨hs0, hs1⟩ := slotI_lt (i := os[i].1) (n := (k : Int)) (by omega)
          obtain ⟨m, hm⟩ : ∃ m : Nat, slotI os[i].1 (k : Int) = (m : Int) := ⟨(slotI os[i].1 (k : Int)).toNat, by omega⟩
          rw [hm] at hs1 ⊢
          have hmk : m < k := by omega
          refine (h.old hp).idxK i rfl (by omega) ?_
          intro b2 o2 hb2
          refine (h.old hp).el hb2 (i * 2 + 1) (by simp only [add_lit', Nat.add_assoc]) (kd := .int .u8) (x := (os[i].2.toNat : Int)) (by rw [pts_get os i 1 hc (by decide)]; rfl) ?_
          refine (full_st os[i].2 h).mono ?_
          rintro t w ⟨htl, h⟩
          have h := h.bring 3 rfl
          dsimp only [delO] at h
          refine (write_st h ok (by omega) (p := t) (c := List.replicate 512 os[i].2) (fun w h => h.rd (k := 0) (i := 0) ⟨_, rfl, rfl⟩) (m : Int)).mono ?_
          rintro r w ⟨rfl, d', hb', hd', ok', h⟩
          rw [A.write_ok ho ha (by rw [abs_len]; omega) (by simp)] at hd' ⊢
          dsimp only at hd' ⊢
          have h := h.drop 1
          dsimp only [delO] at h
          have h := h.back 2
          dsimp only [insO] at h
          refine (num_ok 0).mono ?_
          rintro r w' ⟨hw', rfl⟩
          subst hw'
          rw [SplitB_iff]
          refine ⟨(fun hz => by simp at hz), fun _ => ?_⟩
          refine (h.old hp).idxK i rfl (by omega) ?_
          intro b3 o3 hb3
          refine (h.old hp).el hb3 (i * 2 + 1) (by simp only [add_lit', Nat.add_assoc]) (kd := .int .u8) (x := (os[i].2.toNat : Int)) (by rw [pts_get os i 1 hc (by decide)]; rfl) ?_
          refine (full_st os[i].2 h).mono ?_
          rintro t2 w ⟨ht2, h⟩
          refine (h.rd (k := 2) (i := 0) ⟨_, rfl, rfl⟩).idxK m rfl (by omega) ?_
          intro b4 o4 hb4
          refine h.storR 2 0 ⟨_, rfl, rfl⟩ hb4 m (by rw [Nat.mul_one]) (by rw [lsl_len]; omega) rfl ?_
          intro w h
          dsimp only [updG, setO] at h
          have h := h.plug (i := m) (nthO_map (brw 5) want (by omega))
          have e1 : Ent.row 5 1 t2 (bys (List.replicate 512 os[i].2)) = brw 5 (t2, List.replicate 512 os[i].2) := rfl
          rw [e1, setO_brw, ← lsl_set want m (t2, List.replicate 512 os[i].2)] at h
          have hwd2 : (want.set m (t2, List.replicate 512 os[i].2)).map (·.2) = d'.abs.ims := by
            rw [hd', List.map_set, hwd]
          have hwl2 : (want.set m (t2, List.replicate 512 os[i].2)).length = q.len := by rw [List.length_set]; exact hwl
          generalize want.set m (t2, List.replicate 512 os[i].2) = want' at h hwd2 hwl2
          have ho' : d'.off = false := by rw [← abs_off, hd']; exact ho
          have ha' : d'.armed = false := by rw [← abs_armed, hd']; exact ha
          have hdw' : d'.wr = (i + 1 : Nat) := by rw [← abs_wr, hd']; dsimp only; rw [abs_wr, hdw]; omega
          refine (slot_ok (by omega) (by omega)).mono ?_
          rintro r w' ⟨hw', rfl⟩
          subst hw'
          rw [SplitB_iff]
          refine ⟨fun _ => ?_, fun _ => ?_⟩
          · have h := h.bring 2 rfl
            dsimp only [delO] at h
            rw [← hb']
            refine (off_st h).mono ?_
            rintro ⟨⟩ w h
            have ok2 : DOk { d' with off := true, armed := false } := ⟨ok'.tr, ok'.full, ok'.small, ok'.w0, ok'.torn, fun h => by cases h⟩
            refine (read_off h 0 rfl).mono ?_
            rintro ⟨rs, re, ⟨⟩⟩ w ⟨hre, h⟩
            dsimp only at hre ⊢
            subst hre
            have h := h.back 2
            dsimp only [insO] at h
            refine (full_st 9 h).mono ?_
            rintro t3 w ⟨ht3, h⟩
            have h := h.bring 3 rfl
            dsimp only [delO] at h
            refine (write_st h ok2 (by dsimp only; omega) (p := t3) (c := List.replicate 512 9) (fun w h => h.rd (k := 0) (i := 0) ⟨_, rfl, rfl⟩) 0).mono ?_
            rintro r w ⟨rfl, d3, hb3, hd3, ok3, h⟩
            rw [A.write_off rfl] at hd3 ⊢
            dsimp only at hb3 hd3 ⊢
            have h := h.drop 1
            dsimp only [delO] at h
            rw [← hb3]
            refine JoinX.mk (fun j w' => j.1 = false ∧ St wi w' (dg d3 :: want'.map (brw 5) :: [.row 30 1 q (lsl want')] :: [])) ?_ ?_
            · rintro ⟨_, ⟨⟩⟩ w ⟨hj, h⟩
              dsimp only at hj h ⊢
              subst hj
              rw [SplitB_iff]
              refine ⟨(fun hz => by cases hz), fun _ => ?_⟩
              refine (on_st h).mono ?_
              rintro ⟨⟩ w h
              have h := h.back 2
              dsimp only [insO] at h
              have hs3 : d3.secs.map cont = d'.secs.map cont := congrArg A.ims hd3
              refine hk7 _ _ ⟨{ d3 with off := false }, want', hb3.trans hb', ⟨ok3.tr, ok3.full, ok3.small, ok3.w0, ok3.torn, ok3.after⟩, rfl, ?_, ?_, ?_, hwl2, h⟩
              · exact congrArg A.armed hd3
              · have := congrArg A.wr hd3
                exact this.trans hdw'
              · rw [hwd2]; exact hs3.symm
            · intro k9 hk9
              refine (num_ok 200).mono ?_
              rintro r w' ⟨hw', rfl⟩
              subst hw'
              rw [SplitB_iff]
              refine ⟨(fun hz => by simp at hz), fun _ => ?_⟩
              refine (num_ok 200).mono ?_
              rintro r w' ⟨hw', rfl⟩
              subst hw'
              rw [SplitB_iff]
              refine ⟨(fun hz => by simp at hz), fun _ => ?_⟩
              refine (ison_st h).mono ?_
              rintro r w ⟨rfl, h⟩
              refine hk9 _ _ ⟨?_, h⟩
              have : d3.off = true := congrArg A.off hd3
              dsimp only; rw [this]; rfl
          · exact hk7 _ _ ⟨d', want', hb', ok', ho', ha', hdw', hwd2, hwl2, h⟩
      · have hio : i = os.length := by have := of_decide_eq_false hc; omega
        refine LoopX.mk (fun st w' => ∃ (j : Nat), j ≤ k ∧ st.1 = (j : Int) ∧ St wi w' (dg d :: want.map (brw 5) :: [.row 30 1 q (lsl want)] :: [])) (fun st => k - st.1.toNat) ⟨0, by omega, rfl, h.bring 2 rfl⟩ ?_
        clear h
        rintro ⟨_, ⟨⟩⟩ w ⟨j, hj, rfl, h⟩ K hK
        dsimp only at h hK ⊢
        rw [SplitB_iff]
        refine ⟨fun hc => ?_, fun hc => ?_⟩
        · have hc : j < k := by have := of_decide_eq_true hc; omega
          refine (h.rd (k := 2) (i := 0) ⟨_, rfl, rfl⟩).idxK j rfl (by omega) ?_
          intro b1 o1 hb1
          refine (h.rd (k := 2) (i := 0) ⟨_, rfl, rfl⟩).el hb1 (j * 1) rfl (kd := .sl) (x := want[j].1) (by rw [Nat.mul_one, lsl_at (by omega)]; rfl) ?_
          refine (reads_st h ok (n := j) (by omega) ho (p := want[j].1) (c := want[j].2) (fun w h => h.rd (k := 0) (i := j) ⟨_, rfl, nthO_map (brw 5) want (by omega)⟩)).mono ?_
          rintro r w ⟨rfl, h⟩
          rw [ims_at (by omega) hwd (by omega), SplitB_iff]
          refine ⟨(fun hz => by simp at hz), fun _ => ?_⟩
          exact hK _ _ ⟨j + 1, by omega, by dsimp only; rw [wr (by omega)]; omega, h⟩ (by dsimp only; rw [wr (by omega)]; omega)
        · refine (ison_st h).mono ?_
          rintro r w ⟨rfl, h⟩
          rw [SplitB_iff]
          refine ⟨fun _ => ?_, (fun hz => by rw [ho] at hz; simp at hz)⟩
          refine (writes_st h).mono ?_
          rintro r w ⟨rfl, h⟩
          rw [SplitB_iff]
          refine ⟨fun _ => ?_, (fun hz => by rw [hdw, hio, hl] at hz; simp at hz)⟩
          refine (image_st h ok).mono ?_
          rintro r w h
          have hr := (h.rd (k := 0) (i := 0) ⟨_, rfl, rfl⟩).bys_len
          rw [len_flat (ims_len ok), abs_len, hdl] at hr
          refine ⟨h.upd, ?_⟩
          rw [wr (by omega), hr]
          simp
  · intro k1 hk1
    refine (num_ok 0).mono ?_
    rintro r w' ⟨hw', rfl⟩
    subst hw'
    rw [SplitB_iff]
    refine ⟨(fun hz => by simp at hz), fun _ => ?_⟩
    first | refine RunN.pEqS ?_ | refine RunN.pEqN ?_ | refine RunN.pNeS ?_ | refine RunN.pNeN ?_
    exact hk1 _ _ ⟨rfl, h⟩
end Go.Proofs.Ytpdaoahamgegoaa
