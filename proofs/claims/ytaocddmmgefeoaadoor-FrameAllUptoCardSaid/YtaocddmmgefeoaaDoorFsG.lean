/- The law of all calls in any order. -/
import Derived.Test.YtaocddmmgefeoaaDoorFsF
namespace Go.Proofs.YtaocddmmgefeoaaDoor
open Go Go.Fw Go.RowKit Go.Frm
set_option linter.unusedVariables false
set_option linter.unusedSimpArgs false
set_option maxRecDepth 4000
set_option maxHeartbeats 2000000
variable {w0 w : World} {F : Grps} {n : Nat} {s : Sh}

structure Cv where
  kk : Int
  at_ : Int
  add : UInt8
  d : Sl
  m : List UInt8
def cvc (o : Cv) : List Value := [.int .i64 o.kk, .int .i64 o.at_, .int .u8 (o.add.toNat : Int), .slice o.d.a o.d.len o.d.cap]
def cvs (os : List Cv) : List Value := os.flatMap cvc
theorem cvs_len (os : List Cv) : (cvs os).length = os.length * 4 := by
  induction os with
  | nil => rfl
  | cons x r ih => simp only [cvs, List.flatMap_cons, List.length_append, List.length_cons] at ih ⊢; rw [ih]; simp [cvc]; omega
theorem cvs_drop (os : List Cv) (n : Nat) : (cvs os).drop (n * 4) = cvs (os.drop n) := by
  induction n generalizing os with
  | zero => simp
  | succ n ih =>
    cases os with
    | nil => simp [cvs]
    | cons x r =>
      have e : (n + 1) * 4 = 4 + n * 4 := by omega
      rw [e, ← List.drop_drop]
      have : (cvs (x :: r)).drop 4 = cvs r := by simp [cvs, cvc]
      rw [this, ih]; rfl
theorem cvs_at (os : List Cv) (i : Nat) (h : i < os.length) : ((cvs os).drop (i * 4)).take 4 = cvc os[i] := by
  have e : ∀ x r, cvs (x :: r) = cvc x ++ cvs r := fun x r => by simp [cvs]
  rw [cvs_drop, List.drop_eq_getElem_cons h, e, List.take_append_of_le_length (by simp [cvc]), List.take_of_length_le (by simp [cvc])]
theorem cvs_get (os : List Cv) (i j : Nat) (h : i < os.length) (hj : j < 4) : (cvs os)[i * 4 + j]? = (cvc os[i])[j]? := by
  rw [← cvs_at os i h, List.getElem?_take, if_pos hj, List.getElem?_drop]
instance : Et Tryd.prog 31 33 4 48 := ⟨ET.of (by kernel_rfl), by decide⟩
instance : Ag Tryd.prog 33 4 := ⟨by kernel_rfl⟩
instance : NewC Tryd.prog 33 [.int .i64 0, .int .i64 0, .int .u8 0, .slice none 0 0] := ⟨fun w => by kernel_rfl⟩
def big : Nat := 140737488355328
structure Cal (w : World) (s : Sl) (os : List Cv) : Prop where
  rd : Rd w s 4 (cvs os)
  each : ∀ o ∈ os, Rd w o.d 1 (bys o.m) ∧ o.m.length ≤ big
  small : os.length ≤ big
theorem Cal.len {s : Sl} {os : List Cv} (h : Cal w s os) : s.len = os.length := by have := h.rd.1; rw [cvs_len] at this; omega
def total (os : List Cv) : Nat := (os.map (·.m.length)).sum
theorem total_le {os : List Cv} {o : Cv} (h : o ∈ os) : o.m.length ≤ total os := by
  induction os with
  | nil => cases h
  | cons x r ih =>
    simp only [total, List.map_cons, List.sum_cons]
    rcases List.mem_cons.1 h with rfl | h
    · omega
    · have := ih h; simp only [total] at this; omega
theorem total_bound {os : List Cv} (h : ∀ o ∈ os, o.m.length ≤ big) : total os ≤ os.length * big := by
  induction os with
  | nil => simp [total]
  | cons x r ih =>
    have h1 := h x (List.mem_cons_self ..)
    have h2 := ih fun o ho => h o (List.mem_cons_of_mem _ ho)
    simp only [total, List.map_cons, List.sum_cons, List.length_cons, Nat.add_mul, Nat.one_mul] at h2 ⊢
    omega

theorem law5 {wi : World} {p : Sl} {os : List Cv} (hs : Cal wi p os) (ht : Tab wi) : CallK Tryd.prog .bool 5 #[.slice p.a p.len p.cap] wi fun (r : Bool) w' => Upd wi w' nobody ∧ r = true := by
  have hl := hs.len
  have hkb := hs.small
  have hbg : big = 140737488355328 := rfl
  refine T5.calls ?_
  unfold T5
  refine LoopX.mk (fun st w' => ∃ k : Nat, k ≤ os.length ∧ st.2.1 = (k : Int) ∧ w' = wi ∧ (os.length ≤ 200 → st.1 = (total (os.take k) : Int))) (fun st => os.length - st.2.1.toNat) ⟨0, Nat.zero_le _, rfl, rfl, fun _ => by simp [total]⟩ ?_
  rintro ⟨a, _, ⟨⟩⟩ _ ⟨k, hk, rfl, hw, ha⟩ K hK
  have hw := hw.symm
  subst hw
  dsimp only at ha hK ⊢
  rw [SplitB_iff]
  refine ⟨fun hc => ?_, fun hc => ?_⟩
  · have hc : k < os.length := by have := of_decide_eq_true hc; omega
    refine hs.rd.idxK k rfl (by omega) ?_
    intro b o hb
    refine hs.rd.el hb (k * 4 + 3) (by simp only [add_lit', Nat.add_assoc]) (kd := .sl) (x := os[k].d) (by rw [cvs_get os k 3 hc (by decide)]; rfl) ?_
    have hsl := (hs.each os[k] (List.getElem_mem _)).1.bys_len
    refine hK _ _ ⟨k + 1, hc, by dsimp only; rw [wr (by omega)]; omega, rfl, ?_⟩ (by dsimp only; rw [wr (by omega)]; omega)
    intro h2
    dsimp only
    have htb := total_bound (os := os.take (k + 1)) fun o ho => (hs.each o (List.mem_of_mem_take ho)).2
    have hbig : (os.take (k + 1)).length * big ≤ 200 * big := Nat.mul_le_mul_right _ (by simp; omega)
    have hb2 : 200 * big = 28147497671065600 := by decide
    have e : total (os.take (k + 1)) = total (os.take k) + os[k].m.length := by
      rw [List.take_succ_eq_append_getElem hc]; simp only [total, List.map_append, List.sum_append, List.map_cons, List.map_nil, List.sum_cons, List.sum_nil, Nat.add_zero]
    rw [ha h2, hsl, wr (by omega), e]; omega
  have hc : k = os.length := by have := of_decide_eq_false hc; omega
  clear hK K
  subst hc
  rw [List.take_length] at ha
  refine JoinX.mk (fun j w' => w' = wi ∧ (j.1 = false → os.length ≤ 200 ∧ ∀ o ∈ os, o.m.length ≤ 65536)) ?_ ?_
  rotate_left
  · intro k3 hk3
    rw [SplitB_iff]
    refine ⟨fun hz => ?_, fun hz => ?_⟩
    · exact hk3 _ _ ⟨rfl, (fun hh => by cases hh)⟩
    · have hz := of_decide_eq_false hz
      refine hk3 _ _ ⟨rfl, fun hh => ?_⟩
      have h2 : os.length ≤ 200 := by omega
      have hh := of_decide_eq_false hh
      rw [ha h2] at hh
      refine ⟨h2, fun o ho => ?_⟩
      have := total_le ho
      omega
  rintro ⟨jb, ⟨⟩⟩ w ⟨hw, hj⟩
  have hw := hw.symm
  subst hw
  dsimp only at hj ⊢
  rw [SplitB_iff]
  refine ⟨fun hz => ?_, fun hz => ?_⟩
  · exact ⟨Upd.refl _ _, rfl⟩
  obtain ⟨h200, hm⟩ := hj hz
  clear hj hz ha
  refine (alive_st ht).mono ?_
  rintro r w ⟨rfl, h⟩
  refine h.newB run_boxA rfl ?_
  intro Q w h
  obtain ⟨s0, rfl, ok0, h⟩ := shelf_new h
  refine LoopX.mk (fun st w' => ∃ (k : Nat) (s : Sh), k ≤ os.length ∧ st.2.1 = (k : Int) ∧ st.1 = true ∧ s.Q = s0.Q ∧ s.Ok k ∧ St wi w' (s.gs [])) (fun st => os.length - st.2.1.toNat) ⟨0, s0, Nat.zero_le _, rfl, rfl, rfl, ok0, h⟩ ?_
  clear h
  rintro ⟨_, _, ⟨⟩⟩ w ⟨k, s, hk, rfl, rfl, hQ, ok, h⟩ K hK
  dsimp only at h hK ⊢
  rw [← hQ]
  refine JoinX.mk (fun j w' => (j.1 = true ↔ k < os.length) ∧ St wi w' (s.gs [])) ?_ ?_
  rotate_left
  · intro k7 hk7
    rw [SplitB_iff]
    refine ⟨fun hc => ?_, fun hc => ?_⟩
    · have hc : k < os.length := by have := of_decide_eq_true hc; omega
      exact hk7 _ _ ⟨by simp [hc], h⟩
    · have hc : ¬ k < os.length := by have := of_decide_eq_false hc; omega
      exact hk7 _ _ ⟨by simp [hc], h⟩
  clear h
  rintro ⟨jb, ⟨⟩⟩ w ⟨hjb, h⟩
  dsimp only at hjb h ⊢
  rw [SplitB_iff]
  refine ⟨fun hz => ?_, fun hz => ?_⟩
  · have hc := hjb.1 hz
    refine JoinX.mk (fun j w' => j.1 = true ∧ ∃ s' : Sh, s'.Q = s.Q ∧ s'.Ok (k + 1) ∧ St wi w' (s'.gs [])) ?_ ?_
    · rintro ⟨_, ⟨⟩⟩ w ⟨hj, s', hQ', ok', h⟩
      dsimp only at hj h ⊢
      subst hj
      exact hK _ _ ⟨k + 1, s', hc, by dsimp only; rw [wr (by omega)]; omega, rfl, hQ'.trans hQ, ok', h⟩ (by dsimp only; rw [wr (by omega)]; omega)
    · intro k9 hk9
      refine (h.old hs.rd).idxK k rfl (by omega) ?_
      intro b o hb
      refine (h.old hs.rd).elA hb (k * 4) rfl (os[k].kk, os[k].at_, (os[k].add.toNat : Int), os[k].d, ()) (cvs_at _ _ hc) ?_
      have hdm := hm os[k] (List.getElem_mem _)
      have hdr := (hs.each os[k] (List.getElem_mem _)).1
      generalize os[k] = oo at *
      obtain ⟨kk, at_, add, d, m⟩ := oo
      dsimp only at hdm hdr ⊢
      first | refine h.newB (NewC.run _) rfl ?_ | refine h.drew.newB (NewC.run _) rfl ?_
      intro t8 w h
      try dsimp only at h
      refine h.storA 0 0 ⟨_, rfl, rfl⟩ rfl (hk := ?_)
      intro w h
      dsimp only [updG, setO] at h
      simp only [List.take_zero, List.drop, List.nil_append, List.append_nil, Nat.zero_add] at h
      repeat (first | (with_reducible refine NilP.mk ?_) | ((with_reducible refine RunN.isLoad ?_); (first | refine h.loadB 0 0 ⟨_, rfl, rfl⟩ rfl rfl ?_ | refine h.drew.loadB 0 0 ⟨_, rfl, rfl⟩ rfl rfl ?_)) | ((with_reducible refine ReadN.isLoad ?_); (first | refine h.readB 0 0 ⟨_, rfl, rfl⟩ rfl rfl ?_ | refine h.drew.readB 0 0 ⟨_, rfl, rfl⟩ rfl rfl ?_)) | ((with_reducible refine StillV.isLoad ?_); (first | refine ⟨h.stillB 0 0 ⟨_, rfl, rfl⟩ rfl rfl, ?_⟩)) | ((with_reducible refine RunU.isStor ?_); (first | (refine h.storB 0 0 ⟨_, rfl, rfl⟩ rfl rfl rfl ?_; intro w h; dsimp only [updG, setO] at h) | (refine h.drew.storB 0 0 ⟨_, rfl, rfl⟩ rfl rfl rfl ?_; intro w h; dsimp only [updG, setO] at h))) | ((with_reducible refine RunN.isBox ?_); (first | (refine h.newB run_boxA rfl ?_; intro bn w h; try dsimp only at h) | (refine h.drew.newB run_boxA rfl ?_; intro bn w h; try dsimp only at h))) | ((with_reducible refine RunN.isNew ?_); (first | (refine h.newB (NewC.run _) rfl ?_; intro bn w h) | (refine h.drew.newB (NewC.run _) rfl ?_; intro bn w h))))
      rw [SplitB_iff]
      refine ⟨fun h1 => ?_, fun h1 => ?_⟩
      · skip
        repeat (first | (with_reducible refine NilP.mk ?_) | ((with_reducible refine RunN.isLoad ?_); (first | refine h.loadB 0 0 ⟨_, rfl, rfl⟩ rfl rfl ?_ | refine h.drew.loadB 0 0 ⟨_, rfl, rfl⟩ rfl rfl ?_)) | ((with_reducible refine ReadN.isLoad ?_); (first | refine h.readB 0 0 ⟨_, rfl, rfl⟩ rfl rfl ?_ | refine h.drew.readB 0 0 ⟨_, rfl, rfl⟩ rfl rfl ?_)) | ((with_reducible refine StillV.isLoad ?_); (first | refine ⟨h.stillB 0 0 ⟨_, rfl, rfl⟩ rfl rfl, ?_⟩)) | ((with_reducible refine RunU.isStor ?_); (first | (refine h.storB 0 0 ⟨_, rfl, rfl⟩ rfl rfl rfl ?_; intro w h; dsimp only [updG, setO] at h) | (refine h.drew.storB 0 0 ⟨_, rfl, rfl⟩ rfl rfl rfl ?_; intro w h; dsimp only [updG, setO] at h))) | ((with_reducible refine RunN.isBox ?_); (first | (refine h.newB run_boxA rfl ?_; intro bn w h; try dsimp only at h) | (refine h.drew.newB run_boxA rfl ?_; intro bn w h; try dsimp only at h))) | ((with_reducible refine RunN.isNew ?_); (first | (refine h.newB (NewC.run _) rfl ?_; intro bn w h) | (refine h.drew.newB (NewC.run _) rfl ?_; intro bn w h))))
        refine (seals_st (h.drop 0) ok (by omega) ht (p := d) (l := m) (fun w h => h.old hdr) hdm).mono ?_
        rintro r w ⟨rfl, s', hQ', ok', h⟩
        exact hk9 _ _ ⟨rfl, s', hQ', ok', h⟩
      · skip
        rw [SplitB_iff]
        refine ⟨fun h2 => ?_, fun h2 => ?_⟩
        · skip
          repeat (first | (with_reducible refine NilP.mk ?_) | ((with_reducible refine RunN.isLoad ?_); (first | refine h.loadB 0 0 ⟨_, rfl, rfl⟩ rfl rfl ?_ | refine h.drew.loadB 0 0 ⟨_, rfl, rfl⟩ rfl rfl ?_)) | ((with_reducible refine ReadN.isLoad ?_); (first | refine h.readB 0 0 ⟨_, rfl, rfl⟩ rfl rfl ?_ | refine h.drew.readB 0 0 ⟨_, rfl, rfl⟩ rfl rfl ?_)) | ((with_reducible refine StillV.isLoad ?_); (first | refine ⟨h.stillB 0 0 ⟨_, rfl, rfl⟩ rfl rfl, ?_⟩)) | ((with_reducible refine RunU.isStor ?_); (first | (refine h.storB 0 0 ⟨_, rfl, rfl⟩ rfl rfl rfl ?_; intro w h; dsimp only [updG, setO] at h) | (refine h.drew.storB 0 0 ⟨_, rfl, rfl⟩ rfl rfl rfl ?_; intro w h; dsimp only [updG, setO] at h))) | ((with_reducible refine RunN.isBox ?_); (first | (refine h.newB run_boxA rfl ?_; intro bn w h; try dsimp only at h) | (refine h.drew.newB run_boxA rfl ?_; intro bn w h; try dsimp only at h))) | ((with_reducible refine RunN.isNew ?_); (first | (refine h.newB (NewC.run _) rfl ?_; intro bn w h) | (refine h.drew.newB (NewC.run _) rfl ?_; intro bn w h))))
          refine (opens_st (h.drop 0) ok (by omega) ht (p := d) (l := m) (fun w h => h.old hdr) hdm).mono ?_
          rintro r w ⟨rfl, s', hQ', ok', h⟩
          exact hk9 _ _ ⟨rfl, s', hQ', ok', h⟩
        · skip
          rw [SplitB_iff]
          refine ⟨fun h3 => ?_, fun h3 => ?_⟩
          · skip
            repeat (first | (with_reducible refine NilP.mk ?_) | ((with_reducible refine RunN.isLoad ?_); (first | refine h.loadB 0 0 ⟨_, rfl, rfl⟩ rfl rfl ?_ | refine h.drew.loadB 0 0 ⟨_, rfl, rfl⟩ rfl rfl ?_)) | ((with_reducible refine ReadN.isLoad ?_); (first | refine h.readB 0 0 ⟨_, rfl, rfl⟩ rfl rfl ?_ | refine h.drew.readB 0 0 ⟨_, rfl, rfl⟩ rfl rfl ?_)) | ((with_reducible refine StillV.isLoad ?_); (first | refine ⟨h.stillB 0 0 ⟨_, rfl, rfl⟩ rfl rfl, ?_⟩)) | ((with_reducible refine RunU.isStor ?_); (first | (refine h.storB 0 0 ⟨_, rfl, rfl⟩ rfl rfl rfl ?_; intro w h; dsimp only [updG, setO] at h) | (refine h.drew.storB 0 0 ⟨_, rfl, rfl⟩ rfl rfl rfl ?_; intro w h; dsimp only [updG, setO] at h))) | ((with_reducible refine RunN.isBox ?_); (first | (refine h.newB run_boxA rfl ?_; intro bn w h; try dsimp only at h) | (refine h.drew.newB run_boxA rfl ?_; intro bn w h; try dsimp only at h))) | ((with_reducible refine RunN.isNew ?_); (first | (refine h.newB (NewC.run _) rfl ?_; intro bn w h) | (refine h.drew.newB (NewC.run _) rfl ?_; intro bn w h))))
            refine (rseal_st (h.old hdr) (by omega)).mono ?_
            rintro ⟨b, eb, ⟨⟩⟩ w ⟨v, hb, hv⟩
            have h := h.join hb
            dsimp only [List.cons_append, List.nil_append] at h hv ⊢
            have hvl : v.length ≤ 4103 := by
              rcases hv with ⟨_, rfl, _⟩ | ⟨_, rfl, _⟩
              · simp
              · rw [frame_length]; omega
            clear hv hb
            have hbl := (h.rd (k := 0) (i := 0) ⟨_, rfl, rfl⟩).bys_len
            refine JoinX.mk (fun _ w' => ∃ v', v'.length = v.length ∧ St wi w' ([.row 5 1 b (bys v')] :: [.cel t8 33 [.int .i64 kk, .int .i64 at_, .int .u8 (add.toNat : Int), .slice d.a d.len d.cap]] :: s.gs [])) ?_ ?_
            · rintro ⟨⟩ w ⟨v', hv', h⟩
              have h := (h.drop 1).back 8
              dsimp only [delO, insO] at h
              refine (opens_st (s := s) (F := [.row 5 1 b (bys v')] :: []) h ok (by omega) ht (p := b) (l := v') (fun w h => h.rd (k := 0) (i := 0) ⟨_, rfl, rfl⟩) (by omega)).mono ?_
              rintro r w ⟨rfl, s', hQ', ok', h⟩
              exact hk9 _ _ ⟨rfl, s', hQ', ok', h.drop 8⟩
            · intro k11 hk11
              rw [SplitB_iff]
              refine ⟨fun hz => ?_, fun hz => ?_⟩
              · have hz : 0 < v.length := by have := of_decide_eq_true hz; omega
                repeat (first | (with_reducible refine NilP.mk ?_) | ((with_reducible refine RunN.isLoad ?_); (first | refine h.loadB 0 0 ⟨_, rfl, rfl⟩ rfl rfl ?_ | refine h.loadB 1 0 ⟨_, rfl, rfl⟩ rfl rfl ?_ | refine h.drew.loadB 0 0 ⟨_, rfl, rfl⟩ rfl rfl ?_ | refine h.drew.loadB 1 0 ⟨_, rfl, rfl⟩ rfl rfl ?_)) | ((with_reducible refine ReadN.isLoad ?_); (first | refine h.readB 0 0 ⟨_, rfl, rfl⟩ rfl rfl ?_ | refine h.readB 1 0 ⟨_, rfl, rfl⟩ rfl rfl ?_ | refine h.drew.readB 0 0 ⟨_, rfl, rfl⟩ rfl rfl ?_ | refine h.drew.readB 1 0 ⟨_, rfl, rfl⟩ rfl rfl ?_)) | ((with_reducible refine StillV.isLoad ?_); (first | refine ⟨h.stillB 0 0 ⟨_, rfl, rfl⟩ rfl rfl, ?_⟩ | refine ⟨h.stillB 1 0 ⟨_, rfl, rfl⟩ rfl rfl, ?_⟩)) | ((with_reducible refine RunU.isStor ?_); (first | (refine h.storB 0 0 ⟨_, rfl, rfl⟩ rfl rfl rfl ?_; intro w h; dsimp only [updG, setO] at h) | (refine h.storB 1 0 ⟨_, rfl, rfl⟩ rfl rfl rfl ?_; intro w h; dsimp only [updG, setO] at h) | (refine h.drew.storB 0 0 ⟨_, rfl, rfl⟩ rfl rfl rfl ?_; intro w h; dsimp only [updG, setO] at h) | (refine h.drew.storB 1 0 ⟨_, rfl, rfl⟩ rfl rfl rfl ?_; intro w h; dsimp only [updG, setO] at h))) | ((with_reducible refine RunN.isBox ?_); (first | (refine h.newB run_boxA rfl ?_; intro bn w h; try dsimp only at h) | (refine h.drew.newB run_boxA rfl ?_; intro bn w h; try dsimp only at h))) | ((with_reducible refine RunN.isNew ?_); (first | (refine h.newB (NewC.run _) rfl ?_; intro bn w h) | (refine h.drew.newB (NewC.run _) rfl ?_; intro bn w h))))
                refine (slot_ok (i := at_) (n := (b.len : Int)) (by omega) (by omega)).mono ?_
                rintro r w ⟨rfl, hr0, hr1⟩
                have h := h.drew
                obtain ⟨q, rfl⟩ : ∃ q : Nat, r = (q : Int) := ⟨r.toNat, (Int.toNat_of_nonneg hr0).symm⟩
                have hq : q < v.length := by omega
                repeat (first | (with_reducible refine NilP.mk ?_) | ((with_reducible refine RunN.isLoad ?_); (first | refine h.loadB 0 0 ⟨_, rfl, rfl⟩ rfl rfl ?_ | refine h.loadB 1 0 ⟨_, rfl, rfl⟩ rfl rfl ?_ | refine h.drew.loadB 0 0 ⟨_, rfl, rfl⟩ rfl rfl ?_ | refine h.drew.loadB 1 0 ⟨_, rfl, rfl⟩ rfl rfl ?_)) | ((with_reducible refine ReadN.isLoad ?_); (first | refine h.readB 0 0 ⟨_, rfl, rfl⟩ rfl rfl ?_ | refine h.readB 1 0 ⟨_, rfl, rfl⟩ rfl rfl ?_ | refine h.drew.readB 0 0 ⟨_, rfl, rfl⟩ rfl rfl ?_ | refine h.drew.readB 1 0 ⟨_, rfl, rfl⟩ rfl rfl ?_)) | ((with_reducible refine StillV.isLoad ?_); (first | refine ⟨h.stillB 0 0 ⟨_, rfl, rfl⟩ rfl rfl, ?_⟩ | refine ⟨h.stillB 1 0 ⟨_, rfl, rfl⟩ rfl rfl, ?_⟩)) | ((with_reducible refine RunU.isStor ?_); (first | (refine h.storB 0 0 ⟨_, rfl, rfl⟩ rfl rfl rfl ?_; intro w h; dsimp only [updG, setO] at h) | (refine h.storB 1 0 ⟨_, rfl, rfl⟩ rfl rfl rfl ?_; intro w h; dsimp only [updG, setO] at h) | (refine h.drew.storB 0 0 ⟨_, rfl, rfl⟩ rfl rfl rfl ?_; intro w h; dsimp only [updG, setO] at h) | (refine h.drew.storB 1 0 ⟨_, rfl, rfl⟩ rfl rfl rfl ?_; intro w h; dsimp only [updG, setO] at h))) | ((with_reducible refine RunN.isBox ?_); (first | (refine h.newB run_boxA rfl ?_; intro bn w h; try dsimp only at h) | (refine h.drew.newB run_boxA rfl ?_; intro bn w h; try dsimp only at h))) | ((with_reducible refine RunN.isNew ?_); (first | (refine h.newB (NewC.run _) rfl ?_; intro bn w h) | (refine h.drew.newB (NewC.run _) rfl ?_; intro bn w h))))
                refine (h.rd (k := 0) (i := 0) ⟨_, rfl, rfl⟩).idxR q rfl (by omega) ?_
                intro b1 o1 hb1
                refine (h.rd (k := 0) (i := 0) ⟨_, rfl, rfl⟩).elR hb1 (q * 1) rfl (kd := .int .u8) (x := (v[q].toNat : Int)) (by rw [Nat.mul_one]; exact bys_get hq) ?_
                refine (h.rd (k := 0) (i := 0) ⟨_, rfl, rfl⟩).idxR q rfl (by omega) ?_
                intro b2 o2 hb2
                rw [by8_v]
                refine h.storR 0 0 ⟨_, rfl, rfl⟩ hb2 q (by rw [Nat.mul_one]) (by simpa using hq) rfl ?_
                intro w h
                rw [Go.Fw.bys_set] at h
                exact hk11 _ _ ⟨v.set q _, by simp, h⟩
              · exact hk11 _ _ ⟨v, rfl, h⟩
          · exact hk9 _ _ ⟨rfl, s, rfl, { ok with mrk := Nat.le_succ_of_le ok.mrk, fl := Nat.le_succ_of_le ok.fl }, h.drop 0⟩
  · refine (apart_st h ok (by omega)).mono ?_
    rintro r w ⟨rfl, h⟩
    exact ⟨h.upd, rfl⟩
end Go.Proofs.YtaocddmmgefeoaaDoor
