/- The desk: an Append, as the document says. -/
import Derived.Test.YtimebochhbfkgaaJkS
namespace Go.Proofs.Ytimebochhbfkgaa
open Go Go.Fw Go.RowKit
set_option linter.unusedVariables false
set_option linter.unusedSimpArgs false
set_option maxRecDepth 4000
set_option maxHeartbeats 2000000
variable {w0 w : World} {F G : Grps} {d : D} {j : J} {x : K}

theorem JA.append_wr2 (x : JA) (a : A) (b : List UInt8) : (x.append a b).2.2.wr ≤ a.wr + cnt (min b.length 8192) ∧ (x.append a b).2.2.ims.length = a.ims.length ∧ a.wr ≤ (x.append a b).2.2.wr := by
  have hc := cnt_pos (min b.length 8192)
  unfold JA.append
  split
  · exact ⟨by dsimp only; omega, rfl, Int.le_refl _⟩
  · split
    · exact ⟨by dsimp only; omega, rfl, Int.le_refl _⟩
    · rename_i hb
      rw [Nat.min_eq_left (by omega)]
      rw [Nat.min_eq_left (by omega)] at hc
      split
      · exact ⟨by dsimp only; omega, rfl, Int.le_refl _⟩
      · obtain ⟨h1, h2, h3⟩ := puts_wr a x.next (secs (x.recs.length + 1) b)
        rw [secs_len] at h1
        split
        · exact ⟨by dsimp only; omega, h2, h3⟩
        · exact ⟨by dsimp only; omega, h2, h3⟩
theorem JA.append_lives {x : JA} {a : A} {b : List UInt8} (hd : x.dead = false) (ho : a.off = false) (ha : a.armed = false) : (x.append a b).2.1.dead = false ∧ (x.append a b).2.2.off = false ∧ (x.append a b).2.2.armed = false := by
  rcases Nat.lt_or_ge 8192 b.length with hb | hb
  · rw [JA.append_long hd ho hb]; exact ⟨hd, ho, ha⟩
  rcases Nat.lt_or_ge a.ims.length (x.next + cnt b.length) with hr | hr
  · rw [JA.append_space hd ho hb hr]; exact ⟨hd, ho, ha⟩
  · obtain ⟨a', e, h1, h2, _⟩ := JA.append_ok hd ho ha hb hr
    rw [e]; exact ⟨hd, h1, h2⟩
theorem Rel.of {d2 : D} {j2 : J} {x2 : K} (r : Rel x d j) (ok : DOk d2) (jok : JOk j2 d2) (hb : d2.b = d.b) (hjb : j2.b = j.b) (hdp : x2.dp = x.dp) (hjp : x2.jp = x.jp) (pw : Pw d2.abs x2.ims x2.on x2.left x2.torn) (hn : x2.next = j2.abs.next) (hd : x2.dead = j2.abs.dead) (hH : x2.H.map (·.2) = j2.abs.recs) : Rel x2 d2 j2 :=
  ⟨ok, jok, by rw [hdp, r.dp, D.p, D.p, hb], by rw [hjp, r.jp, J.p, J.p, hjb], pw, hn, hd, hH⟩

theorem appends_st (h : St w0 w (kg x :: dg d :: jg j d.p :: F)) (rel : Rel x d j) (hw : d.wr ≤ 2000000000000000000) {p : Sl} {b : List UInt8} (hp : SeesG w0 F p 1 (bys b)) (hb : b.length ≤ 140737488355326) :
    CallK Try.prog .bool 47 #[.pointer x.p, .slice p.a p.len p.cap] w fun (r : Bool) w' =>
      r = true ∧ ∃ (x' : K) (d' : D) (j' : J), Rel x' d' j' ∧ x'.b = x.b ∧ x'.sp = x.sp ∧ d'.b = d.b ∧ j'.b = j.b ∧ d'.wr ≤ d.wr + cnt (min b.length 8192) ∧ d.wr ≤ d'.wr ∧ d'.secs.length = d.secs.length ∧ (d.off = false → d.armed = false → j.dead = false → d'.off = false ∧ d'.armed = false ∧ j'.dead = false) ∧ St w0 w' (kg x' :: dg d' :: jg j' d'.p :: F) := by
  have hsm := rel.ok.small
  have hjn := rel.jok.next
  have hjr := rel.jok.recs
  have hlen := rel.len
  have hl5 := rel.l5
  have hpr := hp _ (h.ord 3 [])
  have hpl := hpr.bys_len
  have hpi : (p.len : Int) = (b.length : Int) := by rw [hpl]
  have hHl : x.H.length = j.recs.length := by have := congrArg List.length rel.H; simpa using this
  refine T47.calls ?_
  unfold T47
  refine (lent_st h hpr (by omega)).mono ?_
  rintro t w ⟨htl, h⟩
  have htcap := (h.rd (k := 0) (i := 0) ⟨_, rfl, rfl⟩).2.2
  try (with_reducible refine NilP.mk ?_)
  refine h.drew.readB 1 0 ⟨_, rfl, rfl⟩ rfl rfl ?_
  refine ReadN.sH (s := t) b.length hpi (by omega) ?_
  rw [rel.jp]
  have h := h.ord 4 [2, 3, 0, 1]
  dsimp only [pick, nthO, dropO] at h
  refine (append_st h.drew rel.ok rel.jok (by omega) (p := subS t 0 b.length 1) (c := b) (fun w h => by
    have := (h.rd (k := 0) (i := 0) ⟨_, rfl, rfl⟩).pre (hi := b.length) (by omega)
    rw [bys_take, List.take_append_of_le_length (Nat.le_refl _), List.take_of_length_le (Nat.le_refl _)] at this
    exact this)).mono ?_
  rintro r w ⟨rfl, d2, j2, hb2, hjb2, ha2, hd2, ok2, jok2, h⟩
  have hp2 : d2.p = d.p := by rw [D.p, D.p, hb2]
  rw [← hp2] at h
  obtain ⟨hw1, hw2, hw3⟩ := JA.append_wr2 j.abs d.abs b
  rw [← hd2] at hw1 hw2 hw3
  simp only [abs_wr, abs_len] at hw1 hw2 hw3
  refine JoinX.mk (fun jv w' => jv.1 = (j.abs.append d.abs b).1 ∧ ∃ x' : K, Rel x' d2 j2 ∧ x'.b = x.b ∧ x'.sp = x.sp ∧ St w0 w' (dg d2 :: jg j2 d2.p :: [.row 5 1 t (bys (b ++ [0xA5, 0x5A]))] :: kg x' :: F)) ?_ ?_
  · rintro ⟨_, ⟨⟩⟩ w ⟨hj, x', rel', hxb, hxs, h⟩
    dsimp only at hj h ⊢
    subst hj
    have h := h.ord 4 [2, 3, 0, 1]
    dsimp only [pick, nthO, dropO] at h
    refine (back_st h (by omega) (fun w h => hp _ (h.ord 3 []))).mono ?_
    rintro bb w ⟨rfl, h⟩
    rw [SplitB_iff]
    refine ⟨fun _ => ?_, (fun hz => by cases hz)⟩
    refine (num_ok _).mono ?_
    rintro r w' ⟨hw', rfl⟩
    rw [hw']
    refine ⟨by simp, x', d2, j2, rel', hxb, hxs, hb2, hjb2, hw1, hw3, hw2, fun g1 g2 g3 => ?_, h⟩
    obtain ⟨l1, l2, l3⟩ := JA.append_lives (x := j.abs) (a := d.abs) (b := b) g3 g1 g2
    exact ⟨(congrArg A.off hd2).trans l2, (congrArg A.armed hd2).trans l3, (congrArg JA.dead ha2).trans l1⟩
  · intro k1 hk1
    refine JoinX.mk (fun jv w' => jv.1 = (x.dead || !x.on) ∧ w' = w) ?_ ?_
    · rintro ⟨_, ⟨⟩⟩ w' ⟨hj, hw'⟩
      dsimp only at hj ⊢
      rw [hw']
      subst hj
      rw [SplitB_iff]
      refine ⟨fun hz => ?_, fun hz => ?_⟩
      · have e : j.abs.append d.abs b = (200, { j.abs with dead := true }, d.abs) := by
          unfold JA.append
          rw [if_pos]
          have h1 := rel.pw.hon
          have h2 := rel.dead
          simp only [Bool.or_eq_true] at hz
          rcases hz with hz | hz
          · left; exact h2.symm.trans hz
          · right; rw [h1] at hz; simpa using hz
        rw [e] at ha2 hd2 hk1
        try (with_reducible refine NilP.mk ?_)
        refine h.storB 3 0 ⟨_, rfl, rfl⟩ rfl rfl rfl ?_
        intro w h
        refine hk1 _ _ ⟨rfl, { x with dead := true }, rel.of ok2 jok2 hb2 hjb2 rfl rfl (by rw [hd2]; exact rel.pw) ?_ ?_ ?_, rfl, rfl, h⟩
        · rw [ha2]; exact rel.next
        · rw [ha2]
        · rw [ha2]; exact rel.H
      have hzd : x.dead = false ∧ x.on = true := by simpa using hz
      have hjd : j.abs.dead = false := rel.dead.symm.trans hzd.1
      have hao : d.abs.off = false := by have h1 := rel.pw.hon; rw [hzd.2] at h1; simpa using h1.symm
      have hnot : ¬ (j.abs.dead = true ∨ d.abs.off = true) := by rw [hjd, hao]; simp
      rw [hpi, SplitB_iff]
      refine ⟨fun hy => ?_, fun hy => ?_⟩
      · have hy : 8192 < b.length := by
          have h1 : (b.length : Int) > 8192 := of_decide_eq_true hy
          omega
        have e := JA.append_long (x := j.abs) (a := d.abs) (b := b) hjd hao hy
        rw [e] at ha2 hd2 hk1
        exact hk1 _ _ ⟨rfl, x, rel.of ok2 jok2 hb2 hjb2 rfl rfl (by rw [hd2]; exact rel.pw) (by rw [ha2]; exact rel.next) (by rw [ha2]; exact rel.dead) (by rw [ha2]; exact rel.H), rfl, rfl, h⟩
      have hy : b.length ≤ 8192 := by
        have h1 : ¬ (b.length : Int) > 8192 := of_decide_eq_false hy
        omega
      have hc17 := cnt_le hy
      have hcp := cnt_pos b.length
      try (with_reducible refine NilP.mk ?_)
      refine h.drew.readB 3 0 ⟨_, rfl, rfl⟩ rfl rfl ?_
      try (with_reducible refine NilP.mk ?_)
      refine h.drew.readB 3 0 ⟨_, rfl, rfl⟩ rfl rfl ?_
      refine (count_ok (n := b.length) (by omega)).mono ?_
      rintro r w' ⟨hw', rfl⟩
      rw [hw']
      have h := h.drew
      have him := (h.rd (k := 3) (i := 1) ⟨_, rfl, rfl⟩).bys_len
      rw [len_flat hl5] at him
      refine ⟨h.stillB 3 0 ⟨_, rfl, rfl⟩ rfl rfl, h.stillB 3 0 ⟨_, rfl, rfl⟩ rfl rfl, ?_⟩
      have e1 : Int.tdiv (x.im.len : Int) 512 = (x.ims.length : Int) := by rw [Int.tdiv_eq_ediv_of_nonneg (by omega)]; omega
      have hxn := rel.next
      rw [e1, wr (x := (x.ims.length : Int)) (by omega), wr (x := (x.ims.length : Int) - x.next) (by omega), SplitB_iff]
      refine ⟨fun hx => ?_, fun hx => ?_⟩
      · have hx : (cnt b.length : Int) > (x.ims.length : Int) - x.next := of_decide_eq_true hx
        have e := JA.append_space (x := j.abs) (a := d.abs) (b := b) hjd hao hy (by simp only [J.abs, abs_len]; omega)
        rw [e] at ha2 hd2 hk1
        exact hk1 _ _ ⟨rfl, x, rel.of ok2 jok2 hb2 hjb2 rfl rfl (by rw [hd2]; exact rel.pw) (by rw [ha2]; exact rel.next) (by rw [ha2]; exact rel.dead) (by rw [ha2]; exact rel.H), rfl, rfl, h⟩
      have hx : ¬ (cnt b.length : Int) > (x.ims.length : Int) - x.next := of_decide_eq_false hx
      have hroom : j.next + cnt b.length ≤ x.ims.length := by omega
      have e : j.abs.append d.abs b = (if (d.abs.puts j.next (secs (j.recs.length + 1) b)).1 ≠ 0 then (200, { j.abs with dead := true }, (d.abs.puts j.next (secs (j.recs.length + 1) b)).2)
          else (0, { j.abs with recs := j.abs.recs ++ [b], next := j.abs.next + cnt b.length }, (d.abs.puts j.next (secs (j.recs.length + 1) b)).2)) := by
        unfold JA.append
        rw [if_neg hnot, if_neg (by omega), if_neg (by simp only [abs_len, J.abs]; omega)]
        simp [J.abs]
      rw [e] at ha2 hd2 hk1
      clear e
      try (with_reducible refine NilP.mk ?_)
      refine h.loadB 3 0 ⟨_, rfl, rfl⟩ rfl rfl ?_
      have hhs : x.hs.len = x.H.length := by
        have := (h.rd (k := 3) (i := 2) ⟨_, rfl, rfl⟩).1
        rw [lsl_len] at this; omega
      rw [hhs, hHl, wr (x := (j.recs.length : Int) + 1) (by omega)]
      have e2 : ((j.recs.length : Nat) : Int) + 1 = ((j.recs.length + 1 : Nat) : Int) := by omega
      rw [e2]
      refine (sectors_st' h (a := j.recs.length + 1) hy (p := p) (fun w h => hp _ (h.ord 4 []))).mono ?_
      rintro q w ⟨S, hS, hql, h⟩
      have hSl : S.length = cnt b.length := by have := congrArg List.length hS; rw [secs_len, List.length_map] at this; exact this
      generalize hPU : d.abs.puts j.next (secs (j.recs.length + 1) b) = PU at ha2 hd2 hk1
      refine LoopX.mk (fun st w' => ∃ (k : Nat) (ims : List (List UInt8)) (on : Bool) (left : Int) (dead : Bool), st.2.1 = (k : Int) ∧ k ≤ cnt b.length ∧ ims.length = x.ims.length ∧ (∀ s ∈ ims, s.length = 512) ∧
          (st.1 = 0 ∧ dead = false ∧ on = true ∧ (∃ a' : A, Pw a' ims on left x.torn ∧ PU = a'.puts (j.next + k) ((secs (j.recs.length + 1) b).drop k)) ∨ st.1 = 200 ∧ dead = true ∧ Pw PU.2 ims on left x.torn ∧ PU.1 = 200) ∧
          St w0 w' ([.row 31 1 q (lsl S)] :: S.map (brw 5) :: dg d2 :: jg j2 d2.p :: [.row 5 1 t (bys (b ++ [0xA5, 0x5A]))] :: kg { x with ims := ims, on := on, left := left, dead := dead } :: F)) (fun st => cnt b.length - st.2.1.toNat)
        ⟨0, x.ims, x.on, x.left, x.dead, rfl, Nat.zero_le _, rfl, hl5, .inl ⟨rfl, hzd.1, hzd.2, d.abs, rel.pw, hPU.symm⟩, h⟩ ?_
      clear h hPU
      rintro ⟨wt, _, ⟨⟩⟩ w ⟨k, ims, on, left, dead, rfl, hk, hil, hi5, hcase, h⟩ K hK
      dsimp only at h hK hcase ⊢
      have hqi : (q.len : Int) = (cnt b.length : Int) := by rw [hql, hSl]
      refine JoinX.mk (fun jv w' => jv.1 = (decide (k < cnt b.length) && (wt == 0)) ∧ w' = w) ?_ ?_
      · rintro ⟨_, ⟨⟩⟩ w' ⟨hj, hw'⟩
        dsimp only at hj ⊢
        rw [hw']
        subst hj
        rw [SplitB_iff]
        refine ⟨fun hz => ?_, fun hz => ?_⟩
        · have hz1 : k < cnt b.length ∧ wt = 0 := by simpa using hz
          obtain ⟨hz1, rfl⟩ := hz1
          obtain ⟨_, hdead, hon, a', hpw, hPU⟩ := hcase.resolve_right (fun h => absurd h.1 (by decide))
          subst hdead
          rw [secs_drop _ _ hz1] at hPU
          simp only [A.puts] at hPU
          have hnk : j.next + k < ims.length := by omega
          have hSk : S[k]'(by omega) = ((S[k]'(by omega)).1, sec (j.recs.length + 1) b k) := by
            have h1 : (S[k]'(by omega)).2 = sec (j.recs.length + 1) b k := by
              have := congrArg (fun l => l[k]?) hS
              simp only [List.getElem?_map] at this
              rw [List.getElem?_eq_getElem (by omega)] at this
              simpa [secs, hz1] using this
            rw [← h1]
          obtain ⟨hpw2, hiff⟩ := hpw.write hon (n := j.next + k) (by omega) (c := sec (j.recs.length + 1) b k) (sec_len _ _ _)
          have hw5 : ∀ s ∈ (wrot ims on left x.torn (j.next + k) (sec (j.recs.length + 1) b k)).1, s.length = 512 := by
            intro s hs
            unfold wrot at hs
            have hold : (ims.getD (j.next + k) []).length = 512 := by
              rw [List.getD_eq_getElem?_getD, List.getElem?_eq_getElem hnk]
              exact hi5 _ (List.getElem_mem hnk)
            split at hs
            · dsimp only at hs
              rcases List.mem_or_eq_of_mem_set hs with hs | hs
              · exact hi5 s hs
              · subst hs
                simp only [List.length_append, List.length_take, List.length_drop, sec_len, hold]; omega
            · dsimp only at hs
              rcases List.mem_or_eq_of_mem_set hs with hs | hs
              · exact hi5 s hs
              · subst hs; exact sec_len _ _ _
          have hwl : (wrot ims on left x.torn (j.next + k) (sec (j.recs.length + 1) b k)).1.length = ims.length := by
            unfold wrot; split <;> simp
          generalize hWR : wrot ims on left x.torn (j.next + k) (sec (j.recs.length + 1) b k) = WR at hpw2 hiff hw5 hwl
          obtain ⟨ims2, on2, left2⟩ := WR
          dsimp only at hpw2 hiff hw5 hwl
          refine JoinX.mk (fun (jv : Int × Unit) w' => ∃ dead : Bool, (jv.1 = 0 ∧ dead = false ∧ on2 = true ∨ jv.1 = 200 ∧ dead = true ∧ on2 = false) ∧ St w0 w' (kg { x with ims := ims2, on := on2, left := left2, dead := dead } :: [.row 31 1 q (lsl S)] :: S.map (brw 5) :: dg d2 :: jg j2 d2.p :: [.row 5 1 t (bys (b ++ [0xA5, 0x5A]))] :: F)) ?_ ?_
          · rintro ⟨wt2, ⟨⟩⟩ w ⟨dead2, hc2, h⟩
            dsimp only at hc2 h ⊢
            try (with_reducible refine NilP.mk ?_)
            refine h.loadB 0 0 ⟨_, rfl, rfl⟩ rfl rfl ?_
            refine RunN.of (kd := .int .i64) (max_i _ _ _) ?_
            try (with_reducible refine NilP.mk ?_)
            refine h.storB 0 0 ⟨_, rfl, rfl⟩ rfl rfl rfl ?_
            intro w h
            have h := h.ord 6 [1, 2, 3, 4, 5, 0]
            dsimp only [pick, nthO, dropO] at h
            refine hK _ _ ⟨k + 1, ims2, on2, max left2 (-1), dead2, by dsimp only; rw [wr (by omega)]; omega, hz1, by omega, hw5, ?_, h⟩ (by dsimp only; rw [wr (by omega)]; omega)
            rcases hc2 with ⟨h1, h2, h3⟩ | ⟨h1, h2, h3⟩
            · left
              have hw0 := hiff.2 h3
              rw [if_neg (fun h => h hw0)] at hPU
              exact ⟨h1, h2, h3, _, hpw2, by rw [← Nat.add_assoc]; exact hPU⟩
            · right
              have hw0 : (a'.write ((j.next + k : Nat) : Int) (sec (j.recs.length + 1) b k)).1 ≠ 0 := fun hh => by
                have := hiff.1 hh
                rw [h3] at this; cases this
              rw [if_pos hw0] at hPU
              exact ⟨h1, h2, by rw [hPU]; exact hpw2, by rw [hPU]⟩
          · intro k9 hk9
            try (with_reducible refine NilP.mk ?_)
            refine h.drew.readB 5 0 ⟨_, rfl, rfl⟩ rfl rfl ?_
            refine (h.drew.rd (k := 0) (i := 0) ⟨_, rfl, rfl⟩).idxR k rfl (by omega) ?_
            intro b1 o1 hb1
            refine (h.drew.rd (k := 0) (i := 0) ⟨_, rfl, rfl⟩).elR hb1 (k * 1) rfl (kd := .sl) (x := (S[k]'(by omega)).1) (by rw [Nat.mul_one, lsl_at (by omega)]; rfl) ?_
            rw [wr (x := (x.next : Int) + k) (by omega)]
            have e3 : (x.next : Int) + k = ((j.next + k : Nat) : Int) := by omega
            rw [e3]
            have h := h.ord 6 [5, 0, 1, 2, 3, 4]
            dsimp only [pick, nthO, dropO] at h
            refine (written_st (x := { x with ims := ims, on := on, left := left, dead := false }) h.drew hi5 (p := (S[k]'(by omega)).1) (c := sec (j.recs.length + 1) b k) (fun w h => by
              have := h.rd (k := 1) (i := k) (E := 5) ⟨_, rfl, brw_at (by omega)⟩
              rw [show (S[k]'(by omega)).2 = sec (j.recs.length + 1) b k from by rw [hSk]] at this
              exact this) (sec_len _ _ _) (by dsimp only; omega) (by dsimp only; omega) hpw.hleft).mono ?_
            rintro r w ⟨rfl, h⟩
            dsimp only at h ⊢
            rw [hWR] at h ⊢
            dsimp only at h ⊢
            rw [SplitB_iff]
            refine ⟨fun hy2 => ?_, fun hy2 => ?_⟩
            · have hy2 : on2 = false := by simpa using hy2
              try (with_reducible refine NilP.mk ?_)
              refine h.storB 0 0 ⟨_, rfl, rfl⟩ rfl rfl rfl ?_
              intro w h
              exact hk9 _ _ ⟨true, .inr ⟨rfl, rfl, hy2⟩, h⟩
            · have hy2 : on2 = true := by simpa using hy2
              exact hk9 _ _ ⟨false, .inl ⟨rfl, rfl, hy2⟩, h⟩
        · have hz1 : k = cnt b.length ∨ wt ≠ 0 := by
            by_cases hw0 : wt = 0
            · left
              rw [hw0] at hz
              simp at hz; omega
            · exact .inr hw0
          rcases hcase with ⟨rfl, hdead, hon, a', hpw, hPU⟩ | ⟨rfl, hdead, hpw, hPU⟩
          · have hk2 : k = cnt b.length := by rcases hz1 with h | h; exact h; exact absurd rfl h
            rw [List.drop_of_length_le (by rw [secs_len]; omega)] at hPU
            simp only [A.puts] at hPU
            rw [hPU, if_neg (by simp)] at ha2 hd2 hk1
            dsimp only at ha2 hd2 hk1
            rw [SplitB_iff]
            refine ⟨fun _ => ?_, (fun hz => by simp at hz)⟩
            have hHl' : x.hs.len = x.H.length := hhs
            try (with_reducible refine NilP.mk ?_)
            refine h.drew.readB 5 0 ⟨_, rfl, rfl⟩ rfl rfl ?_
            refine h.drew.appNil (e := 5) ((hp _ (h.ord 6 [])).upd (Upd.drew _ nobody) (fun _ _ h => h)) (bys_one _) (by simp only [maxLen]; omega) (by omega) ?_
            intro c w hcl h
            refine ⟨h.stillB 6 0 ⟨_, rfl, rfl⟩ rfl rfl, ?_⟩
            refine h.newS 1 (bs22 _ _ _ _) rfl rfl rfl ?_
            intro u w hul huc _ h
            refine ⟨h.stillB 7 0 ⟨_, rfl, rfl⟩ rfl rfl, ?_⟩
            refine h.app 7 2 ⟨_, rfl, rfl⟩ (h.rd (k := 0) (i := 0) ⟨_, rfl, rfl⟩) one_slice (by simp only [maxLen]; omega) (by dsimp only; omega) ?_
            intro hs' w hhs' h
            dsimp only [updG, setO, kg] at h
            have h := h.ord 8 [1, 4, 5, 6, 7]
            dsimp only [pick, nthO, dropO] at h
            try (with_reducible refine NilP.mk ?_)
            refine h.storB 4 0 ⟨_, rfl, rfl⟩ rfl rfl rfl ?_
            intro w h
            dsimp only [updG, setO] at h
            try (with_reducible refine NilP.mk ?_)
            refine h.loadB 4 0 ⟨_, rfl, rfl⟩ rfl rfl ?_
            try (with_reducible refine NilP.mk ?_)
            refine h.storB 4 0 ⟨_, rfl, rfl⟩ rfl rfl rfl ?_
            intro w h
            dsimp only [updG, setO] at h
            rw [hqi, wr (by omega)] at h
            have h := h.ord 5 [0, 4, 1, 2, 3]
            dsimp only [pick, nthO, dropO] at h
            have h := h.into
            have h := h.ord 4 [1, 2, 3, 0]
            dsimp only [pick, nthO, dropO] at h
            have h2 : St w0 w (dg d2 :: jg j2 d2.p :: [.row 5 1 t (bys (b ++ [0xA5, 0x5A]))] :: kg { x with ims := ims, on := on, left := left, dead := dead, hs := hs', H := x.H ++ [(c, b)], next := x.next + cnt b.length } :: F) := by
              have e9 : kg { x with ims := ims, on := on, left := left, dead := dead, hs := hs', H := x.H ++ [(c, b)], next := x.next + cnt b.length } = [Ent.cel x.b 64 [.pointer x.dp, .pointer x.jp, .slice x.im.a x.im.len x.im.cap, .bool on, .int .i64 left, .int .i64 x.torn, .slice hs'.a hs'.len hs'.cap, .int .i64 ((x.next : Int) + (cnt b.length : Int)), .bool dead, .pointer x.sp], .row 5 1 x.im (bys ims.flatten), .row 31 1 hs' (lsl x.H ++ [.slice c.a c.len c.cap])] ++ (x.H.map (brw 5) ++ [brw 5 (c, b)]) := by
                unfold kg kcel
                simp only [lsl_snoc, List.map_append, List.map_cons, List.map_nil, Int.natCast_add, List.cons_append, List.nil_append]
              rw [e9]; exact h
            refine hk1 _ _ ⟨rfl, { x with ims := ims, on := on, left := left, dead := dead, hs := hs', H := x.H ++ [(c, b)], next := x.next + cnt b.length }, rel.of ok2 jok2 hb2 hjb2 rfl rfl (by rw [hd2]; exact hpw) ?_ ?_ ?_, rfl, rfl, h2⟩
            · rw [ha2]; dsimp only [J.abs]; rw [hxn]
            · rw [ha2]; exact hdead.trans hjd.symm
            · rw [ha2]; simp [J.abs, rel.H]
          · rw [hPU, if_pos (by decide)] at ha2 hd2 hk1
            dsimp only at ha2 hd2 hk1
            rw [SplitB_iff]
            refine ⟨(fun hz => by simp at hz), fun _ => ?_⟩
            have h := h.ord 6 [2, 3, 4, 5]
            dsimp only [pick, nthO, dropO] at h
            refine hk1 _ _ ⟨rfl, { x with ims := ims, on := on, left := left, dead := dead }, rel.of ok2 jok2 hb2 hjb2 rfl rfl (by rw [hd2]; exact hpw) ?_ ?_ ?_, rfl, rfl, h⟩
            · rw [ha2]; exact hxn
            · rw [ha2]; exact hdead
            · rw [ha2]; exact rel.H
      · intro k7 hk7
        rw [hqi, SplitB_iff]
        refine ⟨fun hz => ?_, fun hz => ?_⟩
        · have hz : k < cnt b.length := by
            have h1 : (k : Int) < (cnt b.length : Int) := of_decide_eq_true hz
            omega
          exact hk7 _ _ ⟨by dsimp only; rw [decide_eq_true hz, Bool.true_and], rfl⟩
        · have hz : ¬ k < cnt b.length := by
            have h1 : ¬ (k : Int) < (cnt b.length : Int) := of_decide_eq_false hz
            omega
          exact hk7 _ _ ⟨by dsimp only; rw [decide_eq_false hz]; rfl, rfl⟩
    · intro k3 hk3
      try (with_reducible refine NilP.mk ?_)
      refine h.loadB 3 0 ⟨_, rfl, rfl⟩ rfl rfl ?_
      rw [SplitB_iff]
      refine ⟨fun hz => hk3 _ _ ⟨by dsimp only; rw [hz]; rfl, rfl⟩, fun hz => ?_⟩
      try (with_reducible refine NilP.mk ?_)
      refine h.loadB 3 0 ⟨_, rfl, rfl⟩ rfl rfl ?_
      exact hk3 _ _ ⟨by dsimp only; rw [hz]; rfl, rfl⟩
end Go.Proofs.Ytimebochhbfkgaa
