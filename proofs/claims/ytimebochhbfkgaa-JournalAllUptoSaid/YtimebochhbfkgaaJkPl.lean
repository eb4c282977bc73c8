/- The desk: all calls in any order. -/
import Derived.Test.YtimebochhbfkgaaJkSw
namespace Go.Proofs.Ytimebochhbfkgaa
open Go Go.Fw Go.RowKit
set_option linter.unusedVariables false
set_option linter.unusedSimpArgs false
set_option maxRecDepth 4000
set_option maxHeartbeats 2000000
variable {w0 w : World} {F G : Grps} {d : D} {j : J} {x : K} {v : Sv}
instance : Et Try.prog 71 69 4 48 := ⟨ET.of (by kernel_rfl), by decide⟩
instance : Ag Try.prog 69 4 := ⟨by kernel_rfl⟩

theorem Sv.gs_eq (v : Sv) (F : Grps) : v.gs F = v.gs [] ++ F := by cases v <;> rfl
theorem Sv.inA (A : Grps) (h : St w0 w (A ++ v.gs F)) : St w0 w (v.gs (A ++ F)) := by
  rw [Sv.gs_eq] at h ⊢
  exact h.perm (List.perm_append_comm_assoc A (v.gs []) F).flatten
theorem Sv.outA (A : Grps) (h : St w0 w (v.gs (A ++ F))) : St w0 w (A ++ v.gs F) := by
  rw [Sv.gs_eq] at h ⊢
  exact h.perm (List.perm_append_comm_assoc A (v.gs []) F).symm.flatten

theorem atk_st (h : St w0 w (kg x :: dg d :: jg j d.p :: v.gs F)) (rel : Rel x d j) (hsp : x.sp = some ⟨v.b, 0, none⟩) (okv : v.Ok) (hn : v.n ≤ 100000000) (i : Int) :
    CallK Try.prog .bool 49 #[.pointer x.p, .int .i64 i] w fun (r : Bool) w' => r = true ∧ ∃ v' : Sv, v'.b = v.b ∧ v'.Ok ∧ v'.n ≤ v.n + 18 ∧ St w0 w' (kg x :: dg d :: jg j d.p :: v'.gs F) := by
  have hHl : x.H.length = j.recs.length := by have := congrArg List.length rel.H; simpa using this
  have hxd := rel.dead
  have hhs : x.hs.len = x.H.length := by
    have := (h.rd (k := 0) (i := 2) ⟨_, rfl, rfl⟩).1
    rw [lsl_len] at this; omega
  refine T49.calls ?_
  unfold T49
  try (with_reducible refine NilP.mk ?_)
  refine h.loadB 0 0 ⟨_, rfl, rfl⟩ rfl rfl ?_
  rw [rel.jp]
  have h := h.ord 3 [1, 2, 0]
  dsimp only [pick, nthO, dropO] at h
  by_cases hin : j.dead = false ∧ 0 ≤ i ∧ i < j.recs.length
  · obtain ⟨hd, h0, h1⟩ := hin
    obtain ⟨m, rfl⟩ : ∃ m : Nat, i = (m : Int) := ⟨i.toNat, by omega⟩
    have hm : m < j.recs.length := by omega
    refine (at_st h rel.jok hm hd).mono ?_
    rintro ⟨r, e, ⟨⟩⟩ w ⟨he, hr, h⟩
    dsimp only at he hr h ⊢
    subst he
    refine JoinX.mk (fun (jv : Bool × Unit) w' => jv.1 = false ∧ w' = w) ?_ ?_
    · rintro ⟨_, ⟨⟩⟩ w' ⟨hj, hw⟩
      dsimp only at hj ⊢
      rw [hw]
      subst hj
      rw [SplitB_iff]
      refine ⟨(fun hz => by cases hz), fun _ => ?_⟩
      refine JoinX.mk (fun (jv : Bool × Unit) w' => jv.1 = true ∧ w' = w) ?_ ?_
      · rintro ⟨_, ⟨⟩⟩ w' ⟨hj, hw⟩
        dsimp only at hj ⊢
        rw [hw]
        subst hj
        try (with_reducible refine NilP.mk ?_)
        refine h.loadB 3 0 ⟨_, rfl, rfl⟩ rfl rfl ?_
        rw [hsp]
        have h := Sv.inA [[.row 5 1 r (bys j.recs[m].2)], dg d, jg j d.p, kg x] h
        have h : St w0 w ([.row 5 1 r (bys j.recs[m].2)] :: v.gs ([dg d, jg j d.p, kg x] ++ F)) := Sv.out h
        refine (shput_st h okv (rel.jok.len _ (List.getElem_mem hm)) hn).mono ?_
        rintro ⟨⟩ w ⟨v', hb, okv', hn', h⟩
        have h : St w0 w (dg d :: jg j d.p :: kg x :: v'.gs F) := Sv.outA [dg d, jg j d.p, kg x] h
        have h := h.ord 3 [2, 0, 1]
        dsimp only [pick, nthO, dropO] at h
        exact ⟨rfl, v', hb, okv', hn', h⟩
      · intro k3 hk3
        refine (num_ok 0).mono ?_
        rintro q w' ⟨hw, rfl⟩
        rw [hw, SplitB_iff]
        refine ⟨fun _ => ?_, (fun hz => by simp at hz)⟩
        try (with_reducible refine NilP.mk ?_)
        refine h.loadB 3 0 ⟨_, rfl, rfl⟩ rfl rfl ?_
        refine (h.rd (k := 3) (i := 2) ⟨_, rfl, rfl⟩).idxK m rfl (by omega) ?_
        intro b1 o1 hb1
        refine (h.rd (k := 3) (i := 2) ⟨_, rfl, rfl⟩).el hb1 (m * 1) rfl (kd := .sl) (x := (x.H[m]'(by omega)).1) (by rw [Nat.mul_one, lsl_at (by omega)]; rfl) ?_
        have hrow := h.rd (k := 3) (i := m + 3) (E := 5) ⟨_, rfl, brw_at (show m < x.H.length by omega)⟩
        refine (same_ok (h.rd (k := 0) (i := 0) ⟨_, rfl, rfl⟩) hrow).mono ?_
        rintro q w' ⟨hw, rfl⟩
        rw [hw]
        have e : (x.H[m]'(by omega)).2 = j.recs[m].2 := by
          have := congrArg (fun l => l[m]?) rel.H
          simpa [hm, show m < x.H.length by omega] using this
        refine hk3 _ _ ⟨?_, rfl⟩
        dsimp only
        rw [e]; simp
    · intro k1 hk1
      try (with_reducible refine NilP.mk ?_)
      refine h.loadB 3 0 ⟨_, rfl, rfl⟩ rfl rfl ?_
      rw [hxd, hd, SplitB_iff]
      refine ⟨(fun hz => by cases hz), fun _ => ?_⟩
      rw [SplitB_iff]
      refine ⟨(fun hz => by have := of_decide_eq_true hz; omega), fun _ => ?_⟩
      try (with_reducible refine NilP.mk ?_)
      refine h.loadB 3 0 ⟨_, rfl, rfl⟩ rfl rfl ?_
      refine hk1 _ _ ⟨?_, rfl⟩
      exact decide_eq_false (show ¬ (m : Int) ≥ (x.hs.len : Int) by omega)
  · refine (at_err (i := i) h (by
      by_cases h0 : i < 0
      · exact .inl h0
      · right
        cases hd : j.dead with
        | true => simp; omega
        | false =>
          simp only [Bool.false_eq_true, if_false]
          rcases Int.lt_or_le i j.recs.length with h1 | h1
          · exact absurd ⟨hd, by omega, h1⟩ hin
          · exact h1)).mono ?_
    rintro r w ⟨rfl, h⟩
    dsimp only
    refine JoinX.mk (fun (jv : Bool × Unit) w' => jv.1 = true ∧ w' = w) ?_ ?_
    · rintro ⟨_, ⟨⟩⟩ w' ⟨hj, hw⟩
      dsimp only at hj ⊢
      rw [hw]
      subst hj
      rw [SplitB_iff]
      refine ⟨fun _ => ?_, (fun hz => by cases hz)⟩
      rw [SplitB_iff]
      refine ⟨fun _ => ?_, (fun hz => by simp at hz)⟩
      refine (num_ok 1).mono ?_
      rintro q w' ⟨hw, rfl⟩
      rw [hw]
      have h := h.ord 3 [2, 0, 1]
      dsimp only [pick, nthO, dropO] at h
      exact ⟨rfl, v, rfl, okv, by omega, h⟩
    · intro k1 hk1
      try (with_reducible refine NilP.mk ?_)
      refine h.loadB 2 0 ⟨_, rfl, rfl⟩ rfl rfl ?_
      rw [hxd, SplitB_iff]
      refine ⟨fun _ => hk1 _ _ ⟨rfl, rfl⟩, fun hd => ?_⟩
      rw [SplitB_iff]
      refine ⟨fun _ => hk1 _ _ ⟨rfl, rfl⟩, fun hz => ?_⟩
      have hz : ¬ i < 0 := of_decide_eq_false hz
      try (with_reducible refine NilP.mk ?_)
      refine h.loadB 2 0 ⟨_, rfl, rfl⟩ rfl rfl ?_
      refine hk1 _ _ ⟨?_, rfl⟩
      have : ¬ i < j.recs.length := fun h1 => hin ⟨hd, by omega, h1⟩
      exact decide_eq_true (show i ≥ (x.hs.len : Int) by omega)

/-- What a call leaves. -/
def Aft (w0 : World) (F : Grps) (x : K) (d : D) (v : Sv) (w' : World) : Prop := ∃ (x' : K) (d' : D) (j' : J) (v' : Sv), Rel x' d' j' ∧ x'.b = x.b ∧ x'.sp = x.sp ∧ v'.b = v.b ∧ v'.Ok ∧ v'.n ≤ v.n + 18 ∧ d'.wr ≤ d.wr + 17 ∧ St w0 w' (kg x' :: dg d' :: jg j' d'.p :: v'.gs F)
theorem played_st (h : St w0 w (kg x :: dg d :: jg j d.p :: v.gs F)) (rel : Rel x d j) (hsp : x.sp = some ⟨v.b, 0, none⟩) (okv : v.Ok) (hn : v.n ≤ 100000000) (hw : d.wr ≤ 2000000000000000000) (o : Av) (ho : Rd w0 o.B 1 (bys o.b)) (hob : o.b.length ≤ 140737488355326) (hA : o.A ≤ 9223372036854775807) :
    CallK Try.prog .bool 30 #[.pointer x.p, .agg ⟨avc o⟩] w fun (r : Bool) w' => r = true ∧ Aft w0 F x d v w' := by
  by_cases hk1 : o.k = 1
  · have e : avc o = [.int .i64 1, .int .i64 o.A, .int .i64 o.N, .slice o.B.a o.B.len o.B.cap] := by unfold avc; rw [hk1]
    rw [e]
    refine (played1_st h rel hw (p := o.B) (b := o.b) (fun w h => h.old ho) hob).mono ?_
    rintro r w ⟨rfl, x', d', j', rel', hxb, hxs, hdb, hwr, hsl, _, h⟩
    exact ⟨rfl, x', d', j', v, rel', hxb, hxs, rfl, okv, by omega, hwr, h⟩
  refine T30.calls (p1 := (o.k, o.A, o.N, o.B, ())) ?_
  unfold T30
  refine h.newB run_boxA rfl ?_
  intro bc w h
  dsimp only at h ⊢
  refine JoinX.mk (fun (jv : Bool × Unit) w' => jv.1 = true ∧ ∃ (x' : K) (d' : D) (j' : J), Rel x' d' j' ∧ x'.b = x.b ∧ x'.sp = x.sp ∧ d'.wr ≤ d.wr + 17 ∧ St w0 w' ([.cel bc 69 (avc o)] :: kg x' :: dg d' :: jg j' d'.p :: v.gs F)) ?_ ?_
  · rintro ⟨_, ⟨⟩⟩ w ⟨hj, x', d', j', rel', hxb, hxs, hwr, h⟩
    dsimp only at hj h ⊢
    subst hj
    have hxp : x.p = x'.p := by rw [K.p, K.p, hxb]
    rw [SplitB_iff]
    refine ⟨fun _ => ?_, (fun hz => by cases hz)⟩
    rw [hxp]
    exact behind_st (K := fun r w' => r = true ∧ Aft w0 F x d v w') h rel' fun w h => ⟨rfl, x', d', j', v, rel', hxb, hxs, rfl, okv, by omega, hwr, h⟩
  · intro k1 hk
    try (with_reducible refine NilP.mk ?_)
    refine h.loadB 0 0 ⟨_, rfl, rfl⟩ rfl rfl ?_
    rw [SplitB_iff]
    refine ⟨(fun hz => absurd (by simpa using hz) hk1), fun _ => ?_⟩
    rw [SplitB_iff]
    refine ⟨fun _ => ?_, fun _ => ?_⟩
    · skip
      have h := h.ord 4 [1, 2, 3]
      dsimp only [pick, nthO, dropO] at h
      refine (looks_st h rel).mono ?_
      rintro r w ⟨rfl, h⟩
      exact ⟨rfl, x, d, j, v, rel, rfl, rfl, rfl, okv, by omega, by omega, h⟩
    rw [SplitB_iff]
    refine ⟨fun _ => ?_, fun _ => ?_⟩
    · skip
      try (with_reducible refine NilP.mk ?_)
      refine h.loadB 0 0 ⟨_, rfl, rfl⟩ rfl rfl ?_
      have h := h.ord 4 [1, 2, 3]
      dsimp only [pick, nthO, dropO] at h
      refine (atk_st h rel hsp okv hn o.A).mono ?_
      rintro r w ⟨rfl, v', hb, okv', hn', h⟩
      exact ⟨rfl, x, d, j, v', rel, rfl, rfl, hb, okv', hn', by omega, h⟩
    rw [SplitB_iff]
    refine ⟨fun _ => ?_, fun _ => ?_⟩
    · skip
      try (with_reducible refine NilP.mk ?_)
      refine h.loadB 1 0 ⟨_, rfl, rfl⟩ rfl rfl ?_
      rw [rel.dp]
      have h := h.ord 4 [2, 0, 1, 3]
      dsimp only [pick, nthO, dropO] at h
      refine (writes_st h).mono ?_
      rintro q w ⟨rfl, h⟩
      have fin : ∀ (x' : K) (j' : J) (w : World), Rel x' d j' → x'.b = x.b → x'.sp = x.sp → St w0 w (kg x' :: dg d :: jg j' d.p :: [.cel bc 69 (avc o)] :: v.gs F) →
          NilP x.p fun t58 => RunN Try.prog .ptr (V (Instr.loadAt 25 (.pointer (some (t58.add 0))))) w fun t60 w => CallK Try.prog (.int .i64) 27 #[.pointer t60] w fun t61 w => k1 (t61 == d.wr, ()) w := by
        intro x' j' w rel' hxb hxs h
        have hxp : x.p = x'.p := by rw [K.p, K.p, hxb]
        rw [hxp]
        try (with_reducible refine NilP.mk ?_)
        refine h.loadB 0 0 ⟨_, rfl, rfl⟩ rfl rfl ?_
        rw [rel'.dp]
        have h := h.ord 4 [1, 0, 2, 3]
        dsimp only [pick, nthO, dropO] at h
        refine (writes_st h).mono ?_
        rintro q w ⟨rfl, h⟩
        have h := h.ord 4 [3, 1, 0, 2]
        dsimp only [pick, nthO, dropO] at h
        exact hk _ _ ⟨by simp, x', d, j', rel', hxb, hxs, by omega, h⟩
      cases hon : x.on with
      | true =>
        have h := h.ord 4 [2, 0, 1]
        dsimp only [pick, nthO, dropO] at h
        refine (opens_st h rel.ok rel.dp rel.pw hon).mono ?_
        rintro q w ⟨rfl, x', j', rel', hxb, hxs, _, _, _, h⟩
        rw [SplitB_iff]
        refine ⟨fun _ => ?_, (fun hz => by cases hz)⟩
        exact fin x' j' w rel' hxb hxs h
      | false =>
        have h := h.ord 4 [2, 0, 3, 1]
        dsimp only [pick, nthO, dropO] at h
        refine (opens_off h rel.dp rel.pw hon).mono ?_
        rintro q w ⟨rfl, h⟩
        rw [SplitB_iff]
        refine ⟨fun _ => ?_, (fun hz => by cases hz)⟩
        exact fin x j w rel rfl rfl h
    rw [SplitB_iff]
    refine ⟨fun _ => ?_, fun _ => ?_⟩
    · refine JoinX.mk (fun (_ : Unit) w' => ∃ x' : K, x' = { x with left := if x.on then max o.A (-1) else x.left, torn := if x.on then o.N else x.torn } ∧ St w0 w' ([.cel bc 69 (avc o)] :: kg x' :: dg d :: jg j d.p :: v.gs F)) ?_ ?_
      · rintro ⟨⟩ w ⟨x', hx', h⟩
        have hxp : x.p = x'.p := by rw [hx']
        rw [hxp]
        try (with_reducible refine NilP.mk ?_)
        refine h.drew.readB 1 0 ⟨_, rfl, rfl⟩ rfl rfl ?_
        try (with_reducible refine NilP.mk ?_)
        refine h.drew.readB 0 0 ⟨_, rfl, rfl⟩ rfl rfl ?_
        try (with_reducible refine NilP.mk ?_)
        refine h.drew.readB 0 0 ⟨_, rfl, rfl⟩ rfl rfl ?_
        have hdp : x'.dp = d.p := by rw [hx']; exact rel.dp
        rw [hdp]
        have h := h.ord 4 [2, 1, 3]
        dsimp only [pick, nthO, dropO] at h
        refine (arm_st h.drew rel.ok o.A o.N hA).mono ?_
        rintro ⟨⟩ w ⟨d2, hb2, hd2, ok2, h⟩
        have hp2 : d.p = d2.p := by rw [D.p, D.p, hb2]
        rw [hp2] at h
        have him : d2.abs.ims = d.abs.ims := by rw [hd2]; unfold A.arm; split <;> rfl
        have hwr2 : d2.wr = d.wr := by
          have := congrArg A.wr hd2
          rw [abs_wr] at this
          rw [this]; unfold A.arm; split <;> rfl
        have hsl2 : d2.secs.length = d.secs.length := by
          have := congrArg List.length him
          simpa using this
        have hpw := rel.pw
        have pw2 : Pw d2.abs x'.ims x'.on x'.left x'.torn := by
          rw [hd2, hx']
          unfold A.arm
          cases hon : x.on with
          | true =>
            have hao : d.abs.off = false := by have := hpw.hon; rw [hon] at this; simpa using this.symm
            rw [if_neg (by rw [hao]; simp)]
            simp only [if_true]
            have hl := hpw.hleft
            refine ⟨hpw.hims, by dsimp only; rw [hao]; rfl, ?_, ?_, by omega, fun h => by cases h⟩
            · exact decide_eq_decide.2 (by omega)
            · intro h0
              dsimp only
              exact ⟨by omega, rfl⟩
          | false =>
            have hao : d.abs.off = true := by have := hpw.hon; rw [hon] at this; simpa using this.symm
            rw [if_pos hao]
            simp only [Bool.false_eq_true, if_false]
            rw [← hon]; exact hpw
        have h := h.ord 3 [1, 0, 2]
        dsimp only [pick, nthO, dropO] at h
        refine ⟨rfl, x', d2, j, v, ⟨ok2, ⟨by rw [hsl2]; exact rel.jok.next, rel.jok.recs, rel.jok.len⟩, by rw [hdp, hp2], by rw [hx']; exact rel.jp, pw2, by rw [hx']; exact rel.next, by rw [hx']; exact rel.dead, by rw [hx']; exact rel.H⟩, by rw [hx'], by rw [hx'], rfl, okv, by omega, by omega, h⟩
      · intro k3 hk3
        try (with_reducible refine NilP.mk ?_)
        refine h.loadB 1 0 ⟨_, rfl, rfl⟩ rfl rfl ?_
        rw [SplitB_iff]
        refine ⟨fun hon => ?_, fun hon => ?_⟩
        · skip
          try (with_reducible refine NilP.mk ?_)
          refine h.loadB 0 0 ⟨_, rfl, rfl⟩ rfl rfl ?_
          refine RunN.of (kd := .int .i64) (max_i _ _ _) ?_
          try (with_reducible refine NilP.mk ?_)
          refine h.storB 1 0 ⟨_, rfl, rfl⟩ rfl rfl rfl ?_
          intro w h
          dsimp only [updG, setO, kg, kcel] at h
          try (with_reducible refine NilP.mk ?_)
          refine h.loadB 0 0 ⟨_, rfl, rfl⟩ rfl rfl ?_
          try (with_reducible refine NilP.mk ?_)
          refine h.storB 1 0 ⟨_, rfl, rfl⟩ rfl rfl rfl ?_
          intro w h
          dsimp only [updG, setO] at h
          refine hk3 _ _ ⟨{ x with left := max o.A (-1), torn := o.N }, by simp [hon], h⟩
        · refine hk3 _ _ ⟨x, by rw [if_neg (by rw [hon]; decide), if_neg (by rw [hon]; decide)], h⟩
    rw [SplitB_iff]
    refine ⟨fun _ => ?_, fun _ => ?_⟩
    · try (with_reducible refine NilP.mk ?_)
      refine h.storB 1 0 ⟨_, rfl, rfl⟩ rfl rfl rfl ?_
      intro w h
      dsimp only [updG, setO, kg, kcel] at h
      try (with_reducible refine NilP.mk ?_)
      refine h.storB 1 0 ⟨_, rfl, rfl⟩ rfl rfl rfl ?_
      intro w h
      dsimp only [updG, setO] at h
      try (with_reducible refine NilP.mk ?_)
      refine h.loadB 1 0 ⟨_, rfl, rfl⟩ rfl rfl ?_
      rw [rel.dp]
      have h : St w0 w ([.cel bc 69 (avc o)] :: kg { x with on := false, left := -1 } :: dg d :: jg j d.p :: v.gs F) := h
      have h := h.ord 4 [2, 0, 1, 3]
      dsimp only [pick, nthO, dropO] at h
      refine (off_st h).mono ?_
      rintro ⟨⟩ w h
      have h := h.ord 4 [1, 2, 0, 3]
      dsimp only [pick, nthO, dropO] at h
      have ok2 : DOk { d with off := true, armed := false } := ⟨rel.ok.tr, rel.ok.full, rel.ok.small, rel.ok.w0, rel.ok.torn, fun h => by cases h⟩
      refine hk _ _ ⟨rfl, { x with on := false, left := -1 }, { d with off := true, armed := false }, j, ⟨ok2, ⟨rel.jok.next, rel.jok.recs, rel.jok.len⟩, rel.dp, rel.jp, ⟨rel.pw.hims, rfl, rfl, fun h => by simp at h, by dsimp only; omega, fun _ => rfl⟩, rel.next, rel.dead, rel.H⟩, rfl, rfl, by dsimp only; omega, h⟩
    rw [SplitB_iff]
    refine ⟨fun _ => ?_, fun _ => ?_⟩
    · have hpw := rel.pw
      refine JoinX.mk (fun (_ : Unit) w' => St w0 w' ([.cel bc 69 (avc o)] :: kg x :: dg d :: jg j d.p :: v.gs F)) ?_ ?_
      · rintro ⟨⟩ w h
        try (with_reducible refine NilP.mk ?_)
        refine h.storB 1 0 ⟨_, rfl, rfl⟩ rfl rfl rfl ?_
        intro w h
        dsimp only [updG, setO, kg, kcel] at h
        try (with_reducible refine NilP.mk ?_)
        refine h.loadB 1 0 ⟨_, rfl, rfl⟩ rfl rfl ?_
        rw [rel.dp]
        have h : St w0 w ([.cel bc 69 (avc o)] :: kg { x with on := true } :: dg d :: jg j d.p :: v.gs F) := h
        have h := h.ord 4 [2, 0, 1, 3]
        dsimp only [pick, nthO, dropO] at h
        refine (on_st h).mono ?_
        rintro ⟨⟩ w h
        have h := h.ord 4 [1, 2, 0, 3]
        dsimp only [pick, nthO, dropO] at h
        have ok2 : DOk { d with off := false } := ⟨rel.ok.tr, rel.ok.full, rel.ok.small, rel.ok.w0, rel.ok.torn, rel.ok.after⟩
        refine hk _ _ ⟨rfl, { x with on := true }, { d with off := false }, j, ⟨ok2, ⟨rel.jok.next, rel.jok.recs, rel.jok.len⟩, rel.dp, rel.jp, ⟨hpw.hims, rfl, hpw.harmed, hpw.harm, hpw.hleft, fun h => by cases h⟩, rel.next, rel.dead, rel.H⟩, rfl, rfl, by dsimp only; omega, h⟩
      · intro k5 hk5
        try (with_reducible refine NilP.mk ?_)
        refine h.loadB 1 0 ⟨_, rfl, rfl⟩ rfl rfl ?_
        rw [SplitB_iff]
        refine ⟨fun hon => ?_, fun hon => hk5 _ _ h⟩
        have hon : x.on = false := by simpa using hon
        try (with_reducible refine NilP.mk ?_)
        refine h.storB 1 0 ⟨_, rfl, rfl⟩ rfl rfl rfl ?_
        intro w h
        dsimp only [updG, setO, kg, kcel] at h
        rw [← hpw.hoff hon] at h
        exact hk5 _ _ h
    · exact hk _ _ ⟨rfl, x, d, j, rel, rfl, rfl, by omega, h⟩
def avs (os : List Av) : List Value := os.flatMap avc
def Scr (w : World) (p : Sl) (os : List Av) : Prop := Rd w p 4 (avs os) ∧ (∀ o ∈ os, Rd w o.B 1 (bys o.b) ∧ o.b.length ≤ 140737488351232 ∧ o.A ≤ 9223372036854775807) ∧ os.length ≤ 1048576
theorem avs_len (os : List Av) : (avs os).length = os.length * 4 := by
  induction os with
  | nil => rfl
  | cons x r ih => simp only [avs, List.flatMap_cons, List.length_append, List.length_cons] at ih ⊢; rw [ih]; simp [avc]; omega
theorem avs_drop (os : List Av) (n : Nat) : (avs os).drop (n * 4) = avs (os.drop n) := by
  induction n generalizing os with
  | zero => simp
  | succ n ih =>
    cases os with
    | nil => simp [avs]
    | cons x r =>
      have e : (n + 1) * 4 = 4 + n * 4 := by omega
      rw [e, ← List.drop_drop]
      have : (avs (x :: r)).drop 4 = avs r := by simp [avs, avc]
      rw [this, ih]; rfl
theorem avs_at (os : List Av) {i : Nat} (h : i < os.length) : ((avs os).drop (i * 4)).take 4 = avc os[i] := by
  rw [avs_drop, List.drop_eq_getElem_cons h]
  simp only [avs, List.flatMap_cons]
  rfl
theorem plays_st (h : St w0 w G) {y : Int} (hy : -9223372036854775808 ≤ y ∧ y ≤ 9223372036854775807) {p q : Sl} {b : List UInt8} {os : List Av} (hp : Rd w0 p 1 (bys b)) (hq : Scr w0 q os) (late : Bool) :
    CallK Try.prog .bool 32 #[.int .i64 y, .slice p.a p.len p.cap, .slice q.a q.len q.cap, .bool late] w fun (r : Bool) w' => r = true ∧ St w0 w' G := by
  obtain ⟨hq1, hq2, hq3⟩ := hq
  have hql : q.len = os.length := by have := hq1.1; rw [avs_len] at this; omega
  refine T32.calls ?_
  unfold T32
  refine (shaped_st h hy (p := p) (fun w h => h.old hp)).mono ?_
  rintro r w ⟨ims, h1, h2, h5, h⟩
  refine (begun_st h h1 h2 h5 (p := r) (fun w h => h.rd (k := 0) (i := 0) ⟨_, rfl, rfl⟩)).mono ?_
  rintro q1 w ⟨x, d, j, bs, rfl, rel, hxs, hxi, hwr, hsl, hjd, hxo, harmed, h⟩
  first | refine RunN.pEqS ?_ | refine RunN.pEqN ?_ | refine RunN.pNeS ?_ | refine RunN.pNeN ?_
  rw [SplitB_iff]
  refine ⟨(fun hz => by cases hz), fun _ => ?_⟩
  try (with_reducible refine NilP.mk ?_)
  refine h.loadB 0 0 ⟨_, rfl, rfl⟩ rfl rfl ?_
  rw [hxs]
  try (with_reducible refine NilP.mk ?_)
  refine h.storB 3 0 ⟨_, rfl, rfl⟩ rfl rfl rfl ?_
  intro w h
  dsimp only [updG, setO] at h
  have key : ∃ v : Sv, v.b = bs ∧ v.Ok ∧ v.n = 0 ∧ St w0 w (kg x :: dg d :: jg j d.p :: v.gs G) := by
    cases late with
    | true =>
      have h := h.nilrow 31 1
      have h := h.nilrow 31 1
      have h := St.one.2 h
      have h := h.ord 6 [4, 0, 1, 2, 3]
      dsimp only [pick, nthO, dropO] at h
      have h := St.one.2 h
      have h := St.empty.2 (St.empty.2 h)
      have h := h.ord 6 [3, 4, 5, 2, 0, 1]
      dsimp only [pick, nthO, dropO] at h
      exact ⟨.late bs ⟨none, 0, 0⟩ ⟨none, 0, 0⟩ [] [], rfl, ⟨rfl, fun x hx => by cases hx⟩, rfl, h⟩
    | false =>
      have h := h.nilrow 3 1
      have h := h.nilrow 31 1
      have h := St.one.2 h
      have h := h.ord 6 [4, 0, 1, 2, 3]
      dsimp only [pick, nthO, dropO] at h
      have h := St.one.2 h
      have h := h.ord 4 [1, 2, 3, 0]
      dsimp only [pick, nthO, dropO] at h
      exact ⟨.now ⟨bs, ⟨none, 0, 0⟩, [], ⟨none, 0, 0⟩, []⟩, rfl, (fun x hx => by cases hx), rfl, h⟩
  clear h
  obtain ⟨v, hvb, okv, hvn, h⟩ := key
  refine LoopX.mk (fun st w' => ∃ (k : Nat) (x' : K) (d' : D) (j' : J) (v' : Sv), st.1 = (k : Int) ∧ k ≤ os.length ∧ Rel x' d' j' ∧ x'.b = x.b ∧ x'.sp = some ⟨bs, 0, none⟩ ∧ v'.b = bs ∧ v'.Ok ∧ v'.n ≤ 18 * k ∧ d'.wr ≤ 17 * k ∧ St w0 w' (kg x' :: dg d' :: jg j' d'.p :: v'.gs G)) (fun st => os.length - st.1.toNat)
    ⟨0, x, d, j, v, rfl, Nat.zero_le _, rel, rfl, hxs, hvb, okv, by omega, by omega, h⟩ ?_
  clear h
  rintro ⟨_, ⟨⟩⟩ w ⟨k, x', d', j', v', rfl, hk, rel', hxb, hxs', hvb', okv', hvn', hwr', h⟩ K hK
  dsimp only at h hK ⊢
  have hxp : x.p = x'.p := by rw [K.p, K.p, hxb]
  rw [hxp, SplitB_iff]
  refine ⟨fun hz => ?_, fun hz => ?_⟩
  · have hz : k < os.length := by
      have h1 : (k : Int) < (q.len : Int) := of_decide_eq_true hz
      omega
    obtain ⟨ho1, ho2, ho3⟩ := hq2 _ (List.getElem_mem hz)
    refine (h.old hq1).idxK k rfl (by omega) ?_
    intro b1 o1 hb1
    refine (h.old hq1).elA hb1 (k * 4) rfl (kd := .agg (.cons (.int .i64) (.cons (.int .i64) (.cons (.int .i64) (.cons .sl .nilT))))) (os[k].k, os[k].A, os[k].N, os[k].B, ()) (avs_at os hz) ?_
    refine (played_st h rel' (by rw [hxs', hvb']) okv' (by omega) (by omega) os[k] ho1 (by omega) ho3).mono ?_
    rintro r w ⟨rfl, x2, d2, j2, v2, rel2, hxb2, hxs2, hvb2, okv2, hvn2, hwr2, h⟩
    rw [SplitB_iff]
    refine ⟨(fun hz => by cases hz), fun _ => ?_⟩
    exact hK _ _ ⟨k + 1, x2, d2, j2, v2, by dsimp only; rw [wr (by omega)]; omega, hz, rel2, hxb2.trans hxb, hxs2.trans hxs', hvb2.trans hvb', okv2, by omega, by omega, h⟩ (by dsimp only; rw [wr (by omega)]; omega)
  · refine (looks_st h rel').mono ?_
    rintro r w ⟨rfl, h⟩
    rw [SplitB_iff]
    refine ⟨fun _ => ?_, (fun hz => by cases hz)⟩
    try (with_reducible refine NilP.mk ?_)
    refine h.loadB 0 0 ⟨_, rfl, rfl⟩ rfl rfl ?_
    rw [hxs', ← hvb']
    have h := h.ord 3 []
    dsimp only [pick, nthO, dropO] at h
    exact (shwhole_st h okv' (by omega)).mono fun r w' h => h
theorem law9 {wi : World} {y : Int} (hy : -9223372036854775808 ≤ y ∧ y ≤ 9223372036854775807) {p q : Sl} {b : List UInt8} {os : List Av} (hp : Rd wi p 1 (bys b)) (hq : Scr wi q os) : CallK Try.prog .bool 9 #[.int .i64 y, .slice p.a p.len p.cap, .slice q.a q.len q.cap] wi fun (r : Bool) w' => Upd wi w' nobody ∧ r = true := by
  have h := St.init wi
  refine T9.calls ?_
  unfold T9
  refine (able_st h).mono ?_
  rintro r w ⟨rfl, h⟩
  rw [SplitB_iff]
  refine ⟨fun _ => ?_, (fun hz => by cases hz)⟩
  refine (plays_st h hy hp hq false).mono ?_
  rintro r w ⟨rfl, h⟩
  rw [SplitB_iff]
  refine ⟨fun _ => ?_, (fun hz => by cases hz)⟩
  refine (plays_st h hy hp hq true).mono ?_
  rintro r w ⟨rfl, h⟩
  exact ⟨h.upd, rfl⟩
end Go.Proofs.Ytimebochhbfkgaa
