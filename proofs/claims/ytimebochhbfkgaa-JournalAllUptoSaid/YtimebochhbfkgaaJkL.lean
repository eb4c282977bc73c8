/- The laws' own small functions: lent, back, able, tells, within. -/
import Derived.Test.YtimebochhbfkgaaJkK
import Derived.Test.YtimebochhbfkgaaTJ2
namespace Go.Proofs.Ytimebochhbfkgaa
open Go Go.Fw Go.RowKit
set_option linter.unusedVariables false
set_option linter.unusedSimpArgs false
set_option maxRecDepth 4000
set_option maxHeartbeats 2000000
variable {w0 w : World} {F G : Grps} {d : D} {j : J}

theorem within_ok {x n : Int} (h0 : 0 < n) (hn : n ≤ 4611686018427387904) (hx : -9223372036854775808 ≤ x ∧ x ≤ 9223372036854775807) : CallK Try.prog (.int .i64) 18 #[.int .i64 x, .int .i64 n] w fun (r : Int) w' => w' = w ∧ ∃ m : Nat, r = (m : Int) ∧ (m : Int) < n := by
  refine T18.calls ?_
  unfold T18
  have hne : n ≠ 0 := by omega
  refine JoinX.mk (fun jv w' => 0 ≤ jv.1 ∧ w' = w) ?_ ?_
  · rintro ⟨v, ⟨⟩⟩ w ⟨hj, rfl⟩
    dsimp only at hj ⊢
    refine RunN.of (kd := .int .i64) (x := Int.tmod v n) (w' := w) (by simp [binOp, Op.intDiv, hne, Kd.val]) ?_
    have h1 : Int.tmod v n < n := Int.tmod_lt_of_pos v h0
    have h2 : 0 ≤ Int.tmod v n := Int.tmod_nonneg n hj
    exact ⟨rfl, (Int.tmod v n).toNat, by omega, by omega⟩
  · intro k hk
    rw [SplitB_iff]
    refine ⟨fun hz => ?_, fun hz => ?_⟩
    · have hz : x < 0 := of_decide_eq_true hz
      rw [wr (x := x + 1) (by omega), wr (x := 0 - (x + 1)) (by omega)]
      exact hk _ _ ⟨by dsimp only; omega, rfl⟩
    · have hz : ¬ x < 0 := of_decide_eq_false hz
      exact hk _ _ ⟨by dsimp only; omega, rfl⟩
theorem lent_st (h : St w0 w G) {p : Sl} {c : List UInt8} (hp : Rd w p 1 (bys c)) (hc : c.length ≤ 140737488355326) : CallK Try.prog .sl 12 #[.slice p.a p.len p.cap] w fun (r : Sl) w' =>
    r.len = c.length + 2 ∧ St w0 w' ([.row 5 1 r (bys (c ++ [0xA5, 0x5A]))] :: G) := by
  have hl := hp.bys_len
  refine T12.calls ?_
  unfold T12
  refine h.appNil (e := 5) hp (bys_one _) (by simp only [maxLen]; omega) (by omega) ?_
  intro r w hr h
  refine h.newS 1 (bs31_2 _ _ _) rfl rfl rfl ?_
  intro u w hul huc _ h
  have e1 : [Value.int .u8 165, .int .u8 90] = bys [0xA5, 0x5A] := rfl
  rw [e1] at h
  refine h.app 1 0 ⟨_, rfl, rfl⟩ (h.rd (k := 0) (i := 0) ⟨_, rfl, rfl⟩) (bys_one _) (by simp only [maxLen]; omega) (by omega) ?_
  intro r2 w hr2 h
  dsimp only [updG, setO] at h
  have h := h.drop 0
  dsimp only [delO] at h
  rw [← bys_append] at h
  exact ⟨by omega, h⟩
theorem bys_at {l : List UInt8} {i : Nat} {b : UInt8} (h : l[i]? = some b) : (bys l)[i * 1]? = some (.int .u8 (b.toNat : Int)) := by
  rw [Nat.mul_one]; simp [bys, h, u8v]
theorem back_st {p q : Sl} {c : List UInt8} (h : St w0 w ([.row 5 1 p (bys (c ++ [0xA5, 0x5A]))] :: G)) (hc : c.length ≤ 140737488355326) (hq : SeesG w0 G q 1 (bys c)) : CallK Try.prog .bool 14 #[.slice p.a p.len p.cap, .slice q.a q.len q.cap] w fun (r : Bool) w' =>
    r = true ∧ St w0 w' G := by
  have hl := (h.rd (k := 0) (i := 0) ⟨_, rfl, rfl⟩).bys_len
  have hcap := (h.rd (k := 0) (i := 0) ⟨_, rfl, rfl⟩).2.2
  rw [List.length_append] at hl
  simp only [List.length_cons, List.length_nil] at hl
  have hql := (hq _ (h.drop 0)).bys_len
  have hqi : (q.len : Int) = (c.length : Int) := by rw [hql]
  refine T14.calls ?_
  unfold T14
  refine JoinX.mk (fun jv w' => jv.1 = true ∧ ∃ x : List UInt8, St w0 w' ([.row 5 1 p (bys x)] :: G)) ?_ ?_
  · rintro ⟨_, ⟨⟩⟩ w ⟨hj, x, h⟩
    dsimp only at hj h ⊢
    subst hj
    refine LoopX.mk (fun st w' => ∃ (k : Nat) (x : List UInt8), k ≤ p.len ∧ st.1 = (k : Int) ∧ St w0 w' ([.row 5 1 p (bys x)] :: G)) (fun st => p.len - st.1.toNat) ⟨0, x, by omega, rfl, h⟩ ?_
    clear h
    rintro ⟨_, ⟨⟩⟩ w ⟨k, x, hk, rfl, h⟩ K hK
    dsimp only at h hK ⊢
    rw [SplitB_iff]
    refine ⟨fun hx => ?_, fun hx => ?_⟩
    · have hx : k < p.len := by have := of_decide_eq_true hx; omega
      have hxl := (h.rd (k := 0) (i := 0) ⟨_, rfl, rfl⟩).bys_len
      refine (h.rd (k := 0) (i := 0) ⟨_, rfl, rfl⟩).idxK k rfl hx ?_
      intro b o hb
      refine h.storR 0 0 ⟨_, rfl, rfl⟩ hb (k * 1) rfl (by rw [bys_length]; omega) rfl ?_
      intro w h
      dsimp only [updG, setO] at h
      have e : (bys x).set (k * 1) (.int .u8 85) = bys (x.set k 85) := by rw [Nat.mul_one, ← bys_set]; rfl
      rw [e] at h
      exact hK _ _ ⟨k + 1, _, by omega, by dsimp only; rw [wr (by omega)]; omega, h⟩ (by dsimp only; rw [wr (by omega)]; omega)
    · exact ⟨rfl, h.drop 0⟩
  · intro k hk
    rw [hqi]
    refine RunN.sH (s := p) c.length rfl (by omega) ?_
    have hr := (h.rd (k := 0) (i := 0) ⟨_, rfl, rfl⟩).pre (hi := c.length) (by omega)
    rw [bys_take, List.take_append_of_le_length (Nat.le_refl _), List.take_of_length_le (Nat.le_refl _)] at hr
    refine (same_ok hr (hq _ (h.drop 0))).mono ?_
    rintro r w' ⟨hw, rfl⟩
    subst hw
    rw [SplitB_iff]
    refine ⟨fun _ => ?_, (fun hz => by simp at hz)⟩
    refine (h.rd (k := 0) (i := 0) ⟨_, rfl, rfl⟩).idxK c.length rfl (by omega) ?_
    intro b o hb
    refine (h.rd (k := 0) (i := 0) ⟨_, rfl, rfl⟩).el hb (c.length * 1) rfl (kd := .int .u8) (x := 165) (bys_at (b := 0xA5) (by simp)) ?_
    rw [SplitB_iff]
    refine ⟨fun _ => ?_, (fun hz => by simp at hz)⟩
    rw [wr (by omega)]
    refine (h.rd (k := 0) (i := 0) ⟨_, rfl, rfl⟩).idxK (c.length + 1) (by omega) (by omega) ?_
    intro b2 o2 hb2
    refine (h.rd (k := 0) (i := 0) ⟨_, rfl, rfl⟩).el hb2 ((c.length + 1) * 1) rfl (kd := .int .u8) (x := 90) (bys_at (b := 0x5A) (by simp)) ?_
    exact hk _ _ ⟨rfl, _, h⟩

/-- What one Append comes to, on a live disk. -/
theorem able_st (h : St w0 w G) : CallK Try.prog .bool 16 #[] w fun (r : Bool) w' => r = true ∧ St w0 w' G := by
  refine T16.calls ?_
  unfold T16
  refine (new_st h (n := 4) (by decide) (by decide)).mono ?_
  rintro r w ⟨b, s, rfl, h⟩
  have ok := fresh_ok b s (n := 4) (by decide)
  dsimp only
  refine JoinX.mk (fun jv w' => jv.1 = false ∧ St w0 w' (dg (fresh b s 4) :: G)) ?_ ?_
  · rintro ⟨_, ⟨⟩⟩ w ⟨hj, h⟩
    dsimp only at hj h ⊢
    subst hj
    rw [SplitB_iff]
    refine ⟨(fun hz => by cases hz), fun _ => ?_⟩
    refine (open_st (d := fresh b s 4) h ok rfl).mono ?_
    rintro r w ⟨j, rfl, hjd, jok, hop, h⟩
    rw [fresh_ims] at hop
    obtain ⟨hr0, hn0⟩ := zer_opened hop
    have hab : j.abs = ⟨[], 0, false⟩ := by simp only [J.abs, hr0, hn0, hjd]
    have hj0 : j.recs.length = 0 := by have := congrArg List.length hr0; simpa using this
    dsimp only
    refine JoinX.mk (fun jv w' => jv.1 = false ∧ ∃ (d2 : D) (j2 : J), d2.b = b ∧ j2.b = j.b ∧ DOk d2 ∧ JOk j2 d2 ∧ d2.off = false ∧ j2.dead = false ∧ j2.abs.recs = [[97, 98]] ∧ d2.abs.ims = splice (zer 4) 0 (secs 1 [97, 98]) ∧ St w0 w' (dg d2 :: jg j2 d2.p :: G)) ?_ ?_
    · rintro ⟨_, ⟨⟩⟩ w ⟨hj, d2, j2, hb2, hjb2, ok2, jok2, ho2, hd2, hrec, him, h⟩
      dsimp only at hj h ⊢
      subst hj
      have hp2 : (some ⟨b, 0, none⟩ : Option Addr) = d2.p := by rw [D.p, hb2]
      have hjp2 : j.p = j2.p := by rw [J.p, J.p, hjb2]
      have hl1 : j2.recs.length = 1 := by have := congrArg List.length hrec; simpa [J.abs] using this
      have hlen : d2.secs.length = 4 := by have := congrArg List.length him; simpa [D.abs, splice, secs, cnt, zer] using this
      have hat : j2.recs[0].2 = [97, 98] := by
        have := congrArg (fun l => l[0]?) hrec
        simpa [J.abs, hl1] using this
      have hcon : cont d2.secs[0] = sec 1 [97, 98] 0 := by
        have h1 : d2.abs.ims[0]? = some (cont d2.secs[0]) := by simp [D.abs, hlen]
        rw [him] at h1
        have h2 : (splice (zer 4) 0 (secs 1 [97, 98]))[0]? = some (sec 1 [97, 98] 0) := by
          simp [splice, secs, cnt, List.range_succ]
        rw [h2] at h1
        exact (Option.some.inj h1).symm
      rw [SplitB_iff]
      refine ⟨(fun hz => by cases hz), fun _ => ?_⟩
      rw [hjp2, hp2]
      refine (at_st (i := 0) h jok2 (by omega) hd2).mono ?_
      rintro ⟨r1, e1, ⟨⟩⟩ w ⟨he1, hr1, h⟩
      dsimp only at he1 hr1 h ⊢
      subst he1
      have h := h.ord 3 [1, 2, 0]
      dsimp only [pick, nthO, dropO] at h
      refine (read_st (n := 0) h ok2 (by omega) ho2).mono ?_
      rintro ⟨r2, e2, ⟨⟩⟩ w ⟨he2, hr2, h⟩
      dsimp only at he2 hr2 h ⊢
      subst he2
      rw [SplitB_iff]
      refine ⟨fun _ => ?_, (fun hz => by simp at hz)⟩
      rw [SplitB_iff]
      refine ⟨fun _ => ?_, (fun hz => by simp at hz)⟩
      refine h.litC (e := 5) [97, 98] (by kernel_rfl) (by kernel_rfl) rfl (bs31_2 _ _ _) ?_
      intro u w hul h
      rw [hat] at h
      refine (same_ok (h.rd (k := 4) (i := 0) ⟨_, rfl, rfl⟩) (h.rdo (k := 0) (i := 0) ⟨_, rfl, rfl⟩)).mono ?_
      rintro r w' ⟨hw, rfl⟩
      subst hw
      rw [SplitB_iff]
      refine ⟨fun _ => ?_, (fun hz => by simp at hz)⟩
      have h := h.ord 5 [2, 3, 1]
      dsimp only [pick, nthO, dropO] at h
      refine (len_st h).mono ?_
      rintro r w ⟨rfl, h⟩
      rw [hd2, hl1, if_neg (by simp), SplitB_iff]
      refine ⟨fun _ => ?_, (fun hz => by simp at hz)⟩
      have hr2i : (r2.len : Int) = 512 := by rw [hr2]; rfl
      rw [hr2i, SplitB_iff]
      refine ⟨fun _ => ?_, (fun hz => by simp at hz)⟩
      rw [hcon] at h
      refine (h.rd (k := 2) (i := 0) ⟨_, rfl, rfl⟩).idxK 0 rfl (by omega) ?_
      intro b1 o1 hb1
      refine (h.rd (k := 2) (i := 0) ⟨_, rfl, rfl⟩).el hb1 (0 * 1) rfl (kd := .int .u8) (x := 1) (bys_at (b := 1) (by kernel_rfl)) ?_
      rw [SplitB_iff]
      refine ⟨fun _ => ?_, (fun hz => by simp at hz)⟩
      refine (h.rd (k := 2) (i := 0) ⟨_, rfl, rfl⟩).idxK 511 rfl (by omega) ?_
      intro b1 o1 hb1
      refine (h.rd (k := 2) (i := 0) ⟨_, rfl, rfl⟩).el hb1 (511 * 1) rfl (kd := .int .u8) (x := 2) (bys_at (b := 2) (by kernel_rfl)) ?_
      rw [SplitB_iff]
      refine ⟨fun _ => ?_, (fun hz => by simp at hz)⟩
      refine (h.rd (k := 2) (i := 0) ⟨_, rfl, rfl⟩).idxK 8 rfl (by omega) ?_
      intro b1 o1 hb1
      refine (h.rd (k := 2) (i := 0) ⟨_, rfl, rfl⟩).el hb1 (8 * 1) rfl (kd := .int .u8) (x := 97) (bys_at (b := 97) (by kernel_rfl)) ?_
      exact ⟨rfl, h.ord 3 []⟩
    · intro k hk
      first | refine RunN.pEqS ?_ | refine RunN.pEqN ?_ | refine RunN.pNeS ?_ | refine RunN.pNeN ?_
      rw [SplitB_iff]
      refine ⟨(fun hz => by cases hz), fun _ => ?_⟩
      rw [SplitB_iff]
      refine ⟨(fun hz => by simp at hz), fun _ => ?_⟩
      refine (len_st h).mono ?_
      rintro r w ⟨rfl, h⟩
      rw [hjd, hj0, SplitB_iff]
      refine ⟨(fun hz => by simp at hz), fun _ => ?_⟩
      refine (room_st h ok jok).mono ?_
      rintro r w ⟨rfl, h⟩
      rw [hjd, hn0, SplitB_iff]
      refine ⟨(fun hz => by simp [fresh] at hz), fun _ => ?_⟩
      refine h.litC (e := 5) [97, 98] (by kernel_rfl) (by kernel_rfl) rfl (bs31_2 _ _ _) ?_
      intro u w hul h
      have h := h.ord 3 [1, 2, 0]
      dsimp only [pick, nthO, dropO] at h
      refine (append_st h ok jok (by simp [fresh]) (p := u) (c := [97, 98]) (fun w h => h.rdo (k := 0) (i := 0) ⟨_, rfl, rfl⟩)).mono ?_
      rintro r w ⟨rfl, d2, j2, hb2, hjb2, ha2, hd2, ok2, jok2, h⟩
      obtain ⟨a', e, ho, ha, him, hwr⟩ := JA.append_ok (x := j.abs) (a := (fresh b s 4).abs) (b := [97, 98]) (by rw [hab]) rfl rfl (by decide) (by rw [hab, fresh_ims]; decide)
      rw [e] at ha2 hd2 ⊢
      dsimp only at ha2 hd2 ⊢
      have hp2 : d2.p = (fresh b s 4).p := by rw [D.p, D.p, hb2]
      rw [← hp2] at h
      refine hk _ _ ⟨rfl, d2, j2, hb2, hjb2, ok2, jok2, ?_, ?_, ?_, ?_, ?_⟩
      · rw [← abs_off, hd2]; exact ho
      · have := congrArg JA.dead ha2
        rw [hab] at this; exact this
      · rw [ha2, hab]; rfl
      · rw [hd2, him, hab, fresh_ims]; rfl
      · skip
        have h := h.ord 3 [0, 1]
        dsimp only [pick, nthO, dropO] at h
        exact h
  · intro k hk
    first | refine RunN.pEqS ?_ | refine RunN.pEqN ?_ | refine RunN.pNeS ?_ | refine RunN.pNeN ?_
    rw [SplitB_iff]
    exact ⟨(fun hz => by cases hz), fun _ => hk _ _ ⟨rfl, h⟩⟩
/-- The journal tells just these records. -/
theorem tells_st (h : St w0 w (dg d :: jg j d.p :: F)) (jok : JOk j d) (hd : j.dead = false) {p : Sl} {L : List Bs} (hp : ∀ w, St w0 w F → Rd w p 1 (lsl L) ∧ ∀ x ∈ L, Rd w x.1 1 (bys x.2)) (hL : j.recs.map (·.2) = L.map (·.2)) (hs : j.recs.length ≤ 1048576) :
    CallK Try.prog .bool 17 #[.pointer j.p, .slice p.a p.len p.cap] w fun (r : Bool) w' => r = true ∧ St w0 w' (dg d :: jg j d.p :: F) := by
  have hll : j.recs.length = L.length := by have := congrArg List.length hL; simpa using this
  have hpl : p.len = L.length := by have := (hp _ (h.ord 2 [])).1.1; rw [lsl_len] at this; omega
  refine T17.calls ?_
  unfold T17
  refine (len_st h).mono ?_
  rintro r w ⟨rfl, h⟩
  rw [hd, if_neg (by simp), SplitB_iff]
  refine ⟨(fun hz => by rw [hpl, hll] at hz; simp at hz), fun _ => ?_⟩
  refine LoopX.mk (fun st w' => ∃ k : Nat, k ≤ L.length ∧ st.1 = (k : Int) ∧ St w0 w' (dg d :: jg j d.p :: F)) (fun st => L.length - st.1.toNat) ⟨0, Nat.zero_le _, rfl, h⟩ ?_
  clear h
  rintro ⟨_, ⟨⟩⟩ w ⟨k, hk, rfl, h⟩ K hK
  dsimp only at h hK ⊢
  rw [SplitB_iff]
  refine ⟨fun hx => ?_, fun hx => ?_⟩
  · have hx : k < L.length := by have := of_decide_eq_true hx; omega
    refine (at_st (i := k) h jok (by omega) hd).mono ?_
    rintro ⟨r, e, ⟨⟩⟩ w ⟨he, hr, h⟩
    dsimp only at he hr h ⊢
    subst he
    refine JoinX.mk (fun jv w' => jv.1 = false ∧ St w0 w' (dg d :: jg j d.p :: F)) ?_ ?_
    · rintro ⟨_, ⟨⟩⟩ w ⟨hj, h⟩
      dsimp only at hj h ⊢
      subst hj
      rw [SplitB_iff]
      refine ⟨(fun hz => by cases hz), fun _ => ?_⟩
      exact hK _ _ ⟨k + 1, by omega, by dsimp only; rw [wr (by omega)]; omega, h⟩ (by dsimp only; rw [wr (by omega)]; omega)
    · intro k2 hk2
      rw [SplitB_iff]
      refine ⟨(fun hz => by simp at hz), fun _ => ?_⟩
      obtain ⟨hp1, hp2⟩ := hp _ (h.ord 3 [])
      refine hp1.idxK k rfl (by omega) ?_
      intro b o hb
      refine hp1.el hb (k * 1) rfl (kd := .sl) (x := L[k].1) (by rw [Nat.mul_one, lsl_at hx]; rfl) ?_
      refine (same_ok (h.rd (k := 0) (i := 0) ⟨_, rfl, rfl⟩) (hp2 _ (List.getElem_mem hx))).mono ?_
      rintro r w' ⟨hw, rfl⟩
      subst hw
      refine hk2 _ _ ⟨?_, h.drop 0⟩
      have e : j.recs[k].2 = L[k].2 := by
        have := congrArg (fun l => l[k]?) hL
        simpa [hx, show k < j.recs.length by omega] using this
      dsimp only
      rw [e]; simp
  · refine (at_err (i := (p.len : Int)) h (.inr (by rw [hd, hpl, hll]; simp))).mono ?_
    rintro r w ⟨rfl, h⟩
    refine (at_err (i := -1) h (.inl (by decide))).mono ?_
    rintro r w ⟨rfl, h⟩
    refine (num_ok 1).mono ?_
    rintro r w' ⟨hw, rfl⟩
    subst hw
    rw [SplitB_iff]
    refine ⟨fun _ => ?_, (fun hz => by simp at hz)⟩
    refine (num_ok 1).mono ?_
    rintro r w' ⟨hw, rfl⟩
    subst hw
    exact ⟨rfl, h⟩
/-- Lists of bytes, as they stand in memory. -/
def Recs (w : World) (s : Sl) (L : List Bs) : Prop := Rd w s 1 (lsl L) ∧ ∀ x ∈ L, Rd w x.1 1 (bys x.2) ∧ x.2.length ≤ 140737488351232
theorem Recs.len {s : Sl} {L : List Bs} (h : Recs w s L) : s.len = L.length := by have := h.1.1; rw [lsl_len] at this; omega
end Go.Proofs.Ytimebochhbfkgaa
