/- How many records fit. -/
import Derived.Test.YtimebochhbfkgaaJkL
namespace Go.Proofs.Ytimebochhbfkgaa
open Go Go.Fw Go.RowKit
set_option linter.unusedVariables false
set_option linter.unusedSimpArgs false
set_option maxRecDepth 4000
set_option maxHeartbeats 2000000
variable {w0 w : World} {F G : Grps} {d : D} {j : J}
instance : Et Try.prog 40 3 1 8 := ⟨ET.of (by kernel_rfl), by decide⟩
theorem bs40 (w : World) (x : Int) : (Instr.buildSlice 40 1 #[(0, .int .i64 x)]).run Try.prog w = .ok (.slice (some ⟨w.heap.size, 0, none⟩) 1 1) (w.alloc (.cells ⟨[.int .i64 x]⟩ 3)) := by kernel_rfl

theorem spaces_st (h : St w0 w G) {n x m q : Nat} (hn1 : 1 ≤ n) (hn2 : n ≤ 60) (hx : x ≤ 8192) (hq1 : q * cnt x ≤ n) (hq2 : n < q * cnt x + cnt x) (hm : m ≤ q + 1) {p : Sl} (hp : SeesG w0 G p 1 (lin (List.replicate m (x : Int)))) :
    CallK Try.prog (.tup (.cons (.int .i64) (.cons (.int .i64) (.cons .bool .nilT)))) 19 #[.int .i64 (n : Int), .slice p.a p.len p.cap] w fun (r : Int × Int × Bool × Unit) w' =>
      r = (((n - min m q * cnt x : Nat) : Int), if m ≤ q then 0 else 211, true, ()) ∧ St w0 w' G := by
  have hpl : p.len = m := by have := (hp _ h).1; rw [lin_len, List.length_replicate] at this; omega
  have hc17 := cnt_le hx
  have hc1 := cnt_pos x
  have hq60 : q ≤ 60 := by
    have : q * 1 ≤ q * cnt x := Nat.mul_le_mul_left _ hc1
    omega
  refine T19.calls ?_
  unfold T19
  refine (new_st h hn1 (by omega)).mono ?_
  rintro r w ⟨b, s, rfl, h⟩
  have ok := fresh_ok b s (n := n) (by omega)
  dsimp only
  refine JoinX.mk (fun jv w' => jv.1 = false ∧ St w0 w' (dg (fresh b s n) :: G)) ?_ ?_
  · rintro ⟨_, ⟨⟩⟩ w ⟨hj, h⟩
    dsimp only at hj h ⊢
    subst hj
    rw [SplitB_iff]
    refine ⟨(fun hz => by cases hz), fun _ => ?_⟩
    refine (open_st (d := fresh b s n) h ok rfl).mono ?_
    rintro r w ⟨j, rfl, hjd, jok, hop, h⟩
    rw [fresh_ims] at hop
    obtain ⟨hr0, hn0⟩ := zer_opened hop
    dsimp only
    refine JoinX.mk (fun jv w' => jv.1 = false ∧ St w0 w' (dg (fresh b s n) :: jg j (fresh b s n).p :: G)) ?_ ?_
    · rintro ⟨_, ⟨⟩⟩ w ⟨hj, h⟩
      dsimp only at hj h ⊢
      subst hj
      rw [SplitB_iff]
      refine ⟨(fun hz => by cases hz), fun _ => ?_⟩
      refine LoopX.mk (fun st w' => ∃ (k : Nat) (d' : D) (j' : J), k ≤ m ∧ st.2.1 = (k : Int) ∧ st.1 = (if k ≤ q then 0 else 211) ∧ j'.b = j.b ∧ DOk d' ∧ JOk j' d' ∧ d'.off = false ∧ d'.armed = false ∧ j'.dead = false ∧ j'.next = min k q * cnt x ∧ d'.secs.length = n ∧ d'.wr ≤ k * 17 ∧ St w0 w' (dg d' :: jg j' d'.p :: G)) (fun st => m - st.2.1.toNat)
        ⟨0, fresh b s n, j, Nat.zero_le _, rfl, rfl, rfl, ok, jok, rfl, rfl, hjd, by rw [hn0]; simp, by simp [fresh], by simp [fresh], h⟩ ?_
      clear h
      rintro ⟨_, _, ⟨⟩⟩ w ⟨k, d', j', hk, rfl, rfl, hb', ok', jok', ho, ha, hd, hnx, hsl, hwr, h⟩ K hK
      dsimp only at h hK ⊢
      have hjp : j.p = j'.p := by rw [J.p, J.p, hb']
      rw [SplitB_iff]
      refine ⟨fun hz => ?_, fun hz => ?_⟩
      · have hz : k < m := by have := of_decide_eq_true hz; omega
        have hpr := hp _ (h.ord 2 [])
        refine hpr.idxK k rfl (by omega) ?_
        intro b1 o1 hb1
        refine hpr.el hb1 (k * 1) rfl (kd := .int .i64) (x := (x : Int)) (by rw [Nat.mul_one]; simp [lin, hz, Kd.val]) ?_
        refine h.makeN (.int .u8 0) (by kernel_rfl) rfl x rfl rfl (by omega) (by omega) ?_
        intro s1 w hs1 hc1' h
        rw [bys_rep] at h
        have h := h.ord 3 [1, 2, 0]
        dsimp only [pick, nthO, dropO] at h
        rw [hjp]
        refine (append_st h ok' jok' (by omega) (p := s1) (c := List.replicate x 0) (fun w h => h.rd (k := 0) (i := 0) ⟨_, rfl, rfl⟩)).mono ?_
        rintro r w ⟨rfl, d2, j2, hb2, hjb2, ha2, hd2, ok2, jok2, h⟩
        have hp2 : d2.p = d'.p := by rw [D.p, D.p, hb2]
        rw [← hp2] at h
        have h := h.ord 3 [0, 1]
        dsimp only [pick, nthO, dropO] at h
        by_cases hkq : k < q
        · have hle : (k + 1) * cnt x ≤ q * cnt x := Nat.mul_le_mul_right _ hkq
          have hmk : min k q = k := by omega
          rw [hmk] at hnx
          rw [Nat.add_mul, Nat.one_mul] at hle
          obtain ⟨a', e, ho', ha', him, hwr'⟩ := JA.append_ok (x := j'.abs) (a := d'.abs) (b := List.replicate x 0) hd ho ha (by simpa using hx) (by simp only [J.abs, abs_len, List.length_replicate]; omega)
          rw [e] at ha2 hd2 ⊢
          dsimp only at ha2 hd2 ⊢
          have hwr2 : d2.wr = d'.wr + cnt x := by rw [← abs_wr, hd2, hwr', abs_wr, List.length_replicate]
          refine hK _ _ ⟨k + 1, d2, j2, by omega, by dsimp only; rw [wr (by omega)]; omega, by rw [if_pos (by omega)], hjb2.trans hb', ok2, jok2, ?_, ?_, ?_, ?_, ?_, by omega, h⟩ (by dsimp only; rw [wr (by omega)]; omega)
          · rw [← abs_off, hd2]; exact ho'
          · rw [← abs_armed, hd2]; exact ha'
          · have := congrArg JA.dead ha2; exact this.trans hd
          · have := congrArg JA.next ha2
            simp only [J.abs, List.length_replicate] at this
            rw [this, hnx, show min (k + 1) q = k + 1 by omega, Nat.add_mul, Nat.one_mul]
          · have := congrArg (fun a => a.ims.length) hd2
            rw [him, splice_len (by rw [secs_len]; simp only [J.abs, abs_len, List.length_replicate]; omega), abs_len, abs_len] at this
            omega
        · have hkq : k = q := by omega
          subst hkq
          rw [Nat.min_self] at hnx
          have e := JA.append_space (x := j'.abs) (a := d'.abs) (b := List.replicate x 0) hd ho (by simpa using hx) (by simp only [J.abs, abs_len, List.length_replicate]; omega)
          rw [e] at ha2 hd2 ⊢
          dsimp only at ha2 hd2 ⊢
          refine hK _ _ ⟨k + 1, d2, j2, by omega, by dsimp only; rw [wr (by omega)]; omega, by rw [if_neg (by omega)], hjb2.trans hb', ok2, jok2, ?_, ?_, ?_, ?_, ?_, ?_, h⟩ (by dsimp only; rw [wr (by omega)]; omega)
          · rw [← abs_off, hd2]; exact ho
          · rw [← abs_armed, hd2]; exact ha
          · have := congrArg JA.dead ha2; exact this.trans hd
          · have := congrArg JA.next ha2
            simp only [J.abs] at this
            rw [this, hnx, show min (k + 1) k = k by omega]
          · have := congrArg (fun a => a.ims.length) hd2
            simp only [abs_len] at this
            omega
          · have := congrArg A.wr hd2
            simp only [abs_wr] at this
            omega
      · have hz : k = m := by have := of_decide_eq_false hz; omega
        subst hz
        rw [hjp]
        refine (room_st h ok' jok').mono ?_
        rintro r w ⟨rfl, h⟩
        refine ⟨?_, h.ord 2 []⟩
        rw [hd, hsl, hnx]
        have : min k q * cnt x ≤ q * cnt x := Nat.mul_le_mul_right _ (by omega)
        simp only [Bool.false_eq_true, if_false]
        rw [Int.ofNat_sub (by omega)]
    · intro k hk
      first | refine RunN.pEqS ?_ | refine RunN.pEqN ?_ | refine RunN.pNeS ?_ | refine RunN.pNeN ?_
      rw [SplitB_iff]
      refine ⟨(fun hz => by cases hz), fun _ => ?_⟩
      exact hk _ _ ⟨rfl, h⟩
  · intro k hk
    first | refine RunN.pEqS ?_ | refine RunN.pEqN ?_ | refine RunN.pNeS ?_ | refine RunN.pNeN ?_
    rw [SplitB_iff]
    exact ⟨(fun hz => by cases hz), fun _ => hk _ _ ⟨rfl, h⟩⟩

theorem law4 {wi : World} {x y : Int} (hx : -9223372036854775808 ≤ x ∧ x ≤ 9223372036854775807) (hy : -9223372036854775808 ≤ y ∧ y ≤ 9223372036854775807) : CallK Try.prog .bool 4 #[.int .i64 x, .int .i64 y] wi fun (r : Bool) w' => Upd wi w' nobody ∧ r = true := by
  have h := St.init wi
  refine T4.calls ?_
  unfold T4
  refine (able_st h).mono ?_
  rintro r w ⟨rfl, h⟩
  rw [SplitB_iff]
  refine ⟨(fun hz => by simp at hz), fun _ => ?_⟩
  refine (within_ok (by decide) (by decide) hy).mono ?_
  rintro r w' ⟨hw, n, rfl, hn⟩
  subst hw
  have hn8 : n ≤ 8192 := by omega
  rw [wr (x := (n : Int) + 495) (by omega), Int.tdiv_eq_ediv_of_nonneg (by omega), wr (by omega)]
  refine RunN.of (kd := .int .i64) (max_i _ _ _) ?_
  have ec : max 1 (((n : Int) + 495) / 496) = ((cnt n : Nat) : Int) := by simp only [cnt]; omega
  rw [ec]
  have hc17 := cnt_le hn8
  have hc1 := cnt_pos n
  generalize hc : cnt n = c at hc17 hc1
  refine (within_ok (by decide) (by decide) hx).mono ?_
  rintro r w' ⟨hw, s, rfl, hs⟩
  subst hw
  have e1 : IntKind.i64.wrap (1 + (s : Int)) = ((1 + s : Nat) : Int) := by rw [wr (by omega)]; omega
  rw [e1]
  generalize hS : 1 + s = S
  have hS1 : 1 ≤ S ∧ S ≤ 60 := by omega
  have hne : (c : Int) ≠ 0 := by omega
  have hnn : c ≠ 0 := by omega
  have hdiv : S / c * c ≤ S ∧ S < S / c * c + c := by
    have h1 := Nat.div_add_mod S c
    have h2 := Nat.mod_lt S (show c > 0 by omega)
    rw [Nat.mul_comm] at h1
    omega
  have hmod : S - S / c * c = S % c := by
    have h1 := Nat.div_add_mod S c
    rw [Nat.mul_comm] at h1
    omega
  have hq60 : S / c ≤ 60 := Nat.le_trans (Nat.div_le_self _ _) hS1.2
  have hrem : ∀ (w : World) (K : Int → World → Prop), K ((S % c : Nat) : Int) w → RunN Try.prog (.int .i64) (V (binOp .rem 3 (.int .i64 (S : Int)) (.int .i64 (c : Int)))) w K := by
    intro w K hK
    refine RunN.of (kd := .int .i64) (x := Int.tmod S c) (w' := w) (by simp [binOp, Op.intDiv, hne, hnn, Kd.val]) ?_
    rw [Int.tmod_eq_emod_of_nonneg (by omega)]
    have : (S : Int) % (c : Int) = ((S % c : Nat) : Int) := by simp
    rw [this]; exact hK
  have hqo : ∀ (w : World) (K : Int → World → Prop), K ((S / c : Nat) : Int) w → RunN Try.prog (.int .i64) (V (binOp .quo 3 (.int .i64 (S : Int)) (.int .i64 (c : Int)))) w K := by
    intro w K hK
    have e2 : Int.tdiv (S : Int) (c : Int) = ((S / c : Nat) : Int) := by rw [Int.tdiv_eq_ediv_of_nonneg (by omega)]; simp
    refine RunN.of (kd := .int .i64) (x := IntKind.i64.wrap (Int.tdiv (S : Int) c)) (w' := w) (by simp [binOp, Op.intDiv, hne, hnn, Kd.val]) ?_
    have e3 : IntKind.i64.wrap (Int.tdiv (S : Int) c) = ((S / c : Nat) : Int) := by rw [e2]; exact wr ⟨Int.le_trans (by decide) (Int.natCast_nonneg _), Int.le_trans (Int.ofNat_le.2 hq60) (by decide)⟩
    rw [e3]; exact hK
  have h := h.nilrow 3 1
  refine LoopX.mk (fun st w' => ∃ k : Nat, k ≤ S / c ∧ st.2.1 = (k : Int) ∧ st.1.len = k ∧ St wi w' ([.row 3 1 st.1 (lin (List.replicate k (n : Int)))] :: [])) (fun st => S / c - st.2.1.toNat) ⟨0, Nat.zero_le _, rfl, rfl, h⟩ ?_
  clear h
  rintro ⟨l, _, ⟨⟩⟩ w ⟨k, hk, rfl, hl, h⟩ K hK
  dsimp only at h hK hl ⊢
  refine hqo _ _ ?_
  have hap : ∀ (k : Nat) (l : Sl) (w : World) (K : Sl → World → Prop), k ≤ 100 → l.len = k → St wi w ([.row 3 1 l (lin (List.replicate k (n : Int)))] :: []) →
      (∀ l' w', l'.len = k + 1 → St wi w' ([.row 3 1 l' (lin (List.replicate (k + 1) (n : Int)))] :: []) → K l' w') →
      RunN Try.prog .sl (V (Instr.buildSlice 40 1 #[(0, .int .i64 (n : Int))])) w fun t57 w =>
        RunN Try.prog .sl (V (Builtin.append_ #[40, 40] 40 #[.slice l.a l.len l.cap, .slice t57.a t57.len t57.cap])) w fun t58 w => K t58 w := by
    intro k l w K hk hl h hK
    refine h.newS 1 (bs40 _ _) rfl rfl rfl ?_
    intro u w hul huc _ h
    refine h.app 1 0 ⟨_, rfl, rfl⟩ (h.rd (k := 0) (i := 0) ⟨_, rfl, rfl⟩) one_int (by simp only [maxLen]; omega) (by omega) ?_
    intro l' w hl' h
    dsimp only [updG, setO] at h
    have h := h.drop 0
    dsimp only [delO] at h
    refine hK _ _ (by omega) ?_
    rw [List.replicate_succ', lin_snoc]; exact h
  rw [SplitB_iff]
  refine ⟨fun hz => ?_, fun hz => ?_⟩
  · have hz : k < S / c := by have := of_decide_eq_true hz; omega
    refine hap k l w _ (by omega) hl h ?_
    intro l' w hl' h
    exact hK _ _ ⟨k + 1, by omega, by dsimp only; rw [wr (by omega)]; omega, hl', h⟩ (by dsimp only; rw [wr (by omega)]; omega)
  · have hz : k = S / c := by have := of_decide_eq_false hz; omega
    refine (spaces_st h (x := n) (m := k) (q := k) hS1.1 hS1.2 hn8 (by rw [hc, hz]; exact hdiv.1) (by rw [hc, hz]; exact hdiv.2) (by omega) (fun w h => h.rd (k := 0) (i := 0) ⟨_, rfl, rfl⟩)).mono ?_
    rintro r w ⟨rfl, h⟩
    dsimp only
    refine JoinX.mk (fun jv w' => jv.1 = false ∧ St wi w' ([.row 3 1 l (lin (List.replicate k (n : Int)))] :: [])) ?_ ?_
    · rintro ⟨_, ⟨⟩⟩ w ⟨hj, h⟩
      dsimp only at hj h ⊢
      subst hj
      rw [SplitB_iff]
      refine ⟨(fun hz => by cases hz), fun _ => ?_⟩
      refine hap k l w _ (by omega) hl h ?_
      intro l' w hl' h
      refine (spaces_st h (x := n) (m := k + 1) (q := k) hS1.1 hS1.2 hn8 (by rw [hc, hz]; exact hdiv.1) (by rw [hc, hz]; exact hdiv.2) (by omega) (fun w h => h.rd (k := 0) (i := 0) ⟨_, rfl, rfl⟩)).mono ?_
      rintro r w ⟨rfl, h⟩
      dsimp only
      rw [SplitB_iff]
      refine ⟨fun _ => ?_, (fun hz => by cases hz)⟩
      rw [if_neg (by omega)]
      refine (num_ok 211).mono ?_
      rintro r w' ⟨hw, rfl⟩
      subst hw
      rw [SplitB_iff]
      refine ⟨fun _ => ?_, (fun hz => by simp at hz)⟩
      refine hrem _ _ ?_
      refine ⟨h.upd, ?_⟩
      rw [show min (k + 1) k = k by omega, hc, hz, hmod]; simp
    · intro k3 hk3
      rw [SplitB_iff]
      refine ⟨(fun hz => by simp at hz), fun _ => ?_⟩
      rw [if_pos (Nat.le_refl _), SplitB_iff]
      refine ⟨(fun hz => by simp at hz), fun _ => ?_⟩
      refine hrem _ _ ?_
      refine hk3 _ _ ⟨?_, h⟩
      dsimp only
      rw [Nat.min_self, hc, hz, hmod]; simp
end Go.Proofs.Ytimebochhbfkgaa
