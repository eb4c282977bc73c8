/- The document's own open. -/
import Derived.Test.YtaocddmmgefeoaaDoorFsA
namespace Go.Proofs.YtaocddmmgefeoaaDoor
open Go Go.Fw Go.RowKit Go.Frm
set_option linter.unusedVariables false
set_option linter.unusedSimpArgs false
set_option maxRecDepth 4000
set_option maxHeartbeats 1000000
variable {w0 w : World} {F : Grps}

theorem ropen_st {wi : World} {p : Sl} {l : List UInt8} (hr : Rd wi p 1 (bys l)) (hl : l.length ≤ 1048576) :
    CallK Tryd.prog (.tup (.cons .sl (.cons (.int .i64) .nilT))) 27 #[.slice p.a p.len p.cap] wi fun (r : Sl × Int × Unit) w' => r.2.1 = (openS l).2 ∧ St wi w' [[.row 5 1 r.1 (bys (openS l).1)]] := by
  have hlen := hr.bys_len
  have hcap := hr.2.2
  have h := St.init wi
  refine T27.calls ?_
  unfold T27
  rw [SplitB_iff]
  refine ⟨fun hc => ?_, fun hc => ?_⟩
  · have hc := of_decide_eq_true hc
    have e : openS l = ([], 10) := by rw [openS, if_pos (by omega)]
    rw [e]
    exact ⟨rfl, h.nilrow 5 1⟩
  have hc := of_decide_eq_false hc
  have h7 : ¬ l.length < 7 := by omega
  have g : ∀ i (hi : i < l.length), l.getD i 0 = l[i] := fun i hi => by simp [hi]
  refine hr.idxK 0 rfl (by omega) ?_
  intro b0 o0 hb0
  refine hr.el hb0 (0 * 1) rfl (kd := .int .u8) (x := (l[0].toNat : Int)) (bys_get (by omega)) ?_
  rw [SplitB_iff]
  refine ⟨fun h1 => ?_, fun h1 => ?_⟩
  · have h1 : l.getD 0 0 ≠ 1 := by
      rw [g 0 (by omega)]
      intro e
      rw [e] at h1
      simp at h1
    have e : openS l = ([], 11) := by rw [openS, if_neg h7, if_pos h1]
    rw [e]
    exact ⟨rfl, h.nilrow 5 1⟩
  have h1 : ¬ l.getD 0 0 ≠ 1 := by
    rw [g 0 (by omega)]
    intro hne
    have : (l[0].toNat : Int) = 1 := by simpa using h1
    exact hne (UInt8.toNat_inj.1 (by simpa using (show l[0].toNat = 1 by omega)))
  have hrd := h.drew.old hr
  refine hrd.idxR 1 rfl (by omega) ?_
  intro b1 o1 hb1
  refine hrd.elR hb1 (1 * 1) rfl (kd := .int .u8) (x := (l[1].toNat : Int)) (bys_get (by omega)) ?_
  refine hrd.idxR 2 rfl (by omega) ?_
  intro b2 o2 hb2
  refine hrd.elR hb2 (2 * 1) rfl (kd := .int .u8) (x := (l[2].toNat : Int)) (bys_get (by omega)) ?_
  have hl1 := l[1].toNat_lt
  have hl2 := l[2].toNat_lt
  have hn : IntKind.i64.wrap (IntKind.i64.wrap (l[1].toNat : Int) + IntKind.i64.wrap ((256 : Int) * IntKind.i64.wrap (l[2].toNat : Int))) = ((len16 l : Nat) : Int) := by
    rw [i64_byte, i64_byte, wr (x := (256 : Int) * _) (by omega), wr (by omega), len16, g 1 (by omega), g 2 (by omega)]; omega
  rw [hn]
  have hnl : len16 l ≤ 65535 := by rw [len16, g 1 (by omega), g 2 (by omega)]; omega
  generalize hN : len16 l = n at *
  have h := h.drew
  refine JoinX.mk (fun j w' => (j.1 = true ↔ (4096 < n ∨ n + 7 ≠ l.length)) ∧ St wi w' []) ?_ ?_
  rotate_left
  · intro k hk
    rw [SplitB_iff]
    refine ⟨fun hz => ?_, fun hz => ?_⟩
    · have hz := of_decide_eq_true hz
      exact hk _ _ ⟨by simp; omega, h⟩
    · have hz := of_decide_eq_false hz
      refine hk _ _ ⟨?_, h⟩
      rw [wr (by omega)]
      simp; omega
  rintro ⟨jb, ⟨⟩⟩ w ⟨hj, h⟩
  dsimp only at hj h ⊢
  rw [SplitB_iff]
  refine ⟨fun hz => ?_, fun hz => ?_⟩
  · have e : openS l = ([], 10) := by rw [openS, if_neg h7, if_neg h1, hN, if_pos (hj.1 hz)]
    rw [e]
    exact ⟨rfl, h.nilrow 5 1⟩
  have hbad : ¬ (4096 < n ∨ n + 7 ≠ l.length) := fun hh => by rw [hj.2 hh] at hz; cases hz
  have hn7 : l.length = n + 7 := by omega
  have h := h.nilrow 5 1
  refine LoopX.mk (fun st w' => ∃ k : Nat, k ≤ n ∧ st.2.1 = (k : Int) ∧ St wi w' ([.row 5 1 st.1 (bys ((l.drop 3).take k))] :: [])) (fun st => n - st.2.1.toNat) ⟨0, Nat.zero_le _, rfl, h⟩ ?_
  clear h
  rintro ⟨q, _, ⟨⟩⟩ w ⟨k, hk, rfl, h⟩ K hK
  dsimp only at h hK ⊢
  have hql := (h.rd (k := 0) (i := 0) ⟨_, rfl, rfl⟩).bys_len
  have hqk : q.len = k := by rw [hql, List.length_take, List.length_drop]; omega
  rw [SplitB_iff]
  refine ⟨fun hd => ?_, fun hd => ?_⟩
  · have hd : k < n := by have := of_decide_eq_true hd; omega
    refine (h.old hr).idxK (3 + k) (by rw [wr (by omega)]; omega) (by omega) ?_
    intro b o hb
    refine (h.old hr).el hb ((3 + k) * 1) rfl (kd := .int .u8) (x := ((l[3 + k]'(by omega)).toNat : Int)) (by rw [Nat.mul_one]; exact bys_get (by omega)) ?_
    refine h.newS 1 (bs1 _ _) rfl rfl rfl ?_
    intro s4 w h1 h2 h3 h
    refine h.app 1 0 ⟨_, rfl, rfl⟩ (h.rd (k := 0) (i := 0) ⟨_, rfl, rfl⟩) one_int (by simp only [maxLen]; omega) (by omega) ?_
    intro s5 w h5 h
    dsimp only [updG, setO] at h
    have hkd : k < (l.drop 3).length := by simp; omega
    have e : bys ((l.drop 3).take k) ++ [Value.int .u8 ((l[3 + k]'(by omega)).toNat : Int)] = bys ((l.drop 3).take (k + 1)) := by
      have := bys_snoc hkd []
      simp only [List.nil_append, List.getElem_drop] at this
      exact this
    rw [e] at h
    exact hK _ _ ⟨k + 1, hd, by dsimp only; rw [wr (by omega)]; omega, h.drop 0⟩ (by dsimp only; rw [wr (by omega)]; omega)
  · have hd : k = n := by have := of_decide_eq_false hd; omega
    clear hK K
    subst hd
    refine RunN.sH (3 + k) (by rw [wr (by omega)]; omega) (by omega) ?_
    have hpre := (h.old hr).pre (hi := 3 + k) (by omega)
    have ep : (bys l).take ((3 + k) * 1) = bys (l.take (3 + k)) := by simp [bys, List.map_take]
    rw [ep] at hpre
    refine (rsum_ok hpre (by rw [List.length_take]; omega)).mono ?_
    rintro x w ⟨rfl, rfl⟩
    generalize hS : sumB (l.take (3 + k)) = S
    have hSl := S.isLt
    refine LoopX.mk (fun st w' => ∃ i : Nat, i ≤ 4 ∧ st.2.1 = (i : Int) ∧ st.1 = ((S.toNat / 256 ^ i : Nat) : Int) ∧ (l.drop (3 + k)).take i = (le4 S).take i ∧ St wi w' ([.row 5 1 q (bys ((l.drop 3).take k))] :: [])) (fun st => 4 - st.2.1.toNat) ⟨0, by omega, rfl, by simp, rfl, h⟩ ?_
    clear h
    rintro ⟨_, _, ⟨⟩⟩ w ⟨i, hi, rfl, rfl, heq, h⟩ K hK
    dsimp only at h hK ⊢
    rw [SplitB_iff]
    refine ⟨fun hd => ?_, fun hd => ?_⟩
    · have hd : i < 4 := by have := of_decide_eq_true hd; omega
      have e1 : IntKind.i64.wrap (3 + (k : Int)) = ((3 + k : Nat) : Int) := by rw [wr (by omega)]; omega
      rw [e1]
      refine (h.old hr).idxK (3 + k + i) (by rw [wr (by omega)]; omega) (by omega) ?_
      intro b o hb
      refine (h.old hr).el hb ((3 + k + i) * 1) rfl (kd := .int .u8) (x := ((l[3 + k + i]'(by omega)).toNat : Int)) (by rw [Nat.mul_one]; exact bys_get (by omega)) ?_
      have hdiv : S.toNat / 256 ^ i ≤ S.toNat := Nat.div_le_self _ _
      have hi4 : i < (le4 S).length := hd
      have e1 : (le4 S)[i]'hi4 = UInt8.ofNat (S.toNat / 256 ^ i) := by
        have : i = 0 ∨ i = 1 ∨ i = 2 ∨ i = 3 := by omega
        rcases this with rfl | rfl | rfl | rfl <;> simp [le4]
      have hmod : ∀ m : Nat, Int.tmod (m : Int) 256 = (((UInt8.ofNat m).toNat : Nat) : Int) := fun m => by
        rw [Int.tmod_eq_emod_of_nonneg (by omega), UInt8.toNat_ofNat']; omega
      rw [i64_byte, hmod, ← e1, div256 _ (Nat.le_trans hdiv (by omega))]
      have hdi : i < (l.drop (3 + k)).length := by simp; omega
      rw [SplitB_iff]
      refine ⟨fun hz => ?_, fun hz => ?_⟩
      · have hne : (l.drop (3 + k))[i] ≠ (le4 S)[i] := by
          rw [List.getElem_drop]
          intro e
          rw [e] at hz
          simp at hz
        have hne2 : l.drop (3 + k) ≠ le4 S := fun e => hne (by simp only [e])
        have e : openS l = ([], 12) := by rw [openS, if_neg h7, if_neg h1, hN, if_neg hbad, hS, if_neg hne2]
        rw [e]
        exact ⟨rfl, (h.drop 0).nilrow 5 1⟩
      · have he : (l.drop (3 + k))[i] = (le4 S)[i] := by
          rw [List.getElem_drop]
          have : ((l[3 + k + i]'(by omega)).toNat : Int) = ((le4 S)[i].toNat : Int) := by simpa using hz
          exact UInt8.toNat_inj.1 (by omega)
        refine hK _ _ ⟨i + 1, by omega, by dsimp only; rw [wr (by omega)]; omega, ?_, ?_, h⟩ (by dsimp only; rw [wr (by omega)]; omega)
        · dsimp only
          rw [Nat.pow_succ, Nat.div_div_eq_div_mul]
        · rw [List.take_succ_eq_append_getElem hdi, List.take_succ_eq_append_getElem hi4, heq, he]
    · have hd : i = 4 := by have := of_decide_eq_false hd; omega
      subst hd
      rw [List.take_of_length_le (by simp; omega), List.take_of_length_le (by rw [le4_length]; omega)] at heq
      have e : openS l = ((l.drop 3).take k, 0) := by rw [openS, if_neg h7, if_neg h1, hN, if_neg hbad, hS, if_pos heq]
      rw [e]
      exact ⟨rfl, h⟩
end Go.Proofs.YtaocddmmgefeoaaDoor
