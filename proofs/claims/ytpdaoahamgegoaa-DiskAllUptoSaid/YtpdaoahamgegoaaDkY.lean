/- What is lent, lent again, and kept. -/
import Derived.Test.YtpdaoahamgegoaaDkX
namespace Go.Proofs.Ytpdaoahamgegoaa
open Go Go.Fw Go.RowKit
set_option linter.unusedVariables false
set_option linter.unusedSimpArgs false
set_option maxRecDepth 4000
set_option maxHeartbeats 2000000
variable {w0 w : World} {F G : Grps}

def mk (i : Nat) : UInt8 := by8 (167 + (i : Int))
def mks : List UInt8 := (List.range 40).map mk
theorem mks_len : mks.length = 40 := by simp [mks]
theorem mks_take (k : Nat) (hk : k < 40) : mks.take (k + 1) = mks.take k ++ [mk k] := by
  rw [List.take_succ_eq_append_getElem (by rw [mks_len]; exact hk)]
  congr 1; simp [mks]
theorem lend_st (h : St w0 w F) {p : Sl} {l : List UInt8} (hp : SeesG w0 F p 1 (bys l)) (hl : l.length ≤ 134217728) :
    CallK Try.prog .sl 40 #[.slice p.a p.len p.cap] w fun (r : Sl) w' => r.len = l.length + 40 ∧ St w0 w' ([.row 5 1 r (bys (l ++ mks))] :: F) := by
  refine T40.calls ?_
  unfold T40
  have hpr := hp _ h
  have hpl := hpr.bys_len
  refine h.appNil hpr (bys_one _) (by simp only [maxLen]; omega) (by omega) ?_
  intro c w hcl h
  refine LoopX.mk (fun st w' => ∃ k : Nat, k ≤ 40 ∧ st.2.1 = (k : Int) ∧ st.1.len = l.length + k ∧ St w0 w' ([.row 5 1 st.1 (bys (l ++ mks.take k))] :: F)) (fun st => 40 - st.2.1.toNat) ⟨0, by omega, rfl, by dsimp only; omega, by simpa using h⟩ ?_
  clear h
  rintro ⟨d, _, ⟨⟩⟩ w ⟨k, hk, rfl, hd, h⟩ K hK
  dsimp only at h hK hd ⊢
  rw [SplitB_iff]
  refine ⟨fun hc => ?_, fun hc => ?_⟩
  · have hc : k < 40 := by have := of_decide_eq_true hc; omega
    refine h.newS 1 (bs30 _ _) rfl rfl rfl ?_
    intro u w hul hcp _ h
    refine h.app 1 0 ⟨_, rfl, rfl⟩ (h.rd (k := 0) (i := 0) ⟨_, rfl, rfl⟩) one_int (by simp only [maxLen]; omega) (by omega) ?_
    intro d' w hl' h
    dsimp only [updG, setO] at h
    have h := h.drop 0
    dsimp only [delO] at h
    have e1 : IntKind.i64.wrap (167 + (k : Int)) = 167 + (k : Int) := wr (by omega)
    rw [e1, by8_v] at h
    have e : bys (l ++ mks.take k) ++ [u8v (by8 (167 + (k : Int)))] = bys (l ++ mks.take (k + 1)) := by
      rw [mks_take k hc, ← List.append_assoc, bys_append (l ++ mks.take k)]; rfl
    rw [e] at h
    exact hK _ _ ⟨k + 1, by omega, by dsimp only; rw [wr (by omega)]; omega, by dsimp only; omega, h⟩ (by dsimp only; rw [wr (by omega)]; omega)
  · have hc : k = 40 := by have := of_decide_eq_false hc; omega
    rw [List.take_of_length_le (by rw [mks_len]; omega)] at h
    exact ⟨by omega, h⟩
theorem again_st {c p : Sl} {lb l : List UInt8} (h : St w0 w ([.row 5 1 c (bys lb)] :: F)) (hp : SeesG w0 F p 1 (bys l)) (hl : l.length ≤ 134217728) :
    CallK Try.prog .sl 47 #[.slice c.a c.len c.cap, .slice p.a p.len p.cap] w fun (r : Sl) w' => r.len = l.length + 40 ∧ St w0 w' ([.row 5 1 r (bys (l ++ mks))] :: F) := by
  refine T47.calls ?_
  unfold T47
  have hpr := hp _ (h.drop 0)
  have hpl := hpr.bys_len
  have hcl := (h.rd (k := 0) (i := 0) ⟨_, rfl, rfl⟩).bys_len
  rw [wr (x := (p.len : Int) + 40) (by omega)]
  rw [SplitB_iff]
  refine ⟨fun hc => ?_, fun hc => ?_⟩
  · exact lend_st (h.drop 0) hp hl
  · have hc : c.len = l.length + 40 := by
      have : (c.len : Int) = (p.len : Int) + 40 := by simpa using hc
      omega
    refine h.copy 0 0 ⟨_, rfl, rfl⟩ (dl := c.len) 0 (fun b o hb _ => by rw [hb]; simp) (by omega) hpr (bys_one _) ?_
    intro w h
    have hmin : Nat.min p.len c.len = l.length := (Nat.min_eq_left (by omega)).trans hpl
    rw [hmin] at h
    have e : (bys lb).take (0 * 1) ++ (bys l).take (l.length * 1) ++ (bys lb).drop ((0 + l.length) * 1) = bys (l ++ lb.drop l.length) := by
      rw [Nat.zero_mul, List.take_zero, List.nil_append, Nat.mul_one, List.take_of_length_le (by simp), Nat.zero_add, Nat.mul_one, bys_append]
      simp [bys, List.map_drop]
    rw [e] at h
    dsimp only [updG, setO] at h
    refine LoopX.mk (fun st w' => ∃ (i : Nat) (l1 : List UInt8), i ≤ 40 ∧ st.1 = (i : Int) ∧ l1.length = l.length + 40 ∧ l1.take l.length = l ∧ (∀ j, j < i → l1[l.length + j]? = some (mk j)) ∧ St w0 w' ([.row 5 1 c (bys l1)] :: F)) (fun st => 40 - st.1.toNat)
      ⟨0, l ++ lb.drop l.length, by omega, rfl, by simp; omega, by simp, fun j hj => by omega, h⟩ ?_
    clear h
    rintro ⟨_, ⟨⟩⟩ w ⟨i, l1, hi, rfl, hl1, htk, hm, h⟩ K hK
    dsimp only at h hK ⊢
    rw [SplitB_iff]
    refine ⟨fun hd => ?_, fun hd => ?_⟩
    · have hd : i < 40 := by have := of_decide_eq_true hd; omega
      refine (h.rd (k := 0) (i := 0) ⟨_, rfl, rfl⟩).idxK (l.length + i) (by rw [wr (by omega)]; omega) (by omega) ?_
      intro b o hb
      have e1 : IntKind.i64.wrap (167 + (i : Int)) = 167 + (i : Int) := wr (by omega)
      rw [e1, by8_v]
      refine h.storR 0 0 ⟨_, rfl, rfl⟩ hb (l.length + i) (by rw [Nat.mul_one]) (by rw [bys_length]; omega) rfl ?_
      intro w h
      rw [Go.Fw.bys_set] at h
      refine hK _ _ ⟨i + 1, l1.set (l.length + i) (mk i), by omega, by dsimp only; rw [wr (by omega)]; omega, by simp; omega, ?_, ?_, h⟩ (by dsimp only; rw [wr (by omega)]; omega)
      · rw [List.take_set_of_le (by omega)]; exact htk
      · intro j hj
        rw [List.getElem?_set]
        by_cases hji : l.length + i = l.length + j
        · have : i = j := by omega
          subst this
          rw [if_pos rfl, if_pos (by omega)]
        · rw [if_neg hji]; exact hm j (by omega)
    · have hd : i = 40 := by have := of_decide_eq_false hd; omega
      subst hd
      have hfin : l1 = l ++ mks := by
        refine List.ext_getElem? fun k => ?_
        rcases Nat.lt_or_ge k l.length with hk | hk
        · rw [List.getElem?_append_left hk]
          conv => rhs; rw [← htk]
          rw [List.getElem?_take, if_pos hk]
        · rw [List.getElem?_append_right hk]
          rcases Nat.lt_or_ge k (l.length + 40) with hk2 | hk2
          · have := hm (k - l.length) (by omega)
            rw [show l.length + (k - l.length) = k by omega] at this
            rw [this]
            simp [mks, show k - l.length < 40 by omega]
          · rw [List.getElem?_eq_none (by omega), List.getElem?_eq_none (by rw [mks_len]; omega)]
      rw [hfin] at h
      exact ⟨hc, h⟩
theorem kept_st {c p : Sl} {l : List UInt8} (h : St w0 w ([.row 5 1 c (bys (l ++ mks))] :: F)) (hp : Rd w p 1 (bys l)) (hl : l.length ≤ 134217728) :
    CallK Try.prog .bool 42 #[.slice c.a c.len c.cap, .slice p.a p.len p.cap] w fun (r : Bool) w' => r = true ∧ ∃ l' : List UInt8, l'.length = l.length + 40 ∧ St w0 w' ([.row 5 1 c (bys l')] :: F) := by
  refine T42.calls ?_
  unfold T42
  have hpl := hp.bys_len
  have hcl := (h.rd (k := 0) (i := 0) ⟨_, rfl, rfl⟩).bys_len
  have hmk := mks_len
  rw [List.length_append, hmk] at hcl
  have hcap := (h.rd (k := 0) (i := 0) ⟨_, rfl, rfl⟩).2.2
  refine JoinX.mk (fun j w' => j.1 = true ∧ St w0 w' ([.row 5 1 c (bys (l ++ mks))] :: F)) ?_ ?_
  rotate_left
  · intro k1 hk1
    rw [SplitB_iff]
    refine ⟨fun hc => ?_, fun hc => ?_⟩
    · refine RunN.sH l.length (by omega) (by omega) ?_
      have hpre := (h.rd (k := 0) (i := 0) ⟨_, rfl, rfl⟩).pre (hi := l.length) (by omega)
      have e : (bys (l ++ mks)).take (l.length * 1) = bys l := by rw [bys_append, Nat.mul_one, List.take_append_of_le_length (by simp), List.take_of_length_le (by simp)]
      rw [e] at hpre
      refine (same_ok hpre hp).mono ?_
      rintro r w' ⟨hw', rfl⟩
      subst hw'
      exact hk1 _ _ ⟨by simp, h⟩
    · rw [wr (by omega)] at hc
      simp at hc; omega
  rintro ⟨_, ⟨⟩⟩ w ⟨hj, h⟩
  dsimp only at hj h ⊢
  subst hj
  refine LoopX.mk (fun st w' => ∃ i : Nat, l.length ≤ i ∧ i ≤ l.length + 40 ∧ st.2.1 = (i : Int) ∧ st.1 = true ∧ St w0 w' ([.row 5 1 c (bys (l ++ mks))] :: F)) (fun st => l.length + 40 - st.2.1.toNat) ⟨l.length, Nat.le_refl _, by omega, by dsimp only; omega, rfl, h⟩ ?_
  clear h hp
  rintro ⟨_, _, ⟨⟩⟩ w ⟨i, hi1, hi2, rfl, rfl, h⟩ K hK
  dsimp only at h hK ⊢
  rw [SplitB_iff]
  refine ⟨fun hc => ?_, fun hc => ?_⟩
  · have hc : i < l.length + 40 := by have := of_decide_eq_true hc; omega
    refine JoinX.mk (fun j w' => j.1 = true ∧ St w0 w' ([.row 5 1 c (bys (l ++ mks))] :: F)) ?_ ?_
    · rintro ⟨_, ⟨⟩⟩ w ⟨hj, h⟩
      dsimp only at hj h ⊢
      exact hK _ _ ⟨i + 1, by omega, by omega, by dsimp only; rw [wr (by omega)]; omega, hj, h⟩ (by dsimp only; rw [wr (by omega)]; omega)
    · intro k5 hk5
      rw [SplitB_iff]
      refine ⟨fun hz => ?_, fun hz => ?_⟩
      · refine (h.rd (k := 0) (i := 0) ⟨_, rfl, rfl⟩).idxK i rfl (by omega) ?_
        intro b o hb
        have hg : (bys (l ++ mks))[i]? = some (u8v (mk (i - l.length))) := by
          rw [bys_append, List.getElem?_append_right (by simp; omega), bys_length, bys_get (by rw [hmk]; omega)]
          simp [mks]
        refine (h.rd (k := 0) (i := 0) ⟨_, rfl, rfl⟩).el hb (i * 1) rfl (kd := .int .u8) (x := ((mk (i - l.length)).toNat : Int)) (by rw [Nat.mul_one]; exact hg) ?_
        refine hk5 _ _ ⟨?_, h⟩
        have e1 : IntKind.i64.wrap (IntKind.i64.wrap (167 + (i : Int)) - (p.len : Int)) = 167 + ((i - l.length : Nat) : Int) := by
          rw [wr (x := 167 + (i : Int)) (by omega), wr (by omega)]; omega
        rw [e1, mk, by8_n]; simp
      · cases hz
  · have hc : i = l.length + 40 := by have := of_decide_eq_false hc; omega
    clear hK K
    refine LoopX.mk (fun st w' => ∃ (i : Nat) (l1 : List UInt8), i ≤ l1.length ∧ l1.length = l.length + 40 ∧ st.1 = (i : Int) ∧ St w0 w' ([.row 5 1 c (bys l1)] :: F)) (fun st => l.length + 40 - st.1.toNat) ⟨0, l ++ mks, Nat.zero_le _, by rw [List.length_append, hmk], rfl, h⟩ ?_
    clear h
    rintro ⟨_, ⟨⟩⟩ w ⟨i, l1, hi, hl1, rfl, h⟩ K hK
    dsimp only at h hK ⊢
    rw [SplitB_iff]
    refine ⟨fun hc => ?_, fun hc => ?_⟩
    · have hc : i < l1.length := by have := of_decide_eq_true hc; omega
      refine (h.rd (k := 0) (i := 0) ⟨_, rfl, rfl⟩).idxK i rfl (by omega) ?_
      intro b o hb
      rw [by8_v]
      refine h.storR 0 0 ⟨_, rfl, rfl⟩ hb i (by rw [Nat.mul_one]) (by simpa using hc) rfl ?_
      intro w h
      rw [Go.Fw.bys_set] at h
      exact hK _ _ ⟨i + 1, l1.set i (by8 (IntKind.i64.wrap (60 + (i : Int)))), by simp; omega, by simp; omega, by dsimp only; rw [wr (by omega)]; omega, h⟩ (by dsimp only; rw [wr (by omega)]; omega)
    · exact ⟨rfl, l1, hl1, h⟩
end Go.Proofs.Ytpdaoahamgegoaa
