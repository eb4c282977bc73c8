/- The document's own answer: the records of an image, the sectors of a record. -/
import Derived.Test.YtimebochhbfkgaaJkQ
namespace Go.Proofs.Ytimebochhbfkgaa
open Go Go.Fw Go.RowKit
set_option linter.unusedVariables false
set_option linter.unusedSimpArgs false
set_option maxRecDepth 4000
set_option maxHeartbeats 2000000
variable {w0 w : World} {F G : Grps} {d : D} {j : J}

theorem readr_st (h : St w0 w G) {ims : List (List UInt8)} (h5 : ∀ x ∈ ims, x.length = 512) (hsm : ims.length ≤ 65536) {p : Sl} (hp : SeesG w0 G p 1 (bys ims.flatten)) :
    CallK Try.prog (.tup (.cons .sl (.cons (.int .i64) .nilT))) 51 #[.slice p.a p.len p.cap] w fun (r : Sl × Int × Unit) w' =>
      ∃ (H : List Bs) (n : Nat), r.2.1 = (n : Int) ∧ r.1.len = H.length ∧ Opened ims (H.map (·.2)) n ∧ St w0 w' ([.row 31 1 r.1 (lsl H)] :: H.map (brw 5) :: G) := by
  refine T51.calls ?_
  unfold T51
  have h : St w0 w ([.row 31 1 ⟨none, 0, 0⟩ (lsl [])] :: ([] : List Bs).map (brw 5) :: G) := (St.empty.2 h).nilrow 31 1
  refine LoopX.mk (fun st w' => ∃ (H : List Bs) (n : Nat), st.2.1 = (n : Int) ∧ st.1.len = H.length ∧ Scan ims (H.map (·.2)) n ∧ St w0 w' ([.row 31 1 st.1 (lsl H)] :: H.map (brw 5) :: G)) (fun st => ims.length - st.2.1.toNat) ⟨[], 0, rfl, rfl, .nil, h⟩ ?_
  clear h
  rintro ⟨l, _, ⟨⟩⟩ w ⟨H, n, rfl, hl, hs, h⟩ K hK
  dsimp only at h hK hl ⊢
  obtain ⟨hn1, hn2, hn3⟩ := hs.le h5
  rw [List.length_map] at hn2
  have hli : (l.len : Int) = (H.length : Int) := by rw [hl]
  rw [hli, wr (x := (H.length : Int) + 1) (by omega)]
  have e1 : ((H.length : Nat) : Int) + 1 = ((H.length + 1 : Nat) : Int) := by omega
  rw [e1]
  refine (stands_st h h5 hsm (p := p) (fun w h => hp _ (h.ord 2 [])) n (H.length + 1) hn1 (by omega)).mono ?_
  rintro ⟨r, rb, ⟨⟩⟩ w (⟨b, hr, hrb, hrl, h⟩ | ⟨hr, hrb, h⟩)
  · dsimp only at hrb hrl h ⊢
    subst hrb
    rw [SplitB_iff]
    refine ⟨(fun hz => by cases hz), fun _ => ?_⟩
    obtain ⟨hb1, hb2⟩ := recAt_len (fun s hs => h5 s (List.mem_of_mem_drop hs)) hr
    rw [List.length_drop] at hb2
    have hcp := cnt_pos b.length
    refine h.newS 1 (bs22 _ _ _ _) rfl rfl rfl ?_
    intro u w hul huc _ h
    refine h.app 2 0 ⟨_, rfl, rfl⟩ (h.rd (k := 0) (i := 0) ⟨_, rfl, rfl⟩) one_slice (by simp only [maxLen]; omega) (by omega) ?_
    intro q w hq h
    dsimp only [updG, setO] at h
    rw [← lsl_snoc H (r, b)] at h
    have hri : (r.len : Int) = (b.length : Int) := by rw [hrl]
    rw [hri]
    refine (count_ok (n := b.length) (by omega)).mono ?_
    rintro t w' ⟨hw, rfl⟩
    rw [hw, wr (by omega)]
    have h := h.ord 4 [1, 3, 2]
    dsimp only [pick, nthO, dropO] at h
    have h := h.into
    have h := h.ord 2 [1, 0]
    dsimp only [pick, nthO, dropO] at h
    refine hK _ _ ⟨H ++ [(r, b)], n + cnt b.length, by dsimp only; omega, by dsimp only; rw [hq, hul, hl]; simp, ?_, by rw [List.map_append]; exact h⟩ (by dsimp only; omega)
    rw [List.map_append]
    exact .snoc hs (by rw [List.length_map]; exact hr)
  · dsimp only at hrb h ⊢
    subst hrb
    rw [SplitB_iff]
    refine ⟨fun _ => ?_, fun hz => by cases hz⟩
    exact ⟨H, n, rfl, hl, ⟨hs, by rw [List.length_map]; exact hr⟩, h⟩

theorem chunk_at (b : List UInt8) (p : Nat) {i : Nat} (hi : i < 496) : (chunk b p)[i]? = some (b.getD (p * 496 + i) 0) := by
  unfold chunk
  have hl : ((b.drop (p * 496)).take 496).length = min 496 (b.length - p * 496) := by simp
  by_cases h : p * 496 + i < b.length
  · rw [List.getElem?_append_left (by omega), List.getElem?_take, if_pos hi, List.getElem?_drop, List.getD_eq_getElem?_getD, List.getElem?_eq_getElem h]; rfl
  · rw [List.getElem?_append_right (by omega), List.getD_eq_getElem?_getD, List.getElem?_eq_none (by omega : b.length ≤ p * 496 + i), List.getElem?_replicate, if_pos (by omega)]
    rfl
theorem sectors_st' (h : St w0 w G) {a : Nat} {b : List UInt8} (hb : b.length ≤ 8192) {p : Sl} (hp : SeesG w0 G p 1 (bys b)) :
    CallK Try.prog .sl 57 #[.int .i64 (a : Int), .slice p.a p.len p.cap] w fun (r : Sl) w' =>
      ∃ S : List Bs, S.map (·.2) = secs a b ∧ r.len = S.length ∧ St w0 w' ([.row 31 1 r (lsl S)] :: S.map (brw 5) :: G) := by
  have hpl := (hp _ h).bys_len
  have hpi : (p.len : Int) = (b.length : Int) := by rw [hpl]
  have hc17 := cnt_le hb
  refine T57.calls ?_
  unfold T57
  have h : St w0 w ([.row 31 1 ⟨none, 0, 0⟩ (lsl [])] :: ([] : List Bs).map (brw 5) :: G) := (St.empty.2 h).nilrow 31 1
  refine LoopX.mk (fun st w' => ∃ (k : Nat) (S : List Bs), st.2.1 = (k : Int) ∧ k ≤ cnt b.length ∧ st.1.len = k ∧ S.map (·.2) = (secs a b).take k ∧ St w0 w' ([.row 31 1 st.1 (lsl S)] :: S.map (brw 5) :: G)) (fun st => cnt b.length - st.2.1.toNat) ⟨0, [], rfl, Nat.zero_le _, rfl, rfl, h⟩ ?_
  clear h
  rintro ⟨l, _, ⟨⟩⟩ w ⟨k, S, rfl, hk, hl, hS, h⟩ K hK
  dsimp only at h hK hl ⊢
  rw [hpi]
  refine (count_ok (n := b.length) (by omega)).mono ?_
  rintro t w' ⟨hw, rfl⟩
  rw [hw, SplitB_iff]
  refine ⟨fun hz => ?_, fun hz => ?_⟩
  · have hz : k < cnt b.length := by have := of_decide_eq_true hz; omega
    have hkl := cnt_lt hz
    refine (rmark_st h a k (n := b.length) (by omega)).mono ?_
    rintro m w ⟨hm, h⟩
    refine LoopX.mk (fun st w' => ∃ i : Nat, st.2.1 = (i : Int) ∧ i ≤ 496 ∧ st.1.len = 8 + i ∧ St w0 w' ([.row 5 1 st.1 (bys (mk a k b.length ++ (chunk b k).take i))] :: [.row 31 1 l (lsl S)] :: S.map (brw 5) :: G)) (fun st => 496 - st.2.1.toNat) ⟨0, rfl, by decide, hm, by simpa using h⟩ ?_
    clear h
    rintro ⟨s, _, ⟨⟩⟩ w ⟨i, rfl, hi, hsl, h⟩ K2 hK2
    dsimp only at h hK2 hsl ⊢
    rw [SplitB_iff]
    refine ⟨fun hy => ?_, fun hy => ?_⟩
    · have hy : i < 496 := by have := of_decide_eq_true hy; omega
      rw [wr (x := (k : Int) * 496) (by omega), wr (x := (k : Int) * 496 + i) (by omega)]
      refine JoinX.mk (fun jv w' => jv.1 = ((b.getD (k * 496 + i) 0).toNat : Int) ∧ w' = w) ?_ ?_
      · rintro ⟨v, ⟨⟩⟩ w' ⟨hj, hw⟩
        dsimp only at hj ⊢
        rw [hw, hj]
        refine h.newS 1 (bsB31 _ _) rfl rfl rfl ?_
        intro u w hul huc _ h
        refine h.app 1 0 ⟨_, rfl, rfl⟩ (h.rd (k := 0) (i := 0) ⟨_, rfl, rfl⟩) one_int (by simp only [maxLen]; omega) (by omega) ?_
        intro s' w hs' h
        dsimp only [updG, setO] at h
        have h := h.drop 0
        dsimp only [delO] at h
        have e : bys (mk a k b.length ++ (chunk b k).take i) ++ [Value.int .u8 ((b.getD (k * 496 + i) 0).toNat : Int)] = bys (mk a k b.length ++ (chunk b k).take (i + 1)) := by
          have e1 : [Value.int .u8 ((b.getD (k * 496 + i) 0).toNat : Int)] = bys [b.getD (k * 496 + i) 0] := rfl
          have e2 : (chunk b k).take (i + 1) = (chunk b k).take i ++ [b.getD (k * 496 + i) 0] := by
            rw [List.take_add_one, chunk_at b k hy]; rfl
          rw [e1, ← bys_append, e2, List.append_assoc]
        rw [e] at h
        exact hK2 _ _ ⟨i + 1, by dsimp only; rw [wr (by omega)]; omega, hy, by dsimp only; omega, h⟩ (by dsimp only; rw [wr (by omega)]; omega)
      · intro k5 hk5
        rw [SplitB_iff]
        refine ⟨fun hx => ?_, fun hx => ?_⟩
        · have hx : k * 496 + i < b.length := by have := of_decide_eq_true hx; omega
          have hpr := hp _ (h.ord 3 [])
          refine hpr.idxK (k * 496 + i) (by omega) (by omega) ?_
          intro b1 o1 hb1
          refine hpr.el hb1 ((k * 496 + i) * 1) rfl (kd := .int .u8) (x := ((b.getD (k * 496 + i) 0).toNat : Int)) ?_ ?_
          · rw [Nat.mul_one, bys_get hx]; simp [List.getD_eq_getElem?_getD, List.getElem?_eq_getElem hx, Kd.val, u8v]
          exact hk5 _ _ ⟨rfl, rfl⟩
        · have hx : b.length ≤ k * 496 + i := by have := of_decide_eq_false hx; omega
          refine hk5 _ _ ⟨?_, rfl⟩
          simp [List.getD_eq_getElem?_getD, List.getElem?_eq_none hx]
    · have hy : i = 496 := by have := of_decide_eq_false hy; omega
      subst hy
      rw [List.take_of_length_le (by rw [chunk_len]; omega)] at h
      refine (rmark_st h a k (n := b.length) (by omega)).mono ?_
      rintro m2 w ⟨hm2, h⟩
      refine h.app 1 0 ⟨_, rfl, rfl⟩ (h.rd (k := 0) (i := 0) ⟨_, rfl, rfl⟩) (bys_one _) (by simp only [maxLen]; omega) (by omega) ?_
      intro s2 w hs2 h
      dsimp only [updG, setO] at h
      have h := h.drop 0
      dsimp only [delO] at h
      rw [← bys_append] at h
      refine h.newS 1 (bs22 _ _ _ _) rfl rfl rfl ?_
      intro u w hul huc _ h
      refine h.app 2 0 ⟨_, rfl, rfl⟩ (h.rd (k := 0) (i := 0) ⟨_, rfl, rfl⟩) one_slice (by simp only [maxLen]; omega) (by omega) ?_
      intro l' w hl' h
      dsimp only [updG, setO] at h
      rw [← lsl_snoc S (s2, mk a k b.length ++ chunk b k ++ mk a k b.length)] at h
      have h := h.ord 4 [1, 3, 2]
      dsimp only [pick, nthO, dropO] at h
      have h := h.into
      have h := h.ord 2 [1, 0]
      dsimp only [pick, nthO, dropO] at h
      refine hK _ _ ⟨k + 1, S ++ [(s2, mk a k b.length ++ chunk b k ++ mk a k b.length)], by dsimp only; rw [wr (by omega)]; omega, hz, by dsimp only; omega, ?_, by rw [List.map_append]; exact h⟩ (by dsimp only; rw [wr (by omega)]; omega)
      rw [List.map_append, hS, List.take_succ_eq_append_getElem (by rw [secs_len]; exact hz)]
      simp [secs, sec]
  · have hz : k = cnt b.length := by have := of_decide_eq_false hz; omega
    rw [List.take_of_length_le (by rw [secs_len]; omega)] at hS
    have hSl : S.length = k := by have := congrArg List.length hS; rw [secs_len, List.length_map] at this; omega
    exact ⟨S, hS, by omega, h⟩
end Go.Proofs.Ytimebochhbfkgaa
