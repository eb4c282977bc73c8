/- The plain law: the cache and the document's machine answer alike. -/
import Derived.Test.YtbdhmeefjlkdcaaCkN
namespace Go.Proofs.Ytbdhmeefjlkdcaa
open Go Go.Fw Go.RowKit
set_option linter.unusedVariables false
set_option linter.unusedSimpArgs false
set_option maxRecDepth 4000
set_option maxHeartbeats 2000000

structure SRel (room : Nat) (x : Int) (a : Av) (r : Rv) : Prop where
  last : r.lasts[x.toNat]? = some a.last
  pend : a.pend = (r.opn.filter (fun y => y.1 == x)).map (·.2)
  srt : a.pend.Pairwise (· < ·)
  low : ∀ y ∈ a.pend, y ≤ a.last
  S : ∃ S : List Rp, S.Perm (r.rs.filter (fun y => y.1 == x)) ∧ (ids S).Pairwise (· < ·) ∧ a.kept = S.drop (S.length - room) ∧ (∀ s ∈ S, s.2.1 ≤ a.last ∧ s.2.1 ∉ a.pend)
def ow (me reps j : Nat) : Int := ((me + j * reps : Nat) : Int)
structure CRel (me reps sess room : Nat) (l : List Av) (r : Rv) : Prop where
  len : ∀ j, j < l.length ↔ me + j * reps < sess
  lasts : r.lasts.length = 64
  each : ∀ j (h : j < l.length), SRel room (ow me reps j) l[j] r
  own : ∀ y ∈ r.opn, ∃ j, j < l.length ∧ y.1 = ow me reps j
structure Par (me reps sess room : Nat) : Prop where
  hreps : 2 ≤ reps ∧ reps ≤ 16
  hme : me < reps
  hsess : 1 ≤ sess ∧ sess ≤ 64
  hroom : 1 ≤ room ∧ room ≤ 16
variable {me reps sess room : Nat} {l : List Av} {r : Rv}
theorem ow_inj (hr : 2 ≤ reps) {i j : Nat} (h : ow me reps i = ow me reps j) : i = j := by
  have : i * reps = j * reps := by simp only [ow] at h; omega
  exact Nat.eq_of_mul_eq_mul_right (by omega) this
theorem idx_ow (hr : 2 ≤ reps) {n j : Nat} (hj : j < n) : idxV me reps n (ow me reps j) = some j := by
  rw [idxV, List.find?_eq_some_iff_getElem]
  refine ⟨by simp [ow], j, by simpa using hj, by simp, fun i hi => ?_⟩
  simp only [List.getElem_range, Bool.not_eq_true', beq_eq_false_iff_ne, ne_eq]
  intro he
  have := ow_inj (me := me) hr he
  omega
theorem idx_some {n j : Nat} {x : Int} (h : idxV me reps n x = some j) : j < n ∧ x = ow me reps j := by
  have h1 := List.mem_of_find?_eq_some h
  have h2 := List.find?_some h
  exact ⟨List.mem_range.1 h1, by simpa [ow] using h2⟩
theorem mine_ow (hp : Par me reps sess room) {j : Nat} (h : me + j * reps < sess) : mineV me reps sess (ow me reps j) = true := by
  rw [mineV, decide_eq_true_eq]
  refine ⟨by simp [ow]; omega, by simp only [ow]; omega, ?_⟩
  rw [ow, ← Int.natCast_emod, Nat.add_mul_mod_self_right, Nat.mod_eq_of_lt hp.hme]
theorem mine_idx (hp : Par me reps sess room) (hl : ∀ j, j < l.length ↔ me + j * reps < sess) {x : Int} (h : mineV me reps sess x = true) : ∃ j, idxV me reps l.length x = some j := by
  have h := of_decide_eq_true h
  obtain ⟨n, rfl⟩ := Int.eq_ofNat_of_zero_le h.1
  have h2 : n % reps = me := by have := h.2.2; rw [← Int.natCast_emod] at this; exact Int.ofNat.inj this
  have h3 := Nat.div_add_mod n reps
  rw [h2, Nat.mul_comm] at h3
  have e : ((n : Nat) : Int) = ow me reps (n / reps) := by simp only [ow]; omega
  refine ⟨n / reps, ?_⟩
  rw [e]
  exact idx_ow hp.hreps.1 ((hl _).2 (by omega))
theorem not_mine (hp : Par me reps sess room) (hl : ∀ j, j < l.length ↔ me + j * reps < sess) {x : Int} (h : idxV me reps l.length x = none) : mineV me reps sess x = false := by
  cases hm : mineV me reps sess x with
  | false => rfl
  | true => obtain ⟨j, hj⟩ := mine_idx hp hl hm; rw [h] at hj; cases hj
theorem last_eq (hp : Par me reps sess room) (h : CRel me reps sess room l r) {j : Nat} (hj : j < l.length) : lastV me reps sess r.lasts (ow me reps j) = l[j].last := by
  rw [lastV, if_pos (mine_ow hp ((h.len j).1 hj)), (h.each j hj).last]; rfl
theorem mem_open {o : List Cl} {x id : Int} : id ∈ (o.filter (fun y => y.1 == x)).map (·.2) ↔ (x, id) ∈ o := by
  constructor
  · intro h
    obtain ⟨y, hy, rfl⟩ := List.mem_map.1 h
    have := List.mem_filter.1 hy
    have h2 : y.1 = x := by simpa using this.2
    rw [← h2]; exact this.1
  · intro h
    exact List.mem_map.2 ⟨(x, id), List.mem_filter.2 ⟨h, by simp⟩, rfl⟩
theorem find_open (o : List Cl) (x id : Int) : (o.findIdx? (fun y => y.1 == x && y.2 == id)).isSome = true ↔ (x, id) ∈ o := by
  rw [List.findIdx?_isSome, List.any_eq_true]
  constructor
  · rintro ⟨y, hy, h⟩
    simp at h
    have : y = (x, id) := Prod.ext h.1 h.2
    rw [← this]; exact hy
  · intro h; exact ⟨_, h, by simp⟩
theorem opnV_iff (o : List Cl) (x id : Int) : opnV o (x, id) ≥ 0 ↔ (x, id) ∈ o := by
  rw [← find_open, opnV]
  dsimp only
  cases o.findIdx? (fun y => y.1 == x && y.2 == id) <;> simp
/-- Who is greater than one of a sorted list: those behind it. -/
theorem count_gt {S : List Rp} (hs : (ids S).Pairwise (· < ·)) {p : Nat} (hp : p < S.length) : S.countP (fun y => decide (y.2.1 > S[p].2.1)) = S.length - 1 - p := by
  conv => lhs; arg 2; rw [← List.take_append_drop (p + 1) S]
  rw [List.countP_append]
  have h1 : (S.take (p + 1)).countP (fun y => decide (y.2.1 > S[p].2.1)) = 0 := by
    rw [List.countP_eq_zero]
    intro y hy
    obtain ⟨i, hi, rfl⟩ := List.mem_iff_getElem.1 hy
    rw [List.getElem_take]
    simp at hi
    have : ¬ S[i].2.1 > S[p].2.1 := by
      rcases Nat.lt_or_ge i p with h | h
      · have := List.pairwise_iff_getElem.1 hs i p (by simp [ids]; omega) (by simp [ids]; omega) h
        simp [ids] at this; omega
      · have : i = p := by omega
        subst this; omega
    simpa using this
  have h2 : (S.drop (p + 1)).countP (fun y => decide (y.2.1 > S[p].2.1)) = (S.drop (p + 1)).length := by
    rw [List.countP_eq_length]
    intro y hy
    obtain ⟨i, hi, rfl⟩ := List.mem_iff_getElem.1 hy
    rw [List.getElem_drop]
    simp at hi
    have := List.pairwise_iff_getElem.1 hs p (p + 1 + i) (by simp [ids]; omega) (by simp [ids]; omega) (by omega)
    simp [ids] at this
    simpa using this
  rw [h1, h2, List.length_drop]; omega
theorem filter_is {S : List Rp} (hs : (ids S).Pairwise (· < ·)) {p : Nat} (hp : p < S.length) : S.filter (fun y => y.2.1 == S[p].2.1) = [S[p]] := by
  have hsplit : S = S.take p ++ S[p] :: S.drop (p + 1) := by rw [← List.drop_eq_getElem_cons hp, List.take_append_drop]
  conv => lhs; arg 2; rw [hsplit]
  have ne : ∀ i (hi : i < S.length), i ≠ p → (S[i].2.1 == S[p].2.1) = false := by
    intro i hi hne
    simp only [beq_eq_false_iff_ne, ne_eq]
    intro he
    rcases Nat.lt_or_ge i p with h | h
    · have := List.pairwise_iff_getElem.1 hs i p (by simp [ids]; omega) (by simp [ids]; omega) h
      simp [ids] at this; omega
    · have := List.pairwise_iff_getElem.1 hs p i (by simp [ids]; omega) (by simp [ids]; omega) (by omega)
      simp [ids] at this; omega
  rw [List.filter_append, List.filter_cons, if_pos (by simp)]
  have h1 : (S.take p).filter (fun y => y.2.1 == S[p].2.1) = [] := by
    rw [List.filter_eq_nil_iff]
    intro y hy
    obtain ⟨i, hi, rfl⟩ := List.mem_iff_getElem.1 hy
    rw [List.getElem_take]
    simp at hi
    rw [ne i (by omega) (by omega)]; decide
  have h2 : (S.drop (p + 1)).filter (fun y => y.2.1 == S[p].2.1) = [] := by
    rw [List.filter_eq_nil_iff]
    intro y hy
    obtain ⟨i, hi, rfl⟩ := List.mem_iff_getElem.1 hy
    rw [List.getElem_drop]
    simp at hi
    rw [ne (p + 1 + i) (by omega) (by omega)]; decide
  rw [h1, h2]; rfl
theorem isC_split (rs : List Rp) (x id : Int) : rs.filter (isC (x, id)) = (rs.filter (fun y => y.1 == x)).filter (fun y => y.2.1 == id) := by
  rw [List.filter_filter]
  congr 1
  funext y
  simp [isC, Bool.and_comm]
theorem gtC_split (rs : List Rp) (x id : Int) : rs.countP (gtC (x, id)) = (rs.filter (fun y => y.1 == x)).countP (fun y => decide (y.2.1 > id)) := by
  rw [List.countP_filter]
  congr 1
  funext y
  simp [gtC, Bool.and_comm]
/-- What is kept, found in either way. -/
theorem kept_eq (hroom : 1 ≤ room) {S rs : List Rp} {x id : Int} (hS : S.Perm (rs.filter (fun y => y.1 == x))) (hs : (ids S).Pairwise (· < ·)) :
    (match (S.drop (S.length - room)).find? (fun r => r.2.1 == id) with | some r => ((r, true, 0) : Rp × Bool × Int) | none => (zrp, false, 130)) = if (keptV room rs (x, id)).2 = true then ((keptV room rs (x, id)).1, true, 0) else (zrp, false, 130) := by
  have hd : (ids (S.drop (S.length - room))).Pairwise (· < ·) := by
    have e : ids (S.drop (S.length - room)) = (ids S).drop (S.length - room) := by simp [ids, List.map_drop]
    rw [e]; exact hs.sublist (List.drop_sublist _ _)
  by_cases hm : id ∈ ids S
  · obtain ⟨s, hsm, hid⟩ := List.mem_map.1 hm
    obtain ⟨p, hp, rfl⟩ := List.mem_iff_getElem.1 hsm
    try dsimp only at hid
    have h1 : lastC rs (x, id) = some S[p] := by
      have h2 := hS.filter (fun y => y.2.1 == id)
      have h3 := filter_is hs hp
      rw [hid] at h3
      rw [h3] at h2
      rw [lastC, isC_split, ← List.singleton_perm.1 h2]; rfl
    have h4 : rs.countP (gtC (x, id)) = S.length - 1 - p := by
      rw [gtC_split, ← hS.countP_eq, ← hid]; exact count_gt hs hp
    by_cases hd2 : p < S.length - room
    · have h5 : keptV room rs (x, id) = (zrp, false) := by rw [keptV, h1]; dsimp only; rw [if_pos (by rw [h4]; omega)]
      have h6 : (S.drop (S.length - room)).find? (fun r => r.2.1 == id) = none := by
        refine find_no fun hin => ?_
        obtain ⟨s, hs2, he⟩ := List.mem_map.1 hin
        obtain ⟨i, hi, rfl⟩ := List.mem_iff_getElem.1 hs2
        rw [List.getElem_drop] at he
        simp at hi
        have := List.pairwise_iff_getElem.1 hs p (S.length - room + i) (by simp [ids]; omega) (by simp [ids]; omega) (by omega)
        simp [ids] at this
        try dsimp only at he
        omega
      rw [h5, h6]; rfl
    · have h5 : keptV room rs (x, id) = (S[p], true) := by rw [keptV, h1]; dsimp only; rw [if_neg (by rw [h4]; omega)]
      have h6 : (S.drop (S.length - room)).find? (fun r => r.2.1 == id) = some S[p] := by
        have hlt : p - (S.length - room) < (ids (S.drop (S.length - room))).length := by simp [ids]; omega
        have := find_id hd (x := id) hlt (by simp only [ids, List.getElem_map, List.getElem_drop]; rw [← hid]; congr 3; omega)
        rw [this, List.getElem_drop]
        congr 2; omega
      rw [h5, h6]; rfl
  · have h1 : lastC rs (x, id) = none := by
      have h2 : rs.filter (isC (x, id)) = [] := by
        rw [isC_split, List.filter_eq_nil_iff]
        intro y hy
        have : y ∈ S := hS.mem_iff.2 hy
        simp only [beq_iff_eq]
        intro he
        exact hm (List.mem_map.2 ⟨y, this, he⟩)
      rw [lastC, h2]; rfl
    have h5 : keptV room rs (x, id) = (zrp, false) := by rw [keptV, h1]
    have h6 : (S.drop (S.length - room)).find? (fun r => r.2.1 == id) = none := by
      refine find_no fun hin => hm ?_
      obtain ⟨s, hs2, he⟩ := List.mem_map.1 hin
      exact List.mem_map.2 ⟨s, List.mem_of_mem_drop hs2, he⟩
    rw [h5, h6]; rfl
end Go.Proofs.Ytbdhmeefjlkdcaa
