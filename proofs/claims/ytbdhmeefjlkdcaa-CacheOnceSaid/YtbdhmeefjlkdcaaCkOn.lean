/- A request is new once: the plain law. -/
import Derived.Test.YtbdhmeefjlkdcaaCkRow
namespace Go.Proofs.Ytbdhmeefjlkdcaa
open Go Go.Fw Go.RowKit
set_option linter.unusedVariables false
set_option linter.unusedSimpArgs false
set_option maxRecDepth 4000
set_option maxHeartbeats 1000000

structure Pst where
  x : Int
  id : Int
  st : Int
  r : Rp
def Pst.key (p : Pst) : Cl := (p.x, p.id)
def f1 (l : List Pst) : List Cl := (l.filter (fun p => p.st == 1)).map Pst.key
def f2 (l : List Pst) : List Rp := (l.filter (fun p => p.st == 2)).map Pst.r
structure RecI (me reps sess : Nat) (l : List Pst) (r : Rv) : Prop where
  keys : (l.map Pst.key).Nodup
  st : ∀ p ∈ l, p.st = 1 ∨ p.st = 2 ∧ p.r.1 = p.x ∧ p.r.2.1 = p.id
  opn : (f1 l).Perm r.opn
  rs : (f2 l).Perm r.rs
  has : ∀ x id, mineV me reps sess x = true → ((∃ p ∈ l, p.key = (x, id)) ↔ 1 ≤ id ∧ id ≤ lastV me reps sess r.lasts x)
  own : ∀ p ∈ l, mineV me reps sess p.x = true
  low : ∀ x, 0 ≤ lastV me reps sess r.lasts x ∧ lastV me reps sess r.lasts x ≤ 1099511627776
  len : r.lasts.length = 64
variable {me reps sess room : Nat} {l : List Pst} {r : Rv}
theorem lastV_set (hs : sess ≤ 64) {ls : List Int} (hl : ls.length = 64) {x : Int} (hm : mineV me reps sess x = true) (v y : Int) : lastV me reps sess (ls.set x.toNat v) y = if y = x then v else lastV me reps sess ls y := by
  have h1 := of_decide_eq_true hm
  by_cases hy : y = x
  · subst hy
    rw [if_pos rfl, lastV, if_pos hm, List.getElem?_set_self (by omega)]; rfl
  · rw [if_neg hy, lastV, lastV]
    by_cases hm2 : mineV me reps sess y = true
    · have h2 := of_decide_eq_true hm2
      rw [if_pos hm2, if_pos hm2, List.getElem?_set_ne (by omega)]
    · rw [if_neg hm2, if_neg hm2]
theorem filter_key : ∀ {l : List Pst}, (l.map Pst.key).Nodup → ∀ p ∈ l, l.filter (fun q => q.key == p.key) = [p]
  | [], _, p, h => by cases h
  | q :: l, hn, p, hp => by
    rw [List.map_cons, List.nodup_cons] at hn
    rcases List.mem_cons.1 hp with rfl | hp
    · rw [List.filter_cons, if_pos (by simp)]
      congr 1
      rw [List.filter_eq_nil_iff]
      intro a ha he
      have he : a.key = p.key := by simpa using he
      exact hn.1 (List.mem_map.2 ⟨a, ha, he⟩)
    · rw [List.filter_cons, if_neg, filter_key hn.2 p hp]
      intro he
      have he : q.key = p.key := by simpa using he
      exact hn.1 (List.mem_map.2 ⟨p, hp, he.symm⟩)
theorem mem_f1 {k : Cl} : k ∈ f1 l ↔ ∃ p ∈ l, p.key = k ∧ p.st = 1 := by
  rw [f1, List.mem_map]
  constructor
  · rintro ⟨p, hp, rfl⟩
    have := List.mem_filter.1 hp
    exact ⟨p, this.1, rfl, by simpa using this.2⟩
  · rintro ⟨p, hp, rfl, hs⟩
    exact ⟨p, List.mem_filter.2 ⟨hp, by simpa using hs⟩, rfl⟩
theorem key_uniq (h : (l.map Pst.key).Nodup) {p q : Pst} (hp : p ∈ l) (hq : q ∈ l) (he : p.key = q.key) : p = q := by
  have h1 := filter_key h q hq
  have h2 : p ∈ l.filter (fun a => a.key == q.key) := List.mem_filter.2 ⟨hp, by simpa using he⟩
  rw [h1] at h2
  simpa using h2
theorem RecI.mem_opn (h : RecI me reps sess l r) {k : Cl} : k ∈ r.opn ↔ ∃ p ∈ l, p.key = k ∧ p.st = 1 := by rw [← h.opn.mem_iff, mem_f1]
def abv (l : List Pst) (x id : Int) : Nat := l.countP (fun p => p.x == x && decide (p.id > id) && p.st == 2)
theorem RecI.above (h : RecI me reps sess l r) (x id : Int) : r.rs.countP (gtC (x, id)) = abv l x id := by
  rw [← h.rs.countP_eq, f2, List.countP_map, List.countP_filter, abv]
  refine List.countP_congr fun p hp => ?_
  rcases h.st p hp with h1 | ⟨h1, h2, h3⟩
  · simp [h1, gtC]
  · simp [h1, gtC, h2, h3]
theorem RecI.lastC (h : RecI me reps sess l r) {p : Pst} (hp : p ∈ l) (h2 : p.st = 2) : lastC r.rs p.key = some p.r := by
  have h3 := h.rs.filter (isC p.key)
  have e : (f2 l).filter (isC p.key) = [p.r] := by
    rw [f2, List.filter_map, List.filter_filter]
    have e2 : l.filter (fun q => ((isC p.key) ∘ Pst.r) q && q.st == 2) = (l.filter (fun q => q.key == p.key)).filter (fun q => q.st == 2) := by
      rw [List.filter_filter]
      refine List.filter_congr fun q hq => ?_
      rcases h.st q hq with h4 | ⟨h4, h5, h6⟩
      · simp [h4]
      · simp [h4, isC, h5, h6, Pst.key]
        exact Bool.eq_iff_iff.2 (by simp)
    rw [e2, filter_key h.keys p hp]
    simp [h2]
  rw [e] at h3
  rw [Go.Proofs.Ytbdhmeefjlkdcaa.lastC, ← List.singleton_perm.1 h3]; rfl
theorem RecI.lastNo (h : RecI me reps sess l r) {k : Cl} (hn : ∀ p ∈ l, p.key = k → p.st ≠ 2) : Go.Proofs.Ytbdhmeefjlkdcaa.lastC r.rs k = none := by
  have : r.rs.filter (isC k) = [] := by
    rw [List.filter_eq_nil_iff]
    intro q hq
    rw [← h.rs.mem_iff, f2, List.mem_map] at hq
    obtain ⟨p, hp, rfl⟩ := hq
    obtain ⟨hp, h2⟩ := List.mem_filter.1 hp
    have h2 : p.st = 2 := by simpa using h2
    rcases h.st p hp with h4 | ⟨h4, h5, h6⟩
    · omega
    · intro hc
      simp [isC, h5, h6] at hc
      exact hn p hp (Prod.ext hc.1 hc.2) h2
  rw [Go.Proofs.Ytbdhmeefjlkdcaa.lastC, this]; rfl
theorem RecI.bounds (h : RecI me reps sess l r) {p : Pst} (hp : p ∈ l) : 1 ≤ p.id ∧ p.id ≤ lastV me reps sess r.lasts p.x := (h.has p.x p.id (h.own p hp)).1 ⟨p, hp, rfl⟩
theorem beg_new (hp : Par me reps sess room) (h : RecI me reps sess l r) {x id : Int} (hn : ∀ p ∈ l, p.key ≠ (x, id)) :
    ((rbegV me reps sess room r x id).1.2.2 = 0 → (rbegV me reps sess room r x id).1 = (zrp, false, 0) ∧ 1 ≤ id ∧ mineV me reps sess x = true ∧ RecI me reps sess (l ++ [⟨x, id, 1, zrp⟩]) (rbegV me reps sess room r x id).2) ∧
    ((rbegV me reps sess room r x id).1.2.2 ≠ 0 → (rbegV me reps sess room r x id).1.2.1 = false ∧ 1 ≤ (rbegV me reps sess room r x id).1.2.2 ∧ (rbegV me reps sess room r x id).1.2.2 ≠ 133 ∧ ¬ ((rbegV me reps sess room r x id).1.2.2 = 130 ∧ id > 0) ∧ (rbegV me reps sess room r x id).2 = r) := by
  rw [rbegV]
  by_cases hm : mineV me reps sess x = false
  · rw [if_pos hm]; exact ⟨fun h => (by cases h), fun _ => ⟨rfl, (by dsimp only; decide), (by dsimp only; decide), fun h => (by cases h.1), rfl⟩⟩
  rw [if_neg hm]
  have hm : mineV me reps sess x = true := by simpa using hm
  by_cases c1 : id < 1 ∨ id > 1099511627776
  · rw [if_pos c1]; exact ⟨fun h => (by cases h), fun _ => ⟨rfl, (by dsimp only; decide), (by dsimp only; decide), fun h => (by cases h.1), rfl⟩⟩
  rw [if_neg c1]
  by_cases c2 : id > lastV me reps sess r.lasts x + 1
  · rw [if_pos c2]; exact ⟨fun h => (by cases h), fun _ => ⟨rfl, (by dsimp only; decide), (by dsimp only; decide), fun h => (by cases h.1), rfl⟩⟩
  rw [if_neg c2]
  by_cases c3 : id = lastV me reps sess r.lasts x + 1
  · rw [if_pos c3]
    refine ⟨fun _ => ⟨rfl, by omega, hm, ?_⟩, fun h => absurd rfl h⟩
    have hls := fun y => lastV_set (me := me) (reps := reps) (sess := sess) hp.hsess.2 h.len hm id y
    refine ⟨?_, ?_, ?_, ?_, ?_, ?_, ?_, ?_⟩
    · rw [List.map_append, List.nodup_append]
      refine ⟨h.keys, by simp, fun a ha b hb => ?_⟩
      obtain ⟨p, hp, rfl⟩ := List.mem_map.1 ha
      simp at hb; subst hb
      exact hn p hp
    · intro p hp
      rcases List.mem_append.1 hp with hp | hp
      · exact h.st p hp
      · simp at hp; subst hp; exact .inl rfl
    · simp only [f1, List.filter_append, List.map_append]
      exact h.opn.append_right _
    · simp only [f2, List.filter_append, List.map_append]
      simpa [f2] using h.rs
    · intro y i hy
      dsimp only
      rw [hls y]
      constructor
      · rintro ⟨p, hp, he⟩
        rcases List.mem_append.1 hp with hp | hp
        · have := (h.has y i hy).1 ⟨p, hp, he⟩
          split
          · rename_i e; subst e; omega
          · exact this
        · simp at hp; subst hp
          have e1 : x = y := congrArg Prod.fst he
          have e2 : id = i := congrArg Prod.snd he
          subst e1; subst e2
          rw [if_pos rfl]; omega
      · intro hi
        by_cases e : y = x
        · subst e
          rw [if_pos rfl] at hi
          by_cases e2 : i = id
          · subst e2; exact ⟨_, List.mem_append_right _ (List.mem_cons_self ..), rfl⟩
          · obtain ⟨p, hp, he⟩ := (h.has y i hy).2 ⟨hi.1, by omega⟩
            exact ⟨p, List.mem_append_left _ hp, he⟩
        · rw [if_neg e] at hi
          obtain ⟨p, hp, he⟩ := (h.has y i hy).2 hi
          exact ⟨p, List.mem_append_left _ hp, he⟩
    · intro p hp
      rcases List.mem_append.1 hp with hp | hp
      · exact h.own p hp
      · simp at hp; subst hp; exact hm
    · intro y
      dsimp only
      rw [hls y]
      split
      · omega
      · exact h.low y
    · simp [h.len]
  rw [if_neg c3]
  obtain ⟨p, hp2, he⟩ := (h.has x id hm).2 ⟨by omega, by omega⟩
  exact absurd he (hn p hp2)
theorem beg_old (hp : Par me reps sess room) (h : RecI me reps sess l r) {p : Pst} (hpm : p ∈ l) :
    (p.st = 1 → rbegV me reps sess room r p.x p.id = ((zrp, false, 133), r)) ∧
    (p.st ≠ 1 → abv l p.x p.id < room → rbegV me reps sess room r p.x p.id = ((p.r, true, 0), r)) ∧
    (p.st ≠ 1 → ¬ abv l p.x p.id < room → rbegV me reps sess room r p.x p.id = ((zrp, false, 130), r)) := by
  have hb := h.bounds hpm
  have hl := h.low p.x
  have hm := h.own p hpm
  rw [rbegV, if_neg (by rw [hm]; decide), if_neg (by omega), if_neg (by omega), if_neg (by omega)]
  have ho : opnV r.opn (p.x, p.id) ≥ 0 ↔ p.st = 1 := by
    rw [opnV_iff, h.mem_opn]
    constructor
    · rintro ⟨q, hq, he, h1⟩
      have := key_uniq h.keys hq hpm he
      subst this; exact h1
    · intro h1; exact ⟨p, hpm, rfl, h1⟩
  refine ⟨fun h1 => by rw [if_pos (ho.2 h1)], fun h1 h2 => ?_, fun h1 h2 => ?_⟩
  · rw [if_neg (fun hh => h1 (ho.1 hh))]
    have h3 : p.st = 2 := by rcases h.st p hpm with h4 | h4; exact absurd h4 h1; exact h4.1
    have e : keptV room r.rs (p.x, p.id) = (p.r, true) := by
      rw [keptV, show Go.Proofs.Ytbdhmeefjlkdcaa.lastC r.rs (p.x, p.id) = some p.r from h.lastC hpm h3]
      dsimp only
      rw [h.above, if_neg (by omega)]
    rw [e, if_pos rfl]
  · rw [if_neg (fun hh => h1 (ho.1 hh))]
    have h3 : p.st = 2 := by rcases h.st p hpm with h4 | h4; exact absurd h4 h1; exact h4.1
    have e : keptV room r.rs (p.x, p.id) = (zrp, false) := by
      rw [keptV, show Go.Proofs.Ytbdhmeefjlkdcaa.lastC r.rs (p.x, p.id) = some p.r from h.lastC hpm h3]
      dsimp only
      rw [h.above, if_pos (by omega)]
    rw [e, if_neg (by decide)]
theorem end_no (h : RecI me reps sess l r) {q : Rp} (hn : ∀ p ∈ l, p.key = (q.1, q.2.1) → p.st ≠ 1) : (rendV me reps sess r q).1 ≠ 0 ∧ (rendV me reps sess r q).2 = r := by
  rw [rendV]
  by_cases hm : mineV me reps sess q.1 = false
  · rw [if_pos hm]; exact ⟨(by decide : (132 : Int) ≠ 0), rfl⟩
  rw [if_neg hm]
  by_cases c1 : q.2.1 > lastV me reps sess r.lasts q.1
  · rw [if_pos c1]; exact ⟨(by decide : (131 : Int) ≠ 0), rfl⟩
  rw [if_neg c1]
  cases hf : r.opn.findIdx? (fun y => y.1 == q.1 && y.2 == q.2.1) with
  | none => exact ⟨(by decide : (130 : Int) ≠ 0), rfl⟩
  | some i =>
    have := (find_open _ _ _).1 (by rw [hf]; rfl)
    rw [h.mem_opn] at this
    obtain ⟨p, hp, he, h1⟩ := this
    exact absurd h1 (hn p hp he)
theorem set_split {l : List Pst} {j : Nat} (hj : j < l.length) (p' : Pst) : l.Perm (l[j] :: (l.take j ++ l.drop (j + 1))) ∧ (l.set j p').Perm (p' :: (l.take j ++ l.drop (j + 1))) := by
  have e1 : l = l.take j ++ l[j] :: l.drop (j + 1) := by rw [← List.drop_eq_getElem_cons hj, List.take_append_drop]
  have e2 : l.set j p' = l.take j ++ p' :: l.drop (j + 1) := by rw [List.set_eq_take_append_cons_drop, if_pos hj]
  constructor
  · conv => lhs; rw [e1]
    exact List.perm_middle
  · rw [e2]; exact List.perm_middle
theorem end_yes (h : RecI me reps sess l r) {q : Rp} {j : Nat} (hj : j < l.length) (hk : (l[j]).key = (q.1, q.2.1)) (h1 : (l[j]).st = 1) : (rendV me reps sess r q).1 = 0 ∧ RecI me reps sess (l.set j ⟨q.1, q.2.1, 2, q⟩) (rendV me reps sess r q).2 := by
  have hpm := List.getElem_mem hj
  have hb := h.bounds hpm
  have hm := h.own _ hpm
  have ex : (l[j]).x = q.1 := congrArg Prod.fst hk
  have ei : (l[j]).id = q.2.1 := congrArg Prod.snd hk
  rw [ex, ei] at hb
  rw [ex] at hm
  rw [rendV, if_neg (by rw [hm]; decide), if_neg (by omega)]
  have hin : (q.1, q.2.1) ∈ r.opn := h.mem_opn.2 ⟨_, hpm, hk, h1⟩
  have hs := (find_open r.opn q.1 q.2.1).2 hin
  cases hf : r.opn.findIdx? (fun y => y.1 == q.1 && y.2 == q.2.1) with
  | none => rw [hf] at hs; cases hs
  | some i =>
    dsimp only
    refine ⟨rfl, ?_⟩
    have hg := List.findIdx?_eq_some_iff_getElem.1 hf
    obtain ⟨hi, hi2, _⟩ := hg
    have hri : r.opn[i] = (q.1, q.2.1) := by
      simp at hi2; exact Prod.ext hi2.1 hi2.2
    have p1 : r.opn.Perm ((q.1, q.2.1) :: r.opn.eraseIdx i) := by
      have e1 : r.opn = r.opn.take i ++ r.opn[i] :: r.opn.drop (i + 1) := by rw [← List.drop_eq_getElem_cons hi, List.take_append_drop]
      rw [List.eraseIdx_eq_take_drop_succ, ← hri]
      conv => lhs; rw [e1]
      exact List.perm_middle
    obtain ⟨s1, s2⟩ := set_split hj ⟨q.1, q.2.1, 2, q⟩
    generalize l.take j ++ l.drop (j + 1) = m at s1 s2
    have kp : ((l.set j ⟨q.1, q.2.1, 2, q⟩).map Pst.key).Perm (l.map Pst.key) := by
      refine (s2.map _).trans (List.Perm.trans ?_ (s1.map _).symm)
      rw [List.map_cons, List.map_cons, hk]
      exact .refl _
    have fa : (f1 l).Perm ((q.1, q.2.1) :: f1 m) := by
      have := (s1.filter (fun p => p.st == 1)).map Pst.key
      rw [List.filter_cons, if_pos (by simpa using h1), List.map_cons, hk] at this
      exact this
    have fb : (f1 (l.set j ⟨q.1, q.2.1, 2, q⟩)).Perm (f1 m) := by
      have := (s2.filter (fun p => p.st == 1)).map Pst.key
      rw [List.filter_cons, if_neg (by dsimp only; decide)] at this
      exact this
    have fc : (f2 l).Perm (f2 m) := by
      have := (s1.filter (fun p => p.st == 2)).map Pst.r
      rw [List.filter_cons, if_neg (by rw [h1]; decide)] at this
      exact this
    have fd : (f2 (l.set j ⟨q.1, q.2.1, 2, q⟩)).Perm (q :: f2 m) := by
      have := (s2.filter (fun p => p.st == 2)).map Pst.r
      rw [List.filter_cons, if_pos (by dsimp only; decide)] at this
      exact this
    have mem2 : ∀ p ∈ l.set j ⟨q.1, q.2.1, 2, q⟩, p = ⟨q.1, q.2.1, 2, q⟩ ∨ p ∈ l := fun p hp => (List.mem_or_eq_of_mem_set hp).symm
    refine ⟨kp.symm.nodup h.keys, ?_, ?_, ?_, ?_, ?_, h.low, h.len⟩
    · intro p hp
      rcases mem2 p hp with rfl | hp
      · exact .inr ⟨rfl, rfl, rfl⟩
      · exact h.st p hp
    · have := (fa.symm.trans h.opn).trans p1
      exact fb.trans (List.perm_cons _ |>.1 this)
    · refine fd.trans ?_
      refine List.Perm.trans ?_ (h.rs.append_right [q])
      refine ((fc.symm.cons q)).trans ?_
      exact (List.perm_append_comm (l₁ := [q]) (l₂ := f2 l))
    · intro y i hy
      have e : (∃ p ∈ l.set j ⟨q.1, q.2.1, 2, q⟩, p.key = (y, i)) ↔ (∃ p ∈ l, p.key = (y, i)) := by
        have := kp.mem_iff (a := ((y, i) : Cl))
        rw [List.mem_map, List.mem_map] at this
        exact this
      rw [e]
      exact h.has y i hy
    · intro p hp
      rcases mem2 p hp with rfl | hp
      · exact hm
      · exact h.own p hp
theorem rec0 : RecI me reps sess [] ⟨List.replicate 64 0, [], []⟩ := by
  have e : ∀ x, lastV me reps sess (List.replicate 64 0) x = 0 := by
    intro x
    rw [lastV]
    split
    · rw [List.getElem?_replicate]; split <;> rfl
    · rfl
  refine ⟨by simp, by simp, .refl _, .refl _, fun x id _ => ?_, by simp, fun x => ?_, by simp⟩
  · dsimp only; rw [e]; simp; omega
  · dsimp only; rw [e]; omega
end Go.Proofs.Ytbdhmeefjlkdcaa
