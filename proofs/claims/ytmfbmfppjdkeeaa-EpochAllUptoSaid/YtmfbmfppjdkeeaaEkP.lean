/- The plain law: the epoch's machine and the document's tell the same. -/
import Derived.Test.YtmfbmfppjdkeeaaEkH
namespace Go.Proofs.Ytmfbmfppjdkeeaa
open Go Go.Fw Go.RowKit
set_option linter.unusedVariables false
set_option linter.unusedSimpArgs false
set_option maxRecDepth 4000
set_option maxHeartbeats 1000000

structure Rel (e : Mv) (r : Rn) : Prop where
  me : r.me = e.me
  n : r.n = e.n
  needs : r.needs = e.needs
  kn : ∀ i : Nat, i < e.n → gI e.kn i = grV r.known (i : Int)
  fi : ∀ i : Nat, i < e.n → gI e.fi i = grV r.over (i : Int)
  hi : ∀ i : Nat, e.n ≤ i → gI e.kn i = 0
  fm : gI e.fi e.me ≤ gI e.kn e.me
  re : someE e.own = true → ∀ i : Nat, i < e.n → i ≠ e.me → (gI e.re i = -1 ∧ repV r.notes e.own (i : Int) = none) ∨ (0 ≤ gI e.re i ∧ repV r.notes e.own (i : Int) = some (gI e.re i))
  rme : someE e.own = true → gI e.re e.me = -1
  nt : ∀ x ∈ r.notes, x.1 ≠ (e.me : Int) ∧ x.2.2.1 ≤ gI e.kn e.me
variable {e : Mv} {r : Rn}
theorem someE_iff (x : Ep) : someE x = true ↔ x ≠ (0, 0) := by
  rw [someE]
  constructor
  · rintro h rfl; cases h
  · intro h
    by_cases h1 : x.1 = 0
    · by_cases h2 : x.2 = 0
      · exact absurd (Prod.ext h1 h2) h
      · simp [h2]
    · simp [h1]
theorem someE_pos {x : Ep} (h : x.1 > 0) : someE x = true := (someE_iff x).2 fun he => by rw [he] at h; exact absurd h (by decide)
theorem topE_mem : ∀ (l : List Ep), topE l = (0, 0) ∨ topE l ∈ l := by
  have : ∀ (l : List Ep) (a : Ep), l.foldl (fun t x => if x.1 ≥ t.1 then x else t) a = a ∨ l.foldl (fun t x => if x.1 ≥ t.1 then x else t) a ∈ l := by
    intro l
    induction l with
    | nil => intro a; exact .inl rfl
    | cons x t ih =>
      intro a
      rw [List.foldl_cons]
      rcases ih (if x.1 ≥ a.1 then x else a) with h | h
      · rw [h]
        split
        · exact .inr (List.mem_cons_self ..)
        · exact .inl rfl
      · exact .inr (List.mem_cons_of_mem _ h)
  exact fun l => this l (0, 0)
theorem topE_le : ∀ (l : List Ep), ∀ x ∈ l, x.1 ≤ (topE l).1 := by
  have : ∀ (l : List Ep) (a : Ep), a.1 ≤ (l.foldl (fun t x => if x.1 ≥ t.1 then x else t) a).1 ∧ ∀ x ∈ l, x.1 ≤ (l.foldl (fun t x => if x.1 ≥ t.1 then x else t) a).1 := by
    intro l
    induction l with
    | nil => intro a; exact ⟨Int.le_refl _, fun x hx => by cases hx⟩
    | cons y t ih =>
      intro a
      rw [List.foldl_cons]
      obtain ⟨h1, h2⟩ := ih (if y.1 ≥ a.1 then y else a)
      have h3 : y.1 ≤ (if y.1 ≥ a.1 then y else a).1 := by split <;> omega
      have h4 : a.1 ≤ (if y.1 ≥ a.1 then y else a).1 := by split <;> omega
      refine ⟨by omega, fun x hx => ?_⟩
      rcases List.mem_cons.1 hx with rfl | hx
      · omega
      · exact h2 x hx
  exact fun l => (this l (0, 0)).2
theorem mem_lives {x : Ep} : x ∈ e.lives ↔ ∃ i, i < e.n ∧ e.lv i = true ∧ x = (gI e.kn i, (i : Int)) := by
  rw [Mv.lives, List.mem_map]
  constructor
  · rintro ⟨i, hi, rfl⟩
    have := List.mem_filter.1 hi
    exact ⟨i, List.mem_range.1 this.1, this.2, rfl⟩
  · rintro ⟨i, h1, h2, rfl⟩
    exact ⟨i, List.mem_filter.2 ⟨List.mem_range.2 h1, h2⟩, rfl⟩
theorem live_pos (h : e.wf) {i : Nat} (hi : i < e.n) (hl : e.lv i = true) : 1 ≤ gI e.kn i := by
  have hn := h.n
  have h1 := h.fb _ (gI_mem (l := e.fi) (i := i) (by rw [h.fl]; omega))
  have h2 : gI e.kn i > gI e.fi i := of_decide_eq_true hl
  omega
theorem own_live (h : e.wf) : (e.lv e.me = true ∧ e.own = (gI e.kn e.me, (e.me : Int)) ∧ e.own.1 ≥ 1 ∧ someE e.own = true) ∨ (e.lv e.me = false ∧ e.own = (0, 0) ∧ someE e.own = false) := by
  cases hl : e.lv e.me with
  | true =>
    have e1 : e.own = (gI e.kn e.me, (e.me : Int)) := by rw [Mv.own, Mv.ep, if_pos hl]
    have := live_pos h h.me hl
    exact .inl ⟨rfl, e1, by rw [e1]; exact this, someE_pos (by rw [e1]; exact this)⟩
  | false =>
    have e1 : e.own = (0, 0) := by rw [Mv.own, Mv.ep, if_neg (by rw [hl]; decide)]
    exact .inr ⟨rfl, e1, by rw [e1]; rfl⟩
theorem own_some (h : e.wf) : someE e.own = true ↔ e.own.1 > 0 := by
  rcases own_live h with ⟨_, _, h1, h2⟩ | ⟨_, h1, h2⟩
  · exact ⟨fun _ => h1, fun _ => h2⟩
  · rw [h1]; exact ⟨fun h => (by cases h), fun h => (by cases h)⟩
theorem own_zero (h : e.wf) : e.own.1 = 0 ↔ ¬ someE e.own = true := by
  rcases own_live h with ⟨_, _, h1, h2⟩ | ⟨_, h1, h2⟩
  · exact ⟨fun h => by omega, fun h => absurd h2 h⟩
  · rw [h1]; exact ⟨fun _ => by decide, fun _ => rfl⟩
theorem top_some (h : e.wf) : (e.lives = [] ∧ e.top = (0, 0)) ∨ (e.lives ≠ [] ∧ e.top ∈ e.lives ∧ e.top.1 ≥ 1 ∧ someE e.top = true) := by
  by_cases hl : e.lives = []
  · exact .inl ⟨hl, by rw [Mv.top, hl]; rfl⟩
  · right
    obtain ⟨x, hx⟩ := List.exists_mem_of_ne_nil _ hl
    obtain ⟨i, h1, h2, rfl⟩ := mem_lives.1 hx
    have h3 := live_pos h h1 h2
    have h4 := topE_le _ _ hx
    have h5 : e.top.1 ≥ 1 := by rw [Mv.top]; dsimp only at h4; omega
    refine ⟨hl, ?_, h5, someE_pos h5⟩
    rcases topE_mem e.lives with h6 | h6
    · rw [Mv.top, h6] at h5; exact absurd h5 (by decide)
    · exact h6
theorem own_mem (h : e.wf) (hs : someE e.own = true) : e.own ∈ e.lives := by
  rcases own_live h with ⟨h1, h2, _, _⟩ | ⟨_, _, h1⟩
  · rw [h2]; exact mem_lives.2 ⟨e.me, h.me, h1, rfl⟩
  · rw [h1] at hs; cases hs
theorem top_of_own (h : e.wf) (hs : someE e.own = true) : e.top.1 ≥ 1 ∧ someE e.top = true := by
  rcases top_some h with ⟨h1, _⟩ | ⟨_, _, h2, h3⟩
  · have := own_mem h hs; rw [h1] at this; cases this
  · exact ⟨h2, h3⟩
theorem top_zero (h : e.wf) : e.top.1 = 0 ↔ someE e.top = false := by
  rcases top_some h with ⟨_, h1⟩ | ⟨_, _, h2, h3⟩
  · rw [h1]; exact ⟨fun _ => rfl, fun _ => rfl⟩
  · rw [h3]; exact ⟨fun h => by omega, fun h => by cases h⟩
theorem top_pos (h : e.wf) : e.top.1 > 0 ↔ someE e.top = true := by
  rcases top_some h with ⟨_, h1⟩ | ⟨_, _, h2, h3⟩
  · rw [h1]; exact ⟨fun h => (by cases h), fun h => (by cases h)⟩
  · rw [h3]; exact ⟨fun _ => rfl, fun _ => by omega⟩
namespace Rel
theorem lvE (h : Rel e r) {i : Nat} (hi : i < e.n) : r.lv i = e.lv i := by rw [Rn.lv, Mv.lv, h.kn i hi, h.fi i hi]
theorem livesTo (h : Rel e r) : ∀ m, m ≤ e.n → r.livesTo m = e.livesTo m
  | 0, _ => rfl
  | m + 1, hm => by rw [rlivesTo_succ, livesTo_succ, h.livesTo m (by omega), h.lvE (by omega), h.kn m (by omega)]
theorem lives (h : Rel e r) : r.lives = e.lives := by rw [Rn.lives, h.n]; exact h.livesTo _ (Nat.le_refl _)
theorem top (h : Rel e r) : r.top = e.top := by rw [Rn.top, Mv.top, h.lives]
theorem own (h : Rel e r) (hw : e.wf) : r.own = e.own := by
  rw [Rn.own, h.lives, h.me]
  rcases own_live hw with ⟨h1, h2, _, _⟩ | ⟨h1, h2, _⟩
  · cases hf : e.lives.find? (fun x => x.2 == (e.me : Int)) with
    | none =>
      rw [List.find?_eq_none] at hf
      have := hf _ (mem_lives.2 ⟨e.me, hw.me, h1, rfl⟩)
      simp at this
    | some x =>
      have h3 := List.mem_of_find?_eq_some hf
      have h4 := List.find?_some hf
      obtain ⟨i, h5, h6, rfl⟩ := mem_lives.1 h3
      have : i = e.me := by have : (i : Int) = (e.me : Int) := by simpa using h4
                            omega
      subst this
      rw [h2]; rfl
  · have hf : e.lives.find? (fun x => x.2 == (e.me : Int)) = none := by
      rw [List.find?_eq_none]
      intro x hx
      obtain ⟨i, h5, h6, rfl⟩ := mem_lives.1 hx
      intro h7
      have : i = e.me := by have : (i : Int) = (e.me : Int) := by simpa using h7
                            omega
      subst this
      rw [h1] at h6; cases h6
    rw [hf, h2]; rfl
end Rel
theorem gI_set {l : List Int} {i j : Nat} {x : Int} (hi : i < l.length) : gI (l.set i x) j = if j = i then x else gI l j := by
  rw [gI, gI, List.getElem?_set]
  by_cases h : i = j
  · subst h; rw [if_pos rfl, if_pos hi, if_pos rfl]; rfl
  · rw [if_neg h, if_neg (fun h' => h h'.symm)]
/-! ### told -/
theorem foreign_iff (h : Rel e r) (x : Ep) : e.foreign x ↔ (r.one x ∧ x.2 ≠ (r.me : Int)) := by
  rw [Mv.foreign, Rn.one, h.me, h.n]
  simp only [not_or]
  constructor
  · rintro ⟨h1, h2, h3, h4, h5⟩; exact ⟨⟨by omega, by omega, by omega, by omega⟩, h5⟩
  · rintro ⟨⟨h1, h2, h3, h4⟩, h5⟩; exact ⟨by omega, by omega, by omega, by omega, h5⟩
theorem foreign_ix {x : Ep} (h : e.foreign x) : ∃ i : Nat, x.2 = (i : Int) ∧ x.2.toNat = i ∧ i < e.n ∧ i ≠ e.me ∧ 1 ≤ x.1 ∧ x.1 ≤ 1099511627776 := by
  simp only [Mv.foreign, not_or] at h
  refine ⟨x.2.toNat, by omega, rfl, by omega, by omega, by omega, by omega⟩
theorem gr_at (l : List Ep) (x : Ep) (k : Nat) (i : Nat) (hx : x.2 = (i : Int)) : grV (l ++ [x]) (k : Int) = if k = i then max (grV l (k : Int)) x.1 else grV l (k : Int) := by
  rw [grV_snoc, hx]
  by_cases h : k = i
  · subst h
    rw [if_pos rfl]
    by_cases h2 : x.1 > grV l (k : Int)
    · rw [if_pos ⟨rfl, h2⟩]; omega
    · rw [if_neg (fun hh => h2 hh.2)]; omega
  · rw [if_neg h, if_neg]
    intro hh
    have := hh.1
    omega
theorem own_same {e' : Mv} (h1 : e'.me = e.me) (h2 : gI e'.kn e.me = gI e.kn e.me) (h3 : gI e'.fi e.me = gI e.fi e.me) : e'.own = e.own := by
  rw [Mv.own, Mv.own, h1, Mv.ep, Mv.ep, Mv.lv, Mv.lv, h2, h3]
theorem rel_told (h : Rel e r) (hw : e.wf) (x : Ep) : Rel (e.told x false) (r.told x) := by
  have hn := hw.n
  by_cases hf : e.foreign x
  · have hr := (foreign_iff h x).1 hf
    rw [Mv.told, if_pos hf, Rn.told, if_pos hr]
    obtain ⟨i, h1, h2, h3, h4, h5, h6⟩ := foreign_ix hf
    have hl : i < e.kn.length := by rw [hw.kl]; omega
    simp only [h2, Bool.false_eq_true, if_false]
    have hk : ∀ j, gI (e.kn.set i (max (gI e.kn i) x.1)) j = if j = i then max (gI e.kn i) x.1 else gI e.kn j := fun j => gI_set hl
    have ho : ({ e with kn := e.kn.set i (max (gI e.kn i) x.1), fi := e.fi } : Mv).own = e.own := own_same rfl (by rw [hk, if_neg (Ne.symm h4)]) rfl
    refine ⟨h.me, h.n, h.needs, fun j hj => ?_, h.fi, fun j hj => ?_, ?_, ?_, ?_, ?_⟩
    · dsimp only at hj ⊢
      rw [hk, gr_at _ _ _ _ h1]
      split
      · rename_i he; subst he; rw [h.kn _ h3]
      · exact h.kn j hj
    · dsimp only at hj ⊢
      rw [hk, if_neg (by omega)]
      exact h.hi j hj
    · dsimp only
      rw [hk, if_neg (Ne.symm h4)]; exact h.fm
    · rw [ho]; exact h.re
    · rw [ho]; exact h.rme
    · dsimp only
      rw [hk, if_neg (Ne.symm h4)]; exact h.nt
  · have hr := fun hh => hf ((foreign_iff h x).2 hh)
    rw [Mv.told, if_neg hf, Rn.told, if_neg hr]
    exact h
theorem rel_told2 (h : Rel e r) (hw : e.wf) (x : Ep) : Rel (e.told x true) (r.told2 x) := by
  have hn := hw.n
  have h0 := rel_told h hw x
  by_cases hf : e.foreign x
  · have hr := (foreign_iff h x).1 hf
    rw [Mv.told, if_pos hf, Rn.told2, if_pos hr]
    rw [Mv.told, if_pos hf] at h0
    obtain ⟨i, h1, h2, h3, h4, h5, h6⟩ := foreign_ix hf
    have hl : i < e.fi.length := by rw [hw.fl]; omega
    simp only [h2, Bool.false_eq_true, if_false, if_true] at h0 ⊢
    have hk : ∀ j, gI (e.fi.set i (max (gI e.fi i) x.1)) j = if j = i then max (gI e.fi i) x.1 else gI e.fi j := fun j => gI_set hl
    have ho : ({ e with kn := e.kn.set i (max (gI e.kn i) x.1), fi := e.fi.set i (max (gI e.fi i) x.1) } : Mv).own = ({ e with kn := e.kn.set i (max (gI e.kn i) x.1), fi := e.fi } : Mv).own := own_same rfl rfl (by dsimp only; rw [hk, if_neg (Ne.symm h4)])
    have hov : (r.told x).over = r.over := by rw [Rn.told]; split <;> rfl
    refine ⟨h0.me, h0.n, h0.needs, h0.kn, fun j hj => ?_, h0.hi, ?_, ?_, ?_, h0.nt⟩
    · dsimp only at hj ⊢
      rw [hov, hk, gr_at _ _ _ _ h1]
      split
      · rename_i he; subst he; rw [h.fi _ h3]
      · exact h.fi j hj
    · have := h0.fm
      dsimp only at this ⊢
      rw [hk, if_neg (Ne.symm h4)]; exact this
    · rw [ho]; exact h0.re
    · rw [ho]; exact h0.rme
  · have hr := fun hh => hf ((foreign_iff h x).2 hh)
    rw [Mv.told, if_neg hf, Rn.told2, if_neg hr]
    exact h
/-! ### turn -/
theorem rel_fin (h : Rel e r) (hw : e.wf) (hs : someE e.own = true) : Rel { e with fi := e.fi.set e.me e.own.1 } { r with over := r.over ++ [r.own] } := by
  have hn := hw.n
  have hm := hw.me
  rcases own_live hw with ⟨h1, h2, h3, _⟩ | ⟨_, _, h1⟩
  · have hl : e.me < e.fi.length := by rw [hw.fl]; omega
    have hk : ∀ j, gI (e.fi.set e.me e.own.1) j = if j = e.me then e.own.1 else gI e.fi j := fun j => gI_set hl
    have hlv : gI e.kn e.me > gI e.fi e.me := of_decide_eq_true h1
    have ho : ({ e with fi := e.fi.set e.me e.own.1 } : Mv).own = (0, 0) := by
      rw [Mv.own, Mv.ep, if_neg]
      rw [Mv.lv]
      dsimp only
      rw [hk, if_pos rfl, h2]
      simp
    have hno : someE ({ e with fi := e.fi.set e.me e.own.1 } : Mv).own = true → False := by rw [ho]; intro h; cases h
    refine ⟨h.me, h.n, h.needs, h.kn, fun j hj => ?_, h.hi, ?_, fun hh => (hno hh).elim, fun hh => (hno hh).elim, h.nt⟩
    · dsimp only at hj ⊢
      rw [hk, h.own hw, gr_at _ _ _ e.me (by rw [h2])]
      split
      · rename_i he; subst he
        rw [← h.fi _ hm, h2]
        dsimp only; omega
      · exact h.fi j hj
    · dsimp only
      rw [hk, if_pos rfl, h2]; exact Int.le_refl _
  · rw [h1] at hs; cases hs
theorem turn_eq (h : Rel e r) (hw : e.wf) {was : Ep} (hwas : was = (0, 0) ∨ was.1 ≥ 1) : (e.turn was).1 = (r.turn was).1 ∧ Rel (e.turn was).2 (r.turn was).2 := by
  have hown := h.own hw
  have htop := h.top
  have ht : e.turns ↔ r.turns := by
    rw [Mv.turns, Rn.turns, hown, htop, own_some hw]
  by_cases hc : e.turns
  · have hs := hc.1
    have hne := hc.2
    obtain ⟨ht1, ht2⟩ := top_of_own hw hs
    rw [Mv.turn, if_pos hc, Rn.turn, if_pos (ht.1 hc)]
    refine ⟨?_, rel_fin h hw hs⟩
    rw [tailA, if_neg (by rintro (h1 | ⟨_, h1⟩) <;> exact hne h1), if_neg (by rw [ht2]; decide), hown, htop, h.me]; rfl
  · rw [Mv.turn, if_neg hc, Rn.turn, if_neg (fun hh => hc (ht.2 hh)), hown, htop, h.me]
    by_cases h1 : e.top.1 > 0 ∧ e.top ≠ e.own ∧ e.top ≠ was
    · rw [if_pos h1]
      refine ⟨?_, h⟩
      rw [tailA, if_neg (by rintro (h2 | ⟨_, h2⟩); exact h1.2.2 h2; exact h1.2.1 h2), if_neg (by rw [(top_pos hw).1 h1.1]; decide)]
    · rw [if_neg h1]
      by_cases h2 : e.top.1 = 0 ∧ was.1 > 0
      · rw [if_pos h2]
        refine ⟨?_, h⟩
        have hz := (top_zero hw).1 h2.1
        rw [tailA, if_neg, if_pos hz]
        rintro (h3 | ⟨h3, h4⟩)
        · rw [h3] at h2; omega
        · rw [← h4, hz] at h3; cases h3
      · rw [if_neg h2]
        refine ⟨?_, h⟩
        rw [tailA, if_pos]
        by_cases h3 : e.top.1 > 0
        · by_cases h4 : e.top = was
          · exact .inl h4
          · right
            have h5 : e.top = e.own := by
              by_cases h5 : e.top = e.own
              · exact h5
              · exact absurd ⟨h3, h5, h4⟩ h1
            exact ⟨by rw [← h5]; exact (top_pos hw).1 h3, h5⟩
        · left
          rcases top_some hw with ⟨_, h4⟩ | ⟨_, _, h4, _⟩
          · rcases hwas with h5 | h5
            · rw [h4, h5]
            · exact absurd ⟨by rw [h4], by omega⟩ h2
          · omega
theorem top_was (hw : e.wf) : e.top = (0, 0) ∨ e.top.1 ≥ 1 := by
  rcases top_some hw with ⟨_, h1⟩ | ⟨_, _, h2, h3⟩
  · exact .inl h1
  · exact .inr h2
theorem hear_eq (h : Rel e r) (hw : e.wf) (x : Ep) : (e.hear x).1 = (r.hear x).1 ∧ Rel (e.hear x).2 (r.hear x).2 := by
  rw [Mv.hear, Rn.hear, h.top]
  exact turn_eq (rel_told h hw x) (wf_told hw x false) (top_was hw)
theorem end_eq (h : Rel e r) (hw : e.wf) (x y : Ep) : (e.end_ x y).1 = (r.end_ x y).1 ∧ Rel (e.end_ x y).2 (r.end_ x y).2 := by
  rw [Mv.end_, Rn.end_, h.top]
  have h1 := rel_told2 h hw x
  have hw1 := wf_told hw x true
  exact turn_eq (rel_told h1 hw1 y) (wf_told hw1 y false) (top_was hw)
theorem finish_eq (h : Rel e r) (hw : e.wf) : e.finish.1 = r.finish.1 ∧ Rel e.finish.2 r.finish.2 := by
  rw [Mv.finish, Rn.finish, h.own hw, h.top]
  by_cases hs : someE e.own = true
  · rw [if_pos hs, if_neg (fun hh => (own_zero hw).1 hh hs)]
    have h1 := rel_fin h hw hs
    rw [h.own hw] at h1
    exact turn_eq h1 (wf_fin hw) (top_was hw)
  · rw [if_neg hs, if_pos ((own_zero hw).2 hs)]
    exact ⟨rfl, h⟩
/-! ### reports -/
theorem repV_snoc (l : List Nt) (own : Ep) (x : Nt) (k : Int) (h0 : own.1 > 0) (hx : (x.2.2.1, x.2.2.2) = own) : repV (l ++ [x]) own k = if x.1 = k then some x.2.1 else repV l own k := by
  rw [repV, if_pos h0, repV, if_pos h0, List.filter_append, List.filter_cons, List.filter_nil]
  have h1 : x.2.2.1 = own.1 := congrArg Prod.fst hx
  have h2 : x.2.2.2 = own.2 := congrArg Prod.snd hx
  by_cases hk : x.1 = k
  · rw [if_pos hk, if_pos (by simp [isN, hk, h1, h2])]
    simp
  · rw [if_neg hk, if_neg (by simp [isN, hk]), List.append_nil]
theorem fitsR_iff (h : Rel e r) (hw : e.wf) (fr : Int) (x : Ep) (held : Int) : e.fitsR fr x held ↔ r.fitsR fr x held := by
  rw [Mv.fitsR, Rn.fitsR, h.me, h.n, h.own hw]
  constructor
  · rintro ⟨h1, h2, h3, h4, h5, h6, h7⟩
    refine ⟨h3, h1, h2, h6, h7, h5, ?_⟩
    rw [h5] at h4 ⊢
    exact (own_some hw).1 h4
  · rintro ⟨h1, h2, h3, h4, h5, h6, h7⟩
    exact ⟨h2, h3, h1, someE_pos h7, h6, h4, h5⟩
theorem report_rel (h : Rel e r) (hw : e.wf) (fr : Int) (x : Ep) (held : Int) : Rel (e.report fr x held) (r.report fr x held) := by
  have hn := hw.n
  by_cases hf : e.fitsR fr x held
  · have hr := (fitsR_iff h hw fr x held).1 hf
    rw [Mv.report, if_pos hf, Rn.report, if_pos hr]
    obtain ⟨h1, h2, h3, h4, h5, h6, h7⟩ := hf
    obtain ⟨i, hi⟩ := Int.eq_ofNat_of_zero_le h1
    have hin : fr.toNat = i := by omega
    rw [hin]
    have hl : i < e.re.length := by rw [hw.rl]; omega
    have hk : ∀ j, gI (e.re.set i held) j = if j = i then held else gI e.re j := fun j => gI_set hl
    have ho : ({ e with re := e.re.set i held } : Mv).own = e.own := rfl
    have hs : someE e.own = true := by rw [← h5]; exact h4
    have hp := (own_some hw).1 hs
    have him : i ≠ e.me := by omega
    refine ⟨h.me, h.n, h.needs, h.kn, h.fi, h.hi, h.fm, fun _ j hj hjm => ?_, fun _ => ?_, fun y hy => ?_⟩
    · rw [ho]
      dsimp only at hj hjm ⊢
      rw [hk, repV_snoc _ _ _ _ hp (by rw [h5])]
      by_cases he : j = i
      · subst he
        rw [if_pos rfl, if_pos (by dsimp only; omega)]
        exact .inr ⟨h6, rfl⟩
      · rw [if_neg he, if_neg (by dsimp only; omega)]
        exact h.re hs j hj hjm
    · dsimp only
      rw [hk, if_neg (Ne.symm him)]
      exact h.rme hs
    · rcases List.mem_append.1 hy with hy | hy
      · exact h.nt y hy
      · simp at hy; subst hy
        refine ⟨h3, ?_⟩
        dsimp only
        rcases own_live hw with ⟨_, g1, _, _⟩ | ⟨_, _, g1⟩
        · rw [h5, g1]; exact Int.le_refl _
        · rw [hs] at g1; cases g1
  · have hr := fun hh => hf ((fitsR_iff h hw fr x held).2 hh)
    rw [Mv.report, if_neg hf, Rn.report, if_neg hr]
    exact h
theorem rep_me (h : Rel e r) (hw : e.wf) : r.rep (e.me : Int) = none := by
  rw [Rn.rep, repV]
  split
  · have : r.notes.filter (isN r.own (e.me : Int)) = [] := by
      rw [List.filter_eq_nil_iff]
      intro x hx
      have := (h.nt x hx).1
      simp [isN, this]
    rw [this]; rfl
  · rfl
theorem rep_at (h : Rel e r) (hw : e.wf) (hs : someE e.own = true) {i : Nat} (hi : i < e.n) : (r.rep (i : Int)).getD 0 = max (gI e.re i) 0 ∧ ((r.rep (i : Int)).isSome = false ↔ gI e.re i = -1) := by
  by_cases hm : i = e.me
  · subst hm
    rw [rep_me h hw, h.rme hs]; exact ⟨rfl, fun _ => rfl, fun _ => rfl⟩
  · rw [Rn.rep, h.own hw]
    rcases h.re hs i hi hm with ⟨h1, h2⟩ | ⟨h1, h2⟩
    · rw [h2, h1]; exact ⟨rfl, fun _ => rfl, fun _ => rfl⟩
    · rw [h2]
      refine ⟨?_, fun h => (by cases h), fun h => (by omega)⟩
      show gI e.re i = _
      omega
theorem reported_eq (h : Rel e r) (hw : e.wf) : r.reported = e.reported := by
  have hn := hw.n
  rw [Rn.reported, Mv.reported, h.n]
  by_cases hs : someE e.own = true
  · rw [if_pos hs]
    have : ∀ m, m ≤ e.n → r.repTo m = repTo e.re m := by
      intro m
      induction m with
      | zero => intro _; rfl
      | succ m ih =>
        intro hm
        rw [rrepTo_succ, repTo_succ (by rw [hw.rl]; omega), ih (by omega), (rep_at h hw hs (by omega)).1]
    exact this _ (Nat.le_refl _)
  · rw [if_neg hs]
    have : ∀ m, r.repTo m = 0 := by
      intro m
      induction m with
      | zero => rfl
      | succ m ih =>
        rw [rrepTo_succ, ih, Rn.rep, repV, h.own hw, if_neg (fun hh => hs ((own_some hw).2 hh))]; rfl
    exact this _
theorem all_eq (h : Rel e r) (hw : e.wf) : e.all = (decide (e.own.1 > 0) && r.all) := by
  by_cases hs : someE e.own = true
  · rw [Mv.all, hs, Bool.and_true, decide_eq_true ((own_some hw).1 hs), Bool.true_and, Rn.all, h.n, h.me]
    rw [Bool.eq_iff_iff, List.all_eq_true, List.all_eq_true]
    refine forall_congr' fun i => forall_congr' fun hi => ?_
    have h1 := (rep_at h hw hs (List.mem_range.1 hi)).2
    by_cases h2 : gI e.re i = -1
    · rw [h1.2 h2, h2]; simp
    · have h3 : (r.rep (i : Int)).isSome = true := by
        cases hh : (r.rep (i : Int)).isSome with
        | true => rfl
        | false => exact absurd (h1.1 hh) h2
      rw [h3]; simp [h2]
  · rw [Mv.all, decide_eq_false (fun hh => hs ((own_some hw).2 hh))]
    have : someE e.own = false := by simpa using hs
    rw [this, Bool.and_false, Bool.false_and]
theorem looks_iff (h : Rel e r) (hw : e.wf) (a b c : Int) : e.looks a b c ↔ r.looks a b c := by
  rw [Mv.looks, Rn.looks, h.own hw, reported_eq h hw, h.needs]
  constructor
  · rintro ⟨h1, h2, h3, h4, h5⟩
    refine ⟨fun hh => (own_zero hw).1 hh h1, ⟨h2, h3⟩, h4, fun hn => ?_⟩
    have := h5 hn
    rw [all_eq h hw, Bool.and_eq_true] at this
    exact this.2
  · rintro ⟨h1, ⟨h2, h3⟩, h4, h5⟩
    have hs : someE e.own = true := by
      rcases own_live hw with ⟨_, _, _, g⟩ | ⟨_, g, _⟩
      · exact g
      · rw [g] at h1; exact absurd rfl h1
    refine ⟨hs, h2, h3, h4, fun hn => ?_⟩
    rw [all_eq h hw, decide_eq_true ((own_some hw).1 hs), Bool.true_and]
    exact h5 hn
theorem look_eq (h : Rel e r) (hw : e.wf) (a b c : Int) : e.look a b c = r.look a b c := by
  rw [Mv.look, Rn.look, h.own hw, h.me]
  by_cases hc : e.looks a b c
  · rw [if_pos hc, if_pos ((looks_iff h hw a b c).1 hc)]
  · rw [if_neg hc, if_neg fun hh => hc ((looks_iff h hw a b c).2 hh)]
/-! ### Begin -/
theorem top16_eq (h : Rel e r) (hw : e.wf) : top16 e.kn = topR r.known e.n := by
  have hn := hw.n
  have h1 : ∀ m, m ≤ e.n → (e.kn.take m).foldl max 0 = topR r.known m := by
    intro m
    induction m with
    | zero => intro _; rfl
    | succ m ih =>
      intro hm
      rw [foldl_take (by rw [hw.kl]; omega), topR_succ, ih (by omega), h.kn m (by omega)]
  have h2 : ∀ m, e.n + m ≤ 16 → (e.kn.take (e.n + m)).foldl max 0 = topR r.known e.n := by
    intro m
    induction m with
    | zero => intro _; exact h1 _ (Nat.le_refl _)
    | succ m ih =>
      intro hm
      have := topR_ge r.known e.n
      rw [← Nat.add_assoc, foldl_take (by rw [hw.kl]; omega), ih (by omega), h.hi _ (by omega)]
      omega
  have h3 := h2 (16 - e.n) (by omega)
  rw [List.take_of_length_le (by rw [hw.kl]; omega)] at h3
  exact h3
theorem gr_le_top (l : List Ep) : ∀ (n i : Nat), i < n → grV l (i : Int) ≤ topR l n
  | 0, i, h => by omega
  | n + 1, i, h => by
    rw [topR_succ]
    rcases Nat.lt_or_ge i n with h1 | h1
    · have := gr_le_top l n i h1; omega
    · have : i = n := by omega
      subst this; omega
theorem fresh_rel (h : Rel e r) (hw : e.wf) (hno : someE e.top = false) (all : Bool) : Rel (e.fresh all) (r.fresh all) ∧ (e.fresh all).own = (topR r.known r.n + 1, (e.me : Int)) := by
  have hn := hw.n
  have hm := hw.me
  have ht := top16_eq h hw
  have hl : e.me < e.kn.length := by rw [hw.kl]; omega
  have hk : ∀ j, gI (e.kn.set e.me (top16 e.kn + 1)) j = if j = e.me then top16 e.kn + 1 else gI e.kn j := fun j => gI_set hl
  have hle := gr_le_top r.known e.n e.me hm
  rw [← h.kn _ hm] at hle
  have hfm := h.fm
  have hlv : (e.fresh all).lv e.me = true := by
    rw [Mv.lv, decide_eq_true_eq]
    show gI (e.kn.set e.me (top16 e.kn + 1)) e.me > gI e.fi e.me
    rw [hk, if_pos rfl]; omega
  have ho : (e.fresh all).own = (topR r.known r.n + 1, (e.me : Int)) := by
    rw [Mv.own, show (e.fresh all).me = e.me from rfl, Mv.ep, if_pos hlv]
    show (gI (e.kn.set e.me (top16 e.kn + 1)) e.me, _) = _
    rw [hk, if_pos rfl, ht, h.n]
  have hge := topR_ge r.known r.n
  refine ⟨⟨h.me, h.n, rfl, fun j hj => ?_, h.fi, fun j hj => ?_, ?_, fun _ j hj hjm => ?_, fun _ => ?_, fun x hx => ?_⟩, ho⟩
  · show gI (e.kn.set e.me (top16 e.kn + 1)) j = grV (r.known ++ [(topR r.known r.n + 1, (r.me : Int))]) (j : Int)
    have hj : j < e.n := hj
    rw [hk, gr_at _ _ _ e.me (by rw [h.me])]
    split
    · rename_i he; subst he
      have := h.kn _ hj
      dsimp only
      rw [h.n]; omega
    · exact h.kn j hj
  · show gI (e.kn.set e.me (top16 e.kn + 1)) j = 0
    have hj : e.n ≤ j := hj
    rw [hk, if_neg (by omega)]
    exact h.hi j hj
  · show gI e.fi e.me ≤ gI (e.kn.set e.me (top16 e.kn + 1)) e.me
    rw [hk, if_pos rfl]; omega
  · left
    have hj : j < e.n := hj
    refine ⟨?_, ?_⟩
    · show gI (List.replicate 16 (-1)) j = -1
      rw [gI, List.getElem?_replicate, if_pos (by omega)]; rfl
    · rw [ho, repV]
      split
      · have : (r.fresh all).notes.filter (isN (topR r.known r.n + 1, (e.me : Int)) (j : Int)) = [] := by
          rw [List.filter_eq_nil_iff]
          intro x hx
          have h1 := (h.nt x hx).2
          have : x.2.2.1 ≠ topR r.known r.n + 1 := by rw [h.n]; omega
          simp [isN, this]
        rw [this]; rfl
      · rfl
  · show gI (List.replicate 16 (-1)) e.me = -1
    rw [gI, List.getElem?_replicate, if_pos (by omega)]; rfl
  · have := h.nt x hx
    refine ⟨this.1, ?_⟩
    show _ ≤ gI (e.kn.set e.me (top16 e.kn + 1)) e.me
    rw [hk, if_pos rfl]; omega
theorem begin_eq (h : Rel e r) (hw : e.wf) (a b c : Int) (d : Bool) : (e.begin_ a b c d).1 = (r.begin_ a b c d).1 ∧ (e.begin_ a b c d).2.1 = (r.begin_ a b c d).2.1 ∧ Rel (e.begin_ a b c d).2.2 (r.begin_ a b c d).2.2 := by
  rw [Mv.begin_, Rn.begin_]
  by_cases h1 : okA [a, b, c] = true ∧ a ≠ 0
  · rw [if_neg (by rintro (h2 | h2); rw [h1.1] at h2; cases h2; exact h1.2 h2), if_neg (show ¬ ¬ (okA [a, b, c] = true ∧ a ≠ 0) from fun hh => hh h1)]
    by_cases h2 : someE e.top = true
    · rw [if_pos h2, if_pos (c := r.lives.length > 0)]
      · exact ⟨rfl, rfl, h⟩
      · rw [h.lives]
        rcases top_some hw with ⟨_, g⟩ | ⟨g, _, _, _⟩
        · rw [g] at h2; cases h2
        · exact List.length_pos_iff.2 g
    · rw [if_neg h2, if_neg (c := r.lives.length > 0)]
      · have h2 : someE e.top = false := by simpa using h2
        rw [top16_eq h hw, ← h.n]
        by_cases h3 : topR r.known r.n ≥ 1099511627776
        · rw [if_pos h3, if_pos h3]; exact ⟨rfl, rfl, h⟩
        · rw [if_neg h3, if_neg h3]
          obtain ⟨g1, g2⟩ := fresh_rel h hw h2 d
          have hw2 := wf_fresh hw (by rw [top16_eq h hw, ← h.n]; omega) d
          rw [look_eq g1 hw2]
          by_cases h4 : (r.fresh d).look a b c = []
          · rw [if_neg (fun hh => hh h4), if_pos h4, g2, h.me]
            exact ⟨rfl, rfl, g1⟩
          · rw [if_pos h4, if_neg h4]
            exact ⟨rfl, rfl, g1⟩
      · rw [h.lives]
        rcases top_some hw with ⟨g, _⟩ | ⟨_, _, _, g⟩
        · rw [g]; simp
        · exact absurd g h2
  · rw [if_pos (by
      by_cases h2 : okA [a, b, c] = true
      · right
        by_cases h3 : a = 0
        · exact h3
        · exact absurd ⟨h2, h3⟩ h1
      · left; simpa using h2), if_pos (show ¬ (okA [a, b, c] = true ∧ a ≠ 0) from h1)]
    exact ⟨rfl, rfl, h⟩
theorem rel0 {me n : Nat} : Rel (mv0 me n) (rn0 me n) := by
  have hg : ∀ i, gI (List.replicate 16 (0 : Int)) i = 0 := by
    intro i; rw [gI, List.getElem?_replicate]; split <;> rfl
  have ho : (mv0 me n).own = (0, 0) := by
    rw [Mv.own, Mv.ep, if_neg]
    rw [Mv.lv]
    show ¬ decide (gI (List.replicate 16 0) me > gI (List.replicate 16 0) me) = true
    simp
  refine ⟨rfl, rfl, rfl, fun i _ => hg i, fun i _ => hg i, fun i _ => hg i, by rw [show (mv0 me n).fi = List.replicate 16 0 from rfl, hg, show (mv0 me n).kn = List.replicate 16 0 from rfl, hg]; exact Int.le_refl _, fun hs => ?_, fun hs => ?_, fun x hx => by simp [rn0] at hx⟩
  · rw [ho] at hs; cases hs
  · rw [ho] at hs; cases hs
end Go.Proofs.Ytmfbmfppjdkeeaa
