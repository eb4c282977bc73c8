/- Words and steps, part 9: The world of epochs, in plain words: a message comes; a step. The world of epochs in memory: its nodes, its messages. The world of epochs in memory: who has all; the sums. The world of epochs in memory: an epoch ends, an epoch begins. -/
import Derived.Test.YtmfbmfppjdkeeaaProg
import Derived.Test.YtmfbmfppjdkeeaaErQ8
/- The world of epochs, in plain words: a message comes; a step. -/
namespace Go.Proofs.Ytmfbmfppjdkeeaa
open Go Go.Fw Go.RowKit
set_option linter.unusedVariables false
set_option linter.unusedSimpArgs false
set_option maxHeartbeats 1000000

structure Stp where
  kind : Int
  who : Int
  a : Int
  b : Int
  all : Bool
def wi2 (x n : Int) : Int := Int.tmod (if x < 0 then -(x + 1) else x) n
def Wo.moves (X : Wo) (i : Nat) (x : No) (s : Stp) : Wo :=
  if s.kind = 3 then X.put i (x.mv (min (wi2 s.a 4) x.ri))
  else if s.kind = 4 then X.put i (x.mv (-(min (wi2 s.a 4) x.he)))
  else if s.kind = 5 then
    if wi2 s.b X.N.length ≠ (i : Int) ∧ min (wi2 s.a 4) x.ri > 0 then
      { X with N := X.N.set i { x with ri := x.ri - min (wi2 s.a 4) x.ri }, bag := X.bag ++ [⟨9, (i : Int), wi2 s.b X.N.length, (0, 0), (0, 0), min (wi2 s.a 4) x.ri, 0⟩] }
    else X
  else X
def Wo.takeOut (X : Wo) (k : Nat) : Wo := { X with bag := X.bag.take k ++ X.bag.drop (k + 1) }
def Wo.stepX (X : Wo) (s : Stp) (i : Nat) (x : No) : Wo :=
  if s.kind = 2 ∧ 0 < X.bag.length then
    match X.bag[(wi2 s.a X.bag.length).toNat]? with
    | some m => (X.takeOut (wi2 s.a X.bag.length).toNat).comes m
    | none => X
  else if s.kind = 1 then
    if someE x.m.top = true then X.put i { x with wait := x.wait ++ [s.all] } else (X.put i { x with wait := x.wait ++ [s.all] }).settle i
  else if s.kind = 6 then
    if x.m.own.1 > 0 then (X.fin i x).settle i else X
  else if (3 ≤ s.kind ∧ s.kind ≤ 5) ∧ someE x.m.top = false then X.moves i x s
  else X
def Wo.step (X : Wo) (s : Stp) : Wo := match X.N[(wi2 s.who X.N.length).toNat]? with
  | some x => X.stepX s (wi2 s.who X.N.length).toNat x
  | none => X
section
variable {ex ex' c : Int} {X X' : Wo} {k : Nat} {x x' : No}
theorem settleN_ok (k : Nat) : ∀ (f : Nat) (X : Wo) (c : Int), Wi 0 X → Bd c X → c + 10 * f ≤ 1000000000000 → Wi 0 (Wo.settleN f X k) ∧ Bd (c + 10 * f) (Wo.settleN f X k) ∧ (Wo.settleN f X k).N.length = X.N.length
  | 0, X, c, h1, h2, h3 => ⟨h1, h2.mono (by omega), rfl⟩
  | f + 1, X, c, h1, h2, h3 => by
    have hb := h2.begun
    have ho := h1.one h2.turn.1 (by omega) k
    have hd := h2.one h1.n.2 k
    rw [Wo.settleN]
    split
    · obtain ⟨a1, a2, a3⟩ := settleN_ok k f (X.one k).1 (c + 10) ho hd.1 (by omega)
      exact ⟨a1, a2.mono (by omega), by rw [a3, hd.2]⟩
    · exact ⟨ho, hd.1.mono (by omega), hd.2⟩
theorem settle_ok (h1 : Wi 0 X) (h2 : Bd c X) (h3 : c ≤ 999999980000) (k : Nat) : Wi 0 (X.settle k) ∧ Bd (c + 10000) (X.settle k) ∧ (X.settle k).N.length = X.N.length := by
  obtain ⟨a1, a2, a3⟩ := settleN_ok k 1000 X c h1 h2 (by omega)
  exact ⟨a1, a2.mono (by omega), a3⟩
theorem act_no {own : Bool} {a : A6} (h3 : a.1 ≠ 3) (h5 : a.1 ≠ 5) : Wo.act k own X a = X := by
  unfold Wo.act; rw [if_neg h3, if_neg h5]
theorem tail_no {own : Bool} (me : Nat) (a b d : Ep) (X : Wo) : (tailA me a b d).foldl (Wo.act k own) X = X := by
  unfold tailA
  split
  · rfl
  · split
    · rw [List.foldl_cons, List.foldl_nil, act_no (by show (6 : Int) ≠ 3; decide) (by show (6 : Int) ≠ 5; decide)]
    · rw [List.foldl_cons, List.foldl_nil, act_no (by show (2 : Int) ≠ 3; decide) (by show (2 : Int) ≠ 5; decide)]
/-- What a machine makes of a message that is no report. -/
theorem hears_turn (hI : Wi ex X) (hx : X.N[k]? = some x) {m : Ms} (hm : MsOk X m) (hk : m.kind = 3 ∨ m.kind = 5 ∨ m.kind = 7) : ∃ b, Up X k x.m b ∧ x.hears m = b.turn x.m.top := by
  have h0 := Up.refl hI hx
  unfold No.hears
  rcases hk with hk | hk | hk
  · rw [if_pos hk]
    exact ⟨_, h0.told hI hx hm.e (fin := false) (fun h => by cases h), rfl⟩
  · rw [if_neg (by rw [hk]; decide), if_pos hk]
    exact ⟨_, (h0.told hI hx hm.e (fin := true) (fun _ => hm.fin (.inl hk))).told hI hx (ep_zero (X := X)) (fin := false) (fun h => by cases h), rfl⟩
  · rw [if_neg (by rw [hk]; decide), if_neg (by rw [hk]; decide), if_pos hk]
    exact ⟨_, (h0.told hI hx hm.e (fin := true) (fun _ => hm.fin (.inr hk))).told hI hx hm.ov (fin := false) (fun h => by cases h), rfl⟩
/-- The world behind the acts. -/
def Wo.overs (X : Wo) (k : Nat) (x : No) (b : Mv) (was : Ep) : Wo :=
  if b.turns then { X with N := X.N.set k { x with m := (b.turn was).2, wait := x.own :: x.wait }, ended := X.ended + 1, bag := X.bag ++ oth X.N.length k ⟨7, (k : Int), 0, b.own, b.top, 0, 0⟩ }
  else X.put k { x with m := (b.turn was).2 }
theorem acts_wo (hx : X.N[k]? = some x) (b : Mv) (was : Ep) : (b.turn was).1.foldl (Wo.act k x.own) (X.put k { x with m := (b.turn was).2 }) = X.overs k x b was := by
  unfold Wo.overs
  by_cases ht : b.turns
  · rw [if_pos ht]
    have e : (b.turn was).1 = [(3, -1, b.own.1, b.own.2, b.top.1, b.top.2), (5, (b.me : Int), b.own.1, b.own.2, 0, 0)] ++ tailA b.me b.own b.top b.own := by rw [Mv.turn, if_pos ht]
    rw [e, List.foldl_append, tail_no, List.foldl_cons, List.foldl_cons, List.foldl_nil]
    have e1 : Wo.act k x.own (X.put k { x with m := (b.turn was).2 }) (3, -1, b.own.1, b.own.2, b.top.1, b.top.2) = { X.put k { x with m := (b.turn was).2 } with bag := X.bag ++ oth X.N.length k ⟨7, (k : Int), 0, b.own, b.top, 0, 0⟩ } := by
      unfold Wo.act
      rw [if_pos rfl]
      simp only [Wo.put, List.length_set]
    rw [e1]
    unfold Wo.act
    rw [if_neg (by show ¬ (5 : Int) = 3; decide), if_pos rfl]
    have hg : (X.N.set k { x with m := (b.turn was).2 })[k]? = some { x with m := (b.turn was).2 } := set_self hx
    simp only [Wo.put, hg, List.set_set]
  · rw [if_neg ht]
    have e : (b.turn was).1 = tailA b.me b.own b.top was := by rw [Mv.turn, if_neg ht]
    rw [e, tail_no]
theorem Wi.overs (hI : Wi ex X) (hx : X.N[k]? = some x) {b : Mv} (hu : Up X k x.m b) (was : Ep) : Wi ex (X.overs k x b was) := by
  have h1 : Wi ex (X.put k { x with m := (b.turn was).2 }) := hu.turn hI hx was (X' := X.put k { x with m := (b.turn was).2 }) rfl rfl rfl rfl hI.wrong
  have hok := hI.ok k x hx
  unfold Wo.overs
  by_cases ht : b.turns
  · rw [if_pos ht]
    let x1 : No := { x with m := (b.turn was).2 }
    let x2 : No := { x with m := (b.turn was).2, wait := x.own :: x.wait }
    have hx1 : (X.put k x1).N[k]? = some x1 := set_self hx
    let X2 : Wo := { X with N := X.N.set k x2, ended := X.ended + 1 }
    have hok1 := h1.ok k x1 hx1
    have h2 : Wi ex X2 := h1.plain (x' := x2) (X' := X2) hx1 rfl hok.ri hok.he (fun _ => rfl) (fun _ _ => rfl) (by show X.N.set k x2 = (X.N.set k x1).set k x2; rw [List.set_set]) rfl rfl rfl hI.wrong rfl hI.ex
    have hx2 : X2.N[k]? = some x2 := set_self hx
    have hl2 : X2.N.length = X.N.length := List.length_set
    have hbm : b.me = k := by rw [hu.me, hok.me]
    have hown := own_live hu.wf
    rw [hbm] at hown
    have ho : b.own = (gI b.kn k, (k : Int)) := by
      rcases hown with ⟨_, h, _⟩ | ⟨_, _, h⟩
      · exact h
      · have := ht.1; rw [h] at this; cases this
    have e2 : (b.turn was).2 = { b with fi := b.fi.set b.me b.own.1 } := by rw [Mv.turn, if_pos ht]
    have hkn : gI x2.m.kn k = gI b.kn k := by show gI (b.turn was).2.kn k = _; rw [e2]
    have hfi : gI x2.m.kn k ≤ gI x2.m.fi k := by
      rw [hkn]
      show _ ≤ gI (b.turn was).2.fi k
      rw [e2]
      show _ ≤ gI (b.fi.set b.me b.own.1) k
      have h16 := hu.wf.n
      have hm := hu.wf.me
      rw [hbm, gI_set (by rw [hu.wf.fl]; omega), if_pos rfl, ho]; exact Int.le_refl _
    have htop := (top_of_own hu.wf ht.1).2
    have hv : EpOk X2 b.top := by
      rcases top_some hu.wf with ⟨_, h⟩ | ⟨_, h, _⟩
      · rw [h] at htop; cases htop
      · obtain ⟨j, hj, _, he⟩ := mem_lives.1 h
        have hjn : j < X.N.length := by rw [hu.n, hok.nn] at hj; exact hj
        right
        by_cases hjk : j = k
        · subst hjk
          exact ⟨j, x2, by rw [he], hx2, by rw [he, hkn]; exact Int.le_refl _⟩
        · have hy := List.getElem?_eq_getElem hjn
          exact ⟨j, X.N[j], by rw [he], by show (X.N.set k x2)[j]? = _; rw [set_ne hjk]; exact hy, by rw [he]; exact hu.ko j _ hy hjk⟩
    refine sent h2 (ms := oth X.N.length k ⟨7, (k : Int), 0, b.own, b.top, 0, 0⟩) (fun m hm => ?_) (by rw [bsum_oth]; simp) hI.ex
    obtain ⟨j, hj, rfl⟩ := oth_mem hm
    rw [ho, ← hkn]
    exact ok_over hx2 hfi hv (by rw [hl2]; exact hj)
  · rw [if_neg ht]; exact h1
theorem overs_get (hx : X.N[k]? = some x) (b : Mv) (was : Ep) : ∃ x2, (X.overs k x b was).N[k]? = some x2 ∧ x2.ri = x.ri ∧ x2.he = x.he ∧ (X.overs k x b was).N.length = X.N.length := by
  unfold Wo.overs
  split
  · exact ⟨_, set_self hx, rfl, rfl, by simp⟩
  · exact ⟨_, set_self hx, rfl, rfl, by simp [Wo.put]⟩
theorem Bd.overs (h : Bd c X) (hx : X.N[k]? = some x) (hn : X.N.length ≤ 5) (b : Mv) (was : Ep) : Bd (c + 5) (X.overs k x b was) := by
  have hw := h.wait k x hx
  have hb := h.begun; have he := h.ended; have ht := h.turn; have hbag := h.bag
  have h5 := h.mono (d := c + 5) (by omega)
  unfold Wo.overs
  split
  · refine h5.put hx rfl (by show ((x.wait.length + 1 : Nat) : Int) ≤ _; omega) ?_ (by dsimp only; omega) (by dsimp only; omega) (by dsimp only; omega)
    have := oth_len (n := X.N.length) (k := k) ⟨7, (k : Int), 0, b.own, b.top, 0, 0⟩
    show ((X.bag ++ _).length : Int) ≤ _
    rw [List.length_append]; omega
  · exact h5.put (X' := X.put k { x with m := (b.turn was).2 }) hx rfl (by show (x.wait.length : Int) ≤ _; omega) (by show (X.bag.length : Int) ≤ _; omega) (by show 0 ≤ X.begun ∧ X.begun ≤ _; omega) (by show 0 ≤ X.ended ∧ X.ended ≤ _; omega) (by show 0 ≤ X.turn ∧ X.turn ≤ _; omega)
theorem gain_eq {r : Int} (hx : X.N[k]? = some x) : X.gain k r = X.put k { x with ri := x.ri + r } := by unfold Wo.gain; rw [hx]
theorem Wi.gain {r : Int} (hI : Wi r X) (hx : X.N[k]? = some x) : Wi 0 (X.gain k r) := by
  have hok := hI.ok k x hx
  rw [gain_eq hx]
  exact hI.plain (x' := { x with ri := x.ri + r }) hx rfl (by show 0 ≤ x.ri + r; have := hok.ri; have := hI.ex; omega) hok.he (fun _ => rfl) (fun _ _ => rfl) rfl rfl rfl rfl hI.wrong (by show (x.ri + r + x.he) + 0 = _; omega) (Int.le_refl 0)
theorem Bd.gain {r : Int} (h : Bd c X) (hx : X.N[k]? = some x) : Bd c (X.gain k r) ∧ (X.gain k r).N.length = X.N.length := by
  rw [gain_eq hx]
  exact ⟨h.put (X' := X.put k { x with ri := x.ri + r }) hx rfl (h.wait k x hx) h.bag h.begun h.ended h.turn, by simp [Wo.put]⟩
theorem heard_ok {m : Ms} (hI : Wi m.ri X) (hx : X.N[k]? = some x) (hm : MsOk X m) (hB : Bd c X) : Wi 0 (X.heardX m k x) ∧ Bd (c + 5) (X.heardX m k x) ∧ (X.heardX m k x).N.length = X.N.length := by
  have hok := hI.ok k x hx
  unfold Wo.heardX
  by_cases hk : m.kind = 3 ∨ m.kind = 5 ∨ m.kind = 7
  · obtain ⟨b, hu, he⟩ := hears_turn hI hx hm hk
    rw [he, acts_wo hx]
    obtain ⟨x2, hx2, _, _, hl⟩ := overs_get (X := X) hx b x.m.top
    have h1 := hI.overs hx hu x.m.top
    have h2 := hB.overs hx hI.n.2 b x.m.top
    have h3 := h2.gain (r := m.ri) hx2
    exact ⟨h1.gain hx2, h3.1, by rw [h3.2, hl]⟩
  · have e : x.hears m = ([], if m.kind = 4 then x.m.report m.fr m.e m.he else x.m) := by
      unfold No.hears
      rw [if_neg (fun h => hk (.inl h)), if_neg (fun h => hk (.inr (.inl h))), if_neg (fun h => hk (.inr (.inr h)))]
    rw [e, List.foldl_nil]
    have h1 : Wi m.ri (X.put k { x with m := if m.kind = 4 then x.m.report m.fr m.e m.he else x.m }) := by
      by_cases h4 : m.kind = 4
      · rw [if_pos h4]
        exact hI.report hx hm h4 (X' := X.put k { x with m := x.m.report m.fr m.e m.he }) rfl rfl rfl rfl hI.wrong
      · rw [if_neg h4]
        exact hI.plain (x' := x) hx rfl hok.ri hok.he (fun _ => rfl) (fun _ _ => rfl) rfl rfl rfl rfl hI.wrong rfl hI.ex
    have hx1 : (X.put k { x with m := if m.kind = 4 then x.m.report m.fr m.e m.he else x.m }).N[k]? = some { x with m := if m.kind = 4 then x.m.report m.fr m.e m.he else x.m } := set_self hx
    have hB1 : Bd (c + 5) (X.put k { x with m := if m.kind = 4 then x.m.report m.fr m.e m.he else x.m }) := by
      have h5 := hB.mono (d := c + 5) (by omega)
      exact h5.put (X' := X.put k { x with m := if m.kind = 4 then x.m.report m.fr m.e m.he else x.m }) hx rfl (h5.wait k x hx) h5.bag h5.begun h5.ended h5.turn
    have h3 := hB1.gain (r := m.ri) hx1
    exact ⟨h1.gain hx1, h3.1, by rw [h3.2]; simp [Wo.put]⟩
theorem comes_ok {m : Ms} (hI : Wi m.ri X) (hm : MsOk X m) (hB : Bd c X) (hc : c ≤ 999999970000) : Wi 0 (X.comes m) ∧ Bd (c + 10005) (X.comes m) ∧ (X.comes m).N.length = X.N.length := by
  obtain ⟨t, ht, htn⟩ := hm.to
  have htt : m.to.toNat = t := by omega
  have hx := List.getElem?_eq_getElem htn
  unfold Wo.comes
  rw [htt, hx]
  obtain ⟨h1, h2, h3⟩ := heard_ok hI hx hm hB
  obtain ⟨a1, a2, a3⟩ := settle_ok h1 h2 (by omega) t
  exact ⟨a1, a2.mono (by omega), by show ((X.heardX m t X.N[t]).settle t).N.length = _; rw [a3, h3]⟩
theorem wi2_in {x n : Int} (hn : 1 ≤ n) : 0 ≤ wi2 x n ∧ wi2 x n < n := by
  unfold wi2
  have h0 : 0 ≤ (if x < 0 then -(x + 1) else x) := by split <;> omega
  exact ⟨Int.tmod_nonneg _ h0, Int.tmod_lt_of_pos _ (by omega)⟩
theorem take_ok {k : Nat} {m : Ms} (hI : Wi 0 X) (hm : X.bag[k]? = some m) : Wi m.ri (X.takeOut k) ∧ MsOk (X.takeOut k) m := by
  have hmem : m ∈ X.bag := List.mem_of_getElem? hm
  have hok := hI.bag m hmem
  obtain ⟨hlt, hme⟩ := List.getElem?_eq_some_iff.1 hm
  have hs : bsum X.bag = bsum (X.bag.take k ++ X.bag.drop (k + 1)) + m.ri := by
    conv => lhs; rw [← List.take_append_drop k X.bag, List.drop_eq_getElem_cons hlt]
    rw [bsum_app, bsum_app, hme]
    have : bsum (m :: X.bag.drop (k + 1)) = m.ri + bsum (X.bag.drop (k + 1)) := by simp [bsum]
    omega
  refine ⟨hI.bags (X' := X.takeOut k) rfl rfl rfl hI.wrong (fun z hz => hI.bag z ?_) (by show bsum (X.bag.take k ++ X.bag.drop (k + 1)) + m.ri = _; omega) hok.ri, MsOk.same (X := X) (X' := X.takeOut k) rfl hok⟩
  rcases List.mem_append.1 hz with hz | hz
  · exact List.mem_of_mem_take hz
  · exact List.mem_of_mem_drop hz
theorem moves_ok (hI : Wi 0 X) (hx : X.N[k]? = some x) (hB : Bd c X) (hf : someE x.m.top = false) (s : Stp) : Wi 0 (X.moves k x s) ∧ Bd (c + 1) (X.moves k x s) ∧ (X.moves k x s).N.length = X.N.length := by
  have hok := hI.ok k x hx
  have hri := hok.ri; have hhe := hok.he
  have hlt := get_lt hx
  have hno : ∀ i, i < X.N.length → x.m.lv i = false := fun i hi => not_frozen hok.wf hf (by rw [hok.nn]; exact hi)
  have hB1 := hB.mono (d := c + 1) (by omega)
  have hw := hB1.wait k x hx
  have h4 := wi2_in (x := s.a) (n := 4) (by decide)
  have hbag := hB.bag
  unfold Wo.moves
  have hmv : ∀ d, 0 ≤ x.ri - d → 0 ≤ x.he + d → Wi 0 (X.put k (x.mv d)) ∧ Bd (c + 1) (X.put k (x.mv d)) ∧ (X.put k (x.mv d)).N.length = X.N.length := fun d h1 h2 =>
    ⟨hI.plain (x' := x.mv d) hx rfl h1 h2 (fun _ => rfl) (fun _ ⟨i, hi, _, hl⟩ => by rw [hno i hi] at hl; cases hl) rfl rfl rfl rfl hI.wrong (by show (x.ri - d + (x.he + d)) + 0 = _; omega) (Int.le_refl 0),
     hB1.put (X' := X.put k (x.mv d)) hx rfl hw hB1.bag hB1.begun hB1.ended hB1.turn, by simp [Wo.put]⟩
  split
  · exact hmv _ (by omega) (by omega)
  · split
    · exact hmv _ (by omega) (by omega)
    · split
      · split
        · rename_i hc
          have hto := wi2_in (x := s.b) (n := (X.N.length : Int)) (by omega)
          obtain ⟨t, ht⟩ := Int.eq_ofNat_of_zero_le hto.1
          generalize hq : min (wi2 s.a 4) x.ri = q at hc
          have hq0 : 0 ≤ q ∧ q ≤ x.ri := by omega
          have h1 : Wi q (X.put k { x with ri := x.ri - q }) := hI.plain (x' := { x with ri := x.ri - q }) hx rfl (by show 0 ≤ x.ri - q; omega) hhe (fun _ => rfl) (fun _ _ => rfl) rfl rfl rfl rfl hI.wrong (by show (x.ri - q + x.he) + q = _; omega) hq0.1
          have hl1 : (X.put k { x with ri := x.ri - q }).N.length = X.N.length := by simp [Wo.put]
          refine ⟨sent h1 (ms := [⟨9, (k : Int), wi2 s.b X.N.length, (0, 0), (0, 0), q, 0⟩]) (fun m hm => ?_) (by simp [bsum]) (Int.le_refl 0), ?_, by simp⟩
          · simp at hm; subst hm
            rw [ht]
            exact ok_give (by rw [hl1]; exact hlt) hq0.1 (by rw [hl1]; omega)
          · refine hB1.put (x' := { x with ri := x.ri - q }) hx rfl hw ?_ hB1.begun hB1.ended hB1.turn
            show ((X.bag ++ _).length : Int) ≤ _
            rw [List.length_append]; simp; omega
        · exact ⟨hI, hB1, rfl⟩
      · exact ⟨hI, hB1, rfl⟩
theorem step_ok (hI : Wi 0 X) (hB : Bd c X) (hc : c ≤ 999999960000) (s : Stp) : Wi 0 (X.step s) ∧ Bd (c + 10010) (X.step s) ∧ (X.step s).N.length = X.N.length := by
  have hn := hI.n
  have hw := wi2_in (x := s.who) (n := (X.N.length : Int)) (by omega)
  have hit : (wi2 s.who X.N.length).toNat < X.N.length := by omega
  unfold Wo.step
  rw [List.getElem?_eq_getElem hit]
  show Wi 0 (X.stepX s (wi2 s.who X.N.length).toNat X.N[(wi2 s.who X.N.length).toNat]) ∧ Bd (c + 10010) (X.stepX s (wi2 s.who X.N.length).toNat X.N[(wi2 s.who X.N.length).toNat]) ∧ (X.stepX s (wi2 s.who X.N.length).toNat X.N[(wi2 s.who X.N.length).toNat]).N.length = X.N.length
  have hx := List.getElem?_eq_getElem hit
  generalize (wi2 s.who X.N.length).toNat = i at hit hx
  generalize X.N[i] = x at hx
  have hok := hI.ok i x hx
  have hbag := hB.bag
  unfold Wo.stepX
  split
  · rename_i hk
    have hwb := wi2_in (x := s.a) (n := (X.bag.length : Int)) (by omega)
    have hbt : (wi2 s.a X.bag.length).toNat < X.bag.length := by omega
    rw [List.getElem?_eq_getElem hbt]
    obtain ⟨h1, h2⟩ := take_ok hI (List.getElem?_eq_getElem hbt)
    have h3 : Bd c (X.takeOut (wi2 s.a X.bag.length).toNat) := ⟨by
      show ((X.bag.take _ ++ X.bag.drop _).length : Int) ≤ _
      rw [List.length_append, List.length_take, List.length_drop]; omega, hB.begun, hB.ended, hB.turn, hB.wait⟩
    obtain ⟨a1, a2, a3⟩ := comes_ok h1 h2 h3 (by omega)
    exact ⟨a1, a2.mono (by omega), a3⟩
  · split
    · have hB1 := hB.mono (d := c + 1) (by omega)
      have h1 : Wi 0 (X.put i { x with wait := x.wait ++ [s.all] }) := hI.plain (x' := { x with wait := x.wait ++ [s.all] }) hx rfl hok.ri hok.he (fun _ => rfl) (fun _ _ => rfl) rfl rfl rfl rfl hI.wrong rfl (Int.le_refl 0)
      have h2 : Bd (c + 1) (X.put i { x with wait := x.wait ++ [s.all] }) := hB1.put (X' := X.put i { x with wait := x.wait ++ [s.all] }) hx rfl (by show ((x.wait ++ [s.all]).length : Int) ≤ _; rw [List.length_append]; have := hB.wait i x hx; simp; omega) hB1.bag hB1.begun hB1.ended hB1.turn
      have hl : (X.put i { x with wait := x.wait ++ [s.all] }).N.length = X.N.length := by simp [Wo.put]
      split
      · exact ⟨h1, h2.mono (by omega), hl⟩
      · obtain ⟨a1, a2, a3⟩ := settle_ok h1 h2 (by omega) i
        exact ⟨a1, a2.mono (by omega), by rw [a3, hl]⟩
    · split
      · split
        · rename_i ho
          have hl : x.m.lv i = true := by
            have := own_live hok.wf
            rw [hok.me] at this
            rcases this with ⟨h, _⟩ | ⟨_, h, _⟩
            · exact h
            · rw [h] at ho; exact absurd ho (by decide)
          obtain ⟨a1, a2, a3⟩ := settle_ok (hI.fin hx hl) (hB.fin hx hn.2) (by omega) i
          exact ⟨a1, a2.mono (by omega), by rw [a3, fin_len]⟩
        · exact ⟨hI, hB.mono (by omega), rfl⟩
      · split
        · rename_i hk
          obtain ⟨a1, a2, a3⟩ := moves_ok hI hx hB hk.2 s
          exact ⟨a1, a2.mono (by omega), a3⟩
        · exact ⟨hI, hB.mono (by omega), rfl⟩
end
end Go.Proofs.Ytmfbmfppjdkeeaa

namespace Go.Proofs.Ytmfbmfppjdkeeaa
open Go Go.Fw Go.Proofs
set_option maxRecDepth 100000
set_option linter.unusedVariables false

/-- sluice/sluicelaw11.EpochGathers -/
def T7 (p0 : Int) (p1 : Sl) (p2 : Sl) (w : World) (K : Bool → World → Prop) : Prop :=
  CallK Try.prog .ptr 10 #[.int .i64 p0, .slice p1.a p1.len p1.cap] w fun t11 w =>
  JoinX (α := Bool × Unit) (fun j2 w =>
    SplitB j2.1
      (K false w)
      (LoopX (α := Int × Unit) (fun s3 w k4 =>
        JoinX (α := Bool × Unit) (fun j6 w =>
          SplitB j6.1
            (RunN Try.prog .addr (V (Instr.indexAt 27 (.slice p2.a p2.len p2.cap) (.int .i64 s3.1))) w fun t31 w =>
            RunN Try.prog (.agg (.cons (.int .i64) (.cons (.int .i64) (.cons (.int .i64) (.cons (.int .i64) (.cons .bool .nilT)))))) (V (Instr.loadAt 33 (.pointer (some t31)))) w fun t32 w =>
            CallK Try.prog (.tup .nilT) 12 #[.pointer t11, .agg #[.int .i64 t32.1, .int .i64 t32.2.1, .int .i64 t32.2.2.1, .int .i64 t32.2.2.2.1, .bool t32.2.2.2.2.1]] w fun t33 w =>
            JoinX (α := Bool × Unit) (fun j8 w =>
              SplitB j8.1
                (K false w)
                (k4 (IntKind.i64.wrap (s3.1 + 1), ()) w))
            fun k7 =>
              NilP t11 fun t35 =>
              RunN Try.prog .bool (V (Instr.loadAt 4 (.pointer (some (t35.add 6))))) w fun t37 w =>
              SplitB t37
                (k7 (true, ()) w)
                (CallK Try.prog .bool 13 #[.pointer t11] w fun t40 w =>
                k7 (!t40, ()) w))
            (K true w))
        fun k5 =>
          SplitB (decide (s3.1 < (p2.len : Int)))
            (k5 (decide (s3.1 < 120), ()) w)
            (k5 (false, ()) w))
      (0, ()) w))
  fun k1 =>
    CallK Try.prog .bool 11 #[] w fun t12 w =>
    SplitB (!t12)
      (k1 (true, ()) w)
      (RunN Try.prog .bool (V (do eqGuard .eql 28 (.tmp 15) (.const (.pointer none)) (.pointer t11) (.pointer none); binOp .eql 28 (.pointer t11) (.pointer none))) w fun t16 w =>
      k1 (t16, ()) w)
theorem T7.calls {p0 : Int} {p1 : Sl} {p2 : Sl} {w : World} {K : Bool → World → Prop} (h : T7 p0 p1 p2 w K) : CallK Try.prog .bool 7 #[.int .i64 p0, .slice p1.a p1.len p1.cap, .slice p2.a p2.len p2.cap] w K :=
  bodyZ_sound (κ := kappa) (ann := [(3, [(17, .bool)]), (7, [(8, (.int .i64))]), (9, [(25, .bool)]), (12, [(42, .bool)])]) (fn := Try.f7) Try.func7 rfl (by kernel_rfl) (cast (show T7 p0 p1 p2 w K = bodyZ Try.prog kappa [(3, [(17, .bool)]), (7, [(8, (.int .i64))]), (9, [(25, .bool)]), (12, [(42, .bool)])] .bool Try.f7 [.int .i64 p0, .slice p1.a p1.len p1.cap, .slice p2.a p2.len p2.cap] w K by kernel_rfl) h)

/-- sluice/sluicelaw11.EpochRests -/
def T8 (p0 : Int) (p1 : Sl) (p2 : Sl) (p3 : Sl) (w : World) (K : Bool → World → Prop) : Prop :=
  CallK Try.prog .ptr 10 #[.int .i64 p0, .slice p1.a p1.len p1.cap] w fun t14 w =>
  JoinX (α := Bool × Unit) (fun j2 w =>
    SplitB j2.1
      (K false w)
      (LoopX (α := Int × Unit) (fun s3 w k4 =>
        JoinX (α := Bool × Unit) (fun j6 w =>
          SplitB j6.1
            (RunN Try.prog .addr (V (Instr.indexAt 27 (.slice p2.a p2.len p2.cap) (.int .i64 s3.1))) w fun t34 w =>
            RunN Try.prog (.agg (.cons (.int .i64) (.cons (.int .i64) (.cons (.int .i64) (.cons (.int .i64) (.cons .bool .nilT)))))) (V (Instr.loadAt 33 (.pointer (some t34)))) w fun t35 w =>
            CallK Try.prog (.tup .nilT) 12 #[.pointer t14, .agg #[.int .i64 t35.1, .int .i64 t35.2.1, .int .i64 t35.2.2.1, .int .i64 t35.2.2.2.1, .bool t35.2.2.2.2.1]] w fun t36 w =>
            k4 (IntKind.i64.wrap (s3.1 + 1), ()) w)
            (CallK Try.prog .bool 14 #[.pointer t14, .slice p3.a p3.len p3.cap] w fun t39 w =>
            SplitB (!t39)
              (K false w)
              (NilP t14 fun t42 =>
              RunN Try.prog (.int .i64) (V (Instr.loadAt 3 (.pointer (some (t42.add 4))))) w fun t44 w =>
              CallK Try.prog (.tup .nilT) 12 #[.pointer t14, .agg #[.int .i64 1, .int .i64 (p3.len : Int), .int .i64 0, .int .i64 0, .bool false]] w fun t49 w =>
              CallK Try.prog .bool 14 #[.pointer t14, .slice p3.a p3.len p3.cap] w.drew fun t52 w =>
              SplitB t52
                (NilP t14 fun t55 =>
                ReadN Try.prog (.int .i64) (V (Instr.loadAt 3 (.pointer (some (t55.add 4))))) w fun t57 =>
                SplitB (t57 == (IntKind.i64.wrap (t44 + 1)))
                  (NilP t14 fun t64 =>
                  ReadN Try.prog (.int .i64) (V (Instr.loadAt 3 (.pointer (some (t64.add 3))))) w fun t66 =>
                  NilP t14 fun t68 =>
                  ReadN Try.prog (.int .i64) (V (Instr.loadAt 3 (.pointer (some (t68.add 4))))) w fun t70 =>
                  K (t66 == t70) w)
                  (K false w))
                (K false w))))
        fun k5 =>
          SplitB (decide (s3.1 < (p2.len : Int)))
            (k5 (decide (s3.1 < 120), ()) w)
            (k5 (false, ()) w))
      (0, ()) w))
  fun k1 =>
    CallK Try.prog .bool 11 #[] w fun t15 w =>
    SplitB (!t15)
      (k1 (true, ()) w)
      (RunN Try.prog .bool (V (do eqGuard .eql 28 (.tmp 18) (.const (.pointer none)) (.pointer t14) (.pointer none); binOp .eql 28 (.pointer t14) (.pointer none))) w fun t19 w =>
      k1 (t19, ()) w)
theorem T8.calls {p0 : Int} {p1 : Sl} {p2 : Sl} {p3 : Sl} {w : World} {K : Bool → World → Prop} (h : T8 p0 p1 p2 p3 w K) : CallK Try.prog .bool 8 #[.int .i64 p0, .slice p1.a p1.len p1.cap, .slice p2.a p2.len p2.cap, .slice p3.a p3.len p3.cap] w K :=
  bodyZ_sound (κ := kappa) (ann := [(3, [(20, .bool)]), (7, [(10, (.int .i64))]), (9, [(28, .bool)])]) (fn := Try.f8) Try.func8 rfl (by kernel_rfl) (cast (show T8 p0 p1 p2 p3 w K = bodyZ Try.prog kappa [(3, [(20, .bool)]), (7, [(10, (.int .i64))]), (9, [(28, .bool)])] .bool Try.f8 [.int .i64 p0, .slice p1.a p1.len p1.cap, .slice p2.a p2.len p2.cap, .slice p3.a p3.len p3.cap] w K by kernel_rfl) h)

/-- sluice/sluicelaw11.made -/
def T10 (p0 : Int) (p1 : Sl) (w : World) (K : Option Addr → World → Prop) : Prop :=
  CallK Try.prog (.int .i64) 18 #[.int .i64 p0, .int .i64 4] w fun t12 w =>
  RunN Try.prog .addr (V (Instr.box 37 (.agg #[.slice none 0 0, .slice none 0 0, .int .i64 0, .int .i64 0, .int .i64 0, .int .i64 0, .bool false]))) w fun t15 w =>
  LoopX (α := Int × Unit) (fun s1 w k2 =>
    SplitB (decide (s1.1 < (IntKind.i64.wrap (2 + t12))))
      (CallK Try.prog (.tup (.cons .ptr (.cons (.int .i64) .nilT))) 19 #[.int .i64 s1.1, .int .i64 (IntKind.i64.wrap (2 + t12))] w fun t24 w =>
      JoinX (α := Bool × Unit) (fun j4 w =>
        SplitB j4.1
          (K none w)
          (RunN Try.prog .addr (V (Instr.box 65 (.agg #[.pointer t24.1, .int .i64 0, .int .i64 0, .slice none 0 0, .bool false, .int .i64 0, .int .i64 0, .bool false]))) w fun t35 w =>
          JoinX (α := Unit) (fun j6 w =>
            RunN Try.prog .sl (V (Instr.loadAt 34 (.pointer (some (t15.add 0))))) w fun t52 w =>
            RunN Try.prog .sl (V (Instr.buildSlice 34 1 #[(0, .pointer (some t35))])) w fun t54 w =>
            RunN Try.prog .sl (V (Builtin.append_ #[34, 34] 34 #[.slice t52.a t52.len t52.cap, .slice t54.a t54.len t54.cap])) w fun t55 w =>
            RunU Try.prog (U (Instr.storeAt 34 (.pointer (some (t15.add 0))) (.slice t55.a t55.len t55.cap))) w fun w =>
            ReadN Try.prog (.int .i64) (V (Instr.loadAt 3 (.pointer (some (t15.add 2))))) w.drew fun t61 =>
            ReadN Try.prog (.int .i64) (V (Instr.loadAt 3 (.pointer (some (t35.add 1))))) w.drew fun t65 =>
            RunU Try.prog (U (Instr.storeAt 3 (.pointer (some (t15.add 2))) (.int .i64 (IntKind.i64.wrap (t61 + t65))))) w.drew fun w =>
            k2 (IntKind.i64.wrap (s1.1 + 1), ()) w)
          fun k5 =>
            SplitB (decide (s1.1 < (p1.len : Int)))
              (RunN Try.prog .addr (V (Instr.indexAt 26 (.slice p1.a p1.len p1.cap) (.int .i64 s1.1))) w fun t43 w =>
              RunN Try.prog (.int .i64) (V (Instr.loadAt 3 (.pointer (some t43)))) w fun t44 w =>
              CallK Try.prog (.int .i64) 18 #[.int .i64 t44, .int .i64 7] w fun t45 w =>
              RunU Try.prog (U (Instr.storeAt 3 (.pointer (some (t35.add 1))) (.int .i64 t45))) w fun w =>
              k5 () w)
              (k5 () w)))
      fun k3 =>
        RunN Try.prog .bool (V (do eqGuard .eql 42 (.tmp 27) (.const (.pointer none)) (.pointer t24.1) (.pointer none); binOp .eql 42 (.pointer t24.1) (.pointer none))) w fun t28 w =>
        SplitB t28
          (k3 (true, ()) w)
          (k3 (t24.2.1 != 0, ()) w))
      (RunN Try.prog (.int .i64) (V (Instr.loadAt 3 (.pointer (some (t15.add 2))))) w fun t72 w =>
      SplitB (t72 == 0)
        (RunN Try.prog .sl (V (Instr.loadAt 34 (.pointer (some (t15.add 0))))) w fun t77 w =>
        RunN Try.prog .addr (V (Instr.indexAt 34 (.slice t77.a t77.len t77.cap) (.int .i64 0))) w fun t78 w =>
        RunN Try.prog .ptr (V (Instr.loadAt 62 (.pointer (some t78)))) w fun t79 w =>
        NilP t79 fun t80 =>
        RunU Try.prog (U (Instr.storeAt 3 (.pointer (some (t80.add 1))) (.int .i64 1))) w fun w =>
        RunU Try.prog (U (Instr.storeAt 3 (.pointer (some (t15.add 2))) (.int .i64 1))) w fun w =>
        K (some t15) w)
        (K (some t15) w)))
  (0, ()) w
theorem T10.calls {p0 : Int} {p1 : Sl} {w : World} {K : Option Addr → World → Prop} (h : T10 p0 p1 w K) : CallK Try.prog .ptr 10 #[.int .i64 p0, .slice p1.a p1.len p1.cap] w K :=
  bodyZ_sound (κ := kappa) (ann := [(5, [(7, (.int .i64))]), (11, [(32, .bool)]), (14, [])]) (fn := Try.f10) Try.func10 rfl (by kernel_rfl) (cast (show T10 p0 p1 w K = bodyZ Try.prog kappa [(5, [(7, (.int .i64))]), (11, [(32, .bool)]), (14, [])] .ptr Try.f10 [.int .i64 p0, .slice p1.a p1.len p1.cap] w K by kernel_rfl) h)

/-- (*sluice/sluicelaw11.world).step -/
def T12 (p0 : Option Addr) (p1 : (Int × Int × Int × Int × Bool × Unit)) (w : World) (K : Unit → World → Prop) : Prop :=
  RunN Try.prog .addr (V (Instr.box 33 (.agg #[.int .i64 p1.1, .int .i64 p1.2.1, .int .i64 p1.2.2.1, .int .i64 p1.2.2.2.1, .bool p1.2.2.2.2.1]))) w fun t3 w =>
  ReadN Try.prog (.int .i64) (V (Instr.loadAt 3 (.pointer (some (t3.add 1))))) w.drew fun t11 =>
  NilP p0 fun t13 =>
  ReadN Try.prog .sl (V (Instr.loadAt 34 (.pointer (some (t13.add 0))))) w.drew fun t15 =>
  CallK Try.prog (.int .i64) 18 #[.int .i64 t11, .int .i64 (t15.len : Int)] w.drew fun t17 w =>
  NilP p0 fun t19 =>
  RunN Try.prog .sl (V (Instr.loadAt 34 (.pointer (some (t19.add 0))))) w fun t21 w =>
  RunN Try.prog .addr (V (Instr.indexAt 34 (.slice t21.a t21.len t21.cap) (.int .i64 t17))) w fun t23 w =>
  RunN Try.prog .ptr (V (Instr.loadAt 62 (.pointer (some t23)))) w fun t24 w =>
  JoinX (α := Bool × Unit) (fun j2 w =>
    SplitB j2.1
      (ReadN Try.prog (.int .i64) (V (Instr.loadAt 3 (.pointer (some (t3.add 2))))) w.drew fun t38 =>
      NilP p0 fun t40 =>
      ReadN Try.prog .sl (V (Instr.loadAt 35 (.pointer (some (t40.add 1))))) w.drew fun t42 =>
      CallK Try.prog (.int .i64) 18 #[.int .i64 t38, .int .i64 (t42.len : Int)] w.drew fun t44 w =>
      NilP p0 fun t46 =>
      RunN Try.prog .sl (V (Instr.loadAt 35 (.pointer (some (t46.add 1))))) w fun t48 w =>
      RunN Try.prog .addr (V (Instr.indexAt 35 (.slice t48.a t48.len t48.cap) (.int .i64 t44))) w fun t50 w =>
      RunN Try.prog (.agg (.cons (.int .i64) (.cons (.int .i64) (.cons (.int .i64) (.cons (.int .i64) (.cons (.int .i64) (.cons (.int .i64) (.cons (.int .i64) (.cons (.int .i64) (.cons (.int .i64) .nilT)))))))))) (V (Instr.loadAt 73 (.pointer (some t50)))) w fun t51 w =>
      RunN Try.prog .addr (V (Instr.alloc 73 true (.tuple #[]))) w fun t7 w =>
      RunU Try.prog (U (Instr.storeAt 73 (.pointer (some t7)) (.agg #[.int .i64 t51.1, .int .i64 t51.2.1, .int .i64 t51.2.2.1, .int .i64 t51.2.2.2.1, .int .i64 t51.2.2.2.2.1, .int .i64 t51.2.2.2.2.2.1, .int .i64 t51.2.2.2.2.2.2.1, .int .i64 t51.2.2.2.2.2.2.2.1, .int .i64 t51.2.2.2.2.2.2.2.2.1]))) w fun w =>
      NilP p0 fun t54 =>
      RunN Try.prog .sl (V (Instr.loadAt 35 (.pointer (some (t54.add 1))))) w fun t56 w =>
      RunN Try.prog .sl (V (Instr.sliceAt 35 (.slice t56.a t56.len t56.cap) none (some (.int .i64 t44)) none)) w fun t58 w =>
      RunN Try.prog .sl (V (Builtin.append_ #[35, 35] 35 #[.slice none 0 0, .slice t58.a t58.len t58.cap])) w fun t59 w =>
      NilP p0 fun t63 =>
      RunN Try.prog .sl (V (Instr.loadAt 35 (.pointer (some (t63.add 1))))) w fun t65 w =>
      RunN Try.prog .sl (V (Instr.sliceAt 35 (.slice t65.a t65.len t65.cap) (some (.int .i64 (IntKind.i64.wrap (t44 + 1)))) none none)) w fun t68 w =>
      RunN Try.prog .sl (V (Builtin.append_ #[35, 35] 35 #[.slice t59.a t59.len t59.cap, .slice t68.a t68.len t68.cap])) w fun t69 w =>
      NilP p0 fun t70 =>
      RunU Try.prog (U (Instr.storeAt 35 (.pointer (some (t70.add 1))) (.slice t69.a t69.len t69.cap))) w fun w =>
      RunN Try.prog (.agg (.cons (.int .i64) (.cons (.int .i64) (.cons (.int .i64) (.cons (.int .i64) (.cons (.int .i64) (.cons (.int .i64) (.cons (.int .i64) (.cons (.int .i64) (.cons (.int .i64) .nilT)))))))))) (V (Instr.loadAt 73 (.pointer (some t7)))) w fun t73 w =>
      CallK Try.prog (.tup .nilT) 23 #[.pointer p0, .agg #[.int .i64 t73.1, .int .i64 t73.2.1, .int .i64 t73.2.2.1, .int .i64 t73.2.2.2.1, .int .i64 t73.2.2.2.2.1, .int .i64 t73.2.2.2.2.2.1, .int .i64 t73.2.2.2.2.2.2.1, .int .i64 t73.2.2.2.2.2.2.2.1, .int .i64 t73.2.2.2.2.2.2.2.2.1]] w fun t74 w =>
      K () w)
      (RunN Try.prog (.int .i64) (V (Instr.loadAt 3 (.pointer (some (t3.add 0))))) w fun t77 w =>
      SplitB (t77 == 1)
        (NilP t24 fun t81 =>
        ReadN Try.prog .sl (V (Instr.loadAt 63 (.pointer (some (t81.add 3))))) w.drew fun t83 =>
        ReadN Try.prog .bool (V (Instr.loadAt 4 (.pointer (some (t3.add 4))))) w.drew fun t85 =>
        RunN Try.prog .sl (V (Instr.buildSlice 63 1 #[(0, .bool t85)])) w.drew fun t86 w =>
        StillV Try.prog (V (Instr.loadAt 63 (.pointer (some (t81.add 3))))) (.slice t83.a t83.len t83.cap) w ∧
        RunN Try.prog .sl (V (Builtin.append_ #[63, 63] 63 #[.slice t83.a t83.len t83.cap, .slice t86.a t86.len t86.cap])) w fun t87 w =>
        NilP t24 fun t88 =>
        RunU Try.prog (U (Instr.storeAt 63 (.pointer (some (t88.add 3))) (.slice t87.a t87.len t87.cap))) w fun w =>
        NilP t24 fun t91 =>
        RunN Try.prog .ptr (V (Instr.loadAt 42 (.pointer (some (t91.add 0))))) w fun t93 w =>
        CallK Try.prog .bool 22 #[.pointer t93] w fun t94 w =>
        SplitB (!t94)
          (CallK Try.prog (.tup .nilT) 24 #[.pointer p0, .int .i64 t17] w fun t98 w =>
          K () w)
          (K () w))
        (RunN Try.prog (.int .i64) (V (Instr.loadAt 3 (.pointer (some (t3.add 0))))) w fun t101 w =>
        SplitB (t101 == 6)
          (NilP t24 fun t104 =>
          RunN Try.prog .ptr (V (Instr.loadAt 42 (.pointer (some (t104.add 0))))) w fun t106 w =>
          CallK Try.prog (.agg (.cons (.int .i64) (.cons (.int .i64) .nilT))) 25 #[.pointer t106] w fun t107 w =>
          RunN Try.prog .addr (V (Instr.alloc 54 true (.tuple #[]))) w fun t9 w =>
          RunU Try.prog (U (Instr.storeAt 54 (.pointer (some t9)) (.agg #[.int .i64 t107.1, .int .i64 t107.2.1]))) w fun w =>
          RunN Try.prog (.int .i64) (V (Instr.loadAt 3 (.pointer (some (t9.add 0))))) w fun t109 w =>
          SplitB (decide (t109 > 0))
            (CallK Try.prog (.tup .nilT) 26 #[.pointer p0, .int .i64 t17] w fun t113 w =>
            CallK Try.prog (.tup .nilT) 24 #[.pointer p0, .int .i64 t17] w fun t116 w =>
            K () w)
            (K () w))
          (JoinX (α := Bool × Unit) (fun j4 w =>
            SplitB j4.1
              (RunN Try.prog (.agg (.cons (.int .i64) (.cons (.int .i64) (.cons (.int .i64) (.cons (.int .i64) (.cons .bool .nilT)))))) (V (Instr.loadAt 33 (.pointer (some t3)))) w fun t136 w =>
              CallK Try.prog (.tup .nilT) 27 #[.pointer p0, .int .i64 t17, .agg #[.int .i64 t136.1, .int .i64 t136.2.1, .int .i64 t136.2.2.1, .int .i64 t136.2.2.2.1, .bool t136.2.2.2.2.1]] w fun t137 w =>
              K () w)
              (K () w))
          fun k3 =>
            RunN Try.prog (.int .i64) (V (Instr.loadAt 3 (.pointer (some (t3.add 0))))) w fun t119 w =>
            SplitB (decide (t119 ≥ 3))
              (RunN Try.prog (.int .i64) (V (Instr.loadAt 3 (.pointer (some (t3.add 0))))) w fun t123 w =>
              SplitB (decide (t123 ≤ 5))
                (NilP t24 fun t128 =>
                RunN Try.prog .ptr (V (Instr.loadAt 42 (.pointer (some (t128.add 0))))) w fun t130 w =>
                CallK Try.prog .bool 22 #[.pointer t130] w fun t131 w =>
                k3 (!t131, ()) w)
                (k3 (false, ()) w))
              (k3 (false, ()) w)))))
  fun k1 =>
    RunN Try.prog (.int .i64) (V (Instr.loadAt 3 (.pointer (some (t3.add 0))))) w fun t27 w =>
    SplitB (t27 == 2)
      (NilP p0 fun t31 =>
      RunN Try.prog .sl (V (Instr.loadAt 35 (.pointer (some (t31.add 1))))) w fun t33 w =>
      k1 (decide ((t33.len : Int) > 0), ()) w)
      (k1 (false, ()) w)
theorem T12.calls {p0 : Option Addr} {p1 : (Int × Int × Int × Int × Bool × Unit)} {w : World} {K : Unit → World → Prop} (h : T12 p0 p1 w K) : CallK Try.prog (.tup .nilT) 12 #[.pointer p0, .agg #[.int .i64 p1.1, .int .i64 p1.2.1, .int .i64 p1.2.2.1, .int .i64 p1.2.2.2.1, .bool p1.2.2.2.2.1]] w K :=
  bodyZ_sound (κ := kappa) (ann := [(3, [(25, .bool)]), (16, [(117, .bool)])]) (fn := Try.f12) Try.func12 rfl (by kernel_rfl) (cast (show T12 p0 p1 w K = bodyZ Try.prog kappa [(3, [(25, .bool)]), (16, [(117, .bool)])] (.tup .nilT) Try.f12 [.pointer p0, .agg #[.int .i64 p1.1, .int .i64 p1.2.1, .int .i64 p1.2.2.1, .int .i64 p1.2.2.2.1, .bool p1.2.2.2.2.1]] w K by kernel_rfl) h)

/-- (*sluice/sluicelaw11.world).conserved -/
def T13 (p0 : Option Addr) (w : World) (K : Bool → World → Prop) : Prop :=
  LoopX (α := Int × Int × Unit) (fun s1 w k2 =>
    NilP p0 fun t8 =>
    RunN Try.prog .sl (V (Instr.loadAt 34 (.pointer (some (t8.add 0))))) w fun t10 w =>
    SplitB (decide (s1.2.1 < (t10.len : Int)))
      (NilP p0 fun t17 =>
      ReadN Try.prog .sl (V (Instr.loadAt 34 (.pointer (some (t17.add 0))))) w.drew fun t19 =>
      ReadN Try.prog .addr (V (Instr.indexAt 34 (.slice t19.a t19.len t19.cap) (.int .i64 s1.2.1))) w.drew fun t21 =>
      ReadN Try.prog .ptr (V (Instr.loadAt 62 (.pointer (some t21)))) w.drew fun t22 =>
      NilP t22 fun t23 =>
      ReadN Try.prog (.int .i64) (V (Instr.loadAt 3 (.pointer (some (t23.add 1))))) w.drew fun t25 =>
      NilP p0 fun t27 =>
      ReadN Try.prog .sl (V (Instr.loadAt 34 (.pointer (some (t27.add 0))))) w.drew fun t29 =>
      ReadN Try.prog .addr (V (Instr.indexAt 34 (.slice t29.a t29.len t29.cap) (.int .i64 s1.2.1))) w.drew fun t31 =>
      ReadN Try.prog .ptr (V (Instr.loadAt 62 (.pointer (some t31)))) w.drew fun t32 =>
      NilP t32 fun t33 =>
      ReadN Try.prog (.int .i64) (V (Instr.loadAt 3 (.pointer (some (t33.add 2))))) w.drew fun t35 =>
      JoinX (α := Bool × Unit) (fun j4 w =>
        SplitB j4.1
          (K false w)
          (k2 (IntKind.i64.wrap (s1.1 + (IntKind.i64.wrap (t25 + t35))), IntKind.i64.wrap (s1.2.1 + 1), ()) w))
      fun k3 =>
        NilP p0 fun t39 =>
        RunN Try.prog .sl (V (Instr.loadAt 34 (.pointer (some (t39.add 0))))) w.drew fun t41 w =>
        RunN Try.prog .addr (V (Instr.indexAt 34 (.slice t41.a t41.len t41.cap) (.int .i64 s1.2.1))) w fun t43 w =>
        RunN Try.prog .ptr (V (Instr.loadAt 62 (.pointer (some t43)))) w fun t44 w =>
        NilP t44 fun t45 =>
        RunN Try.prog (.int .i64) (V (Instr.loadAt 3 (.pointer (some (t45.add 1))))) w fun t47 w =>
        SplitB (decide (t47 < 0))
          (k3 (true, ()) w)
          (NilP p0 fun t51 =>
          RunN Try.prog .sl (V (Instr.loadAt 34 (.pointer (some (t51.add 0))))) w fun t53 w =>
          RunN Try.prog .addr (V (Instr.indexAt 34 (.slice t53.a t53.len t53.cap) (.int .i64 s1.2.1))) w fun t55 w =>
          RunN Try.prog .ptr (V (Instr.loadAt 62 (.pointer (some t55)))) w fun t56 w =>
          NilP t56 fun t57 =>
          RunN Try.prog (.int .i64) (V (Instr.loadAt 3 (.pointer (some (t57.add 2))))) w fun t59 w =>
          k3 (decide (t59 < 0), ()) w))
      (LoopX (α := Int × Int × Unit) (fun s5 w k6 =>
        NilP p0 fun t64 =>
        RunN Try.prog .sl (V (Instr.loadAt 35 (.pointer (some (t64.add 1))))) w fun t66 w =>
        SplitB (decide (s5.2.1 < (t66.len : Int)))
          (NilP p0 fun t73 =>
          RunN Try.prog .sl (V (Instr.loadAt 35 (.pointer (some (t73.add 1))))) w fun t75 w =>
          RunN Try.prog .addr (V (Instr.indexAt 35 (.slice t75.a t75.len t75.cap) (.int .i64 s5.2.1))) w fun t77 w =>
          RunN Try.prog (.int .i64) (V (Instr.loadAt 3 (.pointer (some (t77.add 7))))) w fun t79 w =>
          k6 (IntKind.i64.wrap (s5.1 + t79), IntKind.i64.wrap (s5.2.1 + 1), ()) w)
          (NilP p0 fun t83 =>
          RunN Try.prog (.int .i64) (V (Instr.loadAt 3 (.pointer (some (t83.add 2))))) w fun t85 w =>
          K (s5.1 == t85) w))
      (s1.1, 0, ()) w))
  (0, 0, ()) w
theorem T13.calls {p0 : Option Addr} {w : World} {K : Bool → World → Prop} (h : T13 p0 w K) : CallK Try.prog .bool 13 #[.pointer p0] w K :=
  bodyZ_sound (κ := kappa) (ann := [(4, [(3, (.int .i64)), (4, (.int .i64))]), (9, [(61, .bool)]), (13, [(3, (.int .i64)), (5, (.int .i64))])]) (fn := Try.f13) Try.func13 rfl (by kernel_rfl) (cast (show T13 p0 w K = bodyZ Try.prog kappa [(4, [(3, (.int .i64)), (4, (.int .i64))]), (9, [(61, .bool)]), (13, [(3, (.int .i64)), (5, (.int .i64))])] .bool Try.f13 [.pointer p0] w K by kernel_rfl) h)

/-- (*sluice/sluicelaw11.world).rests -/
def T14 (p0 : Option Addr) (p1 : Sl) (w : World) (K : Bool → World → Prop) : Prop :=
  LoopX (α := Int × Unit) (fun s1 w k2 =>
    JoinX (α := Bool × Unit) (fun j4 w =>
      SplitB j4.1
        (JoinX (α := Int × Unit) (fun j6 w =>
          CallK Try.prog (.tup .nilT) 12 #[.pointer p0, .agg #[.int .i64 2, .int .i64 0, .int .i64 j6.1, .int .i64 0, .bool false]] w fun t46 w =>
          k2 (IntKind.i64.wrap (s1.1 + 1), ()) w)
        fun k5 =>
          JoinX (α := Bool × Unit) (fun j8 w =>
            SplitB j8.1
              (RunN Try.prog (.int .i64) (V (binOp .rem 3 (.int .i64 (IntKind.i64.wrap (Int.tdiv s1.1 2))) (.int .i64 (p1.len : Int)))) w fun t40 w =>
              RunN Try.prog .addr (V (Instr.indexAt 26 (.slice p1.a p1.len p1.cap) (.int .i64 t40))) w fun t41 w =>
              RunN Try.prog (.int .i64) (V (Instr.loadAt 3 (.pointer (some t41)))) w fun t42 w =>
              k5 (t42, ()) w)
              (k5 (0, ()) w))
          fun k7 =>
            SplitB ((Int.tmod s1.1 2) == 1)
              (k7 (decide ((p1.len : Int) > 0), ()) w)
              (k7 (false, ()) w))
        (JoinX (α := Bool × Unit) (fun j10 w =>
          SplitB j10.1
            (K false w)
            (LoopX (α := Int × Unit) (fun s11 w k12 =>
              NilP p0 fun t77 =>
              RunN Try.prog .sl (V (Instr.loadAt 34 (.pointer (some (t77.add 0))))) w fun t79 w =>
              SplitB (decide (s11.1 < (t79.len : Int)))
                (JoinX (α := Bool × Unit) (fun j14 w =>
                  SplitB j14.1
                    (K false w)
                    (k12 (IntKind.i64.wrap (s11.1 + 1), ()) w))
                fun k13 =>
                  NilP p0 fun t85 =>
                  RunN Try.prog .sl (V (Instr.loadAt 34 (.pointer (some (t85.add 0))))) w fun t87 w =>
                  RunN Try.prog .addr (V (Instr.indexAt 34 (.slice t87.a t87.len t87.cap) (.int .i64 s11.1))) w fun t89 w =>
                  RunN Try.prog .ptr (V (Instr.loadAt 62 (.pointer (some t89)))) w fun t90 w =>
                  NilP t90 fun t91 =>
                  RunN Try.prog .ptr (V (Instr.loadAt 42 (.pointer (some (t91.add 0))))) w fun t93 w =>
                  CallK Try.prog .bool 22 #[.pointer t93] w fun t94 w =>
                  SplitB t94
                    (k13 (true, ()) w)
                    (NilP p0 fun t97 =>
                    RunN Try.prog .sl (V (Instr.loadAt 34 (.pointer (some (t97.add 0))))) w fun t99 w =>
                    RunN Try.prog .addr (V (Instr.indexAt 34 (.slice t99.a t99.len t99.cap) (.int .i64 s11.1))) w fun t101 w =>
                    RunN Try.prog .ptr (V (Instr.loadAt 62 (.pointer (some t101)))) w fun t102 w =>
                    NilP t102 fun t103 =>
                    RunN Try.prog .sl (V (Instr.loadAt 63 (.pointer (some (t103.add 3))))) w fun t105 w =>
                    SplitB ((t105.len : Int) != 0)
                      (k13 (true, ()) w)
                      (NilP p0 fun t111 =>
                      RunN Try.prog .sl (V (Instr.loadAt 34 (.pointer (some (t111.add 0))))) w fun t113 w =>
                      RunN Try.prog .addr (V (Instr.indexAt 34 (.slice t113.a t113.len t113.cap) (.int .i64 s11.1))) w fun t115 w =>
                      RunN Try.prog .ptr (V (Instr.loadAt 62 (.pointer (some t115)))) w fun t116 w =>
                      NilP t116 fun t117 =>
                      RunN Try.prog .ptr (V (Instr.loadAt 42 (.pointer (some (t117.add 0))))) w fun t119 w =>
                      CallK Try.prog .sl 28 #[.pointer t119] w fun t120 w =>
                      k13 ((t120.len : Int) != 0, ()) w)))
                (K true w))
            (0, ()) w))
        fun k9 =>
          NilP p0 fun t48 =>
          ReadN Try.prog .bool (V (Instr.loadAt 4 (.pointer (some (t48.add 6))))) w.drew fun t50 =>
          SplitB t50
            (k9 (true, ()) w.drew)
            (NilP p0 fun t53 =>
            ReadN Try.prog .sl (V (Instr.loadAt 35 (.pointer (some (t53.add 1))))) w.drew fun t55 =>
            SplitB (decide ((t55.len : Int) > 0))
              (k9 (true, ()) w.drew)
              (CallK Try.prog .bool 13 #[.pointer p0] w.drew fun t61 w =>
              SplitB (!t61)
                (k9 (true, ()) w)
                (NilP p0 fun t66 =>
                ReadN Try.prog (.int .i64) (V (Instr.loadAt 3 (.pointer (some (t66.add 3))))) w fun t68 =>
                NilP p0 fun t70 =>
                ReadN Try.prog (.int .i64) (V (Instr.loadAt 3 (.pointer (some (t70.add 4))))) w fun t72 =>
                k9 (t68 != t72, ()) w)))))
    fun k3 =>
      SplitB (decide (s1.1 < 200000))
        (NilP p0 fun t12 =>
        RunN Try.prog .sl (V (Instr.loadAt 35 (.pointer (some (t12.add 1))))) w fun t14 w =>
        SplitB (decide ((t14.len : Int) > 0))
          (NilP p0 fun t20 =>
          RunN Try.prog .bool (V (Instr.loadAt 4 (.pointer (some (t20.add 6))))) w fun t22 w =>
          k3 (!t22, ()) w)
          (k3 (false, ()) w))
        (k3 (false, ()) w))
  (0, ()) w
theorem T14.calls {p0 : Option Addr} {p1 : Sl} {w : World} {K : Bool → World → Prop} (h : T14 p0 p1 w K) : CallK Try.prog .bool 14 #[.pointer p0, .slice p1.a p1.len p1.cap] w K :=
  bodyZ_sound (κ := kappa) (ann := [(3, [(5, (.int .i64))]), (5, [(24, .bool)]), (8, [(6, (.int .i64))]), (9, [(34, .bool)]), (11, [(74, .bool)]), (15, [(7, (.int .i64))]), (19, [(123, .bool)])]) (fn := Try.f14) Try.func14 rfl (by kernel_rfl) (cast (show T14 p0 p1 w K = bodyZ Try.prog kappa [(3, [(5, (.int .i64))]), (5, [(24, .bool)]), (8, [(6, (.int .i64))]), (9, [(34, .bool)]), (11, [(74, .bool)]), (15, [(7, (.int .i64))]), (19, [(123, .bool)])] .bool Try.f14 [.pointer p0, .slice p1.a p1.len p1.cap] w K by kernel_rfl) h)

/-- sluice/sluicelaw11.within -/
def T18 (p0 : Int) (p1 : Int) (w : World) (K : Int → World → Prop) : Prop :=
  JoinX (α := Int × Unit) (fun j2 w =>
    RunN Try.prog (.int .i64) (V (binOp .rem 3 (.int .i64 j2.1) (.int .i64 p1))) w fun t12 w =>
    K t12 w)
  fun k1 =>
    SplitB (decide (p0 < 0))
      (k1 (IntKind.i64.wrap (0 - (IntKind.i64.wrap (p0 + 1))), ()) w)
      (k1 (p0, ()) w)
theorem T18.calls {p0 : Int} {p1 : Int} {w : World} {K : Int → World → Prop} (h : T18 p0 p1 w K) : CallK Try.prog (.int .i64) 18 #[.int .i64 p0, .int .i64 p1] w K :=
  bodyZ_sound (κ := kappa) (ann := [(1, [(0, (.int .i64))])]) (fn := Try.f18) Try.func18 rfl (by kernel_rfl) (cast (show T18 p0 p1 w K = bodyZ Try.prog kappa [(1, [(0, (.int .i64))])] (.int .i64) Try.f18 [.int .i64 p0, .int .i64 p1] w K by kernel_rfl) h)

/-- (*sluice/sluicelaw11.world).comes -/
def T23 (p0 : Option Addr) (p1 : (Int × Int × Int × Int × Int × Int × Int × Int × Int × Unit)) (w : World) (K : Unit → World → Prop) : Prop :=
  RunN Try.prog .addr (V (Instr.box 73 (.agg #[.int .i64 p1.1, .int .i64 p1.2.1, .int .i64 p1.2.2.1, .int .i64 p1.2.2.2.1, .int .i64 p1.2.2.2.2.1, .int .i64 p1.2.2.2.2.2.1, .int .i64 p1.2.2.2.2.2.2.1, .int .i64 p1.2.2.2.2.2.2.2.1, .int .i64 p1.2.2.2.2.2.2.2.2.1]))) w fun t3 w =>
  NilP p0 fun t9 =>
  ReadN Try.prog .sl (V (Instr.loadAt 34 (.pointer (some (t9.add 0))))) w.drew fun t11 =>
  ReadN Try.prog (.int .i64) (V (Instr.loadAt 3 (.pointer (some (t3.add 2))))) w.drew fun t13 =>
  ReadN Try.prog .addr (V (Instr.indexAt 34 (.slice t11.a t11.len t11.cap) (.int .i64 t13))) w.drew fun t14 =>
  ReadN Try.prog .ptr (V (Instr.loadAt 62 (.pointer (some t14)))) w.drew fun t15 =>
  NilP t15 fun t17 =>
  RunN Try.prog .bool (V (Instr.loadAt 4 (.pointer (some (t17.add 4))))) w.drew fun t19 w =>
  JoinX (α := Sl × Unit) (fun j2 w =>
    LoopX (α := Int × Unit) (fun s3 w k4 =>
      SplitB (decide (s3.1 < (j2.1.len : Int)))
        (JoinX (α := Unit) (fun j6 w =>
          k4 (IntKind.i64.wrap (s3.1 + 1), ()) w)
        fun k5 =>
          RunN Try.prog .addr (V (Instr.indexAt 66 (.slice j2.1.a j2.1.len j2.1.cap) (.int .i64 s3.1))) w fun t73 w =>
          RunN Try.prog (.int .i64) (V (Instr.loadAt 3 (.pointer (some (t73.add 0))))) w fun t75 w =>
          SplitB (t75 == 3)
            (ReadN Try.prog (.int .i64) (V (Instr.loadAt 3 (.pointer (some (t3.add 2))))) w.drew fun t80 =>
            ReadN Try.prog .addr (V (Instr.indexAt 66 (.slice j2.1.a j2.1.len j2.1.cap) (.int .i64 s3.1))) w.drew fun t83 =>
            ReadN Try.prog (.agg (.cons (.int .i64) (.cons (.int .i64) .nilT))) (V (Instr.loadAt 54 (.pointer (some (t83.add 2))))) w.drew fun t85 =>
            ReadN Try.prog .addr (V (Instr.indexAt 66 (.slice j2.1.a j2.1.len j2.1.cap) (.int .i64 s3.1))) w.drew fun t88 =>
            ReadN Try.prog (.agg (.cons (.int .i64) (.cons (.int .i64) .nilT))) (V (Instr.loadAt 54 (.pointer (some (t88.add 4))))) w.drew fun t90 =>
            CallK Try.prog (.tup .nilT) 52 #[.pointer p0, .agg #[.int .i64 7, .int .i64 t80, .int .i64 0, .int .i64 t85.1, .int .i64 t85.2.1, .int .i64 t90.1, .int .i64 t90.2.1, .int .i64 0, .int .i64 0]] w.drew fun t92 w =>
            k5 () w)
            (SplitB (t75 == 5)
              (RunN Try.prog .sl (V (Instr.buildSlice 63 1 #[(0, .bool t19)])) w fun t97 w =>
              NilP t15 fun t99 =>
              RunN Try.prog .sl (V (Instr.loadAt 63 (.pointer (some (t99.add 3))))) w fun t101 w =>
              RunN Try.prog .sl (V (Builtin.append_ #[63, 63] 63 #[.slice t97.a t97.len t97.cap, .slice t101.a t101.len t101.cap])) w fun t102 w =>
              NilP t15 fun t103 =>
              RunU Try.prog (U (Instr.storeAt 63 (.pointer (some (t103.add 3))) (.slice t102.a t102.len t102.cap))) w fun w =>
              NilP p0 fun t106 =>
              RunN Try.prog (.int .i64) (V (Instr.loadAt 3 (.pointer (some (t106.add 4))))) w fun t108 w =>
              NilP p0 fun t110 =>
              RunU Try.prog (U (Instr.storeAt 3 (.pointer (some (t110.add 4))) (.int .i64 (IntKind.i64.wrap (t108 + 1))))) w fun w =>
              k5 () w)
              (k5 () w)))
        (NilP t15 fun t113 =>
        ReadN Try.prog (.int .i64) (V (Instr.loadAt 3 (.pointer (some (t113.add 1))))) w.drew fun t115 =>
        ReadN Try.prog (.int .i64) (V (Instr.loadAt 3 (.pointer (some (t3.add 7))))) w.drew fun t117 =>
        NilP t15 fun t119 =>
        RunU Try.prog (U (Instr.storeAt 3 (.pointer (some (t119.add 1))) (.int .i64 (IntKind.i64.wrap (t115 + t117))))) w.drew fun w =>
        RunN Try.prog (.int .i64) (V (Instr.loadAt 3 (.pointer (some (t3.add 2))))) w fun t123 w =>
        CallK Try.prog (.tup .nilT) 24 #[.pointer p0, .int .i64 t123] w fun t124 w =>
        K () w))
    (0, ()) w)
  fun k1 =>
    RunN Try.prog (.int .i64) (V (Instr.loadAt 3 (.pointer (some (t3.add 0))))) w fun t21 w =>
    SplitB (t21 == 3)
      (NilP t15 fun t25 =>
      ReadN Try.prog .ptr (V (Instr.loadAt 42 (.pointer (some (t25.add 0))))) w.drew fun t27 =>
      ReadN Try.prog (.agg (.cons (.int .i64) (.cons (.int .i64) .nilT))) (V (Instr.loadAt 54 (.pointer (some (t3.add 3))))) w.drew fun t29 =>
      CallK Try.prog .sl 32 #[.pointer t27, .agg #[.int .i64 t29.1, .int .i64 t29.2.1]] w.drew fun t30 w =>
      k1 (t30, ()) w)
      (SplitB (t21 == 5)
        (NilP t15 fun t34 =>
        ReadN Try.prog .ptr (V (Instr.loadAt 42 (.pointer (some (t34.add 0))))) w.drew fun t36 =>
        ReadN Try.prog (.agg (.cons (.int .i64) (.cons (.int .i64) .nilT))) (V (Instr.loadAt 54 (.pointer (some (t3.add 3))))) w.drew fun t38 =>
        CallK Try.prog .sl 34 #[.pointer t36, .agg #[.int .i64 t38.1, .int .i64 t38.2.1], .agg #[.int .i64 0, .int .i64 0]] w.drew fun t40 w =>
        k1 (t40, ()) w)
        (SplitB (t21 == 7)
          (NilP t15 fun t44 =>
          ReadN Try.prog .ptr (V (Instr.loadAt 42 (.pointer (some (t44.add 0))))) w.drew fun t46 =>
          ReadN Try.prog (.agg (.cons (.int .i64) (.cons (.int .i64) .nilT))) (V (Instr.loadAt 54 (.pointer (some (t3.add 3))))) w.drew fun t48 =>
          ReadN Try.prog (.agg (.cons (.int .i64) (.cons (.int .i64) .nilT))) (V (Instr.loadAt 54 (.pointer (some (t3.add 5))))) w.drew fun t50 =>
          CallK Try.prog .sl 34 #[.pointer t46, .agg #[.int .i64 t48.1, .int .i64 t48.2.1], .agg #[.int .i64 t50.1, .int .i64 t50.2.1]] w.drew fun t51 w =>
          k1 (t51, ()) w)
          (SplitB (t21 == 4)
            (NilP t15 fun t55 =>
            ReadN Try.prog .ptr (V (Instr.loadAt 42 (.pointer (some (t55.add 0))))) w.drew fun t57 =>
            ReadN Try.prog (.int .i64) (V (Instr.loadAt 3 (.pointer (some (t3.add 1))))) w.drew fun t59 =>
            ReadN Try.prog (.agg (.cons (.int .i64) (.cons (.int .i64) .nilT))) (V (Instr.loadAt 54 (.pointer (some (t3.add 3))))) w.drew fun t61 =>
            ReadN Try.prog (.int .i64) (V (Instr.loadAt 3 (.pointer (some (t3.add 8))))) w.drew fun t63 =>
            CallK Try.prog .sl 36 #[.pointer t57, .int .i64 t59, .agg #[.int .i64 t61.1, .int .i64 t61.2.1], .int .i64 t63] w.drew fun t64 w =>
            k1 ((⟨none, 0, 0⟩ : Sl), ()) w)
            (k1 ((⟨none, 0, 0⟩ : Sl), ()) w))))
theorem T23.calls {p0 : Option Addr} {p1 : (Int × Int × Int × Int × Int × Int × Int × Int × Int × Unit)} {w : World} {K : Unit → World → Prop} (h : T23 p0 p1 w K) : CallK Try.prog (.tup .nilT) 23 #[.pointer p0, .agg #[.int .i64 p1.1, .int .i64 p1.2.1, .int .i64 p1.2.2.1, .int .i64 p1.2.2.2.1, .int .i64 p1.2.2.2.2.1, .int .i64 p1.2.2.2.2.2.1, .int .i64 p1.2.2.2.2.2.2.1, .int .i64 p1.2.2.2.2.2.2.2.1, .int .i64 p1.2.2.2.2.2.2.2.2.1]] w K :=
  bodyZ_sound (κ := kappa) (ann := [(4, [(5, .sl)]), (12, [(7, (.int .i64))]), (15, [])]) (fn := Try.f23) Try.func23 rfl (by kernel_rfl) (cast (show T23 p0 p1 w K = bodyZ Try.prog kappa [(4, [(5, .sl)]), (12, [(7, (.int .i64))]), (15, [])] (.tup .nilT) Try.f23 [.pointer p0, .agg #[.int .i64 p1.1, .int .i64 p1.2.1, .int .i64 p1.2.2.1, .int .i64 p1.2.2.2.1, .int .i64 p1.2.2.2.2.1, .int .i64 p1.2.2.2.2.2.1, .int .i64 p1.2.2.2.2.2.2.1, .int .i64 p1.2.2.2.2.2.2.2.1, .int .i64 p1.2.2.2.2.2.2.2.2.1]] w K by kernel_rfl) h)

/-- (*sluice/sluicelaw11.world).settle -/
def T24 (p0 : Option Addr) (p1 : Int) (w : World) (K : Unit → World → Prop) : Prop :=
  NilP p0 fun t12 =>
  RunN Try.prog .sl (V (Instr.loadAt 34 (.pointer (some (t12.add 0))))) w fun t14 w =>
  RunN Try.prog .addr (V (Instr.indexAt 34 (.slice t14.a t14.len t14.cap) (.int .i64 p1))) w fun t16 w =>
  RunN Try.prog .ptr (V (Instr.loadAt 62 (.pointer (some t16)))) w fun t17 w =>
  LoopX (α := Int × Unit) (fun s1 w k2 =>
    JoinX (α := Bool × Unit) (fun j4 w =>
      SplitB j4.1
        (JoinX (α := Unit) (fun j6 w =>
          k2 (IntKind.i64.wrap (s1.1 + 1), ()) w)
        fun k5 =>
          NilP t17 fun t30 =>
          RunN Try.prog .ptr (V (Instr.loadAt 42 (.pointer (some (t30.add 0))))) w fun t32 w =>
          CallK Try.prog (.agg (.cons (.int .i64) (.cons (.int .i64) .nilT))) 25 #[.pointer t32] w fun t33 w =>
          RunN Try.prog .addr (V (Instr.alloc 54 true (.tuple #[]))) w fun t6 w =>
          RunU Try.prog (U (Instr.storeAt 54 (.pointer (some t6)) (.agg #[.int .i64 t33.1, .int .i64 t33.2.1]))) w fun w =>
          NilP t17 fun t35 =>
          RunN Try.prog .ptr (V (Instr.loadAt 42 (.pointer (some (t35.add 0))))) w fun t37 w =>
          CallK Try.prog (.agg (.cons (.int .i64) (.cons (.int .i64) .nilT))) 51 #[.pointer t37] w fun t38 w =>
          RunN Try.prog .addr (V (Instr.alloc 54 true (.tuple #[]))) w fun t7 w =>
          RunU Try.prog (U (Instr.storeAt 54 (.pointer (some t7)) (.agg #[.int .i64 t38.1, .int .i64 t38.2.1]))) w fun w =>
          JoinX (α := Bool × Unit) (fun j8 w =>
            SplitB j8.1
              (NilP t17 fun t77 =>
              ReadN Try.prog .ptr (V (Instr.loadAt 42 (.pointer (some (t77.add 0))))) w.drew fun t79 =>
              NilP p0 fun t81 =>
              ReadN Try.prog (.int .i64) (V (Instr.loadAt 3 (.pointer (some (t81.add 2))))) w.drew fun t83 =>
              NilP t17 fun t85 =>
              ReadN Try.prog (.int .i64) (V (Instr.loadAt 3 (.pointer (some (t85.add 1))))) w.drew fun t87 =>
              NilP t17 fun t89 =>
              ReadN Try.prog (.int .i64) (V (Instr.loadAt 3 (.pointer (some (t89.add 2))))) w.drew fun t91 =>
              CallK Try.prog .sl 21 #[.pointer t79, .int .i64 t83, .int .i64 t87, .int .i64 t91] w.drew fun t92 w =>
              SplitB ((t92.len : Int) == 0)
                (K () w)
                (JoinX (α := Bool × Unit) (fun j10 w =>
                  SplitB j10.1
                    (NilP p0 fun t108 =>
                    RunU Try.prog (U (Instr.storeAt 4 (.pointer (some (t108.add 6))) (.bool true))) w fun w =>
                    K () w)
                    (NilP p0 fun t111 =>
                    RunN Try.prog (.int .i64) (V (Instr.loadAt 3 (.pointer (some (t111.add 5))))) w fun t113 w =>
                    NilP p0 fun t115 =>
                    RunU Try.prog (U (Instr.storeAt 3 (.pointer (some (t115.add 5))) (.int .i64 (IntKind.i64.wrap (t113 + 1))))) w fun w =>
                    NilP p0 fun t118 =>
                    ReadN Try.prog (.int .i64) (V (Instr.loadAt 3 (.pointer (some (t118.add 5))))) w.drew fun t120 =>
                    NilP t17 fun t123 =>
                    ReadN Try.prog (.int .i64) (V (Instr.loadAt 3 (.pointer (some (t123.add 1))))) w.drew fun t125 =>
                    ReadN Try.prog (.int .i64) (V (Builtin.min_ #[3, 3] 3 #[.int .i64 (Int.tmod t120 3), .int .i64 t125])) w.drew fun t126 =>
                    JoinX (α := Int × Unit) (fun j12 w =>
                      NilP t17 fun t145 =>
                      RunN Try.prog (.int .i64) (V (Instr.loadAt 3 (.pointer (some (t145.add 1))))) w fun t147 w =>
                      NilP t17 fun t150 =>
                      RunU Try.prog (U (Instr.storeAt 3 (.pointer (some (t150.add 1))) (.int .i64 (IntKind.i64.wrap (t147 - j12.1))))) w fun w =>
                      NilP t17 fun t153 =>
                      RunN Try.prog (.int .i64) (V (Instr.loadAt 3 (.pointer (some (t153.add 2))))) w fun t155 w =>
                      NilP t17 fun t158 =>
                      RunU Try.prog (U (Instr.storeAt 3 (.pointer (some (t158.add 2))) (.int .i64 (IntKind.i64.wrap (t155 + j12.1))))) w fun w =>
                      CallK Try.prog (.tup .nilT) 26 #[.pointer p0, .int .i64 p1] w fun t162 w =>
                      k5 () w)
                    fun k11 =>
                      NilP p0 fun t128 =>
                      RunN Try.prog (.int .i64) (V (Instr.loadAt 3 (.pointer (some (t128.add 5))))) w.drew fun t130 w =>
                      SplitB ((Int.tmod t130 2) == 0)
                        (NilP p0 fun t134 =>
                        ReadN Try.prog (.int .i64) (V (Instr.loadAt 3 (.pointer (some (t134.add 5))))) w.drew fun t136 =>
                        NilP t17 fun t139 =>
                        ReadN Try.prog (.int .i64) (V (Instr.loadAt 3 (.pointer (some (t139.add 2))))) w.drew fun t141 =>
                        ReadN Try.prog (.int .i64) (V (Builtin.min_ #[3, 3] 3 #[.int .i64 (Int.tmod t136 4), .int .i64 t141])) w.drew fun t142 =>
                        k11 (IntKind.i64.wrap (0 - t142), ()) w.drew)
                        (k11 (t126, ()) w)))
                fun k9 =>
                  RunN Try.prog .addr (V (Instr.indexAt 66 (.slice t92.a t92.len t92.cap) (.int .i64 0))) w fun t97 w =>
                  RunN Try.prog (.int .i64) (V (Instr.loadAt 3 (.pointer (some (t97.add 0))))) w fun t99 w =>
                  SplitB (t99 != 4)
                    (k9 (true, ()) w)
                    (CallK Try.prog .bool 53 #[.pointer p0, .int .i64 p1] w fun t104 w =>
                    k9 (!t104, ()) w)))
              (NilP t17 fun t165 =>
              RunN Try.prog .ptr (V (Instr.loadAt 42 (.pointer (some (t165.add 0))))) w fun t167 w =>
              CallK Try.prog .bool 22 #[.pointer t167] w fun t168 w =>
              SplitB t168
                (JoinX (α := Bool × Unit) (fun j14 w =>
                  SplitB j14.1
                    (NilP p0 fun t183 =>
                    RunU Try.prog (U (Instr.storeAt 4 (.pointer (some (t183.add 6))) (.bool true))) w fun w =>
                    K () w)
                    (JoinX (α := Bool × Unit) (fun j16 w =>
                      SplitB j16.1
                        (ReadN Try.prog (.int .i64) (V (Instr.loadAt 3 (.pointer (some (t7.add 1))))) w.drew fun t201 =>
                        ReadN Try.prog (.agg (.cons (.int .i64) (.cons (.int .i64) .nilT))) (V (Instr.loadAt 54 (.pointer (some t7)))) w.drew fun t202 =>
                        NilP t17 fun t204 =>
                        ReadN Try.prog (.int .i64) (V (Instr.loadAt 3 (.pointer (some (t204.add 1))))) w.drew fun t206 =>
                        NilP t17 fun t208 =>
                        ReadN Try.prog (.int .i64) (V (Instr.loadAt 3 (.pointer (some (t208.add 2))))) w.drew fun t210 =>
                        CallK Try.prog (.tup .nilT) 54 #[.pointer p0, .agg #[.int .i64 4, .int .i64 p1, .int .i64 t201, .int .i64 t202.1, .int .i64 t202.2.1, .int .i64 0, .int .i64 0, .int .i64 t206, .int .i64 t210]] w.drew fun t212 w =>
                        NilP t17 fun t214 =>
                        RunU Try.prog (U (Instr.storeAt 3 (.pointer (some (t214.add 1))) (.int .i64 0))) w fun w =>
                        RunN Try.prog (.agg (.cons (.int .i64) (.cons (.int .i64) .nilT))) (V (Instr.loadAt 54 (.pointer (some t7)))) w fun t217 w =>
                        NilP t17 fun t218 =>
                        RunU Try.prog (U (Instr.storeAt 54 (.pointer (some (t218.add 5))) (.agg #[.int .i64 t217.1, .int .i64 t217.2.1]))) w fun w =>
                        K () w)
                        (K () w))
                    fun k15 =>
                      ReadN Try.prog (.agg (.cons (.int .i64) (.cons (.int .i64) .nilT))) (V (Instr.loadAt 54 (.pointer (some t7)))) w.drew fun t185 =>
                      NilP t17 fun t187 =>
                      ReadN Try.prog (.agg (.cons (.int .i64) (.cons (.int .i64) .nilT))) (V (Instr.loadAt 54 (.pointer (some (t187.add 5))))) w.drew fun t189 =>
                      ReadN Try.prog .bool (V (do eqGuard .neq 54 (.tmp 185) (.tmp 189) (.agg #[.int .i64 t185.1, .int .i64 t185.2.1]) (.agg #[.int .i64 t189.1, .int .i64 t189.2.1]); binOp .neq 54 (.agg #[.int .i64 t185.1, .int .i64 t185.2.1]) (.agg #[.int .i64 t189.1, .int .i64 t189.2.1]))) w.drew fun t190 =>
                      SplitB t190
                        (k15 (true, ()) w.drew)
                        (NilP t17 fun t193 =>
                        ReadN Try.prog (.int .i64) (V (Instr.loadAt 3 (.pointer (some (t193.add 1))))) w.drew fun t195 =>
                        k15 (decide (t195 > 0), ()) w.drew)))
                fun k13 =>
                  ReadN Try.prog (.int .i64) (V (Instr.loadAt 3 (.pointer (some (t7.add 1))))) w.drew fun t170 =>
                  SplitB (decide (t170 < 0))
                    (k13 (true, ()) w.drew)
                    (ReadN Try.prog (.int .i64) (V (Instr.loadAt 3 (.pointer (some (t7.add 1))))) w.drew fun t174 =>
                    NilP p0 fun t176 =>
                    ReadN Try.prog .sl (V (Instr.loadAt 34 (.pointer (some (t176.add 0))))) w.drew fun t178 =>
                    k13 (decide (t174 ≥ (t178.len : Int)), ()) w.drew))
                (NilP t17 fun t41 =>
                RunU Try.prog (U (Instr.storeAt 54 (.pointer (some (t41.add 5))) (.agg #[.int .i64 0, .int .i64 0]))) w fun w =>
                NilP t17 fun t44 =>
                RunN Try.prog .sl (V (Instr.loadAt 63 (.pointer (some (t44.add 3))))) w fun t46 w =>
                SplitB ((t46.len : Int) == 0)
                  (K () w)
                  (NilP t17 fun t50 =>
                  RunN Try.prog .sl (V (Instr.loadAt 63 (.pointer (some (t50.add 3))))) w fun t52 w =>
                  RunN Try.prog .addr (V (Instr.indexAt 63 (.slice t52.a t52.len t52.cap) (.int .i64 0))) w fun t53 w =>
                  RunN Try.prog .bool (V (Instr.loadAt 4 (.pointer (some t53)))) w fun t54 w =>
                  NilP t17 fun t57 =>
                  RunN Try.prog .sl (V (Instr.loadAt 63 (.pointer (some (t57.add 3))))) w fun t59 w =>
                  RunN Try.prog .sl (V (Instr.sliceAt 63 (.slice t59.a t59.len t59.cap) (some (.int .i64 1)) none none)) w fun t60 w =>
                  NilP t17 fun t61 =>
                  RunU Try.prog (U (Instr.storeAt 63 (.pointer (some (t61.add 3))) (.slice t60.a t60.len t60.cap))) w fun w =>
                  CallK Try.prog (.tup .nilT) 55 #[.pointer p0, .int .i64 p1, .bool t54] w fun t66 w =>
                  k5 () w))))
          fun k7 =>
            RunN Try.prog (.int .i64) (V (Instr.loadAt 3 (.pointer (some (t6.add 0))))) w fun t69 w =>
            SplitB (decide (t69 > 0))
              (RunN Try.prog (.agg (.cons (.int .i64) (.cons (.int .i64) .nilT))) (V (Instr.loadAt 54 (.pointer (some t7)))) w fun t72 w =>
              RunN Try.prog (.agg (.cons (.int .i64) (.cons (.int .i64) .nilT))) (V (Instr.loadAt 54 (.pointer (some t6)))) w fun t73 w =>
              RunN Try.prog .bool (V (do eqGuard .eql 54 (.tmp 72) (.tmp 73) (.agg #[.int .i64 t72.1, .int .i64 t72.2.1]) (.agg #[.int .i64 t73.1, .int .i64 t73.2.1]); binOp .eql 54 (.agg #[.int .i64 t72.1, .int .i64 t72.2.1]) (.agg #[.int .i64 t73.1, .int .i64 t73.2.1]))) w fun t74 w =>
              k7 (t74, ()) w)
              (k7 (false, ()) w))
        (K () w))
    fun k3 =>
      SplitB (decide (s1.1 < 1000))
        (NilP p0 fun t22 =>
        RunN Try.prog .bool (V (Instr.loadAt 4 (.pointer (some (t22.add 6))))) w fun t24 w =>
        k3 (!t24, ()) w)
        (k3 (false, ()) w))
  (0, ()) w
theorem T24.calls {p0 : Option Addr} {p1 : Int} {w : World} {K : Unit → World → Prop} (h : T24 p0 p1 w K) : CallK Try.prog (.tup .nilT) 24 #[.pointer p0, .int .i64 p1] w K :=
  bodyZ_sound (κ := kappa) (ann := [(2, [(5, (.int .i64))]), (4, [(26, .bool)]), (5, []), (8, [(67, .bool)]), (13, [(106, .bool)]), (17, [(9, (.int .i64))]), (23, [(181, .bool)]), (26, [(197, .bool)])]) (fn := Try.f24) Try.func24 rfl (by kernel_rfl) (cast (show T24 p0 p1 w K = bodyZ Try.prog kappa [(2, [(5, (.int .i64))]), (4, [(26, .bool)]), (5, []), (8, [(67, .bool)]), (13, [(106, .bool)]), (17, [(9, (.int .i64))]), (23, [(181, .bool)]), (26, [(197, .bool)])] (.tup .nilT) Try.f24 [.pointer p0, .int .i64 p1] w K by kernel_rfl) h)

/-- (*sluice/sluicelaw11.world).finish -/
def T26 (p0 : Option Addr) (p1 : Int) (w : World) (K : Unit → World → Prop) : Prop :=
  NilP p0 fun t9 =>
  RunN Try.prog .sl (V (Instr.loadAt 34 (.pointer (some (t9.add 0))))) w fun t11 w =>
  RunN Try.prog .addr (V (Instr.indexAt 34 (.slice t11.a t11.len t11.cap) (.int .i64 p1))) w fun t13 w =>
  RunN Try.prog .ptr (V (Instr.loadAt 62 (.pointer (some t13)))) w fun t14 w =>
  NilP t14 fun t16 =>
  RunN Try.prog .ptr (V (Instr.loadAt 42 (.pointer (some (t16.add 0))))) w fun t18 w =>
  CallK Try.prog (.agg (.cons (.int .i64) (.cons (.int .i64) .nilT))) 25 #[.pointer t18] w fun t19 w =>
  RunN Try.prog .addr (V (Instr.alloc 54 true (.tuple #[]))) w fun t5 w =>
  RunU Try.prog (U (Instr.storeAt 54 (.pointer (some t5)) (.agg #[.int .i64 t19.1, .int .i64 t19.2.1]))) w fun w =>
  NilP t14 fun t21 =>
  RunN Try.prog .ptr (V (Instr.loadAt 42 (.pointer (some (t21.add 0))))) w fun t23 w =>
  CallK Try.prog .sl 39 #[.pointer t23] w fun t24 w =>
  NilP p0 fun t26 =>
  RunN Try.prog (.int .i64) (V (Instr.loadAt 3 (.pointer (some (t26.add 4))))) w fun t28 w =>
  NilP p0 fun t30 =>
  RunU Try.prog (U (Instr.storeAt 3 (.pointer (some (t30.add 4))) (.int .i64 (IntKind.i64.wrap (t28 + 1))))) w fun w =>
  NilP t14 fun t33 =>
  RunN Try.prog .bool (V (Instr.loadAt 4 (.pointer (some (t33.add 7))))) w fun t35 w =>
  SplitB (!t35)
    (K () w)
    (NilP t14 fun t38 =>
    ReadN Try.prog (.int .i64) (V (Instr.loadAt 3 (.pointer (some (t38.add 1))))) w.drew fun t40 =>
    NilP p0 fun t42 =>
    ReadN Try.prog .sl (V (Instr.loadAt 34 (.pointer (some (t42.add 0))))) w.drew fun t44 =>
    ReadN Try.prog (.int .i64) (V (binOp .quo 3 (.int .i64 t40) (.int .i64 (t44.len : Int)))) w.drew fun t46 =>
    LoopX (α := Int × Unit) (fun s1 w k2 =>
      NilP p0 fun t49 =>
      RunN Try.prog .sl (V (Instr.loadAt 34 (.pointer (some (t49.add 0))))) w fun t51 w =>
      SplitB (decide (s1.1 < (t51.len : Int)))
        (JoinX (α := Unit) (fun j4 w =>
          k2 (IntKind.i64.wrap (s1.1 + 1), ()) w)
        fun k3 =>
          SplitB (s1.1 != p1)
            (RunN Try.prog (.agg (.cons (.int .i64) (.cons (.int .i64) .nilT))) (V (Instr.loadAt 54 (.pointer (some t5)))) w fun t62 w =>
            CallK Try.prog (.tup .nilT) 54 #[.pointer p0, .agg #[.int .i64 5, .int .i64 p1, .int .i64 s1.1, .int .i64 t62.1, .int .i64 t62.2.1, .int .i64 0, .int .i64 0, .int .i64 t46, .int .i64 0]] w fun t65 w =>
            NilP t14 fun t67 =>
            RunN Try.prog (.int .i64) (V (Instr.loadAt 3 (.pointer (some (t67.add 1))))) w fun t69 w =>
            NilP t14 fun t72 =>
            RunU Try.prog (U (Instr.storeAt 3 (.pointer (some (t72.add 1))) (.int .i64 (IntKind.i64.wrap (t69 - t46))))) w fun w =>
            k3 () w)
            (k3 () w))
        (K () w))
    (0, ()) w.drew)
theorem T26.calls {p0 : Option Addr} {p1 : Int} {w : World} {K : Unit → World → Prop} (h : T26 p0 p1 w K) : CallK Try.prog (.tup .nilT) 26 #[.pointer p0, .int .i64 p1] w K :=
  bodyZ_sound (κ := kappa) (ann := [(8, [(7, (.int .i64))]), (11, [])]) (fn := Try.f26) Try.func26 rfl (by kernel_rfl) (cast (show T26 p0 p1 w K = bodyZ Try.prog kappa [(8, [(7, (.int .i64))]), (11, [])] (.tup .nilT) Try.f26 [.pointer p0, .int .i64 p1] w K by kernel_rfl) h)

/-- (*sluice/sluicelaw11.world).moves -/
def T27 (p0 : Option Addr) (p1 : Int) (p2 : (Int × Int × Int × Int × Bool × Unit)) (w : World) (K : Unit → World → Prop) : Prop :=
  RunN Try.prog .addr (V (Instr.box 33 (.agg #[.int .i64 p2.1, .int .i64 p2.2.1, .int .i64 p2.2.2.1, .int .i64 p2.2.2.2.1, .bool p2.2.2.2.2.1]))) w fun t5 w =>
  NilP p0 fun t12 =>
  RunN Try.prog .sl (V (Instr.loadAt 34 (.pointer (some (t12.add 0))))) w fun t14 w =>
  RunN Try.prog .addr (V (Instr.indexAt 34 (.slice t14.a t14.len t14.cap) (.int .i64 p1))) w fun t16 w =>
  RunN Try.prog .ptr (V (Instr.loadAt 62 (.pointer (some t16)))) w fun t17 w =>
  RunN Try.prog (.int .i64) (V (Instr.loadAt 3 (.pointer (some (t5.add 0))))) w fun t19 w =>
  SplitB (t19 == 3)
    (ReadN Try.prog (.int .i64) (V (Instr.loadAt 3 (.pointer (some (t5.add 2))))) w.drew fun t23 =>
    NilP t17 fun t26 =>
    ReadN Try.prog (.int .i64) (V (Instr.loadAt 3 (.pointer (some (t26.add 1))))) w.drew fun t28 =>
    CallK Try.prog (.int .i64) 18 #[.int .i64 t23, .int .i64 4] w.drew fun t24 w =>
    StillV Try.prog (V (Instr.loadAt 3 (.pointer (some (t26.add 1))))) (.int .i64 t28) w ∧
    ReadN Try.prog (.int .i64) (V (Builtin.min_ #[3, 3] 3 #[.int .i64 t24, .int .i64 t28])) w fun t29 =>
    NilP t17 fun t31 =>
    RunN Try.prog (.int .i64) (V (Instr.loadAt 3 (.pointer (some (t31.add 1))))) w fun t33 w =>
    NilP t17 fun t36 =>
    RunU Try.prog (U (Instr.storeAt 3 (.pointer (some (t36.add 1))) (.int .i64 (IntKind.i64.wrap (t33 - t29))))) w fun w =>
    NilP t17 fun t39 =>
    RunN Try.prog (.int .i64) (V (Instr.loadAt 3 (.pointer (some (t39.add 2))))) w fun t41 w =>
    NilP t17 fun t44 =>
    RunU Try.prog (U (Instr.storeAt 3 (.pointer (some (t44.add 2))) (.int .i64 (IntKind.i64.wrap (t41 + t29))))) w fun w =>
    K () w)
    (SplitB (t19 == 4)
      (ReadN Try.prog (.int .i64) (V (Instr.loadAt 3 (.pointer (some (t5.add 2))))) w.drew fun t49 =>
      NilP t17 fun t52 =>
      ReadN Try.prog (.int .i64) (V (Instr.loadAt 3 (.pointer (some (t52.add 2))))) w.drew fun t54 =>
      CallK Try.prog (.int .i64) 18 #[.int .i64 t49, .int .i64 4] w.drew fun t50 w =>
      StillV Try.prog (V (Instr.loadAt 3 (.pointer (some (t52.add 2))))) (.int .i64 t54) w ∧
      ReadN Try.prog (.int .i64) (V (Builtin.min_ #[3, 3] 3 #[.int .i64 t50, .int .i64 t54])) w fun t55 =>
      NilP t17 fun t57 =>
      RunN Try.prog (.int .i64) (V (Instr.loadAt 3 (.pointer (some (t57.add 1))))) w fun t59 w =>
      NilP t17 fun t62 =>
      RunU Try.prog (U (Instr.storeAt 3 (.pointer (some (t62.add 1))) (.int .i64 (IntKind.i64.wrap (t59 + t55))))) w fun w =>
      NilP t17 fun t65 =>
      RunN Try.prog (.int .i64) (V (Instr.loadAt 3 (.pointer (some (t65.add 2))))) w fun t67 w =>
      NilP t17 fun t70 =>
      RunU Try.prog (U (Instr.storeAt 3 (.pointer (some (t70.add 2))) (.int .i64 (IntKind.i64.wrap (t67 - t55))))) w fun w =>
      K () w)
      (SplitB (t19 == 5)
        (ReadN Try.prog (.int .i64) (V (Instr.loadAt 3 (.pointer (some (t5.add 2))))) w.drew fun t75 =>
        NilP t17 fun t78 =>
        ReadN Try.prog (.int .i64) (V (Instr.loadAt 3 (.pointer (some (t78.add 1))))) w.drew fun t80 =>
        CallK Try.prog (.int .i64) 18 #[.int .i64 t75, .int .i64 4] w.drew fun t76 w =>
        StillV Try.prog (V (Instr.loadAt 3 (.pointer (some (t78.add 1))))) (.int .i64 t80) w ∧
        ReadN Try.prog (.int .i64) (V (Builtin.min_ #[3, 3] 3 #[.int .i64 t76, .int .i64 t80])) w fun t81 =>
        ReadN Try.prog (.int .i64) (V (Instr.loadAt 3 (.pointer (some (t5.add 3))))) w.drew fun t83 =>
        NilP p0 fun t85 =>
        ReadN Try.prog .sl (V (Instr.loadAt 34 (.pointer (some (t85.add 0))))) w.drew fun t87 =>
        CallK Try.prog (.int .i64) 18 #[.int .i64 t83, .int .i64 (t87.len : Int)] w.drew fun t89 w =>
        JoinX (α := Bool × Unit) (fun j2 w =>
          SplitB j2.1
            (NilP t17 fun t98 =>
            RunN Try.prog (.int .i64) (V (Instr.loadAt 3 (.pointer (some (t98.add 1))))) w fun t100 w =>
            NilP t17 fun t103 =>
            RunU Try.prog (U (Instr.storeAt 3 (.pointer (some (t103.add 1))) (.int .i64 (IntKind.i64.wrap (t100 - t81))))) w fun w =>
            CallK Try.prog (.tup .nilT) 54 #[.pointer p0, .agg #[.int .i64 9, .int .i64 p1, .int .i64 t89, .int .i64 0, .int .i64 0, .int .i64 0, .int .i64 0, .int .i64 t81, .int .i64 0]] w fun t110 w =>
            K () w)
            (K () w))
        fun k1 =>
          SplitB (t89 != p1)
            (k1 (decide (t81 > 0), ()) w)
            (k1 (false, ()) w))
        (K () w)))
theorem T27.calls {p0 : Option Addr} {p1 : Int} {p2 : (Int × Int × Int × Int × Bool × Unit)} {w : World} {K : Unit → World → Prop} (h : T27 p0 p1 p2 w K) : CallK Try.prog (.tup .nilT) 27 #[.pointer p0, .int .i64 p1, .agg #[.int .i64 p2.1, .int .i64 p2.2.1, .int .i64 p2.2.2.1, .int .i64 p2.2.2.2.1, .bool p2.2.2.2.2.1]] w K :=
  bodyZ_sound (κ := kappa) (ann := [(12, [(96, .bool)])]) (fn := Try.f27) Try.func27 rfl (by kernel_rfl) (cast (show T27 p0 p1 p2 w K = bodyZ Try.prog kappa [(12, [(96, .bool)])] (.tup .nilT) Try.f27 [.pointer p0, .int .i64 p1, .agg #[.int .i64 p2.1, .int .i64 p2.2.1, .int .i64 p2.2.2.1, .int .i64 p2.2.2.2.1, .bool p2.2.2.2.2.1]] w K by kernel_rfl) h)

/-- (*sluice/sluicelaw11.world).others -/
def T52 (p0 : Option Addr) (p1 : (Int × Int × Int × Int × Int × Int × Int × Int × Int × Unit)) (w : World) (K : Unit → World → Prop) : Prop :=
  RunN Try.prog .addr (V (Instr.box 73 (.agg #[.int .i64 p1.1, .int .i64 p1.2.1, .int .i64 p1.2.2.1, .int .i64 p1.2.2.2.1, .int .i64 p1.2.2.2.2.1, .int .i64 p1.2.2.2.2.2.1, .int .i64 p1.2.2.2.2.2.2.1, .int .i64 p1.2.2.2.2.2.2.2.1, .int .i64 p1.2.2.2.2.2.2.2.2.1]))) w fun t3 w =>
  LoopX (α := Int × Unit) (fun s1 w k2 =>
    NilP p0 fun t7 =>
    RunN Try.prog .sl (V (Instr.loadAt 34 (.pointer (some (t7.add 0))))) w fun t9 w =>
    SplitB (decide (s1.1 < (t9.len : Int)))
      (JoinX (α := Unit) (fun j4 w =>
        k2 (IntKind.i64.wrap (s1.1 + 1), ()) w)
      fun k3 =>
        RunN Try.prog (.int .i64) (V (Instr.loadAt 3 (.pointer (some (t3.add 1))))) w fun t16 w =>
        SplitB (s1.1 != t16)
          (RunU Try.prog (U (Instr.storeAt 3 (.pointer (some (t3.add 2))) (.int .i64 s1.1))) w fun w =>
          RunN Try.prog (.agg (.cons (.int .i64) (.cons (.int .i64) (.cons (.int .i64) (.cons (.int .i64) (.cons (.int .i64) (.cons (.int .i64) (.cons (.int .i64) (.cons (.int .i64) (.cons (.int .i64) .nilT)))))))))) (V (Instr.loadAt 73 (.pointer (some t3)))) w fun t21 w =>
          CallK Try.prog (.tup .nilT) 54 #[.pointer p0, .agg #[.int .i64 t21.1, .int .i64 t21.2.1, .int .i64 t21.2.2.1, .int .i64 t21.2.2.2.1, .int .i64 t21.2.2.2.2.1, .int .i64 t21.2.2.2.2.2.1, .int .i64 t21.2.2.2.2.2.2.1, .int .i64 t21.2.2.2.2.2.2.2.1, .int .i64 t21.2.2.2.2.2.2.2.2.1]] w fun t22 w =>
          k3 () w)
          (k3 () w))
      (K () w))
  (0, ()) w
theorem T52.calls {p0 : Option Addr} {p1 : (Int × Int × Int × Int × Int × Int × Int × Int × Int × Unit)} {w : World} {K : Unit → World → Prop} (h : T52 p0 p1 w K) : CallK Try.prog (.tup .nilT) 52 #[.pointer p0, .agg #[.int .i64 p1.1, .int .i64 p1.2.1, .int .i64 p1.2.2.1, .int .i64 p1.2.2.2.1, .int .i64 p1.2.2.2.2.1, .int .i64 p1.2.2.2.2.2.1, .int .i64 p1.2.2.2.2.2.2.1, .int .i64 p1.2.2.2.2.2.2.2.1, .int .i64 p1.2.2.2.2.2.2.2.2.1]] w K :=
  bodyZ_sound (κ := kappa) (ann := [(2, [(4, (.int .i64))]), (5, [])]) (fn := Try.f52) Try.func52 rfl (by kernel_rfl) (cast (show T52 p0 p1 w K = bodyZ Try.prog kappa [(2, [(4, (.int .i64))]), (5, [])] (.tup .nilT) Try.f52 [.pointer p0, .agg #[.int .i64 p1.1, .int .i64 p1.2.1, .int .i64 p1.2.2.1, .int .i64 p1.2.2.2.1, .int .i64 p1.2.2.2.2.1, .int .i64 p1.2.2.2.2.2.1, .int .i64 p1.2.2.2.2.2.2.1, .int .i64 p1.2.2.2.2.2.2.2.1, .int .i64 p1.2.2.2.2.2.2.2.2.1]] w K by kernel_rfl) h)

/-- (*sluice/sluicelaw11.world).hasAll -/
def T53 (p0 : Option Addr) (p1 : Int) (w : World) (K : Bool → World → Prop) : Prop :=
  LoopX (α := Int × Int × Unit) (fun s1 w k2 =>
    NilP p0 fun t11 =>
    RunN Try.prog .sl (V (Instr.loadAt 34 (.pointer (some (t11.add 0))))) w fun t13 w =>
    SplitB (decide (s1.2.1 < (t13.len : Int)))
      (JoinX (α := Int × Unit) (fun j4 w =>
        k2 (j4.1, IntKind.i64.wrap (s1.2.1 + 1), ()) w)
      fun k3 =>
        SplitB (s1.2.1 == p1)
          (k3 (s1.1, ()) w)
          (NilP p0 fun t23 =>
          RunN Try.prog .sl (V (Instr.loadAt 34 (.pointer (some (t23.add 0))))) w fun t25 w =>
          RunN Try.prog .addr (V (Instr.indexAt 34 (.slice t25.a t25.len t25.cap) (.int .i64 s1.2.1))) w fun t27 w =>
          RunN Try.prog .ptr (V (Instr.loadAt 62 (.pointer (some t27)))) w fun t28 w =>
          NilP t28 fun t29 =>
          RunN Try.prog (.int .i64) (V (Instr.loadAt 3 (.pointer (some (t29.add 2))))) w fun t31 w =>
          NilP p0 fun t34 =>
          RunN Try.prog .sl (V (Instr.loadAt 34 (.pointer (some (t34.add 0))))) w fun t36 w =>
          RunN Try.prog .addr (V (Instr.indexAt 34 (.slice t36.a t36.len t36.cap) (.int .i64 s1.2.1))) w fun t38 w =>
          RunN Try.prog .ptr (V (Instr.loadAt 62 (.pointer (some t38)))) w fun t39 w =>
          NilP t39 fun t40 =>
          RunN Try.prog (.int .i64) (V (Instr.loadAt 3 (.pointer (some (t40.add 1))))) w fun t42 w =>
          SplitB (t42 != 0)
            (K false w)
            (k3 (IntKind.i64.wrap (s1.1 + t31), ()) w)))
      (LoopX (α := Int × Unit) (fun s5 w k6 =>
        NilP p0 fun t46 =>
        RunN Try.prog .sl (V (Instr.loadAt 35 (.pointer (some (t46.add 1))))) w fun t48 w =>
        SplitB (decide (s5.1 < (t48.len : Int)))
          (NilP p0 fun t54 =>
          RunN Try.prog .sl (V (Instr.loadAt 35 (.pointer (some (t54.add 1))))) w fun t56 w =>
          RunN Try.prog .addr (V (Instr.indexAt 35 (.slice t56.a t56.len t56.cap) (.int .i64 s5.1))) w fun t58 w =>
          RunN Try.prog (.int .i64) (V (Instr.loadAt 3 (.pointer (some (t58.add 7))))) w fun t60 w =>
          SplitB (t60 != 0)
            (K false w)
            (k6 (IntKind.i64.wrap (s5.1 + 1), ()) w))
          (NilP p0 fun t63 =>
          RunN Try.prog .sl (V (Instr.loadAt 34 (.pointer (some (t63.add 0))))) w fun t65 w =>
          RunN Try.prog .addr (V (Instr.indexAt 34 (.slice t65.a t65.len t65.cap) (.int .i64 p1))) w fun t67 w =>
          RunN Try.prog .ptr (V (Instr.loadAt 62 (.pointer (some t67)))) w fun t68 w =>
          NilP t68 fun t70 =>
          ReadN Try.prog .ptr (V (Instr.loadAt 42 (.pointer (some (t70.add 0))))) w.drew fun t72 =>
          CallK Try.prog (.int .i64) 49 #[.pointer t72] w.drew fun t73 w =>
          SplitB (t73 == s1.1)
            (NilP t68 fun t78 =>
            ReadN Try.prog (.int .i64) (V (Instr.loadAt 3 (.pointer (some (t78.add 1))))) w fun t80 =>
            NilP t68 fun t82 =>
            ReadN Try.prog (.int .i64) (V (Instr.loadAt 3 (.pointer (some (t82.add 2))))) w fun t84 =>
            NilP p0 fun t89 =>
            ReadN Try.prog (.int .i64) (V (Instr.loadAt 3 (.pointer (some (t89.add 2))))) w fun t91 =>
            SplitB ((IntKind.i64.wrap ((IntKind.i64.wrap (t80 + t84)) + s1.1)) == t91)
              (NilP t68 fun t96 =>
              ReadN Try.prog .bool (V (Instr.loadAt 4 (.pointer (some (t96.add 4))))) w fun t98 =>
              SplitB (!t98)
                (K true w)
                (NilP t68 fun t102 =>
                ReadN Try.prog .ptr (V (Instr.loadAt 42 (.pointer (some (t102.add 0))))) w fun t104 =>
                CallK Try.prog .bool 50 #[.pointer t104] w fun t105 w =>
                K t105 w))
              (K false w))
            (K false w)))
      (0, ()) w))
  (0, 0, ()) w
theorem T53.calls {p0 : Option Addr} {p1 : Int} {w : World} {K : Bool → World → Prop} (h : T53 p0 p1 w K) : CallK Try.prog .bool 53 #[.pointer p0, .int .i64 p1] w K :=
  bodyZ_sound (κ := kappa) (ann := [(4, [(5, (.int .i64)), (6, (.int .i64))]), (7, [(5, (.int .i64))]), (15, [(7, (.int .i64))])]) (fn := Try.f53) Try.func53 rfl (by kernel_rfl) (cast (show T53 p0 p1 w K = bodyZ Try.prog kappa [(4, [(5, (.int .i64)), (6, (.int .i64))]), (7, [(5, (.int .i64))]), (15, [(7, (.int .i64))])] .bool Try.f53 [.pointer p0, .int .i64 p1] w K by kernel_rfl) h)

/-- (*sluice/sluicelaw11.world).send -/
def T54 (p0 : Option Addr) (p1 : (Int × Int × Int × Int × Int × Int × Int × Int × Int × Unit)) (w : World) (K : Unit → World → Prop) : Prop :=
  RunN Try.prog .addr (V (Instr.box 73 (.agg #[.int .i64 p1.1, .int .i64 p1.2.1, .int .i64 p1.2.2.1, .int .i64 p1.2.2.2.1, .int .i64 p1.2.2.2.2.1, .int .i64 p1.2.2.2.2.2.1, .int .i64 p1.2.2.2.2.2.2.1, .int .i64 p1.2.2.2.2.2.2.2.1, .int .i64 p1.2.2.2.2.2.2.2.2.1]))) w fun t3 w =>
  NilP p0 fun t6 =>
  ReadN Try.prog .sl (V (Instr.loadAt 35 (.pointer (some (t6.add 1))))) w.drew fun t8 =>
  ReadN Try.prog (.agg (.cons (.int .i64) (.cons (.int .i64) (.cons (.int .i64) (.cons (.int .i64) (.cons (.int .i64) (.cons (.int .i64) (.cons (.int .i64) (.cons (.int .i64) (.cons (.int .i64) .nilT)))))))))) (V (Instr.loadAt 73 (.pointer (some t3)))) w.drew fun t9 =>
  RunN Try.prog .sl (V (Instr.buildSlice 35 1 #[(0, .agg #[.int .i64 t9.1, .int .i64 t9.2.1, .int .i64 t9.2.2.1, .int .i64 t9.2.2.2.1, .int .i64 t9.2.2.2.2.1, .int .i64 t9.2.2.2.2.2.1, .int .i64 t9.2.2.2.2.2.2.1, .int .i64 t9.2.2.2.2.2.2.2.1, .int .i64 t9.2.2.2.2.2.2.2.2.1])])) w.drew fun t10 w =>
  StillV Try.prog (V (Instr.loadAt 35 (.pointer (some (t6.add 1))))) (.slice t8.a t8.len t8.cap) w ∧
  RunN Try.prog .sl (V (Builtin.append_ #[35, 35] 35 #[.slice t8.a t8.len t8.cap, .slice t10.a t10.len t10.cap])) w fun t11 w =>
  NilP p0 fun t12 =>
  RunU Try.prog (U (Instr.storeAt 35 (.pointer (some (t12.add 1))) (.slice t11.a t11.len t11.cap))) w fun w =>
  K () w
theorem T54.calls {p0 : Option Addr} {p1 : (Int × Int × Int × Int × Int × Int × Int × Int × Int × Unit)} {w : World} {K : Unit → World → Prop} (h : T54 p0 p1 w K) : CallK Try.prog (.tup .nilT) 54 #[.pointer p0, .agg #[.int .i64 p1.1, .int .i64 p1.2.1, .int .i64 p1.2.2.1, .int .i64 p1.2.2.2.1, .int .i64 p1.2.2.2.2.1, .int .i64 p1.2.2.2.2.2.1, .int .i64 p1.2.2.2.2.2.2.1, .int .i64 p1.2.2.2.2.2.2.2.1, .int .i64 p1.2.2.2.2.2.2.2.2.1]] w K :=
  bodyZ_sound (κ := kappa) (ann := []) (fn := Try.f54) Try.func54 rfl (by kernel_rfl) (cast (show T54 p0 p1 w K = bodyZ Try.prog kappa [] (.tup .nilT) Try.f54 [.pointer p0, .agg #[.int .i64 p1.1, .int .i64 p1.2.1, .int .i64 p1.2.2.1, .int .i64 p1.2.2.2.1, .int .i64 p1.2.2.2.2.1, .int .i64 p1.2.2.2.2.2.1, .int .i64 p1.2.2.2.2.2.2.1, .int .i64 p1.2.2.2.2.2.2.2.1, .int .i64 p1.2.2.2.2.2.2.2.2.1]] w K by kernel_rfl) h)

/-- (*sluice/sluicelaw11.world).begin -/
def T55 (p0 : Option Addr) (p1 : Int) (p2 : Bool) (w : World) (K : Unit → World → Prop) : Prop :=
  NilP p0 fun t10 =>
  RunN Try.prog .sl (V (Instr.loadAt 34 (.pointer (some (t10.add 0))))) w fun t12 w =>
  RunN Try.prog .addr (V (Instr.indexAt 34 (.slice t12.a t12.len t12.cap) (.int .i64 p1))) w fun t14 w =>
  RunN Try.prog .ptr (V (Instr.loadAt 62 (.pointer (some t14)))) w fun t15 w =>
  NilP t15 fun t18 =>
  ReadN Try.prog .ptr (V (Instr.loadAt 42 (.pointer (some (t18.add 0))))) w.drew fun t20 =>
  NilP p0 fun t22 =>
  ReadN Try.prog (.int .i64) (V (Instr.loadAt 3 (.pointer (some (t22.add 2))))) w.drew fun t24 =>
  NilP t15 fun t26 =>
  ReadN Try.prog (.int .i64) (V (Instr.loadAt 3 (.pointer (some (t26.add 1))))) w.drew fun t28 =>
  NilP t15 fun t30 =>
  ReadN Try.prog (.int .i64) (V (Instr.loadAt 3 (.pointer (some (t30.add 2))))) w.drew fun t32 =>
  CallK Try.prog (.tup (.cons .sl (.cons (.int .i64) .nilT))) 20 #[.pointer t20, .int .i64 t24, .int .i64 t28, .int .i64 t32, .bool p2] w.drew fun t34 w =>
  JoinX (α := Bool × Unit) (fun j2 w =>
    SplitB j2.1
      (NilP p0 fun t45 =>
      RunU Try.prog (U (Instr.storeAt 4 (.pointer (some (t45.add 6))) (.bool true))) w fun w =>
      K () w)
      (NilP p0 fun t48 =>
      RunN Try.prog (.int .i64) (V (Instr.loadAt 3 (.pointer (some (t48.add 3))))) w fun t50 w =>
      NilP p0 fun t52 =>
      RunU Try.prog (U (Instr.storeAt 3 (.pointer (some (t52.add 3))) (.int .i64 (IntKind.i64.wrap (t50 + 1))))) w fun w =>
      NilP t15 fun t56 =>
      RunU Try.prog (U (Instr.storeAt 4 (.pointer (some (t56.add 4))) (.bool p2))) w fun w =>
      RunN Try.prog .addr (V (Instr.indexAt 66 (.slice t34.1.a t34.1.len t34.1.cap) (.int .i64 0))) w fun t60 w =>
      RunN Try.prog (.int .i64) (V (Instr.loadAt 3 (.pointer (some (t60.add 0))))) w fun t62 w =>
      NilP t15 fun t64 =>
      RunU Try.prog (U (Instr.storeAt 4 (.pointer (some (t64.add 7))) (.bool (t62 == 1)))) w fun w =>
      NilP t15 fun t67 =>
      RunN Try.prog .bool (V (Instr.loadAt 4 (.pointer (some (t67.add 7))))) w fun t69 w =>
      SplitB t69
        (RunN Try.prog .addr (V (Instr.indexAt 66 (.slice t34.1.a t34.1.len t34.1.cap) (.int .i64 0))) w fun t73 w =>
        RunN Try.prog (.agg (.cons (.int .i64) (.cons (.int .i64) .nilT))) (V (Instr.loadAt 54 (.pointer (some (t73.add 2))))) w fun t75 w =>
        CallK Try.prog (.tup .nilT) 52 #[.pointer p0, .agg #[.int .i64 3, .int .i64 p1, .int .i64 0, .int .i64 t75.1, .int .i64 t75.2.1, .int .i64 0, .int .i64 0, .int .i64 0, .int .i64 0]] w fun t77 w =>
        K () w)
        (RunN Try.prog .addr (V (Instr.indexAt 66 (.slice t34.1.a t34.1.len t34.1.cap) (.int .i64 0))) w fun t79 w =>
        RunN Try.prog (.int .i64) (V (Instr.loadAt 3 (.pointer (some (t79.add 0))))) w fun t81 w =>
        SplitB (t81 != 4)
          (NilP p0 fun t84 =>
          RunU Try.prog (U (Instr.storeAt 4 (.pointer (some (t84.add 6))) (.bool true))) w fun w =>
          K () w)
          (K () w))))
  fun k1 =>
    SplitB (t34.2.1 != 0)
      (k1 (true, ()) w)
      (k1 ((t34.1.len : Int) != 1, ()) w)
theorem T55.calls {p0 : Option Addr} {p1 : Int} {p2 : Bool} {w : World} {K : Unit → World → Prop} (h : T55 p0 p1 p2 w K) : CallK Try.prog (.tup .nilT) 55 #[.pointer p0, .int .i64 p1, .bool p2] w K :=
  bodyZ_sound (κ := kappa) (ann := [(3, [(43, .bool)])]) (fn := Try.f55) Try.func55 rfl (by kernel_rfl) (cast (show T55 p0 p1 p2 w K = bodyZ Try.prog kappa [(3, [(43, .bool)])] (.tup .nilT) Try.f55 [.pointer p0, .int .i64 p1, .bool p2] w K by kernel_rfl) h)
end Go.Proofs.Ytmfbmfppjdkeeaa

/- The world of epochs in memory: its nodes, its messages. -/
namespace Go.Proofs.Ytmfbmfppjdkeeaa
open Go Go.Fw Go.RowKit
set_option linter.unusedVariables false
set_option linter.unusedSimpArgs false
set_option maxRecDepth 4000
set_option maxHeartbeats 4000000
variable {w0 w : World} {F G : Grps}

instance : Sc Try.prog 28 := ⟨by kernel_rfl⟩
instance : Sc Try.prog 34 := ⟨by kernel_rfl⟩
instance : Sc Try.prog 35 := ⟨by kernel_rfl⟩
instance : Sc Try.prog 62 := ⟨by kernel_rfl⟩
instance : Sc Try.prog 63 := ⟨by kernel_rfl⟩
instance : Et Try.prog 34 62 1 8 := ⟨ET.of (by kernel_rfl), by decide⟩
instance : Et Try.prog 35 73 9 72 := ⟨ET.of (by kernel_rfl), by decide⟩
instance : Et Try.prog 63 4 1 1 := ⟨ET.of (by kernel_rfl), by decide⟩
instance : Ag Try.prog 73 9 := ⟨by kernel_rfl⟩
instance : Ag Try.prog 33 5 := ⟨by kernel_rfl⟩
instance : NewC Try.prog 73 [.int .i64 0, .int .i64 0, .int .i64 0, .int .i64 0, .int .i64 0, .int .i64 0, .int .i64 0, .int .i64 0, .int .i64 0] := ⟨fun _ => by kernel_rfl⟩
instance : PtE Try.prog 28 := ⟨fun _ _ _ _ => by kernel_rfl, fun _ _ _ => by kernel_rfl, fun _ _ _ _ => by kernel_rfl, fun _ _ _ => by kernel_rfl⟩
theorem bs34p (w : World) (a : Option Addr) : (Instr.buildSlice 34 1 #[(0, .pointer a)]).run Try.prog w = .ok (.slice (some ⟨w.heap.size, 0, none⟩) 1 1) (w.alloc (.cells ⟨[.pointer a]⟩ 62)) := by kernel_rfl
theorem bs35m (w : World) (a b c d e f g h i : Int) : (Instr.buildSlice 35 1 #[(0, .agg #[.int .i64 a, .int .i64 b, .int .i64 c, .int .i64 d, .int .i64 e, .int .i64 f, .int .i64 g, .int .i64 h, .int .i64 i])]).run Try.prog w = .ok (.slice (some ⟨w.heap.size, 0, none⟩) 1 1) (w.alloc (.cells ⟨[.int .i64 a, .int .i64 b, .int .i64 c, .int .i64 d, .int .i64 e, .int .i64 f, .int .i64 g, .int .i64 h, .int .i64 i]⟩ 73)) := by kernel_rfl
theorem bs63b (w : World) (b : Bool) : (Instr.buildSlice 63 1 #[(0, .bool b)]).run Try.prog w = .ok (.slice (some ⟨w.heap.size, 0, none⟩) 1 1) (w.alloc (.cells ⟨[.bool b]⟩ 4)) := by kernel_rfl
theorem run_rem (w : World) (a b : Int) (hb : b ≠ 0) : (binOp .rem 3 (.int .i64 a) (.int .i64 b)).run Try.prog w = .ok (.int .i64 (Int.tmod a b)) w := by
  simp [binOp, Op.intDiv, hb]
theorem min_i (w : World) (a b : Int) : (Builtin.min_ #[3, 3] 3 #[.int .i64 a, .int .i64 b]).run Try.prog w = .ok (.int .i64 (min a b)) w := by
  rw [run_min_int2]
  congr 2
  omega
/-- A node in memory. -/
structure Nd where
  e : Em
  ri : Int
  he : Int
  ws : Sl
  wait : List Bool
  own : Bool
  y : Ep
  told : Bool
  nb : Nat
def Nd.pl (x : Nd) : No := ⟨x.e.toMv, x.ri, x.he, x.wait, x.own, x.y, x.told⟩
def lbo (l : List Bool) : List Value := l.map .bool
def ndC (x : Nd) : List Value := [.pointer x.e.p, .int .i64 x.ri, .int .i64 x.he, slv x.ws, .bool x.own, .int .i64 x.y.1, .int .i64 x.y.2, .bool x.told]
def ndE (x : Nd) : List Ent := [.cel x.nb 65 (ndC x), .row 4 1 x.ws (lbo x.wait)]
abbrev Nd.p (x : Nd) : Option Addr := some ⟨x.nb, 0, none⟩
structure Wm where
  N : List Nd
  ns : Sl
  bag : List Ms
  bs : Sl
  lim : Int
  begun : Int
  ended : Int
  turn : Int
  wrong : Bool
  wb : Nat
def Wm.pl (x : Wm) : Wo := ⟨x.N.map Nd.pl, x.bag, x.lim, x.begun, x.ended, x.turn, x.wrong⟩
def woC (x : Wm) : List Value := [slv x.ns, slv x.bs, .int .i64 x.lim, .int .i64 x.begun, .int .i64 x.ended, .int .i64 x.turn, .bool x.wrong]
def mgv (m : Ms) : List Value := [.int .i64 m.kind, .int .i64 m.fr, .int .i64 m.to, .int .i64 m.e.1, .int .i64 m.e.2, .int .i64 m.ov.1, .int .i64 m.ov.2, .int .i64 m.ri, .int .i64 m.he]
def mgt (m : Ms) : (Int × Int × Int × Int × Int × Int × Int × Int × Int × Unit) := (m.kind, m.fr, m.to, m.e.1, m.e.2, m.ov.1, m.ov.2, m.ri, m.he, ())
abbrev Kd9 : Kd := .agg (.cons (.int .i64) (.cons (.int .i64) (.cons (.int .i64) (.cons (.int .i64) (.cons (.int .i64) (.cons (.int .i64) (.cons (.int .i64) (.cons (.int .i64) (.cons (.int .i64) .nilT)))))))))
theorem mgv_len (m : Ms) : (mgv m).length = 9 := rfl
theorem mgv_one (m : Ms) : ∀ v ∈ mgv m, v.oneCell' = true := by intro v hv; simp [mgv] at hv; rcases hv with rfl | rfl | rfl | rfl | rfl | rfl | rfl | rfl | rfl <;> rfl
def ndp (x : Nd) : Value := .pointer x.p
def woE (x : Wm) : List Ent := [.cel x.wb 37 (woC x), .row 62 1 x.ns (x.N.map ndp), .row 73 9 x.bs (x.bag.flatMap mgv)]
abbrev Wm.p (x : Wm) : Option Addr := some ⟨x.wb, 0, none⟩
def nodesG (N : List Nd) : Grps := N.flatMap fun x => [ndE x, emE x.e []]
def stW (x : Wm) (F : Grps) : Grps := woE x :: (nodesG x.N ++ F)
def opW (x : Wm) (i : Nat) (n : Nd) (F : Grps) : Grps := woE x :: ndE n :: emE n.e [] :: (nodesG (x.N.eraseIdx i) ++ F)
theorem nodes_perm : ∀ {N : List Nd} {i : Nat} {n : Nd}, N[i]? = some n → (nodesG N).Perm (ndE n :: emE n.e [] :: nodesG (N.eraseIdx i))
  | [], i, n, h => by simp at h
  | x :: r, 0, n, h => by simp at h; subst h; exact .refl _
  | x :: r, i + 1, n, h => by
    have h1 := nodes_perm (N := r) (i := i) (n := n) (by simpa using h)
    show (ndE x :: emE x.e [] :: nodesG r).Perm (ndE n :: emE n.e [] :: (ndE x :: emE x.e [] :: nodesG (r.eraseIdx i)))
    refine ((h1.cons _).cons _).trans ?_
    exact (((List.Perm.swap _ _ _).trans ((List.Perm.swap _ _ _).cons _)).cons _).trans ((List.Perm.swap _ _ _).trans (((List.Perm.swap _ _ _).cons _)))
theorem St.openN {x : Wm} {i : Nat} {n : Nd} (h : St w0 w (stW x F)) (hn : x.N[i]? = some n) : St w0 w (opW x i n F) := by
  refine h.perm ?_
  have h1 := (nodes_perm hn).flatten
  simp only [stW, opW, List.flatten_cons, List.flatten_append] at h1 ⊢
  refine List.Perm.append_left _ ?_
  rw [← List.append_assoc, ← List.append_assoc]
  refine List.Perm.append_right _ ?_
  rw [List.append_assoc]; exact h1
theorem St.closeN {x : Wm} {i : Nat} {n n' : Nd} (h : St w0 w (opW x i n' F)) (hn : x.N[i]? = some n) (hb : n'.nb = n.nb) : St w0 w (stW { x with N := x.N.set i n' } F) := by
  have hi := (List.getElem?_eq_some_iff.1 hn).1
  have hs : (x.N.set i n')[i]? = some n' := by simp [hi]
  have he : (x.N.set i n').eraseIdx i = x.N.eraseIdx i := List.eraseIdx_set_eq
  have hp : (x.N.set i n').map ndp = x.N.map ndp := by
    rw [List.map_set]
    have : ndp n' = ndp n := by rw [ndp, ndp, Nd.p, Nd.p, hb]
    rw [this]
    have e : (x.N.map ndp)[i]'(by simpa using hi) = ndp n := by simp [(List.getElem?_eq_some_iff.1 hn).2]
    rw [← e]; exact List.set_getElem_self _
  have h1 := (nodes_perm hs).flatten
  rw [he] at h1
  have hw : woE { x with N := x.N.set i n' } = woE x := by
    show [Ent.cel x.wb 37 _, .row 62 1 x.ns ((x.N.set i n').map ndp), .row 73 9 x.bs (x.bag.flatMap mgv)] = _
    rw [hp]; rfl
  refine h.perm ?_
  simp only [stW, opW, hw, List.flatten_cons, List.flatten_append] at h1 ⊢
  refine List.Perm.append_left _ ?_
  rw [← List.append_assoc, ← List.append_assoc]
  refine List.Perm.append_right _ ?_
  rw [List.append_assoc]; exact h1.symm
/-- The world stands so, somewhere in memory. -/
def At (w0 : World) (F : Grps) (wb : Nat) (nbs : List Nat) (X : Wo) (w : World) : Prop := ∃ x : Wm, x.wb = wb ∧ x.N.map (·.nb) = nbs ∧ x.pl = X ∧ St w0 w (stW x F)
structure Vw (wb : Nat) (nbs : List Nat) (X : Wo) (i : Nat) (y : No) (nb : Nat) (x : Wm) (n : Nd) : Prop where
  wb : x.wb = wb
  nbs : x.N.map (·.nb) = nbs
  pl : x.pl = X
  get : x.N[i]? = some n
  npl : n.pl = y
  nb : n.nb = nb
theorem At.openN {wb : Nat} {nbs : List Nat} {X : Wo} {i : Nat} {y : No} {nb : Nat} (h : At w0 F wb nbs X w) (hy : X.N[i]? = some y) (hb : nbs[i]? = some nb) : ∃ x n, Vw wb nbs X i y nb x n ∧ St w0 w (opW x i n F) := by
  obtain ⟨x, h1, h2, h3, h⟩ := h
  have hN : X.N = x.N.map Nd.pl := by rw [← h3]; rfl
  rw [hN, List.getElem?_map] at hy
  cases hn : x.N[i]? with
  | none => rw [hn] at hy; cases hy
  | some n =>
    rw [hn] at hy
    simp at hy
    rw [← h2, List.getElem?_map, hn] at hb
    simp at hb
    exact ⟨x, n, ⟨h1, h2, h3, hn, hy, hb⟩, St.openN h hn⟩
theorem At.closeN {wb : Nat} {nbs : List Nat} {X X' : Wo} {i : Nat} {y : No} {nb : Nat} {x x' : Wm} {n n' : Nd} (v : Vw wb nbs X i y nb x n) (h : St w0 w (opW x' i n' F)) (hN : x'.N = x.N) (hwb : x'.wb = x.wb) (hnb : n'.nb = n.nb)
    (hX : X' = { x'.pl with N := X.N.set i n'.pl }) : At w0 F wb nbs X' w := by
  have hg : x'.N[i]? = some n := by rw [hN]; exact v.get
  have hi := (List.getElem?_eq_some_iff.1 v.get).1
  refine ⟨{ x' with N := x'.N.set i n' }, by rw [← v.wb, ← hwb], ?_, ?_, St.closeN h hg hnb⟩
  · show (x'.N.set i n').map (·.nb) = nbs
    rw [hN, ← v.nbs, List.map_set, hnb]
    have e : (x.N.map (·.nb))[i]'(by simpa using hi) = n.nb := by simp [(List.getElem?_eq_some_iff.1 v.get).2]
    rw [← e]; exact List.set_getElem_self _
  · rw [hX]
    have e : X.N = x.N.map Nd.pl := by rw [← v.pl]; rfl
    rw [e]
    show Wm.pl { x' with N := x'.N.set i n' } = _
    rw [Wm.pl, hN, List.map_set]
    rfl
/-- Where a node lies. -/
theorem nd_at {x : Wm} {i : Nat} {n : Nd} (h : St w0 w (woE x :: G)) (hn : x.N[i]? = some n) {K : Option Addr → World → Prop} (hk : K n.p w) :
    NilP x.p fun t12 =>
    RunN Try.prog .sl (V (Instr.loadAt 34 (.pointer (some (t12.add 0))))) w fun t14 w =>
    RunN Try.prog .addr (V (Instr.indexAt 34 (.slice t14.a t14.len t14.cap) (.int .i64 (i : Int)))) w fun t16 w =>
    RunN Try.prog .ptr (V (Instr.loadAt 62 (.pointer (some t16)))) w K := by
  obtain ⟨hi, he⟩ := List.getElem?_eq_some_iff.1 hn
  have hr := h.rd (k := 0) (i := 1) (E := 62) (sz := 1) (s := x.ns) (vs := x.N.map ndp) ⟨_, rfl, rfl⟩
  have hl : x.ns.len = x.N.length := by have := hr.1; rw [List.length_map] at this; omega
  refine NilP.mk ?_
  refine h.loadB 0 0 ⟨_, rfl, rfl⟩ rfl (kd := .sl) (x := x.ns) rfl ?_
  refine hr.idxK i rfl (by omega) ?_
  intro b0 o0 ha
  exact hr.el ha (i * 1) rfl (kd := .ptr) (x := n.p) (by rw [Nat.mul_one, List.getElem?_map, hn]; rfl) hk
theorem ns_len {x : Wm} (h : St w0 w (woE x :: G)) : x.ns.len = x.N.length := by
  have := (h.rd (k := 0) (i := 1) (E := 62) (sz := 1) (s := x.ns) (vs := x.N.map ndp) ⟨_, rfl, rfl⟩).1
  rw [List.length_map] at this; omega
theorem bs_len {x : Wm} (h : St w0 w (woE x :: G)) : x.bs.len = x.bag.length := by
  have := (h.rd (k := 0) (i := 2) (E := 73) (sz := 9) (s := x.bs) (vs := x.bag.flatMap mgv) ⟨_, rfl, rfl⟩).1
  rw [flat_len mgv_len] at this; omega
theorem within_st (h : St w0 w F) {x n : Int} (hn : 1 ≤ n) (hx : -9223372036854775808 ≤ x ∧ x ≤ 9223372036854775807) (hn2 : n ≤ 4611686018427387904) : CallK Try.prog (.int .i64) 18 #[.int .i64 x, .int .i64 n] w fun (r : Int) w' => r = wi2 x n ∧ St w0 w' F := by
  refine T18.calls ?_
  unfold T18
  refine JoinX.mk (fun (y : Int × Unit) w' => y.1 = (if x < 0 then -(x + 1) else x) ∧ St w0 w' F) ?_ ?_
  · clear h
    rintro ⟨y, ⟨⟩⟩ w1 ⟨hy, h⟩
    dsimp only at hy
    subst hy
    have hin := wi2_in (x := x) hn
    exact RunN.of (kd := .int .i64) (x := wi2 x n) (run_rem w1 _ _ (by omega)) ⟨rfl, h⟩
  · intro k hk
    rw [SplitB_iff]
    refine ⟨fun hc => ?_, fun hc => ?_⟩
    · have hc : x < 0 := of_decide_eq_true hc
      refine hk _ _ ⟨?_, h⟩
      dsimp only
      rw [if_pos hc, wr (x := x + 1) (by omega), wr (by omega)]; omega
    · have hc : ¬ x < 0 := of_decide_eq_false hc
      exact hk _ _ ⟨by rw [if_neg hc], h⟩
theorem send_st {x : Wm} (h : St w0 w (woE x :: G)) (hb : x.bag.length ≤ 1000000000000) (m : Ms) : CallK Try.prog (.tup .nilT) 54 #[.pointer x.p, .agg #[.int .i64 m.kind, .int .i64 m.fr, .int .i64 m.to, .int .i64 m.e.1, .int .i64 m.e.2, .int .i64 m.ov.1, .int .i64 m.ov.2, .int .i64 m.ri, .int .i64 m.he]] w
    fun (_ : Unit) w' => ∃ bs', St w0 w' (woE { x with bag := x.bag ++ [m], bs := bs' } :: G) := by
  have hbl := bs_len h
  refine T54.calls (p1 := mgt m) ?_
  unfold T54
  refine h.newB run_boxA rfl ?_
  intro c3 w1 h
  have h : St w0 w1 ([.cel c3 73 (mgv m)] :: woE x :: G) := h
  refine NilP.mk ?_
  refine h.drew.readB 1 0 ⟨_, rfl, rfl⟩ rfl (kd := .sl) (x := x.bs) rfl ?_
  refine ReadN.of (kd := Kd9) (x := mgt m) (h.drew.run_loadA (k := 0) (i := 0) (b := c3) (t := 73) (cs := mgv m) ⟨_, rfl, rfl⟩ (t' := 73) (n := 9) (j := 0) rfl (vs := mgv m) rfl rfl) ?_
  refine h.drew.newS 9 (bs35m _ _ _ _ _ _ _ _ _ _) rfl rfl rfl ?_
  intro u w2 hu1 hu2 _ h
  refine ⟨h.stillB 2 0 ⟨_, rfl, rfl⟩ rfl rfl, ?_⟩
  refine h.app 2 2 (s := x.bs) ⟨_, rfl, rfl⟩ (h.rd (k := 0) (i := 0) ⟨_, rfl, rfl⟩) (mgv_one m) (by simp only [maxLen]; omega) (by omega) ?_
  intro bs' w3 hl3 h
  have h := (h.drop 0).drop 0
  dsimp only [delO, updG, setO, woE] at h
  refine NilP.mk ?_
  refine h.storB 0 0 ⟨_, rfl, rfl⟩ rfl rfl rfl ?_
  intro w4 h
  dsimp only [updG, setO] at h
  refine ⟨bs', ?_⟩
  have e1 : (x.bag ++ [m]).flatMap mgv = x.bag.flatMap mgv ++ mgv m := by rw [List.flatMap_append]; simp
  have e2 : woE { x with bag := x.bag ++ [m], bs := bs' } = [.cel x.wb 37 (woC { x with bs := bs' }), .row 62 1 x.ns (x.N.map ndp), .row 73 9 bs' (x.bag.flatMap mgv ++ mgv m)] := by rw [← e1]; rfl
  rw [e2]
  exact h
theorem others_st {x : Wm} (h : St w0 w (woE x :: G)) (hn : x.N.length ≤ 5) (hb : x.bag.length ≤ 999999999000) {m : Ms} {k : Nat} (hk : m.fr = (k : Int)) : CallK Try.prog (.tup .nilT) 52 #[.pointer x.p, .agg #[.int .i64 m.kind, .int .i64 m.fr, .int .i64 m.to, .int .i64 m.e.1, .int .i64 m.e.2, .int .i64 m.ov.1, .int .i64 m.ov.2, .int .i64 m.ri, .int .i64 m.he]] w
    fun (_ : Unit) w' => ∃ bs', St w0 w' (woE { x with bag := x.bag ++ oth x.N.length k m, bs := bs' } :: G) := by
  have hnl := ns_len h
  refine T52.calls (p1 := mgt m) ?_
  unfold T52
  refine h.newB run_boxA rfl ?_
  intro c3 w1 h
  have h : St w0 w1 ([.cel c3 73 (mgv m)] :: woE x :: G) := h
  refine LoopX.mk (fun st w' => ∃ (j : Nat) (bs' : Sl) (t : Int), st = ((j : Int), ()) ∧ j ≤ x.N.length ∧ St w0 w' ([.cel c3 73 (mgv { m with to := t })] :: woE { x with bag := x.bag ++ oth j k m, bs := bs' } :: G)) (fun st => x.N.length - st.1.toNat) ⟨0, x.bs, m.to, rfl, Nat.zero_le _, ?_⟩ ?_
  · have e : x.bag ++ oth 0 k m = x.bag := by simp [oth]
    rw [e]; exact h
  clear h
  rintro _ w2 ⟨j, bs1, t, rfl, hj, h⟩ k2 hk2
  dsimp only at hk2 ⊢
  refine NilP.mk ?_
  refine h.loadB 1 0 ⟨_, rfl, rfl⟩ rfl (kd := .sl) (x := x.ns) rfl ?_
  rw [SplitB_iff]
  refine ⟨fun hc => ?_, fun hc => ?_⟩
  · have hc : j < x.N.length := by have : (j : Int) < (x.ns.len : Int) := of_decide_eq_true hc
                                   omega
    have hem : IntKind.i64.wrap ((j : Int) + 1) = ((j + 1 : Nat) : Int) := by rw [wr (by omega)]; omega
    rw [hem]
    refine JoinX.mk (fun (_ : Unit) w' => ∃ (bs' : Sl) (t : Int), St w0 w' ([.cel c3 73 (mgv { m with to := t })] :: woE { x with bag := x.bag ++ oth (j + 1) k m, bs := bs' } :: G)) ?_ ?_
    · rintro ⟨⟩ w3 ⟨bs', t', h⟩
      exact hk2 _ _ ⟨j + 1, bs', t', rfl, by omega, h⟩ (by dsimp only; omega)
    intro k3 hk3
    refine h.loadB 0 0 ⟨_, rfl, rfl⟩ rfl (kd := .int .i64) (x := m.fr) rfl ?_
    rw [oth_succ] at hk3
    rw [hk, SplitB_iff]
    refine ⟨fun hne => ?_, fun he => ?_⟩
    · have hne : j ≠ k := by intro h; subst h; simp at hne
      rw [if_neg hne] at hk3
      refine h.storB 0 0 ⟨_, rfl, rfl⟩ rfl rfl rfl ?_
      intro w3 h
      have h : St w0 w3 ([.cel c3 73 (mgv { m with to := (j : Int) })] :: woE { x with bag := x.bag ++ oth j k m, bs := bs1 } :: G) := h
      refine RunN.of (kd := Kd9) (x := mgt { m with to := (j : Int) }) (h.run_loadA (k := 0) (i := 0) (b := c3) (t := 73) (cs := mgv { m with to := (j : Int) }) ⟨_, rfl, rfl⟩ (t' := 73) (n := 9) (j := 0) rfl (vs := mgv { m with to := (j : Int) }) rfl rfl) ?_
      have h := h.ord 2 [1, 0]
      dsimp only [pick, nthO, dropO] at h
      have hol := oth_len (n := j) (k := k) m
      refine (send_st (x := { x with bag := x.bag ++ oth j k m, bs := bs1 }) h (by show (x.bag ++ oth j k m).length ≤ _; rw [List.length_append]; omega) { m with to := (j : Int) }).mono ?_
      rintro _ w4 ⟨bs', h⟩
      have h := h.ord 2 [1, 0]
      dsimp only [pick, nthO, dropO] at h
      refine hk3 _ _ ⟨bs', (j : Int), ?_⟩
      rw [← List.append_assoc]
      exact h
    · have he : j = k := by
        have : ((j : Int) != (k : Int)) = false := he
        simp at this; omega
      rw [if_pos he, List.append_nil] at hk3
      exact hk3 _ _ ⟨bs1, t, h⟩
  · have hc : j = x.N.length := by have : ¬ (j : Int) < (x.ns.len : Int) := of_decide_eq_false hc
                                   omega
    subst hc
    exact ⟨bs1, h.drop 0⟩
end Go.Proofs.Ytmfbmfppjdkeeaa

/- The world of epochs in memory: who has all; the sums. -/
namespace Go.Proofs.Ytmfbmfppjdkeeaa
open Go Go.Fw Go.RowKit
set_option linter.unusedVariables false
set_option linter.unusedSimpArgs false
set_option maxRecDepth 4000
set_option maxHeartbeats 4000000
variable {w0 w : World} {F G : Grps} {wb : Nat} {nbs : List Nat} {X : Wo} {k : Nat} {y : No}

theorem set_get {l : List No} (h : l[k]? = some y) : l.set k y = l := by
  obtain ⟨h1, h2⟩ := List.getElem?_eq_some_iff.1 h
  rw [← h2]; exact List.set_getElem_self h1
theorem At.sameN {nb : Nat} {x : Wm} {n : Nd} (v : Vw wb nbs X k y nb x n) (hy : X.N[k]? = some y) (h : St w0 w (opW x k n F)) : At w0 F wb nbs X w :=
  At.closeN v h rfl rfl rfl (by rw [v.pl, v.npl, set_get hy])
theorem Sm_mono {f : Nat → Int} (hf : ∀ j, 0 ≤ f j) {m n : Nat} (h : m ≤ n) : Sm f m ≤ Sm f n := by
  induction h with
  | refl => exact Int.le_refl _
  | @step n' _ ih => rw [Sm_succ]; have := hf n'; omega
theorem heAt_nonneg (hI : Wi 0 X) (k j : Nat) : 0 ≤ heAt X k j := by
  unfold heAt
  split
  · exact Int.le_refl _
  · cases h : X.N[j]? with
    | none => exact Int.le_refl _
    | some z => exact (hI.ok j z h).he
theorem pl_N {x : Wm} (h : x.pl = X) : X.N = x.N.map Nd.pl := by rw [← h]; rfl
theorem pl_get {x : Wm} (h : x.pl = X) {j : Nat} {n : Nd} (hn : x.N[j]? = some n) : X.N[j]? = some n.pl := by rw [pl_N h, List.getElem?_map, hn]; rfl
theorem hasAll_st (h : At w0 F wb nbs X w) (hI : Wi 0 X) (hy : X.N[k]? = some y) (hA : HasAll X k y) : CallK Try.prog .bool 53 #[.pointer (some ⟨wb, 0, none⟩), .int .i64 (k : Int)] w fun (v : Bool) w' => v = true ∧ At w0 F wb nbs X w' := by
  obtain ⟨x, hwb, hnb, hpl, h⟩ := h
  subst hwb
  have hlen : X.N.length = x.N.length := by rw [pl_N hpl]; simp
  have hn5 := hI.n
  have hok := hI.ok k y hy
  have hlt := get_lt hy
  have hlim := hI.lim
  have hmono : ∀ m, m ≤ X.N.length → 0 ≤ hTo X k m ∧ hTo X k m ≤ 30 := fun m hm => by
    have h1 := Sm_mono (heAt_nonneg hI k) hm
    have h2 := Sm_mono (heAt_nonneg hI k) (Nat.zero_le m)
    have h3 := hA.sum
    have h4 := hok.ri; have h5 := hok.he
    have h6 : Sm (heAt X k) 0 = 0 := rfl
    unfold hTo at h3 ⊢
    omega
  refine T53.calls ?_
  unfold T53
  refine LoopX.mk (fun st w' => ∃ j : Nat, st = (hTo X k j, (j : Int), ()) ∧ j ≤ X.N.length ∧ St w0 w' (stW x F)) (fun st => X.N.length - st.2.1.toNat) ⟨0, rfl, Nat.zero_le _, h⟩ ?_
  clear h
  rintro _ w1 ⟨j, rfl, hj, h⟩ k2 hk2
  dsimp only at hk2 ⊢
  have hnl := ns_len h
  refine NilP.mk ?_
  refine h.loadB 0 0 ⟨_, rfl, rfl⟩ rfl (kd := .sl) (x := x.ns) rfl ?_
  rw [SplitB_iff]
  refine ⟨fun hc => ?_, fun hc => ?_⟩
  · have hc : j < X.N.length := by have : (j : Int) < (x.ns.len : Int) := of_decide_eq_true hc
                                   omega
    have hem : IntKind.i64.wrap ((j : Int) + 1) = ((j + 1 : Nat) : Int) := by rw [wr (by omega)]; omega
    rw [hem]
    have hm1 := hmono j (by omega)
    have hm2 := hmono (j + 1) (by omega)
    refine JoinX.mk (fun (z : Int × Unit) w' => z.1 = hTo X k (j + 1) ∧ St w0 w' (stW x F)) ?_ ?_
    · rintro ⟨z, ⟨⟩⟩ w2 ⟨hz, h⟩
      dsimp only at hz
      subst hz
      exact hk2 _ _ ⟨j + 1, rfl, by omega, h⟩ (by dsimp only; omega)
    intro k3 hk3
    have hstep : hTo X k (j + 1) = hTo X k j + heAt X k j := Sm_succ _ _
    rw [SplitB_iff]
    refine ⟨fun he => ?_, fun hne => ?_⟩
    · have he : j = k := by have : (j : Int) = (k : Int) := by simpa using he
                            omega
      refine hk3 _ _ ⟨?_, h⟩
      rw [hstep, heAt, if_pos he]; simp
    · have hne : j ≠ k := by intro hh; subst hh; simp at hne
      have hjx : j < x.N.length := by omega
      have hn := List.getElem?_eq_getElem hjx
      have ho := St.openN h hn
      have hg := pl_get hpl hn
      refine nd_at h hn ?_
      refine NilP.mk ?_
      refine ho.loadB 1 0 ⟨_, rfl, rfl⟩ rfl (kd := .int .i64) (x := x.N[j].he) rfl ?_
      refine nd_at h hn ?_
      refine NilP.mk ?_
      refine ho.loadB 1 0 ⟨_, rfl, rfl⟩ rfl (kd := .int .i64) (x := x.N[j].ri) rfl ?_
      have hr0 : x.N[j].ri = 0 := hA.ri j _ hg hne
      rw [hr0, SplitB_iff]
      refine ⟨fun hf => by simp at hf, fun _ => ?_⟩
      have he : heAt X k j = x.N[j].he := by rw [heAt, if_neg hne, hg]; rfl
      refine hk3 _ _ ⟨?_, h⟩
      dsimp only
      rw [hstep, he] at hm2
      rw [wr (by omega), hstep, he]
  · have hc : j = X.N.length := by have : ¬ (j : Int) < (x.ns.len : Int) := of_decide_eq_false hc
                                   omega
    subst hc
    clear hk2
    have hbl := bs_len h
    have hbag : X.bag = x.bag := by rw [← hpl]; rfl
    refine LoopX.mk (fun st w' => ∃ j : Nat, st = ((j : Int), ()) ∧ j ≤ x.bag.length ∧ St w0 w' (stW x F)) (fun st => x.bag.length - st.1.toNat) ⟨0, rfl, Nat.zero_le _, h⟩ ?_
    clear h
    rintro _ w2 ⟨j, rfl, hj, h⟩ k6 hk6
    dsimp only at hk6 ⊢
    refine NilP.mk ?_
    refine h.loadB 0 0 ⟨_, rfl, rfl⟩ rfl (kd := .sl) (x := x.bs) rfl ?_
    rw [SplitB_iff]
    refine ⟨fun hc => ?_, fun hc => ?_⟩
    · have hc : j < x.bag.length := by have : (j : Int) < (x.bs.len : Int) := of_decide_eq_true hc
                                       omega
      have hr := h.rd (k := 0) (i := 2) (E := 73) (sz := 9) (s := x.bs) (vs := x.bag.flatMap mgv) ⟨_, rfl, rfl⟩
      have hsz : x.bs.len ≤ 9223372036854775807 := by
        have := (h.ow (k := 0) (i := 2) (E := 73) (sz := 9) (s := x.bs) (vs := x.bag.flatMap mgv) ⟨_, rfl, rfl⟩).2
        rcases this with h0 | ⟨_, _, cs, _, _, _, h1, h2, h3, _⟩
        · rw [h0]; decide
        · simp only [maxLen] at h2
          omega
      have hem : IntKind.i64.wrap ((j : Int) + 1) = ((j + 1 : Nat) : Int) := by rw [wr (by omega)]; omega
      rw [hem]
      refine NilP.mk ?_
      refine h.loadB 0 0 ⟨_, rfl, rfl⟩ rfl (kd := .sl) (x := x.bs) rfl ?_
      refine hr.idxK j rfl (by omega) ?_
      intro b0 o0 ha
      refine hr.el ha (j * 9 + 7) (by rw [add_lit', Nat.add_assoc]) (kd := .int .i64) (x := x.bag[j].ri) (by rw [flat_cell mgv_len hc 7 (by decide)]; rfl) ?_
      have hr0 : x.bag[j].ri = 0 := hA.bag _ (by rw [hbag]; exact List.getElem_mem hc)
      rw [hr0, SplitB_iff]
      refine ⟨fun hf => by simp at hf, fun _ => ?_⟩
      exact hk6 _ _ ⟨j + 1, rfl, by omega, h⟩ (by dsimp only; omega)
    · have hkx : k < x.N.length := by omega
      have hn := List.getElem?_eq_getElem hkx
      have ho := St.openN h hn
      have hg := pl_get hpl hn
      rw [hy] at hg
      have hyn : y = x.N[k].pl := by simpa using hg
      refine nd_at h hn ?_
      clear h
      generalize x.N[k] = n at hn ho hyn
      have hwf : n.e.wf := by have := hok.wf; rw [hyn] at this; exact this
      refine NilP.mk ?_
      refine ho.drew.readB 1 0 ⟨_, rfl, rfl⟩ rfl (kd := .ptr) (x := n.e.p) rfl ?_
      have ho := ho.drew.ord 3 [2, 0, 1]
      dsimp only [opW, pick, nthO, dropO] at ho
      refine (reported_st ho hwf).mono ?_
      intro (v : Int) w3 ⟨hv, ho⟩
      have hvv : v = hTo X k X.N.length := by rw [hv, ← hA.rep, hyn]; rfl
      have hm := hmono X.N.length (Nat.le_refl _)
      have hsum := hA.sum
      rw [hyn] at hsum
      have hsum : n.ri + n.he + hTo X k X.N.length = X.lim := hsum
      have hxl : X.lim = x.lim := by rw [← hpl]; rfl
      have hri : 0 ≤ n.ri ∧ 0 ≤ n.he := by have h1 := hok.ri; have h2 := hok.he; rw [hyn] at h1 h2; exact ⟨h1, h2⟩
      rw [hvv, SplitB_iff]
      refine ⟨fun _ => ?_, fun hf => by simp at hf⟩
      refine NilP.mk ?_
      refine ho.readB 2 0 ⟨_, rfl, rfl⟩ rfl (kd := .int .i64) (x := n.ri) rfl ?_
      refine NilP.mk ?_
      refine ho.readB 2 0 ⟨_, rfl, rfl⟩ rfl (kd := .int .i64) (x := n.he) rfl ?_
      refine NilP.mk ?_
      refine ho.readB 1 0 ⟨_, rfl, rfl⟩ rfl (kd := .int .i64) (x := x.lim) rfl ?_
      rw [wr (x := n.ri + n.he) (by omega), wr (by omega), hsum, hxl, SplitB_iff]
      refine ⟨fun _ => ?_, fun hf => by simp at hf⟩
      refine NilP.mk ?_
      refine ho.readB 2 0 ⟨_, rfl, rfl⟩ rfl (kd := .bool) (x := n.own) rfl ?_
      have hback : ∀ {w'}, St w0 w' (emE n.e [] :: woE x :: ndE n :: (nodesG (x.N.eraseIdx k) ++ F)) → At w0 F x.wb nbs X w' := fun h => by
        have h := h.ord 3 [1, 2, 0]
        dsimp only [pick, nthO, dropO] at h
        have hb : nbs[k]? = some n.nb := by rw [← hnb, List.getElem?_map, hn]; rfl
        exact At.sameN ⟨rfl, hnb, hpl, hn, hyn.symm, rfl⟩ hy h
      rw [SplitB_iff]
      refine ⟨fun _ => ⟨rfl, hback ho⟩, fun how => ?_⟩
      refine NilP.mk ?_
      refine ho.readB 2 0 ⟨_, rfl, rfl⟩ rfl (kd := .ptr) (x := n.e.p) rfl ?_
      refine (all_st ho hwf).mono ?_
      intro (v2 : Bool) w4 ⟨hv2, ho⟩
      have how : n.own = true := by simpa using how
      have hal := hA.all (by rw [hyn]; exact how)
      refine ⟨?_, hback ho⟩
      rw [hv2]
      rw [hyn] at hal
      exact hal
end Go.Proofs.Ytmfbmfppjdkeeaa

/- The world of epochs in memory: an epoch ends, an epoch begins. -/
namespace Go.Proofs.Ytmfbmfppjdkeeaa
open Go Go.Fw Go.RowKit
set_option linter.unusedVariables false
set_option linter.unusedSimpArgs false
set_option maxRecDepth 4000
set_option maxHeartbeats 4000000
variable {w0 w : World} {F G : Grps} {wb : Nat} {nbs : List Nat} {X : Wo} {k : Nat} {y : No}

theorem run_quo (w : World) (a b : Int) (hb : b ≠ 0) : (binOp .quo 3 (.int .i64 a) (.int .i64 b)).run Try.prog w = .ok (.int .i64 (IntKind.i64.wrap (Int.tdiv a b))) w := by
  simp [binOp, Op.intDiv, hb]
theorem ndE_e {n : Nd} {e' : Em} (h : e'.cb = n.e.cb) : ndE { n with e := e' } = ndE n := by
  have : ndC { n with e := e' } = ndC n := by
    show [Value.pointer e'.p, _, _, _, _, _, _, _] = [Value.pointer n.e.p, _, _, _, _, _, _, _]
    rw [Em.p, Em.p, h]
  show [Ent.cel n.nb 65 (ndC { n with e := e' }), _] = [Ent.cel n.nb 65 (ndC n), _]
  rw [this]
theorem finish_at (h : At w0 F wb nbs X w) (hI : Wi 0 X) (hy : X.N[k]? = some y) (hb : X.bag.length ≤ 999999990000) (he : -1000000000000 ≤ X.ended ∧ X.ended ≤ 1000000000000) :
    CallK Try.prog (.tup .nilT) 26 #[.pointer (some ⟨wb, 0, none⟩), .int .i64 (k : Int)] w fun (_ : Unit) w' => At w0 F wb nbs (X.fin k y) w' := by
  have hok := hI.ok k y hy
  have hlt := get_lt hy
  have hn5 := hI.n
  obtain ⟨x0, hwb0, hnb0, hpl0, h0⟩ := h
  have hb0 : ∃ nb, nbs[k]? = some nb := by
    have : k < nbs.length := by rw [← hnb0, List.length_map]; rw [pl_N hpl0, List.length_map] at hlt; exact hlt
    exact ⟨_, List.getElem?_eq_getElem this⟩
  obtain ⟨nb, hnb⟩ := hb0
  obtain ⟨x, n, v, h⟩ := At.openN ⟨x0, hwb0, hnb0, hpl0, h0⟩ hy hnb
  clear h0 hwb0 hnb0 hpl0 x0
  have hlen : X.N.length = x.N.length := by rw [pl_N v.pl]; simp
  have hwf : n.e.wf := by have := hok.wf; rw [← v.npl] at this; exact this
  have hri : 0 ≤ n.ri := by have := hok.ri; rw [← v.npl] at this; exact this
  have hsum : n.ri ≤ 30 := by
    have h1 := hI.sum; have h2 := hI.lim
    have h3 : y.ri + y.he ≤ rsum X.N := by
      have h4 := rsum_set (x' := ⟨y.m, 0, 0, [], false, (0, 0), false⟩) hy
      have h5 : 0 ≤ rsum (X.N.set k ⟨y.m, 0, 0, [], false, (0, 0), false⟩) := sum_nonneg fun z hz => by
        obtain ⟨q, hq, rfl⟩ := List.mem_map.1 hz
        rcases List.mem_or_eq_of_mem_set hq with hq | rfl
        · obtain ⟨i, hi, rfl⟩ := List.mem_iff_getElem.1 hq
          have h6 := hI.ok i _ (List.getElem?_eq_getElem hi)
          have h7 := h6.ri; have h8 := h6.he; omega
        · exact Int.le_refl 0
      have h6 : (0 : Int) + 0 = 0 := rfl
      dsimp only at h4
      omega
    have h4 : 0 ≤ bsum X.bag := sum_nonneg fun z hz => by
      obtain ⟨m, hm, rfl⟩ := List.mem_map.1 hz
      exact (hI.bag m hm).ri
    have h5 := hok.he
    have h6 : n.ri = y.ri := by rw [← v.npl]; rfl
    omega
  have hxb : x.bag = X.bag := by rw [← v.pl]; rfl
  have hxe : x.ended = X.ended := by rw [← v.pl]; rfl
  have hwbx := v.wb
  subst hwbx
  refine T26.calls ?_
  unfold T26
  refine nd_at h v.get ?_
  refine NilP.mk ?_
  refine h.loadB 1 0 ⟨_, rfl, rfl⟩ rfl (kd := .ptr) (x := n.e.p) rfl ?_
  have h := h.ord 3 [2, 0, 1]
  dsimp only [opW, pick, nthO, dropO] at h
  refine (own_st h hwf).mono ?_
  rintro _ w1 ⟨rfl, h⟩
  refine h.newB (NewC.run _) rfl ?_
  intro c5 w2 h
  refine h.storA (P := Try.prog) 0 0 (b := c5) ⟨_, rfl, rfl⟩ (t' := 54) (n := 2) (j := 0) rfl (ds := epv n.e.own) rfl rfl rfl ?_
  intro w3 h
  dsimp only [updG, setO] at h
  have h : St w0 w3 ([.cel c5 54 (epv n.e.own)] :: emE n.e [] :: woE x :: ndE n :: (nodesG (x.N.eraseIdx k) ++ F)) := h
  refine NilP.mk ?_
  refine h.loadB 3 0 ⟨_, rfl, rfl⟩ rfl (kd := .ptr) (x := n.e.p) rfl ?_
  have h := h.ord 2 [1, 0]
  dsimp only [pick, nthO, dropO] at h
  refine (finish_st h hwf).mono ?_
  rintro s w4 ⟨e', hcb, hmv, _, h⟩
  have h := h.ord 5 [3, 4, 1, 2]
  dsimp only [pick, nthO, dropO] at h
  rw [← ndE_e (n := n) hcb] at h
  let n1 : Nd := { n with e := e' }
  have hn1 : n1.pl = { y with m := y.m.finish.2 } := by
    rw [← v.npl]
    show (⟨e'.toMv, _, _, _, _, _, _⟩ : No) = ⟨n.e.toMv.finish.2, _, _, _, _, _, _⟩
    rw [hmv]; rfl
  have h : St w0 w4 (woE x :: ndE n1 :: emE n1.e [] :: [.cel c5 54 (epv n.e.own)] :: (nodesG (x.N.eraseIdx k) ++ F)) := h
  refine NilP.mk ?_
  refine h.loadB 0 0 ⟨_, rfl, rfl⟩ rfl (kd := .int .i64) (x := x.ended) rfl ?_
  rw [wr (by omega)]
  refine NilP.mk ?_
  refine h.storB 0 0 ⟨_, rfl, rfl⟩ rfl rfl rfl ?_
  intro w5 h
  let x1 : Wm := { x with ended := x.ended + 1 }
  have h : St w0 w5 (woE x1 :: ndE n1 :: emE n1.e [] :: [.cel c5 54 (epv n.e.own)] :: (nodesG (x.N.eraseIdx k) ++ F)) := h
  refine NilP.mk ?_
  refine h.loadB 1 0 ⟨_, rfl, rfl⟩ rfl (kd := .bool) (x := n.told) rfl ?_
  have hto : n.told = y.told := by rw [← v.npl]; rfl
  have hriy : n.ri = y.ri := by rw [← v.npl]; rfl
  have howy : n.e.own = y.m.own := by rw [← v.npl]; rfl
  unfold Wo.fin
  cases ht : n.told with
  | false =>
    rw [SplitB_iff]
    refine ⟨fun _ => ?_, fun hf => (by cases hf)⟩
    rw [if_neg (by rw [← hto, ht]; decide)]
    have h := h.ord 4 [0, 1, 2]
    dsimp only [pick, nthO, dropO] at h
    exact At.closeN (x' := x1) (n' := n1) v h rfl rfl rfl (by rw [hn1, ← v.pl]; rfl)
  | true =>
    rw [SplitB_iff]
    refine ⟨fun hf => (by cases hf), fun _ => ?_⟩
    rw [if_pos (by rw [← hto, ht])]
    have hpart := tdiv_part hri (show (1 : Int) ≤ (x.N.length : Int) by omega)
    have hp30 : Int.tdiv n.ri (x.N.length : Int) ≤ 30 := by
      have : 1 * Int.tdiv n.ri (x.N.length : Int) ≤ (x.N.length : Int) * Int.tdiv n.ri (x.N.length : Int) := Int.mul_le_mul_of_nonneg_right (by omega) hpart.1
      omega
    have hnl := ns_len h
    have hnl : x.ns.len = x.N.length := hnl
    refine NilP.mk ?_
    refine h.drew.readB 1 0 ⟨_, rfl, rfl⟩ rfl (kd := .int .i64) (x := n.ri) rfl ?_
    refine NilP.mk ?_
    refine h.drew.readB 0 0 ⟨_, rfl, rfl⟩ rfl (kd := .sl) (x := x.ns) rfl ?_
    rw [hnl]
    refine ReadN.of (kd := .int .i64) (run_quo _ _ _ (by omega)) ?_
    rw [wr (by omega)]
    rw [hlen, ← hriy, ← howy]
    generalize hq : Int.tdiv n.ri (x.N.length : Int) = q at hpart hp30
    have hmul : ∀ j : Nat, j ≤ x.N.length → 0 ≤ (j : Int) * q ∧ (j : Int) * q ≤ 150 := fun j hj => by
      have h1 : (j : Int) * q ≤ (5 : Int) * q := Int.mul_le_mul_of_nonneg_right (by omega) hpart.1
      have h2 : 0 ≤ (j : Int) * q := Int.mul_nonneg (by omega) hpart.1
      omega
    let cnt : Nat → Int := fun j => if k < j then (j : Int) - 1 else j
    have hcnt : ∀ j : Nat, j ≤ x.N.length → 0 ≤ cnt j * q ∧ cnt j * q ≤ 150 := fun j hj => by
      show 0 ≤ (if k < j then (j : Int) - 1 else j) * q ∧ _
      show _ ∧ (if k < j then (j : Int) - 1 else j) * q ≤ 150
      split
      · have h1 := hmul (j - 1) (by omega)
        have e : ((j - 1 : Nat) : Int) = (j : Int) - 1 := by omega
        rw [e] at h1; exact h1
      · exact hmul j hj
    refine LoopX.mk (fun st w' => ∃ (j : Nat) (bs' : Sl), st = ((j : Int), ()) ∧ j ≤ x.N.length ∧ St w0 w' (woE { x1 with bag := x.bag ++ oth j k ⟨5, (k : Int), 0, n.e.own, (0, 0), q, 0⟩, bs := bs' } :: ndE { n1 with ri := n.ri - cnt j * q } :: emE n1.e [] :: [.cel c5 54 (epv n.e.own)] :: (nodesG (x.N.eraseIdx k) ++ F))) (fun st => x.N.length - st.1.toNat)
      ⟨0, x.bs, rfl, Nat.zero_le _, ?_⟩ ?_
    · have e1 : x.bag ++ oth 0 k ⟨5, (k : Int), 0, n.e.own, (0, 0), q, 0⟩ = x.bag := by simp [oth]
      have e2 : n.ri - cnt 0 * q = n.ri := by
        show n.ri - (if k < 0 then ((0 : Nat) : Int) - 1 else ((0 : Nat) : Int)) * q = n.ri
        rw [if_neg (Nat.not_lt_zero _)]; simp
      rw [e1, e2]
      exact h.drew
    clear h
    rintro _ w6 ⟨j, bs1, rfl, hj, h⟩ k2 hk2
    dsimp only at hk2 ⊢
    refine NilP.mk ?_
    refine h.loadB 0 0 ⟨_, rfl, rfl⟩ rfl (kd := .sl) (x := x.ns) rfl ?_
    rw [hnl, SplitB_iff]
    refine ⟨fun hc => ?_, fun hc => ?_⟩
    · have hc : j < x.N.length := by have : (j : Int) < (x.N.length : Int) := of_decide_eq_true hc
                                     omega
      have hem : IntKind.i64.wrap ((j : Int) + 1) = ((j + 1 : Nat) : Int) := by rw [wr (by omega)]; omega
      rw [hem]
      have hc1 := hcnt j (by omega)
      have hc2 := hcnt (j + 1) (by omega)
      refine JoinX.mk (fun (_ : Unit) w' => ∃ bs' : Sl, St w0 w' (woE { x1 with bag := x.bag ++ oth (j + 1) k ⟨5, (k : Int), 0, n.e.own, (0, 0), q, 0⟩, bs := bs' } :: ndE { n1 with ri := n.ri - cnt (j + 1) * q } :: emE n1.e [] :: [.cel c5 54 (epv n.e.own)] :: (nodesG (x.N.eraseIdx k) ++ F))) ?_ ?_
      · rintro ⟨⟩ w7 ⟨bs', h⟩
        exact hk2 _ _ ⟨j + 1, bs', rfl, by omega, h⟩ (by dsimp only; omega)
      intro k3 hk3
      rw [oth_succ] at hk3
      rw [SplitB_iff]
      refine ⟨fun hne => ?_, fun he => ?_⟩
      · have hne : j ≠ k := by intro hh; subst hh; simp at hne
        rw [if_neg hne] at hk3
        have hcs : cnt (j + 1) * q = cnt j * q + q := by
          have e : cnt (j + 1) = cnt j + 1 := by
            show (if k < j + 1 then ((j + 1 : Nat) : Int) - 1 else ((j + 1 : Nat) : Int)) = (if k < j then (j : Int) - 1 else (j : Int)) + 1
            by_cases hkj : k < j
            · rw [if_pos (by omega), if_pos hkj]; omega
            · rw [if_neg (by omega), if_neg hkj]; omega
          rw [e, Int.add_mul, Int.one_mul]
        rw [hcs] at hk3 hc2
        refine RunN.of (kd := Kd2) (x := (n.e.own.1, n.e.own.2, ())) (h.run_loadA (k := 3) (i := 0) (b := c5) (t := 54) (cs := epv n.e.own) ⟨_, rfl, rfl⟩ (t' := 54) (n := 2) (j := 0) rfl (vs := epv n.e.own) rfl rfl) ?_
        have hol := oth_len (n := j) (k := k) ⟨5, (k : Int), 0, n.e.own, (0, 0), q, 0⟩
        refine (send_st (x := { x1 with bag := x.bag ++ oth j k ⟨5, (k : Int), 0, n.e.own, (0, 0), q, 0⟩, bs := bs1 }) h (by show (x.bag ++ oth j k _).length ≤ _; rw [List.length_append, hxb]; omega) ⟨5, (k : Int), (j : Int), n.e.own, (0, 0), q, 0⟩).mono ?_
        rintro _ w7 ⟨bs', h⟩
        refine NilP.mk ?_
        refine h.loadB 1 0 ⟨_, rfl, rfl⟩ rfl (kd := .int .i64) (x := n.ri - cnt j * q) rfl ?_
        rw [wr (by omega)]
        refine NilP.mk ?_
        refine h.storB 1 0 ⟨_, rfl, rfl⟩ rfl rfl rfl ?_
        intro w8 h
        refine hk3 _ _ ⟨bs', ?_⟩
        have e3 : n.ri - (cnt j * q + q) = n.ri - cnt j * q - q := by omega
        rw [e3, ← List.append_assoc]
        exact h
      · have he : j = k := by
          have : ((j : Int) != (k : Int)) = false := he
          simp at this; omega
        rw [if_pos he, List.append_nil] at hk3
        have hcs : cnt (j + 1) = cnt j := by
          show (if k < j + 1 then ((j + 1 : Nat) : Int) - 1 else ((j + 1 : Nat) : Int)) = (if k < j then (j : Int) - 1 else (j : Int))
          rw [if_pos (by omega), if_neg (by omega)]; omega
        rw [hcs] at hk3
        exact hk3 _ _ ⟨bs1, h⟩
    · have hc : j = x.N.length := by have : ¬ (j : Int) < (x.N.length : Int) := of_decide_eq_false hc
                                     omega
      subst hc
      have h := h.ord 4 [0, 1, 2]
      dsimp only [pick, nthO, dropO] at h
      have hck : cnt x.N.length = (x.N.length : Int) - 1 := if_pos (by omega)
      rw [hck] at h
      have hn2 : ({ n1 with ri := n.ri - ((x.N.length : Int) - 1) * q } : Nd).pl = { y with m := y.m.finish.2, ri := n.ri - ((x.N.length : Int) - 1) * q } := by
        have : ({ n1 with ri := n.ri - ((x.N.length : Int) - 1) * q } : Nd).pl = { n1.pl with ri := n.ri - ((x.N.length : Int) - 1) * q } := rfl
        rw [this, hn1]
      exact At.closeN (x' := { x1 with bag := x.bag ++ oth x.N.length k ⟨5, (k : Int), 0, n.e.own, (0, 0), q, 0⟩, bs := bs1 }) (n' := { n1 with ri := n.ri - ((x.N.length : Int) - 1) * q }) v h rfl rfl rfl (by rw [hn2, ← v.pl]; rfl)
end Go.Proofs.Ytmfbmfppjdkeeaa
