/- Words and steps, part 12: Epochs: a message comes. Epochs: the stages between decisions. Epochs: the last stages before a decision. Epochs: how long it takes until no message is under way. The world of epochs in memory: all messages come; EpochRests. Epochs: scripts; the last op; all at rest. What EpochRests reads of its arguments. -/
import Derived.Test.YtmfbmfppjdkeeaaErQ11
/- Epochs: a message comes. -/
namespace Go.Proofs.Ytmfbmfppjdkeeaa
open Go Go.Fw Go.RowKit
set_option linter.unusedVariables false
set_option linter.unusedSimpArgs false
set_option maxHeartbeats 1000000

structure Wz (c : Nat → Int) (S : Sx) (G : Nat → Nat) (ops cc : Int) (X : Wo) : Prop where
  wx : Wx 0 c S G ops X
  bd : Bd cc X
  qt : ∀ (i : Nat) (x : No), X.N[i]? = some x → Qt X.lim i x
section
variable {ex ex' : Int} {X X2 Y : Wo} {k : Nat} {x x2 : No} {i j : Nat} {p q : List Ms} {m : Ms}
variable {c c' : Nat → Int} {S S' : Sx} {G G' : Nat → Nat} {ops cc cc' : Int}
theorem ns_nn {f : No → Int} {l : List No} (h : ∀ x ∈ l, 0 ≤ f x) : 0 ≤ ns f l := sum_nonneg fun z hz => by
  obtain ⟨x, hx, rfl⟩ := List.mem_map.1 hz
  exact h x hx
theorem ns_ge {f : No → Int} {l : List No} (h : ∀ x, 0 ≤ f x) {k : Nat} {x : No} (hx : l[k]? = some x) : f x ≤ ns f l := by
  induction l generalizing k with
  | nil => simp at hx
  | cons a r ih =>
    have e : ns f (a :: r) = f a + ns f r := by simp [ns]
    rw [e]
    have h1 := ns_nn (l := r) fun x _ => h x
    cases k with
    | zero => simp at hx; subst hx; omega
    | succ k => have := ih (k := k) (by simpa using hx); have := h a; omega
theorem Wx.mu_le (h : Wx ex c S G ops X) (hx : X.N[k]? = some x) (ho : ops ≤ 400) : mu k x < 1000 := by
  have h1 := ns_ge (f := wl) (fun x => by unfold wl; omega) hx
  have h2 := ns_nn (f := lo) (l := X.N) fun x _ => by unfold lo; split <;> decide
  have h3 := h.op
  have h4 : wl x = (x.wait.length : Int) := rfl
  unfold mu
  split <;> omega
theorem Wz.told (h : Wz c S G ops cc X) (hx : X.N[k]? = some x) (hl : x.m.lv k = true) : x.told = true := by
  cases ht : x.told with
  | true => rfl
  | false => exact absurd (h.wx.un k x hx hl ht) ((h.qt k x hx).1 hl)
theorem Hd.bag (hd : Hd X X2 k m p q x x2 G G') : ∃ ms, X2.bag = (p ++ q) ++ ms ∧ ∀ z ∈ ms, z.kind = 7 := by
  rcases hd.or with ⟨_, h, _⟩ | ⟨t, A1, _, _, _, _, _, _, hr, hg⟩
  · exact ⟨[], by rw [h]; simp, fun z hz => by cases hz⟩
  · have := hg.b
    rw [hr.b'] at this
    refine ⟨_, this, fun z hz => ?_⟩
    obtain ⟨j, _, _, rfl⟩ := oth_of hz
    rfl
/-- A message comes. -/
theorem Wz.comes (h : Wz c S G ops cc X) (hb : X.bag = p ++ m :: q) (hops : ops ≤ 400) (hcc : cc ≤ 999999900000) :
    ∃ (k : Nat) (x x2 : No) (c' : Nat → Int) (S' : Sx) (G' : Nat → Nat), m.to = (k : Int) ∧ X.N[k]? = some x ∧ ∃ X2, Hd X X2 k m p q x x2 G G' ∧ Wx 0 c S G' ops X2 ∧ X2.N[k]? = some x2 ∧
      Wz c' S' G' ops (cc + 10005) (({ X with bag := p ++ q } : Wo).comes m) ∧ (({ X with bag := p ++ q } : Wo).comes m).lim = X.lim ∧ (({ X with bag := p ++ q } : Wo).comes m).N.length = X.N.length ∧
      (({ X with bag := p ++ q } : Wo).comes m).phi ≤ X.phi - (if wtm m = 0 then 0 else 1) ∧ (S' = S ∧ Out X2 (({ X with bag := p ++ q } : Wo).comes m) k x2 c c' ∨ S.length < S'.length) := by
  have hI := h.wx.wi
  have hmb : m ∈ X.bag := by rw [hb]; exact List.mem_append.2 (.inr (List.mem_cons_self ..))
  obtain ⟨k, hk, hkn⟩ := (hI.bag m hmb).to
  have hx := List.getElem?_eq_getElem hkn
  generalize X.N[k] = x at hx
  have hok := hI.ok k x hx
  have hqk := h.qt k x hx
  obtain ⟨G', x2, hw2, hd⟩ := h.wx.heard hx hb hk h.bd (fun hl => h.told hx hl)
  have hto0 : X.takeOut p.length = { X with bag := p ++ q } := by
    unfold Wo.takeOut
    rw [hb]; simp
  have hat : X.bag[p.length]? = some m := by rw [hb]; simp
  obtain ⟨w1, w2⟩ := take_ok hI hat
  rw [hto0] at w1 w2
  have hB0 : Bd cc ({ X with bag := p ++ q } : Wo) := ⟨by
    have := h.bd.bag; rw [hb] at this; simp at this ⊢; omega, h.bd.begun, h.bd.ended, h.bd.turn, h.bd.wait⟩
  have hB2 := (heard_ok w1 hx w2 hB0).2.1
  have hBY := (comes_ok w1 w2 hB0 (by omega)).2.1
  have hkt : m.to.toNat = k := by omega
  have hcm : ({ X with bag := p ++ q } : Wo).comes m = (({ X with bag := p ++ q } : Wo).heardX m k x).settle k := by
    unfold Wo.comes
    rw [hkt]
    show (match X.N[k]? with | some x => _ | none => _) = _
    rw [hx]
  rw [hcm] at hBY ⊢
  generalize ({ X with bag := p ++ q } : Wo).heardX m k x = X2 at hw2 hd hB2 hBY
  have hx2 : X2.N[k]? = some x2 := by rw [hd.N]; exact set_self hx
  obtain ⟨c', S', y, a1, a2, a3, a4, a5, a6⟩ := settle_gen 1000 X2 x2 c S (cc + 5) hw2 hB2 (by omega) hx2 (hw2.mu_le hx2 hops)
  have hYN : (X2.settle k).N = X.N.set k y := by
    show (Wo.settleN 1000 X2 k).N = _
    rw [a2, hd.N, List.set_set]
  have hYl : (X2.settle k).lim = X.lim := by
    show (Wo.settleN 1000 X2 k).lim = _
    rw [a4, hd.lim]
  refine ⟨k, x, x2, c', S', G', hk, hx, X2, hd, hw2, hx2, ⟨a1, hBY, fun i z hi => ?_⟩, hYl, by rw [hYN, List.length_set], ?_, a6⟩
  · rcases set_cases hx hYN hi with ⟨rfl, rfl⟩ | ⟨hik, hi⟩
    · exact a3
    · rw [hYl]; exact h.qt i z hi
  · have a5 : (X2.settle k).phi ≤ X2.phi + yc1 k x2 := a5
    have hyc : yc1 k x2 ≤ 1 := by unfold yc1; split <;> decide
    have hphX : X.phi = wtm m + wts (p ++ q) - 9 * (X.begun + X.ended) := by
      unfold Wo.phi
      rw [hb, wts_app, wts_cons, wts_app]; omega
    have hn5 := hI.n
    have hwm := wtm_in m
    rcases hd.or with ⟨_, g1, g2, g3, g4, _⟩ | ⟨t, A1, g0, _, g2, g3, _⟩
    · have hph2 : X2.phi = wts (p ++ q) - 9 * (X.begun + X.ended) := by unfold Wo.phi; rw [g1, g2, hd.begun]
      by_cases ht : tel m
      · have : wtm m = 2 := if_pos ht
        rw [if_neg (by omega)]; omega
      · have hno := hm_no (x := x) ht
        have hyc0 : yc1 k x2 = 0 := by
          unfold yc1
          refine if_neg ?_
          rintro ⟨q1, q2, q3⟩
          have e1 : x2.m.lv k = x.m.lv k := by rw [g4]; unfold Mv.lv; rw [hno.1, hno.2]
          have e2 : x2.m.top = x.m.top := by
            rw [g4]
            have hs := hm_same x m
            have : (x.hm m).lives = x.m.lives := by
              unfold Mv.lives
              rw [hs.2.1, hno.1]
              congr 1
              exact List.filter_congr fun i _ => by unfold Mv.lv; rw [hno.1, hno.2]
            unfold Mv.top; rw [this]
          rw [e1] at q1
          rw [e2] at q2 q3
          have := (hqk.2.1 q1 q2).1
          rw [hd.y] at q3
          exact q3 this.symm
        split <;> omega
    · have hph2 : X2.phi = wts (p ++ q) + 2 * ((X.N.length : Int) - 1) - 9 * (X.begun + (X.ended + 1)) := by unfold Wo.phi; rw [g3, g2, hd.begun]
      have : wtm m = 2 := if_pos g0
      rw [if_neg (by omega)]; omega
end
end Go.Proofs.Ytmfbmfppjdkeeaa

/- Epochs: the stages between decisions. -/
namespace Go.Proofs.Ytmfbmfppjdkeeaa
open Go Go.Fw Go.RowKit
set_option linter.unusedVariables false
set_option linter.unusedSimpArgs false
set_option maxHeartbeats 1000000

def NG (b : List Ms) : Prop := ∀ m ∈ b, m.kind ≠ 5
/-- All look to j's epoch; the reports come, and all rights go to j. -/
structure N3 (j o : Nat) (X : Wo) (z : No) : Prop where
  get : X.N[j]? = some z
  lv : z.m.lv j = true
  top : ∀ (i : Nat) (x : No), X.N[i]? = some x → x.m.top = (gI z.m.kn j, (j : Int))
  re : ∀ i, i < X.N.length → i ≠ j → gI z.m.re i ≠ -1 ∨ ∃ m ∈ X.bag.take o, m.kind = 4 ∧ m.fr = (i : Int) ∧ m.to = (j : Int) ∧ m.e = (gI z.m.kn j, (j : Int))
  no : ∀ m ∈ X.bag, ¬ tel m
  to : ∀ m ∈ X.bag.drop o, m.to = (j : Int)
structure N4 (j o : Nat) (X : Wo) (z : No) : Prop where
  get : X.N[j]? = some z
  lv : z.m.lv j = true
  top : ∀ (i : Nat) (x : No), X.N[i]? = some x → x.m.top = (gI z.m.kn j, (j : Int))
  re : ∀ i, i < X.N.length → i ≠ j → gI z.m.re i ≠ -1
  no : ∀ m ∈ X.bag, ¬ tel m
  to : ∀ m ∈ X.bag, m.to = (j : Int)
  dr : X.bag.length ≤ o
structure Dd (o : Nat) (X : Wo) : Prop where
  top : ∀ (i : Nat) (x : No), X.N[i]? = some x → someE x.m.top = false
  no : ∀ m ∈ X.bag, ¬ tel m
  dr : X.bag.length ≤ o
inductive Stg (c : Nat → Int) (X : Wo) : Nat → Nat → Prop where
  | s9 {o} : St0 o X.bag → Stg c X 9 o
  | s8 {o} : NG X.bag → St1 c o X.ab → Stg c X 8 o
  | s7 {o} : NG X.bag → St2 c o X.ab → Stg c X 7 o
  | s6 {o} (r : Int) (j : Nat) : NG X.bag → StF c r j o X.ab → Stg c X 6 o
  | s5 {o} (r : Int) (j : Nat) : NG X.bag → StF c r j 0 X.ab → St1 c o X.ab → Stg c X 5 o
  | s4 {o} (r : Int) (j : Nat) : NG X.bag → StF c r j 0 X.ab → St2 c o X.ab → Stg c X 4 o
  | s3 {o} (j : Nat) (z : No) : N3 j o X z → Stg c X 3 o
  | s2 {o} (j : Nat) (z : No) : N4 j o X z → Stg c X 2 o
  | s1 {o} : Dd o X → Stg c X 1 o
section
variable {ex ex' : Int} {X X2 Y : Wo} {k : Nat} {x x2 : No} {i j o : Nat} {p q : List Ms} {m : Ms}
variable {c c' : Nat → Int} {S S' : Sx} {G G' : Nat → Nat} {ops cc cc' : Int}
theorem Hd.chain (hd : Hd X X2 k m p q x x2 G G') (h : Wz c S G ops cc X) (h2 : Wx 0 c S G' ops X2) : ∃ A1, Recv X.ab A1 k m p q ∧ Vs A1 ∧ Gi X.tf c S G A1 ∧ (A1 = X2.ab ∨ ∃ t, Gup A1 X2.ab k t) := by
  rcases hd.or with ⟨_, _, _, _, _, hr⟩ | ⟨t, A1, _, _, _, _, _, hv, hr, hg⟩
  · exact ⟨_, hr, h2.wi.vs, hr.gi h.wx.gi h.wx.wi.vs h2.wi.vs, .inl rfl⟩
  · exact ⟨A1, hr, hv, hr.gi h.wx.gi h.wx.wi.vs hv, .inr ⟨t, hg⟩⟩
theorem Out.step (ho : Out X2 Y k x2 c c') (hx2 : X2.N[k]? = some x2) : (c' = c ∧ ∃ ms, Snd X2.ab Y.ab ms ∧ Y.bag = X2.bag ++ ms) ∨ ∃ rd A, someE x2.m.top = false ∧ Snd X2.ab A [] ∧ Bgo A Y.ab k true rd ∧ c' = upd c k rd ∧ Y.bag = X2.bag ++ oth X2.N.length k ⟨3, (k : Int), 0, (rd, (k : Int)), (0, 0), 0, 0⟩ := by
  have hself : X2.N = X2.N.set k x2 := by
    obtain ⟨hi, he⟩ := List.getElem?_eq_some_iff.1 hx2
    subst he
    exact (List.set_getElem_self hi).symm
  have hsnd0 : Snd X2.ab X2.ab [] := ab_plain hx2 hself rfl (by simp) (fun m hm => by cases hm)
  cases ho with
  | own h1 h2 h3 h4 => subst h3; exact .inl ⟨h4, [], hsnd0, by simp⟩
  | fro h1 h2 h3 h4 =>
    left
    refine ⟨h4, ?_⟩
    by_cases hy : x2.m.top ≠ x2.y ∨ x2.ri > 0
    · rw [if_pos hy] at h3
      subst h3
      exact ⟨[⟨4, (k : Int), x2.m.top.2, x2.m.top, (0, 0), x2.ri, x2.he⟩], ab_plain (x' := { x2 with ri := 0, y := x2.m.top }) hx2 rfl rfl rfl (fun m hm => by simp at hm; subst hm; rintro (h | h | h) <;> cases h), rfl⟩
    · rw [if_neg hy] at h3
      subst h3
      exact ⟨[], hsnd0, by simp⟩
  | non h1 h2 h3 h4 =>
    subst h3
    exact .inl ⟨h4, [], ab_plain (x' := { x2 with y := (0, 0) }) hx2 rfl rfl (by show X2.bag = X2.bag ++ []; simp) (fun m hm => by cases hm), by show X2.bag = X2.bag ++ []; simp⟩
  | beg a r rd h1 h2 h3 h4 h5 =>
    right
    refine ⟨rd, _, h1, ab_plain (x' := Wo.popped x2 r) hx2 rfl rfl (by show X2.bag = X2.bag ++ []; simp) (fun m hm => by cases hm), h5, h4, ?_⟩
    have := h5.b
    have e : (X2.put k (Wo.popped x2 r)).ab.n = X2.N.length := by show (X2.N.set k _).length = _; simp
    rw [e] at this
    exact this
theorem ng_step (hd : Hd X X2 k m p q x x2 G G') (ho : Out X2 Y k x2 c c') (hx2 : X2.N[k]? = some x2) : ∃ ms, Y.bag = (p ++ q) ++ ms ∧ ∀ z ∈ ms, z.kind ≠ 5 := by
  obtain ⟨m1, e1, h1⟩ := hd.bag
  rcases ho.step hx2 with ⟨_, ms, hs, e2⟩ | ⟨rd, A, _, _, _, _, e2⟩
  · refine ⟨m1 ++ ms, by rw [e2, e1]; simp, fun z hz => ?_⟩
    rcases List.mem_append.1 hz with hz | hz
    · rw [h1 z hz]; decide
    · exact fun h5 => hs.no z hz (.inr (.inl h5))
  · refine ⟨_, by rw [e2, e1, List.append_assoc], fun z hz => ?_⟩
    rcases List.mem_append.1 hz with hz | hz
    · rw [h1 z hz]; decide
    · obtain ⟨j, _, _, rfl⟩ := oth_of hz
      show (3 : Int) ≠ 5
      decide
/-- The top of a machine that lives is its own. -/
theorem own_max (hI : Wi ex X) (hx : X.N[k]? = some x) : ∀ t, t < X.ab.n → X.ab.lv k t → X.ab.lv k k → cd (X.ab.K k t) t ≤ cd (X.ab.K k k) k := by
  intro t ht hl hk
  have hok := hI.ok k x hx
  rw [ablv hx] at hl hk
  have hs : someE x.m.top = true := by
    cases hs : someE x.m.top with
    | true => rfl
    | false =>
      have := (top_none hok.wf).1 hs t (by rw [hok.nn]; exact ht)
      rw [hl] at this; cases this
  obtain ⟨u, u1, u2, u3, u4⟩ := top_max hok.wf hs
  have h1 := hok.ot hk
  have h2 := own_live hok.wf
  rw [hok.me] at h2
  rcases h2 with ⟨_, h2, _⟩ | ⟨h2, _⟩
  · have h3 : (u : Int) = (k : Int) := by
      have := u3.symm.trans (h1.trans h2)
      exact congrArg Prod.snd this
    have : u = k := by omega
    subst this
    rw [abK hx, abK hx]
    exact u4 t (by rw [hok.nn]; exact ht) hl
  · rw [hk] at h2; cases h2
theorem no_begin (hw : Wx 0 c S G' ops X2) (hx2 : X2.N[k]? = some x2) (hf : someE x2.m.top = false) (hz : ∃ t, t < X2.ab.n ∧ X2.ab.lv k t) : False := by
  obtain ⟨t, h1, h2⟩ := hz
  have hok := hw.wi.ok k x2 hx2
  rw [ablv hx2] at h2
  have := (top_none hok.wf).1 hf t (by rw [hok.nn]; exact h1)
  rw [h2] at this; cases this
theorem bgo_led {A : Ab} {rd : Int} (hb : Bgo A Y.ab k true rd) (hs : Snd X2.ab A []) (hw2 : Wx 0 c S G' ops X2) (hY : Wz (upd c k rd) S' G' ops cc' Y) (hng : NG Y.bag) : ∃ r j, StF (upd c k rd) r j Y.bag.length Y.ab := by
  have hv := hw2.wi.vs
  have hvA : Vs A := ⟨by rw [hs.n]; exact hv.n, fun i j => by rw [hs.F, hs.K]; exact hv.fk i j, fun i j hi hj => by rw [hs.K, hs.K]; exact hv.kk i j (by rw [← hs.n]; exact hi) (by rw [← hs.n]; exact hj), fun i j hi hj => by rw [hs.F, hs.F]; exact hv.ff i j (by rw [← hs.n]; exact hi) (by rw [← hs.n]; exact hj)⟩
  have hl := hb.led hY.wx.gi (by rw [upd_self, hb.K, if_pos ⟨rfl, rfl⟩]) hvA hY.wx.wi.vs hng
  obtain ⟨j, h⟩ := hl.stF hY.wx.gi hY.wx.wi.vs
  exact ⟨_, j, h⟩
theorem NG.mid (h : NG X.bag) (hb : X.bag = p ++ m :: q) {ms : List Ms} (he : Y.bag = (p ++ q) ++ ms) (hm : ∀ z ∈ ms, z.kind ≠ 5) : NG Y.bag := by
  intro z hz
  rw [he] at hz
  rcases List.mem_append.1 hz with hz | hz
  · exact h z (by rw [hb]; exact mem_mid' hz)
  · exact hm z hz
/-- The first stages: a message comes, nobody decides. -/
theorem stage_a (h : Wz c S G ops cc X) (hb : X.bag = p ++ m :: q) (hx : X.N[k]? = some x) (hd : Hd X X2 k m p q x x2 G G') (hw2 : Wx 0 c S G' ops X2) (hx2 : X2.N[k]? = some x2) (ho : Out X2 Y k x2 c c') (hY : Wz c' S' G' ops cc' Y) {s : Nat} (h4 : 4 ≤ s) (hs : Stg c X s o) :
    Stg c' Y s (nxt o p.length) ∨ (7 ≤ s ∧ Stg c' Y 6 Y.bag.length) := by
  obtain ⟨A1, hr, hv1, hg1, hch⟩ := hd.chain h hw2
  obtain ⟨ms, hYb, hms⟩ := ng_step hd ho hx2
  have hg := h.wx.gi
  have hv := h.wx.wi.vs
  have hstep := ho.step hx2
  have hT : ∀ t, Gup A1 X2.ab k t → X.tf k = true := fun t hgp => by
    rw [tf_at hx]
    refine h.told hx ?_
    rw [← ablv hx]
    have := hgp.lk
    unfold Ab.lv at this ⊢
    rw [hr.own.1, hr.own.2] at this; exact this
  -- St1 behind what is heard
  have hst1 : ∀ o, St1 c o X.ab → St1 c (nxt o p.length) X2.ab := fun o h1 => by
    have := hr.st1 hg h1
    rcases hch with rfl | ⟨t, hgp⟩
    · exact this
    · exact st1_app this hgp.n hgp.K hgp.b
  have hst2 : ∀ o, St2 c o X.ab → St2 c (nxt o p.length) X2.ab := fun o h1 => by
    have h2 := hr.st2 hg h1
    rcases hch with rfl | ⟨t, hgp⟩
    · exact h2
    · exfalso
      have hlk : X.ab.lv k k := by
        have := hgp.lk
        unfold Ab.lv at this ⊢
        rw [hr.own.1, hr.own.2] at this; exact this
      have h3 := hr.keeps hg h1.nn (fun t ht hl => own_max h.wx.wi hx t ht hl hlk) t hgp.tn hgp.lt
      have := hgp.gt
      omega
  have hstF : ∀ r j o, NG X.bag → StF c r j o X.ab → StF c r j (nxt o p.length) X2.ab := fun r j o hng h1 => by
    have h2 := hr.stF hg hv hv1 hng h1
    rcases hch with rfl | ⟨t, hgp⟩
    · exact h2
    · exact hgp.stF hg1 (hT t hgp) h2
  have hn0 : nxt 0 p.length = 0 := by unfold nxt; split <;> omega
  cases hs with
  | s9 h1 =>
    left
    refine .s9 ?_
    rw [hYb]
    rw [hb] at h1
    exact st0_app (st0_mid h1) hms
  | s8 hng h1 =>
    have hng' := hng.mid (Y := Y) hb hYb hms
    rcases hstep with ⟨rfl, ms', hs', _⟩ | ⟨rd, A, _, hs', hbg, rfl, _⟩
    · exact .inl (.s8 hng' (st1_app (hst1 _ h1) hs'.n hs'.K hs'.b))
    · obtain ⟨r, j, hF⟩ := bgo_led hbg hs' hw2 hY hng'
      exact .inr ⟨by omega, .s6 r j hng' hF⟩
  | s7 hng h1 =>
    have hng' := hng.mid (Y := Y) hb hYb hms
    rcases hstep with ⟨rfl, ms', hs', _⟩ | ⟨rd, A, _, hs', hbg, rfl, _⟩
    · exact .inl (.s7 hng' (hs'.st2 (hst2 _ h1)))
    · obtain ⟨r, j, hF⟩ := bgo_led hbg hs' hw2 hY hng'
      exact .inr ⟨by omega, .s6 r j hng' hF⟩
  | s6 r j hng h1 =>
    have hng' := hng.mid (Y := Y) hb hYb hms
    left
    rcases hstep with ⟨rfl, ms', hs', _⟩ | ⟨rd, A, _, hs', hbg, rfl, _⟩
    · exact .s6 r j hng' (hs'.stF (hstF r j _ hng h1))
    · have hv2 := hw2.wi.vs
      have hvA : Vs A := ⟨by rw [hs'.n]; exact hv2.n, fun i j => by rw [hs'.F, hs'.K]; exact hv2.fk i j, fun i j hi hj => by rw [hs'.K, hs'.K]; exact hv2.kk i j (by rw [← hs'.n]; exact hi) (by rw [← hs'.n]; exact hj), fun i j hi hj => by rw [hs'.F, hs'.F]; exact hv2.ff i j (by rw [← hs'.n]; exact hi) (by rw [← hs'.n]; exact hj)⟩
      exact .s6 r j hng' (hbg.stF (hs'.gi hw2.gi) hvA (hs'.stF (hstF r j _ hng h1)))
  | s5 r j hng hF h1 =>
    have hng' := hng.mid (Y := Y) hb hYb hms
    have hF2 := hstF r j 0 hng hF
    rw [hn0] at hF2
    left
    rcases hstep with ⟨rfl, ms', hs', _⟩ | ⟨rd, A, hf, hs', hbg, rfl, _⟩
    · exact .s5 r j hng' (hs'.stF hF2) (st1_app (hst1 _ h1) hs'.n hs'.K hs'.b)
    · exact (no_begin hw2 hx2 hf (hF2.frozen hw2.gi (get_lt hx2))).elim
  | s4 r j hng hF h1 =>
    have hng' := hng.mid (Y := Y) hb hYb hms
    have hF2 := hstF r j 0 hng hF
    rw [hn0] at hF2
    left
    rcases hstep with ⟨rfl, ms', hs', _⟩ | ⟨rd, A, hf, hs', hbg, rfl, _⟩
    · exact .s4 r j hng' (hs'.stF hF2) (hs'.st2 (hst2 _ h1))
    · exact (no_begin hw2 hx2 hf (hF2.frozen hw2.gi (get_lt hx2))).elim
  | s3 => omega
  | s2 => omega
  | s1 => omega
end
end Go.Proofs.Ytmfbmfppjdkeeaa

/- Epochs: the last stages before a decision. -/
namespace Go.Proofs.Ytmfbmfppjdkeeaa
open Go Go.Fw Go.RowKit
set_option linter.unusedVariables false
set_option linter.unusedSimpArgs false
set_option maxHeartbeats 1000000

section
variable {ex ex' : Int} {X X2 Y : Wo} {k : Nat} {x x2 z : No} {i j o : Nat} {p q : List Ms} {m : Ms}
variable {c c' : Nat → Int} {S S' : Sx} {G G' : Nat → Nat} {ops cc cc' : Int}
theorem hm_top (ht : ¬ tel m) : (x.hm m).top = x.m.top ∧ ∀ i, (x.hm m).lv i = x.m.lv i := by
  have hno := hm_no (x := x) ht
  have hs := hm_same x m
  have hl : ∀ i, (x.hm m).lv i = x.m.lv i := fun i => by unfold Mv.lv; rw [hno.1, hno.2]
  refine ⟨?_, hl⟩
  have : (x.hm m).lives = x.m.lives := by
    unfold Mv.lives
    rw [hs.2.1, hno.1]
    congr 1
    exact List.filter_congr fun i _ => hl i
  unfold Mv.top; rw [this]
theorem hm_rep (hI : Wi ex X) (hx : X.N[j]? = some x) (hl : x.m.lv j = true) (h2 : m.kind = 4) (h3 : m.fr = (i : Int)) (hin : i < X.N.length) (hij : i ≠ j) (h6 : m.e = (gI x.m.kn j, (j : Int))) (hhe : 0 ≤ m.he ∧ m.he ≤ 1099511627776) : gI (x.hm m).re i ≠ -1 := by
  have hok := hI.ok j x hx
  have hwf := hok.wf
  have hlt := get_lt hx
  have hown : x.m.own = (gI x.m.kn j, (j : Int)) := by
    have := own_live hwf
    rw [hok.me] at this
    rcases this with ⟨_, h, _⟩ | ⟨h, _⟩
    · exact h
    · rw [hl] at h; cases h
  have hpos := live_pos hwf (by rw [hok.nn]; exact hlt) hl
  have hfit : x.m.fitsR m.fr m.e m.he := ⟨by rw [h3]; omega, by rw [h3, hok.nn]; omega, by rw [h3, hok.me]; omega, by rw [h6]; exact someE_pos (by show gI x.m.kn j > 0; omega), by rw [h6, hown], hhe⟩
  have h16 := hwf.n
  have e : (x.hm m).re = x.m.re.set i m.he := by
    unfold No.hm
    rw [if_neg (by rw [h2]; decide), if_neg (by rw [h2]; decide), if_neg (by rw [h2]; decide), if_pos h2]
    unfold Mv.report
    rw [if_pos hfit, h3]; rfl
  rw [e, gI_set (by rw [hwf.rl]; have := hok.nn; omega), if_pos rfl]; omega
theorem top_of {r : Int} (hI : Wi ex X) (hx : X.N[k]? = some x) (hl : x.m.lv k = true) (ht : x.m.top = (r, (j : Int))) : k = j := by
  have hok := hI.ok k x hx
  have h1 := hok.ot hl
  have h2 := own_live hok.wf
  rw [hok.me] at h2
  rcases h2 with ⟨_, h2, _⟩ | ⟨h2, _⟩
  · have := congrArg Prod.snd (ht.symm.trans (h1.trans h2))
    dsimp only at this; omega
  · rw [hl] at h2; cases h2
theorem top_pos' (hI : Wi ex X) (hz : X.N[j]? = some z) (hl : z.m.lv j = true) (ht : x.m.top = (gI z.m.kn j, (j : Int))) : someE x.m.top = true := by
  have hok := hI.ok j z hz
  have := live_pos hok.wf (by rw [hok.nn]; exact get_lt hz) hl
  rw [ht]; exact someE_pos (by show gI z.m.kn j > 0; omega)
/-- Where only reports are under way. -/
theorem Hd.quiet (hd : Hd X X2 k m p q x x2 G G') (ht : ¬ tel m) : X2.bag = p ++ q ∧ x2.wait = x.wait ∧ x2.m = x.hm m := by
  rcases hd.or with ⟨_, h1, _, h2, h3, _⟩ | ⟨_, _, h1, _⟩
  · exact ⟨h1, h2, h3⟩
  · exact absurd h1 ht
theorem stage3 (h : Wz c S G ops cc X) (hb : X.bag = p ++ m :: q) (hk : m.to = (k : Int)) (hx : X.N[k]? = some x) (hd : Hd X X2 k m p q x x2 G G') (hw2 : Wx 0 c S G' ops X2) (hx2 : X2.N[k]? = some x2) (ho : Out X2 Y k x2 c c') (hs : N3 j o X z) : ∃ z', N3 j (nxt o p.length) Y z' := by
  have hI := h.wx.wi
  have hmb : m ∈ X.bag := by rw [hb]; exact List.mem_append.2 (.inr (List.mem_cons_self ..))
  have htl := hs.no m hmb
  obtain ⟨hbag, hwt, hm2⟩ := hd.quiet htl
  obtain ⟨htop, hlv⟩ := hm_top (x := x) htl
  have hno := hm_no (x := x) htl
  have hxt := hs.top k x hx
  have hx2t : x2.m.top = (gI z.m.kn j, (j : Int)) := by rw [hm2, htop]; exact hxt
  have hs2 := top_pos' (x := x2) hI hs.get hs.lv hx2t
  have hN := hd.N
  have hln : X2.N.length = X.N.length := by rw [hN, List.length_set]
  have hsub : ∀ w, w ∈ p ++ q → ¬ tel w := fun w hw => hs.no w (by rw [hb]; exact mem_mid' hw)
  -- the node of j behind it
  have hkey : ∃ z', X2.N[j]? = some z' ∧ z'.m.kn = z.m.kn ∧ z'.m.lv j = true ∧ ∀ i, i < X.N.length → i ≠ j → gI z'.m.re i ≠ -1 ∨ ∃ w ∈ (p ++ q).take (nxt o p.length), w.kind = 4 ∧ w.fr = (i : Int) ∧ w.to = (j : Int) ∧ w.e = (gI z.m.kn j, (j : Int)) := by
    by_cases hjk : j = k
    · subst hjk
      have hz := hs.get
      rw [hx] at hz; cases hz
      refine ⟨x2, hx2, by rw [hm2]; exact hno.1, by rw [hm2, hlv]; exact hs.lv, fun i hi hij => ?_⟩
      rcases hs.re i hi hij with h1 | ⟨w, h1, h2, h3, h4, h5⟩
      · left
        rw [hm2]
        exact hm_re_at (hI.ok j x hx).wf (fun h4 => (h.wx.h4 m hmb h4).1) h1
      · rw [hb] at h1
        rcases take_mid h1 with rfl | h1
        · left
          rw [hm2]
          exact hm_rep hI hx hs.lv h2 h3 hi hij h5 (h.wx.h4 w hmb h2)
        · exact .inr ⟨w, h1, h2, h3, h4, h5⟩
    · refine ⟨z, by rw [hN, set_ne hjk]; exact hs.get, rfl, hs.lv, fun i hi hij => ?_⟩
      rcases hs.re i hi hij with h1 | ⟨w, h1, h2, h3, h4, h5⟩
      · exact .inl h1
      · rw [hb] at h1
        rcases take_mid h1 with rfl | h1
        · exfalso; omega
        · exact .inr ⟨w, h1, h2, h3, h4, h5⟩
  obtain ⟨z', g1, g2, g3, g4⟩ := hkey
  have htop2 : ∀ (i : Nat) (y : No), X2.N[i]? = some y → y.m.top = (gI z'.m.kn j, (j : Int)) := fun i y hi => by
    rw [g2]
    rcases set_cases hx hN hi with ⟨rfl, rfl⟩ | ⟨hik, hi⟩
    · exact hx2t
    · exact hs.top i y hi
  have hto2 : ∀ w ∈ (p ++ q).drop (nxt o p.length), w.to = (j : Int) := fun w hw => hs.to w (by rw [hb]; exact drop_mid hw)
  have hX2 : N3 j (nxt o p.length) X2 z' := ⟨g1, g3, htop2, fun i hi hij => by rw [g2, hbag]; exact g4 i (by rw [← hln]; exact hi) hij, fun w hw => hsub w (by rw [← hbag]; exact hw), by rw [hbag]; exact hto2⟩
  cases ho with
  | own h1 h2 h3 h4 => subst h3; exact ⟨z', hX2⟩
  | non h1 => rw [hs2] at h1; cases h1
  | beg _ _ _ h1 => rw [hs2] at h1; cases h1
  | fro h1 h2 h3 h4 =>
    by_cases hy : x2.m.top ≠ x2.y ∨ x2.ri > 0
    rotate_left
    · rw [if_neg hy] at h3
      subst h3; exact ⟨z', hX2⟩
    rw [if_pos hy] at h3
    subst h3
    have hkj : j ≠ k := fun e => by
      subst e
      rw [g1] at hx2; cases hx2
      rw [g3] at h1; cases h1
    have hNy : (X2.yield k x2).N = X2.N.set k { x2 with ri := 0, y := x2.m.top } := rfl
    have hby : (X2.yield k x2).bag = (p ++ q) ++ [⟨4, (k : Int), x2.m.top.2, x2.m.top, (0, 0), x2.ri, x2.he⟩] := by rw [← hbag]; rfl
    refine ⟨z', by rw [hNy, set_ne hkj]; exact g1, g3, fun i y hi => ?_, fun i hi hij => ?_, fun w hw => ?_, fun w hw => ?_⟩
    · rcases set_cases hx2 hNy hi with ⟨rfl, rfl⟩ | ⟨hik, hi⟩
      · show x2.m.top = _
        rw [g2]; exact hx2t
      · exact htop2 i y hi
    · rw [hNy, List.length_set, hln] at hi
      rw [g2]
      rcases g4 i hi hij with g | ⟨w, g, gg⟩
      · exact .inl g
      · exact .inr ⟨w, by rw [hby]; exact take_app g, gg⟩
    · rw [hby] at hw
      rcases List.mem_append.1 hw with hw | hw
      · exact hsub w hw
      · simp at hw; subst hw
        rintro (h | h | h) <;> cases h
    · rw [hby] at hw
      rcases drop_app hw with hw | hw
      · exact hto2 w hw
      · simp at hw; subst hw
        show x2.m.top.2 = _
        rw [hx2t]
theorem stage2 (h : Wz c S G ops cc X) (hb : X.bag = p ++ m :: q) (hk : m.to = (k : Int)) (hx : X.N[k]? = some x) (hd : Hd X X2 k m p q x x2 G G') (hw2 : Wx 0 c S G' ops X2) (hx2 : X2.N[k]? = some x2) (ho : Out X2 Y k x2 c c') (hs : N4 j o X z) : ∃ z', N4 j (nxt o p.length) Y z' := by
  have hI := h.wx.wi
  have hmb : m ∈ X.bag := by rw [hb]; exact List.mem_append.2 (.inr (List.mem_cons_self ..))
  have htl := hs.no m hmb
  have hjk : k = j := by have := hs.to m hmb; omega
  subst hjk
  have hz := hs.get
  rw [hx] at hz; cases hz
  obtain ⟨hbag, hwt, hm2⟩ := hd.quiet htl
  obtain ⟨htop, hlv⟩ := hm_top (x := x) htl
  have hno := hm_no (x := x) htl
  have hl2 : x2.m.lv k = true := by rw [hm2, hlv]; exact hs.lv
  have hx2t : x2.m.top = (gI x.m.kn k, (k : Int)) := by rw [hm2, htop]; exact hs.top k x hx
  have hs2 := top_pos' (x := x2) hI hs.get hs.lv hx2t
  have hN := hd.N
  have hln : X2.N.length = X.N.length := by rw [hN, List.length_set]
  have e : Y = X2 := by
    cases ho with
    | own h1 h2 h3 h4 => exact h3
    | non h1 => rw [hs2] at h1; cases h1
    | beg _ _ _ h1 => rw [hs2] at h1; cases h1
    | fro h1 => rw [hl2] at h1; cases h1
  subst e
  refine ⟨x2, hx2, hl2, fun i y hi => ?_, fun i hi hij => ?_, fun w hw => ?_, fun w hw => ?_, ?_⟩
  · rw [hm2, hno.1]
    rcases set_cases hx hN hi with ⟨rfl, rfl⟩ | ⟨hik, hi⟩
    · exact hx2t
    · exact hs.top i y hi
  · rw [hm2]
    exact hm_re_at (hI.ok k x hx).wf (fun h4 => (h.wx.h4 m hmb h4).1) (hs.re i (by rw [← hln]; exact hi) hij)
  · rw [hbag] at hw
    exact hs.no w (by rw [hb]; exact mem_mid' hw)
  · rw [hbag] at hw
    exact hs.to w (by rw [hb]; exact mem_mid' hw)
  · have := hs.dr
    rw [hb] at this
    rw [hbag]
    simp at this ⊢
    unfold nxt; split <;> omega
theorem stage1 (h : Wz c S G ops cc X) (hb : X.bag = p ++ m :: q) (hx : X.N[k]? = some x) (hd : Hd X X2 k m p q x x2 G G') (hw2 : Wx 0 c S G' ops X2) (hx2 : X2.N[k]? = some x2) (ho : Out X2 Y k x2 c c') (hs : Dd o X) : Dd (nxt o p.length) Y := by
  have hI := h.wx.wi
  have hmb : m ∈ X.bag := by rw [hb]; exact List.mem_append.2 (.inr (List.mem_cons_self ..))
  have htl := hs.no m hmb
  obtain ⟨hbag, hwt, hm2⟩ := hd.quiet htl
  obtain ⟨htop, hlv⟩ := hm_top (x := x) htl
  have hf := hs.top k x hx
  have hf2 : someE x2.m.top = false := by rw [hm2, htop]; exact hf
  have hok2 := hw2.wi.ok k x2 hx2
  have hN := hd.N
  have hw0 := (h.qt k x hx).2.2 hf
  cases ho with
  | own h1 =>
    have := (top_none hok2.wf).1 hf2 k (by rw [hok2.nn]; exact get_lt hx2)
    rw [h1] at this; cases this
  | fro h1 h2 => rw [hf2] at h2; cases h2
  | beg a r rd h1 h2 => rw [hwt, hw0] at h2; cases h2
  | non h1 h2 h3 h4 =>
    subst h3
    have hNy : (X2.put k { x2 with y := (0, 0) }).N = X2.N.set k { x2 with y := (0, 0) } := rfl
    have hby : (X2.put k { x2 with y := (0, 0) }).bag = p ++ q := hbag
    refine ⟨fun i y hi => ?_, fun w hw => ?_, ?_⟩
    · rcases set_cases hx2 hNy hi with ⟨rfl, rfl⟩ | ⟨hik, hi⟩
      · exact hf2
      · rw [hN, set_ne hik] at hi
        exact hs.top i y hi
    · rw [hby] at hw
      exact hs.no w (by rw [hb]; exact mem_mid' hw)
    · have := hs.dr
      rw [hb] at this
      rw [hby]
      simp at this ⊢
      unfold nxt; split <;> omega
/-- All know who lives: one, or nobody. -/
theorem enter (h : Wz c S G ops cc X) (hs : St2 c 0 X.ab) : (∃ j z, N3 j X.bag.length X z) ∨ Dd X.bag.length X := by
  have hI := h.wx.wi
  have hg := h.wx.gi
  have hv := hI.vs
  have hT : ∀ i, i < X.ab.n → X.ab.lv i i → X.tf i = true := fun i hi hl => by
    have hx := List.getElem?_eq_getElem (show i < X.N.length from hi)
    rw [tf_at hx]
    exact h.told hx ((ablv hx i).1 hl)
  have hacc : ∀ {i j : Nat}, i < X.ab.n → j < X.ab.n → i ≠ j → (X.ab.lv i j ↔ X.ab.lv j j) := fun hi hj hij => hs.acc hg hv hT hi hj hij
  have hno : ∀ m ∈ X.bag, ¬ tel m := fun m hm => hs.no m (by rw [List.drop_zero]; exact hm)
  by_cases hex : ∃ j, j < X.ab.n ∧ X.ab.lv j j
  · obtain ⟨j, hj, hl⟩ := hex
    left
    have hz := List.getElem?_eq_getElem (show j < X.N.length from hj)
    generalize X.N[j] = z at hz
    have hzl := (ablv hz j).1 hl
    have huniq : ∀ a, a < X.ab.n → X.ab.lv a a → a = j := fun a ha hla => by
      rcases Classical.em (a = j) with e | e
      · exact e
      · exfalso
        have hx := List.getElem?_eq_getElem (show a < X.N.length from ha)
        have h1 := own_max hI hz a ha ((hacc hj ha (Ne.symm e)).2 hla) hl
        have h2 := own_max hI hx j hj ((hacc ha hj e).2 hl) hla
        have h3 := hs.nn j a hj ha (Ne.symm e)
        have h4 := hs.nn a j ha hj e
        have h5 := hg.tb a ha hla (hT a ha hla)
        have h6 := hg.tb j hj hl (hT j hj hl)
        have h7 := hv.n
        unfold cd at h1 h2; omega
    have hcj := hg.tb j hj hl (hT j hj hl)
    rw [abK hz] at hcj
    have htop : ∀ (i : Nat) (x : No), X.N[i]? = some x → x.m.top = (gI z.m.kn j, (j : Int)) := fun i x hx => by
      have hok := hI.ok i x hx
      have hi : i < X.ab.n := get_lt hx
      have hkn : gI x.m.kn j = gI z.m.kn j := by
        by_cases hij : i = j
        · subst hij; rw [hx] at hz; cases hz; rfl
        · have := hs.nn i j hi hj hij
          rw [abK hx] at this; omega
      have hlj : x.m.lv j = true := by
        by_cases hij : i = j
        · subst hij; rw [hx] at hz; cases hz; exact hzl
        · exact (ablv hx j).1 ((hacc hi hj hij).2 hl)
      have hone : ∀ a, a < X.ab.n → x.m.lv a = true → a = j := fun a ha hla => by
        have hla := (ablv hx a).2 hla
        by_cases hia : i = a
        · subst hia; exact huniq i hi hla
        · exact huniq a ha ((hacc hi ha hia).1 hla)
      rw [← hkn]
      exact top_eq hok.wf (by rw [hok.nn]; exact hj) hlj fun a ha hla => by
        rw [hone a (by rw [hok.nn] at ha; exact ha) hla]; exact Int.le_refl _
    refine ⟨j, z, hz, hzl, htop, fun i hi hij => ?_, hno, fun w hw => by rw [List.drop_length] at hw; cases hw⟩
    rw [List.take_length]
    have hx := List.getElem?_eq_getElem hi
    generalize X.N[i] = x at hx
    have hxl : x.m.lv i = false := by
      cases hxl : x.m.lv i with
      | false => rfl
      | true => exact absurd (huniq i hi ((ablv hx i).2 hxl)) hij
    have ht := htop i x hx
    have hyq := ((h.qt i x hx).2.1 hxl (top_pos' hI hz hzl ht)).1
    exact h.wx.rep i x j z hx hz hij hzl (by rw [hyq, ht])
  · right
    refine ⟨fun i x hx => ?_, hno, Nat.le_refl _⟩
    have hok := hI.ok i x hx
    have hi : i < X.ab.n := get_lt hx
    refine (top_none hok.wf).2 fun a ha => ?_
    cases hla : x.m.lv a with
    | false => rfl
    | true =>
      exfalso
      have ha : a < X.ab.n := by rw [hok.nn] at ha; exact ha
      have hla := (ablv hx a).2 hla
      by_cases hia : i = a
      · subst hia; exact hex ⟨i, hi, hla⟩
      · exact hex ⟨a, ha, (hacc hi ha hia).1 hla⟩
/-- All rights are there and all reports: then it is decided. -/
theorem n4_end (h : Wz c S G ops cc X) (hs : N4 j o X z) (hb : X.bag = []) : False := by
  have hI := h.wx.wi
  have hz := hs.get
  have hok := hI.ok j z hz
  have hwf := hok.wf
  have h16 := hwf.n
  have hlt := get_lt hz
  refine (h.qt j z hz).1 hs.lv ?_
  have hown := own_live hwf
  rw [hok.me] at hown
  have ho : someE z.m.own = true := by
    rcases hown with ⟨_, _, _, h⟩ | ⟨h, _⟩
    · exact h
    · rw [hs.lv] at h; cases h
  have hothers : ∀ i, i < X.N.length → i ≠ j → ∃ x, X.N[i]? = some x ∧ x.ri = 0 ∧ gI z.m.re i = x.he ∧ 0 ≤ x.he := fun i hi hij => by
    have hx := List.getElem?_eq_getElem hi
    generalize X.N[i] = x at hx
    have ht := hs.top i x hx
    have hxl : x.m.lv i = false := by
      cases hxl : x.m.lv i with
      | false => rfl
      | true => exact absurd (top_of hI hx hxl ht) hij
    have hq := (h.qt i x hx).2.1 hxl (top_pos' hI hz hs.lv ht)
    have hob := hI.re j z i hz hi hij hs.lv (hs.re i hi hij) z x hz hx rfl (lv_iff.1 hs.lv)
    exact ⟨x, hx, hq.2, hob.1, (hI.ok i x hx).he⟩
  have hlim := hI.lim
  have hsum := hI.sum
  have hbs : bsum X.bag = 0 := by rw [hb]; rfl
  have hsb := sum_bound hI hz
  have hri := hok.ri
  have hhe := hok.he
  have hrk : max (gI z.m.re j) 0 = 0 := by rw [hok.rm hs.lv]; decide
  have hrep : z.m.reported = Sm (fun i => max (gI z.m.re i) 0) X.N.length := by
    rw [Mv.reported, if_pos ho, repTo_Sm (by rw [hwf.rl]; omega), hok.nn]
  have hone := Sm_one (r := fun i => max (gI z.m.re i) 0) (k := j) (c := z.ri + z.he) hrk hlt
  have hlist := Sm_list (fun x : No => x.ri + x.he) X.N
  have heq : Sm (fun i => if i = j then z.ri + z.he else max (gI z.m.re i) 0) X.N.length = Sm (fun i => ((X.N[i]?.map fun x => x.ri + x.he).getD 0)) X.N.length := Sm_congr fun i hi => by
    by_cases hij : i = j
    · subst hij; rw [if_pos rfl, hz]; rfl
    · obtain ⟨x, hx, g1, g2, g3⟩ := hothers i hi hij
      rw [if_neg hij, hx, g2]
      show max x.he 0 = x.ri + x.he
      omega
  have htot : z.ri + z.he + z.m.reported = X.lim := by
    rw [rsum, hlist] at hsum
    rw [hrep]; omega
  refine ⟨ho, ?_, by omega, htot, fun _ => ?_⟩
  · simp only [okA, List.all_cons, List.all_nil, Bool.and_true, Bool.and_eq_true, decide_eq_true_eq]
    omega
  · unfold Mv.all
    rw [ho, Bool.and_true, List.all_eq_true]
    intro i hi
    have hi := List.mem_range.1 hi
    rw [hok.nn] at hi
    rw [hok.me]
    by_cases hij : i = j
    · subst hij; simp
    · have := hs.re i hi hij
      simp [this]
end
end Go.Proofs.Ytmfbmfppjdkeeaa

/- Epochs: how long it takes until no message is under way. -/
namespace Go.Proofs.Ytmfbmfppjdkeeaa
open Go Go.Fw Go.RowKit
set_option linter.unusedVariables false
set_option linter.unusedSimpArgs false
set_option maxHeartbeats 1000000

def bw (m : Ms) : Int := if wtm m = 0 then 1 else 0
def nb (l : List Ms) : Int := (l.map bw).sum
theorem nb_app (a b : List Ms) : nb (a ++ b) = nb a + nb b := by simp [nb]
theorem nb_cons (m : Ms) (b : List Ms) : nb (m :: b) = bw m + nb b := by simp [nb]
theorem bw_in (m : Ms) : 0 ≤ bw m ∧ bw m ≤ 1 := by unfold bw; split <;> decide
theorem nb_nn : ∀ b : List Ms, 0 ≤ nb b
  | [] => Int.le_refl _
  | m :: b => by rw [nb_cons]; have := nb_nn b; have := bw_in m; omega
theorem nb_le : ∀ {b : List Ms}, (∀ m ∈ b, 0 ≤ m.ri) → nb b ≤ bsum b
  | [], _ => Int.le_refl _
  | m :: b, h => by
    have h1 := nb_le (b := b) fun z hz => h z (List.mem_cons_of_mem _ hz)
    have h2 := h m (List.mem_cons_self ..)
    have e : bsum (m :: b) = m.ri + bsum b := by simp [bsum]
    rw [nb_cons, e]
    have : bw m ≤ m.ri := by
      unfold bw
      by_cases hw : wtm m = 0
      · rw [if_pos hw]
        unfold wtm at hw
        by_cases ht : tel m
        · rw [if_pos ht] at hw; cases hw
        · rw [if_neg ht] at hw
          by_cases h0 : m.ri = 0
          · rw [if_pos h0] at hw; cases hw
          · omega
      · rw [if_neg hw]; exact h2
    omega
theorem nb_take (o : Nat) (b : List Ms) : nb (b.take o) ≤ nb b := by
  have := nb_app (b.take o) (b.drop o)
  rw [List.take_append_drop] at this
  have := nb_nn (b.drop o); omega
theorem nb_mid (p q : List Ms) (m : Ms) (o : Nat) : nb ((p ++ m :: q).take o) = nb ((p ++ q).take (nxt o p.length)) + (if p.length < o then bw m else 0) := by
  unfold nxt
  by_cases h : p.length < o
  · rw [if_pos h, if_pos h, List.take_append, List.take_append]
    obtain ⟨d, hd⟩ : ∃ d, o - p.length = d + 1 := ⟨o - p.length - 1, by omega⟩
    rw [hd, List.take_succ_cons, show o - 1 - p.length = d by omega, List.take_of_length_le (l := p) (by omega), List.take_of_length_le (l := p) (by omega), nb_app, nb_app, nb_cons]; omega
  · rw [if_neg h, if_neg h, List.take_append, List.take_append, show o - p.length = 0 by omega]
    simp
section
variable {ex ex' : Int} {X X2 Y : Wo} {k : Nat} {x x2 z : No} {i j o s : Nat} {p q : List Ms} {m : Ms}
variable {c c' : Nat → Int} {S S' : Sx} {G G' : Nat → Nat} {ops cc cc' : Int}
theorem Wi.nb (hI : Wi 0 X) : nb X.bag ≤ 30 := by
  have h1 := nb_le (b := X.bag) fun m hm => (hI.bag m hm).ri
  have h2 := hI.sum
  have h3 := hI.lim
  have h4 : 0 ≤ rsum X.N := sum_nonneg fun z hz => by
    obtain ⟨y, hy, rfl⟩ := List.mem_map.1 hz
    obtain ⟨j, hj, rfl⟩ := List.mem_iff_getElem.1 hy
    have ho := hI.ok j _ (List.getElem?_eq_getElem hj)
    have h1 := ho.ri; have h2 := ho.he; omega
  omega
theorem Wx.slen (h : Wx ex c S G ops X) : (S.length : Int) ≤ ops := by
  have h1 := ns_nn (f := wl) (l := X.N) fun x _ => by unfold wl; omega
  have h2 := ns_nn (f := lo) (l := X.N) fun x _ => by unfold lo; split <;> decide
  have := h.op; omega
theorem ns_lo_le : ∀ l : List No, ns lo l ≤ l.length
  | [] => Int.le_refl _
  | x :: l => by
    have e : ns lo (x :: l) = lo x + ns lo l := by simp [ns]
    have := ns_lo_le l
    have : lo x ≤ 1 := by unfold lo; split <;> decide
    rw [e, List.length_cons]; omega
theorem Wx.phi_ge (h : Wx 0 c S G ops X) (ho : ops ≤ 121) : -13203 ≤ X.phi := by
  have h1 := h.slen
  have h2 := wts_nn X.bag
  have h3 := ns_lo_le X.N
  have h4 := h.cnt
  have h5 := h.en
  have hn := h.wi.n
  have h6 : gs G X.N.length ≤ X.N.length * (S.length + 1 : Nat) := gs_le fun j hj => by
    have := h.gi.QN j hj
    have := base_le S (X.ab.K j j)
    omega
  have h7 : (X.N.length : Int) * ((S.length + 1 : Nat) : Int) ≤ 5 * ((S.length + 1 : Nat) : Int) := Int.mul_le_mul_of_nonneg_right (by omega) (by omega)
  unfold Wo.phi
  omega
def pot (X : Wo) (S : Sx) (ops : Int) (s o : Nat) : Int := 2 * (X.phi + nb (X.bag.take o)) + 62 * s + 620 * (ops - S.length)
theorem Stg.pos (h : Stg c X s o) : 1 ≤ s ∧ s ≤ 9 := by cases h <;> omega
/-- A stage is over: the next one. -/
theorem norm (h : Wz c S G ops cc X) (hs : Stg c X s o) (ho : o ≤ X.bag.length) (hne : X.bag ≠ []) : ∃ s' o', Stg c X s' o' ∧ 1 ≤ o' ∧ o' ≤ X.bag.length ∧ pot X S ops s' o' ≤ pot X S ops s o := by
  have hpos : 1 ≤ X.bag.length := by
    rcases Nat.eq_zero_or_pos X.bag.length with e | e
    · exact absurd (List.eq_nil_of_length_eq_zero e) hne
    · exact e
  rcases Nat.eq_zero_or_pos o with rfl | h0
  rotate_left
  · exact ⟨s, o, hs, h0, ho, Int.le_refl _⟩
  have hg := h.wx.gi
  have hnb := h.wx.wi.nb
  have key : ∀ s', s' < s → Stg c X s' X.bag.length → ∃ s' o', Stg c X s' o' ∧ 1 ≤ o' ∧ o' ≤ X.bag.length ∧ pot X S ops s' o' ≤ pot X S ops s 0 := fun s' hlt hs' => by
    refine ⟨s', _, hs', hpos, Nat.le_refl _, ?_⟩
    unfold pot
    have h1 := nb_take X.bag.length X.bag
    have h2 : nb (X.bag.take 0) = 0 := rfl
    rw [h2]; omega
  have hent : ∀ s, 3 < s → St2 c 0 X.ab → ∃ s', s' < s ∧ Stg c X s' X.bag.length := fun s hlt h2 => by
    rcases enter h h2 with ⟨j, z, h3⟩ | h3
    · exact ⟨3, by omega, .s3 j z h3⟩
    · exact ⟨1, by omega, .s1 h3⟩
  cases hs with
  | s9 h1 => exact key 8 (by omega) (.s8 (fun m hm => h1 m (by rw [List.drop_zero]; exact hm)) hg.st1)
  | s8 h1 h2 => exact key 7 (by omega) (.s7 h1 (hg.st2 h2.nn))
  | s7 h1 h2 => obtain ⟨s', a, b⟩ := hent 7 (by omega) h2; exact key s' a b
  | s6 r j h1 h2 => exact key 5 (by omega) (.s5 r j h1 h2 hg.st1)
  | s5 r j h1 h2 h3 => exact key 4 (by omega) (.s4 r j h1 h2 (hg.st2 h3.nn))
  | s4 r j h1 h2 h3 => obtain ⟨s', a, b⟩ := hent 4 (by omega) h3; exact key s' a b
  | s3 j z h1 =>
    refine key 2 (by omega) (.s2 j z ⟨h1.get, h1.lv, h1.top, fun i hi hij => ?_, h1.no, fun m hm => h1.to m (by rw [List.drop_zero]; exact hm), Nat.le_refl _⟩)
    rcases h1.re i hi hij with h2 | ⟨m, hm, _⟩
    · exact h2
    · rw [List.take_zero] at hm; cases hm
  | s2 j z h1 => have := h1.dr; omega
  | s1 h1 => have := h1.dr; omega
/-- A message comes. -/
theorem deliver (h : Wz c S G ops cc X) (hs : Stg c X s o) (ho1 : 1 ≤ o) (ho : o ≤ X.bag.length) (hops : ops ≤ 121) (hcc : cc ≤ 999999900000) (hb : X.bag = p ++ m :: q) :
    ∃ c' S' G' s' o', Wz c' S' G' ops (cc + 10005) (({ X with bag := p ++ q } : Wo).comes m) ∧ Stg c' (({ X with bag := p ++ q } : Wo).comes m) s' o' ∧ o' ≤ (({ X with bag := p ++ q } : Wo).comes m).bag.length ∧
      pot (({ X with bag := p ++ q } : Wo).comes m) S' ops s' o' ≤ pot X S ops s o ∧ (p.length = 0 → pot (({ X with bag := p ++ q } : Wo).comes m) S' ops s' o' ≤ pot X S ops s o - 2) := by
  obtain ⟨k, x, x2, c', S', G', hk, hx, X2, hd, hw2, hx2, hY, hlim, hlen, hphi, hor⟩ := h.comes hb (by omega) hcc
  generalize ({ X with bag := p ++ q } : Wo).comes m = Y at hY hlim hlen hphi hor
  have hnbY := hY.wx.wi.nb
  have hnb0 := nb_nn (X.bag.take o)
  have hsp := hs.pos
  have hphi' : Y.phi ≤ X.phi := by split at hphi <;> omega
  have hfull := nb_take Y.bag.length Y.bag
  rcases hor with ⟨rfl, hout⟩ | hlt
  rotate_left
  · refine ⟨c', S', G', 9, Y.bag.length, hY, .s9 (fun m hm => by rw [List.drop_length] at hm; cases hm), Nat.le_refl _, ?_, fun _ => ?_⟩
    · unfold pot; omega
    · unfold pot; omega
  obtain ⟨ms, hYb, hms⟩ := ng_step hd hout hx2
  have hlen2 : nxt o p.length ≤ (p ++ q).length := by
    rw [hb] at ho
    simp at ho ⊢
    unfold nxt; split <;> omega
  have hnbm := nb_mid p q m o
  rw [← hb] at hnbm
  have hYt : nb (Y.bag.take (nxt o p.length)) = nb ((p ++ q).take (nxt o p.length)) := by
    rw [hYb, List.take_append_of_le_length hlen2]
  have hoY : nxt o p.length ≤ Y.bag.length := by
    rw [hYb, List.length_append]; omega
  have hbwm : bw m = if wtm m = 0 then 1 else 0 := rfl
  have hbw := bw_in m
  have same : Stg c' Y s (nxt o p.length) → ∃ c' S' G' s' o', Wz c' S' G' ops (cc + 10005) Y ∧ Stg c' Y s' o' ∧ o' ≤ Y.bag.length ∧ pot Y S' ops s' o' ≤ pot X S' ops s o ∧ (p.length = 0 → pot Y S' ops s' o' ≤ pot X S' ops s o - 2) := fun hs' => by
    refine ⟨c', _, G', s, _, hY, hs', hoY, ?_, fun h0 => ?_⟩
    · unfold pot
      rw [hYt, hnbm]
      split <;> omega
    · unfold pot
      rw [hYt, hnbm, if_pos (by omega)]
      split at hphi <;> rename_i hw
      · rw [if_pos hw] at hbwm; omega
      · rw [if_neg hw] at hbwm; omega
  by_cases h4 : 4 ≤ s
  · rcases stage_a h hb hx hd hw2 hx2 hout hY h4 hs with h5 | ⟨h6, h5⟩
    · obtain ⟨c1, S1, G1, s1, o1, a⟩ := same h5
      exact ⟨c', _, G', s, _, hY, h5, hoY, by unfold pot; rw [hYt, hnbm]; split <;> omega, fun h0 => by
        unfold pot
        rw [hYt, hnbm, if_pos (by omega)]
        split at hphi <;> rename_i hw
        · rw [if_pos hw] at hbwm; omega
        · rw [if_neg hw] at hbwm; omega⟩
    · refine ⟨c', _, G', 6, Y.bag.length, hY, h5, Nat.le_refl _, ?_, fun _ => ?_⟩
      · unfold pot; omega
      · unfold pot; omega
  · have hst : Stg c' Y s (nxt o p.length) := by
      cases hs with
      | s9 => omega
      | s8 => omega
      | s7 => omega
      | s6 => omega
      | s5 => omega
      | s4 => omega
      | s3 j z h1 => obtain ⟨z', h2⟩ := stage3 h hb hk hx hd hw2 hx2 hout h1; exact .s3 j z' h2
      | s2 j z h1 => obtain ⟨z', h2⟩ := stage2 h hb hk hx hd hw2 hx2 hout h1; exact .s2 j z' h2
      | s1 h1 => exact .s1 (stage1 h hb hx hd hw2 hx2 hout h1)
    exact ⟨c', _, G', s, _, hY, hst, hoY, by unfold pot; rw [hYt, hnbm]; split <;> omega, fun h0 => by
      unfold pot
      rw [hYt, hnbm, if_pos (by omega)]
      split at hphi <;> rename_i hw
      · rw [if_pos hw] at hbwm; omega
      · rw [if_neg hw] at hbwm; omega⟩
theorem wi2_zero (n : Int) : wi2 0 n = 0 := by
  unfold wi2; rw [if_neg (by decide)]; exact Int.zero_tmod n
/-- A step of the rest: some message comes, the oldest at even steps. -/
theorem rest_step (hI : Wi 0 X) (L : List Int) (i : Nat) (hne : X.bag ≠ []) : ∃ p m q, X.bag = p ++ m :: q ∧ X.step (restS L i) = ({ X with bag := p ++ q } : Wo).comes m ∧ (i % 2 = 0 → p.length = 0) := by
  have hpos : 1 ≤ X.bag.length := by
    rcases Nat.eq_zero_or_pos X.bag.length with e | e
    · exact absurd (List.eq_nil_of_length_eq_zero e) hne
    · exact e
  have hn := hI.n
  have hw := wi2_in (x := (0 : Int)) (n := (X.N.length : Int)) (by omega)
  have hwb := wi2_in (x := ordK L i) (n := (X.bag.length : Int)) (by omega)
  have hbt : (wi2 (ordK L i) X.bag.length).toNat < X.bag.length := by omega
  refine ⟨X.bag.take (wi2 (ordK L i) X.bag.length).toNat, X.bag[(wi2 (ordK L i) X.bag.length).toNat], X.bag.drop ((wi2 (ordK L i) X.bag.length).toNat + 1), ?_, ?_, fun he => ?_⟩
  · conv => lhs; rw [← List.take_append_drop (wi2 (ordK L i) X.bag.length).toNat X.bag, List.drop_eq_getElem_cons hbt]
  · unfold Wo.step
    have h0 : (wi2 (restS L i).who X.N.length).toNat < X.N.length := by show (wi2 0 _).toNat < _; omega
    rw [List.getElem?_eq_getElem h0]
    show X.stepX (restS L i) _ _ = _
    unfold Wo.stepX
    rw [if_pos ⟨rfl, hpos⟩]
    show (match X.bag[(wi2 (ordK L i) X.bag.length).toNat]? with | some m => _ | none => _) = _
    rw [List.getElem?_eq_getElem hbt]
    rfl
  · have : ordK L i = 0 := by unfold ordK; rw [if_neg (by omega)]
    rw [this, wi2_zero]; simp
theorem runs (L : List Int) (hops : ops ≤ 121) : ∀ (f i : Nat) (X : Wo) (c : Nat → Int) (S : Sx) (G : Nat → Nat) (cc : Int) (s o : Nat), Wz c S G ops cc X → Stg c X s o → o ≤ X.bag.length → cc + 10005 * f ≤ 999999900000 → pot X S ops s o + 26406 + ((i % 2 : Nat) : Int) < f →
    (X.restN L f i).bag = []
  | 0, i, X, c, S, G, cc, s, o, h, hs, ho, hcc, hf => by
    exfalso
    have h1 := h.wx.phi_ge hops
    have h2 := nb_nn (X.bag.take o)
    have h3 := h.wx.slen
    unfold pot at hf; omega
  | f + 1, i, X, c, S, G, cc, s, o, h, hs, ho, hcc, hf => by
    by_cases hne : X.bag = []
    · rw [restN_nil _ _ _ hne]; exact hne
    · rw [restN_step _ _ _ hne]
      obtain ⟨s1, o1, n1, n2, n3, n4⟩ := norm h hs ho hne
      obtain ⟨p, m, q, hb, he, hev⟩ := rest_step h.wx.wi L i hne
      obtain ⟨c', S', G', s', o', d1, d2, d3, d4, d5⟩ := deliver h n1 n2 n3 hops (by omega) hb
      rw [he]
      refine runs L hops f (i + 1) _ c' S' G' (cc + 10005) s' o' d1 d2 d3 (by omega) ?_
      rcases Nat.mod_two_eq_zero_or_one i with h0 | h1
      · have := d5 (hev h0)
        omega
      · omega
/-- Where no message is under way, all is calm. -/
theorem Wz.calm (h : Wz c S G ops cc X) (hb : X.bag = []) : Calm X := by
  have hg := h.wx.gi
  have hI := h.wx.wi
  have hb' : X.ab.bag = [] := hb
  have h2 : St2 c 0 X.ab := by
    refine ⟨fun i j hi hj hij => ?_, fun i j hi hj hij hc => ?_, fun m hm => by rw [hb'] at hm; cases hm⟩
    · rcases hg.t4 i j hi hj hij with h1 | ⟨m, hm, _⟩
      · exact h1
      · rw [hb'] at hm; cases hm
    · rcases hg.t5 i j hi hj hij hc with h1 | ⟨m, hm, _⟩
      · exact .inl h1
      · rw [hb'] at hm; cases hm
  rcases enter h h2 with ⟨j, z, h3⟩ | h3
  · exfalso
    refine n4_end h (j := j) (z := z) (o := 0) ⟨h3.get, h3.lv, h3.top, fun i hi hij => ?_, h3.no, fun m hm => (by rw [hb] at hm; cases hm), by rw [hb]; exact Nat.le_refl _⟩ hb
    rcases h3.re i hi hij with h4 | ⟨m, hm, _⟩
    · exact h4
    · rw [hb] at hm; simp at hm
  · refine ⟨hb, ?_, fun k x hx => ⟨h3.top k x hx, (h.qt k x hx).2.2 (h3.top k x hx)⟩⟩
    have hz : ns lo X.N = 0 := by
      have : ∀ l : List No, (∀ x ∈ l, lo x = 0) → ns lo l = 0 := by
        intro l
        induction l with
        | nil => intro _; rfl
        | cons a l ih =>
          intro hl
          have e : ns lo (a :: l) = lo a + ns lo l := by simp [ns]
          rw [e, hl a (List.mem_cons_self ..), ih fun x hx => hl x (List.mem_cons_of_mem _ hx)]; rfl
      refine this _ fun x hx => ?_
      obtain ⟨j, hj, rfl⟩ := List.mem_iff_getElem.1 hx
      have hxj := List.getElem?_eq_getElem hj
      have hok := hI.ok j _ hxj
      refine if_neg ?_
      have := (top_none hok.wf).1 (h3.top j _ hxj) X.N[j].m.me hok.wf.me
      rw [this]; decide
    have := h.wx.cnt
    omega
end
end Go.Proofs.Ytmfbmfppjdkeeaa

/- The world of epochs in memory: all messages come; EpochRests. -/
namespace Go.Proofs.Ytmfbmfppjdkeeaa
open Go Go.Fw Go.RowKit
set_option linter.unusedVariables false
set_option linter.unusedSimpArgs false
set_option maxRecDepth 4000
set_option maxHeartbeats 4000000
variable {W w0 w : World} {F G : Grps} {wb : Nat} {nbs : List Nat} {X : Wo} {k : Nat} {y : No}

theorem St.closeN0 {x : Wm} {i : Nat} {n : Nd} (h : St w0 w (opW x i n F)) (hn : x.N[i]? = some n) : St w0 w (stW x F) := by
  have := St.closeN h hn rfl
  have e : x.N.set i n = x.N := by
    obtain ⟨hi, he⟩ := List.getElem?_eq_some_iff.1 hn
    subst he
    exact List.set_getElem_self hi
  rwa [e] at this
theorem rests_st {s : Sl} {L : List Int} {c : Int} (h : At w0 F wb nbs X w) (hI : Wi 0 X) (hB : Bd c X) (hc : c ≤ 900000000000) (hs : Rd w0 s 1 (lin L)) (hL : ∀ v ∈ L, -9223372036854775808 ≤ v ∧ v ≤ 9223372036854775807) {f0 : Nat} (hf0 : f0 = 200000) (hC : Calm (X.restN L f0 0)) :
    CallK Try.prog .bool 14 #[.pointer (some ⟨wb, 0, none⟩), .slice s.a s.len s.cap] w fun (r : Bool) w' => r = true ∧ At w0 F wb nbs (X.restN L f0 0) w' := by
  have hsl : s.len = L.length := by have := hs.1; rw [lin_len] at this; omega
  generalize hZ : X.restN L f0 0 = Z at hC
  refine T14.calls ?_
  unfold T14
  refine LoopX.mk (fun st w' => ∃ (i f : Nat) (Y : Wo), st = ((i : Int), ()) ∧ i + f = f0 ∧ Y.restN L f i = Z ∧ Wi 0 Y ∧ Bd (c + 20000 * i) Y ∧ At w0 F wb nbs Y w') (fun st => f0 - st.1.toNat) ⟨0, f0, X, rfl, by omega, hZ, hI, hB.mono (by omega), h⟩ ?_
  clear h hB hI hZ
  rintro _ w3 ⟨i, f, Y, rfl, hif, hZ, hI, hB, hat⟩ k2 hk2
  dsimp only at hk2 ⊢
  generalize hq : (200000 : Int) = q
  refine JoinX.mk (fun (z : Bool × Unit) w' => (z.1 = true → i < f0 ∧ Y.bag ≠ []) ∧ (z.1 = false → Y = Z) ∧ At w0 F wb nbs Y w') ?_ ?_
  rotate_left
  · intro k3 hk3
    obtain ⟨x, e1, e2, e3, h⟩ := hat
    have hbag : Y.bag = x.bag := by rw [← e3]; rfl
    have hw0 : x.wrong = false := by have := hI.wrong; rw [← e3] at this; exact this
    have hbl : x.bs.len = x.bag.length := bs_len h
    have hback : ∀ {w : World}, St w0 w (stW x F) → At w0 F wb nbs Y w := fun h => ⟨x, e1, e2, e3, h⟩
    subst e1
    rw [SplitB_iff]
    refine ⟨fun hi => ?_, fun hi => ?_⟩
    · have hi : (i : Int) < q := of_decide_eq_true hi
      refine NilP.mk ?_
      refine h.loadB 0 0 ⟨_, rfl, rfl⟩ rfl (kd := .sl) (x := x.bs) rfl ?_
      rw [SplitB_iff]
      refine ⟨fun hb => ?_, fun hb => ?_⟩
      · have hb : (x.bs.len : Int) > 0 := of_decide_eq_true hb
        refine NilP.mk ?_
        refine h.loadB 0 0 ⟨_, rfl, rfl⟩ rfl (kd := .bool) (x := x.wrong) rfl ?_
        refine hk3 _ _ ⟨fun _ => ⟨by omega, fun he => ?_⟩, fun hf => ?_, hback h⟩
        · rw [hbag] at he; rw [he] at hbl; simp at hbl; omega
        · have hf : (!x.wrong) = false := hf
          rw [hw0] at hf; cases hf
      · have hb : ¬ (x.bs.len : Int) > 0 := of_decide_eq_false hb
        have he : Y.bag = [] := by rw [hbag]; exact List.eq_nil_of_length_eq_zero (by omega)
        exact hk3 _ _ ⟨fun hf => (by cases hf), fun _ => by rw [← hZ, restN_nil _ _ _ he], hback h⟩
    · have hi : ¬ (i : Int) < q := of_decide_eq_false hi
      have hf : f = 0 := by omega
      subst hf
      exact hk3 _ _ ⟨fun hf => (by cases hf), fun _ => hZ, hback h⟩
  clear hat
  rintro ⟨z, ⟨⟩⟩ w4 ⟨hz1, hz2, hat⟩
  dsimp only at hz1 hz2 ⊢
  rw [SplitB_iff]
  refine ⟨fun hzt => ?_, fun hzf => ?_⟩
  · obtain ⟨hi, hne⟩ := hz1 hzt
    obtain ⟨f, rfl⟩ : ∃ f', f = f' + 1 := ⟨f - 1, by omega⟩
    rw [restN_step _ _ _ hne] at hZ
    have hem : IntKind.i64.wrap ((i : Int) + 1) = ((i + 1 : Nat) : Int) := by rw [wr (by omega)]; omega
    rw [hem]
    refine JoinX.mk (fun (z : Int × Unit) w' => z.1 = ordK L i ∧ At w0 F wb nbs Y w') ?_ ?_
    · clear hat
      rintro ⟨z, ⟨⟩⟩ w5 ⟨hz, hat⟩
      dsimp only at hz
      subst hz
      have hsok : (restS L i).ok := ⟨wf_range, ordK_range hL i, wf_range⟩
      obtain ⟨a1, a2, a3⟩ := step_ok hI hB (by omega) (restS L i)
      refine (step_at (s := restS L i) hat hI hB (by omega) hsok).mono ?_
      intro _ w6 hat
      exact hk2 _ _ ⟨i + 1, f, _, rfl, by omega, hZ, a1, a2.mono (by omega), hat⟩ (by dsimp only; omega)
    intro k5 hk5
    have hm2 : Int.tmod (i : Int) 2 = ((i % 2 : Nat) : Int) := by rw [Int.tmod_eq_emod_of_nonneg (by omega)]; omega
    have hd2 : Int.tdiv (i : Int) 2 = ((i / 2 : Nat) : Int) := by rw [Int.tdiv_eq_ediv_of_nonneg (by omega)]; omega
    rw [hm2, hd2, wr (x := ((i / 2 : Nat) : Int)) (by omega)]
    refine JoinX.mk (fun (z : Bool × Unit) w' => z.1 = decide (i % 2 = 1 ∧ 0 < L.length) ∧ w' = w4) ?_ ?_
    rotate_left
    · intro k7 hk7
      rw [SplitB_iff]
      refine ⟨fun hc => hk7 _ _ ⟨?_, rfl⟩, fun hc => hk7 _ _ ⟨?_, rfl⟩⟩
      · have hc : ((i % 2 : Nat) : Int) = 1 := by simpa using hc
        have hc : i % 2 = 1 := by omega
        show decide ((s.len : Int) > 0) = decide _
        rw [hsl]
        exact decide_eq_decide.2 ⟨fun h => ⟨hc, by omega⟩, fun h => by omega⟩
      · have hc : ¬ ((i % 2 : Nat) : Int) = 1 := by simpa using hc
        exact (decide_eq_false fun h => hc (by omega)).symm
    rintro ⟨z, ⟨⟩⟩ _ ⟨hz, rfl⟩
    dsimp only at hz
    subst hz
    rw [SplitB_iff]
    refine ⟨fun hc => ?_, fun hc => ?_⟩
    · obtain ⟨h1, hl⟩ := of_decide_eq_true hc
      have hq : Int.tmod ((i / 2 : Nat) : Int) (s.len : Int) = (((i / 2) % L.length : Nat) : Int) := by
        rw [hsl, Int.tmod_eq_emod_of_nonneg (by omega)]; exact (Int.natCast_emod _ _).symm
      have hlt : (i / 2) % L.length < L.length := Nat.mod_lt _ hl
      refine RunN.of (kd := .int .i64) (x := (((i / 2) % L.length : Nat) : Int)) (by rw [← hq]; exact run_rem _ _ _ (by omega)) ?_
      obtain ⟨x, e1, e2, e3, h⟩ := hat
      have hsr := h.old hs
      refine hsr.idxK _ rfl (by omega) ?_
      intro b0 o0 ha0
      refine hsr.el ha0 (((i / 2) % L.length) * 1) rfl (kd := .int .i64) (x := L[(i / 2) % L.length]) (by rw [Nat.mul_one]; exact lin_at hlt) ?_
      refine hk5 _ _ ⟨?_, x, e1, e2, e3, h⟩
      show _ = ordK L i
      unfold ordK
      rw [if_pos h1, List.getElem?_eq_getElem hlt]; rfl
    · have hc := of_decide_eq_false hc
      refine hk5 _ _ ⟨?_, hat⟩
      show (0 : Int) = ordK L i
      unfold ordK
      split
      · rename_i h1
        have : L.length = 0 := by
          rcases Nat.eq_zero_or_pos L.length with h | h
          · exact h
          · exact absurd ⟨h1, h⟩ hc
        rw [List.getElem?_eq_none (by omega)]; rfl
      · rfl
  · clear hk2 hZ
    have hYZ := hz2 hzf
    subst hYZ
    refine JoinX.mk (fun (z : Bool × Unit) w' => z.1 = false ∧ At w0 F wb nbs Y w') ?_ ?_
    · clear hat
      rintro ⟨z, ⟨⟩⟩ w5 ⟨hz, hat⟩
      dsimp only at hz
      subst hz
      rw [SplitB_iff]
      refine ⟨fun hf => (by cases hf), fun _ => ?_⟩
      refine LoopX.mk (fun st w' => ∃ j : Nat, st = ((j : Int), ()) ∧ j ≤ Y.N.length ∧ At w0 F wb nbs Y w') (fun st => Y.N.length - st.1.toNat) ⟨0, rfl, Nat.zero_le _, hat⟩ ?_
      clear hat
      rintro _ w6 ⟨j, rfl, hj, hat⟩ k12 hk12
      dsimp only at hk12 ⊢
      obtain ⟨x, e1, e2, e3, h⟩ := hat
      have hlen : Y.N.length = x.N.length := by rw [← e3]; simp [Wm.pl]
      have hnl : x.ns.len = x.N.length := ns_len h
      have hn5 := hI.n
      subst e1
      have hback : ∀ {w : World}, St w0 w (stW x F) → At w0 F x.wb nbs Y w := fun h => ⟨x, rfl, e2, e3, h⟩
      refine NilP.mk ?_
      refine h.loadB 0 0 ⟨_, rfl, rfl⟩ rfl (kd := .sl) (x := x.ns) rfl ?_
      rw [SplitB_iff]
      refine ⟨fun hc => ?_, fun hc => ⟨rfl, hback h⟩⟩
      have hc : j < Y.N.length := by have : (j : Int) < (x.ns.len : Int) := of_decide_eq_true hc
                                     omega
      have hem : IntKind.i64.wrap ((j : Int) + 1) = ((j + 1 : Nat) : Int) := by rw [wr (by omega)]; omega
      rw [hem]
      have hjx : j < x.N.length := by omega
      have hn := List.getElem?_eq_getElem hjx
      generalize x.N[j] = n at hn
      have hyj : Y.N[j]? = some n.pl := by rw [← e3]; show (x.N.map Nd.pl)[j]? = _; rw [List.getElem?_map, hn]; rfl
      have hok := hI.ok j _ hyj
      have hwf : n.e.wf := hok.wf
      obtain ⟨hno, hwt⟩ := hC.no j _ hyj
      have hno : someE n.e.top = false := hno
      have hwt : n.wait = [] := hwt
      refine JoinX.mk (fun (z : Bool × Unit) w' => z.1 = false ∧ At w0 F x.wb nbs Y w') ?_ ?_
      · rintro ⟨z, ⟨⟩⟩ w7 ⟨hz, hat⟩
        dsimp only at hz
        subst hz
        rw [SplitB_iff]
        exact ⟨fun hf => (by cases hf), fun _ => hk12 _ _ ⟨j + 1, rfl, by omega, hat⟩ (by dsimp only; omega)⟩
      intro k13 hk13
      have ho := St.openN h hn
      refine nd_at h hn ?_
      refine NilP.mk ?_
      refine ho.loadB 1 0 ⟨_, rfl, rfl⟩ rfl (kd := .ptr) (x := n.e.p) rfl ?_
      refine (frozen_st (q := []) (ho.ord 3 [2, 0, 1]) hwf).mono ?_
      rintro _ w7 ⟨rfl, ho⟩
      rw [hno, SplitB_iff]
      refine ⟨fun hf => (by cases hf), fun _ => ?_⟩
      have ho : St w0 w7 (opW x j n F) := ho.ord 3 [1, 2, 0]
      have h := St.closeN0 ho hn
      refine nd_at h hn ?_
      refine NilP.mk ?_
      refine ho.loadB 1 0 ⟨_, rfl, rfl⟩ rfl (kd := .sl) (x := n.ws) rfl ?_
      have hwl : n.ws.len = 0 := by
        have := (ho.rd (k := 1) (i := 1) (E := 4) (sz := 1) (s := n.ws) (vs := lbo n.wait) ⟨_, rfl, rfl⟩).1
        rw [hwt] at this; simp [lbo] at this; omega
      rw [hwl, SplitB_iff]
      refine ⟨fun hf => (by cases hf), fun _ => ?_⟩
      refine nd_at h hn ?_
      refine NilP.mk ?_
      refine ho.loadB 1 0 ⟨_, rfl, rfl⟩ rfl (kd := .ptr) (x := n.e.p) rfl ?_
      refine (lives_st (q := []) (ho.ord 3 [2, 0, 1]) hwf).mono ?_
      rintro s8 w8 ⟨hl8, ho⟩
      have hlv : n.e.lives = [] := by
        rcases top_some hwf with ⟨hl, _⟩ | ⟨_, _, _, h2⟩
        · exact hl
        · rw [hno] at h2; cases h2
      rw [hlv] at hl8
      have ho := ho.drop 0
      dsimp only [delO] at ho
      have ho : St w0 w8 (opW x j n F) := ho.ord 3 [1, 2, 0]
      refine hk13 _ _ ⟨?_, hback (St.closeN0 ho hn)⟩
      rw [hl8]; rfl
    intro k9 hk9
    obtain ⟨x, e1, e2, e3, h⟩ := hat
    have hw0 : x.wrong = false := by have := hI.wrong; rw [← e3] at this; exact this
    have hbag : x.bag = [] := by have := hC.bag; rw [← e3] at this; exact this
    have hbl : x.bs.len = x.bag.length := bs_len h
    subst e1
    refine NilP.mk ?_
    refine h.drew.readB 0 0 ⟨_, rfl, rfl⟩ rfl (kd := .bool) (x := x.wrong) rfl ?_
    rw [hw0, SplitB_iff]
    refine ⟨fun hf => (by cases hf), fun _ => ?_⟩
    refine NilP.mk ?_
    refine h.drew.readB 0 0 ⟨_, rfl, rfl⟩ rfl (kd := .sl) (x := x.bs) rfl ?_
    rw [hbl, hbag, SplitB_iff]
    refine ⟨fun hf => (by cases hf), fun _ => ?_⟩
    refine (conserved_st (X := Y) ⟨x, rfl, e2, e3, h.drew⟩ hI (by rw [hC.bag]; simp)).mono ?_
    rintro v w7 ⟨hv, x, f1, f2, f3, h⟩
    subst hv
    rw [← f1] at hk9 ⊢
    rw [SplitB_iff]
    refine ⟨fun hf => (by cases hf), fun _ => ?_⟩
    refine NilP.mk ?_
    refine h.readB 0 0 ⟨_, rfl, rfl⟩ rfl (kd := .int .i64) (x := x.begun) rfl ?_
    refine NilP.mk ?_
    refine h.readB 0 0 ⟨_, rfl, rfl⟩ rfl (kd := .int .i64) (x := x.ended) rfl ?_
    refine hk9 _ _ ⟨?_, x, rfl, f2, f3, h⟩
    have hbe : x.begun = x.ended := by have := hC.be; rw [← f3] at this; exact this
    rw [hbe]; simp
/-- What T8 asks of the plain world. -/
structure Rests (X : Wo) (L2 : List Stp) (L3 : List Int) (f0 : Nat) : Prop where
  one : Calm ((X.runS (L2.take 120)).restN L3 f0 0)
  two : Calm (((((X.runS (L2.take 120)).restN L3 f0 0).step ⟨1, (L3.length : Int), 0, 0, false⟩)).restN L3 f0 0)
  end_ : (((((X.runS (L2.take 120)).restN L3 f0 0).step ⟨1, (L3.length : Int), 0, 0, false⟩)).restN L3 f0 0).ended = ((X.runS (L2.take 120)).restN L3 f0 0).ended + 1
theorem calls8 {s1 s2 s3 : Sl} {L1 L3 : List Int} {L2 : List Stp} (h1 : Rd W s1 1 (lin L1)) (hL1 : ∀ v ∈ L1, -9223372036854775808 ≤ v ∧ v ≤ 9223372036854775807) (h2 : Rd W s2 5 (spvs L2)) (hL2 : ∀ s ∈ L2, s.ok) (h3 : Rd W s3 1 (lin L3)) (hL3 : ∀ v ∈ L3, -9223372036854775808 ≤ v ∧ v ≤ 9223372036854775807) {p0 : Int} (r0 : -9223372036854775808 ≤ p0 ∧ p0 ≤ 9223372036854775807) {f0 : Nat} (hf0 : f0 = 200000) (hR : ∀ X, Start X → Rests X L2 L3 f0) (hsm : (L3.length : Int) ≤ 9223372036854775807) :
    CallK Try.prog .bool 8 #[.int .i64 p0, .slice s1.a s1.len s1.cap, .slice s2.a s2.len s2.cap, .slice s3.a s3.len s3.cap] W fun (r : Bool) w' => Upd W w' nobody ∧ r = true := by
  have hsl2 : s2.len = L2.length := by have := h2.1; rw [spvs, flat_len spv_len] at this; omega
  have hsl3 : s3.len = L3.length := by have := h3.1; rw [lin_len] at this; omega
  refine T8.calls ?_
  unfold T8
  refine (made_st (St.init W) h1 hL1 r0).mono ?_
  rintro _ w1 ⟨wb, nbs, X, rfl, hS, hat⟩
  obtain ⟨hone, htwo, hend⟩ := hR X hS
  have hup : ∀ {X : Wo} {w : World}, At W [] wb nbs X w → Upd W w nobody := fun ⟨x, _, _, _, h⟩ => h.upd
  refine JoinX.mk (fun (z : Bool × Unit) w' => z.1 = false ∧ At W [] wb nbs X w') ?_ ?_
  rotate_left
  · intro k1 hk1
    obtain ⟨x, e1, e2, e3, h⟩ := hat
    refine (able_st h).mono ?_
    rintro _ w2 ⟨rfl, h⟩
    rw [SplitB_iff]
    refine ⟨fun hf => (by cases hf), fun _ => ?_⟩
    refine RunN.pEqS ?_
    exact hk1 _ _ ⟨rfl, x, e1, e2, e3, h⟩
  clear hat
  rintro ⟨z, ⟨⟩⟩ w2 ⟨hz, hat⟩
  dsimp only at hz
  subst hz
  rw [SplitB_iff]
  refine ⟨fun hf => (by cases hf), fun _ => ?_⟩
  generalize hY0 : X.runS (L2.take 120) = Y0 at hone htwo hend
  refine LoopX.mk (fun st w' => ∃ (i : Nat) (Y : Wo), st = ((i : Int), ()) ∧ i ≤ 120 ∧ Y.runS ((L2.take 120).drop i) = Y0 ∧ Wi 0 Y ∧ Bd (20000 * i) Y ∧ At W [] wb nbs Y w') (fun st => 120 - st.1.toNat) ⟨0, X, rfl, Nat.zero_le _, hY0, hS.wi, hS.bd, hat⟩ ?_
  clear hat hS hY0
  rintro _ w3 ⟨i, Y, rfl, hi, hY0, hI, hB, hat⟩ k4 hk4
  dsimp only at hk4 ⊢
  refine JoinX.mk (fun (z : Bool × Unit) w' => (z.1 = true → i < L2.length ∧ i < 120) ∧ (z.1 = false → ¬ (i < L2.length ∧ i < 120)) ∧ w' = w3) ?_ ?_
  rotate_left
  · intro k5 hk5
    rw [SplitB_iff]
    refine ⟨fun hc => hk5 _ _ ⟨fun h => ?_, fun h => ?_, rfl⟩, fun hc => hk5 _ _ ⟨fun h => (by cases h), fun _ => ?_, rfl⟩⟩
    · have h1 : (i : Int) < (s2.len : Int) := of_decide_eq_true hc
      have h2 : (i : Int) < 120 := of_decide_eq_true h
      omega
    · have h2 : ¬ (i : Int) < 120 := of_decide_eq_false h
      omega
    · have h1 : ¬ (i : Int) < (s2.len : Int) := of_decide_eq_false hc
      omega
  rintro ⟨z, ⟨⟩⟩ _ ⟨hz, hz2, rfl⟩
  dsimp only at hz hz2 ⊢
  rw [SplitB_iff]
  refine ⟨fun hzt => ?_, fun hzf => ?_⟩
  · obtain ⟨hiL, hi120⟩ := hz hzt
    have hem : IntKind.i64.wrap ((i : Int) + 1) = ((i + 1 : Nat) : Int) := by rw [wr (by omega)]; omega
    rw [hem]
    obtain ⟨x, e1, e2, e3, h⟩ := hat
    have hr := h.old h2
    refine hr.idxK i rfl (by omega) ?_
    intro b0 o0 ha0
    refine hr.elA ha0 (i * 5) rfl (kd := Kd5) (spt L2[i]) (ds := spv L2[i]) (flat_at spv_len _ _ hiL) ?_
    refine (step_at (s := L2[i]) ⟨x, e1, e2, e3, h⟩ hI hB (by omega) (hL2 _ (List.getElem_mem hiL))).mono ?_
    intro _ w4 hat
    obtain ⟨a1, a2, a3⟩ := step_ok hI hB (by omega) L2[i]
    have hlt : i < (L2.take 120).length := by rw [List.length_take]; omega
    have hd : (L2.take 120).drop i = L2[i] :: (L2.take 120).drop (i + 1) := by
      rw [List.drop_eq_getElem_cons hlt, List.getElem_take]
    rw [hd] at hY0
    exact hk4 _ _ ⟨i + 1, Y.step L2[i], rfl, by omega, hY0, a1, a2.mono (by omega), hat⟩ (by dsimp only; omega)
  · have hno := hz2 hzf
    clear hk4
    have hd : (L2.take 120).drop i = [] := List.drop_eq_nil_of_le (by rw [List.length_take]; omega)
    rw [hd] at hY0
    have hY0 : Y = Y0 := hY0
    subst hY0
    refine (rests_st hat hI hB (by omega) h3 hL3 hf0 hone).mono ?_
    rintro _ w4 ⟨rfl, hat⟩
    obtain ⟨i1, b1⟩ := restN_ok L3 f0 0 Y (20000 * i) hI hB (by omega)
    generalize Y.restN L3 f0 0 = Y1 at hone htwo hend hat i1 b1
    rw [SplitB_iff]
    refine ⟨fun hf => (by cases hf), fun _ => ?_⟩
    have hst1 : (⟨1, (L3.length : Int), 0, 0, false⟩ : Stp).ok := ⟨⟨by show (-9223372036854775808 : Int) ≤ (L3.length : Int); omega, hsm⟩, wf_range, wf_range⟩
    obtain ⟨i2, b2, _⟩ := step_ok i1 b1 (by omega) ⟨1, (L3.length : Int), 0, 0, false⟩
    obtain ⟨x, e1, e2, e3, h⟩ := hat
    subst e1
    refine NilP.mk ?_
    refine h.loadB 0 0 ⟨_, rfl, rfl⟩ rfl (kd := .int .i64) (x := x.ended) rfl ?_
    rw [hsl3]
    refine (step_at (s := ⟨1, (L3.length : Int), 0, 0, false⟩) ⟨x, rfl, e2, e3, h⟩ i1 b1 (by omega) hst1).mono ?_
    intro _ w5 hat
    have hatd : ∀ {X : Wo} {w : World}, At W [] x.wb nbs X w → At W [] x.wb nbs X w.drew := fun ⟨x, f1, f2, f3, h⟩ => ⟨x, f1, f2, f3, h.drew⟩
    have hx1 : x.ended = Y1.ended := by rw [← e3]; rfl
    have hbe := b1.ended
    have hat := hatd hat
    generalize (Y1.step ⟨1, (L3.length : Int), 0, 0, false⟩) = Y1s at hat i2 b2 htwo hend
    have hcc : 20000 * (i : Int) + 20000 * (f0 : Int) + 10010 ≤ 900000000000 := by omega
    have hrs := rests_st hat i2 b2 hcc h3 hL3 hf0 htwo
    rw [← hsl3]
    refine hrs.mono ?_
    clear hrs
    rintro _ w6 ⟨rfl, x2, f1, f2, f3, h⟩
    generalize Y1s.restN L3 f0 0 = Y2 at htwo hend f3
    rw [SplitB_iff]
    refine ⟨fun _ => ?_, fun hf => (by cases hf)⟩
    refine NilP.mk ?_
    rw [← f1]
    have g1 : x2.ended = Y2.ended := by rw [← f3]; rfl
    have g2 : x2.begun = Y2.begun := by rw [← f3]; rfl
    refine h.readB 0 0 ⟨_, rfl, rfl⟩ rfl (kd := .int .i64) (x := x2.ended) rfl ?_
    rw [wr (by omega), SplitB_iff]
    refine ⟨fun _ => ?_, fun hf => ?_⟩
    · refine NilP.mk ?_
      refine h.readB 0 0 ⟨_, rfl, rfl⟩ rfl (kd := .int .i64) (x := x2.begun) rfl ?_
      refine NilP.mk ?_
      refine h.readB 0 0 ⟨_, rfl, rfl⟩ rfl (kd := .int .i64) (x := x2.ended) rfl ?_
      refine ⟨h.upd, ?_⟩
      rw [g1, g2, htwo.be]; simp
    · have : x2.ended = x.ended + 1 := by rw [g1, hx1, hend]
      rw [this] at hf
      simp at hf
end Go.Proofs.Ytmfbmfppjdkeeaa

/- Epochs: scripts; the last op; all at rest. -/
namespace Go.Proofs.Ytmfbmfppjdkeeaa
open Go Go.Fw Go.RowKit
set_option linter.unusedVariables false
set_option linter.unusedSimpArgs false
set_option maxHeartbeats 1000000

section
variable {ex ex' : Int} {X X1 X2 Y : Wo} {k k0 : Nat} {x x1 x2 z : No} {i j o s : Nat} {p q : List Ms} {m : Ms}
variable {c c' : Nat → Int} {S S' : Sx} {G G' : Nat → Nat} {ops cc cc' : Int}
theorem Start.wz (h : Start X) : Wz (fun _ => 0) [] (fun _ => 0) 0 0 X ∧ X.phi = 0 := by
  have hI := h.wi
  have hno : ∀ (j : Nat) (x : No), X.N[j]? = some x → (∀ i, gI x.m.kn i = 0) ∧ (∀ i, gI x.m.fi i = 0) := fun j x hx => by
    rw [(h.nodes j x hx).1]
    exact ⟨fun i => gI_zero 16 i, fun i => gI_zero 16 i⟩
  have hlv : ∀ (j : Nat) (x : No), X.N[j]? = some x → ∀ i, x.m.lv i = false := fun j x hx i => lv_no.2 (by rw [(hno j x hx).1, (hno j x hx).2]; exact Int.le_refl _)
  have hK : ∀ i j, i < X.ab.n → X.ab.K i j = 0 := fun i j hi => by
    have hx := List.getElem?_eq_getElem (show i < X.N.length from hi)
    rw [abK hx]; exact (hno i _ hx).1 j
  have hF : ∀ i j, i < X.ab.n → X.ab.F i j = 0 := fun i j hi => by
    have hx := List.getElem?_eq_getElem (show i < X.N.length from hi)
    rw [abF hx]; exact (hno i _ hx).2 j
  have hl : ∀ i j, i < X.ab.n → ¬ X.ab.lv i j := fun i j hi hh => by
    unfold Ab.lv at hh; rw [hK i j hi, hF i j hi] at hh; omega
  have hb : X.ab.bag = [] := h.bag
  have hz : ∀ f : No → Int, (∀ x ∈ X.N, f x = 0) → ns f X.N = 0 := by
    intro f
    generalize X.N = l
    intro hl
    induction l with
    | nil => rfl
    | cons a l ih =>
      have e : ns f (a :: l) = f a + ns f l := by simp [ns]
      rw [e, hl a (List.mem_cons_self ..), ih fun x hx => hl x (List.mem_cons_of_mem _ hx)]; rfl
  have hwl : ns wl X.N = 0 := hz _ fun x hx => by
    obtain ⟨j, hj, rfl⟩ := List.mem_iff_getElem.1 hx
    unfold wl; rw [(h.nodes j _ (List.getElem?_eq_getElem hj)).2.2.2.1]; rfl
  have hlo : ns lo X.N = 0 := hz _ fun x hx => by
    obtain ⟨j, hj, rfl⟩ := List.mem_iff_getElem.1 hx
    exact if_neg (by rw [hlv j _ (List.getElem?_eq_getElem hj)]; decide)
  have hgs : ∀ n, gs (fun _ => 0) n = 0 := fun n => by
    induction n with
    | zero => rfl
    | succ n ih => unfold gs at ih ⊢; rw [Sm_succ, ih]; rfl
  refine ⟨⟨⟨hI, ⟨fun i j hi _ _ => by rw [hK i j hi]; exact Int.le_refl _, fun j hj => by rw [hK j j hj]; exact ⟨Int.le_refl _, Int.le_refl _⟩, fun j hj hh => absurd hh (hl j j hj), fun j hj hh => absurd hh (hl j j hj), fun m hm => (by rw [hb] at hm; cases hm), fun m hm => (by rw [hb] at hm; cases hm), fun i j hi _ _ => .inl (hK i j hi), fun i j hi _ _ _ => .inl (by rw [hF i j hi]; exact Int.le_refl _), fun m hm => (by rw [hb] at hm; cases hm), fun s hs => (by cases hs), fun i j hi _ hf => (by rw [hF i j hi] at hf; exact absurd hf (by decide)), fun k hk hh => absurd hh (hl k k hk), fun _ _ => Nat.zero_le _, fun _ _ _ => rfl⟩, ?_, ?_, ?_, fun i x hx hy => ?_, fun i x j z hi hj _ hh => ?_, fun m hm => ?_, fun i x hx hh => ?_⟩, h.bd, fun i x hx => ⟨fun hh => ?_, fun _ hh => ?_, fun _ => (h.nodes i x hx).2.2.2.1⟩⟩, ?_⟩
  · rw [h.begun, h.ended, hlo]; rfl
  · rw [hwl, hlo]; rfl
  · rw [h.ended, hgs]; rfl
  · rw [(h.nodes i x hx).2.2.2.2.2.1] at hy; exact absurd hy (by decide)
  · rw [hlv j z hj] at hh; cases hh
  · rw [h.bag] at hm; cases hm
  · rw [hlv i x hx] at hh; cases hh
  · rw [hlv i x hx] at hh; cases hh
  · have hok := hI.ok i x hx
    rw [(top_none hok.wf).2 fun j _ => hlv i x hx j] at hh; cases hh
  · unfold Wo.phi; rw [h.bag, h.begun, h.ended]; rfl
theorem settle_wz (h : Wx 0 c S G ops X1) (hB : Bd cc X1) (hops : ops ≤ 400) (hcc : cc ≤ 999999900000) (hx : X1.N[k]? = some x1) (hq : ∀ (i : Nat) (y : No), i ≠ k → X1.N[i]? = some y → Qt X1.lim i y) :
    ∃ c' S', Wz c' S' G ops (cc + 10000) (X1.settle k) ∧ (X1.settle k).phi ≤ X1.phi + yc1 k x1 ∧ (X1.settle k).N.length = X1.N.length := by
  obtain ⟨c', S', y, a1, a2, a3, a4, a5, a6⟩ := settle_gen 1000 X1 x1 c S cc h hB (by omega) hx (h.mu_le hx hops)
  obtain ⟨_, b2, b3⟩ := settle_ok h.wi hB (by omega) k
  refine ⟨c', S', ⟨a1, b2, fun i z hi => ?_⟩, a5, b3⟩
  rcases set_cases hx a2 hi with ⟨rfl, rfl⟩ | ⟨hik, hi⟩
  · exact a3
  · have e : (X1.settle k).lim = X1.lim := a4
    rw [e]; exact hq i z hik hi
/-- An op begins to wait. -/
theorem Wz.ask (h : Wz c S G ops cc X) (hops : ops ≤ 390) (hcc : cc ≤ 999999800000) (hx : X.N[k]? = some x) (all : Bool) :
    ∃ c' S', Wz c' S' G (ops + 1) (cc + 10010) (if someE x.m.top = true then X.put k { x with wait := x.wait ++ [all] } else (X.put k { x with wait := x.wait ++ [all] }).settle k) ∧
      (if someE x.m.top = true then X.put k { x with wait := x.wait ++ [all] } else (X.put k { x with wait := x.wait ++ [all] }).settle k).phi ≤ X.phi ∧
      (if someE x.m.top = true then X.put k { x with wait := x.wait ++ [all] } else (X.put k { x with wait := x.wait ++ [all] }).settle k).N.length = X.N.length := by
  have hI := h.wx.wi
  have hok := hI.ok k x hx
  have hqk := h.qt k x hx
  let x' : No := { x with wait := x.wait ++ [all] }
  let X1 := X.put k x'
  have hw1 : Wi 0 X1 := hI.plain (x' := x') hx rfl hok.ri hok.he (fun _ => rfl) (fun _ _ => rfl) rfl rfl rfl rfl hI.wrong rfl (Int.le_refl 0)
  have h1 : Wx 0 c S G (ops + 1) X1 := h.wx.plain (x' := x') (X' := X1) (ms := []) hx rfl rfl rfl hw1 (by show X.bag = X.bag ++ []; simp) (fun m hm => by cases hm) (fun m hm => by cases hm) rfl rfl rfl (.inl rfl) (fun hl ht => h.wx.un k x hx hl ht) (by show ((x.wait ++ [all]).length : Int) = (x.wait.length : Int) + 1; rw [List.length_append]; simp)
  have hB1 : Bd (cc + 1) X1 := (h.bd.mono (show cc ≤ cc + 1 by omega)).put (X' := X1) (x' := x') hx rfl (by show ((x.wait ++ [all]).length : Int) ≤ _; rw [List.length_append]; have := h.bd.wait k x hx; simp; omega) (by have := h.bd.bag; show (X.bag.length : Int) ≤ _; omega) (by have := h.bd.begun; show 0 ≤ X.begun ∧ X.begun ≤ _; omega) (by have := h.bd.ended; show 0 ≤ X.ended ∧ X.ended ≤ _; omega) (by have := h.bd.turn; show 0 ≤ X.turn ∧ X.turn ≤ _; omega)
  have hx1 : X1.N[k]? = some x' := set_self hx
  have hln : X1.N.length = X.N.length := List.length_set
  have hq : ∀ (i : Nat) (y : No), i ≠ k → X1.N[i]? = some y → Qt X1.lim i y := fun i y hik hi => by
    have hi : (X.N.set k x')[i]? = some y := hi
    rw [set_ne hik] at hi; exact h.qt i y hi
  by_cases ht : someE x.m.top = true
  · rw [if_pos ht]
    refine ⟨c, S, ⟨h1, hB1.mono (by omega), fun i y hi => ?_⟩, Int.le_refl _, hln⟩
    by_cases hik : i = k
    · subst hik
      rw [hx1] at hi; cases hi
      refine ⟨hqk.1, hqk.2.1, fun hh => ?_⟩
      have hh : someE x.m.top = false := hh
      rw [ht] at hh; cases hh
    · exact hq i y hik hi
  · rw [if_neg ht]
    obtain ⟨c', S', a1, a2, a3⟩ := settle_wz h1 hB1 (by omega) (by omega) hx1 hq
    have hyc : yc1 k x' = 0 := if_neg (fun hh => ht hh.2.1)
    have hph : X1.phi = X.phi := rfl
    exact ⟨c', S', ⟨a1.wx, a1.bd.mono (by omega), a1.qt⟩, Int.le_trans a2 (by omega), a3.trans hln⟩
theorem Wz.step (h : Wz c S G ops cc X) (hops : 0 ≤ ops ∧ ops ≤ 390) (hcc : cc ≤ 999999800000) (s : Stp) : ∃ c' S' G' ops', Wz c' S' G' ops' (cc + 10010) (X.step s) ∧ (X.step s).phi ≤ X.phi ∧ ops ≤ ops' ∧ ops' ≤ ops + 1 := by
  have hI := h.wx.wi
  have hn := hI.n
  have hw := wi2_in (x := s.who) (n := (X.N.length : Int)) (by omega)
  have hit : (wi2 s.who X.N.length).toNat < X.N.length := by omega
  unfold Wo.step
  rw [List.getElem?_eq_getElem hit]
  show ∃ c' S' G' ops', Wz c' S' G' ops' (cc + 10010) (X.stepX s (wi2 s.who X.N.length).toNat X.N[(wi2 s.who X.N.length).toNat]) ∧ (X.stepX s (wi2 s.who X.N.length).toNat X.N[(wi2 s.who X.N.length).toNat]).phi ≤ X.phi ∧ _
  have hx := List.getElem?_eq_getElem hit
  generalize (wi2 s.who X.N.length).toNat = k at hit hx
  generalize X.N[k] = x at hx
  have hok := hI.ok k x hx
  have hqk := h.qt k x hx
  have hsame : ∃ c' S' G' ops', Wz c' S' G' ops' (cc + 10010) X ∧ X.phi ≤ X.phi ∧ ops ≤ ops' ∧ ops' ≤ ops + 1 := ⟨c, S, G, ops, ⟨h.wx, h.bd.mono (by omega), h.qt⟩, Int.le_refl _, by omega, by omega⟩
  unfold Wo.stepX
  split
  · rename_i hk
    have hwb := wi2_in (x := s.a) (n := (X.bag.length : Int)) (by omega)
    have hbt : (wi2 s.a X.bag.length).toNat < X.bag.length := by omega
    rw [List.getElem?_eq_getElem hbt]
    have hb : X.bag = X.bag.take (wi2 s.a X.bag.length).toNat ++ X.bag[(wi2 s.a X.bag.length).toNat] :: X.bag.drop ((wi2 s.a X.bag.length).toNat + 1) := by
      conv => lhs; rw [← List.take_append_drop (wi2 s.a X.bag.length).toNat X.bag, List.drop_eq_getElem_cons hbt]
    obtain ⟨_, _, _, c', S', G', _, _, _, _, _, _, hY, _, _, hphi, _⟩ := h.comes hb (by omega) (by omega)
    exact ⟨c', S', G', ops, ⟨hY.wx, hY.bd.mono (by omega), hY.qt⟩, by
      refine Int.le_trans hphi ?_
      split <;> omega, by omega, by omega⟩
  · split
    · obtain ⟨c', S', a1, a2, _⟩ := h.ask hops.2 hcc hx s.all
      exact ⟨c', S', G, ops + 1, a1, a2, by omega, by omega⟩
    · split
      · split
        · rename_i ho
          have hl : x.m.lv k = true := by
            have := own_live hok.wf
            rw [hok.me] at this
            rcases this with ⟨h, _⟩ | ⟨_, h, _⟩
            · exact h
            · rw [h] at ho; exact absurd ho (by decide)
          obtain ⟨_, f1⟩ := h.wx.fin hx hl
          have hB1 := h.bd.fin hx hn.2
          have hph := fin_phi hx hn.2
          obtain ⟨x', hN⟩ : ∃ x', (X.fin k x).N = X.N.set k x' := by unfold Wo.fin; split <;> exact ⟨_, rfl⟩
          have hlim : (X.fin k x).lim = X.lim := by unfold Wo.fin; split <;> rfl
          have hx1 : (X.fin k x).N[k]? = some x' := by rw [hN]; exact set_self hx
          obtain ⟨c', S', a1, a2, _⟩ := settle_wz f1 hB1 (by omega) (by omega) hx1 fun i y hik hi => by
            rw [hN, set_ne hik] at hi
            rw [hlim]; exact h.qt i y hi
          have hyc : yc1 k x' ≤ 1 := by unfold yc1; split <;> decide
          exact ⟨c', S', G, ops, ⟨a1.wx, a1.bd.mono (by omega), a1.qt⟩, by omega, by omega, by omega⟩
        · exact hsame
      · split
        · rename_i hk
          obtain ⟨_, hf⟩ := hk
          have hlv : x.m.lv k = false := not_frozen hok.wf hf (by rw [hok.nn]; exact hit)
          have hwt := hqk.2.2 hf
          obtain ⟨m1, m2, m3⟩ := moves_ok hI hx h.bd hf s
          have hmk : ∀ (x' : No) (ms : List Ms) (X' : Wo), X'.N = X.N.set k x' → x'.m = x.m → x'.told = x.told → x'.wait = x.wait → x'.y = x.y → X'.bag = X.bag ++ ms → (∀ m ∈ ms, ¬ tel m ∧ m.kind ≠ 4 ∧ wtm m = 0) → X'.begun = X.begun → X'.ended = X.ended → X'.lim = X.lim → Wi 0 X' → Bd (cc + 1) X' → ∃ c' S' G' ops', Wz c' S' G' ops' (cc + 10010) X' ∧ X'.phi ≤ X.phi ∧ ops ≤ ops' ∧ ops' ≤ ops + 1 := by
            intro x' ms X' e1 e2 e3 e4 e5 e6 e7 e8 e9 e10 e11 e12
            have h1 := h.wx.plain hx e1 e2 e3 e11 e6 (fun m hm => (e7 m hm).1) (fun m hm h4 => absurd h4 (e7 m hm).2.1) e8 e9 e10 (.inl e5) (fun hl => by rw [hlv] at hl; cases hl) (d := 0) (by unfold wl; rw [e4]; omega)
            rw [Int.add_zero] at h1
            refine ⟨c, S, G, ops, ⟨h1, e12.mono (by omega), fun i y hi => ?_⟩, ?_, by omega, by omega⟩
            · rw [e10]
              rcases set_cases hx e1 hi with ⟨rfl, rfl⟩ | ⟨hik, hi⟩
              · exact ⟨fun hl => (by rw [e2, hlv] at hl; cases hl), fun _ ht => (by rw [e2, hf] at ht; cases ht), fun _ => by rw [e4]; exact hwt⟩
              · exact h.qt i y hi
            · have : ∀ l : List Ms, (∀ m ∈ l, ¬ tel m ∧ m.kind ≠ 4 ∧ wtm m = 0) → wts l = 0 := by
                intro l
                induction l with
                | nil => intro _; rfl
                | cons a l ih => intro hl; rw [wts_cons, (hl a (List.mem_cons_self ..)).2.2, ih fun z hz => hl z (List.mem_cons_of_mem _ hz)]; rfl
              have := this ms e7
              unfold Wo.phi
              rw [e6, wts_app, e8, e9]; omega
          unfold Wo.moves at m1 m2 ⊢
          have hmv : ∀ d, Wi 0 (X.put k (x.mv d)) → Bd (cc + 1) (X.put k (x.mv d)) → ∃ c' S' G' ops', Wz c' S' G' ops' (cc + 10010) (X.put k (x.mv d)) ∧ (X.put k (x.mv d)).phi ≤ X.phi ∧ ops ≤ ops' ∧ ops' ≤ ops + 1 := fun d w1 w2 =>
            hmk (x.mv d) [] _ rfl rfl rfl rfl rfl (by show X.bag = X.bag ++ []; simp) (fun m hm => by cases hm) rfl rfl rfl w1 w2
          by_cases h3 : s.kind = 3
          · rw [if_pos h3] at m1 m2 ⊢
            exact hmv _ m1 m2
          · rw [if_neg h3] at m1 m2 ⊢
            by_cases h4 : s.kind = 4
            · rw [if_pos h4] at m1 m2 ⊢
              exact hmv _ m1 m2
            · rw [if_neg h4] at m1 m2 ⊢
              by_cases h5 : s.kind = 5
              · rw [if_pos h5] at m1 m2 ⊢
                by_cases h6 : wi2 s.b X.N.length ≠ (k : Int) ∧ min (wi2 s.a 4) x.ri > 0
                · rw [if_pos h6] at m1 m2 ⊢
                  refine hmk { x with ri := x.ri - min (wi2 s.a 4) x.ri } [⟨9, (k : Int), wi2 s.b X.N.length, (0, 0), (0, 0), min (wi2 s.a 4) x.ri, 0⟩] _ rfl rfl rfl rfl rfl rfl (fun m hm => ?_) rfl rfl rfl m1 m2
                  simp at hm
                  have hnt : ¬ tel (⟨9, (k : Int), wi2 s.b X.N.length, (0, 0), (0, 0), min (wi2 s.a 4) x.ri, 0⟩ : Ms) := by rintro (h | h | h) <;> cases h
                  rw [hm]
                  refine ⟨hnt, by show (9 : Int) ≠ 4; decide, ?_⟩
                  unfold wtm
                  rw [if_neg hnt]
                  exact if_neg (by show ¬ min (wi2 s.a 4) x.ri = 0; omega)
                · rw [if_neg h6] at m1 m2 ⊢
                  exact hsame
              · rw [if_neg h5] at m1 m2 ⊢
                exact hsame
        · exact hsame
theorem runS_wz : ∀ (L : List Stp) (X : Wo) (c : Nat → Int) (S : Sx) (G : Nat → Nat) (ops cc : Int), Wz c S G ops cc X → 0 ≤ ops → ops + L.length ≤ 390 → cc + 10010 * L.length ≤ 999999800000 → ∃ c' S' G' ops', Wz c' S' G' ops' (cc + 10010 * L.length) (X.runS L) ∧ (X.runS L).phi ≤ X.phi ∧ 0 ≤ ops' ∧ ops' ≤ ops + L.length
  | [], X, c, S, G, ops, cc, h, h0, h1, h2 => ⟨c, S, G, ops, ⟨h.wx, h.bd.mono (by simp), h.qt⟩, Int.le_refl _, h0, by simp⟩
  | s :: L, X, c, S, G, ops, cc, h, h0, h1, h2 => by
    rw [List.length_cons] at h1 h2 ⊢
    obtain ⟨c', S', G', ops', a1, a2, a3, a4⟩ := h.step ⟨h0, by omega⟩ (by omega) s
    obtain ⟨c2, S2, G2, ops2, b1, b2, b3, b4⟩ := runS_wz L _ c' S' G' ops' (cc + 10010) a1 (by omega) (by omega) (by omega)
    exact ⟨c2, S2, G2, ops2, ⟨b1.wx, b1.bd.mono (by omega), b1.qt⟩, Int.le_trans b2 a2, b3, by omega⟩
theorem restN_wz (L : List Int) (hops : ops ≤ 390) : ∀ (f i : Nat) (X : Wo) (c : Nat → Int) (S : Sx) (G : Nat → Nat) (cc : Int), Wz c S G ops cc X → cc + 10010 * f ≤ 999999800000 → ∃ c' S' G', Wz c' S' G' ops (cc + 10010 * f) (X.restN L f i) ∧ (X.restN L f i).phi ≤ X.phi
  | 0, i, X, c, S, G, cc, h, h2 => ⟨c, S, G, ⟨h.wx, h.bd.mono (by simp), h.qt⟩, Int.le_refl _⟩
  | f + 1, i, X, c, S, G, cc, h, h2 => by
    by_cases hne : X.bag = []
    · rw [restN_nil _ _ _ hne]
      exact ⟨c, S, G, ⟨h.wx, h.bd.mono (by omega), h.qt⟩, Int.le_refl _⟩
    · rw [restN_step _ _ _ hne]
      obtain ⟨p, m, q, hb, he, _⟩ := rest_step h.wx.wi L i hne
      obtain ⟨_, _, _, c', S', G', _, _, _, _, _, _, hY, _, _, hphi, _⟩ := h.comes hb (by omega) (by omega)
      rw [he]
      obtain ⟨c2, S2, G2, b1, b2⟩ := restN_wz L hops f (i + 1) _ c' S' G' (cc + 10005) hY (by omega)
      refine ⟨c2, S2, G2, ⟨b1.wx, b1.bd.mono (by omega), b1.qt⟩, Int.le_trans b2 (Int.le_trans hphi ?_)⟩
      split <;> omega
/-- Only k has an op. -/
structure Zk (k0 : Nat) (X : Wo) : Prop where
  no : ∀ (i : Nat) (x : No), X.N[i]? = some x → i ≠ k0 → x.m.lv i = false ∧ x.wait = []
  bag : ∀ m ∈ X.bag, tel m → m.kind ≠ 7 ∧ m.to ≠ (k0 : Int)
theorem Zk.set (h : Zk k0 X) (hx : X.N[k]? = some x) {x' : No} (hN : Y.N = X.N.set k x') (hn : k ≠ k0 → x'.m.lv k = false ∧ x'.wait = []) {ms : List Ms} (hb : Y.bag = X.bag ++ ms) (hm : ∀ m ∈ ms, tel m → m.kind ≠ 7 ∧ m.to ≠ (k0 : Int)) : Zk k0 Y := by
  refine ⟨fun i y hi hik => ?_, fun m hmm ht => ?_⟩
  · rcases set_cases hx hN hi with ⟨rfl, rfl⟩ | ⟨hik', hi⟩
    · exact hn hik
    · exact h.no i y hi hik
  · rw [hb] at hmm
    rcases List.mem_append.1 hmm with hmm | hmm
    · exact h.bag m hmm ht
    · exact hm m hmm ht
theorem Zk.one (h : Zk k0 X) (hI : Wi 0 X) : Zk k0 (X.one k).1 := by
  unfold Wo.one
  cases hx : X.N[k]? with
  | none => exact h
  | some x =>
    show Zk k0 (X.oneX k x).1
    have hok := hI.ok k x hx
    unfold Wo.oneX
    by_cases h1 : x.m.own.1 > 0 ∧ x.m.top = x.m.own
    · rw [if_pos h1]
      have hl := (own_cond hI hx).1 h1
      have hk : k = k0 := by
        rcases Classical.em (k = k0) with e | e
        · exact e
        · have := (h.no k x hx e).1; rw [hl] at this; cases this
      subst hk
      split
      · exact h
      · show Zk k (X.deal k x)
        unfold Wo.deal
        generalize moved (X.turn + 1) x = d
        have hz1 : Zk k ({ X with turn := X.turn + 1, N := X.N.set k (x.mv d) } : Wo) := h.set (ms := []) hx rfl (fun hh => absurd rfl hh) (by simp) (fun m hm => by cases hm)
        unfold Wo.fin
        split
        · refine hz1.set (set_self hx) rfl (fun hh => absurd rfl hh) rfl fun m hm ht => ?_
          obtain ⟨j, _, hj, rfl⟩ := oth_of hm
          exact ⟨by show (5 : Int) ≠ 7; decide, by show (j : Int) ≠ k; omega⟩
        · exact hz1.set (ms := []) (set_self hx) rfl (fun hh => absurd rfl hh) (by simp) (fun m hm => by cases hm)
    · rw [if_neg h1]
      split
      · split
        · refine h.set (x' := { x with ri := 0, y := x.m.top }) hx rfl (fun hk => h.no k x hx hk) rfl fun m hm ht => ?_
          simp at hm; subst hm
          rcases ht with h | h | h <;> cases h
        · exact h
      · cases hwt : x.wait with
        | nil =>
          refine h.set (x' := { x with y := (0, 0), wait := [] }) (ms := []) hx ?_ (fun hk => ⟨(h.no k x hx hk).1, rfl⟩) (by simp [Wo.put]) (fun m hm => by cases hm)
          show X.N.set k _ = X.N.set k _
          rw [← hwt]
        | cons a r =>
          have hk : k = k0 := by
            rcases Classical.em (k = k0) with e | e
            · exact e
            · have := (h.no k x hx e).2; rw [hwt] at this; cases this
          subst hk
          have hz1 : Zk k (X.put k { x with y := (0, 0), wait := r }) := h.set (x' := { x with y := (0, 0), wait := r }) (ms := []) hx rfl (fun hh => absurd rfl hh) (by simp [Wo.put]) (fun m hm => by cases hm)
          refine hz1.set (set_self hx) rfl (fun hh => absurd rfl hh) rfl fun m hm ht => ?_
          split at hm
          · obtain ⟨j, _, hj, rfl⟩ := oth_of hm
            exact ⟨by show (3 : Int) ≠ 7; decide, by show (j : Int) ≠ k; omega⟩
          · cases hm
theorem Zk.settleN : ∀ (f : Nat) (X : Wo) (cc : Int), Zk k0 X → Wi 0 X → Bd cc X → cc + 10 * f ≤ 1000000000000 → Zk k0 (Wo.settleN f X k)
  | 0, X, cc, h, _, _, _ => h
  | f + 1, X, cc, h, hI, hB, hcc => by
    have hb := hB.begun
    have h1 := h.one hI (k := k)
    have ho := hI.one hB.turn.1 (by omega) k
    have hd := hB.one hI.n.2 k
    rw [Wo.settleN]
    split
    · exact Zk.settleN f _ (cc + 10) h1 ho hd.1 (by omega)
    · exact h1
theorem Zk.rest (L : List Int) (hops : ops ≤ 390) : ∀ (f i : Nat) (X : Wo) (c : Nat → Int) (S : Sx) (cc : Int), Wz c S G ops cc X → Zk k0 X → cc + 10010 * f ≤ 999999800000 → ∃ c' S', Wz c' S' G ops (cc + 10010 * f) (X.restN L f i) ∧ (X.restN L f i).N.length = X.N.length
  | 0, i, X, c, S, cc, h, _, h2 => ⟨c, S, ⟨h.wx, h.bd.mono (by simp), h.qt⟩, rfl⟩
  | f + 1, i, X, c, S, cc, h, hz, h2 => by
    by_cases hne : X.bag = []
    · rw [restN_nil _ _ _ hne]
      exact ⟨c, S, ⟨h.wx, h.bd.mono (by omega), h.qt⟩, rfl⟩
    · rw [restN_step _ _ _ hne]
      obtain ⟨p, m, q, hb, he, _⟩ := rest_step h.wx.wi L i hne
      have hI := h.wx.wi
      have hmb : m ∈ X.bag := by rw [hb]; exact List.mem_append.2 (.inr (List.mem_cons_self ..))
      obtain ⟨t, ht, htn⟩ := (hI.bag m hmb).to
      have hx := List.getElem?_eq_getElem htn
      generalize X.N[t] = x at hx
      -- what is heard
      obtain ⟨G', x2, hw2, hd⟩ := h.wx.heard hx hb ht h.bd (fun hl => h.told hx hl)
      have hGG : G' = G ∧ x2.wait = x.wait ∧ x2.m = x.hm m ∧ (({ X with bag := p ++ q } : Wo).heardX m t x).bag = p ++ q ∧ (x.hm m).lv t = x.m.lv t := by
        rcases hd.or with ⟨g1, g2, g3, g4, g5, g6⟩ | ⟨u, A1, g1, _, _, _, _, _, g6, g7⟩
        · refine ⟨g1, g4, g5, g2, ?_⟩
          have hx2' : (({ X with bag := p ++ q } : Wo).heardX m t x).N[t]? = some x2 := by rw [hd.N]; exact set_self hx
          have := g6.own
          rw [abK hx, abF hx, abK hx2', abF hx2', g5] at this
          unfold Mv.lv; rw [this.1, this.2]
        · exfalso
          have h1 := hz.bag m hmb g1
          have htk : t ≠ k0 := fun e => h1.2 (by rw [ht, e])
          have h2 := (hz.no t x hx htk).1
          have h3 := g7.lk
          unfold Ab.lv at h3
          rw [g6.own.1, g6.own.2, abK hx, abF hx] at h3
          rw [lv_iff.2 h3] at h2; cases h2
      obtain ⟨hGe, hwt, hm2, hbag2, hlv2⟩ := hGG
      rw [hGe] at hw2
      have hz2 : Zk k0 (({ X with bag := p ++ q } : Wo).heardX m t x) := by
        have hz0 : Zk k0 ({ X with bag := p ++ q } : Wo) := ⟨hz.no, fun w hw => hz.bag w (by rw [hb]; exact mem_mid' hw)⟩
        exact hz0.set (X := { X with bag := p ++ q }) (ms := []) hx hd.N (fun hk => by rw [hm2, hlv2, hwt]; exact hz.no t x hx hk) (by rw [hbag2]; simp) (fun w hw => by cases hw)
      have hto0 : X.takeOut p.length = { X with bag := p ++ q } := by
        unfold Wo.takeOut
        rw [hb]; simp
      have hat : X.bag[p.length]? = some m := by rw [hb]; simp
      obtain ⟨w1, w2⟩ := take_ok hI hat
      rw [hto0] at w1 w2
      have hB0 : Bd cc ({ X with bag := p ++ q } : Wo) := ⟨by
        have := h.bd.bag; rw [hb] at this; simp at this ⊢; omega, h.bd.begun, h.bd.ended, h.bd.turn, h.bd.wait⟩
      obtain ⟨v1, v2, v3⟩ := heard_ok w1 hx w2 hB0
      have hkt : m.to.toNat = t := by omega
      have hcm : ({ X with bag := p ++ q } : Wo).comes m = (({ X with bag := p ++ q } : Wo).heardX m t x).settle t := by
        unfold Wo.comes
        rw [hkt]
        show (match X.N[t]? with | some x => _ | none => _) = _
        rw [hx]
      have hx2 : (({ X with bag := p ++ q } : Wo).heardX m t x).N[t]? = some x2 := by rw [hd.N]; exact set_self hx
      obtain ⟨c', S', a1, _, a3⟩ := settle_wz hw2 v2 (by omega) (by omega) hx2 fun i y hik hi => by
        rw [hd.N, set_ne hik] at hi
        rw [hd.lim]; exact h.qt i y hi
      have hz3 : Zk k0 ((({ X with bag := p ++ q } : Wo).heardX m t x).settle t) := Zk.settleN 1000 _ (cc + 5) hz2 v1 v2 (by omega)
      rw [he, hcm]
      obtain ⟨c2, S2, b1, b2⟩ := Zk.rest L hops f (i + 1) _ c' S' (cc + 5 + 10000) a1 hz3 (by omega)
      refine ⟨c2, S2, ⟨b1.wx, b1.bd.mono (by omega), b1.qt⟩, ?_⟩
      rw [b2, a3, hd.N, List.length_set]
theorem Wz.all_done (h : Wz c S G ops cc X) (hC : Calm X) : (S.length : Int) = ops := by
  have hI := h.wx.wi
  have hz : ∀ f : No → Int, (∀ x ∈ X.N, f x = 0) → ns f X.N = 0 := by
    intro f
    generalize X.N = l
    intro hl
    induction l with
    | nil => rfl
    | cons a l ih =>
      have e : ns f (a :: l) = f a + ns f l := by simp [ns]
      rw [e, hl a (List.mem_cons_self ..), ih fun x hx => hl x (List.mem_cons_of_mem _ hx)]; rfl
  have hwl : ns wl X.N = 0 := hz _ fun x hx => by
    obtain ⟨j, hj, rfl⟩ := List.mem_iff_getElem.1 hx
    unfold wl; rw [(hC.no j _ (List.getElem?_eq_getElem hj)).2]; rfl
  have hlo : ns lo X.N = 0 := hz _ fun x hx => by
    obtain ⟨j, hj, rfl⟩ := List.mem_iff_getElem.1 hx
    have hxj := List.getElem?_eq_getElem hj
    have hok := hI.ok j _ hxj
    exact if_neg (by rw [(top_none hok.wf).1 (hC.no j _ hxj).1 X.N[j].m.me hok.wf.me]; decide)
  have := h.wx.op
  omega
theorem rests_all (hS : Start X) (L2 : List Stp) (L3 : List Int) {f0 : Nat} (hf0 : f0 = 200000) : Rests X L2 L3 f0 := by
  obtain ⟨z0, p0⟩ := hS.wz
  have hl : (L2.take 120).length ≤ 120 := by rw [List.length_take]; omega
  obtain ⟨c, S, G, ops, z1, p1, o1, o2⟩ := runS_wz (L2.take 120) X _ _ _ 0 0 z0 (Int.le_refl _) (by omega) (by omega)
  generalize hY : X.runS (L2.take 120) = Y at z1 p1
  have hst : ∀ {X : Wo} {c : Nat → Int}, Stg c X 9 X.bag.length := fun {X c} => .s9 (fun m hm => by rw [List.drop_length] at hm; cases hm)
  have hgo : ∀ {X : Wo} {c : Nat → Int} {S : Sx} {G : Nat → Nat} {ops cc : Int}, Wz c S G ops cc X → X.phi ≤ 0 → ops ≤ 121 → cc ≤ 100000000000 → (X.restN L3 f0 0).bag = [] := fun {X c S G ops cc} h hp ho hcc => by
    refine runs L3 ho f0 0 X c S G cc 9 _ h hst (Nat.le_refl _) (by omega) ?_
    have h1 := nb_take X.bag.length X.bag
    have h2 := h.wx.wi.nb
    unfold pot
    omega
  have hb1 := hgo z1 (by omega) (by omega) (by omega)
  obtain ⟨c1, S1, G1, z2, p2⟩ := restN_wz L3 (by omega) f0 0 Y c S G _ z1 (by omega)
  have hC1 := z2.calm hb1
  have hcc2 : 0 + 10010 * ((L2.take 120).length : Int) + 10010 * (f0 : Int) ≤ 10000000000 := by omega
  generalize 0 + 10010 * ((L2.take 120).length : Int) + 10010 * (f0 : Int) = cc2 at z2 hcc2
  generalize hY1 : Y.restN L3 f0 0 = Y1 at hb1 z2 p2 hC1
  have hI1 := z2.wx.wi
  have hn := hI1.n
  -- the last op
  have hwi := wi2_in (x := (L3.length : Int)) (n := (Y1.N.length : Int)) (by omega)
  obtain ⟨k0, hk0⟩ : ∃ k0 : Nat, wi2 (L3.length : Int) Y1.N.length = (k0 : Int) := ⟨_, (Int.toNat_of_nonneg hwi.1).symm⟩
  have hk0n : k0 < Y1.N.length := by omega
  have hx := List.getElem?_eq_getElem hk0n
  generalize hxe : Y1.N[k0] = x at hx
  have hf := (hC1.no k0 x hx).1
  have hstep : Y1.step ⟨1, (L3.length : Int), 0, 0, false⟩ = (Y1.put k0 { x with wait := x.wait ++ [false] }).settle k0 := by
    unfold Wo.step
    show (match Y1.N[(wi2 (L3.length : Int) Y1.N.length).toNat]? with | some x => _ | none => _) = _
    rw [hk0]
    show (match Y1.N[k0]? with | some x => _ | none => _) = _
    rw [hx]
    show Y1.stepX _ k0 x = _
    unfold Wo.stepX
    rw [if_neg (fun hh => absurd hh.1 (show ¬ (1 : Int) = 2 by decide)), if_pos rfl, if_neg (by rw [hf]; decide)]
  obtain ⟨c3, S3, z3, p3, l3⟩ := z2.ask (by omega) (by omega) hx false
  rw [if_neg (by rw [hf]; decide)] at z3 p3 l3
  have hz1 : Zk k0 (Y1.put k0 { x with wait := x.wait ++ [false] }) := by
    have hz0 : Zk k0 Y1 := ⟨fun i y hi hik => by
      have hok := hI1.ok i y hi
      exact ⟨(top_none hok.wf).1 (hC1.no i y hi).1 i (by rw [hok.nn]; exact get_lt hi), (hC1.no i y hi).2⟩, fun m hm => by rw [hC1.bag] at hm; cases hm⟩
    exact hz0.set (x' := { x with wait := x.wait ++ [false] }) (ms := []) hx rfl (fun hh => absurd rfl hh) (by simp [Wo.put]) (fun m hm => by cases hm)
  have hok := hI1.ok k0 x hx
  have hwA : Wi 0 (Y1.put k0 { x with wait := x.wait ++ [false] }) := hI1.plain (x' := { x with wait := x.wait ++ [false] }) hx rfl hok.ri hok.he (fun _ => rfl) (fun _ _ => rfl) rfl rfl rfl rfl hI1.wrong rfl (Int.le_refl 0)
  have hBA : Bd (cc2 + 1) (Y1.put k0 { x with wait := x.wait ++ [false] }) := (z2.bd.mono (show cc2 ≤ cc2 + 1 by omega)).put (X' := Y1.put k0 { x with wait := x.wait ++ [false] }) (x' := { x with wait := x.wait ++ [false] }) hx rfl (by show ((x.wait ++ [false]).length : Int) ≤ _; rw [List.length_append]; have := z2.bd.wait k0 x hx; simp; omega) (by have := z2.bd.bag; show (Y1.bag.length : Int) ≤ _; omega) (by have := z2.bd.begun; show 0 ≤ Y1.begun ∧ Y1.begun ≤ _; omega) (by have := z2.bd.ended; show 0 ≤ Y1.ended ∧ Y1.ended ≤ _; omega) (by have := z2.bd.turn; show 0 ≤ Y1.turn ∧ Y1.turn ≤ _; omega)
  have hz2 : Zk k0 ((Y1.put k0 { x with wait := x.wait ++ [false] }).settle k0) := Zk.settleN 1000 _ _ hz1 hwA hBA (by omega)
  rw [← hstep] at z3 p3 l3 hz2
  have hb2 := hgo z3 (by omega) (by omega) (by omega)
  obtain ⟨c4, S4, z4, l4⟩ := Zk.rest L3 (by omega) f0 0 _ c3 S3 _ z3 hz2 (by omega)
  have hC2 := z4.calm hb2
  refine ⟨by rw [hY, hY1]; exact hC1, by rw [hY, hY1]; exact hC2, ?_⟩
  rw [hY, hY1]
  have e1 := z2.wx.en
  have e2 := z4.wx.en
  have d1 := z2.all_done hC1
  have d2 := z4.all_done hC2
  rw [l4, l3] at e2
  omega
end
end Go.Proofs.Ytmfbmfppjdkeeaa

/- What EpochRests reads of its arguments. -/
namespace Go.Proofs.Ytmfbmfppjdkeeaa
open Go.ChangeShapes Go.WideShapes Go.ChangeAt Go.RowKit Go Go.Fw
set_option linter.unusedVariables false
set_option linter.unusedSimpArgs false
set_option maxRecDepth 20000

theorem trodAll_four {H : Type} {enc : TypeId × Value → H} {P : Program} {w : World} {base : Nat} {spare : Nat → Bool} {held : Bool} {t0 t1 t2 t3 : TypeId} {args : Array Value} {ds : List (DataW H)} {ps : List MemPlace} (h : DataW.TrodAll enc P w base spare held [t0, t1, t2, t3] args.toList ds ps) :
    ∃ v0 v1 v2 v3 d0 d1 d2 d3 p0 p1 p2 p3, args = #[v0, v1, v2, v3] ∧ ds = [d0, d1, d2, d3] ∧ ps = p0 ++ (p1 ++ (p2 ++ p3)) ∧ DataW.Trod enc P w base spare held t0 v0 d0 p0 ∧ DataW.Trod enc P w base spare held t1 v1 d1 p1 ∧ DataW.Trod enc P w base spare held t2 v2 d2 p2 ∧ DataW.Trod enc P w base spare held t3 v3 d3 p3 := by
  obtain ⟨v0, vs0, d0, ds0, p0, q0, hargs, rfl, rfl, h0, h⟩ := trodAll_cons h
  obtain ⟨v1, vs1, d1, ds1, p1, q1, rfl, rfl, rfl, h1, h⟩ := trodAll_cons h
  obtain ⟨v2, vs2, d2, ds2, p2, q2, rfl, rfl, rfl, h2, h⟩ := trodAll_cons h
  obtain ⟨v3, vs3, d3, ds3, p3, q3, rfl, rfl, rfl, h3, h⟩ := trodAll_cons h
  obtain ⟨rfl, rfl, rfl⟩ := trodAll_nil h
  exact ⟨v0, v1, v2, v3, d0, d1, d2, d3, p0, p1, p2, p3, by cases args; simp_all, rfl, by simp, h0, h1, h2, h3⟩
theorem ints_of2 {H : Type} {enc : TypeId × Value → H} {W : World} {base b : Nat} {spare : Nat → Bool} {held : Bool} {v : Value} {d : DataW H} {ps : List MemPlace} (hval : Value.okWide Try.prog W .any b 26 v)
    (hd : DataW.Trod enc Try.prog W base spare held 26 v d ps) (hw : Wt Try.prog 26 d) : ∃ (s : Sl) (L : List Int), v = .slice s.a s.len s.cap ∧ (Rd W s 1 (lin L) ∧ ∀ v ∈ L, -9223372036854775808 ≤ v ∧ v ≤ 9223372036854775807) ∧ L.length ≤ 140737488351232 := by
  obtain ⟨a0, len, cap, rfl⟩ := okWide_slice u26 hval
  obtain ⟨fuel0, hf⟩ := hd
  obtain ⟨s, els, hcs, hl, hr, hlen, hel⟩ := open_rd u26 (sz := 1) (by kernel_rfl) (by decide) hf hw
  have hb : Try.prog.bytesOf 3 = 8 := by kernel_rfl
  rw [hb] at hlen
  have : ∃ L : List Int, els.flatten = lin L ∧ L.length = els.length ∧ ∀ v ∈ L, -9223372036854775808 ≤ v ∧ v ≤ 9223372036854775807 := by
    clear hl hr hcs hlen
    induction els with
    | nil => exact ⟨[], rfl, rfl, fun m hm => by cases hm⟩
    | cons c r ih =>
      obtain ⟨L, e, el, hL⟩ := ih fun c hc => hel c (List.mem_cons_of_mem _ hc)
      obtain ⟨hc1, n, y, hy, hwy⟩ := hel c (List.mem_cons_self ..)
      obtain ⟨x, hx, _, wx⟩ := DataW.trod_int u3 hy
      subst hx
      refine ⟨x :: L, by rw [List.flatten_cons, e]; rfl, by simp [el], fun z hz => ?_⟩
      rcases List.mem_cons.1 hz with rfl | hz
      · exact wf_i64 wx
      · exact hL z hz
  obtain ⟨L, e, el, hL⟩ := this
  rw [e] at hr
  simp [Value.cells] at hcs
  obtain ⟨rfl, rfl, rfl⟩ := hcs
  have hrb : reachBytes = 140737488351232 := rfl
  exact ⟨s, L, rfl, ⟨hr, hL⟩, by omega⟩
theorem law8 {W : World} {s1 s2 s3 : Sl} {L1 L3 : List Int} {L2 : List Stp} (h1 : Rd W s1 1 (lin L1) ∧ ∀ v ∈ L1, -9223372036854775808 ≤ v ∧ v ≤ 9223372036854775807) (h2 : Rd W s2 5 (spvs L2) ∧ ∀ s ∈ L2, s.ok) (h3 : (Rd W s3 1 (lin L3) ∧ ∀ v ∈ L3, -9223372036854775808 ≤ v ∧ v ≤ 9223372036854775807) ∧ L3.length ≤ 140737488351232) {p0 : Int} (r0 : Lit.wf (.int .i64 p0) = true) :
    CallK Try.prog .bool 8 #[.int .i64 p0, .slice s1.a s1.len s1.cap, .slice s2.a s2.len s2.cap, .slice s3.a s3.len s3.cap] W fun (r : Bool) w' => Upd W w' nobody ∧ r = true := by
  obtain ⟨f0, hf0⟩ : ∃ f0 : Nat, f0 = 200000 := ⟨_, rfl⟩
  exact calls8 h1.1 h1.2 h2.1 h2.2 h3.1.1 h3.1.2 (wf_i64 r0) hf0 (fun X hS => rests_all hS L2 L3 hf0) (by have := h3.2; omega)
end Go.Proofs.Ytmfbmfppjdkeeaa
