/- Whole pieces of code, and whole functions. -/
import Derived.Test.YtodgnpmljdopiaaFwB
namespace Go.Fw
open Go
/-! ### code -/
/-- The slots that live on, with their kinds. -/
abbrev Live := List (Nat × Kd)
@[reducible] def LT : Live → Type
  | [] => Unit
  | (_, k) :: r => k.T × LT r
def injS : (l : Live) → LT l → List (Option Value) → List (Option Value)
  | [], _, s => s
  | (t, k) :: r, x, s => injS r x.2 (sput s t (k.val x.1))
def inj (f : Nat → Bool) (l : Live) (x : LT l) (fr : Fr) : Fr := injS l x (keepU f 0 fr)
def sel : (l : Live) → Fr → (LT l → Prop) → Prop
  | [], _, f => f ()
  | (t, k) :: r, fr, f => match sget fr t with
    | none => False
    | some v => k.un v fun x => sel r fr fun y => f (x, y)

def JoinX {α : Type} (K : α → World → Prop) (F : (α → World → Prop) → Prop) : Prop := F K
def LoopX {α : Type} (body : α → World → (α → World → Prop) → Prop) (s : α) (w : World) : Prop :=
  ∃ (I : α → World → Prop) (μ : α → World → Nat), I s w ∧ ∀ s w, I s w → body s w fun s' w' => I s' w' ∧ μ s' w' < μ s w

theorem injS_len : ∀ (l : Live) (x : LT l) (s : List (Option Value)), (injS l x s).length = s.length
  | [], _, _ => rfl
  | (t, k) :: r, x, s => by rw [injS, injS_len r]; simp [sput_eq]

def Holds : (l : Live) → Fr → LT l → Prop
  | [], _, _ => True
  | (t, k) :: r, fr, x => sget fr t = some (k.val x.1) ∧ Holds r fr x.2
theorem sel_holds : ∀ (l : Live) (fr : Fr) (f : LT l → Prop), sel l fr f → ∃ x, Holds l fr x ∧ f x
  | [], _, f, h => ⟨(), trivial, h⟩
  | (t, k) :: r, fr, f, h => by
    unfold sel at h
    split at h
    · exact h.elim
    · rename_i v hv
      obtain ⟨y, hy, h⟩ := (Kd.un_uns k).1 _ _ h
      obtain ⟨z, hz, h⟩ := sel_holds r fr _ h
      exact ⟨(y, z), ⟨by rw [hy]; exact hv, hz⟩, h⟩
theorem injS_slot {D : List Deferred} {N : Nat} : ∀ (l : Live) (x : LT l) (s : List (Option Value)) (fr : Fr) (a : Act), Agree D N fr a → s.length = a.tmps.size → Holds l fr x →
    (∀ t v, sget s t = some v → a.tmps[t]? = some v) → ∀ t v, sget (injS l x s) t = some v → a.tmps[t]? = some v
  | [], _, _, _, _, _, _, _, h => h
  | (t, k) :: r, x, s, fr, a, ha, hs, hx, h => by
    refine injS_slot r x.2 (sput s t (k.val x.1)) fr a ha (by simpa [sput_eq] using hs) hx.2 ?_
    intro u p hp
    rw [sput_eq, sget_eq, List.getElem?_set] at hp
    by_cases htu : t = u
    · subst htu
      by_cases hl : t < s.length
      · simp [hl] at hp; subst hp; exact ha.slot _ _ hx.1
      · simp [hl] at hp
    · simp only [htu, if_false] at hp
      exact h u p (by rw [sget_eq]; exact hp)
theorem inj_agree {D : List Deferred} {N : Nat} {f : Nat → Bool} {l : Live} {x : LT l} {fr fr0 : Fr} {a0 a : Act} (ha0 : Agree D N fr0 a0) (ha : Agree D N fr a) (hs : Same f a0 a) (hx : Holds l fr x) :
    Agree D N (inj f l x fr0) a := by
  have hl : (keepU f 0 fr0).length = N := by rw [keepU_len, ha0.len]
  have hN : a.tmps.size = N := by rw [← ha.size, ha.len]
  refine ⟨by simp [inj, injS_len, hl], by simp [inj, injS_len, hl, hN], ha.defers, injS_slot l x _ fr a ha (by rw [hl, hN]) hx fun t v h => ?_⟩
  obtain ⟨h1, h2⟩ := keepU_get f _ _ _ _ h
  rw [hs t (by simpa using h1)]
  exact ha0.slot _ _ h2

/-- How many numbers a piece of code takes: one for each 'seq' and 'loop'. -/
def sz : Code → Nat
  | .seq a b => sz a + sz b + 1
  | .cond _ a b => sz a + sz b
  | .block _ b => sz b
  | .loop b => sz b + 1
  | .scope b => sz b
  | _ => 0

def codeX (P : Program) (κ : List Kd) (ann : List (Nat × Live)) : Code → Nat → Fr → World → KF → (Nat → KF) → KF → Prop
  | .skip, _, fr, w, Kn, _, _ => Kn fr w
  | .region _ ops draw, _, fr, w, Kn, _, _ => match draw with
    | true => match P.follows .mixedOrders, drawOk ops.toList (befGo ops.toList []) (effs κ ops.toList 0) with
      | true, true => drawX P κ ops.toList (befGo ops.toList []) (effs κ ops.toList 0) ops.toList 0 0 none fr [] w.drew [] Kn
      | _, _ => False
    | false => opsX P κ ops ops.toList none fr w Kn
  | .seq a b, n, fr, w, Kn, Ke, Kr => match look ann n with
    | none => codeX P κ ann a (n + 1) fr w (fun fr w => codeX P κ ann b (n + 1 + sz a) fr w Kn Ke Kr) Ke Kr
    | some l => JoinX (fun (x : LT l) w => codeX P κ ann b (n + 1 + sz a) (inj (asg a) l x fr) w Kn Ke Kr)
        fun k => codeX P κ ann a (n + 1) fr w (fun fr w => sel l fr fun x => k x w) Ke Kr
  | .cond c a b, n, fr, w, Kn, Ke, Kr => match Fr.known fr c, (Fr.eval fr) c with
    | true, .bool t => SplitB t (codeX P κ ann a n fr w Kn Ke Kr) (codeX P κ ann b (n + sz a) fr w Kn Ke Kr)
    | _, _ => False
  | .block id b, n, fr, w, Kn, Ke, Kr => codeX P κ ann b n fr w Kn (fun i fr w => match Nat.beq i id with | true => Kn fr w | false => Ke i fr w) Kr
  | .exit id, _, fr, w, _, Ke, _ => Ke id fr w
  | .ret, _, fr, w, _, _, Kr => Kr fr w
  | .loop b, n, fr, w, _, Ke, Kr => match look ann n with
    | none => False
    | some l => sel l fr fun x => LoopX (fun (x : LT l) w k => codeX P κ ann b (n + 1) (inj (asg b) l x fr) w (fun fr w => sel l fr fun x => k x w) Ke Kr) x w
  | .label _, _, fr, w, Kn, _, _ => Kn fr w
  | _, _, _, _, _, _, _ => False

theorem wp_loop_ranked {P : Program} {c : Code} {Q : Exit → Act → World → Prop} (I : Nat → Act → World → Prop)
    (round : ∀ n a w, I n a w → c.wp P (Exit.then (fun a' w' => ∃ m, m < n ∧ I m a' w') Q) a w) (n : Nat) (a : Act) (w : World) (h₀ : I n a w) : (Code.loop c).wp P Q a w := by
  intro b k cs
  have key : ∀ n a w, I n a w → ∃ e a' w', Q e a' w' ∧ Arrives P (lone (b.at a (.code c :: .inLoop c :: k)) cs w) b k cs e a' w' := by
    intro n
    induction n using Nat.strongRecOn with
    | _ n ih =>
      intro a w hI
      obtain ⟨e, a₁, w₁, hq, harr⟩ := round n a w hI b (.inLoop c :: k) cs
      cases e with
      | normal =>
        obtain ⟨m, hm, hI₁⟩ := hq
        obtain ⟨e₂, a₂, w₂, hq₂, harr₂⟩ := ih m hm a₁ w₁ hI₁
        exact ⟨e₂, a₂, w₂, hq₂, .of_steps (Steps.trans harr (.one step_inLoop)) harr₂⟩
      | exit id => exact ⟨_, a₁, w₁, hq, .pass (x := .inLoop c) rfl (fun _ _ => .inl (by simp)) harr⟩
      | goto l => exact ⟨_, a₁, w₁, hq, .pass (x := .inLoop c) rfl (fun _ _ => .inl (by simp)) harr⟩
      | ret => exact ⟨_, a₁, w₁, hq, .pass (x := .inLoop c) rfl (fun _ _ => .inl (by simp)) harr⟩
      | panic ch => exact ⟨_, a₁, w₁, hq, .pass (x := .inLoop c) rfl (fun _ _ => .inl (by simp)) harr⟩
      | outgrown => exact ⟨_, a₁, w₁, hq, .pass (x := .inLoop c) rfl (fun _ _ => .inl (by simp)) harr⟩
  obtain ⟨e, a', w', hq, harr⟩ := key n a w h₀
  exact ⟨e, a', w', hq, .of_steps (.one step_loop) harr⟩

theorem asg_seq1 {a b : Code} {t : Nat} (h : asg (.seq a b) t = false) : asg a t = false ∧ asg b t = false := by
  simp only [asg] at h; split at h
  · cases h
  · rename_i h1; exact ⟨by simpa using h1, h⟩
theorem asg_cond1 {c : Operand} {a b : Code} {t : Nat} (h : asg (.cond c a b) t = false) : asg a t = false ∧ asg b t = false := by
  simp only [asg] at h; split at h
  · cases h
  · rename_i h1; exact ⟨by simpa using h1, h⟩

theorem codeX_sound {D : List Deferred} {N : Nat} {P : Program} {κ : List Kd} {ann : List (Nat × Live)} : ∀ (c : Code) (n : Nat) (fr : Fr) (a : Act) (w : World) (Kn : KF) (Ke : Nat → KF) (Kr : KF),
    Agree D N fr a → codeX P κ ann c n fr w Kn Ke Kr → c.wp P (postOf D N (asg c) a Kn Ke Kr) a w := by
  intro c
  induction c with
  | skip => intro n fr a w Kn Ke Kr ha h; exact wp_skip ⟨fr, ha, Same.refl _ _, h⟩
  | label l => intro n fr a w Kn Ke Kr ha h; exact wp_label ⟨fr, ha, Same.refl _ _, h⟩
  | exit id => intro n fr a w Kn Ke Kr ha h; exact wp_exit ⟨fr, ha, Same.refl _ _, h⟩
  | ret => intro n fr a w Kn Ke Kr ha h; exact wp_ret ⟨fr, ha, Same.refl _ _, h⟩
  | region id ops draw =>
    intro n fr a w Kn Ke Kr ha h
    simp only [codeX] at h
    cases draw with
    | true =>
      simp only at h
      split at h
      · rename_i hm hok
        exact draw_sound hm hok ha h
      · exact h.elim
    | false =>
      have := opsX_sound (P := P) (κ := κ) (ops := ops) ops.toList 0 none fr a w Kn (asgOps ops.toList) (by simp) (fun o ho d hd => asgOps_mem ho hd) ha h
      exact wp_of_opsWp (by rw [List.range_eq_range', ← Array.length_toList]; exact this)
  | seq x y ihx ihy =>
    intro n fr a w Kn Ke Kr ha h
    simp only [codeX] at h
    refine wp_seq ?_
    split at h
    · refine wp_mono (ihx _ _ _ _ _ _ _ ha h) ?_
      intro e a' w' hq
      cases e <;> simp only [postOf, Exit.then] at hq ⊢ <;> first
        | exact hq
        | (obtain ⟨fr', ha', hs, hk⟩ := hq; exact ⟨fr', ha', hs.weaken fun t ht => (asg_seq1 ht).1, hk⟩)
        | skip
      obtain ⟨fr', ha', hs, hk⟩ := hq
      exact wp_mono (ihy _ _ _ _ _ _ _ ha' hk) fun e a w hh => postOf_weaken (fun t ht => (asg_seq1 ht).2) (hs.weaken fun t ht => (asg_seq1 ht).1) hh
    · rename_i l hl
      refine wp_mono (ihx _ _ _ _ _ _ _ ha h) ?_
      intro e a' w' hq
      cases e <;> simp only [postOf, Exit.then] at hq ⊢ <;> first
        | exact hq
        | (obtain ⟨fr', ha', hs, hk⟩ := hq; exact ⟨fr', ha', hs.weaken fun t ht => (asg_seq1 ht).1, hk⟩)
        | skip
      obtain ⟨fr', ha', hs, hk⟩ := hq
      obtain ⟨x, hx, hk⟩ := sel_holds _ _ _ hk
      exact wp_mono (ihy _ _ _ _ _ _ _ (inj_agree ha ha' hs hx) hk) fun e a w hh => postOf_weaken (fun t ht => (asg_seq1 ht).2) (hs.weaken fun t ht => (asg_seq1 ht).1) hh
  | cond c x y ihx ihy =>
    intro n fr a w Kn Ke Kr ha h
    simp only [codeX] at h
    split at h
    · rename_i t hk hc
      refine wp_cond_split (t := t) (by rw [ha.eval hk]; exact hc) ?_ ?_
      · rintro rfl; exact wp_mono (ihx _ _ _ _ _ _ _ ha h) fun e a w hh => postOf_weaken (fun t ht => (asg_cond1 ht).1) (Same.refl _ _) hh
      · rintro rfl; exact wp_mono (ihy _ _ _ _ _ _ _ ha h) fun e a w hh => postOf_weaken (fun t ht => (asg_cond1 ht).2) (Same.refl _ _) hh
    · exact h.elim
  | block id b ih =>
    intro n fr a w Kn Ke Kr ha h
    simp only [codeX] at h
    refine wp_block (wp_mono (ih _ _ _ _ _ _ _ ha h) ?_)
    intro e a' w' hq
    cases e <;> simp only [postOf, Exit.inBlock] at hq ⊢ <;> first | exact hq | skip
    rename_i i
    obtain ⟨fr', ha', hs, hk⟩ := hq
    split at hk
    · rename_i hi
      rw [if_pos (Nat.eq_of_beq_eq_true hi)]; exact ⟨fr', ha', hs, hk⟩
    · rename_i hi
      rw [if_neg (fun e => by subst e; simp at hi)]; exact ⟨fr', ha', hs, hk⟩
  | loop b ih =>
    intro n fr a w Kn Ke Kr ha h
    simp only [codeX] at h
    split at h
    · exact h.elim
    · rename_i l hl
      obtain ⟨x, hx, h⟩ := sel_holds _ _ _ h
      obtain ⟨I, μ, hI, hround⟩ := h
      refine wp_loop_ranked (fun m a₁ w => ∃ x, Agree D N (inj (asg b) l x fr) a₁ ∧ Same (asg b) a a₁ ∧ I x w ∧ μ x w = m) ?_ (μ x w) a w ⟨x, inj_agree ha ha (Same.refl _ _) hx, Same.refl _ _, hI, rfl⟩
      rintro m a₁ w₁ ⟨x₁, ha₁, hs₁, hI₁, rfl⟩
      refine wp_mono (ih _ _ _ _ _ _ _ ha₁ (hround _ _ hI₁)) ?_
      intro e a' w' hq
      cases e <;> simp only [postOf, Exit.then] at hq ⊢ <;> first
        | exact hq
        | (obtain ⟨fr', ha', hs, hk⟩ := hq; exact ⟨fr', ha', hs₁.trans hs, hk⟩)
        | skip
      obtain ⟨fr', ha', hs, hk⟩ := hq
      obtain ⟨y, hy, hI', hm⟩ := sel_holds _ _ _ hk
      exact ⟨_, hm, y, inj_agree ha ha' (hs₁.trans hs) hy, hs₁.trans hs, hI', rfl⟩
  | scope b ih => intro n fr a w Kn Ke Kr ha h; exact h.elim
  | goto l => intro n fr a w Kn Ke Kr ha h; exact h.elim
  | rangeFunc f ps x y _ _ => intro n fr a w Kn Ke Kr ha h; exact h.elim
  | refuse s => intro n fr a w Kn Ke Kr ha h; exact h.elim

/-! ### a whole function -/
/-- What the results' slots hold, as a value of the kind. -/
def resX (kd : Kd) (rs : List ResultVar) (fr : Fr) (f : kd.T → Prop) : Prop :=
  match rs with
  | [.tmp t] => (match sget fr t with | some v => kd.un v f | none => False)
  | [.tmp t, .tmp u] => (match sget fr t, sget fr u with | some v, some x => kd.un (.tuple ⟨[v, x]⟩) f | _, _ => False)
  | [.tmp t, .tmp u, .tmp q] => (match sget fr t, sget fr u, sget fr q with | some v, some x, some y => kd.un (.tuple ⟨[v, x, y]⟩) f | _, _, _ => False)
  | [] => kd.un (.tuple ⟨[]⟩) f
  | _ => False

theorem resX_sound {D : List Deferred} {N : Nat} {P : Program} {fn : Func} {kd : Kd} {fr : Fr} {a : Act} {w : World} {f : kd.T → Prop} (ha : Agree D N fr a) (h : resX kd fn.results.toList fr f) :
    ∃ x, (results fn a.tmps).run P w = .ok (kd.val x) w ∧ f x := by
  obtain ⟨rs, hrs⟩ : ∃ rs, fn.results = ⟨rs⟩ := ⟨_, rfl⟩
  rw [hrs] at h
  unfold resX at h
  split at h
  · rename_i t e
    simp at e; subst e
    split at h
    · rename_i v hv
      obtain ⟨x, hx, hf⟩ := (Kd.un_uns kd).1 _ _ h
      refine ⟨x, ?_, hf⟩
      rw [hx]; have h1 := results_tmp (t := t) hrs a.tmps P w; rw [h1, Array.getD_eq_getD_getElem?, ha.slot _ _ hv]; rfl
    · exact h.elim
  · rename_i t u e
    simp at e; subst e
    split at h
    · rename_i v y hv hy
      obtain ⟨x, hx, hf⟩ := (Kd.un_uns kd).1 _ _ h
      refine ⟨x, ?_, hf⟩
      rw [hx]; have h1 := results_tmp2 (t := t) (u := u) hrs a.tmps P w; rw [h1, Array.getD_eq_getD_getElem?, Array.getD_eq_getD_getElem?, ha.slot _ _ hv, ha.slot _ _ hy]; rfl
    · exact h.elim
  · rename_i t u q e
    simp at e; subst e
    split at h
    · rename_i v y z hv hy hz
      obtain ⟨x, hx, hf⟩ := (Kd.un_uns kd).1 _ _ h
      refine ⟨x, ?_, hf⟩
      rw [hx]; have h1 := results_tmp3 (t := t) (u := u) (v := q) hrs a.tmps P w; rw [h1, Array.getD_eq_getD_getElem?, Array.getD_eq_getD_getElem?, Array.getD_eq_getD_getElem?, ha.slot _ _ hv, ha.slot _ _ hy, ha.slot _ _ hz]; rfl
    · exact h.elim
  · rename_i e
    simp at e; subst e
    obtain ⟨x, hx, hf⟩ := (Kd.un_uns kd).1 _ _ h
    refine ⟨x, ?_, hf⟩
    rw [hx]; exact results_none hrs a.tmps P w
  · exact h.elim

def start : List Value → Nat → Fr
  | [], n => List.replicate n none
  | _ :: _, 0 => []
  | v :: r, n + 1 => some v :: start r n

theorem start_len : ∀ (l : List Value) (n : Nat), (start l n).length = n
  | [], n => by simp [start]
  | _ :: _, 0 => rfl
  | _ :: r, n + 1 => by simp [start, start_len r n]
theorem start_get : ∀ (l : List Value) (n t : Nat) (v : Value), sget (start l n) t = some v → l[t]? = some v
  | [], n, t, v, h => by rw [start, sget_eq, List.getElem?_replicate] at h; split at h <;> simp at h
  | _ :: _, 0, t, v, h => by simp [start, sget] at h
  | x :: r, n + 1, 0, v, h => by simpa [start, sget] using h
  | x :: r, n + 1, t + 1, v, h => by simpa using start_get r n t v (by simpa [start, sget] using h)

/-- A function's proposition. -/
def bodyOf (fn : Func) : Code := match fn.body with | some c => c | none => .skip
def bodyX (P : Program) (κ : List Kd) (ann : List (Nat × Live)) (kd : Kd) (fn : Func) (args : List Value) (w : World) (K : kd.T → World → Prop) : Prop :=
  codeX P κ ann (bodyOf fn) 0 (start args fn.ntmps) w (fun fr w => resX kd fn.results.toList fr fun x => K x w) (fun _ _ _ => False) (fun fr w => resX kd fn.results.toList fr fun x => K x w)

theorem bodyX_sound {P : Program} {κ : List Kd} {ann : List (Nat × Live)} {kd : Kd} {f : FuncId} {fn : Func} {args : List Value} {w : World} {K : kd.T → World → Prop}
    (hf : P.funcs[f]? = some fn) (hb : fn.body.isSome = true) (hn : Nat.ble args.length fn.ntmps = true) (h : bodyX P κ ann kd fn args w K) : CallK P kd f ⟨args⟩ w K := by
  obtain ⟨c, hb⟩ := Option.isSome_iff_exists.1 hb
  have hbo : bodyOf fn = c := by simp [bodyOf, hb]
  unfold bodyX at h
  rw [hbo] at h
  refine calls_of_wp hf hb (wp_mono (codeX_sound (D := []) (N := fn.ntmps) _ _ _ _ _ _ _ _ ?_ h) ?_)
  · have hn' : args.length ≤ fn.ntmps := Nat.le_of_ble_eq_true hn
    refine ⟨start_len _ _, by rw [start_len]; simp; omega, rfl, fun t v ht => ?_⟩
    have := start_get _ _ _ _ ht
    have hl : t < args.length := by
      rcases Nat.lt_or_ge t args.length with h' | h'
      · exact h'
      · simp [List.getElem?_eq_none h'] at this
    rw [Array.getElem?_append_left (by simpa using hl)]
    simpa using this
  · intro e a' w' hq
    cases e <;> simp only [postOf] at hq
    · obtain ⟨fr, ha, -, hr⟩ := hq
      obtain ⟨x, hx, hk⟩ := resX_sound (P := P) (fn := fn) (w := w') ha hr
      exact ⟨ha.defers, _, hx, x, rfl, hk⟩
    · obtain ⟨fr, ha, -, hr⟩ := hq; exact hr.elim
    · obtain ⟨fr, ha, -, hr⟩ := hq
      obtain ⟨x, hx, hk⟩ := resX_sound (P := P) (fn := fn) (w := w') ha hr
      exact ⟨ha.defers, _, hx, x, rfl, hk⟩
end Go.Fw
