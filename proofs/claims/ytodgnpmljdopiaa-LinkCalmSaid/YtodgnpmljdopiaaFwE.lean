/- Whole pieces of code, and whole functions: drawn regions may hold calls, results may be variables of their own. -/
import Derived.Test.YtodgnpmljdopiaaFwC
import Derived.Test.YtodgnpmljdopiaaFwD
namespace Go.Fw
open Go
def codeY (P : Program) (κ : List Kd) (ann : List (Nat × Live)) : Code → Nat → Fr → World → KF → (Nat → KF) → KF → Prop
  | .skip, _, fr, w, Kn, _, _ => Kn fr w
  | .region _ ops draw, _, fr, w, Kn, _, _ => match draw with
    | true => match P.follows .mixedOrders, drawOkY κ ops.toList (befGo ops.toList []) (effsY κ ops.toList 0) with
      | true, true => drawY P κ ops.toList (befGo ops.toList []) (effsY κ ops.toList 0) (ordGo κ ops.toList (befGo ops.toList []) (effsY κ ops.toList 0) (effsY κ ops.toList 0) 0) 0 none fr w.drew [] Kn
      | _, _ => False
    | false => opsX P κ ops ops.toList none fr w Kn
  | .seq a b, n, fr, w, Kn, Ke, Kr => match look ann n with
    | none => codeY P κ ann a (n + 1) fr w (fun fr w => codeY P κ ann b (n + 1 + sz a) fr w Kn Ke Kr) Ke Kr
    | some l => JoinX (fun (x : LT l) w => codeY P κ ann b (n + 1 + sz a) (inj (asg a) l x fr) w Kn Ke Kr)
        fun k => codeY P κ ann a (n + 1) fr w (fun fr w => sel l fr fun x => k x w) Ke Kr
  | .cond c a b, n, fr, w, Kn, Ke, Kr => match Fr.known fr c, (Fr.eval fr) c with
    | true, .bool t => SplitB t (codeY P κ ann a n fr w Kn Ke Kr) (codeY P κ ann b (n + sz a) fr w Kn Ke Kr)
    | _, _ => False
  | .block id b, n, fr, w, Kn, Ke, Kr => codeY P κ ann b n fr w Kn (fun i fr w => match Nat.beq i id with | true => Kn fr w | false => Ke i fr w) Kr
  | .exit id, _, fr, w, _, Ke, _ => Ke id fr w
  | .ret, _, fr, w, _, _, Kr => Kr fr w
  | .loop b, n, fr, w, _, Ke, Kr => match look ann n with
    | none => False
    | some l => sel l fr fun x => LoopX (fun (x : LT l) w k => codeY P κ ann b (n + 1) (inj (asg b) l x fr) w (fun fr w => sel l fr fun x => k x w) Ke Kr) x w
  | .label _, _, fr, w, Kn, _, _ => Kn fr w
  | _, _, _, _, _, _, _ => False

theorem codeY_sound {D : List Deferred} {N : Nat} {P : Program} {κ : List Kd} {ann : List (Nat × Live)} : ∀ (c : Code) (n : Nat) (fr : Fr) (a : Act) (w : World) (Kn : KF) (Ke : Nat → KF) (Kr : KF),
    Agree D N fr a → codeY P κ ann c n fr w Kn Ke Kr → c.wp P (postOf D N (asg c) a Kn Ke Kr) a w := by
  intro c
  induction c with
  | skip => intro n fr a w Kn Ke Kr ha h; exact wp_skip ⟨fr, ha, Same.refl _ _, h⟩
  | label l => intro n fr a w Kn Ke Kr ha h; exact wp_label ⟨fr, ha, Same.refl _ _, h⟩
  | exit id => intro n fr a w Kn Ke Kr ha h; exact wp_exit ⟨fr, ha, Same.refl _ _, h⟩
  | ret => intro n fr a w Kn Ke Kr ha h; exact wp_ret ⟨fr, ha, Same.refl _ _, h⟩
  | region id ops draw =>
    intro n fr a w Kn Ke Kr ha h
    simp only [codeY] at h
    cases draw with
    | true =>
      simp only at h
      split at h
      · rename_i hm hok
        exact drawY_sound hm hok ha h
      · exact h.elim
    | false =>
      have := opsX_sound (P := P) (κ := κ) (ops := ops) ops.toList 0 none fr a w Kn (asgOps ops.toList) (by simp) (fun o ho d hd => asgOps_mem ho hd) ha h
      exact wp_of_opsWp (by rw [List.range_eq_range', ← Array.length_toList]; exact this)
  | seq x y ihx ihy =>
    intro n fr a w Kn Ke Kr ha h
    simp only [codeY] at h
    refine wp_seq ?_
    split at h
    · refine wp_mono (ihx _ _ _ _ _ _ _ ha h) ?_
      intro e a' w' hq
      cases e <;> simp only [postOf, Exit.then] at hq ⊢ <;> first
        | exact hq
        | (obtain ⟨fr', ha', hs, hk⟩ := hq; exact ⟨fr', ha', hs.weaken fun t ht => (asg_seq1 ht).1, hk⟩)
        | skip
      obtain ⟨fr', ha', hs, hk⟩ := hq
      exact wp_mono (ihy _ _ _ _ _ _ _ ha' hk) fun e a w hh => postOf_weaken (fun t ht => (asg_seq1 ht).2) (hs.weaken fun t ht => (asg_seq1 ht).1) hh
    · rename_i l hl
      refine wp_mono (ihx _ _ _ _ _ _ _ ha h) ?_
      intro e a' w' hq
      cases e <;> simp only [postOf, Exit.then] at hq ⊢ <;> first
        | exact hq
        | (obtain ⟨fr', ha', hs, hk⟩ := hq; exact ⟨fr', ha', hs.weaken fun t ht => (asg_seq1 ht).1, hk⟩)
        | skip
      obtain ⟨fr', ha', hs, hk⟩ := hq
      obtain ⟨x, hx, hk⟩ := sel_holds _ _ _ hk
      exact wp_mono (ihy _ _ _ _ _ _ _ (inj_agree ha ha' hs hx) hk) fun e a w hh => postOf_weaken (fun t ht => (asg_seq1 ht).2) (hs.weaken fun t ht => (asg_seq1 ht).1) hh
  | cond c x y ihx ihy =>
    intro n fr a w Kn Ke Kr ha h
    simp only [codeY] at h
    split at h
    · rename_i t hk hc
      refine wp_cond_split (t := t) (by rw [ha.eval hk]; exact hc) ?_ ?_
      · rintro rfl; exact wp_mono (ihx _ _ _ _ _ _ _ ha h) fun e a w hh => postOf_weaken (fun t ht => (asg_cond1 ht).1) (Same.refl _ _) hh
      · rintro rfl; exact wp_mono (ihy _ _ _ _ _ _ _ ha h) fun e a w hh => postOf_weaken (fun t ht => (asg_cond1 ht).2) (Same.refl _ _) hh
    · exact h.elim
  | block id b ih =>
    intro n fr a w Kn Ke Kr ha h
    simp only [codeY] at h
    refine wp_block (wp_mono (ih _ _ _ _ _ _ _ ha h) ?_)
    intro e a' w' hq
    cases e <;> simp only [postOf, Exit.inBlock] at hq ⊢ <;> first | exact hq | skip
    rename_i i
    obtain ⟨fr', ha', hs, hk⟩ := hq
    split at hk
    · rename_i hi
      rw [if_pos (Nat.eq_of_beq_eq_true hi)]; exact ⟨fr', ha', hs, hk⟩
    · rename_i hi
      rw [if_neg (fun e => by subst e; simp at hi)]; exact ⟨fr', ha', hs, hk⟩
  | loop b ih =>
    intro n fr a w Kn Ke Kr ha h
    simp only [codeY] at h
    split at h
    · exact h.elim
    · rename_i l hl
      obtain ⟨x, hx, h⟩ := sel_holds _ _ _ h
      obtain ⟨I, μ, hI, hround⟩ := h
      refine wp_loop_ranked (fun m a₁ w => ∃ x, Agree D N (inj (asg b) l x fr) a₁ ∧ Same (asg b) a a₁ ∧ I x w ∧ μ x w = m) ?_ (μ x w) a w ⟨x, inj_agree ha ha (Same.refl _ _) hx, Same.refl _ _, hI, rfl⟩
      rintro m a₁ w₁ ⟨x₁, ha₁, hs₁, hI₁, rfl⟩
      refine wp_mono (ih _ _ _ _ _ _ _ ha₁ (hround _ _ hI₁)) ?_
      intro e a' w' hq
      cases e <;> simp only [postOf, Exit.then] at hq ⊢ <;> first
        | exact hq
        | (obtain ⟨fr', ha', hs, hk⟩ := hq; exact ⟨fr', ha', hs₁.trans hs, hk⟩)
        | skip
      obtain ⟨fr', ha', hs, hk⟩ := hq
      obtain ⟨y, hy, hI', hm⟩ := sel_holds _ _ _ hk
      exact ⟨_, hm, y, inj_agree ha ha' (hs₁.trans hs) hy, hs₁.trans hs, hI', rfl⟩
  | scope b ih => intro n fr a w Kn Ke Kr ha h; exact h.elim
  | goto l => intro n fr a w Kn Ke Kr ha h; exact h.elim
  | rangeFunc f ps x y _ _ => intro n fr a w Kn Ke Kr ha h; exact h.elim
  | refuse s => intro n fr a w Kn Ke Kr ha h; exact h.elim


/-! ### a whole function -/
def resY (P : Program) (κ : List Kd) : List ResultVar → Fr → World → (List Value → Prop) → Prop
  | [], _, _, f => f []
  | .tmp t :: r, fr, w, f => match sget fr t with
    | some v => resY P κ r fr w fun l => f (v :: l)
    | none => False
  | .cell a t :: r, fr, w, f => match sget fr a with
    | some (.pointer (some p)) => ReadN P (nth .raw κ t) (V (Instr.loadAt t (.pointer (some p)))) w fun x => resY P κ r fr w fun l => f ((nth .raw κ t).val x :: l)
    | _ => False
def oneOf : List Value → Value
  | [v] => v
  | l => .tuple ⟨l⟩
def resK (P : Program) (κ : List Kd) (kd : Kd) (rs : List ResultVar) (fr : Fr) (w : World) (f : kd.T → Prop) : Prop := resY P κ rs fr w fun l => kd.un (oneOf l) f

def resOne (tmps : Array Value) : ResultVar → Sem Value
  | .tmp t => pure (tmps.getD t undef)
  | .cell a t => do loadVar t (← asAddr (tmps.getD a undef))
theorem run_one_tmp {P : Program} {w : World} {tmps : Array Value} {t : Nat} {v : Value} (h : tmps[t]? = some v) : (resOne tmps (.tmp t)).run P w = .ok v w := by
  have e : tmps.getD t undef = v := by rw [Array.getD_eq_getD_getElem?, h]; rfl
  show (pure (tmps.getD t undef) : Sem Value).run P w = _
  rw [e]; rfl
theorem run_one_cell {P : Program} {w : World} {tmps : Array Value} {x : Nat} {t : TypeId} {p : Addr} {v : Value} (h : tmps[x]? = some (.pointer (some p))) (hv : (loadVar t p).run P w = .ok v w) : (resOne tmps (.cell x t)).run P w = .ok v w := by
  have e : tmps.getD x undef = .pointer (some p) := by rw [Array.getD_eq_getD_getElem?, h]; rfl
  show ((do loadVar t (← asAddr (tmps.getD x undef))) : Sem Value).run P w = _
  rw [e]; simp [asAddr, hv]
theorem run_load_var {P : Program} {w : World} {t : TypeId} {p : Addr} {v : Value} (hy : (V (Instr.loadAt t (.pointer (some p)))).run P w = .ok (.value v) w) : (loadVar t p).run P w = .ok v w := by
  simp only [V, Instr.loadAt, Instr.sureAddr] at hy
  cases hq : (loadVar t p).run P w with
  | ok v w' => simp [hq] at hy; obtain ⟨rfl, rfl⟩ := hy; rfl
  | _ => simp [hq] at hy

theorem resY_sound {D : List Deferred} {N : Nat} {P : Program} {κ : List Kd} {fr : Fr} {a : Act} {w : World} (ha : Agree D N fr a) : ∀ (rs : List ResultVar) (f : List Value → Prop), resY P κ rs fr w f →
    ∃ l, (rs.mapM (resOne a.tmps)).run P w = .ok l w ∧ f l
  | [], f, h => ⟨[], by simp, h⟩
  | .tmp t :: r, f, h => by
    unfold resY at h
    split at h
    · rename_i v hv
      obtain ⟨l, hr, hl⟩ := resY_sound ha r _ h
      refine ⟨v :: l, ?_, hl⟩
      rw [List.mapM_cons]
      simp [run_one_tmp (ha.slot _ _ hv), hr]
    · exact h.elim
  | .cell x t :: r, f, h => by
    unfold resY at h
    split at h
    · rename_i p hv
      obtain ⟨y, hy, h⟩ := h
      obtain ⟨l, hr, hl⟩ := resY_sound ha r _ h
      refine ⟨_ :: l, ?_, hl⟩
      rw [List.mapM_cons]
      simp [run_one_cell (ha.slot _ _ hv) (run_load_var hy), hr]
    · exact h.elim
theorem results_eq (fn : Func) (tmps : Array Value) : results fn tmps = (do
    let vs ← fn.results.mapM (resOne tmps)
    pure (if h : vs.size = 1 then vs[0] else .tuple vs)) := by
  unfold results
  congr 1
theorem resK_sound {D : List Deferred} {N : Nat} {P : Program} {κ : List Kd} {fn : Func} {kd : Kd} {fr : Fr} {a : Act} {w : World} {f : kd.T → Prop} (ha : Agree D N fr a) (h : resK P κ kd fn.results.toList fr w f) :
    ∃ x, (results fn a.tmps).run P w = .ok (kd.val x) w ∧ f x := by
  obtain ⟨l, hr, h⟩ := resY_sound ha _ _ h
  obtain ⟨x, hx, hf⟩ := (Kd.un_uns kd).1 _ _ h
  refine ⟨x, ?_, hf⟩
  rw [hx, results_eq, Array.mapM_eq_mapM_toList]
  simp [hr]
  match l with
  | [] => rfl
  | [v] => rfl
  | v :: u :: r => simp [oneOf]

/-- A function's proposition. -/
def bodyY (P : Program) (κ : List Kd) (ann : List (Nat × Live)) (kd : Kd) (fn : Func) (args : List Value) (w : World) (K : kd.T → World → Prop) : Prop :=
  codeY P κ ann (bodyOf fn) 0 (start args fn.ntmps) w (fun fr w => resK P κ kd fn.results.toList fr w fun x => K x w) (fun _ _ _ => False) (fun fr w => resK P κ kd fn.results.toList fr w fun x => K x w)

theorem bodyY_sound {P : Program} {κ : List Kd} {ann : List (Nat × Live)} {kd : Kd} {f : FuncId} {fn : Func} {args : List Value} {w : World} {K : kd.T → World → Prop}
    (hf : P.funcs[f]? = some fn) (hb : fn.body.isSome = true) (hn : Nat.ble args.length fn.ntmps = true) (h : bodyY P κ ann kd fn args w K) : CallK P kd f ⟨args⟩ w K := by
  obtain ⟨c, hb⟩ := Option.isSome_iff_exists.1 hb
  have hbo : bodyOf fn = c := by simp [bodyOf, hb]
  unfold bodyY at h
  rw [hbo] at h
  refine calls_of_wp hf hb (wp_mono (codeY_sound (D := []) (N := fn.ntmps) _ _ _ _ _ _ _ _ ?_ h) ?_)
  · have hn' : args.length ≤ fn.ntmps := Nat.le_of_ble_eq_true hn
    refine ⟨start_len _ _, by rw [start_len]; simp; omega, rfl, fun t v ht => ?_⟩
    have := start_get _ _ _ _ ht
    have hl : t < args.length := by
      rcases Nat.lt_or_ge t args.length with h' | h'
      · exact h'
      · simp [List.getElem?_eq_none h'] at this
    rw [Array.getElem?_append_left (by simpa using hl)]
    simpa using this
  · intro e a' w' hq
    cases e <;> simp only [postOf] at hq
    · obtain ⟨fr, ha, -, hr⟩ := hq
      obtain ⟨x, hx, hk⟩ := resK_sound (P := P) (fn := fn) (w := w') ha hr
      exact ⟨ha.defers, _, hx, x, rfl, hk⟩
    · obtain ⟨fr, ha, -, hr⟩ := hq; exact hr.elim
    · obtain ⟨fr, ha, -, hr⟩ := hq
      obtain ⟨x, hx, hk⟩ := resK_sound (P := P) (fn := fn) (w := w') ha hr
      exact ⟨ha.defers, _, hx, x, rfl, hk⟩
end Go.Fw
