/- A function that defers one closure at its beginning: read as the rest of it, and the closure at each way out. -/
import Derived.Test.YtimebochhbfkgaaFwG
import Derived.Defers
set_option linter.unusedVariables false
set_option linter.unusedSimpArgs false
namespace Go.Fw
open Go

/-- A deferred call that returns. -/
def CallKD (P : Program) (f : FuncId) (args : Array Value) (w : World) (K : World → Prop) : Prop :=
  CallsD P f args .returning w fun e u w' => (∃ v, e = .returned v) ∧ u = .returning ∧ K w'

theorem bodyZ_soundD {P : Program} {κ : List Kd} {ann : List (Nat × Live)} {kd : Kd} {f : FuncId} {fn : Func} {args : List Value} {w : World} {K : World → Prop}
    (hf : P.funcs[f]? = some fn) (hb : fn.body.isSome = true) (hn : Nat.ble args.length fn.ntmps = true) (h : bodyZ P κ ann kd fn args w fun _ w => K w) : CallKD P f ⟨args⟩ w K := by
  obtain ⟨c, hb⟩ := Option.isSome_iff_exists.1 hb
  have hbo : bodyOf fn = c := by simp [bodyOf, hb]
  unfold bodyZ at h
  rw [hbo] at h
  refine CallsD.mono (callsD_of_wp (R := fun e w' => (∃ v, e = .returned v) ∧ K w') hf hb (wp_mono (codeZ_sound (D := []) (N := fn.ntmps) _ _ _ _ _ _ _ _ ?_ h) ?_)) ?_
  · have hn' : args.length ≤ fn.ntmps := Nat.le_of_ble_eq_true hn
    refine ⟨start_len _ _, by rw [start_len]; simp; omega, rfl, fun t v ht => ?_⟩
    have := start_get _ _ _ _ ht
    have hl : t < args.length := by
      rcases Nat.lt_or_ge t args.length with h' | h'
      · exact h'
      · simp [List.getElem?_eq_none h'] at this
    rw [Array.getElem?_append_left (by simpa using hl)]
    simpa using this
  · intro e a' w' hq
    cases e <;> simp only [postOf] at hq
    · obtain ⟨fr, ha, -, hr⟩ := hq
      obtain ⟨x, hx, hk⟩ := resK_sound (P := P) (fn := fn) (w := w') ha hr
      exact ⟨ha.defers, _, hx, ⟨_, rfl⟩, hk⟩
    · obtain ⟨fr, ha, -, hr⟩ := hq; exact hr.elim
    · obtain ⟨fr, ha, -, hr⟩ := hq
      obtain ⟨x, hx, hk⟩ := resK_sound (P := P) (fn := fn) (w := w') ha hr
      exact ⟨ha.defers, _, hx, ⟨_, rfl⟩, hk⟩
  · rintro e u w' ⟨rfl, h1, h2⟩
    exact ⟨h1, rfl, h2⟩

/-- The deferred call. -/
def dcallC (g : FuncId) (caps : Array Value) : Deferred := { target := .fn (.func g) caps, args := #[] }
theorem wp_defer {P : Program} {id : Nat} {o1 o2 : Oper} {t : Tmp} {g : FuncId} {caps : Array Operand} {Q : Exit → Act → World → Prop} {a : Act} {w : World}
    (h1 : o1.op = .makeFunc (.func g) #[] caps) (d1 : o1.dst = some t) (g1 : o1.guard = none)
    (h2 : o2.op = .defer { callee := .value (.tmp t), args := #[], argTypes := #[] }) (d2 : o2.dst = none) (g2 : o2.guard = none) (ht : t < a.tmps.size)
    (h : Q .normal { a.put (some t) (.func (.func g) #[] (caps.map a.eval)) with defers := dcallC g (caps.map a.eval) :: a.defers } w) : (Code.region id #[o1, o2] false).wp P Q a w := by
  refine wp_region_lit (l := [o1, o2]) ?_
  have w1 : ∀ y, Region.wanted o1 y = true := fun y => by simp [Region.wanted, g1]
  have w2 : ∀ y, Region.wanted o2 y = true := fun y => by simp [Region.wanted, g2]
  have r1 : (execOp a.eval o1).run P w = .ok (.value (.func (.func g) #[] (caps.map a.eval))) w := by
    unfold execOp; simp [h1, Instr.makeFunc]
  have ev : (a.put (some t) (.func (.func g) #[] (caps.map a.eval))).eval (.tmp t) = .func (.func g) #[] (caps.map a.eval) := by
    simp [Act.eval, Act.put, ht]
  have r2 : (execOp (a.put (some t) (.func (.func g) #[] (caps.map a.eval))).eval o2).run P w = .ok (.defer (dcallC g (caps.map a.eval))) w := by
    unfold execOp; simp [h2, resolve, Deferred.ofValue, ev, dcallC]
  unfold wpList
  rw [if_pos (w1 _)]
  left
  unfold Oper.wp
  rw [r1, Oper.upon_value, d1]
  unfold wpList
  rw [if_pos (w2 _)]
  left
  unfold Oper.wp
  rw [r2, Oper.upon_defer, d2]
  exact h

/-- A function's proposition, if it defers one closure behind its first region. -/
def bodyD (P : Program) (κ : List Kd) (ann : List (Nat × Live)) (kd : Kd) (fn : Func) (i0 : Nat) (ops0 : Array Oper) (t : Tmp) (g : FuncId) (caps : List Operand) (rest : Code) (n1 : Nat) (args : List Value) (w : World) (K : kd.T → World → Prop) : Prop :=
  codeZ P κ ann (.region i0 ops0 false) 0 (start args fn.ntmps) w
    (fun fr0 w => Fr.allKnown fr0 caps = true ∧ Nat.blt t fn.ntmps = true ∧
      codeZ P κ ann rest n1 (Fr.put fr0 (some t) (.func (.func g) #[] ⟨caps.map (Fr.eval fr0)⟩)) w
        (fun fr w => CallKD P g ⟨caps.map (Fr.eval fr0)⟩ w fun w => resK P κ kd fn.results.toList fr w fun x => K x w)
        (fun _ _ _ => False)
        (fun fr w => CallKD P g ⟨caps.map (Fr.eval fr0)⟩ w fun w => resK P κ kd fn.results.toList fr w fun x => K x w))
    (fun _ _ _ => False) (fun _ _ => False)
theorem bodyD_sound {P : Program} {κ : List Kd} {ann : List (Nat × Live)} {kd : Kd} {f g : FuncId} {fn gn : Func} {args : List Value} {w : World} {K : kd.T → World → Prop} {i0 i1 n1 : Nat} {ops0 : Array Oper} {o1 o2 : Oper} {t : Tmp} {caps : List Operand} {rest cg : Code}
    (hf : P.funcs[f]? = some fn) (hg : P.funcs[g]? = some gn) (hgb : gn.body = some cg) (hgn : (gn.name == "runtime.NumGoroutine") = false)
    (hb : fn.body = some (.seq (.region i0 ops0 false) (.seq (.region i1 #[o1, o2] false) rest)))
    (h1 : o1.op = .makeFunc (.func g) #[] ⟨caps⟩) (d1 : o1.dst = some t) (g1 : o1.guard = none)
    (h2 : o2.op = .defer { callee := .value (.tmp t), args := #[], argTypes := #[] }) (d2 : o2.dst = none) (g2 : o2.guard = none)
    (hn : Nat.ble args.length fn.ntmps = true) (h : bodyD P κ ann kd fn i0 ops0 t g caps rest n1 args w K) : CallK P kd f ⟨args⟩ w K := by
  unfold bodyD at h
  refine calls_of_wp_defers hf hb (wp_seq (wp_mono (codeZ_sound (D := []) (N := fn.ntmps) _ _ _ _ _ _ _ _ ?_ h) ?_))
  · have hn' : args.length ≤ fn.ntmps := Nat.le_of_ble_eq_true hn
    refine ⟨start_len _ _, by rw [start_len]; simp; omega, rfl, fun t v ht => ?_⟩
    have := start_get _ _ _ _ ht
    have hl : t < args.length := by
      rcases Nat.lt_or_ge t args.length with h' | h'
      · exact h'
      · simp [List.getElem?_eq_none h'] at this
    rw [Array.getElem?_append_left (by simpa using hl)]
    simpa using this
  · intro e a w hq
    cases e <;> simp only [postOf, Exit.then] at hq ⊢
    · obtain ⟨fr0, ha, -, hk, ht, hr⟩ := hq
      have ht : t < fn.ntmps := Nat.blt_eq ▸ ht
      have hts : t < a.tmps.size := by rw [← ha.size, ha.len]; exact ht
      have hev : (⟨caps⟩ : Array Operand).map a.eval = ⟨caps.map (Fr.eval fr0)⟩ := by
        simp only [List.map_toArray]
        congr 1
        exact List.map_congr_left fun x hx => ha.eval (Fr.allKnown_mem hk x hx)
      refine wp_seq (wp_defer h1 d1 g1 h2 d2 g2 hts ?_)
      rw [hev]
      dsimp only [Exit.then]
      have hput := ha.put (some t) (.func (.func g) #[] ⟨caps.map (Fr.eval fr0)⟩)
      have ha2 : Agree [dcallC g ⟨caps.map (Fr.eval fr0)⟩] fn.ntmps (Fr.put fr0 (some t) (.func (.func g) #[] ⟨caps.map (Fr.eval fr0)⟩))
          { a.put (some t) (.func (.func g) #[] ⟨caps.map (Fr.eval fr0)⟩) with defers := dcallC g ⟨caps.map (Fr.eval fr0)⟩ :: a.defers } :=
        ⟨hput.len, hput.size, by rw [ha.defers], hput.slot⟩
      have leave : ∀ (fr : Fr) (a' : Act) (w' : World), Agree [dcallC g ⟨caps.map (Fr.eval fr0)⟩] fn.ntmps fr a' → CallKD P g ⟨caps.map (Fr.eval fr0)⟩ w' (fun w => resK P κ kd fn.results.toList fr w fun x => K x w) →
          Leaves P fn a'.tmps (fun e w => ∃ x, e = .returned (kd.val x) ∧ K x w) a'.defers .returning w' := by
        intro fr a' w' ha' hcall
        rw [ha'.defers]
        refine leaves_cons (f := g) (args := ⟨caps.map (Fr.eval fr0)⟩) (by simp) ?_ ?_
        · have h1 : ¬ gn.name = "runtime.NumGoroutine" := by simpa using hgn
          simp [invoke, callFunc, hg, h1, hgb]
        · refine CallsD.mono hcall ?_
          rintro e u w'' ⟨⟨v, rfl⟩, rfl, hr⟩
          obtain ⟨x, hx, hk⟩ := resK_sound (P := P) (fn := fn) (w := w'') ha' hr
          exact ⟨_, hx, x, rfl, hk⟩
      refine wp_mono (codeZ_sound (D := [dcallC g ⟨caps.map (Fr.eval fr0)⟩]) (N := fn.ntmps) _ _ _ _ _ _ _ _ ha2 hr) ?_
      intro e a' w' hq
      cases e <;> simp only [postOf] at hq
      · obtain ⟨fr, ha', -, hr⟩ := hq
        exact leave fr a' w' ha' hr
      · obtain ⟨fr, ha', -, hr⟩ := hq; exact hr.elim
      · obtain ⟨fr, ha', -, hr⟩ := hq
        exact leave fr a' w' ha' hr
    · obtain ⟨fr, ha, -, hr⟩ := hq; exact hr.elim
    · obtain ⟨fr, ha, -, hr⟩ := hq; exact hr.elim

/-! ### the parts of such a function -/
def dId0 (fn : Func) : Nat := match bodyOf fn with | .seq (.region i _ _) _ => i | _ => 0
def dOps0 (fn : Func) : Array Oper := match bodyOf fn with | .seq (.region _ o _) _ => o | _ => #[]
def dId1 (fn : Func) : Nat := match bodyOf fn with | .seq _ (.seq (.region i _ _) _) => i | _ => 0
def dOps1 (fn : Func) : List Oper := match bodyOf fn with | .seq _ (.seq (.region _ o _) _) => o.toList | _ => []
def dO (fn : Func) (k : Nat) : Oper := nth default (dOps1 fn) k
def dRest (fn : Func) : Code := match bodyOf fn with | .seq _ (.seq _ c) => c | _ => .skip
end Go.Fw
