/- Maps with keys of two numbers; structs of numbers compared. -/
import Derived.Test.YtodgnpmljdopiaaFwY
import Derived.WideKeyRuns
import Derived.Laws.StructEq
set_option linter.unusedVariables false
set_option linter.unusedSimpArgs false
namespace Go.Fw
open Go Go.RowKit
abbrev kv2 (a b : Int) : Value := .agg #[.int .i64 a, .int .i64 b]
/-- A type of two numbers. -/
class K2 (P : Program) (t : TypeId) : Prop where
  eq : ∀ (w : World) (a b c d : Int), (Op.equal t (kv2 a b) (kv2 c d)).run P w = .ok (a == c && b == d) w
  chk : ∀ (w : World) (em : Bool) (a b : Int), (Instr.checkKey em 10000 t (kv2 a b)).run P w = .ok () w
  wide : (match P.underlying t with | some (.array _ _) | some (.struct _) => true | _ => false) = true
  eqV : ∀ (w : World) (x y : Operand) (a b c d : Int), (do eqGuard .eql t x y (kv2 a b) (kv2 c d); binOp .eql t (kv2 a b) (kv2 c d) : Sem Value).run P w = .ok (.bool (a == c && b == d)) w
  neV : ∀ (w : World) (x y : Operand) (a b c d : Int), (do eqGuard .neq t x y (kv2 a b) (kv2 c d); binOp .neq t (kv2 a b) (kv2 c d) : Sem Value).run P w = .ok (.bool !(a == c && b == d)) w
abbrev kv4 (a b c d : Int) : Value := .agg #[.int .i64 a, .int .i64 b, .int .i64 c, .int .i64 d]
def eq4 (a b c d a' b' c' d' : Int) : Bool := a == a' && b == b' && c == c' && d == d'
class K4 (P : Program) (t : TypeId) : Prop where
  eqV : ∀ (w : World) (x y : Operand) (a b c d a' b' c' d' : Int), (do eqGuard .eql t x y (kv4 a b c d) (kv4 a' b' c' d'); binOp .eql t (kv4 a b c d) (kv4 a' b' c' d') : Sem Value).run P w = .ok (.bool (eq4 a b c d a' b' c' d')) w
  neV : ∀ (w : World) (x y : Operand) (a b c d a' b' c' d' : Int), (do eqGuard .neq t x y (kv4 a b c d) (kv4 a' b' c' d'); binOp .neq t (kv4 a b c d) (kv4 a' b' c' d') : Sem Value).run P w = .ok (.bool !(eq4 a b c d a' b' c' d')) w
section
variable {P : Program}
def eqF (d : Nat) (xs ys : Array Value) : List (Bool × TypeId × Nat) → Sem Bool
  | [] => pure true
  | (c, t, o) :: fs =>
    if c = true then do
      let a ← part t xs o
      let b ← part t ys o
      let r ← Op.equalIn d t a b
      if (!r) = true then pure false else eqF d xs ys fs
    else eqF d xs ys fs
def fsum (f : Field) : Bool × TypeId × Nat := (f.name != "_", f.type, f.offset)
theorem eqFields_map (d : Nat) (xs ys : Array Value) (fs : List Field) : Op.eqFields d xs ys fs = eqF d xs ys (fs.map fsum) := by
  induction fs with
  | nil => rfl
  | cons f r ih =>
    rw [List.map_cons, Op.eqFields, eqF, ih]
    by_cases h : f.name = "_" <;> simp [fsum, h]
theorem k2_run {t ti : TypeId} (ht : P.underlying t = some (.struct (P.fieldsOf t))) (hp : P.stoodInHeld t = false) (hfs : (P.fieldsOf t).toList.map fsum = [(true, ti, 0), (true, ti, 1)]) (hi : P.underlying ti = some (.int .i64))
    (p0 : ∀ (w : World) (x y : Int), (part ti #[.int .i64 x, .int .i64 y] 0).run P w = .ok (.int .i64 x) w) (p1 : ∀ (w : World) (x y : Int), (part ti #[.int .i64 x, .int .i64 y] 1).run P w = .ok (.int .i64 y) w)
    (d : Nat) (w : World) (a b c e : Int) : (Op.equalIn (d + 2) t (kv2 a b) (kv2 c e)).run P w = .ok (a == c && b == e) w := by
  rw [run_equalIn_agg w (d + 1) t _ _ ht hp, eqFields_map, hfs]
  simp only [eqF, if_true, Sem.run_bind, p0, p1, Result.andThen_ok, run_equalIn_int w d ti .i64 .i64 _ _ hi]
  cases h1 : (a == c) <;> cases h2 : (b == e) <;> simp [Sem.run_bind, p0, p1, run_equalIn_int w d ti .i64 .i64 _ _ hi, h2]
theorem K2.of {t ti : TypeId} (ht : P.underlying t = some (.struct (P.fieldsOf t))) (hp : P.stoodInHeld t = false) (hfs : (P.fieldsOf t).toList.map fsum = [(true, ti, 0), (true, ti, 1)]) (hi : P.underlying ti = some (.int .i64))
    (p0 : ∀ (w : World) (x y : Int), (part ti #[.int .i64 x, .int .i64 y] 0).run P w = .ok (.int .i64 x) w) (p1 : ∀ (w : World) (x y : Int), (part ti #[.int .i64 x, .int .i64 y] 1).run P w = .ok (.int .i64 y) w)
    (hchk : ∀ (w : World) (em : Bool) (a b : Int), (Instr.checkKey em 10000 t (kv2 a b)).run P w = .ok () w) (hg : P.eqGuardType P.depth t = false) : K2 P t := by
  refine ⟨fun w a b c d => k2_run ht hp hfs hi p0 p1 9998 w a b c d, hchk, by rw [ht], fun w x y a b c d => ?_, fun w x y a b c d => ?_⟩
  · rw [Sem.run_bind, run_eqGuard_agg w _ _ _ _ _ _ hg, Result.andThen_ok, run_eql_struct, k2_run ht hp hfs hi p0 p1 9998]
    rfl
  · rw [Sem.run_bind, run_eqGuard_agg w _ _ _ _ _ _ hg, Result.andThen_ok, run_neq_struct, k2_run ht hp hfs hi p0 p1 9998]
    rfl
theorem k4_run {t t2 ti ti' : TypeId} (ht : P.underlying t = some (.struct (P.fieldsOf t))) (hp : P.stoodInHeld t = false) (hfs : (P.fieldsOf t).toList.map fsum = [(true, t2, 0), (true, ti, 2), (true, ti', 3)]) (hi : P.underlying ti = some (.int .i64)) (hi' : P.underlying ti' = some (.int .i64))
    (h2 : ∀ (d : Nat) (w : World) (a b c e : Int), (Op.equalIn (d + 2) t2 (kv2 a b) (kv2 c e)).run P w = .ok (a == c && b == e) w)
    (p0 : ∀ (w : World) (x y z u : Int), (part t2 #[.int .i64 x, .int .i64 y, .int .i64 z, .int .i64 u] 0).run P w = .ok (kv2 x y) w)
    (p2 : ∀ (w : World) (x y z u : Int), (part ti #[.int .i64 x, .int .i64 y, .int .i64 z, .int .i64 u] 2).run P w = .ok (.int .i64 z) w)
    (p3 : ∀ (w : World) (x y z u : Int), (part ti' #[.int .i64 x, .int .i64 y, .int .i64 z, .int .i64 u] 3).run P w = .ok (.int .i64 u) w)
    (d : Nat) (w : World) (x y z u x' y' z' u' : Int) : (Op.equalIn (d + 3) t (kv4 x y z u) (kv4 x' y' z' u')).run P w = .ok (eq4 x y z u x' y' z' u') w := by
  rw [run_equalIn_agg w (d + 2) t _ _ ht hp, eqFields_map, hfs]
  simp only [eqF, if_true, Sem.run_bind, p0, Result.andThen_ok, h2, eq4]
  cases h1 : (x == x' && y == y')
  · simp
  · simp only [Bool.not_true, Bool.false_eq_true, if_false, Sem.run_bind, p2, p3, Result.andThen_ok, run_equalIn_int w (d + 1) ti .i64 .i64 _ _ hi, Bool.true_and]
    cases h3 : (z == z')
    · simp
    · simp only [Bool.not_true, Bool.false_eq_true, if_false, Sem.run_bind, p2, p3, Result.andThen_ok, run_equalIn_int w (d + 1) ti' .i64 .i64 _ _ hi', Bool.true_and]
      cases h4 : (u == u') <;> simp
theorem K4.of {t t2 ti ti' : TypeId} (ht : P.underlying t = some (.struct (P.fieldsOf t))) (hp : P.stoodInHeld t = false) (hfs : (P.fieldsOf t).toList.map fsum = [(true, t2, 0), (true, ti, 2), (true, ti', 3)]) (hi : P.underlying ti = some (.int .i64)) (hi' : P.underlying ti' = some (.int .i64))
    (h2 : ∀ (d : Nat) (w : World) (a b c e : Int), (Op.equalIn (d + 2) t2 (kv2 a b) (kv2 c e)).run P w = .ok (a == c && b == e) w)
    (p0 : ∀ (w : World) (x y z u : Int), (part t2 #[.int .i64 x, .int .i64 y, .int .i64 z, .int .i64 u] 0).run P w = .ok (kv2 x y) w)
    (p2 : ∀ (w : World) (x y z u : Int), (part ti #[.int .i64 x, .int .i64 y, .int .i64 z, .int .i64 u] 2).run P w = .ok (.int .i64 z) w)
    (p3 : ∀ (w : World) (x y z u : Int), (part ti' #[.int .i64 x, .int .i64 y, .int .i64 z, .int .i64 u] 3).run P w = .ok (.int .i64 u) w) (hg : P.eqGuardType P.depth t = false) : K4 P t := by
  refine ⟨fun w x y a b c d a' b' c' d' => ?_, fun w x y a b c d a' b' c' d' => ?_⟩
  · rw [Sem.run_bind, run_eqGuard_agg w _ _ _ _ _ _ hg, Result.andThen_ok, run_eql_struct, k4_run ht hp hfs hi hi' h2 p0 p2 p3 9997]
    rfl
  · rw [Sem.run_bind, run_eqGuard_agg w _ _ _ _ _ _ hg, Result.andThen_ok, run_neq_struct, k4_run ht hp hfs hi hi' h2 p0 p2 p3 9997]
    rfl
end
section
variable {P : Program} {w w0 : World} {G : Grps} {t : TypeId}
theorem RunN.k2Eq [K2 P t] {x y : Operand} {a b c d : Int} {K : Bool → World → Prop} (h : K (a == c && b == d) w) : RunN P .bool (V (do eqGuard .eql t x y (kv2 a b) (kv2 c d); binOp .eql t (kv2 a b) (kv2 c d))) w K := RunN.of (kd := .bool) (K2.eqV w x y a b c d) h
theorem ReadN.k2Eq [K2 P t] {x y : Operand} {a b c d : Int} {K : Bool → Prop} (h : K (a == c && b == d)) : ReadN P .bool (V (do eqGuard .eql t x y (kv2 a b) (kv2 c d); binOp .eql t (kv2 a b) (kv2 c d))) w K := ReadN.of (kd := .bool) (K2.eqV w x y a b c d) h
theorem ReadN.k2Ne [K2 P t] {x y : Operand} {a b c d : Int} {K : Bool → Prop} (h : K (!(a == c && b == d))) : ReadN P .bool (V (do eqGuard .neq t x y (kv2 a b) (kv2 c d); binOp .neq t (kv2 a b) (kv2 c d))) w K := ReadN.of (kd := .bool) (K2.neV w x y a b c d) h
theorem RunN.k4Eq [K4 P t] {x y : Operand} {a b c d a' b' c' d' : Int} {K : Bool → World → Prop} (h : K (eq4 a b c d a' b' c' d') w) : RunN P .bool (V (do eqGuard .eql t x y (kv4 a b c d) (kv4 a' b' c' d'); binOp .eql t (kv4 a b c d) (kv4 a' b' c' d'))) w K := RunN.of (kd := .bool) (K4.eqV w x y a b c d a' b' c' d') h
theorem ReadN.k4Ne [K4 P t] {x y : Operand} {a b c d a' b' c' d' : Int} {K : Bool → Prop} (h : K (!(eq4 a b c d a' b' c' d'))) : ReadN P .bool (V (do eqGuard .neq t x y (kv4 a b c d) (kv4 a' b' c' d'); binOp .neq t (kv4 a b c d) (kv4 a' b' c' d'))) w K := ReadN.of (kd := .bool) (K4.neV w x y a b c d a' b' c' d') h

/-- What a map with keys of two numbers holds: (key, value). -/
abbrev M2 := List ((Int × Int) × Value)
def m2e (x : ((Int × Int) × Value) × Nat) : MapEntry := { key := kv2 x.1.1.1 x.1.1.2, val := x.1.2, born := x.2 }
def m2o (m : M2) : Obj := .map ⟨m.zipIdx.map m2e⟩ m.length
def m2get (m : M2) (k : Int × Int) : Option Value := (m.find? (fun x => k == x.1)).map (·.2)
theorem run_findAsking [K2 P t] (k : Int × Int) : ∀ (m : M2) (n i : Nat), ∃ j, (Instr.findAsking t (kv2 k.1 k.2) ((m.zipIdx n).map m2e) i).run P w = .ok ((m2get m k).map fun v => (j, v)) w
  | [], n, i => ⟨0, rfl⟩
  | x :: r, n, i => by
    obtain ⟨j, hj⟩ := run_findAsking k r (n + 1) (i + 1)
    rw [List.zipIdx_cons, List.map_cons, Instr.findAsking]
    have e := K2.eq (P := P) (t := t) w k.1 k.2 x.1.1 x.1.2
    by_cases h : k = x.1
    · refine ⟨i, ?_⟩
      have h1 : (k.1 == x.1.1 && k.2 == x.1.2) = true := by subst h; simp
      rw [h1] at e
      simp only [Sem.run_bind, m2e, e, Result.andThen_ok, if_true, Sem.run_pure]
      simp [m2get, h]
    · refine ⟨j, ?_⟩
      have h1 : (k.1 == x.1.1 && k.2 == x.1.2) = false := by
        rw [Bool.eq_false_iff]; intro hc; simp at hc; exact h (Prod.ext hc.1 hc.2)
      rw [h1] at e
      have h2 : m2get (x :: r) k = m2get r k := by
        have : (k == x.1) = false := by simpa using h
        simp [m2get, this]
      rw [h2]
      simp only [Sem.run_bind, m2e, e, Result.andThen_ok, Bool.false_eq_true, if_false]
      exact hj
theorem run_lookup2 [K2 P t] {xt e : TypeId} (hu : P.underlying xt = some (.map t e)) {b : Nat} {m : M2} (hb : w.heap[b]? = some (m2o m)) (k : Int × Int) {z : Value} (hz : (zeroValue e).run P w = .ok z w) :
    (Instr.lookup xt (.map (some b)) (kv2 k.1 k.2) false).run P w = .ok ((m2get m k).getD z) w := by
  obtain ⟨j, hj⟩ := run_findAsking (P := P) (w := w) (t := t) k m 0 0
  have hf := run_findKey_eq (P := P) (w := w) (k := t) K2.wide (kv2 k.1 k.2) (m.zipIdx.map m2e)
  rw [hj] at hf
  have hg : (getObj b).run P w = .ok (.map ⟨m.zipIdx.map m2e⟩ m.length) w := by simp [getObj, Sem.run, hb, m2o]
  simp only [Instr.lookup, Sem.run_bind, run_underlying hu, Result.andThen_ok, hg, Sem.run_pure, K2.chk, hf]
  cases m2get m k with
  | none => simp [Sem.run_bind, hz, Sem.run_pure]
  | some v => simp [Sem.run_bind, Sem.run_pure]
theorem run_mapUpdate2 [K2 P t] {xt e : TypeId} (hu : P.underlying xt = some (.map t e)) {b : Nat} {m : M2} (hb : w.heap[b]? = some (m2o m)) (k : Int × Int) (hk : m2get m k = none) (v : Value) :
    (Instr.mapUpdate xt (.map (some b)) (kv2 k.1 k.2) v).run P w = .ok () { w with heap := w.heap.setIfInBounds b (m2o (m ++ [(k, v)])) } := by
  obtain ⟨j, hj⟩ := run_findAsking (P := P) (w := w) (t := t) k m 0 0
  have hf := run_findKey_eq (P := P) (w := w) (k := t) K2.wide (kv2 k.1 k.2) (m.zipIdx.map m2e)
  rw [hj, hk] at hf
  have e : m2o (m ++ [(k, v)]) = .map ((⟨m.zipIdx.map m2e⟩ : Array MapEntry).push { key := kv2 k.1 k.2, val := v, born := m.length }) (m.length + 1) := by
    simp [m2o, List.zipIdx_append, m2e]
  have hg : (getObj b).run P w = .ok (.map ⟨m.zipIdx.map m2e⟩ m.length) w := by simp [getObj, Sem.run, hb, m2o]
  simp only [Instr.mapUpdate, Sem.run_bind, run_underlying hu, Result.andThen_ok, hg, K2.chk, hf, Option.map_none]
  rw [e]
  simp [setObj, Sem.run, hb]
  simp [m2o]
theorem St.lookR (h : St w0 w G) (k i : Nat) {b : Nat} {m : M2} (he : Has G k i (.obj b (m2o m))) [K2 P t] {xt e : TypeId} (hu : P.underlying xt = some (.map t e)) {x y : Int} (hz : ∀ w, (zeroValue e).run P w = .ok (.pointer none) w) (p : Option Addr)
    (hp : m2get m (x, y) = p.map fun a => .pointer (some a)) {K : Option Addr → Prop} (hk : K p) : ReadN P .ptr (V (Instr.lookup xt (.map (some b)) (kv2 x y) false)) w K := by
  refine ReadN.of (kd := .ptr) (x := p) ?_ hk
  rw [run_lookup2 hu (h.ob he) (x, y) (hz w), hp]
  cases p <;> rfl
theorem St.mapPut (h : St w0 w G) (k i : Nat) {b : Nat} {m : M2} (he : Has G k i (.obj b (m2o m))) [K2 P t] {xt e : TypeId} (hu : P.underlying xt = some (.map t e)) {x y : Int} {v : Value} (hn : m2get m (x, y) = none) {K : World → Prop}
    (hk : ∀ w', St w0 w' (updG G k i [.obj b (m2o (m ++ [((x, y), v)]))]) → K w') : RunU P (U (Instr.mapUpdate xt (.map (some b)) (kv2 x y) v)) w K :=
  RunU.of (run_mapUpdate2 hu (h.ob he) (x, y) hn v) (hk _ (h.setOb he _))
theorem St.newMap (h : St w0 w G) {xt : TypeId} {K : Option Nat → World → Prop} (hk : ∀ b w', St w0 w' ([.obj b (m2o [])] :: G) → K (some b) w') : RunN P .map (V (Instr.makeMap xt none)) w K :=
  RunN.of (kd := .map) (x := some w.heap.size) rfl (hk _ _ (h.newOb _))
theorem nthO_setO {α : Type} : ∀ {l : List α} {i : Nat} {x : α} (y : α), nthO l i = some x → nthO (setO l i y) i = some y
  | [], _, _, _, h => by cases h
  | _ :: _, 0, _, _, _ => rfl
  | _ :: r, i + 1, _, y, h => nthO_setO (l := r) y h
theorem has_upd : ∀ {G : Grps} {k i : Nat} {e : Ent}, Has G k i e → ∀ e' : Ent, Has (updG G k i [e']) k i e'
  | [], _, _, _, ⟨_, h, _⟩, _ => by cases h
  | g :: r, 0, i, e, ⟨g', h, h'⟩, e' => by
    simp [nthO] at h; subst h
    exact ⟨setO g i e', rfl, nthO_setO e' h'⟩
  | g :: r, k + 1, i, e, ⟨g', h, h'⟩, e' => has_upd (G := r) ⟨g', h, h'⟩ e'
theorem setO_setO {α : Type} : ∀ (l : List α) (i : Nat) (x y : α), setO (setO l i x) i y = setO l i y
  | [], _, _, _ => rfl
  | _ :: _, 0, _, _ => rfl
  | _ :: r, i + 1, x, y => by simp only [setO, setO_setO r i x y]
theorem upd_upd : ∀ {G : Grps} {k i : Nat} {e : Ent}, Has G k i e → ∀ {e1 e2 : Ent}, updG (updG G k i [e1]) k i [e2] = updG G k i [e2]
  | [], _, _, _, ⟨_, h, _⟩, _, _ => by cases h
  | g :: r, 0, i, e, _, e1, e2 => by simp only [updG, setO_setO]
  | g :: r, k + 1, i, e, ⟨g', h, h'⟩, e1, e2 => by simp only [updG]; rw [upd_upd (G := r) ⟨g', h, h'⟩]
theorem setO_self {α : Type} : ∀ {l : List α} {i : Nat} {x : α}, nthO l i = some x → setO l i x = l
  | [], _, _, h => by cases h
  | _ :: _, 0, _, h => by simp [nthO] at h; subst h; rfl
  | _ :: r, i + 1, _, h => by simp only [setO]; rw [setO_self (l := r) h]
theorem upd_self : ∀ {G : Grps} {k i : Nat} {e : Ent}, Has G k i e → updG G k i [e] = G
  | [], _, _, _, ⟨_, h, _⟩ => by cases h
  | g :: r, 0, i, e, ⟨g', h, h'⟩ => by
    simp [nthO] at h; subst h
    simp only [updG, setO_self h']
  | g :: r, k + 1, i, e, ⟨g', h, h'⟩ => by simp only [updG]; rw [upd_self (G := r) ⟨g', h, h'⟩]
/-- An array of pieces. -/
class Ars (P : Program) (t : TypeId) (n sz : outParam Nat) : Prop where
  h : ∃ e i, P.underlying t = some (.array n e) ∧ P.info? e = some i ∧ i.size = sz
theorem Ars.of {t n e sz : Nat} (h : P.underlying t = some (.array n e)) (h1 : (P.info? e).map (·.size) = some sz) : Ars P t n sz := by
  cases hi : P.info? e with
  | none => simp [hi] at h1
  | some i => exact ⟨e, i, h, hi, by simpa [hi] using h1⟩
theorem run_arrs {t n sz : Nat} [ar : Ars P t n sz] {a : Addr} {g o : Nat} (ha : a = ⟨g, o, none⟩) {k : IntKind} {i : Int} (j : Nat) (hj : i = (j : Int)) (hn : j < n) :
    (Instr.indexAt t (.pointer (some a)) (.int k i)).run P w = .ok (.pointer (some ⟨g, o + j * sz, none⟩)) w := by
  subst hj; subst ha
  obtain ⟨e, inf, hu, hi, hs⟩ := ar.h
  have h0 : (0 : Int) ≤ (j : Int) := by omega
  have h1 : (j : Int) < (n : Int) := by omega
  simp [Instr.indexAt, asIntOf, run_underlying hu, Instr.sureAddr, h0, h1, hn, sizeOf, typeInfo, hi, hs, add_lit']
theorem RunN.arrs {t n sz : Nat} [ar : Ars P t n sz] {a : Addr} {g o : Nat} (ha : a = ⟨g, o, none⟩) {k : IntKind} {i : Int} (j : Nat) (hj : i = (j : Int)) (hn : j < n) {K : Addr → World → Prop} (hk : K ⟨g, o + j * sz, none⟩ w) :
    RunN P .addr (V (Instr.indexAt t (.pointer (some a)) (.int k i))) w K := RunN.of (kd := .addr) (run_arrs ha j hj hn) hk
theorem ReadN.arrs {t n sz : Nat} [ar : Ars P t n sz] {a : Addr} {g o : Nat} (ha : a = ⟨g, o, none⟩) {k : IntKind} {i : Int} (j : Nat) (hj : i = (j : Int)) (hn : j < n) {K : Addr → Prop} (hk : K ⟨g, o + j * sz, none⟩) :
    ReadN P .addr (V (Instr.indexAt t (.pointer (some a)) (.int k i))) w K := ReadN.of (kd := .addr) (run_arrs ha j hj hn) hk
theorem run_arrLH {t n sz : Nat} [ar : Ars P t n sz] {a : Addr} {kl kh : IntKind} {l h : Int} {lo hi : Nat} (hl : l = (lo : Int)) (hh : h = (hi : Int)) (h1 : lo ≤ hi) (h2 : hi ≤ n) :
    (Instr.sliceAt t (.pointer (some a)) (some (.int kl l)) (some (.int kh h)) none).run P w = .ok (.slice (subS ⟨some a, n, n⟩ lo hi sz).a (subS ⟨some a, n, n⟩ lo hi sz).len (subS ⟨some a, n, n⟩ lo hi sz).cap) w := by
  subst hl; subst hh
  obtain ⟨e, inf, hu, hi, hs⟩ := ar.h
  have e1 : P.arrayLen t = n := by simp [Program.arrayLen, hu]
  have e2 : P.elem t = e := by simp [Program.elem, hu]
  rw [run_sliceAt_array_lh w t a (by rw [e1, e2]; exact hu) kl kh lo _ (by omega) (by omega) (by rw [e1]; omega), e1, e2]
  simp only [sizeOf, Sem.run_bind, typeInfo, hi]
  simp [hs, slicedAt, subS, hi]
  split <;> rfl
theorem run_arrH {t n sz : Nat} [ar : Ars P t n sz] {a : Addr} {kh : IntKind} {h : Int} {hi : Nat} (hh : h = (hi : Int)) (h2 : hi ≤ n) :
    (Instr.sliceAt t (.pointer (some a)) none (some (.int kh h)) none).run P w = .ok (.slice (subS ⟨some a, n, n⟩ 0 hi sz).a (subS ⟨some a, n, n⟩ 0 hi sz).len (subS ⟨some a, n, n⟩ 0 hi sz).cap) w := by
  subst hh
  obtain ⟨e, inf, hu, hi, hs⟩ := ar.h
  have e1 : P.arrayLen t = n := by simp [Program.arrayLen, hu]
  have e2 : P.elem t = e := by simp [Program.elem, hu]
  rw [run_sliceAt_array_h w t a (by rw [e1, e2]; exact hu) kh _ (by omega) (by rw [e1]; omega), e1, e2]
  simp only [sizeOf, Sem.run_bind, typeInfo, hi]
  simp [hs, slicedAt, subS, hi]
  split <;> rfl
theorem ReadN.arrLH {t n sz : Nat} [ar : Ars P t n sz] {a : Addr} {kl kh : IntKind} {l h : Int} (lo hi : Nat) (hl : l = (lo : Int)) (hh : h = (hi : Int)) (h1 : lo ≤ hi) (h2 : hi ≤ n) {K : Sl → Prop} (hk : K (subS ⟨some a, n, n⟩ lo hi sz)) :
    ReadN P .sl (V (Instr.sliceAt t (.pointer (some a)) (some (.int kl l)) (some (.int kh h)) none)) w K := ReadN.of (kd := .sl) (run_arrLH hl hh h1 h2) hk
theorem ReadN.arrH {t n sz : Nat} [ar : Ars P t n sz] {a : Addr} {kh : IntKind} {h : Int} (hi : Nat) (hh : h = (hi : Int)) (h2 : hi ≤ n) {K : Sl → Prop} (hk : K (subS ⟨some a, n, n⟩ 0 hi sz)) :
    ReadN P .sl (V (Instr.sliceAt t (.pointer (some a)) none (some (.int kh h)) none)) w K := ReadN.of (kd := .sl) (run_arrH hh h2) hk
/-- A part of a block, read as a slice of pieces. -/
theorem St.arrRd (h : St w0 w G) (k i : Nat) {b : Nat} {t : TypeId} {cs : List Value} (he : Has G k i (.cel b t cs)) {o n sz : Nat} (hfit : o + n * sz ≤ cs.length) {lo hi : Nat} (h1 : lo ≤ hi) (h2 : hi ≤ n) :
    Rd w (subS ⟨some ⟨b, o, none⟩, n, n⟩ lo hi sz) sz ((cs.drop (o + lo * sz)).take ((hi - lo) * sz)) := by
  have h0 : Rd w ⟨some ⟨b, o, none⟩, n, n⟩ sz ((cs.drop o).take (n * sz)) := by
    refine ⟨by simp; omega, .inr ⟨b, o, rfl, fun j v hj => ?_⟩, Nat.le_refl _⟩
    rw [List.getElem?_take] at hj
    split at hj
    · rw [List.getElem?_drop] at hj
      rw [(h.blk he).cell]; exact hj
    · cases hj
  have h3 := h0.subS h1 h2
  have e : hi * sz ≤ n * sz := Nat.mul_le_mul_right _ h2
  have e2 : lo * sz ≤ hi * sz := Nat.mul_le_mul_right _ h1
  rw [List.drop_take, List.drop_drop, List.take_take, Nat.min_eq_left (by rw [Nat.sub_mul]; omega)] at h3
  exact h3
/-- Copy into a part of a block. -/
theorem St.copyC (h : St w0 w G) (k i : Nat) {b : Nat} {t : TypeId} {cs : List Value} (he : Has G k i (.cel b t cs)) {e : TypeId} {sz by_ : Nat} {td ts ty : TypeId} [et : Et P td e sz by_] {e2 : TypeId} {sz2 b2 : Nat} [et2 : Et P ts e2 sz2 b2] {da : Option Addr} {dl dc : Nat} (o : Nat)
    (hda : 0 < dl → da = some ⟨b, o, none⟩) (hdl : o + dl * sz ≤ cs.length) {p : Sl} {ws : List Value} (hr : Rd w p sz ws) (h1 : ∀ v ∈ ws, v.oneCell' = true) {K : Int → World → Prop}
    (hk : ∀ w', St w0 w' (updG G k i [.cel b t (cs.take o ++ ws.take (Nat.min p.len dl * sz) ++ cs.drop (o + Nat.min p.len dl * sz))]) → K (Nat.min p.len dl : Nat) w') :
    RunN P (.int .i64) (V (Builtin.copy_ #[td, ts] ty #[.slice da dl dc, .slice p.a p.len p.cap])) w K := by
  obtain ⟨j, z, hi, hz, h2, h3, h4⟩ := et.h.hi
  have ets : (P.underlying ts).isSome = true := by simp [et2.h.ht]
  have hmin1 : Nat.min p.len dl ≤ p.len := Nat.min_le_left _ _
  have hmin2 : Nat.min p.len dl ≤ dl := Nat.min_le_right _ _
  generalize hn : Nat.min p.len dl = n at *
  have hgo : goInt n = (.int .i64 (n : Int) : Value) := rfl
  by_cases h0 : n = 0
  · subst h0
    refine RunN.of (kd := .int .i64) (x := ((0 : Nat) : Int)) (w' := w) ?_ (hk w ?_)
    · have hfc : (Builtin.firstCells sz 0 (.slice p.a p.len p.cap)).run P w = .ok #[] w := by
        cases p.a <;> simp [Builtin.firstCells, loadCells, loadCellsFrom]
      cases da <;> simp [Builtin.copy_, run_underlying et.h.ht, Builtin.lenOf, sizeOf, typeInfo, hi, h2, hn, hfc, storeCells] <;> rfl
    · simp only [Nat.zero_mul, List.take_zero, List.append_nil, Nat.add_zero, List.take_append_drop]
      exact h.change1 he (Upd.refl _ _) (h.ent he) fun j hj => .inl hj
  · have hpos : 0 < n * sz := Nat.mul_pos (by omega) et.pos
    obtain ⟨b', o', ha, hl⟩ := hr.loads (P := P) (n := n) (by omega) hpos
    have hlw : (ws.take (n * sz)).length = n * sz := by
      have h5 := hr.1
      have h6 : n * sz ≤ p.len * sz := Nat.mul_le_mul_right _ hmin1
      simp; omega
    have hfit : n * sz ≤ dl * sz := Nat.mul_le_mul_right _ hmin2
    have h1' : ∀ v ∈ ws.take (n * sz), v.oneCell' = true := fun v hv => h1 v (List.mem_of_mem_take hv)
    have hst := Blk.store (P := P) (h.blk he) (o := o) (news := ws.take (n * sz)) (by omega) h1'
    rw [hlw] at hst
    refine RunN.of (kd := .int .i64) (x := ((n : Nat) : Int)) ?_ (hk _ (h.change1 he (Upd.setRow _ _ _ rfl) ⟨⟨(h.ent he).1.1, (h.blk he).row _⟩, fun u hu => ?_⟩ fun j hj => .inl hj))
    · rw [hda (by omega), ha]
      simp [Builtin.copy_, run_underlying et.h.ht, Builtin.lenOf, Builtin.firstCells, sizeOf, typeInfo, hi, h2, hn, hl, hst, hgo]
      rfl
    · simp only [Ent.vals] at hu
      rcases List.mem_append.1 hu with hu | hu
      · rcases List.mem_append.1 hu with hu | hu
        · exact h.one1 he u (List.mem_of_mem_take hu)
        · exact h1' u hu
      · exact h.one1 he u (List.mem_of_mem_drop hu)
theorem run_subLHM {t e : TypeId} {sz by_ : Nat} [et : Et P t e sz by_] {s : Sl} {k kh km : IntKind} {l h m : Int} {lo hi mx : Nat} (hl : l = (lo : Int)) (hh : h = (hi : Int)) (hm : m = (mx : Int)) (h1 : lo ≤ hi) (h2 : hi ≤ mx) (h3 : mx ≤ s.cap) :
    ∃ q : Sl, (Instr.sliceAt t (.slice s.a s.len s.cap) (some (.int k l)) (some (.int kh h)) (some (.int km m))).run P w = .ok (.slice q.a q.len q.cap) w := by
  subst hl; subst hh; subst hm
  rw [run_sliceAt_slice w t _ _ _ _ (elem_of et.h), run_slice_lhm w t s.a s.len s.cap (elem_of et.h) k kh km _ _ _ (by omega) (by omega) (by omega) (by omega), run_size et.h]
  exact ⟨⟨_, _, _⟩, rfl⟩
end
end Go.Fw
