/- A reader of the translation's code: a piece of code is turned into a plain proposition in continuation style, and the proposition implies the kit's contract. No program in sight. -/
import Derived.Calls
import Derived.OwnWalk
import Derived.Orders
import Derived.KernelRfl
import Derived.Laws.World
namespace Go.Fw
open Go

/-! ### kinds -/
structure Sl where
  a : Option Addr
  len : Nat
  cap : Nat

inductive Kd where
  | int (k : IntKind) | bool | str | sl | ptr | addr | map | chan | raw | nilT
  | cons (hd tl : Kd) | tup (ks : Kd) | agg (ks : Kd)

@[reducible] def Kd.T : Kd → Type
  | .int _ => Int | .bool => Bool | .str => ByteArray | .sl => Sl | .ptr => Option Addr | .addr => Addr
  | .map => Option Nat | .chan => Option Nat | .raw => Value | .nilT => Unit
  | .cons a b => a.T × b.T | .tup ks => ks.T | .agg ks => ks.T

mutual
def Kd.val : (k : Kd) → k.T → Value
  | .int k, x => .int k x | .bool, x => .bool x | .str, x => .string x | .sl, x => .slice x.a x.len x.cap
  | .ptr, x => .pointer x | .addr, x => .pointer (some x) | .map, x => .map x | .chan, x => .chan x | .raw, x => x
  | .nilT, _ => undef | .cons _ _, _ => undef
  | .tup ks, x => .tuple ⟨ks.vals x⟩ | .agg ks, x => .agg ⟨ks.vals x⟩
def Kd.vals : (k : Kd) → k.T → List Value
  | .cons a b, x => a.val x.1 :: b.vals x.2
  | _, _ => []
end

/-- A value of the wanted form, taken apart. -/
def unvalI (k : IntKind) (v : Value) (f : Int → Prop) : Prop := match v with | .int k' x => (match decide (k' = k) with | true => f x | false => False) | _ => False
mutual
def Kd.un : (k : Kd) → Value → (k.T → Prop) → Prop
  | .int k, v, f => unvalI k v f
  | .bool, v, f => match v with | .bool b => f b | _ => False
  | .str, v, f => match v with | .string b => f b | _ => False
  | .sl, v, f => match v with | .slice a l c => f ⟨a, l, c⟩ | _ => False
  | .ptr, v, f => match v with | .pointer a => f a | _ => False
  | .addr, v, f => match v with | .pointer (some a) => f a | _ => False
  | .map, v, f => match v with | .map a => f a | _ => False
  | .chan, v, f => match v with | .chan a => f a | _ => False
  | .raw, v, f => f v
  | .nilT, _, _ => False
  | .cons _ _, _, _ => False
  | .tup ks, v, f => match v with | .tuple ⟨l⟩ => ks.uns l f | _ => False
  | .agg ks, v, f => match v with | .agg ⟨l⟩ => ks.uns l f | _ => False
def Kd.uns : (k : Kd) → List Value → (k.T → Prop) → Prop
  | .cons a b, l, f => match l with | v :: r => a.un v fun x => b.uns r fun y => f (x, y) | [] => False
  | .nilT, l, f => match l with | [] => f () | _ => False
  | _, _, _ => False
end

theorem Kd.un_uns : ∀ k : Kd, (∀ v f, k.un v f → ∃ x, k.val x = v ∧ f x) ∧ (∀ l f, k.uns l f → ∃ x, k.vals x = l ∧ f x) := by
  intro k
  induction k with
  | int k =>
    refine ⟨fun v f h => ?_, fun l f h => by simp [Kd.uns] at h⟩
    simp only [Kd.un, unvalI] at h
    split at h
    · rename_i k' x
      by_cases hk : k' = k
      · subst hk; simp at h; exact ⟨x, rfl, h⟩
      · simp [hk] at h
    · exact h.elim
  | bool | str | ptr | map | chan =>
    refine ⟨fun v f h => ?_, fun l f h => by simp [Kd.uns] at h⟩
    simp only [Kd.un] at h
    split at h
    · exact ⟨_, rfl, h⟩
    · exact h.elim
  | sl =>
    refine ⟨fun v f h => ?_, fun l f h => by simp [Kd.uns] at h⟩
    simp only [Kd.un] at h
    split at h
    · exact ⟨_, rfl, h⟩
    · exact h.elim
  | addr =>
    refine ⟨fun v f h => ?_, fun l f h => by simp [Kd.uns] at h⟩
    simp only [Kd.un] at h
    split at h
    · exact ⟨_, rfl, h⟩
    · exact h.elim
  | raw => exact ⟨fun v f h => ⟨v, rfl, h⟩, fun l f h => by simp [Kd.uns] at h⟩
  | nilT =>
    refine ⟨fun v f h => by simp [Kd.un] at h, fun l f h => ?_⟩
    simp only [Kd.uns] at h
    split at h
    · exact ⟨(), rfl, h⟩
    · exact h.elim
  | cons a b iha ihb =>
    refine ⟨fun v f h => by simp [Kd.un] at h, fun l f h => ?_⟩
    simp only [Kd.uns] at h
    split at h
    · obtain ⟨x, hx, h⟩ := iha.1 _ _ h
      obtain ⟨y, hy, h⟩ := ihb.2 _ _ h
      exact ⟨(x, y), by simp [Kd.vals, hx, hy], h⟩
    · exact h.elim
  | tup ks ih =>
    refine ⟨fun v f h => ?_, fun l f h => by simp [Kd.uns] at h⟩
    simp only [Kd.un] at h
    split at h
    · obtain ⟨x, hx, h⟩ := ih.2 _ _ h
      exact ⟨x, by simp [Kd.val, hx], h⟩
    · exact h.elim
  | agg ks ih =>
    refine ⟨fun v f h => ?_, fun l f h => by simp [Kd.uns] at h⟩
    simp only [Kd.un] at h
    split at h
    · obtain ⟨x, hx, h⟩ := ih.2 _ _ h
      exact ⟨x, by simp [Kd.val, hx], h⟩
    · exact h.elim

/-! ### frames of which something is known -/
abbrev Fr := List (Option Value)

def sget : List (Option Value) → Nat → Option Value
  | [], _ => none
  | x :: _, 0 => x
  | _ :: r, t + 1 => sget r t
def sput : List (Option Value) → Nat → Value → List (Option Value)
  | [], _, _ => []
  | _ :: r, 0, v => some v :: r
  | x :: r, t + 1, v => x :: sput r t v

theorem sget_eq (l : List (Option Value)) (t : Nat) : sget l t = (l[t]?).join := by
  induction l generalizing t with
  | nil => simp [sget]
  | cons x r ih => cases t <;> simp [sget, ih]
theorem sput_eq (l : List (Option Value)) (t : Nat) (v : Value) : sput l t v = l.set t (some v) := by
  induction l generalizing t with
  | nil => simp [sput]
  | cons x r ih => cases t <;> simp [sput, ih]

def Fr.put (fr : Fr) (dst : Option Tmp) (v : Value) : Fr := match dst with | some d => sput fr d v | none => fr
def Fr.eval (fr : Fr) : Operand → Value
  | .tmp t => match sget fr t with | some v => v | none => undef
  | .const v => v
  | .global g => .pointer (some ⟨g, 0, none⟩)
  | .func f => .func (.func f) #[] #[]
def Fr.known (fr : Fr) : Operand → Bool
  | .tmp t => match sget fr t with | some _ => true | none => false
  | _ => true
def Fr.allKnown (fr : Fr) : List Operand → Bool
  | [] => true
  | x :: r => match Fr.known fr x with | true => Fr.allKnown fr r | false => false

structure Agree (D : List Deferred) (N : Nat) (fr : Fr) (a : Act) : Prop where
  len : fr.length = N
  size : fr.length = a.tmps.size
  defers : a.defers = D
  slot : ∀ t v, sget fr t = some v → a.tmps[t]? = some v

theorem Agree.put {D : List Deferred} {N : Nat} {fr : Fr} {a : Act} (h : Agree D N fr a) (dst : Option Tmp) (v : Value) : Agree D N (Fr.put fr dst v) (a.put dst v) := by
  cases dst with
  | none => exact h
  | some d =>
    refine ⟨by simp [Fr.put, sput_eq, h.len], by simp [Fr.put, Act.put, sput_eq, h.size], h.defers, fun t u ht => ?_⟩
    simp only [Fr.put, sput_eq, sget_eq, List.getElem?_set] at ht
    simp only [Act.put, Array.getElem?_setIfInBounds]
    by_cases hd : d = t
    · subst hd
      by_cases hl : d < fr.length
      · simp [hl] at ht; subst ht; simp [← h.size, hl]
      · simp [hl] at ht
    · simp only [hd, if_false] at ht ⊢
      exact h.slot t u (by rw [sget_eq]; exact ht)

theorem Agree.eval {D : List Deferred} {N : Nat} {fr : Fr} {a : Act} (h : Agree D N fr a) {x : Operand} (hx : Fr.known fr x = true) : a.eval x = (Fr.eval fr) x := by
  cases x with
  | tmp t =>
    simp only [Fr.known] at hx
    split at hx
    · rename_i v hv
      have := h.slot t v hv
      simp [Act.eval, Fr.eval, hv, Array.getD_eq_getD_getElem?, this]
    · cases hx
  | const v => rfl
  | global g => rfl
  | func f => rfl

theorem Fr.allKnown_mem {fr : Fr} : ∀ {l : List Operand}, Fr.allKnown fr l = true → ∀ x ∈ l, Fr.known fr x = true
  | [], _, x, hx => by cases hx
  | y :: r, h, x, hx => by
    unfold Fr.allKnown at h
    split at h
    · rename_i hy
      cases hx with
      | head => exact hy
      | tail _ hm => exact Fr.allKnown_mem h x hm
    · cases h

/-! ### the bits of numbers -/
def bitAnd (k : IntKind) (x y : Int) : Int := k.wrap (BitVec.ofInt k.bits x &&& BitVec.ofInt k.bits y).toNat
def bitOr (k : IntKind) (x y : Int) : Int := k.wrap (BitVec.ofInt k.bits x ||| BitVec.ofInt k.bits y).toNat
def bitXor (k : IntKind) (x y : Int) : Int := k.wrap (BitVec.ofInt k.bits x ^^^ BitVec.ofInt k.bits y).toNat
def bitAndNot (k : IntKind) (x y : Int) : Int := k.wrap (BitVec.ofInt k.bits x &&& ~~~BitVec.ofInt k.bits y).toNat

/-! ### what is asked of one operation -/
def CallK (P : Program) (kd : Kd) (f : FuncId) (args : Array Value) (w : World) (K : kd.T → World → Prop) : Prop :=
  Calls P f args w fun e w' => ∃ x, e = .returned (kd.val x) ∧ K x w'
def RunN (P : Program) (kd : Kd) (s : Sem Next) (w : World) (K : kd.T → World → Prop) : Prop :=
  ∃ x w', s.run P w = .ok (.value (kd.val x)) w' ∧ K x w'
def RunU (P : Program) (s : Sem Next) (w : World) (K : World → Prop) : Prop := ∃ w', s.run P w = .ok .skip w' ∧ K w'
/-- A value's run as an operation's. -/
def V (s : Sem Value) : Sem Next := do pure (.value (← s))
def U (s : Sem Unit) : Sem Next := do s; pure .skip
def SplitB (b : Bool) (A B : Prop) : Prop := match b with | true => A | false => B
theorem SplitB_iff {b : Bool} {A B : Prop} : SplitB b A B ↔ (b = true → A) ∧ (b = false → B) := by cases b <;> simp [SplitB]

def NilP (p : Option Addr) (F : Addr → Prop) : Prop := match p with | some a => F a | none => False

inductive Cls where
  | mv (x : Operand) | nilc (x : Operand) | run | eff (kd : Kd) | effU | bad

def nth {α : Type} (d : α) : List α → Nat → α
  | [], _ => d
  | x :: _, 0 => x
  | _ :: r, n + 1 => nth d r n
def look {α : Type} : List (Nat × α) → Nat → Option α
  | [], _ => none
  | (m, x) :: r, n => match Nat.beq m n with | true => some x | false => look r n

def isConst : Operand → Bool
  | .const _ => true
  | _ => false

def clsOf (κ : List Kd) (o : Oper) : Cls :=
  match o.op with
  | .move x | .assign x => .mv x
  | .pick .. | .unOp .. | .extract .. | .field .. | .fieldAddr .. | .makeFunc .. | .makeInterface .. => .run
  | .build t _ => match nth .raw κ t with | .raw => .eff .raw | _ => .run
  | .nilCheck x => .nilc x
  | .binOp op xt _ y _ => match nth .raw κ xt with
    | .int _ => match op with
      | .quo | .rem | .shl | .shr => match isConst y with | true => .run | false => .eff (nth .raw κ o.type)
      | _ => .run
    | .bool => .run
    | .str => match op with | .add => .eff .str | _ => .run
    | _ => .eff .bool
  | .convert s d _ => match nth .raw κ s, nth .raw κ d with
    | .int _, .int _ => .run
    | .str, .str => .run
    | _, k => .eff k
  | .call c => match c.callee with
    | .value _ => .run
    | .invoke .. => .run
    | .builtin b => match b with
      | .len | .cap => match nth .raw κ (c.argTypes.getD 0 0) with
        | .map => .eff (.int .i64)
        | .chan => .eff (.int .i64)
        | _ => .run
      | _ => .eff (nth .raw κ o.type)
  | .store .. | .mapUpdate .. | .insert .. | .entryStore .. => .effU
  | .load t _ => .eff (nth .raw κ t)
  | .alloc _ | .box .. | .indexAddr .. => .eff .addr
  | .buildSlice .. | .makeSlice .. => .eff .sl
  | .slice .. | .index .. | .lookup .. | .makeMap .. | .makeChan .. | .range .. | .next .. | .entry .. | .typeAssert .. | .mapEntry .. => .eff (nth .raw κ o.type)
  | _ => .bad

abbrev KF := Fr → World → Prop

def stepR (P : Program) (κ : List Kd) (o : Oper) (fr : Fr) (w : World) (K : KF) : Prop :=
  match (execOp (Fr.eval fr) o).run P w with
  | .ok (.value v) w' => K (Fr.put fr o.dst v) w'
  | .ok .skip w' => K (Fr.put fr o.dst undef) w'
  | .ok (.enter f args) w' => CallK P (nth .raw κ o.type) f args w' fun x w'' => K (Fr.put fr o.dst ((nth .raw κ o.type).val x)) w''
  | _ => False

def stepX (P : Program) (κ : List Kd) (o : Oper) (fr : Fr) (w : World) (K : KF) : Prop :=
  match Fr.allKnown fr o.op.operands.toList with
  | false => False
  | true => match clsOf κ o with
    | .mv x => K (Fr.put fr o.dst ((Fr.eval fr) x)) w
    | .nilc x => match (Fr.eval fr) x with
      | .pointer p => NilP p fun a => K (Fr.put fr o.dst (.pointer (some a))) w
      | _ => False
    | .run => stepR P κ o fr w K
    | .eff kd => RunN P kd (execOp (Fr.eval fr) o) w fun x w' => K (Fr.put fr o.dst (kd.val x)) w'
    | .effU => RunU P (execOp (Fr.eval fr) o) w fun w' => K (Fr.put fr o.dst undef) w'
    | .bad => False

def sameGuard (p : Option (Nat × Bool)) (j : Nat) (want : Bool) : Bool :=
  match p with
  | some (i, b) => match Nat.beq i j with | true => (match b with | true => want | false => !want) | false => false
  | none => false

def opsX (P : Program) (κ : List Kd) (ops : Array Oper) : List Oper → Option (Nat × Bool) → Fr → World → KF → Prop
  | [], _, fr, w, K => K fr w
  | o :: rest, prev, fr, w, K =>
    match o.guard with
    | none => stepX P κ o fr w fun fr w => opsX P κ ops rest none fr w K
    | some (j, want) =>
      match (ops[j]?).bind (·.dst) with
      | none => False
      | some d =>
        match sget fr d with
        | none => False
        | some (.bool b) =>
          match sameGuard prev j want with
          | true => match b, want with
            | true, true => stepX P κ o fr w fun fr w => opsX P κ ops rest (some (j, want)) fr w K
            | false, false => stepX P κ o fr w fun fr w => opsX P κ ops rest (some (j, want)) fr w K
            | _, _ => opsX P κ ops rest (some (j, want)) (Fr.put fr o.dst undef) w K
          | false => SplitB b
            (match want with
              | true => stepX P κ o (Fr.put fr (some d) (.bool true)) w fun fr w => opsX P κ ops rest (some (j, want)) fr w K
              | false => opsX P κ ops rest (some (j, want)) (Fr.put (Fr.put fr (some d) (.bool true)) o.dst undef) w K)
            (match want with
              | false => stepX P κ o (Fr.put fr (some d) (.bool false)) w fun fr w => opsX P κ ops rest (some (j, want)) fr w K
              | true => opsX P κ ops rest (some (j, want)) (Fr.put (Fr.put fr (some d) (.bool false)) o.dst undef) w K)
        | some _ => opsX P κ ops rest (some (j, want)) (Fr.put fr o.dst undef) w K

/-! ### the machine's side of one operation -/
def OpsWp (P : Program) (ops : Array Oper) (K : Act → World → Prop) (l : List Nat) (a : Act) (w : World) : Prop :=
  ∀ (b : Frame) (k : List Item) (cs : List Frame), ∃ a' w', K a' w' ∧ Steps P (lone (b.at a (.inRegion ops l :: k)) cs w) (lone (b.at a' k) cs w')

section
variable {P : Program} {ops : Array Oper} {K : Act → World → Prop} {a : Act} {w w' : World} {i : Nat} {rest : List Nat} {o : Oper}

theorem OpsWp.nil (h : K a w) : OpsWp P ops K [] a w := fun _ _ _ => ⟨a, w, h, .one step_region_end⟩

theorem fin_at (ho : ops[i]? = some o) (b : Frame) (k : List Item) (v : Value) :
    (b.at a (.inRegion ops (i :: rest) :: k)).finish v = b.at (a.put o.dst v) (.inRegion ops rest :: k) := by
  rw [Frame.finish_at, ho]; rfl

theorem OpsWp.skipped (ho : ops[i]? = some o) (hw : Region.wanted o (yielded ops a.tmps) = false) (h : OpsWp P ops K rest (a.put o.dst undef) w) : OpsWp P ops K (i :: rest) a w := by
  intro b k cs
  obtain ⟨a', w', hk, hs⟩ := h b k cs
  have h1 := step_op_skip (P := P) (b := b) (a := a) (k := k) (cs := cs) (w := w) (ops := ops) (i := i) (rest := rest) (by simp [ho, hw])
  simp only [ho, Option.bind_some] at h1
  exact ⟨a', w', hk, .head h1 hs⟩

theorem OpsWp.value {v : Value} (ho : ops[i]? = some o) (hw : Region.wanted o (yielded ops a.tmps) = true) (hr : (execOp a.eval o).run P w = .ok (.value v) w')
    (h : OpsWp P ops K rest (a.put o.dst v) w') : OpsWp P ops K (i :: rest) a w := by
  intro b k cs
  obtain ⟨a', w₂, hk, hs⟩ := h b k cs
  refine ⟨a', w₂, hk, .head (step_lone_go ?_) hs⟩
  rw [stepG_op ho hw, ← fin_at ho]; simp [stepG.apply, hr]

theorem OpsWp.skip (ho : ops[i]? = some o) (hw : Region.wanted o (yielded ops a.tmps) = true) (hr : (execOp a.eval o).run P w = .ok .skip w')
    (h : OpsWp P ops K rest (a.put o.dst undef) w') : OpsWp P ops K (i :: rest) a w := by
  intro b k cs
  obtain ⟨a', w₂, hk, hs⟩ := h b k cs
  refine ⟨a', w₂, hk, .head (step_lone_go ?_) hs⟩
  rw [stepG_op ho hw, ← fin_at ho]; simp [stepG.apply, hr]

theorem OpsWp.defer {d : Deferred} (ho : ops[i]? = some o) (hw : Region.wanted o (yielded ops a.tmps) = true) (hr : (execOp a.eval o).run P w = .ok (.defer d) w')
    (h : OpsWp P ops K rest (({ a with defers := d :: a.defers } : Act).put o.dst undef) w') : OpsWp P ops K (i :: rest) a w := by
  intro b k cs
  obtain ⟨a', w₂, hk, hs⟩ := h b k cs
  refine ⟨a', w₂, hk, .head (step_lone_go ?_) hs⟩
  have h2 : ({ b.at a (.inRegion ops (i :: rest) :: k) with defers := d :: a.defers } : Frame).finish undef =
      b.at ({ a with defers := d :: a.defers }.put o.dst undef) (.inRegion ops rest :: k) := by
    have := Frame.finish_at b { a with defers := d :: a.defers } ops i rest k undef
    rw [ho] at this; exact this
  rw [stepG_op ho hw]; simp only [stepG.apply, Sem.runT_eq, hr, GStep.bare_after]
  exact congrArg (fun fr => GStep.go { frame := fr, callers := cs, status := .running, dying := none } w') h2

theorem OpsWp.enter {f : FuncId} {args : Array Value} (ho : ops[i]? = some o) (hw : Region.wanted o (yielded ops a.tmps) = true) (hr : (execOp a.eval o).run P w = .ok (.enter f args) w')
    (h : Calls P f args w' fun e w'' => ∃ v, e = .returned v ∧ OpsWp P ops K rest (a.put o.dst v) w'') : OpsWp P ops K (i :: rest) a w := by
  intro b k cs
  obtain ⟨e, w'', fr, ⟨v, rfl, hR⟩, hsteps, _, hleave⟩ := h (b.at a (.inRegion ops (i :: rest) :: k) :: cs)
  have henter : step P (lone (b.at a (.inRegion ops (i :: rest) :: k)) cs w) =
      .next (lone (Frame.enter P f args .normal) (b.at a (.inRegion ops (i :: rest) :: k) :: cs) w') :=
    step_lone_go (by rw [stepG_op ho hw]; simp [stepG.apply, hr, Frame.at])
  obtain ⟨a', w₃, hk, hs⟩ := hR b k cs
  refine ⟨a', w₃, hk, .head henter (Steps.trans hsteps (.head ?_ hs))⟩
  rw [← fin_at ho]; exact step_leave_returned hleave
end

theorem wp_of_opsWp {P : Program} {ops : Array Oper} {id : Nat} {Q : Exit → Act → World → Prop} {a : Act} {w : World}
    (h : OpsWp P ops (Q .normal) (List.range ops.size) a w) : (Code.region id ops false).wp P Q a w := fun b k cs =>
  let ⟨a', w', hk, hs⟩ := h b k cs; ⟨.normal, a', w', hk, .head step_region hs⟩

/-! ### an operation's proposition is enough -/
section
variable {D : List Deferred} {N : Nat} {P : Program} {κ : List Kd} {ops : Array Oper} {i : Nat} {rest : List Nat} {o : Oper} {fr : Fr} {a : Act} {w : World} {K : KF} {K' : Act → World → Prop}

theorem stepX_sound (ha : Agree D N fr a) (ho : ops[i]? = some o) (hw : Region.wanted o (yielded ops a.tmps) = true)
    (hnext : ∀ fr' v w', Agree D N fr' (a.put o.dst v) → K fr' w' → OpsWp P ops K' rest (a.put o.dst v) w') (h : stepX P κ o fr w K) : OpsWp P ops K' (i :: rest) a w := by
  unfold stepX at h
  split at h
  · exact h.elim
  · rename_i hk
    have hmem := Fr.allKnown_mem hk
    have hcls : clsOf κ o ≠ .bad → execOp a.eval o = execOp (Fr.eval fr) o := by
      intro hb
      refine execOp_congr o ?_ fun x hx => ha.eval (hmem x (by simpa using hx))
      intro cs bl e
      exact hb (by simp [clsOf, e])
    split at h
    · rename_i x hc
      have he := hcls (by simp [hc])
      have hx : execOp (Fr.eval fr) o = pure (.value ((Fr.eval fr) x)) := by
        unfold clsOf at hc
        split at hc <;> (try cases hc) <;> (try (split at hc <;> (try cases hc) <;> (try (split at hc <;> (try cases hc) <;> (try (split at hc <;> cases hc))))))
        all_goals (simp [execOp, *])
      exact .value ho hw (by rw [he, hx]; rfl) (hnext _ _ _ (ha.put _ _) h)
    · rename_i x hc
      have he := hcls (by simp [hc])
      have hop : o.op = .nilCheck x := by
        unfold clsOf at hc
        split at hc <;> (try cases hc) <;> (try (split at hc <;> (try cases hc) <;> (try (split at hc <;> (try cases hc) <;> (try (split at hc <;> cases hc))))))
        all_goals assumption
      split at h
      · rename_i p hp
        cases p with
        | none => exact h.elim
        | some b =>
          have hx : execOp (Fr.eval fr) o = pure (.value (.pointer (some b))) := by simp [execOp, hop, hp]
          exact .value ho hw (by rw [he, hx]; rfl) (hnext _ _ _ (ha.put _ _) h)
      · exact h.elim
    · rename_i hc
      have he := hcls (by simp [hc])
      unfold stepR at h
      rw [← he] at h
      split at h
      · exact .value ho hw ‹_› (hnext _ _ _ (ha.put _ _) h)
      · exact .skip ho hw ‹_› (hnext _ _ _ (ha.put _ _) h)
      · refine .enter ho hw ‹_› (Calls.mono h ?_)
        rintro e w' ⟨x, rfl, hx⟩
        exact ⟨_, rfl, hnext _ _ _ (ha.put _ _) hx⟩
      · exact h.elim
    · rename_i hc
      have he := hcls (by simp [hc])
      obtain ⟨x, w', hr, h⟩ := h
      rw [← he] at hr
      exact .value ho hw hr (hnext _ _ _ (ha.put _ _) h)
    · rename_i hc
      have he := hcls (by simp [hc])
      obtain ⟨w', hr, h⟩ := h
      rw [← he] at hr
      exact .skip ho hw hr (hnext _ _ _ (ha.put _ _) h)
    · exact h.elim
end

/-! ### the slots that a piece of code writes -/
def asgOps : List Oper → Nat → Bool
  | [], _ => false
  | o :: r, t => match o.dst with
    | some d => (match Nat.beq d t with | true => true | false => asgOps r t)
    | none => asgOps r t
def asg : Code → Nat → Bool
  | .region _ ops _, t => asgOps ops.toList t
  | .seq a b, t => match asg a t with | true => true | false => asg b t
  | .cond _ a b, t => match asg a t with | true => true | false => asg b t
  | .block _ b, t => asg b t
  | .loop b, t => asg b t
  | .scope b, t => asg b t
  | _, _ => false
def keepU (f : Nat → Bool) : Nat → List (Option Value) → List (Option Value)
  | _, [] => []
  | i, x :: r => (match f i with | true => none | false => x) :: keepU f (i + 1) r
def Same (f : Nat → Bool) (a a' : Act) : Prop := ∀ t, f t = false → a'.tmps[t]? = a.tmps[t]?
theorem Same.refl (f : Nat → Bool) (a : Act) : Same f a a := fun _ _ => rfl
theorem Same.trans {f : Nat → Bool} {a b c : Act} (h : Same f a b) (h' : Same f b c) : Same f a c := fun t ht => (h' t ht).trans (h t ht)
theorem Same.put {f : Nat → Bool} {a : Act} {dst : Option Tmp} (h : ∀ d, dst = some d → f d = true) (v : Value) : Same f a (a.put dst v) := by
  intro t ht
  cases dst with
  | none => rfl
  | some d =>
    have hd := h d rfl
    have hne : d ≠ t := fun e => by rw [e, ht] at hd; cases hd
    simp only [Act.put]
    rw [Array.getElem?_setIfInBounds_ne hne]
theorem Same.weaken {f g : Nat → Bool} {a a' : Act} (h : Same f a a') (hfg : ∀ t, g t = false → f t = false) : Same g a a' := fun t ht => h t (hfg t ht)
theorem asgOps_mem {l : List Oper} {o : Oper} {d : Nat} (hm : o ∈ l) (hd : o.dst = some d) : asgOps l d = true := by
  induction l with
  | nil => cases hm
  | cons x r ih =>
    simp only [asgOps]
    rcases List.mem_cons.1 hm with e | hm
    · subst e
      simp only [hd, Nat.beq_refl]
    · have ih := ih hm
      cases hx : x.dst with
      | none => exact ih
      | some e =>
        simp only
        cases hb : Nat.beq e d with
        | true => rfl
        | false => exact ih
theorem keepU_len (f : Nat → Bool) : ∀ (i : Nat) (s : List (Option Value)), (keepU f i s).length = s.length
  | _, [] => rfl
  | i, _ :: r => by simp [keepU, keepU_len f (i + 1) r]
theorem keepU_get (f : Nat → Bool) : ∀ (s : List (Option Value)) (i t : Nat) (v : Value), sget (keepU f i s) t = some v → f (i + t) = false ∧ sget s t = some v
  | [], i, t, v, h => by simp [keepU, sget] at h
  | x :: r, i, 0, v, h => by
    simp only [keepU, sget] at h
    split at h
    · cases h
    · rename_i hf; exact ⟨by simpa using hf, by simpa [sget] using h⟩
  | x :: r, i, t + 1, v, h => by
    simp only [keepU, sget] at h
    have := keepU_get f r (i + 1) t v h
    exact ⟨by rw [← this.1]; congr 1; omega, by simpa [sget] using this.2⟩

theorem Agree.same {D : List Deferred} {N : Nat} {fr : Fr} {a : Act} (h : Agree D N fr a) {d : Nat} {v : Value} (hd : sget fr d = some v) : Agree D N (Fr.put fr (some d) v) a := by
  refine ⟨by simp [Fr.put, sput_eq, h.len], by simp [Fr.put, sput_eq, h.size], h.defers, fun t u ht => ?_⟩
  simp only [Fr.put, sput_eq, sget_eq, List.getElem?_set] at ht
  by_cases hdt : d = t
  · subst hdt
    by_cases hl : d < fr.length
    · simp [hl] at ht; subst ht; exact h.slot _ _ hd
    · simp [hl] at ht
  · simp only [hdt, if_false] at ht
    exact h.slot t u (by rw [sget_eq]; exact ht)

section
variable {D : List Deferred} {N : Nat} {P : Program} {κ : List Kd} {ops : Array Oper}

theorem wanted_of {o : Oper} {fr : Fr} {a : Act} (ha : Agree D N fr a) {j d : Nat} {want : Bool} {v : Value} (hg : o.guard = some (j, want))
    (hd : (ops[j]?).bind (·.dst) = some d) (hv : sget fr d = some v) :
    Region.wanted o (yielded ops a.tmps) = (match v with | .bool b => b == want | _ => false) := by
  have h1 := ha.slot _ _ hv
  simp only [Region.wanted, hg, yielded, hd, Option.bind_some, h1]
  cases v <;> simp

theorem opsX_sound : ∀ (l : List Oper) (k : Nat) (prev : Option (Nat × Bool)) (fr : Fr) (a : Act) (w : World) (K : KF) (f : Nat → Bool), (∀ j, l[j]? = ops[k + j]?) → (∀ o ∈ l, ∀ d, o.dst = some d → f d = true) → Agree D N fr a →
    opsX P κ ops l prev fr w K → OpsWp P ops (fun a' w' => ∃ fr', Agree D N fr' a' ∧ Same f a a' ∧ K fr' w') (List.range' k l.length) a w := by
  intro l
  induction l with
  | nil => intro k prev fr a w K f _ _ ha h; exact .nil ⟨fr, ha, Same.refl _ _, h⟩
  | cons o rest ih =>
    intro k prev fr a w K f hl hf ha h
    have hf' : ∀ o ∈ rest, ∀ d, o.dst = some d → f d = true := fun o' ho' => hf o' (List.mem_cons_of_mem _ ho')
    have put : ∀ v, Same f a (a.put o.dst v) := fun v => Same.put (hf o (List.mem_cons_self ..)) v
    have via : ∀ v w' (prev : Option (Nat × Bool)) (fr' : Fr), Agree D N fr' (a.put o.dst v) → opsX P κ ops rest prev fr' w' K →
        OpsWp P ops (fun a' w' => ∃ fr', Agree D N fr' a' ∧ Same f a a' ∧ K fr' w') (List.range' (k + 1) rest.length) (a.put o.dst v) w' := by
      intro v w' prev fr' ha' hk b k' cs
      obtain ⟨a', w₂, ⟨fr'', h1, h2, h3⟩, hs⟩ := ih (k + 1) prev fr' _ w' K f (fun j => by have := hl (j + 1); simpa [Nat.add_assoc, Nat.add_comm 1 j] using this) hf' ha' hk b k' cs
      exact ⟨a', w₂, ⟨fr'', h1, (put v).trans h2, h3⟩, hs⟩
    have ho : ops[k]? = some o := by simpa using (hl 0).symm
    simp only [List.length_cons, List.range'_succ]
    unfold opsX at h
    split at h
    · rename_i hg
      exact stepX_sound ha ho (by simp [Region.wanted, hg]) (fun fr' v w' ha' hk => via v w' _ fr' ha' hk) h
    · rename_i j want hg
      split at h
      · exact h.elim
      · rename_i d hd
        have next := fun fr' v w' ha' hk => via v w' (some (j, want)) fr' ha' hk
        split at h
        · exact h.elim
        · rename_i b hb
          have hw := wanted_of (o := o) ha hg hd hb
          simp only at hw
          split at h
          · split at h
            · exact stepX_sound ha ho (by rw [hw]; rfl) next h
            · exact stepX_sound ha ho (by rw [hw]; rfl) next h
            · rename_i hne1 hne2
              refine .skipped ho (by rw [hw]; cases b <;> cases want <;> simp_all) (next _ _ _ (ha.put _ _) h)
          · rw [SplitB_iff] at h
            cases b with
            | true =>
              have h := h.1 rfl
              have ha' := ha.same hb
              split at h
              · exact stepX_sound ha' ho (by rw [hw]; rfl) next h
              · exact .skipped ho (by rw [hw]; rfl) (next _ _ _ (ha'.put _ _) h)
            | false =>
              have h := h.2 rfl
              have ha' := ha.same hb
              split at h
              · exact stepX_sound ha' ho (by rw [hw]; rfl) next h
              · exact .skipped ho (by rw [hw]; rfl) (next _ _ _ (ha'.put _ _) h)
        · rename_i v hb hv
          refine .skipped ho ?_ (next _ _ _ (ha.put _ _) h)
          rw [wanted_of (o := o) ha hg hd hv]
          cases v <;> first | rfl | (rename_i x; exact absurd rfl (hb x))
end

end Go.Fw
