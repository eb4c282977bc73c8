/- Words and steps, part 1: A reader of the translation's code: a piece of code is turned into a plain proposition in continuation style, and the proposition implies the kit's contract. No program in sight. A region that draws its order: one reading in the order of the text serves every order, if what is written comes in one chain and what is read is the same wherever it may be read. Whole pieces of code, and whole functions. -/
import Derived.Calls
import Derived.OwnWalk
import Derived.Orders
import Derived.KernelRfl
import Derived.Laws.World
/- A reader of the translation's code: a piece of code is turned into a plain proposition in continuation style, and the proposition implies the kit's contract. No program in sight. -/
namespace Go.Fw
open Go

/-! ### kinds -/
structure Sl where
  a : Option Addr
  len : Nat
  cap : Nat

inductive Kd where
  | int (k : IntKind) | bool | str | sl | ptr | addr | map | chan | raw | nilT
  | cons (hd tl : Kd) | tup (ks : Kd) | agg (ks : Kd)

@[reducible] def Kd.T : Kd → Type
  | .int _ => Int | .bool => Bool | .str => ByteArray | .sl => Sl | .ptr => Option Addr | .addr => Addr
  | .map => Option Nat | .chan => Option Nat | .raw => Value | .nilT => Unit
  | .cons a b => a.T × b.T | .tup ks => ks.T | .agg ks => ks.T

mutual
def Kd.val : (k : Kd) → k.T → Value
  | .int k, x => .int k x | .bool, x => .bool x | .str, x => .string x | .sl, x => .slice x.a x.len x.cap
  | .ptr, x => .pointer x | .addr, x => .pointer (some x) | .map, x => .map x | .chan, x => .chan x | .raw, x => x
  | .nilT, _ => undef | .cons _ _, _ => undef
  | .tup ks, x => .tuple ⟨ks.vals x⟩ | .agg ks, x => .agg ⟨ks.vals x⟩
def Kd.vals : (k : Kd) → k.T → List Value
  | .cons a b, x => a.val x.1 :: b.vals x.2
  | _, _ => []
end

/-- A value of the wanted form, taken apart. -/
def unvalI (k : IntKind) (v : Value) (f : Int → Prop) : Prop := match v with | .int k' x => (match decide (k' = k) with | true => f x | false => False) | _ => False
mutual
def Kd.un : (k : Kd) → Value → (k.T → Prop) → Prop
  | .int k, v, f => unvalI k v f
  | .bool, v, f => match v with | .bool b => f b | _ => False
  | .str, v, f => match v with | .string b => f b | _ => False
  | .sl, v, f => match v with | .slice a l c => f ⟨a, l, c⟩ | _ => False
  | .ptr, v, f => match v with | .pointer a => f a | _ => False
  | .addr, v, f => match v with | .pointer (some a) => f a | _ => False
  | .map, v, f => match v with | .map a => f a | _ => False
  | .chan, v, f => match v with | .chan a => f a | _ => False
  | .raw, v, f => f v
  | .nilT, _, _ => False
  | .cons _ _, _, _ => False
  | .tup ks, v, f => match v with | .tuple ⟨l⟩ => ks.uns l f | _ => False
  | .agg ks, v, f => match v with | .agg ⟨l⟩ => ks.uns l f | _ => False
def Kd.uns : (k : Kd) → List Value → (k.T → Prop) → Prop
  | .cons a b, l, f => match l with | v :: r => a.un v fun x => b.uns r fun y => f (x, y) | [] => False
  | .nilT, l, f => match l with | [] => f () | _ => False
  | _, _, _ => False
end

theorem Kd.un_uns : ∀ k : Kd, (∀ v f, k.un v f → ∃ x, k.val x = v ∧ f x) ∧ (∀ l f, k.uns l f → ∃ x, k.vals x = l ∧ f x) := by
  intro k
  induction k with
  | int k =>
    refine ⟨fun v f h => ?_, fun l f h => by simp [Kd.uns] at h⟩
    simp only [Kd.un, unvalI] at h
    split at h
    · rename_i k' x
      by_cases hk : k' = k
      · subst hk; simp at h; exact ⟨x, rfl, h⟩
      · simp [hk] at h
    · exact h.elim
  | bool | str | ptr | map | chan =>
    refine ⟨fun v f h => ?_, fun l f h => by simp [Kd.uns] at h⟩
    simp only [Kd.un] at h
    split at h
    · exact ⟨_, rfl, h⟩
    · exact h.elim
  | sl =>
    refine ⟨fun v f h => ?_, fun l f h => by simp [Kd.uns] at h⟩
    simp only [Kd.un] at h
    split at h
    · exact ⟨_, rfl, h⟩
    · exact h.elim
  | addr =>
    refine ⟨fun v f h => ?_, fun l f h => by simp [Kd.uns] at h⟩
    simp only [Kd.un] at h
    split at h
    · exact ⟨_, rfl, h⟩
    · exact h.elim
  | raw => exact ⟨fun v f h => ⟨v, rfl, h⟩, fun l f h => by simp [Kd.uns] at h⟩
  | nilT =>
    refine ⟨fun v f h => by simp [Kd.un] at h, fun l f h => ?_⟩
    simp only [Kd.uns] at h
    split at h
    · exact ⟨(), rfl, h⟩
    · exact h.elim
  | cons a b iha ihb =>
    refine ⟨fun v f h => by simp [Kd.un] at h, fun l f h => ?_⟩
    simp only [Kd.uns] at h
    split at h
    · obtain ⟨x, hx, h⟩ := iha.1 _ _ h
      obtain ⟨y, hy, h⟩ := ihb.2 _ _ h
      exact ⟨(x, y), by simp [Kd.vals, hx, hy], h⟩
    · exact h.elim
  | tup ks ih =>
    refine ⟨fun v f h => ?_, fun l f h => by simp [Kd.uns] at h⟩
    simp only [Kd.un] at h
    split at h
    · obtain ⟨x, hx, h⟩ := ih.2 _ _ h
      exact ⟨x, by simp [Kd.val, hx], h⟩
    · exact h.elim
  | agg ks ih =>
    refine ⟨fun v f h => ?_, fun l f h => by simp [Kd.uns] at h⟩
    simp only [Kd.un] at h
    split at h
    · obtain ⟨x, hx, h⟩ := ih.2 _ _ h
      exact ⟨x, by simp [Kd.val, hx], h⟩
    · exact h.elim

/-! ### frames of which something is known -/
abbrev Fr := List (Option Value)

def sget : List (Option Value) → Nat → Option Value
  | [], _ => none
  | x :: _, 0 => x
  | _ :: r, t + 1 => sget r t
def sput : List (Option Value) → Nat → Value → List (Option Value)
  | [], _, _ => []
  | _ :: r, 0, v => some v :: r
  | x :: r, t + 1, v => x :: sput r t v

theorem sget_eq (l : List (Option Value)) (t : Nat) : sget l t = (l[t]?).join := by
  induction l generalizing t with
  | nil => simp [sget]
  | cons x r ih => cases t <;> simp [sget, ih]
theorem sput_eq (l : List (Option Value)) (t : Nat) (v : Value) : sput l t v = l.set t (some v) := by
  induction l generalizing t with
  | nil => simp [sput]
  | cons x r ih => cases t <;> simp [sput, ih]

def Fr.put (fr : Fr) (dst : Option Tmp) (v : Value) : Fr := match dst with | some d => sput fr d v | none => fr
def Fr.eval (fr : Fr) : Operand → Value
  | .tmp t => match sget fr t with | some v => v | none => undef
  | .const v => v
  | .global g => .pointer (some ⟨g, 0, none⟩)
  | .func f => .func (.func f) #[] #[]
def Fr.known (fr : Fr) : Operand → Bool
  | .tmp t => match sget fr t with | some _ => true | none => false
  | _ => true
def Fr.allKnown (fr : Fr) : List Operand → Bool
  | [] => true
  | x :: r => match Fr.known fr x with | true => Fr.allKnown fr r | false => false

structure Agree (D : List Deferred) (N : Nat) (fr : Fr) (a : Act) : Prop where
  len : fr.length = N
  size : fr.length = a.tmps.size
  defers : a.defers = D
  slot : ∀ t v, sget fr t = some v → a.tmps[t]? = some v

theorem Agree.put {D : List Deferred} {N : Nat} {fr : Fr} {a : Act} (h : Agree D N fr a) (dst : Option Tmp) (v : Value) : Agree D N (Fr.put fr dst v) (a.put dst v) := by
  cases dst with
  | none => exact h
  | some d =>
    refine ⟨by simp [Fr.put, sput_eq, h.len], by simp [Fr.put, Act.put, sput_eq, h.size], h.defers, fun t u ht => ?_⟩
    simp only [Fr.put, sput_eq, sget_eq, List.getElem?_set] at ht
    simp only [Act.put, Array.getElem?_setIfInBounds]
    by_cases hd : d = t
    · subst hd
      by_cases hl : d < fr.length
      · simp [hl] at ht; subst ht; simp [← h.size, hl]
      · simp [hl] at ht
    · simp only [hd, if_false] at ht ⊢
      exact h.slot t u (by rw [sget_eq]; exact ht)

theorem Agree.eval {D : List Deferred} {N : Nat} {fr : Fr} {a : Act} (h : Agree D N fr a) {x : Operand} (hx : Fr.known fr x = true) : a.eval x = (Fr.eval fr) x := by
  cases x with
  | tmp t =>
    simp only [Fr.known] at hx
    split at hx
    · rename_i v hv
      have := h.slot t v hv
      simp [Act.eval, Fr.eval, hv, Array.getD_eq_getD_getElem?, this]
    · cases hx
  | const v => rfl
  | global g => rfl
  | func f => rfl

theorem Fr.allKnown_mem {fr : Fr} : ∀ {l : List Operand}, Fr.allKnown fr l = true → ∀ x ∈ l, Fr.known fr x = true
  | [], _, x, hx => by cases hx
  | y :: r, h, x, hx => by
    unfold Fr.allKnown at h
    split at h
    · rename_i hy
      cases hx with
      | head => exact hy
      | tail _ hm => exact Fr.allKnown_mem h x hm
    · cases h

/-! ### the bits of numbers -/
def bitAnd (k : IntKind) (x y : Int) : Int := k.wrap (BitVec.ofInt k.bits x &&& BitVec.ofInt k.bits y).toNat
def bitOr (k : IntKind) (x y : Int) : Int := k.wrap (BitVec.ofInt k.bits x ||| BitVec.ofInt k.bits y).toNat
def bitXor (k : IntKind) (x y : Int) : Int := k.wrap (BitVec.ofInt k.bits x ^^^ BitVec.ofInt k.bits y).toNat
def bitAndNot (k : IntKind) (x y : Int) : Int := k.wrap (BitVec.ofInt k.bits x &&& ~~~BitVec.ofInt k.bits y).toNat

/-! ### what is asked of one operation -/
def CallK (P : Program) (kd : Kd) (f : FuncId) (args : Array Value) (w : World) (K : kd.T → World → Prop) : Prop :=
  Calls P f args w fun e w' => ∃ x, e = .returned (kd.val x) ∧ K x w'
def RunN (P : Program) (kd : Kd) (s : Sem Next) (w : World) (K : kd.T → World → Prop) : Prop :=
  ∃ x w', s.run P w = .ok (.value (kd.val x)) w' ∧ K x w'
def RunU (P : Program) (s : Sem Next) (w : World) (K : World → Prop) : Prop := ∃ w', s.run P w = .ok .skip w' ∧ K w'
/-- A value's run as an operation's. -/
def V (s : Sem Value) : Sem Next := do pure (.value (← s))
def U (s : Sem Unit) : Sem Next := do s; pure .skip
def SplitB (b : Bool) (A B : Prop) : Prop := match b with | true => A | false => B
theorem SplitB_iff {b : Bool} {A B : Prop} : SplitB b A B ↔ (b = true → A) ∧ (b = false → B) := by cases b <;> simp [SplitB]

def NilP (p : Option Addr) (F : Addr → Prop) : Prop := match p with | some a => F a | none => False

inductive Cls where
  | mv (x : Operand) | nilc (x : Operand) | run | eff (kd : Kd) | effU | bad

def nth {α : Type} (d : α) : List α → Nat → α
  | [], _ => d
  | x :: _, 0 => x
  | _ :: r, n + 1 => nth d r n
def look {α : Type} : List (Nat × α) → Nat → Option α
  | [], _ => none
  | (m, x) :: r, n => match Nat.beq m n with | true => some x | false => look r n

def isConst : Operand → Bool
  | .const _ => true
  | _ => false

def clsOf (κ : List Kd) (o : Oper) : Cls :=
  match o.op with
  | .move x | .assign x => .mv x
  | .pick .. | .unOp .. | .extract .. | .field .. | .fieldAddr .. | .makeFunc .. | .makeInterface .. => .run
  | .build t _ => match nth .raw κ t with | .raw => .eff .raw | _ => .run
  | .nilCheck x => .nilc x
  | .binOp op xt _ y _ => match nth .raw κ xt with
    | .int _ => match op with
      | .quo | .rem | .shl | .shr => match isConst y with | true => .run | false => .eff (nth .raw κ o.type)
      | _ => .run
    | .bool => .run
    | .str => match op with | .add => .eff .str | _ => .run
    | _ => .eff .bool
  | .convert s d _ => match nth .raw κ s, nth .raw κ d with
    | .int _, .int _ => .run
    | .str, .str => .run
    | _, k => .eff k
  | .call c => match c.callee with
    | .value _ => .run
    | .invoke .. => .run
    | .builtin b => match b with
      | .len | .cap => match nth .raw κ (c.argTypes.getD 0 0) with
        | .map => .eff (.int .i64)
        | .chan => .eff (.int .i64)
        | _ => .run
      | _ => .eff (nth .raw κ o.type)
  | .store .. | .mapUpdate .. | .insert .. | .entryStore .. => .effU
  | .load t _ => .eff (nth .raw κ t)
  | .alloc _ | .box .. | .indexAddr .. => .eff .addr
  | .buildSlice .. | .makeSlice .. => .eff .sl
  | .slice .. | .index .. | .lookup .. | .makeMap .. | .makeChan .. | .range .. | .next .. | .entry .. | .typeAssert .. | .mapEntry .. => .eff (nth .raw κ o.type)
  | _ => .bad

abbrev KF := Fr → World → Prop

def stepR (P : Program) (κ : List Kd) (o : Oper) (fr : Fr) (w : World) (K : KF) : Prop :=
  match (execOp (Fr.eval fr) o).run P w with
  | .ok (.value v) w' => K (Fr.put fr o.dst v) w'
  | .ok .skip w' => K (Fr.put fr o.dst undef) w'
  | .ok (.enter f args) w' => CallK P (nth .raw κ o.type) f args w' fun x w'' => K (Fr.put fr o.dst ((nth .raw κ o.type).val x)) w''
  | _ => False

def stepX (P : Program) (κ : List Kd) (o : Oper) (fr : Fr) (w : World) (K : KF) : Prop :=
  match Fr.allKnown fr o.op.operands.toList with
  | false => False
  | true => match clsOf κ o with
    | .mv x => K (Fr.put fr o.dst ((Fr.eval fr) x)) w
    | .nilc x => match (Fr.eval fr) x with
      | .pointer p => NilP p fun a => K (Fr.put fr o.dst (.pointer (some a))) w
      | _ => False
    | .run => stepR P κ o fr w K
    | .eff kd => RunN P kd (execOp (Fr.eval fr) o) w fun x w' => K (Fr.put fr o.dst (kd.val x)) w'
    | .effU => RunU P (execOp (Fr.eval fr) o) w fun w' => K (Fr.put fr o.dst undef) w'
    | .bad => False

def sameGuard (p : Option (Nat × Bool)) (j : Nat) (want : Bool) : Bool :=
  match p with
  | some (i, b) => match Nat.beq i j with | true => (match b with | true => want | false => !want) | false => false
  | none => false

def opsX (P : Program) (κ : List Kd) (ops : Array Oper) : List Oper → Option (Nat × Bool) → Fr → World → KF → Prop
  | [], _, fr, w, K => K fr w
  | o :: rest, prev, fr, w, K =>
    match o.guard with
    | none => stepX P κ o fr w fun fr w => opsX P κ ops rest none fr w K
    | some (j, want) =>
      match (ops[j]?).bind (·.dst) with
      | none => False
      | some d =>
        match sget fr d with
        | none => False
        | some (.bool b) =>
          match sameGuard prev j want with
          | true => match b, want with
            | true, true => stepX P κ o fr w fun fr w => opsX P κ ops rest (some (j, want)) fr w K
            | false, false => stepX P κ o fr w fun fr w => opsX P κ ops rest (some (j, want)) fr w K
            | _, _ => opsX P κ ops rest (some (j, want)) (Fr.put fr o.dst undef) w K
          | false => SplitB b
            (match want with
              | true => stepX P κ o (Fr.put fr (some d) (.bool true)) w fun fr w => opsX P κ ops rest (some (j, want)) fr w K
              | false => opsX P κ ops rest (some (j, want)) (Fr.put (Fr.put fr (some d) (.bool true)) o.dst undef) w K)
            (match want with
              | false => stepX P κ o (Fr.put fr (some d) (.bool false)) w fun fr w => opsX P κ ops rest (some (j, want)) fr w K
              | true => opsX P κ ops rest (some (j, want)) (Fr.put (Fr.put fr (some d) (.bool false)) o.dst undef) w K)
        | some _ => opsX P κ ops rest (some (j, want)) (Fr.put fr o.dst undef) w K

/-! ### the machine's side of one operation -/
def OpsWp (P : Program) (ops : Array Oper) (K : Act → World → Prop) (l : List Nat) (a : Act) (w : World) : Prop :=
  ∀ (b : Frame) (k : List Item) (cs : List Frame), ∃ a' w', K a' w' ∧ Steps P (lone (b.at a (.inRegion ops l :: k)) cs w) (lone (b.at a' k) cs w')

section
variable {P : Program} {ops : Array Oper} {K : Act → World → Prop} {a : Act} {w w' : World} {i : Nat} {rest : List Nat} {o : Oper}

theorem OpsWp.nil (h : K a w) : OpsWp P ops K [] a w := fun _ _ _ => ⟨a, w, h, .one step_region_end⟩

theorem fin_at (ho : ops[i]? = some o) (b : Frame) (k : List Item) (v : Value) :
    (b.at a (.inRegion ops (i :: rest) :: k)).finish v = b.at (a.put o.dst v) (.inRegion ops rest :: k) := by
  rw [Frame.finish_at, ho]; rfl

theorem OpsWp.skipped (ho : ops[i]? = some o) (hw : Region.wanted o (yielded ops a.tmps) = false) (h : OpsWp P ops K rest (a.put o.dst undef) w) : OpsWp P ops K (i :: rest) a w := by
  intro b k cs
  obtain ⟨a', w', hk, hs⟩ := h b k cs
  have h1 := step_op_skip (P := P) (b := b) (a := a) (k := k) (cs := cs) (w := w) (ops := ops) (i := i) (rest := rest) (by simp [ho, hw])
  simp only [ho, Option.bind_some] at h1
  exact ⟨a', w', hk, .head h1 hs⟩

theorem OpsWp.value {v : Value} (ho : ops[i]? = some o) (hw : Region.wanted o (yielded ops a.tmps) = true) (hr : (execOp a.eval o).run P w = .ok (.value v) w')
    (h : OpsWp P ops K rest (a.put o.dst v) w') : OpsWp P ops K (i :: rest) a w := by
  intro b k cs
  obtain ⟨a', w₂, hk, hs⟩ := h b k cs
  refine ⟨a', w₂, hk, .head (step_lone_go ?_) hs⟩
  rw [stepG_op ho hw, ← fin_at ho]; simp [stepG.apply, hr]

theorem OpsWp.skip (ho : ops[i]? = some o) (hw : Region.wanted o (yielded ops a.tmps) = true) (hr : (execOp a.eval o).run P w = .ok .skip w')
    (h : OpsWp P ops K rest (a.put o.dst undef) w') : OpsWp P ops K (i :: rest) a w := by
  intro b k cs
  obtain ⟨a', w₂, hk, hs⟩ := h b k cs
  refine ⟨a', w₂, hk, .head (step_lone_go ?_) hs⟩
  rw [stepG_op ho hw, ← fin_at ho]; simp [stepG.apply, hr]

theorem OpsWp.defer {d : Deferred} (ho : ops[i]? = some o) (hw : Region.wanted o (yielded ops a.tmps) = true) (hr : (execOp a.eval o).run P w = .ok (.defer d) w')
    (h : OpsWp P ops K rest (({ a with defers := d :: a.defers } : Act).put o.dst undef) w') : OpsWp P ops K (i :: rest) a w := by
  intro b k cs
  obtain ⟨a', w₂, hk, hs⟩ := h b k cs
  refine ⟨a', w₂, hk, .head (step_lone_go ?_) hs⟩
  have h2 : ({ b.at a (.inRegion ops (i :: rest) :: k) with defers := d :: a.defers } : Frame).finish undef =
      b.at ({ a with defers := d :: a.defers }.put o.dst undef) (.inRegion ops rest :: k) := by
    have := Frame.finish_at b { a with defers := d :: a.defers } ops i rest k undef
    rw [ho] at this; exact this
  rw [stepG_op ho hw]; simp only [stepG.apply, Sem.runT_eq, hr, GStep.bare_after]
  exact congrArg (fun fr => GStep.go { frame := fr, callers := cs, status := .running, dying := none } w') h2

theorem OpsWp.enter {f : FuncId} {args : Array Value} (ho : ops[i]? = some o) (hw : Region.wanted o (yielded ops a.tmps) = true) (hr : (execOp a.eval o).run P w = .ok (.enter f args) w')
    (h : Calls P f args w' fun e w'' => ∃ v, e = .returned v ∧ OpsWp P ops K rest (a.put o.dst v) w'') : OpsWp P ops K (i :: rest) a w := by
  intro b k cs
  obtain ⟨e, w'', fr, ⟨v, rfl, hR⟩, hsteps, _, hleave⟩ := h (b.at a (.inRegion ops (i :: rest) :: k) :: cs)
  have henter : step P (lone (b.at a (.inRegion ops (i :: rest) :: k)) cs w) =
      .next (lone (Frame.enter P f args .normal) (b.at a (.inRegion ops (i :: rest) :: k) :: cs) w') :=
    step_lone_go (by rw [stepG_op ho hw]; simp [stepG.apply, hr, Frame.at])
  obtain ⟨a', w₃, hk, hs⟩ := hR b k cs
  refine ⟨a', w₃, hk, .head henter (Steps.trans hsteps (.head ?_ hs))⟩
  rw [← fin_at ho]; exact step_leave_returned hleave
end

theorem wp_of_opsWp {P : Program} {ops : Array Oper} {id : Nat} {Q : Exit → Act → World → Prop} {a : Act} {w : World}
    (h : OpsWp P ops (Q .normal) (List.range ops.size) a w) : (Code.region id ops false).wp P Q a w := fun b k cs =>
  let ⟨a', w', hk, hs⟩ := h b k cs; ⟨.normal, a', w', hk, .head step_region hs⟩

/-! ### an operation's proposition is enough -/
section
variable {D : List Deferred} {N : Nat} {P : Program} {κ : List Kd} {ops : Array Oper} {i : Nat} {rest : List Nat} {o : Oper} {fr : Fr} {a : Act} {w : World} {K : KF} {K' : Act → World → Prop}

theorem stepX_sound (ha : Agree D N fr a) (ho : ops[i]? = some o) (hw : Region.wanted o (yielded ops a.tmps) = true)
    (hnext : ∀ fr' v w', Agree D N fr' (a.put o.dst v) → K fr' w' → OpsWp P ops K' rest (a.put o.dst v) w') (h : stepX P κ o fr w K) : OpsWp P ops K' (i :: rest) a w := by
  unfold stepX at h
  split at h
  · exact h.elim
  · rename_i hk
    have hmem := Fr.allKnown_mem hk
    have hcls : clsOf κ o ≠ .bad → execOp a.eval o = execOp (Fr.eval fr) o := by
      intro hb
      refine execOp_congr o ?_ fun x hx => ha.eval (hmem x (by simpa using hx))
      intro cs bl e
      exact hb (by simp [clsOf, e])
    split at h
    · rename_i x hc
      have he := hcls (by simp [hc])
      have hx : execOp (Fr.eval fr) o = pure (.value ((Fr.eval fr) x)) := by
        unfold clsOf at hc
        split at hc <;> (try cases hc) <;> (try (split at hc <;> (try cases hc) <;> (try (split at hc <;> (try cases hc) <;> (try (split at hc <;> cases hc))))))
        all_goals (simp [execOp, *])
      exact .value ho hw (by rw [he, hx]; rfl) (hnext _ _ _ (ha.put _ _) h)
    · rename_i x hc
      have he := hcls (by simp [hc])
      have hop : o.op = .nilCheck x := by
        unfold clsOf at hc
        split at hc <;> (try cases hc) <;> (try (split at hc <;> (try cases hc) <;> (try (split at hc <;> (try cases hc) <;> (try (split at hc <;> cases hc))))))
        all_goals assumption
      split at h
      · rename_i p hp
        cases p with
        | none => exact h.elim
        | some b =>
          have hx : execOp (Fr.eval fr) o = pure (.value (.pointer (some b))) := by simp [execOp, hop, hp]
          exact .value ho hw (by rw [he, hx]; rfl) (hnext _ _ _ (ha.put _ _) h)
      · exact h.elim
    · rename_i hc
      have he := hcls (by simp [hc])
      unfold stepR at h
      rw [← he] at h
      split at h
      · exact .value ho hw ‹_› (hnext _ _ _ (ha.put _ _) h)
      · exact .skip ho hw ‹_› (hnext _ _ _ (ha.put _ _) h)
      · refine .enter ho hw ‹_› (Calls.mono h ?_)
        rintro e w' ⟨x, rfl, hx⟩
        exact ⟨_, rfl, hnext _ _ _ (ha.put _ _) hx⟩
      · exact h.elim
    · rename_i hc
      have he := hcls (by simp [hc])
      obtain ⟨x, w', hr, h⟩ := h
      rw [← he] at hr
      exact .value ho hw hr (hnext _ _ _ (ha.put _ _) h)
    · rename_i hc
      have he := hcls (by simp [hc])
      obtain ⟨w', hr, h⟩ := h
      rw [← he] at hr
      exact .skip ho hw hr (hnext _ _ _ (ha.put _ _) h)
    · exact h.elim
end

/-! ### the slots that a piece of code writes -/
def asgOps : List Oper → Nat → Bool
  | [], _ => false
  | o :: r, t => match o.dst with
    | some d => (match Nat.beq d t with | true => true | false => asgOps r t)
    | none => asgOps r t
def asg : Code → Nat → Bool
  | .region _ ops _, t => asgOps ops.toList t
  | .seq a b, t => match asg a t with | true => true | false => asg b t
  | .cond _ a b, t => match asg a t with | true => true | false => asg b t
  | .block _ b, t => asg b t
  | .loop b, t => asg b t
  | .scope b, t => asg b t
  | _, _ => false
def keepU (f : Nat → Bool) : Nat → List (Option Value) → List (Option Value)
  | _, [] => []
  | i, x :: r => (match f i with | true => none | false => x) :: keepU f (i + 1) r
def Same (f : Nat → Bool) (a a' : Act) : Prop := ∀ t, f t = false → a'.tmps[t]? = a.tmps[t]?
theorem Same.refl (f : Nat → Bool) (a : Act) : Same f a a := fun _ _ => rfl
theorem Same.trans {f : Nat → Bool} {a b c : Act} (h : Same f a b) (h' : Same f b c) : Same f a c := fun t ht => (h' t ht).trans (h t ht)
theorem Same.put {f : Nat → Bool} {a : Act} {dst : Option Tmp} (h : ∀ d, dst = some d → f d = true) (v : Value) : Same f a (a.put dst v) := by
  intro t ht
  cases dst with
  | none => rfl
  | some d =>
    have hd := h d rfl
    have hne : d ≠ t := fun e => by rw [e, ht] at hd; cases hd
    simp only [Act.put]
    rw [Array.getElem?_setIfInBounds_ne hne]
theorem Same.weaken {f g : Nat → Bool} {a a' : Act} (h : Same f a a') (hfg : ∀ t, g t = false → f t = false) : Same g a a' := fun t ht => h t (hfg t ht)
theorem asgOps_mem {l : List Oper} {o : Oper} {d : Nat} (hm : o ∈ l) (hd : o.dst = some d) : asgOps l d = true := by
  induction l with
  | nil => cases hm
  | cons x r ih =>
    simp only [asgOps]
    rcases List.mem_cons.1 hm with e | hm
    · subst e
      simp only [hd, Nat.beq_refl]
    · have ih := ih hm
      cases hx : x.dst with
      | none => exact ih
      | some e =>
        simp only
        cases hb : Nat.beq e d with
        | true => rfl
        | false => exact ih
theorem keepU_len (f : Nat → Bool) : ∀ (i : Nat) (s : List (Option Value)), (keepU f i s).length = s.length
  | _, [] => rfl
  | i, _ :: r => by simp [keepU, keepU_len f (i + 1) r]
theorem keepU_get (f : Nat → Bool) : ∀ (s : List (Option Value)) (i t : Nat) (v : Value), sget (keepU f i s) t = some v → f (i + t) = false ∧ sget s t = some v
  | [], i, t, v, h => by simp [keepU, sget] at h
  | x :: r, i, 0, v, h => by
    simp only [keepU, sget] at h
    split at h
    · cases h
    · rename_i hf; exact ⟨by simpa using hf, by simpa [sget] using h⟩
  | x :: r, i, t + 1, v, h => by
    simp only [keepU, sget] at h
    have := keepU_get f r (i + 1) t v h
    exact ⟨by rw [← this.1]; congr 1; omega, by simpa [sget] using this.2⟩

theorem Agree.same {D : List Deferred} {N : Nat} {fr : Fr} {a : Act} (h : Agree D N fr a) {d : Nat} {v : Value} (hd : sget fr d = some v) : Agree D N (Fr.put fr (some d) v) a := by
  refine ⟨by simp [Fr.put, sput_eq, h.len], by simp [Fr.put, sput_eq, h.size], h.defers, fun t u ht => ?_⟩
  simp only [Fr.put, sput_eq, sget_eq, List.getElem?_set] at ht
  by_cases hdt : d = t
  · subst hdt
    by_cases hl : d < fr.length
    · simp [hl] at ht; subst ht; exact h.slot _ _ hd
    · simp [hl] at ht
  · simp only [hdt, if_false] at ht
    exact h.slot t u (by rw [sget_eq]; exact ht)

section
variable {D : List Deferred} {N : Nat} {P : Program} {κ : List Kd} {ops : Array Oper}

theorem wanted_of {o : Oper} {fr : Fr} {a : Act} (ha : Agree D N fr a) {j d : Nat} {want : Bool} {v : Value} (hg : o.guard = some (j, want))
    (hd : (ops[j]?).bind (·.dst) = some d) (hv : sget fr d = some v) :
    Region.wanted o (yielded ops a.tmps) = (match v with | .bool b => b == want | _ => false) := by
  have h1 := ha.slot _ _ hv
  simp only [Region.wanted, hg, yielded, hd, Option.bind_some, h1]
  cases v <;> simp

theorem opsX_sound : ∀ (l : List Oper) (k : Nat) (prev : Option (Nat × Bool)) (fr : Fr) (a : Act) (w : World) (K : KF) (f : Nat → Bool), (∀ j, l[j]? = ops[k + j]?) → (∀ o ∈ l, ∀ d, o.dst = some d → f d = true) → Agree D N fr a →
    opsX P κ ops l prev fr w K → OpsWp P ops (fun a' w' => ∃ fr', Agree D N fr' a' ∧ Same f a a' ∧ K fr' w') (List.range' k l.length) a w := by
  intro l
  induction l with
  | nil => intro k prev fr a w K f _ _ ha h; exact .nil ⟨fr, ha, Same.refl _ _, h⟩
  | cons o rest ih =>
    intro k prev fr a w K f hl hf ha h
    have hf' : ∀ o ∈ rest, ∀ d, o.dst = some d → f d = true := fun o' ho' => hf o' (List.mem_cons_of_mem _ ho')
    have put : ∀ v, Same f a (a.put o.dst v) := fun v => Same.put (hf o (List.mem_cons_self ..)) v
    have via : ∀ v w' (prev : Option (Nat × Bool)) (fr' : Fr), Agree D N fr' (a.put o.dst v) → opsX P κ ops rest prev fr' w' K →
        OpsWp P ops (fun a' w' => ∃ fr', Agree D N fr' a' ∧ Same f a a' ∧ K fr' w') (List.range' (k + 1) rest.length) (a.put o.dst v) w' := by
      intro v w' prev fr' ha' hk b k' cs
      obtain ⟨a', w₂, ⟨fr'', h1, h2, h3⟩, hs⟩ := ih (k + 1) prev fr' _ w' K f (fun j => by have := hl (j + 1); simpa [Nat.add_assoc, Nat.add_comm 1 j] using this) hf' ha' hk b k' cs
      exact ⟨a', w₂, ⟨fr'', h1, (put v).trans h2, h3⟩, hs⟩
    have ho : ops[k]? = some o := by simpa using (hl 0).symm
    simp only [List.length_cons, List.range'_succ]
    unfold opsX at h
    split at h
    · rename_i hg
      exact stepX_sound ha ho (by simp [Region.wanted, hg]) (fun fr' v w' ha' hk => via v w' _ fr' ha' hk) h
    · rename_i j want hg
      split at h
      · exact h.elim
      · rename_i d hd
        have next := fun fr' v w' ha' hk => via v w' (some (j, want)) fr' ha' hk
        split at h
        · exact h.elim
        · rename_i b hb
          have hw := wanted_of (o := o) ha hg hd hb
          simp only at hw
          split at h
          · split at h
            · exact stepX_sound ha ho (by rw [hw]; rfl) next h
            · exact stepX_sound ha ho (by rw [hw]; rfl) next h
            · rename_i hne1 hne2
              refine .skipped ho (by rw [hw]; cases b <;> cases want <;> simp_all) (next _ _ _ (ha.put _ _) h)
          · rw [SplitB_iff] at h
            cases b with
            | true =>
              have h := h.1 rfl
              have ha' := ha.same hb
              split at h
              · exact stepX_sound ha' ho (by rw [hw]; rfl) next h
              · exact .skipped ho (by rw [hw]; rfl) (next _ _ _ (ha'.put _ _) h)
            | false =>
              have h := h.2 rfl
              have ha' := ha.same hb
              split at h
              · exact stepX_sound ha' ho (by rw [hw]; rfl) next h
              · exact .skipped ho (by rw [hw]; rfl) (next _ _ _ (ha'.put _ _) h)
        · rename_i v hb hv
          refine .skipped ho ?_ (next _ _ _ (ha.put _ _) h)
          rw [wanted_of (o := o) ha hg hd hv]
          cases v <;> first | rfl | (rename_i x; exact absurd rfl (hb x))
end

end Go.Fw

/- A region that draws its order: one reading in the order of the text serves every order, if what is written comes in one chain and what is read is the same wherever it may be read. -/
namespace Go.Fw
open Go

def pureEval {α : Type} (P : Program) : Sem α → Option α
  | .pure a => some a
  | .program k => pureEval P (k P)
  | .mark _ k => pureEval P k
  | _ => none
theorem pureEval_run {α : Type} {P : Program} : ∀ {s : Sem α} {a : α}, pureEval P s = some a → ∀ w, s.run P w = .ok a w := by
  intro s
  induction s with
  | pure b => intro a h w; simp [pureEval] at h; subst h; rfl
  | program k ih => intro a h w; simp only [Sem.run]; exact ih _ (by simpa [pureEval] using h) w
  | mark m k ih => intro a h w; simp only [Sem.run]; exact ih (by simpa [pureEval] using h) w
  | _ => intro a h; simp [pureEval] at h

def maskOf (acc : List Nat) : List Edge → Nat
  | [] => 0
  | e :: r => (match Region.binds .any e with | true => 2 ^ e.on ||| nth 0 acc e.on | false => 0) ||| maskOf acc r
def befGo : List Oper → List Nat → List Nat
  | [], acc => acc
  | o :: r, acc => befGo r (acc ++ [maskOf acc o.after.toList])

/-- What an operation is for a region that draws. -/
inductive DCls where
  | pure | nilc (x : Operand) | read (kd : Kd) | eff (kd : Kd) | effU | bad
def isRead (κ : List Kd) : Op → Bool
  | .load .. | .index .. | .indexAddr .. | .slice .. | .lookup .. | .binOp .. => true
  | .convert _ d _ => match nth .raw κ d with | .str => true | _ => false
  | .call c => match c.callee with
    | .builtin b => match b with | .len | .cap => true | _ => false
    | _ => false
  | _ => false
def dclsOf (κ : List Kd) (o : Oper) : DCls :=
  match clsOf κ o with
  | .mv _ => .pure
  | .nilc x => .nilc x
  | .run => .pure
  | .eff kd => match isRead κ o.op with | true => .read kd | false => .eff kd
  | .effU => .effU
  | .bad => .bad
def isEff (κ : List Kd) (o : Oper) : Bool := match dclsOf κ o with | .eff _ => true | .effU => true | _ => false
def effs (κ : List Kd) : List Oper → Nat → List Nat
  | [], _ => []
  | o :: r, i => match isEff κ o with | true => i :: effs κ r (i + 1) | false => effs κ r (i + 1)
def cnt (f : Nat → Bool) : List Nat → Nat
  | [] => 0
  | x :: r => match f x with | true => cnt f r + 1 | false => cnt f r

structure Pend where
  s : Sem Next
  v : Value
  left : Nat
def StillV (P : Program) (s : Sem Next) (v : Value) (w : World) : Prop := s.run P w = .ok (.value v) w
def stillAll (P : Program) (w : World) (A : Prop) : List Pend → Prop
  | [] => A
  | p :: r => match p.left with
    | 0 => stillAll P w A r
    | _ + 1 => StillV P p.s p.v w ∧ stillAll P w A r
def tick : List Pend → List Pend
  | [] => []
  | p :: r => match p.left with
    | 0 => tick r
    | n + 1 => ⟨p.s, p.v, n⟩ :: tick r
def stillPast (P : Program) (s : Sem Next) (v : Value) (A : Prop) : Nat → List World → Prop
  | 0, _ => A
  | _ + 1, [] => False
  | n + 1, w :: r => StillV P s v w ∧ stillPast P s v A n r
def ReadN (P : Program) (kd : Kd) (s : Sem Next) (w : World) (K : kd.T → Prop) : Prop := ∃ x, s.run P w = .ok (.value (kd.val x)) w ∧ K x

/-- One operation; 'lo', 'hi': how many worlds back, how many ahead it may also run. -/
def dstep (P : Program) (κ : List Kd) (o : Oper) (lo hi : Nat) (fr : Fr) (past : List World) (w : World) (pend : List Pend) (K : Fr → List World → World → List Pend → Prop) : Prop :=
  match Fr.allKnown fr o.op.operands.toList with
  | false => False
  | true => match dclsOf κ o with
    | .pure => match pureEval P (execOp (Fr.eval fr) o) with
      | some (.value v) => K (Fr.put fr o.dst v) past w pend
      | _ => False
    | .nilc x => match (Fr.eval fr) x with
      | .pointer p => NilP p fun a => K (Fr.put fr o.dst (.pointer (some a))) past w pend
      | _ => False
    | .read kd => ReadN P kd (execOp (Fr.eval fr) o) w fun x =>
        stillPast P (execOp (Fr.eval fr) o) (kd.val x) (K (Fr.put fr o.dst (kd.val x)) past w (⟨execOp (Fr.eval fr) o, kd.val x, hi⟩ :: pend)) lo past
    | .eff kd => RunN P kd (execOp (Fr.eval fr) o) w fun x w' => stillAll P w' (K (Fr.put fr o.dst (kd.val x)) (w :: past) w' (tick pend)) pend
    | .effU => RunU P (execOp (Fr.eval fr) o) w fun w' => stillAll P w' (K (Fr.put fr o.dst undef) (w :: past) w' (tick pend)) pend
    | .bad => False

def dskip (P : Program) (κ : List Kd) (o : Oper) (fr : Fr) (past : List World) (w : World) (pend : List Pend) (K : Fr → List World → World → List Pend → Prop) : Prop :=
  match isEff κ o with
  | false => K (Fr.put fr o.dst undef) past w pend
  | true => stillAll P w (K (Fr.put fr o.dst undef) (w :: past) w (tick pend)) pend


def nameSlots (ops : List Oper) (o : Oper) : List Nat :=
  (o.op.operands.toList.filterMap fun | .tmp t => some t | _ => none) ++
  (match o.guard with | some (j, _) => (match (ops[j]?).bind (·.dst) with | some d => [d] | none => []) | none => [])
/-- Whoever names a slot that another operation writes stands in a known order to it. -/
def pairOk (bf : List Nat) (i j : Nat) : Bool := match Nat.blt j i with
  | true => (nth 0 bf i).testBit j
  | false => match Nat.blt i j with
    | true => (nth 0 bf j).testBit i
    | false => true
def writersOk (bf : List Nat) (i : Nat) (ts : List Nat) : List Oper → Nat → Bool
  | [], _ => true
  | o :: r, j => (match o.dst with | some d => (match ts.contains d with | true => pairOk bf i j | false => true) | none => true) && writersOk bf i ts r (j + 1)
def namesOk (ops : List Oper) (bf : List Nat) : List Oper → Nat → Bool
  | [], _ => true
  | o :: r, i => writersOk bf i (nameSlots ops o) ops 0 && namesOk ops bf r (i + 1)
def uniqOk : List Oper → Bool
  | [] => true
  | o :: r => (match o.dst with | some d => !asgOps r d | none => true) && uniqOk r
def bfOk (bf : List Nat) : List Oper → Nat → Bool
  | [], _ => true
  | o :: r, i => Nat.beq (nth 0 bf i) (maskOf bf o.after.toList) && (o.after.toList.all fun e => match Region.binds .any e with | true => Nat.blt e.on i | false => true) && bfOk bf r (i + 1)
def chainOk (bf : List Nat) : List Nat → Bool
  | [] => true
  | e :: r => (r.all fun f => (nth 0 bf f).testBit e && Nat.blt e f) && chainOk bf r
def drawOk (ops : List Oper) (bf ef : List Nat) : Bool :=
  namesOk ops bf ops 0 && uniqOk ops && bfOk bf ops 0 && chainOk bf ef

def bump (κ : List Kd) (o : Oper) (j : Nat) : Nat := match isEff κ o with | true => j + 1 | false => j
def allDone : List Pend → Bool
  | [] => true
  | p :: r => match p.left with | 0 => allDone r | _ + 1 => false
/-- The reading. 'bf': what comes before what; 'ef': the operations that write; 'rk': how many of them stand before. -/
def drawX (P : Program) (κ : List Kd) (ops : List Oper) (bf ef : List Nat) : List Oper → Nat → Nat → Option (Nat × Bool) → Fr → List World → World → List Pend → KF → Prop
  | [], _, _, _, fr, _, w, pend, K => match allDone pend with | true => K fr w | false => False
  | o :: rest, i, rk, prev, fr, past, w, pend, K =>
    match o.guard with
    | none => dstep P κ o (rk - cnt (fun e => (nth 0 bf i).testBit e) ef) (ef.length - cnt (fun e => (nth 0 bf e).testBit i) ef - rk) fr past w pend fun fr past w pend => drawX P κ ops bf ef rest (i + 1) (bump κ o rk) none fr past w pend K
    | some (j, want) =>
      match (ops[j]?).bind (·.dst) with
      | none => False
      | some d =>
        match sget fr d with
        | none => False
        | some (.bool b) =>
          match sameGuard prev j want with
          | true => match b, want with
            | true, true => dstep P κ o (rk - cnt (fun e => (nth 0 bf i).testBit e) ef) (ef.length - cnt (fun e => (nth 0 bf e).testBit i) ef - rk) fr past w pend fun fr past w pend => drawX P κ ops bf ef rest (i + 1) (bump κ o rk) (some (j, want)) fr past w pend K
            | false, false => dstep P κ o (rk - cnt (fun e => (nth 0 bf i).testBit e) ef) (ef.length - cnt (fun e => (nth 0 bf e).testBit i) ef - rk) fr past w pend fun fr past w pend => drawX P κ ops bf ef rest (i + 1) (bump κ o rk) (some (j, want)) fr past w pend K
            | _, _ => dskip P κ o fr past w pend fun fr past w pend => drawX P κ ops bf ef rest (i + 1) (bump κ o rk) (some (j, want)) fr past w pend K
          | false => SplitB b
            (match want with
              | true => dstep P κ o (rk - cnt (fun e => (nth 0 bf i).testBit e) ef) (ef.length - cnt (fun e => (nth 0 bf e).testBit i) ef - rk) (Fr.put fr (some d) (.bool true)) past w pend fun fr past w pend => drawX P κ ops bf ef rest (i + 1) (bump κ o rk) (some (j, want)) fr past w pend K
              | false => dskip P κ o (Fr.put fr (some d) (.bool true)) past w pend fun fr past w pend => drawX P κ ops bf ef rest (i + 1) (bump κ o rk) (some (j, want)) fr past w pend K)
            (match want with
              | false => dstep P κ o (rk - cnt (fun e => (nth 0 bf i).testBit e) ef) (ef.length - cnt (fun e => (nth 0 bf e).testBit i) ef - rk) (Fr.put fr (some d) (.bool false)) past w pend fun fr past w pend => drawX P κ ops bf ef rest (i + 1) (bump κ o rk) (some (j, want)) fr past w pend K
              | true => dskip P κ o (Fr.put fr (some d) (.bool false)) past w pend fun fr past w pend => drawX P κ ops bf ef rest (i + 1) (bump κ o rk) (some (j, want)) fr past w pend K)
        | some _ => dskip P κ o fr past w pend fun fr past w pend => drawX P κ ops bf ef rest (i + 1) (bump κ o rk) (some (j, want)) fr past w pend K

theorem put_same {fr : Fr} {d : Nat} {v : Value} (h : sget fr d = some v) : Fr.put fr (some d) v = fr := by
  simp only [Fr.put, sput_eq]
  rw [sget_eq] at h
  refine List.ext_getElem? fun t => ?_
  rw [List.getElem?_set]
  by_cases hdt : d = t
  · subst hdt
    by_cases hl : d < fr.length
    · simp only [hl, if_true]
      cases hg : fr[d]? with
      | none => rw [hg] at h; simp at h
      | some x => rw [hg] at h; simp at h; rw [h]
    · simp [hl]
  · simp [hdt]

/-- What is asked of the guard's slot. -/
def wantIn (ops : List Oper) (fr : Fr) (o : Oper) : Option Bool :=
  match o.guard with
  | none => some true
  | some (j, want) => match (ops[j]?).bind (·.dst) with
    | none => none
    | some d => match sget fr d with
      | none => none
      | some (.bool b) => some (b == want)
      | some _ => some false

/-- What one operation does in a world. -/
def DoesAt (P : Program) (ops : List Oper) (o : Oper) (fr : Fr) (w : World) (v : Value) (w' : World) : Prop :=
  (wantIn ops fr o = some true ∧ Fr.allKnown fr o.op.operands.toList = true ∧ (∀ cs b, o.op ≠ .select cs b) ∧
    ((execOp (Fr.eval fr) o).run P w = .ok (.value v) w' ∨ ((execOp (Fr.eval fr) o).run P w = .ok .skip w' ∧ v = undef))) ∨
  (wantIn ops fr o = some false ∧ v = undef ∧ w' = w)

/-- All that a schedule needs of the tail of a region from operation i on. -/
structure Cert (P : Program) (κ : List Kd) (ops : List Oper) (bf ef : List Nat) (l : List Oper) (i rk : Nat) (fr : Fr) (ws : Nat → World) (F : Nat → Fr) (vv : Nat → Value) (rf : Nat → Nat) : Prop where
  F0 : F i = fr
  r0 : rf i = rk
  at_ : ∀ k o, l[k]? = some o → F (i + k + 1) = Fr.put (F (i + k)) o.dst (vv (i + k)) ∧ rf (i + k + 1) = bump κ o (rf (i + k)) ∧
    ∀ j, (isEff κ o = true → j = rf (i + k)) → rf (i + k) - (rf (i + k) - cnt (fun e => (nth 0 bf (i + k)).testBit e) ef) ≤ j →
      j ≤ rf (i + k) + (ef.length - cnt (fun e => (nth 0 bf e).testBit (i + k)) ef - rf (i + k)) → DoesAt P ops o (F (i + k)) (ws j) (vv (i + k)) (ws (bump κ o j))

theorem Cert.cons {P : Program} {κ : List Kd} {ops : List Oper} {bf ef : List Nat} {o : Oper} {rest : List Oper} {i rk : Nat} {fr : Fr} {ws : Nat → World} {F : Nat → Fr} {vv : Nat → Value} {rf : Nat → Nat} {v : Value}
    (hd : ∀ j, (isEff κ o = true → j = rk) → rk - (rk - cnt (fun e => (nth 0 bf i).testBit e) ef) ≤ j → j ≤ rk + (ef.length - cnt (fun e => (nth 0 bf e).testBit i) ef - rk) → DoesAt P ops o fr (ws j) v (ws (bump κ o j)))
    (h : Cert P κ ops bf ef rest (i + 1) (bump κ o rk) (Fr.put fr o.dst v) ws F vv rf) :
    Cert P κ ops bf ef (o :: rest) i rk fr ws (fun k => if k ≤ i then fr else F k) (fun k => if k ≤ i then v else vv k) (fun k => if k ≤ i then rk else rf k) := by
  refine ⟨by simp, by simp, fun k o' hk => ?_⟩
  cases k with
  | zero =>
    simp at hk; subst hk
    simp only [Nat.add_zero, Nat.le_refl, if_true, show ¬ (i + 1 ≤ i) from by omega, if_false]
    exact ⟨h.F0, h.r0, hd⟩
  | succ k =>
    have := h.at_ k o' (by simpa using hk)
    have e1 : i + (k + 1) = i + 1 + k := by omega
    simp only [show ¬ (i + (k + 1) ≤ i) from by omega, show ¬ (i + (k + 1) + 1 ≤ i) from by omega, if_false]
    rw [e1]
    exact this

section
variable {P : Program} {κ : List Kd} {ops : List Oper} {bf ef : List Nat}

theorem stillAll_iff {w : World} {A : Prop} : ∀ {pend : List Pend}, stillAll P w A pend ↔ (∀ p ∈ pend, 1 ≤ p.left → StillV P p.s p.v w) ∧ A
  | [] => by simp [stillAll]
  | p :: r => by
    unfold stillAll
    have ih := stillAll_iff (w := w) (A := A) (pend := r)
    split
    · rename_i h0; rw [ih]; simp [h0]
    · rename_i n hn; rw [ih]; simp only [List.mem_cons, forall_eq_or_imp, hn]
      constructor
      · rintro ⟨h1, h2, h3⟩; exact ⟨⟨fun _ => h1, h2⟩, h3⟩
      · rintro ⟨⟨h1, h2⟩, h3⟩; exact ⟨h1 (by omega), h2, h3⟩
theorem mem_tick : ∀ {pend : List Pend} {p : Pend}, p ∈ pend → 1 ≤ p.left → (⟨p.s, p.v, p.left - 1⟩ : Pend) ∈ tick pend
  | q :: r, p, hm, hp => by
    unfold tick
    rcases List.mem_cons.1 hm with e | hm
    · subst e; split
      · omega
      · rename_i n hn; simp [hn]
    · have := mem_tick hm hp
      split
      · exact this
      · exact List.mem_cons_of_mem _ this
theorem stillPast_spec {s : Sem Next} {v : Value} {A : Prop} : ∀ {n : Nat} {past : List World}, stillPast P s v A n past → (∀ k, k < n → ∃ w, past[k]? = some w ∧ StillV P s v w) ∧ A
  | 0, _, h => ⟨fun k hk => absurd hk (by omega), h⟩
  | n + 1, [], h => h.elim
  | n + 1, w :: r, h => by
    obtain ⟨h1, h2⟩ := h
    obtain ⟨h3, h4⟩ := stillPast_spec h2
    refine ⟨fun k hk => ?_, h4⟩
    cases k with
    | zero => exact ⟨w, rfl, h1⟩
    | succ k => simpa using h3 k (by omega)

/-- What the reading has told of worlds that lie behind, and what waits of those ahead. -/
structure Told (past : List World) (w : World) (rk : Nat) (ws : Nat → World) : Prop where
  len : past.length = rk
  back : ∀ k, k < rk → past[k]? = some (ws (rk - 1 - k))
  now : ws rk = w

theorem not_select_of {o : Oper} (h : clsOf κ o ≠ .bad) : ∀ cs b, o.op ≠ .select cs b := fun cs b e => h (by simp [clsOf, e])

theorem clsOf_nilc {o : Oper} {x : Operand} (hc : clsOf κ o = .nilc x) : o.op = .nilCheck x := by
  unfold clsOf at hc
  split at hc <;> (try cases hc) <;> (try (split at hc <;> (try cases hc) <;> (try (split at hc <;> (try cases hc) <;> (try (split at hc <;> cases hc))))))
  all_goals assumption

variable (P κ ops bf ef) in
def Res (l : List Oper) (i rk : Nat) (fr : Fr) (past : List World) (w : World) (pend : List Pend) (K : KF) : Prop :=
  ∃ ws F vv rf, Told past w rk ws ∧ (∀ p ∈ pend, ∀ j, rk < j → j ≤ rk + p.left → StillV P p.s p.v (ws j)) ∧ Cert P κ ops bf ef l i rk fr ws F vv rf ∧ K (F (i + l.length)) (ws (rf (i + l.length)))

theorem Res.of {o : Oper} {rest : List Oper} {i rk : Nat} {fr : Fr} {past past' : List World} {w w' : World} {pend pend' : List Pend} {K : KF} {v : Value}
    (h : Res P κ ops bf ef rest (i + 1) (bump κ o rk) (Fr.put fr o.dst v) past' w' pend' K)
    (htold : ∀ ws, Told past' w' (bump κ o rk) ws → Told past w rk ws)
    (hpend : ∀ ws : Nat → World, Told past' w' (bump κ o rk) ws → (∀ p ∈ pend', ∀ j, bump κ o rk < j → j ≤ bump κ o rk + p.left → StillV P p.s p.v (ws j)) → ∀ p ∈ pend, ∀ j, rk < j → j ≤ rk + p.left → StillV P p.s p.v (ws j))
    (hdoes : ∀ ws : Nat → World, Told past w rk ws → Told past' w' (bump κ o rk) ws → (∀ p ∈ pend', ∀ j, bump κ o rk < j → j ≤ bump κ o rk + p.left → StillV P p.s p.v (ws j)) →
      ∀ j, (isEff κ o = true → j = rk) → rk - (rk - cnt (fun e => (nth 0 bf i).testBit e) ef) ≤ j → j ≤ rk + (ef.length - cnt (fun e => (nth 0 bf e).testBit i) ef - rk) → DoesAt P ops o fr (ws j) v (ws (bump κ o j))) :
    Res P κ ops bf ef (o :: rest) i rk fr past w pend K := by
  obtain ⟨ws, F, vv, rf, h1, h2, h3, h4⟩ := h
  have ht := htold ws h1
  refine ⟨ws, _, _, _, ht, hpend ws h1 h2, h3.cons (hdoes ws ht h1 h2), ?_⟩
  have e : i + (o :: rest).length = i + 1 + rest.length := by simp; omega
  simp only [show ¬ (i + (o :: rest).length ≤ i) from by simp, if_false]
  rw [e]; exact h4

theorem told_push {past : List World} {w w' : World} {rk : Nat} (hlen : past.length = rk) {ws : Nat → World} (h : Told (w :: past) w' (rk + 1) ws) : Told past w rk ws := by
  refine ⟨hlen, fun k hk => ?_, ?_⟩
  · have := h.back (k + 1) (by omega)
    simp only [List.getElem?_cons_succ] at this
    rw [this]; congr 2; omega
  · have := h.back 0 (by omega)
    simp at this
    exact this.symm

theorem pend_push {past : List World} {w w' : World} {rk : Nat} {pend : List Pend} {ws : Nat → World} (ht : Told (w :: past) w' (rk + 1) ws) (hst : ∀ p ∈ pend, 1 ≤ p.left → StillV P p.s p.v w')
    (hp : ∀ p ∈ tick pend, ∀ j, rk + 1 < j → j ≤ rk + 1 + p.left → StillV P p.s p.v (ws j)) : ∀ p ∈ pend, ∀ j, rk < j → j ≤ rk + p.left → StillV P p.s p.v (ws j) := by
  intro p hm j h1 h2
  have hl : 1 ≤ p.left := by omega
  rcases Nat.lt_or_ge (rk + 1) j with hj | hj
  · exact hp _ (mem_tick hm hl) j hj (by simp; omega)
  · have : j = rk + 1 := by omega
    subst this
    rw [ht.now]; exact hst p hm hl

theorem dstep_res {o : Oper} {rest : List Oper} {i rk : Nat} {fr : Fr} {past : List World} {w : World} {pend : List Pend} {K : KF} {K' : Fr → List World → World → List Pend → Prop}
    (hw : wantIn ops fr o = some true) (hlen : past.length = rk)
    (hK : ∀ fr' past' w' pend', past'.length = bump κ o rk → K' fr' past' w' pend' → Res P κ ops bf ef rest (i + 1) (bump κ o rk) fr' past' w' pend' K)
    (h : dstep P κ o (rk - cnt (fun e => (nth 0 bf i).testBit e) ef) (ef.length - cnt (fun e => (nth 0 bf e).testBit i) ef - rk) fr past w pend K') :
    Res P κ ops bf ef (o :: rest) i rk fr past w pend K := by
  unfold dstep at h
  split at h
  · exact h.elim
  · rename_i hk
    cases hd : dclsOf κ o with
    | bad => simp [hd] at h
    | pure =>
      have he : isEff κ o = false := by simp [isEff, hd]
      have hsel : clsOf κ o ≠ .bad := by intro e; simp [dclsOf, e] at hd
      simp only [hd] at h
      split at h
      · rename_i v hv
        have hb : bump κ o rk = rk := by simp [bump, he]
        refine Res.of (v := v) (past' := past) (w' := w) (pend' := pend) (hK _ _ _ _ (by rw [hb]; exact hlen) h) (fun ws ht => by rw [hb] at ht; exact ht) (fun ws _ hp => by rw [hb] at hp; exact hp) ?_
        intro ws ht ht' hp j _ _ _
        have hbj : bump κ o j = j := by simp [bump, he]
        rw [hbj]
        exact .inl ⟨hw, hk, not_select_of hsel, .inl (pureEval_run hv _)⟩
      · exact h.elim
    | nilc x =>
      have he : isEff κ o = false := by simp [isEff, hd]
      have hc : clsOf κ o = .nilc x := by
        unfold dclsOf at hd; split at hd <;> simp_all; split at hd <;> simp_all
      have hsel : clsOf κ o ≠ .bad := by rw [hc]; simp
      have hop := clsOf_nilc hc
      simp only [hd] at h
      split at h
      · rename_i p hp
        cases p with
        | none => exact h.elim
        | some b =>
          have hb : bump κ o rk = rk := by simp [bump, he]
          have h : K' (Fr.put fr o.dst (.pointer (some b))) past w pend := h
          refine Res.of (v := .pointer (some b)) (past' := past) (w' := w) (pend' := pend) (hK _ _ _ _ (by rw [hb]; exact hlen) h) (fun ws ht => by rw [hb] at ht; exact ht) (fun ws _ hp => by rw [hb] at hp; exact hp) ?_
          intro ws ht ht' hpp j _ _ _
          have hbj : bump κ o j = j := by simp [bump, he]
          rw [hbj]
          refine .inl ⟨hw, hk, not_select_of hsel, .inl ?_⟩
          have hx : execOp (Fr.eval fr) o = pure (.value (.pointer (some b))) := by simp [execOp, hop, hp]
          rw [hx]; rfl
      · exact h.elim
    | read kd =>
      have he : isEff κ o = false := by simp [isEff, hd]
      have hsel : clsOf κ o ≠ .bad := by intro e; simp [dclsOf, e] at hd
      simp only [hd] at h
      obtain ⟨x, hr, h⟩ := h
      obtain ⟨hpast, h⟩ := stillPast_spec h
      have hb : bump κ o rk = rk := by simp [bump, he]
      refine Res.of (v := kd.val x) (hK _ _ _ _ (by rw [hb]; exact hlen) h) (fun ws ht => by rw [hb] at ht; exact ht) (fun ws _ hp p hm => by rw [hb] at hp; exact hp p (List.mem_cons_of_mem _ hm)) ?_
      intro ws ht ht' hpp j _ h1 h2
      have hbj : bump κ o j = j := by simp [bump, he]
      rw [hbj]
      refine .inl ⟨hw, hk, not_select_of hsel, .inl ?_⟩
      rcases Nat.lt_trichotomy j rk with hj | hj | hj
      · obtain ⟨wj, hwj, hst⟩ := hpast (rk - 1 - j) (by omega)
        rw [ht.back _ (by omega)] at hwj
        have e : rk - 1 - (rk - 1 - j) = j := by omega
        rw [e] at hwj
        cases hwj
        exact hst
      · subst hj; rw [ht.now]; exact hr
      · rw [hb] at hpp
        exact hpp _ (List.mem_cons_self ..) j hj h2
    | eff kd =>
      have he : isEff κ o = true := by simp [isEff, hd]
      have hsel : clsOf κ o ≠ .bad := by intro e; simp [dclsOf, e] at hd
      simp only [hd] at h
      obtain ⟨x, w', hr, h⟩ := h
      rw [stillAll_iff] at h
      obtain ⟨hst, h⟩ := h
      have hb : bump κ o rk = rk + 1 := by simp [bump, he]
      refine Res.of (v := kd.val x) (hK _ _ _ _ (by simp [hb, hlen]) h) (fun ws ht => by rw [hb] at ht; exact told_push hlen ht) (fun ws ht hp => by rw [hb] at ht hp; exact pend_push ht hst hp) ?_
      intro ws ht ht' hpp j hj _ _
      have := hj he
      subst this
      rw [hb] at ht' ⊢
      rw [ht.now, ht'.now]
      exact .inl ⟨hw, hk, not_select_of hsel, .inl hr⟩
    | effU =>
      have he : isEff κ o = true := by simp [isEff, hd]
      have hsel : clsOf κ o ≠ .bad := by intro e; simp [dclsOf, e] at hd
      simp only [hd] at h
      obtain ⟨w', hr, h⟩ := h
      rw [stillAll_iff] at h
      obtain ⟨hst, h⟩ := h
      have hb : bump κ o rk = rk + 1 := by simp [bump, he]
      refine Res.of (v := undef) (hK _ _ _ _ (by simp [hb, hlen]) h) (fun ws ht => by rw [hb] at ht; exact told_push hlen ht) (fun ws ht hp => by rw [hb] at ht hp; exact pend_push ht hst hp) ?_
      intro ws ht ht' hpp j hj _ _
      have := hj he
      subst this
      rw [hb] at ht' ⊢
      rw [ht.now, ht'.now]
      exact .inl ⟨hw, hk, not_select_of hsel, .inr ⟨hr, rfl⟩⟩

theorem dskip_res {o : Oper} {rest : List Oper} {i rk : Nat} {fr : Fr} {past : List World} {w : World} {pend : List Pend} {K : KF} {K' : Fr → List World → World → List Pend → Prop}
    (hw : wantIn ops fr o = some false) (hlen : past.length = rk)
    (hK : ∀ fr' past' w' pend', past'.length = bump κ o rk → K' fr' past' w' pend' → Res P κ ops bf ef rest (i + 1) (bump κ o rk) fr' past' w' pend' K)
    (h : dskip P κ o fr past w pend K') : Res P κ ops bf ef (o :: rest) i rk fr past w pend K := by
  unfold dskip at h
  split at h
  · rename_i he
    have hb : bump κ o rk = rk := by simp [bump, he]
    refine Res.of (v := undef) (hK _ _ _ _ (by rw [hb]; exact hlen) h) (fun ws ht => by rw [hb] at ht; exact ht) (fun ws _ hp => by rw [hb] at hp; exact hp) ?_
    intro ws ht ht' hpp j _ _ _
    have hbj : bump κ o j = j := by simp [bump, he]
    rw [hbj]
    exact .inr ⟨hw, rfl, rfl⟩
  · rename_i he
    rw [stillAll_iff] at h
    obtain ⟨hst, h⟩ := h
    have hb : bump κ o rk = rk + 1 := by simp [bump, he]
    refine Res.of (v := undef) (hK _ _ _ _ (by simp [hb, hlen]) h) (fun ws ht => by rw [hb] at ht; exact told_push hlen ht) (fun ws ht hp => by rw [hb] at ht hp; exact pend_push ht hst hp) ?_
    intro ws ht ht' hpp j hj _ _
    have := hj he
    subst this
    rw [hb] at ht' ⊢
    rw [ht.now, ht'.now]
    exact .inr ⟨hw, rfl, rfl⟩

theorem drawX_res : ∀ (l : List Oper) (i rk : Nat) (prev : Option (Nat × Bool)) (fr : Fr) (past : List World) (w : World) (pend : List Pend) (K : KF), past.length = rk →
    drawX P κ ops bf ef l i rk prev fr past w pend K → Res P κ ops bf ef l i rk fr past w pend K := by
  intro l
  induction l with
  | nil =>
    intro i rk prev fr past w pend K hlen h
    refine ⟨fun j => if j < rk then past.getD (rk - 1 - j) w else if j = rk then w else w, fun _ => fr, fun _ => undef, fun _ => rk, ?_, ?_, ?_, ?_⟩
    · refine ⟨hlen, fun k hk => ?_, by simp⟩
      simp only [show rk - 1 - k < rk from by omega, if_true]
      have e : rk - 1 - (rk - 1 - k) = k := by omega
      rw [e, List.getD_eq_getElem?_getD]
      have : k < past.length := by omega
      simp [List.getElem?_eq_getElem this]
    · simp only [drawX] at h
      split at h
      · rename_i hdone
        have key : ∀ l : List Pend, allDone l = true → ∀ p ∈ l, p.left = 0 := by
          intro l
          induction l with
          | nil => intro _ p hm; cases hm
          | cons q r ihl =>
            intro hd p hm
            unfold allDone at hd
            split at hd
            · rename_i h0
              rcases List.mem_cons.1 hm with e | hm
              · subst e; exact h0
              · exact ihl hd p hm
            · cases hd
        intro p hm j h1 h2
        have := key _ hdone p hm
        omega
      · exact h.elim
    · exact ⟨rfl, rfl, fun k o hk => by simp at hk⟩
    · simp only [drawX] at h
      split at h
      · simpa using h
      · exact h.elim
  | cons o rest ih =>
    intro i rk prev fr past w pend K hlen h
    unfold drawX at h
    have hK : ∀ prev fr' past' w' pend', past'.length = bump κ o rk → drawX P κ ops bf ef rest (i + 1) (bump κ o rk) prev fr' past' w' pend' K → Res P κ ops bf ef rest (i + 1) (bump κ o rk) fr' past' w' pend' K :=
      fun prev fr' past' w' pend' hl hh => ih _ _ _ _ _ _ _ _ hl hh
    split at h
    · rename_i hg
      exact dstep_res (by simp [wantIn, hg]) hlen (hK none) h
    · rename_i j want hg
      split at h
      · exact h.elim
      · rename_i d hd
        split at h
        · exact h.elim
        · rename_i b hb
          have hwant : wantIn ops fr o = some (b == want) := by simp [wantIn, hg, hd, hb]
          split at h
          · split at h
            · exact dstep_res (by rw [hwant]; rfl) hlen (hK _) h
            · exact dstep_res (by rw [hwant]; rfl) hlen (hK _) h
            · rename_i h1 h2
              exact dskip_res (by rw [hwant]; cases b <;> cases want <;> simp_all) hlen (hK _) h
          · rw [SplitB_iff] at h
            cases b with
            | true =>
              have h := h.1 rfl
              rw [put_same hb] at h
              split at h
              · exact dstep_res (by rw [hwant]; rfl) hlen (hK _) h
              · exact dskip_res (by rw [hwant]; rfl) hlen (hK _) h
            | false =>
              have h := h.2 rfl
              rw [put_same hb] at h
              split at h
              · exact dstep_res (by rw [hwant]; rfl) hlen (hK _) h
              · exact dskip_res (by rw [hwant]; rfl) hlen (hK _) h
        · rename_i v hne hv
          refine dskip_res ?_ hlen (hK _) h
          simp only [wantIn, hg, hd, hv]
end

/-! ### any schedule -/
theorem execOp_congr' {ρ ρ' : Operand → Value} (o : Oper) (hs : ∀ cs b, o.op ≠ .select cs b) (h : ∀ x ∈ o.op.operands.toList, ρ x = ρ' x) : execOp ρ o = execOp ρ' o :=
  execOp_congr o hs fun x hx => h x (by simpa using hx)

section
variable {P : Program} {κ : List Kd} {ops : List Oper} {bf ef : List Nat}

theorem uniq_spec : ∀ {l : List Oper}, uniqOk l = true → ∀ (i j : Nat) (o o' : Oper) (d : Nat), l[i]? = some o → l[j]? = some o' → o.dst = some d → o'.dst = some d → i = j
  | [], _, i, j, o, o', d, hi, _, _, _ => by simp at hi
  | x :: r, h, i, j, o, o', d, hi, hj, hd, hd' => by
    simp only [uniqOk, Bool.and_eq_true] at h
    cases i with
    | zero =>
      simp at hi; subst hi
      cases j with
      | zero => rfl
      | succ j =>
        have hm : o' ∈ r := List.mem_of_getElem? (by simpa using hj)
        have := asgOps_mem hm hd'
        rw [hd] at h
        simp [this] at h
    | succ i =>
      cases j with
      | zero =>
        simp at hj; subst hj
        have hm : o ∈ r := List.mem_of_getElem? (by simpa using hi)
        have := asgOps_mem hm hd
        rw [hd'] at h
        simp [this] at h
      | succ j => rw [uniq_spec h.2 i j o o' d (by simpa using hi) (by simpa using hj) hd hd']

theorem writers_spec {i : Nat} {ts : List Nat} : ∀ {l : List Oper} {k : Nat}, writersOk bf i ts l k = true → ∀ (j : Nat) (o : Oper) (d : Nat), l[j]? = some o → o.dst = some d → d ∈ ts → pairOk bf i (k + j) = true
  | [], _, _, j, o, d, hj, _, _ => by simp at hj
  | x :: r, k, h, j, o, d, hj, hd, hm => by
    simp only [writersOk, Bool.and_eq_true] at h
    cases j with
    | zero =>
      simp at hj; subst hj
      have h1 := h.1
      rw [hd] at h1
      have hc : ts.contains d = true := by simpa using hm
      simp only [hc] at h1
      exact h1
    | succ j =>
      have := writers_spec h.2 j o d (by simpa using hj) hd hm
      rwa [show k + 1 + j = k + (j + 1) from by omega] at this

theorem names_spec : ∀ {l : List Oper} {k : Nat}, namesOk ops bf l k = true → ∀ (i : Nat) (o : Oper), l[i]? = some o → writersOk bf (k + i) (nameSlots ops o) ops 0 = true
  | [], _, _, i, o, hi => by simp at hi
  | x :: r, k, h, i, o, hi => by
    simp only [namesOk, Bool.and_eq_true] at h
    cases i with
    | zero => simp at hi; subst hi; simpa using h.1
    | succ i =>
      have := names_spec h.2 i o (by simpa using hi)
      rwa [show k + 1 + i = k + (i + 1) from by omega] at this

theorem bf_spec : ∀ {l : List Oper} {k : Nat}, bfOk bf l k = true → ∀ (i : Nat) (o : Oper), l[i]? = some o → nth 0 bf (k + i) = maskOf bf o.after.toList ∧ ∀ e ∈ o.after.toList, Region.binds .any e = true → e.on < k + i
  | [], _, _, i, o, hi => by simp at hi
  | x :: r, k, h, i, o, hi => by
    simp only [bfOk, Bool.and_eq_true] at h
    cases i with
    | zero =>
      simp at hi; subst hi
      refine ⟨by simpa using Nat.eq_of_beq_eq_true h.1.1, fun e he hb => ?_⟩
      have := List.all_eq_true.1 h.1.2 e he
      rw [hb] at this
      have := Nat.blt_eq ▸ this; simpa using this
    | succ i =>
      have := bf_spec h.2 i o (by simpa using hi)
      rwa [show k + 1 + i = k + (i + 1) from by omega] at this

theorem mask_spec : ∀ {l : List Edge} {j : Nat}, (maskOf bf l).testBit j = true → ∃ e ∈ l, Region.binds .any e = true ∧ (j = e.on ∨ (nth 0 bf e.on).testBit j = true)
  | [], j, h => by simp [maskOf] at h
  | e :: r, j, h => by
    simp only [maskOf, Nat.testBit_or, Bool.or_eq_true] at h
    rcases h with h | h
    · split at h
      · rename_i hb
        rw [Nat.testBit_or, Bool.or_eq_true, Nat.testBit_two_pow] at h
        refine ⟨e, List.mem_cons_self .., hb, ?_⟩
        rcases h with h | h
        · left; exact (of_decide_eq_true h).symm
        · exact .inr h
      · simp at h
    · obtain ⟨e', hm, h1, h2⟩ := mask_spec h
      exact ⟨e', List.mem_cons_of_mem _ hm, h1, h2⟩

theorem cnt_congr {f g : Nat → Bool} : ∀ {l : List Nat}, (∀ x ∈ l, f x = g x) → cnt f l = cnt g l
  | [], _ => rfl
  | x :: r, h => by
    simp only [cnt, h x (List.mem_cons_self ..)]
    rw [cnt_congr fun y hy => h y (List.mem_cons_of_mem _ hy)]
theorem cnt_le {f g : Nat → Bool} : ∀ {l : List Nat}, (∀ x ∈ l, f x = true → g x = true) → cnt f l ≤ cnt g l
  | [], _ => Nat.le_refl _
  | x :: r, h => by
    have ih := cnt_le fun y hy => h y (List.mem_cons_of_mem _ hy)
    have hx := h x (List.mem_cons_self ..)
    simp only [cnt]
    cases hf : f x <;> cases hg : g x <;> simp_all <;> omega
theorem cnt_len (f : Nat → Bool) : ∀ (l : List Nat), cnt f l ≤ l.length
  | [] => Nat.le_refl _
  | x :: r => by have := cnt_len f r; simp only [cnt]; split <;> simp <;> omega
theorem cnt_disj {f g : Nat → Bool} : ∀ {l : List Nat}, (∀ x ∈ l, f x = true → g x = false) → cnt f l + cnt g l ≤ l.length
  | [], _ => Nat.le_refl _
  | x :: r, h => by
    have ih := cnt_disj fun y hy => h y (List.mem_cons_of_mem _ hy)
    have hx := h x (List.mem_cons_self ..)
    simp only [cnt]
    cases hf : f x <;> cases hg : g x <;> simp_all <;> omega
theorem cnt_add {f g : Nat → Bool} {i : Nat} (hg : ∀ x, g x = (f x || x == i)) (hf : f i = false) : ∀ {l : List Nat}, l.Nodup → cnt g l = cnt f l + (match l.contains i with | true => 1 | false => 0)
  | [], _ => rfl
  | x :: r, h => by
    have hn := List.nodup_cons.1 h
    have ih := cnt_add (i := i) hg hf hn.2
    simp only [cnt]
    by_cases hx : x = i
    · subst hx
      have : r.contains x = false := by simpa using hn.1
      rw [ih, this, hg x, hf]
      simp
    · have e : (x :: r).contains i = r.contains i := by
        simp; intro hh; exact absurd hh.symm hx
      rw [e, hg x, ih]
      have : (x == i) = false := by simpa using hx
      rw [this, Bool.or_false]
      cases f x <;> simp <;> omega
end

theorem effs_spec (κ : List Kd) : ∀ (l : List Oper) (k : Nat), (∀ e, e ∈ effs κ l k ↔ k ≤ e ∧ ∃ o, l[e - k]? = some o ∧ isEff κ o = true) ∧ (effs κ l k).Nodup
  | [], k => by simp [effs]
  | o :: r, k => by
    obtain ⟨h1, h2⟩ := effs_spec κ r (k + 1)
    have key : ∀ e, (k ≤ e ∧ ∃ o', (o :: r)[e - k]? = some o' ∧ isEff κ o' = true) ↔ (e = k ∧ isEff κ o = true) ∨ (k + 1 ≤ e ∧ ∃ o', r[e - (k + 1)]? = some o' ∧ isEff κ o' = true) := by
      intro e
      constructor
      · rintro ⟨hk, o', ho', he⟩
        rcases Nat.lt_or_ge k e with hlt | hge
        · right
          have : e - k = (e - (k + 1)) + 1 := by omega
          rw [this] at ho'
          exact ⟨hlt, o', by simpa using ho', he⟩
        · have : e = k := by omega
          subst this
          simp at ho'; subst ho'
          exact .inl ⟨rfl, he⟩
      · rintro (⟨rfl, he⟩ | ⟨hk, o', ho', he⟩)
        · exact ⟨Nat.le_refl _, o, by simp, he⟩
        · refine ⟨by omega, o', ?_, he⟩
          have : e - k = (e - (k + 1)) + 1 := by omega
          rw [this]; simpa using ho'
    unfold effs
    split
    · rename_i he
      refine ⟨fun e => ?_, ?_⟩
      · rw [key, List.mem_cons, h1]; simp [he]
      · refine List.nodup_cons.2 ⟨fun hm => ?_, h2⟩
        have := (h1 k).1 hm
        omega
    · rename_i he
      refine ⟨fun e => ?_, h2⟩
      rw [key, h1]; simp [he]

section
variable {P : Program} {κ : List Kd} {ops : Array Oper} {bf : List Nat}

theorem does_step {K : Act → World → Prop} {i : Nat} {rest : List Nat} {o : Oper} {fr : Fr} {a : Act} {w w' : World} {v : Value} (ho : ops[i]? = some o) (hd : DoesAt P ops.toList o fr w v w')
    (hag : ∀ t ∈ nameSlots ops.toList o, ∀ v, sget fr t = some v → a.tmps[t]? = some v) (hnext : OpsWp P ops K rest (a.put o.dst v) w') : OpsWp P ops K (i :: rest) a w := by
  have hwant : ∀ b, wantIn ops.toList fr o = some b → Region.wanted o (yielded ops a.tmps) = b := by
    intro b hb
    unfold wantIn at hb
    cases hg : o.guard with
    | none => simp [hg] at hb; simp [Region.wanted, hg, hb]
    | some jw =>
      obtain ⟨j, want⟩ := jw
      simp only [hg] at hb
      split at hb
      · cases hb
      · rename_i d hd
        have hmem : d ∈ nameSlots ops.toList o := by
          unfold nameSlots; refine List.mem_append_right _ ?_; simp only [hg, hd]; simp
        have hd' : (ops[j]?).bind (·.dst) = some d := by simpa using hd
        split at hb
        · cases hb
        · rename_i b' hb'
          have h1 := hag d hmem _ hb'
          simp only [Region.wanted, hg, yielded, hd', Option.bind_some, h1]
          simp at hb
          rw [← hb]; cases b' <;> cases want <;> rfl
        · rename_i u hu hne
          have h1 := hag d hmem _ hne
          simp only [Region.wanted, hg, yielded, hd', Option.bind_some, h1]
          simp at hb; subst hb
          cases u <;> first | rfl | (rename_i x; exact absurd rfl (hu x))
  rcases hd with ⟨h1, h2, h3, h4⟩ | ⟨h1, h2, h3⟩
  · have hw := hwant _ h1
    have hmem := Fr.allKnown_mem h2
    have he : execOp a.eval o = execOp (Fr.eval fr) o := by
      refine execOp_congr' o h3 fun x hx => ?_
      have hk := hmem x hx
      cases x with
      | tmp t =>
        simp only [Fr.known] at hk
        split at hk
        · rename_i u hu
          have hm : t ∈ nameSlots ops.toList o := by
            refine List.mem_append_left _ (List.mem_filterMap.2 ⟨.tmp t, hx, rfl⟩)
          have := hag t hm u hu
          simp [Act.eval, Fr.eval, hu, Array.getD_eq_getD_getElem?, this]
        · cases hk
      | const v => rfl
      | global g => rfl
      | func f => rfl
    rcases h4 with h4 | ⟨h4, h5⟩
    · exact .value ho hw (by rw [he]; exact h4) hnext
    · subst h5; exact .skip ho hw (by rw [he]; exact h4) hnext
  · subst h2; subst h3
    exact .skipped ho (hwant _ h1) hnext

variable {F : Nat → Fr} {vv : Nat → Value} {rf : Nat → Nat} {ws : Nat → World} {fr0 : Fr}

theorem F_slot (hc : Cert P κ ops.toList bf (effs κ ops.toList 0) ops.toList 0 0 fr0 ws F vv rf) : ∀ k, k ≤ ops.toList.length → ∀ t v, sget (F k) t = some v →
    (∃ j o, j < k ∧ ops.toList[j]? = some o ∧ o.dst = some t ∧ v = vv j) ∨ ((∀ j o, j < k → ops.toList[j]? = some o → o.dst ≠ some t) ∧ sget fr0 t = some v) := by
  intro k
  induction k with
  | zero => intro _ t v h; right; exact ⟨fun j o hj => by omega, by rw [← hc.F0]; exact h⟩
  | succ k ih =>
    intro hk t v h
    obtain ⟨o, ho⟩ : ∃ o, ops.toList[k]? = some o := ⟨_, List.getElem?_eq_getElem (by omega)⟩
    have h1 := (hc.at_ k o ho).1
    simp only [Nat.zero_add] at h1
    rw [h1] at h
    have old : sget (F k) t = some v → o.dst ≠ some t → (∃ j o, j < k + 1 ∧ ops.toList[j]? = some o ∧ o.dst = some t ∧ v = vv j) ∨ ((∀ j o, j < k + 1 → ops.toList[j]? = some o → o.dst ≠ some t) ∧ sget fr0 t = some v) := by
      intro h hne
      rcases ih (by omega) t v h with ⟨j, o', hj, r⟩ | ⟨hn, r⟩
      · exact .inl ⟨j, o', by omega, r⟩
      · refine .inr ⟨fun j o' hj ho' => ?_, r⟩
        rcases Nat.lt_or_ge j k with hlt | hge
        · exact hn j o' hlt ho'
        · have : j = k := by omega
          subst this; rw [ho] at ho'; cases ho'; exact hne
    cases hd : o.dst with
    | none => rw [hd] at h; exact old h (by rw [hd]; simp)
    | some d =>
      rw [hd] at h
      simp only [Fr.put, sput_eq, sget_eq, List.getElem?_set] at h
      by_cases hdt : d = t
      · subst hdt
        by_cases hl : d < (F k).length
        · simp [hl] at h
          exact .inl ⟨k, o, by omega, ho, hd, h.symm⟩
        · simp [hl] at h
      · simp only [hdt, if_false] at h
        exact old (by rw [sget_eq]; exact h) (by rw [hd]; simp [hdt])

theorem rf_cnt (hc : Cert P κ ops.toList bf (effs κ ops.toList 0) ops.toList 0 0 fr0 ws F vv rf) : ∀ k, k ≤ ops.toList.length → rf k = cnt (fun e => Nat.blt e k) (effs κ ops.toList 0) := by
  obtain ⟨h1, h2⟩ := effs_spec κ ops.toList 0
  intro k
  induction k with
  | zero =>
    intro _
    rw [hc.r0]
    have : ∀ l : List Nat, cnt (fun e => Nat.blt e 0) l = 0 := by
      intro l; induction l with
      | nil => rfl
      | cons x r ih => simp only [cnt, ih]; cases hb : Nat.blt x 0 <;> simp [Nat.blt] at hb ⊢
    exact (this _).symm
  | succ k ih =>
    intro hk
    obtain ⟨o, ho⟩ : ∃ o, ops.toList[k]? = some o := ⟨_, List.getElem?_eq_getElem (by omega)⟩
    have h3 := (hc.at_ k o ho).2.1
    simp only [Nat.zero_add] at h3
    rw [h3, ih (by omega)]
    have hb : ∀ x y, Nat.blt x y = decide (x < y) := by
      intro x y; by_cases h : x < y
      · simp [h, Nat.blt_eq]
      · simp only [h, decide_false]; cases hbb : Nat.blt x y with
        | false => rfl
        | true => exact absurd (Nat.blt_eq ▸ hbb) h
    rw [cnt_add (f := fun e => Nat.blt e k) (g := fun e => Nat.blt e (k + 1)) (i := k) (fun x => by
      simp only [hb]; by_cases hx : x = k
      · subst hx; simp
      · have : (x == k) = false := by simpa using hx
        rw [this, Bool.or_false]; congr 1; exact propext ⟨fun _ => by omega, fun _ => by omega⟩) (by rw [hb]; simp) h2]
    have hmem : (effs κ ops.toList 0).contains k = isEff κ o := by
      have := h1 k
      simp only [Nat.zero_le, true_and, Nat.sub_zero, ho] at this
      cases he : isEff κ o with
      | true => simp [this, he]
      | false => simp [this, he]
    rw [hmem]
    unfold bump
    cases isEff κ o <;> simp

end

/-- Where a schedule stands: what has been listed, and what the frame and the world are by then. -/
structure Inv (κ : List Kd) (ops : Array Oper) (bf : List Nat) (ws : Nat → World) (vv : Nat → Value) (a0 : Act) (listed : Array Bool) (a : Act) (w : World) : Prop where
  size : listed.size = ops.size
  closed : ∀ i, i < ops.size → listed.getD i false = true → ∀ j, (nth 0 bf i).testBit j = true → listed.getD j false = true
  put : ∀ i o d, ops[i]? = some o → listed.getD i false = true → o.dst = some d → d < a0.tmps.size → a.tmps[d]? = some (vv i)
  old : ∀ t, (∀ i o, ops[i]? = some o → listed.getD i false = true → o.dst ≠ some t) → a.tmps[t]? = a0.tmps[t]?
  len : a.tmps.size = a0.tmps.size
  defers : a.defers = a0.defers
  world : w = ws (cnt (fun e => listed.getD e false) (effs κ ops.toList 0))

theorem draw_go {P : Program} {κ : List Kd} {ops : Array Oper} {bf : List Nat} {ws : Nat → World} {F : Nat → Fr} {vv : Nat → Value} {rf : Nat → Nat} {fr0 : Fr} {a0 : Act} {D : List Deferred} {N : Nat} {K : Act → World → Prop}
    (hok : drawOk ops.toList bf (effs κ ops.toList 0) = true) (ha0 : Agree D N fr0 a0)
    (hc : Cert P κ ops.toList bf (effs κ ops.toList 0) ops.toList 0 0 fr0 ws F vv rf)
    (hend : ∀ a, Agree D N (F ops.size) a → Same (asgOps ops.toList) a0 a → K a (ws (rf ops.size))) :
    ∀ (fuel t : Nat) (listed : Array Bool) (a : Act) (w : World), Inv κ ops bf ws vv a0 listed a w → cnt (fun i => !listed.getD i false) (List.range ops.size) ≤ fuel →
      OpsWp P ops K (Region.linearise.go .any ops fuel t listed []) a w := by
  simp only [drawOk, Bool.and_eq_true] at hok
  obtain ⟨⟨⟨hnames, huniq⟩, hbf⟩, hchain⟩ := hok
  obtain ⟨heff, hnod⟩ := effs_spec κ ops.toList 0
  have hlen : ops.toList.length = ops.size := by simp
  have hbfs := fun i o (h : ops[i]? = some o) => bf_spec hbf i o (by simpa using h)
  simp only [Nat.zero_add] at hbfs
  have hblt : ∀ x y, Nat.blt x y = decide (x < y) := by
    intro x y; by_cases h : x < y
    · simp [h, Nat.blt_eq]
    · simp only [h, decide_false]; cases hbb : Nat.blt x y with
      | false => rfl
      | true => exact absurd (Nat.blt_eq ▸ hbb) h
  -- the end
  have fin : ∀ listed a w, Inv κ ops bf ws vv a0 listed a w → (∀ i, i < ops.size → listed.getD i false = true) → K a w := by
    intro listed a w hi hall
    have hw : w = ws (rf ops.size) := by
      rw [hi.world, ← hlen, rf_cnt hc _ (Nat.le_refl _)]
      congr 1
      refine cnt_congr fun e he => ?_
      obtain ⟨_, o, ho, _⟩ := (heff e).1 he
      have hlt : e < ops.size := by
        rcases Nat.lt_or_ge e ops.size with h | h
        · exact h
        · rw [Nat.sub_zero, List.getElem?_eq_none (by simpa using h)] at ho; cases ho
      rw [hall e hlt, hblt]; simp [hlt]
    rw [hw]
    refine hend a ⟨?_, ?_, ?_, ?_⟩ ?_
    · have : ∀ k, k ≤ ops.toList.length → (F k).length = N := by
        intro k
        induction k with
        | zero => intro _; rw [hc.F0]; exact ha0.len
        | succ k ih =>
          intro hk
          obtain ⟨o, ho⟩ : ∃ o, ops.toList[k]? = some o := ⟨_, List.getElem?_eq_getElem (by omega)⟩
          have h1 := (hc.at_ k o ho).1
          simp only [Nat.zero_add] at h1
          rw [h1]
          cases o.dst <;> simp [Fr.put, sput_eq, ih (by omega)]
      exact this _ (by omega)
    · have : ∀ k, k ≤ ops.toList.length → (F k).length = N := by
        intro k
        induction k with
        | zero => intro _; rw [hc.F0]; exact ha0.len
        | succ k ih =>
          intro hk
          obtain ⟨o, ho⟩ : ∃ o, ops.toList[k]? = some o := ⟨_, List.getElem?_eq_getElem (by omega)⟩
          have h1 := (hc.at_ k o ho).1
          simp only [Nat.zero_add] at h1
          rw [h1]
          cases o.dst <;> simp [Fr.put, sput_eq, ih (by omega)]
      rw [this _ (by omega), hi.len, ← ha0.size, ha0.len]
    · rw [hi.defers, ha0.defers]
    · intro t v h
      rcases F_slot hc ops.size (by omega) t v h with ⟨j, o, hj, ho, hd, rfl⟩ | ⟨hn, hv⟩
      · have ht : t < a0.tmps.size := by
          have := List.getElem?_eq_some_iff.1 (show (F ops.size)[t]? = some (some (vv j)) by
            rw [sget_eq] at h; cases hx : (F ops.size)[t]? with
            | none => rw [hx] at h; cases h
            | some y => rw [hx] at h; simp at h; rw [h])
          have h2 := this.1
          have h3 : (F ops.size).length = N := by
            have : ∀ k, k ≤ ops.toList.length → (F k).length = N := by
              intro k
              induction k with
              | zero => intro _; rw [hc.F0]; exact ha0.len
              | succ k ih =>
                intro hk
                obtain ⟨o, ho⟩ : ∃ o, ops.toList[k]? = some o := ⟨_, List.getElem?_eq_getElem (by omega)⟩
                have h1 := (hc.at_ k o ho).1
                simp only [Nat.zero_add] at h1
                rw [h1]
                cases o.dst <;> simp [Fr.put, sput_eq, ih (by omega)]
            exact this _ (by omega)
          rw [← ha0.size, ha0.len]; omega
        exact hi.put j o t (by simpa using ho) (hall j hj) hd ht
      · rw [hi.old t (fun i o ho _ => hn i o (by
          rcases Nat.lt_or_ge i ops.size with h | h
          · exact h
          · rw [Array.getElem?_eq_none h] at ho; cases ho) (by simpa using ho))]
        exact ha0.slot _ _ hv
    · intro t ht
      refine hi.old t fun i o ho _ hd => ?_
      have := asgOps_mem (l := ops.toList) (List.mem_of_getElem? (show ops.toList[i]? = some o by simpa using ho)) hd
      rw [ht] at this; cases this
  intro fuel
  induction fuel with
  | zero =>
    intro t listed a w hi hcnt
    refine .nil (fin listed a w hi fun i hlt => ?_)
    have key : ∀ l : List Nat, cnt (fun i => !listed.getD i false) l ≤ 0 → ∀ i ∈ l, listed.getD i false = true := by
      intro l
      induction l with
      | nil => intro _ i hm; cases hm
      | cons x r ih =>
        intro h i hm
        simp only [cnt] at h
        split at h
        · omega
        · rename_i hx
          rcases List.mem_cons.1 hm with e | hm
          · subst e; simpa using hx
          · exact ih h i hm
    exact key _ hcnt i (List.mem_range.2 hlt)
  | succ fuel ih =>
    intro t listed a w hi hcnt
    simp only [Region.linearise.go]
    change OpsWp P ops K (match (Region.ready .any ops listed)[t % (Region.ready .any ops listed).length]? with
      | some i => Region.linearise.go .any ops fuel (t / (Region.ready .any ops listed).length) (listed.setIfInBounds i true) [i]
      | none => [].reverse) a w
    have hready : ∀ i, i ∈ Region.ready .any ops listed ↔ i < ops.size ∧ listed.getD i true = false ∧ ∃ o, ops[i]? = some o ∧ ∀ e ∈ o.after.toList, Region.binds .any e = true → listed.getD e.on false = true := by
      intro i
      unfold Region.ready
      rw [List.mem_filter, List.mem_range]
      refine and_congr_right fun hlt => ?_
      rw [Bool.and_eq_true]
      refine and_congr (by simp) ?_
      obtain ⟨o, ho⟩ : ∃ o, ops[i]? = some o := ⟨_, Array.getElem?_eq_getElem hlt⟩
      simp only [ho, Option.map_some, Option.getD_some, Array.all_eq_true_iff_forall_mem]
      constructor
      · intro h
        refine ⟨o, rfl, fun e he hb => ?_⟩
        have := h e (by simpa using he)
        simpa [hb] using this
      · rintro ⟨o', e', h⟩ e he
        cases e'
        have := h e (by simpa using he)
        cases hb : Region.binds .any e with
        | false => simp
        | true => simpa using this hb
    have hgetD : ∀ i, i < ops.size → listed.getD i true = listed.getD i false := by
      intro i hlt
      rw [Array.getD_eq_getD_getElem?, Array.getD_eq_getD_getElem?, Array.getElem?_eq_getElem (by rw [hi.size]; exact hlt)]
      rfl
    cases hsel : (Region.ready .any ops listed)[t % (Region.ready .any ops listed).length]? with
    | none =>
      have hnil : Region.ready .any ops listed = [] := by
        cases hr : Region.ready .any ops listed with
        | nil => rfl
        | cons x xs =>
          rw [hr] at hsel
          have hlt : t % (x :: xs).length < (x :: xs).length := Nat.mod_lt _ (by simp)
          rw [List.getElem?_eq_getElem hlt] at hsel
          cases hsel
      refine .nil (fin listed a w hi ?_)
      intro i
      induction i using Nat.strongRecOn with
      | _ i ihi =>
        intro hlt
        cases hl : listed.getD i false with
        | true => rfl
        | false =>
          exfalso
          obtain ⟨o, ho⟩ : ∃ o, ops[i]? = some o := ⟨_, Array.getElem?_eq_getElem hlt⟩
          have : i ∈ Region.ready .any ops listed := (hready i).2 ⟨hlt, by rw [hgetD i hlt]; exact hl, o, ho, fun e he hb => ihi e.on ((hbfs i o ho).2 e he hb) (by have := (hbfs i o ho).2 e he hb; omega)⟩
          rw [hnil] at this; cases this
    | some i =>
      simp only []
      rw [linearise_go_acc, List.reverse_singleton, List.singleton_append]
      obtain ⟨hlt, hun0, o, ho, hdeps⟩ := (hready i).1 (List.mem_of_getElem? hsel)
      have hun : listed.getD i false = false := by rw [← hgetD i hlt]; exact hun0
      have hpre : ∀ j, (nth 0 bf i).testBit j = true → listed.getD j false = true := by
        intro j hj
        rw [(hbfs i o ho).1] at hj
        obtain ⟨e, he, hb, h⟩ := mask_spec hj
        have hl := hdeps e he hb
        rcases h with rfl | h
        · exact hl
        · exact hi.closed e.on (by have := (hbfs i o ho).2 e he hb; omega) hl j h
      have hpost : ∀ j, j < ops.size → (nth 0 bf j).testBit i = true → listed.getD j false = false := by
        intro j hj h
        cases hl : listed.getD j false with
        | false => rfl
        | true => rw [hi.closed j hj hl i h] at hun; cases hun
      have hcert := hc.at_ i o (by simpa using ho)
      simp only [Nat.zero_add] at hcert
      obtain ⟨hF, hrf, hdoes⟩ := hcert
      have hrfi := rf_cnt hc i (by omega)
      -- how many writers have run
      have hefflt : ∀ e ∈ effs κ ops.toList 0, e < ops.size := by
        intro e he
        obtain ⟨_, o', ho', _⟩ := (heff e).1 he
        rcases Nat.lt_or_ge e ops.size with h | h
        · exact h
        · rw [Nat.sub_zero, List.getElem?_eq_none (by simpa using h)] at ho'; cases ho'
      have hlo : cnt (fun e => (nth 0 bf i).testBit e) (effs κ ops.toList 0) ≤ cnt (fun e => listed.getD e false) (effs κ ops.toList 0) := cnt_le fun e _ h => hpre e h
      have hhi : cnt (fun e => listed.getD e false) (effs κ ops.toList 0) + cnt (fun e => (nth 0 bf e).testBit i) (effs κ ops.toList 0) ≤ (effs κ ops.toList 0).length := by
        refine cnt_disj fun e he h => ?_
        cases hb : (nth 0 bf e).testBit i with
        | false => rfl
        | true => rw [hpost e (hefflt e he) hb] at h; cases h
      have hchainS : ∀ (l : List Nat), chainOk bf l = true → ∀ x ∈ l, ∀ y ∈ l, x < y → (nth 0 bf y).testBit x = true := by
        intro l
        induction l with
        | nil => intro _ x hx; cases hx
        | cons z r ihl =>
          intro h x hx y hy hxy
          simp only [chainOk, Bool.and_eq_true] at h
          have hz := fun f hf => (List.all_eq_true.1 h.1 f hf)
          rcases List.mem_cons.1 hx with e1 | hx
          · rcases List.mem_cons.1 hy with e2 | hy
            · omega
            · have := hz y hy; rw [Bool.and_eq_true] at this; rw [e1]; exact this.1
          · rcases List.mem_cons.1 hy with e2 | hy
            · have := hz x hx; rw [Bool.and_eq_true, hblt] at this
              have h2 := of_decide_eq_true this.2
              omega
            · exact ihl h.2 x hx y hy hxy
      have heq : isEff κ o = true → cnt (fun e => listed.getD e false) (effs κ ops.toList 0) = rf i := by
        intro he
        have himem : i ∈ effs κ ops.toList 0 := (heff i).2 ⟨Nat.zero_le _, o, by simpa using ho, he⟩
        rw [hrfi]
        refine cnt_congr fun e hem => ?_
        rw [hblt]
        rcases Nat.lt_trichotomy e i with h | h | h
        · rw [hpre e (hchainS _ hchain e hem i himem h)]; simp [h]
        · subst h; rw [hun]; simp
        · rw [hpost e (hefflt e hem) (hchainS _ hchain i himem e hem h)]; simp; omega
      have hd := hdoes (cnt (fun e => listed.getD e false) (effs κ ops.toList 0)) heq (by omega) (by omega)
      rw [← hi.world] at hd
      -- the names
      have hnm := names_spec hnames i o (by simpa using ho)
      simp only [Nat.zero_add] at hnm
      refine does_step ho hd ?_ ?_
      · intro t htm v hv
        rcases F_slot hc i (by omega) t v hv with ⟨j, oj, hj, hoj, hdj, rfl⟩ | ⟨hn, hv0⟩
        · have hp := writers_spec hnm j oj t hoj hdj htm
          simp only [Nat.zero_add, pairOk, hblt, hj, decide_true] at hp
          have hjl := hpre j hp
          have ht : t < a0.tmps.size := by
            have h3 : ∀ k, k ≤ ops.toList.length → (F k).length = N := by
              intro k
              induction k with
              | zero => intro _; rw [hc.F0]; exact ha0.len
              | succ k ih =>
                intro hk
                obtain ⟨o, ho⟩ : ∃ o, ops.toList[k]? = some o := ⟨_, List.getElem?_eq_getElem (by omega)⟩
                have h1 := (hc.at_ k o ho).1
                simp only [Nat.zero_add] at h1
                rw [h1]
                cases o.dst <;> simp [Fr.put, sput_eq, ih (by omega)]
            rw [← ha0.size, ha0.len, ← h3 i (by omega)]
            rw [sget_eq] at hv
            rcases Nat.lt_or_ge t (F i).length with h | h
            · exact h
            · rw [List.getElem?_eq_none h] at hv; cases hv
          exact hi.put j oj t (by simpa using hoj) hjl hdj ht
        · rw [hi.old t ?_]
          · exact ha0.slot _ _ hv0
          · intro j oj hoj hlj hdj
            have hjlt : j < ops.size := by
              rcases Nat.lt_or_ge j ops.size with h | h
              · exact h
              · rw [Array.getElem?_eq_none h] at hoj; cases hoj
            rcases Nat.lt_trichotomy j i with h | h | h
            · exact hn j oj h (by simpa using hoj) hdj
            · subst h; rw [hun] at hlj; cases hlj
            · have hp := writers_spec hnm j oj t (by simpa using hoj) hdj htm
              simp only [Nat.zero_add, pairOk, hblt, show ¬ (j < i) from by omega, decide_false, h, decide_true] at hp
              rw [hpost j hjlt hp] at hlj; cases hlj
      · have hset : ∀ j, (listed.setIfInBounds i true).getD j false = (listed.getD j false || j == i) := by
          intro j
          rw [Array.getD_eq_getD_getElem?, Array.getD_eq_getD_getElem?, Array.getElem?_setIfInBounds]
          by_cases hji : i = j
          · subst hji; simp [hi.size, hlt]
          · have : (j == i) = false := by simpa using fun e => hji e.symm
            simp [hji, this]
        refine ih _ _ _ _ ⟨by simp [hi.size], ?_, ?_, ?_, ?_, ?_, ?_⟩ ?_
        · intro k hk hl j hj
          rw [hset] at hl ⊢
          rw [Bool.or_eq_true] at hl ⊢
          rcases hl with hl | hl
          · exact .inl (hi.closed k hk hl j hj)
          · have : k = i := by simpa using hl
            subst this; exact .inl (hpre j hj)
        · intro k ok d hok hl hdk hdlt
          rw [hset, Bool.or_eq_true] at hl
          by_cases hki : k = i
          · subst hki
            rw [ho] at hok; cases hok
            rw [hdk]; simp [Act.put, hi.len, hdlt]
          · have hl : listed.getD k false = true := by
              rcases hl with hl | hl
              · exact hl
              · exact absurd (by simpa using hl) hki
            have h1 := hi.put k ok d hok hl hdk hdlt
            cases hdo : o.dst with
            | none => exact h1
            | some d' =>
              have hne : d' ≠ d := by
                rintro rfl
                exact hki (uniq_spec huniq k i ok o d' (by simpa using hok) (by simpa using ho) hdk hdo)
              simp only [Act.put]
              rw [Array.getElem?_setIfInBounds_ne hne]; exact h1
        · intro t htn
          have h1 := hi.old t fun k ok hok hl => htn k ok hok (by rw [hset, hl]; rfl)
          have h2 := htn i o ho (by rw [hset]; simp)
          cases hdo : o.dst with
          | none => exact h1
          | some d' =>
            have hne : d' ≠ t := by rintro rfl; exact h2 hdo
            simp only [Act.put]
            rw [Array.getElem?_setIfInBounds_ne hne]; exact h1
        · cases o.dst <;> simp [Act.put, hi.len]
        · cases o.dst <;> simp [Act.put, hi.defers]
        · rw [cnt_add (f := fun e => listed.getD e false) (g := fun e => (listed.setIfInBounds i true).getD e false) (i := i) hset hun hnod]
          have hmem : (effs κ ops.toList 0).contains i = isEff κ o := by
            have := heff i
            simp only [Nat.zero_le, true_and, Nat.sub_zero, show ops.toList[i]? = some o by simpa using ho] at this
            cases he : isEff κ o with
            | true => simp [this, he]
            | false => simp [this, he]
          rw [hmem]
          unfold bump
          cases isEff κ o <;> rfl
        · have h2 : cnt (fun j => !(listed.setIfInBounds i true).getD j false) (List.range ops.size) + 1 = cnt (fun j => !listed.getD j false) (List.range ops.size) := by
            have := cnt_add (f := fun j => !(listed.setIfInBounds i true).getD j false) (g := fun j => !listed.getD j false) (i := i) (fun x => by
              rw [hset]
              by_cases hx : x = i
              · subst hx; rw [hun]; simp
              · have : (x == i) = false := by simpa using hx
                rw [this]; simp) (by rw [hset]; simp) (l := List.range ops.size) List.nodup_range
            rw [this]
            have : (List.range ops.size).contains i = true := by simpa using hlt
            rw [this]
          omega

def postOf (D : List Deferred) (N : Nat) (f : Nat → Bool) (a0 : Act) (Kn : KF) (Ke : Nat → KF) (Kr : KF) : Exit → Act → World → Prop
  | .normal, a, w => ∃ fr, Agree D N fr a ∧ Same f a0 a ∧ Kn fr w
  | .exit i, a, w => ∃ fr, Agree D N fr a ∧ Same f a0 a ∧ Ke i fr w
  | .ret, a, w => ∃ fr, Agree D N fr a ∧ Same f a0 a ∧ Kr fr w
  | _, _, _ => False
theorem postOf_weaken {D : List Deferred} {N : Nat} {f g : Nat → Bool} {a0 a1 : Act} {Kn Kr : KF} {Ke : Nat → KF} (hfg : ∀ t, g t = false → f t = false) (hs : Same g a0 a1) {e : Exit} {a : Act} {w : World}
    (h : postOf D N f a1 Kn Ke Kr e a w) : postOf D N g a0 Kn Ke Kr e a w := by
  cases e <;> simp only [postOf] at h ⊢
  all_goals first
    | (obtain ⟨fr, h1, h2, h3⟩ := h; exact ⟨fr, h1, hs.trans (h2.weaken hfg), h3⟩)
    | exact h

/-- The region that draws: the reading is enough. -/
theorem draw_sound {P : Program} {κ : List Kd} {ops : Array Oper} {id : Nat} {bf : List Nat} {D : List Deferred} {N : Nat} {fr : Fr} {a : Act} {w : World} {Kn Kr : KF} {Ke : Nat → KF}
    (hm : P.follows .mixedOrders = true) (hok : drawOk ops.toList bf (effs κ ops.toList 0) = true) (ha : Agree D N fr a)
    (h : drawX P κ ops.toList bf (effs κ ops.toList 0) ops.toList 0 0 none fr [] w.drew [] Kn) :
    (Code.region id ops true).wp P (postOf D N (asgOps ops.toList) a Kn Ke Kr) a w := by
  obtain ⟨ws, F, vv, rf, ht, _, hc, hk⟩ := drawX_res (bf := bf) (ef := effs κ ops.toList 0) (ops := ops.toList) _ _ 0 _ _ [] _ _ _ rfl h
  simp only [Nat.zero_add, Array.length_toList] at hk
  intro b k cs
  have key : ∀ t, OpsWp P ops (postOf D N (asgOps ops.toList) a Kn Ke Kr .normal) (Region.schedule (P.follows .mixedOrders) ops t) a w.drew := by
    intro t
    simp only [Region.schedule, hm, Bool.true_or, if_true, Region.linearise]
    refine draw_go hok ha hc (fun a' h1 h2 => ⟨_, h1, h2, hk⟩) ops.size t _ a w.drew ⟨by simp, ?_, ?_, ?_, rfl, rfl, ?_⟩ ?_
    · intro i hi hl; simp [Array.getD_eq_getD_getElem?, hi] at hl
    · intro i o d ho hl
      rw [Array.getD_eq_getD_getElem?, Array.getElem?_replicate] at hl
      split at hl <;> simp at hl
    · intro t _; rfl
    · have : ∀ l : List Nat, cnt (fun e => (Array.replicate ops.size false).getD e false) l = 0 := by
        intro l
        induction l with
        | nil => rfl
        | cons x r ih =>
          simp only [cnt, ih]
          have : (Array.replicate ops.size false).getD x false = false := by
            rw [Array.getD_eq_getD_getElem?, Array.getElem?_replicate]; split <;> rfl
          rw [this]
      rw [this]; exact ht.now.symm
    · exact Nat.le_trans (cnt_len _ _) (by simp)
  obtain ⟨a', w', hk, hs⟩ := key (w.tape w.drawn (.order b.fn id)) b k cs
  exact ⟨.normal, a', w', hk, .head step_region_draw hs⟩
end Go.Fw

/- Whole pieces of code, and whole functions. -/
namespace Go.Fw
open Go
/-! ### code -/
/-- The slots that live on, with their kinds. -/
abbrev Live := List (Nat × Kd)
@[reducible] def LT : Live → Type
  | [] => Unit
  | (_, k) :: r => k.T × LT r
def injS : (l : Live) → LT l → List (Option Value) → List (Option Value)
  | [], _, s => s
  | (t, k) :: r, x, s => injS r x.2 (sput s t (k.val x.1))
def inj (f : Nat → Bool) (l : Live) (x : LT l) (fr : Fr) : Fr := injS l x (keepU f 0 fr)
def sel : (l : Live) → Fr → (LT l → Prop) → Prop
  | [], _, f => f ()
  | (t, k) :: r, fr, f => match sget fr t with
    | none => False
    | some v => k.un v fun x => sel r fr fun y => f (x, y)

def JoinX {α : Type} (K : α → World → Prop) (F : (α → World → Prop) → Prop) : Prop := F K
def LoopX {α : Type} (body : α → World → (α → World → Prop) → Prop) (s : α) (w : World) : Prop :=
  ∃ (I : α → World → Prop) (μ : α → World → Nat), I s w ∧ ∀ s w, I s w → body s w fun s' w' => I s' w' ∧ μ s' w' < μ s w

theorem injS_len : ∀ (l : Live) (x : LT l) (s : List (Option Value)), (injS l x s).length = s.length
  | [], _, _ => rfl
  | (t, k) :: r, x, s => by rw [injS, injS_len r]; simp [sput_eq]

def Holds : (l : Live) → Fr → LT l → Prop
  | [], _, _ => True
  | (t, k) :: r, fr, x => sget fr t = some (k.val x.1) ∧ Holds r fr x.2
theorem sel_holds : ∀ (l : Live) (fr : Fr) (f : LT l → Prop), sel l fr f → ∃ x, Holds l fr x ∧ f x
  | [], _, f, h => ⟨(), trivial, h⟩
  | (t, k) :: r, fr, f, h => by
    unfold sel at h
    split at h
    · exact h.elim
    · rename_i v hv
      obtain ⟨y, hy, h⟩ := (Kd.un_uns k).1 _ _ h
      obtain ⟨z, hz, h⟩ := sel_holds r fr _ h
      exact ⟨(y, z), ⟨by rw [hy]; exact hv, hz⟩, h⟩
theorem injS_slot {D : List Deferred} {N : Nat} : ∀ (l : Live) (x : LT l) (s : List (Option Value)) (fr : Fr) (a : Act), Agree D N fr a → s.length = a.tmps.size → Holds l fr x →
    (∀ t v, sget s t = some v → a.tmps[t]? = some v) → ∀ t v, sget (injS l x s) t = some v → a.tmps[t]? = some v
  | [], _, _, _, _, _, _, _, h => h
  | (t, k) :: r, x, s, fr, a, ha, hs, hx, h => by
    refine injS_slot r x.2 (sput s t (k.val x.1)) fr a ha (by simpa [sput_eq] using hs) hx.2 ?_
    intro u p hp
    rw [sput_eq, sget_eq, List.getElem?_set] at hp
    by_cases htu : t = u
    · subst htu
      by_cases hl : t < s.length
      · simp [hl] at hp; subst hp; exact ha.slot _ _ hx.1
      · simp [hl] at hp
    · simp only [htu, if_false] at hp
      exact h u p (by rw [sget_eq]; exact hp)
theorem inj_agree {D : List Deferred} {N : Nat} {f : Nat → Bool} {l : Live} {x : LT l} {fr fr0 : Fr} {a0 a : Act} (ha0 : Agree D N fr0 a0) (ha : Agree D N fr a) (hs : Same f a0 a) (hx : Holds l fr x) :
    Agree D N (inj f l x fr0) a := by
  have hl : (keepU f 0 fr0).length = N := by rw [keepU_len, ha0.len]
  have hN : a.tmps.size = N := by rw [← ha.size, ha.len]
  refine ⟨by simp [inj, injS_len, hl], by simp [inj, injS_len, hl, hN], ha.defers, injS_slot l x _ fr a ha (by rw [hl, hN]) hx fun t v h => ?_⟩
  obtain ⟨h1, h2⟩ := keepU_get f _ _ _ _ h
  rw [hs t (by simpa using h1)]
  exact ha0.slot _ _ h2

/-- How many numbers a piece of code takes: one for each 'seq' and 'loop'. -/
def sz : Code → Nat
  | .seq a b => sz a + sz b + 1
  | .cond _ a b => sz a + sz b
  | .block _ b => sz b
  | .loop b => sz b + 1
  | .scope b => sz b
  | _ => 0

def codeX (P : Program) (κ : List Kd) (ann : List (Nat × Live)) : Code → Nat → Fr → World → KF → (Nat → KF) → KF → Prop
  | .skip, _, fr, w, Kn, _, _ => Kn fr w
  | .region _ ops draw, _, fr, w, Kn, _, _ => match draw with
    | true => match P.follows .mixedOrders, drawOk ops.toList (befGo ops.toList []) (effs κ ops.toList 0) with
      | true, true => drawX P κ ops.toList (befGo ops.toList []) (effs κ ops.toList 0) ops.toList 0 0 none fr [] w.drew [] Kn
      | _, _ => False
    | false => opsX P κ ops ops.toList none fr w Kn
  | .seq a b, n, fr, w, Kn, Ke, Kr => match look ann n with
    | none => codeX P κ ann a (n + 1) fr w (fun fr w => codeX P κ ann b (n + 1 + sz a) fr w Kn Ke Kr) Ke Kr
    | some l => JoinX (fun (x : LT l) w => codeX P κ ann b (n + 1 + sz a) (inj (asg a) l x fr) w Kn Ke Kr)
        fun k => codeX P κ ann a (n + 1) fr w (fun fr w => sel l fr fun x => k x w) Ke Kr
  | .cond c a b, n, fr, w, Kn, Ke, Kr => match Fr.known fr c, (Fr.eval fr) c with
    | true, .bool t => SplitB t (codeX P κ ann a n fr w Kn Ke Kr) (codeX P κ ann b (n + sz a) fr w Kn Ke Kr)
    | _, _ => False
  | .block id b, n, fr, w, Kn, Ke, Kr => codeX P κ ann b n fr w Kn (fun i fr w => match Nat.beq i id with | true => Kn fr w | false => Ke i fr w) Kr
  | .exit id, _, fr, w, _, Ke, _ => Ke id fr w
  | .ret, _, fr, w, _, _, Kr => Kr fr w
  | .loop b, n, fr, w, _, Ke, Kr => match look ann n with
    | none => False
    | some l => sel l fr fun x => LoopX (fun (x : LT l) w k => codeX P κ ann b (n + 1) (inj (asg b) l x fr) w (fun fr w => sel l fr fun x => k x w) Ke Kr) x w
  | .label _, _, fr, w, Kn, _, _ => Kn fr w
  | _, _, _, _, _, _, _ => False

theorem wp_loop_ranked {P : Program} {c : Code} {Q : Exit → Act → World → Prop} (I : Nat → Act → World → Prop)
    (round : ∀ n a w, I n a w → c.wp P (Exit.then (fun a' w' => ∃ m, m < n ∧ I m a' w') Q) a w) (n : Nat) (a : Act) (w : World) (h₀ : I n a w) : (Code.loop c).wp P Q a w := by
  intro b k cs
  have key : ∀ n a w, I n a w → ∃ e a' w', Q e a' w' ∧ Arrives P (lone (b.at a (.code c :: .inLoop c :: k)) cs w) b k cs e a' w' := by
    intro n
    induction n using Nat.strongRecOn with
    | _ n ih =>
      intro a w hI
      obtain ⟨e, a₁, w₁, hq, harr⟩ := round n a w hI b (.inLoop c :: k) cs
      cases e with
      | normal =>
        obtain ⟨m, hm, hI₁⟩ := hq
        obtain ⟨e₂, a₂, w₂, hq₂, harr₂⟩ := ih m hm a₁ w₁ hI₁
        exact ⟨e₂, a₂, w₂, hq₂, .of_steps (Steps.trans harr (.one step_inLoop)) harr₂⟩
      | exit id => exact ⟨_, a₁, w₁, hq, .pass (x := .inLoop c) rfl (fun _ _ => .inl (by simp)) harr⟩
      | goto l => exact ⟨_, a₁, w₁, hq, .pass (x := .inLoop c) rfl (fun _ _ => .inl (by simp)) harr⟩
      | ret => exact ⟨_, a₁, w₁, hq, .pass (x := .inLoop c) rfl (fun _ _ => .inl (by simp)) harr⟩
      | panic ch => exact ⟨_, a₁, w₁, hq, .pass (x := .inLoop c) rfl (fun _ _ => .inl (by simp)) harr⟩
      | outgrown => exact ⟨_, a₁, w₁, hq, .pass (x := .inLoop c) rfl (fun _ _ => .inl (by simp)) harr⟩
  obtain ⟨e, a', w', hq, harr⟩ := key n a w h₀
  exact ⟨e, a', w', hq, .of_steps (.one step_loop) harr⟩

theorem asg_seq1 {a b : Code} {t : Nat} (h : asg (.seq a b) t = false) : asg a t = false ∧ asg b t = false := by
  simp only [asg] at h; split at h
  · cases h
  · rename_i h1; exact ⟨by simpa using h1, h⟩
theorem asg_cond1 {c : Operand} {a b : Code} {t : Nat} (h : asg (.cond c a b) t = false) : asg a t = false ∧ asg b t = false := by
  simp only [asg] at h; split at h
  · cases h
  · rename_i h1; exact ⟨by simpa using h1, h⟩

theorem codeX_sound {D : List Deferred} {N : Nat} {P : Program} {κ : List Kd} {ann : List (Nat × Live)} : ∀ (c : Code) (n : Nat) (fr : Fr) (a : Act) (w : World) (Kn : KF) (Ke : Nat → KF) (Kr : KF),
    Agree D N fr a → codeX P κ ann c n fr w Kn Ke Kr → c.wp P (postOf D N (asg c) a Kn Ke Kr) a w := by
  intro c
  induction c with
  | skip => intro n fr a w Kn Ke Kr ha h; exact wp_skip ⟨fr, ha, Same.refl _ _, h⟩
  | label l => intro n fr a w Kn Ke Kr ha h; exact wp_label ⟨fr, ha, Same.refl _ _, h⟩
  | exit id => intro n fr a w Kn Ke Kr ha h; exact wp_exit ⟨fr, ha, Same.refl _ _, h⟩
  | ret => intro n fr a w Kn Ke Kr ha h; exact wp_ret ⟨fr, ha, Same.refl _ _, h⟩
  | region id ops draw =>
    intro n fr a w Kn Ke Kr ha h
    simp only [codeX] at h
    cases draw with
    | true =>
      simp only at h
      split at h
      · rename_i hm hok
        exact draw_sound hm hok ha h
      · exact h.elim
    | false =>
      have := opsX_sound (P := P) (κ := κ) (ops := ops) ops.toList 0 none fr a w Kn (asgOps ops.toList) (by simp) (fun o ho d hd => asgOps_mem ho hd) ha h
      exact wp_of_opsWp (by rw [List.range_eq_range', ← Array.length_toList]; exact this)
  | seq x y ihx ihy =>
    intro n fr a w Kn Ke Kr ha h
    simp only [codeX] at h
    refine wp_seq ?_
    split at h
    · refine wp_mono (ihx _ _ _ _ _ _ _ ha h) ?_
      intro e a' w' hq
      cases e <;> simp only [postOf, Exit.then] at hq ⊢ <;> first
        | exact hq
        | (obtain ⟨fr', ha', hs, hk⟩ := hq; exact ⟨fr', ha', hs.weaken fun t ht => (asg_seq1 ht).1, hk⟩)
        | skip
      obtain ⟨fr', ha', hs, hk⟩ := hq
      exact wp_mono (ihy _ _ _ _ _ _ _ ha' hk) fun e a w hh => postOf_weaken (fun t ht => (asg_seq1 ht).2) (hs.weaken fun t ht => (asg_seq1 ht).1) hh
    · rename_i l hl
      refine wp_mono (ihx _ _ _ _ _ _ _ ha h) ?_
      intro e a' w' hq
      cases e <;> simp only [postOf, Exit.then] at hq ⊢ <;> first
        | exact hq
        | (obtain ⟨fr', ha', hs, hk⟩ := hq; exact ⟨fr', ha', hs.weaken fun t ht => (asg_seq1 ht).1, hk⟩)
        | skip
      obtain ⟨fr', ha', hs, hk⟩ := hq
      obtain ⟨x, hx, hk⟩ := sel_holds _ _ _ hk
      exact wp_mono (ihy _ _ _ _ _ _ _ (inj_agree ha ha' hs hx) hk) fun e a w hh => postOf_weaken (fun t ht => (asg_seq1 ht).2) (hs.weaken fun t ht => (asg_seq1 ht).1) hh
  | cond c x y ihx ihy =>
    intro n fr a w Kn Ke Kr ha h
    simp only [codeX] at h
    split at h
    · rename_i t hk hc
      refine wp_cond_split (t := t) (by rw [ha.eval hk]; exact hc) ?_ ?_
      · rintro rfl; exact wp_mono (ihx _ _ _ _ _ _ _ ha h) fun e a w hh => postOf_weaken (fun t ht => (asg_cond1 ht).1) (Same.refl _ _) hh
      · rintro rfl; exact wp_mono (ihy _ _ _ _ _ _ _ ha h) fun e a w hh => postOf_weaken (fun t ht => (asg_cond1 ht).2) (Same.refl _ _) hh
    · exact h.elim
  | block id b ih =>
    intro n fr a w Kn Ke Kr ha h
    simp only [codeX] at h
    refine wp_block (wp_mono (ih _ _ _ _ _ _ _ ha h) ?_)
    intro e a' w' hq
    cases e <;> simp only [postOf, Exit.inBlock] at hq ⊢ <;> first | exact hq | skip
    rename_i i
    obtain ⟨fr', ha', hs, hk⟩ := hq
    split at hk
    · rename_i hi
      rw [if_pos (Nat.eq_of_beq_eq_true hi)]; exact ⟨fr', ha', hs, hk⟩
    · rename_i hi
      rw [if_neg (fun e => by subst e; simp at hi)]; exact ⟨fr', ha', hs, hk⟩
  | loop b ih =>
    intro n fr a w Kn Ke Kr ha h
    simp only [codeX] at h
    split at h
    · exact h.elim
    · rename_i l hl
      obtain ⟨x, hx, h⟩ := sel_holds _ _ _ h
      obtain ⟨I, μ, hI, hround⟩ := h
      refine wp_loop_ranked (fun m a₁ w => ∃ x, Agree D N (inj (asg b) l x fr) a₁ ∧ Same (asg b) a a₁ ∧ I x w ∧ μ x w = m) ?_ (μ x w) a w ⟨x, inj_agree ha ha (Same.refl _ _) hx, Same.refl _ _, hI, rfl⟩
      rintro m a₁ w₁ ⟨x₁, ha₁, hs₁, hI₁, rfl⟩
      refine wp_mono (ih _ _ _ _ _ _ _ ha₁ (hround _ _ hI₁)) ?_
      intro e a' w' hq
      cases e <;> simp only [postOf, Exit.then] at hq ⊢ <;> first
        | exact hq
        | (obtain ⟨fr', ha', hs, hk⟩ := hq; exact ⟨fr', ha', hs₁.trans hs, hk⟩)
        | skip
      obtain ⟨fr', ha', hs, hk⟩ := hq
      obtain ⟨y, hy, hI', hm⟩ := sel_holds _ _ _ hk
      exact ⟨_, hm, y, inj_agree ha ha' (hs₁.trans hs) hy, hs₁.trans hs, hI', rfl⟩
  | scope b ih => intro n fr a w Kn Ke Kr ha h; exact h.elim
  | goto l => intro n fr a w Kn Ke Kr ha h; exact h.elim
  | rangeFunc f ps x y _ _ => intro n fr a w Kn Ke Kr ha h; exact h.elim
  | refuse s => intro n fr a w Kn Ke Kr ha h; exact h.elim

/-! ### a whole function -/
/-- What the results' slots hold, as a value of the kind. -/
def resX (kd : Kd) (rs : List ResultVar) (fr : Fr) (f : kd.T → Prop) : Prop :=
  match rs with
  | [.tmp t] => (match sget fr t with | some v => kd.un v f | none => False)
  | [.tmp t, .tmp u] => (match sget fr t, sget fr u with | some v, some x => kd.un (.tuple ⟨[v, x]⟩) f | _, _ => False)
  | [.tmp t, .tmp u, .tmp q] => (match sget fr t, sget fr u, sget fr q with | some v, some x, some y => kd.un (.tuple ⟨[v, x, y]⟩) f | _, _, _ => False)
  | [] => kd.un (.tuple ⟨[]⟩) f
  | _ => False

theorem resX_sound {D : List Deferred} {N : Nat} {P : Program} {fn : Func} {kd : Kd} {fr : Fr} {a : Act} {w : World} {f : kd.T → Prop} (ha : Agree D N fr a) (h : resX kd fn.results.toList fr f) :
    ∃ x, (results fn a.tmps).run P w = .ok (kd.val x) w ∧ f x := by
  obtain ⟨rs, hrs⟩ : ∃ rs, fn.results = ⟨rs⟩ := ⟨_, rfl⟩
  rw [hrs] at h
  unfold resX at h
  split at h
  · rename_i t e
    simp at e; subst e
    split at h
    · rename_i v hv
      obtain ⟨x, hx, hf⟩ := (Kd.un_uns kd).1 _ _ h
      refine ⟨x, ?_, hf⟩
      rw [hx]; have h1 := results_tmp (t := t) hrs a.tmps P w; rw [h1, Array.getD_eq_getD_getElem?, ha.slot _ _ hv]; rfl
    · exact h.elim
  · rename_i t u e
    simp at e; subst e
    split at h
    · rename_i v y hv hy
      obtain ⟨x, hx, hf⟩ := (Kd.un_uns kd).1 _ _ h
      refine ⟨x, ?_, hf⟩
      rw [hx]; have h1 := results_tmp2 (t := t) (u := u) hrs a.tmps P w; rw [h1, Array.getD_eq_getD_getElem?, Array.getD_eq_getD_getElem?, ha.slot _ _ hv, ha.slot _ _ hy]; rfl
    · exact h.elim
  · rename_i t u q e
    simp at e; subst e
    split at h
    · rename_i v y z hv hy hz
      obtain ⟨x, hx, hf⟩ := (Kd.un_uns kd).1 _ _ h
      refine ⟨x, ?_, hf⟩
      rw [hx]; have h1 := results_tmp3 (t := t) (u := u) (v := q) hrs a.tmps P w; rw [h1, Array.getD_eq_getD_getElem?, Array.getD_eq_getD_getElem?, Array.getD_eq_getD_getElem?, ha.slot _ _ hv, ha.slot _ _ hy, ha.slot _ _ hz]; rfl
    · exact h.elim
  · rename_i e
    simp at e; subst e
    obtain ⟨x, hx, hf⟩ := (Kd.un_uns kd).1 _ _ h
    refine ⟨x, ?_, hf⟩
    rw [hx]; exact results_none hrs a.tmps P w
  · exact h.elim

def start : List Value → Nat → Fr
  | [], n => List.replicate n none
  | _ :: _, 0 => []
  | v :: r, n + 1 => some v :: start r n

theorem start_len : ∀ (l : List Value) (n : Nat), (start l n).length = n
  | [], n => by simp [start]
  | _ :: _, 0 => rfl
  | _ :: r, n + 1 => by simp [start, start_len r n]
theorem start_get : ∀ (l : List Value) (n t : Nat) (v : Value), sget (start l n) t = some v → l[t]? = some v
  | [], n, t, v, h => by rw [start, sget_eq, List.getElem?_replicate] at h; split at h <;> simp at h
  | _ :: _, 0, t, v, h => by simp [start, sget] at h
  | x :: r, n + 1, 0, v, h => by simpa [start, sget] using h
  | x :: r, n + 1, t + 1, v, h => by simpa using start_get r n t v (by simpa [start, sget] using h)

/-- A function's proposition. -/
def bodyOf (fn : Func) : Code := match fn.body with | some c => c | none => .skip
def bodyX (P : Program) (κ : List Kd) (ann : List (Nat × Live)) (kd : Kd) (fn : Func) (args : List Value) (w : World) (K : kd.T → World → Prop) : Prop :=
  codeX P κ ann (bodyOf fn) 0 (start args fn.ntmps) w (fun fr w => resX kd fn.results.toList fr fun x => K x w) (fun _ _ _ => False) (fun fr w => resX kd fn.results.toList fr fun x => K x w)

theorem bodyX_sound {P : Program} {κ : List Kd} {ann : List (Nat × Live)} {kd : Kd} {f : FuncId} {fn : Func} {args : List Value} {w : World} {K : kd.T → World → Prop}
    (hf : P.funcs[f]? = some fn) (hb : fn.body.isSome = true) (hn : Nat.ble args.length fn.ntmps = true) (h : bodyX P κ ann kd fn args w K) : CallK P kd f ⟨args⟩ w K := by
  obtain ⟨c, hb⟩ := Option.isSome_iff_exists.1 hb
  have hbo : bodyOf fn = c := by simp [bodyOf, hb]
  unfold bodyX at h
  rw [hbo] at h
  refine calls_of_wp hf hb (wp_mono (codeX_sound (D := []) (N := fn.ntmps) _ _ _ _ _ _ _ _ ?_ h) ?_)
  · have hn' : args.length ≤ fn.ntmps := Nat.le_of_ble_eq_true hn
    refine ⟨start_len _ _, by rw [start_len]; simp; omega, rfl, fun t v ht => ?_⟩
    have := start_get _ _ _ _ ht
    have hl : t < args.length := by
      rcases Nat.lt_or_ge t args.length with h' | h'
      · exact h'
      · simp [List.getElem?_eq_none h'] at this
    rw [Array.getElem?_append_left (by simpa using hl)]
    simpa using this
  · intro e a' w' hq
    cases e <;> simp only [postOf] at hq
    · obtain ⟨fr, ha, -, hr⟩ := hq
      obtain ⟨x, hx, hk⟩ := resX_sound (P := P) (fn := fn) (w := w') ha hr
      exact ⟨ha.defers, _, hx, x, rfl, hk⟩
    · obtain ⟨fr, ha, -, hr⟩ := hq; exact hr.elim
    · obtain ⟨fr, ha, -, hr⟩ := hq
      obtain ⟨x, hx, hk⟩ := resX_sound (P := P) (fn := fn) (w := w') ha hr
      exact ⟨ha.defers, _, hx, x, rfl, hk⟩
end Go.Fw
