/- A region that draws its order: one reading in the order of the text serves every order, if what is written comes in one chain and what is read is the same wherever it may be read. -/
import Derived.Test.YtodgnpmljdopiaaFwA
namespace Go.Fw
open Go

def pureEval {α : Type} (P : Program) : Sem α → Option α
  | .pure a => some a
  | .program k => pureEval P (k P)
  | .mark _ k => pureEval P k
  | _ => none
theorem pureEval_run {α : Type} {P : Program} : ∀ {s : Sem α} {a : α}, pureEval P s = some a → ∀ w, s.run P w = .ok a w := by
  intro s
  induction s with
  | pure b => intro a h w; simp [pureEval] at h; subst h; rfl
  | program k ih => intro a h w; simp only [Sem.run]; exact ih _ (by simpa [pureEval] using h) w
  | mark m k ih => intro a h w; simp only [Sem.run]; exact ih (by simpa [pureEval] using h) w
  | _ => intro a h; simp [pureEval] at h

def maskOf (acc : List Nat) : List Edge → Nat
  | [] => 0
  | e :: r => (match Region.binds .any e with | true => 2 ^ e.on ||| nth 0 acc e.on | false => 0) ||| maskOf acc r
def befGo : List Oper → List Nat → List Nat
  | [], acc => acc
  | o :: r, acc => befGo r (acc ++ [maskOf acc o.after.toList])

/-- What an operation is for a region that draws. -/
inductive DCls where
  | pure | nilc (x : Operand) | read (kd : Kd) | eff (kd : Kd) | effU | bad
def isRead (κ : List Kd) : Op → Bool
  | .load .. | .index .. | .indexAddr .. | .slice .. | .lookup .. | .binOp .. => true
  | .convert _ d _ => match nth .raw κ d with | .str => true | _ => false
  | .call c => match c.callee with
    | .builtin b => match b with | .len | .cap => true | _ => false
    | _ => false
  | _ => false
def dclsOf (κ : List Kd) (o : Oper) : DCls :=
  match clsOf κ o with
  | .mv _ => .pure
  | .nilc x => .nilc x
  | .run => .pure
  | .eff kd => match isRead κ o.op with | true => .read kd | false => .eff kd
  | .effU => .effU
  | .bad => .bad
def isEff (κ : List Kd) (o : Oper) : Bool := match dclsOf κ o with | .eff _ => true | .effU => true | _ => false
def effs (κ : List Kd) : List Oper → Nat → List Nat
  | [], _ => []
  | o :: r, i => match isEff κ o with | true => i :: effs κ r (i + 1) | false => effs κ r (i + 1)
def cnt (f : Nat → Bool) : List Nat → Nat
  | [] => 0
  | x :: r => match f x with | true => cnt f r + 1 | false => cnt f r

structure Pend where
  s : Sem Next
  v : Value
  left : Nat
def StillV (P : Program) (s : Sem Next) (v : Value) (w : World) : Prop := s.run P w = .ok (.value v) w
def stillAll (P : Program) (w : World) (A : Prop) : List Pend → Prop
  | [] => A
  | p :: r => match p.left with
    | 0 => stillAll P w A r
    | _ + 1 => StillV P p.s p.v w ∧ stillAll P w A r
def tick : List Pend → List Pend
  | [] => []
  | p :: r => match p.left with
    | 0 => tick r
    | n + 1 => ⟨p.s, p.v, n⟩ :: tick r
def stillPast (P : Program) (s : Sem Next) (v : Value) (A : Prop) : Nat → List World → Prop
  | 0, _ => A
  | _ + 1, [] => False
  | n + 1, w :: r => StillV P s v w ∧ stillPast P s v A n r
def ReadN (P : Program) (kd : Kd) (s : Sem Next) (w : World) (K : kd.T → Prop) : Prop := ∃ x, s.run P w = .ok (.value (kd.val x)) w ∧ K x

/-- One operation; 'lo', 'hi': how many worlds back, how many ahead it may also run. -/
def dstep (P : Program) (κ : List Kd) (o : Oper) (lo hi : Nat) (fr : Fr) (past : List World) (w : World) (pend : List Pend) (K : Fr → List World → World → List Pend → Prop) : Prop :=
  match Fr.allKnown fr o.op.operands.toList with
  | false => False
  | true => match dclsOf κ o with
    | .pure => match pureEval P (execOp (Fr.eval fr) o) with
      | some (.value v) => K (Fr.put fr o.dst v) past w pend
      | _ => False
    | .nilc x => match (Fr.eval fr) x with
      | .pointer p => NilP p fun a => K (Fr.put fr o.dst (.pointer (some a))) past w pend
      | _ => False
    | .read kd => ReadN P kd (execOp (Fr.eval fr) o) w fun x =>
        stillPast P (execOp (Fr.eval fr) o) (kd.val x) (K (Fr.put fr o.dst (kd.val x)) past w (⟨execOp (Fr.eval fr) o, kd.val x, hi⟩ :: pend)) lo past
    | .eff kd => RunN P kd (execOp (Fr.eval fr) o) w fun x w' => stillAll P w' (K (Fr.put fr o.dst (kd.val x)) (w :: past) w' (tick pend)) pend
    | .effU => RunU P (execOp (Fr.eval fr) o) w fun w' => stillAll P w' (K (Fr.put fr o.dst undef) (w :: past) w' (tick pend)) pend
    | .bad => False

def dskip (P : Program) (κ : List Kd) (o : Oper) (fr : Fr) (past : List World) (w : World) (pend : List Pend) (K : Fr → List World → World → List Pend → Prop) : Prop :=
  match isEff κ o with
  | false => K (Fr.put fr o.dst undef) past w pend
  | true => stillAll P w (K (Fr.put fr o.dst undef) (w :: past) w (tick pend)) pend


def nameSlots (ops : List Oper) (o : Oper) : List Nat :=
  (o.op.operands.toList.filterMap fun | .tmp t => some t | _ => none) ++
  (match o.guard with | some (j, _) => (match (ops[j]?).bind (·.dst) with | some d => [d] | none => []) | none => [])
/-- Whoever names a slot that another operation writes stands in a known order to it. -/
def pairOk (bf : List Nat) (i j : Nat) : Bool := match Nat.blt j i with
  | true => (nth 0 bf i).testBit j
  | false => match Nat.blt i j with
    | true => (nth 0 bf j).testBit i
    | false => true
def writersOk (bf : List Nat) (i : Nat) (ts : List Nat) : List Oper → Nat → Bool
  | [], _ => true
  | o :: r, j => (match o.dst with | some d => (match ts.contains d with | true => pairOk bf i j | false => true) | none => true) && writersOk bf i ts r (j + 1)
def namesOk (ops : List Oper) (bf : List Nat) : List Oper → Nat → Bool
  | [], _ => true
  | o :: r, i => writersOk bf i (nameSlots ops o) ops 0 && namesOk ops bf r (i + 1)
def uniqOk : List Oper → Bool
  | [] => true
  | o :: r => (match o.dst with | some d => !asgOps r d | none => true) && uniqOk r
def bfOk (bf : List Nat) : List Oper → Nat → Bool
  | [], _ => true
  | o :: r, i => Nat.beq (nth 0 bf i) (maskOf bf o.after.toList) && (o.after.toList.all fun e => match Region.binds .any e with | true => Nat.blt e.on i | false => true) && bfOk bf r (i + 1)
def chainOk (bf : List Nat) : List Nat → Bool
  | [] => true
  | e :: r => (r.all fun f => (nth 0 bf f).testBit e && Nat.blt e f) && chainOk bf r
def drawOk (ops : List Oper) (bf ef : List Nat) : Bool :=
  namesOk ops bf ops 0 && uniqOk ops && bfOk bf ops 0 && chainOk bf ef

def bump (κ : List Kd) (o : Oper) (j : Nat) : Nat := match isEff κ o with | true => j + 1 | false => j
def allDone : List Pend → Bool
  | [] => true
  | p :: r => match p.left with | 0 => allDone r | _ + 1 => false
/-- The reading. 'bf': what comes before what; 'ef': the operations that write; 'rk': how many of them stand before. -/
def drawX (P : Program) (κ : List Kd) (ops : List Oper) (bf ef : List Nat) : List Oper → Nat → Nat → Option (Nat × Bool) → Fr → List World → World → List Pend → KF → Prop
  | [], _, _, _, fr, _, w, pend, K => match allDone pend with | true => K fr w | false => False
  | o :: rest, i, rk, prev, fr, past, w, pend, K =>
    match o.guard with
    | none => dstep P κ o (rk - cnt (fun e => (nth 0 bf i).testBit e) ef) (ef.length - cnt (fun e => (nth 0 bf e).testBit i) ef - rk) fr past w pend fun fr past w pend => drawX P κ ops bf ef rest (i + 1) (bump κ o rk) none fr past w pend K
    | some (j, want) =>
      match (ops[j]?).bind (·.dst) with
      | none => False
      | some d =>
        match sget fr d with
        | none => False
        | some (.bool b) =>
          match sameGuard prev j want with
          | true => match b, want with
            | true, true => dstep P κ o (rk - cnt (fun e => (nth 0 bf i).testBit e) ef) (ef.length - cnt (fun e => (nth 0 bf e).testBit i) ef - rk) fr past w pend fun fr past w pend => drawX P κ ops bf ef rest (i + 1) (bump κ o rk) (some (j, want)) fr past w pend K
            | false, false => dstep P κ o (rk - cnt (fun e => (nth 0 bf i).testBit e) ef) (ef.length - cnt (fun e => (nth 0 bf e).testBit i) ef - rk) fr past w pend fun fr past w pend => drawX P κ ops bf ef rest (i + 1) (bump κ o rk) (some (j, want)) fr past w pend K
            | _, _ => dskip P κ o fr past w pend fun fr past w pend => drawX P κ ops bf ef rest (i + 1) (bump κ o rk) (some (j, want)) fr past w pend K
          | false => SplitB b
            (match want with
              | true => dstep P κ o (rk - cnt (fun e => (nth 0 bf i).testBit e) ef) (ef.length - cnt (fun e => (nth 0 bf e).testBit i) ef - rk) (Fr.put fr (some d) (.bool true)) past w pend fun fr past w pend => drawX P κ ops bf ef rest (i + 1) (bump κ o rk) (some (j, want)) fr past w pend K
              | false => dskip P κ o (Fr.put fr (some d) (.bool true)) past w pend fun fr past w pend => drawX P κ ops bf ef rest (i + 1) (bump κ o rk) (some (j, want)) fr past w pend K)
            (match want with
              | false => dstep P κ o (rk - cnt (fun e => (nth 0 bf i).testBit e) ef) (ef.length - cnt (fun e => (nth 0 bf e).testBit i) ef - rk) (Fr.put fr (some d) (.bool false)) past w pend fun fr past w pend => drawX P κ ops bf ef rest (i + 1) (bump κ o rk) (some (j, want)) fr past w pend K
              | true => dskip P κ o (Fr.put fr (some d) (.bool false)) past w pend fun fr past w pend => drawX P κ ops bf ef rest (i + 1) (bump κ o rk) (some (j, want)) fr past w pend K)
        | some _ => dskip P κ o fr past w pend fun fr past w pend => drawX P κ ops bf ef rest (i + 1) (bump κ o rk) (some (j, want)) fr past w pend K

theorem put_same {fr : Fr} {d : Nat} {v : Value} (h : sget fr d = some v) : Fr.put fr (some d) v = fr := by
  simp only [Fr.put, sput_eq]
  rw [sget_eq] at h
  refine List.ext_getElem? fun t => ?_
  rw [List.getElem?_set]
  by_cases hdt : d = t
  · subst hdt
    by_cases hl : d < fr.length
    · simp only [hl, if_true]
      cases hg : fr[d]? with
      | none => rw [hg] at h; simp at h
      | some x => rw [hg] at h; simp at h; rw [h]
    · simp [hl]
  · simp [hdt]

/-- What is asked of the guard's slot. -/
def wantIn (ops : List Oper) (fr : Fr) (o : Oper) : Option Bool :=
  match o.guard with
  | none => some true
  | some (j, want) => match (ops[j]?).bind (·.dst) with
    | none => none
    | some d => match sget fr d with
      | none => none
      | some (.bool b) => some (b == want)
      | some _ => some false

/-- What one operation does in a world. -/
def DoesAt (P : Program) (ops : List Oper) (o : Oper) (fr : Fr) (w : World) (v : Value) (w' : World) : Prop :=
  (wantIn ops fr o = some true ∧ Fr.allKnown fr o.op.operands.toList = true ∧ (∀ cs b, o.op ≠ .select cs b) ∧
    ((execOp (Fr.eval fr) o).run P w = .ok (.value v) w' ∨ ((execOp (Fr.eval fr) o).run P w = .ok .skip w' ∧ v = undef))) ∨
  (wantIn ops fr o = some false ∧ v = undef ∧ w' = w)

/-- All that a schedule needs of the tail of a region from operation i on. -/
structure Cert (P : Program) (κ : List Kd) (ops : List Oper) (bf ef : List Nat) (l : List Oper) (i rk : Nat) (fr : Fr) (ws : Nat → World) (F : Nat → Fr) (vv : Nat → Value) (rf : Nat → Nat) : Prop where
  F0 : F i = fr
  r0 : rf i = rk
  at_ : ∀ k o, l[k]? = some o → F (i + k + 1) = Fr.put (F (i + k)) o.dst (vv (i + k)) ∧ rf (i + k + 1) = bump κ o (rf (i + k)) ∧
    ∀ j, (isEff κ o = true → j = rf (i + k)) → rf (i + k) - (rf (i + k) - cnt (fun e => (nth 0 bf (i + k)).testBit e) ef) ≤ j →
      j ≤ rf (i + k) + (ef.length - cnt (fun e => (nth 0 bf e).testBit (i + k)) ef - rf (i + k)) → DoesAt P ops o (F (i + k)) (ws j) (vv (i + k)) (ws (bump κ o j))

theorem Cert.cons {P : Program} {κ : List Kd} {ops : List Oper} {bf ef : List Nat} {o : Oper} {rest : List Oper} {i rk : Nat} {fr : Fr} {ws : Nat → World} {F : Nat → Fr} {vv : Nat → Value} {rf : Nat → Nat} {v : Value}
    (hd : ∀ j, (isEff κ o = true → j = rk) → rk - (rk - cnt (fun e => (nth 0 bf i).testBit e) ef) ≤ j → j ≤ rk + (ef.length - cnt (fun e => (nth 0 bf e).testBit i) ef - rk) → DoesAt P ops o fr (ws j) v (ws (bump κ o j)))
    (h : Cert P κ ops bf ef rest (i + 1) (bump κ o rk) (Fr.put fr o.dst v) ws F vv rf) :
    Cert P κ ops bf ef (o :: rest) i rk fr ws (fun k => if k ≤ i then fr else F k) (fun k => if k ≤ i then v else vv k) (fun k => if k ≤ i then rk else rf k) := by
  refine ⟨by simp, by simp, fun k o' hk => ?_⟩
  cases k with
  | zero =>
    simp at hk; subst hk
    simp only [Nat.add_zero, Nat.le_refl, if_true, show ¬ (i + 1 ≤ i) from by omega, if_false]
    exact ⟨h.F0, h.r0, hd⟩
  | succ k =>
    have := h.at_ k o' (by simpa using hk)
    have e1 : i + (k + 1) = i + 1 + k := by omega
    simp only [show ¬ (i + (k + 1) ≤ i) from by omega, show ¬ (i + (k + 1) + 1 ≤ i) from by omega, if_false]
    rw [e1]
    exact this

section
variable {P : Program} {κ : List Kd} {ops : List Oper} {bf ef : List Nat}

theorem stillAll_iff {w : World} {A : Prop} : ∀ {pend : List Pend}, stillAll P w A pend ↔ (∀ p ∈ pend, 1 ≤ p.left → StillV P p.s p.v w) ∧ A
  | [] => by simp [stillAll]
  | p :: r => by
    unfold stillAll
    have ih := stillAll_iff (w := w) (A := A) (pend := r)
    split
    · rename_i h0; rw [ih]; simp [h0]
    · rename_i n hn; rw [ih]; simp only [List.mem_cons, forall_eq_or_imp, hn]
      constructor
      · rintro ⟨h1, h2, h3⟩; exact ⟨⟨fun _ => h1, h2⟩, h3⟩
      · rintro ⟨⟨h1, h2⟩, h3⟩; exact ⟨h1 (by omega), h2, h3⟩
theorem mem_tick : ∀ {pend : List Pend} {p : Pend}, p ∈ pend → 1 ≤ p.left → (⟨p.s, p.v, p.left - 1⟩ : Pend) ∈ tick pend
  | q :: r, p, hm, hp => by
    unfold tick
    rcases List.mem_cons.1 hm with e | hm
    · subst e; split
      · omega
      · rename_i n hn; simp [hn]
    · have := mem_tick hm hp
      split
      · exact this
      · exact List.mem_cons_of_mem _ this
theorem stillPast_spec {s : Sem Next} {v : Value} {A : Prop} : ∀ {n : Nat} {past : List World}, stillPast P s v A n past → (∀ k, k < n → ∃ w, past[k]? = some w ∧ StillV P s v w) ∧ A
  | 0, _, h => ⟨fun k hk => absurd hk (by omega), h⟩
  | n + 1, [], h => h.elim
  | n + 1, w :: r, h => by
    obtain ⟨h1, h2⟩ := h
    obtain ⟨h3, h4⟩ := stillPast_spec h2
    refine ⟨fun k hk => ?_, h4⟩
    cases k with
    | zero => exact ⟨w, rfl, h1⟩
    | succ k => simpa using h3 k (by omega)

/-- What the reading has told of worlds that lie behind, and what waits of those ahead. -/
structure Told (past : List World) (w : World) (rk : Nat) (ws : Nat → World) : Prop where
  len : past.length = rk
  back : ∀ k, k < rk → past[k]? = some (ws (rk - 1 - k))
  now : ws rk = w

theorem not_select_of {o : Oper} (h : clsOf κ o ≠ .bad) : ∀ cs b, o.op ≠ .select cs b := fun cs b e => h (by simp [clsOf, e])

theorem clsOf_nilc {o : Oper} {x : Operand} (hc : clsOf κ o = .nilc x) : o.op = .nilCheck x := by
  unfold clsOf at hc
  split at hc <;> (try cases hc) <;> (try (split at hc <;> (try cases hc) <;> (try (split at hc <;> (try cases hc) <;> (try (split at hc <;> cases hc))))))
  all_goals assumption

variable (P κ ops bf ef) in
def Res (l : List Oper) (i rk : Nat) (fr : Fr) (past : List World) (w : World) (pend : List Pend) (K : KF) : Prop :=
  ∃ ws F vv rf, Told past w rk ws ∧ (∀ p ∈ pend, ∀ j, rk < j → j ≤ rk + p.left → StillV P p.s p.v (ws j)) ∧ Cert P κ ops bf ef l i rk fr ws F vv rf ∧ K (F (i + l.length)) (ws (rf (i + l.length)))

theorem Res.of {o : Oper} {rest : List Oper} {i rk : Nat} {fr : Fr} {past past' : List World} {w w' : World} {pend pend' : List Pend} {K : KF} {v : Value}
    (h : Res P κ ops bf ef rest (i + 1) (bump κ o rk) (Fr.put fr o.dst v) past' w' pend' K)
    (htold : ∀ ws, Told past' w' (bump κ o rk) ws → Told past w rk ws)
    (hpend : ∀ ws : Nat → World, Told past' w' (bump κ o rk) ws → (∀ p ∈ pend', ∀ j, bump κ o rk < j → j ≤ bump κ o rk + p.left → StillV P p.s p.v (ws j)) → ∀ p ∈ pend, ∀ j, rk < j → j ≤ rk + p.left → StillV P p.s p.v (ws j))
    (hdoes : ∀ ws : Nat → World, Told past w rk ws → Told past' w' (bump κ o rk) ws → (∀ p ∈ pend', ∀ j, bump κ o rk < j → j ≤ bump κ o rk + p.left → StillV P p.s p.v (ws j)) →
      ∀ j, (isEff κ o = true → j = rk) → rk - (rk - cnt (fun e => (nth 0 bf i).testBit e) ef) ≤ j → j ≤ rk + (ef.length - cnt (fun e => (nth 0 bf e).testBit i) ef - rk) → DoesAt P ops o fr (ws j) v (ws (bump κ o j))) :
    Res P κ ops bf ef (o :: rest) i rk fr past w pend K := by
  obtain ⟨ws, F, vv, rf, h1, h2, h3, h4⟩ := h
  have ht := htold ws h1
  refine ⟨ws, _, _, _, ht, hpend ws h1 h2, h3.cons (hdoes ws ht h1 h2), ?_⟩
  have e : i + (o :: rest).length = i + 1 + rest.length := by simp; omega
  simp only [show ¬ (i + (o :: rest).length ≤ i) from by simp, if_false]
  rw [e]; exact h4

theorem told_push {past : List World} {w w' : World} {rk : Nat} (hlen : past.length = rk) {ws : Nat → World} (h : Told (w :: past) w' (rk + 1) ws) : Told past w rk ws := by
  refine ⟨hlen, fun k hk => ?_, ?_⟩
  · have := h.back (k + 1) (by omega)
    simp only [List.getElem?_cons_succ] at this
    rw [this]; congr 2; omega
  · have := h.back 0 (by omega)
    simp at this
    exact this.symm

theorem pend_push {past : List World} {w w' : World} {rk : Nat} {pend : List Pend} {ws : Nat → World} (ht : Told (w :: past) w' (rk + 1) ws) (hst : ∀ p ∈ pend, 1 ≤ p.left → StillV P p.s p.v w')
    (hp : ∀ p ∈ tick pend, ∀ j, rk + 1 < j → j ≤ rk + 1 + p.left → StillV P p.s p.v (ws j)) : ∀ p ∈ pend, ∀ j, rk < j → j ≤ rk + p.left → StillV P p.s p.v (ws j) := by
  intro p hm j h1 h2
  have hl : 1 ≤ p.left := by omega
  rcases Nat.lt_or_ge (rk + 1) j with hj | hj
  · exact hp _ (mem_tick hm hl) j hj (by simp; omega)
  · have : j = rk + 1 := by omega
    subst this
    rw [ht.now]; exact hst p hm hl

theorem dstep_res {o : Oper} {rest : List Oper} {i rk : Nat} {fr : Fr} {past : List World} {w : World} {pend : List Pend} {K : KF} {K' : Fr → List World → World → List Pend → Prop}
    (hw : wantIn ops fr o = some true) (hlen : past.length = rk)
    (hK : ∀ fr' past' w' pend', past'.length = bump κ o rk → K' fr' past' w' pend' → Res P κ ops bf ef rest (i + 1) (bump κ o rk) fr' past' w' pend' K)
    (h : dstep P κ o (rk - cnt (fun e => (nth 0 bf i).testBit e) ef) (ef.length - cnt (fun e => (nth 0 bf e).testBit i) ef - rk) fr past w pend K') :
    Res P κ ops bf ef (o :: rest) i rk fr past w pend K := by
  unfold dstep at h
  split at h
  · exact h.elim
  · rename_i hk
    cases hd : dclsOf κ o with
    | bad => simp [hd] at h
    | pure =>
      have he : isEff κ o = false := by simp [isEff, hd]
      have hsel : clsOf κ o ≠ .bad := by intro e; simp [dclsOf, e] at hd
      simp only [hd] at h
      split at h
      · rename_i v hv
        have hb : bump κ o rk = rk := by simp [bump, he]
        refine Res.of (v := v) (past' := past) (w' := w) (pend' := pend) (hK _ _ _ _ (by rw [hb]; exact hlen) h) (fun ws ht => by rw [hb] at ht; exact ht) (fun ws _ hp => by rw [hb] at hp; exact hp) ?_
        intro ws ht ht' hp j _ _ _
        have hbj : bump κ o j = j := by simp [bump, he]
        rw [hbj]
        exact .inl ⟨hw, hk, not_select_of hsel, .inl (pureEval_run hv _)⟩
      · exact h.elim
    | nilc x =>
      have he : isEff κ o = false := by simp [isEff, hd]
      have hc : clsOf κ o = .nilc x := by
        unfold dclsOf at hd; split at hd <;> simp_all; split at hd <;> simp_all
      have hsel : clsOf κ o ≠ .bad := by rw [hc]; simp
      have hop := clsOf_nilc hc
      simp only [hd] at h
      split at h
      · rename_i p hp
        cases p with
        | none => exact h.elim
        | some b =>
          have hb : bump κ o rk = rk := by simp [bump, he]
          have h : K' (Fr.put fr o.dst (.pointer (some b))) past w pend := h
          refine Res.of (v := .pointer (some b)) (past' := past) (w' := w) (pend' := pend) (hK _ _ _ _ (by rw [hb]; exact hlen) h) (fun ws ht => by rw [hb] at ht; exact ht) (fun ws _ hp => by rw [hb] at hp; exact hp) ?_
          intro ws ht ht' hpp j _ _ _
          have hbj : bump κ o j = j := by simp [bump, he]
          rw [hbj]
          refine .inl ⟨hw, hk, not_select_of hsel, .inl ?_⟩
          have hx : execOp (Fr.eval fr) o = pure (.value (.pointer (some b))) := by simp [execOp, hop, hp]
          rw [hx]; rfl
      · exact h.elim
    | read kd =>
      have he : isEff κ o = false := by simp [isEff, hd]
      have hsel : clsOf κ o ≠ .bad := by intro e; simp [dclsOf, e] at hd
      simp only [hd] at h
      obtain ⟨x, hr, h⟩ := h
      obtain ⟨hpast, h⟩ := stillPast_spec h
      have hb : bump κ o rk = rk := by simp [bump, he]
      refine Res.of (v := kd.val x) (hK _ _ _ _ (by rw [hb]; exact hlen) h) (fun ws ht => by rw [hb] at ht; exact ht) (fun ws _ hp p hm => by rw [hb] at hp; exact hp p (List.mem_cons_of_mem _ hm)) ?_
      intro ws ht ht' hpp j _ h1 h2
      have hbj : bump κ o j = j := by simp [bump, he]
      rw [hbj]
      refine .inl ⟨hw, hk, not_select_of hsel, .inl ?_⟩
      rcases Nat.lt_trichotomy j rk with hj | hj | hj
      · obtain ⟨wj, hwj, hst⟩ := hpast (rk - 1 - j) (by omega)
        rw [ht.back _ (by omega)] at hwj
        have e : rk - 1 - (rk - 1 - j) = j := by omega
        rw [e] at hwj
        cases hwj
        exact hst
      · subst hj; rw [ht.now]; exact hr
      · rw [hb] at hpp
        exact hpp _ (List.mem_cons_self ..) j hj h2
    | eff kd =>
      have he : isEff κ o = true := by simp [isEff, hd]
      have hsel : clsOf κ o ≠ .bad := by intro e; simp [dclsOf, e] at hd
      simp only [hd] at h
      obtain ⟨x, w', hr, h⟩ := h
      rw [stillAll_iff] at h
      obtain ⟨hst, h⟩ := h
      have hb : bump κ o rk = rk + 1 := by simp [bump, he]
      refine Res.of (v := kd.val x) (hK _ _ _ _ (by simp [hb, hlen]) h) (fun ws ht => by rw [hb] at ht; exact told_push hlen ht) (fun ws ht hp => by rw [hb] at ht hp; exact pend_push ht hst hp) ?_
      intro ws ht ht' hpp j hj _ _
      have := hj he
      subst this
      rw [hb] at ht' ⊢
      rw [ht.now, ht'.now]
      exact .inl ⟨hw, hk, not_select_of hsel, .inl hr⟩
    | effU =>
      have he : isEff κ o = true := by simp [isEff, hd]
      have hsel : clsOf κ o ≠ .bad := by intro e; simp [dclsOf, e] at hd
      simp only [hd] at h
      obtain ⟨w', hr, h⟩ := h
      rw [stillAll_iff] at h
      obtain ⟨hst, h⟩ := h
      have hb : bump κ o rk = rk + 1 := by simp [bump, he]
      refine Res.of (v := undef) (hK _ _ _ _ (by simp [hb, hlen]) h) (fun ws ht => by rw [hb] at ht; exact told_push hlen ht) (fun ws ht hp => by rw [hb] at ht hp; exact pend_push ht hst hp) ?_
      intro ws ht ht' hpp j hj _ _
      have := hj he
      subst this
      rw [hb] at ht' ⊢
      rw [ht.now, ht'.now]
      exact .inl ⟨hw, hk, not_select_of hsel, .inr ⟨hr, rfl⟩⟩

theorem dskip_res {o : Oper} {rest : List Oper} {i rk : Nat} {fr : Fr} {past : List World} {w : World} {pend : List Pend} {K : KF} {K' : Fr → List World → World → List Pend → Prop}
    (hw : wantIn ops fr o = some false) (hlen : past.length = rk)
    (hK : ∀ fr' past' w' pend', past'.length = bump κ o rk → K' fr' past' w' pend' → Res P κ ops bf ef rest (i + 1) (bump κ o rk) fr' past' w' pend' K)
    (h : dskip P κ o fr past w pend K') : Res P κ ops bf ef (o :: rest) i rk fr past w pend K := by
  unfold dskip at h
  split at h
  · rename_i he
    have hb : bump κ o rk = rk := by simp [bump, he]
    refine Res.of (v := undef) (hK _ _ _ _ (by rw [hb]; exact hlen) h) (fun ws ht => by rw [hb] at ht; exact ht) (fun ws _ hp => by rw [hb] at hp; exact hp) ?_
    intro ws ht ht' hpp j _ _ _
    have hbj : bump κ o j = j := by simp [bump, he]
    rw [hbj]
    exact .inr ⟨hw, rfl, rfl⟩
  · rename_i he
    rw [stillAll_iff] at h
    obtain ⟨hst, h⟩ := h
    have hb : bump κ o rk = rk + 1 := by simp [bump, he]
    refine Res.of (v := undef) (hK _ _ _ _ (by simp [hb, hlen]) h) (fun ws ht => by rw [hb] at ht; exact told_push hlen ht) (fun ws ht hp => by rw [hb] at ht hp; exact pend_push ht hst hp) ?_
    intro ws ht ht' hpp j hj _ _
    have := hj he
    subst this
    rw [hb] at ht' ⊢
    rw [ht.now, ht'.now]
    exact .inr ⟨hw, rfl, rfl⟩

theorem drawX_res : ∀ (l : List Oper) (i rk : Nat) (prev : Option (Nat × Bool)) (fr : Fr) (past : List World) (w : World) (pend : List Pend) (K : KF), past.length = rk →
    drawX P κ ops bf ef l i rk prev fr past w pend K → Res P κ ops bf ef l i rk fr past w pend K := by
  intro l
  induction l with
  | nil =>
    intro i rk prev fr past w pend K hlen h
    refine ⟨fun j => if j < rk then past.getD (rk - 1 - j) w else if j = rk then w else w, fun _ => fr, fun _ => undef, fun _ => rk, ?_, ?_, ?_, ?_⟩
    · refine ⟨hlen, fun k hk => ?_, by simp⟩
      simp only [show rk - 1 - k < rk from by omega, if_true]
      have e : rk - 1 - (rk - 1 - k) = k := by omega
      rw [e, List.getD_eq_getElem?_getD]
      have : k < past.length := by omega
      simp [List.getElem?_eq_getElem this]
    · simp only [drawX] at h
      split at h
      · rename_i hdone
        have key : ∀ l : List Pend, allDone l = true → ∀ p ∈ l, p.left = 0 := by
          intro l
          induction l with
          | nil => intro _ p hm; cases hm
          | cons q r ihl =>
            intro hd p hm
            unfold allDone at hd
            split at hd
            · rename_i h0
              rcases List.mem_cons.1 hm with e | hm
              · subst e; exact h0
              · exact ihl hd p hm
            · cases hd
        intro p hm j h1 h2
        have := key _ hdone p hm
        omega
      · exact h.elim
    · exact ⟨rfl, rfl, fun k o hk => by simp at hk⟩
    · simp only [drawX] at h
      split at h
      · simpa using h
      · exact h.elim
  | cons o rest ih =>
    intro i rk prev fr past w pend K hlen h
    unfold drawX at h
    have hK : ∀ prev fr' past' w' pend', past'.length = bump κ o rk → drawX P κ ops bf ef rest (i + 1) (bump κ o rk) prev fr' past' w' pend' K → Res P κ ops bf ef rest (i + 1) (bump κ o rk) fr' past' w' pend' K :=
      fun prev fr' past' w' pend' hl hh => ih _ _ _ _ _ _ _ _ hl hh
    split at h
    · rename_i hg
      exact dstep_res (by simp [wantIn, hg]) hlen (hK none) h
    · rename_i j want hg
      split at h
      · exact h.elim
      · rename_i d hd
        split at h
        · exact h.elim
        · rename_i b hb
          have hwant : wantIn ops fr o = some (b == want) := by simp [wantIn, hg, hd, hb]
          split at h
          · split at h
            · exact dstep_res (by rw [hwant]; rfl) hlen (hK _) h
            · exact dstep_res (by rw [hwant]; rfl) hlen (hK _) h
            · rename_i h1 h2
              exact dskip_res (by rw [hwant]; cases b <;> cases want <;> simp_all) hlen (hK _) h
          · rw [SplitB_iff] at h
            cases b with
            | true =>
              have h := h.1 rfl
              rw [put_same hb] at h
              split at h
              · exact dstep_res (by rw [hwant]; rfl) hlen (hK _) h
              · exact dskip_res (by rw [hwant]; rfl) hlen (hK _) h
            | false =>
              have h := h.2 rfl
              rw [put_same hb] at h
              split at h
              · exact dstep_res (by rw [hwant]; rfl) hlen (hK _) h
              · exact dskip_res (by rw [hwant]; rfl) hlen (hK _) h
        · rename_i v hne hv
          refine dskip_res ?_ hlen (hK _) h
          simp only [wantIn, hg, hd, hv]
end

/-! ### any schedule -/
theorem execOp_congr' {ρ ρ' : Operand → Value} (o : Oper) (hs : ∀ cs b, o.op ≠ .select cs b) (h : ∀ x ∈ o.op.operands.toList, ρ x = ρ' x) : execOp ρ o = execOp ρ' o :=
  execOp_congr o hs fun x hx => h x (by simpa using hx)

section
variable {P : Program} {κ : List Kd} {ops : List Oper} {bf ef : List Nat}

theorem uniq_spec : ∀ {l : List Oper}, uniqOk l = true → ∀ (i j : Nat) (o o' : Oper) (d : Nat), l[i]? = some o → l[j]? = some o' → o.dst = some d → o'.dst = some d → i = j
  | [], _, i, j, o, o', d, hi, _, _, _ => by simp at hi
  | x :: r, h, i, j, o, o', d, hi, hj, hd, hd' => by
    simp only [uniqOk, Bool.and_eq_true] at h
    cases i with
    | zero =>
      simp at hi; subst hi
      cases j with
      | zero => rfl
      | succ j =>
        have hm : o' ∈ r := List.mem_of_getElem? (by simpa using hj)
        have := asgOps_mem hm hd'
        rw [hd] at h
        simp [this] at h
    | succ i =>
      cases j with
      | zero =>
        simp at hj; subst hj
        have hm : o ∈ r := List.mem_of_getElem? (by simpa using hi)
        have := asgOps_mem hm hd
        rw [hd'] at h
        simp [this] at h
      | succ j => rw [uniq_spec h.2 i j o o' d (by simpa using hi) (by simpa using hj) hd hd']

theorem writers_spec {i : Nat} {ts : List Nat} : ∀ {l : List Oper} {k : Nat}, writersOk bf i ts l k = true → ∀ (j : Nat) (o : Oper) (d : Nat), l[j]? = some o → o.dst = some d → d ∈ ts → pairOk bf i (k + j) = true
  | [], _, _, j, o, d, hj, _, _ => by simp at hj
  | x :: r, k, h, j, o, d, hj, hd, hm => by
    simp only [writersOk, Bool.and_eq_true] at h
    cases j with
    | zero =>
      simp at hj; subst hj
      have h1 := h.1
      rw [hd] at h1
      have hc : ts.contains d = true := by simpa using hm
      simp only [hc] at h1
      exact h1
    | succ j =>
      have := writers_spec h.2 j o d (by simpa using hj) hd hm
      rwa [show k + 1 + j = k + (j + 1) from by omega] at this

theorem names_spec : ∀ {l : List Oper} {k : Nat}, namesOk ops bf l k = true → ∀ (i : Nat) (o : Oper), l[i]? = some o → writersOk bf (k + i) (nameSlots ops o) ops 0 = true
  | [], _, _, i, o, hi => by simp at hi
  | x :: r, k, h, i, o, hi => by
    simp only [namesOk, Bool.and_eq_true] at h
    cases i with
    | zero => simp at hi; subst hi; simpa using h.1
    | succ i =>
      have := names_spec h.2 i o (by simpa using hi)
      rwa [show k + 1 + i = k + (i + 1) from by omega] at this

theorem bf_spec : ∀ {l : List Oper} {k : Nat}, bfOk bf l k = true → ∀ (i : Nat) (o : Oper), l[i]? = some o → nth 0 bf (k + i) = maskOf bf o.after.toList ∧ ∀ e ∈ o.after.toList, Region.binds .any e = true → e.on < k + i
  | [], _, _, i, o, hi => by simp at hi
  | x :: r, k, h, i, o, hi => by
    simp only [bfOk, Bool.and_eq_true] at h
    cases i with
    | zero =>
      simp at hi; subst hi
      refine ⟨by simpa using Nat.eq_of_beq_eq_true h.1.1, fun e he hb => ?_⟩
      have := List.all_eq_true.1 h.1.2 e he
      rw [hb] at this
      have := Nat.blt_eq ▸ this; simpa using this
    | succ i =>
      have := bf_spec h.2 i o (by simpa using hi)
      rwa [show k + 1 + i = k + (i + 1) from by omega] at this

theorem mask_spec : ∀ {l : List Edge} {j : Nat}, (maskOf bf l).testBit j = true → ∃ e ∈ l, Region.binds .any e = true ∧ (j = e.on ∨ (nth 0 bf e.on).testBit j = true)
  | [], j, h => by simp [maskOf] at h
  | e :: r, j, h => by
    simp only [maskOf, Nat.testBit_or, Bool.or_eq_true] at h
    rcases h with h | h
    · split at h
      · rename_i hb
        rw [Nat.testBit_or, Bool.or_eq_true, Nat.testBit_two_pow] at h
        refine ⟨e, List.mem_cons_self .., hb, ?_⟩
        rcases h with h | h
        · left; exact (of_decide_eq_true h).symm
        · exact .inr h
      · simp at h
    · obtain ⟨e', hm, h1, h2⟩ := mask_spec h
      exact ⟨e', List.mem_cons_of_mem _ hm, h1, h2⟩

theorem cnt_congr {f g : Nat → Bool} : ∀ {l : List Nat}, (∀ x ∈ l, f x = g x) → cnt f l = cnt g l
  | [], _ => rfl
  | x :: r, h => by
    simp only [cnt, h x (List.mem_cons_self ..)]
    rw [cnt_congr fun y hy => h y (List.mem_cons_of_mem _ hy)]
theorem cnt_le {f g : Nat → Bool} : ∀ {l : List Nat}, (∀ x ∈ l, f x = true → g x = true) → cnt f l ≤ cnt g l
  | [], _ => Nat.le_refl _
  | x :: r, h => by
    have ih := cnt_le fun y hy => h y (List.mem_cons_of_mem _ hy)
    have hx := h x (List.mem_cons_self ..)
    simp only [cnt]
    cases hf : f x <;> cases hg : g x <;> simp_all <;> omega
theorem cnt_len (f : Nat → Bool) : ∀ (l : List Nat), cnt f l ≤ l.length
  | [] => Nat.le_refl _
  | x :: r => by have := cnt_len f r; simp only [cnt]; split <;> simp <;> omega
theorem cnt_disj {f g : Nat → Bool} : ∀ {l : List Nat}, (∀ x ∈ l, f x = true → g x = false) → cnt f l + cnt g l ≤ l.length
  | [], _ => Nat.le_refl _
  | x :: r, h => by
    have ih := cnt_disj fun y hy => h y (List.mem_cons_of_mem _ hy)
    have hx := h x (List.mem_cons_self ..)
    simp only [cnt]
    cases hf : f x <;> cases hg : g x <;> simp_all <;> omega
theorem cnt_add {f g : Nat → Bool} {i : Nat} (hg : ∀ x, g x = (f x || x == i)) (hf : f i = false) : ∀ {l : List Nat}, l.Nodup → cnt g l = cnt f l + (match l.contains i with | true => 1 | false => 0)
  | [], _ => rfl
  | x :: r, h => by
    have hn := List.nodup_cons.1 h
    have ih := cnt_add (i := i) hg hf hn.2
    simp only [cnt]
    by_cases hx : x = i
    · subst hx
      have : r.contains x = false := by simpa using hn.1
      rw [ih, this, hg x, hf]
      simp
    · have e : (x :: r).contains i = r.contains i := by
        simp; intro hh; exact absurd hh.symm hx
      rw [e, hg x, ih]
      have : (x == i) = false := by simpa using hx
      rw [this, Bool.or_false]
      cases f x <;> simp <;> omega
end

theorem effs_spec (κ : List Kd) : ∀ (l : List Oper) (k : Nat), (∀ e, e ∈ effs κ l k ↔ k ≤ e ∧ ∃ o, l[e - k]? = some o ∧ isEff κ o = true) ∧ (effs κ l k).Nodup
  | [], k => by simp [effs]
  | o :: r, k => by
    obtain ⟨h1, h2⟩ := effs_spec κ r (k + 1)
    have key : ∀ e, (k ≤ e ∧ ∃ o', (o :: r)[e - k]? = some o' ∧ isEff κ o' = true) ↔ (e = k ∧ isEff κ o = true) ∨ (k + 1 ≤ e ∧ ∃ o', r[e - (k + 1)]? = some o' ∧ isEff κ o' = true) := by
      intro e
      constructor
      · rintro ⟨hk, o', ho', he⟩
        rcases Nat.lt_or_ge k e with hlt | hge
        · right
          have : e - k = (e - (k + 1)) + 1 := by omega
          rw [this] at ho'
          exact ⟨hlt, o', by simpa using ho', he⟩
        · have : e = k := by omega
          subst this
          simp at ho'; subst ho'
          exact .inl ⟨rfl, he⟩
      · rintro (⟨rfl, he⟩ | ⟨hk, o', ho', he⟩)
        · exact ⟨Nat.le_refl _, o, by simp, he⟩
        · refine ⟨by omega, o', ?_, he⟩
          have : e - k = (e - (k + 1)) + 1 := by omega
          rw [this]; simpa using ho'
    unfold effs
    split
    · rename_i he
      refine ⟨fun e => ?_, ?_⟩
      · rw [key, List.mem_cons, h1]; simp [he]
      · refine List.nodup_cons.2 ⟨fun hm => ?_, h2⟩
        have := (h1 k).1 hm
        omega
    · rename_i he
      refine ⟨fun e => ?_, h2⟩
      rw [key, h1]; simp [he]

section
variable {P : Program} {κ : List Kd} {ops : Array Oper} {bf : List Nat}

theorem does_step {K : Act → World → Prop} {i : Nat} {rest : List Nat} {o : Oper} {fr : Fr} {a : Act} {w w' : World} {v : Value} (ho : ops[i]? = some o) (hd : DoesAt P ops.toList o fr w v w')
    (hag : ∀ t ∈ nameSlots ops.toList o, ∀ v, sget fr t = some v → a.tmps[t]? = some v) (hnext : OpsWp P ops K rest (a.put o.dst v) w') : OpsWp P ops K (i :: rest) a w := by
  have hwant : ∀ b, wantIn ops.toList fr o = some b → Region.wanted o (yielded ops a.tmps) = b := by
    intro b hb
    unfold wantIn at hb
    cases hg : o.guard with
    | none => simp [hg] at hb; simp [Region.wanted, hg, hb]
    | some jw =>
      obtain ⟨j, want⟩ := jw
      simp only [hg] at hb
      split at hb
      · cases hb
      · rename_i d hd
        have hmem : d ∈ nameSlots ops.toList o := by
          unfold nameSlots; refine List.mem_append_right _ ?_; simp only [hg, hd]; simp
        have hd' : (ops[j]?).bind (·.dst) = some d := by simpa using hd
        split at hb
        · cases hb
        · rename_i b' hb'
          have h1 := hag d hmem _ hb'
          simp only [Region.wanted, hg, yielded, hd', Option.bind_some, h1]
          simp at hb
          rw [← hb]; cases b' <;> cases want <;> rfl
        · rename_i u hu hne
          have h1 := hag d hmem _ hne
          simp only [Region.wanted, hg, yielded, hd', Option.bind_some, h1]
          simp at hb; subst hb
          cases u <;> first | rfl | (rename_i x; exact absurd rfl (hu x))
  rcases hd with ⟨h1, h2, h3, h4⟩ | ⟨h1, h2, h3⟩
  · have hw := hwant _ h1
    have hmem := Fr.allKnown_mem h2
    have he : execOp a.eval o = execOp (Fr.eval fr) o := by
      refine execOp_congr' o h3 fun x hx => ?_
      have hk := hmem x hx
      cases x with
      | tmp t =>
        simp only [Fr.known] at hk
        split at hk
        · rename_i u hu
          have hm : t ∈ nameSlots ops.toList o := by
            refine List.mem_append_left _ (List.mem_filterMap.2 ⟨.tmp t, hx, rfl⟩)
          have := hag t hm u hu
          simp [Act.eval, Fr.eval, hu, Array.getD_eq_getD_getElem?, this]
        · cases hk
      | const v => rfl
      | global g => rfl
      | func f => rfl
    rcases h4 with h4 | ⟨h4, h5⟩
    · exact .value ho hw (by rw [he]; exact h4) hnext
    · subst h5; exact .skip ho hw (by rw [he]; exact h4) hnext
  · subst h2; subst h3
    exact .skipped ho (hwant _ h1) hnext

variable {F : Nat → Fr} {vv : Nat → Value} {rf : Nat → Nat} {ws : Nat → World} {fr0 : Fr}

theorem F_slot (hc : Cert P κ ops.toList bf (effs κ ops.toList 0) ops.toList 0 0 fr0 ws F vv rf) : ∀ k, k ≤ ops.toList.length → ∀ t v, sget (F k) t = some v →
    (∃ j o, j < k ∧ ops.toList[j]? = some o ∧ o.dst = some t ∧ v = vv j) ∨ ((∀ j o, j < k → ops.toList[j]? = some o → o.dst ≠ some t) ∧ sget fr0 t = some v) := by
  intro k
  induction k with
  | zero => intro _ t v h; right; exact ⟨fun j o hj => by omega, by rw [← hc.F0]; exact h⟩
  | succ k ih =>
    intro hk t v h
    obtain ⟨o, ho⟩ : ∃ o, ops.toList[k]? = some o := ⟨_, List.getElem?_eq_getElem (by omega)⟩
    have h1 := (hc.at_ k o ho).1
    simp only [Nat.zero_add] at h1
    rw [h1] at h
    have old : sget (F k) t = some v → o.dst ≠ some t → (∃ j o, j < k + 1 ∧ ops.toList[j]? = some o ∧ o.dst = some t ∧ v = vv j) ∨ ((∀ j o, j < k + 1 → ops.toList[j]? = some o → o.dst ≠ some t) ∧ sget fr0 t = some v) := by
      intro h hne
      rcases ih (by omega) t v h with ⟨j, o', hj, r⟩ | ⟨hn, r⟩
      · exact .inl ⟨j, o', by omega, r⟩
      · refine .inr ⟨fun j o' hj ho' => ?_, r⟩
        rcases Nat.lt_or_ge j k with hlt | hge
        · exact hn j o' hlt ho'
        · have : j = k := by omega
          subst this; rw [ho] at ho'; cases ho'; exact hne
    cases hd : o.dst with
    | none => rw [hd] at h; exact old h (by rw [hd]; simp)
    | some d =>
      rw [hd] at h
      simp only [Fr.put, sput_eq, sget_eq, List.getElem?_set] at h
      by_cases hdt : d = t
      · subst hdt
        by_cases hl : d < (F k).length
        · simp [hl] at h
          exact .inl ⟨k, o, by omega, ho, hd, h.symm⟩
        · simp [hl] at h
      · simp only [hdt, if_false] at h
        exact old (by rw [sget_eq]; exact h) (by rw [hd]; simp [hdt])

theorem rf_cnt (hc : Cert P κ ops.toList bf (effs κ ops.toList 0) ops.toList 0 0 fr0 ws F vv rf) : ∀ k, k ≤ ops.toList.length → rf k = cnt (fun e => Nat.blt e k) (effs κ ops.toList 0) := by
  obtain ⟨h1, h2⟩ := effs_spec κ ops.toList 0
  intro k
  induction k with
  | zero =>
    intro _
    rw [hc.r0]
    have : ∀ l : List Nat, cnt (fun e => Nat.blt e 0) l = 0 := by
      intro l; induction l with
      | nil => rfl
      | cons x r ih => simp only [cnt, ih]; cases hb : Nat.blt x 0 <;> simp [Nat.blt] at hb ⊢
    exact (this _).symm
  | succ k ih =>
    intro hk
    obtain ⟨o, ho⟩ : ∃ o, ops.toList[k]? = some o := ⟨_, List.getElem?_eq_getElem (by omega)⟩
    have h3 := (hc.at_ k o ho).2.1
    simp only [Nat.zero_add] at h3
    rw [h3, ih (by omega)]
    have hb : ∀ x y, Nat.blt x y = decide (x < y) := by
      intro x y; by_cases h : x < y
      · simp [h, Nat.blt_eq]
      · simp only [h, decide_false]; cases hbb : Nat.blt x y with
        | false => rfl
        | true => exact absurd (Nat.blt_eq ▸ hbb) h
    rw [cnt_add (f := fun e => Nat.blt e k) (g := fun e => Nat.blt e (k + 1)) (i := k) (fun x => by
      simp only [hb]; by_cases hx : x = k
      · subst hx; simp
      · have : (x == k) = false := by simpa using hx
        rw [this, Bool.or_false]; congr 1; exact propext ⟨fun _ => by omega, fun _ => by omega⟩) (by rw [hb]; simp) h2]
    have hmem : (effs κ ops.toList 0).contains k = isEff κ o := by
      have := h1 k
      simp only [Nat.zero_le, true_and, Nat.sub_zero, ho] at this
      cases he : isEff κ o with
      | true => simp [this, he]
      | false => simp [this, he]
    rw [hmem]
    unfold bump
    cases isEff κ o <;> simp

end

/-- Where a schedule stands: what has been listed, and what the frame and the world are by then. -/
structure Inv (κ : List Kd) (ops : Array Oper) (bf : List Nat) (ws : Nat → World) (vv : Nat → Value) (a0 : Act) (listed : Array Bool) (a : Act) (w : World) : Prop where
  size : listed.size = ops.size
  closed : ∀ i, i < ops.size → listed.getD i false = true → ∀ j, (nth 0 bf i).testBit j = true → listed.getD j false = true
  put : ∀ i o d, ops[i]? = some o → listed.getD i false = true → o.dst = some d → d < a0.tmps.size → a.tmps[d]? = some (vv i)
  old : ∀ t, (∀ i o, ops[i]? = some o → listed.getD i false = true → o.dst ≠ some t) → a.tmps[t]? = a0.tmps[t]?
  len : a.tmps.size = a0.tmps.size
  defers : a.defers = a0.defers
  world : w = ws (cnt (fun e => listed.getD e false) (effs κ ops.toList 0))

theorem draw_go {P : Program} {κ : List Kd} {ops : Array Oper} {bf : List Nat} {ws : Nat → World} {F : Nat → Fr} {vv : Nat → Value} {rf : Nat → Nat} {fr0 : Fr} {a0 : Act} {D : List Deferred} {N : Nat} {K : Act → World → Prop}
    (hok : drawOk ops.toList bf (effs κ ops.toList 0) = true) (ha0 : Agree D N fr0 a0)
    (hc : Cert P κ ops.toList bf (effs κ ops.toList 0) ops.toList 0 0 fr0 ws F vv rf)
    (hend : ∀ a, Agree D N (F ops.size) a → Same (asgOps ops.toList) a0 a → K a (ws (rf ops.size))) :
    ∀ (fuel t : Nat) (listed : Array Bool) (a : Act) (w : World), Inv κ ops bf ws vv a0 listed a w → cnt (fun i => !listed.getD i false) (List.range ops.size) ≤ fuel →
      OpsWp P ops K (Region.linearise.go .any ops fuel t listed []) a w := by
  simp only [drawOk, Bool.and_eq_true] at hok
  obtain ⟨⟨⟨hnames, huniq⟩, hbf⟩, hchain⟩ := hok
  obtain ⟨heff, hnod⟩ := effs_spec κ ops.toList 0
  have hlen : ops.toList.length = ops.size := by simp
  have hbfs := fun i o (h : ops[i]? = some o) => bf_spec hbf i o (by simpa using h)
  simp only [Nat.zero_add] at hbfs
  have hblt : ∀ x y, Nat.blt x y = decide (x < y) := by
    intro x y; by_cases h : x < y
    · simp [h, Nat.blt_eq]
    · simp only [h, decide_false]; cases hbb : Nat.blt x y with
      | false => rfl
      | true => exact absurd (Nat.blt_eq ▸ hbb) h
  -- the end
  have fin : ∀ listed a w, Inv κ ops bf ws vv a0 listed a w → (∀ i, i < ops.size → listed.getD i false = true) → K a w := by
    intro listed a w hi hall
    have hw : w = ws (rf ops.size) := by
      rw [hi.world, ← hlen, rf_cnt hc _ (Nat.le_refl _)]
      congr 1
      refine cnt_congr fun e he => ?_
      obtain ⟨_, o, ho, _⟩ := (heff e).1 he
      have hlt : e < ops.size := by
        rcases Nat.lt_or_ge e ops.size with h | h
        · exact h
        · rw [Nat.sub_zero, List.getElem?_eq_none (by simpa using h)] at ho; cases ho
      rw [hall e hlt, hblt]; simp [hlt]
    rw [hw]
    refine hend a ⟨?_, ?_, ?_, ?_⟩ ?_
    · have : ∀ k, k ≤ ops.toList.length → (F k).length = N := by
        intro k
        induction k with
        | zero => intro _; rw [hc.F0]; exact ha0.len
        | succ k ih =>
          intro hk
          obtain ⟨o, ho⟩ : ∃ o, ops.toList[k]? = some o := ⟨_, List.getElem?_eq_getElem (by omega)⟩
          have h1 := (hc.at_ k o ho).1
          simp only [Nat.zero_add] at h1
          rw [h1]
          cases o.dst <;> simp [Fr.put, sput_eq, ih (by omega)]
      exact this _ (by omega)
    · have : ∀ k, k ≤ ops.toList.length → (F k).length = N := by
        intro k
        induction k with
        | zero => intro _; rw [hc.F0]; exact ha0.len
        | succ k ih =>
          intro hk
          obtain ⟨o, ho⟩ : ∃ o, ops.toList[k]? = some o := ⟨_, List.getElem?_eq_getElem (by omega)⟩
          have h1 := (hc.at_ k o ho).1
          simp only [Nat.zero_add] at h1
          rw [h1]
          cases o.dst <;> simp [Fr.put, sput_eq, ih (by omega)]
      rw [this _ (by omega), hi.len, ← ha0.size, ha0.len]
    · rw [hi.defers, ha0.defers]
    · intro t v h
      rcases F_slot hc ops.size (by omega) t v h with ⟨j, o, hj, ho, hd, rfl⟩ | ⟨hn, hv⟩
      · have ht : t < a0.tmps.size := by
          have := List.getElem?_eq_some_iff.1 (show (F ops.size)[t]? = some (some (vv j)) by
            rw [sget_eq] at h; cases hx : (F ops.size)[t]? with
            | none => rw [hx] at h; cases h
            | some y => rw [hx] at h; simp at h; rw [h])
          have h2 := this.1
          have h3 : (F ops.size).length = N := by
            have : ∀ k, k ≤ ops.toList.length → (F k).length = N := by
              intro k
              induction k with
              | zero => intro _; rw [hc.F0]; exact ha0.len
              | succ k ih =>
                intro hk
                obtain ⟨o, ho⟩ : ∃ o, ops.toList[k]? = some o := ⟨_, List.getElem?_eq_getElem (by omega)⟩
                have h1 := (hc.at_ k o ho).1
                simp only [Nat.zero_add] at h1
                rw [h1]
                cases o.dst <;> simp [Fr.put, sput_eq, ih (by omega)]
            exact this _ (by omega)
          rw [← ha0.size, ha0.len]; omega
        exact hi.put j o t (by simpa using ho) (hall j hj) hd ht
      · rw [hi.old t (fun i o ho _ => hn i o (by
          rcases Nat.lt_or_ge i ops.size with h | h
          · exact h
          · rw [Array.getElem?_eq_none h] at ho; cases ho) (by simpa using ho))]
        exact ha0.slot _ _ hv
    · intro t ht
      refine hi.old t fun i o ho _ hd => ?_
      have := asgOps_mem (l := ops.toList) (List.mem_of_getElem? (show ops.toList[i]? = some o by simpa using ho)) hd
      rw [ht] at this; cases this
  intro fuel
  induction fuel with
  | zero =>
    intro t listed a w hi hcnt
    refine .nil (fin listed a w hi fun i hlt => ?_)
    have key : ∀ l : List Nat, cnt (fun i => !listed.getD i false) l ≤ 0 → ∀ i ∈ l, listed.getD i false = true := by
      intro l
      induction l with
      | nil => intro _ i hm; cases hm
      | cons x r ih =>
        intro h i hm
        simp only [cnt] at h
        split at h
        · omega
        · rename_i hx
          rcases List.mem_cons.1 hm with e | hm
          · subst e; simpa using hx
          · exact ih h i hm
    exact key _ hcnt i (List.mem_range.2 hlt)
  | succ fuel ih =>
    intro t listed a w hi hcnt
    simp only [Region.linearise.go]
    change OpsWp P ops K (match (Region.ready .any ops listed)[t % (Region.ready .any ops listed).length]? with
      | some i => Region.linearise.go .any ops fuel (t / (Region.ready .any ops listed).length) (listed.setIfInBounds i true) [i]
      | none => [].reverse) a w
    have hready : ∀ i, i ∈ Region.ready .any ops listed ↔ i < ops.size ∧ listed.getD i true = false ∧ ∃ o, ops[i]? = some o ∧ ∀ e ∈ o.after.toList, Region.binds .any e = true → listed.getD e.on false = true := by
      intro i
      unfold Region.ready
      rw [List.mem_filter, List.mem_range]
      refine and_congr_right fun hlt => ?_
      rw [Bool.and_eq_true]
      refine and_congr (by simp) ?_
      obtain ⟨o, ho⟩ : ∃ o, ops[i]? = some o := ⟨_, Array.getElem?_eq_getElem hlt⟩
      simp only [ho, Option.map_some, Option.getD_some, Array.all_eq_true_iff_forall_mem]
      constructor
      · intro h
        refine ⟨o, rfl, fun e he hb => ?_⟩
        have := h e (by simpa using he)
        simpa [hb] using this
      · rintro ⟨o', e', h⟩ e he
        cases e'
        have := h e (by simpa using he)
        cases hb : Region.binds .any e with
        | false => simp
        | true => simpa using this hb
    have hgetD : ∀ i, i < ops.size → listed.getD i true = listed.getD i false := by
      intro i hlt
      rw [Array.getD_eq_getD_getElem?, Array.getD_eq_getD_getElem?, Array.getElem?_eq_getElem (by rw [hi.size]; exact hlt)]
      rfl
    cases hsel : (Region.ready .any ops listed)[t % (Region.ready .any ops listed).length]? with
    | none =>
      have hnil : Region.ready .any ops listed = [] := by
        cases hr : Region.ready .any ops listed with
        | nil => rfl
        | cons x xs =>
          rw [hr] at hsel
          have hlt : t % (x :: xs).length < (x :: xs).length := Nat.mod_lt _ (by simp)
          rw [List.getElem?_eq_getElem hlt] at hsel
          cases hsel
      refine .nil (fin listed a w hi ?_)
      intro i
      induction i using Nat.strongRecOn with
      | _ i ihi =>
        intro hlt
        cases hl : listed.getD i false with
        | true => rfl
        | false =>
          exfalso
          obtain ⟨o, ho⟩ : ∃ o, ops[i]? = some o := ⟨_, Array.getElem?_eq_getElem hlt⟩
          have : i ∈ Region.ready .any ops listed := (hready i).2 ⟨hlt, by rw [hgetD i hlt]; exact hl, o, ho, fun e he hb => ihi e.on ((hbfs i o ho).2 e he hb) (by have := (hbfs i o ho).2 e he hb; omega)⟩
          rw [hnil] at this; cases this
    | some i =>
      simp only []
      rw [linearise_go_acc, List.reverse_singleton, List.singleton_append]
      obtain ⟨hlt, hun0, o, ho, hdeps⟩ := (hready i).1 (List.mem_of_getElem? hsel)
      have hun : listed.getD i false = false := by rw [← hgetD i hlt]; exact hun0
      have hpre : ∀ j, (nth 0 bf i).testBit j = true → listed.getD j false = true := by
        intro j hj
        rw [(hbfs i o ho).1] at hj
        obtain ⟨e, he, hb, h⟩ := mask_spec hj
        have hl := hdeps e he hb
        rcases h with rfl | h
        · exact hl
        · exact hi.closed e.on (by have := (hbfs i o ho).2 e he hb; omega) hl j h
      have hpost : ∀ j, j < ops.size → (nth 0 bf j).testBit i = true → listed.getD j false = false := by
        intro j hj h
        cases hl : listed.getD j false with
        | false => rfl
        | true => rw [hi.closed j hj hl i h] at hun; cases hun
      have hcert := hc.at_ i o (by simpa using ho)
      simp only [Nat.zero_add] at hcert
      obtain ⟨hF, hrf, hdoes⟩ := hcert
      have hrfi := rf_cnt hc i (by omega)
      -- how many writers have run
      have hefflt : ∀ e ∈ effs κ ops.toList 0, e < ops.size := by
        intro e he
        obtain ⟨_, o', ho', _⟩ := (heff e).1 he
        rcases Nat.lt_or_ge e ops.size with h | h
        · exact h
        · rw [Nat.sub_zero, List.getElem?_eq_none (by simpa using h)] at ho'; cases ho'
      have hlo : cnt (fun e => (nth 0 bf i).testBit e) (effs κ ops.toList 0) ≤ cnt (fun e => listed.getD e false) (effs κ ops.toList 0) := cnt_le fun e _ h => hpre e h
      have hhi : cnt (fun e => listed.getD e false) (effs κ ops.toList 0) + cnt (fun e => (nth 0 bf e).testBit i) (effs κ ops.toList 0) ≤ (effs κ ops.toList 0).length := by
        refine cnt_disj fun e he h => ?_
        cases hb : (nth 0 bf e).testBit i with
        | false => rfl
        | true => rw [hpost e (hefflt e he) hb] at h; cases h
      have hchainS : ∀ (l : List Nat), chainOk bf l = true → ∀ x ∈ l, ∀ y ∈ l, x < y → (nth 0 bf y).testBit x = true := by
        intro l
        induction l with
        | nil => intro _ x hx; cases hx
        | cons z r ihl =>
          intro h x hx y hy hxy
          simp only [chainOk, Bool.and_eq_true] at h
          have hz := fun f hf => (List.all_eq_true.1 h.1 f hf)
          rcases List.mem_cons.1 hx with e1 | hx
          · rcases List.mem_cons.1 hy with e2 | hy
            · omega
            · have := hz y hy; rw [Bool.and_eq_true] at this; rw [e1]; exact this.1
          · rcases List.mem_cons.1 hy with e2 | hy
            · have := hz x hx; rw [Bool.and_eq_true, hblt] at this
              have h2 := of_decide_eq_true this.2
              omega
            · exact ihl h.2 x hx y hy hxy
      have heq : isEff κ o = true → cnt (fun e => listed.getD e false) (effs κ ops.toList 0) = rf i := by
        intro he
        have himem : i ∈ effs κ ops.toList 0 := (heff i).2 ⟨Nat.zero_le _, o, by simpa using ho, he⟩
        rw [hrfi]
        refine cnt_congr fun e hem => ?_
        rw [hblt]
        rcases Nat.lt_trichotomy e i with h | h | h
        · rw [hpre e (hchainS _ hchain e hem i himem h)]; simp [h]
        · subst h; rw [hun]; simp
        · rw [hpost e (hefflt e hem) (hchainS _ hchain i himem e hem h)]; simp; omega
      have hd := hdoes (cnt (fun e => listed.getD e false) (effs κ ops.toList 0)) heq (by omega) (by omega)
      rw [← hi.world] at hd
      -- the names
      have hnm := names_spec hnames i o (by simpa using ho)
      simp only [Nat.zero_add] at hnm
      refine does_step ho hd ?_ ?_
      · intro t htm v hv
        rcases F_slot hc i (by omega) t v hv with ⟨j, oj, hj, hoj, hdj, rfl⟩ | ⟨hn, hv0⟩
        · have hp := writers_spec hnm j oj t hoj hdj htm
          simp only [Nat.zero_add, pairOk, hblt, hj, decide_true] at hp
          have hjl := hpre j hp
          have ht : t < a0.tmps.size := by
            have h3 : ∀ k, k ≤ ops.toList.length → (F k).length = N := by
              intro k
              induction k with
              | zero => intro _; rw [hc.F0]; exact ha0.len
              | succ k ih =>
                intro hk
                obtain ⟨o, ho⟩ : ∃ o, ops.toList[k]? = some o := ⟨_, List.getElem?_eq_getElem (by omega)⟩
                have h1 := (hc.at_ k o ho).1
                simp only [Nat.zero_add] at h1
                rw [h1]
                cases o.dst <;> simp [Fr.put, sput_eq, ih (by omega)]
            rw [← ha0.size, ha0.len, ← h3 i (by omega)]
            rw [sget_eq] at hv
            rcases Nat.lt_or_ge t (F i).length with h | h
            · exact h
            · rw [List.getElem?_eq_none h] at hv; cases hv
          exact hi.put j oj t (by simpa using hoj) hjl hdj ht
        · rw [hi.old t ?_]
          · exact ha0.slot _ _ hv0
          · intro j oj hoj hlj hdj
            have hjlt : j < ops.size := by
              rcases Nat.lt_or_ge j ops.size with h | h
              · exact h
              · rw [Array.getElem?_eq_none h] at hoj; cases hoj
            rcases Nat.lt_trichotomy j i with h | h | h
            · exact hn j oj h (by simpa using hoj) hdj
            · subst h; rw [hun] at hlj; cases hlj
            · have hp := writers_spec hnm j oj t (by simpa using hoj) hdj htm
              simp only [Nat.zero_add, pairOk, hblt, show ¬ (j < i) from by omega, decide_false, h, decide_true] at hp
              rw [hpost j hjlt hp] at hlj; cases hlj
      · have hset : ∀ j, (listed.setIfInBounds i true).getD j false = (listed.getD j false || j == i) := by
          intro j
          rw [Array.getD_eq_getD_getElem?, Array.getD_eq_getD_getElem?, Array.getElem?_setIfInBounds]
          by_cases hji : i = j
          · subst hji; simp [hi.size, hlt]
          · have : (j == i) = false := by simpa using fun e => hji e.symm
            simp [hji, this]
        refine ih _ _ _ _ ⟨by simp [hi.size], ?_, ?_, ?_, ?_, ?_, ?_⟩ ?_
        · intro k hk hl j hj
          rw [hset] at hl ⊢
          rw [Bool.or_eq_true] at hl ⊢
          rcases hl with hl | hl
          · exact .inl (hi.closed k hk hl j hj)
          · have : k = i := by simpa using hl
            subst this; exact .inl (hpre j hj)
        · intro k ok d hok hl hdk hdlt
          rw [hset, Bool.or_eq_true] at hl
          by_cases hki : k = i
          · subst hki
            rw [ho] at hok; cases hok
            rw [hdk]; simp [Act.put, hi.len, hdlt]
          · have hl : listed.getD k false = true := by
              rcases hl with hl | hl
              · exact hl
              · exact absurd (by simpa using hl) hki
            have h1 := hi.put k ok d hok hl hdk hdlt
            cases hdo : o.dst with
            | none => exact h1
            | some d' =>
              have hne : d' ≠ d := by
                rintro rfl
                exact hki (uniq_spec huniq k i ok o d' (by simpa using hok) (by simpa using ho) hdk hdo)
              simp only [Act.put]
              rw [Array.getElem?_setIfInBounds_ne hne]; exact h1
        · intro t htn
          have h1 := hi.old t fun k ok hok hl => htn k ok hok (by rw [hset, hl]; rfl)
          have h2 := htn i o ho (by rw [hset]; simp)
          cases hdo : o.dst with
          | none => exact h1
          | some d' =>
            have hne : d' ≠ t := by rintro rfl; exact h2 hdo
            simp only [Act.put]
            rw [Array.getElem?_setIfInBounds_ne hne]; exact h1
        · cases o.dst <;> simp [Act.put, hi.len]
        · cases o.dst <;> simp [Act.put, hi.defers]
        · rw [cnt_add (f := fun e => listed.getD e false) (g := fun e => (listed.setIfInBounds i true).getD e false) (i := i) hset hun hnod]
          have hmem : (effs κ ops.toList 0).contains i = isEff κ o := by
            have := heff i
            simp only [Nat.zero_le, true_and, Nat.sub_zero, show ops.toList[i]? = some o by simpa using ho] at this
            cases he : isEff κ o with
            | true => simp [this, he]
            | false => simp [this, he]
          rw [hmem]
          unfold bump
          cases isEff κ o <;> rfl
        · have h2 : cnt (fun j => !(listed.setIfInBounds i true).getD j false) (List.range ops.size) + 1 = cnt (fun j => !listed.getD j false) (List.range ops.size) := by
            have := cnt_add (f := fun j => !(listed.setIfInBounds i true).getD j false) (g := fun j => !listed.getD j false) (i := i) (fun x => by
              rw [hset]
              by_cases hx : x = i
              · subst hx; rw [hun]; simp
              · have : (x == i) = false := by simpa using hx
                rw [this]; simp) (by rw [hset]; simp) (l := List.range ops.size) List.nodup_range
            rw [this]
            have : (List.range ops.size).contains i = true := by simpa using hlt
            rw [this]
          omega

def postOf (D : List Deferred) (N : Nat) (f : Nat → Bool) (a0 : Act) (Kn : KF) (Ke : Nat → KF) (Kr : KF) : Exit → Act → World → Prop
  | .normal, a, w => ∃ fr, Agree D N fr a ∧ Same f a0 a ∧ Kn fr w
  | .exit i, a, w => ∃ fr, Agree D N fr a ∧ Same f a0 a ∧ Ke i fr w
  | .ret, a, w => ∃ fr, Agree D N fr a ∧ Same f a0 a ∧ Kr fr w
  | _, _, _ => False
theorem postOf_weaken {D : List Deferred} {N : Nat} {f g : Nat → Bool} {a0 a1 : Act} {Kn Kr : KF} {Ke : Nat → KF} (hfg : ∀ t, g t = false → f t = false) (hs : Same g a0 a1) {e : Exit} {a : Act} {w : World}
    (h : postOf D N f a1 Kn Ke Kr e a w) : postOf D N g a0 Kn Ke Kr e a w := by
  cases e <;> simp only [postOf] at h ⊢
  all_goals first
    | (obtain ⟨fr, h1, h2, h3⟩ := h; exact ⟨fr, h1, hs.trans (h2.weaken hfg), h3⟩)
    | exact h

/-- The region that draws: the reading is enough. -/
theorem draw_sound {P : Program} {κ : List Kd} {ops : Array Oper} {id : Nat} {bf : List Nat} {D : List Deferred} {N : Nat} {fr : Fr} {a : Act} {w : World} {Kn Kr : KF} {Ke : Nat → KF}
    (hm : P.follows .mixedOrders = true) (hok : drawOk ops.toList bf (effs κ ops.toList 0) = true) (ha : Agree D N fr a)
    (h : drawX P κ ops.toList bf (effs κ ops.toList 0) ops.toList 0 0 none fr [] w.drew [] Kn) :
    (Code.region id ops true).wp P (postOf D N (asgOps ops.toList) a Kn Ke Kr) a w := by
  obtain ⟨ws, F, vv, rf, ht, _, hc, hk⟩ := drawX_res (bf := bf) (ef := effs κ ops.toList 0) (ops := ops.toList) _ _ 0 _ _ [] _ _ _ rfl h
  simp only [Nat.zero_add, Array.length_toList] at hk
  intro b k cs
  have key : ∀ t, OpsWp P ops (postOf D N (asgOps ops.toList) a Kn Ke Kr .normal) (Region.schedule (P.follows .mixedOrders) ops t) a w.drew := by
    intro t
    simp only [Region.schedule, hm, Bool.true_or, if_true, Region.linearise]
    refine draw_go hok ha hc (fun a' h1 h2 => ⟨_, h1, h2, hk⟩) ops.size t _ a w.drew ⟨by simp, ?_, ?_, ?_, rfl, rfl, ?_⟩ ?_
    · intro i hi hl; simp [Array.getD_eq_getD_getElem?, hi] at hl
    · intro i o d ho hl
      rw [Array.getD_eq_getD_getElem?, Array.getElem?_replicate] at hl
      split at hl <;> simp at hl
    · intro t _; rfl
    · have : ∀ l : List Nat, cnt (fun e => (Array.replicate ops.size false).getD e false) l = 0 := by
        intro l
        induction l with
        | nil => rfl
        | cons x r ih =>
          simp only [cnt, ih]
          have : (Array.replicate ops.size false).getD x false = false := by
            rw [Array.getD_eq_getD_getElem?, Array.getElem?_replicate]; split <;> rfl
          rw [this]
      rw [this]; exact ht.now.symm
    · exact Nat.le_trans (cnt_len _ _) (by simp)
  obtain ⟨a', w', hk, hs⟩ := key (w.tape w.drawn (.order b.fn id)) b k cs
  exact ⟨.normal, a', w', hk, .head step_region_draw hs⟩
end Go.Fw
