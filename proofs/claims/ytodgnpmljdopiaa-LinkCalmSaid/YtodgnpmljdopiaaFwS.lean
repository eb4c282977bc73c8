/- Memory of one's own as a list of groups: one hypothesis carries all of it from step to step. -/
import Derived.Test.YtodgnpmljdopiaaFwV
import Derived.Test.YtodgnpmljdopiaaFwE
set_option linter.unusedVariables false
set_option linter.unusedSimpArgs false
namespace Go.Fw
open Go Go.RowKit

/-- A piece of memory: a block of cells, or a slice that is owned up to its capacity. -/
inductive Ent where
  | cel (b : Nat) (t : TypeId) (cs : List Value)
  | row (E : TypeId) (sz : Nat) (s : Sl) (vs : List Value)
  | ro (s : Sl) (sz : Nat) (vs : List Value)
  | obj (b : Nat) (o : Obj)
def Ent.blk : Ent → Option Nat
  | .cel b _ _ => some b
  | .row _ _ s _ => s.blk
  | .ro s _ _ => s.blk
  | .obj b _ => some b
def Ent.vals : Ent → List Value
  | .cel _ _ cs => cs
  | .row _ _ _ vs => vs
  | .ro _ _ vs => vs
  | .obj _ _ => []
def Ent.okM (w : World) (base : Nat) : Ent → Prop
  | .cel b t cs => base ≤ b ∧ Blk w b t cs
  | .row E sz s vs => Ow w base E sz s vs
  | .ro s sz vs => (∀ b, s.blk = some b → base ≤ b ∧ b < w.heap.size) ∧ Rd w s sz vs
  | .obj b o => base ≤ b ∧ w.heap[b]? = some o
def Ent.ok (w : World) (base : Nat) (e : Ent) : Prop := e.okM w base ∧ ∀ v ∈ e.vals, v.oneCell' = true
def Ent.Ap (a b : Ent) : Prop := ∀ k, a.blk = some k → b.blk ≠ some k
theorem Ent.Ap.symm {a b : Ent} (h : a.Ap b) : b.Ap a := fun k hb ha => h k ha hb
theorem Ent.ok.lt {w : World} {base : Nat} {e : Ent} (h : e.ok w base) {k : Nat} (hk : e.blk = some k) : base ≤ k ∧ k < w.heap.size := by
  cases e with
  | cel b t cs => simp [Ent.blk] at hk; subst hk; exact ⟨h.1.1, h.1.2.lt⟩
  | row E sz s vs => exact Ow.lt h.1 hk
  | ro s sz vs => exact h.1.1 k hk
  | obj b o => simp [Ent.blk] at hk; subst hk; exact ⟨h.1.1, lt_of_obj h.1.2⟩
theorem Ent.ok.upd {w w' : World} {S : Nat → Prop} {base : Nat} {e : Ent} (h : e.ok w base) (hu : Upd w w' S) (hs : ∀ k, e.blk = some k → ¬ S k) : e.ok w' base := by
  refine ⟨?_, h.2⟩
  cases e with
  | cel b t cs => exact ⟨h.1.1, h.1.2.upd hu (hs b rfl)⟩
  | row E sz s vs => exact Ow.upd h.1 hu hs
  | ro s sz vs => exact ⟨fun b hb => ⟨(h.1.1 b hb).1, Nat.lt_of_lt_of_le (h.1.1 b hb).2 hu.size⟩, h.1.2.upd hu hs⟩
  | obj b o => exact ⟨h.1.1, hu.obj h.1.2 (hs b rfl)⟩

structure Fl (w0 w : World) (l : List Ent) : Prop where
  upd : Upd w0 w nobody
  ok : ∀ e ∈ l, e.ok w w0.heap.size
  ap : l.Pairwise Ent.Ap
theorem Fl.perm {w0 w : World} {l l' : List Ent} (h : Fl w0 w l) (p : l.Perm l') : Fl w0 w l' :=
  ⟨h.upd, fun e he => h.ok e (p.mem_iff.2 he), h.ap.perm p Ent.Ap.symm⟩
theorem Fl.change {w0 w w' : World} {e : Ent} {es A : List Ent} (h : Fl w0 w (e :: A)) (hu : Upd w w' (fun j => e.blk = some j)) (hok : ∀ e' ∈ es, e'.ok w' w0.heap.size) (hap : es.Pairwise Ent.Ap)
    (hb : ∀ e' ∈ es, ∀ j, e'.blk = some j → e.blk = some j ∨ w.heap.size ≤ j) : Fl w0 w' (es ++ A) := by
  have hA := (List.pairwise_cons.1 h.ap)
  refine ⟨h.upd.fresh hu fun i hi => ((h.ok e (List.mem_cons_self ..)).lt hi).1, fun e'' he => ?_, ?_⟩
  · rcases List.mem_append.1 he with he | he
    · exact hok _ he
    · exact (h.ok e'' (List.mem_cons_of_mem _ he)).upd hu fun k hk hek => hA.1 e'' he k hek hk
  · refine List.pairwise_append.2 ⟨hap, hA.2, fun a ha b hb' k hk hbk => ?_⟩
    rcases hb a ha k hk with h1 | h1
    · exact hA.1 b hb' k h1 hbk
    · have := ((h.ok b (List.mem_cons_of_mem _ hb')).lt hbk).2; omega
theorem Fl.keep {w0 w w' : World} {A : List Ent} (h : Fl w0 w A) (hu : Upd w w' nobody) : Fl w0 w' A :=
  ⟨h.upd.trans hu, fun e he => (h.ok e he).upd hu fun _ _ h => h, h.ap⟩
theorem Fl.join {w0 w w' : World} {A B : List Ent} (h : Fl w0 w A) (h' : Fl w w' B) : Fl w0 w' (B ++ A) := by
  refine ⟨h.upd.trans h'.upd, fun e he => ?_, List.pairwise_append.2 ⟨h'.ap, h.ap, fun a ha b hb k hk hbk => ?_⟩⟩
  · rcases List.mem_append.1 he with he | he
    · have h1 := h'.ok e he
      refine ⟨?_, h1.2⟩
      have hsz := h.upd.size
      cases e with
      | cel b t cs => exact ⟨Nat.le_trans hsz h1.1.1, h1.1.2⟩
      | row E sz s vs => exact Ow.base h1.1 fun b hb => Nat.le_trans hsz (Ow.lt h1.1 hb).1
      | ro s sz vs => exact ⟨fun b hb => ⟨Nat.le_trans hsz (h1.1.1 b hb).1, (h1.1.1 b hb).2⟩, h1.1.2⟩
      | obj b o => exact ⟨Nat.le_trans hsz h1.1.1, h1.1.2⟩
    · exact (h.ok e he).upd h'.upd fun _ _ h => h
  · have h1 := ((h'.ok a ha).lt hk).1
    have h2 := ((h.ok b hb).lt hbk).2
    omega

/-! ### groups -/
def nthO {α : Type} : List α → Nat → Option α
  | [], _ => none
  | x :: _, 0 => some x
  | _ :: r, n + 1 => nthO r n
def setO {α : Type} : List α → Nat → α → List α
  | [], _, _ => []
  | _ :: r, 0, y => y :: r
  | x :: r, n + 1, y => x :: setO r n y
def delO {α : Type} : List α → Nat → List α
  | [], _ => []
  | _ :: r, 0 => r
  | x :: r, n + 1 => x :: delO r n
def insO {α : Type} : Nat → List α → α → List α
  | 0, l, y => y :: l
  | _ + 1, [], y => [y]
  | n + 1, x :: r, y => x :: insO n r y
theorem nthO_perm {α : Type} : ∀ {l : List α} {n : Nat} {x : α}, nthO l n = some x → l.Perm (x :: delO l n)
  | [], _, _, h => by cases h
  | y :: r, 0, x, h => by simp [nthO] at h; subst h; exact .refl _
  | y :: r, n + 1, x, h => ((nthO_perm (l := r) h).cons y).trans (.swap _ _ _)
theorem setO_perm {α : Type} : ∀ {l : List α} {n : Nat} {x : α} (y : α), nthO l n = some x → (setO l n y).Perm (y :: delO l n)
  | [], _, _, _, h => by cases h
  | z :: r, 0, x, y, h => .refl _
  | z :: r, n + 1, x, y, h => ((setO_perm (l := r) y h).cons z).trans (.swap _ _ _)
theorem insO_perm {α : Type} : ∀ (l : List α) (n : Nat) (y : α), (insO n l y).Perm (y :: l)
  | l, 0, y => .refl _
  | [], n + 1, y => .refl _
  | z :: r, n + 1, y => ((insO_perm r n y).cons z).trans (.swap _ _ _)
theorem nthO_get {α : Type} (l : List α) (n : Nat) : nthO l n = l[n]? := by
  induction l generalizing n with
  | nil => rfl
  | cons x r ih => cases n with
    | zero => rfl
    | succ n => simpa [nthO] using ih n
theorem setO_set {α : Type} (l : List α) (n : Nat) (y : α) : setO l n y = l.set n y := by
  induction l generalizing n with
  | nil => rfl
  | cons x r ih => cases n with
    | zero => rfl
    | succ n => simpa [setO] using ih n

abbrev Grps := List (List Ent)
structure St (w0 w : World) (G : Grps) : Prop where
  fl : Fl w0 w G.flatten
/-- The i-th piece of the k-th group. -/
def Has (G : Grps) (k i : Nat) (e : Ent) : Prop := ∃ g, nthO G k = some g ∧ nthO g i = some e
def updG : Grps → Nat → Nat → List Ent → Grps
  | [], _, _, _ => []
  | g :: r, 0, i, es => (match es with | [e] => setO g i e | _ => es ++ delO g i) :: r
  | g :: r, k + 1, i, es => g :: updG r k i es
theorem updG_perm : ∀ {G : Grps} {k i : Nat} {e : Ent} (es : List Ent), Has G k i e → ∃ A, G.flatten.Perm (e :: A) ∧ (updG G k i es).flatten.Perm (es ++ A)
  | [], k, i, e, es, ⟨g, h, _⟩ => by cases h
  | g :: r, 0, i, e, es, ⟨g', h, h'⟩ => by
    simp [nthO] at h; subst h
    refine ⟨delO g i ++ r.flatten, ?_, ?_⟩
    · simp only [List.flatten_cons]
      exact (nthO_perm h').append_right _
    · simp only [updG, List.flatten_cons]
      have : (match es with | [e] => setO g i e | _ => es ++ delO g i).Perm (es ++ delO g i) := by
        split
        · exact setO_perm _ h'
        · exact .refl _
      rw [← List.append_assoc]
      exact this.append_right _
  | g :: r, k + 1, i, e, es, ⟨g', h, h'⟩ => by
    obtain ⟨A, h1, h2⟩ := updG_perm (G := r) es ⟨g', h, h'⟩
    refine ⟨g ++ A, ?_, ?_⟩
    · simp only [List.flatten_cons]
      exact (h1.append_left g).trans List.perm_middle
    · simp only [updG, List.flatten_cons]
      refine (h2.append_left g).trans ?_
      rw [← List.append_assoc, ← List.append_assoc]
      exact List.perm_append_comm.append_right _

namespace St
variable {P : Program} {w0 w w' : World} {G : Grps}

theorem init (w : World) : St w w [] := ⟨⟨Upd.refl _ _, fun e he => by simp at he, by simp⟩⟩
theorem upd (h : St w0 w G) : Upd w0 w nobody := h.fl.upd
theorem keep (h : St w0 w G) (hu : Upd w w' nobody) : St w0 w' G := ⟨h.fl.keep hu⟩
theorem drew (h : St w0 w G) : St w0 w.drew G := h.keep (Upd.drew _ _)
theorem perm {G' : Grps} (h : St w0 w G) (p : G.flatten.Perm G'.flatten) : St w0 w G' := ⟨h.fl.perm p⟩
theorem join {G' : Grps} (h : St w0 w G) (h' : St w w' G') : St w0 w' (G' ++ G) := ⟨by rw [List.flatten_append]; exact h.fl.join h'.fl⟩
theorem bring (h : St w0 w G) (k : Nat) {g : List Ent} (hk : nthO G k = some g) : St w0 w (g :: delO G k) := h.perm (nthO_perm hk).flatten
theorem back {g : List Ent} (h : St w0 w (g :: G)) (k : Nat) : St w0 w (insO k G g) := h.perm (insO_perm G k g).symm.flatten
theorem drop (h : St w0 w G) (k : Nat) : St w0 w (delO G k) := by
  cases hk : nthO G k with
  | none =>
    have : delO G k = G := by
      clear h
      induction G generalizing k with
      | nil => rfl
      | cons x r ih => cases k with
        | zero => cases hk
        | succ k => simp [delO, ih k hk]
    rw [this]; exact h
  | some g =>
    have := (h.bring k hk).fl
    rw [List.flatten_cons] at this
    exact ⟨⟨this.upd, fun e he => this.ok e (List.mem_append_right _ he), (List.pairwise_append.1 this.ap).2.1⟩⟩
theorem one {e : Ent} {g : List Ent} : St w0 w ((e :: g) :: G) ↔ St w0 w ([e] :: g :: G) := by
  constructor <;> exact fun h => h.perm (by simp)
theorem two {a b : List Ent} : St w0 w ((a ++ b) :: G) ↔ St w0 w (a :: b :: G) := by
  constructor <;> exact fun h => h.perm (by simp)
theorem empty : St w0 w ([] :: G) ↔ St w0 w G := by
  constructor <;> exact fun h => h.perm (by simp)
theorem ent (h : St w0 w G) {k i : Nat} {e : Ent} (he : Has G k i e) : e.ok w w0.heap.size := by
  obtain ⟨A, h1, _⟩ := updG_perm [] he
  exact h.fl.ok e (h1.mem_iff.2 (List.mem_cons_self ..))
theorem change (h : St w0 w G) {k i : Nat} {e : Ent} {es : List Ent} (he : Has G k i e) (hu : Upd w w' (fun j => e.blk = some j)) (hok : ∀ e' ∈ es, e'.ok w' w0.heap.size) (hap : es.Pairwise Ent.Ap)
    (hb : ∀ e' ∈ es, ∀ j, e'.blk = some j → e.blk = some j ∨ w.heap.size ≤ j) : St w0 w' (updG G k i es) := by
  obtain ⟨A, h1, h2⟩ := updG_perm es he
  exact ⟨((h.fl.perm h1).change hu hok hap hb).perm h2.symm⟩
theorem change1 (h : St w0 w G) {k i : Nat} {e e' : Ent} (he : Has G k i e) (hu : Upd w w' (fun j => e.blk = some j)) (hok : e'.ok w' w0.heap.size)
    (hb : ∀ j, e'.blk = some j → e.blk = some j ∨ w.heap.size ≤ j) : St w0 w' (updG G k i [e']) :=
  h.change he hu (fun x hx => by simp at hx; subst hx; exact hok) (by simp) (fun x hx => by simp at hx; subst hx; exact hb)
/-- A new piece. -/
theorem new (h : St w0 w G) {e : Ent} (hu : Upd w w' nobody) (hok : e.ok w' w0.heap.size) (hb : ∀ j, e.blk = some j → w.heap.size ≤ j) : St w0 w' ([e] :: G) := by
  refine ⟨?_⟩
  rw [List.flatten_cons]
  have h1 := h.fl.keep hu
  refine ⟨h1.upd, fun x hx => ?_, List.pairwise_append.2 ⟨by simp, h1.ap, fun a ha b hb' k hk hbk => ?_⟩⟩
  · rcases List.mem_append.1 hx with hx | hx
    · simp at hx; subst hx; exact hok
    · exact h1.ok x hx
  · simp at ha; subst ha
    have := hb k hk
    have := ((h.fl.ok b hb').lt hbk).2
    omega
theorem nilrow (h : St w0 w G) (E : TypeId) (sz : Nat) : St w0 w ([.row E sz ⟨none, 0, 0⟩ []] :: G) :=
  h.new (Upd.refl _ _) ⟨Ow.nil _ _ _ _, fun v hv => by simp [Ent.vals] at hv⟩ fun j hj => by simp [Ent.blk, Sl.blk] at hj

section reads
theorem blk (h : St w0 w G) {k i : Nat} {b : Nat} {t : TypeId} {cs : List Value} (he : Has G k i (.cel b t cs)) : Blk w b t cs := (h.ent he).1.2
theorem ow (h : St w0 w G) {k i : Nat} {E : TypeId} {sz : Nat} {s : Sl} {vs : List Value} (he : Has G k i (.row E sz s vs)) : Ow w w0.heap.size E sz s vs := (h.ent he).1
theorem rd (h : St w0 w G) {k i : Nat} {E : TypeId} {sz : Nat} {s : Sl} {vs : List Value} (he : Has G k i (.row E sz s vs)) : Rd w s sz vs := (h.ow he).rd
theorem rdo (h : St w0 w G) {k i : Nat} {sz : Nat} {s : Sl} {vs : List Value} (he : Has G k i (.ro s sz vs)) : Rd w s sz vs := (h.ent he).1.2
theorem one1 (h : St w0 w G) {k i : Nat} {e : Ent} (he : Has G k i e) : ∀ v ∈ e.vals, v.oneCell' = true := (h.ent he).2
/-- What was there at first reads so still. -/
theorem old (h : St w0 w G) {s : Sl} {sz : Nat} {vs : List Value} (hr : Rd w0 s sz vs) : Rd w s sz vs := hr.upd h.upd fun _ _ h => h
end reads
end St

/-! ### types -/
class Sc (P : Program) (t : TypeId) : Prop where
  h : scB P t = true
class Ag (P : Program) (t : TypeId) (n : outParam Nat) : Prop where
  h : aggB P t n = true
class Et (P : Program) (t : TypeId) (e : outParam TypeId) (sz by_ : outParam Nat) : Prop where
  h : ET P t e sz by_
  pos : 0 < sz

section
variable {P : Program} {w0 w w' : World} {G : Grps}

/-! ### blocks -/
theorem St.run_loadB (h : St w0 w G) {k i : Nat} {b : Nat} {t : TypeId} {cs : List Value} (he : Has G k i (.cel b t cs)) {t' : TypeId} [Sc P t'] {p : Addr} {j : Nat} (hp : p = ⟨b, j, none⟩) {v : Value} (hv : nthO cs j = some v) :
    (Instr.loadAt t' (.pointer (some p))).run P w = .ok v w := by
  subst hp
  exact run_load Sc.h (by rw [(h.blk he).cell, ← nthO_get]; exact hv)
theorem St.loadB (h : St w0 w G) (k i : Nat) {b : Nat} {t : TypeId} {cs : List Value} (he : Has G k i (.cel b t cs)) {t' : TypeId} [Sc P t'] {p : Addr} {j : Nat} (hp : p = ⟨b, j, none⟩) {kd : Kd} {x : kd.T} (hv : nthO cs j = some (kd.val x)) {K : kd.T → World → Prop} (hk : K x w) :
    RunN P kd (V (Instr.loadAt t' (.pointer (some p)))) w K := RunN.of (h.run_loadB he hp hv) hk
theorem St.readB (h : St w0 w G) (k i : Nat) {b : Nat} {t : TypeId} {cs : List Value} (he : Has G k i (.cel b t cs)) {t' : TypeId} [Sc P t'] {p : Addr} {j : Nat} (hp : p = ⟨b, j, none⟩) {kd : Kd} {x : kd.T} (hv : nthO cs j = some (kd.val x)) {K : kd.T → Prop} (hk : K x) :
    ReadN P kd (V (Instr.loadAt t' (.pointer (some p)))) w K := ReadN.of (h.run_loadB he hp hv) hk
theorem St.stillB (h : St w0 w G) (k i : Nat) {b : Nat} {t : TypeId} {cs : List Value} (he : Has G k i (.cel b t cs)) {t' : TypeId} [Sc P t'] {p : Addr} {j : Nat} (hp : p = ⟨b, j, none⟩) {v : Value} (hv : nthO cs j = some v) :
    StillV P (V (Instr.loadAt t' (.pointer (some p)))) v w := StillV.of (h.run_loadB he hp hv)
/-- A part of a block as a struct. -/
theorem St.run_loadA (h : St w0 w G) {k i : Nat} {b : Nat} {t : TypeId} {cs : List Value} (he : Has G k i (.cel b t cs)) {t' : TypeId} {n : Nat} [Ag P t' n] {p : Addr} {j : Nat} (hp : p = ⟨b, j, none⟩) {vs : List Value} (hl : vs.length = n) (hv : (cs.drop j).take n = vs) :
    (Instr.loadAt t' (.pointer (some p))).run P w = .ok (.agg ⟨vs⟩) w := by
  subst hp
  refine run_loadAgg Ag.h hl fun m v hm => ?_
  rw [(h.blk he).cell]
  rw [← hv, List.getElem?_take] at hm
  split at hm
  · rwa [List.getElem?_drop] at hm
  · cases hm
theorem St.loadA (h : St w0 w G) (k i : Nat) {b : Nat} {t : TypeId} {cs : List Value} (he : Has G k i (.cel b t cs)) {t' : TypeId} {n : Nat} [Ag P t' n] {p : Addr} {j : Nat} (hp : p = ⟨b, j, none⟩) {kd : Kd} (x : kd.T) {vs : List Value} (hx : kd.val x = .agg ⟨vs⟩ := by rfl) (hl : vs.length = n := by rfl) (hv : (cs.drop j).take n = vs := by rfl) {K : kd.T → World → Prop} (hk : K x w) :
    RunN P kd (V (Instr.loadAt t' (.pointer (some p)))) w K := RunN.of (by rw [hx]; exact h.run_loadA he hp hl hv) hk
theorem St.readA (h : St w0 w G) (k i : Nat) {b : Nat} {t : TypeId} {cs : List Value} (he : Has G k i (.cel b t cs)) {t' : TypeId} {n : Nat} [Ag P t' n] {p : Addr} {j : Nat} (hp : p = ⟨b, j, none⟩) {kd : Kd} (x : kd.T) {vs : List Value} (hx : kd.val x = .agg ⟨vs⟩ := by rfl) (hl : vs.length = n := by rfl) (hv : (cs.drop j).take n = vs := by rfl) {K : kd.T → Prop} (hk : K x) :
    ReadN P kd (V (Instr.loadAt t' (.pointer (some p)))) w K := ReadN.of (by rw [hx]; exact h.run_loadA he hp hl hv) hk
theorem St.stillA (h : St w0 w G) (k i : Nat) {b : Nat} {t : TypeId} {cs : List Value} (he : Has G k i (.cel b t cs)) {t' : TypeId} {n : Nat} [Ag P t' n] {p : Addr} {j : Nat} (hp : p = ⟨b, j, none⟩) {vs : List Value} (hl : vs.length = n := by rfl) (hv : (cs.drop j).take n = vs := by rfl) :
    StillV P (V (Instr.loadAt t' (.pointer (some p)))) (.agg ⟨vs⟩) w := StillV.of (h.run_loadA he hp hl hv)
theorem St.storB (h : St w0 w G) (k i : Nat) {b : Nat} {t : TypeId} {cs : List Value} (he : Has G k i (.cel b t cs)) {t' : TypeId} [Sc P t'] {p : Addr} {j : Nat} (hp : p = ⟨b, j, none⟩) (hj : Nat.blt j cs.length = true) {v : Value} (hv : v.oneCell' = true) {K : World → Prop}
    (hk : ∀ w', St w0 w' (updG G k i [.cel b t (setO cs j v)]) → K w') : RunU P (U (Instr.storeAt t' (.pointer (some p)) v)) w K := by
  subst hp
  have hj' : j < cs.length := Nat.blt_eq ▸ hj
  refine RunU.storB Sc.h (h.blk he) hj' hv fun w' hb hu => hk w' (h.change1 he (hu.mono fun j _ hj => by subst hj; rfl) ⟨⟨(h.ent he).1.1, by rw [setO_set]; exact hb⟩, fun u hu => ?_⟩ fun j hj => .inl hj)
  simp only [Ent.vals, setO_set] at hu
  rcases List.mem_or_eq_of_mem_set hu with hu | rfl
  · exact h.one1 he u hu
  · exact hv
/-- A struct in the midst of a block. -/
theorem St.storA (h : St w0 w G) (k i : Nat) {b : Nat} {t : TypeId} {cs : List Value} (he : Has G k i (.cel b t cs)) {t' : TypeId} {n : Nat} [Ag P t' n] {p : Addr} {j : Nat} (hp : p = ⟨b, j, none⟩) {ds : List Value} (hl : ds.length = n := by rfl) (hj : Nat.ble (j + n) cs.length = true := by rfl) (h1 : ds.all Value.oneCell' = true := by rfl) {K : World → Prop}
    (hk : ∀ w', St w0 w' (updG G k i [.cel b t (cs.take j ++ ds ++ cs.drop (j + n))]) → K w') : RunU P (U (Instr.storeAt t' (.pointer (some p)) (.agg ⟨ds⟩))) w K := by
  subst hp
  have hj' : j + n ≤ cs.length := Nat.le_of_ble_eq_true hj
  have h1' : ∀ v ∈ ds, v.oneCell' = true := List.all_eq_true.1 h1
  have hst := Blk.store (P := P) (h.blk he) (o := j) (news := ds) (by omega) h1'
  refine RunU.of (run_storAgg Ag.h hl hst) (hk _ (h.change1 he (Upd.setRow _ _ _ rfl) ⟨⟨(h.ent he).1.1, by rw [← hl]; exact (h.blk he).row _⟩, fun u hu => ?_⟩ fun j hj => .inl hj))
  simp only [Ent.vals] at hu
  rcases List.mem_append.1 hu with hu | hu
  · rcases List.mem_append.1 hu with hu | hu
    · exact h.one1 he u (List.mem_of_mem_take hu)
    · exact h1' u hu
  · exact h.one1 he u (List.mem_of_mem_drop hu)
/-- A new variable. -/
theorem St.newB (h : St w0 w G) {s : Sem Value} {cs : List Value} {t : TypeId} (hr : s.run P w = .ok (.pointer (some ⟨w.heap.size, 0, none⟩)) (w.alloc (.cells ⟨cs⟩ t))) (h1 : cs.all Value.oneCell' = true) {K : Addr → World → Prop}
    (hk : ∀ b w', St w0 w' ([.cel b t cs] :: G) → K ⟨b, 0, none⟩ w') : RunN P .addr (V s) w K :=
  RunN.newB hr fun w' hb hu _ => hk _ w' (h.new hu ⟨⟨h.upd.size, hb⟩, List.all_eq_true.1 h1⟩ fun j hj => by simp [Ent.blk] at hj; omega)
theorem run_box {t : TypeId} {v : Value} {l : List Value} (hv : v.cells = ⟨l⟩) : (Instr.box t v).run P w = .ok (.pointer (some ⟨w.heap.size, 0, none⟩)) (w.alloc (.cells ⟨l⟩ t)) := by
  simp [Instr.box, newVar, hv]
  rfl
/-- A new row of literal values. -/
theorem St.newS (h : St w0 w G) {s : Sem Value} {cs : List Value} {t : TypeId} {n : Nat} (sz : Nat) (hr : s.run P w = .ok (.slice (some ⟨w.heap.size, 0, none⟩) n n) (w.alloc (.cells ⟨cs⟩ t))) (hn : Nat.ble n maxLen = true) (hl : cs.length = n * sz) (h1 : cs.all Value.oneCell' = true) {K : Sl → World → Prop}
    (hk : ∀ (s : Sl) w', s.len = n → s.cap = n → s.a ≠ none → St w0 w' ([.row t sz s cs] :: G) → K s w') : RunN P .sl (V s) w K :=
  RunN.newS hr h.upd.size (Nat.le_of_ble_eq_true hn) hl fun w' ho hu _ => hk _ w' rfl rfl (by simp) (h.new hu ⟨ho, List.all_eq_true.1 h1⟩ fun j hj => by simp [Ent.blk, Sl.blk] at hj; omega)

/-! ### rows -/
theorem Rd.addr {s : Sl} {sz : Nat} {vs : List Value} (h : Rd w s sz vs) (hs : 0 < sz) (hl : 0 < s.len) : ∃ b o, s.a = some ⟨b, o, none⟩ := by
  rcases h.2.1 with h0 | ⟨b, o, ha, _⟩
  · have := h.1; rw [h0] at this
    simp only [List.length_nil] at this
    have := Nat.mul_pos hl hs; omega
  · exact ⟨b, o, ha⟩
/-- The place of an element. -/
theorem Rd.run_idx {t e : TypeId} {sz by_ : Nat} [et : Et P t e sz by_] {s : Sl} {vs : List Value} (h : Rd w s sz vs) {kk : IntKind} {i : Int} {n : Nat} (hi : i = (n : Int)) (hn : n < s.len) :
    ∃ b o, s.a = some ⟨b, o, none⟩ ∧ (Instr.indexAt t (.slice s.a s.len s.cap) (.int kk i)).run P w = .ok (.pointer (some ⟨b, o + n * sz, none⟩)) w := by
  obtain ⟨b, o, ha⟩ := h.addr et.pos (by omega)
  have := Go.Fw.run_idx (P := P) (w := w) et.h ha (k := kk) (i := i) (by omega) (by omega)
  rw [hi, Int.toNat_natCast] at this
  rw [hi]; exact ⟨b, o, ha, this⟩
theorem Rd.idxK {t e : TypeId} {sz by_ : Nat} [et : Et P t e sz by_] {s : Sl} {vs : List Value} (h : Rd w s sz vs) {kk : IntKind} {i : Int} (n : Nat) (hi : i = (n : Int)) (hn : n < s.len) {K : Addr → World → Prop}
    (hk : ∀ b o, s.a = some ⟨b, o, none⟩ → K ⟨b, o + n * sz, none⟩ w) : RunN P .addr (V (Instr.indexAt t (.slice s.a s.len s.cap) (.int kk i))) w K := by
  obtain ⟨b, o, ha, hr⟩ := h.run_idx (P := P) (t := t) (kk := kk) hi hn
  exact RunN.of (kd := .addr) hr (hk b o ha)
theorem Rd.idxR {t e : TypeId} {sz by_ : Nat} [et : Et P t e sz by_] {s : Sl} {vs : List Value} (h : Rd w s sz vs) {kk : IntKind} {i : Int} (n : Nat) (hi : i = (n : Int)) (hn : n < s.len) {K : Addr → Prop}
    (hk : ∀ b o, s.a = some ⟨b, o, none⟩ → K ⟨b, o + n * sz, none⟩) : ReadN P .addr (V (Instr.indexAt t (.slice s.a s.len s.cap) (.int kk i))) w K := by
  obtain ⟨b, o, ha, hr⟩ := h.run_idx (P := P) (t := t) (kk := kk) hi hn
  exact ReadN.of (kd := .addr) hr (hk b o ha)
/-- A cell of a row. -/
theorem Rd.at {s : Sl} {sz : Nat} {vs : List Value} (h : Rd w s sz vs) {b o : Nat} (ha : s.a = some ⟨b, o, none⟩) {j : Nat} {v : Value} (hv : vs[j]? = some v) : w.cell? ⟨b, o + j, none⟩ = some v := by
  rcases h.2.1 with h0 | ⟨b', o', ha', hc⟩
  · subst h0; simp at hv
  · rw [ha] at ha'; cases ha'; exact hc j v hv
theorem Rd.run_el {t' : TypeId} [Sc P t'] {s : Sl} {sz : Nat} {vs : List Value} (h : Rd w s sz vs) {b o : Nat} (ha : s.a = some ⟨b, o, none⟩) {p : Addr} (j : Nat) (hp : p = ⟨b, o + j, none⟩) {v : Value} (hv : vs[j]? = some v) :
    (Instr.loadAt t' (.pointer (some p))).run P w = .ok v w := by
  subst hp; exact run_load Sc.h (h.at ha hv)
theorem Rd.el {t' : TypeId} [Sc P t'] {s : Sl} {sz : Nat} {vs : List Value} (h : Rd w s sz vs) {b o : Nat} (ha : s.a = some ⟨b, o, none⟩) {p : Addr} (j : Nat) (hp : p = ⟨b, o + j, none⟩) {kd : Kd} {x : kd.T} (hv : vs[j]? = some (kd.val x)) {K : kd.T → World → Prop} (hk : K x w) :
    RunN P kd (V (Instr.loadAt t' (.pointer (some p)))) w K := RunN.of (h.run_el ha j hp hv) hk
theorem Rd.elR {t' : TypeId} [Sc P t'] {s : Sl} {sz : Nat} {vs : List Value} (h : Rd w s sz vs) {b o : Nat} (ha : s.a = some ⟨b, o, none⟩) {p : Addr} (j : Nat) (hp : p = ⟨b, o + j, none⟩) {kd : Kd} {x : kd.T} (hv : vs[j]? = some (kd.val x)) {K : kd.T → Prop} (hk : K x) :
    ReadN P kd (V (Instr.loadAt t' (.pointer (some p)))) w K := ReadN.of (h.run_el ha j hp hv) hk
/-- A struct of a row. -/
theorem Rd.run_elA {t' : TypeId} {n : Nat} [Ag P t' n] {s : Sl} {sz : Nat} {vs : List Value} (h : Rd w s sz vs) {b o : Nat} (ha : s.a = some ⟨b, o, none⟩) {p : Addr} (j : Nat) (hp : p = ⟨b, o + j, none⟩) {ds : List Value} (hl : ds.length = n) (hv : (vs.drop j).take n = ds) :
    (Instr.loadAt t' (.pointer (some p))).run P w = .ok (.agg ⟨ds⟩) w := by
  subst hp
  refine run_loadAgg Ag.h hl fun m v hm => ?_
  rw [← hv, List.getElem?_take] at hm
  split at hm
  · rw [List.getElem?_drop] at hm
    rw [Nat.add_assoc]; exact h.at ha hm
  · cases hm
theorem Rd.elA {t' : TypeId} {n : Nat} [Ag P t' n] {s : Sl} {sz : Nat} {vs : List Value} (h : Rd w s sz vs) {b o : Nat} (ha : s.a = some ⟨b, o, none⟩) {p : Addr} (j : Nat) (hp : p = ⟨b, o + j, none⟩) {kd : Kd} (x : kd.T) {ds : List Value} (hv : (vs.drop j).take n = ds) {K : kd.T → World → Prop} (hk : K x w) (hx : kd.val x = .agg ⟨ds⟩ := by rfl) (hl : ds.length = n := by rfl) :
    RunN P kd (V (Instr.loadAt t' (.pointer (some p)))) w K := RunN.of (by rw [hx]; exact h.run_elA ha j hp hl hv) hk
theorem Rd.elAR {t' : TypeId} {n : Nat} [Ag P t' n] {s : Sl} {sz : Nat} {vs : List Value} (h : Rd w s sz vs) {b o : Nat} (ha : s.a = some ⟨b, o, none⟩) {p : Addr} (j : Nat) (hp : p = ⟨b, o + j, none⟩) {kd : Kd} (x : kd.T) {ds : List Value} (hv : (vs.drop j).take n = ds) {K : kd.T → Prop} (hk : K x) (hx : kd.val x = .agg ⟨ds⟩ := by rfl) (hl : ds.length = n := by rfl) :
    ReadN P kd (V (Instr.loadAt t' (.pointer (some p)))) w K := ReadN.of (by rw [hx]; exact h.run_elA ha j hp hl hv) hk
/-- A cell of an owned row is written. -/
theorem St.storR (h : St w0 w G) (k i : Nat) {E : TypeId} {sz : Nat} {s : Sl} {vs : List Value} (he : Has G k i (.row E sz s vs)) {b o : Nat} (ha : s.a = some ⟨b, o, none⟩) {t' : TypeId} [Sc P t'] {p : Addr} (j : Nat) (hp : p = ⟨b, o + j, none⟩) (hj : j < vs.length) {v : Value} (hv : v.oneCell' = true) {K : World → Prop}
    (hk : ∀ w', St w0 w' (updG G k i [.row E sz s (vs.set j v)]) → K w') : RunU P (U (Instr.storeAt t' (.pointer (some p)) v)) w K := by
  subst hp
  obtain ⟨g, o', ha', hb, hf, hc, hset⟩ := (h.ow he).place hj
  rw [ha] at ha'; cases ha'
  refine RunU.stor Sc.h hv hc hf (hk _ (h.change1 he (Upd.setCell _ _ _ hb) ⟨hset v, fun u hu => ?_⟩ fun j hj => .inl hj))
  rcases List.mem_or_eq_of_mem_set hu with hu | rfl
  · exact h.one1 he u hu
  · exact hv
/-- A struct of an owned row is written. -/
theorem St.storRA (h : St w0 w G) (k i : Nat) {E : TypeId} {sz : Nat} {s : Sl} {vs : List Value} (he : Has G k i (.row E sz s vs)) {b o : Nat} (ha : s.a = some ⟨b, o, none⟩) {t' : TypeId} {n : Nat} [Ag P t' n] {p : Addr} (j : Nat) (hp : p = ⟨b, o + j, none⟩) {ds : List Value} (hj : j + n ≤ vs.length) (hl : ds.length = n := by rfl) (hn : 0 < n := by decide) (h1 : ds.all Value.oneCell' = true := by rfl) {K : World → Prop}
    (hk : ∀ w', St w0 w' (updG G k i [.row E sz s (vs.take j ++ ds ++ vs.drop (j + n))]) → K w') : RunU P (U (Instr.storeAt t' (.pointer (some p)) (.agg ⟨ds⟩))) w K := by
  subst hp
  have h1' : ∀ v ∈ ds, v.oneCell' = true := List.all_eq_true.1 h1
  obtain ⟨g, o', ha', hb, w', hst, how, hup⟩ := (h.ow he).write (P := P) (i := j) (news := ds) (by omega) (by intro e; subst e; simp at hl; omega) h1'
  rw [ha] at ha'; cases ha'
  refine RunU.of (run_storAgg Ag.h hl hst) (hk _ (h.change1 he (hup.mono fun j _ hj => by subst hj; exact hb) ⟨by rw [← hl]; exact how, fun u hu => ?_⟩ fun j hj => .inl hj))
  simp only [Ent.vals] at hu
  rcases List.mem_append.1 hu with hu | hu
  · rcases List.mem_append.1 hu with hu | hu
    · exact h.one1 he u (List.mem_of_mem_take hu)
    · exact h1' u hu
  · exact h.one1 he u (List.mem_of_mem_drop hu)
/-- Append onto an owned row. -/
theorem St.app (h : St w0 w G) (k i : Nat) {e : TypeId} {sz by_ : Nat} {s : Sl} {xs : List Value} (he : Has G k i (.row e sz s xs)) {t tx ty : TypeId} [et : Et P t e sz by_] {ex : TypeId} [etx : Et P tx ex sz by_] {p : Sl} {news : List Value} (hr : Rd w p sz news) (h1 : ∀ v ∈ news, v.oneCell' = true)
    (h63 : s.len + p.len ≤ maxLen) (hfit : (s.len + p.len) * by_ ≤ 140737488355328) {K : Sl → World → Prop}
    (hk : ∀ (s' : Sl) w', s'.len = s.len + p.len → St w0 w' (updG G k i [.row e sz s' (xs ++ news)]) → K s' w') :
    RunN P .sl (V (Builtin.append_ #[t, tx] ty #[.slice s.a s.len s.cap, .slice p.a p.len p.cap])) w K := by
  refine RunN.appO et.h ⟨ex, etx.h⟩ et.pos (h.ow he) hr h1 h.upd.size h63 hfit fun s' w' hl ho hu hb => hk s' w' hl (h.change1 he hu ⟨ho, fun v hv => ?_⟩ fun j hj => ?_)
  · simp only [Ent.vals] at hv
    rcases List.mem_append.1 hv with hv | hv
    · exact h.one1 he v hv
    · exact h1 v hv
  · simp only [Ent.blk] at hj ⊢
    rcases hb with hb | ⟨g, hg, h2, h3⟩
    · rw [hb] at hj; exact .inl hj
    · rw [hg] at hj; cases hj; exact .inr h2
/-- A copy: append onto nil. -/
theorem St.appNil (h : St w0 w G) {e : TypeId} {sz by_ : Nat} {t tx ty : TypeId} [et : Et P t e sz by_] {ex : TypeId} [etx : Et P tx ex sz by_] {p : Sl} {news : List Value} (hr : Rd w p sz news) (h1 : ∀ v ∈ news, v.oneCell' = true)
    (h63 : p.len ≤ maxLen) (hfit : p.len * by_ ≤ 140737488355328) {K : Sl → World → Prop}
    (hk : ∀ (s' : Sl) w', s'.len = p.len → St w0 w' ([.row e sz s' news] :: G) → K s' w') :
    RunN P .sl (V (Builtin.append_ #[t, tx] ty #[.slice none 0 0, .slice p.a p.len p.cap])) w K :=
  (h.nilrow e sz).app 0 0 ⟨_, rfl, rfl⟩ hr h1 (by dsimp only; omega) (by dsimp only; rw [Nat.zero_add]; exact hfit) fun s' w' hl h => hk s' w' (by dsimp only at hl; omega) h
theorem St.make0 (h : St w0 w G) {t e : TypeId} {sz by_ : Nat} [et : Et P t e sz by_] {kc : IntKind} {c : Int} (h0 : 0 ≤ c) (hb : (by_ : Int) * c ≤ 281474976710656) (h63 : c ≤ 9223372036854775807) {K : Sl → World → Prop}
    (hk : ∀ (s' : Sl) w', s'.len = 0 → s'.cap = c.toNat → s'.a ≠ none → St w0 w' ([.row e sz s' []] :: G) → K s' w') :
    RunN P .sl (V (Instr.makeSlice t (.int .i64 0) (.int kc c))) w K :=
  RunN.make0 et.h h0 hb h63 h.upd.size fun s' w' hl hc ho hu hbk _ => hk s' w' hl hc (fun e => by simp [Sl.blk, e] at hbk) (h.new hu ⟨ho, fun v hv => by simp [Ent.vals] at hv⟩ fun j hj => by simp only [Ent.blk] at hj; rw [hbk] at hj; cases hj; exact Nat.le_refl _)
end
end Go.Fw
namespace Go.Fw
open Go Go.RowKit
class NewC (P : Program) (t : TypeId) (cs : outParam (List Value)) : Prop where
  run : ∀ w : World, (Instr.alloc t true (.tuple #[])).run P w = .ok (.pointer (some ⟨w.heap.size, 0, none⟩)) (w.alloc (.cells ⟨cs⟩ t))
theorem JoinX.mk {α : Type} {K : α → World → Prop} {F : (α → World → Prop) → Prop} (Q : α → World → Prop) (hK : ∀ x w, Q x w → K x w) (hF : ∀ k : α → World → Prop, (∀ x w, Q x w → k x w) → F k) : JoinX K F := hF K hK
theorem LoopX.mk {α : Type} {body : α → World → (α → World → Prop) → Prop} {s : α} {w : World} (I : α → World → Prop) (μ : α → Nat) (h0 : I s w) (h : ∀ s w, I s w → ∀ k : α → World → Prop, (∀ s' w', I s' w' → μ s' < μ s → k s' w') → body s w k) : LoopX body s w :=
  ⟨I, fun s _ => μ s, h0, fun s w hI => h s w hI _ fun s' w' h1 h2 => ⟨h1, h2⟩⟩
section
variable {P : Program} {w0 w w' : World} {G : Grps}
theorem St.ofOw {E : TypeId} {sz : Nat} {s : Sl} {vs : List Value} (hu : Upd w w' nobody) (ho : Ow w' w.heap.size E sz s vs) (h1 : ∀ v ∈ vs, v.oneCell' = true) : St w w' [[.row E sz s vs]] :=
  (St.init w).new hu ⟨ho, h1⟩ fun j hj => (ho.lt hj).1
/-- The first group becomes the end of the second. -/
theorem St.into {e : Ent} {g : List Ent} (h : St w0 w ([e] :: g :: G)) : St w0 w ((g ++ [e]) :: G) :=
  h.perm (by simp only [List.flatten_cons, List.append_assoc, List.cons_append, List.nil_append]; exact List.perm_middle.symm)
/-- One piece on its own. -/
theorem St.pull (h : St w0 w G) {k i : Nat} {e : Ent} (he : Has G k i e) : St w0 w ([e] :: updG G k i []) := by
  obtain ⟨A, h1, h2⟩ := updG_perm [] he
  refine h.perm (h1.trans ?_)
  rw [List.flatten_cons]
  exact (h2.symm.cons e)
theorem St.rest (h : St w0 w G) {k i : Nat} {e : Ent} (he : Has G k i e) : St w0 w (updG G k i []) := (h.pull he).drop 0
end
end Go.Fw
