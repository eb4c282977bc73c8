/- The link in memory: New, of the program and of the document; an end. -/
import Derived.Test.YtodgnpmljdopiaaLkH
namespace Go.Proofs.Ytodgnpmljdopiaa
open Go Go.Fw Go.RowKit
set_option linter.unusedVariables false
set_option linter.unusedSimpArgs false
set_option maxRecDepth 4000
set_option maxHeartbeats 2000000
variable {w0 w : World} {F G : Grps}

def newE (p0 p1 p2 p3 : Int) : Int := if p0 < 0 ∨ p0 ≥ 16 ∨ p1 < 0 ∨ p1 ≥ 16 ∨ p0 = p1 then 3 else if p2 < 1 ∨ p2 > 16 ∨ p3 < 1 ∨ p3 > 1000 then 1 else 0
/-- A new link. -/
def lk0 (p0 p1 p2 p3 : Int) : Lk := ⟨p0, p1, p2.toNat, p3, 0, 0, 1, false, false, 0, [], [], []⟩
theorem lk0_wf {p0 p1 p2 p3 : Int} (h : newE p0 p1 p2 p3 = 0) : (lk0 p0 p1 p2 p3).wf ∧ ((lk0 p0 p1 p2 p3).win : Int) = p2 := by
  rw [newE] at h
  split at h
  · cases h
  · split at h
    · cases h
    · refine ⟨⟨by dsimp only [lk0]; omega, by dsimp only [lk0]; omega, by dsimp only [lk0]; omega, by dsimp only [lk0]; omega, by simp [lk0], rfl, by simp [lk0], by simp [lk0], by simp [lk0], by simp [lk0], ?_, ?_, ?_, ?_, by simp [lk0]⟩, by dsimp only [lk0]; omega⟩
      · intro i hi; simp [lk0] at hi
      · intro p hp; simp [lk0] at hp
      · intro p hp; simp [lk0] at hp
      · intro p hp; simp [lk0] at hp
theorem mkch1 (w : World) : (Instr.makeChan 74 (.int .i64 ((1 : Nat) : Int))).run Try.prog w = .ok (.chan (some w.heap.size)) (w.alloc (.chan 1 #[] false 0 0 false)) := by kernel_rfl
theorem mkch2 (w : World) : (Instr.makeChan 74 (.int .i64 ((2 : Nat) : Int))).run Try.prog w = .ok (.chan (some w.heap.size)) (w.alloc (.chan 2 #[] false 0 0 false)) := by kernel_rfl
theorem mkch3 (w : World) : (Instr.makeChan 74 (.int .i64 ((3 : Nat) : Int))).run Try.prog w = .ok (.chan (some w.heap.size)) (w.alloc (.chan 3 #[] false 0 0 false)) := by kernel_rfl
theorem mkch4 (w : World) : (Instr.makeChan 74 (.int .i64 ((4 : Nat) : Int))).run Try.prog w = .ok (.chan (some w.heap.size)) (w.alloc (.chan 4 #[] false 0 0 false)) := by kernel_rfl
theorem mkch5 (w : World) : (Instr.makeChan 74 (.int .i64 ((5 : Nat) : Int))).run Try.prog w = .ok (.chan (some w.heap.size)) (w.alloc (.chan 5 #[] false 0 0 false)) := by kernel_rfl
theorem mkch6 (w : World) : (Instr.makeChan 74 (.int .i64 ((6 : Nat) : Int))).run Try.prog w = .ok (.chan (some w.heap.size)) (w.alloc (.chan 6 #[] false 0 0 false)) := by kernel_rfl
theorem mkch7 (w : World) : (Instr.makeChan 74 (.int .i64 ((7 : Nat) : Int))).run Try.prog w = .ok (.chan (some w.heap.size)) (w.alloc (.chan 7 #[] false 0 0 false)) := by kernel_rfl
theorem mkch8 (w : World) : (Instr.makeChan 74 (.int .i64 ((8 : Nat) : Int))).run Try.prog w = .ok (.chan (some w.heap.size)) (w.alloc (.chan 8 #[] false 0 0 false)) := by kernel_rfl
theorem mkch9 (w : World) : (Instr.makeChan 74 (.int .i64 ((9 : Nat) : Int))).run Try.prog w = .ok (.chan (some w.heap.size)) (w.alloc (.chan 9 #[] false 0 0 false)) := by kernel_rfl
theorem mkch10 (w : World) : (Instr.makeChan 74 (.int .i64 ((10 : Nat) : Int))).run Try.prog w = .ok (.chan (some w.heap.size)) (w.alloc (.chan 10 #[] false 0 0 false)) := by kernel_rfl
theorem mkch11 (w : World) : (Instr.makeChan 74 (.int .i64 ((11 : Nat) : Int))).run Try.prog w = .ok (.chan (some w.heap.size)) (w.alloc (.chan 11 #[] false 0 0 false)) := by kernel_rfl
theorem mkch12 (w : World) : (Instr.makeChan 74 (.int .i64 ((12 : Nat) : Int))).run Try.prog w = .ok (.chan (some w.heap.size)) (w.alloc (.chan 12 #[] false 0 0 false)) := by kernel_rfl
theorem mkch13 (w : World) : (Instr.makeChan 74 (.int .i64 ((13 : Nat) : Int))).run Try.prog w = .ok (.chan (some w.heap.size)) (w.alloc (.chan 13 #[] false 0 0 false)) := by kernel_rfl
theorem mkch14 (w : World) : (Instr.makeChan 74 (.int .i64 ((14 : Nat) : Int))).run Try.prog w = .ok (.chan (some w.heap.size)) (w.alloc (.chan 14 #[] false 0 0 false)) := by kernel_rfl
theorem mkch15 (w : World) : (Instr.makeChan 74 (.int .i64 ((15 : Nat) : Int))).run Try.prog w = .ok (.chan (some w.heap.size)) (w.alloc (.chan 15 #[] false 0 0 false)) := by kernel_rfl
theorem mkch16 (w : World) : (Instr.makeChan 74 (.int .i64 ((16 : Nat) : Int))).run Try.prog w = .ok (.chan (some w.heap.size)) (w.alloc (.chan 16 #[] false 0 0 false)) := by kernel_rfl
theorem mkch (w : World) (n : Nat) (hn : 1 ≤ n ∧ n ≤ 16) : (Instr.makeChan 74 (.int .i64 (n : Int))).run Try.prog w = .ok (.chan (some w.heap.size)) (w.alloc (.chan n #[] false 0 0 false)) := by
  have : n = 1 ∨ n = 2 ∨ n = 3 ∨ n = 4 ∨ n = 5 ∨ n = 6 ∨ n = 7 ∨ n = 8 ∨ n = 9 ∨ n = 10 ∨ n = 11 ∨ n = 12 ∨ n = 13 ∨ n = 14 ∨ n = 15 ∨ n = 16 := by omega
  rcases this with rfl | rfl | rfl | rfl | rfl | rfl | rfl | rfl | rfl | rfl | rfl | rfl | rfl | rfl | rfl | rfl
  · exact mkch1 w
  · exact mkch2 w
  · exact mkch3 w
  · exact mkch4 w
  · exact mkch5 w
  · exact mkch6 w
  · exact mkch7 w
  · exact mkch8 w
  · exact mkch9 w
  · exact mkch10 w
  · exact mkch11 w
  · exact mkch12 w
  · exact mkch13 w
  · exact mkch14 w
  · exact mkch15 w
  · exact mkch16 w
theorem mkchan (h : St w0 w F) {n : Nat} (hn : 1 ≤ n ∧ n ≤ 16) {K : Option Nat → World → Prop} (hk : ∀ ch w', St w0 w' ([.obj ch (.chan n ⟨[]⟩ false 0 0 false)] :: F) → K (some ch) w') : RunN Try.prog .chan (V (Instr.makeChan 74 (.int .i64 (n : Int)))) w K := by
  exact RunN.of (kd := .chan) (x := some w.heap.size) (w' := w.alloc (.chan n #[] false 0 0 false)) (mkch w n hn) (hk _ _ (h.newOb _))
def badN (p0 p1 : Int) : Prop := p0 < 0 ∨ p0 ≥ 16 ∨ p1 < 0 ∨ p1 ≥ 16 ∨ p0 = p1
def badA (p2 p3 : Int) : Prop := p2 < 1 ∨ p2 > 16 ∨ p3 < 1 ∨ p3 > 1000
instance (a b : Int) : Decidable (badN a b) := by unfold badN; exact inferInstance
instance (a b : Int) : Decidable (badA a b) := by unfold badA; exact inferInstance
theorem new_st (h : St w0 w F) (p0 p1 p2 p3 : Int) : CallK Try.prog (.tup (.cons .ptr (.cons (.int .i64) .nilT))) 22 #[.int .i64 p0, .int .i64 p1, .int .i64 p2, .int .i64 p3] w fun (r : Option Addr × Int × Unit) w' =>
    (newE p0 p1 p2 p3 ≠ 0 ∧ r = (none, newE p0 p1 p2 p3, ()) ∧ St w0 w' F) ∨
    (newE p0 p1 p2 p3 = 0 ∧ ∃ e : Lm, r = (e.p, 0, ()) ∧ e.toLk = lk0 p0 p1 p2 p3 ∧ St w0 w' (lmE e :: F)) := by
  refine T22.calls ?_
  unfold T22
  refine JoinX.mk (fun (y : Bool × Unit) w' => y.1 = decide (badN p0 p1) ∧ St w0 w' F) ?_ ?_
  · rintro ⟨y, ⟨⟩⟩ w2 ⟨hy, h⟩
    dsimp only at hy
    subst hy
    rw [SplitB_iff]
    refine ⟨fun h1 => ?_, fun h1 => ?_⟩
    · have h1 := of_decide_eq_true h1
      have e : newE p0 p1 p2 p3 = 3 := if_pos h1
      exact .inl ⟨by rw [e]; decide, by rw [e], h⟩
    have h1 := of_decide_eq_false h1
    refine JoinX.mk (fun (y : Bool × Unit) w' => y.1 = decide (badA p2 p3) ∧ St w0 w' F) ?_ ?_
    · rintro ⟨y, ⟨⟩⟩ w3 ⟨hy, h⟩
      dsimp only at hy
      subst hy
      rw [SplitB_iff]
      refine ⟨fun h2 => ?_, fun h2 => ?_⟩
      · have h2 := of_decide_eq_true h2
        have e : newE p0 p1 p2 p3 = 1 := (if_neg h1).trans (if_pos h2)
        exact .inl ⟨by rw [e]; decide, by rw [e], h⟩
      have h2 := of_decide_eq_false h2
      have e : newE p0 p1 p2 p3 = 0 := (if_neg h1).trans (if_neg h2)
      simp only [badA, not_or] at h2
      obtain ⟨n, rfl⟩ := Int.eq_ofNat_of_zero_le (show 0 ≤ p2 by omega)
      refine mkchan h (by omega) ?_
      intro ch w4 h
      refine h.newMap1 ?_
      intro mb w5 h
      refine h.newB run_boxA rfl ?_
      intro cb w6 h
      have h := h.nilrow 81 2
      refine .inr ⟨e, ⟨lk0 p0 p1 n p3, cb, ch, 0, 0, mb, 0, ⟨none, 0, 0⟩⟩, rfl, rfl, ?_⟩
      have h := h.ord 4 [1, 3, 2, 0]
      dsimp only [pick, nthO, dropO] at h
      exact h.perm (by simp [lmE, lmC, lk0])
    · intro k hk
      rw [SplitB_iff]
      refine ⟨fun g1 => ?_, fun g1 => ?_⟩
      · exact hk _ _ ⟨by have g1 := of_decide_eq_true g1; simp [badA, g1], h⟩
      rw [SplitB_iff]
      refine ⟨fun g2 => ?_, fun g2 => ?_⟩
      · exact hk _ _ ⟨by have g2 := of_decide_eq_true g2; simp [badA, g2], h⟩
      rw [SplitB_iff]
      refine ⟨fun g3 => ?_, fun g3 => ?_⟩
      · exact hk _ _ ⟨by have g3 := of_decide_eq_true g3; simp [badA, g3], h⟩
      · exact hk _ _ ⟨by have g1 := of_decide_eq_false g1; have g2 := of_decide_eq_false g2; have g3 := of_decide_eq_false g3; simp [badA, g1, g2, g3], h⟩
  · intro k hk
    rw [SplitB_iff]
    refine ⟨fun g1 => ?_, fun g1 => ?_⟩
    · exact hk _ _ ⟨by have g1 := of_decide_eq_true g1; simp [badN, g1], h⟩
    rw [SplitB_iff]
    refine ⟨fun g2 => ?_, fun g2 => ?_⟩
    · exact hk _ _ ⟨by have g2 := of_decide_eq_true g2; simp [badN, g2], h⟩
    rw [SplitB_iff]
    refine ⟨fun g3 => ?_, fun g3 => ?_⟩
    · exact hk _ _ ⟨by have g3 := of_decide_eq_true g3; simp [badN, g3], h⟩
    rw [SplitB_iff]
    refine ⟨fun g4 => ?_, fun g4 => ?_⟩
    · exact hk _ _ ⟨by have g4 := of_decide_eq_true g4; simp [badN, g4], h⟩
    · exact hk _ _ ⟨by have g1 := of_decide_eq_false g1; have g2 := of_decide_eq_false g2; have g3 := of_decide_eq_false g3; have g4 := of_decide_eq_false g4; simp [badN, g1, g2, g3, g4]; rfl, h⟩
def rl0 (p0 p1 p2 p3 : Int) : List Value := [.int .i64 p0, .int .i64 p1, .int .i64 p2, .int .i64 p3, .slice none 0 0, .int .i64 0, .int .i64 0, .slice none 0 0, .int .i64 1, .bool false, .bool false, .int .i64 0]
theorem rnew_st (h : St w0 w F) (p0 p1 p2 p3 : Int) : CallK Try.prog (.tup (.cons .ptr (.cons (.int .i64) .nilT))) 27 #[.int .i64 p0, .int .i64 p1, .int .i64 p2, .int .i64 p3] w fun (r : Option Addr × Int × Unit) w' =>
    (newE p0 p1 p2 p3 ≠ 0 ∧ r = (none, newE p0 p1 p2 p3, ()) ∧ St w0 w' F) ∨
    (newE p0 p1 p2 p3 = 0 ∧ ∃ rb, r = (some ⟨rb, 0, none⟩, 0, ()) ∧ St w0 w' ([.cel rb 95 (rl0 p0 p1 p2 p3)] :: F)) := by
  refine T27.calls ?_
  unfold T27
  refine JoinX.mk (fun (y : Bool × Unit) w' => y.1 = decide (badN p0 p1) ∧ St w0 w' F) ?_ ?_
  · rintro ⟨y, ⟨⟩⟩ w2 ⟨hy, h⟩
    dsimp only at hy
    subst hy
    rw [SplitB_iff]
    refine ⟨fun h1 => ?_, fun h1 => ?_⟩
    · have h1 := of_decide_eq_true h1
      have e : newE p0 p1 p2 p3 = 3 := if_pos h1
      exact .inl ⟨by rw [e]; decide, by rw [e], h⟩
    have h1 := of_decide_eq_false h1
    refine JoinX.mk (fun (y : Bool × Unit) w' => y.1 = decide (badA p2 p3) ∧ St w0 w' F) ?_ ?_
    · rintro ⟨y, ⟨⟩⟩ w3 ⟨hy, h⟩
      dsimp only at hy
      subst hy
      rw [SplitB_iff]
      refine ⟨fun h2 => ?_, fun h2 => ?_⟩
      · have h2 := of_decide_eq_true h2
        have e : newE p0 p1 p2 p3 = 1 := (if_neg h1).trans (if_pos h2)
        exact .inl ⟨by rw [e]; decide, by rw [e], h⟩
      have h2 := of_decide_eq_false h2
      have e : newE p0 p1 p2 p3 = 0 := (if_neg h1).trans (if_neg h2)
      refine h.newB run_boxA rfl ?_
      intro rb w6 h
      exact .inr ⟨e, rb, rfl, h⟩
    · intro k hk
      rw [SplitB_iff]
      refine ⟨fun g1 => ?_, fun g1 => ?_⟩
      · exact hk _ _ ⟨by have g1 := of_decide_eq_true g1; simp [badA, g1], h⟩
      rw [SplitB_iff]
      refine ⟨fun g2 => ?_, fun g2 => ?_⟩
      · exact hk _ _ ⟨by have g2 := of_decide_eq_true g2; simp [badA, g2], h⟩
      rw [SplitB_iff]
      refine ⟨fun g3 => ?_, fun g3 => ?_⟩
      · exact hk _ _ ⟨by have g3 := of_decide_eq_true g3; simp [badA, g3], h⟩
      · exact hk _ _ ⟨by have g1 := of_decide_eq_false g1; have g2 := of_decide_eq_false g2; have g3 := of_decide_eq_false g3; simp [badA, g1, g2, g3], h⟩
  · intro k hk
    rw [SplitB_iff]
    refine ⟨fun g1 => ?_, fun g1 => ?_⟩
    · exact hk _ _ ⟨by have g1 := of_decide_eq_true g1; simp [badN, g1], h⟩
    rw [SplitB_iff]
    refine ⟨fun g2 => ?_, fun g2 => ?_⟩
    · exact hk _ _ ⟨by have g2 := of_decide_eq_true g2; simp [badN, g2], h⟩
    rw [SplitB_iff]
    refine ⟨fun g3 => ?_, fun g3 => ?_⟩
    · exact hk _ _ ⟨by have g3 := of_decide_eq_true g3; simp [badN, g3], h⟩
    rw [SplitB_iff]
    refine ⟨fun g4 => ?_, fun g4 => ?_⟩
    · exact hk _ _ ⟨by have g4 := of_decide_eq_true g4; simp [badN, g4], h⟩
    · exact hk _ _ ⟨by have g1 := of_decide_eq_false g1; have g2 := of_decide_eq_false g2; have g3 := of_decide_eq_false g3; have g4 := of_decide_eq_false g4; simp [badN, g1, g2, g3, g4]; rfl, h⟩
/-- An end: where its parts are. -/
def endC (xb : Nat) (e : Lm) (rb sb bb : Nat) : Ent := .cel xb 31 [.pointer e.p, .pointer (some ⟨rb, 0, none⟩), .pointer (some ⟨sb, 0, none⟩), .pointer (some ⟨bb, 0, none⟩)]
theorem made_st (h : St w0 w F) (p0 p1 p2 p3 : Int) : CallK Try.prog (.tup (.cons .ptr (.cons .bool .nilT))) 10 #[.int .i64 p0, .int .i64 p1, .int .i64 p2, .int .i64 p3] w fun (r : Option Addr × Bool × Unit) w' =>
    (newE p0 p1 p2 p3 ≠ 0 ∧ r = (none, true, ()) ∧ St w0 w' F) ∨
    (newE p0 p1 p2 p3 = 0 ∧ ∃ (xb rb sb bb : Nat) (e : Lm), r = (some ⟨xb, 0, none⟩, true, ()) ∧ e.toLk = lk0 p0 p1 p2 p3 ∧
      St w0 w' (lmE e :: [endC xb e rb sb bb] :: [.cel rb 95 (rl0 p0 p1 p2 p3)] :: [.cel sb 70 [.slice none 0 0, .int .i64 0]] :: [.cel bb 73 [.slice none 0 0, .int .i64 0]] :: F)) := by
  refine T10.calls ?_
  unfold T10
  refine (new_st h p0 p1 p2 p3).mono ?_
  rintro r1 w1 (⟨hn, rfl, h⟩ | ⟨hn, e, rfl, he, h⟩)
  · refine (rnew_st h p0 p1 p2 p3).mono ?_
    rintro r2 w2 (⟨_, rfl, h⟩ | ⟨hn', _⟩)
    rotate_left
    · exact absurd hn' hn
    refine JoinX.mk (fun (y : Bool × Unit) w' => y.1 = false ∧ St w0 w' F) ?_ ?_
    · rintro ⟨y, ⟨⟩⟩ w3 ⟨hy, h⟩
      dsimp only at hy
      subst hy
      rw [SplitB_iff]
      refine ⟨fun hf => (by cases hf), fun _ => ?_⟩
      refine JoinX.mk (fun (y : Bool × Unit) w' => y.1 = true ∧ St w0 w' F) ?_ ?_
      · rintro ⟨y, ⟨⟩⟩ w3 ⟨hy, h⟩
        dsimp only at hy
        subst hy
        rw [SplitB_iff]
        refine ⟨fun _ => ?_, fun hf => (by cases hf)⟩
        exact .inl ⟨hn, rfl, h⟩
      · intro k hk
        refine RunN.pEqN ?_
        rw [SplitB_iff]
        refine ⟨fun _ => ?_, fun hf => (by cases hf)⟩
        exact hk _ _ ⟨rfl, h⟩
    · intro k hk
      rw [SplitB_iff]
      refine ⟨fun hf => ?_, fun _ => ?_⟩
      · simp at hf
      refine RunN.pEqN ?_
      refine RunN.pEqN ?_
      exact hk _ _ ⟨rfl, h⟩
  · refine (rnew_st h p0 p1 p2 p3).mono ?_
    rintro r2 w2 (⟨hn', _⟩ | ⟨_, rb, rfl, h⟩)
    · exact absurd hn hn'
    refine JoinX.mk (fun (y : Bool × Unit) w' => y.1 = false ∧ St w0 w' ([.cel rb 95 (rl0 p0 p1 p2 p3)] :: lmE e :: F)) ?_ ?_
    · rintro ⟨y, ⟨⟩⟩ w3 ⟨hy, h⟩
      dsimp only at hy
      subst hy
      rw [SplitB_iff]
      refine ⟨fun hf => (by cases hf), fun _ => ?_⟩
      refine JoinX.mk (fun (y : Bool × Unit) w' => y.1 = false ∧ St w0 w' ([.cel rb 95 (rl0 p0 p1 p2 p3)] :: lmE e :: F)) ?_ ?_
      · rintro ⟨y, ⟨⟩⟩ w3 ⟨hy, h⟩
        dsimp only at hy
        subst hy
        rw [SplitB_iff]
        refine ⟨fun hf => (by cases hf), fun _ => ?_⟩
        refine h.newB run_boxA rfl ?_
        intro sb w4 h
        refine h.newB run_boxA rfl ?_
        intro bb w5 h
        refine h.newB run_boxA rfl ?_
        intro xb w6 h
        have h := h.ord 5 [4, 0, 3, 2, 1]
        dsimp only [pick, nthO, dropO] at h
        exact .inr ⟨hn, xb, rb, sb, bb, e, rfl, he, h⟩
      · intro k hk
        refine RunN.pEqS ?_
        rw [SplitB_iff]
        refine ⟨fun hf => (by cases hf), fun _ => ?_⟩
        refine RunN.pEqS ?_
        exact hk _ _ ⟨rfl, h⟩
    · intro k hk
      rw [SplitB_iff]
      refine ⟨fun hf => ?_, fun _ => ?_⟩
      · simp at hf
      refine RunN.pEqS ?_
      refine RunN.pEqS ?_
      exact hk _ _ ⟨rfl, h⟩
end Go.Proofs.Ytodgnpmljdopiaa
