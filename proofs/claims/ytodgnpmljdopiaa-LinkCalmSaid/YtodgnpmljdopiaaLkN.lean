/- The link's laws: what is lent; numbers brought into range. -/
import Derived.Test.YtodgnpmljdopiaaLkM
import Derived.Test.YtodgnpmljdopiaaTLs
namespace Go.Proofs.Ytodgnpmljdopiaa
open Go Go.Fw Go.RowKit
set_option linter.unusedVariables false
set_option linter.unusedSimpArgs false
set_option maxRecDepth 4000
set_option maxHeartbeats 4000000
variable {w0 w : World} {F G : Grps}

def wi (x lo hi : Int) : Int := lo + Int.tmod (if x < 0 then -(x + 1) else x) (hi - lo + 1)
theorem wi_in {x lo hi : Int} (h : lo ≤ hi) : lo ≤ wi x lo hi ∧ wi x lo hi ≤ hi := by
  have h0 : 0 ≤ (if x < 0 then -(x + 1) else x) := by split <;> omega
  have h1 : Int.tmod (if x < 0 then -(x + 1) else x) (hi - lo + 1) < hi - lo + 1 := Int.tmod_lt_of_pos _ (by omega)
  have h2 : 0 ≤ Int.tmod (if x < 0 then -(x + 1) else x) (hi - lo + 1) := Int.tmod_nonneg _ h0
  rw [wi]; omega
theorem within_st (h : St w0 w F) {x lo hi : Int} (h0 : 0 ≤ lo) (h1 : lo ≤ hi) (hn : hi ≤ 1048576) (hx : -9223372036854775808 ≤ x ∧ x ≤ 9223372036854775807) : CallK Try.prog (.int .i64) 17 #[.int .i64 x, .int .i64 lo, .int .i64 hi] w fun (r : Int) w' => r = wi x lo hi ∧ St w0 w' F := by
  refine T17.calls ?_
  unfold T17
  have hne : hi - lo + 1 ≠ 0 := by omega
  have hin := wi_in (x := x) h1
  refine JoinX.mk (fun (jv : Int × Unit) w' => jv.1 = (if x < 0 then -(x + 1) else x) ∧ St w0 w' F) ?_ ?_
  · rintro ⟨v, ⟨⟩⟩ w ⟨hj, h⟩
    dsimp only at hj ⊢
    subst hj
    rw [wr (x := hi - lo) (by omega), wr (x := hi - lo + 1) (by omega)]
    refine RunN.of (kd := .int .i64) (x := Int.tmod (if x < 0 then -(x + 1) else x) (hi - lo + 1)) (w' := w) (by simp [binOp, Op.intDiv, hne, Kd.val]) ?_
    refine ⟨?_, h⟩
    rw [wr (by rw [wi] at hin; omega)]; rfl
  · intro k hk
    rw [SplitB_iff]
    refine ⟨fun hz => ?_, fun hz => ?_⟩
    · have hz : x < 0 := of_decide_eq_true hz
      rw [wr (x := x + 1) (by omega), wr (x := 0 - (x + 1)) (by omega)]
      exact hk _ _ ⟨by dsimp only; rw [if_pos hz]; omega, h⟩
    · have hz : ¬ x < 0 := of_decide_eq_false hz
      exact hk _ _ ⟨by dsimp only; rw [if_neg hz], h⟩
def mks : List UInt8 := [0xA7, 0xB6, 0xC5]
theorem lend_st (h : St w0 w F) {p : Sl} {l : List UInt8} (hp : SeesG w0 F p 1 (bys l)) (hl : l.length ≤ 140737488351232) : CallK Try.prog .sl 24 #[.slice p.a p.len p.cap] w fun (s : Sl) w' => s.len = l.length + 3 ∧ St w0 w' ([brow (s, l ++ mks)] :: F) := by
  have hpl := (hp w h).bys_len
  refine T24.calls ?_
  unfold T24
  have h := h.nilrow 5 1
  refine LoopX.mk (fun st w' => ∃ (s : Sl) (m : Nat), st = (s, (m : Int), ()) ∧ m ≤ l.length ∧ s.len = m ∧ St w0 w' ([brow (s, l.take m)] :: F)) (fun st => l.length - st.2.1.toNat) ⟨_, 0, rfl, Nat.zero_le _, rfl, h⟩ ?_
  clear h
  rintro _ w1 ⟨s, m, rfl, hm, hs, h⟩ k hk
  dsimp only at hk ⊢
  rw [hpl]
  rw [SplitB_iff]
  refine ⟨fun hc => ?_, fun hc => ?_⟩
  · have hc : m < l.length := by have : (m : Int) < (l.length : Int) := of_decide_eq_true hc
                                 omega
    have hem : IntKind.i64.wrap ((m : Int) + 1) = ((m + 1 : Nat) : Int) := by rw [wr (by omega)]; omega
    rw [hem, ← hpl]
    have hr := hp _ (h.drop 0)
    refine hr.idxK m rfl (by omega) ?_
    intro b o ha
    refine hr.el ha (m * 1) rfl (kd := .int .u8) (x := (l[m].toNat : Int)) (by rw [Nat.mul_one]; exact bys_get hc) ?_
    refine h.newS 1 (bs45 _ _) rfl rfl rfl ?_
    intro u w2 hu1 hu2 _ h
    refine h.app 1 0 ⟨_, rfl, rfl⟩ (h.rd (k := 0) (i := 0) ⟨_, rfl, rfl⟩) (fun v hv => by simp at hv; subst hv; rfl) (by dsimp only [maxLen]; omega) (by dsimp only; omega) ?_
    intro s' w3 hl3 h
    dsimp only at hl3
    have h := h.drop 0
    dsimp only [delO, updG, setO] at h
    refine hk _ _ ⟨s', m + 1, rfl, by omega, by omega, ?_⟩ (by dsimp only; omega)
    have e1 : bys (l.take (m + 1)) = bys (l.take m) ++ [.int .u8 (l[m].toNat : Int)] := by
      rw [List.take_succ_eq_append_getElem hc, bys_append]; rfl
    rw [brow, e1]
    exact h
  · have hc : m = l.length := by have : ¬ (m : Int) < (l.length : Int) := of_decide_eq_false hc
                                 omega
    subst hc
    rw [List.take_length] at h
    refine h.newS 1 (bs45m _ _ _ _) rfl rfl rfl ?_
    intro u w2 hu1 hu2 _ h
    refine h.app 1 0 ⟨_, rfl, rfl⟩ (h.rd (k := 0) (i := 0) ⟨_, rfl, rfl⟩) (fun v hv => by simp at hv; rcases hv with rfl | rfl | rfl <;> rfl) (by dsimp only [maxLen]; omega) (by dsimp only; omega) ?_
    intro s' w3 hl3 h
    dsimp only at hl3
    have h := h.drop 0
    dsimp only [delO, updG, setO] at h
    refine ⟨by omega, ?_⟩
    rw [brow, bys_append]
    exact h
/-- The beginning of what was lent, without the marks. -/
theorem lent_sees {s : Sl} {l : List UInt8} (hs : s.len = l.length + 3) : SeesG w0 ([brow (s, l ++ mks)] :: F) (subS s 0 l.length 1) 1 (bys l) := fun w h => by
  have hr := h.rd (k := 0) (i := 0) (E := 5) (sz := 1) (s := s) (vs := bys (l ++ mks)) ⟨_, rfl, rfl⟩
  have h1 := hr.pre (hi := l.length) (by omega)
  have e : (bys (l ++ mks)).take (l.length * 1) = bys l := by
    rw [bys_take, List.take_left']; rfl
  rwa [e] at h1
end Go.Proofs.Ytodgnpmljdopiaa
