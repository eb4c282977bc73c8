/- The cache: the library's searches. -/
import Derived.Test.YtbdhmeefjlkdcaaCkA
namespace Go.Proofs.Ytbdhmeefjlkdcaa
open Go Go.Fw Go.RowKit
set_option linter.unusedVariables false
set_option linter.unusedSimpArgs false
set_option maxRecDepth 4000
set_option maxHeartbeats 2000000
variable {w0 w : World} {F G : Grps}

/-- Where a number has its place in a list in order. -/
def LB (l : List Int) (x : Int) (i : Nat) : Prop := i ≤ l.length ∧ (∀ j (h : j < l.length), j < i → l[j] < x) ∧ ∀ j (h : j < l.length), i ≤ j → x ≤ l[j]
theorem LB.mem {l : List Int} {x : Int} {i : Nat} (h : LB l x i) (hs : l.Pairwise (· < ·)) : x ∈ l ↔ ∃ h : i < l.length, l[i] = x := by
  constructor
  · intro hx
    obtain ⟨j, hj, rfl⟩ := List.mem_iff_getElem.1 hx
    have h1 : i ≤ j := by
      rcases Nat.lt_or_ge j i with h' | h'
      · have := h.2.1 j hj h'; omega
      · exact h'
    rcases Nat.lt_or_ge i j with h2 | h2
    · have h3 := List.pairwise_iff_getElem.1 hs i j (by omega) hj h2
      have := h.2.2 i (by omega) (Nat.le_refl _)
      omega
    · have : i = j := by omega
      subst this; exact ⟨hj, rfl⟩
  · rintro ⟨h', rfl⟩; exact List.getElem_mem h'
theorem nan_ok (x : Int) : CallK Try.prog .bool 44 #[.int .i64 x] w fun (r : Bool) w' => w' = w ∧ r = false := by
  refine T44.calls ?_
  unfold T44
  exact ⟨rfl, by simp⟩
theorem nan2_ok (x : Int) : CallK Try.prog .bool 35 #[.int .i64 x] w fun (r : Bool) w' => w' = w ∧ r = false := by
  refine T35.calls ?_
  unfold T35
  exact ⟨rfl, by simp⟩
theorem less_ok (x y : Int) : CallK Try.prog .bool 34 #[.int .i64 x, .int .i64 y] w fun (r : Bool) w' => w' = w ∧ r = decide (x < y) := by
  refine T34.calls ?_
  unfold T34
  refine (nan_ok x).mono ?_
  rintro r w' ⟨rfl, rfl⟩
  rw [SplitB_iff]
  exact ⟨fun h => (by cases h), fun _ => ⟨rfl, rfl⟩⟩
theorem cmp_ok (x y : Int) : CallK Try.prog (.int .i64) 39 #[.int .i64 x, .int .i64 y] w fun (r : Int) w' => w' = w ∧ r = if x < y then -1 else if x > y then 1 else 0 := by
  refine T39.calls ?_
  unfold T39
  refine (nan_ok x).mono ?_
  rintro r w' ⟨rfl, rfl⟩
  refine (nan_ok y).mono ?_
  rintro r w' ⟨rfl, rfl⟩
  rw [SplitB_iff]
  refine ⟨fun h => (by cases h), fun _ => ?_⟩
  rw [SplitB_iff]
  refine ⟨fun h => (by cases h), fun _ => ?_⟩
  rw [SplitB_iff]
  refine ⟨fun hc => ?_, fun hc => ?_⟩
  · have hc := of_decide_eq_true hc
    exact ⟨rfl, by rw [if_pos hc]⟩
  · have hc := of_decide_eq_false hc
    rw [SplitB_iff]
    refine ⟨fun hd => ?_, fun hd => ?_⟩
    · have hd := of_decide_eq_true hd
      exact ⟨rfl, by rw [if_neg hc, if_pos hd]⟩
    · have hd := of_decide_eq_false hd
      exact ⟨rfl, by rw [if_neg hc, if_neg hd]⟩
theorem mid_eq {a b : Nat} (h : a + b ≤ 2097152000) : IntKind.i64.wrap (Int.fdiv (IntKind.u64.wrap (IntKind.i64.wrap ((a : Int) + (b : Int)))) (2 ^ 1)) = (((a + b) / 2 : Nat) : Int) := by
  have h1 : IntKind.i64.wrap ((a : Int) + (b : Int)) = ((a + b : Nat) : Int) := by rw [wr (by omega)]; omega
  have h2 : IntKind.u64.wrap ((a + b : Nat) : Int) = ((a + b : Nat) : Int) := by simp [IntKind.wrap, IntKind.bits, IntKind.signed]; omega
  rw [h1, h2]
  have h3 : Int.fdiv ((a + b : Nat) : Int) (2 ^ 1) = (((a + b) / 2 : Nat) : Int) := by
    rw [Int.fdiv_eq_ediv_of_nonneg _ (by decide)]; omega
  rw [h3, wr (by omega)]
theorem bs_ok {s : Sl} {l : List Int} (hr : Rd w s 1 (lin l)) (hs : l.Pairwise (· < ·)) (hl : l.length ≤ 1048576000) (x : Int) : CallK Try.prog (.tup (.cons (.int .i64) (.cons .bool .nilT))) 24 #[.slice s.a s.len s.cap, .int .i64 x] w fun (r : Int × Bool × Unit) w' => w' = w ∧ ∃ i, LB l x i ∧ r = ((i : Int), decide (x ∈ l), ()) := by
  have hlen : s.len = l.length := by have := hr.1; rw [lin_len] at this; omega
  refine T24.calls ?_
  unfold T24
  refine LoopX.mk (fun st w' => w' = w ∧ ∃ a b : Nat, st = ((a : Int), (b : Int), ()) ∧ a ≤ b ∧ b ≤ l.length ∧ (∀ j (h : j < l.length), j < a → l[j] < x) ∧ (∀ j (h : j < l.length), b ≤ j → x ≤ l[j])) (fun st => (st.2.1 - st.1).toNat) ⟨rfl, 0, s.len, rfl, by omega, by omega, fun j _ h => by omega, fun j h h' => by omega⟩ ?_
  rintro _ w' ⟨rfl, a, b, rfl, hab, hb, h1, h2⟩ k hk
  dsimp only at hk ⊢
  rw [SplitB_iff]
  refine ⟨fun hc => ?_, fun hc => ?_⟩
  · have hc : a < b := by have := of_decide_eq_true hc; omega
    rw [mid_eq (by omega)]
    have hm : (a + b) / 2 < l.length := by omega
    refine hr.idxK ((a + b) / 2) rfl (by omega) ?_
    intro g o ha
    refine hr.el ha ((a + b) / 2) (by rw [Nat.mul_one]) (kd := .int .i64) (x := (l[(a + b) / 2] : Int)) (lin_at hm) ?_
    refine (less_ok _ _).mono ?_
    rintro r w' ⟨rfl, rfl⟩
    rw [SplitB_iff]
    refine ⟨fun hd => ?_, fun hd => ?_⟩
    · have hd : l[(a + b) / 2] < x := of_decide_eq_true hd
      have e : IntKind.i64.wrap ((((a + b) / 2 : Nat) : Int) + 1) = (((a + b) / 2 + 1 : Nat) : Int) := by rw [wr (by omega)]; omega
      rw [e]
      refine hk _ _ ⟨rfl, (a + b) / 2 + 1, b, rfl, by omega, hb, fun j hj hj2 => ?_, h2⟩ (by dsimp only; omega)
      rcases Nat.lt_or_ge j ((a + b) / 2) with h3 | h3
      · have := List.pairwise_iff_getElem.1 hs j ((a + b) / 2) hj hm h3; omega
      · have : j = (a + b) / 2 := by omega
        subst this; exact hd
    · have hd : ¬ l[(a + b) / 2] < x := of_decide_eq_false hd
      refine hk _ _ ⟨rfl, a, (a + b) / 2, rfl, by omega, by omega, h1, fun j hj hj2 => ?_⟩ (by dsimp only; omega)
      rcases Nat.lt_or_ge ((a + b) / 2) j with h3 | h3
      · have := List.pairwise_iff_getElem.1 hs ((a + b) / 2) j hm hj h3; omega
      · have : j = (a + b) / 2 := by omega
        subst this; omega
  · have hc : a = b := by have := of_decide_eq_false hc; omega
    subst hc
    have hLB : LB l x a := ⟨hb, h1, h2⟩
    have hmem := hLB.mem hs
    rw [SplitB_iff]
    refine ⟨fun hd => ?_, fun hd => ?_⟩
    · have hd : a < l.length := by have := of_decide_eq_true hd; omega
      refine hr.idxK a rfl (by omega) ?_
      intro g o ha
      refine hr.el ha a (by rw [Nat.mul_one]) (kd := .int .i64) (x := (l[a] : Int)) (lin_at hd) ?_
      rw [SplitB_iff]
      refine ⟨fun he => ?_, fun he => ?_⟩
      · have he : l[a] = x := by simpa using he
        refine ⟨rfl, a, hLB, ?_⟩
        have : x ∈ l := hmem.2 ⟨hd, he⟩
        simp [this]
      · have he : ¬ l[a] = x := by simpa using he
        refine hr.idxK a rfl (by omega) ?_
        intro g o ha
        refine hr.el ha a (by rw [Nat.mul_one]) (kd := .int .i64) (x := (l[a] : Int)) (lin_at hd) ?_
        refine (nan2_ok _).mono ?_
        rintro r w' ⟨rfl, rfl⟩
        rw [SplitB_iff]
        refine ⟨fun h => (by cases h), fun _ => ⟨rfl, a, hLB, ?_⟩⟩
        have : ¬ x ∈ l := fun h => he (hmem.1 h).2
        simp [this]
    · have hd : ¬ a < l.length := by have := of_decide_eq_false hd; omega
      refine ⟨rfl, a, hLB, ?_⟩
      have : ¬ x ∈ l := fun h => hd (hmem.1 h).1
      simp [this]
theorem index_ok {s : Sl} {l : List Int} (hr : Rd w s 1 (lin l)) (hl : l.length ≤ 1048576000) (x : Int) : CallK Try.prog (.int .i64) 36 #[.slice s.a s.len s.cap, .int .i64 x] w fun (r : Int) w' => w' = w ∧ decide (r ≥ 0) = decide (x ∈ l) := by
  have hlen : s.len = l.length := by have := hr.1; rw [lin_len] at this; omega
  refine T36.calls ?_
  unfold T36
  refine LoopX.mk (fun st w' => w' = w ∧ ∃ a : Nat, st = ((a : Int), ()) ∧ a ≤ l.length ∧ (∀ j (h : j < l.length), j < a → l[j] ≠ x)) (fun st => ((l.length : Int) - st.1).toNat) ⟨rfl, 0, rfl, by omega, fun j _ h => by omega⟩ ?_
  rintro _ w' ⟨rfl, a, rfl, ha, h1⟩ k hk
  dsimp only at hk ⊢
  rw [SplitB_iff]
  refine ⟨fun hc => ?_, fun hc => ?_⟩
  · have hc : a < l.length := by have := of_decide_eq_true hc; omega
    refine hr.idxK a rfl (by omega) ?_
    intro g o hg
    refine hr.el hg a (by rw [Nat.mul_one]) (kd := .int .i64) (x := (l[a] : Int)) (lin_at hc) ?_
    rw [SplitB_iff]
    refine ⟨fun he => ?_, fun he => ?_⟩
    · have he : x = l[a] := by simpa using he
      refine ⟨rfl, ?_⟩
      have : x ∈ l := by rw [he]; exact List.getElem_mem hc
      simp [this]
    · have he : ¬ x = l[a] := by simpa using he
      have e : IntKind.i64.wrap ((a : Int) + 1) = ((a + 1 : Nat) : Int) := by rw [wr (by omega)]; omega
      rw [e]
      refine hk _ _ ⟨rfl, a + 1, rfl, by omega, fun j hj hj2 => ?_⟩ (by dsimp only; omega)
      rcases Nat.lt_or_ge j a with h3 | h3
      · exact h1 j hj h3
      · have : j = a := by omega
        subst this; exact fun h => he h.symm
  · have hc : a = l.length := by have := of_decide_eq_false hc; omega
    refine ⟨rfl, ?_⟩
    have : ¬ x ∈ l := fun h => by
      obtain ⟨j, hj, e⟩ := List.mem_iff_getElem.1 h
      exact h1 j hj (by omega) e
    simp [this]
theorem contains_ok {s : Sl} {l : List Int} (hr : Rd w s 1 (lin l)) (hl : l.length ≤ 1048576000) (x : Int) : CallK Try.prog .bool 27 #[.slice s.a s.len s.cap, .int .i64 x] w fun (r : Bool) w' => w' = w ∧ r = decide (x ∈ l) := by
  refine T27.calls ?_
  unfold T27
  refine (index_ok hr hl x).mono ?_
  rintro r w' ⟨rfl, h⟩
  exact ⟨rfl, h⟩
end Go.Proofs.Ytbdhmeefjlkdcaa
