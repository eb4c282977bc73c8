/- The bag in memory, and what its methods come to. -/
import Derived.Test.YtmhjlngkdppgpaaNtS
namespace Go.Proofs.Ytmhjlngkdppgpaa
open Go Go.Fw Go.RowKit
set_option linter.unusedVariables false
set_option linter.unusedSimpArgs false

structure Ltr where
  f : Int
  t : Int
  m : List UInt8
def big : Nat := 140737488355328
def row (xs : List (Ltr × Sl)) : List Value := xs.flatMap fun x => lc x.1.f x.1.t x.2
theorem row_len (xs : List (Ltr × Sl)) : (row xs).length = xs.length * 3 := by
  induction xs with
  | nil => rfl
  | cons x r ih => simp only [row, List.flatMap_cons, List.length_append, List.length_cons] at ih ⊢; rw [ih]; simp [lc]; omega
theorem row_append (a b : List (Ltr × Sl)) : row (a ++ b) = row a ++ row b := by simp [row]
theorem row_one (xs : List (Ltr × Sl)) : ∀ v ∈ row xs, v.oneCell' = true := by
  intro v hv
  obtain ⟨x, _, hx⟩ := List.mem_flatMap.1 hv
  exact lc_one _ _ _ v hx
theorem row_drop (xs : List (Ltr × Sl)) (n : Nat) : (row xs).drop (n * 3) = row (xs.drop n) := by
  induction n generalizing xs with
  | zero => simp
  | succ n ih =>
    cases xs with
    | nil => simp [row]
    | cons x r =>
      have e : (n + 1) * 3 = 3 + n * 3 := by omega
      rw [e, ← List.drop_drop]
      have : (row (x :: r)).drop 3 = row r := by simp [row, lc]
      rw [this, ih]; rfl
theorem row_take (xs : List (Ltr × Sl)) (n : Nat) : (row xs).take (n * 3) = row (xs.take n) := by
  induction n generalizing xs with
  | zero => simp [row]
  | succ n ih =>
    cases xs with
    | nil => simp [row]
    | cons x r =>
      have e : (n + 1) * 3 = 3 + n * 3 := by omega
      have h1 : row (x :: r) = lc x.1.f x.1.t x.2 ++ row r := by simp [row]
      rw [h1, e, List.take_append, List.take_of_length_le (by simp [lc])]
      have h2 : 3 + n * 3 - (lc x.1.f x.1.t x.2).length = n * 3 := by simp [lc]
      rw [h2, ih]
      simp [row]
theorem row_at (xs : List (Ltr × Sl)) (i : Nat) (h : i < xs.length) : ((row xs).drop (i * 3)).take 3 = lc xs[i].1.f xs[i].1.t xs[i].2 := by
  rw [row_drop, List.drop_eq_getElem_cons h]
  have h1 : ∀ x r, row (x :: r) = lc x.1.f x.1.t x.2 ++ row r := fun x r => by simp [row]
  rw [h1, List.take_append, List.take_of_length_le (by simp [lc])]
  simp [lc]

structure BagAt (w : World) (base B : Nat) (cap : Int) (s : Sl) (xs : List (Ltr × Sl)) : Prop where
  blk : Blk w B 54 [.int .i64 cap, .slice s.a s.len s.cap]
  ow : Ow w base 31 3 s (row xs)
  ne : s.blk ≠ some B
  low : base ≤ B
  each : ∀ x ∈ xs, Rd w x.2 1 (bys x.1.m) ∧ x.1.m.length ≤ big ∧ ∀ b, x.2.blk = some b → b < w.heap.size ∧ b ≠ B ∧ s.blk ≠ some b
theorem BagAt.len {w : World} {base B : Nat} {cap : Int} {s : Sl} {xs : List (Ltr × Sl)} (h : BagAt w base B cap s xs) : s.len = xs.length := by
  have := h.ow.1
  rw [row_len] at this; omega
theorem BagAt.upd {w w' : World} {S : Nat → Prop} {base B : Nat} {cap : Int} {s : Sl} {xs : List (Ltr × Sl)} (h : BagAt w base B cap s xs) (hu : Upd w w' S) (hB : ¬ S B) (hs : ∀ b, s.blk = some b → ¬ S b) (hx : ∀ x ∈ xs, ∀ b, x.2.blk = some b → ¬ S b) : BagAt w' base B cap s xs :=
  ⟨h.blk.upd hu hB, h.ow.upd hu hs, h.ne, h.low, fun x hm => ⟨(h.each x hm).1.upd hu (hx x hm), (h.each x hm).2.1, fun b hb => ⟨Nat.lt_of_lt_of_le ((h.each x hm).2.2 b hb).1 hu.size, ((h.each x hm).2.2 b hb).2⟩⟩⟩
theorem BagAt.keep {w w' : World} {base B : Nat} {cap : Int} {s : Sl} {xs : List (Ltr × Sl)} (h : BagAt w base B cap s xs) (hu : Upd w w' nobody) : BagAt w' base B cap s xs := h.upd hu (fun h => h) (fun _ _ h => h) (fun _ _ _ _ h => h)
/-- What an operation on a bag may write. -/
def Mine (B : Nat) (s : Sl) : Nat → Prop := fun k => k = B ∨ s.blk = some k
/-- The row after it: as before, or new. -/
def Next (w : World) (s s' : Sl) : Prop := s'.blk = s.blk ∨ ∃ g, s'.blk = some g ∧ w.heap.size ≤ g

theorem num_ok {w : World} {n : Int} : CallK Try.prog (.int .i64) 9 #[.int .i64 n] w fun (r : Int) w' => w' = w ∧ r = n := T9.calls ⟨rfl, rfl⟩
theorem len_ok {w : World} {base B : Nat} {cap : Int} {s : Sl} {xs : List (Ltr × Sl)} (h : BagAt w base B cap s xs) : CallK Try.prog (.int .i64) 12 #[.pointer (some ⟨B, 0, none⟩)] w fun (r : Int) w' => w' = w ∧ r = (xs.length : Int) := by
  refine T12.calls ?_
  unfold T12
  simp only [NilP, add_lit', Nat.zero_add]
  refine RunN.loadB (kd := .sl) (x := s) sc22 h.blk rfl ?_
  exact ⟨rfl, by rw [h.len]⟩
theorem full_ok {w : World} {base B : Nat} {cap : Int} {s : Sl} {xs : List (Ltr × Sl)} (h : BagAt w base B cap s xs) : CallK Try.prog .bool 27 #[.pointer (some ⟨B, 0, none⟩)] w fun (r : Bool) w' => Upd w w' nobody ∧ w'.heap.size = w.heap.size ∧ r = decide ((xs.length : Int) = cap) := by
  refine T27.calls ?_
  unfold T27
  simp only [NilP, add_lit', Nat.zero_add]
  have hd := h.keep (Upd.drew w nobody)
  refine ReadN.loadB (kd := .sl) (x := s) sc22 hd.blk rfl ?_
  refine ReadN.loadB (kd := .int .i64) (x := cap) sc3 hd.blk rfl ?_
  refine ⟨Upd.drew _ _, rfl, ?_⟩
  rw [h.len]; rfl
theorem in_ok {w : World} {base B : Nat} {cap : Int} {s : Sl} {xs : List (Ltr × Sl)} (h : BagAt w base B cap s xs) {i : Int} : CallK Try.prog .bool 29 #[.pointer (some ⟨B, 0, none⟩), .int .i64 i] w fun (r : Bool) w' => w' = w ∧ r = decide (0 ≤ i ∧ i < (xs.length : Int)) := by
  refine T29.calls ?_
  unfold T29
  rw [SplitB_iff]
  constructor
  · intro h0
    have h0 : i ≥ 0 := of_decide_eq_true h0
    simp only [NilP, add_lit', Nat.zero_add]
    refine RunN.loadB (kd := .sl) (x := s) sc22 h.blk rfl ?_
    refine ⟨rfl, ?_⟩
    rw [h.len]; simp; omega
  · intro h0
    have h0 : ¬ i ≥ 0 := of_decide_eq_false h0
    exact ⟨rfl, by simp; omega⟩

theorem bs22 (w : World) (f t : Int) (s : Sl) : (Instr.buildSlice 22 1 #[(0, .agg #[.int .i64 f, .int .i64 t, .slice s.a s.len s.cap])]).run Try.prog w = .ok (.slice (some ⟨w.heap.size, 0, none⟩) 1 1) (w.alloc (.cells ⟨lc f t s⟩ 31)) := by kernel_rfl

theorem send_ok {w : World} {base B : Nat} {cap : Int} {s : Sl} {xs : List (Ltr × Sl)} (h : BagAt w base B cap s xs) (hbase : base ≤ w.heap.size) (hlen : xs.length ≤ 65536) {f t : Int} {p : Sl} {m : List UInt8} (hr : Rd w p 1 (bys m)) (hm : m.length ≤ big) :
    CallK Try.prog (.int .i64) 10 #[.pointer (some ⟨B, 0, none⟩), .agg #[.int .i64 f, .int .i64 t, .slice p.a p.len p.cap]] w fun (r : Int) w' =>
      ((xs.length : Int) = cap ∧ r = 41 ∧ Upd w w' nobody) ∨
      ((xs.length : Int) ≠ cap ∧ r = 0 ∧ Upd w w' (Mine B s) ∧ ∃ s' q, Next w s s' ∧ BagAt w' base B cap s' (xs ++ [(⟨f, t, m⟩, q)])) := by
  have hB := h.blk.lt
  refine T10.calls (p1 := (f, t, p, ())) ?_
  unfold T10
  refine RunN.newB (box31 w f t p) ?_
  intro w1 hb1 hu1 hs1
  have h1 := h.keep hu1
  refine (full_ok h1).mono ?_
  rintro r w2 ⟨hu2, hs2, rfl⟩
  have hU2 := hu1.trans hu2
  rw [SplitB_iff]
  constructor
  · intro hc
    have hc : (xs.length : Int) = cap := of_decide_eq_true hc
    exact .inl ⟨hc, rfl, hU2⟩
  · intro hc
    have hc : (xs.length : Int) ≠ cap := of_decide_eq_false hc
    simp only [NilP, add_lit', Nat.zero_add]
    have h2 := (h1.keep hu2).keep (Upd.drew w2 nobody)
    have hb2 := (hb1.upd hu2 (fun h => h)).upd (Upd.drew w2 nobody) (fun h => h)
    have hU2d := hU2.trans (Upd.drew w2 nobody)
    refine ReadN.loadB (kd := .sl) (x := s) sc22 h2.blk rfl ?_
    refine ReadN.loadA (kd := .agg (.cons (.int .i64) (.cons (.int .i64) (.cons .sl .nilT)))) (x := (f, t, p, ())) ag31 hb2 rfl rfl ?_
    refine (own2_ok (hr.upd hU2d (fun _ _ h => h)) hm).mono ?_
    rintro ⟨f', t', q, ⟨⟩⟩ w3 ⟨hu3, e1, e2, ho3⟩
    dsimp only at e1 e2 ho3
    subst e1; subst e2
    have h3 := h2.keep hu3
    have hU3 := hU2d.trans hu3
    refine ⟨StillV.loadB sc22 h3.blk rfl, ?_⟩
    refine RunN.newS (base := w.heap.size) (sz := 3) (bs22 w3 f' t' q) hU3.size (by decide) rfl ?_
    intro w4 ho4 hu4 hs4
    have h4 := h3.keep hu4
    have hU4 := hU3.trans hu4
    have hq4 := ho3.upd hu4 (fun _ _ h => h)
    refine ⟨StillV.loadB sc22 h4.blk rfl, ?_⟩
    have hsl := h.len
    have hz2d : w2.drew.heap.size = w2.heap.size := rfl
    have hz3 := hu3.size
    have hz4 := hU4.size
    refine RunN.appO et22 ⟨31, et22⟩ (by decide) h4.ow ho4.rd (lc_one _ _ _) (by omega) (by simp only [maxLen]; omega) (by dsimp only; omega) ?_
    intro s5 w5 hl5 ho5 hu5 hb5
    have hz5 := hu5.size
    have hqlow : ∀ b, q.blk = some b → w.heap.size < b ∧ b < w3.heap.size := fun b hb => by have := ho3.lt hb; omega
    have hslow : ∀ b, s.blk = some b → b < w.heap.size := fun b hb => (h.ow.lt hb).2
    have hxlow : ∀ x ∈ xs, ∀ b, x.2.blk = some b → ¬ s.blk = some b := fun x hx b hb => ((h.each x hx).2.2 b hb).2.2
    have hB5 : Blk w5 B 54 [.int .i64 cap, .slice s.a s.len s.cap] := h4.blk.upd hu5 h.ne
    refine RunU.storB sc22 hB5 (show 1 < 2 by decide) rfl ?_
    intro w6 hb6 hu6
    have hs5B : ∀ b, s5.blk = some b → b ≠ B := by
      intro b hb e
      rcases hb5 with h' | ⟨g, hg, hge, _⟩
      · rw [h'] at hb; exact h.ne (e ▸ hb)
      · rw [hg] at hb; cases hb; omega
    refine .inr ⟨hc, trivial, ?_, s5, q, ?_, ?_⟩
    · refine ((hU4.none _).trans (hu5.mono fun i _ hi => .inr hi)).trans (hu6.mono fun i _ hi => .inl hi)
    · rcases hb5 with h' | ⟨g, hg, hge, _⟩
      · exact .inl h'
      · exact .inr ⟨g, hg, by omega⟩
    · have how : Ow w6 base 31 3 s5 (row (xs ++ [(⟨f', t', m⟩, q)])) := by
        rw [row_append]
        have : row [((⟨f', t', m⟩ : Ltr), q)] = lc f' t' q := by simp [row]
        rw [this]
        exact ho5.upd hu6 hs5B
      refine ⟨hb6, how, fun e => hs5B B e rfl, h.low, ?_⟩
      intro x hx
      rcases List.mem_append.1 hx with hx | hx
      · have h0 := h4.each x hx
        refine ⟨(h0.1.upd hu5 fun b hb => (h0.2.2 b hb).2.2).upd hu6 fun b hb => (h0.2.2 b hb).2.1, h0.2.1, fun b hb => ?_⟩
        have hb0 := h0.2.2 b hb
        have hz6 := hu6.size
        refine ⟨by omega, hb0.2.1, fun e => ?_⟩
        rcases hb5 with h' | ⟨g, hg, hge, _⟩
        · rw [h'] at e; exact hb0.2.2 e
        · rw [hg] at e; cases e; omega
      · simp only [List.mem_singleton] at hx
        subst hx
        refine ⟨((hq4.upd hu5 fun b hb e => ?_).upd hu6 fun b hb e => ?_).rd, hm, fun b hb => ⟨?_, ?_, ?_⟩⟩
        · have := hqlow b hb; have := hslow b e; omega
        · have := hqlow b hb; omega
        · have := hqlow b hb; have := hu6.size; omega
        · have := hqlow b hb; omega
        · intro e
          have := hqlow b hb
          rcases hb5 with h' | ⟨g, hg, hge, _⟩
          · rw [h'] at e; have := hslow b e; omega
          · rw [hg] at e; cases e; omega
end Go.Proofs.Ytmhjlngkdppgpaa
