/- The closed sentence on the names of the interface's constants: it answers yes. -/
import Derived.Test.YtahlobpnmpelbaaTTn
import Derived.Test.YtahlobpnmpelbaaFwV
namespace Go.Proofs.Ytahlobpnmpelbaa
open Go Go.Fw Go.RowKit
set_option linter.unusedVariables false
set_option linter.unusedSimpArgs false

theorem et23 : ET Try.prog 23 29 2 16 := ET.of (by kernel_rfl)
theorem et27 : ET Try.prog 27 26 10 80 := ET.of (by kernel_rfl)
theorem sc3 : scB Try.prog 3 = true := by kernel_rfl
theorem ag26 : aggB Try.prog 26 10 = true := by kernel_rfl
theorem run_two (w : World) (g o : Nat) (i : Int) (h0 : 0 ≤ i) (h1 : i < 2) : (Instr.indexAt 29 (.pointer (some ⟨g, o, none⟩)) (.int .i64 i)).run Try.prog w = .ok (.pointer (some ⟨g, o + i.toNat, none⟩)) w := by
  have hu : Try.prog.underlying 29 = some (.array 2 3) := by kernel_rfl
  obtain ⟨inf, hi, hs⟩ : ∃ inf, Try.prog.info? 3 = some inf ∧ inf.size = 1 := by
    cases hi : Try.prog.info? 3 with
    | none => exact absurd (show (Try.prog.info? 3).isSome = true by kernel_rfl) (by simp [hi])
    | some inf => exact ⟨inf, rfl, by have : (Try.prog.info? 3).map (·.size) = some 1 := by kernel_rfl
                                      rw [hi] at this; simpa using this⟩
  simp [Instr.indexAt, asIntOf, run_underlying hu, Instr.sureAddr, h0, h1, sizeOf, typeInfo, hi, hs, add_lit']

def twice (l : List Int) : List Value := l.flatMap fun a => [.int .i64 a, .int .i64 a]
theorem twice_len (l : List Int) : (twice l).length = l.length * 2 := by
  induction l with
  | nil => rfl
  | cons x r ih => simp only [twice, List.flatMap_cons, List.length_append, List.length_cons] at ih ⊢; rw [ih]; simp; omega
theorem twice_at : ∀ (l : List Int) (i : Nat) (h : i < l.length), (twice l)[i * 2]? = some (.int .i64 l[i]) ∧ (twice l)[i * 2 + 1]? = some (.int .i64 l[i])
  | x :: r, 0, _ => ⟨rfl, rfl⟩
  | x :: r, i + 1, h => by
    have h2 : i < r.length := by simpa using h
    obtain ⟨h3, h4⟩ := twice_at r i h2
    have e : twice (x :: r) = .int .i64 x :: .int .i64 x :: twice r := rfl
    have e1 : (i + 1) * 2 = i * 2 + 1 + 1 := by omega
    rw [e, e1, List.getElem?_cons_succ, List.getElem?_cons_succ, List.getElem?_cons_succ, List.getElem?_cons_succ]
    exact ⟨h3, h4⟩
theorem named_ok {w : World} {p : Sl} {l : List Int} (hr : Rd w p 2 (twice l)) (hne : 0 < l.length) (hs : l.length ≤ 1000) : CallK Try.prog .bool 4 #[.slice p.a p.len p.cap] w fun (r : Bool) w' => Upd w w' nobody ∧ r = true := by
  have hlen : p.len = l.length := by have := hr.1; rw [twice_len] at this; omega
  obtain ⟨b, o, ha, hc⟩ : ∃ b o, p.a = some ⟨b, o, none⟩ ∧ ∀ i v, (twice l)[i]? = some v → w.cell? ⟨b, o + i, none⟩ = some v := by
    rcases hr.2.1 with h0 | h
    · have := congrArg List.length h0; rw [twice_len] at this; simp at this; omega
    · exact h
  refine T4.calls ?_
  unfold T4
  refine ⟨fun st w' => ∃ k : Nat, k ≤ l.length ∧ st.1 = (k : Int) ∧ Upd w w' nobody, fun st _ => l.length - st.1.toNat, ⟨0, Nat.zero_le _, rfl, Upd.refl _ _⟩, ?_⟩
  rintro ⟨i, ⟨⟩⟩ w1 ⟨k, hk, h1, hu⟩
  dsimp only at h1
  subst h1
  rw [SplitB_iff]
  constructor
  · intro hlt
    have hlt : k < l.length := by have := of_decide_eq_true hlt; omega
    have hu1 := hu.trans (Upd.drew w1 nobody)
    obtain ⟨h3, h4⟩ := twice_at l k hlt
    have c3 : w1.drew.cell? ⟨b, o + k * 2 + 0, none⟩ = some (.int .i64 l[k]) := hu1.cell (hc _ _ h3) (fun h => h)
    have c4 : w1.drew.cell? ⟨b, o + k * 2 + 1, none⟩ = some (.int .i64 l[k]) := hu1.cell (hc _ _ h4) (fun h => h)
    refine ReadN.of (kd := .addr) (run_idx et23 ha (by omega) (by omega)) ?_
    simp only [Int.toNat_natCast]
    refine ReadN.of (kd := .addr) (run_two _ _ _ _ (by omega) (by omega)) ?_
    refine ReadN.load sc3 (kd := .int .i64) c3 ?_
    refine ReadN.of (kd := .addr) (run_idx et23 ha (by omega) (by omega)) ?_
    simp only [Int.toNat_natCast]
    refine ReadN.of (kd := .addr) (run_two _ _ _ _ (by omega) (by omega)) ?_
    refine ReadN.load sc3 (kd := .int .i64) c4 ?_
    rw [SplitB_iff]
    refine ⟨fun h => by simp at h, fun _ => ?_⟩
    rw [IntWalk.i64_in ((k : Int) + 1) ⟨by omega, by omega⟩]
    exact ⟨⟨k + 1, by omega, by omega, hu1⟩, by omega⟩
  · intro _
    exact ⟨hu, decide_eq_true (by omega)⟩
def vals5 : List Int := [0, 1, 2, 3, 10, 11, 12, 20, 21, 30, 31, 40, 41, 50, 60, 61, 62, 70, 71, 100, 101, 102, 110, 111, 130, 131, 132, 133, 140, 150, 170, 171, 172, 180, 200, 201, 210, 211, 220, 2, 16, 1099511627776, 16, 16, 1000]
theorem lit5 (w : World) : (Instr.buildSlice 23 45 #[(0, .agg #[.int .i64 0, .int .i64 0]), (1, .agg #[.int .i64 1, .int .i64 1]), (2, .agg #[.int .i64 2, .int .i64 2]), (3, .agg #[.int .i64 3, .int .i64 3]), (4, .agg #[.int .i64 10, .int .i64 10]), (5, .agg #[.int .i64 11, .int .i64 11]), (6, .agg #[.int .i64 12, .int .i64 12]), (7, .agg #[.int .i64 20, .int .i64 20]), (8, .agg #[.int .i64 21, .int .i64 21]), (9, .agg #[.int .i64 30, .int .i64 30]), (10, .agg #[.int .i64 31, .int .i64 31]), (11, .agg #[.int .i64 40, .int .i64 40]), (12, .agg #[.int .i64 41, .int .i64 41]), (13, .agg #[.int .i64 50, .int .i64 50]), (14, .agg #[.int .i64 60, .int .i64 60]), (15, .agg #[.int .i64 61, .int .i64 61]), (16, .agg #[.int .i64 62, .int .i64 62]), (17, .agg #[.int .i64 70, .int .i64 70]), (18, .agg #[.int .i64 71, .int .i64 71]), (19, .agg #[.int .i64 100, .int .i64 100]), (20, .agg #[.int .i64 101, .int .i64 101]), (21, .agg #[.int .i64 102, .int .i64 102]), (22, .agg #[.int .i64 110, .int .i64 110]), (23, .agg #[.int .i64 111, .int .i64 111]), (24, .agg #[.int .i64 130, .int .i64 130]), (25, .agg #[.int .i64 131, .int .i64 131]), (26, .agg #[.int .i64 132, .int .i64 132]), (27, .agg #[.int .i64 133, .int .i64 133]), (28, .agg #[.int .i64 140, .int .i64 140]), (29, .agg #[.int .i64 150, .int .i64 150]), (30, .agg #[.int .i64 170, .int .i64 170]), (31, .agg #[.int .i64 171, .int .i64 171]), (32, .agg #[.int .i64 172, .int .i64 172]), (33, .agg #[.int .i64 180, .int .i64 180]), (34, .agg #[.int .i64 200, .int .i64 200]), (35, .agg #[.int .i64 201, .int .i64 201]), (36, .agg #[.int .i64 210, .int .i64 210]), (37, .agg #[.int .i64 211, .int .i64 211]), (38, .agg #[.int .i64 220, .int .i64 220]), (39, .agg #[.int .i64 2, .int .i64 2]), (40, .agg #[.int .i64 16, .int .i64 16]), (41, .agg #[.int .i64 1099511627776, .int .i64 1099511627776]), (42, .agg #[.int .i64 16, .int .i64 16]), (43, .agg #[.int .i64 16, .int .i64 16]), (44, .agg #[.int .i64 1000, .int .i64 1000])]).run Try.prog w = .ok (.slice (some ⟨w.heap.size, 0, none⟩) 45 45) (w.alloc (.cells ⟨twice vals5⟩ 29)) := by kernel_rfl
theorem names5_ok {w : World} : CallK Try.prog .sl 5 #[] w fun (r : Sl) w' => Upd w w' nobody ∧ Rd w' r 2 (twice vals5) := by
  refine T5.calls ?_
  unfold T5
  refine RunN.newS (base := 0) (sz := 2) (lit5 w) (Nat.zero_le _) (by decide) rfl ?_
  intro w1 ho hu _
  exact ⟨hu, ho.rd⟩
def vals6 : List Int := [32, 16, 4, 16, 64, 1024, 20000, 64, 1099511627776, 1099511627776, 1099511627776, 4096, 1048576, 12, 512, 65536, 64, 8192, 1, 2, 3, 4, 5, 6, 7, 8, 9, 10, 11, 12, 1, 2, 3, 4, 5, 6, 7, 8, 9, 10, 1, 2, 3, 4, 5]
theorem lit6 (w : World) : (Instr.buildSlice 23 45 #[(0, .agg #[.int .i64 32, .int .i64 32]), (1, .agg #[.int .i64 16, .int .i64 16]), (2, .agg #[.int .i64 4, .int .i64 4]), (3, .agg #[.int .i64 16, .int .i64 16]), (4, .agg #[.int .i64 64, .int .i64 64]), (5, .agg #[.int .i64 1024, .int .i64 1024]), (6, .agg #[.int .i64 20000, .int .i64 20000]), (7, .agg #[.int .i64 64, .int .i64 64]), (8, .agg #[.int .i64 1099511627776, .int .i64 1099511627776]), (9, .agg #[.int .i64 1099511627776, .int .i64 1099511627776]), (10, .agg #[.int .i64 1099511627776, .int .i64 1099511627776]), (11, .agg #[.int .i64 4096, .int .i64 4096]), (12, .agg #[.int .i64 1048576, .int .i64 1048576]), (13, .agg #[.int .i64 12, .int .i64 12]), (14, .agg #[.int .i64 512, .int .i64 512]), (15, .agg #[.int .i64 65536, .int .i64 65536]), (16, .agg #[.int .i64 64, .int .i64 64]), (17, .agg #[.int .i64 8192, .int .i64 8192]), (18, .agg #[.int .i64 1, .int .i64 1]), (19, .agg #[.int .i64 2, .int .i64 2]), (20, .agg #[.int .i64 3, .int .i64 3]), (21, .agg #[.int .i64 4, .int .i64 4]), (22, .agg #[.int .i64 5, .int .i64 5]), (23, .agg #[.int .i64 6, .int .i64 6]), (24, .agg #[.int .i64 7, .int .i64 7]), (25, .agg #[.int .i64 8, .int .i64 8]), (26, .agg #[.int .i64 9, .int .i64 9]), (27, .agg #[.int .i64 10, .int .i64 10]), (28, .agg #[.int .i64 11, .int .i64 11]), (29, .agg #[.int .i64 12, .int .i64 12]), (30, .agg #[.int .i64 1, .int .i64 1]), (31, .agg #[.int .i64 2, .int .i64 2]), (32, .agg #[.int .i64 3, .int .i64 3]), (33, .agg #[.int .i64 4, .int .i64 4]), (34, .agg #[.int .i64 5, .int .i64 5]), (35, .agg #[.int .i64 6, .int .i64 6]), (36, .agg #[.int .i64 7, .int .i64 7]), (37, .agg #[.int .i64 8, .int .i64 8]), (38, .agg #[.int .i64 9, .int .i64 9]), (39, .agg #[.int .i64 10, .int .i64 10]), (40, .agg #[.int .i64 1, .int .i64 1]), (41, .agg #[.int .i64 2, .int .i64 2]), (42, .agg #[.int .i64 3, .int .i64 3]), (43, .agg #[.int .i64 4, .int .i64 4]), (44, .agg #[.int .i64 5, .int .i64 5])]).run Try.prog w = .ok (.slice (some ⟨w.heap.size, 0, none⟩) 45 45) (w.alloc (.cells ⟨twice vals6⟩ 29)) := by kernel_rfl
theorem names6_ok {w : World} : CallK Try.prog .sl 6 #[] w fun (r : Sl) w' => Upd w w' nobody ∧ Rd w' r 2 (twice vals6) := by
  refine T6.calls ?_
  unfold T6
  refine RunN.newS (base := 0) (sz := 2) (lit6 w) (Nat.zero_le _) (by decide) rfl ?_
  intro w1 ho hu _
  exact ⟨hu, ho.rd⟩
def vals7 : List Int := [6, 7, 8, 9, 10, 11, 12, 13, 14, 15]
theorem lit7 (w : World) : (Instr.buildSlice 23 10 #[(0, .agg #[.int .i64 6, .int .i64 6]), (1, .agg #[.int .i64 7, .int .i64 7]), (2, .agg #[.int .i64 8, .int .i64 8]), (3, .agg #[.int .i64 9, .int .i64 9]), (4, .agg #[.int .i64 10, .int .i64 10]), (5, .agg #[.int .i64 11, .int .i64 11]), (6, .agg #[.int .i64 12, .int .i64 12]), (7, .agg #[.int .i64 13, .int .i64 13]), (8, .agg #[.int .i64 14, .int .i64 14]), (9, .agg #[.int .i64 15, .int .i64 15])]).run Try.prog w = .ok (.slice (some ⟨w.heap.size, 0, none⟩) 10 10) (w.alloc (.cells ⟨twice vals7⟩ 29)) := by kernel_rfl
theorem names7_ok {w : World} : CallK Try.prog .sl 7 #[] w fun (r : Sl) w' => Upd w w' nobody ∧ Rd w' r 2 (twice vals7) := by
  refine T7.calls ?_
  unfold T7
  refine RunN.newS (base := 0) (sz := 2) (lit7 w) (Nat.zero_le _) (by decide) rfl ?_
  intro w1 ho hu _
  exact ⟨hu, ho.rd⟩

def rightL (c0 c1 c2 c3 c4 c5 c6 c7 c8 c9 : Int) : Bool := decide (2 ≤ c0 ∧ c0 ≤ 16 ∧ 1 ≤ c1 ∧ c1 ≤ 16 ∧ 1 ≤ c2 ∧ c2 ≤ 1000 ∧ 1 ≤ c3 ∧ c3 ≤ 1000 ∧ 1 ≤ c4 ∧ c4 ≤ 32 ∧ 1 ≤ c5 ∧ c5 ≤ 16 ∧ 1 ≤ c6 ∧ c6 ≤ 4 ∧ 0 ≤ c7 ∧ c7 ≤ 16 ∧ 1 ≤ c8 ∧ c8 ≤ 64 ∧ 1 ≤ c9 ∧ c9 ≤ 1024)
def iv (a : Int) : Value := .int .i64 a
theorem box26 (w : World) (c0 c1 c2 c3 c4 c5 c6 c7 c8 c9 : Int) : (Instr.box 26 (.agg #[.int .i64 c0, .int .i64 c1, .int .i64 c2, .int .i64 c3, .int .i64 c4, .int .i64 c5, .int .i64 c6, .int .i64 c7, .int .i64 c8, .int .i64 c9])).run Try.prog w = .ok (.pointer (some ⟨w.heap.size, 0, none⟩)) (w.alloc (.cells ⟨[iv c0, iv c1, iv c2, iv c3, iv c4, iv c5, iv c6, iv c7, iv c8, iv c9]⟩ 26)) := by kernel_rfl
theorem right_ok {w : World} {c0 c1 c2 c3 c4 c5 c6 c7 c8 c9 : Int} : CallK Try.prog .bool 8 #[.agg #[.int .i64 c0, .int .i64 c1, .int .i64 c2, .int .i64 c3, .int .i64 c4, .int .i64 c5, .int .i64 c6, .int .i64 c7, .int .i64 c8, .int .i64 c9]] w fun (r : Bool) w' => Upd w w' nobody ∧ r = rightL c0 c1 c2 c3 c4 c5 c6 c7 c8 c9 := by
  refine T8.calls (p0 := (c0, c1, c2, c3, c4, c5, c6, c7, c8, c9, ())) ?_
  unfold T8
  refine RunN.newB (box26 w c0 c1 c2 c3 c4 c5 c6 c7 c8 c9) ?_
  intro w1 hb hu _
  simp only [add_lit', Nat.zero_add]
  unfold rightL
  refine RunN.loadB (kd := .int .i64) (x := c0) sc3 hb rfl ?_
  rw [SplitB_iff]
  refine ⟨fun h => ?_, fun h => ⟨hu, (decide_eq_false (by have h : ¬ c0 ≥ 2 := of_decide_eq_false h; omega)).symm⟩⟩
  have g0 : c0 ≥ 2 := of_decide_eq_true h
  clear h
  refine RunN.loadB (kd := .int .i64) (x := c0) sc3 hb rfl ?_
  rw [SplitB_iff]
  refine ⟨fun h => ?_, fun h => ⟨hu, (decide_eq_false (by have h : ¬ c0 ≤ 16 := of_decide_eq_false h; omega)).symm⟩⟩
  have g1 : c0 ≤ 16 := of_decide_eq_true h
  clear h
  refine RunN.loadB (kd := .int .i64) (x := c1) sc3 hb rfl ?_
  rw [SplitB_iff]
  refine ⟨fun h => ?_, fun h => ⟨hu, (decide_eq_false (by have h : ¬ c1 ≥ 1 := of_decide_eq_false h; omega)).symm⟩⟩
  have g2 : c1 ≥ 1 := of_decide_eq_true h
  clear h
  refine RunN.loadB (kd := .int .i64) (x := c1) sc3 hb rfl ?_
  rw [SplitB_iff]
  refine ⟨fun h => ?_, fun h => ⟨hu, (decide_eq_false (by have h : ¬ c1 ≤ 16 := of_decide_eq_false h; omega)).symm⟩⟩
  have g3 : c1 ≤ 16 := of_decide_eq_true h
  clear h
  refine RunN.loadB (kd := .int .i64) (x := c2) sc3 hb rfl ?_
  rw [SplitB_iff]
  refine ⟨fun h => ?_, fun h => ⟨hu, (decide_eq_false (by have h : ¬ c2 ≥ 1 := of_decide_eq_false h; omega)).symm⟩⟩
  have g4 : c2 ≥ 1 := of_decide_eq_true h
  clear h
  refine RunN.loadB (kd := .int .i64) (x := c2) sc3 hb rfl ?_
  rw [SplitB_iff]
  refine ⟨fun h => ?_, fun h => ⟨hu, (decide_eq_false (by have h : ¬ c2 ≤ 1000 := of_decide_eq_false h; omega)).symm⟩⟩
  have g5 : c2 ≤ 1000 := of_decide_eq_true h
  clear h
  refine RunN.loadB (kd := .int .i64) (x := c3) sc3 hb rfl ?_
  rw [SplitB_iff]
  refine ⟨fun h => ?_, fun h => ⟨hu, (decide_eq_false (by have h : ¬ c3 ≥ 1 := of_decide_eq_false h; omega)).symm⟩⟩
  have g6 : c3 ≥ 1 := of_decide_eq_true h
  clear h
  refine RunN.loadB (kd := .int .i64) (x := c3) sc3 hb rfl ?_
  rw [SplitB_iff]
  refine ⟨fun h => ?_, fun h => ⟨hu, (decide_eq_false (by have h : ¬ c3 ≤ 1000 := of_decide_eq_false h; omega)).symm⟩⟩
  have g7 : c3 ≤ 1000 := of_decide_eq_true h
  clear h
  refine RunN.loadB (kd := .int .i64) (x := c4) sc3 hb rfl ?_
  rw [SplitB_iff]
  refine ⟨fun h => ?_, fun h => ⟨hu, (decide_eq_false (by have h : ¬ c4 ≥ 1 := of_decide_eq_false h; omega)).symm⟩⟩
  have g8 : c4 ≥ 1 := of_decide_eq_true h
  clear h
  refine RunN.loadB (kd := .int .i64) (x := c4) sc3 hb rfl ?_
  rw [SplitB_iff]
  refine ⟨fun h => ?_, fun h => ⟨hu, (decide_eq_false (by have h : ¬ c4 ≤ 32 := of_decide_eq_false h; omega)).symm⟩⟩
  have g9 : c4 ≤ 32 := of_decide_eq_true h
  clear h
  refine RunN.loadB (kd := .int .i64) (x := c5) sc3 hb rfl ?_
  rw [SplitB_iff]
  refine ⟨fun h => ?_, fun h => ⟨hu, (decide_eq_false (by have h : ¬ c5 ≥ 1 := of_decide_eq_false h; omega)).symm⟩⟩
  have g10 : c5 ≥ 1 := of_decide_eq_true h
  clear h
  refine RunN.loadB (kd := .int .i64) (x := c5) sc3 hb rfl ?_
  rw [SplitB_iff]
  refine ⟨fun h => ?_, fun h => ⟨hu, (decide_eq_false (by have h : ¬ c5 ≤ 16 := of_decide_eq_false h; omega)).symm⟩⟩
  have g11 : c5 ≤ 16 := of_decide_eq_true h
  clear h
  refine RunN.loadB (kd := .int .i64) (x := c6) sc3 hb rfl ?_
  rw [SplitB_iff]
  refine ⟨fun h => ?_, fun h => ⟨hu, (decide_eq_false (by have h : ¬ c6 ≥ 1 := of_decide_eq_false h; omega)).symm⟩⟩
  have g12 : c6 ≥ 1 := of_decide_eq_true h
  clear h
  refine RunN.loadB (kd := .int .i64) (x := c6) sc3 hb rfl ?_
  rw [SplitB_iff]
  refine ⟨fun h => ?_, fun h => ⟨hu, (decide_eq_false (by have h : ¬ c6 ≤ 4 := of_decide_eq_false h; omega)).symm⟩⟩
  have g13 : c6 ≤ 4 := of_decide_eq_true h
  clear h
  refine RunN.loadB (kd := .int .i64) (x := c7) sc3 hb rfl ?_
  rw [SplitB_iff]
  refine ⟨fun h => ?_, fun h => ⟨hu, (decide_eq_false (by have h : ¬ c7 ≥ 0 := of_decide_eq_false h; omega)).symm⟩⟩
  have g14 : c7 ≥ 0 := of_decide_eq_true h
  clear h
  refine RunN.loadB (kd := .int .i64) (x := c7) sc3 hb rfl ?_
  rw [SplitB_iff]
  refine ⟨fun h => ?_, fun h => ⟨hu, (decide_eq_false (by have h : ¬ c7 ≤ 16 := of_decide_eq_false h; omega)).symm⟩⟩
  have g15 : c7 ≤ 16 := of_decide_eq_true h
  clear h
  refine RunN.loadB (kd := .int .i64) (x := c8) sc3 hb rfl ?_
  rw [SplitB_iff]
  refine ⟨fun h => ?_, fun h => ⟨hu, (decide_eq_false (by have h : ¬ c8 ≥ 1 := of_decide_eq_false h; omega)).symm⟩⟩
  have g16 : c8 ≥ 1 := of_decide_eq_true h
  clear h
  refine RunN.loadB (kd := .int .i64) (x := c8) sc3 hb rfl ?_
  rw [SplitB_iff]
  refine ⟨fun h => ?_, fun h => ⟨hu, (decide_eq_false (by have h : ¬ c8 ≤ 64 := of_decide_eq_false h; omega)).symm⟩⟩
  have g17 : c8 ≤ 64 := of_decide_eq_true h
  clear h
  refine RunN.loadB (kd := .int .i64) (x := c9) sc3 hb rfl ?_
  rw [SplitB_iff]
  refine ⟨fun h => ?_, fun h => ⟨hu, (decide_eq_false (by have h : ¬ c9 ≥ 1 := of_decide_eq_false h; omega)).symm⟩⟩
  have g18 : c9 ≥ 1 := of_decide_eq_true h
  clear h
  refine RunN.loadB (kd := .int .i64) (x := c9) sc3 hb rfl ?_
  refine ⟨hu, ?_⟩
  by_cases h : c9 ≤ 1024
  · rw [decide_eq_true h]; exact (decide_eq_true (by and_intros <;> omega)).symm
  · rw [decide_eq_false h]; exact (decide_eq_false (by omega)).symm
end Go.Proofs.Ytahlobpnmpelbaa
