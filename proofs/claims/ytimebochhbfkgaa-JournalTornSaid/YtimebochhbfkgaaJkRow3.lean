/- Three numbers as they were handed in; six arguments. -/
import Derived.Test.YtimebochhbfkgaaJkTo
import Derived.Test.YtimebochhbfkgaaJkRow
import Derived.Laws.IdiomArrays
namespace Go.Proofs.Ytimebochhbfkgaa
open Go.ChangeShapes Go.WideShapes Go.ChangeAt Go.RowKit Go Go.Fw
set_option linter.unusedVariables false
set_option linter.unusedSimpArgs false
set_option maxRecDepth 20000

theorem u55 : Try.prog.underlying 55 = some (.array 3 3) := by kernel_rfl
theorem nums_of {H : Type} {enc : TypeId × Value → H} {W : World} {base b : Nat} {spare : Nat → Bool} {held : Bool} {v : Value} {d : DataW H} {ps : List MemPlace} (hval : Value.okWide Try.prog W .any b 55 v)
    (hd : DataW.Trod enc Try.prog W base spare held 55 v d ps) : ∃ x y z : Int, v = .agg #[.int .i64 x, .int .i64 y, .int .i64 z] ∧ ∀ a ∈ [x, y, z], -9223372036854775808 ≤ a ∧ a ≤ 9223372036854775807 := by
  have h1 : ∃ cs, v = .agg cs ∧ cs.size = Try.prog.cellsOf 55 := by
    simp only [Value.okWide, u55] at hval
    cases v <;> simp_all
  obtain ⟨cs, rfl, hcs⟩ := h1
  have h3 : Try.prog.cellsOf 55 = 3 := by kernel_rfl
  have c3 : Try.prog.cellsOf 3 = 1 := by kernel_rfl
  rw [h3] at hcs
  obtain ⟨fuel, hf⟩ := hd
  obtain ⟨l⟩ := cs
  match l, hcs with
  | [x0, x1, x2], _ =>
    have hf : DataW.trod enc Try.prog W base spare held fuel 55 [x0, x1, x2] = some (d, ps) := hf
    obtain ⟨y0, y1, y2, n, _, e0, e1, e2⟩ := trod_array3 u55 c3 hf
    obtain ⟨a0, ha0, _, w0⟩ := DataW.trod_int u3 e0
    obtain ⟨a1, ha1, _, w1⟩ := DataW.trod_int u3 e1
    obtain ⟨a2, ha2, _, w2⟩ := DataW.trod_int u3 e2
    simp at ha0 ha1 ha2
    subst ha0; subst ha1; subst ha2
    refine ⟨a0, a1, a2, rfl, fun a ha => ?_⟩
    simp at ha
    rcases ha with rfl | rfl | rfl
    · exact wf_i64 w0
    · exact wf_i64 w1
    · exact wf_i64 w2
theorem trodAll_six {H : Type} {enc : TypeId × Value → H} {P : Program} {w : World} {base : Nat} {spare : Nat → Bool} {held : Bool} {t0 t1 t2 t3 t4 t5 : TypeId} {args : Array Value} {ds : List (DataW H)} {ps : List MemPlace} (h : DataW.TrodAll enc P w base spare held [t0, t1, t2, t3, t4, t5] args.toList ds ps) :
    ∃ v0 v1 v2 v3 v4 v5 d0 d1 d2 d3 d4 d5 p0 p1 p2 p3 p4 p5, args = #[v0, v1, v2, v3, v4, v5] ∧ ds = [d0, d1, d2, d3, d4, d5] ∧ ps = p0 ++ (p1 ++ (p2 ++ (p3 ++ (p4 ++ p5)))) ∧ DataW.Trod enc P w base spare held t0 v0 d0 p0 ∧ DataW.Trod enc P w base spare held t1 v1 d1 p1 ∧ DataW.Trod enc P w base spare held t2 v2 d2 p2 ∧
      DataW.Trod enc P w base spare held t3 v3 d3 p3 ∧ DataW.Trod enc P w base spare held t4 v4 d4 p4 ∧ DataW.Trod enc P w base spare held t5 v5 d5 p5 := by
  obtain ⟨v0, vs0, d0, ds0, p0, q0, hargs, rfl, rfl, h0, h⟩ := trodAll_cons h
  obtain ⟨v1, vs1, d1, ds1, p1, q1, rfl, rfl, rfl, h1, h⟩ := trodAll_cons h
  obtain ⟨v2, vs2, d2, ds2, p2, q2, rfl, rfl, rfl, h2, h⟩ := trodAll_cons h
  obtain ⟨v3, vs3, d3, ds3, p3, q3, rfl, rfl, rfl, h3, h⟩ := trodAll_cons h
  obtain ⟨v4, vs4, d4, ds4, p4, q4, rfl, rfl, rfl, h4, h⟩ := trodAll_cons h
  obtain ⟨v5, vs5, d5, ds5, p5, q5, rfl, rfl, rfl, h5, h⟩ := trodAll_cons h
  obtain ⟨rfl, rfl, rfl⟩ := trodAll_nil h
  exact ⟨v0, v1, v2, v3, v4, v5, d0, d1, d2, d3, d4, d5, p0, p1, p2, p3, p4, p5, by cases args; simp_all, rfl, by simp, h0, h1, h2, h3, h4, h5⟩
end Go.Proofs.Ytimebochhbfkgaa
