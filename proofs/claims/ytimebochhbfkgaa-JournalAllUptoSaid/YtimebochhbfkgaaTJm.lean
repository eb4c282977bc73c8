import Derived.Test.YtimebochhbfkgaaTJ
namespace Go.Proofs.Ytimebochhbfkgaa
open Go Go.Fw Go.Proofs
set_option maxRecDepth 100000
set_option maxHeartbeats 400000
set_option linter.unusedVariables false

/-- sluice/journal.mark -/
def T37 (p0 : Int) (p1 : Int) (p2 : Int) (w : World) (K : Sl → World → Prop) : Prop :=
  RunN Try.prog .sl (V (Instr.buildSlice 31 7 #[(0, .int .u8 (IntKind.u8.wrap p0)), (1, .int .u8 (IntKind.u8.wrap (Int.fdiv p0 256))), (2, .int .u8 (IntKind.u8.wrap (Int.fdiv p0 65536))), (3, .int .u8 (IntKind.u8.wrap (Int.fdiv p0 16777216))), (4, .int .u8 (IntKind.u8.wrap p1)), (5, .int .u8 (IntKind.u8.wrap p2)), (6, .int .u8 (IntKind.u8.wrap (Int.fdiv p2 256)))])) w fun t26 w =>
  CallK Try.prog (.int .i64) 35 #[.int .i64 p2] w fun t29 w =>
  SplitB (p1 == (IntKind.i64.wrap (t29 - 1)))
    (RunN Try.prog .sl (V (Instr.buildSlice 31 1 #[(0, .int .u8 2)])) w fun t33 w =>
    RunN Try.prog .sl (V (Builtin.append_ #[31, 31] 31 #[.slice t26.a t26.len t26.cap, .slice t33.a t33.len t33.cap])) w fun t34 w =>
    K t34 w)
    (RunN Try.prog .sl (V (Instr.buildSlice 31 1 #[(0, .int .u8 1)])) w fun t36 w =>
    RunN Try.prog .sl (V (Builtin.append_ #[31, 31] 31 #[.slice t26.a t26.len t26.cap, .slice t36.a t36.len t36.cap])) w fun t37 w =>
    K t37 w)
theorem T37.eq (p0 p1 p2 : Int) (w : World) (K : Sl → World → Prop) : T37 p0 p1 p2 w K = bodyZ Try.prog kappa [] .sl Try.f37 [.int .i64 p0, .int .i64 p1, .int .i64 p2] w K := by kernel_rfl
theorem T37.calls {p0 : Int} {p1 : Int} {p2 : Int} {w : World} {K : Sl → World → Prop} (h : T37 p0 p1 p2 w K) : CallK Try.prog .sl 37 #[.int .i64 p0, .int .i64 p1, .int .i64 p2] w K := by
  refine bodyZ_sound (P := Try.prog) (κ := kappa) (ann := []) (kd := .sl) (f := 37) (fn := Try.f37) (args := [.int .i64 p0, .int .i64 p1, .int .i64 p2]) Try.func37 (by kernel_rfl) (by kernel_rfl) ?_
  rw [← T37.eq]
  exact h
end Go.Proofs.Ytimebochhbfkgaa
