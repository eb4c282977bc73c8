import Derived.Test.YtimebochhbfkgaaTJ2
namespace Go.Proofs.Ytimebochhbfkgaa
open Go Go.Fw Go.Proofs
set_option maxRecDepth 100000
set_option maxHeartbeats 400000
set_option linter.unusedVariables false

/-- sluice/sluiceref21.mark -/
def T63 (p0 : Int) (p1 : Int) (p2 : Int) (w : World) (K : Sl → World → Prop) : Prop :=
  JoinX (α := Int × Unit) (fun j2 w =>
    RunN Try.prog .sl (V (Instr.buildSlice 31 8 #[(0, .int .u8 (IntKind.u8.wrap p0)), (1, .int .u8 (IntKind.u8.wrap (Int.fdiv p0 256))), (2, .int .u8 (IntKind.u8.wrap (Int.fdiv p0 65536))), (3, .int .u8 (IntKind.u8.wrap (Int.fdiv p0 16777216))), (4, .int .u8 (IntKind.u8.wrap p1)), (5, .int .u8 (IntKind.u8.wrap p2)), (6, .int .u8 (IntKind.u8.wrap (Int.fdiv p2 256))), (7, .int .u8 (IntKind.u8.wrap j2.1))])) w fun t33 w =>
    K t33 w)
  fun k1 =>
    CallK Try.prog (.int .i64) 48 #[.int .i64 p2] w fun t10 w =>
    SplitB (p1 == (IntKind.i64.wrap (t10 - 1)))
      (k1 (2, ()) w)
      (k1 (1, ()) w)
theorem T63.eq (p0 p1 p2 : Int) (w : World) (K : Sl → World → Prop) : T63 p0 p1 p2 w K = bodyZ Try.prog kappa [] .sl Try.f63 [.int .i64 p0, .int .i64 p1, .int .i64 p2] w K := by kernel_rfl
theorem T63.calls {p0 : Int} {p1 : Int} {p2 : Int} {w : World} {K : Sl → World → Prop} (h : T63 p0 p1 p2 w K) : CallK Try.prog .sl 63 #[.int .i64 p0, .int .i64 p1, .int .i64 p2] w K := by
  refine bodyZ_sound (P := Try.prog) (κ := kappa) (ann := []) (kd := .sl) (f := 63) (fn := Try.f63) (args := [.int .i64 p0, .int .i64 p1, .int .i64 p2]) Try.func63 (by kernel_rfl) (by kernel_rfl) ?_
  rw [← T63.eq]
  exact h
end Go.Proofs.Ytimebochhbfkgaa
