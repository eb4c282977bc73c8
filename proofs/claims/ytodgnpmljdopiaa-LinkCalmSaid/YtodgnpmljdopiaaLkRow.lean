/- What a law of the link reads of its arguments. -/
import Derived.Test.YtodgnpmljdopiaaLkM
import Derived.Test.YtodgnpmljdopiaaFwR
import Derived.Test.YtodgnpmljdopiaaRows
namespace Go.Proofs.Ytodgnpmljdopiaa
open Go.ChangeShapes Go.WideShapes Go.ChangeAt Go.RowKit Go Go.Fw
set_option linter.unusedVariables false
set_option linter.unusedSimpArgs false
set_option maxRecDepth 20000

theorem own : ownKnob Try.prog.godebug = none := by kernel_rfl
theorem laidOut : laidOutB Try.prog = true := by kernel_rfl
theorem u3 : Try.prog.underlying 3 = some (.int .i64) := by kernel_rfl
theorem u4 : Try.prog.underlying 4 = some .bool := by kernel_rfl
end Go.Proofs.Ytodgnpmljdopiaa
