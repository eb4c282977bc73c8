/- The line in memory: types. -/
import Derived.Test.YtodgnpmljdopiaaLkP
import Derived.Test.YtodgnpmljdopiaaTLo
namespace Go.Proofs.Ytodgnpmljdopiaa
open Go Go.Fw Go.RowKit
set_option linter.unusedVariables false
set_option linter.unusedSimpArgs false
set_option maxRecDepth 4000
instance : Sc Try.prog 39 := ⟨by kernel_rfl⟩
instance : Sc Try.prog 40 := ⟨by kernel_rfl⟩
instance : Ag Try.prog 43 2 := ⟨by kernel_rfl⟩
instance : Ag Try.prog 47 4 := ⟨by kernel_rfl⟩
instance : Et Try.prog 39 47 4 48 := ⟨ET.of (by kernel_rfl), by decide⟩
instance : NewC Try.prog 43 [.int .i64 0, .int .i64 0] := ⟨fun _ => by kernel_rfl⟩
instance : Ar Try.prog 43 2 := Ar.of (e := 3) (by kernel_rfl) (by kernel_rfl)
instance : Ar Try.prog 50 2 := Ar.of (e := 26) (by kernel_rfl) (by kernel_rfl)
instance : Ar Try.prog 52 2 := Ar.of (e := 51) (by kernel_rfl) (by kernel_rfl)
instance : PtE Try.prog 40 := ⟨fun _ _ _ _ => by kernel_rfl, fun _ _ _ => by kernel_rfl, fun _ _ _ _ => by kernel_rfl, fun _ _ _ => by kernel_rfl⟩
end Go.Proofs.Ytodgnpmljdopiaa
