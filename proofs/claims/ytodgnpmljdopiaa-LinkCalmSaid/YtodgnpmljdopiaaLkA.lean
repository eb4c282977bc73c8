/- The link in memory: types. -/
import Derived.Test.YtodgnpmljdopiaaTLk
import Derived.Test.YtodgnpmljdopiaaFwO
namespace Go.Proofs.Ytodgnpmljdopiaa
open Go Go.Fw Go.RowKit
set_option linter.unusedVariables false
set_option linter.unusedSimpArgs false
set_option maxRecDepth 4000

instance : Sc Try.prog 3 := ⟨by kernel_rfl⟩
instance : Sc Try.prog 4 := ⟨by kernel_rfl⟩
instance : Sc Try.prog 5 := ⟨by kernel_rfl⟩
instance : Sc Try.prog 26 := ⟨by kernel_rfl⟩
instance : Sc Try.prog 27 := ⟨by kernel_rfl⟩
instance : Sc Try.prog 33 := ⟨by kernel_rfl⟩
instance : Sc Try.prog 45 := ⟨by kernel_rfl⟩
instance : Sc Try.prog 51 := ⟨by kernel_rfl⟩
instance : Sc Try.prog 74 := ⟨by kernel_rfl⟩
instance : Sc Try.prog 75 := ⟨by kernel_rfl⟩
instance : Sc Try.prog 76 := ⟨by kernel_rfl⟩
instance : Ag Try.prog 62 5 := ⟨by kernel_rfl⟩
instance : Ag Try.prog 81 2 := ⟨by kernel_rfl⟩
instance : Et Try.prog 45 5 1 1 := ⟨ET.of (by kernel_rfl), by decide⟩
instance : Et Try.prog 51 45 1 24 := ⟨ET.of (by kernel_rfl), by decide⟩
instance : Et Try.prog 33 62 5 56 := ⟨ET.of (by kernel_rfl), by decide⟩
instance : Et Try.prog 75 81 2 32 := ⟨ET.of (by kernel_rfl), by decide⟩
instance : NewC Try.prog 81 [.int .i64 0, .slice none 0 0] := ⟨fun _ => by kernel_rfl⟩
instance : NewC Try.prog 62 [.int .i64 0, .int .i64 0, .int .i64 0, .int .i64 0, .slice none 0 0] := ⟨fun _ => by kernel_rfl⟩
instance : PtE Try.prog 23 := ⟨fun _ _ _ _ => by kernel_rfl, fun _ _ _ => by kernel_rfl, fun _ _ _ _ => by kernel_rfl, fun _ _ _ => by kernel_rfl⟩
instance : PtE Try.prog 26 := ⟨fun _ _ _ _ => by kernel_rfl, fun _ _ _ => by kernel_rfl, fun _ _ _ _ => by kernel_rfl, fun _ _ _ => by kernel_rfl⟩
instance : PtE Try.prog 27 := ⟨fun _ _ _ _ => by kernel_rfl, fun _ _ _ => by kernel_rfl, fun _ _ _ _ => by kernel_rfl, fun _ _ _ => by kernel_rfl⟩
theorem zero81 (w : World) : (zeroValue 81).run Try.prog w = .ok (.agg ⟨[.int .i64 0, .slice none 0 0]⟩) w := by kernel_rfl
theorem zero45 (w : World) : (zeroValue 45).run Try.prog w = .ok (.slice none 0 0) w := by kernel_rfl
theorem strB45 : strB Try.prog 45 5 9 = true := by kernel_rfl
theorem map76 : Try.prog.underlying 76 = some (.map 3 45) := by kernel_rfl
theorem int3 : Try.prog.underlying 3 = some (.int .i64) := by kernel_rfl
theorem bs45e (w : World) : (Instr.buildSlice 45 0 #[]).run Try.prog w = .ok (.slice (some ⟨w.heap.size, 0, none⟩) 0 0) (w.alloc (.cells ⟨[]⟩ 5)) := by kernel_rfl
theorem bs45 (w : World) (x : Int) : (Instr.buildSlice 45 1 #[(0, .int .u8 x)]).run Try.prog w = .ok (.slice (some ⟨w.heap.size, 0, none⟩) 1 1) (w.alloc (.cells ⟨[.int .u8 x]⟩ 5)) := by kernel_rfl
theorem bs45m (w : World) (x y z : Int) : (Instr.buildSlice 45 3 #[(0, .int .u8 x), (1, .int .u8 y), (2, .int .u8 z)]).run Try.prog w = .ok (.slice (some ⟨w.heap.size, 0, none⟩) 3 3) (w.alloc (.cells ⟨[.int .u8 x, .int .u8 y, .int .u8 z]⟩ 5)) := by kernel_rfl
theorem bs51 (w : World) (a : Option Addr) (l c : Nat) : (Instr.buildSlice 51 1 #[(0, .slice a l c)]).run Try.prog w = .ok (.slice (some ⟨w.heap.size, 0, none⟩) 1 1) (w.alloc (.cells ⟨[.slice a l c]⟩ 45)) := by kernel_rfl
theorem bs75 (w : World) (x : Int) (a : Option Addr) (l c : Nat) : (Instr.buildSlice 75 1 #[(0, .agg #[.int .i64 x, .slice a l c])]).run Try.prog w = .ok (.slice (some ⟨w.heap.size, 0, none⟩) 1 1) (w.alloc (.cells ⟨[.int .i64 x, .slice a l c]⟩ 81)) := by kernel_rfl
theorem bs33 (w : World) (x y z u : Int) (a : Option Addr) (l c : Nat) : (Instr.buildSlice 33 1 #[(0, .agg #[.int .i64 x, .int .i64 y, .int .i64 z, .int .i64 u, .slice a l c])]).run Try.prog w = .ok (.slice (some ⟨w.heap.size, 0, none⟩) 1 1) (w.alloc (.cells ⟨[.int .i64 x, .int .i64 y, .int .i64 z, .int .i64 u, .slice a l c]⟩ 62)) := by kernel_rfl
theorem eqnil45s (w : World) (x y : Operand) (a : Addr) (l c : Nat) : (do eqGuard .eql 45 x y (.slice (some a) l c) (.slice none 0 0); binOp .eql 45 (.slice (some a) l c) (.slice none 0 0) : Sem Value).run Try.prog w = .ok (.bool false) w := by kernel_rfl
theorem eqnil45n (w : World) (x y : Operand) (l c : Nat) : (do eqGuard .eql 45 x y (.slice none l c) (.slice none 0 0); binOp .eql 45 (.slice none l c) (.slice none 0 0) : Sem Value).run Try.prog w = .ok (.bool true) w := by kernel_rfl
end Go.Proofs.Ytodgnpmljdopiaa
