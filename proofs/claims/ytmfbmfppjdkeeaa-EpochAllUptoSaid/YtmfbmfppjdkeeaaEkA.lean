/- The epoch's machine in memory: types, places. -/
import Derived.Test.YtmfbmfppjdkeeaaTE
import Derived.Test.YtmfbmfppjdkeeaaFwQ
import Derived.Conc.SmallLaws
namespace Go.Proofs.Ytmfbmfppjdkeeaa
open Go Go.Fw Go.RowKit
set_option linter.unusedVariables false
set_option linter.unusedSimpArgs false
set_option maxRecDepth 4000

instance : Sc Try.prog 3 := ⟨by kernel_rfl⟩
instance : Sc Try.prog 4 := ⟨by kernel_rfl⟩
instance : Sc Try.prog 26 := ⟨by kernel_rfl⟩
instance : Sc Try.prog 42 := ⟨by kernel_rfl⟩
instance : Sc Try.prog 43 := ⟨by kernel_rfl⟩
instance : Sc Try.prog 48 := ⟨by kernel_rfl⟩
instance : Sc Try.prog 49 := ⟨by kernel_rfl⟩
instance : Sc Try.prog 50 := ⟨by kernel_rfl⟩
instance : Sc Try.prog 66 := ⟨by kernel_rfl⟩
instance : Sc Try.prog 78 := ⟨by kernel_rfl⟩
instance : Sc Try.prog 82 := ⟨by kernel_rfl⟩
instance : Sc Try.prog 97 := ⟨by kernel_rfl⟩
instance : Sc Try.prog 109 := ⟨by kernel_rfl⟩
instance : Ag Try.prog 54 2 := ⟨by kernel_rfl⟩
instance : Ag Try.prog 70 6 := ⟨by kernel_rfl⟩
instance : Ag Try.prog 114 6 := ⟨by kernel_rfl⟩
instance : Ag Try.prog 118 4 := ⟨by kernel_rfl⟩
instance : Ag Try.prog 56 12 := ⟨by kernel_rfl⟩
instance : Ag Try.prog 98 16 := ⟨by kernel_rfl⟩
instance : Et Try.prog 26 3 1 8 := ⟨ET.of (by kernel_rfl), by decide⟩
instance : Et Try.prog 66 70 6 48 := ⟨ET.of (by kernel_rfl), by decide⟩
instance : Et Try.prog 78 54 2 16 := ⟨ET.of (by kernel_rfl), by decide⟩
instance : Et Try.prog 82 114 6 48 := ⟨ET.of (by kernel_rfl), by decide⟩
instance : Et Try.prog 109 118 4 32 := ⟨ET.of (by kernel_rfl), by decide⟩
instance : Et Try.prog 49 66 1 24 := ⟨ET.of (by kernel_rfl), by decide⟩
instance : Et Try.prog 50 78 1 24 := ⟨ET.of (by kernel_rfl), by decide⟩
instance : Et Try.prog 22 56 12 88 := ⟨ET.of (by kernel_rfl), by decide⟩
instance : Ar Try.prog 98 16 := Ar.of (e := 3) (by kernel_rfl) (by kernel_rfl)
instance : NewC Try.prog 54 [.int .i64 0, .int .i64 0] := ⟨fun _ => by kernel_rfl⟩
instance : NewC Try.prog 70 [.int .i64 0, .int .i64 0, .int .i64 0, .int .i64 0, .int .i64 0, .int .i64 0] := ⟨fun _ => by kernel_rfl⟩
instance : K2 Try.prog 54 := K2.of (ti := 3) (by kernel_rfl) (by kernel_rfl) (by kernel_rfl) (by kernel_rfl) (fun _ _ _ => by kernel_rfl) (fun _ _ _ => by kernel_rfl) (fun _ _ _ _ => by kernel_rfl) (by kernel_rfl)
instance : PtE Try.prog 42 := ⟨fun _ _ _ _ => by kernel_rfl, fun _ _ _ => by kernel_rfl, fun _ _ _ _ => by kernel_rfl, fun _ _ _ => by kernel_rfl⟩
instance : PtE Try.prog 43 := ⟨fun _ _ _ _ => by kernel_rfl, fun _ _ _ => by kernel_rfl, fun _ _ _ _ => by kernel_rfl, fun _ _ _ => by kernel_rfl⟩
theorem zero70 (w : World) : (zeroValue 70).run Try.prog w = .ok (.agg ⟨[.int .i64 0, .int .i64 0, .int .i64 0, .int .i64 0, .int .i64 0, .int .i64 0]⟩) w := by kernel_rfl
theorem max_i (w : World) (a b : Int) : (Builtin.max_ #[3, 3] 3 #[.int .i64 a, .int .i64 b]).run Try.prog w = .ok (.int .i64 (max a b)) w := by
  rw [run_max_int2]
  congr 2
  omega
end Go.Proofs.Ytmfbmfppjdkeeaa
