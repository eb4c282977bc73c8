/- The cache: types, small functions. -/
import Derived.Test.YtbdhmeefjlkdcaaTC
import Derived.Test.YtbdhmeefjlkdcaaFwK
namespace Go.Proofs.Ytbdhmeefjlkdcaa
open Go Go.Fw Go.RowKit
set_option linter.unusedVariables false
set_option linter.unusedSimpArgs false
set_option maxRecDepth 4000

instance : Sc Try.prog 3 := ⟨by kernel_rfl⟩
instance : Sc Try.prog 36 := ⟨by kernel_rfl⟩
instance : Sc Try.prog 54 := ⟨by kernel_rfl⟩
instance : Sc Try.prog 50 := ⟨by kernel_rfl⟩
instance : Sc Try.prog 55 := ⟨by kernel_rfl⟩
instance : Sc Try.prog 60 := ⟨by kernel_rfl⟩
instance : Sc Try.prog 62 := ⟨by kernel_rfl⟩
instance : Sc Try.prog 78 := ⟨by kernel_rfl⟩
instance : Ag Try.prog 32 2 := ⟨by kernel_rfl⟩
instance : Ag Try.prog 43 4 := ⟨by kernel_rfl⟩
instance : Ag Try.prog 34 5 := ⟨by kernel_rfl⟩
instance : Et Try.prog 50 3 1 8 := ⟨ET.of (by kernel_rfl), by decide⟩
instance : Et Try.prog 60 32 2 16 := ⟨ET.of (by kernel_rfl), by decide⟩
instance : Et Try.prog 78 43 4 32 := ⟨ET.of (by kernel_rfl), by decide⟩
instance : Et Try.prog 22 34 5 40 := ⟨ET.of (by kernel_rfl), by decide⟩
instance : Et Try.prog 55 60 1 24 := ⟨ET.of (by kernel_rfl), by decide⟩
instance : Ar Try.prog 51 64 := Ar.of (e := 3) (by kernel_rfl) (by kernel_rfl)
instance : Ars Try.prog 66 16 4 := Ars.of (e := 43) (by kernel_rfl) (by kernel_rfl)
instance : PtE Try.prog 26 := ⟨fun _ _ _ _ => by kernel_rfl, fun _ _ _ => by kernel_rfl, fun _ _ _ _ => by kernel_rfl, fun _ _ _ => by kernel_rfl⟩
instance : PtE Try.prog 36 := ⟨fun _ _ _ _ => by kernel_rfl, fun _ _ _ => by kernel_rfl, fun _ _ _ _ => by kernel_rfl, fun _ _ _ => by kernel_rfl⟩
instance : PtE Try.prog 54 := ⟨fun _ _ _ _ => by kernel_rfl, fun _ _ _ => by kernel_rfl, fun _ _ _ _ => by kernel_rfl, fun _ _ _ => by kernel_rfl⟩
instance : PtE Try.prog 65 := ⟨fun _ _ _ _ => by kernel_rfl, fun _ _ _ => by kernel_rfl, fun _ _ _ _ => by kernel_rfl, fun _ _ _ => by kernel_rfl⟩
instance : NewC Try.prog 43 [.int .i64 0, .int .i64 0, .int .i64 0, .int .i64 0] := ⟨fun _ => by kernel_rfl⟩
instance : NewC Try.prog 32 [.int .i64 0, .int .i64 0] := ⟨fun _ => by kernel_rfl⟩
instance : NewC Try.prog 34 [.int .i64 0, .int .i64 0, .int .i64 0, .int .i64 0, .int .i64 0] := ⟨fun _ => by kernel_rfl⟩
instance : NewC Try.prog 51 (List.replicate 64 (.int .i64 0)) := ⟨fun _ => by kernel_rfl⟩
theorem k2_32 (d : Nat) (w : World) (a b c e : Int) : (Op.equalIn (d + 2) 32 (kv2 a b) (kv2 c e)).run Try.prog w = .ok (a == c && b == e) w :=
  k2_run (ti := 3) (by kernel_rfl) (by kernel_rfl) (by kernel_rfl) (by kernel_rfl) (fun _ _ _ => by kernel_rfl) (fun _ _ _ => by kernel_rfl) d w a b c e
instance : K2 Try.prog 32 := K2.of (ti := 3) (by kernel_rfl) (by kernel_rfl) (by kernel_rfl) (by kernel_rfl) (fun _ _ _ => by kernel_rfl) (fun _ _ _ => by kernel_rfl) (fun _ _ _ _ => by kernel_rfl) (by kernel_rfl)
instance : K2 Try.prog 70 := K2.of (ti := 3) (by kernel_rfl) (by kernel_rfl) (by kernel_rfl) (by kernel_rfl) (fun _ _ _ => by kernel_rfl) (fun _ _ _ => by kernel_rfl) (fun _ _ _ _ => by kernel_rfl) (by kernel_rfl)
instance : K4 Try.prog 43 := K4.of (t2 := 32) (ti := 37) (ti' := 3) (by kernel_rfl) (by kernel_rfl) (by kernel_rfl) (by kernel_rfl) (by kernel_rfl) k2_32 (fun _ _ _ _ _ => by kernel_rfl) (fun _ _ _ _ _ => by kernel_rfl) (fun _ _ _ _ _ => by kernel_rfl) (by kernel_rfl)
theorem map62 : Try.prog.underlying 62 = some (.map 70 65) := by kernel_rfl
theorem zero65 (w : World) : (zeroValue 65).run Try.prog w = .ok (.pointer none) w := by kernel_rfl
end Go.Proofs.Ytbdhmeefjlkdcaa
