/- The disk, in memory of one's own: its small functions. -/
import Derived.Test.YtimebochhbfkgaaTJ
import Derived.Test.YtimebochhbfkgaaFwY
namespace Go.Proofs.Ytimebochhbfkgaa
open Go Go.Fw Go.RowKit
set_option linter.unusedVariables false
set_option linter.unusedSimpArgs false
set_option maxRecDepth 4000

instance : Sc Try.prog 3 := ⟨by kernel_rfl⟩
instance : Sc Try.prog 4 := ⟨by kernel_rfl⟩
instance : Sc Try.prog 5 := ⟨by kernel_rfl⟩
instance : Sc Try.prog 25 := ⟨by kernel_rfl⟩
instance : Sc Try.prog 31 := ⟨by kernel_rfl⟩
instance : Sc Try.prog 74 := ⟨by kernel_rfl⟩
instance : Sc Try.prog 97 := ⟨by kernel_rfl⟩
instance : Et Try.prog 22 31 1 24 := ⟨ET.of (by kernel_rfl), by decide⟩
instance : Et Try.prog 31 5 1 1 := ⟨ET.of (by kernel_rfl), by decide⟩
instance : Et Try.prog 74 97 1 8 := ⟨ET.of (by kernel_rfl), by decide⟩
instance : Ar Try.prog 75 64 := Ar.of (e := 3) (by kernel_rfl) (by kernel_rfl)
instance : Ar Try.prog 102 512 := Ar.of (e := 5) (by kernel_rfl) (by kernel_rfl)
instance : PtE Try.prog 25 := ⟨fun _ _ _ _ => by kernel_rfl, fun _ _ _ => by kernel_rfl, fun _ _ _ _ => by kernel_rfl, fun _ _ _ => by kernel_rfl⟩
instance : PtE Try.prog 97 := ⟨fun _ _ _ _ => by kernel_rfl, fun _ _ _ => by kernel_rfl, fun _ _ _ _ => by kernel_rfl, fun _ _ _ => by kernel_rfl⟩
theorem strB31 : strB Try.prog 31 5 9 = true := by kernel_rfl
theorem build77 (w : World) (a : Option Addr) (l c : Nat) : (Instr.build 77 #[(0, .slice a l c)]).run Try.prog w = .ok (.agg ⟨[.slice a l c, .bool false, .bool false, .int .i64 0, .int .i64 0, .int .i64 0] ++ (List.replicate 64 (0 : Int)).map (.int .i64 ·)⟩) w := by kernel_rfl
theorem build102 (w : World) : (Instr.build 102 #[]).run Try.prog w = .ok (.agg ⟨bys (List.replicate 512 0)⟩) w := by kernel_rfl
theorem bsB31 (w : World) (x : Int) : (Instr.buildSlice 31 1 #[(0, .int .u8 x)]).run Try.prog w = .ok (.slice (some ⟨w.heap.size, 0, none⟩) 1 1) (w.alloc (.cells ⟨[.int .u8 x]⟩ 5)) := by kernel_rfl
variable {w0 w : World} {F : Grps}
theorem num_ok (x : Int) : CallK Try.prog (.int .i64) 20 #[.int .i64 x] w fun (r : Int) w' => w' = w ∧ r = x := by
  refine T20.calls ?_
  unfold T20
  exact ⟨rfl, rfl⟩
theorem same_ok {p q : Sl} {a b : List UInt8} (hp : Rd w p 1 (bys a)) (hq : Rd w q 1 (bys b)) : CallK Try.prog .bool 28 #[.slice p.a p.len p.cap, .slice q.a q.len q.cap] w fun (r : Bool) w' => w' = w ∧ r = decide (a = b) := by
  refine T28.calls ?_
  unfold T28
  refine RunN.toStr strB31 hp ?_
  refine RunN.toStr strB31 hq ?_
  refine ⟨rfl, ?_⟩
  have e : ∀ l : List UInt8, (ByteArray.mk l.toArray).toList = l := fun l => by
    simp [ByteArray.toList_eq]
  rw [e, e, Bool.eq_iff_iff]; simp
end Go.Proofs.Ytimebochhbfkgaa
