/- The link: the examples. -/
import Derived.Test.YtodgnpmljdopiaaLkI
namespace Go.Proofs.Ytodgnpmljdopiaa
open Go Go.Fw Go.RowKit
set_option linter.unusedVariables false
set_option linter.unusedSimpArgs false
set_option maxRecDepth 4000
set_option maxHeartbeats 4000000
variable {w0 w : World} {F G : Grps}

theorem lit_rdf {w : World} {x : Int} {fr : Nat × Nat} : Rd (w.alloc (.cells ⟨[.int .u8 x]⟩ 5 fr)) ⟨some ⟨w.heap.size, 0, none⟩, 1, 1⟩ 1 [.int .u8 x] := by
  refine ⟨by simp, .inr ⟨w.heap.size, 0, rfl, fun i v hv => ?_⟩, Nat.le_refl _⟩
  rw [cell_of_row _ _ _ ⟨[.int .u8 x]⟩ 5 fr (heap_alloc_new w _)]
  simpa using hv
/-- Bytes of a literal string. -/
theorem lit45 (h : St w0 w G) (x : Int) {K : Sl → World → Prop} (hk : ∀ (s : Sl) w', s.len = 1 → St w0 w' ([.ro s 1 [.int .u8 x]] :: G) → K s w') :
    RunN Try.prog .sl (V (Instr.buildSlice 45 1 #[(0, .int .u8 x)])) w fun u w => RunN Try.prog .sl (V (convert 45 45 (.slice u.a u.len u.cap))) w K := by
  refine RunN.of (kd := .sl) (x := ⟨some ⟨w.heap.size, 0, none⟩, 1, 1⟩) (bs45 w x) ?_
  refine RunN.of (kd := .sl) (x := ⟨some ⟨w.heap.size, 0, none⟩, 1, 1⟩) (w' := w.alloc (.cells ⟨[.int .u8 x]⟩ 5 (1, 2))) (Lib.run_convert_bytes_const w 45 5 ⟨[.int .u8 x]⟩ 1 1 (Et.h (P := Try.prog) (t := 45)).ht (by kernel_rfl)) ?_
  refine hk _ _ rfl (h.new (Upd.alloc _ _ _) ⟨⟨fun b hb => ?_, lit_rdf⟩, fun v hv => ?_⟩ fun j hj => ?_)
  · simp [Sl.blk] at hb; subst hb
    exact ⟨h.upd.size, by simp⟩
  · simp [Ent.vals] at hv; subst hv; rfl
  · simp [Ent.blk, Sl.blk] at hj; omega
theorem same_ok {p q : Sl} {a b : List UInt8} (hp : Rd w p 1 (bys a)) (hq : Rd w q 1 (bys b)) : CallK Try.prog .bool 25 #[.slice p.a p.len p.cap, .slice q.a q.len q.cap] w fun (r : Bool) w' => w' = w ∧ r = decide (a = b) := by
  refine T25.calls ?_
  unfold T25
  refine RunN.toStr strB45 hp ?_
  refine RunN.toStr strB45 hq ?_
  refine ⟨rfl, ?_⟩
  have e : ∀ l : List UInt8, (ByteArray.mk l.toArray).toList = l := fun l => by
    simp [ByteArray.toList_eq]
  rw [e, e, Bool.eq_iff_iff]; simp
theorem ro_sees {s : Sl} {vs : List Value} {sz : Nat} : SeesG w0 ([.ro s sz vs] :: F) s sz vs := fun w h => h.rdo (k := 0) (i := 0) ⟨_, rfl, rfl⟩
theorem nil_sees : SeesG w0 F ⟨none, 0, 0⟩ 1 (bys []) := fun w _ => Rd.nil w 1
end Go.Proofs.Ytodgnpmljdopiaa
