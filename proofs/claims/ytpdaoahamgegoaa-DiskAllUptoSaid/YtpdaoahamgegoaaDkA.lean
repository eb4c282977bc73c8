/- The disk, in memory of one's own: its small functions. -/
import Derived.Test.YtpdaoahamgegoaaTD
import Derived.Test.YtpdaoahamgegoaaFwW
namespace Go.Proofs.Ytpdaoahamgegoaa
open Go Go.Fw Go.RowKit
set_option linter.unusedVariables false
set_option linter.unusedSimpArgs false
set_option maxRecDepth 4000

instance : Sc Try.prog 3 := ⟨by kernel_rfl⟩
instance : Sc Try.prog 4 := ⟨by kernel_rfl⟩
instance : Sc Try.prog 5 := ⟨by kernel_rfl⟩
instance : Sc Try.prog 24 := ⟨by kernel_rfl⟩
instance : Sc Try.prog 30 := ⟨by kernel_rfl⟩
instance : Sc Try.prog 68 := ⟨by kernel_rfl⟩
instance : Sc Try.prog 80 := ⟨by kernel_rfl⟩
instance : Et Try.prog 22 34 2 16 := ⟨ET.of (by kernel_rfl), by decide⟩
instance : Et Try.prog 29 30 1 24 := ⟨ET.of (by kernel_rfl), by decide⟩
instance : Et Try.prog 30 5 1 1 := ⟨ET.of (by kernel_rfl), by decide⟩
instance : Et Try.prog 44 3 1 8 := ⟨ET.of (by kernel_rfl), by decide⟩
instance : Et Try.prog 68 80 1 8 := ⟨ET.of (by kernel_rfl), by decide⟩
instance : Ar Try.prog 69 64 := Ar.of (e := 3) (by kernel_rfl) (by kernel_rfl)
instance : Ar Try.prog 82 512 := Ar.of (e := 5) (by kernel_rfl) (by kernel_rfl)
instance : PtE Try.prog 24 := ⟨fun _ _ _ _ => by kernel_rfl, fun _ _ _ => by kernel_rfl, fun _ _ _ _ => by kernel_rfl, fun _ _ _ => by kernel_rfl⟩
instance : PtE Try.prog 80 := ⟨fun _ _ _ _ => by kernel_rfl, fun _ _ _ => by kernel_rfl, fun _ _ _ _ => by kernel_rfl, fun _ _ _ => by kernel_rfl⟩
theorem str30 : strB Try.prog 30 5 9 = true := by kernel_rfl
theorem build71 (w : World) (a : Option Addr) (l c : Nat) : (Instr.build 71 #[(0, .slice a l c)]).run Try.prog w = .ok (.agg ⟨[.slice a l c, .bool false, .bool false, .int .i64 0, .int .i64 0, .int .i64 0] ++ (List.replicate 64 (0 : Int)).map (.int .i64 ·)⟩) w := by kernel_rfl
theorem build82 (w : World) : (Instr.build 82 #[]).run Try.prog w = .ok (.agg ⟨bys (List.replicate 512 0)⟩) w := by kernel_rfl
theorem bs29 (w : World) (v : Value) (h : v.oneCell' = true) : (Instr.buildSlice 29 1 #[(0, v)]).run Try.prog w = .ok (.slice (some ⟨w.heap.size, 0, none⟩) 1 1) (w.alloc (.cells ⟨[v]⟩ 30)) := by
  cases v <;> first | (cases h; done) | kernel_rfl
theorem bs30 (w : World) (x : Int) : (Instr.buildSlice 30 1 #[(0, .int .u8 x)]).run Try.prog w = .ok (.slice (some ⟨w.heap.size, 0, none⟩) 1 1) (w.alloc (.cells ⟨[.int .u8 x]⟩ 5)) := by kernel_rfl
theorem bs44 (w : World) (x : Int) : (Instr.buildSlice 44 1 #[(0, .int .i64 x)]).run Try.prog w = .ok (.slice (some ⟨w.heap.size, 0, none⟩) 1 1) (w.alloc (.cells ⟨[.int .i64 x]⟩ 3)) := by kernel_rfl

variable {w0 w : World} {F : Grps}
theorem count_ok (x : Int) : CallK Try.prog (.int .i64) 10 #[.int .i64 x] w fun (r : Int) w' => w' = w ∧ ∃ n : Nat, r = (n : Int) ∧ 1 ≤ n ∧ n ≤ 64 := by
  refine T10.calls ?_
  unfold T10
  have h : (BitVec.ofInt IntKind.i64.bits x &&& BitVec.ofInt IntKind.i64.bits 63).toNat ≤ 63 := by
    rw [BitVec.toNat_and]
    have : (BitVec.ofInt IntKind.i64.bits 63).toNat = 63 := by decide
    rw [this]; exact Nat.and_le_right
  unfold bitAnd
  generalize (BitVec.ofInt IntKind.i64.bits x &&& BitVec.ofInt IntKind.i64.bits 63).toNat = n at h
  rw [wr (x := (n : Int)) ⟨by omega, by omega⟩, wr ⟨by omega, by omega⟩]
  exact ⟨rfl, 1 + n, by omega, by omega, by omega⟩
theorem num_ok (x : Int) : CallK Try.prog (.int .i64) 12 #[.int .i64 x] w fun (r : Int) w' => w' = w ∧ r = x := by
  refine T12.calls ?_
  unfold T12
  exact ⟨rfl, rfl⟩
def slotI (i n : Int) : Int := if Int.tmod i n < 0 then Int.tmod i n + n else Int.tmod i n
theorem slotI_lt {i n : Int} (h0 : 0 < n) : 0 ≤ slotI i n ∧ slotI i n < n := by
  have h1 : Int.tmod i n < n := Int.tmod_lt_of_pos i h0
  have h2 : -n < Int.tmod i n := Int.lt_tmod_of_pos i h0
  unfold slotI
  split <;> omega
theorem slot_ok {i n : Int} (h0 : 0 < n) (hn : n ≤ 4611686018427387904) : CallK Try.prog (.int .i64) 14 #[.int .i64 i, .int .i64 n] w fun (r : Int) w' => w' = w ∧ r = slotI i n := by
  refine T14.calls ?_
  unfold T14
  have hne : n ≠ 0 := by omega
  refine RunN.of (kd := .int .i64) (x := Int.tmod i n) (w' := w) (by simp [binOp, Op.intDiv, hne, Kd.val]) ?_
  have h1 : Int.tmod i n < n := Int.tmod_lt_of_pos i h0
  have h2 : -n < Int.tmod i n := Int.lt_tmod_of_pos i h0
  rw [SplitB_iff]
  constructor
  · intro h
    have h : Int.tmod i n < 0 := of_decide_eq_true h
    rw [wr ⟨by omega, by omega⟩]
    exact ⟨rfl, by simp only [slotI, if_pos h]⟩
  · intro h
    have h : ¬ Int.tmod i n < 0 := of_decide_eq_false h
    exact ⟨rfl, by simp only [slotI, if_neg h]⟩
/-- 512 bytes of a kind. -/
theorem full_st (b : UInt8) (h : St w0 w F) : CallK Try.prog .sl 13 #[.int .u8 (b.toNat : Int)] w fun (r : Sl) w' => r.len = 512 ∧ St w0 w' ([.row 5 1 r (bys (List.replicate 512 b))] :: F) := by
  refine T13.calls ?_
  unfold T13
  have h := h.nilrow 5 1
  refine LoopX.mk (fun st w' => ∃ k : Nat, k ≤ 512 ∧ st.2.1 = (k : Int) ∧ st.1.len = k ∧ St w0 w' ([.row 5 1 st.1 (bys (List.replicate k b))] :: F)) (fun st => 512 - st.2.1.toNat) ⟨0, by omega, rfl, rfl, h⟩ ?_
  clear h
  rintro ⟨d, _, ⟨⟩⟩ w ⟨k, hk, rfl, hd, h⟩ K hK
  dsimp only at h hK hd ⊢
  rw [SplitB_iff]
  refine ⟨fun hc => ?_, fun hc => ?_⟩
  · have hc : k < 512 := by have := of_decide_eq_true hc; omega
    refine h.newS 1 (bs30 _ _) rfl rfl rfl ?_
    intro u w hl hcp _ h
    refine h.app 1 0 ⟨_, rfl, rfl⟩ (h.rd (k := 0) (i := 0) ⟨_, rfl, rfl⟩) one_int (by simp only [maxLen]; omega) (by omega) ?_
    intro d' w hl' h
    dsimp only [updG, setO] at h
    refine hK _ _ ⟨k + 1, by omega, by dsimp only; rw [wr (by omega)]; omega, by dsimp only; omega, ?_⟩ (by dsimp only; rw [wr (by omega)]; omega)
    have e : bys (List.replicate k b) ++ [Value.int .u8 (b.toNat : Int)] = bys (List.replicate (k + 1) b) := by
      rw [List.replicate_succ', bys_append]; rfl
    rw [e] at h
    exact h.drop 0
  · have hc : k = 512 := by have := of_decide_eq_false hc; omega
    subst hc
    exact ⟨hd, h⟩
theorem same_ok {p q : Sl} {a b : List UInt8} (hp : Rd w p 1 (bys a)) (hq : Rd w q 1 (bys b)) : CallK Try.prog .bool 28 #[.slice p.a p.len p.cap, .slice q.a q.len q.cap] w fun (r : Bool) w' => w' = w ∧ r = decide (a = b) := by
  refine T28.calls ?_
  unfold T28
  refine RunN.toStr str30 hp ?_
  refine RunN.toStr str30 hq ?_
  refine ⟨rfl, ?_⟩
  have e : ∀ l : List UInt8, (ByteArray.mk l.toArray).toList = l := fun l => by
    simp [ByteArray.toList_eq]
  rw [e, e, Bool.eq_iff_iff]; simp
end Go.Proofs.Ytpdaoahamgegoaa
