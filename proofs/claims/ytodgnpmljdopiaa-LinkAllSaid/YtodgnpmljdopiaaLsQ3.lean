/- Words and steps, part 3: Memory as a reader of code meets it: slices that are read, slices that are owned, what an operation leaves as it was; and what each operation on memory comes to. A store into memory that is owned. Variables and rows in memory: what is loaded, stored, copied, cleared. -/
import Derived.Test.YtodgnpmljdopiaaProg
import Derived.Below
import Derived.Deep.AppendSrc
import Derived.Laws.BytesString
import Derived.Lib.ConvBytes
import Derived.Laws.Slices
import Derived.Laws.MakeOwn
import Derived.Laws.Tables
import Derived.Laws.Cells
import Derived.IntWalk
import Derived.Test.YtodgnpmljdopiaaLsQ2
namespace Go.Proofs.Ytodgnpmljdopiaa
open Go Go.Fw Go.Proofs
set_option maxRecDepth 100000
set_option linter.unusedVariables false
def kappa : List Kd := [(.tup .nilT), .raw, (.int .i64), (.int .i64), .bool, (.int .u8), (.int .u8), (.agg (.cons (.int .i64) (.cons (.int .i64) (.cons .bool (.cons (.int .u8) .nilT))))), (.agg (.cons (.int .i64) (.cons (.int .i64) (.cons .bool (.cons (.int .u8) .nilT))))), .str, .str, .str, (.int .u64), (.agg (.cons .str (.cons (.int .u64) .nilT))), (.agg (.cons .str (.cons (.int .u64) .nilT))), .ptr, .ptr, .ptr, (.agg (.cons .ptr .nilT)), (.agg (.cons .ptr .nilT)), .raw, (.int .i32), .raw, .ptr, (.tup (.cons .ptr (.cons .bool .nilT))), .raw, .ptr, .ptr, .ptr, .ptr, (.agg (.cons .ptr (.cons .ptr (.cons .ptr (.cons .ptr .nilT))))), (.agg (.cons .ptr (.cons .ptr (.cons .ptr (.cons .ptr .nilT))))), .raw, .sl, .raw, .raw, .sl, .raw, .raw, .sl, .ptr, .raw, .raw, (.agg (.cons (.int .i64) (.cons (.int .i64) .nilT))), .raw, .sl, (.agg (.cons (.int .i64) (.cons (.int .i64) (.cons (.int .i64) (.cons .sl .nilT))))), (.agg (.cons (.int .i64) (.cons (.int .i64) (.cons (.int .i64) (.cons .sl .nilT))))), .raw, .raw, (.agg (.cons .ptr (.cons .ptr .nilT))), .sl, (.agg (.cons .sl (.cons .sl .nilT))), (.agg (.cons .ptr (.cons .ptr (.cons .sl (.cons .sl (.cons (.int .i64) (.cons (.int .i64) (.cons .sl .nilT)))))))), (.agg (.cons .ptr (.cons .ptr (.cons .sl (.cons .sl (.cons (.int .i64) (.cons (.int .i64) (.cons .sl .nilT)))))))), .raw, (.int .i64), (.tup (.cons .ptr (.cons (.int .i64) .nilT))), .raw, .raw, .raw, (.agg (.cons (.int .i64) (.cons (.int .i64) (.cons (.int .i64) (.cons (.int .i64) (.cons .sl .nilT)))))), (.agg (.cons (.int .i64) (.cons (.int .i64) (.cons (.int .i64) (.cons (.int .i64) (.cons .sl .nilT)))))), .raw, .raw, (.tup (.cons .sl (.cons (.int .i64) .nilT))), .raw, (.tup (.cons .ptr (.cons (.int .i64) .nilT))), .raw, (.agg (.cons .sl (.cons (.int .i64) .nilT))), (.agg (.cons .sl (.cons (.int .i64) .nilT))), .sl, (.agg (.cons .sl (.cons (.int .i64) .nilT))), (.agg (.cons .sl (.cons (.int .i64) .nilT))), .chan, .sl, .map, (.agg (.cons (.int .i64) (.cons (.int .i64) (.cons (.int .i64) (.cons (.int .i64) (.cons .chan (.cons .sl (.cons (.int .i64) (.cons (.int .i64) (.cons (.int .i64) (.cons .map (.cons .bool (.cons .bool (.cons (.int .i64) .nilT)))))))))))))), (.agg (.cons (.int .i64) (.cons (.int .i64) (.cons (.int .i64) (.cons (.int .i64) (.cons .chan (.cons .sl (.cons (.int .i64) (.cons (.int .i64) (.cons (.int .i64) (.cons .map (.cons .bool (.cons .bool (.cons (.int .i64) .nilT)))))))))))))), .raw, (.agg (.cons (.int .i64) (.cons .sl .nilT))), (.agg (.cons (.int .i64) (.cons .sl .nilT))), .ptr, (.agg (.cons .sl .nilT)), (.agg (.cons .sl .nilT)), (.agg (.cons (.int .i64) (.cons (.int .i64) (.cons (.int .i64) (.cons .sl (.cons (.int .i64) (.cons (.int .i64) (.cons (.int .i64) (.cons (.int .i64) (.cons .sl .nilT)))))))))), (.agg (.cons (.int .i64) (.cons (.int .i64) (.cons (.int .i64) (.cons .sl (.cons (.int .i64) (.cons (.int .i64) (.cons (.int .i64) (.cons (.int .i64) (.cons .sl .nilT)))))))))), .raw, .raw, .raw, .raw, .raw, (.tup (.cons .sl (.cons .bool .nilT))), .sl, (.agg (.cons (.int .i64) (.cons (.int .i64) (.cons (.int .i64) (.cons (.int .i64) (.cons .sl (.cons (.int .i64) (.cons (.int .i64) (.cons .sl (.cons (.int .i64) (.cons .bool (.cons .bool (.cons (.int .i64) .nilT))))))))))))), (.agg (.cons (.int .i64) (.cons (.int .i64) (.cons (.int .i64) (.cons (.int .i64) (.cons .sl (.cons (.int .i64) (.cons (.int .i64) (.cons .sl (.cons (.int .i64) (.cons .bool (.cons .bool (.cons (.int .i64) .nilT))))))))))))), .raw, .raw, .raw, .raw, (.agg (.cons .sl (.cons .sl (.cons .sl .nilT)))), (.agg (.cons .sl (.cons .sl (.cons .sl .nilT)))), .raw, (.tup (.cons .sl (.cons (.int .i64) .nilT))), .raw, .raw, .raw, .raw, .raw, .raw, (.int .u64), .sl, .sl, .raw, (.agg (.cons (.int .i64) (.cons .sl .nilT))), (.agg (.cons (.int .i64) (.cons .sl .nilT))), .raw, .raw, (.agg (.cons .ptr (.cons .ptr (.cons .ptr (.cons .str .nilT))))), (.agg (.cons .ptr (.cons .ptr (.cons .ptr (.cons .str .nilT))))), (.agg .nilT), (.agg .nilT), (.agg .nilT), (.int .u32), (.int .u8), (.int .u8), .raw, .ptr, (.int .i32), (.int .i32), (.agg (.cons (.int .u64) (.cons (.int .u64) (.cons (.int .u32) (.cons (.int .u8) (.cons (.int .u8) (.cons (.int .u8) (.cons (.int .u8) (.cons .raw (.cons .ptr (.cons (.int .i32) (.cons (.int .i32) .nilT)))))))))))), (.agg (.cons (.int .u64) (.cons (.int .u64) (.cons (.int .u32) (.cons (.int .u8) (.cons (.int .u8) (.cons (.int .u8) (.cons (.int .u8) (.cons .raw (.cons .ptr (.cons (.int .i32) (.cons (.int .i32) .nilT))))))))))))]

/-- sluice/sluicelaw3.LinkNews -/
def T3 (p0 : Int) (p1 : Int) (p2 : Int) (p3 : Int) (w : World) (K : Bool → World → Prop) : Prop :=
  CallK Try.prog .bool 9 #[] w fun t12 w =>
  CallK Try.prog (.tup (.cons .ptr (.cons .bool .nilT))) 10 #[.int .i64 p0, .int .i64 p1, .int .i64 p2, .int .i64 p3] w fun t18 w =>
  JoinX (α := Bool × Unit) (fun j2 w =>
    SplitB j2.1
      (SplitB t12
        (K t18.2.1 w)
        (K false w))
      (NilP t18.1 fun t36 =>
      RunN Try.prog .ptr (V (Instr.loadAt 26 (.pointer (some (t36.add 0))))) w fun t38 w =>
      CallK Try.prog (.int .i64) 11 #[.pointer t38] w fun t39 w =>
      SplitB (t39 == 1)
        (NilP t18.1 fun t43 =>
        RunN Try.prog .ptr (V (Instr.loadAt 26 (.pointer (some (t43.add 0))))) w fun t45 w =>
        CallK Try.prog (.int .i64) 12 #[.pointer t45] w fun t46 w =>
        SplitB (t46 == p2)
          (NilP t18.1 fun t52 =>
          RunN Try.prog .ptr (V (Instr.loadAt 26 (.pointer (some (t52.add 0))))) w fun t54 w =>
          CallK Try.prog .sl 13 #[.pointer t54] w fun t55 w =>
          SplitB ((t55.len : Int) == 0)
            (NilP t18.1 fun t61 =>
            RunN Try.prog .ptr (V (Instr.loadAt 26 (.pointer (some (t61.add 0))))) w fun t63 w =>
            CallK Try.prog .sl 14 #[.pointer t63] w fun t64 w =>
            K ((t64.len : Int) == 0) w)
            (K false w))
          (K false w))
        (K false w)))
  fun k1 =>
    SplitB (!t12)
      (k1 (true, ()) w)
      (SplitB (!t18.2.1)
        (k1 (true, ()) w)
        (RunN Try.prog .bool (V (do eqGuard .eql 23 (.tmp 28) (.const (.pointer none)) (.pointer t18.1) (.pointer none); binOp .eql 23 (.pointer t18.1) (.pointer none))) w fun t29 w =>
        k1 (t29, ()) w))
theorem T3.calls {p0 : Int} {p1 : Int} {p2 : Int} {p3 : Int} {w : World} {K : Bool → World → Prop} (h : T3 p0 p1 p2 p3 w K) : CallK Try.prog .bool 3 #[.int .i64 p0, .int .i64 p1, .int .i64 p2, .int .i64 p3] w K :=
  bodyZ_sound (κ := kappa) (ann := [(4, [(30, .bool)])]) (fn := Try.f3) Try.func3 rfl (by kernel_rfl) (cast (show T3 p0 p1 p2 p3 w K = bodyZ Try.prog kappa [(4, [(30, .bool)])] .bool Try.f3 [.int .i64 p0, .int .i64 p1, .int .i64 p2, .int .i64 p3] w K by kernel_rfl) h)

/-- sluice/sluicelaw3.alive -/
def T9  (w : World) (K : Bool → World → Prop) : Prop :=
  CallK Try.prog (.tup (.cons .ptr (.cons .bool .nilT))) 10 #[.int .i64 0, .int .i64 1, .int .i64 2, .int .i64 3] w fun t12 w =>
  CallK Try.prog (.tup (.cons .ptr (.cons .bool .nilT))) 10 #[.int .i64 1, .int .i64 0, .int .i64 2, .int .i64 3] w fun t16 w =>
  JoinX (α := Bool × Unit) (fun j2 w =>
    SplitB j2.1
      (K false w)
      (NilP t12.1 fun t34 =>
      RunN Try.prog .ptr (V (Instr.loadAt 26 (.pointer (some (t34.add 0))))) w fun t36 w =>
      RunN Try.prog .sl (V (Instr.buildSlice 45 1 #[(0, .int .u8 97)])) w fun t37 w =>
      RunN Try.prog .sl (V (convert 45 45 (.slice t37.a t37.len t37.cap))) w fun t38 w =>
      CallK Try.prog (.int .i64) 23 #[.pointer t36, .slice t38.a t38.len t38.cap] w fun t39 w =>
      NilP t12.1 fun t41 =>
      RunN Try.prog .ptr (V (Instr.loadAt 26 (.pointer (some (t41.add 0))))) w fun t43 w =>
      CallK Try.prog (.int .i64) 23 #[.pointer t43, .slice none 0 0] w fun t44 w =>
      NilP t12.1 fun t46 =>
      RunN Try.prog .ptr (V (Instr.loadAt 26 (.pointer (some (t46.add 0))))) w fun t48 w =>
      RunN Try.prog .sl (V (Instr.buildSlice 45 1 #[(0, .int .u8 99)])) w fun t49 w =>
      RunN Try.prog .sl (V (convert 45 45 (.slice t49.a t49.len t49.cap))) w fun t50 w =>
      CallK Try.prog (.int .i64) 23 #[.pointer t48, .slice t50.a t50.len t50.cap] w fun t51 w =>
      NilP t12.1 fun t53 =>
      RunN Try.prog .ptr (V (Instr.loadAt 26 (.pointer (some (t53.add 0))))) w fun t55 w =>
      CallK Try.prog .sl 13 #[.pointer t55] w fun t56 w =>
      JoinX (α := Bool × Unit) (fun j4 w =>
        SplitB j4.1
          (K false w)
          (NilP t16.1 fun t88 =>
          ReadN Try.prog .ptr (V (Instr.loadAt 26 (.pointer (some (t88.add 0))))) w.drew fun t90 =>
          ReadN Try.prog .addr (V (Instr.indexAt 33 (.slice t56.a t56.len t56.cap) (.int .i64 1))) w.drew fun t92 =>
          ReadN Try.prog (.agg (.cons (.int .i64) (.cons (.int .i64) (.cons (.int .i64) (.cons (.int .i64) (.cons .sl .nilT)))))) (V (Instr.loadAt 62 (.pointer (some t92)))) w.drew fun t93 =>
          CallK Try.prog (.tup (.cons .sl (.cons (.int .i64) .nilT))) 26 #[.pointer t90, .agg #[.int .i64 t93.1, .int .i64 t93.2.1, .int .i64 t93.2.2.1, .int .i64 t93.2.2.2.1, .slice t93.2.2.2.2.1.a t93.2.2.2.2.1.len t93.2.2.2.2.1.cap]] w.drew fun t94 w =>
          NilP t16.1 fun t99 =>
          ReadN Try.prog .ptr (V (Instr.loadAt 26 (.pointer (some (t99.add 0))))) w.drew fun t101 =>
          ReadN Try.prog .addr (V (Instr.indexAt 33 (.slice t56.a t56.len t56.cap) (.int .i64 0))) w.drew fun t103 =>
          ReadN Try.prog (.agg (.cons (.int .i64) (.cons (.int .i64) (.cons (.int .i64) (.cons (.int .i64) (.cons .sl .nilT)))))) (V (Instr.loadAt 62 (.pointer (some t103)))) w.drew fun t104 =>
          CallK Try.prog (.tup (.cons .sl (.cons (.int .i64) .nilT))) 26 #[.pointer t101, .agg #[.int .i64 t104.1, .int .i64 t104.2.1, .int .i64 t104.2.2.1, .int .i64 t104.2.2.2.1, .slice t104.2.2.2.2.1.a t104.2.2.2.2.1.len t104.2.2.2.2.1.cap]] w.drew fun t105 w =>
          SplitB (t94.2.1 == 0)
            (SplitB (t105.2.1 == 0)
              (SplitB ((t94.1.len : Int) == 0)
                (SplitB ((t105.1.len : Int) == 2)
                  (RunN Try.prog .addr (V (Instr.indexAt 51 (.slice t105.1.a t105.1.len t105.1.cap) (.int .i64 0))) w fun t126 w =>
                  RunN Try.prog .sl (V (Instr.loadAt 45 (.pointer (some t126)))) w fun t127 w =>
                  RunN Try.prog .sl (V (Instr.buildSlice 45 1 #[(0, .int .u8 97)])) w fun t128 w =>
                  RunN Try.prog .sl (V (convert 45 45 (.slice t128.a t128.len t128.cap))) w fun t129 w =>
                  CallK Try.prog .bool 25 #[.slice t127.a t127.len t127.cap, .slice t129.a t129.len t129.cap] w fun t130 w =>
                  SplitB t130
                    (NilP t16.1 fun t134 =>
                    RunN Try.prog .ptr (V (Instr.loadAt 26 (.pointer (some (t134.add 0))))) w fun t136 w =>
                    CallK Try.prog (.int .i64) 11 #[.pointer t136] w fun t137 w =>
                    K (t137 == 3) w)
                    (K false w))
                  (K false w))
                (K false w))
              (K false w))
            (K false w)))
      fun k3 =>
        SplitB (t39 != 0)
          (k3 (true, ()) w)
          (SplitB (t44 != 0)
            (k3 (true, ()) w)
            (SplitB (t51 != 30)
              (k3 (true, ()) w)
              (SplitB ((t56.len : Int) != 2)
                (k3 (true, ()) w)
                (RunN Try.prog .addr (V (Instr.indexAt 33 (.slice t56.a t56.len t56.cap) (.int .i64 1))) w fun t74 w =>
                RunN Try.prog (.int .i64) (V (Instr.loadAt 3 (.pointer (some (t74.add 2))))) w fun t76 w =>
                SplitB (t76 != 2)
                  (k3 (true, ()) w)
                  (RunN Try.prog .addr (V (Instr.indexAt 33 (.slice t56.a t56.len t56.cap) (.int .i64 0))) w fun t81 w =>
                  RunN Try.prog (.int .i64) (V (Instr.loadAt 3 (.pointer (some (t81.add 3))))) w fun t83 w =>
                  k3 (t83 != 0, ()) w)))))))
  fun k1 =>
    SplitB (!t12.2.1)
      (k1 (true, ()) w)
      (SplitB (!t16.2.1)
        (k1 (true, ()) w)
        (RunN Try.prog .bool (V (do eqGuard .eql 23 (.tmp 26) (.const (.pointer none)) (.pointer t12.1) (.pointer none); binOp .eql 23 (.pointer t12.1) (.pointer none))) w fun t27 w =>
        SplitB t27
          (k1 (true, ()) w)
          (RunN Try.prog .bool (V (do eqGuard .eql 23 (.tmp 30) (.const (.pointer none)) (.pointer t16.1) (.pointer none); binOp .eql 23 (.pointer t16.1) (.pointer none))) w fun t31 w =>
          k1 (t31, ()) w)))
theorem T9.calls  {w : World} {K : Bool → World → Prop} (h : T9  w K) : CallK Try.prog .bool 9 #[] w K :=
  bodyZ_sound (κ := kappa) (ann := [(4, [(32, .bool)]), (11, [(85, .bool)])]) (fn := Try.f9) Try.func9 rfl (by kernel_rfl) (cast (show T9  w K = bodyZ Try.prog kappa [(4, [(32, .bool)]), (11, [(85, .bool)])] .bool Try.f9 [] w K by kernel_rfl) h)

/-- sluice/sluicelaw3.made -/
def T10 (p0 : Int) (p1 : Int) (p2 : Int) (p3 : Int) (w : World) (K : (Option Addr × Bool × Unit) → World → Prop) : Prop :=
  CallK Try.prog (.tup (.cons .ptr (.cons (.int .i64) .nilT))) 22 #[.int .i64 p0, .int .i64 p1, .int .i64 p2, .int .i64 p3] w fun t19 w =>
  CallK Try.prog (.tup (.cons .ptr (.cons (.int .i64) .nilT))) 27 #[.int .i64 p0, .int .i64 p1, .int .i64 p2, .int .i64 p3] w fun t27 w =>
  JoinX (α := Bool × Unit) (fun j2 w =>
    SplitB j2.1
      (K (none, false, ()) w)
      (JoinX (α := Bool × Unit) (fun j4 w =>
        SplitB j4.1
          (K (none, true, ()) w)
          (RunN Try.prog .addr (V (Instr.box 70 (.agg #[.slice none 0 0, .int .i64 0]))) w fun t49 w =>
          RunN Try.prog .addr (V (Instr.box 73 (.agg #[.slice none 0 0, .int .i64 0]))) w fun t51 w =>
          RunN Try.prog .addr (V (Instr.box 31 (.agg #[.pointer t19.1, .pointer t27.1, .pointer (some t49), .pointer (some t51)]))) w fun t53 w =>
          K (some t53, true, ()) w))
      fun k3 =>
        RunN Try.prog .bool (V (do eqGuard .eql 26 (.tmp 40) (.const (.pointer none)) (.pointer t19.1) (.pointer none); binOp .eql 26 (.pointer t19.1) (.pointer none))) w fun t41 w =>
        SplitB t41
          (k3 (true, ()) w)
          (RunN Try.prog .bool (V (do eqGuard .eql 27 (.tmp 43) (.const (.pointer none)) (.pointer t27.1) (.pointer none); binOp .eql 27 (.pointer t27.1) (.pointer none))) w fun t44 w =>
          k3 (t44, ()) w)))
  fun k1 =>
    SplitB (t19.2.1 != t27.2.1)
      (k1 (true, ()) w)
      (RunN Try.prog .bool (V (do eqGuard .eql 26 (.tmp 34) (.const (.pointer none)) (.pointer t19.1) (.pointer none); binOp .eql 26 (.pointer t19.1) (.pointer none))) w fun t35 w =>
      RunN Try.prog .bool (V (do eqGuard .eql 27 (.tmp 36) (.const (.pointer none)) (.pointer t27.1) (.pointer none); binOp .eql 27 (.pointer t27.1) (.pointer none))) w fun t37 w =>
      k1 (!(t35 == t37), ()) w)
theorem T10.calls {p0 : Int} {p1 : Int} {p2 : Int} {p3 : Int} {w : World} {K : (Option Addr × Bool × Unit) → World → Prop} (h : T10 p0 p1 p2 p3 w K) : CallK Try.prog (.tup (.cons .ptr (.cons .bool .nilT))) 10 #[.int .i64 p0, .int .i64 p1, .int .i64 p2, .int .i64 p3] w K :=
  bodyZ_sound (κ := kappa) (ann := [(4, [(39, .bool)]), (7, [(45, .bool)])]) (fn := Try.f10) Try.func10 rfl (by kernel_rfl) (cast (show T10 p0 p1 p2 p3 w K = bodyZ Try.prog kappa [(4, [(39, .bool)]), (7, [(45, .bool)])] (.tup (.cons .ptr (.cons .bool .nilT))) Try.f10 [.int .i64 p0, .int .i64 p1, .int .i64 p2, .int .i64 p3] w K by kernel_rfl) h)

/-- (*sluice/link.Link).Next -/
def T11 (p0 : Option Addr) (w : World) (K : Int → World → Prop) : Prop :=
  NilP p0 fun t4 =>
  RunN Try.prog (.int .i64) (V (Instr.loadAt 3 (.pointer (some (t4.add 8))))) w fun t6 w =>
  K t6 w
theorem T11.calls {p0 : Option Addr} {w : World} {K : Int → World → Prop} (h : T11 p0 w K) : CallK Try.prog (.int .i64) 11 #[.pointer p0] w K :=
  bodyZ_sound (κ := kappa) (ann := []) (fn := Try.f11) Try.func11 rfl (by kernel_rfl) (cast (show T11 p0 w K = bodyZ Try.prog kappa [] (.int .i64) Try.f11 [.pointer p0] w K by kernel_rfl) h)

/-- (*sluice/link.Link).Room -/
def T12 (p0 : Option Addr) (w : World) (K : Int → World → Prop) : Prop :=
  NilP p0 fun t4 =>
  ReadN Try.prog (.int .i64) (V (Instr.loadAt 3 (.pointer (some (t4.add 2))))) w.drew fun t6 =>
  NilP p0 fun t8 =>
  ReadN Try.prog .chan (V (Instr.loadAt 74 (.pointer (some (t8.add 4))))) w.drew fun t10 =>
  ReadN Try.prog (.int .i64) (V (Builtin.len_ #[74] 3 #[.chan t10])) w.drew fun t11 =>
  NilP p0 fun t14 =>
  ReadN Try.prog .sl (V (Instr.loadAt 75 (.pointer (some (t14.add 5))))) w.drew fun t16 =>
  K (IntKind.i64.wrap ((IntKind.i64.wrap (t6 - t11)) - (t16.len : Int))) w.drew
theorem T12.calls {p0 : Option Addr} {w : World} {K : Int → World → Prop} (h : T12 p0 w K) : CallK Try.prog (.int .i64) 12 #[.pointer p0] w K :=
  bodyZ_sound (κ := kappa) (ann := []) (fn := Try.f12) Try.func12 rfl (by kernel_rfl) (cast (show T12 p0 w K = bodyZ Try.prog kappa [] (.int .i64) Try.f12 [.pointer p0] w K by kernel_rfl) h)

/-- (*sluice/link.Link).Out -/
def T13 (p0 : Option Addr) (w : World) (K : Sl → World → Prop) : Prop :=
  JoinX (α := Sl × Unit) (fun j2 w =>
    JoinX (α := Sl × Unit) (fun j4 w =>
      NilP p0 fun t25 =>
      RunN Try.prog .sl (V (Instr.loadAt 75 (.pointer (some (t25.add 5))))) w fun t27 w =>
      LoopX (α := Sl × Unit) (fun s5 w k6 =>
        NilP p0 fun t31 =>
        RunN Try.prog .chan (V (Instr.loadAt 74 (.pointer (some (t31.add 4))))) w fun t33 w =>
        RecvB Try.prog (.agg (.cons (.int .i64) (.cons .sl .nilT))) 81 t33 w
          (fun t34 w =>
          SplitB (0 == 0)
            (RunN Try.prog .addr (V (Instr.alloc 81 true (.tuple #[]))) w fun t5 w =>
            RunU Try.prog (U (Instr.storeAt 81 (.pointer (some t5)) (.agg #[.int .i64 t34.1, .slice t34.2.1.a t34.2.1.len t34.2.1.cap]))) w fun w =>
            RunN Try.prog (.agg (.cons (.int .i64) (.cons .sl .nilT))) (V (Instr.loadAt 81 (.pointer (some t5)))) w fun t40 w =>
            CallK Try.prog (.agg (.cons (.int .i64) (.cons (.int .i64) (.cons (.int .i64) (.cons (.int .i64) (.cons .sl .nilT)))))) 28 #[.pointer p0, .agg #[.int .i64 t40.1, .slice t40.2.1.a t40.2.1.len t40.2.1.cap]] w fun t41 w =>
            RunN Try.prog .sl (V (Instr.buildSlice 33 1 #[(0, .agg #[.int .i64 t41.1, .int .i64 t41.2.1, .int .i64 t41.2.2.1, .int .i64 t41.2.2.2.1, .slice t41.2.2.2.2.1.a t41.2.2.2.2.1.len t41.2.2.2.2.1.cap])])) w fun t42 w =>
            RunN Try.prog .sl (V (Builtin.append_ #[33, 33] 33 #[.slice s5.1.a s5.1.len s5.1.cap, .slice t42.a t42.len t42.cap])) w fun t43 w =>
            NilP p0 fun t46 =>
            ReadN Try.prog .sl (V (Instr.loadAt 75 (.pointer (some (t46.add 5))))) w.drew fun t48 =>
            ReadN Try.prog (.agg (.cons (.int .i64) (.cons .sl .nilT))) (V (Instr.loadAt 81 (.pointer (some t5)))) w.drew fun t49 =>
            RunN Try.prog .sl (V (Instr.buildSlice 75 1 #[(0, .agg #[.int .i64 t49.1, .slice t49.2.1.a t49.2.1.len t49.2.1.cap])])) w.drew fun t50 w =>
            StillV Try.prog (V (Instr.loadAt 75 (.pointer (some (t46.add 5))))) (.slice t48.a t48.len t48.cap) w ∧
            RunN Try.prog .sl (V (Builtin.append_ #[75, 75] 75 #[.slice t48.a t48.len t48.cap, .slice t50.a t50.len t50.cap])) w fun t51 w =>
            NilP p0 fun t52 =>
            RunU Try.prog (U (Instr.storeAt 75 (.pointer (some (t52.add 5))) (.slice t51.a t51.len t51.cap))) w fun w =>
            RunN Try.prog (.int .i64) (V (Instr.loadAt 3 (.pointer (some (t5.add 0))))) w fun t56 w =>
            NilP p0 fun t57 =>
            RunU Try.prog (U (Instr.storeAt 3 (.pointer (some (t57.add 7))) (.int .i64 t56))) w fun w =>
            SplitB ((t27.len : Int) == 0)
              (NilP p0 fun t61 =>
              RunU Try.prog (U (Instr.storeAt 3 (.pointer (some (t61.add 12))) (.int .i64 0))) w fun w =>
              k6 (t43, ()) w)
              (k6 (t43, ()) w))
            (NilP p0 fun t65 =>
            RunU Try.prog (U (Instr.storeAt 4 (.pointer (some (t65.add 10))) (.bool false))) w fun w =>
            NilP p0 fun t67 =>
            RunU Try.prog (U (Instr.storeAt 4 (.pointer (some (t67.add 11))) (.bool false))) w fun w =>
            K s5.1 w))
          (fun z34 w =>
          SplitB ((-1) == 0)
            (RunN Try.prog .addr (V (Instr.alloc 81 true (.tuple #[]))) w fun t5 w =>
            RunU Try.prog (U (Instr.storeAt 81 (.pointer (some t5)) (z34))) w fun w =>
            RunN Try.prog (.agg (.cons (.int .i64) (.cons .sl .nilT))) (V (Instr.loadAt 81 (.pointer (some t5)))) w fun t40 w =>
            CallK Try.prog (.agg (.cons (.int .i64) (.cons (.int .i64) (.cons (.int .i64) (.cons (.int .i64) (.cons .sl .nilT)))))) 28 #[.pointer p0, .agg #[.int .i64 t40.1, .slice t40.2.1.a t40.2.1.len t40.2.1.cap]] w fun t41 w =>
            RunN Try.prog .sl (V (Instr.buildSlice 33 1 #[(0, .agg #[.int .i64 t41.1, .int .i64 t41.2.1, .int .i64 t41.2.2.1, .int .i64 t41.2.2.2.1, .slice t41.2.2.2.2.1.a t41.2.2.2.2.1.len t41.2.2.2.2.1.cap])])) w fun t42 w =>
            RunN Try.prog .sl (V (Builtin.append_ #[33, 33] 33 #[.slice s5.1.a s5.1.len s5.1.cap, .slice t42.a t42.len t42.cap])) w fun t43 w =>
            NilP p0 fun t46 =>
            ReadN Try.prog .sl (V (Instr.loadAt 75 (.pointer (some (t46.add 5))))) w.drew fun t48 =>
            ReadN Try.prog (.agg (.cons (.int .i64) (.cons .sl .nilT))) (V (Instr.loadAt 81 (.pointer (some t5)))) w.drew fun t49 =>
            RunN Try.prog .sl (V (Instr.buildSlice 75 1 #[(0, .agg #[.int .i64 t49.1, .slice t49.2.1.a t49.2.1.len t49.2.1.cap])])) w.drew fun t50 w =>
            StillV Try.prog (V (Instr.loadAt 75 (.pointer (some (t46.add 5))))) (.slice t48.a t48.len t48.cap) w ∧
            RunN Try.prog .sl (V (Builtin.append_ #[75, 75] 75 #[.slice t48.a t48.len t48.cap, .slice t50.a t50.len t50.cap])) w fun t51 w =>
            NilP p0 fun t52 =>
            RunU Try.prog (U (Instr.storeAt 75 (.pointer (some (t52.add 5))) (.slice t51.a t51.len t51.cap))) w fun w =>
            RunN Try.prog (.int .i64) (V (Instr.loadAt 3 (.pointer (some (t5.add 0))))) w fun t56 w =>
            NilP p0 fun t57 =>
            RunU Try.prog (U (Instr.storeAt 3 (.pointer (some (t57.add 7))) (.int .i64 t56))) w fun w =>
            SplitB ((t27.len : Int) == 0)
              (NilP p0 fun t61 =>
              RunU Try.prog (U (Instr.storeAt 3 (.pointer (some (t61.add 12))) (.int .i64 0))) w fun w =>
              k6 (t43, ()) w)
              (k6 (t43, ()) w))
            (NilP p0 fun t65 =>
            RunU Try.prog (U (Instr.storeAt 4 (.pointer (some (t65.add 10))) (.bool false))) w fun w =>
            NilP p0 fun t67 =>
            RunU Try.prog (U (Instr.storeAt 4 (.pointer (some (t67.add 11))) (.bool false))) w fun w =>
            K s5.1 w)))
      (j4.1, ()) w)
    fun k3 =>
      NilP p0 fun t17 =>
      RunN Try.prog .bool (V (Instr.loadAt 4 (.pointer (some (t17.add 11))))) w fun t19 w =>
      SplitB t19
        (CallK Try.prog .sl 14 #[.pointer p0] w fun t22 w =>
        RunN Try.prog .sl (V (Builtin.append_ #[33, 33] 33 #[.slice j2.1.a j2.1.len j2.1.cap, .slice t22.a t22.len t22.cap])) w fun t23 w =>
        k3 (t23, ()) w)
        (k3 (j2.1, ()) w))
  fun k1 =>
    NilP p0 fun t7 =>
    RunN Try.prog .bool (V (Instr.loadAt 4 (.pointer (some (t7.add 10))))) w fun t9 w =>
    SplitB t9
      (CallK Try.prog (.agg (.cons (.int .i64) (.cons (.int .i64) (.cons (.int .i64) (.cons (.int .i64) (.cons .sl .nilT)))))) 28 #[.pointer p0, .agg #[.int .i64 0, .slice none 0 0]] w fun t13 w =>
      RunN Try.prog .sl (V (Instr.buildSlice 33 1 #[(0, .agg #[.int .i64 t13.1, .int .i64 t13.2.1, .int .i64 t13.2.2.1, .int .i64 t13.2.2.2.1, .slice t13.2.2.2.2.1.a t13.2.2.2.2.1.len t13.2.2.2.2.1.cap])])) w fun t14 w =>
      RunN Try.prog .sl (V (Builtin.append_ #[33, 33] 33 #[.slice none 0 0, .slice t14.a t14.len t14.cap])) w fun t15 w =>
      k1 (t15, ()) w)
      (k1 ((⟨none, 0, 0⟩ : Sl), ()) w)
theorem T13.calls {p0 : Option Addr} {w : World} {K : Sl → World → Prop} (h : T13 p0 w K) : CallK Try.prog .sl 13 #[.pointer p0] w K :=
  bodyL_sound (κ := kappa) (ann := [(2, [(3, .sl)]), (4, [(3, .sl)]), (8, [(3, .sl)])]) (fn := Try.f13) Try.func13 rfl (by kernel_rfl) (cast (show T13 p0 w K = bodyL Try.prog kappa [(2, [(3, .sl)]), (4, [(3, .sl)]), (8, [(3, .sl)])] .sl Try.f13 [.pointer p0] w K by kernel_rfl) h)

/-- (*sluice/link.Link).Under -/
def T14 (p0 : Option Addr) (w : World) (K : Sl → World → Prop) : Prop :=
  NilP p0 fun t7 =>
  RunN Try.prog .sl (V (Instr.loadAt 75 (.pointer (some (t7.add 5))))) w fun t9 w =>
  LoopX (α := Sl × Int × Unit) (fun s1 w k2 =>
    SplitB (decide (s1.2.1 < (t9.len : Int)))
      (RunN Try.prog .addr (V (Instr.indexAt 75 (.slice t9.a t9.len t9.cap) (.int .i64 s1.2.1))) w fun t13 w =>
      RunN Try.prog (.agg (.cons (.int .i64) (.cons .sl .nilT))) (V (Instr.loadAt 81 (.pointer (some t13)))) w fun t14 w =>
      RunN Try.prog .addr (V (Instr.alloc 81 true (.tuple #[]))) w fun t5 w =>
      RunU Try.prog (U (Instr.storeAt 81 (.pointer (some t5)) (.agg #[.int .i64 t14.1, .slice t14.2.1.a t14.2.1.len t14.2.1.cap]))) w fun w =>
      RunN Try.prog (.agg (.cons (.int .i64) (.cons .sl .nilT))) (V (Instr.loadAt 81 (.pointer (some t5)))) w fun t17 w =>
      CallK Try.prog (.agg (.cons (.int .i64) (.cons (.int .i64) (.cons (.int .i64) (.cons (.int .i64) (.cons .sl .nilT)))))) 28 #[.pointer p0, .agg #[.int .i64 t17.1, .slice t17.2.1.a t17.2.1.len t17.2.1.cap]] w fun t18 w =>
      RunN Try.prog .sl (V (Instr.buildSlice 33 1 #[(0, .agg #[.int .i64 t18.1, .int .i64 t18.2.1, .int .i64 t18.2.2.1, .int .i64 t18.2.2.2.1, .slice t18.2.2.2.2.1.a t18.2.2.2.2.1.len t18.2.2.2.2.1.cap])])) w fun t19 w =>
      RunN Try.prog .sl (V (Builtin.append_ #[33, 33] 33 #[.slice s1.1.a s1.1.len s1.1.cap, .slice t19.a t19.len t19.cap])) w fun t20 w =>
      k2 (t20, IntKind.i64.wrap (s1.2.1 + 1), ()) w)
      (K s1.1 w))
  ((⟨none, 0, 0⟩ : Sl), 0, ()) w
theorem T14.calls {p0 : Option Addr} {w : World} {K : Sl → World → Prop} (h : T14 p0 w K) : CallK Try.prog .sl 14 #[.pointer p0] w K :=
  bodyZ_sound (κ := kappa) (ann := [(4, [(3, .sl), (11, (.int .i64))])]) (fn := Try.f14) Try.func14 rfl (by kernel_rfl) (cast (show T14 p0 w K = bodyZ Try.prog kappa [(4, [(3, .sl), (11, (.int .i64))])] .sl Try.f14 [.pointer p0] w K by kernel_rfl) h)

/-- (*sluice/link.Link).Tick -/
def T20 (p0 : Option Addr) (w : World) (K : Unit → World → Prop) : Prop :=
  NilP p0 fun t3 =>
  RunN Try.prog .sl (V (Instr.loadAt 75 (.pointer (some (t3.add 5))))) w fun t5 w =>
  SplitB ((t5.len : Int) == 0)
    (K () w)
    (NilP p0 fun t9 =>
    RunN Try.prog (.int .i64) (V (Instr.loadAt 3 (.pointer (some (t9.add 12))))) w fun t11 w =>
    NilP p0 fun t13 =>
    RunU Try.prog (U (Instr.storeAt 3 (.pointer (some (t13.add 12))) (.int .i64 (IntKind.i64.wrap (t11 + 1))))) w fun w =>
    NilP p0 fun t16 =>
    ReadN Try.prog (.int .i64) (V (Instr.loadAt 3 (.pointer (some (t16.add 12))))) w.drew fun t18 =>
    NilP p0 fun t20 =>
    ReadN Try.prog (.int .i64) (V (Instr.loadAt 3 (.pointer (some (t20.add 3))))) w.drew fun t22 =>
    SplitB (decide (t18 ≥ t22))
      (NilP p0 fun t26 =>
      RunU Try.prog (U (Instr.storeAt 4 (.pointer (some (t26.add 11))) (.bool true))) w.drew fun w =>
      NilP p0 fun t28 =>
      RunU Try.prog (U (Instr.storeAt 3 (.pointer (some (t28.add 12))) (.int .i64 0))) w fun w =>
      K () w)
      (K () w.drew))
theorem T20.calls {p0 : Option Addr} {w : World} {K : Unit → World → Prop} (h : T20 p0 w K) : CallK Try.prog (.tup .nilT) 20 #[.pointer p0] w K :=
  bodyZ_sound (κ := kappa) (ann := []) (fn := Try.f20) Try.func20 rfl (by kernel_rfl) (cast (show T20 p0 w K = bodyZ Try.prog kappa [] (.tup .nilT) Try.f20 [.pointer p0] w K by kernel_rfl) h)

/-- sluice/link.New -/
def T22 (p0 : Int) (p1 : Int) (p2 : Int) (p3 : Int) (w : World) (K : (Option Addr × Int × Unit) → World → Prop) : Prop :=
  JoinX (α := Bool × Unit) (fun j2 w =>
    SplitB j2.1
      (K (none, 3, ()) w)
      (JoinX (α := Bool × Unit) (fun j4 w =>
        SplitB j4.1
          (K (none, 1, ()) w)
          (RunN Try.prog .chan (V (Instr.makeChan 74 (.int .i64 p2))) w fun t50 w =>
          RunN Try.prog .map (V (Instr.makeMap 76 none)) w fun t51 w =>
          RunN Try.prog .addr (V (Instr.box 78 (.agg #[.int .i64 p0, .int .i64 p1, .int .i64 p2, .int .i64 p3, .chan t50, .slice none 0 0, .int .i64 0, .int .i64 0, .int .i64 1, .map t51, .bool false, .bool false, .int .i64 0]))) w fun t53 w =>
          K (some t53, 0, ()) w))
      fun k3 =>
        SplitB (decide (p2 < 1))
          (k3 (true, ()) w)
          (SplitB (decide (p2 > 16))
            (k3 (true, ()) w)
            (SplitB (decide (p3 < 1))
              (k3 (true, ()) w)
              (k3 (decide (p3 > 1000), ()) w)))))
  fun k1 =>
    SplitB (decide (p0 < 0))
      (k1 (true, ()) w)
      (SplitB (decide (p0 ≥ 16))
        (k1 (true, ()) w)
        (SplitB (decide (p1 < 0))
          (k1 (true, ()) w)
          (SplitB (decide (p1 ≥ 16))
            (k1 (true, ()) w)
            (k1 (p0 == p1, ()) w))))
theorem T22.calls {p0 : Int} {p1 : Int} {p2 : Int} {p3 : Int} {w : World} {K : (Option Addr × Int × Unit) → World → Prop} (h : T22 p0 p1 p2 p3 w K) : CallK Try.prog (.tup (.cons .ptr (.cons (.int .i64) .nilT))) 22 #[.int .i64 p0, .int .i64 p1, .int .i64 p2, .int .i64 p3] w K :=
  bodyZ_sound (κ := kappa) (ann := [(2, [(10, .bool)]), (4, [(30, .bool)])]) (fn := Try.f22) Try.func22 rfl (by kernel_rfl) (cast (show T22 p0 p1 p2 p3 w K = bodyZ Try.prog kappa [(2, [(10, .bool)]), (4, [(30, .bool)])] (.tup (.cons .ptr (.cons (.int .i64) .nilT))) Try.f22 [.int .i64 p0, .int .i64 p1, .int .i64 p2, .int .i64 p3] w K by kernel_rfl) h)

/-- (*sluice/link.Link).Send -/
def T23 (p0 : Option Addr) (p1 : Sl) (w : World) (K : Int → World → Prop) : Prop :=
  SplitB (decide ((p1.len : Int) > 4000))
    (K 2 w)
    (JoinX (α := Bool × Unit) (fun j2 w =>
      SplitB j2.1
        (K 30 w)
        (NilP p0 fun t19 =>
        RunN Try.prog .chan (V (Instr.loadAt 74 (.pointer (some (t19.add 4))))) w fun t21 w =>
        NilP p0 fun t23 =>
        ReadN Try.prog (.int .i64) (V (Instr.loadAt 3 (.pointer (some (t23.add 6))))) w.drew fun t25 =>
        CallK Try.prog .sl 32 #[.slice p1.a p1.len p1.cap] w.drew fun t28 w =>
        StillV Try.prog (V (Instr.loadAt 3 (.pointer (some (t23.add 6))))) (.int .i64 t25) w ∧
        SendB Try.prog 81 t21 (.agg #[.int .i64 (IntKind.i64.wrap (t25 + 1)), .slice t28.a t28.len t28.cap]) w
          (fun w =>
          SplitB (0 == 0)
            (NilP p0 fun t34 =>
            RunN Try.prog (.int .i64) (V (Instr.loadAt 3 (.pointer (some (t34.add 6))))) w fun t36 w =>
            NilP p0 fun t38 =>
            RunU Try.prog (U (Instr.storeAt 3 (.pointer (some (t38.add 6))) (.int .i64 (IntKind.i64.wrap (t36 + 1))))) w fun w =>
            K 0 w)
            (K 30 w))
          (fun w =>
          SplitB ((-1) == 0)
            (NilP p0 fun t34 =>
            RunN Try.prog (.int .i64) (V (Instr.loadAt 3 (.pointer (some (t34.add 6))))) w fun t36 w =>
            NilP p0 fun t38 =>
            RunU Try.prog (U (Instr.storeAt 3 (.pointer (some (t38.add 6))) (.int .i64 (IntKind.i64.wrap (t36 + 1))))) w fun w =>
            K 0 w)
            (K 30 w))))
    fun k1 =>
      CallK Try.prog (.int .i64) 12 #[.pointer p0] w fun t9 w =>
      SplitB (decide (t9 ≤ 0))
        (k1 (true, ()) w)
        (NilP p0 fun t13 =>
        RunN Try.prog (.int .i64) (V (Instr.loadAt 3 (.pointer (some (t13.add 6))))) w fun t15 w =>
        k1 (decide (t15 ≥ 1099511627776), ()) w))
theorem T23.calls {p0 : Option Addr} {p1 : Sl} {w : World} {K : Int → World → Prop} (h : T23 p0 p1 w K) : CallK Try.prog (.int .i64) 23 #[.pointer p0, .slice p1.a p1.len p1.cap] w K :=
  bodyL_sound (κ := kappa) (ann := [(5, [(17, .bool)])]) (fn := Try.f23) Try.func23 rfl (by kernel_rfl) (cast (show T23 p0 p1 w K = bodyL Try.prog kappa [(5, [(17, .bool)])] (.int .i64) Try.f23 [.pointer p0, .slice p1.a p1.len p1.cap] w K by kernel_rfl) h)

/-- sluice/sluicelaw3.lend -/
def T24 (p0 : Sl) (w : World) (K : Sl → World → Prop) : Prop :=
  LoopX (α := Sl × Int × Unit) (fun s1 w k2 =>
    SplitB (decide (s1.2.1 < (p0.len : Int)))
      (RunN Try.prog .addr (V (Instr.indexAt 45 (.slice p0.a p0.len p0.cap) (.int .i64 s1.2.1))) w fun t14 w =>
      RunN Try.prog (.int .u8) (V (Instr.loadAt 5 (.pointer (some t14)))) w fun t15 w =>
      RunN Try.prog .sl (V (Instr.buildSlice 45 1 #[(0, .int .u8 t15)])) w fun t16 w =>
      RunN Try.prog .sl (V (Builtin.append_ #[45, 45] 45 #[.slice s1.1.a s1.1.len s1.1.cap, .slice t16.a t16.len t16.cap])) w fun t17 w =>
      k2 (t17, IntKind.i64.wrap (s1.2.1 + 1), ()) w)
      (RunN Try.prog .sl (V (Instr.buildSlice 45 3 #[(0, .int .u8 167), (1, .int .u8 182), (2, .int .u8 197)])) w fun t19 w =>
      RunN Try.prog .sl (V (Builtin.append_ #[45, 45] 45 #[.slice s1.1.a s1.1.len s1.1.cap, .slice t19.a t19.len t19.cap])) w fun t20 w =>
      K t20 w))
  ((⟨none, 0, 0⟩ : Sl), 0, ()) w
theorem T24.calls {p0 : Sl} {w : World} {K : Sl → World → Prop} (h : T24 p0 w K) : CallK Try.prog .sl 24 #[.slice p0.a p0.len p0.cap] w K :=
  bodyZ_sound (κ := kappa) (ann := [(4, [(3, .sl), (4, (.int .i64))])]) (fn := Try.f24) Try.func24 rfl (by kernel_rfl) (cast (show T24 p0 w K = bodyZ Try.prog kappa [(4, [(3, .sl), (4, (.int .i64))])] .sl Try.f24 [.slice p0.a p0.len p0.cap] w K by kernel_rfl) h)

/-- sluice/sluicelaw3.same -/
def T25 (p0 : Sl) (p1 : Sl) (w : World) (K : Bool → World → Prop) : Prop :=
  RunN Try.prog .str (V (convert 45 9 (.slice p0.a p0.len p0.cap))) w fun t6 w =>
  RunN Try.prog .str (V (convert 45 9 (.slice p1.a p1.len p1.cap))) w fun t8 w =>
  K (t6.toList == t8.toList) w
theorem T25.calls {p0 : Sl} {p1 : Sl} {w : World} {K : Bool → World → Prop} (h : T25 p0 p1 w K) : CallK Try.prog .bool 25 #[.slice p0.a p0.len p0.cap, .slice p1.a p1.len p1.cap] w K :=
  bodyZ_sound (κ := kappa) (ann := []) (fn := Try.f25) Try.func25 rfl (by kernel_rfl) (cast (show T25 p0 p1 w K = bodyZ Try.prog kappa [] .bool Try.f25 [.slice p0.a p0.len p0.cap, .slice p1.a p1.len p1.cap] w K by kernel_rfl) h)

/-- (*sluice/link.Link).Take -/
def T26 (p0 : Option Addr) (p1 : (Int × Int × Int × Int × Sl × Unit)) (w : World) (K : (Sl × Int × Unit) → World → Prop) : Prop :=
  RunN Try.prog .addr (V (Instr.box 62 (.agg #[.int .i64 p1.1, .int .i64 p1.2.1, .int .i64 p1.2.2.1, .int .i64 p1.2.2.2.1, .slice p1.2.2.2.2.1.a p1.2.2.2.2.1.len p1.2.2.2.2.1.cap]))) w fun t3 w =>
  RunN Try.prog (.agg (.cons (.int .i64) (.cons (.int .i64) (.cons (.int .i64) (.cons (.int .i64) (.cons .sl .nilT)))))) (V (Instr.loadAt 62 (.pointer (some t3)))) w fun t13 w =>
  CallK Try.prog .bool 33 #[.pointer p0, .agg #[.int .i64 t13.1, .int .i64 t13.2.1, .int .i64 t13.2.2.1, .int .i64 t13.2.2.2.1, .slice t13.2.2.2.2.1.a t13.2.2.2.2.1.len t13.2.2.2.2.1.cap]] w fun t14 w =>
  SplitB (!t14)
    (K ((⟨none, 0, 0⟩ : Sl), 31, ()) w)
    (NilP p0 fun t17 =>
    RunN Try.prog .sl (V (Instr.loadAt 75 (.pointer (some (t17.add 5))))) w fun t19 w =>
    CallK Try.prog (.int .i64) 34 #[.slice t19.a t19.len t19.cap, .func (.func 35) #[] #[.pointer (some t3)]] w fun t21 w =>
    JoinX (α := Int × Unit) (fun j2 w =>
      NilP p0 fun t31 =>
      RunN Try.prog .sl (V (Instr.loadAt 75 (.pointer (some (t31.add 5))))) w fun t33 w =>
      CallK Try.prog .sl 36 #[.slice t33.a t33.len t33.cap, .int .i64 0, .int .i64 j2.1] w fun t35 w =>
      NilP p0 fun t36 =>
      RunU Try.prog (U (Instr.storeAt 75 (.pointer (some (t36.add 5))) (.slice t35.a t35.len t35.cap))) w fun w =>
      RunN Try.prog (.int .i64) (V (Instr.loadAt 3 (.pointer (some (t3.add 2))))) w fun t39 w =>
      SplitB (t39 == 0)
        (K ((⟨none, 0, 0⟩ : Sl), 0, ()) w)
        (NilP p0 fun t42 =>
        RunU Try.prog (U (Instr.storeAt 4 (.pointer (some (t42.add 10))) (.bool true))) w fun w =>
        NilP p0 fun t46 =>
        ReadN Try.prog .map (V (Instr.loadAt 76 (.pointer (some (t46.add 9))))) w.drew fun t48 =>
        ReadN Try.prog (.int .i64) (V (Instr.loadAt 3 (.pointer (some (t3.add 2))))) w.drew fun t50 =>
        ReadN Try.prog (.tup (.cons .sl (.cons .bool .nilT))) (V (Instr.lookup 76 (.map t48) (.int .i64 t50) true)) w.drew fun t51 =>
        JoinX (α := Bool × Unit) (fun j4 w =>
          SplitB j4.1
            (K ((⟨none, 0, 0⟩ : Sl), 0, ()) w)
            (NilP p0 fun t79 =>
            ReadN Try.prog .map (V (Instr.loadAt 76 (.pointer (some (t79.add 9))))) w.drew fun t81 =>
            ReadN Try.prog (.int .i64) (V (Instr.loadAt 3 (.pointer (some (t3.add 2))))) w.drew fun t83 =>
            ReadN Try.prog .sl (V (Instr.loadAt 45 (.pointer (some (t3.add 4))))) w.drew fun t85 =>
            CallK Try.prog .sl 32 #[.slice t85.a t85.len t85.cap] w.drew fun t86 w =>
            StillV Try.prog (V (Instr.loadAt 3 (.pointer (some (t3.add 2))))) (.int .i64 t83) w ∧
            StillV Try.prog (V (Instr.loadAt 76 (.pointer (some (t79.add 9))))) (.map t81) w ∧
            RunU Try.prog (U (Instr.mapUpdate 76 (.map t81) (.int .i64 t83) (.slice t86.a t86.len t86.cap))) w fun w =>
            LoopX (α := Sl × Unit) (fun s5 w k6 =>
              NilP p0 fun t89 =>
              ReadN Try.prog .map (V (Instr.loadAt 76 (.pointer (some (t89.add 9))))) w.drew fun t91 =>
              NilP p0 fun t93 =>
              ReadN Try.prog (.int .i64) (V (Instr.loadAt 3 (.pointer (some (t93.add 8))))) w.drew fun t95 =>
              ReadN Try.prog (.tup (.cons .sl (.cons .bool .nilT))) (V (Instr.lookup 76 (.map t91) (.int .i64 t95) true)) w.drew fun t96 =>
              SplitB (!t96.2.1)
                (K (s5.1, 0, ()) w.drew)
                (NilP p0 fun t103 =>
                ReadN Try.prog .map (V (Instr.loadAt 76 (.pointer (some (t103.add 9))))) w.drew.drew fun t105 =>
                NilP p0 fun t107 =>
                ReadN Try.prog (.int .i64) (V (Instr.loadAt 3 (.pointer (some (t107.add 8))))) w.drew.drew fun t109 =>
                RunN Try.prog (.tup .nilT) (V (Builtin.delete_ #[76, 3] 0 #[.map t105, .int .i64 t109])) w.drew.drew fun _ w =>
                RunN Try.prog .sl (V (Instr.buildSlice 51 1 #[(0, .slice t96.1.a t96.1.len t96.1.cap)])) w fun t112 w =>
                RunN Try.prog .sl (V (Builtin.append_ #[51, 51] 51 #[.slice s5.1.a s5.1.len s5.1.cap, .slice t112.a t112.len t112.cap])) w fun t113 w =>
                NilP p0 fun t115 =>
                RunN Try.prog (.int .i64) (V (Instr.loadAt 3 (.pointer (some (t115.add 8))))) w fun t117 w =>
                NilP p0 fun t119 =>
                RunU Try.prog (U (Instr.storeAt 3 (.pointer (some (t119.add 8))) (.int .i64 (IntKind.i64.wrap (t117 + 1))))) w fun w =>
                k6 (t113, ()) w))
            ((⟨none, 0, 0⟩ : Sl), ()) w))
        fun k3 =>
          SplitB t51.2.1
            (k3 (true, ()) w.drew.drew)
            (ReadN Try.prog (.int .i64) (V (Instr.loadAt 3 (.pointer (some (t3.add 2))))) w.drew.drew fun t57 =>
            NilP p0 fun t59 =>
            ReadN Try.prog (.int .i64) (V (Instr.loadAt 3 (.pointer (some (t59.add 8))))) w.drew.drew fun t61 =>
            SplitB (decide (t57 < t61))
              (k3 (true, ()) w.drew.drew)
              (ReadN Try.prog (.int .i64) (V (Instr.loadAt 3 (.pointer (some (t3.add 2))))) w.drew.drew fun t66 =>
              NilP p0 fun t68 =>
              ReadN Try.prog (.int .i64) (V (Instr.loadAt 3 (.pointer (some (t68.add 8))))) w.drew.drew fun t70 =>
              NilP p0 fun t72 =>
              ReadN Try.prog (.int .i64) (V (Instr.loadAt 3 (.pointer (some (t72.add 2))))) w.drew.drew fun t74 =>
              k3 (decide (t66 ≥ (IntKind.i64.wrap (t70 + t74))), ()) w.drew.drew))))
    fun k1 =>
      SplitB (decide (t21 < 0))
        (NilP p0 fun t25 =>
        RunN Try.prog .sl (V (Instr.loadAt 75 (.pointer (some (t25.add 5))))) w fun t27 w =>
        k1 ((t27.len : Int), ()) w)
        (k1 (t21, ()) w))
theorem T26.calls {p0 : Option Addr} {p1 : (Int × Int × Int × Int × Sl × Unit)} {w : World} {K : (Sl × Int × Unit) → World → Prop} (h : T26 p0 p1 w K) : CallK Try.prog (.tup (.cons .sl (.cons (.int .i64) .nilT))) 26 #[.pointer p0, .agg #[.int .i64 p1.1, .int .i64 p1.2.1, .int .i64 p1.2.2.1, .int .i64 p1.2.2.2.1, .slice p1.2.2.2.2.1.a p1.2.2.2.2.1.len p1.2.2.2.2.1.cap]] w K :=
  bodyZ_sound (κ := kappa) (ann := [(5, [(6, (.int .i64))]), (14, [(77, .bool)]), (18, [(9, .sl)])]) (fn := Try.f26) Try.func26 rfl (by kernel_rfl) (cast (show T26 p0 p1 w K = bodyZ Try.prog kappa [(5, [(6, (.int .i64))]), (14, [(77, .bool)]), (18, [(9, .sl)])] (.tup (.cons .sl (.cons (.int .i64) .nilT))) Try.f26 [.pointer p0, .agg #[.int .i64 p1.1, .int .i64 p1.2.1, .int .i64 p1.2.2.1, .int .i64 p1.2.2.2.1, .slice p1.2.2.2.2.1.a p1.2.2.2.2.1.len p1.2.2.2.2.1.cap]] w K by kernel_rfl) h)

/-- sluice/sluiceref3.New -/
def T27 (p0 : Int) (p1 : Int) (p2 : Int) (p3 : Int) (w : World) (K : (Option Addr × Int × Unit) → World → Prop) : Prop :=
  JoinX (α := Bool × Unit) (fun j2 w =>
    SplitB j2.1
      (K (none, 3, ()) w)
      (JoinX (α := Bool × Unit) (fun j4 w =>
        SplitB j4.1
          (K (none, 1, ()) w)
          (RunN Try.prog .addr (V (Instr.box 95 (.agg #[.int .i64 p0, .int .i64 p1, .int .i64 p2, .int .i64 p3, .slice none 0 0, .int .i64 0, .int .i64 0, .slice none 0 0, .int .i64 1, .bool false, .bool false, .int .i64 0]))) w fun t48 w =>
          K (some t48, 0, ()) w))
      fun k3 =>
        SplitB (decide (p2 < 1))
          (k3 (true, ()) w)
          (SplitB (decide (p2 > 16))
            (k3 (true, ()) w)
            (SplitB (decide (p3 < 1))
              (k3 (true, ()) w)
              (k3 (decide (p3 > 1000), ()) w)))))
  fun k1 =>
    SplitB (decide (p0 < 0))
      (k1 (true, ()) w)
      (SplitB (decide (p0 ≥ 16))
        (k1 (true, ()) w)
        (SplitB (decide (p1 < 0))
          (k1 (true, ()) w)
          (SplitB (decide (p1 ≥ 16))
            (k1 (true, ()) w)
            (k1 (p0 == p1, ()) w))))
theorem T27.calls {p0 : Int} {p1 : Int} {p2 : Int} {p3 : Int} {w : World} {K : (Option Addr × Int × Unit) → World → Prop} (h : T27 p0 p1 p2 p3 w K) : CallK Try.prog (.tup (.cons .ptr (.cons (.int .i64) .nilT))) 27 #[.int .i64 p0, .int .i64 p1, .int .i64 p2, .int .i64 p3] w K :=
  bodyZ_sound (κ := kappa) (ann := [(2, [(28, .bool)]), (5, [(42, .bool)])]) (fn := Try.f27) Try.func27 rfl (by kernel_rfl) (cast (show T27 p0 p1 p2 p3 w K = bodyZ Try.prog kappa [(2, [(28, .bool)]), (5, [(42, .bool)])] (.tup (.cons .ptr (.cons (.int .i64) .nilT))) Try.f27 [.int .i64 p0, .int .i64 p1, .int .i64 p2, .int .i64 p3] w K by kernel_rfl) h)

/-- (*sluice/link.Link).segment -/
def T28 (p0 : Option Addr) (p1 : (Int × Sl × Unit)) (w : World) (K : (Int × Int × Int × Int × Sl × Unit) → World → Prop) : Prop :=
  RunN Try.prog .addr (V (Instr.box 81 (.agg #[.int .i64 p1.1, .slice p1.2.1.a p1.2.1.len p1.2.1.cap]))) w fun t3 w =>
  RunN Try.prog .addr (V (Instr.alloc 62 true (.tuple #[]))) w fun t4 w =>
  NilP p0 fun t6 =>
  ReadN Try.prog (.int .i64) (V (Instr.loadAt 3 (.pointer (some (t6.add 0))))) w.drew fun t8 =>
  NilP p0 fun t10 =>
  ReadN Try.prog (.int .i64) (V (Instr.loadAt 3 (.pointer (some (t10.add 1))))) w.drew fun t12 =>
  ReadN Try.prog (.int .i64) (V (Instr.loadAt 3 (.pointer (some (t3.add 0))))) w.drew fun t14 =>
  NilP p0 fun t16 =>
  ReadN Try.prog (.int .i64) (V (Instr.loadAt 3 (.pointer (some (t16.add 8))))) w.drew fun t18 =>
  ReadN Try.prog .sl (V (Instr.loadAt 45 (.pointer (some (t3.add 1))))) w.drew fun t21 =>
  CallK Try.prog .sl 32 #[.slice t21.a t21.len t21.cap] w.drew fun t22 w =>
  StillV Try.prog (V (Instr.loadAt 3 (.pointer (some (t16.add 8))))) (.int .i64 t18) w ∧
  StillV Try.prog (V (Instr.loadAt 3 (.pointer (some (t3.add 0))))) (.int .i64 t14) w ∧
  StillV Try.prog (V (Instr.loadAt 3 (.pointer (some (t10.add 1))))) (.int .i64 t12) w ∧
  StillV Try.prog (V (Instr.loadAt 3 (.pointer (some (t6.add 0))))) (.int .i64 t8) w ∧
  RunU Try.prog (U (Instr.storeAt 62 (.pointer (some t4)) (.agg #[.int .i64 t8, .int .i64 t12, .int .i64 t14, .int .i64 (IntKind.i64.wrap (t18 - 1)), .slice t22.a t22.len t22.cap]))) w fun w =>
  ReadN Try.prog (.agg (.cons (.int .i64) (.cons (.int .i64) (.cons (.int .i64) (.cons (.int .i64) (.cons .sl .nilT)))))) (V (Instr.loadAt 62 (.pointer (some t4)))) w fun r0 =>
  K (r0.1, r0.2.1, r0.2.2.1, r0.2.2.2.1, r0.2.2.2.2.1, ()) w
theorem T28.calls {p0 : Option Addr} {p1 : (Int × Sl × Unit)} {w : World} {K : (Int × Int × Int × Int × Sl × Unit) → World → Prop} (h : T28 p0 p1 w K) : CallK Try.prog (.agg (.cons (.int .i64) (.cons (.int .i64) (.cons (.int .i64) (.cons (.int .i64) (.cons .sl .nilT)))))) 28 #[.pointer p0, .agg #[.int .i64 p1.1, .slice p1.2.1.a p1.2.1.len p1.2.1.cap]] w K :=
  bodyZ_sound (κ := kappa) (ann := []) (fn := Try.f28) Try.func28 rfl (by kernel_rfl) (cast (show T28 p0 p1 w K = bodyZ Try.prog kappa [] (.agg (.cons (.int .i64) (.cons (.int .i64) (.cons (.int .i64) (.cons (.int .i64) (.cons .sl .nilT)))))) Try.f28 [.pointer p0, .agg #[.int .i64 p1.1, .slice p1.2.1.a p1.2.1.len p1.2.1.cap]] w K by kernel_rfl) h)

/-- slices.Clone[[]byte,byte] -/
def T32 (p0 : Sl) (w : World) (K : Sl → World → Prop) : Prop :=
  RunN Try.prog .bool (V (do eqGuard .eql 45 (.tmp 3) (.const (.slice none 0 0)) (.slice p0.a p0.len p0.cap) (.slice none 0 0); binOp .eql 45 (.slice p0.a p0.len p0.cap) (.slice none 0 0))) w fun t4 w =>
  SplitB t4
    (K (⟨none, 0, 0⟩ : Sl) w)
    (RunN Try.prog .sl (V (Instr.buildSlice 45 0 #[])) w fun t5 w =>
    RunN Try.prog .sl (V (Builtin.append_ #[45, 45] 45 #[.slice t5.a t5.len t5.cap, .slice p0.a p0.len p0.cap])) w fun t7 w =>
    K t7 w)
theorem T32.calls {p0 : Sl} {w : World} {K : Sl → World → Prop} (h : T32 p0 w K) : CallK Try.prog .sl 32 #[.slice p0.a p0.len p0.cap] w K :=
  bodyZ_sound (κ := kappa) (ann := []) (fn := Try.f32) Try.func32 rfl (by kernel_rfl) (cast (show T32 p0 w K = bodyZ Try.prog kappa [] .sl Try.f32 [.slice p0.a p0.len p0.cap] w K by kernel_rfl) h)

/-- (*sluice/link.Link).fits -/
def T33 (p0 : Option Addr) (p1 : (Int × Int × Int × Int × Sl × Unit)) (w : World) (K : Bool → World → Prop) : Prop :=
  RunN Try.prog .addr (V (Instr.box 62 (.agg #[.int .i64 p1.1, .int .i64 p1.2.1, .int .i64 p1.2.2.1, .int .i64 p1.2.2.2.1, .slice p1.2.2.2.2.1.a p1.2.2.2.2.1.len p1.2.2.2.2.1.cap]))) w fun t3 w =>
  ReadN Try.prog (.int .i64) (V (Instr.loadAt 3 (.pointer (some (t3.add 0))))) w.drew fun t6 =>
  NilP p0 fun t8 =>
  ReadN Try.prog (.int .i64) (V (Instr.loadAt 3 (.pointer (some (t8.add 1))))) w.drew fun t10 =>
  SplitB (t6 == t10)
    (ReadN Try.prog (.int .i64) (V (Instr.loadAt 3 (.pointer (some (t3.add 1))))) w.drew fun t14 =>
    NilP p0 fun t16 =>
    ReadN Try.prog (.int .i64) (V (Instr.loadAt 3 (.pointer (some (t16.add 0))))) w.drew fun t18 =>
    SplitB (t14 == t18)
      (ReadN Try.prog (.int .i64) (V (Instr.loadAt 3 (.pointer (some (t3.add 2))))) w.drew fun t23 =>
      SplitB (decide (t23 ≥ 0))
        (ReadN Try.prog (.int .i64) (V (Instr.loadAt 3 (.pointer (some (t3.add 2))))) w.drew fun t28 =>
        SplitB (decide (t28 ≤ 1099511627776))
          (ReadN Try.prog (.int .i64) (V (Instr.loadAt 3 (.pointer (some (t3.add 3))))) w.drew fun t33 =>
          SplitB (decide (t33 ≥ 0))
            (ReadN Try.prog (.int .i64) (V (Instr.loadAt 3 (.pointer (some (t3.add 3))))) w.drew fun t38 =>
            NilP p0 fun t40 =>
            ReadN Try.prog (.int .i64) (V (Instr.loadAt 3 (.pointer (some (t40.add 7))))) w.drew fun t42 =>
            SplitB (decide (t38 ≤ t42))
              (ReadN Try.prog (.int .i64) (V (Instr.loadAt 3 (.pointer (some (t3.add 2))))) w.drew fun t47 =>
              SplitB (decide (t47 > 0))
                (ReadN Try.prog .sl (V (Instr.loadAt 45 (.pointer (some (t3.add 4))))) w.drew fun t58 =>
                K (decide ((t58.len : Int) ≤ 4000)) w.drew)
                (ReadN Try.prog .sl (V (Instr.loadAt 45 (.pointer (some (t3.add 4))))) w.drew fun t51 =>
                SplitB ((t51.len : Int) == 0)
                  (ReadN Try.prog .sl (V (Instr.loadAt 45 (.pointer (some (t3.add 4))))) w.drew fun t58 =>
                  K (decide ((t58.len : Int) ≤ 4000)) w.drew)
                  (K false w.drew)))
              (K false w.drew))
            (K false w.drew))
          (K false w.drew))
        (K false w.drew))
      (K false w.drew))
    (K false w.drew)
theorem T33.calls {p0 : Option Addr} {p1 : (Int × Int × Int × Int × Sl × Unit)} {w : World} {K : Bool → World → Prop} (h : T33 p0 p1 w K) : CallK Try.prog .bool 33 #[.pointer p0, .agg #[.int .i64 p1.1, .int .i64 p1.2.1, .int .i64 p1.2.2.1, .int .i64 p1.2.2.2.1, .slice p1.2.2.2.2.1.a p1.2.2.2.2.1.len p1.2.2.2.2.1.cap]] w K :=
  bodyZ_sound (κ := kappa) (ann := []) (fn := Try.f33) Try.func33 rfl (by kernel_rfl) (cast (show T33 p0 p1 w K = bodyZ Try.prog kappa [] .bool Try.f33 [.pointer p0, .agg #[.int .i64 p1.1, .int .i64 p1.2.1, .int .i64 p1.2.2.1, .int .i64 p1.2.2.2.1, .slice p1.2.2.2.2.1.a p1.2.2.2.2.1.len p1.2.2.2.2.1.cap]] w K by kernel_rfl) h)

/-- slices.IndexFunc[[]sluice/link.parcel,sluice/link.parcel] -/
def T34 (p0 : Sl) (p10 : Addr) (w : World) (K : Int → World → Prop) : Prop :=
  LoopX (α := Int × Unit) (fun s1 w k2 =>
    SplitB (decide (s1.1 < (p0.len : Int)))
      (RunN Try.prog .addr (V (Instr.indexAt 75 (.slice p0.a p0.len p0.cap) (.int .i64 s1.1))) w fun t14 w =>
      RunN Try.prog (.agg (.cons (.int .i64) (.cons .sl .nilT))) (V (Instr.loadAt 81 (.pointer (some t14)))) w fun t15 w =>
      CallK Try.prog .bool 35 #[.agg #[.int .i64 t15.1, .slice t15.2.1.a t15.2.1.len t15.2.1.cap], .pointer (some p10)] w fun t16 w =>
      SplitB t16
        (K s1.1 w)
        (k2 (IntKind.i64.wrap (s1.1 + 1), ()) w))
      (K (-1) w))
  (0, ()) w
theorem T34.calls {p0 : Sl} {p10 : Addr} {w : World} {K : Int → World → Prop} (h : T34 p0 p10 w K) : CallK Try.prog (.int .i64) 34 #[.slice p0.a p0.len p0.cap, .func (.func 35) #[] #[.pointer (some p10)]] w K :=
  bodyZ_sound (κ := kappa) (ann := [(3, [(8, (.int .i64))])]) (fn := Try.f34) Try.func34 rfl (by kernel_rfl) (cast (show T34 p0 p10 w K = bodyZ Try.prog kappa [(3, [(8, (.int .i64))])] (.int .i64) Try.f34 [.slice p0.a p0.len p0.cap, .func (.func 35) #[] #[.pointer (some p10)]] w K by kernel_rfl) h)

/-- (*sluice/link.Link).Take$1 -/
def T35 (p0 : (Int × Sl × Unit)) (c0 : Addr) (w : World) (K : Bool → World → Prop) : Prop :=
  RunN Try.prog .addr (V (Instr.box 81 (.agg #[.int .i64 p0.1, .slice p0.2.1.a p0.2.1.len p0.2.1.cap]))) w fun t2 w =>
  RunN Try.prog (.int .i64) (V (Instr.loadAt 3 (.pointer (some (t2.add 0))))) w fun t5 w =>
  RunN Try.prog (.int .i64) (V (Instr.loadAt 3 (.pointer (some (c0.add 3))))) w fun t7 w =>
  K (decide (t5 > t7)) w
theorem T35.calls {p0 : (Int × Sl × Unit)} {c0 : Addr} {w : World} {K : Bool → World → Prop} (h : T35 p0 c0 w K) : CallK Try.prog .bool 35 #[.agg #[.int .i64 p0.1, .slice p0.2.1.a p0.2.1.len p0.2.1.cap], .pointer (some c0)] w K :=
  bodyZ_sound (κ := kappa) (ann := []) (fn := Try.f35) Try.func35 rfl (by kernel_rfl) (cast (show T35 p0 c0 w K = bodyZ Try.prog kappa [] .bool Try.f35 [.agg #[.int .i64 p0.1, .slice p0.2.1.a p0.2.1.len p0.2.1.cap], .pointer (some c0)] w K by kernel_rfl) h)

/-- slices.Delete[[]sluice/link.parcel,sluice/link.parcel] -/
def T36 (p0 : Sl) (p1 : Int) (p2 : Int) (w : World) (K : Sl → World → Prop) : Prop :=
  RunN Try.prog .sl (V (Instr.sliceAt 75 (.slice p0.a p0.len p0.cap) (some (.int .i64 p1)) (some (.int .i64 p2)) (some (.int .i64 (p0.len : Int))))) w fun t13 w =>
  SplitB (p1 == p2)
    (K p0 w)
    (ReadN Try.prog .sl (V (Instr.sliceAt 75 (.slice p0.a p0.len p0.cap) none (some (.int .i64 p1)) none)) w.drew fun t22 =>
    ReadN Try.prog .sl (V (Instr.sliceAt 75 (.slice p0.a p0.len p0.cap) (some (.int .i64 p2)) none none)) w.drew fun t25 =>
    RunN Try.prog .sl (V (Builtin.append_ #[75, 75] 75 #[.slice t22.a t22.len t22.cap, .slice t25.a t25.len t25.cap])) w.drew fun t26 w =>
    RunN Try.prog .sl (V (Instr.sliceAt 75 (.slice t26.a t26.len t26.cap) (some (.int .i64 (t26.len : Int))) (some (.int .i64 (p0.len : Int))) none)) w fun t31 w =>
    RunN Try.prog (.tup .nilT) (V (Builtin.clear_ #[75] 0 #[.slice t31.a t31.len t31.cap])) w fun _ w =>
    K t26 w)
theorem T36.calls {p0 : Sl} {p1 : Int} {p2 : Int} {w : World} {K : Sl → World → Prop} (h : T36 p0 p1 p2 w K) : CallK Try.prog .sl 36 #[.slice p0.a p0.len p0.cap, .int .i64 p1, .int .i64 p2] w K :=
  bodyZ_sound (κ := kappa) (ann := []) (fn := Try.f36) Try.func36 rfl (by kernel_rfl) (cast (show T36 p0 p1 p2 w K = bodyZ Try.prog kappa [] .sl Try.f36 [.slice p0.a p0.len p0.cap, .int .i64 p1, .int .i64 p2] w K by kernel_rfl) h)
end Go.Proofs.Ytodgnpmljdopiaa

/- Memory as a reader of code meets it: slices that are read, slices that are owned, what an operation leaves as it was; and what each operation on memory comes to. -/
namespace Go.Fw
open Go Go.RowKit

/-! ### what has not changed -/
structure Upd (w w' : World) (S : Nat → Prop) : Prop where
  os : w'.os = w.os
  tape : w'.tape = w.tape
  output : w'.output = w.output
  size : w.heap.size ≤ w'.heap.size
  block : ∀ k, k < w.heap.size → ¬ S k → w'.heap[k]? = w.heap[k]?

def nobody : Nat → Prop := fun _ => False
theorem Upd.refl (w : World) (S : Nat → Prop) : Upd w w S := ⟨rfl, rfl, rfl, Nat.le_refl _, fun _ _ _ => rfl⟩
theorem Upd.trans {a b c : World} {S : Nat → Prop} (h : Upd a b S) (k : Upd b c S) : Upd a c S :=
  ⟨k.os.trans h.os, k.tape.trans h.tape, k.output.trans h.output, Nat.le_trans h.size k.size, fun i hi hs => (k.block i (by have := h.size; omega) hs).trans (h.block i hi hs)⟩
/-- The second step may also write whatever is new. -/
theorem Upd.trans' {a b c : World} {S T : Nat → Prop} (h : Upd a b S) (k : Upd b c T) (hT : ∀ i, T i → i < a.heap.size → S i) : Upd a c S :=
  ⟨k.os.trans h.os, k.tape.trans h.tape, k.output.trans h.output, Nat.le_trans h.size k.size,
    fun i hi hs => (k.block i (by have := h.size; omega) (fun ht => hs (hT i ht hi))).trans (h.block i hi hs)⟩
theorem Upd.mono {a b : World} {S T : Nat → Prop} (h : Upd a b S) (hST : ∀ i, i < a.heap.size → S i → T i) : Upd a b T :=
  ⟨h.os, h.tape, h.output, h.size, fun i hi hs => h.block i hi fun hS => hs (hST i hi hS)⟩
theorem Upd.drew (w : World) (S : Nat → Prop) : Upd w w.drew S := ⟨rfl, rfl, rfl, Nat.le_refl _, fun _ _ _ => rfl⟩
theorem Upd.alloc (w : World) (o : Obj) (S : Nat → Prop) : Upd w (w.alloc o) S :=
  ⟨rfl, rfl, rfl, by simp, fun k hk _ => heap_alloc_old w o k hk⟩
theorem Upd.setCell (w : World) (a : Addr) (v : Value) {S : Nat → Prop} (h : S a.block) : Upd w (w.setCell a v) S :=
  ⟨rfl, rfl, rfl, by simp, fun k _ hs => heap_setCell_other w a k v fun e => hs (e ▸ h)⟩
theorem Upd.setRow (w : World) (g : Nat) (cs : Array Value) {S : Nat → Prop} (h : S g) : Upd w (w.setRow g cs) S :=
  ⟨rfl, rfl, rfl, by simp, fun k _ hs => setRow_other w g k cs fun e => hs (e ▸ h)⟩
theorem Upd.below {w w' : World} (h : Upd w w' nobody) : Below w.heap.size w w' := ⟨h.os, h.tape, h.output, h.size, fun k hk => h.block k hk (fun h => h)⟩
theorem Upd.cell {w w' : World} {S : Nat → Prop} (h : Upd w w' S) {a : Addr} {v : Value} (hc : w.cell? a = some v) (hs : ¬ S a.block) : w'.cell? a = some v :=
  (World.cell?_of_block (w := w) (h.block a.block (World.block_lt_of_cell? w a hc) hs)).trans hc
theorem Upd.obj {w w' : World} {S : Nat → Prop} (h : Upd w w' S) {b : Nat} {o : Obj} (hc : w.heap[b]? = some o) (hs : ¬ S b) : w'.heap[b]? = some o :=
  (h.block b (Array.getElem?_eq_some_iff.1 hc).1 hs).trans hc
theorem lt_of_obj {w : World} {b : Nat} {o : Obj} (h : w.heap[b]? = some o) : b < w.heap.size := (Array.getElem?_eq_some_iff.1 h).1

/-! ### slices -/
def Sl.blk (s : Sl) : Option Nat := s.a.map (·.block)
/-- A slice that reads so: each element has 'sz' cells. -/
def Rd (w : World) (s : Sl) (sz : Nat) (vs : List Value) : Prop :=
  vs.length = s.len * sz ∧ (vs = [] ∨ ∃ b o, s.a = some ⟨b, o, none⟩ ∧ ∀ i v, vs[i]? = some v → w.cell? ⟨b, o + i, none⟩ = some v) ∧ s.len ≤ s.cap
/-- A slice whose memory, up to its capacity, is nobody else's. -/
def Ow (w : World) (base : Nat) (E : TypeId) (sz : Nat) (s : Sl) (vs : List Value) : Prop :=
  vs.length = s.len * sz ∧ ((s = ⟨none, 0, 0⟩) ∨ ∃ g o cs, s.a = some ⟨g, o, none⟩ ∧ base ≤ g ∧ w.heap[g]? = some (.cells ⟨cs⟩ E (0, 0)) ∧ s.len ≤ s.cap ∧ s.cap ≤ maxLen ∧
    o + s.cap * sz ≤ cs.length ∧ (cs.drop o).take (s.len * sz) = vs)

theorem Rd.len {w : World} {s : Sl} {sz : Nat} {vs : List Value} (h : Rd w s sz vs) : vs.length = s.len * sz := h.1
theorem Ow.len {w : World} {base : Nat} {E : TypeId} {sz : Nat} {s : Sl} {vs : List Value} (h : Ow w base E sz s vs) : vs.length = s.len * sz := h.1
theorem Ow.nil (w : World) (base : Nat) (E : TypeId) (sz : Nat) : Ow w base E sz ⟨none, 0, 0⟩ [] := ⟨by simp, .inl rfl⟩
theorem Rd.nil (w : World) (sz : Nat) : Rd w ⟨none, 0, 0⟩ sz [] := ⟨by simp, .inl rfl, Nat.le_refl _⟩
theorem Ow.rd {w : World} {base : Nat} {E : TypeId} {sz : Nat} {s : Sl} {vs : List Value} (h : Ow w base E sz s vs) : Rd w s sz vs := by
  rcases h.2 with rfl | ⟨g, o, cs, ha, hb, hg, h1, h2, h3, h4⟩
  · refine ⟨h.1, .inl ?_, Nat.le_refl _⟩
    have := h.1
    simp at this
    exact this
  · refine ⟨h.1, .inr ⟨g, o, ha, fun i v hv => ?_⟩, h1⟩
    rw [cell_of_row w g _ ⟨cs⟩ E (0, 0) hg]
    rw [← h4, List.getElem?_take] at hv
    split at hv
    · simpa [List.getElem?_drop] using hv
    · cases hv
theorem Rd.upd {w w' : World} {S : Nat → Prop} {s : Sl} {sz : Nat} {vs : List Value} (h : Rd w s sz vs) (hu : Upd w w' S) (hs : ∀ b, s.blk = some b → ¬ S b) : Rd w' s sz vs := by
  refine ⟨h.1, ?_, h.2.2⟩
  rcases h.2.1 with h0 | ⟨b, o, ha, hc⟩
  · exact .inl h0
  · exact .inr ⟨b, o, ha, fun i v hv => hu.cell (hc i v hv) (hs b (by simp [Sl.blk, ha]))⟩
theorem Ow.upd {w w' : World} {S : Nat → Prop} {base : Nat} {E : TypeId} {sz : Nat} {s : Sl} {vs : List Value} (h : Ow w base E sz s vs) (hu : Upd w w' S) (hs : ∀ b, s.blk = some b → ¬ S b) : Ow w' base E sz s vs := by
  refine ⟨h.1, ?_⟩
  rcases h.2 with h0 | ⟨g, o, cs, ha, hb, hg, r⟩
  · exact .inl h0
  · exact .inr ⟨g, o, cs, ha, hb, hu.obj hg (hs g (by simp [Sl.blk, ha])), r⟩
theorem Ow.lt {w : World} {base : Nat} {E : TypeId} {sz : Nat} {s : Sl} {vs : List Value} (h : Ow w base E sz s vs) {b : Nat} (hb : s.blk = some b) : base ≤ b ∧ b < w.heap.size := by
  rcases h.2 with rfl | ⟨g, o, cs, ha, hbase, hg, r⟩
  · simp [Sl.blk] at hb
  · simp [Sl.blk, ha] at hb; subst hb; exact ⟨hbase, lt_of_obj hg⟩
theorem Ow.base {w : World} {base base' : Nat} {E : TypeId} {sz : Nat} {s : Sl} {vs : List Value} (h : Ow w base E sz s vs) (hb : ∀ b, s.blk = some b → base' ≤ b) : Ow w base' E sz s vs := by
  refine ⟨h.1, ?_⟩
  rcases h.2 with h0 | ⟨g, o, cs, ha, hbase, r⟩
  · exact .inl h0
  · exact .inr ⟨g, o, cs, ha, hb g (by simp [Sl.blk, ha]), r⟩
theorem Rd.cell {w : World} {s : Sl} {sz : Nat} {vs : List Value} (h : Rd w s sz vs) {i : Nat} {v : Value} (hv : vs[i]? = some v) : ∃ b o, s.a = some ⟨b, o, none⟩ ∧ w.cell? ⟨b, o + i, none⟩ = some v := by
  rcases h.2.1 with h0 | ⟨b, o, ha, hc⟩
  · subst h0; simp at hv
  · exact ⟨b, o, ha, hc i v hv⟩

/-! ### types of slices -/
def etB (P : Program) (t e : TypeId) (sz by_ : Nat) : Bool :=
  match P.underlying t, P.info? e with
  | some (.slice e'), some i => Nat.beq e' e && Nat.beq i.size sz && Nat.beq i.bytes by_ && (match i.zero with | some z => Nat.beq z.cells.size sz | none => false)
  | _, _ => false
structure ET (P : Program) (t e : TypeId) (sz by_ : Nat) : Prop where
  ht : P.underlying t = some (.slice e)
  hi : ∃ i z, P.info? e = some i ∧ i.zero = some z ∧ i.size = sz ∧ i.bytes = by_ ∧ z.cells.size = sz
theorem ET.of {P : Program} {t e : TypeId} {sz by_ : Nat} (h : etB P t e sz by_ = true) : ET P t e sz by_ := by
  unfold etB at h
  split at h
  · rename_i e' i ht hi
    simp only [Bool.and_eq_true] at h
    obtain ⟨⟨⟨h1, h2⟩, h3⟩, h4⟩ := h
    have := Nat.eq_of_beq_eq_true h1; subst this
    split at h4
    · rename_i z hz
      exact ⟨ht, i, z, hi, hz, Nat.eq_of_beq_eq_true h2, Nat.eq_of_beq_eq_true h3, Nat.eq_of_beq_eq_true h4⟩
    · cases h4
  · cases h

section
variable {P : Program} {w : World}

theorem RunN.of {kd : Kd} {s : Sem Value} {K : kd.T → World → Prop} {x : kd.T} {w' : World} (hr : s.run P w = .ok (kd.val x) w') (h : K x w') : RunN P kd (V s) w K :=
  ⟨x, w', by simp [V, hr], h⟩
theorem RunU.of {s : Sem Unit} {K : World → Prop} {w' : World} (hr : s.run P w = .ok () w') (h : K w') : RunU P (U s) w K := ⟨w', by simp [U, hr], h⟩
theorem ReadN.of {kd : Kd} {s : Sem Value} {K : kd.T → Prop} {x : kd.T} (hr : s.run P w = .ok (kd.val x) w) (h : K x) : ReadN P kd (V s) w K := ⟨x, by simp [V, hr], h⟩
theorem StillV.of {s : Sem Value} {v : Value} (hr : s.run P w = .ok v w) : StillV P (V s) v w := by simp [StillV, V, hr]
theorem CallK.mono {kd : Kd} {f : FuncId} {args : Array Value} {K K' : kd.T → World → Prop} (h : CallK P kd f args w K) (hk : ∀ x w', K x w' → K' x w') : CallK P kd f args w K' :=
  Calls.mono h fun _ _ ⟨x, e, hx⟩ => ⟨x, e, hk _ _ hx⟩

/-- Append, onto what is owned, of whatever may be read. -/
theorem run_app {base : Nat} {t tx ty e : TypeId} {sz by_ : Nat} (et : ET P t e sz by_) (hsz : 0 < sz) {s : Sl} {xs : List Value} (ho : Ow w base e sz s xs) {x : Value} {n : Nat} {news : List Value} (hs : Src P sz tx x n news w)
    (hbase : base ≤ w.heap.size) (h63 : s.len + n ≤ maxLen) (hfit : (s.len + n) * by_ ≤ 140737488355328) :
    ∃ s' w', (Builtin.append_ #[t, tx] ty #[.slice s.a s.len s.cap, x]).run P w = .ok (.slice s'.a s'.len s'.cap) w' ∧ s'.len = s.len + n ∧ Ow w' base e sz s' (xs ++ news) ∧
      Upd w w' (fun k => s.blk = some k) ∧ ((s'.a = s.a ∧ s'.cap = s.cap) ∨ (Upd w w' nobody ∧ ∃ g, s'.blk = some g ∧ w.heap.size ≤ g ∧ g < w'.heap.size)) := by
  obtain ⟨i, z, hi, hz, h1, h2, h3⟩ := et.hi
  subst h1; subst h2
  have hs63 : ((s.len + n : Nat) : Int) ≤ 9223372036854775807 := by simp only [maxLen] at h63; omega
  rcases ho.2 with hnil | ⟨g, o, cs, ha, hbg, hg, hlc, hcm, hcs, htake⟩
  · subst hnil
    have hx : xs = [] := by have := ho.1; simpa using this
    subst hx
    by_cases hn : n = 0
    · subst hn
      have hnw : news = [] := by have := hs.newsLen; simpa using this
      subst hnw
      refine ⟨⟨none, 0, 0⟩, w, ?_, rfl, Ow.nil _ _ _ _, Upd.refl _ _, .inl ⟨rfl, rfl⟩⟩
      rcases hs.kind with ⟨e', hk⟩ | hk <;> simp [Builtin.append_, run_underlying et.ht, run_underlying hk, sizeOf, typeInfo, hi, hs.len, hs.cells]
    · have hr := run_append_grow_src (P := P) w t tx ty e i z et.ht hi hz none 0 0 [] (by simp [Builtin.firstCells]) x n news hs (by omega) (by simpa using hs63)
        (growslice_fits (by omega) (by simpa using hfit))
      simp only [Nat.zero_add] at hr
      refine ⟨⟨some ⟨w.heap.size, 0, none⟩, n, grownCap w n 0 e⟩, _, hr, by simp, ⟨by simp [hs.newsLen], .inr ⟨w.heap.size, 0, (([] ++ news).toArray ++ Builtin.zeroCells z.cells (grownCap w n 0 e - n)).toList, rfl, hbase, heap_alloc_new w.drew _, grownCap_ge _ _ _ _, grownCap_le_maxLen _ _ _ _ (by simpa using h63), ?_, ?_⟩⟩,
        (Upd.drew w _).trans (Upd.alloc _ _ _), .inr ⟨(Upd.drew w _).trans (Upd.alloc _ _ _), w.heap.size, rfl, Nat.le_refl _, by simp⟩⟩
      · have hge := grownCap_ge w n 0 e
        rw [Array.length_toList, Array.size_append, size_zeroCells, h3]
        simp only [List.nil_append, List.size_toArray, hs.newsLen, ← Nat.add_mul]
        rw [Nat.zero_add]
        exact Nat.mul_le_mul_right _ (by omega)
      · have : ([] ++ news : List Value).length = n * i.size := by simp [hs.newsLen]
        rw [List.drop_zero, Array.toList_append, ← this]
        exact List.take_left
  · by_cases hroom : s.len + n ≤ s.cap
    · have hle : (s.len + n) * i.size ≤ s.cap * i.size := Nat.mul_le_mul_right _ hroom
      rw [Nat.add_mul] at hle
      have hst := run_storeCells_at P g (o + s.len * i.size) e news 0 ⟨cs⟩ w hg (by simp [hs.newsLen]; omega) hs.one
      simp only [Nat.add_zero] at hst
      refine ⟨⟨s.a, s.len + n, s.cap⟩, w.setRow g (cs.take (o + s.len * i.size) ++ news ++ cs.drop (o + s.len * i.size + news.length)).toArray, ?_, rfl, ⟨by simp [ho.1, hs.newsLen, Nat.add_mul], .inr ⟨g, o, _, ha, hbg, setRow_heap w g ⟨cs⟩ _ e _ hg, hroom, hcm, ?_, ?_⟩⟩,
        Upd.setRow _ _ _ (by simp [Sl.blk, ha]), .inl ⟨rfl, rfl⟩⟩
      · rw [ha]
        rcases hs.kind with ⟨e', hk⟩ | hk <;> simp [Builtin.append_, run_underlying et.ht, run_underlying hk, sizeOf, typeInfo, hi, hs.len, hroom, hs.cells, Addr.add_lit, hst]
      · simp [hs.newsLen]; omega
      · have hl1 : (cs.take (o + s.len * i.size)).length = o + s.len * i.size := by simp; omega
        rw [List.append_assoc, List.drop_append_of_le_length (by rw [hl1]; omega), List.drop_take]
        have : o + s.len * i.size - o = s.len * i.size := by omega
        rw [this, htake, ← List.append_assoc]
        have hlen : (xs ++ news).length = (s.len + n) * i.size := by simp [ho.1, hs.newsLen, Nat.add_mul]
        rw [← hlen]; exact List.take_left
    · have holds : ∀ j u, xs[j]? = some u → w.drew.cell? ((⟨g, o, none⟩ : Addr).add j) = some u := by
        intro j u hu
        have hadd : (⟨g, o, none⟩ : Addr).add j = ⟨g, o + j, none⟩ := by unfold Addr.add; split <;> simp_all
        rw [hadd, World.cell?_drew, cell_of_row w g _ ⟨cs⟩ e (0, 0) hg]
        rw [← htake, List.getElem?_take] at hu
        split at hu
        · simpa [List.getElem?_drop] using hu
        · cases hu
      have hr := run_append_grow_src (P := P) w t tx ty e i z et.ht hi hz s.a s.len s.cap xs (by rw [ha]; exact run_firstCells_some w.drew i.size s.len ⟨g, o, none⟩ s.len s.cap xs ho.1 holds) x n news hs (by omega) hs63 (growslice_fits (by omega) hfit)
      refine ⟨⟨some ⟨w.heap.size, 0, none⟩, s.len + n, grownCap w (s.len + n) s.cap e⟩, _, hr, rfl, ⟨by simp [ho.1, hs.newsLen, Nat.add_mul], .inr ⟨w.heap.size, 0, ((xs ++ news).toArray ++ Builtin.zeroCells z.cells (grownCap w (s.len + n) s.cap e - (s.len + n))).toList, rfl, hbase, heap_alloc_new w.drew _, grownCap_ge _ _ _ _, grownCap_le_maxLen _ _ _ _ h63, ?_, ?_⟩⟩,
        (Upd.drew w _).trans (Upd.alloc _ _ _), .inr ⟨(Upd.drew w _).trans (Upd.alloc _ _ _), w.heap.size, rfl, Nat.le_refl _, by simp⟩⟩
      · have hge := grownCap_ge w (s.len + n) s.cap e
        rw [Array.length_toList, Array.size_append, size_zeroCells, h3]
        simp only [List.size_toArray, List.length_append, ho.1, hs.newsLen, ← Nat.add_mul]
        rw [Nat.zero_add]
        exact Nat.mul_le_mul_right _ (by omega)
      · have hlen : (xs ++ news).length = (s.len + n) * i.size := by simp [ho.1, hs.newsLen, Nat.add_mul]
        rw [List.drop_zero, Array.toList_append, ← hlen]
        exact List.take_left

/-! ### the operations, each by its own law -/
theorem add_lit' (b o i : Nat) : (⟨b, o, none⟩ : Addr).add i = ⟨b, o + i, none⟩ := by unfold Addr.add; split <;> simp_all

theorem Src.ofRd {t e : TypeId} {sz by_ : Nat} (et : ET P t e sz by_) (hsz : 0 < sz) {p : Sl} {vs : List Value} (h : Rd w p sz vs) (h1 : ∀ u ∈ vs, u.oneCell' = true) : Src P sz t (.slice p.a p.len p.cap) p.len vs w := by
  cases ha : p.a with
  | none =>
    have hv : vs = [] := by
      rcases h.2.1 with h0 | ⟨b, o, ha', _⟩
      · exact h0
      · rw [ha] at ha'; cases ha'
    subst hv
    have hl : p.len = 0 := by
      have := h.1
      simp only [List.length_nil] at this
      rcases Nat.eq_zero_or_pos p.len with h0 | h0
      · exact h0
      · have := Nat.mul_pos h0 hsz; omega
    rw [hl]
    exact Src.ofNil w et.ht p.cap
  | some a =>
    refine Src.ofSlice w et.ht a p.len p.cap vs h.1 (fun j u hu => ?_) h1
    rcases h.2.1 with h0 | ⟨b, o, ha', hc⟩
    · subst h0; simp at hu
    · rw [ha] at ha'; cases ha'
      rw [add_lit']; exact hc j u hu

theorem RunN.app {base : Nat} {t tx ty e : TypeId} {sz by_ : Nat} (et : ET P t e sz by_) (hsz : 0 < sz) {s : Sl} {xs : List Value} (ho : Ow w base e sz s xs) {x : Value} {n : Nat} {news : List Value} (hs : Src P sz tx x n news w)
    (hbase : base ≤ w.heap.size) (h63 : s.len + n ≤ maxLen) (hfit : (s.len + n) * by_ ≤ 140737488355328) {K : Sl → World → Prop}
    (h : ∀ s' w', s'.len = s.len + n → Ow w' base e sz s' (xs ++ news) → Upd w w' (fun k => s.blk = some k) → (s'.blk = s.blk ∨ ∃ g, s'.blk = some g ∧ w.heap.size ≤ g ∧ g < w'.heap.size) → K s' w') :
    RunN P .sl (V (Builtin.append_ #[t, tx] ty #[.slice s.a s.len s.cap, x])) w K := by
  obtain ⟨s', w', hr, h1, h2, h3, h4⟩ := run_app et hsz ho hs hbase h63 hfit (ty := ty)
  refine RunN.of (kd := .sl) (x := s') hr (h s' w' h1 h2 h3 ?_)
  rcases h4 with ⟨h4, _⟩ | ⟨_, h4⟩
  · exact .inl (by simp [Sl.blk, h4])
  · exact .inr h4

/-- A place of a slice. -/
theorem run_idx {t e : TypeId} {sz by_ : Nat} (et : ET P t e sz by_) {s : Sl} {b o : Nat} (ha : s.a = some ⟨b, o, none⟩) {k : IntKind} {i : Int} (h0 : 0 ≤ i) (h1 : i < s.len) :
    (Instr.indexAt t (.slice s.a s.len s.cap) (.int k i)).run P w = .ok (.pointer (some ⟨b, o + i.toNat * sz, none⟩)) w := by
  obtain ⟨j, z, hi, hz, h2, h3, h4⟩ := et.hi
  rw [ha]
  simp [Instr.indexAt, asIntOf, run_underlying et.ht, h0, h1, sizeOf, typeInfo, hi, h2, add_lit']
theorem RunN.idx {t e : TypeId} {sz by_ : Nat} (et : ET P t e sz by_) {s : Sl} {b o : Nat} (ha : s.a = some ⟨b, o, none⟩) {k : IntKind} {i : Int} (h0 : 0 ≤ i) (h1 : i < s.len) {K : Addr → World → Prop}
    (h : K ⟨b, o + i.toNat * sz, none⟩ w) : RunN P .addr (V (Instr.indexAt t (.slice s.a s.len s.cap) (.int k i))) w K :=
  RunN.of (kd := .addr) (run_idx et ha h0 h1) h

/-- A type whose values lie in one cell. -/
def scB (P : Program) (t : TypeId) : Bool := match P.underlying t with
  | some (.struct _) => false
  | some (.array _ _) => false
  | some _ => (match P.info? t with | some i => Nat.beq i.size 1 | none => false)
  | none => false
theorem isAgg_of {t : TypeId} (h : scB P t = true) : (isAgg t).run P w = .ok false w := by
  unfold scB at h
  cases hu : P.underlying t with
  | none => simp [hu] at h
  | some d => cases d <;> simp_all [isAgg, run_underlying hu]
theorem run_load {t : TypeId} (ht : scB P t = true) {p : Addr} {v : Value} (hc : w.cell? p = some v) : (Instr.loadAt t (.pointer (some p))).run P w = .ok v w := by
  have := isAgg_of (w := w) ht
  simp [Instr.loadAt, Instr.sureAddr, loadVar, this, load, Sem.run, hc]
theorem RunN.load {t : TypeId} (ht : scB P t = true) {kd : Kd} {p : Addr} {x : kd.T} (hc : w.cell? p = some (kd.val x)) {K : kd.T → World → Prop} (h : K x w) : RunN P kd (V (Instr.loadAt t (.pointer (some p)))) w K :=
  RunN.of (run_load ht hc) h
theorem ReadN.load {t : TypeId} (ht : scB P t = true) {kd : Kd} {p : Addr} {x : kd.T} (hc : w.cell? p = some (kd.val x)) {K : kd.T → Prop} (h : K x) : ReadN P kd (V (Instr.loadAt t (.pointer (some p)))) w K :=
  ReadN.of (run_load ht hc) h
theorem StillV.load {t : TypeId} (ht : scB P t = true) {p : Addr} {v : Value} (hc : w.cell? p = some v) : StillV P (V (Instr.loadAt t (.pointer (some p)))) v w := StillV.of (run_load ht hc)
theorem run_stor {t : TypeId} (ht : scB P t = true) {p : Addr} {u v : Value} (hv : v.oneCell' = true) (hc : w.cell? p = some u) (hf : w.frozen? p = false) :
    (Instr.storeAt t (.pointer (some p)) v).run P w = .ok () (w.setCell p v) := by
  have hsz : (sizeOf t).run P w = .ok 1 w := by
    unfold scB at ht
    cases hu : P.underlying t with
    | none => simp [hu] at ht
    | some d =>
      cases hi : P.info? t with
      | none => cases d <;> simp [hu, hi] at ht
      | some i =>
        have : i.size = 1 := by cases d <;> simp [hu, hi] at ht <;> exact ht
        simp [sizeOf, typeInfo, hi, this]
  have h1 : v.cells = #[v] := by cases v <;> first | rfl | (simp [Value.oneCell'] at hv)
  have hst := run_store P w p v .plain hv
  rw [hc] at hst
  simp only [hf] at hst
  have hadd : p.add 0 = p := by simp [Addr.add]
  simp [Instr.storeAt, Instr.sureAddr, storeVar, hsz, h1, storeCells, hadd, hst]
theorem RunU.stor {t : TypeId} (ht : scB P t = true) {p : Addr} {u v : Value} (hv : v.oneCell' = true) (hc : w.cell? p = some u) (hf : w.frozen? p = false) {K : World → Prop} (h : K (w.setCell p v)) :
    RunU P (U (Instr.storeAt t (.pointer (some p)) v)) w K := RunU.of (run_stor ht hv hc hf) h

/-- Bytes. -/
def u8v (x : UInt8) : Value := .int .u8 (x.toNat : Int)
def bys (l : List UInt8) : List Value := l.map u8v
@[simp] theorem bys_length (l : List UInt8) : (bys l).length = l.length := by simp [bys]
theorem bys_append (a b : List UInt8) : bys (a ++ b) = bys a ++ bys b := by simp [bys]
theorem bys_get {l : List UInt8} {i : Nat} (h : i < l.length) : (bys l)[i]? = some (u8v l[i]) := by simp [bys, h]
theorem bys_one (l : List UInt8) : ∀ u ∈ bys l, u.oneCell' = true := by
  intro u hu
  obtain ⟨x, _, rfl⟩ := List.mem_map.1 hu
  rfl

def strB (P : Program) (src e dst : TypeId) : Bool := match P.underlying src, P.underlying e, P.underlying dst with
  | some (.slice e'), some (.int .u8), some .string => Nat.beq e' e
  | _, _, _ => false
theorem foldl_push (l : List UInt8) (acc : ByteArray) : (l.map fun x => (x.toNat : Int)).foldl (fun r n => r.push (UInt8.ofNat n.toNat)) acc = ⟨acc.data ++ l.toArray⟩ := by
  induction l generalizing acc with
  | nil => simp
  | cons x r ih =>
    simp only [List.map_cons, List.foldl_cons, ih]
    have : (acc.push (UInt8.ofNat (x.toNat : Int).toNat)).data = acc.data.push x := by simp [ByteArray.push]
    rw [this]; simp
theorem run_toStr {src e dst : TypeId} (h : strB P src e dst = true) {s : Sl} {l : List UInt8} (hr : Rd w s 1 (bys l)) : (convert src dst (.slice s.a s.len s.cap)).run P w = .ok (.string ⟨l.toArray⟩) w := by
  unfold strB at h
  split at h
  · rename_i e' h1 h2 h3
    have := Nat.eq_of_beq_eq_true h; subst this
    rw [run_convert_bytes_string w src dst e' s.a s.len s.cap h1 h2 h3]
    cases ha : s.a with
    | none =>
      have hv : l = [] := by
        rcases hr.2.1 with h0 | ⟨b, o, ha', _⟩
        · simpa [bys] using h0
        · rw [ha] at ha'; cases ha'
      subst hv
      simp [Conv.bytesToString]; rfl
    | some a =>
      have hlen : s.len = l.length := by have := hr.1; simp at this; omega
      have hl : (loadCells a s.len).run P w = .ok ((l.map fun x => (x.toNat : Int)).map (Value.int .u8)).toArray w := by
        have e1 : (l.map fun x => (x.toNat : Int)).map (Value.int .u8) = bys l := by simp [bys, u8v]
        rw [e1, hlen, ← bys_length l]
        refine run_loadCells_list w a (bys l) fun j u hu => ?_
        rcases hr.2.1 with h0 | ⟨b, o, ha', hc⟩
        · rw [h0] at hu; simp at hu
        · rw [ha] at ha'; cases ha'
          rw [add_lit']; exact hc j u hu
      rw [run_bytesToString w a s.len s.cap _ hl, foldl_push]
      simp
  · cases h

theorem RunN.toStr {src e dst : TypeId} (h : strB P src e dst = true) {s : Sl} {l : List UInt8} (hr : Rd w s 1 (bys l)) {K : ByteArray → World → Prop} (hk : K ⟨l.toArray⟩ w) : RunN P .str (V (convert src dst (.slice s.a s.len s.cap))) w K :=
  RunN.of (kd := .str) (run_toStr h hr) hk
theorem ReadN.toStr {src e dst : TypeId} (h : strB P src e dst = true) {s : Sl} {l : List UInt8} (hr : Rd w s 1 (bys l)) {K : ByteArray → Prop} (hk : K ⟨l.toArray⟩) : ReadN P .str (V (convert src dst (.slice s.a s.len s.cap))) w K :=
  ReadN.of (kd := .str) (run_toStr h hr) hk
theorem StillV.toStr {src e dst : TypeId} (h : strB P src e dst = true) {s : Sl} {l : List UInt8} (hr : Rd w s 1 (bys l)) : StillV P (V (convert src dst (.slice s.a s.len s.cap))) (.string ⟨l.toArray⟩) w :=
  StillV.of (run_toStr h hr)

/-- A literal slice in memory of its own. -/
theorem Ow.lit {base : Nat} {e : TypeId} {sz n c : Nat} {cs : List Value} (hbase : base ≤ w.heap.size) (hn : n ≤ c) (hc : c ≤ maxLen) (hl : cs.length = c * sz) : Ow (w.alloc (.cells ⟨cs⟩ e)) base e sz ⟨some ⟨w.heap.size, 0, none⟩, n, c⟩ (cs.take (n * sz)) := by
  have h1 : n * sz ≤ c * sz := Nat.mul_le_mul_right _ hn
  exact ⟨by simp; omega, .inr ⟨w.heap.size, 0, cs, rfl, hbase, heap_alloc_new w _, hn, hc, by simp; omega, by simp⟩⟩

theorem RunN.make0 {t e : TypeId} {sz by_ : Nat} (et : ET P t e sz by_) {base : Nat} {kc : IntKind} {c : Int} (h0 : 0 ≤ c) (hb : (by_ : Int) * c ≤ 281474976710656) (h63 : c ≤ 9223372036854775807) (hbase : base ≤ w.heap.size) {K : Sl → World → Prop}
    (h : ∀ s' w', s'.len = 0 → s'.cap = c.toNat → Ow w' base e sz s' [] → Upd w w' nobody → s'.blk = some w.heap.size → w.heap.size < w'.heap.size → K s' w') :
    RunN P .sl (V (Instr.makeSlice t (.int .i64 0) (.int kc c))) w K := by
  obtain ⟨i, z, hi, hz, h1, h2, h3⟩ := et.hi
  subst h1; subst h2
  have hr := run_make (P := P) w t e i z et.ht hi hz .i64 kc 0 c (Int.le_refl _) h0 hb h63
  refine RunN.of (kd := .sl) (x := ⟨some ⟨w.heap.size, 0, none⟩, 0, c.toNat⟩) (by simpa [Kd.val] using hr) (h _ _ rfl rfl ?_ (Upd.alloc _ _ _) rfl (by simp))
  have := Ow.lit (w := w) (e := e) (sz := i.size) (n := 0) (c := c.toNat) (cs := (madeCells z.cells (c.toNat * i.size)).toList) hbase (Nat.zero_le _) (by simp only [maxLen]; omega) (by rw [Array.length_toList, size_madeCells])
  simpa using this
theorem Rd.bys_at {w : World} {s : Sl} {l : List UInt8} (hr : Rd w s 1 (bys l)) (hne : l ≠ []) : ∃ b o, s.a = some ⟨b, o, none⟩ ∧ ∀ i (h : i < l.length), w.cell? ⟨b, o + i, none⟩ = some (u8v l[i]) := by
  rcases hr.2.1 with h0 | ⟨b, o, ha, hc⟩
  · exact absurd (by simpa [bys] using h0) hne
  · exact ⟨b, o, ha, fun i h => hc i _ (bys_get h)⟩
theorem Rd.bys_len {w : World} {s : Sl} {l : List UInt8} (hr : Rd w s 1 (bys l)) : s.len = l.length := by have := hr.1; simp at this; omega


theorem toList_mk (l : List UInt8) : (⟨l.toArray⟩ : ByteArray).toList = l := by
  have key : ∀ (n : Nat) (i : Nat) (r : List UInt8), l.length - i = n → i ≤ l.length → ByteArray.toList.loop (⟨l.toArray⟩ : ByteArray) i r = r.reverse ++ l.drop i := by
    intro n
    induction n with
    | zero =>
      intro i r hn hi
      have : i = l.length := by omega
      subst this
      unfold ByteArray.toList.loop
      have : ¬ (l.length < (⟨l.toArray⟩ : ByteArray).size) := by simp [ByteArray.size]
      rw [if_neg this]; simp
    | succ n ih =>
      intro i r hn hi
      unfold ByteArray.toList.loop
      have hlt : i < (⟨l.toArray⟩ : ByteArray).size := by simp [ByteArray.size]; omega
      have hlt' : i < l.length := by omega
      rw [if_pos hlt, ih (i + 1) _ (by omega) (by omega)]
      have hg : (⟨l.toArray⟩ : ByteArray).get! i = l[i] := by simp [ByteArray.get!, hlt']
      rw [hg, List.reverse_cons, List.append_assoc, List.singleton_append, ← List.drop_eq_getElem_cons hlt']
  have := key l.length 0 [] (by omega) (Nat.zero_le _)
  simpa [ByteArray.toList] using this

/-- A part of a slice. -/
def subA (s : Sl) (lo sz : Nat) : Option Addr := if s.cap = lo then s.a else s.a.map (·.add (lo * sz))
theorem Rd.sub {w : World} {s : Sl} {sz : Nat} {vs : List Value} (h : Rd w s sz vs) {lo hi m : Nat} (h1 : lo ≤ hi) (h2 : hi ≤ s.len) (hm : hi ≤ m) :
    Rd w ⟨if m = lo then s.a else s.a.map (·.add (lo * sz)), hi - lo, m - lo⟩ sz ((vs.drop (lo * sz)).take ((hi - lo) * sz)) := by
  have hle : hi * sz ≤ s.len * sz := Nat.mul_le_mul_right _ h2
  have hsub : (hi - lo) * sz = hi * sz - lo * sz := Nat.sub_mul _ _ _
  refine ⟨by simp [h.1]; omega, ?_, by dsimp only; omega⟩
  by_cases he : hi = lo
  · left; subst he; simp
  · rcases h.2.1 with h0 | ⟨b, o, ha, hc⟩
    · left; subst h0; simp
    · right
      have hml : m ≠ lo := by omega
      refine ⟨b, o + lo * sz, by simp [hml, ha, add_lit'], fun i v hv => ?_⟩
      rw [List.getElem?_take] at hv
      split at hv
      · rw [List.getElem?_drop] at hv
        rw [Nat.add_assoc]; exact hc _ v hv
      · cases hv
theorem elem_of {t e : TypeId} {sz by_ : Nat} (et : ET P t e sz by_) : P.underlying t = some (.slice (P.elem t)) := by simp [Program.elem, et.ht]
theorem run_size {t e : TypeId} {sz by_ : Nat} (et : ET P t e sz by_) : (sizeOf (P.elem t)).run P w = .ok sz w := by
  obtain ⟨i, z, hi, hz, h1, h2, h3⟩ := et.hi
  have : P.elem t = e := by simp [Program.elem, et.ht]
  rw [this]; simp [sizeOf, typeInfo, hi, h1]
/-- s[:h] -/
theorem RunN.subH {t e : TypeId} {sz by_ : Nat} (et : ET P t e sz by_) {s : Sl} {k : IntKind} {h : Int} (h0 : 0 ≤ h) (h2 : h ≤ s.cap) {K : Sl → World → Prop}
    (hk : K ⟨if s.cap = 0 then s.a else s.a.map (·.add (0 * sz)), h.toNat - 0, s.cap - 0⟩ w) : RunN P .sl (V (Instr.sliceAt t (.slice s.a s.len s.cap) none (some (.int k h)) none)) w K := by
  refine RunN.of (kd := .sl) ?_ hk
  rw [run_sliceAt_slice w t _ _ _ _ (elem_of et), run_slice_h w t s.a s.len s.cap (elem_of et) k h h0 h2, run_size et]
  rfl
/-- s[l:] -/
theorem RunN.subL {t e : TypeId} {sz by_ : Nat} (et : ET P t e sz by_) {s : Sl} {k : IntKind} {l : Int} (h0 : 0 ≤ l) (h2 : l ≤ s.len) {K : Sl → World → Prop}
    (hk : K ⟨if s.cap = l.toNat then s.a else s.a.map (·.add (l.toNat * sz)), s.len - l.toNat, s.cap - l.toNat⟩ w) : RunN P .sl (V (Instr.sliceAt t (.slice s.a s.len s.cap) (some (.int k l)) none none)) w K := by
  refine RunN.of (kd := .sl) ?_ hk
  rw [run_sliceAt_slice w t _ _ _ _ (elem_of et), run_slice_l w t s.a s.len s.cap (elem_of et) k l h0 h2, run_size et]
  rfl
/-- s[l:h:m] -/
theorem RunN.subLHM {t e : TypeId} {sz by_ : Nat} (et : ET P t e sz by_) {s : Sl} {kl kh km : IntKind} {l h m : Int} (h0 : 0 ≤ l) (h1 : l ≤ h) (h2 : h ≤ m) (h3 : m ≤ s.cap) {K : Sl → World → Prop}
    (hk : K ⟨if m.toNat = l.toNat then s.a else s.a.map (·.add (l.toNat * sz)), h.toNat - l.toNat, m.toNat - l.toNat⟩ w) : RunN P .sl (V (Instr.sliceAt t (.slice s.a s.len s.cap) (some (.int kl l)) (some (.int kh h)) (some (.int km m)))) w K := by
  refine RunN.of (kd := .sl) ?_ hk
  rw [run_sliceAt_slice w t _ _ _ _ (elem_of et), run_slice_lhm w t s.a s.len s.cap (elem_of et) kl kh km l h m h0 h1 h2 h3, run_size et]
  rfl
end
end Go.Fw

/- A store into memory that is owned. -/
namespace Go.Fw
open Go Go.RowKit

/-- A place of an owned slice: what it holds, that it may be written, and what is owned then. -/
theorem Ow.place {w : World} {base : Nat} {E : TypeId} {sz : Nat} {s : Sl} {vs : List Value} (h : Ow w base E sz s vs) {i : Nat} (hi : i < vs.length) :
    ∃ g o, s.a = some ⟨g, o, none⟩ ∧ s.blk = some g ∧ w.frozen? ⟨g, o + i, none⟩ = false ∧ w.cell? ⟨g, o + i, none⟩ = some vs[i] ∧
      ∀ v, Ow (w.setCell ⟨g, o + i, none⟩ v) base E sz s (vs.set i v) := by
  have hl := h.1
  rcases h.2 with rfl | ⟨g, o, cs, ha, hb, hg, h1, h2, h3, h4⟩
  · simp at hl; simp [hl] at hi
  have hle : s.len * sz ≤ s.cap * sz := Nat.mul_le_mul_right _ h1
  have hcl : o + i < cs.length := by omega
  refine ⟨g, o, ha, by simp [Sl.blk, ha], ?_, ?_, fun v => ⟨by simp [hl], .inr ⟨g, o, cs.set (o + i) v, ha, hb, ?_, h1, h2, by simpa using h3, ?_⟩⟩⟩
  · unfold World.frozen?
    simp only [hg]
    simp
  · rw [cell_of_row w g _ ⟨cs⟩ E (0, 0) hg]
    have : vs[i]? = some vs[i] := List.getElem?_eq_getElem hi
    rw [← this]
    conv => rhs; rw [← h4]
    rw [List.getElem?_take, if_pos (by omega), List.getElem?_drop]; simp
  · unfold World.setCell
    have := (Array.getElem?_eq_some_iff.1 hg)
    obtain ⟨hlt, hge⟩ := this
    simp only [Array.getElem?_modify, if_pos, hg, Option.map_some, Option.isSome_none, Bool.false_eq_true, if_false]
    simp [Array.setIfInBounds, hcl]
  · rw [List.drop_set, if_neg (by omega), Nat.add_sub_cancel_left, List.take_set, h4]
end Go.Fw

/- Variables and rows in memory: what is loaded, stored, copied, cleared. -/
namespace Go.Fw
open Go Go.RowKit
set_option linter.unusedVariables false

/-- A block of cells. -/
def Blk (w : World) (b : Nat) (t : TypeId) (cs : List Value) : Prop := w.heap[b]? = some (.cells ⟨cs⟩ t (0, 0))
theorem Blk.cell {w : World} {b : Nat} {t : TypeId} {cs : List Value} (h : Blk w b t cs) (i : Nat) : w.cell? ⟨b, i, none⟩ = cs[i]? := by
  rw [cell_of_row w b _ ⟨cs⟩ t (0, 0) h]; simp
theorem Blk.lt {w : World} {b : Nat} {t : TypeId} {cs : List Value} (h : Blk w b t cs) : b < w.heap.size := lt_of_obj h
theorem Blk.frozen {w : World} {b : Nat} {t : TypeId} {cs : List Value} (h : Blk w b t cs) (i : Nat) : w.frozen? ⟨b, i, none⟩ = false := by
  unfold World.frozen?
  simp only [show w.heap[(⟨b, i, none⟩ : Addr).block]? = _ from h]; simp
theorem Blk.upd {w w' : World} {S : Nat → Prop} {b : Nat} {t : TypeId} {cs : List Value} (h : Blk w b t cs) (hu : Upd w w' S) (hs : ¬ S b) : Blk w' b t cs := hu.obj h hs
theorem Blk.new (w : World) (t : TypeId) (cs : List Value) : Blk (w.alloc (.cells ⟨cs⟩ t)) w.heap.size t cs := heap_alloc_new w _
theorem Blk.set {w : World} {b : Nat} {t : TypeId} {cs : List Value} (h : Blk w b t cs) (i : Nat) (v : Value) : Blk (w.setCell ⟨b, i, none⟩ v) b t (cs.set i v) := by
  unfold Blk World.setCell
  have hb : w.heap[b]? = some (.cells ⟨cs⟩ t (0, 0)) := h
  simp only [Array.getElem?_modify, if_pos, hb, Option.map_some, Option.isSome_none, Bool.false_eq_true, if_false]
  by_cases hi : i < cs.length
  · simp [Array.setIfInBounds, hi]
  · rw [List.set_eq_of_length_le (by omega)]
    simp [Array.setIfInBounds, hi]
theorem Blk.row {w : World} {b : Nat} {t : TypeId} {cs : List Value} (h : Blk w b t cs) (ds : List Value) : Blk (w.setRow b ds.toArray) b t ds := setRow_heap w b _ _ t _ h

section
variable {P : Program} {w : World}
def aggB (P : Program) (t : TypeId) (n : Nat) : Bool :=
  match P.underlying t with
  | some (.struct _) => (match P.info? t with | some i => Nat.beq i.size n | none => false)
  | some (.array _ _) => (match P.info? t with | some i => Nat.beq i.size n | none => false)
  | _ => false
theorem aggB_spec {t : TypeId} {n : Nat} (h : aggB P t n = true) : ((isAgg t).run P w = .ok true w) ∧ (sizeOf t).run P w = .ok n w := by
  unfold aggB at h
  have key : ∀ i, P.info? t = some i → Nat.beq i.size n = true → (sizeOf t).run P w = .ok n w := by
    intro i hi hn
    have := Nat.eq_of_beq_eq_true hn
    simp [sizeOf, typeInfo, hi, this]
  split at h
  · rename_i fs hu
    split at h
    · rename_i i hi
      exact ⟨by simp [isAgg, run_underlying hu], key i hi h⟩
    · cases h
  · rename_i m e hu
    split at h
    · rename_i i hi
      exact ⟨by simp [isAgg, run_underlying hu], key i hi h⟩
    · cases h
  · cases h
theorem run_loadAgg {t : TypeId} {n : Nat} (ht : aggB P t n = true) {b o : Nat} {cs : List Value} (hn : cs.length = n) (hc : ∀ i v, cs[i]? = some v → w.cell? ⟨b, o + i, none⟩ = some v) :
    (Instr.loadAt t (.pointer (some ⟨b, o, none⟩))).run P w = .ok (.agg ⟨cs⟩) w := by
  obtain ⟨h1, h2⟩ := aggB_spec (w := w) ht
  have hl := run_loadCells_list (P := P) w ⟨b, o, none⟩ cs (fun j u hu => by rw [add_lit']; exact hc j u hu)
  rw [hn] at hl
  simp [Instr.loadAt, Instr.sureAddr, loadVar, h1, h2, hl]
theorem Blk.load {t t' : TypeId} {n : Nat} (ht : aggB P t n = true) {b : Nat} {cs : List Value} (h : Blk w b t' cs) (hn : cs.length = n) : (Instr.loadAt t (.pointer (some ⟨b, 0, none⟩))).run P w = .ok (.agg ⟨cs⟩) w :=
  run_loadAgg ht hn fun i v hv => by rw [Nat.zero_add, h.cell]; exact hv
theorem Rd.load {t : TypeId} {n : Nat} (ht : aggB P t n = true) {s : Sl} {vs : List Value} (h : Rd w s n vs) {b o : Nat} (ha : s.a = some ⟨b, o, none⟩) {i : Nat} (hi : i < s.len) :
    (Instr.loadAt t (.pointer (some ⟨b, o + i * n, none⟩))).run P w = .ok (.agg ⟨(vs.drop (i * n)).take n⟩) w := by
  have hle : (i + 1) * n ≤ s.len * n := Nat.mul_le_mul_right _ hi
  rw [Nat.add_mul, Nat.one_mul] at hle
  have hl := h.1
  refine run_loadAgg ht (by simp; omega) fun j v hv => ?_
  rw [List.getElem?_take] at hv
  split at hv
  · rw [List.getElem?_drop] at hv
    rcases h.2.1 with h0 | ⟨b', o', ha', hc⟩
    · subst h0; simp at hv
    · rw [ha] at ha'; cases ha'
      rw [Nat.add_assoc]; exact hc _ v hv
  · cases hv

theorem run_storAgg {t : TypeId} {n : Nat} (ht : aggB P t n = true) {b o : Nat} {cs : List Value} (hn : cs.length = n) {w' : World} (hs : (storeCells ⟨b, o, none⟩ cs 0).run P w = .ok () w') :
    (Instr.storeAt t (.pointer (some ⟨b, o, none⟩)) (.agg ⟨cs⟩)).run P w = .ok () w' := by
  obtain ⟨h1, h2⟩ := aggB_spec (w := w) ht
  simp [Instr.storeAt, Instr.sureAddr, storeVar, Value.cells, h2, hn, hs]
theorem Blk.store {b : Nat} {t : TypeId} {cs : List Value} (h : Blk w b t cs) {o : Nat} {news : List Value} (hfit : o + news.length ≤ cs.length) (h1 : ∀ v ∈ news, v.oneCell' = true) :
    (storeCells ⟨b, o, none⟩ news 0).run P w = .ok () (w.setRow b (cs.take o ++ news ++ cs.drop (o + news.length)).toArray) := by
  have := run_storeCells_at P b o t news 0 ⟨cs⟩ w h (by simpa using hfit) h1
  simpa using this
/-- Store a whole variable. -/
theorem Blk.stor {t t' : TypeId} {n : Nat} (ht : aggB P t n = true) {b : Nat} {cs ds : List Value} (h : Blk w b t' cs) (hc : cs.length = n) (hd : ds.length = n) (h1 : ∀ v ∈ ds, v.oneCell' = true) :
    (Instr.storeAt t (.pointer (some ⟨b, 0, none⟩)) (.agg ⟨ds⟩)).run P w = .ok () (w.setRow b ds.toArray) := by
  have := Blk.store (P := P) h (o := 0) (news := ds) (by omega) h1
  rw [List.take_zero, List.nil_append, Nat.zero_add, List.drop_of_length_le (by omega), List.append_nil] at this
  exact run_storAgg ht hd this

/-- Some cells of an owned row are written. -/
theorem Ow.write {base : Nat} {E : TypeId} {sz : Nat} {s : Sl} {vs : List Value} (h : Ow w base E sz s vs) {i : Nat} {news : List Value} (hi : i + news.length ≤ vs.length) (hne : news ≠ []) (h1 : ∀ v ∈ news, v.oneCell' = true) :
    ∃ g o, s.a = some ⟨g, o, none⟩ ∧ s.blk = some g ∧ ∃ w', (storeCells ⟨g, o + i, none⟩ news 0).run P w = .ok () w' ∧ Ow w' base E sz s (vs.take i ++ news ++ vs.drop (i + news.length)) ∧ Upd w w' (fun k => k = g) := by
  have hl := h.1
  rcases h.2 with rfl | ⟨g, o, cs, ha, hb, hg, h2, h3, h4, h5⟩
  · have hv : vs.length = 0 := by rw [hl]; simp
    have : news.length = 0 := by omega
    exact absurd (List.eq_nil_of_length_eq_zero this) hne
  have hle : s.len * sz ≤ s.cap * sz := Nat.mul_le_mul_right _ h2
  have hst := Blk.store (P := P) (w := w) (b := g) (t := E) (cs := cs) hg (o := o + i) (news := news) (by omega) h1
  refine ⟨g, o, ha, by simp [Sl.blk, ha], _, hst, ⟨by simp; omega, .inr ⟨g, o, _, ha, hb, setRow_heap w g ⟨cs⟩ _ E _ hg, h2, h3, by simp; omega, ?_⟩⟩, Upd.setRow _ _ _ rfl⟩
  have hlen1 : (cs.take (o + i)).length = o + i := by simp; omega
  rw [List.append_assoc, List.drop_append_of_le_length (by rw [hlen1]; omega), List.drop_take]
  have e1 : o + i - o = i := by omega
  rw [e1]
  have e2 : (cs.drop o).take i = vs.take i := by rw [← h5, List.take_take]; congr 1; omega
  rw [e2]
  have hlen2 : (vs.take i).length = i := by simp; omega
  rw [List.take_append, hlen2, List.take_of_length_le (by omega), List.append_assoc]
  congr 1
  rw [List.take_append, List.take_of_length_le (by omega)]
  congr 1
  rw [← h5, List.drop_take, List.drop_drop]
  congr 1
  · omega
  · congr 1; omega

/-- s[l:h] -/
theorem run_subLH {t e : TypeId} {sz by_ : Nat} (et : ET P t e sz by_) {s : Sl} {kl kh : IntKind} {l h : Int} (h0 : 0 ≤ l) (h1 : l ≤ h) (h2 : h ≤ s.cap) :
    (Instr.sliceAt t (.slice s.a s.len s.cap) (some (.int kl l)) (some (.int kh h)) none).run P w = .ok (.slice (if s.cap = l.toNat then s.a else s.a.map (·.add (l.toNat * sz))) (h.toNat - l.toNat) (s.cap - l.toNat)) w := by
  rw [run_sliceAt_slice w t _ _ _ _ (elem_of et), run_slice_lh w t s.a s.len s.cap (elem_of et) kl kh l h h0 h1 h2, run_size et]
  rfl
theorem run_subL {t e : TypeId} {sz by_ : Nat} (et : ET P t e sz by_) {s : Sl} {k : IntKind} {l : Int} (h0 : 0 ≤ l) (h2 : l ≤ s.len) :
    (Instr.sliceAt t (.slice s.a s.len s.cap) (some (.int k l)) none none).run P w = .ok (.slice (if s.cap = l.toNat then s.a else s.a.map (·.add (l.toNat * sz))) (s.len - l.toNat) (s.cap - l.toNat)) w := by
  rw [run_sliceAt_slice w t _ _ _ _ (elem_of et), run_slice_l w t s.a s.len s.cap (elem_of et) k l h0 h2, run_size et]
  rfl
theorem run_subH {t e : TypeId} {sz by_ : Nat} (et : ET P t e sz by_) {s : Sl} {k : IntKind} {h : Int} (h0 : 0 ≤ h) (h2 : h ≤ s.cap) :
    (Instr.sliceAt t (.slice s.a s.len s.cap) none (some (.int k h)) none).run P w = .ok (.slice (if s.cap = 0 then s.a else s.a.map (·.add (0 * sz))) h.toNat s.cap) w := by
  rw [run_sliceAt_slice w t _ _ _ _ (elem_of et), run_slice_h w t s.a s.len s.cap (elem_of et) k h h0 h2, run_size et]
  rfl

theorem Rd.loads {sz : Nat} {s : Sl} {vs : List Value} (h : Rd w s sz vs) {n : Nat} (hn : n ≤ s.len) (hne : 0 < n * sz) : ∃ b o, s.a = some ⟨b, o, none⟩ ∧ (loadCells ⟨b, o, none⟩ (n * sz)).run P w = .ok (vs.take (n * sz)).toArray w := by
  have hle : n * sz ≤ s.len * sz := Nat.mul_le_mul_right _ hn
  have hl := h.1
  rcases h.2.1 with h0 | ⟨b, o, ha, hc⟩
  · subst h0; simp at hl; omega
  · refine ⟨b, o, ha, ?_⟩
    have hlen : (vs.take (n * sz)).length = n * sz := by simp; omega
    have := run_loadCells_list (P := P) w ⟨b, o, none⟩ (vs.take (n * sz)) (fun j u hu => by
      rw [add_lit']
      rw [List.getElem?_take] at hu
      split at hu
      · exact hc j u hu
      · cases hu)
    rw [hlen] at this; exact this

/-- copy, into a part of an owned row, of whatever may be read, be it of the same row. -/
theorem run_copyOw {base : Nat} {t ts ty e : TypeId} {sz by_ : Nat} (et : ET P t e sz by_) (ets : (P.underlying ts).isSome = true) (hsz : 0 < sz) {s : Sl} {vs : List Value} (ho : Ow w base e sz s vs) {i dl dc : Nat} {da : Option Addr}
    (hda : ∀ g o, s.a = some ⟨g, o, none⟩ → 0 < dl → da = some ⟨g, o + i * sz, none⟩) (hdl : i + dl ≤ s.len) {src : Sl} {ws : List Value} (hr : Rd w src sz ws) (h1 : ∀ v ∈ ws, v.oneCell' = true) :
    ∃ w', (Builtin.copy_ #[t, ts] ty #[.slice da dl dc, .slice src.a src.len src.cap]).run P w = .ok (.int .i64 (Nat.min src.len dl : Nat)) w' ∧
      Ow w' base e sz s (vs.take (i * sz) ++ ws.take (Nat.min src.len dl * sz) ++ vs.drop ((i + Nat.min src.len dl) * sz)) ∧ Upd w w' (fun k => s.blk = some k) := by
  obtain ⟨j, z, hi, hz, h2, h3, h4⟩ := et.hi
  have hmin1 : Nat.min src.len dl ≤ src.len := Nat.min_le_left _ _
  have hmin2 : Nat.min src.len dl ≤ dl := Nat.min_le_right _ _
  generalize hn : Nat.min src.len dl = n at *
  have hgo : goInt n = (.int .i64 (n : Int) : Value) := rfl
  by_cases h0 : n = 0
  · subst h0
    refine ⟨w, ?_, ?_, Upd.refl _ _⟩
    · have hfc : (Builtin.firstCells sz 0 (.slice src.a src.len src.cap)).run P w = .ok #[] w := by
        cases src.a <;> simp [Builtin.firstCells, loadCells, loadCellsFrom]
      cases da <;> simp [Builtin.copy_, run_underlying et.ht, Builtin.lenOf, sizeOf, typeInfo, hi, h2, hn, hfc, storeCells] <;> rfl
    · simp only [Nat.zero_mul, List.take_zero, List.append_nil, Nat.add_zero, List.take_append_drop]; exact ho
  · have hpos : 0 < n * sz := Nat.mul_pos (by omega) hsz
    obtain ⟨b, o, ha, hl⟩ := hr.loads (P := P) (n := n) (by omega) hpos
    have hlw : (ws.take (n * sz)).length = n * sz := by
      have h5 := hr.1
      have h6 : n * sz ≤ src.len * sz := Nat.mul_le_mul_right _ hmin1
      simp; omega
    have hlv := ho.1
    have hfit : (i + n) * sz ≤ s.len * sz := Nat.mul_le_mul_right _ (by omega)
    rw [Nat.add_mul] at hfit
    obtain ⟨g, o', hsa, hblk, w', hst, how, hup⟩ := ho.write (P := P) (i := i * sz) (news := ws.take (n * sz)) (by omega) (by intro e; rw [e] at hlw; simp at hlw; omega) (fun v hv => h1 v (List.mem_of_mem_take hv))
    have hd := hda g o' hsa (by omega)
    refine ⟨w', ?_, ?_, hup.mono fun k _ hk => by rw [hblk, hk]⟩
    · rw [hd, ha]
      simp [Builtin.copy_, run_underlying et.ht, Builtin.lenOf, Builtin.firstCells, sizeOf, typeInfo, hi, h2, hn, hl, hst, hgo]
    · rw [hlw, ← Nat.add_mul] at how; exact how

/-- clear, of the end of an owned row. -/
theorem run_clearOw {base : Nat} {t ty e : TypeId} {sz by_ : Nat} (et : ET P t e sz by_) {s : Sl} {vs : List Value} (ho : Ow w base e sz s vs) {i n c : Nat} {a : Option Addr} {zs : List Value} (hz : (do pure (Builtin.zeroCells (← zeroValue e).cells n).toList : Sem (List Value)).run P w = .ok zs w)
    (hzl : zs.length = n * sz) (hz1 : ∀ v ∈ zs, v.oneCell' = true) (hn : 0 < n * sz) (ha : ∀ g o, s.a = some ⟨g, o, none⟩ → a = some ⟨g, o + i * sz, none⟩) (hfit : i + n ≤ s.len) :
    ∃ w', (Builtin.clear_ #[t] ty #[.slice a n c]).run P w = .ok (.tuple #[]) w' ∧ Ow w' base e sz s (vs.take (i * sz) ++ zs ++ vs.drop ((i + n) * sz)) ∧ Upd w w' (fun k => s.blk = some k) := by
  have hlv := ho.1
  have hfit' : (i + n) * sz ≤ s.len * sz := Nat.mul_le_mul_right _ hfit
  rw [Nat.add_mul] at hfit'
  obtain ⟨g, o', hsa, hblk, w', hst, how, hup⟩ := ho.write (P := P) (i := i * sz) (news := zs) (by omega) (by intro e; rw [e] at hzl; simp at hzl; omega) hz1
  have hd := ha g o' hsa
  refine ⟨w', ?_, ?_, hup.mono fun k _ hk => by rw [hblk, hk]⟩
  · rw [hd]
    have hn0 : n ≠ 0 := by intro e; subst e; simp at hn
    obtain ⟨m, rfl⟩ : ∃ m, n = m + 1 := ⟨n - 1, by omega⟩
    simp only [Sem.run_bind] at hz
    cases hq : (zeroValue e).run P w with
    | ok v w1 =>
      rw [hq] at hz
      simp at hz
      obtain ⟨hz, rfl⟩ := hz
      simp [Builtin.clear_, run_underlying et.ht, hq, hz, hst]
    | _ => rw [hq] at hz; simp at hz
  · rw [hzl, ← Nat.add_mul] at how; exact how
/-- A shorter view of an owned row, from its beginning. -/
theorem Ow.shorter {base : Nat} {E : TypeId} {sz : Nat} {s : Sl} {vs : List Value} (h : Ow w base E sz s vs) {n : Nat} (hn : n ≤ s.len) {a : Option Addr} (ha : a = s.a) : Ow w base E sz ⟨a, n, s.cap⟩ (vs.take (n * sz)) := by
  subst ha
  have hle : n * sz ≤ s.len * sz := Nat.mul_le_mul_right _ hn
  have hl := h.1
  refine ⟨by simp; omega, ?_⟩
  rcases h.2 with rfl | ⟨g, o, cs, ha, hb, hg, h2, h3, h4, h5⟩
  · left; simp at hn; subst hn; rfl
  · right
    refine ⟨g, o, cs, ha, hb, hg, by dsimp only; omega, h3, h4, ?_⟩
    rw [← h5, List.take_take]; congr 1; dsimp only; omega

/-! ### in continuation style -/
theorem RunU.storB {t t' : TypeId} (ht : scB P t = true) {b i : Nat} {cs : List Value} (h : Blk w b t' cs) (hi : i < cs.length) {v : Value} (hv : v.oneCell' = true) {K : World → Prop} (hk : ∀ w', Blk w' b t' (cs.set i v) → Upd w w' (fun k => k = b) → K w') :
    RunU P (U (Instr.storeAt t (.pointer (some ⟨b, i, none⟩)) v)) w K :=
  RunU.stor ht hv (by rw [h.cell, List.getElem?_eq_getElem hi]) (h.frozen i) (hk _ (h.set i v) (Upd.setCell _ _ _ rfl))
theorem RunU.storA {t t' : TypeId} {n : Nat} (ht : aggB P t n = true) {b : Nat} {cs ds : List Value} (h : Blk w b t' cs) (hc : cs.length = n) (hd : ds.length = n) (h1 : ∀ v ∈ ds, v.oneCell' = true) {K : World → Prop} (hk : ∀ w', Blk w' b t' ds → Upd w w' (fun k => k = b) → K w') :
    RunU P (U (Instr.storeAt t (.pointer (some ⟨b, 0, none⟩)) (.agg ⟨ds⟩))) w K :=
  RunU.of (h.stor ht hc hd h1) (hk _ (h.row ds) (Upd.setRow _ _ _ rfl))
theorem RunN.loadB {t t' : TypeId} (ht : scB P t = true) {kd : Kd} {b i : Nat} {cs : List Value} (h : Blk w b t' cs) {x : kd.T} (hi : cs[i]? = some (kd.val x)) {K : kd.T → World → Prop} (hk : K x w) : RunN P kd (V (Instr.loadAt t (.pointer (some ⟨b, i, none⟩)))) w K :=
  RunN.load ht (by rw [h.cell]; exact hi) hk
theorem ReadN.loadB {t t' : TypeId} (ht : scB P t = true) {kd : Kd} {b i : Nat} {cs : List Value} (h : Blk w b t' cs) {x : kd.T} (hi : cs[i]? = some (kd.val x)) {K : kd.T → Prop} (hk : K x) : ReadN P kd (V (Instr.loadAt t (.pointer (some ⟨b, i, none⟩)))) w K :=
  ReadN.load ht (by rw [h.cell]; exact hi) hk
theorem RunN.loadA {t t' : TypeId} {n : Nat} (ht : aggB P t n = true) {kd : Kd} {b : Nat} {cs : List Value} (h : Blk w b t' cs) (hn : cs.length = n) {x : kd.T} (hx : kd.val x = .agg ⟨cs⟩) {K : kd.T → World → Prop} (hk : K x w) : RunN P kd (V (Instr.loadAt t (.pointer (some ⟨b, 0, none⟩)))) w K :=
  RunN.of (by rw [hx]; exact h.load ht hn) hk
theorem ReadN.loadA {t t' : TypeId} {n : Nat} (ht : aggB P t n = true) {kd : Kd} {b : Nat} {cs : List Value} (h : Blk w b t' cs) (hn : cs.length = n) {x : kd.T} (hx : kd.val x = .agg ⟨cs⟩) {K : kd.T → Prop} (hk : K x) : ReadN P kd (V (Instr.loadAt t (.pointer (some ⟨b, 0, none⟩)))) w K :=
  ReadN.of (by rw [hx]; exact h.load ht hn) hk
theorem StillV.loadB {t t' : TypeId} (ht : scB P t = true) {b i : Nat} {cs : List Value} (h : Blk w b t' cs) {v : Value} (hi : cs[i]? = some v) : StillV P (V (Instr.loadAt t (.pointer (some ⟨b, i, none⟩)))) v w :=
  StillV.load ht (by rw [h.cell]; exact hi)
theorem StillV.loadA {t t' : TypeId} {n : Nat} (ht : aggB P t n = true) {b : Nat} {cs : List Value} (h : Blk w b t' cs) (hn : cs.length = n) : StillV P (V (Instr.loadAt t (.pointer (some ⟨b, 0, none⟩)))) (.agg ⟨cs⟩) w :=
  StillV.of (h.load ht hn)
/-- A new variable, whose law is known by computation. -/
theorem RunN.newB {s : Sem Value} {cs : List Value} {t : TypeId} (hr : s.run P w = .ok (.pointer (some ⟨w.heap.size, 0, none⟩)) (w.alloc (.cells ⟨cs⟩ t))) {K : Addr → World → Prop}
    (hk : ∀ w', Blk w' w.heap.size t cs → Upd w w' nobody → w'.heap.size = w.heap.size + 1 → K ⟨w.heap.size, 0, none⟩ w') : RunN P .addr (V s) w K :=
  RunN.of (kd := .addr) (x := ⟨w.heap.size, 0, none⟩) hr (hk _ (Blk.new _ _ _) (Upd.alloc _ _ _) (by simp))
/-- A new literal row. -/
theorem RunN.newS {base : Nat} {s : Sem Value} {cs : List Value} {t : TypeId} {n sz : Nat} (hr : s.run P w = .ok (.slice (some ⟨w.heap.size, 0, none⟩) n n) (w.alloc (.cells ⟨cs⟩ t))) (hb : base ≤ w.heap.size) (hn : n ≤ maxLen) (hl : cs.length = n * sz) {K : Sl → World → Prop}
    (hk : ∀ w', Ow w' base t sz ⟨some ⟨w.heap.size, 0, none⟩, n, n⟩ cs → Upd w w' nobody → w'.heap.size = w.heap.size + 1 → K ⟨some ⟨w.heap.size, 0, none⟩, n, n⟩ w') : RunN P .sl (V s) w K := by
  refine RunN.of (kd := .sl) (x := ⟨some ⟨w.heap.size, 0, none⟩, n, n⟩) hr (hk _ ?_ (Upd.alloc _ _ _) (by simp))
  have := Ow.lit (w := w) (e := t) hb (Nat.le_refl n) hn hl
  rwa [List.take_of_length_le (by omega)] at this
/-- Onto what is owned, or nil. -/
theorem RunN.appO {base : Nat} {t tx ty e : TypeId} {sz by_ : Nat} (et : ET P t e sz by_) (etx : ∃ e' , ET P tx e' sz by_) (hsz : 0 < sz) {s : Sl} {xs : List Value} (ho : Ow w base e sz s xs) {p : Sl} {news : List Value} (hr : Rd w p sz news) (h1 : ∀ v ∈ news, v.oneCell' = true)
    (hbase : base ≤ w.heap.size) (h63 : s.len + p.len ≤ maxLen) (hfit : (s.len + p.len) * by_ ≤ 140737488355328) {K : Sl → World → Prop}
    (h : ∀ s' w', s'.len = s.len + p.len → Ow w' base e sz s' (xs ++ news) → Upd w w' (fun k => s.blk = some k) → (s'.blk = s.blk ∨ ∃ g, s'.blk = some g ∧ w.heap.size ≤ g ∧ g < w'.heap.size) → K s' w') :
    RunN P .sl (V (Builtin.append_ #[t, tx] ty #[.slice s.a s.len s.cap, .slice p.a p.len p.cap])) w K := by
  obtain ⟨e', etx⟩ := etx
  exact RunN.app et hsz ho (Src.ofRd etx hsz hr h1) hbase h63 hfit h
/-- A copy: onto nil. -/
theorem RunN.appNil {t tx ty e : TypeId} {sz by_ : Nat} (et : ET P t e sz by_) (etx : ∃ e' , ET P tx e' sz by_) (hsz : 0 < sz) {p : Sl} {news : List Value} (hr : Rd w p sz news) (h1 : ∀ v ∈ news, v.oneCell' = true)
    (h63 : p.len ≤ maxLen) (hfit : p.len * by_ ≤ 140737488355328) {K : Sl → World → Prop}
    (h : ∀ s' w', s'.len = p.len → Ow w' w.heap.size e sz s' news → Upd w w' nobody → K s' w') :
    RunN P .sl (V (Builtin.append_ #[t, tx] ty #[.slice none 0 0, .slice p.a p.len p.cap])) w K :=
  RunN.appO et etx hsz (s := ⟨none, 0, 0⟩) (Ow.nil w w.heap.size e sz) hr h1 (Nat.le_refl _) (by dsimp only; omega) (by dsimp only; rw [Nat.zero_add]; exact hfit)
    fun s' w' h1 h2 h3 _ => h s' w' (by dsimp only at h1; omega) (by rwa [List.nil_append] at h2) (h3.mono fun i _ h => by simp [Sl.blk] at h)
theorem Upd.fresh {a b c : World} {S : Nat → Prop} (h : Upd a b nobody) (k : Upd b c S) (hS : ∀ i, S i → a.heap.size ≤ i) : Upd a c nobody := h.trans' k fun i hi hlt => absurd (hS i hi) (by omega)
theorem Upd.none {a b : World} (h : Upd a b nobody) (S : Nat → Prop) : Upd a b S := h.mono fun _ _ h => h.elim
end
end Go.Fw
