import Derived.Test.YtodgnpmljdopiaaProg
import Derived.Test.YtodgnpmljdopiaaFwL
namespace Go.Proofs.Ytodgnpmljdopiaa
open Go Go.Fw Go.Proofs
set_option maxRecDepth 100000
set_option linter.unusedVariables false
def kappa : List Kd := [(.tup .nilT), .raw, (.int .i64), (.int .i64), .bool, (.int .u8), (.int .u8), (.agg (.cons (.int .i64) (.cons (.int .i64) (.cons .bool (.cons (.int .u8) .nilT))))), (.agg (.cons (.int .i64) (.cons (.int .i64) (.cons .bool (.cons (.int .u8) .nilT))))), .str, .str, .str, (.int .u64), (.agg (.cons .str (.cons (.int .u64) .nilT))), (.agg (.cons .str (.cons (.int .u64) .nilT))), .ptr, .ptr, .ptr, (.agg (.cons .ptr .nilT)), (.agg (.cons .ptr .nilT)), .raw, (.int .i32), .raw, .ptr, (.tup (.cons .ptr (.cons .bool .nilT))), .raw, .ptr, .ptr, .ptr, .ptr, (.agg (.cons .ptr (.cons .ptr (.cons .ptr (.cons .ptr .nilT))))), (.agg (.cons .ptr (.cons .ptr (.cons .ptr (.cons .ptr .nilT))))), .raw, .sl, .raw, .raw, .sl, .raw, .raw, .sl, .ptr, .raw, .raw, (.agg (.cons (.int .i64) (.cons (.int .i64) .nilT))), .raw, .sl, (.agg (.cons (.int .i64) (.cons (.int .i64) (.cons (.int .i64) (.cons .sl .nilT))))), (.agg (.cons (.int .i64) (.cons (.int .i64) (.cons (.int .i64) (.cons .sl .nilT))))), .raw, .raw, (.agg (.cons .ptr (.cons .ptr .nilT))), .sl, (.agg (.cons .sl (.cons .sl .nilT))), (.agg (.cons .ptr (.cons .ptr (.cons .sl (.cons .sl (.cons (.int .i64) (.cons (.int .i64) (.cons .sl .nilT)))))))), (.agg (.cons .ptr (.cons .ptr (.cons .sl (.cons .sl (.cons (.int .i64) (.cons (.int .i64) (.cons .sl .nilT)))))))), .raw, (.int .i64), (.tup (.cons .ptr (.cons (.int .i64) .nilT))), .raw, .raw, .raw, (.agg (.cons (.int .i64) (.cons (.int .i64) (.cons (.int .i64) (.cons (.int .i64) (.cons .sl .nilT)))))), (.agg (.cons (.int .i64) (.cons (.int .i64) (.cons (.int .i64) (.cons (.int .i64) (.cons .sl .nilT)))))), .raw, .raw, (.tup (.cons .sl (.cons (.int .i64) .nilT))), .raw, (.tup (.cons .ptr (.cons (.int .i64) .nilT))), .raw, (.agg (.cons .sl (.cons (.int .i64) .nilT))), (.agg (.cons .sl (.cons (.int .i64) .nilT))), .sl, (.agg (.cons .sl (.cons (.int .i64) .nilT))), (.agg (.cons .sl (.cons (.int .i64) .nilT))), .chan, .sl, .map, (.agg (.cons (.int .i64) (.cons (.int .i64) (.cons (.int .i64) (.cons (.int .i64) (.cons .chan (.cons .sl (.cons (.int .i64) (.cons (.int .i64) (.cons (.int .i64) (.cons .map (.cons .bool (.cons .bool (.cons (.int .i64) .nilT)))))))))))))), (.agg (.cons (.int .i64) (.cons (.int .i64) (.cons (.int .i64) (.cons (.int .i64) (.cons .chan (.cons .sl (.cons (.int .i64) (.cons (.int .i64) (.cons (.int .i64) (.cons .map (.cons .bool (.cons .bool (.cons (.int .i64) .nilT)))))))))))))), .raw, (.agg (.cons (.int .i64) (.cons .sl .nilT))), (.agg (.cons (.int .i64) (.cons .sl .nilT))), .ptr, (.agg (.cons .sl .nilT)), (.agg (.cons .sl .nilT)), (.agg (.cons (.int .i64) (.cons (.int .i64) (.cons (.int .i64) (.cons .sl (.cons (.int .i64) (.cons (.int .i64) (.cons (.int .i64) (.cons (.int .i64) (.cons .sl .nilT)))))))))), (.agg (.cons (.int .i64) (.cons (.int .i64) (.cons (.int .i64) (.cons .sl (.cons (.int .i64) (.cons (.int .i64) (.cons (.int .i64) (.cons (.int .i64) (.cons .sl .nilT)))))))))), .raw, .raw, .raw, .raw, .raw, (.tup (.cons .sl (.cons .bool .nilT))), .sl, (.agg (.cons (.int .i64) (.cons (.int .i64) (.cons (.int .i64) (.cons (.int .i64) (.cons .sl (.cons (.int .i64) (.cons (.int .i64) (.cons .sl (.cons (.int .i64) (.cons .bool (.cons .bool (.cons (.int .i64) .nilT))))))))))))), (.agg (.cons (.int .i64) (.cons (.int .i64) (.cons (.int .i64) (.cons (.int .i64) (.cons .sl (.cons (.int .i64) (.cons (.int .i64) (.cons .sl (.cons (.int .i64) (.cons .bool (.cons .bool (.cons (.int .i64) .nilT))))))))))))), .raw, .raw, .raw, .raw, (.agg (.cons .sl (.cons .sl (.cons .sl .nilT)))), (.agg (.cons .sl (.cons .sl (.cons .sl .nilT)))), .raw, (.tup (.cons .sl (.cons (.int .i64) .nilT))), .raw, .raw, .raw, .raw, .raw, .raw, (.int .u64), .sl, .sl, .raw, (.agg (.cons (.int .i64) (.cons .sl .nilT))), (.agg (.cons (.int .i64) (.cons .sl .nilT))), .raw, .raw, (.agg (.cons .ptr (.cons .ptr (.cons .ptr (.cons .str .nilT))))), (.agg (.cons .ptr (.cons .ptr (.cons .ptr (.cons .str .nilT))))), (.agg .nilT), (.agg .nilT), (.agg .nilT), (.int .u32), (.int .u8), (.int .u8), .raw, .ptr, (.int .i32), (.int .i32), (.agg (.cons (.int .u64) (.cons (.int .u64) (.cons (.int .u32) (.cons (.int .u8) (.cons (.int .u8) (.cons (.int .u8) (.cons (.int .u8) (.cons .raw (.cons .ptr (.cons (.int .i32) (.cons (.int .i32) .nilT)))))))))))), (.agg (.cons (.int .u64) (.cons (.int .u64) (.cons (.int .u32) (.cons (.int .u8) (.cons (.int .u8) (.cons (.int .u8) (.cons (.int .u8) (.cons .raw (.cons .ptr (.cons (.int .i32) (.cons (.int .i32) .nilT))))))))))))]

/-- sluice/sluicelaw3.LinkNews -/
def T3 (p0 : Int) (p1 : Int) (p2 : Int) (p3 : Int) (w : World) (K : Bool → World → Prop) : Prop :=
  CallK Try.prog .bool 9 #[] w fun t12 w =>
  CallK Try.prog (.tup (.cons .ptr (.cons .bool .nilT))) 10 #[.int .i64 p0, .int .i64 p1, .int .i64 p2, .int .i64 p3] w fun t18 w =>
  JoinX (α := Bool × Unit) (fun j2 w =>
    SplitB j2.1
      (SplitB t12
        (K t18.2.1 w)
        (K false w))
      (NilP t18.1 fun t36 =>
      RunN Try.prog .ptr (V (Instr.loadAt 26 (.pointer (some (t36.add 0))))) w fun t38 w =>
      CallK Try.prog (.int .i64) 11 #[.pointer t38] w fun t39 w =>
      SplitB (t39 == 1)
        (NilP t18.1 fun t43 =>
        RunN Try.prog .ptr (V (Instr.loadAt 26 (.pointer (some (t43.add 0))))) w fun t45 w =>
        CallK Try.prog (.int .i64) 12 #[.pointer t45] w fun t46 w =>
        SplitB (t46 == p2)
          (NilP t18.1 fun t52 =>
          RunN Try.prog .ptr (V (Instr.loadAt 26 (.pointer (some (t52.add 0))))) w fun t54 w =>
          CallK Try.prog .sl 13 #[.pointer t54] w fun t55 w =>
          SplitB ((t55.len : Int) == 0)
            (NilP t18.1 fun t61 =>
            RunN Try.prog .ptr (V (Instr.loadAt 26 (.pointer (some (t61.add 0))))) w fun t63 w =>
            CallK Try.prog .sl 14 #[.pointer t63] w fun t64 w =>
            K ((t64.len : Int) == 0) w)
            (K false w))
          (K false w))
        (K false w)))
  fun k1 =>
    SplitB (!t12)
      (k1 (true, ()) w)
      (SplitB (!t18.2.1)
        (k1 (true, ()) w)
        (RunN Try.prog .bool (V (do eqGuard .eql 23 (.tmp 28) (.const (.pointer none)) (.pointer t18.1) (.pointer none); binOp .eql 23 (.pointer t18.1) (.pointer none))) w fun t29 w =>
        k1 (t29, ()) w))
theorem T3.calls {p0 : Int} {p1 : Int} {p2 : Int} {p3 : Int} {w : World} {K : Bool → World → Prop} (h : T3 p0 p1 p2 p3 w K) : CallK Try.prog .bool 3 #[.int .i64 p0, .int .i64 p1, .int .i64 p2, .int .i64 p3] w K :=
  bodyZ_sound (κ := kappa) (ann := [(4, [(30, .bool)])]) (fn := Try.f3) Try.func3 rfl (by kernel_rfl) (cast (show T3 p0 p1 p2 p3 w K = bodyZ Try.prog kappa [(4, [(30, .bool)])] .bool Try.f3 [.int .i64 p0, .int .i64 p1, .int .i64 p2, .int .i64 p3] w K by kernel_rfl) h)

/-- sluice/sluicelaw3.alive -/
def T9  (w : World) (K : Bool → World → Prop) : Prop :=
  CallK Try.prog (.tup (.cons .ptr (.cons .bool .nilT))) 10 #[.int .i64 0, .int .i64 1, .int .i64 2, .int .i64 3] w fun t12 w =>
  CallK Try.prog (.tup (.cons .ptr (.cons .bool .nilT))) 10 #[.int .i64 1, .int .i64 0, .int .i64 2, .int .i64 3] w fun t16 w =>
  JoinX (α := Bool × Unit) (fun j2 w =>
    SplitB j2.1
      (K false w)
      (NilP t12.1 fun t34 =>
      RunN Try.prog .ptr (V (Instr.loadAt 26 (.pointer (some (t34.add 0))))) w fun t36 w =>
      RunN Try.prog .sl (V (Instr.buildSlice 45 1 #[(0, .int .u8 97)])) w fun t37 w =>
      RunN Try.prog .sl (V (convert 45 45 (.slice t37.a t37.len t37.cap))) w fun t38 w =>
      CallK Try.prog (.int .i64) 23 #[.pointer t36, .slice t38.a t38.len t38.cap] w fun t39 w =>
      NilP t12.1 fun t41 =>
      RunN Try.prog .ptr (V (Instr.loadAt 26 (.pointer (some (t41.add 0))))) w fun t43 w =>
      CallK Try.prog (.int .i64) 23 #[.pointer t43, .slice none 0 0] w fun t44 w =>
      NilP t12.1 fun t46 =>
      RunN Try.prog .ptr (V (Instr.loadAt 26 (.pointer (some (t46.add 0))))) w fun t48 w =>
      RunN Try.prog .sl (V (Instr.buildSlice 45 1 #[(0, .int .u8 99)])) w fun t49 w =>
      RunN Try.prog .sl (V (convert 45 45 (.slice t49.a t49.len t49.cap))) w fun t50 w =>
      CallK Try.prog (.int .i64) 23 #[.pointer t48, .slice t50.a t50.len t50.cap] w fun t51 w =>
      NilP t12.1 fun t53 =>
      RunN Try.prog .ptr (V (Instr.loadAt 26 (.pointer (some (t53.add 0))))) w fun t55 w =>
      CallK Try.prog .sl 13 #[.pointer t55] w fun t56 w =>
      JoinX (α := Bool × Unit) (fun j4 w =>
        SplitB j4.1
          (K false w)
          (NilP t16.1 fun t88 =>
          ReadN Try.prog .ptr (V (Instr.loadAt 26 (.pointer (some (t88.add 0))))) w.drew fun t90 =>
          ReadN Try.prog .addr (V (Instr.indexAt 33 (.slice t56.a t56.len t56.cap) (.int .i64 1))) w.drew fun t92 =>
          ReadN Try.prog (.agg (.cons (.int .i64) (.cons (.int .i64) (.cons (.int .i64) (.cons (.int .i64) (.cons .sl .nilT)))))) (V (Instr.loadAt 62 (.pointer (some t92)))) w.drew fun t93 =>
          CallK Try.prog (.tup (.cons .sl (.cons (.int .i64) .nilT))) 26 #[.pointer t90, .agg #[.int .i64 t93.1, .int .i64 t93.2.1, .int .i64 t93.2.2.1, .int .i64 t93.2.2.2.1, .slice t93.2.2.2.2.1.a t93.2.2.2.2.1.len t93.2.2.2.2.1.cap]] w.drew fun t94 w =>
          NilP t16.1 fun t99 =>
          ReadN Try.prog .ptr (V (Instr.loadAt 26 (.pointer (some (t99.add 0))))) w.drew fun t101 =>
          ReadN Try.prog .addr (V (Instr.indexAt 33 (.slice t56.a t56.len t56.cap) (.int .i64 0))) w.drew fun t103 =>
          ReadN Try.prog (.agg (.cons (.int .i64) (.cons (.int .i64) (.cons (.int .i64) (.cons (.int .i64) (.cons .sl .nilT)))))) (V (Instr.loadAt 62 (.pointer (some t103)))) w.drew fun t104 =>
          CallK Try.prog (.tup (.cons .sl (.cons (.int .i64) .nilT))) 26 #[.pointer t101, .agg #[.int .i64 t104.1, .int .i64 t104.2.1, .int .i64 t104.2.2.1, .int .i64 t104.2.2.2.1, .slice t104.2.2.2.2.1.a t104.2.2.2.2.1.len t104.2.2.2.2.1.cap]] w.drew fun t105 w =>
          SplitB (t94.2.1 == 0)
            (SplitB (t105.2.1 == 0)
              (SplitB ((t94.1.len : Int) == 0)
                (SplitB ((t105.1.len : Int) == 2)
                  (RunN Try.prog .addr (V (Instr.indexAt 51 (.slice t105.1.a t105.1.len t105.1.cap) (.int .i64 0))) w fun t126 w =>
                  RunN Try.prog .sl (V (Instr.loadAt 45 (.pointer (some t126)))) w fun t127 w =>
                  RunN Try.prog .sl (V (Instr.buildSlice 45 1 #[(0, .int .u8 97)])) w fun t128 w =>
                  RunN Try.prog .sl (V (convert 45 45 (.slice t128.a t128.len t128.cap))) w fun t129 w =>
                  CallK Try.prog .bool 25 #[.slice t127.a t127.len t127.cap, .slice t129.a t129.len t129.cap] w fun t130 w =>
                  SplitB t130
                    (NilP t16.1 fun t134 =>
                    RunN Try.prog .ptr (V (Instr.loadAt 26 (.pointer (some (t134.add 0))))) w fun t136 w =>
                    CallK Try.prog (.int .i64) 11 #[.pointer t136] w fun t137 w =>
                    K (t137 == 3) w)
                    (K false w))
                  (K false w))
                (K false w))
              (K false w))
            (K false w)))
      fun k3 =>
        SplitB (t39 != 0)
          (k3 (true, ()) w)
          (SplitB (t44 != 0)
            (k3 (true, ()) w)
            (SplitB (t51 != 30)
              (k3 (true, ()) w)
              (SplitB ((t56.len : Int) != 2)
                (k3 (true, ()) w)
                (RunN Try.prog .addr (V (Instr.indexAt 33 (.slice t56.a t56.len t56.cap) (.int .i64 1))) w fun t74 w =>
                RunN Try.prog (.int .i64) (V (Instr.loadAt 3 (.pointer (some (t74.add 2))))) w fun t76 w =>
                SplitB (t76 != 2)
                  (k3 (true, ()) w)
                  (RunN Try.prog .addr (V (Instr.indexAt 33 (.slice t56.a t56.len t56.cap) (.int .i64 0))) w fun t81 w =>
                  RunN Try.prog (.int .i64) (V (Instr.loadAt 3 (.pointer (some (t81.add 3))))) w fun t83 w =>
                  k3 (t83 != 0, ()) w)))))))
  fun k1 =>
    SplitB (!t12.2.1)
      (k1 (true, ()) w)
      (SplitB (!t16.2.1)
        (k1 (true, ()) w)
        (RunN Try.prog .bool (V (do eqGuard .eql 23 (.tmp 26) (.const (.pointer none)) (.pointer t12.1) (.pointer none); binOp .eql 23 (.pointer t12.1) (.pointer none))) w fun t27 w =>
        SplitB t27
          (k1 (true, ()) w)
          (RunN Try.prog .bool (V (do eqGuard .eql 23 (.tmp 30) (.const (.pointer none)) (.pointer t16.1) (.pointer none); binOp .eql 23 (.pointer t16.1) (.pointer none))) w fun t31 w =>
          k1 (t31, ()) w)))
theorem T9.calls  {w : World} {K : Bool → World → Prop} (h : T9  w K) : CallK Try.prog .bool 9 #[] w K :=
  bodyZ_sound (κ := kappa) (ann := [(4, [(32, .bool)]), (11, [(85, .bool)])]) (fn := Try.f9) Try.func9 rfl (by kernel_rfl) (cast (show T9  w K = bodyZ Try.prog kappa [(4, [(32, .bool)]), (11, [(85, .bool)])] .bool Try.f9 [] w K by kernel_rfl) h)

/-- sluice/sluicelaw3.made -/
def T10 (p0 : Int) (p1 : Int) (p2 : Int) (p3 : Int) (w : World) (K : (Option Addr × Bool × Unit) → World → Prop) : Prop :=
  CallK Try.prog (.tup (.cons .ptr (.cons (.int .i64) .nilT))) 22 #[.int .i64 p0, .int .i64 p1, .int .i64 p2, .int .i64 p3] w fun t19 w =>
  CallK Try.prog (.tup (.cons .ptr (.cons (.int .i64) .nilT))) 27 #[.int .i64 p0, .int .i64 p1, .int .i64 p2, .int .i64 p3] w fun t27 w =>
  JoinX (α := Bool × Unit) (fun j2 w =>
    SplitB j2.1
      (K (none, false, ()) w)
      (JoinX (α := Bool × Unit) (fun j4 w =>
        SplitB j4.1
          (K (none, true, ()) w)
          (RunN Try.prog .addr (V (Instr.box 70 (.agg #[.slice none 0 0, .int .i64 0]))) w fun t49 w =>
          RunN Try.prog .addr (V (Instr.box 73 (.agg #[.slice none 0 0, .int .i64 0]))) w fun t51 w =>
          RunN Try.prog .addr (V (Instr.box 31 (.agg #[.pointer t19.1, .pointer t27.1, .pointer (some t49), .pointer (some t51)]))) w fun t53 w =>
          K (some t53, true, ()) w))
      fun k3 =>
        RunN Try.prog .bool (V (do eqGuard .eql 26 (.tmp 40) (.const (.pointer none)) (.pointer t19.1) (.pointer none); binOp .eql 26 (.pointer t19.1) (.pointer none))) w fun t41 w =>
        SplitB t41
          (k3 (true, ()) w)
          (RunN Try.prog .bool (V (do eqGuard .eql 27 (.tmp 43) (.const (.pointer none)) (.pointer t27.1) (.pointer none); binOp .eql 27 (.pointer t27.1) (.pointer none))) w fun t44 w =>
          k3 (t44, ()) w)))
  fun k1 =>
    SplitB (t19.2.1 != t27.2.1)
      (k1 (true, ()) w)
      (RunN Try.prog .bool (V (do eqGuard .eql 26 (.tmp 34) (.const (.pointer none)) (.pointer t19.1) (.pointer none); binOp .eql 26 (.pointer t19.1) (.pointer none))) w fun t35 w =>
      RunN Try.prog .bool (V (do eqGuard .eql 27 (.tmp 36) (.const (.pointer none)) (.pointer t27.1) (.pointer none); binOp .eql 27 (.pointer t27.1) (.pointer none))) w fun t37 w =>
      k1 (!(t35 == t37), ()) w)
theorem T10.calls {p0 : Int} {p1 : Int} {p2 : Int} {p3 : Int} {w : World} {K : (Option Addr × Bool × Unit) → World → Prop} (h : T10 p0 p1 p2 p3 w K) : CallK Try.prog (.tup (.cons .ptr (.cons .bool .nilT))) 10 #[.int .i64 p0, .int .i64 p1, .int .i64 p2, .int .i64 p3] w K :=
  bodyZ_sound (κ := kappa) (ann := [(4, [(39, .bool)]), (7, [(45, .bool)])]) (fn := Try.f10) Try.func10 rfl (by kernel_rfl) (cast (show T10 p0 p1 p2 p3 w K = bodyZ Try.prog kappa [(4, [(39, .bool)]), (7, [(45, .bool)])] (.tup (.cons .ptr (.cons .bool .nilT))) Try.f10 [.int .i64 p0, .int .i64 p1, .int .i64 p2, .int .i64 p3] w K by kernel_rfl) h)

/-- (*sluice/link.Link).Next -/
def T11 (p0 : Option Addr) (w : World) (K : Int → World → Prop) : Prop :=
  NilP p0 fun t4 =>
  RunN Try.prog (.int .i64) (V (Instr.loadAt 3 (.pointer (some (t4.add 8))))) w fun t6 w =>
  K t6 w
theorem T11.calls {p0 : Option Addr} {w : World} {K : Int → World → Prop} (h : T11 p0 w K) : CallK Try.prog (.int .i64) 11 #[.pointer p0] w K :=
  bodyZ_sound (κ := kappa) (ann := []) (fn := Try.f11) Try.func11 rfl (by kernel_rfl) (cast (show T11 p0 w K = bodyZ Try.prog kappa [] (.int .i64) Try.f11 [.pointer p0] w K by kernel_rfl) h)

/-- (*sluice/link.Link).Room -/
def T12 (p0 : Option Addr) (w : World) (K : Int → World → Prop) : Prop :=
  NilP p0 fun t4 =>
  ReadN Try.prog (.int .i64) (V (Instr.loadAt 3 (.pointer (some (t4.add 2))))) w.drew fun t6 =>
  NilP p0 fun t8 =>
  ReadN Try.prog .chan (V (Instr.loadAt 74 (.pointer (some (t8.add 4))))) w.drew fun t10 =>
  ReadN Try.prog (.int .i64) (V (Builtin.len_ #[74] 3 #[.chan t10])) w.drew fun t11 =>
  NilP p0 fun t14 =>
  ReadN Try.prog .sl (V (Instr.loadAt 75 (.pointer (some (t14.add 5))))) w.drew fun t16 =>
  K (IntKind.i64.wrap ((IntKind.i64.wrap (t6 - t11)) - (t16.len : Int))) w.drew
theorem T12.calls {p0 : Option Addr} {w : World} {K : Int → World → Prop} (h : T12 p0 w K) : CallK Try.prog (.int .i64) 12 #[.pointer p0] w K :=
  bodyZ_sound (κ := kappa) (ann := []) (fn := Try.f12) Try.func12 rfl (by kernel_rfl) (cast (show T12 p0 w K = bodyZ Try.prog kappa [] (.int .i64) Try.f12 [.pointer p0] w K by kernel_rfl) h)

/-- (*sluice/link.Link).Out -/
def T13 (p0 : Option Addr) (w : World) (K : Sl → World → Prop) : Prop :=
  JoinX (α := Sl × Unit) (fun j2 w =>
    JoinX (α := Sl × Unit) (fun j4 w =>
      NilP p0 fun t25 =>
      RunN Try.prog .sl (V (Instr.loadAt 75 (.pointer (some (t25.add 5))))) w fun t27 w =>
      LoopX (α := Sl × Unit) (fun s5 w k6 =>
        NilP p0 fun t31 =>
        RunN Try.prog .chan (V (Instr.loadAt 74 (.pointer (some (t31.add 4))))) w fun t33 w =>
        RecvB Try.prog (.agg (.cons (.int .i64) (.cons .sl .nilT))) 81 t33 w
          (fun t34 w =>
          SplitB (0 == 0)
            (RunN Try.prog .addr (V (Instr.alloc 81 true (.tuple #[]))) w fun t5 w =>
            RunU Try.prog (U (Instr.storeAt 81 (.pointer (some t5)) (.agg #[.int .i64 t34.1, .slice t34.2.1.a t34.2.1.len t34.2.1.cap]))) w fun w =>
            RunN Try.prog (.agg (.cons (.int .i64) (.cons .sl .nilT))) (V (Instr.loadAt 81 (.pointer (some t5)))) w fun t40 w =>
            CallK Try.prog (.agg (.cons (.int .i64) (.cons (.int .i64) (.cons (.int .i64) (.cons (.int .i64) (.cons .sl .nilT)))))) 28 #[.pointer p0, .agg #[.int .i64 t40.1, .slice t40.2.1.a t40.2.1.len t40.2.1.cap]] w fun t41 w =>
            RunN Try.prog .sl (V (Instr.buildSlice 33 1 #[(0, .agg #[.int .i64 t41.1, .int .i64 t41.2.1, .int .i64 t41.2.2.1, .int .i64 t41.2.2.2.1, .slice t41.2.2.2.2.1.a t41.2.2.2.2.1.len t41.2.2.2.2.1.cap])])) w fun t42 w =>
            RunN Try.prog .sl (V (Builtin.append_ #[33, 33] 33 #[.slice s5.1.a s5.1.len s5.1.cap, .slice t42.a t42.len t42.cap])) w fun t43 w =>
            NilP p0 fun t46 =>
            ReadN Try.prog .sl (V (Instr.loadAt 75 (.pointer (some (t46.add 5))))) w.drew fun t48 =>
            ReadN Try.prog (.agg (.cons (.int .i64) (.cons .sl .nilT))) (V (Instr.loadAt 81 (.pointer (some t5)))) w.drew fun t49 =>
            RunN Try.prog .sl (V (Instr.buildSlice 75 1 #[(0, .agg #[.int .i64 t49.1, .slice t49.2.1.a t49.2.1.len t49.2.1.cap])])) w.drew fun t50 w =>
            StillV Try.prog (V (Instr.loadAt 75 (.pointer (some (t46.add 5))))) (.slice t48.a t48.len t48.cap) w ∧
            RunN Try.prog .sl (V (Builtin.append_ #[75, 75] 75 #[.slice t48.a t48.len t48.cap, .slice t50.a t50.len t50.cap])) w fun t51 w =>
            NilP p0 fun t52 =>
            RunU Try.prog (U (Instr.storeAt 75 (.pointer (some (t52.add 5))) (.slice t51.a t51.len t51.cap))) w fun w =>
            RunN Try.prog (.int .i64) (V (Instr.loadAt 3 (.pointer (some (t5.add 0))))) w fun t56 w =>
            NilP p0 fun t57 =>
            RunU Try.prog (U (Instr.storeAt 3 (.pointer (some (t57.add 7))) (.int .i64 t56))) w fun w =>
            SplitB ((t27.len : Int) == 0)
              (NilP p0 fun t61 =>
              RunU Try.prog (U (Instr.storeAt 3 (.pointer (some (t61.add 12))) (.int .i64 0))) w fun w =>
              k6 (t43, ()) w)
              (k6 (t43, ()) w))
            (NilP p0 fun t65 =>
            RunU Try.prog (U (Instr.storeAt 4 (.pointer (some (t65.add 10))) (.bool false))) w fun w =>
            NilP p0 fun t67 =>
            RunU Try.prog (U (Instr.storeAt 4 (.pointer (some (t67.add 11))) (.bool false))) w fun w =>
            K s5.1 w))
          (fun z34 w =>
          SplitB ((-1) == 0)
            (RunN Try.prog .addr (V (Instr.alloc 81 true (.tuple #[]))) w fun t5 w =>
            RunU Try.prog (U (Instr.storeAt 81 (.pointer (some t5)) (z34))) w fun w =>
            RunN Try.prog (.agg (.cons (.int .i64) (.cons .sl .nilT))) (V (Instr.loadAt 81 (.pointer (some t5)))) w fun t40 w =>
            CallK Try.prog (.agg (.cons (.int .i64) (.cons (.int .i64) (.cons (.int .i64) (.cons (.int .i64) (.cons .sl .nilT)))))) 28 #[.pointer p0, .agg #[.int .i64 t40.1, .slice t40.2.1.a t40.2.1.len t40.2.1.cap]] w fun t41 w =>
            RunN Try.prog .sl (V (Instr.buildSlice 33 1 #[(0, .agg #[.int .i64 t41.1, .int .i64 t41.2.1, .int .i64 t41.2.2.1, .int .i64 t41.2.2.2.1, .slice t41.2.2.2.2.1.a t41.2.2.2.2.1.len t41.2.2.2.2.1.cap])])) w fun t42 w =>
            RunN Try.prog .sl (V (Builtin.append_ #[33, 33] 33 #[.slice s5.1.a s5.1.len s5.1.cap, .slice t42.a t42.len t42.cap])) w fun t43 w =>
            NilP p0 fun t46 =>
            ReadN Try.prog .sl (V (Instr.loadAt 75 (.pointer (some (t46.add 5))))) w.drew fun t48 =>
            ReadN Try.prog (.agg (.cons (.int .i64) (.cons .sl .nilT))) (V (Instr.loadAt 81 (.pointer (some t5)))) w.drew fun t49 =>
            RunN Try.prog .sl (V (Instr.buildSlice 75 1 #[(0, .agg #[.int .i64 t49.1, .slice t49.2.1.a t49.2.1.len t49.2.1.cap])])) w.drew fun t50 w =>
            StillV Try.prog (V (Instr.loadAt 75 (.pointer (some (t46.add 5))))) (.slice t48.a t48.len t48.cap) w ∧
            RunN Try.prog .sl (V (Builtin.append_ #[75, 75] 75 #[.slice t48.a t48.len t48.cap, .slice t50.a t50.len t50.cap])) w fun t51 w =>
            NilP p0 fun t52 =>
            RunU Try.prog (U (Instr.storeAt 75 (.pointer (some (t52.add 5))) (.slice t51.a t51.len t51.cap))) w fun w =>
            RunN Try.prog (.int .i64) (V (Instr.loadAt 3 (.pointer (some (t5.add 0))))) w fun t56 w =>
            NilP p0 fun t57 =>
            RunU Try.prog (U (Instr.storeAt 3 (.pointer (some (t57.add 7))) (.int .i64 t56))) w fun w =>
            SplitB ((t27.len : Int) == 0)
              (NilP p0 fun t61 =>
              RunU Try.prog (U (Instr.storeAt 3 (.pointer (some (t61.add 12))) (.int .i64 0))) w fun w =>
              k6 (t43, ()) w)
              (k6 (t43, ()) w))
            (NilP p0 fun t65 =>
            RunU Try.prog (U (Instr.storeAt 4 (.pointer (some (t65.add 10))) (.bool false))) w fun w =>
            NilP p0 fun t67 =>
            RunU Try.prog (U (Instr.storeAt 4 (.pointer (some (t67.add 11))) (.bool false))) w fun w =>
            K s5.1 w)))
      (j4.1, ()) w)
    fun k3 =>
      NilP p0 fun t17 =>
      RunN Try.prog .bool (V (Instr.loadAt 4 (.pointer (some (t17.add 11))))) w fun t19 w =>
      SplitB t19
        (CallK Try.prog .sl 14 #[.pointer p0] w fun t22 w =>
        RunN Try.prog .sl (V (Builtin.append_ #[33, 33] 33 #[.slice j2.1.a j2.1.len j2.1.cap, .slice t22.a t22.len t22.cap])) w fun t23 w =>
        k3 (t23, ()) w)
        (k3 (j2.1, ()) w))
  fun k1 =>
    NilP p0 fun t7 =>
    RunN Try.prog .bool (V (Instr.loadAt 4 (.pointer (some (t7.add 10))))) w fun t9 w =>
    SplitB t9
      (CallK Try.prog (.agg (.cons (.int .i64) (.cons (.int .i64) (.cons (.int .i64) (.cons (.int .i64) (.cons .sl .nilT)))))) 28 #[.pointer p0, .agg #[.int .i64 0, .slice none 0 0]] w fun t13 w =>
      RunN Try.prog .sl (V (Instr.buildSlice 33 1 #[(0, .agg #[.int .i64 t13.1, .int .i64 t13.2.1, .int .i64 t13.2.2.1, .int .i64 t13.2.2.2.1, .slice t13.2.2.2.2.1.a t13.2.2.2.2.1.len t13.2.2.2.2.1.cap])])) w fun t14 w =>
      RunN Try.prog .sl (V (Builtin.append_ #[33, 33] 33 #[.slice none 0 0, .slice t14.a t14.len t14.cap])) w fun t15 w =>
      k1 (t15, ()) w)
      (k1 ((⟨none, 0, 0⟩ : Sl), ()) w)
theorem T13.calls {p0 : Option Addr} {w : World} {K : Sl → World → Prop} (h : T13 p0 w K) : CallK Try.prog .sl 13 #[.pointer p0] w K :=
  bodyL_sound (κ := kappa) (ann := [(2, [(3, .sl)]), (4, [(3, .sl)]), (8, [(3, .sl)])]) (fn := Try.f13) Try.func13 rfl (by kernel_rfl) (cast (show T13 p0 w K = bodyL Try.prog kappa [(2, [(3, .sl)]), (4, [(3, .sl)]), (8, [(3, .sl)])] .sl Try.f13 [.pointer p0] w K by kernel_rfl) h)

/-- (*sluice/link.Link).Under -/
def T14 (p0 : Option Addr) (w : World) (K : Sl → World → Prop) : Prop :=
  NilP p0 fun t7 =>
  RunN Try.prog .sl (V (Instr.loadAt 75 (.pointer (some (t7.add 5))))) w fun t9 w =>
  LoopX (α := Sl × Int × Unit) (fun s1 w k2 =>
    SplitB (decide (s1.2.1 < (t9.len : Int)))
      (RunN Try.prog .addr (V (Instr.indexAt 75 (.slice t9.a t9.len t9.cap) (.int .i64 s1.2.1))) w fun t13 w =>
      RunN Try.prog (.agg (.cons (.int .i64) (.cons .sl .nilT))) (V (Instr.loadAt 81 (.pointer (some t13)))) w fun t14 w =>
      RunN Try.prog .addr (V (Instr.alloc 81 true (.tuple #[]))) w fun t5 w =>
      RunU Try.prog (U (Instr.storeAt 81 (.pointer (some t5)) (.agg #[.int .i64 t14.1, .slice t14.2.1.a t14.2.1.len t14.2.1.cap]))) w fun w =>
      RunN Try.prog (.agg (.cons (.int .i64) (.cons .sl .nilT))) (V (Instr.loadAt 81 (.pointer (some t5)))) w fun t17 w =>
      CallK Try.prog (.agg (.cons (.int .i64) (.cons (.int .i64) (.cons (.int .i64) (.cons (.int .i64) (.cons .sl .nilT)))))) 28 #[.pointer p0, .agg #[.int .i64 t17.1, .slice t17.2.1.a t17.2.1.len t17.2.1.cap]] w fun t18 w =>
      RunN Try.prog .sl (V (Instr.buildSlice 33 1 #[(0, .agg #[.int .i64 t18.1, .int .i64 t18.2.1, .int .i64 t18.2.2.1, .int .i64 t18.2.2.2.1, .slice t18.2.2.2.2.1.a t18.2.2.2.2.1.len t18.2.2.2.2.1.cap])])) w fun t19 w =>
      RunN Try.prog .sl (V (Builtin.append_ #[33, 33] 33 #[.slice s1.1.a s1.1.len s1.1.cap, .slice t19.a t19.len t19.cap])) w fun t20 w =>
      k2 (t20, IntKind.i64.wrap (s1.2.1 + 1), ()) w)
      (K s1.1 w))
  ((⟨none, 0, 0⟩ : Sl), 0, ()) w
theorem T14.calls {p0 : Option Addr} {w : World} {K : Sl → World → Prop} (h : T14 p0 w K) : CallK Try.prog .sl 14 #[.pointer p0] w K :=
  bodyZ_sound (κ := kappa) (ann := [(4, [(3, .sl), (11, (.int .i64))])]) (fn := Try.f14) Try.func14 rfl (by kernel_rfl) (cast (show T14 p0 w K = bodyZ Try.prog kappa [(4, [(3, .sl), (11, (.int .i64))])] .sl Try.f14 [.pointer p0] w K by kernel_rfl) h)

/-- (*sluice/link.Link).Tick -/
def T20 (p0 : Option Addr) (w : World) (K : Unit → World → Prop) : Prop :=
  NilP p0 fun t3 =>
  RunN Try.prog .sl (V (Instr.loadAt 75 (.pointer (some (t3.add 5))))) w fun t5 w =>
  SplitB ((t5.len : Int) == 0)
    (K () w)
    (NilP p0 fun t9 =>
    RunN Try.prog (.int .i64) (V (Instr.loadAt 3 (.pointer (some (t9.add 12))))) w fun t11 w =>
    NilP p0 fun t13 =>
    RunU Try.prog (U (Instr.storeAt 3 (.pointer (some (t13.add 12))) (.int .i64 (IntKind.i64.wrap (t11 + 1))))) w fun w =>
    NilP p0 fun t16 =>
    ReadN Try.prog (.int .i64) (V (Instr.loadAt 3 (.pointer (some (t16.add 12))))) w.drew fun t18 =>
    NilP p0 fun t20 =>
    ReadN Try.prog (.int .i64) (V (Instr.loadAt 3 (.pointer (some (t20.add 3))))) w.drew fun t22 =>
    SplitB (decide (t18 ≥ t22))
      (NilP p0 fun t26 =>
      RunU Try.prog (U (Instr.storeAt 4 (.pointer (some (t26.add 11))) (.bool true))) w.drew fun w =>
      NilP p0 fun t28 =>
      RunU Try.prog (U (Instr.storeAt 3 (.pointer (some (t28.add 12))) (.int .i64 0))) w fun w =>
      K () w)
      (K () w.drew))
theorem T20.calls {p0 : Option Addr} {w : World} {K : Unit → World → Prop} (h : T20 p0 w K) : CallK Try.prog (.tup .nilT) 20 #[.pointer p0] w K :=
  bodyZ_sound (κ := kappa) (ann := []) (fn := Try.f20) Try.func20 rfl (by kernel_rfl) (cast (show T20 p0 w K = bodyZ Try.prog kappa [] (.tup .nilT) Try.f20 [.pointer p0] w K by kernel_rfl) h)

/-- sluice/link.New -/
def T22 (p0 : Int) (p1 : Int) (p2 : Int) (p3 : Int) (w : World) (K : (Option Addr × Int × Unit) → World → Prop) : Prop :=
  JoinX (α := Bool × Unit) (fun j2 w =>
    SplitB j2.1
      (K (none, 3, ()) w)
      (JoinX (α := Bool × Unit) (fun j4 w =>
        SplitB j4.1
          (K (none, 1, ()) w)
          (RunN Try.prog .chan (V (Instr.makeChan 74 (.int .i64 p2))) w fun t50 w =>
          RunN Try.prog .map (V (Instr.makeMap 76 none)) w fun t51 w =>
          RunN Try.prog .addr (V (Instr.box 78 (.agg #[.int .i64 p0, .int .i64 p1, .int .i64 p2, .int .i64 p3, .chan t50, .slice none 0 0, .int .i64 0, .int .i64 0, .int .i64 1, .map t51, .bool false, .bool false, .int .i64 0]))) w fun t53 w =>
          K (some t53, 0, ()) w))
      fun k3 =>
        SplitB (decide (p2 < 1))
          (k3 (true, ()) w)
          (SplitB (decide (p2 > 16))
            (k3 (true, ()) w)
            (SplitB (decide (p3 < 1))
              (k3 (true, ()) w)
              (k3 (decide (p3 > 1000), ()) w)))))
  fun k1 =>
    SplitB (decide (p0 < 0))
      (k1 (true, ()) w)
      (SplitB (decide (p0 ≥ 16))
        (k1 (true, ()) w)
        (SplitB (decide (p1 < 0))
          (k1 (true, ()) w)
          (SplitB (decide (p1 ≥ 16))
            (k1 (true, ()) w)
            (k1 (p0 == p1, ()) w))))
theorem T22.calls {p0 : Int} {p1 : Int} {p2 : Int} {p3 : Int} {w : World} {K : (Option Addr × Int × Unit) → World → Prop} (h : T22 p0 p1 p2 p3 w K) : CallK Try.prog (.tup (.cons .ptr (.cons (.int .i64) .nilT))) 22 #[.int .i64 p0, .int .i64 p1, .int .i64 p2, .int .i64 p3] w K :=
  bodyZ_sound (κ := kappa) (ann := [(2, [(10, .bool)]), (4, [(30, .bool)])]) (fn := Try.f22) Try.func22 rfl (by kernel_rfl) (cast (show T22 p0 p1 p2 p3 w K = bodyZ Try.prog kappa [(2, [(10, .bool)]), (4, [(30, .bool)])] (.tup (.cons .ptr (.cons (.int .i64) .nilT))) Try.f22 [.int .i64 p0, .int .i64 p1, .int .i64 p2, .int .i64 p3] w K by kernel_rfl) h)

/-- (*sluice/link.Link).Send -/
def T23 (p0 : Option Addr) (p1 : Sl) (w : World) (K : Int → World → Prop) : Prop :=
  SplitB (decide ((p1.len : Int) > 4000))
    (K 2 w)
    (JoinX (α := Bool × Unit) (fun j2 w =>
      SplitB j2.1
        (K 30 w)
        (NilP p0 fun t19 =>
        RunN Try.prog .chan (V (Instr.loadAt 74 (.pointer (some (t19.add 4))))) w fun t21 w =>
        NilP p0 fun t23 =>
        ReadN Try.prog (.int .i64) (V (Instr.loadAt 3 (.pointer (some (t23.add 6))))) w.drew fun t25 =>
        CallK Try.prog .sl 32 #[.slice p1.a p1.len p1.cap] w.drew fun t28 w =>
        StillV Try.prog (V (Instr.loadAt 3 (.pointer (some (t23.add 6))))) (.int .i64 t25) w ∧
        SendB Try.prog 81 t21 (.agg #[.int .i64 (IntKind.i64.wrap (t25 + 1)), .slice t28.a t28.len t28.cap]) w
          (fun w =>
          SplitB (0 == 0)
            (NilP p0 fun t34 =>
            RunN Try.prog (.int .i64) (V (Instr.loadAt 3 (.pointer (some (t34.add 6))))) w fun t36 w =>
            NilP p0 fun t38 =>
            RunU Try.prog (U (Instr.storeAt 3 (.pointer (some (t38.add 6))) (.int .i64 (IntKind.i64.wrap (t36 + 1))))) w fun w =>
            K 0 w)
            (K 30 w))
          (fun w =>
          SplitB ((-1) == 0)
            (NilP p0 fun t34 =>
            RunN Try.prog (.int .i64) (V (Instr.loadAt 3 (.pointer (some (t34.add 6))))) w fun t36 w =>
            NilP p0 fun t38 =>
            RunU Try.prog (U (Instr.storeAt 3 (.pointer (some (t38.add 6))) (.int .i64 (IntKind.i64.wrap (t36 + 1))))) w fun w =>
            K 0 w)
            (K 30 w))))
    fun k1 =>
      CallK Try.prog (.int .i64) 12 #[.pointer p0] w fun t9 w =>
      SplitB (decide (t9 ≤ 0))
        (k1 (true, ()) w)
        (NilP p0 fun t13 =>
        RunN Try.prog (.int .i64) (V (Instr.loadAt 3 (.pointer (some (t13.add 6))))) w fun t15 w =>
        k1 (decide (t15 ≥ 1099511627776), ()) w))
theorem T23.calls {p0 : Option Addr} {p1 : Sl} {w : World} {K : Int → World → Prop} (h : T23 p0 p1 w K) : CallK Try.prog (.int .i64) 23 #[.pointer p0, .slice p1.a p1.len p1.cap] w K :=
  bodyL_sound (κ := kappa) (ann := [(5, [(17, .bool)])]) (fn := Try.f23) Try.func23 rfl (by kernel_rfl) (cast (show T23 p0 p1 w K = bodyL Try.prog kappa [(5, [(17, .bool)])] (.int .i64) Try.f23 [.pointer p0, .slice p1.a p1.len p1.cap] w K by kernel_rfl) h)

/-- sluice/sluicelaw3.lend -/
def T24 (p0 : Sl) (w : World) (K : Sl → World → Prop) : Prop :=
  LoopX (α := Sl × Int × Unit) (fun s1 w k2 =>
    SplitB (decide (s1.2.1 < (p0.len : Int)))
      (RunN Try.prog .addr (V (Instr.indexAt 45 (.slice p0.a p0.len p0.cap) (.int .i64 s1.2.1))) w fun t14 w =>
      RunN Try.prog (.int .u8) (V (Instr.loadAt 5 (.pointer (some t14)))) w fun t15 w =>
      RunN Try.prog .sl (V (Instr.buildSlice 45 1 #[(0, .int .u8 t15)])) w fun t16 w =>
      RunN Try.prog .sl (V (Builtin.append_ #[45, 45] 45 #[.slice s1.1.a s1.1.len s1.1.cap, .slice t16.a t16.len t16.cap])) w fun t17 w =>
      k2 (t17, IntKind.i64.wrap (s1.2.1 + 1), ()) w)
      (RunN Try.prog .sl (V (Instr.buildSlice 45 3 #[(0, .int .u8 167), (1, .int .u8 182), (2, .int .u8 197)])) w fun t19 w =>
      RunN Try.prog .sl (V (Builtin.append_ #[45, 45] 45 #[.slice s1.1.a s1.1.len s1.1.cap, .slice t19.a t19.len t19.cap])) w fun t20 w =>
      K t20 w))
  ((⟨none, 0, 0⟩ : Sl), 0, ()) w
theorem T24.calls {p0 : Sl} {w : World} {K : Sl → World → Prop} (h : T24 p0 w K) : CallK Try.prog .sl 24 #[.slice p0.a p0.len p0.cap] w K :=
  bodyZ_sound (κ := kappa) (ann := [(4, [(3, .sl), (4, (.int .i64))])]) (fn := Try.f24) Try.func24 rfl (by kernel_rfl) (cast (show T24 p0 w K = bodyZ Try.prog kappa [(4, [(3, .sl), (4, (.int .i64))])] .sl Try.f24 [.slice p0.a p0.len p0.cap] w K by kernel_rfl) h)

/-- sluice/sluicelaw3.same -/
def T25 (p0 : Sl) (p1 : Sl) (w : World) (K : Bool → World → Prop) : Prop :=
  RunN Try.prog .str (V (convert 45 9 (.slice p0.a p0.len p0.cap))) w fun t6 w =>
  RunN Try.prog .str (V (convert 45 9 (.slice p1.a p1.len p1.cap))) w fun t8 w =>
  K (t6.toList == t8.toList) w
theorem T25.calls {p0 : Sl} {p1 : Sl} {w : World} {K : Bool → World → Prop} (h : T25 p0 p1 w K) : CallK Try.prog .bool 25 #[.slice p0.a p0.len p0.cap, .slice p1.a p1.len p1.cap] w K :=
  bodyZ_sound (κ := kappa) (ann := []) (fn := Try.f25) Try.func25 rfl (by kernel_rfl) (cast (show T25 p0 p1 w K = bodyZ Try.prog kappa [] .bool Try.f25 [.slice p0.a p0.len p0.cap, .slice p1.a p1.len p1.cap] w K by kernel_rfl) h)

/-- (*sluice/link.Link).Take -/
def T26 (p0 : Option Addr) (p1 : (Int × Int × Int × Int × Sl × Unit)) (w : World) (K : (Sl × Int × Unit) → World → Prop) : Prop :=
  RunN Try.prog .addr (V (Instr.box 62 (.agg #[.int .i64 p1.1, .int .i64 p1.2.1, .int .i64 p1.2.2.1, .int .i64 p1.2.2.2.1, .slice p1.2.2.2.2.1.a p1.2.2.2.2.1.len p1.2.2.2.2.1.cap]))) w fun t3 w =>
  RunN Try.prog (.agg (.cons (.int .i64) (.cons (.int .i64) (.cons (.int .i64) (.cons (.int .i64) (.cons .sl .nilT)))))) (V (Instr.loadAt 62 (.pointer (some t3)))) w fun t13 w =>
  CallK Try.prog .bool 33 #[.pointer p0, .agg #[.int .i64 t13.1, .int .i64 t13.2.1, .int .i64 t13.2.2.1, .int .i64 t13.2.2.2.1, .slice t13.2.2.2.2.1.a t13.2.2.2.2.1.len t13.2.2.2.2.1.cap]] w fun t14 w =>
  SplitB (!t14)
    (K ((⟨none, 0, 0⟩ : Sl), 31, ()) w)
    (NilP p0 fun t17 =>
    RunN Try.prog .sl (V (Instr.loadAt 75 (.pointer (some (t17.add 5))))) w fun t19 w =>
    CallK Try.prog (.int .i64) 34 #[.slice t19.a t19.len t19.cap, .func (.func 35) #[] #[.pointer (some t3)]] w fun t21 w =>
    JoinX (α := Int × Unit) (fun j2 w =>
      NilP p0 fun t31 =>
      RunN Try.prog .sl (V (Instr.loadAt 75 (.pointer (some (t31.add 5))))) w fun t33 w =>
      CallK Try.prog .sl 36 #[.slice t33.a t33.len t33.cap, .int .i64 0, .int .i64 j2.1] w fun t35 w =>
      NilP p0 fun t36 =>
      RunU Try.prog (U (Instr.storeAt 75 (.pointer (some (t36.add 5))) (.slice t35.a t35.len t35.cap))) w fun w =>
      RunN Try.prog (.int .i64) (V (Instr.loadAt 3 (.pointer (some (t3.add 2))))) w fun t39 w =>
      SplitB (t39 == 0)
        (K ((⟨none, 0, 0⟩ : Sl), 0, ()) w)
        (NilP p0 fun t42 =>
        RunU Try.prog (U (Instr.storeAt 4 (.pointer (some (t42.add 10))) (.bool true))) w fun w =>
        NilP p0 fun t46 =>
        ReadN Try.prog .map (V (Instr.loadAt 76 (.pointer (some (t46.add 9))))) w.drew fun t48 =>
        ReadN Try.prog (.int .i64) (V (Instr.loadAt 3 (.pointer (some (t3.add 2))))) w.drew fun t50 =>
        ReadN Try.prog (.tup (.cons .sl (.cons .bool .nilT))) (V (Instr.lookup 76 (.map t48) (.int .i64 t50) true)) w.drew fun t51 =>
        JoinX (α := Bool × Unit) (fun j4 w =>
          SplitB j4.1
            (K ((⟨none, 0, 0⟩ : Sl), 0, ()) w)
            (NilP p0 fun t79 =>
            ReadN Try.prog .map (V (Instr.loadAt 76 (.pointer (some (t79.add 9))))) w.drew fun t81 =>
            ReadN Try.prog (.int .i64) (V (Instr.loadAt 3 (.pointer (some (t3.add 2))))) w.drew fun t83 =>
            ReadN Try.prog .sl (V (Instr.loadAt 45 (.pointer (some (t3.add 4))))) w.drew fun t85 =>
            CallK Try.prog .sl 32 #[.slice t85.a t85.len t85.cap] w.drew fun t86 w =>
            StillV Try.prog (V (Instr.loadAt 3 (.pointer (some (t3.add 2))))) (.int .i64 t83) w ∧
            StillV Try.prog (V (Instr.loadAt 76 (.pointer (some (t79.add 9))))) (.map t81) w ∧
            RunU Try.prog (U (Instr.mapUpdate 76 (.map t81) (.int .i64 t83) (.slice t86.a t86.len t86.cap))) w fun w =>
            LoopX (α := Sl × Unit) (fun s5 w k6 =>
              NilP p0 fun t89 =>
              ReadN Try.prog .map (V (Instr.loadAt 76 (.pointer (some (t89.add 9))))) w.drew fun t91 =>
              NilP p0 fun t93 =>
              ReadN Try.prog (.int .i64) (V (Instr.loadAt 3 (.pointer (some (t93.add 8))))) w.drew fun t95 =>
              ReadN Try.prog (.tup (.cons .sl (.cons .bool .nilT))) (V (Instr.lookup 76 (.map t91) (.int .i64 t95) true)) w.drew fun t96 =>
              SplitB (!t96.2.1)
                (K (s5.1, 0, ()) w.drew)
                (NilP p0 fun t103 =>
                ReadN Try.prog .map (V (Instr.loadAt 76 (.pointer (some (t103.add 9))))) w.drew.drew fun t105 =>
                NilP p0 fun t107 =>
                ReadN Try.prog (.int .i64) (V (Instr.loadAt 3 (.pointer (some (t107.add 8))))) w.drew.drew fun t109 =>
                RunN Try.prog (.tup .nilT) (V (Builtin.delete_ #[76, 3] 0 #[.map t105, .int .i64 t109])) w.drew.drew fun _ w =>
                RunN Try.prog .sl (V (Instr.buildSlice 51 1 #[(0, .slice t96.1.a t96.1.len t96.1.cap)])) w fun t112 w =>
                RunN Try.prog .sl (V (Builtin.append_ #[51, 51] 51 #[.slice s5.1.a s5.1.len s5.1.cap, .slice t112.a t112.len t112.cap])) w fun t113 w =>
                NilP p0 fun t115 =>
                RunN Try.prog (.int .i64) (V (Instr.loadAt 3 (.pointer (some (t115.add 8))))) w fun t117 w =>
                NilP p0 fun t119 =>
                RunU Try.prog (U (Instr.storeAt 3 (.pointer (some (t119.add 8))) (.int .i64 (IntKind.i64.wrap (t117 + 1))))) w fun w =>
                k6 (t113, ()) w))
            ((⟨none, 0, 0⟩ : Sl), ()) w))
        fun k3 =>
          SplitB t51.2.1
            (k3 (true, ()) w.drew.drew)
            (ReadN Try.prog (.int .i64) (V (Instr.loadAt 3 (.pointer (some (t3.add 2))))) w.drew.drew fun t57 =>
            NilP p0 fun t59 =>
            ReadN Try.prog (.int .i64) (V (Instr.loadAt 3 (.pointer (some (t59.add 8))))) w.drew.drew fun t61 =>
            SplitB (decide (t57 < t61))
              (k3 (true, ()) w.drew.drew)
              (ReadN Try.prog (.int .i64) (V (Instr.loadAt 3 (.pointer (some (t3.add 2))))) w.drew.drew fun t66 =>
              NilP p0 fun t68 =>
              ReadN Try.prog (.int .i64) (V (Instr.loadAt 3 (.pointer (some (t68.add 8))))) w.drew.drew fun t70 =>
              NilP p0 fun t72 =>
              ReadN Try.prog (.int .i64) (V (Instr.loadAt 3 (.pointer (some (t72.add 2))))) w.drew.drew fun t74 =>
              k3 (decide (t66 ≥ (IntKind.i64.wrap (t70 + t74))), ()) w.drew.drew))))
    fun k1 =>
      SplitB (decide (t21 < 0))
        (NilP p0 fun t25 =>
        RunN Try.prog .sl (V (Instr.loadAt 75 (.pointer (some (t25.add 5))))) w fun t27 w =>
        k1 ((t27.len : Int), ()) w)
        (k1 (t21, ()) w))
theorem T26.calls {p0 : Option Addr} {p1 : (Int × Int × Int × Int × Sl × Unit)} {w : World} {K : (Sl × Int × Unit) → World → Prop} (h : T26 p0 p1 w K) : CallK Try.prog (.tup (.cons .sl (.cons (.int .i64) .nilT))) 26 #[.pointer p0, .agg #[.int .i64 p1.1, .int .i64 p1.2.1, .int .i64 p1.2.2.1, .int .i64 p1.2.2.2.1, .slice p1.2.2.2.2.1.a p1.2.2.2.2.1.len p1.2.2.2.2.1.cap]] w K :=
  bodyZ_sound (κ := kappa) (ann := [(5, [(6, (.int .i64))]), (14, [(77, .bool)]), (18, [(9, .sl)])]) (fn := Try.f26) Try.func26 rfl (by kernel_rfl) (cast (show T26 p0 p1 w K = bodyZ Try.prog kappa [(5, [(6, (.int .i64))]), (14, [(77, .bool)]), (18, [(9, .sl)])] (.tup (.cons .sl (.cons (.int .i64) .nilT))) Try.f26 [.pointer p0, .agg #[.int .i64 p1.1, .int .i64 p1.2.1, .int .i64 p1.2.2.1, .int .i64 p1.2.2.2.1, .slice p1.2.2.2.2.1.a p1.2.2.2.2.1.len p1.2.2.2.2.1.cap]] w K by kernel_rfl) h)

/-- sluice/sluiceref3.New -/
def T27 (p0 : Int) (p1 : Int) (p2 : Int) (p3 : Int) (w : World) (K : (Option Addr × Int × Unit) → World → Prop) : Prop :=
  JoinX (α := Bool × Unit) (fun j2 w =>
    SplitB j2.1
      (K (none, 3, ()) w)
      (JoinX (α := Bool × Unit) (fun j4 w =>
        SplitB j4.1
          (K (none, 1, ()) w)
          (RunN Try.prog .addr (V (Instr.box 95 (.agg #[.int .i64 p0, .int .i64 p1, .int .i64 p2, .int .i64 p3, .slice none 0 0, .int .i64 0, .int .i64 0, .slice none 0 0, .int .i64 1, .bool false, .bool false, .int .i64 0]))) w fun t48 w =>
          K (some t48, 0, ()) w))
      fun k3 =>
        SplitB (decide (p2 < 1))
          (k3 (true, ()) w)
          (SplitB (decide (p2 > 16))
            (k3 (true, ()) w)
            (SplitB (decide (p3 < 1))
              (k3 (true, ()) w)
              (k3 (decide (p3 > 1000), ()) w)))))
  fun k1 =>
    SplitB (decide (p0 < 0))
      (k1 (true, ()) w)
      (SplitB (decide (p0 ≥ 16))
        (k1 (true, ()) w)
        (SplitB (decide (p1 < 0))
          (k1 (true, ()) w)
          (SplitB (decide (p1 ≥ 16))
            (k1 (true, ()) w)
            (k1 (p0 == p1, ()) w))))
theorem T27.calls {p0 : Int} {p1 : Int} {p2 : Int} {p3 : Int} {w : World} {K : (Option Addr × Int × Unit) → World → Prop} (h : T27 p0 p1 p2 p3 w K) : CallK Try.prog (.tup (.cons .ptr (.cons (.int .i64) .nilT))) 27 #[.int .i64 p0, .int .i64 p1, .int .i64 p2, .int .i64 p3] w K :=
  bodyZ_sound (κ := kappa) (ann := [(2, [(28, .bool)]), (5, [(42, .bool)])]) (fn := Try.f27) Try.func27 rfl (by kernel_rfl) (cast (show T27 p0 p1 p2 p3 w K = bodyZ Try.prog kappa [(2, [(28, .bool)]), (5, [(42, .bool)])] (.tup (.cons .ptr (.cons (.int .i64) .nilT))) Try.f27 [.int .i64 p0, .int .i64 p1, .int .i64 p2, .int .i64 p3] w K by kernel_rfl) h)

/-- (*sluice/link.Link).segment -/
def T28 (p0 : Option Addr) (p1 : (Int × Sl × Unit)) (w : World) (K : (Int × Int × Int × Int × Sl × Unit) → World → Prop) : Prop :=
  RunN Try.prog .addr (V (Instr.box 81 (.agg #[.int .i64 p1.1, .slice p1.2.1.a p1.2.1.len p1.2.1.cap]))) w fun t3 w =>
  RunN Try.prog .addr (V (Instr.alloc 62 true (.tuple #[]))) w fun t4 w =>
  NilP p0 fun t6 =>
  ReadN Try.prog (.int .i64) (V (Instr.loadAt 3 (.pointer (some (t6.add 0))))) w.drew fun t8 =>
  NilP p0 fun t10 =>
  ReadN Try.prog (.int .i64) (V (Instr.loadAt 3 (.pointer (some (t10.add 1))))) w.drew fun t12 =>
  ReadN Try.prog (.int .i64) (V (Instr.loadAt 3 (.pointer (some (t3.add 0))))) w.drew fun t14 =>
  NilP p0 fun t16 =>
  ReadN Try.prog (.int .i64) (V (Instr.loadAt 3 (.pointer (some (t16.add 8))))) w.drew fun t18 =>
  ReadN Try.prog .sl (V (Instr.loadAt 45 (.pointer (some (t3.add 1))))) w.drew fun t21 =>
  CallK Try.prog .sl 32 #[.slice t21.a t21.len t21.cap] w.drew fun t22 w =>
  StillV Try.prog (V (Instr.loadAt 3 (.pointer (some (t16.add 8))))) (.int .i64 t18) w ∧
  StillV Try.prog (V (Instr.loadAt 3 (.pointer (some (t3.add 0))))) (.int .i64 t14) w ∧
  StillV Try.prog (V (Instr.loadAt 3 (.pointer (some (t10.add 1))))) (.int .i64 t12) w ∧
  StillV Try.prog (V (Instr.loadAt 3 (.pointer (some (t6.add 0))))) (.int .i64 t8) w ∧
  RunU Try.prog (U (Instr.storeAt 62 (.pointer (some t4)) (.agg #[.int .i64 t8, .int .i64 t12, .int .i64 t14, .int .i64 (IntKind.i64.wrap (t18 - 1)), .slice t22.a t22.len t22.cap]))) w fun w =>
  ReadN Try.prog (.agg (.cons (.int .i64) (.cons (.int .i64) (.cons (.int .i64) (.cons (.int .i64) (.cons .sl .nilT)))))) (V (Instr.loadAt 62 (.pointer (some t4)))) w fun r0 =>
  K (r0.1, r0.2.1, r0.2.2.1, r0.2.2.2.1, r0.2.2.2.2.1, ()) w
theorem T28.calls {p0 : Option Addr} {p1 : (Int × Sl × Unit)} {w : World} {K : (Int × Int × Int × Int × Sl × Unit) → World → Prop} (h : T28 p0 p1 w K) : CallK Try.prog (.agg (.cons (.int .i64) (.cons (.int .i64) (.cons (.int .i64) (.cons (.int .i64) (.cons .sl .nilT)))))) 28 #[.pointer p0, .agg #[.int .i64 p1.1, .slice p1.2.1.a p1.2.1.len p1.2.1.cap]] w K :=
  bodyZ_sound (κ := kappa) (ann := []) (fn := Try.f28) Try.func28 rfl (by kernel_rfl) (cast (show T28 p0 p1 w K = bodyZ Try.prog kappa [] (.agg (.cons (.int .i64) (.cons (.int .i64) (.cons (.int .i64) (.cons (.int .i64) (.cons .sl .nilT)))))) Try.f28 [.pointer p0, .agg #[.int .i64 p1.1, .slice p1.2.1.a p1.2.1.len p1.2.1.cap]] w K by kernel_rfl) h)

/-- slices.Clone[[]byte,byte] -/
def T32 (p0 : Sl) (w : World) (K : Sl → World → Prop) : Prop :=
  RunN Try.prog .bool (V (do eqGuard .eql 45 (.tmp 3) (.const (.slice none 0 0)) (.slice p0.a p0.len p0.cap) (.slice none 0 0); binOp .eql 45 (.slice p0.a p0.len p0.cap) (.slice none 0 0))) w fun t4 w =>
  SplitB t4
    (K (⟨none, 0, 0⟩ : Sl) w)
    (RunN Try.prog .sl (V (Instr.buildSlice 45 0 #[])) w fun t5 w =>
    RunN Try.prog .sl (V (Builtin.append_ #[45, 45] 45 #[.slice t5.a t5.len t5.cap, .slice p0.a p0.len p0.cap])) w fun t7 w =>
    K t7 w)
theorem T32.calls {p0 : Sl} {w : World} {K : Sl → World → Prop} (h : T32 p0 w K) : CallK Try.prog .sl 32 #[.slice p0.a p0.len p0.cap] w K :=
  bodyZ_sound (κ := kappa) (ann := []) (fn := Try.f32) Try.func32 rfl (by kernel_rfl) (cast (show T32 p0 w K = bodyZ Try.prog kappa [] .sl Try.f32 [.slice p0.a p0.len p0.cap] w K by kernel_rfl) h)

/-- (*sluice/link.Link).fits -/
def T33 (p0 : Option Addr) (p1 : (Int × Int × Int × Int × Sl × Unit)) (w : World) (K : Bool → World → Prop) : Prop :=
  RunN Try.prog .addr (V (Instr.box 62 (.agg #[.int .i64 p1.1, .int .i64 p1.2.1, .int .i64 p1.2.2.1, .int .i64 p1.2.2.2.1, .slice p1.2.2.2.2.1.a p1.2.2.2.2.1.len p1.2.2.2.2.1.cap]))) w fun t3 w =>
  ReadN Try.prog (.int .i64) (V (Instr.loadAt 3 (.pointer (some (t3.add 0))))) w.drew fun t6 =>
  NilP p0 fun t8 =>
  ReadN Try.prog (.int .i64) (V (Instr.loadAt 3 (.pointer (some (t8.add 1))))) w.drew fun t10 =>
  SplitB (t6 == t10)
    (ReadN Try.prog (.int .i64) (V (Instr.loadAt 3 (.pointer (some (t3.add 1))))) w.drew fun t14 =>
    NilP p0 fun t16 =>
    ReadN Try.prog (.int .i64) (V (Instr.loadAt 3 (.pointer (some (t16.add 0))))) w.drew fun t18 =>
    SplitB (t14 == t18)
      (ReadN Try.prog (.int .i64) (V (Instr.loadAt 3 (.pointer (some (t3.add 2))))) w.drew fun t23 =>
      SplitB (decide (t23 ≥ 0))
        (ReadN Try.prog (.int .i64) (V (Instr.loadAt 3 (.pointer (some (t3.add 2))))) w.drew fun t28 =>
        SplitB (decide (t28 ≤ 1099511627776))
          (ReadN Try.prog (.int .i64) (V (Instr.loadAt 3 (.pointer (some (t3.add 3))))) w.drew fun t33 =>
          SplitB (decide (t33 ≥ 0))
            (ReadN Try.prog (.int .i64) (V (Instr.loadAt 3 (.pointer (some (t3.add 3))))) w.drew fun t38 =>
            NilP p0 fun t40 =>
            ReadN Try.prog (.int .i64) (V (Instr.loadAt 3 (.pointer (some (t40.add 7))))) w.drew fun t42 =>
            SplitB (decide (t38 ≤ t42))
              (ReadN Try.prog (.int .i64) (V (Instr.loadAt 3 (.pointer (some (t3.add 2))))) w.drew fun t47 =>
              SplitB (decide (t47 > 0))
                (ReadN Try.prog .sl (V (Instr.loadAt 45 (.pointer (some (t3.add 4))))) w.drew fun t58 =>
                K (decide ((t58.len : Int) ≤ 4000)) w.drew)
                (ReadN Try.prog .sl (V (Instr.loadAt 45 (.pointer (some (t3.add 4))))) w.drew fun t51 =>
                SplitB ((t51.len : Int) == 0)
                  (ReadN Try.prog .sl (V (Instr.loadAt 45 (.pointer (some (t3.add 4))))) w.drew fun t58 =>
                  K (decide ((t58.len : Int) ≤ 4000)) w.drew)
                  (K false w.drew)))
              (K false w.drew))
            (K false w.drew))
          (K false w.drew))
        (K false w.drew))
      (K false w.drew))
    (K false w.drew)
theorem T33.calls {p0 : Option Addr} {p1 : (Int × Int × Int × Int × Sl × Unit)} {w : World} {K : Bool → World → Prop} (h : T33 p0 p1 w K) : CallK Try.prog .bool 33 #[.pointer p0, .agg #[.int .i64 p1.1, .int .i64 p1.2.1, .int .i64 p1.2.2.1, .int .i64 p1.2.2.2.1, .slice p1.2.2.2.2.1.a p1.2.2.2.2.1.len p1.2.2.2.2.1.cap]] w K :=
  bodyZ_sound (κ := kappa) (ann := []) (fn := Try.f33) Try.func33 rfl (by kernel_rfl) (cast (show T33 p0 p1 w K = bodyZ Try.prog kappa [] .bool Try.f33 [.pointer p0, .agg #[.int .i64 p1.1, .int .i64 p1.2.1, .int .i64 p1.2.2.1, .int .i64 p1.2.2.2.1, .slice p1.2.2.2.2.1.a p1.2.2.2.2.1.len p1.2.2.2.2.1.cap]] w K by kernel_rfl) h)

/-- slices.IndexFunc[[]sluice/link.parcel,sluice/link.parcel] -/
def T34 (p0 : Sl) (p10 : Addr) (w : World) (K : Int → World → Prop) : Prop :=
  LoopX (α := Int × Unit) (fun s1 w k2 =>
    SplitB (decide (s1.1 < (p0.len : Int)))
      (RunN Try.prog .addr (V (Instr.indexAt 75 (.slice p0.a p0.len p0.cap) (.int .i64 s1.1))) w fun t14 w =>
      RunN Try.prog (.agg (.cons (.int .i64) (.cons .sl .nilT))) (V (Instr.loadAt 81 (.pointer (some t14)))) w fun t15 w =>
      CallK Try.prog .bool 35 #[.agg #[.int .i64 t15.1, .slice t15.2.1.a t15.2.1.len t15.2.1.cap], .pointer (some p10)] w fun t16 w =>
      SplitB t16
        (K s1.1 w)
        (k2 (IntKind.i64.wrap (s1.1 + 1), ()) w))
      (K (-1) w))
  (0, ()) w
theorem T34.calls {p0 : Sl} {p10 : Addr} {w : World} {K : Int → World → Prop} (h : T34 p0 p10 w K) : CallK Try.prog (.int .i64) 34 #[.slice p0.a p0.len p0.cap, .func (.func 35) #[] #[.pointer (some p10)]] w K :=
  bodyZ_sound (κ := kappa) (ann := [(3, [(8, (.int .i64))])]) (fn := Try.f34) Try.func34 rfl (by kernel_rfl) (cast (show T34 p0 p10 w K = bodyZ Try.prog kappa [(3, [(8, (.int .i64))])] (.int .i64) Try.f34 [.slice p0.a p0.len p0.cap, .func (.func 35) #[] #[.pointer (some p10)]] w K by kernel_rfl) h)

/-- (*sluice/link.Link).Take$1 -/
def T35 (p0 : (Int × Sl × Unit)) (c0 : Addr) (w : World) (K : Bool → World → Prop) : Prop :=
  RunN Try.prog .addr (V (Instr.box 81 (.agg #[.int .i64 p0.1, .slice p0.2.1.a p0.2.1.len p0.2.1.cap]))) w fun t2 w =>
  RunN Try.prog (.int .i64) (V (Instr.loadAt 3 (.pointer (some (t2.add 0))))) w fun t5 w =>
  RunN Try.prog (.int .i64) (V (Instr.loadAt 3 (.pointer (some (c0.add 3))))) w fun t7 w =>
  K (decide (t5 > t7)) w
theorem T35.calls {p0 : (Int × Sl × Unit)} {c0 : Addr} {w : World} {K : Bool → World → Prop} (h : T35 p0 c0 w K) : CallK Try.prog .bool 35 #[.agg #[.int .i64 p0.1, .slice p0.2.1.a p0.2.1.len p0.2.1.cap], .pointer (some c0)] w K :=
  bodyZ_sound (κ := kappa) (ann := []) (fn := Try.f35) Try.func35 rfl (by kernel_rfl) (cast (show T35 p0 c0 w K = bodyZ Try.prog kappa [] .bool Try.f35 [.agg #[.int .i64 p0.1, .slice p0.2.1.a p0.2.1.len p0.2.1.cap], .pointer (some c0)] w K by kernel_rfl) h)

/-- slices.Delete[[]sluice/link.parcel,sluice/link.parcel] -/
def T36 (p0 : Sl) (p1 : Int) (p2 : Int) (w : World) (K : Sl → World → Prop) : Prop :=
  RunN Try.prog .sl (V (Instr.sliceAt 75 (.slice p0.a p0.len p0.cap) (some (.int .i64 p1)) (some (.int .i64 p2)) (some (.int .i64 (p0.len : Int))))) w fun t13 w =>
  SplitB (p1 == p2)
    (K p0 w)
    (ReadN Try.prog .sl (V (Instr.sliceAt 75 (.slice p0.a p0.len p0.cap) none (some (.int .i64 p1)) none)) w.drew fun t22 =>
    ReadN Try.prog .sl (V (Instr.sliceAt 75 (.slice p0.a p0.len p0.cap) (some (.int .i64 p2)) none none)) w.drew fun t25 =>
    RunN Try.prog .sl (V (Builtin.append_ #[75, 75] 75 #[.slice t22.a t22.len t22.cap, .slice t25.a t25.len t25.cap])) w.drew fun t26 w =>
    RunN Try.prog .sl (V (Instr.sliceAt 75 (.slice t26.a t26.len t26.cap) (some (.int .i64 (t26.len : Int))) (some (.int .i64 (p0.len : Int))) none)) w fun t31 w =>
    RunN Try.prog (.tup .nilT) (V (Builtin.clear_ #[75] 0 #[.slice t31.a t31.len t31.cap])) w fun _ w =>
    K t26 w)
theorem T36.calls {p0 : Sl} {p1 : Int} {p2 : Int} {w : World} {K : Sl → World → Prop} (h : T36 p0 p1 p2 w K) : CallK Try.prog .sl 36 #[.slice p0.a p0.len p0.cap, .int .i64 p1, .int .i64 p2] w K :=
  bodyZ_sound (κ := kappa) (ann := []) (fn := Try.f36) Try.func36 rfl (by kernel_rfl) (cast (show T36 p0 p1 p2 w K = bodyZ Try.prog kappa [] .sl Try.f36 [.slice p0.a p0.len p0.cap, .int .i64 p1, .int .i64 p2] w K by kernel_rfl) h)
end Go.Proofs.Ytodgnpmljdopiaa
