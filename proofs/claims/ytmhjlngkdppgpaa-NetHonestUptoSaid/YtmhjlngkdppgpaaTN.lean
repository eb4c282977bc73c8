import Derived.Test.YtmhjlngkdppgpaaProg
import Derived.Test.YtmhjlngkdppgpaaFwG
namespace Go.Proofs.Ytmhjlngkdppgpaa
open Go Go.Fw Go.Proofs
set_option maxRecDepth 100000
set_option linter.unusedVariables false
def kappa : List Kd := [(.tup .nilT), .raw, (.int .i64), (.int .i64), .bool, (.int .u8), (.int .u8), (.agg (.cons (.int .i64) (.cons (.int .i64) (.cons .bool (.cons (.int .u8) .nilT))))), (.agg (.cons (.int .i64) (.cons (.int .i64) (.cons .bool (.cons (.int .u8) .nilT))))), .str, .str, .str, (.int .u64), (.agg (.cons .str (.cons (.int .u64) .nilT))), (.agg (.cons .str (.cons (.int .u64) .nilT))), .ptr, .ptr, .ptr, (.agg (.cons .ptr .nilT)), (.agg (.cons .ptr .nilT)), .raw, (.int .i32), .sl, .ptr, (.int .i64), (.tup (.cons .ptr (.cons (.int .i64) .nilT))), .raw, .raw, .raw, .sl, (.agg (.cons (.int .i64) (.cons (.int .i64) (.cons .sl .nilT)))), (.agg (.cons (.int .i64) (.cons (.int .i64) (.cons .sl .nilT)))), .raw, .raw, (.tup (.cons (.agg (.cons (.int .i64) (.cons (.int .i64) (.cons .sl .nilT)))) (.cons (.int .i64) .nilT))), .raw, .raw, .raw, .raw, .raw, .sl, .raw, .raw, .raw, .ptr, (.tup (.cons .ptr (.cons .bool .nilT))), .raw, (.agg (.cons (.int .i64) (.cons (.int .i64) (.cons (.int .i64) (.cons (.int .i64) (.cons (.int .i64) (.cons (.int .i64) (.cons .sl .nilT)))))))), (.agg (.cons (.int .i64) (.cons (.int .i64) (.cons (.int .i64) (.cons (.int .i64) (.cons (.int .i64) (.cons (.int .i64) (.cons .sl .nilT)))))))), .raw, .raw, .raw, .raw, (.agg (.cons (.int .i64) (.cons .sl .nilT))), (.agg (.cons (.int .i64) (.cons .sl .nilT))), .raw, .raw, .ptr, (.tup (.cons .ptr (.cons (.int .i64) .nilT))), .raw, .sl, .sl, .sl, (.agg (.cons .ptr (.cons .ptr (.cons .sl (.cons (.int .i64) (.cons .sl (.cons .sl (.cons .sl (.cons .sl (.cons (.int .i64) (.cons (.int .i64) .nilT))))))))))), (.agg (.cons .ptr (.cons .ptr (.cons .sl (.cons (.int .i64) (.cons .sl (.cons .sl (.cons .sl (.cons .sl (.cons (.int .i64) (.cons (.int .i64) .nilT))))))))))), .raw, (.tup (.cons (.agg (.cons (.int .i64) (.cons (.int .i64) (.cons .sl .nilT)))) (.cons (.int .i64) .nilT))), .raw, .raw, .raw, .raw, (.agg (.cons (.int .i64) (.cons .sl .nilT))), (.agg (.cons (.int .i64) (.cons .sl .nilT))), .raw, .raw, .raw, .raw, .raw, (.agg (.cons .ptr (.cons .ptr (.cons .ptr (.cons .str .nilT))))), (.agg (.cons .ptr (.cons .ptr (.cons .ptr (.cons .str .nilT))))), (.agg .nilT), (.agg .nilT), (.agg .nilT), (.int .u32), (.int .u8), (.int .u8), .raw, .ptr, (.int .i32), (.int .i32), (.agg (.cons (.int .u64) (.cons (.int .u64) (.cons (.int .u32) (.cons (.int .u8) (.cons (.int .u8) (.cons (.int .u8) (.cons (.int .u8) (.cons .raw (.cons .ptr (.cons (.int .i32) (.cons (.int .i32) .nilT)))))))))))), (.agg (.cons (.int .u64) (.cons (.int .u64) (.cons (.int .u32) (.cons (.int .u8) (.cons (.int .u8) (.cons (.int .u8) (.cons (.int .u8) (.cons .raw (.cons .ptr (.cons (.int .i32) (.cons (.int .i32) .nilT))))))))))))]

/-- sluice/sluicelaw4.NetOrder -/
def T3 (p0 : Int) (p1 : Sl) (w : World) (K : Bool → World → Prop) : Prop :=
  SplitB (decide ((p1.len : Int) > 2000))
    (K true w)
    (CallK Try.prog (.tup (.cons .ptr (.cons (.int .i64) .nilT))) 8 #[.int .i64 (IntKind.i64.wrap (1 + (bitAnd .i64 p0 1023)))] w fun t23 w =>
    JoinX (α := Bool × Unit) (fun j2 w =>
      SplitB j2.1
        (K false w)
        (LoopX (α := Int × Unit) (fun s3 w k4 =>
          SplitB (decide (s3.1 < (p1.len : Int)))
            (RunN Try.prog .addr (V (Instr.indexAt 22 (.slice p1.a p1.len p1.cap) (.int .i64 s3.1))) w fun t42 w =>
            RunN Try.prog (.agg (.cons (.int .i64) (.cons (.int .i64) (.cons .sl .nilT)))) (V (Instr.loadAt 31 (.pointer (some t42)))) w fun t43 w =>
            CallK Try.prog (.agg (.cons (.int .i64) (.cons (.int .i64) (.cons .sl .nilT)))) 11 #[.agg #[.int .i64 t43.1, .int .i64 t43.2.1, .slice t43.2.2.1.a t43.2.2.1.len t43.2.2.1.cap]] w fun t44 w =>
            CallK Try.prog (.int .i64) 10 #[.pointer t23.1, .agg #[.int .i64 t44.1, .int .i64 t44.2.1, .slice t44.2.2.1.a t44.2.2.1.len t44.2.2.1.cap]] w fun t45 w =>
            CallK Try.prog (.int .i64) 9 #[.int .i64 t45] w fun t47 w =>
            SplitB (!((t47 == 0) == (decide (s3.1 < (IntKind.i64.wrap (1 + (bitAnd .i64 p0 1023)))))))
              (K false w)
              (k4 (IntKind.i64.wrap (s3.1 + 1), ()) w))
            (CallK Try.prog (.int .i64) 12 #[.pointer t23.1] w fun t54 w =>
            RunN Try.prog (.int .i64) (V (Builtin.min_ #[3, 3] 3 #[.int .i64 (IntKind.i64.wrap (1 + (bitAnd .i64 p0 1023))), .int .i64 (p1.len : Int)])) w fun t58 w =>
            SplitB (t54 != t58)
              (K false w)
              (LoopX (α := Int × Unit) (fun s5 w k6 =>
                JoinX (α := Bool × Unit) (fun j8 w =>
                  SplitB j8.1
                    (CallK Try.prog (.tup (.cons (.agg (.cons (.int .i64) (.cons (.int .i64) (.cons .sl .nilT)))) (.cons (.int .i64) .nilT))) 13 #[.pointer t23.1, .int .i64 0] w fun t73 w =>
                    RunN Try.prog .addr (V (Instr.alloc 31 true (.tuple #[]))) w fun t11 w =>
                    RunU Try.prog (U (Instr.storeAt 31 (.pointer (some t11)) (.agg #[.int .i64 t73.1.1, .int .i64 t73.1.2.1, .slice t73.1.2.2.1.a t73.1.2.2.1.len t73.1.2.2.1.cap]))) w fun w =>
                    JoinX (α := Bool × Unit) (fun j10 w =>
                      SplitB j10.1
                        (K false w)
                        (k6 (IntKind.i64.wrap (s5.1 + 1), ()) w))
                    fun k9 =>
                      CallK Try.prog (.int .i64) 9 #[.int .i64 t73.2.1] w.drew fun t77 w =>
                      SplitB (t77 != 0)
                        (k9 (true, ()) w)
                        (ReadN Try.prog (.agg (.cons (.int .i64) (.cons (.int .i64) (.cons .sl .nilT)))) (V (Instr.loadAt 31 (.pointer (some t11)))) w fun t80 =>
                        ReadN Try.prog .addr (V (Instr.indexAt 22 (.slice p1.a p1.len p1.cap) (.int .i64 s5.1))) w fun t83 =>
                        ReadN Try.prog (.agg (.cons (.int .i64) (.cons (.int .i64) (.cons .sl .nilT)))) (V (Instr.loadAt 31 (.pointer (some t83)))) w fun t84 =>
                        CallK Try.prog .bool 14 #[.agg #[.int .i64 t80.1, .int .i64 t80.2.1, .slice t80.2.2.1.a t80.2.2.1.len t80.2.2.1.cap], .agg #[.int .i64 t84.1, .int .i64 t84.2.1, .slice t84.2.2.1.a t84.2.2.1.len t84.2.2.1.cap]] w fun t85 w =>
                        k9 (!t85, ()) w))
                    (CallK Try.prog (.tup (.cons (.agg (.cons (.int .i64) (.cons (.int .i64) (.cons .sl .nilT)))) (.cons (.int .i64) .nilT))) 13 #[.pointer t23.1, .int .i64 0] w fun t90 w =>
                    RunN Try.prog .addr (V (Instr.alloc 31 true (.tuple #[]))) w fun t13 w =>
                    RunU Try.prog (U (Instr.storeAt 31 (.pointer (some t13)) (.agg #[.int .i64 t90.1.1, .int .i64 t90.1.2.1, .slice t90.1.2.2.1.a t90.1.2.2.1.len t90.1.2.2.1.cap]))) w fun w =>
                    CallK Try.prog (.int .i64) 9 #[.int .i64 t90.2.1] w fun t94 w =>
                    SplitB (t94 == 40)
                      (CallK Try.prog (.int .i64) 12 #[.pointer t23.1] w fun t98 w =>
                      K (t98 == 0) w)
                      (K false w)))
                fun k7 =>
                  SplitB (decide (s5.1 < (IntKind.i64.wrap (1 + (bitAnd .i64 p0 1023)))))
                    (k7 (decide (s5.1 < (p1.len : Int)), ()) w)
                    (k7 (false, ()) w))
              (0, ()) w)))
        (0, ()) w))
    fun k1 =>
      CallK Try.prog (.int .i64) 9 #[.int .i64 t23.2.1] w fun t27 w =>
      SplitB (t27 != 0)
        (k1 (true, ()) w)
        (RunN Try.prog .bool (V (do eqGuard .eql 23 (.tmp 30) (.const (.pointer none)) (.pointer t23.1) (.pointer none); binOp .eql 23 (.pointer t23.1) (.pointer none))) w fun t31 w =>
        k1 (t31, ()) w))
theorem T3.calls {p0 : Int} {p1 : Sl} {w : World} {K : Bool → World → Prop} (h : T3 p0 p1 w K) : CallK Try.prog .bool 3 #[.int .i64 p0, .slice p1.a p1.len p1.cap] w K :=
  bodyZ_sound (κ := kappa) (ann := [(7, [(32, .bool)]), (11, [(8, (.int .i64))]), (23, [(10, (.int .i64))]), (25, [(68, .bool)]), (28, [(87, .bool)])]) (fn := Try.f3) Try.func3 rfl (by kernel_rfl) (cast (show T3 p0 p1 w K = bodyZ Try.prog kappa [(7, [(32, .bool)]), (11, [(8, (.int .i64))]), (23, [(10, (.int .i64))]), (25, [(68, .bool)]), (28, [(87, .bool)])] .bool Try.f3 [.int .i64 p0, .slice p1.a p1.len p1.cap] w K by kernel_rfl) h)

/-- sluice/sluicelaw4.NetMoves -/
def T4 (p0 : Sl) (p1 : Int) (p2 : Int) (w : World) (K : Bool → World → Prop) : Prop :=
  SplitB (decide ((p0.len : Int) > 1023))
    (K true w)
    (CallK Try.prog (.tup (.cons .ptr (.cons (.int .i64) .nilT))) 8 #[.int .i64 1024] w fun t23 w =>
    JoinX (α := Bool × Unit) (fun j2 w =>
      SplitB j2.1
        (K false w)
        (RunN Try.prog .sl (V (Instr.buildSlice 22 1 #[(0, .agg #[.int .i64 9, .int .i64 9, .slice none 0 0])])) w fun t34 w =>
        RunN Try.prog .sl (V (Builtin.append_ #[22, 22] 22 #[.slice t34.a t34.len t34.cap, .slice p0.a p0.len p0.cap])) w fun t36 w =>
        LoopX (α := Int × Unit) (fun s3 w k4 =>
          SplitB (decide (s3.1 < (t36.len : Int)))
            (RunN Try.prog .addr (V (Instr.indexAt 22 (.slice t36.a t36.len t36.cap) (.int .i64 s3.1))) w fun t46 w =>
            RunN Try.prog (.agg (.cons (.int .i64) (.cons (.int .i64) (.cons .sl .nilT)))) (V (Instr.loadAt 31 (.pointer (some t46)))) w fun t47 w =>
            CallK Try.prog (.agg (.cons (.int .i64) (.cons (.int .i64) (.cons .sl .nilT)))) 11 #[.agg #[.int .i64 t47.1, .int .i64 t47.2.1, .slice t47.2.2.1.a t47.2.2.1.len t47.2.2.1.cap]] w fun t48 w =>
            CallK Try.prog (.int .i64) 10 #[.pointer t23.1, .agg #[.int .i64 t48.1, .int .i64 t48.2.1, .slice t48.2.2.1.a t48.2.2.1.len t48.2.2.1.cap]] w fun t49 w =>
            CallK Try.prog (.int .i64) 9 #[.int .i64 t49] w fun t50 w =>
            SplitB (t50 != 0)
              (K false w)
              (k4 (IntKind.i64.wrap (s3.1 + 1), ()) w))
            (RunN Try.prog (.int .i64) (V (binOp .rem 3 (.int .i64 p1) (.int .i64 (t36.len : Int)))) w fun t56 w =>
            RunN Try.prog (.int .i64) (V (binOp .rem 3 (.int .i64 (IntKind.i64.wrap (t56 + (t36.len : Int)))) (.int .i64 (t36.len : Int)))) w fun t60 w =>
            RunN Try.prog (.int .i64) (V (binOp .rem 3 (.int .i64 p2) (.int .i64 (t36.len : Int)))) w fun t63 w =>
            RunN Try.prog (.int .i64) (V (binOp .rem 3 (.int .i64 (IntKind.i64.wrap (t63 + (t36.len : Int)))) (.int .i64 (t36.len : Int)))) w fun t67 w =>
            JoinX (α := Bool × Unit) (fun j6 w =>
              SplitB j6.1
                (K false w)
                (LoopX (α := Int × Int × Unit) (fun s7 w k8 =>
                  SplitB (decide (s7.2.1 < (t36.len : Int)))
                    (JoinX (α := Int × Unit) (fun j10 w =>
                      k8 (j10.1, IntKind.i64.wrap (s7.2.1 + 1), ()) w)
                    fun k9 =>
                      CallK Try.prog (.tup (.cons (.agg (.cons (.int .i64) (.cons (.int .i64) (.cons .sl .nilT)))) (.cons (.int .i64) .nilT))) 16 #[.pointer t23.1, .int .i64 s7.2.1] w fun t88 w =>
                      RunN Try.prog .addr (V (Instr.alloc 31 true (.tuple #[]))) w fun t14 w =>
                      RunU Try.prog (U (Instr.storeAt 31 (.pointer (some t14)) (.agg #[.int .i64 t88.1.1, .int .i64 t88.1.2.1, .slice t88.1.2.2.1.a t88.1.2.2.1.len t88.1.2.2.1.cap]))) w fun w =>
                      CallK Try.prog (.int .i64) 9 #[.int .i64 t88.2.1] w fun t92 w =>
                      SplitB (t92 != 0)
                        (K false w)
                        (SplitB (s7.2.1 == t67)
                          (ReadN Try.prog (.agg (.cons (.int .i64) (.cons (.int .i64) (.cons .sl .nilT)))) (V (Instr.loadAt 31 (.pointer (some t14)))) w.drew fun t97 =>
                          ReadN Try.prog .addr (V (Instr.indexAt 22 (.slice t36.a t36.len t36.cap) (.int .i64 t60))) w.drew fun t100 =>
                          ReadN Try.prog (.agg (.cons (.int .i64) (.cons (.int .i64) (.cons .sl .nilT)))) (V (Instr.loadAt 31 (.pointer (some t100)))) w.drew fun t101 =>
                          CallK Try.prog .bool 14 #[.agg #[.int .i64 t97.1, .int .i64 t97.2.1, .slice t97.2.2.1.a t97.2.2.1.len t97.2.2.1.cap], .agg #[.int .i64 t101.1, .int .i64 t101.2.1, .slice t101.2.2.1.a t101.2.2.1.len t101.2.2.1.cap]] w.drew fun t102 w =>
                          SplitB (!t102)
                            (K false w)
                            (k9 (s7.1, ()) w))
                          (JoinX (α := Int × Unit) (fun j12 w =>
                            ReadN Try.prog (.agg (.cons (.int .i64) (.cons (.int .i64) (.cons .sl .nilT)))) (V (Instr.loadAt 31 (.pointer (some t14)))) w.drew fun t109 =>
                            ReadN Try.prog .addr (V (Instr.indexAt 22 (.slice t36.a t36.len t36.cap) (.int .i64 j12.1))) w.drew fun t112 =>
                            ReadN Try.prog (.agg (.cons (.int .i64) (.cons (.int .i64) (.cons .sl .nilT)))) (V (Instr.loadAt 31 (.pointer (some t112)))) w.drew fun t113 =>
                            CallK Try.prog .bool 14 #[.agg #[.int .i64 t109.1, .int .i64 t109.2.1, .slice t109.2.2.1.a t109.2.2.1.len t109.2.2.1.cap], .agg #[.int .i64 t113.1, .int .i64 t113.2.1, .slice t113.2.2.1.a t113.2.2.1.len t113.2.2.1.cap]] w.drew fun t114 w =>
                            SplitB (!t114)
                              (K false w)
                              (k9 (IntKind.i64.wrap (j12.1 + 1), ()) w))
                          fun k11 =>
                            SplitB (s7.1 == t60)
                              (k11 (IntKind.i64.wrap (s7.1 + 1), ()) w)
                              (k11 (s7.1, ()) w))))
                    (CallK Try.prog (.int .i64) 15 #[.pointer t23.1, .int .i64 t67, .int .i64 t60] w fun t121 w =>
                    CallK Try.prog (.int .i64) 9 #[.int .i64 t121] w fun t122 w =>
                    SplitB (t122 != 0)
                      (K false w)
                      (LoopX (α := Int × Unit) (fun s13 w k14 =>
                        SplitB (decide (s13.1 < (t36.len : Int)))
                          (CallK Try.prog (.tup (.cons (.agg (.cons (.int .i64) (.cons (.int .i64) (.cons .sl .nilT)))) (.cons (.int .i64) .nilT))) 16 #[.pointer t23.1, .int .i64 s13.1] w fun t132 w =>
                          RunN Try.prog .addr (V (Instr.alloc 31 true (.tuple #[]))) w fun t17 w =>
                          RunU Try.prog (U (Instr.storeAt 31 (.pointer (some t17)) (.agg #[.int .i64 t132.1.1, .int .i64 t132.1.2.1, .slice t132.1.2.2.1.a t132.1.2.2.1.len t132.1.2.2.1.cap]))) w fun w =>
                          JoinX (α := Bool × Unit) (fun j16 w =>
                            SplitB j16.1
                              (K false w)
                              (k14 (IntKind.i64.wrap (s13.1 + 1), ()) w))
                          fun k15 =>
                            CallK Try.prog (.int .i64) 9 #[.int .i64 t132.2.1] w.drew fun t136 w =>
                            SplitB (t136 != 0)
                              (k15 (true, ()) w)
                              (ReadN Try.prog (.agg (.cons (.int .i64) (.cons (.int .i64) (.cons .sl .nilT)))) (V (Instr.loadAt 31 (.pointer (some t17)))) w fun t139 =>
                              ReadN Try.prog .addr (V (Instr.indexAt 22 (.slice t36.a t36.len t36.cap) (.int .i64 s13.1))) w fun t142 =>
                              ReadN Try.prog (.agg (.cons (.int .i64) (.cons (.int .i64) (.cons .sl .nilT)))) (V (Instr.loadAt 31 (.pointer (some t142)))) w fun t143 =>
                              CallK Try.prog .bool 14 #[.agg #[.int .i64 t139.1, .int .i64 t139.2.1, .slice t139.2.2.1.a t139.2.2.1.len t139.2.2.1.cap], .agg #[.int .i64 t143.1, .int .i64 t143.2.1, .slice t143.2.2.1.a t143.2.2.1.len t143.2.2.1.cap]] w fun t144 w =>
                              k15 (!t144, ()) w))
                          (K true w))
                      (0, ()) w)))
                (0, 0, ()) w))
            fun k5 =>
              CallK Try.prog (.int .i64) 15 #[.pointer t23.1, .int .i64 t60, .int .i64 t67] w fun t71 w =>
              CallK Try.prog (.int .i64) 9 #[.int .i64 t71] w fun t72 w =>
              SplitB (t72 != 0)
                (k5 (true, ()) w)
                (CallK Try.prog (.int .i64) 12 #[.pointer t23.1] w fun t76 w =>
                k5 (t76 != (t36.len : Int), ()) w)))
        (0, ()) w))
    fun k1 =>
      CallK Try.prog (.int .i64) 9 #[.int .i64 t23.2.1] w fun t27 w =>
      SplitB (t27 != 0)
        (k1 (true, ()) w)
        (RunN Try.prog .bool (V (do eqGuard .eql 23 (.tmp 30) (.const (.pointer none)) (.pointer t23.1) (.pointer none); binOp .eql 23 (.pointer t23.1) (.pointer none))) w fun t31 w =>
        k1 (t31, ()) w))
theorem T4.calls {p0 : Sl} {p1 : Int} {p2 : Int} {w : World} {K : Bool → World → Prop} (h : T4 p0 p1 p2 w K) : CallK Try.prog .bool 4 #[.slice p0.a p0.len p0.cap, .int .i64 p1, .int .i64 p2] w K :=
  bodyZ_sound (κ := kappa) (ann := [(6, [(32, .bool)]), (11, [(10, (.int .i64))]), (21, [(79, .bool)]), (26, [(12, (.int .i64)), (13, (.int .i64))]), (29, [(12, (.int .i64))]), (39, [(12, (.int .i64))]), (49, [(16, (.int .i64))]), (54, [(146, .bool)])]) (fn := Try.f4) Try.func4 rfl (by kernel_rfl) (cast (show T4 p0 p1 p2 w K = bodyZ Try.prog kappa [(6, [(32, .bool)]), (11, [(10, (.int .i64))]), (21, [(79, .bool)]), (26, [(12, (.int .i64)), (13, (.int .i64))]), (29, [(12, (.int .i64))]), (39, [(12, (.int .i64))]), (49, [(16, (.int .i64))]), (54, [(146, .bool)])] .bool Try.f4 [.slice p0.a p0.len p0.cap, .int .i64 p1, .int .i64 p2] w K by kernel_rfl) h)

/-- sluice/sluicelaw4.NetLetters -/
def T5 (p0 : Int) (p1 : Sl) (w : World) (K : Bool → World → Prop) : Prop :=
  CallK Try.prog .bool 17 #[.int .i64 p0, .slice p1.a p1.len p1.cap] w fun t7 w =>
  K t7 w
theorem T5.calls {p0 : Int} {p1 : Sl} {w : World} {K : Bool → World → Prop} (h : T5 p0 p1 w K) : CallK Try.prog .bool 5 #[.int .i64 p0, .slice p1.a p1.len p1.cap] w K :=
  bodyZ_sound (κ := kappa) (ann := []) (fn := Try.f5) Try.func5 rfl (by kernel_rfl) (cast (show T5 p0 p1 w K = bodyZ Try.prog kappa [] .bool Try.f5 [.int .i64 p0, .slice p1.a p1.len p1.cap] w K by kernel_rfl) h)

/-- sluice/sluicelaw4.NetAll -/
def T6 (p0 : Int) (p1 : Int) (p2 : Sl) (w : World) (K : Bool → World → Prop) : Prop :=
  CallK Try.prog .bool 18 #[.slice p2.a p2.len p2.cap] w fun t15 w =>
  SplitB (!t15)
    (K true w)
    (CallK Try.prog .bool 19 #[] w fun t17 w =>
    CallK Try.prog (.tup (.cons .ptr (.cons .bool .nilT))) 20 #[.int .i64 p0] w fun t20 w =>
    CallK Try.prog (.tup (.cons .ptr (.cons .bool .nilT))) 20 #[.int .i64 p1] w fun t25 w =>
    JoinX (α := Bool × Unit) (fun j2 w =>
      SplitB j2.1
        (K false w)
        (LoopX (α := Int × Unit) (fun s3 w k4 =>
          SplitB (decide (s3.1 < (p2.len : Int)))
            (JoinX (α := Bool × Unit) (fun j6 w =>
              JoinX (α := Bool × Unit) (fun j8 w =>
                JoinX (α := Bool × Unit) (fun j10 w =>
                  SplitB j10.1
                    (K false w)
                    (k4 (IntKind.i64.wrap (s3.1 + 1), ()) w))
                fun k9 =>
                  SplitB (!j8.1)
                    (k9 (true, ()) w)
                    (RunN Try.prog .bool (V (do eqGuard .neq 44 (.tmp 81) (.const (.pointer none)) (.pointer t20.1) (.pointer none); binOp .neq 44 (.pointer t20.1) (.pointer none))) w fun t82 w =>
                    SplitB t82
                      (CallK Try.prog .bool 22 #[.pointer t20.1] w fun t85 w =>
                      SplitB (!t85)
                        (k9 (true, ()) w)
                        (RunN Try.prog .bool (V (do eqGuard .neq 44 (.tmp 90) (.const (.pointer none)) (.pointer t25.1) (.pointer none); binOp .neq 44 (.pointer t25.1) (.pointer none))) w fun t91 w =>
                        SplitB t91
                          (CallK Try.prog .bool 22 #[.pointer t25.1] w fun t94 w =>
                          k9 (!t94, ()) w)
                          (k9 (false, ()) w)))
                      (RunN Try.prog .bool (V (do eqGuard .neq 44 (.tmp 90) (.const (.pointer none)) (.pointer t25.1) (.pointer none); binOp .neq 44 (.pointer t25.1) (.pointer none))) w fun t91 w =>
                      SplitB t91
                        (CallK Try.prog .bool 22 #[.pointer t25.1] w fun t94 w =>
                        k9 (!t94, ()) w)
                        (k9 (false, ()) w))))
              fun k7 =>
                JoinX (α := Bool × Unit) (fun j12 w =>
                  SplitB j12.1
                    (RunN Try.prog .addr (V (Instr.indexAt 40 (.slice p2.a p2.len p2.cap) (.int .i64 s3.1))) w fun t75 w =>
                    RunN Try.prog (.agg (.cons (.int .i64) (.cons (.int .i64) (.cons (.int .i64) (.cons (.int .i64) (.cons (.int .i64) (.cons (.int .i64) (.cons .sl .nilT)))))))) (V (Instr.loadAt 48 (.pointer (some t75)))) w fun t76 w =>
                    CallK Try.prog .bool 21 #[.pointer t25.1, .agg #[.int .i64 t76.1, .int .i64 t76.2.1, .int .i64 t76.2.2.1, .int .i64 t76.2.2.2.1, .int .i64 t76.2.2.2.2.1, .int .i64 t76.2.2.2.2.2.1, .slice t76.2.2.2.2.2.2.1.a t76.2.2.2.2.2.2.1.len t76.2.2.2.2.2.2.1.cap]] w fun t77 w =>
                    k7 (t77, ()) w)
                    (k7 (j6.1, ()) w))
                fun k11 =>
                  RunN Try.prog .addr (V (Instr.indexAt 40 (.slice p2.a p2.len p2.cap) (.int .i64 s3.1))) w fun t63 w =>
                  RunN Try.prog (.int .i64) (V (Instr.loadAt 3 (.pointer (some (t63.add 1))))) w fun t65 w =>
                  SplitB ((Int.tmod t65 2) != 0)
                    (RunN Try.prog .bool (V (do eqGuard .neq 44 (.tmp 69) (.const (.pointer none)) (.pointer t25.1) (.pointer none); binOp .neq 44 (.pointer t25.1) (.pointer none))) w fun t70 w =>
                    k11 (t70, ()) w)
                    (k11 (false, ()) w))
            fun k5 =>
              JoinX (α := Bool × Unit) (fun j14 w =>
                SplitB j14.1
                  (RunN Try.prog .addr (V (Instr.indexAt 40 (.slice p2.a p2.len p2.cap) (.int .i64 s3.1))) w fun t58 w =>
                  RunN Try.prog (.agg (.cons (.int .i64) (.cons (.int .i64) (.cons (.int .i64) (.cons (.int .i64) (.cons (.int .i64) (.cons (.int .i64) (.cons .sl .nilT)))))))) (V (Instr.loadAt 48 (.pointer (some t58)))) w fun t59 w =>
                  CallK Try.prog .bool 21 #[.pointer t20.1, .agg #[.int .i64 t59.1, .int .i64 t59.2.1, .int .i64 t59.2.2.1, .int .i64 t59.2.2.2.1, .int .i64 t59.2.2.2.2.1, .int .i64 t59.2.2.2.2.2.1, .slice t59.2.2.2.2.2.2.1.a t59.2.2.2.2.2.2.1.len t59.2.2.2.2.2.2.1.cap]] w fun t60 w =>
                  k5 (t60, ()) w)
                  (k5 (true, ()) w))
              fun k13 =>
                RunN Try.prog .addr (V (Instr.indexAt 40 (.slice p2.a p2.len p2.cap) (.int .i64 s3.1))) w fun t46 w =>
                RunN Try.prog (.int .i64) (V (Instr.loadAt 3 (.pointer (some (t46.add 1))))) w fun t48 w =>
                SplitB ((Int.tmod t48 2) == 0)
                  (RunN Try.prog .bool (V (do eqGuard .neq 44 (.tmp 52) (.const (.pointer none)) (.pointer t20.1) (.pointer none); binOp .neq 44 (.pointer t20.1) (.pointer none))) w fun t53 w =>
                  k13 (t53, ()) w)
                  (k13 (false, ()) w))
            (RunN Try.prog .bool (V (do eqGuard .eql 44 (.tmp 98) (.const (.pointer none)) (.pointer t20.1) (.pointer none); binOp .eql 44 (.pointer t20.1) (.pointer none))) w fun t99 w =>
            SplitB t99
              (RunN Try.prog .bool (V (do eqGuard .eql 44 (.tmp 105) (.const (.pointer none)) (.pointer t25.1) (.pointer none); binOp .eql 44 (.pointer t25.1) (.pointer none))) w fun t106 w =>
              SplitB t106
                (K true w)
                (CallK Try.prog .bool 23 #[.pointer t25.1] w fun t109 w =>
                K t109 w))
              (CallK Try.prog .bool 23 #[.pointer t20.1] w fun t102 w =>
              SplitB t102
                (RunN Try.prog .bool (V (do eqGuard .eql 44 (.tmp 105) (.const (.pointer none)) (.pointer t25.1) (.pointer none); binOp .eql 44 (.pointer t25.1) (.pointer none))) w fun t106 w =>
                SplitB t106
                  (K true w)
                  (CallK Try.prog .bool 23 #[.pointer t25.1] w fun t109 w =>
                  K t109 w))
                (K false w))))
        (0, ()) w))
    fun k1 =>
      SplitB (!t17)
        (k1 (true, ()) w)
        (SplitB (!t20.2.1)
          (k1 (true, ()) w)
          (k1 (!t25.2.1, ()) w)))
theorem T6.calls {p0 : Int} {p1 : Int} {p2 : Sl} {w : World} {K : Bool → World → Prop} (h : T6 p0 p1 p2 w K) : CallK Try.prog .bool 6 #[.int .i64 p0, .int .i64 p1, .slice p2.a p2.len p2.cap] w K :=
  bodyZ_sound (κ := kappa) (ann := [(8, [(37, .bool)]), (12, [(12, (.int .i64))]), (17, [(13, .bool)]), (19, [(13, .bool)]), (21, [(97, .bool)]), (20, [(71, .bool)]), (18, [(54, .bool)])]) (fn := Try.f6) Try.func6 rfl (by kernel_rfl) (cast (show T6 p0 p1 p2 w K = bodyZ Try.prog kappa [(8, [(37, .bool)]), (12, [(12, (.int .i64))]), (17, [(13, .bool)]), (19, [(13, .bool)]), (21, [(97, .bool)]), (20, [(71, .bool)]), (18, [(54, .bool)])] .bool Try.f6 [.int .i64 p0, .int .i64 p1, .slice p2.a p2.len p2.cap] w K by kernel_rfl) h)

/-- sluice/sluicelaw4.NetHonest -/
def T7 (p0 : Int) (p1 : Sl) (w : World) (K : Bool → World → Prop) : Prop :=
  CallK Try.prog .bool 18 #[.slice p1.a p1.len p1.cap] w fun t23 w =>
  SplitB (!t23)
    (K true w)
    (CallK Try.prog (.tup (.cons .ptr (.cons (.int .i64) .nilT))) 8 #[.int .i64 (IntKind.i64.wrap (1 + (bitAnd .i64 p0 1023)))] w fun t29 w =>
    JoinX (α := Bool × Unit) (fun j2 w =>
      SplitB j2.1
        (K false w)
        (JoinX (α := Bool × Unit) (fun j4 w =>
          SplitB j4.1
            (K false w)
            (RunN Try.prog .sl (V (Instr.buildSlice 29 5 #[(0, .int .u8 102), (1, .int .u8 105), (2, .int .u8 114), (3, .int .u8 115), (4, .int .u8 116)])) w fun t52 w =>
            RunN Try.prog .sl (V (convert 29 29 (.slice t52.a t52.len t52.cap))) w fun t53 w =>
            RunN Try.prog .sl (V (Instr.buildSlice 22 1 #[(0, .agg #[.int .i64 (-1), .int .i64 (-1), .slice t53.a t53.len t53.cap])])) w fun t55 w =>
            RunN Try.prog .sl (V (Builtin.append_ #[22, 22] 22 #[.slice none 0 0, .slice t55.a t55.len t55.cap])) w fun t56 w =>
            LoopX (α := Sl × Int × Unit) (fun s5 w k6 =>
              SplitB (decide (s5.2.1 < (p1.len : Int)))
                (RunN Try.prog .addr (V (Instr.indexAt 40 (.slice p1.a p1.len p1.cap) (.int .i64 s5.2.1))) w fun t65 w =>
                RunN Try.prog (.agg (.cons (.int .i64) (.cons (.int .i64) (.cons (.int .i64) (.cons (.int .i64) (.cons (.int .i64) (.cons (.int .i64) (.cons .sl .nilT)))))))) (V (Instr.loadAt 48 (.pointer (some t65)))) w fun t66 w =>
                RunN Try.prog .addr (V (Instr.alloc 48 true (.tuple #[]))) w fun t9 w =>
                RunU Try.prog (U (Instr.storeAt 48 (.pointer (some t9)) (.agg #[.int .i64 t66.1, .int .i64 t66.2.1, .int .i64 t66.2.2.1, .int .i64 t66.2.2.2.1, .int .i64 t66.2.2.2.2.1, .int .i64 t66.2.2.2.2.2.1, .slice t66.2.2.2.2.2.2.1.a t66.2.2.2.2.2.2.1.len t66.2.2.2.2.2.2.1.cap]))) w fun w =>
                JoinX (α := Sl × Unit) (fun j8 w =>
                  CallK Try.prog (.int .i64) 12 #[.pointer t29.1] w fun t179 w =>
                  SplitB (t179 != (j8.1.len : Int))
                    (K false w)
                    (k6 (j8.1, IntKind.i64.wrap (s5.2.1 + 1), ()) w))
                fun k7 =>
                  RunN Try.prog (.int .i64) (V (Instr.loadAt 3 (.pointer (some (t9.add 0))))) w fun t68 w =>
                  SplitB (t68 == 1)
                    (RunN Try.prog (.agg (.cons (.int .i64) (.cons (.int .i64) (.cons .sl .nilT)))) (V (Instr.loadAt 31 (.pointer (some (t9.add 4))))) w fun t73 w =>
                    CallK Try.prog (.agg (.cons (.int .i64) (.cons (.int .i64) (.cons .sl .nilT)))) 11 #[.agg #[.int .i64 t73.1, .int .i64 t73.2.1, .slice t73.2.2.1.a t73.2.2.1.len t73.2.2.1.cap]] w fun t74 w =>
                    CallK Try.prog (.int .i64) 10 #[.pointer t29.1, .agg #[.int .i64 t74.1, .int .i64 t74.2.1, .slice t74.2.2.1.a t74.2.2.1.len t74.2.2.1.cap]] w fun t75 w =>
                    CallK Try.prog (.int .i64) 9 #[.int .i64 t75] w fun t76 w =>
                    SplitB (t76 == 0)
                      (RunN Try.prog (.agg (.cons (.int .i64) (.cons (.int .i64) (.cons .sl .nilT)))) (V (Instr.loadAt 31 (.pointer (some (t9.add 4))))) w fun t80 w =>
                      CallK Try.prog (.agg (.cons (.int .i64) (.cons (.int .i64) (.cons .sl .nilT)))) 11 #[.agg #[.int .i64 t80.1, .int .i64 t80.2.1, .slice t80.2.2.1.a t80.2.2.1.len t80.2.2.1.cap]] w fun t81 w =>
                      RunN Try.prog .sl (V (Instr.buildSlice 22 1 #[(0, .agg #[.int .i64 t81.1, .int .i64 t81.2.1, .slice t81.2.2.1.a t81.2.2.1.len t81.2.2.1.cap])])) w fun t82 w =>
                      RunN Try.prog .sl (V (Builtin.append_ #[22, 22] 22 #[.slice s5.1.a s5.1.len s5.1.cap, .slice t82.a t82.len t82.cap])) w fun t83 w =>
                      k7 (t83, ()) w)
                      (k7 (s5.1, ()) w))
                    (SplitB (t68 == 4)
                      (RunN Try.prog (.int .i64) (V (Instr.loadAt 3 (.pointer (some (t9.add 2))))) w fun t89 w =>
                      CallK Try.prog (.tup (.cons (.agg (.cons (.int .i64) (.cons (.int .i64) (.cons .sl .nilT)))) (.cons (.int .i64) .nilT))) 16 #[.pointer t29.1, .int .i64 t89] w fun t90 w =>
                      RunN Try.prog .addr (V (Instr.alloc 31 true (.tuple #[]))) w fun t10 w =>
                      RunU Try.prog (U (Instr.storeAt 31 (.pointer (some t10)) (.agg #[.int .i64 t90.1.1, .int .i64 t90.1.2.1, .slice t90.1.2.2.1.a t90.1.2.2.1.len t90.1.2.2.1.cap]))) w fun w =>
                      RunN Try.prog (.int .i64) (V (Instr.loadAt 3 (.pointer (some (t9.add 2))))) w fun t95 w =>
                      CallK Try.prog (.int .i64) 24 #[.pointer t29.1, .int .i64 t95] w fun t96 w =>
                      CallK Try.prog (.int .i64) 9 #[.int .i64 t96] w fun t97 w =>
                      SplitB (t97 == 0)
                        (CallK Try.prog (.int .i64) 9 #[.int .i64 t90.2.1] w fun t100 w =>
                        SplitB (t100 != 0)
                          (K false w)
                          (RunN Try.prog (.agg (.cons (.int .i64) (.cons (.int .i64) (.cons .sl .nilT)))) (V (Instr.loadAt 31 (.pointer (some t10)))) w fun t103 w =>
                          CallK Try.prog (.agg (.cons (.int .i64) (.cons (.int .i64) (.cons .sl .nilT)))) 11 #[.agg #[.int .i64 t103.1, .int .i64 t103.2.1, .slice t103.2.2.1.a t103.2.2.1.len t103.2.2.1.cap]] w fun t104 w =>
                          RunN Try.prog .sl (V (Instr.buildSlice 22 1 #[(0, .agg #[.int .i64 t104.1, .int .i64 t104.2.1, .slice t104.2.2.1.a t104.2.2.1.len t104.2.2.1.cap])])) w fun t105 w =>
                          RunN Try.prog .sl (V (Builtin.append_ #[22, 22] 22 #[.slice s5.1.a s5.1.len s5.1.cap, .slice t105.a t105.len t105.cap])) w fun t106 w =>
                          k7 (t106, ()) w))
                        (k7 (s5.1, ()) w))
                      (SplitB (t68 == 5)
                        (RunN Try.prog (.int .i64) (V (Instr.loadAt 3 (.pointer (some (t9.add 2))))) w fun t111 w =>
                        RunN Try.prog (.int .i64) (V (Instr.loadAt 3 (.pointer (some (t9.add 3))))) w fun t113 w =>
                        CallK Try.prog (.int .i64) 15 #[.pointer t29.1, .int .i64 t111, .int .i64 t113] w fun t114 w =>
                        k7 (s5.1, ()) w)
                        (JoinX (α := Bool × Unit) (fun j10 w =>
                          SplitB j10.1
                            (RunN Try.prog (.int .i64) (V (Instr.loadAt 3 (.pointer (some (t9.add 2))))) w fun t121 w =>
                            CallK Try.prog (.tup (.cons (.agg (.cons (.int .i64) (.cons (.int .i64) (.cons .sl .nilT)))) (.cons (.int .i64) .nilT))) 16 #[.pointer t29.1, .int .i64 t121] w fun t122 w =>
                            RunN Try.prog .addr (V (Instr.alloc 31 true (.tuple #[]))) w fun t12 w =>
                            RunU Try.prog (U (Instr.storeAt 31 (.pointer (some t12)) (.agg #[.int .i64 t122.1.1, .int .i64 t122.1.2.1, .slice t122.1.2.2.1.a t122.1.2.2.1.len t122.1.2.2.1.cap]))) w fun w =>
                            JoinX (α := Int × Unit) (fun j12 w =>
                              RunN Try.prog (.agg (.cons (.int .i64) (.cons (.int .i64) (.cons .sl .nilT)))) (V (Instr.loadAt 31 (.pointer (some t12)))) w fun t151 w =>
                              CallK Try.prog (.int .i64) 26 #[.slice s5.1.a s5.1.len s5.1.cap, .agg #[.int .i64 t151.1, .int .i64 t151.2.1, .slice t151.2.2.1.a t151.2.2.1.len t151.2.2.1.cap]] w fun t152 w =>
                              JoinX (α := Bool × Unit) (fun j14 w =>
                                SplitB j14.1
                                  (K false w)
                                  (CallK Try.prog (.int .i64) 9 #[.int .i64 t122.2.1] w fun t168 w =>
                                  SplitB (t168 == 0)
                                    (ReadN Try.prog .sl (V (Instr.sliceAt 22 (.slice s5.1.a s5.1.len s5.1.cap) none (some (.int .i64 t152)) none)) w.drew fun t172 =>
                                    ReadN Try.prog .sl (V (Instr.sliceAt 22 (.slice s5.1.a s5.1.len s5.1.cap) (some (.int .i64 (IntKind.i64.wrap (t152 + 1)))) none none)) w.drew fun t176 =>
                                    RunN Try.prog .sl (V (Builtin.append_ #[22, 22] 22 #[.slice t172.a t172.len t172.cap, .slice t176.a t176.len t176.cap])) w.drew fun t177 w =>
                                    k7 (t177, ()) w)
                                    (k7 (s5.1, ()) w)))
                              fun k13 =>
                                CallK Try.prog (.int .i64) 9 #[.int .i64 t122.2.1] w fun t154 w =>
                                CallK Try.prog (.int .i64) 9 #[.int .i64 j12.1] w fun t156 w =>
                                SplitB (t154 != t156)
                                  (k13 (true, ()) w)
                                  (CallK Try.prog (.int .i64) 9 #[.int .i64 t122.2.1] w fun t160 w =>
                                  SplitB (t160 == 0)
                                    (k13 (decide (t152 < 0), ()) w)
                                    (k13 (false, ()) w)))
                            fun k11 =>
                              RunN Try.prog (.int .i64) (V (Instr.loadAt 3 (.pointer (some (t9.add 0))))) w fun t127 w =>
                              SplitB (t127 == 3)
                                (RunN Try.prog (.int .i64) (V (Instr.loadAt 3 (.pointer (some (t9.add 2))))) w fun t131 w =>
                                CallK Try.prog (.int .i64) 25 #[.pointer t29.1, .int .i64 t131] w fun t132 w =>
                                k11 (t132, ()) w)
                                (RunN Try.prog (.int .i64) (V (Instr.loadAt 3 (.pointer (some (t9.add 2))))) w fun t136 w =>
                                CallK Try.prog (.tup (.cons (.agg (.cons (.int .i64) (.cons (.int .i64) (.cons .sl .nilT)))) (.cons (.int .i64) .nilT))) 13 #[.pointer t29.1, .int .i64 t136] w fun t137 w =>
                                RunN Try.prog .addr (V (Instr.alloc 31 true (.tuple #[]))) w fun t15 w =>
                                RunU Try.prog (U (Instr.storeAt 31 (.pointer (some t15)) (.agg #[.int .i64 t137.1.1, .int .i64 t137.1.2.1, .slice t137.1.2.2.1.a t137.1.2.2.1.len t137.1.2.2.1.cap]))) w fun w =>
                                JoinX (α := Bool × Unit) (fun j16 w =>
                                  SplitB j16.1
                                    (K false w)
                                    (k11 (t137.2.1, ()) w))
                                fun k15 =>
                                  CallK Try.prog (.int .i64) 9 #[.int .i64 t137.2.1] w fun t142 w =>
                                  SplitB (t142 == 0)
                                    (RunN Try.prog (.agg (.cons (.int .i64) (.cons (.int .i64) (.cons .sl .nilT)))) (V (Instr.loadAt 31 (.pointer (some t15)))) w fun t145 w =>
                                    RunN Try.prog (.agg (.cons (.int .i64) (.cons (.int .i64) (.cons .sl .nilT)))) (V (Instr.loadAt 31 (.pointer (some t12)))) w fun t146 w =>
                                    CallK Try.prog .bool 14 #[.agg #[.int .i64 t145.1, .int .i64 t145.2.1, .slice t145.2.2.1.a t145.2.2.1.len t145.2.2.1.cap], .agg #[.int .i64 t146.1, .int .i64 t146.2.1, .slice t146.2.2.1.a t146.2.2.1.len t146.2.2.1.cap]] w fun t147 w =>
                                    k15 (!t147, ()) w)
                                    (k15 (false, ()) w)))
                            (k7 (s5.1, ()) w))
                        fun k9 =>
                          SplitB (t68 == 3)
                            (k9 (t68 == 3, ()) w)
                            (k9 (t68 == 2, ()) w)))))
                (LoopX (α := Sl × Int × Unit) (fun s17 w k18 =>
                  CallK Try.prog (.int .i64) 12 #[.pointer t29.1] w fun t185 w =>
                  SplitB (decide (s17.2.1 < t185))
                    (CallK Try.prog (.tup (.cons (.agg (.cons (.int .i64) (.cons (.int .i64) (.cons .sl .nilT)))) (.cons (.int .i64) .nilT))) 16 #[.pointer t29.1, .int .i64 s17.2.1] w fun t192 w =>
                    RunN Try.prog .addr (V (Instr.alloc 31 true (.tuple #[]))) w fun t19 w =>
                    RunU Try.prog (U (Instr.storeAt 31 (.pointer (some t19)) (.agg #[.int .i64 t192.1.1, .int .i64 t192.1.2.1, .slice t192.1.2.2.1.a t192.1.2.2.1.len t192.1.2.2.1.cap]))) w fun w =>
                    RunN Try.prog (.agg (.cons (.int .i64) (.cons (.int .i64) (.cons .sl .nilT)))) (V (Instr.loadAt 31 (.pointer (some t19)))) w fun t196 w =>
                    CallK Try.prog (.int .i64) 26 #[.slice s17.1.a s17.1.len s17.1.cap, .agg #[.int .i64 t196.1, .int .i64 t196.2.1, .slice t196.2.2.1.a t196.2.2.1.len t196.2.2.1.cap]] w fun t197 w =>
                    JoinX (α := Bool × Unit) (fun j20 w =>
                      SplitB j20.1
                        (K false w)
                        (ReadN Try.prog .sl (V (Instr.sliceAt 22 (.slice s17.1.a s17.1.len s17.1.cap) none (some (.int .i64 t197)) none)) w.drew fun t207 =>
                        ReadN Try.prog .sl (V (Instr.sliceAt 22 (.slice s17.1.a s17.1.len s17.1.cap) (some (.int .i64 (IntKind.i64.wrap (t197 + 1)))) none none)) w.drew fun t211 =>
                        RunN Try.prog .sl (V (Builtin.append_ #[22, 22] 22 #[.slice t207.a t207.len t207.cap, .slice t211.a t211.len t211.cap])) w.drew fun t212 w =>
                        CallK Try.prog (.int .i64) 25 #[.pointer t29.1, .int .i64 0] w fun t216 w =>
                        k18 (t212, IntKind.i64.wrap ((IntKind.i64.wrap (s17.2.1 - 1)) + 1), ()) w))
                    fun k19 =>
                      CallK Try.prog (.int .i64) 9 #[.int .i64 t192.2.1] w fun t199 w =>
                      SplitB (t199 != 0)
                        (k19 (true, ()) w)
                        (k19 (decide (t197 < 0), ()) w))
                    (K ((s17.1.len : Int) == 0) w))
                (s5.1, 0, ()) w))
            (t56, 0, ()) w))
        fun k3 =>
          RunN Try.prog .sl (V (Instr.buildSlice 29 5 #[(0, .int .u8 102), (1, .int .u8 105), (2, .int .u8 114), (3, .int .u8 115), (4, .int .u8 116)])) w fun t40 w =>
          RunN Try.prog .sl (V (convert 29 29 (.slice t40.a t40.len t40.cap))) w fun t41 w =>
          CallK Try.prog (.int .i64) 10 #[.pointer t29.1, .agg #[.int .i64 (-1), .int .i64 (-1), .slice t41.a t41.len t41.cap]] w fun t43 w =>
          CallK Try.prog (.int .i64) 9 #[.int .i64 t43] w fun t44 w =>
          SplitB (t44 != 0)
            (k3 (true, ()) w)
            (CallK Try.prog (.int .i64) 12 #[.pointer t29.1] w fun t48 w =>
            k3 (t48 != 1, ()) w)))
    fun k1 =>
      CallK Try.prog (.int .i64) 9 #[.int .i64 t29.2.1] w fun t33 w =>
      SplitB (t33 != 0)
        (k1 (true, ()) w)
        (RunN Try.prog .bool (V (do eqGuard .eql 23 (.tmp 36) (.const (.pointer none)) (.pointer t29.1) (.pointer none); binOp .eql 23 (.pointer t29.1) (.pointer none))) w fun t37 w =>
        k1 (t37, ()) w))
theorem T7.calls {p0 : Int} {p1 : Sl} {w : World} {K : Bool → World → Prop} (h : T7 p0 p1 w K) : CallK Try.prog .bool 7 #[.int .i64 p0, .slice p1.a p1.len p1.cap] w K :=
  bodyZ_sound (κ := kappa) (ann := [(6, [(38, .bool)]), (9, [(50, .bool)]), (15, [(7, .sl), (8, (.int .i64))]), (20, [(7, .sl)]), (31, [(115, .bool)]), (35, [(14, (.int .i64))]), (43, [(166, .bool)]), (39, [(149, .bool)]), (50, [(7, .sl), (18, (.int .i64))]), (57, [(204, .bool)])]) (fn := Try.f7) Try.func7 rfl (by kernel_rfl) (cast (show T7 p0 p1 w K = bodyZ Try.prog kappa [(6, [(38, .bool)]), (9, [(50, .bool)]), (15, [(7, .sl), (8, (.int .i64))]), (20, [(7, .sl)]), (31, [(115, .bool)]), (35, [(14, (.int .i64))]), (43, [(166, .bool)]), (39, [(149, .bool)]), (50, [(7, .sl), (18, (.int .i64))]), (57, [(204, .bool)])] .bool Try.f7 [.int .i64 p0, .slice p1.a p1.len p1.cap] w K by kernel_rfl) h)

/-- sluice/net.New -/
def T8 (p0 : Int) (w : World) (K : (Option Addr × Int × Unit) → World → Prop) : Prop :=
  JoinX (α := Bool × Unit) (fun j2 w =>
    SplitB j2.1
      (K (none, 1, ()) w)
      (RunN Try.prog .addr (V (Instr.box 54 (.agg #[.int .i64 p0, .slice none 0 0]))) w fun t12 w =>
      K (some t12, 0, ()) w))
  fun k1 =>
    SplitB (decide (p0 < 1))
      (k1 (true, ()) w)
      (k1 (decide (p0 > 1024), ()) w)
theorem T8.calls {p0 : Int} {w : World} {K : (Option Addr × Int × Unit) → World → Prop} (h : T8 p0 w K) : CallK Try.prog (.tup (.cons .ptr (.cons (.int .i64) .nilT))) 8 #[.int .i64 p0] w K :=
  bodyZ_sound (κ := kappa) (ann := [(2, [(9, .bool)])]) (fn := Try.f8) Try.func8 rfl (by kernel_rfl) (cast (show T8 p0 w K = bodyZ Try.prog kappa [(2, [(9, .bool)])] (.tup (.cons .ptr (.cons (.int .i64) .nilT))) Try.f8 [.int .i64 p0] w K by kernel_rfl) h)

/-- sluice/sluicelaw4.num -/
def T9 (p0 : Int) (w : World) (K : Int → World → Prop) : Prop :=
  K p0 w
theorem T9.calls {p0 : Int} {w : World} {K : Int → World → Prop} (h : T9 p0 w K) : CallK Try.prog (.int .i64) 9 #[.int .i64 p0] w K :=
  bodyZ_sound (κ := kappa) (ann := []) (fn := Try.f9) Try.func9 rfl (by kernel_rfl) (cast (show T9 p0 w K = bodyZ Try.prog kappa [] (.int .i64) Try.f9 [.int .i64 p0] w K by kernel_rfl) h)

/-- (*sluice/net.Bag).Send -/
def T10 (p0 : Option Addr) (p1 : (Int × Int × Sl × Unit)) (w : World) (K : Int → World → Prop) : Prop :=
  RunN Try.prog .addr (V (Instr.box 31 (.agg #[.int .i64 p1.1, .int .i64 p1.2.1, .slice p1.2.2.1.a p1.2.2.1.len p1.2.2.1.cap]))) w fun t3 w =>
  CallK Try.prog .bool 27 #[.pointer p0] w fun t6 w =>
  SplitB t6
    (K 41 w)
    (NilP p0 fun t9 =>
    ReadN Try.prog .sl (V (Instr.loadAt 22 (.pointer (some (t9.add 1))))) w.drew fun t11 =>
    ReadN Try.prog (.agg (.cons (.int .i64) (.cons (.int .i64) (.cons .sl .nilT)))) (V (Instr.loadAt 31 (.pointer (some t3)))) w.drew fun t12 =>
    CallK Try.prog (.agg (.cons (.int .i64) (.cons (.int .i64) (.cons .sl .nilT)))) 28 #[.agg #[.int .i64 t12.1, .int .i64 t12.2.1, .slice t12.2.2.1.a t12.2.2.1.len t12.2.2.1.cap]] w.drew fun t13 w =>
    StillV Try.prog (V (Instr.loadAt 22 (.pointer (some (t9.add 1))))) (.slice t11.a t11.len t11.cap) w ∧
    RunN Try.prog .sl (V (Instr.buildSlice 22 1 #[(0, .agg #[.int .i64 t13.1, .int .i64 t13.2.1, .slice t13.2.2.1.a t13.2.2.1.len t13.2.2.1.cap])])) w fun t14 w =>
    StillV Try.prog (V (Instr.loadAt 22 (.pointer (some (t9.add 1))))) (.slice t11.a t11.len t11.cap) w ∧
    RunN Try.prog .sl (V (Builtin.append_ #[22, 22] 22 #[.slice t11.a t11.len t11.cap, .slice t14.a t14.len t14.cap])) w fun t15 w =>
    NilP p0 fun t16 =>
    RunU Try.prog (U (Instr.storeAt 22 (.pointer (some (t16.add 1))) (.slice t15.a t15.len t15.cap))) w fun w =>
    K 0 w)
theorem T10.calls {p0 : Option Addr} {p1 : (Int × Int × Sl × Unit)} {w : World} {K : Int → World → Prop} (h : T10 p0 p1 w K) : CallK Try.prog (.int .i64) 10 #[.pointer p0, .agg #[.int .i64 p1.1, .int .i64 p1.2.1, .slice p1.2.2.1.a p1.2.2.1.len p1.2.2.1.cap]] w K :=
  bodyZ_sound (κ := kappa) (ann := []) (fn := Try.f10) Try.func10 rfl (by kernel_rfl) (cast (show T10 p0 p1 w K = bodyZ Try.prog kappa [] (.int .i64) Try.f10 [.pointer p0, .agg #[.int .i64 p1.1, .int .i64 p1.2.1, .slice p1.2.2.1.a p1.2.2.1.len p1.2.2.1.cap]] w K by kernel_rfl) h)

/-- sluice/sluicelaw4.own -/
def T11 (p0 : (Int × Int × Sl × Unit)) (w : World) (K : (Int × Int × Sl × Unit) → World → Prop) : Prop :=
  RunN Try.prog .addr (V (Instr.box 31 (.agg #[.int .i64 p0.1, .int .i64 p0.2.1, .slice p0.2.2.1.a p0.2.2.1.len p0.2.2.1.cap]))) w fun t1 w =>
  RunN Try.prog .addr (V (Instr.alloc 31 true (.tuple #[]))) w fun t2 w =>
  RunN Try.prog .sl (V (Instr.loadAt 29 (.pointer (some (t1.add 2))))) w fun t4 w =>
  RunN Try.prog .sl (V (Builtin.append_ #[29, 29] 29 #[.slice none 0 0, .slice t4.a t4.len t4.cap])) w fun t5 w =>
  RunU Try.prog (U (Instr.storeAt 29 (.pointer (some (t1.add 2))) (.slice t5.a t5.len t5.cap))) w fun w =>
  RunN Try.prog (.agg (.cons (.int .i64) (.cons (.int .i64) (.cons .sl .nilT)))) (V (Instr.loadAt 31 (.pointer (some t1)))) w fun t7 w =>
  RunU Try.prog (U (Instr.storeAt 31 (.pointer (some t2)) (.agg #[.int .i64 t7.1, .int .i64 t7.2.1, .slice t7.2.2.1.a t7.2.2.1.len t7.2.2.1.cap]))) w fun w =>
  ReadN Try.prog (.agg (.cons (.int .i64) (.cons (.int .i64) (.cons .sl .nilT)))) (V (Instr.loadAt 31 (.pointer (some t2)))) w fun r0 =>
  K (r0.1, r0.2.1, r0.2.2.1, ()) w
theorem T11.calls {p0 : (Int × Int × Sl × Unit)} {w : World} {K : (Int × Int × Sl × Unit) → World → Prop} (h : T11 p0 w K) : CallK Try.prog (.agg (.cons (.int .i64) (.cons (.int .i64) (.cons .sl .nilT)))) 11 #[.agg #[.int .i64 p0.1, .int .i64 p0.2.1, .slice p0.2.2.1.a p0.2.2.1.len p0.2.2.1.cap]] w K :=
  bodyZ_sound (κ := kappa) (ann := []) (fn := Try.f11) Try.func11 rfl (by kernel_rfl) (cast (show T11 p0 w K = bodyZ Try.prog kappa [] (.agg (.cons (.int .i64) (.cons (.int .i64) (.cons .sl .nilT)))) Try.f11 [.agg #[.int .i64 p0.1, .int .i64 p0.2.1, .slice p0.2.2.1.a p0.2.2.1.len p0.2.2.1.cap]] w K by kernel_rfl) h)

/-- (*sluice/net.Bag).Len -/
def T12 (p0 : Option Addr) (w : World) (K : Int → World → Prop) : Prop :=
  NilP p0 fun t4 =>
  RunN Try.prog .sl (V (Instr.loadAt 22 (.pointer (some (t4.add 1))))) w fun t6 w =>
  K (t6.len : Int) w
theorem T12.calls {p0 : Option Addr} {w : World} {K : Int → World → Prop} (h : T12 p0 w K) : CallK Try.prog (.int .i64) 12 #[.pointer p0] w K :=
  bodyZ_sound (κ := kappa) (ann := []) (fn := Try.f12) Try.func12 rfl (by kernel_rfl) (cast (show T12 p0 w K = bodyZ Try.prog kappa [] (.int .i64) Try.f12 [.pointer p0] w K by kernel_rfl) h)

/-- (*sluice/net.Bag).Deliver -/
def T13 (p0 : Option Addr) (p1 : Int) (w : World) (K : ((Int × Int × Sl × Unit) × Int × Unit) → World → Prop) : Prop :=
  RunN Try.prog .addr (V (Instr.alloc 31 true (.tuple #[]))) w fun t4 w =>
  CallK Try.prog .bool 29 #[.pointer p0, .int .i64 p1] w fun t8 w =>
  SplitB (!t8)
    (RunU Try.prog (U (Instr.storeAt 31 (.pointer (some t4)) (.agg #[.int .i64 0, .int .i64 0, .slice none 0 0]))) w fun w =>
    ReadN Try.prog (.agg (.cons (.int .i64) (.cons (.int .i64) (.cons .sl .nilT)))) (V (Instr.loadAt 31 (.pointer (some t4)))) w fun r0 =>
    K ((r0.1, r0.2.1, r0.2.2.1, ()), 40, ()) w)
    (CallK Try.prog (.agg (.cons (.int .i64) (.cons (.int .i64) (.cons .sl .nilT)))) 30 #[.pointer p0, .int .i64 p1] w fun t13 w =>
    RunU Try.prog (U (Instr.storeAt 31 (.pointer (some t4)) (.agg #[.int .i64 t13.1, .int .i64 t13.2.1, .slice t13.2.2.1.a t13.2.2.1.len t13.2.2.1.cap]))) w fun w =>
    ReadN Try.prog (.agg (.cons (.int .i64) (.cons (.int .i64) (.cons .sl .nilT)))) (V (Instr.loadAt 31 (.pointer (some t4)))) w fun r0 =>
    K ((r0.1, r0.2.1, r0.2.2.1, ()), 0, ()) w)
theorem T13.calls {p0 : Option Addr} {p1 : Int} {w : World} {K : ((Int × Int × Sl × Unit) × Int × Unit) → World → Prop} (h : T13 p0 p1 w K) : CallK Try.prog (.tup (.cons (.agg (.cons (.int .i64) (.cons (.int .i64) (.cons .sl .nilT)))) (.cons (.int .i64) .nilT))) 13 #[.pointer p0, .int .i64 p1] w K :=
  bodyZ_sound (κ := kappa) (ann := []) (fn := Try.f13) Try.func13 rfl (by kernel_rfl) (cast (show T13 p0 p1 w K = bodyZ Try.prog kappa [] (.tup (.cons (.agg (.cons (.int .i64) (.cons (.int .i64) (.cons .sl .nilT)))) (.cons (.int .i64) .nilT))) Try.f13 [.pointer p0, .int .i64 p1] w K by kernel_rfl) h)

/-- sluice/sluicelaw4.alike -/
def T14 (p0 : (Int × Int × Sl × Unit)) (p1 : (Int × Int × Sl × Unit)) (w : World) (K : Bool → World → Prop) : Prop :=
  RunN Try.prog .addr (V (Instr.box 31 (.agg #[.int .i64 p0.1, .int .i64 p0.2.1, .slice p0.2.2.1.a p0.2.2.1.len p0.2.2.1.cap]))) w fun t2 w =>
  RunN Try.prog .addr (V (Instr.box 31 (.agg #[.int .i64 p1.1, .int .i64 p1.2.1, .slice p1.2.2.1.a p1.2.2.1.len p1.2.2.1.cap]))) w fun t3 w =>
  RunN Try.prog (.int .i64) (V (Instr.loadAt 3 (.pointer (some (t2.add 0))))) w fun t6 w =>
  RunN Try.prog (.int .i64) (V (Instr.loadAt 3 (.pointer (some (t3.add 0))))) w fun t8 w =>
  SplitB (t6 == t8)
    (RunN Try.prog (.int .i64) (V (Instr.loadAt 3 (.pointer (some (t2.add 1))))) w fun t12 w =>
    RunN Try.prog (.int .i64) (V (Instr.loadAt 3 (.pointer (some (t3.add 1))))) w fun t14 w =>
    SplitB (t12 == t14)
      (RunN Try.prog .sl (V (Instr.loadAt 29 (.pointer (some (t2.add 2))))) w fun t19 w =>
      RunN Try.prog .str (V (convert 29 9 (.slice t19.a t19.len t19.cap))) w fun t20 w =>
      RunN Try.prog .sl (V (Instr.loadAt 29 (.pointer (some (t3.add 2))))) w fun t22 w =>
      RunN Try.prog .str (V (convert 29 9 (.slice t22.a t22.len t22.cap))) w fun t23 w =>
      K (t20.toList == t23.toList) w)
      (K false w))
    (K false w)
theorem T14.calls {p0 : (Int × Int × Sl × Unit)} {p1 : (Int × Int × Sl × Unit)} {w : World} {K : Bool → World → Prop} (h : T14 p0 p1 w K) : CallK Try.prog .bool 14 #[.agg #[.int .i64 p0.1, .int .i64 p0.2.1, .slice p0.2.2.1.a p0.2.2.1.len p0.2.2.1.cap], .agg #[.int .i64 p1.1, .int .i64 p1.2.1, .slice p1.2.2.1.a p1.2.2.1.len p1.2.2.1.cap]] w K :=
  bodyZ_sound (κ := kappa) (ann := []) (fn := Try.f14) Try.func14 rfl (by kernel_rfl) (cast (show T14 p0 p1 w K = bodyZ Try.prog kappa [] .bool Try.f14 [.agg #[.int .i64 p0.1, .int .i64 p0.2.1, .slice p0.2.2.1.a p0.2.2.1.len p0.2.2.1.cap], .agg #[.int .i64 p1.1, .int .i64 p1.2.1, .slice p1.2.2.1.a p1.2.2.1.len p1.2.2.1.cap]] w K by kernel_rfl) h)

/-- (*sluice/net.Bag).Move -/
def T15 (p0 : Option Addr) (p1 : Int) (p2 : Int) (w : World) (K : Int → World → Prop) : Prop :=
  JoinX (α := Bool × Unit) (fun j2 w =>
    SplitB j2.1
      (K 40 w)
      (NilP p0 fun t19 =>
      RunN Try.prog .sl (V (Instr.loadAt 22 (.pointer (some (t19.add 1))))) w fun t21 w =>
      RunN Try.prog .addr (V (Instr.indexAt 22 (.slice t21.a t21.len t21.cap) (.int .i64 p1))) w fun t23 w =>
      RunN Try.prog (.agg (.cons (.int .i64) (.cons (.int .i64) (.cons .sl .nilT)))) (V (Instr.loadAt 31 (.pointer (some t23)))) w fun t24 w =>
      RunN Try.prog .addr (V (Instr.alloc 31 true (.tuple #[]))) w fun t7 w =>
      RunU Try.prog (U (Instr.storeAt 31 (.pointer (some t7)) (.agg #[.int .i64 t24.1, .int .i64 t24.2.1, .slice t24.2.2.1.a t24.2.2.1.len t24.2.2.1.cap]))) w fun w =>
      JoinX (α := Unit) (fun j4 w =>
        NilP p0 fun t60 =>
        ReadN Try.prog .sl (V (Instr.loadAt 22 (.pointer (some (t60.add 1))))) w.drew fun t62 =>
        ReadN Try.prog (.agg (.cons (.int .i64) (.cons (.int .i64) (.cons .sl .nilT)))) (V (Instr.loadAt 31 (.pointer (some t7)))) w.drew fun t64 =>
        ReadN Try.prog .addr (V (Instr.indexAt 22 (.slice t62.a t62.len t62.cap) (.int .i64 p2))) w.drew fun t65 =>
        RunU Try.prog (U (Instr.storeAt 31 (.pointer (some t65)) (.agg #[.int .i64 t64.1, .int .i64 t64.2.1, .slice t64.2.2.1.a t64.2.2.1.len t64.2.2.1.cap]))) w.drew fun w =>
        K 0 w)
      fun k3 =>
        SplitB (decide (p1 < p2))
          (NilP p0 fun t29 =>
          ReadN Try.prog .sl (V (Instr.loadAt 22 (.pointer (some (t29.add 1))))) w.drew fun t31 =>
          ReadN Try.prog .sl (V (Instr.sliceAt 22 (.slice t31.a t31.len t31.cap) (some (.int .i64 p1)) (some (.int .i64 p2)) none)) w.drew fun t34 =>
          NilP p0 fun t36 =>
          ReadN Try.prog .sl (V (Instr.loadAt 22 (.pointer (some (t36.add 1))))) w.drew fun t38 =>
          ReadN Try.prog .sl (V (Instr.sliceAt 22 (.slice t38.a t38.len t38.cap) (some (.int .i64 (IntKind.i64.wrap (p1 + 1)))) none none)) w.drew fun t41 =>
          RunN Try.prog (.int .i64) (V (Builtin.copy_ #[22, 22] 3 #[.slice t34.a t34.len t34.cap, .slice t41.a t41.len t41.cap])) w.drew fun t42 w =>
          k3 () w)
          (NilP p0 fun t44 =>
          ReadN Try.prog .sl (V (Instr.loadAt 22 (.pointer (some (t44.add 1))))) w.drew fun t46 =>
          ReadN Try.prog .sl (V (Instr.sliceAt 22 (.slice t46.a t46.len t46.cap) (some (.int .i64 (IntKind.i64.wrap (p2 + 1)))) (some (.int .i64 (IntKind.i64.wrap (p1 + 1)))) none)) w.drew fun t51 =>
          NilP p0 fun t53 =>
          ReadN Try.prog .sl (V (Instr.loadAt 22 (.pointer (some (t53.add 1))))) w.drew fun t55 =>
          ReadN Try.prog .sl (V (Instr.sliceAt 22 (.slice t55.a t55.len t55.cap) (some (.int .i64 p2)) none none)) w.drew fun t57 =>
          RunN Try.prog (.int .i64) (V (Builtin.copy_ #[22, 22] 3 #[.slice t51.a t51.len t51.cap, .slice t57.a t57.len t57.cap])) w.drew fun t58 w =>
          k3 () w)))
  fun k1 =>
    CallK Try.prog .bool 29 #[.pointer p0, .int .i64 p1] w fun t10 w =>
    SplitB (!t10)
      (k1 (true, ()) w)
      (CallK Try.prog .bool 29 #[.pointer p0, .int .i64 p2] w fun t15 w =>
      k1 (!t15, ()) w)
theorem T15.calls {p0 : Option Addr} {p1 : Int} {p2 : Int} {w : World} {K : Int → World → Prop} (h : T15 p0 p1 p2 w K) : CallK Try.prog (.int .i64) 15 #[.pointer p0, .int .i64 p1, .int .i64 p2] w K :=
  bodyZ_sound (κ := kappa) (ann := [(2, [(17, .bool)]), (5, [])]) (fn := Try.f15) Try.func15 rfl (by kernel_rfl) (cast (show T15 p0 p1 p2 w K = bodyZ Try.prog kappa [(2, [(17, .bool)]), (5, [])] (.int .i64) Try.f15 [.pointer p0, .int .i64 p1, .int .i64 p2] w K by kernel_rfl) h)

/-- (*sluice/net.Bag).At -/
def T16 (p0 : Option Addr) (p1 : Int) (w : World) (K : ((Int × Int × Sl × Unit) × Int × Unit) → World → Prop) : Prop :=
  RunN Try.prog .addr (V (Instr.alloc 31 true (.tuple #[]))) w fun t4 w =>
  CallK Try.prog .bool 29 #[.pointer p0, .int .i64 p1] w fun t8 w =>
  SplitB (!t8)
    (RunU Try.prog (U (Instr.storeAt 31 (.pointer (some t4)) (.agg #[.int .i64 0, .int .i64 0, .slice none 0 0]))) w fun w =>
    ReadN Try.prog (.agg (.cons (.int .i64) (.cons (.int .i64) (.cons .sl .nilT)))) (V (Instr.loadAt 31 (.pointer (some t4)))) w fun r0 =>
    K ((r0.1, r0.2.1, r0.2.2.1, ()), 40, ()) w)
    (NilP p0 fun t12 =>
    RunN Try.prog .sl (V (Instr.loadAt 22 (.pointer (some (t12.add 1))))) w fun t14 w =>
    RunN Try.prog .addr (V (Instr.indexAt 22 (.slice t14.a t14.len t14.cap) (.int .i64 p1))) w fun t16 w =>
    RunN Try.prog (.agg (.cons (.int .i64) (.cons (.int .i64) (.cons .sl .nilT)))) (V (Instr.loadAt 31 (.pointer (some t16)))) w fun t17 w =>
    CallK Try.prog (.agg (.cons (.int .i64) (.cons (.int .i64) (.cons .sl .nilT)))) 28 #[.agg #[.int .i64 t17.1, .int .i64 t17.2.1, .slice t17.2.2.1.a t17.2.2.1.len t17.2.2.1.cap]] w fun t18 w =>
    RunU Try.prog (U (Instr.storeAt 31 (.pointer (some t4)) (.agg #[.int .i64 t18.1, .int .i64 t18.2.1, .slice t18.2.2.1.a t18.2.2.1.len t18.2.2.1.cap]))) w fun w =>
    ReadN Try.prog (.agg (.cons (.int .i64) (.cons (.int .i64) (.cons .sl .nilT)))) (V (Instr.loadAt 31 (.pointer (some t4)))) w fun r0 =>
    K ((r0.1, r0.2.1, r0.2.2.1, ()), 0, ()) w)
theorem T16.calls {p0 : Option Addr} {p1 : Int} {w : World} {K : ((Int × Int × Sl × Unit) × Int × Unit) → World → Prop} (h : T16 p0 p1 w K) : CallK Try.prog (.tup (.cons (.agg (.cons (.int .i64) (.cons (.int .i64) (.cons .sl .nilT)))) (.cons (.int .i64) .nilT))) 16 #[.pointer p0, .int .i64 p1] w K :=
  bodyZ_sound (κ := kappa) (ann := []) (fn := Try.f16) Try.func16 rfl (by kernel_rfl) (cast (show T16 p0 p1 w K = bodyZ Try.prog kappa [] (.tup (.cons (.agg (.cons (.int .i64) (.cons (.int .i64) (.cons .sl .nilT)))) (.cons (.int .i64) .nilT))) Try.f16 [.pointer p0, .int .i64 p1] w K by kernel_rfl) h)

/-- sluice/sluicelaw4.holds -/
def T17 (p0 : Int) (p1 : Sl) (w : World) (K : Bool → World → Prop) : Prop :=
  CallK Try.prog .bool 18 #[.slice p1.a p1.len p1.cap] w fun t11 w =>
  SplitB (!t11)
    (K true w)
    (CallK Try.prog .bool 19 #[] w fun t13 w =>
    CallK Try.prog (.tup (.cons .ptr (.cons .bool .nilT))) 20 #[.int .i64 p0] w fun t16 w =>
    JoinX (α := Bool × Unit) (fun j2 w =>
      SplitB j2.1
        (K false w)
        (LoopX (α := Int × Unit) (fun s3 w k4 =>
          JoinX (α := Bool × Unit) (fun j6 w =>
            SplitB j6.1
              (RunN Try.prog .addr (V (Instr.indexAt 40 (.slice p1.a p1.len p1.cap) (.int .i64 s3.1))) w fun t38 w =>
              RunN Try.prog (.agg (.cons (.int .i64) (.cons (.int .i64) (.cons (.int .i64) (.cons (.int .i64) (.cons (.int .i64) (.cons (.int .i64) (.cons .sl .nilT)))))))) (V (Instr.loadAt 48 (.pointer (some t38)))) w fun t39 w =>
              CallK Try.prog .bool 21 #[.pointer t16.1, .agg #[.int .i64 t39.1, .int .i64 t39.2.1, .int .i64 t39.2.2.1, .int .i64 t39.2.2.2.1, .int .i64 t39.2.2.2.2.1, .int .i64 t39.2.2.2.2.2.1, .slice t39.2.2.2.2.2.2.1.a t39.2.2.2.2.2.2.1.len t39.2.2.2.2.2.2.1.cap]] w fun t40 w =>
              JoinX (α := Bool × Unit) (fun j8 w =>
                SplitB j8.1
                  (K false w)
                  (k4 (IntKind.i64.wrap (s3.1 + 1), ()) w))
              fun k7 =>
                SplitB (!t40)
                  (k7 (true, ()) w)
                  (CallK Try.prog .bool 22 #[.pointer t16.1] w fun t45 w =>
                  k7 (!t45, ()) w))
              (RunN Try.prog .bool (V (do eqGuard .eql 44 (.tmp 48) (.const (.pointer none)) (.pointer t16.1) (.pointer none); binOp .eql 44 (.pointer t16.1) (.pointer none))) w fun t49 w =>
              SplitB t49
                (K true w)
                (CallK Try.prog .bool 23 #[.pointer t16.1] w fun t52 w =>
                K t52 w)))
          fun k5 =>
            SplitB (decide (s3.1 < (p1.len : Int)))
              (RunN Try.prog .bool (V (do eqGuard .neq 44 (.tmp 30) (.const (.pointer none)) (.pointer t16.1) (.pointer none); binOp .neq 44 (.pointer t16.1) (.pointer none))) w fun t31 w =>
              k5 (t31, ()) w)
              (k5 (false, ()) w))
        (0, ()) w))
    fun k1 =>
      SplitB (!t13)
        (k1 (true, ()) w)
        (k1 (!t16.2.1, ()) w))
theorem T17.calls {p0 : Int} {p1 : Sl} {w : World} {K : Bool → World → Prop} (h : T17 p0 p1 w K) : CallK Try.prog .bool 17 #[.int .i64 p0, .slice p1.a p1.len p1.cap] w K :=
  bodyZ_sound (κ := kappa) (ann := [(7, [(24, .bool)]), (11, [(8, (.int .i64))]), (13, [(32, .bool)]), (16, [(47, .bool)])]) (fn := Try.f17) Try.func17 rfl (by kernel_rfl) (cast (show T17 p0 p1 w K = bodyZ Try.prog kappa [(7, [(24, .bool)]), (11, [(8, (.int .i64))]), (13, [(32, .bool)]), (16, [(47, .bool)])] .bool Try.f17 [.int .i64 p0, .slice p1.a p1.len p1.cap] w K by kernel_rfl) h)

/-- sluice/sluicelaw4.fits -/
def T18 (p0 : Sl) (w : World) (K : Bool → World → Prop) : Prop :=
  LoopX (α := Int × Int × Unit) (fun s1 w k2 =>
    SplitB (decide (s1.2.1 < (p0.len : Int)))
      (RunN Try.prog .addr (V (Instr.indexAt 40 (.slice p0.a p0.len p0.cap) (.int .i64 s1.2.1))) w fun t14 w =>
      RunN Try.prog .sl (V (Instr.loadAt 29 (.pointer (some ((t14.add 4).add 2))))) w fun t17 w =>
      k2 (IntKind.i64.wrap (s1.1 + (t17.len : Int)), IntKind.i64.wrap (s1.2.1 + 1), ()) w)
      (SplitB (decide ((p0.len : Int) ≤ 2000))
        (K (decide (s1.1 ≤ 1048576)) w)
        (K false w)))
  (0, 0, ()) w
theorem T18.calls {p0 : Sl} {w : World} {K : Bool → World → Prop} (h : T18 p0 w K) : CallK Try.prog .bool 18 #[.slice p0.a p0.len p0.cap] w K :=
  bodyZ_sound (κ := kappa) (ann := [(4, [(3, (.int .i64)), (4, (.int .i64))])]) (fn := Try.f18) Try.func18 rfl (by kernel_rfl) (cast (show T18 p0 w K = bodyZ Try.prog kappa [(4, [(3, (.int .i64)), (4, (.int .i64))])] .bool Try.f18 [.slice p0.a p0.len p0.cap] w K by kernel_rfl) h)

/-- sluice/sluicelaw4.alive -/
def T19  (w : World) (K : Bool → World → Prop) : Prop :=
  CallK Try.prog (.tup (.cons .ptr (.cons .bool .nilT))) 20 #[.int .i64 3] w fun t7 w =>
  JoinX (α := Bool × Unit) (fun j2 w =>
    SplitB j2.1
      (K false w)
      (RunN Try.prog .sl (V (Instr.buildSlice 29 1 #[(0, .int .u8 97)])) w fun t16 w =>
      RunN Try.prog .sl (V (convert 29 29 (.slice t16.a t16.len t16.cap))) w fun t17 w =>
      RunN Try.prog .sl (V (Instr.buildSlice 29 1 #[(0, .int .u8 98)])) w fun t20 w =>
      RunN Try.prog .sl (V (convert 29 29 (.slice t20.a t20.len t20.cap))) w fun t21 w =>
      RunN Try.prog .sl (V (Instr.buildSlice 40 7 #[(0, .agg #[.int .i64 1, .int .i64 0, .int .i64 0, .int .i64 0, .int .i64 1, .int .i64 2, .slice t17.a t17.len t17.cap]), (1, .agg #[.int .i64 1, .int .i64 0, .int .i64 0, .int .i64 0, .int .i64 0, .int .i64 4, .slice t21.a t21.len t21.cap]), (2, .agg #[.int .i64 4, .int .i64 0, .int .i64 0, .int .i64 0, .int .i64 0, .int .i64 0, .slice none 0 0]), (3, .agg #[.int .i64 5, .int .i64 0, .int .i64 2, .int .i64 1, .int .i64 0, .int .i64 0, .slice none 0 0]), (4, .agg #[.int .i64 6, .int .i64 0, .int .i64 0, .int .i64 0, .int .i64 0, .int .i64 0, .slice none 0 0]), (5, .agg #[.int .i64 2, .int .i64 0, .int .i64 1, .int .i64 0, .int .i64 0, .int .i64 0, .slice none 0 0]), (6, .agg #[.int .i64 7, .int .i64 0, .int .i64 1, .int .i64 0, .int .i64 0, .int .i64 0, .slice none 0 0])])) w fun t29 w =>
      LoopX (α := Int × Unit) (fun s3 w k4 =>
        SplitB (decide (s3.1 < (t29.len : Int)))
          (RunN Try.prog .addr (V (Instr.indexAt 40 (.slice t29.a t29.len t29.cap) (.int .i64 s3.1))) w fun t39 w =>
          RunN Try.prog (.agg (.cons (.int .i64) (.cons (.int .i64) (.cons (.int .i64) (.cons (.int .i64) (.cons (.int .i64) (.cons (.int .i64) (.cons .sl .nilT)))))))) (V (Instr.loadAt 48 (.pointer (some t39)))) w fun t40 w =>
          CallK Try.prog .bool 21 #[.pointer t7.1, .agg #[.int .i64 t40.1, .int .i64 t40.2.1, .int .i64 t40.2.2.1, .int .i64 t40.2.2.2.1, .int .i64 t40.2.2.2.2.1, .int .i64 t40.2.2.2.2.2.1, .slice t40.2.2.2.2.2.2.1.a t40.2.2.2.2.2.2.1.len t40.2.2.2.2.2.2.1.cap]] w fun t41 w =>
          JoinX (α := Bool × Unit) (fun j6 w =>
            SplitB j6.1
              (K false w)
              (k4 (IntKind.i64.wrap (s3.1 + 1), ()) w))
          fun k5 =>
            SplitB (!t41)
              (k5 (true, ()) w)
              (CallK Try.prog .bool 22 #[.pointer t7.1] w fun t46 w =>
              k5 (!t46, ()) w))
          (K true w))
      (0, ()) w))
  fun k1 =>
    SplitB (!t7.2.1)
      (k1 (true, ()) w)
      (RunN Try.prog .bool (V (do eqGuard .eql 44 (.tmp 13) (.const (.pointer none)) (.pointer t7.1) (.pointer none); binOp .eql 44 (.pointer t7.1) (.pointer none))) w fun t14 w =>
      k1 (t14, ()) w)
theorem T19.calls  {w : World} {K : Bool → World → Prop} (h : T19  w K) : CallK Try.prog .bool 19 #[] w K :=
  bodyZ_sound (κ := kappa) (ann := [(3, [(15, .bool)]), (8, [(4, (.int .i64))]), (13, [(48, .bool)])]) (fn := Try.f19) Try.func19 rfl (by kernel_rfl) (cast (show T19  w K = bodyZ Try.prog kappa [(3, [(15, .bool)]), (8, [(4, (.int .i64))]), (13, [(48, .bool)])] .bool Try.f19 [] w K by kernel_rfl) h)

/-- sluice/sluicelaw4.made -/
def T20 (p0 : Int) (w : World) (K : (Option Addr × Bool × Unit) → World → Prop) : Prop :=
  CallK Try.prog (.tup (.cons .ptr (.cons (.int .i64) .nilT))) 8 #[.int .i64 p0] w fun t10 w =>
  CallK Try.prog (.tup (.cons .ptr (.cons (.int .i64) .nilT))) 31 #[.int .i64 p0] w fun t15 w =>
  JoinX (α := Bool × Unit) (fun j2 w =>
    SplitB j2.1
      (K (none, false, ()) w)
      (JoinX (α := Bool × Unit) (fun j4 w =>
        SplitB j4.1
          (K (none, true, ()) w)
          (RunN Try.prog .addr (V (Instr.box 64 (.agg #[.pointer t10.1, .pointer t15.1, .slice none 0 0, .int .i64 0, .slice none 0 0, .slice none 0 0, .slice none 0 0, .slice none 0 0, .int .i64 0, .int .i64 0]))) w fun t38 w =>
          K (some t38, true, ()) w))
      fun k3 =>
        RunN Try.prog .bool (V (do eqGuard .eql 23 (.tmp 29) (.const (.pointer none)) (.pointer t10.1) (.pointer none); binOp .eql 23 (.pointer t10.1) (.pointer none))) w fun t30 w =>
        SplitB t30
          (k3 (true, ()) w)
          (RunN Try.prog .bool (V (do eqGuard .eql 57 (.tmp 32) (.const (.pointer none)) (.pointer t15.1) (.pointer none); binOp .eql 57 (.pointer t15.1) (.pointer none))) w fun t33 w =>
          k3 (t33, ()) w)))
  fun k1 =>
    CallK Try.prog (.int .i64) 9 #[.int .i64 t10.2.1] w fun t19 w =>
    SplitB (t19 != t15.2.1)
      (k1 (true, ()) w)
      (RunN Try.prog .bool (V (do eqGuard .eql 23 (.tmp 23) (.const (.pointer none)) (.pointer t10.1) (.pointer none); binOp .eql 23 (.pointer t10.1) (.pointer none))) w fun t24 w =>
      RunN Try.prog .bool (V (do eqGuard .eql 57 (.tmp 25) (.const (.pointer none)) (.pointer t15.1) (.pointer none); binOp .eql 57 (.pointer t15.1) (.pointer none))) w fun t26 w =>
      k1 (!(t24 == t26), ()) w)
theorem T20.calls {p0 : Int} {w : World} {K : (Option Addr × Bool × Unit) → World → Prop} (h : T20 p0 w K) : CallK Try.prog (.tup (.cons .ptr (.cons .bool .nilT))) 20 #[.int .i64 p0] w K :=
  bodyZ_sound (κ := kappa) (ann := [(4, [(28, .bool)]), (7, [(34, .bool)])]) (fn := Try.f20) Try.func20 rfl (by kernel_rfl) (cast (show T20 p0 w K = bodyZ Try.prog kappa [(4, [(28, .bool)]), (7, [(34, .bool)])] (.tup (.cons .ptr (.cons .bool .nilT))) Try.f20 [.int .i64 p0] w K by kernel_rfl) h)

/-- (*sluice/sluicelaw4.pair).plays -/
def T21 (p0 : Option Addr) (p1 : (Int × Int × Int × Int × Int × Int × Sl × Unit)) (w : World) (K : Bool → World → Prop) : Prop :=
  RunN Try.prog .addr (V (Instr.box 48 (.agg #[.int .i64 p1.1, .int .i64 p1.2.1, .int .i64 p1.2.2.1, .int .i64 p1.2.2.2.1, .int .i64 p1.2.2.2.2.1, .int .i64 p1.2.2.2.2.2.1, .slice p1.2.2.2.2.2.2.1.a p1.2.2.2.2.2.2.1.len p1.2.2.2.2.2.2.1.cap]))) w fun t3 w =>
  RunN Try.prog (.int .i64) (V (Instr.loadAt 3 (.pointer (some (t3.add 0))))) w fun t14 w =>
  SplitB (t14 == 1)
    (RunN Try.prog (.agg (.cons (.int .i64) (.cons (.int .i64) (.cons .sl .nilT)))) (V (Instr.loadAt 31 (.pointer (some (t3.add 4))))) w fun t19 w =>
    CallK Try.prog .bool 32 #[.pointer p0, .agg #[.int .i64 t19.1, .int .i64 t19.2.1, .slice t19.2.2.1.a t19.2.2.1.len t19.2.2.1.cap]] w fun t20 w =>
    K t20 w)
    (SplitB (t14 == 2)
      (((NilP p0 fun t25 =>
        ReadN Try.prog .ptr (V (Instr.loadAt 23 (.pointer (some (t25.add 0))))) w.drew fun t27 =>
        ReadN Try.prog (.int .i64) (V (Instr.loadAt 3 (.pointer (some (t3.add 2))))) w.drew fun t29 =>
        CallK Try.prog (.tup (.cons (.agg (.cons (.int .i64) (.cons (.int .i64) (.cons .sl .nilT)))) (.cons (.int .i64) .nilT))) 13 #[.pointer t27, .int .i64 t29] w.drew fun t30 w =>
        RunN Try.prog .addr (V (Instr.alloc 31 true (.tuple #[]))) w fun t5 w =>
        RunU Try.prog (U (Instr.storeAt 31 (.pointer (some t5)) (.agg #[.int .i64 t30.1.1, .int .i64 t30.1.2.1, .slice t30.1.2.2.1.a t30.1.2.2.1.len t30.1.2.2.1.cap]))) w fun w =>
        ((NilP p0 fun t35 =>
          ReadN Try.prog .ptr (V (Instr.loadAt 57 (.pointer (some (t35.add 1))))) w.drew fun t37 =>
          ReadN Try.prog (.int .i64) (V (Instr.loadAt 3 (.pointer (some (t3.add 2))))) w.drew fun t39 =>
          CallK Try.prog (.tup (.cons (.agg (.cons (.int .i64) (.cons (.int .i64) (.cons .sl .nilT)))) (.cons (.int .i64) .nilT))) 33 #[.pointer t37, .int .i64 t39] w.drew fun t40 w =>
          RunN Try.prog .addr (V (Instr.alloc 31 true (.tuple #[]))) w fun t7 w =>
          RunU Try.prog (U (Instr.storeAt 31 (.pointer (some t7)) (.agg #[.int .i64 t40.1.1, .int .i64 t40.1.2.1, .slice t40.1.2.2.1.a t40.1.2.2.1.len t40.1.2.2.1.cap]))) w fun w =>
          RunN Try.prog (.agg (.cons (.int .i64) (.cons (.int .i64) (.cons .sl .nilT)))) (V (Instr.loadAt 31 (.pointer (some t5)))) w fun t44 w =>
          RunN Try.prog (.agg (.cons (.int .i64) (.cons (.int .i64) (.cons .sl .nilT)))) (V (Instr.loadAt 31 (.pointer (some t7)))) w fun t46 w =>
          CallK Try.prog .bool 34 #[.pointer p0, .agg #[.int .i64 t44.1, .int .i64 t44.2.1, .slice t44.2.2.1.a t44.2.2.1.len t44.2.2.1.cap], .int .i64 t30.2.1, .agg #[.int .i64 t46.1, .int .i64 t46.2.1, .slice t46.2.2.1.a t46.2.2.1.len t46.2.2.1.cap], .int .i64 t40.2.1] w fun t48 w =>
          K t48 w) ∧
        (NilP p0 fun t35 =>
          ReadN Try.prog .ptr (V (Instr.loadAt 57 (.pointer (some (t35.add 1))))) w.drew fun t37 =>
          ReadN Try.prog (.int .i64) (V (Instr.loadAt 3 (.pointer (some (t3.add 2))))) w.drew fun t39 =>
          RunN Try.prog .addr (V (Instr.alloc 31 true (.tuple #[]))) w.drew fun t7 w =>
          StillV Try.prog (V (Instr.loadAt 3 (.pointer (some (t3.add 2))))) (.int .i64 t39) w ∧
          StillV Try.prog (V (Instr.loadAt 57 (.pointer (some (t35.add 1))))) (.pointer t37) w ∧
          CallK Try.prog (.tup (.cons (.agg (.cons (.int .i64) (.cons (.int .i64) (.cons .sl .nilT)))) (.cons (.int .i64) .nilT))) 33 #[.pointer t37, .int .i64 t39] w fun t40 w =>
          RunU Try.prog (U (Instr.storeAt 31 (.pointer (some t7)) (.agg #[.int .i64 t40.1.1, .int .i64 t40.1.2.1, .slice t40.1.2.2.1.a t40.1.2.2.1.len t40.1.2.2.1.cap]))) w fun w =>
          RunN Try.prog (.agg (.cons (.int .i64) (.cons (.int .i64) (.cons .sl .nilT)))) (V (Instr.loadAt 31 (.pointer (some t5)))) w fun t44 w =>
          RunN Try.prog (.agg (.cons (.int .i64) (.cons (.int .i64) (.cons .sl .nilT)))) (V (Instr.loadAt 31 (.pointer (some t7)))) w fun t46 w =>
          CallK Try.prog .bool 34 #[.pointer p0, .agg #[.int .i64 t44.1, .int .i64 t44.2.1, .slice t44.2.2.1.a t44.2.2.1.len t44.2.2.1.cap], .int .i64 t30.2.1, .agg #[.int .i64 t46.1, .int .i64 t46.2.1, .slice t46.2.2.1.a t46.2.2.1.len t46.2.2.1.cap], .int .i64 t40.2.1] w fun t48 w =>
          K t48 w))) ∧
      (NilP p0 fun t25 =>
        ReadN Try.prog .ptr (V (Instr.loadAt 23 (.pointer (some (t25.add 0))))) w.drew fun t27 =>
        ReadN Try.prog (.int .i64) (V (Instr.loadAt 3 (.pointer (some (t3.add 2))))) w.drew fun t29 =>
        RunN Try.prog .addr (V (Instr.alloc 31 true (.tuple #[]))) w.drew fun t5 w =>
        StillV Try.prog (V (Instr.loadAt 3 (.pointer (some (t3.add 2))))) (.int .i64 t29) w ∧
        StillV Try.prog (V (Instr.loadAt 23 (.pointer (some (t25.add 0))))) (.pointer t27) w ∧
        CallK Try.prog (.tup (.cons (.agg (.cons (.int .i64) (.cons (.int .i64) (.cons .sl .nilT)))) (.cons (.int .i64) .nilT))) 13 #[.pointer t27, .int .i64 t29] w fun t30 w =>
        RunU Try.prog (U (Instr.storeAt 31 (.pointer (some t5)) (.agg #[.int .i64 t30.1.1, .int .i64 t30.1.2.1, .slice t30.1.2.2.1.a t30.1.2.2.1.len t30.1.2.2.1.cap]))) w fun w =>
        ((NilP p0 fun t35 =>
          ReadN Try.prog .ptr (V (Instr.loadAt 57 (.pointer (some (t35.add 1))))) w.drew fun t37 =>
          ReadN Try.prog (.int .i64) (V (Instr.loadAt 3 (.pointer (some (t3.add 2))))) w.drew fun t39 =>
          CallK Try.prog (.tup (.cons (.agg (.cons (.int .i64) (.cons (.int .i64) (.cons .sl .nilT)))) (.cons (.int .i64) .nilT))) 33 #[.pointer t37, .int .i64 t39] w.drew fun t40 w =>
          RunN Try.prog .addr (V (Instr.alloc 31 true (.tuple #[]))) w fun t7 w =>
          RunU Try.prog (U (Instr.storeAt 31 (.pointer (some t7)) (.agg #[.int .i64 t40.1.1, .int .i64 t40.1.2.1, .slice t40.1.2.2.1.a t40.1.2.2.1.len t40.1.2.2.1.cap]))) w fun w =>
          RunN Try.prog (.agg (.cons (.int .i64) (.cons (.int .i64) (.cons .sl .nilT)))) (V (Instr.loadAt 31 (.pointer (some t5)))) w fun t44 w =>
          RunN Try.prog (.agg (.cons (.int .i64) (.cons (.int .i64) (.cons .sl .nilT)))) (V (Instr.loadAt 31 (.pointer (some t7)))) w fun t46 w =>
          CallK Try.prog .bool 34 #[.pointer p0, .agg #[.int .i64 t44.1, .int .i64 t44.2.1, .slice t44.2.2.1.a t44.2.2.1.len t44.2.2.1.cap], .int .i64 t30.2.1, .agg #[.int .i64 t46.1, .int .i64 t46.2.1, .slice t46.2.2.1.a t46.2.2.1.len t46.2.2.1.cap], .int .i64 t40.2.1] w fun t48 w =>
          K t48 w) ∧
        (NilP p0 fun t35 =>
          ReadN Try.prog .ptr (V (Instr.loadAt 57 (.pointer (some (t35.add 1))))) w.drew fun t37 =>
          ReadN Try.prog (.int .i64) (V (Instr.loadAt 3 (.pointer (some (t3.add 2))))) w.drew fun t39 =>
          RunN Try.prog .addr (V (Instr.alloc 31 true (.tuple #[]))) w.drew fun t7 w =>
          StillV Try.prog (V (Instr.loadAt 3 (.pointer (some (t3.add 2))))) (.int .i64 t39) w ∧
          StillV Try.prog (V (Instr.loadAt 57 (.pointer (some (t35.add 1))))) (.pointer t37) w ∧
          CallK Try.prog (.tup (.cons (.agg (.cons (.int .i64) (.cons (.int .i64) (.cons .sl .nilT)))) (.cons (.int .i64) .nilT))) 33 #[.pointer t37, .int .i64 t39] w fun t40 w =>
          RunU Try.prog (U (Instr.storeAt 31 (.pointer (some t7)) (.agg #[.int .i64 t40.1.1, .int .i64 t40.1.2.1, .slice t40.1.2.2.1.a t40.1.2.2.1.len t40.1.2.2.1.cap]))) w fun w =>
          RunN Try.prog (.agg (.cons (.int .i64) (.cons (.int .i64) (.cons .sl .nilT)))) (V (Instr.loadAt 31 (.pointer (some t5)))) w fun t44 w =>
          RunN Try.prog (.agg (.cons (.int .i64) (.cons (.int .i64) (.cons .sl .nilT)))) (V (Instr.loadAt 31 (.pointer (some t7)))) w fun t46 w =>
          CallK Try.prog .bool 34 #[.pointer p0, .agg #[.int .i64 t44.1, .int .i64 t44.2.1, .slice t44.2.2.1.a t44.2.2.1.len t44.2.2.1.cap], .int .i64 t30.2.1, .agg #[.int .i64 t46.1, .int .i64 t46.2.1, .slice t46.2.2.1.a t46.2.2.1.len t46.2.2.1.cap], .int .i64 t40.2.1] w fun t48 w =>
          K t48 w)))))
      (SplitB (t14 == 3)
        (NilP p0 fun t52 =>
        ReadN Try.prog .ptr (V (Instr.loadAt 23 (.pointer (some (t52.add 0))))) w.drew fun t54 =>
        ReadN Try.prog (.int .i64) (V (Instr.loadAt 3 (.pointer (some (t3.add 2))))) w.drew fun t56 =>
        NilP p0 fun t60 =>
        ReadN Try.prog .ptr (V (Instr.loadAt 57 (.pointer (some (t60.add 1))))) w.drew fun t62 =>
        ReadN Try.prog (.int .i64) (V (Instr.loadAt 3 (.pointer (some (t3.add 2))))) w.drew fun t64 =>
        CallK Try.prog (.int .i64) 25 #[.pointer t54, .int .i64 t56] w.drew fun t57 w =>
        StillV Try.prog (V (Instr.loadAt 3 (.pointer (some (t3.add 2))))) (.int .i64 t64) w ∧
        StillV Try.prog (V (Instr.loadAt 57 (.pointer (some (t60.add 1))))) (.pointer t62) w ∧
        CallK Try.prog (.int .i64) 9 #[.int .i64 t57] w fun t58 w =>
        StillV Try.prog (V (Instr.loadAt 3 (.pointer (some (t3.add 2))))) (.int .i64 t64) w ∧
        StillV Try.prog (V (Instr.loadAt 57 (.pointer (some (t60.add 1))))) (.pointer t62) w ∧
        CallK Try.prog (.int .i64) 35 #[.pointer t62, .int .i64 t64] w fun t65 w =>
        K (t58 == t65) w)
        (SplitB (t14 == 4)
          (NilP p0 fun t70 =>
          ReadN Try.prog .ptr (V (Instr.loadAt 23 (.pointer (some (t70.add 0))))) w.drew fun t72 =>
          ReadN Try.prog (.int .i64) (V (Instr.loadAt 3 (.pointer (some (t3.add 2))))) w.drew fun t74 =>
          NilP p0 fun t78 =>
          ReadN Try.prog .ptr (V (Instr.loadAt 57 (.pointer (some (t78.add 1))))) w.drew fun t80 =>
          ReadN Try.prog (.int .i64) (V (Instr.loadAt 3 (.pointer (some (t3.add 2))))) w.drew fun t82 =>
          CallK Try.prog (.int .i64) 24 #[.pointer t72, .int .i64 t74] w.drew fun t75 w =>
          StillV Try.prog (V (Instr.loadAt 3 (.pointer (some (t3.add 2))))) (.int .i64 t82) w ∧
          StillV Try.prog (V (Instr.loadAt 57 (.pointer (some (t78.add 1))))) (.pointer t80) w ∧
          CallK Try.prog (.int .i64) 9 #[.int .i64 t75] w fun t76 w =>
          StillV Try.prog (V (Instr.loadAt 3 (.pointer (some (t3.add 2))))) (.int .i64 t82) w ∧
          StillV Try.prog (V (Instr.loadAt 57 (.pointer (some (t78.add 1))))) (.pointer t80) w ∧
          CallK Try.prog (.int .i64) 36 #[.pointer t80, .int .i64 t82] w fun t83 w =>
          K (t76 == t83) w)
          (SplitB (t14 == 5)
            (NilP p0 fun t88 =>
            ReadN Try.prog .ptr (V (Instr.loadAt 23 (.pointer (some (t88.add 0))))) w.drew fun t90 =>
            ReadN Try.prog (.int .i64) (V (Instr.loadAt 3 (.pointer (some (t3.add 2))))) w.drew fun t92 =>
            ReadN Try.prog (.int .i64) (V (Instr.loadAt 3 (.pointer (some (t3.add 3))))) w.drew fun t94 =>
            NilP p0 fun t98 =>
            ReadN Try.prog .ptr (V (Instr.loadAt 57 (.pointer (some (t98.add 1))))) w.drew fun t100 =>
            ReadN Try.prog (.int .i64) (V (Instr.loadAt 3 (.pointer (some (t3.add 2))))) w.drew fun t102 =>
            ReadN Try.prog (.int .i64) (V (Instr.loadAt 3 (.pointer (some (t3.add 3))))) w.drew fun t104 =>
            CallK Try.prog (.int .i64) 15 #[.pointer t90, .int .i64 t92, .int .i64 t94] w.drew fun t95 w =>
            StillV Try.prog (V (Instr.loadAt 3 (.pointer (some (t3.add 3))))) (.int .i64 t104) w ∧
            StillV Try.prog (V (Instr.loadAt 3 (.pointer (some (t3.add 2))))) (.int .i64 t102) w ∧
            StillV Try.prog (V (Instr.loadAt 57 (.pointer (some (t98.add 1))))) (.pointer t100) w ∧
            CallK Try.prog (.int .i64) 9 #[.int .i64 t95] w fun t96 w =>
            StillV Try.prog (V (Instr.loadAt 3 (.pointer (some (t3.add 3))))) (.int .i64 t104) w ∧
            StillV Try.prog (V (Instr.loadAt 3 (.pointer (some (t3.add 2))))) (.int .i64 t102) w ∧
            StillV Try.prog (V (Instr.loadAt 57 (.pointer (some (t98.add 1))))) (.pointer t100) w ∧
            CallK Try.prog (.int .i64) 37 #[.pointer t100, .int .i64 t102, .int .i64 t104] w fun t105 w =>
            K (t96 == t105) w)
            (SplitB (t14 == 6)
              (NilP p0 fun t110 =>
              ReadN Try.prog .ptr (V (Instr.loadAt 23 (.pointer (some (t110.add 0))))) w.drew fun t112 =>
              NilP p0 fun t115 =>
              ReadN Try.prog .ptr (V (Instr.loadAt 57 (.pointer (some (t115.add 1))))) w.drew fun t117 =>
              NilP t117 fun t118 =>
              ReadN Try.prog .sl (V (Instr.loadAt 22 (.pointer (some (t118.add 1))))) w.drew fun t120 =>
              CallK Try.prog (.int .i64) 12 #[.pointer t112] w.drew fun t113 w =>
              StillV Try.prog (V (Instr.loadAt 22 (.pointer (some (t118.add 1))))) (.slice t120.a t120.len t120.cap) w ∧
              StillV Try.prog (V (Instr.loadAt 57 (.pointer (some (t115.add 1))))) (.pointer t117) w ∧
              K (t113 == (t120.len : Int)) w)
              (SplitB (t14 == 7)
                (((NilP p0 fun t127 =>
                  ReadN Try.prog .ptr (V (Instr.loadAt 23 (.pointer (some (t127.add 0))))) w.drew fun t129 =>
                  ReadN Try.prog (.int .i64) (V (Instr.loadAt 3 (.pointer (some (t3.add 2))))) w.drew fun t131 =>
                  CallK Try.prog (.tup (.cons (.agg (.cons (.int .i64) (.cons (.int .i64) (.cons .sl .nilT)))) (.cons (.int .i64) .nilT))) 16 #[.pointer t129, .int .i64 t131] w.drew fun t132 w =>
                  RunN Try.prog .addr (V (Instr.alloc 31 true (.tuple #[]))) w fun t9 w =>
                  RunU Try.prog (U (Instr.storeAt 31 (.pointer (some t9)) (.agg #[.int .i64 t132.1.1, .int .i64 t132.1.2.1, .slice t132.1.2.2.1.a t132.1.2.2.1.len t132.1.2.2.1.cap]))) w fun w =>
                  ((NilP p0 fun t137 =>
                    ReadN Try.prog .ptr (V (Instr.loadAt 57 (.pointer (some (t137.add 1))))) w.drew fun t139 =>
                    ReadN Try.prog (.int .i64) (V (Instr.loadAt 3 (.pointer (some (t3.add 2))))) w.drew fun t141 =>
                    CallK Try.prog (.tup (.cons (.agg (.cons (.int .i64) (.cons (.int .i64) (.cons .sl .nilT)))) (.cons (.int .i64) .nilT))) 38 #[.pointer t139, .int .i64 t141] w.drew fun t142 w =>
                    RunN Try.prog .addr (V (Instr.alloc 31 true (.tuple #[]))) w fun t11 w =>
                    RunU Try.prog (U (Instr.storeAt 31 (.pointer (some t11)) (.agg #[.int .i64 t142.1.1, .int .i64 t142.1.2.1, .slice t142.1.2.2.1.a t142.1.2.2.1.len t142.1.2.2.1.cap]))) w fun w =>
                    RunN Try.prog (.agg (.cons (.int .i64) (.cons (.int .i64) (.cons .sl .nilT)))) (V (Instr.loadAt 31 (.pointer (some t9)))) w fun t146 w =>
                    RunN Try.prog (.agg (.cons (.int .i64) (.cons (.int .i64) (.cons .sl .nilT)))) (V (Instr.loadAt 31 (.pointer (some t11)))) w fun t148 w =>
                    CallK Try.prog .bool 34 #[.pointer p0, .agg #[.int .i64 t146.1, .int .i64 t146.2.1, .slice t146.2.2.1.a t146.2.2.1.len t146.2.2.1.cap], .int .i64 t132.2.1, .agg #[.int .i64 t148.1, .int .i64 t148.2.1, .slice t148.2.2.1.a t148.2.2.1.len t148.2.2.1.cap], .int .i64 t142.2.1] w fun t150 w =>
                    K t150 w) ∧
                  (NilP p0 fun t137 =>
                    ReadN Try.prog .ptr (V (Instr.loadAt 57 (.pointer (some (t137.add 1))))) w.drew fun t139 =>
                    ReadN Try.prog (.int .i64) (V (Instr.loadAt 3 (.pointer (some (t3.add 2))))) w.drew fun t141 =>
                    RunN Try.prog .addr (V (Instr.alloc 31 true (.tuple #[]))) w.drew fun t11 w =>
                    StillV Try.prog (V (Instr.loadAt 3 (.pointer (some (t3.add 2))))) (.int .i64 t141) w ∧
                    StillV Try.prog (V (Instr.loadAt 57 (.pointer (some (t137.add 1))))) (.pointer t139) w ∧
                    CallK Try.prog (.tup (.cons (.agg (.cons (.int .i64) (.cons (.int .i64) (.cons .sl .nilT)))) (.cons (.int .i64) .nilT))) 38 #[.pointer t139, .int .i64 t141] w fun t142 w =>
                    RunU Try.prog (U (Instr.storeAt 31 (.pointer (some t11)) (.agg #[.int .i64 t142.1.1, .int .i64 t142.1.2.1, .slice t142.1.2.2.1.a t142.1.2.2.1.len t142.1.2.2.1.cap]))) w fun w =>
                    RunN Try.prog (.agg (.cons (.int .i64) (.cons (.int .i64) (.cons .sl .nilT)))) (V (Instr.loadAt 31 (.pointer (some t9)))) w fun t146 w =>
                    RunN Try.prog (.agg (.cons (.int .i64) (.cons (.int .i64) (.cons .sl .nilT)))) (V (Instr.loadAt 31 (.pointer (some t11)))) w fun t148 w =>
                    CallK Try.prog .bool 34 #[.pointer p0, .agg #[.int .i64 t146.1, .int .i64 t146.2.1, .slice t146.2.2.1.a t146.2.2.1.len t146.2.2.1.cap], .int .i64 t132.2.1, .agg #[.int .i64 t148.1, .int .i64 t148.2.1, .slice t148.2.2.1.a t148.2.2.1.len t148.2.2.1.cap], .int .i64 t142.2.1] w fun t150 w =>
                    K t150 w))) ∧
                (NilP p0 fun t127 =>
                  ReadN Try.prog .ptr (V (Instr.loadAt 23 (.pointer (some (t127.add 0))))) w.drew fun t129 =>
                  ReadN Try.prog (.int .i64) (V (Instr.loadAt 3 (.pointer (some (t3.add 2))))) w.drew fun t131 =>
                  RunN Try.prog .addr (V (Instr.alloc 31 true (.tuple #[]))) w.drew fun t9 w =>
                  StillV Try.prog (V (Instr.loadAt 3 (.pointer (some (t3.add 2))))) (.int .i64 t131) w ∧
                  StillV Try.prog (V (Instr.loadAt 23 (.pointer (some (t127.add 0))))) (.pointer t129) w ∧
                  CallK Try.prog (.tup (.cons (.agg (.cons (.int .i64) (.cons (.int .i64) (.cons .sl .nilT)))) (.cons (.int .i64) .nilT))) 16 #[.pointer t129, .int .i64 t131] w fun t132 w =>
                  RunU Try.prog (U (Instr.storeAt 31 (.pointer (some t9)) (.agg #[.int .i64 t132.1.1, .int .i64 t132.1.2.1, .slice t132.1.2.2.1.a t132.1.2.2.1.len t132.1.2.2.1.cap]))) w fun w =>
                  ((NilP p0 fun t137 =>
                    ReadN Try.prog .ptr (V (Instr.loadAt 57 (.pointer (some (t137.add 1))))) w.drew fun t139 =>
                    ReadN Try.prog (.int .i64) (V (Instr.loadAt 3 (.pointer (some (t3.add 2))))) w.drew fun t141 =>
                    CallK Try.prog (.tup (.cons (.agg (.cons (.int .i64) (.cons (.int .i64) (.cons .sl .nilT)))) (.cons (.int .i64) .nilT))) 38 #[.pointer t139, .int .i64 t141] w.drew fun t142 w =>
                    RunN Try.prog .addr (V (Instr.alloc 31 true (.tuple #[]))) w fun t11 w =>
                    RunU Try.prog (U (Instr.storeAt 31 (.pointer (some t11)) (.agg #[.int .i64 t142.1.1, .int .i64 t142.1.2.1, .slice t142.1.2.2.1.a t142.1.2.2.1.len t142.1.2.2.1.cap]))) w fun w =>
                    RunN Try.prog (.agg (.cons (.int .i64) (.cons (.int .i64) (.cons .sl .nilT)))) (V (Instr.loadAt 31 (.pointer (some t9)))) w fun t146 w =>
                    RunN Try.prog (.agg (.cons (.int .i64) (.cons (.int .i64) (.cons .sl .nilT)))) (V (Instr.loadAt 31 (.pointer (some t11)))) w fun t148 w =>
                    CallK Try.prog .bool 34 #[.pointer p0, .agg #[.int .i64 t146.1, .int .i64 t146.2.1, .slice t146.2.2.1.a t146.2.2.1.len t146.2.2.1.cap], .int .i64 t132.2.1, .agg #[.int .i64 t148.1, .int .i64 t148.2.1, .slice t148.2.2.1.a t148.2.2.1.len t148.2.2.1.cap], .int .i64 t142.2.1] w fun t150 w =>
                    K t150 w) ∧
                  (NilP p0 fun t137 =>
                    ReadN Try.prog .ptr (V (Instr.loadAt 57 (.pointer (some (t137.add 1))))) w.drew fun t139 =>
                    ReadN Try.prog (.int .i64) (V (Instr.loadAt 3 (.pointer (some (t3.add 2))))) w.drew fun t141 =>
                    RunN Try.prog .addr (V (Instr.alloc 31 true (.tuple #[]))) w.drew fun t11 w =>
                    StillV Try.prog (V (Instr.loadAt 3 (.pointer (some (t3.add 2))))) (.int .i64 t141) w ∧
                    StillV Try.prog (V (Instr.loadAt 57 (.pointer (some (t137.add 1))))) (.pointer t139) w ∧
                    CallK Try.prog (.tup (.cons (.agg (.cons (.int .i64) (.cons (.int .i64) (.cons .sl .nilT)))) (.cons (.int .i64) .nilT))) 38 #[.pointer t139, .int .i64 t141] w fun t142 w =>
                    RunU Try.prog (U (Instr.storeAt 31 (.pointer (some t11)) (.agg #[.int .i64 t142.1.1, .int .i64 t142.1.2.1, .slice t142.1.2.2.1.a t142.1.2.2.1.len t142.1.2.2.1.cap]))) w fun w =>
                    RunN Try.prog (.agg (.cons (.int .i64) (.cons (.int .i64) (.cons .sl .nilT)))) (V (Instr.loadAt 31 (.pointer (some t9)))) w fun t146 w =>
                    RunN Try.prog (.agg (.cons (.int .i64) (.cons (.int .i64) (.cons .sl .nilT)))) (V (Instr.loadAt 31 (.pointer (some t11)))) w fun t148 w =>
                    CallK Try.prog .bool 34 #[.pointer p0, .agg #[.int .i64 t146.1, .int .i64 t146.2.1, .slice t146.2.2.1.a t146.2.2.1.len t146.2.2.1.cap], .int .i64 t132.2.1, .agg #[.int .i64 t148.1, .int .i64 t148.2.1, .slice t148.2.2.1.a t148.2.2.1.len t148.2.2.1.cap], .int .i64 t142.2.1] w fun t150 w =>
                    K t150 w)))))
                (K true w)))))))
theorem T21.calls {p0 : Option Addr} {p1 : (Int × Int × Int × Int × Int × Int × Sl × Unit)} {w : World} {K : Bool → World → Prop} (h : T21 p0 p1 w K) : CallK Try.prog .bool 21 #[.pointer p0, .agg #[.int .i64 p1.1, .int .i64 p1.2.1, .int .i64 p1.2.2.1, .int .i64 p1.2.2.2.1, .int .i64 p1.2.2.2.2.1, .int .i64 p1.2.2.2.2.2.1, .slice p1.2.2.2.2.2.2.1.a p1.2.2.2.2.2.2.1.len p1.2.2.2.2.2.2.1.cap]] w K :=
  bodyZ_sound (κ := kappa) (ann := []) (fn := Try.f21) Try.func21 rfl (by kernel_rfl) (cast (show T21 p0 p1 w K = bodyZ Try.prog kappa [] .bool Try.f21 [.pointer p0, .agg #[.int .i64 p1.1, .int .i64 p1.2.1, .int .i64 p1.2.2.1, .int .i64 p1.2.2.2.1, .int .i64 p1.2.2.2.2.1, .int .i64 p1.2.2.2.2.2.1, .slice p1.2.2.2.2.2.2.1.a p1.2.2.2.2.2.2.1.len p1.2.2.2.2.2.2.1.cap]] w K by kernel_rfl) h)

/-- (*sluice/sluicelaw4.pair).stands -/
def T22 (p0 : Option Addr) (w : World) (K : Bool → World → Prop) : Prop :=
  LoopX (α := Int × Unit) (fun s1 w k2 =>
    NilP p0 fun t7 =>
    RunN Try.prog .sl (V (Instr.loadAt 60 (.pointer (some (t7.add 2))))) w fun t9 w =>
    SplitB (decide (s1.1 < (t9.len : Int)))
      (LoopX (α := Int × Unit) (fun s3 w k4 =>
        NilP p0 fun t16 =>
        RunN Try.prog .sl (V (Instr.loadAt 60 (.pointer (some (t16.add 2))))) w fun t18 w =>
        RunN Try.prog .addr (V (Instr.indexAt 60 (.slice t18.a t18.len t18.cap) (.int .i64 s1.1))) w fun t20 w =>
        RunN Try.prog .sl (V (Instr.loadAt 29 (.pointer (some t20)))) w fun t21 w =>
        SplitB (decide (s3.1 < (t21.len : Int)))
          (NilP p0 fun t27 =>
          ReadN Try.prog .sl (V (Instr.loadAt 60 (.pointer (some (t27.add 2))))) w.drew fun t29 =>
          ReadN Try.prog .addr (V (Instr.indexAt 60 (.slice t29.a t29.len t29.cap) (.int .i64 s1.1))) w.drew fun t31 =>
          ReadN Try.prog .sl (V (Instr.loadAt 29 (.pointer (some t31)))) w.drew fun t32 =>
          ReadN Try.prog .addr (V (Instr.indexAt 29 (.slice t32.a t32.len t32.cap) (.int .i64 s3.1))) w.drew fun t34 =>
          ReadN Try.prog (.int .u8) (V (Instr.loadAt 5 (.pointer (some t34)))) w.drew fun t35 =>
          NilP p0 fun t37 =>
          ReadN Try.prog .sl (V (Instr.loadAt 61 (.pointer (some (t37.add 4))))) w.drew fun t39 =>
          ReadN Try.prog .addr (V (Instr.indexAt 61 (.slice t39.a t39.len t39.cap) (.int .i64 s1.1))) w.drew fun t41 =>
          ReadN Try.prog (.int .i64) (V (Instr.loadAt 3 (.pointer (some t41)))) w.drew fun t42 =>
          SplitB (t35 != (IntKind.u8.wrap t42))
            (K false w.drew)
            (k4 (IntKind.i64.wrap (s3.1 + 1), ()) w.drew))
          (k2 (IntKind.i64.wrap (s1.1 + 1), ()) w))
      (0, ()) w)
      (K true w))
  (0, ()) w
theorem T22.calls {p0 : Option Addr} {w : World} {K : Bool → World → Prop} (h : T22 p0 w K) : CallK Try.prog .bool 22 #[.pointer p0] w K :=
  bodyZ_sound (κ := kappa) (ann := [(3, [(3, (.int .i64))]), (8, [(4, (.int .i64))])]) (fn := Try.f22) Try.func22 rfl (by kernel_rfl) (cast (show T22 p0 w K = bodyZ Try.prog kappa [(3, [(3, (.int .i64))]), (8, [(4, (.int .i64))])] .bool Try.f22 [.pointer p0] w K by kernel_rfl) h)

/-- (*sluice/sluicelaw4.pair).apart -/
def T23 (p0 : Option Addr) (w : World) (K : Bool → World → Prop) : Prop :=
  LoopX (α := Int × Unit) (fun s1 w k2 =>
    NilP p0 fun t15 =>
    RunN Try.prog .sl (V (Instr.loadAt 60 (.pointer (some (t15.add 6))))) w fun t17 w =>
    SplitB (decide (s1.1 < (t17.len : Int)))
      (NilP p0 fun t23 =>
      ReadN Try.prog .sl (V (Instr.loadAt 60 (.pointer (some (t23.add 6))))) w.drew fun t25 =>
      ReadN Try.prog .addr (V (Instr.indexAt 60 (.slice t25.a t25.len t25.cap) (.int .i64 s1.1))) w.drew fun t27 =>
      ReadN Try.prog .sl (V (Instr.loadAt 29 (.pointer (some t27)))) w.drew fun t28 =>
      ReadN Try.prog .str (V (convert 29 9 (.slice t28.a t28.len t28.cap))) w.drew fun t29 =>
      NilP p0 fun t31 =>
      ReadN Try.prog .sl (V (Instr.loadAt 62 (.pointer (some (t31.add 7))))) w.drew fun t33 =>
      ReadN Try.prog .addr (V (Instr.indexAt 62 (.slice t33.a t33.len t33.cap) (.int .i64 s1.1))) w.drew fun t35 =>
      ReadN Try.prog .str (V (Instr.loadAt 9 (.pointer (some t35)))) w.drew fun t36 =>
      SplitB (!(t29.toList == t36.toList))
        (K false w.drew)
        (k2 (IntKind.i64.wrap (s1.1 + 1), ()) w.drew))
      (LoopX (α := Int × Unit) (fun s3 w k4 =>
        NilP p0 fun t40 =>
        RunN Try.prog .sl (V (Instr.loadAt 60 (.pointer (some (t40.add 6))))) w fun t42 w =>
        SplitB (decide (s3.1 < (t42.len : Int)))
          (LoopX (α := Int × Unit) (fun s5 w k6 =>
            NilP p0 fun t49 =>
            RunN Try.prog .sl (V (Instr.loadAt 60 (.pointer (some (t49.add 6))))) w fun t51 w =>
            RunN Try.prog .addr (V (Instr.indexAt 60 (.slice t51.a t51.len t51.cap) (.int .i64 s3.1))) w fun t53 w =>
            RunN Try.prog .sl (V (Instr.loadAt 29 (.pointer (some t53)))) w fun t54 w =>
            SplitB (decide (s5.1 < (t54.len : Int)))
              (NilP p0 fun t60 =>
              ReadN Try.prog .sl (V (Instr.loadAt 60 (.pointer (some (t60.add 6))))) w.drew fun t62 =>
              ReadN Try.prog .addr (V (Instr.indexAt 60 (.slice t62.a t62.len t62.cap) (.int .i64 s3.1))) w.drew fun t64 =>
              ReadN Try.prog .sl (V (Instr.loadAt 29 (.pointer (some t64)))) w.drew fun t65 =>
              CallK Try.prog (.int .u8) 39 #[.int .i64 s3.1, .int .i64 s5.1] w.drew fun t69 w =>
              StillV Try.prog (V (Instr.loadAt 29 (.pointer (some t64)))) (.slice t65.a t65.len t65.cap) w ∧
              StillV Try.prog (V (Instr.indexAt 60 (.slice t62.a t62.len t62.cap) (.int .i64 s3.1))) (.pointer (some t64)) w ∧
              StillV Try.prog (V (Instr.loadAt 60 (.pointer (some (t60.add 6))))) (.slice t62.a t62.len t62.cap) w ∧
              ReadN Try.prog .addr (V (Instr.indexAt 29 (.slice t65.a t65.len t65.cap) (.int .i64 s5.1))) w fun t70 =>
              RunU Try.prog (U (Instr.storeAt 5 (.pointer (some t70)) (.int .u8 t69))) w fun w =>
              k6 (IntKind.i64.wrap (s5.1 + 1), ()) w)
              (k4 (IntKind.i64.wrap (s3.1 + 1), ()) w))
          (0, ()) w)
          (LoopX (α := Sl × Int × Unit) (fun s7 w k8 =>
            NilP p0 fun t73 =>
            RunN Try.prog .sl (V (Instr.loadAt 60 (.pointer (some (t73.add 6))))) w fun t75 w =>
            SplitB (decide (s7.2.1 < (t75.len : Int)))
              (NilP p0 fun t81 =>
              RunN Try.prog .sl (V (Instr.loadAt 60 (.pointer (some (t81.add 6))))) w fun t83 w =>
              RunN Try.prog .addr (V (Instr.indexAt 60 (.slice t83.a t83.len t83.cap) (.int .i64 s7.2.1))) w fun t85 w =>
              RunN Try.prog .sl (V (Instr.loadAt 29 (.pointer (some t85)))) w fun t86 w =>
              LoopX (α := Sl × Int × Unit) (fun s9 w k10 =>
                SplitB (decide (s9.2.1 < 100))
                  (CallK Try.prog (.int .u8) 39 #[.int .i64 (IntKind.i64.wrap (s7.2.1 + 1)), .int .i64 s9.2.1] w fun t95 w =>
                  RunN Try.prog .sl (V (Instr.buildSlice 29 1 #[(0, .int .u8 (bitXor .u8 t95 85))])) w fun t97 w =>
                  RunN Try.prog .sl (V (Builtin.append_ #[29, 29] 29 #[.slice s9.1.a s9.1.len s9.1.cap, .slice t97.a t97.len t97.cap])) w fun t98 w =>
                  k10 (t98, IntKind.i64.wrap (s9.2.1 + 1), ()) w)
                  (RunN Try.prog .sl (V (Instr.buildSlice 60 1 #[(0, .slice s9.1.a s9.1.len s9.1.cap)])) w fun t101 w =>
                  RunN Try.prog .sl (V (Builtin.append_ #[60, 60] 60 #[.slice s7.1.a s7.1.len s7.1.cap, .slice t101.a t101.len t101.cap])) w fun t102 w =>
                  k8 (t102, IntKind.i64.wrap (s7.2.1 + 1), ()) w))
              (t86, 0, ()) w)
              (LoopX (α := Int × Unit) (fun s11 w k12 =>
                SplitB (decide (s11.1 < (s7.1.len : Int)))
                  (NilP p0 fun t110 =>
                  RunN Try.prog .sl (V (Instr.loadAt 60 (.pointer (some (t110.add 6))))) w fun t112 w =>
                  RunN Try.prog .addr (V (Instr.indexAt 60 (.slice t112.a t112.len t112.cap) (.int .i64 s11.1))) w fun t114 w =>
                  RunN Try.prog .sl (V (Instr.loadAt 29 (.pointer (some t114)))) w fun t115 w =>
                  LoopX (α := Int × Unit) (fun s13 w k14 =>
                    RunN Try.prog .addr (V (Instr.indexAt 60 (.slice s7.1.a s7.1.len s7.1.cap) (.int .i64 s11.1))) w fun t120 w =>
                    RunN Try.prog .sl (V (Instr.loadAt 29 (.pointer (some t120)))) w fun t121 w =>
                    SplitB (decide (s13.1 < (t121.len : Int)))
                      (JoinX (α := Bool × Unit) (fun j16 w =>
                        SplitB j16.1
                          (K false w)
                          (k14 (IntKind.i64.wrap (s13.1 + 1), ()) w))
                      fun k15 =>
                        SplitB (decide (s13.1 < (t115.len : Int)))
                          (NilP p0 fun t131 =>
                          ReadN Try.prog .sl (V (Instr.loadAt 60 (.pointer (some (t131.add 6))))) w.drew fun t133 =>
                          ReadN Try.prog .addr (V (Instr.indexAt 60 (.slice t133.a t133.len t133.cap) (.int .i64 s11.1))) w.drew fun t135 =>
                          ReadN Try.prog .sl (V (Instr.loadAt 29 (.pointer (some t135)))) w.drew fun t136 =>
                          ReadN Try.prog .addr (V (Instr.indexAt 29 (.slice t136.a t136.len t136.cap) (.int .i64 s13.1))) w.drew fun t138 =>
                          ReadN Try.prog (.int .u8) (V (Instr.loadAt 5 (.pointer (some t138)))) w.drew fun t139 =>
                          CallK Try.prog (.int .u8) 39 #[.int .i64 s11.1, .int .i64 s13.1] w.drew fun t142 w =>
                          StillV Try.prog (V (Instr.loadAt 5 (.pointer (some t138)))) (.int .u8 t139) w ∧
                          StillV Try.prog (V (Instr.indexAt 29 (.slice t136.a t136.len t136.cap) (.int .i64 s13.1))) (.pointer (some t138)) w ∧
                          StillV Try.prog (V (Instr.loadAt 29 (.pointer (some t135)))) (.slice t136.a t136.len t136.cap) w ∧
                          StillV Try.prog (V (Instr.indexAt 60 (.slice t133.a t133.len t133.cap) (.int .i64 s11.1))) (.pointer (some t135)) w ∧
                          StillV Try.prog (V (Instr.loadAt 60 (.pointer (some (t131.add 6))))) (.slice t133.a t133.len t133.cap) w ∧
                          SplitB (t139 != t142)
                            (k15 (true, ()) w)
                            (ReadN Try.prog .addr (V (Instr.indexAt 60 (.slice s7.1.a s7.1.len s7.1.cap) (.int .i64 s11.1))) w fun t147 =>
                            ReadN Try.prog .sl (V (Instr.loadAt 29 (.pointer (some t147)))) w fun t148 =>
                            ReadN Try.prog .addr (V (Instr.indexAt 29 (.slice t148.a t148.len t148.cap) (.int .i64 s13.1))) w fun t150 =>
                            ReadN Try.prog (.int .u8) (V (Instr.loadAt 5 (.pointer (some t150)))) w fun t151 =>
                            CallK Try.prog (.int .u8) 39 #[.int .i64 s11.1, .int .i64 s13.1] w fun t154 w =>
                            StillV Try.prog (V (Instr.loadAt 5 (.pointer (some t150)))) (.int .u8 t151) w ∧
                            StillV Try.prog (V (Instr.indexAt 29 (.slice t148.a t148.len t148.cap) (.int .i64 s13.1))) (.pointer (some t150)) w ∧
                            StillV Try.prog (V (Instr.loadAt 29 (.pointer (some t147)))) (.slice t148.a t148.len t148.cap) w ∧
                            StillV Try.prog (V (Instr.indexAt 60 (.slice s7.1.a s7.1.len s7.1.cap) (.int .i64 s11.1))) (.pointer (some t147)) w ∧
                            SplitB (t151 != t154)
                              (k15 (true, ()) w)
                              (SplitB (decide (s13.1 ≥ (t115.len : Int)))
                                (ReadN Try.prog .addr (V (Instr.indexAt 60 (.slice s7.1.a s7.1.len s7.1.cap) (.int .i64 s11.1))) w fun t165 =>
                                ReadN Try.prog .sl (V (Instr.loadAt 29 (.pointer (some t165)))) w fun t166 =>
                                ReadN Try.prog .addr (V (Instr.indexAt 29 (.slice t166.a t166.len t166.cap) (.int .i64 s13.1))) w fun t168 =>
                                ReadN Try.prog (.int .u8) (V (Instr.loadAt 5 (.pointer (some t168)))) w fun t169 =>
                                CallK Try.prog (.int .u8) 39 #[.int .i64 (IntKind.i64.wrap (s11.1 + 1)), .int .i64 (IntKind.i64.wrap (s13.1 - (t115.len : Int)))] w fun t175 w =>
                                StillV Try.prog (V (Instr.loadAt 5 (.pointer (some t168)))) (.int .u8 t169) w ∧
                                StillV Try.prog (V (Instr.indexAt 29 (.slice t166.a t166.len t166.cap) (.int .i64 s13.1))) (.pointer (some t168)) w ∧
                                StillV Try.prog (V (Instr.loadAt 29 (.pointer (some t165)))) (.slice t166.a t166.len t166.cap) w ∧
                                StillV Try.prog (V (Instr.indexAt 60 (.slice s7.1.a s7.1.len s7.1.cap) (.int .i64 s11.1))) (.pointer (some t165)) w ∧
                                k15 (t169 != (bitXor .u8 t175 85), ()) w)
                                (k15 (false, ()) w))))
                          (SplitB (decide (s13.1 ≥ (t115.len : Int)))
                            (ReadN Try.prog .addr (V (Instr.indexAt 60 (.slice s7.1.a s7.1.len s7.1.cap) (.int .i64 s11.1))) w.drew fun t165 =>
                            ReadN Try.prog .sl (V (Instr.loadAt 29 (.pointer (some t165)))) w.drew fun t166 =>
                            ReadN Try.prog .addr (V (Instr.indexAt 29 (.slice t166.a t166.len t166.cap) (.int .i64 s13.1))) w.drew fun t168 =>
                            ReadN Try.prog (.int .u8) (V (Instr.loadAt 5 (.pointer (some t168)))) w.drew fun t169 =>
                            CallK Try.prog (.int .u8) 39 #[.int .i64 (IntKind.i64.wrap (s11.1 + 1)), .int .i64 (IntKind.i64.wrap (s13.1 - (t115.len : Int)))] w.drew fun t175 w =>
                            StillV Try.prog (V (Instr.loadAt 5 (.pointer (some t168)))) (.int .u8 t169) w ∧
                            StillV Try.prog (V (Instr.indexAt 29 (.slice t166.a t166.len t166.cap) (.int .i64 s13.1))) (.pointer (some t168)) w ∧
                            StillV Try.prog (V (Instr.loadAt 29 (.pointer (some t165)))) (.slice t166.a t166.len t166.cap) w ∧
                            StillV Try.prog (V (Instr.indexAt 60 (.slice s7.1.a s7.1.len s7.1.cap) (.int .i64 s11.1))) (.pointer (some t165)) w ∧
                            k15 (t169 != (bitXor .u8 t175 85), ()) w)
                            (k15 (false, ()) w.drew)))
                      (k12 (IntKind.i64.wrap (s11.1 + 1), ()) w))
                  (0, ()) w)
                  (K true w))
              (0, ()) w))
          ((⟨none, 0, 0⟩ : Sl), 0, ()) w))
      (0, ()) w))
  (0, ()) w
theorem T23.calls {p0 : Option Addr} {w : World} {K : Bool → World → Prop} (h : T23 p0 w K) : CallK Try.prog .bool 23 #[.pointer p0] w K :=
  bodyZ_sound (κ := kappa) (ann := [(3, [(3, (.int .i64))]), (11, [(4, (.int .i64))]), (16, [(5, (.int .i64))]), (23, [(6, .sl), (7, (.int .i64))]), (30, [(8, .sl), (9, (.int .i64))]), (36, [(10, (.int .i64))]), (42, [(12, (.int .i64))]), (46, [(179, .bool)])]) (fn := Try.f23) Try.func23 rfl (by kernel_rfl) (cast (show T23 p0 w K = bodyZ Try.prog kappa [(3, [(3, (.int .i64))]), (11, [(4, (.int .i64))]), (16, [(5, (.int .i64))]), (23, [(6, .sl), (7, (.int .i64))]), (30, [(8, .sl), (9, (.int .i64))]), (36, [(10, (.int .i64))]), (42, [(12, (.int .i64))]), (46, [(179, .bool)])] .bool Try.f23 [.pointer p0] w K by kernel_rfl) h)

/-- (*sluice/net.Bag).Double -/
def T24 (p0 : Option Addr) (p1 : Int) (w : World) (K : Int → World → Prop) : Prop :=
  CallK Try.prog .bool 29 #[.pointer p0, .int .i64 p1] w fun t8 w =>
  SplitB (!t8)
    (K 40 w)
    (CallK Try.prog .bool 27 #[.pointer p0] w fun t12 w =>
    SplitB t12
      (K 41 w)
      (NilP p0 fun t15 =>
      ReadN Try.prog .sl (V (Instr.loadAt 22 (.pointer (some (t15.add 1))))) w.drew fun t17 =>
      NilP p0 fun t19 =>
      ReadN Try.prog .sl (V (Instr.loadAt 22 (.pointer (some (t19.add 1))))) w.drew fun t21 =>
      ReadN Try.prog .addr (V (Instr.indexAt 22 (.slice t21.a t21.len t21.cap) (.int .i64 p1))) w.drew fun t23 =>
      ReadN Try.prog (.agg (.cons (.int .i64) (.cons (.int .i64) (.cons .sl .nilT)))) (V (Instr.loadAt 31 (.pointer (some t23)))) w.drew fun t24 =>
      CallK Try.prog (.agg (.cons (.int .i64) (.cons (.int .i64) (.cons .sl .nilT)))) 28 #[.agg #[.int .i64 t24.1, .int .i64 t24.2.1, .slice t24.2.2.1.a t24.2.2.1.len t24.2.2.1.cap]] w.drew fun t25 w =>
      StillV Try.prog (V (Instr.loadAt 22 (.pointer (some (t15.add 1))))) (.slice t17.a t17.len t17.cap) w ∧
      RunN Try.prog .sl (V (Instr.buildSlice 22 1 #[(0, .agg #[.int .i64 t25.1, .int .i64 t25.2.1, .slice t25.2.2.1.a t25.2.2.1.len t25.2.2.1.cap])])) w fun t26 w =>
      StillV Try.prog (V (Instr.loadAt 22 (.pointer (some (t15.add 1))))) (.slice t17.a t17.len t17.cap) w ∧
      RunN Try.prog .sl (V (Builtin.append_ #[22, 22] 22 #[.slice t17.a t17.len t17.cap, .slice t26.a t26.len t26.cap])) w fun t27 w =>
      NilP p0 fun t28 =>
      RunU Try.prog (U (Instr.storeAt 22 (.pointer (some (t28.add 1))) (.slice t27.a t27.len t27.cap))) w fun w =>
      K 0 w))
theorem T24.calls {p0 : Option Addr} {p1 : Int} {w : World} {K : Int → World → Prop} (h : T24 p0 p1 w K) : CallK Try.prog (.int .i64) 24 #[.pointer p0, .int .i64 p1] w K :=
  bodyZ_sound (κ := kappa) (ann := []) (fn := Try.f24) Try.func24 rfl (by kernel_rfl) (cast (show T24 p0 p1 w K = bodyZ Try.prog kappa [] (.int .i64) Try.f24 [.pointer p0, .int .i64 p1] w K by kernel_rfl) h)

/-- (*sluice/net.Bag).Drop -/
def T25 (p0 : Option Addr) (p1 : Int) (w : World) (K : Int → World → Prop) : Prop :=
  CallK Try.prog .bool 29 #[.pointer p0, .int .i64 p1] w fun t7 w =>
  SplitB (!t7)
    (K 40 w)
    (CallK Try.prog (.agg (.cons (.int .i64) (.cons (.int .i64) (.cons .sl .nilT)))) 30 #[.pointer p0, .int .i64 p1] w fun t11 w =>
    K 0 w)
theorem T25.calls {p0 : Option Addr} {p1 : Int} {w : World} {K : Int → World → Prop} (h : T25 p0 p1 w K) : CallK Try.prog (.int .i64) 25 #[.pointer p0, .int .i64 p1] w K :=
  bodyZ_sound (κ := kappa) (ann := []) (fn := Try.f25) Try.func25 rfl (by kernel_rfl) (cast (show T25 p0 p1 w K = bodyZ Try.prog kappa [] (.int .i64) Try.f25 [.pointer p0, .int .i64 p1] w K by kernel_rfl) h)

/-- sluice/sluicelaw4.find -/
def T26 (p0 : Sl) (p1 : (Int × Int × Sl × Unit)) (w : World) (K : Int → World → Prop) : Prop :=
  RunN Try.prog .addr (V (Instr.box 31 (.agg #[.int .i64 p1.1, .int .i64 p1.2.1, .slice p1.2.2.1.a p1.2.2.1.len p1.2.2.1.cap]))) w fun t3 w =>
  LoopX (α := Int × Unit) (fun s1 w k2 =>
    SplitB (decide (s1.1 < (p0.len : Int)))
      (ReadN Try.prog .addr (V (Instr.indexAt 22 (.slice p0.a p0.len p0.cap) (.int .i64 s1.1))) w.drew fun t14 =>
      ReadN Try.prog (.agg (.cons (.int .i64) (.cons (.int .i64) (.cons .sl .nilT)))) (V (Instr.loadAt 31 (.pointer (some t14)))) w.drew fun t15 =>
      ReadN Try.prog (.agg (.cons (.int .i64) (.cons (.int .i64) (.cons .sl .nilT)))) (V (Instr.loadAt 31 (.pointer (some t3)))) w.drew fun t16 =>
      CallK Try.prog .bool 14 #[.agg #[.int .i64 t15.1, .int .i64 t15.2.1, .slice t15.2.2.1.a t15.2.2.1.len t15.2.2.1.cap], .agg #[.int .i64 t16.1, .int .i64 t16.2.1, .slice t16.2.2.1.a t16.2.2.1.len t16.2.2.1.cap]] w.drew fun t17 w =>
      SplitB t17
        (K s1.1 w)
        (k2 (IntKind.i64.wrap (s1.1 + 1), ()) w))
      (K (-1) w))
  (0, ()) w
theorem T26.calls {p0 : Sl} {p1 : (Int × Int × Sl × Unit)} {w : World} {K : Int → World → Prop} (h : T26 p0 p1 w K) : CallK Try.prog (.int .i64) 26 #[.slice p0.a p0.len p0.cap, .agg #[.int .i64 p1.1, .int .i64 p1.2.1, .slice p1.2.2.1.a p1.2.2.1.len p1.2.2.1.cap]] w K :=
  bodyZ_sound (κ := kappa) (ann := [(3, [(5, (.int .i64))])]) (fn := Try.f26) Try.func26 rfl (by kernel_rfl) (cast (show T26 p0 p1 w K = bodyZ Try.prog kappa [(3, [(5, (.int .i64))])] (.int .i64) Try.f26 [.slice p0.a p0.len p0.cap, .agg #[.int .i64 p1.1, .int .i64 p1.2.1, .slice p1.2.2.1.a p1.2.2.1.len p1.2.2.1.cap]] w K by kernel_rfl) h)

/-- (*sluice/net.Bag).full -/
def T27 (p0 : Option Addr) (w : World) (K : Bool → World → Prop) : Prop :=
  NilP p0 fun t4 =>
  ReadN Try.prog .sl (V (Instr.loadAt 22 (.pointer (some (t4.add 1))))) w.drew fun t6 =>
  NilP p0 fun t9 =>
  ReadN Try.prog (.int .i64) (V (Instr.loadAt 3 (.pointer (some (t9.add 0))))) w.drew fun t11 =>
  K ((t6.len : Int) == t11) w.drew
theorem T27.calls {p0 : Option Addr} {w : World} {K : Bool → World → Prop} (h : T27 p0 w K) : CallK Try.prog .bool 27 #[.pointer p0] w K :=
  bodyZ_sound (κ := kappa) (ann := []) (fn := Try.f27) Try.func27 rfl (by kernel_rfl) (cast (show T27 p0 w K = bodyZ Try.prog kappa [] .bool Try.f27 [.pointer p0] w K by kernel_rfl) h)

/-- sluice/net.own -/
def T28 (p0 : (Int × Int × Sl × Unit)) (w : World) (K : (Int × Int × Sl × Unit) → World → Prop) : Prop :=
  RunN Try.prog .addr (V (Instr.box 31 (.agg #[.int .i64 p0.1, .int .i64 p0.2.1, .slice p0.2.2.1.a p0.2.2.1.len p0.2.2.1.cap]))) w fun t1 w =>
  RunN Try.prog .addr (V (Instr.alloc 31 true (.tuple #[]))) w fun t2 w =>
  RunN Try.prog .sl (V (Instr.loadAt 29 (.pointer (some (t1.add 2))))) w fun t4 w =>
  CallK Try.prog .sl 40 #[.slice t4.a t4.len t4.cap] w fun t5 w =>
  RunU Try.prog (U (Instr.storeAt 29 (.pointer (some (t1.add 2))) (.slice t5.a t5.len t5.cap))) w fun w =>
  RunN Try.prog (.agg (.cons (.int .i64) (.cons (.int .i64) (.cons .sl .nilT)))) (V (Instr.loadAt 31 (.pointer (some t1)))) w fun t7 w =>
  RunU Try.prog (U (Instr.storeAt 31 (.pointer (some t2)) (.agg #[.int .i64 t7.1, .int .i64 t7.2.1, .slice t7.2.2.1.a t7.2.2.1.len t7.2.2.1.cap]))) w fun w =>
  ReadN Try.prog (.agg (.cons (.int .i64) (.cons (.int .i64) (.cons .sl .nilT)))) (V (Instr.loadAt 31 (.pointer (some t2)))) w fun r0 =>
  K (r0.1, r0.2.1, r0.2.2.1, ()) w
theorem T28.calls {p0 : (Int × Int × Sl × Unit)} {w : World} {K : (Int × Int × Sl × Unit) → World → Prop} (h : T28 p0 w K) : CallK Try.prog (.agg (.cons (.int .i64) (.cons (.int .i64) (.cons .sl .nilT)))) 28 #[.agg #[.int .i64 p0.1, .int .i64 p0.2.1, .slice p0.2.2.1.a p0.2.2.1.len p0.2.2.1.cap]] w K :=
  bodyZ_sound (κ := kappa) (ann := []) (fn := Try.f28) Try.func28 rfl (by kernel_rfl) (cast (show T28 p0 w K = bodyZ Try.prog kappa [] (.agg (.cons (.int .i64) (.cons (.int .i64) (.cons .sl .nilT)))) Try.f28 [.agg #[.int .i64 p0.1, .int .i64 p0.2.1, .slice p0.2.2.1.a p0.2.2.1.len p0.2.2.1.cap]] w K by kernel_rfl) h)

/-- (*sluice/net.Bag).in -/
def T29 (p0 : Option Addr) (p1 : Int) (w : World) (K : Bool → World → Prop) : Prop :=
  SplitB (decide (p1 ≥ 0))
    (NilP p0 fun t10 =>
    RunN Try.prog .sl (V (Instr.loadAt 22 (.pointer (some (t10.add 1))))) w fun t12 w =>
    K (decide (p1 < (t12.len : Int))) w)
    (K false w)
theorem T29.calls {p0 : Option Addr} {p1 : Int} {w : World} {K : Bool → World → Prop} (h : T29 p0 p1 w K) : CallK Try.prog .bool 29 #[.pointer p0, .int .i64 p1] w K :=
  bodyZ_sound (κ := kappa) (ann := []) (fn := Try.f29) Try.func29 rfl (by kernel_rfl) (cast (show T29 p0 p1 w K = bodyZ Try.prog kappa [] .bool Try.f29 [.pointer p0, .int .i64 p1] w K by kernel_rfl) h)

/-- (*sluice/net.Bag).take -/
def T30 (p0 : Option Addr) (p1 : Int) (w : World) (K : (Int × Int × Sl × Unit) → World → Prop) : Prop :=
  RunN Try.prog .addr (V (Instr.alloc 31 true (.tuple #[]))) w fun t4 w =>
  NilP p0 fun t8 =>
  RunN Try.prog .sl (V (Instr.loadAt 22 (.pointer (some (t8.add 1))))) w fun t10 w =>
  RunN Try.prog .addr (V (Instr.indexAt 22 (.slice t10.a t10.len t10.cap) (.int .i64 p1))) w fun t12 w =>
  RunN Try.prog (.agg (.cons (.int .i64) (.cons (.int .i64) (.cons .sl .nilT)))) (V (Instr.loadAt 31 (.pointer (some t12)))) w fun t13 w =>
  RunN Try.prog .addr (V (Instr.alloc 31 true (.tuple #[]))) w fun t5 w =>
  RunU Try.prog (U (Instr.storeAt 31 (.pointer (some t5)) (.agg #[.int .i64 t13.1, .int .i64 t13.2.1, .slice t13.2.2.1.a t13.2.2.1.len t13.2.2.1.cap]))) w fun w =>
  NilP p0 fun t16 =>
  ReadN Try.prog .sl (V (Instr.loadAt 22 (.pointer (some (t16.add 1))))) w.drew fun t18 =>
  ReadN Try.prog .sl (V (Instr.sliceAt 22 (.slice t18.a t18.len t18.cap) (some (.int .i64 p1)) none none)) w.drew fun t20 =>
  NilP p0 fun t22 =>
  ReadN Try.prog .sl (V (Instr.loadAt 22 (.pointer (some (t22.add 1))))) w.drew fun t24 =>
  ReadN Try.prog .sl (V (Instr.sliceAt 22 (.slice t24.a t24.len t24.cap) (some (.int .i64 (IntKind.i64.wrap (p1 + 1)))) none none)) w.drew fun t27 =>
  RunN Try.prog (.int .i64) (V (Builtin.copy_ #[22, 22] 3 #[.slice t20.a t20.len t20.cap, .slice t27.a t27.len t27.cap])) w.drew fun t28 w =>
  NilP p0 fun t31 =>
  RunN Try.prog .sl (V (Instr.loadAt 22 (.pointer (some (t31.add 1))))) w fun t33 w =>
  RunN Try.prog .sl (V (Instr.sliceAt 22 (.slice t33.a t33.len t33.cap) (some (.int .i64 (IntKind.i64.wrap (p1 + t28)))) none none)) w fun t35 w =>
  RunN Try.prog (.tup .nilT) (V (Builtin.clear_ #[22] 0 #[.slice t35.a t35.len t35.cap])) w fun _ w =>
  NilP p0 fun t38 =>
  RunN Try.prog .sl (V (Instr.loadAt 22 (.pointer (some (t38.add 1))))) w fun t40 w =>
  RunN Try.prog .sl (V (Instr.sliceAt 22 (.slice t40.a t40.len t40.cap) none (some (.int .i64 (IntKind.i64.wrap (p1 + t28)))) none)) w fun t42 w =>
  NilP p0 fun t43 =>
  RunU Try.prog (U (Instr.storeAt 22 (.pointer (some (t43.add 1))) (.slice t42.a t42.len t42.cap))) w fun w =>
  RunN Try.prog (.agg (.cons (.int .i64) (.cons (.int .i64) (.cons .sl .nilT)))) (V (Instr.loadAt 31 (.pointer (some t5)))) w fun t45 w =>
  RunU Try.prog (U (Instr.storeAt 31 (.pointer (some t4)) (.agg #[.int .i64 t45.1, .int .i64 t45.2.1, .slice t45.2.2.1.a t45.2.2.1.len t45.2.2.1.cap]))) w fun w =>
  ReadN Try.prog (.agg (.cons (.int .i64) (.cons (.int .i64) (.cons .sl .nilT)))) (V (Instr.loadAt 31 (.pointer (some t4)))) w fun r0 =>
  K (r0.1, r0.2.1, r0.2.2.1, ()) w
theorem T30.calls {p0 : Option Addr} {p1 : Int} {w : World} {K : (Int × Int × Sl × Unit) → World → Prop} (h : T30 p0 p1 w K) : CallK Try.prog (.agg (.cons (.int .i64) (.cons (.int .i64) (.cons .sl .nilT)))) 30 #[.pointer p0, .int .i64 p1] w K :=
  bodyZ_sound (κ := kappa) (ann := []) (fn := Try.f30) Try.func30 rfl (by kernel_rfl) (cast (show T30 p0 p1 w K = bodyZ Try.prog kappa [] (.agg (.cons (.int .i64) (.cons (.int .i64) (.cons .sl .nilT)))) Try.f30 [.pointer p0, .int .i64 p1] w K by kernel_rfl) h)

/-- sluice/sluiceref4.New -/
def T31 (p0 : Int) (w : World) (K : (Option Addr × Int × Unit) → World → Prop) : Prop :=
  JoinX (α := Bool × Unit) (fun j2 w =>
    SplitB j2.1
      (K (none, 1, ()) w)
      (RunN Try.prog .addr (V (Instr.box 72 (.agg #[.int .i64 p0, .slice none 0 0]))) w fun t12 w =>
      K (some t12, 0, ()) w))
  fun k1 =>
    SplitB (decide (p0 < 1))
      (k1 (true, ()) w)
      (k1 (decide (p0 > 1024), ()) w)
theorem T31.calls {p0 : Int} {w : World} {K : (Option Addr × Int × Unit) → World → Prop} (h : T31 p0 w K) : CallK Try.prog (.tup (.cons .ptr (.cons (.int .i64) .nilT))) 31 #[.int .i64 p0] w K :=
  bodyZ_sound (κ := kappa) (ann := [(2, [(9, .bool)])]) (fn := Try.f31) Try.func31 rfl (by kernel_rfl) (cast (show T31 p0 w K = bodyZ Try.prog kappa [(2, [(9, .bool)])] (.tup (.cons .ptr (.cons (.int .i64) .nilT))) Try.f31 [.int .i64 p0] w K by kernel_rfl) h)

/-- (*sluice/sluicelaw4.pair).sends -/
def T32 (p0 : Option Addr) (p1 : (Int × Int × Sl × Unit)) (w : World) (K : Bool → World → Prop) : Prop :=
  RunN Try.prog .addr (V (Instr.box 31 (.agg #[.int .i64 p1.1, .int .i64 p1.2.1, .slice p1.2.2.1.a p1.2.2.1.len p1.2.2.1.cap]))) w fun t3 w =>
  RunN Try.prog .sl (V (Instr.loadAt 29 (.pointer (some (t3.add 2))))) w fun t12 w =>
  RunN Try.prog .sl (V (Instr.loadAt 29 (.pointer (some (t3.add 2))))) w fun t15 w =>
  RunN Try.prog .sl (V (Builtin.append_ #[29, 29] 29 #[.slice none 0 0, .slice t15.a t15.len t15.cap])) w fun t16 w =>
  RunN Try.prog .sl (V (Instr.buildSlice 29 2 #[(0, .int .u8 167), (1, .int .u8 182)])) w fun t18 w =>
  RunN Try.prog .sl (V (Builtin.append_ #[29, 29] 29 #[.slice t16.a t16.len t16.cap, .slice t18.a t18.len t18.cap])) w fun t19 w =>
  JoinX (α := Sl × Unit) (fun j2 w =>
    NilP p0 fun t40 =>
    RunU Try.prog (U (Instr.storeAt 29 (.pointer (some (t40.add 5))) (.slice j2.1.a j2.1.len j2.1.cap))) w fun w =>
    NilP p0 fun t43 =>
    ReadN Try.prog .ptr (V (Instr.loadAt 23 (.pointer (some (t43.add 0))))) w.drew fun t45 =>
    ReadN Try.prog (.int .i64) (V (Instr.loadAt 3 (.pointer (some (t3.add 0))))) w.drew fun t47 =>
    ReadN Try.prog (.int .i64) (V (Instr.loadAt 3 (.pointer (some (t3.add 1))))) w.drew fun t49 =>
    ReadN Try.prog .sl (V (Instr.sliceAt 29 (.slice j2.1.a j2.1.len j2.1.cap) none (some (.int .i64 (t12.len : Int))) none)) w.drew fun t52 =>
    CallK Try.prog (.int .i64) 10 #[.pointer t45, .agg #[.int .i64 t47, .int .i64 t49, .slice t52.a t52.len t52.cap]] w.drew fun t54 w =>
    NilP p0 fun t56 =>
    ReadN Try.prog .ptr (V (Instr.loadAt 57 (.pointer (some (t56.add 1))))) w.drew fun t58 =>
    ReadN Try.prog (.agg (.cons (.int .i64) (.cons (.int .i64) (.cons .sl .nilT)))) (V (Instr.loadAt 31 (.pointer (some t3)))) w.drew fun t59 =>
    CallK Try.prog (.int .i64) 41 #[.pointer t58, .agg #[.int .i64 t59.1, .int .i64 t59.2.1, .slice t59.2.2.1.a t59.2.2.1.len t59.2.2.1.cap]] w.drew fun t60 w =>
    JoinX (α := Bool × Unit) (fun j4 w =>
      LoopX (α := Int × Unit) (fun s5 w k6 =>
        SplitB (decide (s5.1 < (j2.1.len : Int)))
          (RunN Try.prog .addr (V (Instr.indexAt 29 (.slice j2.1.a j2.1.len j2.1.cap) (.int .i64 s5.1))) w fun t95 w =>
          RunU Try.prog (U (Instr.storeAt 5 (.pointer (some t95)) (.int .u8 (IntKind.u8.wrap (IntKind.i64.wrap (50 + s5.1)))))) w fun w =>
          k6 (IntKind.i64.wrap (s5.1 + 1), ()) w)
          (CallK Try.prog (.int .i64) 9 #[.int .i64 t54] w fun t97 w =>
          SplitB (t97 == t60)
            (K j4.1 w)
            (K false w)))
      (0, ()) w)
    fun k3 =>
      ReadN Try.prog .sl (V (Instr.sliceAt 29 (.slice j2.1.a j2.1.len j2.1.cap) none (some (.int .i64 (t12.len : Int))) none)) w.drew fun t63 =>
      ReadN Try.prog .str (V (convert 29 9 (.slice t63.a t63.len t63.cap))) w.drew fun t64 =>
      ReadN Try.prog .sl (V (Instr.loadAt 29 (.pointer (some (t3.add 2))))) w.drew fun t66 =>
      ReadN Try.prog .str (V (convert 29 9 (.slice t66.a t66.len t66.cap))) w.drew fun t67 =>
      SplitB (t64.toList == t67.toList)
        (ReadN Try.prog .addr (V (Instr.indexAt 29 (.slice j2.1.a j2.1.len j2.1.cap) (.int .i64 (t12.len : Int)))) w.drew fun t72 =>
        ReadN Try.prog (.int .u8) (V (Instr.loadAt 5 (.pointer (some t72)))) w.drew fun t73 =>
        SplitB (t73 == 167)
          (ReadN Try.prog .addr (V (Instr.indexAt 29 (.slice j2.1.a j2.1.len j2.1.cap) (.int .i64 (IntKind.i64.wrap ((t12.len : Int) + 1))))) w.drew fun t80 =>
          ReadN Try.prog (.int .u8) (V (Instr.loadAt 5 (.pointer (some t80)))) w.drew fun t81 =>
          k3 (t81 == 182, ()) w.drew)
          (k3 (false, ()) w.drew))
        (k3 (false, ()) w.drew))
  fun k1 =>
    NilP p0 fun t21 =>
    RunN Try.prog .sl (V (Instr.loadAt 29 (.pointer (some (t21.add 5))))) w fun t23 w =>
    SplitB ((t23.len : Int) == (t19.len : Int))
      (NilP p0 fun t29 =>
      RunN Try.prog .sl (V (Instr.loadAt 29 (.pointer (some (t29.add 5))))) w fun t31 w =>
      RunN Try.prog (.int .i64) (V (Builtin.copy_ #[29, 29] 3 #[.slice t31.a t31.len t31.cap, .slice t19.a t19.len t19.cap])) w fun t33 w =>
      NilP p0 fun t35 =>
      RunN Try.prog .sl (V (Instr.loadAt 29 (.pointer (some (t35.add 5))))) w fun t37 w =>
      k1 (t37, ()) w)
      (k1 (t19, ()) w)
theorem T32.calls {p0 : Option Addr} {p1 : (Int × Int × Sl × Unit)} {w : World} {K : Bool → World → Prop} (h : T32 p0 p1 w K) : CallK Try.prog .bool 32 #[.pointer p0, .agg #[.int .i64 p1.1, .int .i64 p1.2.1, .slice p1.2.2.1.a p1.2.2.1.len p1.2.2.1.cap]] w K :=
  bodyZ_sound (κ := kappa) (ann := [(4, [(6, .sl)]), (10, [(9, .bool)]), (13, [(10, (.int .i64))])]) (fn := Try.f32) Try.func32 rfl (by kernel_rfl) (cast (show T32 p0 p1 w K = bodyZ Try.prog kappa [(4, [(6, .sl)]), (10, [(9, .bool)]), (13, [(10, (.int .i64))])] .bool Try.f32 [.pointer p0, .agg #[.int .i64 p1.1, .int .i64 p1.2.1, .slice p1.2.2.1.a p1.2.2.1.len p1.2.2.1.cap]] w K by kernel_rfl) h)

/-- (*sluice/sluiceref4.Bag).Deliver -/
def T33 (p0 : Option Addr) (p1 : Int) (w : World) (K : ((Int × Int × Sl × Unit) × Int × Unit) → World → Prop) : Prop :=
  RunN Try.prog .addr (V (Instr.alloc 31 true (.tuple #[]))) w fun t4 w =>
  CallK Try.prog (.tup (.cons (.agg (.cons (.int .i64) (.cons (.int .i64) (.cons .sl .nilT)))) (.cons (.int .i64) .nilT))) 38 #[.pointer p0, .int .i64 p1] w fun t11 w =>
  RunN Try.prog .addr (V (Instr.alloc 31 true (.tuple #[]))) w fun t6 w =>
  RunU Try.prog (U (Instr.storeAt 31 (.pointer (some t6)) (.agg #[.int .i64 t11.1.1, .int .i64 t11.1.2.1, .slice t11.1.2.2.1.a t11.1.2.2.1.len t11.1.2.2.1.cap]))) w fun w =>
  JoinX (α := Unit) (fun j2 w =>
    RunN Try.prog (.agg (.cons (.int .i64) (.cons (.int .i64) (.cons .sl .nilT)))) (V (Instr.loadAt 31 (.pointer (some t6)))) w fun t22 w =>
    RunU Try.prog (U (Instr.storeAt 31 (.pointer (some t4)) (.agg #[.int .i64 t22.1, .int .i64 t22.2.1, .slice t22.2.2.1.a t22.2.2.1.len t22.2.2.1.cap]))) w fun w =>
    ReadN Try.prog (.agg (.cons (.int .i64) (.cons (.int .i64) (.cons .sl .nilT)))) (V (Instr.loadAt 31 (.pointer (some t4)))) w fun r0 =>
    K ((r0.1, r0.2.1, r0.2.2.1, ()), t11.2.1, ()) w)
  fun k1 =>
    SplitB (t11.2.1 == 0)
      (CallK Try.prog .sl 42 #[.pointer p0, .int .i64 p1] w fun t19 w =>
      NilP p0 fun t20 =>
      RunU Try.prog (U (Instr.storeAt 22 (.pointer (some (t20.add 1))) (.slice t19.a t19.len t19.cap))) w fun w =>
      k1 () w)
      (k1 () w)
theorem T33.calls {p0 : Option Addr} {p1 : Int} {w : World} {K : ((Int × Int × Sl × Unit) × Int × Unit) → World → Prop} (h : T33 p0 p1 w K) : CallK Try.prog (.tup (.cons (.agg (.cons (.int .i64) (.cons (.int .i64) (.cons .sl .nilT)))) (.cons (.int .i64) .nilT))) 33 #[.pointer p0, .int .i64 p1] w K :=
  bodyZ_sound (κ := kappa) (ann := [(2, [])]) (fn := Try.f33) Try.func33 rfl (by kernel_rfl) (cast (show T33 p0 p1 w K = bodyZ Try.prog kappa [(2, [])] (.tup (.cons (.agg (.cons (.int .i64) (.cons (.int .i64) (.cons .sl .nilT)))) (.cons (.int .i64) .nilT))) Try.f33 [.pointer p0, .int .i64 p1] w K by kernel_rfl) h)

/-- (*sluice/sluicelaw4.pair).letter -/
def T34 (p0 : Option Addr) (p1 : (Int × Int × Sl × Unit)) (p2 : Int) (p3 : (Int × Int × Sl × Unit)) (p4 : Int) (w : World) (K : Bool → World → Prop) : Prop :=
  RunN Try.prog .addr (V (Instr.box 31 (.agg #[.int .i64 p1.1, .int .i64 p1.2.1, .slice p1.2.2.1.a p1.2.2.1.len p1.2.2.1.cap]))) w fun t6 w =>
  RunN Try.prog .addr (V (Instr.box 31 (.agg #[.int .i64 p3.1, .int .i64 p3.2.1, .slice p3.2.2.1.a p3.2.2.1.len p3.2.2.1.cap]))) w fun t8 w =>
  JoinX (α := Bool × Unit) (fun j2 w =>
    NilP p0 fun t25 =>
    RunN Try.prog (.int .i64) (V (Instr.loadAt 3 (.pointer (some (t25.add 8))))) w fun t27 w =>
    NilP p0 fun t29 =>
    RunU Try.prog (U (Instr.storeAt 3 (.pointer (some (t29.add 8))) (.int .i64 (IntKind.i64.wrap (t27 + 1))))) w fun w =>
    JoinX (α := Bool × Unit) (fun j4 w =>
      SplitB j4.1
        (NilP p0 fun t50 =>
        ReadN Try.prog (.int .i64) (V (Instr.loadAt 3 (.pointer (some (t50.add 9))))) w.drew fun t52 =>
        ReadN Try.prog .sl (V (Instr.loadAt 29 (.pointer (some (t6.add 2))))) w.drew fun t54 =>
        NilP p0 fun t57 =>
        RunU Try.prog (U (Instr.storeAt 3 (.pointer (some (t57.add 9))) (.int .i64 (IntKind.i64.wrap (t52 + (t54.len : Int)))))) w.drew fun w =>
        NilP p0 fun t61 =>
        ReadN Try.prog .sl (V (Instr.loadAt 60 (.pointer (some (t61.add 6))))) w.drew fun t63 =>
        ReadN Try.prog .sl (V (Instr.loadAt 29 (.pointer (some (t6.add 2))))) w.drew fun t65 =>
        RunN Try.prog .sl (V (Instr.buildSlice 60 1 #[(0, .slice t65.a t65.len t65.cap)])) w.drew fun t66 w =>
        StillV Try.prog (V (Instr.loadAt 60 (.pointer (some (t61.add 6))))) (.slice t63.a t63.len t63.cap) w ∧
        RunN Try.prog .sl (V (Builtin.append_ #[60, 60] 60 #[.slice t63.a t63.len t63.cap, .slice t66.a t66.len t66.cap])) w fun t67 w =>
        NilP p0 fun t68 =>
        RunU Try.prog (U (Instr.storeAt 60 (.pointer (some (t68.add 6))) (.slice t67.a t67.len t67.cap))) w fun w =>
        NilP p0 fun t72 =>
        ReadN Try.prog .sl (V (Instr.loadAt 62 (.pointer (some (t72.add 7))))) w.drew fun t74 =>
        ReadN Try.prog .sl (V (Instr.loadAt 29 (.pointer (some (t6.add 2))))) w.drew fun t76 =>
        ReadN Try.prog .str (V (convert 29 9 (.slice t76.a t76.len t76.cap))) w.drew fun t77 =>
        RunN Try.prog .sl (V (Instr.buildSlice 62 1 #[(0, .string t77)])) w.drew fun t78 w =>
        StillV Try.prog (V (Instr.loadAt 62 (.pointer (some (t72.add 7))))) (.slice t74.a t74.len t74.cap) w ∧
        RunN Try.prog .sl (V (Builtin.append_ #[62, 62] 62 #[.slice t74.a t74.len t74.cap, .slice t78.a t78.len t78.cap])) w fun t79 w =>
        NilP p0 fun t80 =>
        RunU Try.prog (U (Instr.storeAt 62 (.pointer (some (t80.add 7))) (.slice t79.a t79.len t79.cap))) w fun w =>
        K j2.1 w)
        (NilP p0 fun t84 =>
        RunN Try.prog (.int .i64) (V (Instr.loadAt 3 (.pointer (some (t84.add 3))))) w fun t86 w =>
        NilP p0 fun t88 =>
        RunU Try.prog (U (Instr.storeAt 3 (.pointer (some (t88.add 3))) (.int .i64 (IntKind.i64.wrap (t86 + 1))))) w fun w =>
        LoopX (α := Int × Unit) (fun s5 w k6 =>
          RunN Try.prog .sl (V (Instr.loadAt 29 (.pointer (some (t6.add 2))))) w fun t92 w =>
          SplitB (decide (s5.1 < (t92.len : Int)))
            (ReadN Try.prog .sl (V (Instr.loadAt 29 (.pointer (some (t6.add 2))))) w.drew fun t98 =>
            NilP p0 fun t101 =>
            ReadN Try.prog (.int .i64) (V (Instr.loadAt 3 (.pointer (some (t101.add 3))))) w.drew fun t103 =>
            ReadN Try.prog .addr (V (Instr.indexAt 29 (.slice t98.a t98.len t98.cap) (.int .i64 s5.1))) w.drew fun t105 =>
            RunU Try.prog (U (Instr.storeAt 5 (.pointer (some t105)) (.int .u8 (IntKind.u8.wrap t103)))) w.drew fun w =>
            k6 (IntKind.i64.wrap (s5.1 + 1), ()) w)
            (NilP p0 fun t108 =>
            ReadN Try.prog .sl (V (Instr.loadAt 60 (.pointer (some (t108.add 2))))) w.drew fun t110 =>
            ReadN Try.prog .sl (V (Instr.loadAt 29 (.pointer (some (t6.add 2))))) w.drew fun t112 =>
            RunN Try.prog .sl (V (Instr.buildSlice 60 1 #[(0, .slice t112.a t112.len t112.cap)])) w.drew fun t113 w =>
            StillV Try.prog (V (Instr.loadAt 60 (.pointer (some (t108.add 2))))) (.slice t110.a t110.len t110.cap) w ∧
            RunN Try.prog .sl (V (Builtin.append_ #[60, 60] 60 #[.slice t110.a t110.len t110.cap, .slice t113.a t113.len t113.cap])) w fun t114 w =>
            NilP p0 fun t115 =>
            RunU Try.prog (U (Instr.storeAt 60 (.pointer (some (t115.add 2))) (.slice t114.a t114.len t114.cap))) w fun w =>
            NilP p0 fun t119 =>
            ReadN Try.prog .sl (V (Instr.loadAt 61 (.pointer (some (t119.add 4))))) w.drew fun t121 =>
            NilP p0 fun t123 =>
            ReadN Try.prog (.int .i64) (V (Instr.loadAt 3 (.pointer (some (t123.add 3))))) w.drew fun t125 =>
            RunN Try.prog .sl (V (Instr.buildSlice 61 1 #[(0, .int .i64 t125)])) w.drew fun t126 w =>
            StillV Try.prog (V (Instr.loadAt 61 (.pointer (some (t119.add 4))))) (.slice t121.a t121.len t121.cap) w ∧
            RunN Try.prog .sl (V (Builtin.append_ #[61, 61] 61 #[.slice t121.a t121.len t121.cap, .slice t126.a t126.len t126.cap])) w fun t127 w =>
            NilP p0 fun t128 =>
            RunU Try.prog (U (Instr.storeAt 61 (.pointer (some (t128.add 4))) (.slice t127.a t127.len t127.cap))) w fun w =>
            JoinX (α := Unit) (fun j8 w =>
              RunN Try.prog .sl (V (Instr.loadAt 29 (.pointer (some (t6.add 2))))) w fun t153 w =>
              LoopX (α := Sl × Int × Unit) (fun s9 w k10 =>
                SplitB (decide (s9.2.1 < 83))
                  (RunN Try.prog .sl (V (Instr.buildSlice 29 1 #[(0, .int .u8 (IntKind.u8.wrap (IntKind.i64.wrap (210 + (Int.tmod s9.2.1 9)))))])) w fun t163 w =>
                  RunN Try.prog .sl (V (Builtin.append_ #[29, 29] 29 #[.slice s9.1.a s9.1.len s9.1.cap, .slice t163.a t163.len t163.cap])) w fun t164 w =>
                  k10 (t164, IntKind.i64.wrap (s9.2.1 + 1), ()) w)
                  (SplitB j2.1
                    (RunN Try.prog .sl (V (Instr.loadAt 29 (.pointer (some (t8.add 2))))) w fun t170 w =>
                    K ((s9.1.len : Int) == (IntKind.i64.wrap ((t170.len : Int) + 83))) w)
                    (K false w)))
              (t153, 0, ()) w)
            fun k7 =>
              NilP p0 fun t131 =>
              RunN Try.prog .sl (V (Instr.loadAt 60 (.pointer (some (t131.add 2))))) w fun t133 w =>
              SplitB (decide ((t133.len : Int) > 6))
                (NilP p0 fun t138 =>
                RunN Try.prog .sl (V (Instr.loadAt 60 (.pointer (some (t138.add 2))))) w fun t140 w =>
                RunN Try.prog .sl (V (Instr.sliceAt 60 (.slice t140.a t140.len t140.cap) (some (.int .i64 1)) none none)) w fun t141 w =>
                NilP p0 fun t142 =>
                RunU Try.prog (U (Instr.storeAt 60 (.pointer (some (t142.add 2))) (.slice t141.a t141.len t141.cap))) w fun w =>
                NilP p0 fun t146 =>
                RunN Try.prog .sl (V (Instr.loadAt 61 (.pointer (some (t146.add 4))))) w fun t148 w =>
                RunN Try.prog .sl (V (Instr.sliceAt 61 (.slice t148.a t148.len t148.cap) (some (.int .i64 1)) none none)) w fun t149 w =>
                NilP p0 fun t150 =>
                RunU Try.prog (U (Instr.storeAt 61 (.pointer (some (t150.add 4))) (.slice t149.a t149.len t149.cap))) w fun w =>
                k7 () w)
                (k7 () w)))
        (0, ()) w))
    fun k3 =>
      NilP p0 fun t32 =>
      ReadN Try.prog (.int .i64) (V (Instr.loadAt 3 (.pointer (some (t32.add 8))))) w.drew fun t34 =>
      SplitB ((Int.tmod t34 3) != 0)
        (ReadN Try.prog .sl (V (Instr.loadAt 29 (.pointer (some (t6.add 2))))) w.drew fun t39 =>
        NilP p0 fun t42 =>
        ReadN Try.prog (.int .i64) (V (Instr.loadAt 3 (.pointer (some (t42.add 9))))) w.drew fun t44 =>
        k3 (decide ((t39.len : Int) ≤ (IntKind.i64.wrap (4194304 - t44))), ()) w.drew)
        (k3 (false, ()) w.drew))
  fun k1 =>
    CallK Try.prog (.int .i64) 9 #[.int .i64 p2] w fun t16 w =>
    SplitB (t16 == p4)
      (RunN Try.prog (.agg (.cons (.int .i64) (.cons (.int .i64) (.cons .sl .nilT)))) (V (Instr.loadAt 31 (.pointer (some t6)))) w fun t20 w =>
      RunN Try.prog (.agg (.cons (.int .i64) (.cons (.int .i64) (.cons .sl .nilT)))) (V (Instr.loadAt 31 (.pointer (some t8)))) w fun t21 w =>
      CallK Try.prog .bool 14 #[.agg #[.int .i64 t20.1, .int .i64 t20.2.1, .slice t20.2.2.1.a t20.2.2.1.len t20.2.2.1.cap], .agg #[.int .i64 t21.1, .int .i64 t21.2.1, .slice t21.2.2.1.a t21.2.2.1.len t21.2.2.1.cap]] w fun t22 w =>
      k1 (t22, ()) w)
      (k1 (false, ()) w)
theorem T34.calls {p0 : Option Addr} {p1 : (Int × Int × Sl × Unit)} {p2 : Int} {p3 : (Int × Int × Sl × Unit)} {p4 : Int} {w : World} {K : Bool → World → Prop} (h : T34 p0 p1 p2 p3 p4 w K) : CallK Try.prog .bool 34 #[.pointer p0, .agg #[.int .i64 p1.1, .int .i64 p1.2.1, .slice p1.2.2.1.a p1.2.2.1.len p1.2.2.1.cap], .int .i64 p2, .agg #[.int .i64 p3.1, .int .i64 p3.2.1, .slice p3.2.2.1.a p3.2.2.1.len p3.2.2.1.cap], .int .i64 p4] w K :=
  bodyZ_sound (κ := kappa) (ann := [(1, [(11, .bool)]), (4, [(47, .bool)]), (12, [(12, (.int .i64))]), (18, []), (24, [(13, .sl), (14, (.int .i64))])]) (fn := Try.f34) Try.func34 rfl (by kernel_rfl) (cast (show T34 p0 p1 p2 p3 p4 w K = bodyZ Try.prog kappa [(1, [(11, .bool)]), (4, [(47, .bool)]), (12, [(12, (.int .i64))]), (18, []), (24, [(13, .sl), (14, (.int .i64))])] .bool Try.f34 [.pointer p0, .agg #[.int .i64 p1.1, .int .i64 p1.2.1, .slice p1.2.2.1.a p1.2.2.1.len p1.2.2.1.cap], .int .i64 p2, .agg #[.int .i64 p3.1, .int .i64 p3.2.1, .slice p3.2.2.1.a p3.2.2.1.len p3.2.2.1.cap], .int .i64 p4] w K by kernel_rfl) h)

/-- (*sluice/sluiceref4.Bag).Drop -/
def T35 (p0 : Option Addr) (p1 : Int) (w : World) (K : Int → World → Prop) : Prop :=
  CallK Try.prog .bool 43 #[.pointer p0, .int .i64 p1] w fun t8 w =>
  SplitB (!t8)
    (K 40 w)
    (CallK Try.prog .sl 42 #[.pointer p0, .int .i64 p1] w fun t14 w =>
    NilP p0 fun t15 =>
    RunU Try.prog (U (Instr.storeAt 22 (.pointer (some (t15.add 1))) (.slice t14.a t14.len t14.cap))) w fun w =>
    K 0 w)
theorem T35.calls {p0 : Option Addr} {p1 : Int} {w : World} {K : Int → World → Prop} (h : T35 p0 p1 w K) : CallK Try.prog (.int .i64) 35 #[.pointer p0, .int .i64 p1] w K :=
  bodyZ_sound (κ := kappa) (ann := []) (fn := Try.f35) Try.func35 rfl (by kernel_rfl) (cast (show T35 p0 p1 w K = bodyZ Try.prog kappa [] (.int .i64) Try.f35 [.pointer p0, .int .i64 p1] w K by kernel_rfl) h)

/-- (*sluice/sluiceref4.Bag).Double -/
def T36 (p0 : Option Addr) (p1 : Int) (w : World) (K : Int → World → Prop) : Prop :=
  CallK Try.prog (.tup (.cons (.agg (.cons (.int .i64) (.cons (.int .i64) (.cons .sl .nilT)))) (.cons (.int .i64) .nilT))) 38 #[.pointer p0, .int .i64 p1] w fun t10 w =>
  RunN Try.prog .addr (V (Instr.alloc 31 true (.tuple #[]))) w fun t5 w =>
  RunU Try.prog (U (Instr.storeAt 31 (.pointer (some t5)) (.agg #[.int .i64 t10.1.1, .int .i64 t10.1.2.1, .slice t10.1.2.2.1.a t10.1.2.2.1.len t10.1.2.2.1.cap]))) w fun w =>
  SplitB (t10.2.1 != 0)
    (K t10.2.1 w)
    (NilP p0 fun t17 =>
    ReadN Try.prog .sl (V (Instr.loadAt 22 (.pointer (some (t17.add 1))))) w.drew fun t19 =>
    NilP p0 fun t22 =>
    ReadN Try.prog (.int .i64) (V (Instr.loadAt 3 (.pointer (some (t22.add 0))))) w.drew fun t24 =>
    SplitB (decide ((t19.len : Int) ≥ t24))
      (K 41 w.drew)
      (NilP p0 fun t28 =>
      ReadN Try.prog .sl (V (Instr.loadAt 22 (.pointer (some (t28.add 1))))) w.drew.drew fun t30 =>
      ReadN Try.prog (.agg (.cons (.int .i64) (.cons (.int .i64) (.cons .sl .nilT)))) (V (Instr.loadAt 31 (.pointer (some t5)))) w.drew.drew fun t31 =>
      RunN Try.prog .sl (V (Instr.buildSlice 22 1 #[(0, .agg #[.int .i64 t31.1, .int .i64 t31.2.1, .slice t31.2.2.1.a t31.2.2.1.len t31.2.2.1.cap])])) w.drew.drew fun t32 w =>
      StillV Try.prog (V (Instr.loadAt 22 (.pointer (some (t28.add 1))))) (.slice t30.a t30.len t30.cap) w ∧
      RunN Try.prog .sl (V (Builtin.append_ #[22, 22] 22 #[.slice t30.a t30.len t30.cap, .slice t32.a t32.len t32.cap])) w fun t33 w =>
      NilP p0 fun t34 =>
      RunU Try.prog (U (Instr.storeAt 22 (.pointer (some (t34.add 1))) (.slice t33.a t33.len t33.cap))) w fun w =>
      K 0 w))
theorem T36.calls {p0 : Option Addr} {p1 : Int} {w : World} {K : Int → World → Prop} (h : T36 p0 p1 w K) : CallK Try.prog (.int .i64) 36 #[.pointer p0, .int .i64 p1] w K :=
  bodyZ_sound (κ := kappa) (ann := []) (fn := Try.f36) Try.func36 rfl (by kernel_rfl) (cast (show T36 p0 p1 w K = bodyZ Try.prog kappa [] (.int .i64) Try.f36 [.pointer p0, .int .i64 p1] w K by kernel_rfl) h)

/-- (*sluice/sluiceref4.Bag).Move -/
def T37 (p0 : Option Addr) (p1 : Int) (p2 : Int) (w : World) (K : Int → World → Prop) : Prop :=
  JoinX (α := Bool × Unit) (fun j2 w =>
    SplitB (!j2.1)
      (K 40 w)
      (CallK Try.prog .sl 42 #[.pointer p0, .int .i64 p1] w fun t23 w =>
      LoopX (α := Sl × Int × Unit) (fun s3 w k4 =>
        SplitB (decide (s3.2.1 ≤ (t23.len : Int)))
          (JoinX (α := Sl × Unit) (fun j6 w =>
            k4 (j6.1, IntKind.i64.wrap (s3.2.1 + 1), ()) w)
          fun k5 =>
            JoinX (α := Sl × Unit) (fun j8 w =>
              SplitB (decide (s3.2.1 < (t23.len : Int)))
                (RunN Try.prog .addr (V (Instr.indexAt 22 (.slice t23.a t23.len t23.cap) (.int .i64 s3.2.1))) w fun t50 w =>
                RunN Try.prog (.agg (.cons (.int .i64) (.cons (.int .i64) (.cons .sl .nilT)))) (V (Instr.loadAt 31 (.pointer (some t50)))) w fun t51 w =>
                RunN Try.prog .sl (V (Instr.buildSlice 22 1 #[(0, .agg #[.int .i64 t51.1, .int .i64 t51.2.1, .slice t51.2.2.1.a t51.2.2.1.len t51.2.2.1.cap])])) w fun t52 w =>
                RunN Try.prog .sl (V (Builtin.append_ #[22, 22] 22 #[.slice j8.1.a j8.1.len j8.1.cap, .slice t52.a t52.len t52.cap])) w fun t53 w =>
                k5 (t53, ()) w)
                (k5 (j8.1, ()) w))
            fun k7 =>
              SplitB (s3.2.1 == p2)
                (NilP p0 fun t35 =>
                RunN Try.prog .sl (V (Instr.loadAt 22 (.pointer (some (t35.add 1))))) w fun t37 w =>
                RunN Try.prog .addr (V (Instr.indexAt 22 (.slice t37.a t37.len t37.cap) (.int .i64 p1))) w fun t39 w =>
                RunN Try.prog (.agg (.cons (.int .i64) (.cons (.int .i64) (.cons .sl .nilT)))) (V (Instr.loadAt 31 (.pointer (some t39)))) w fun t40 w =>
                RunN Try.prog .sl (V (Instr.buildSlice 22 1 #[(0, .agg #[.int .i64 t40.1, .int .i64 t40.2.1, .slice t40.2.2.1.a t40.2.2.1.len t40.2.2.1.cap])])) w fun t41 w =>
                RunN Try.prog .sl (V (Builtin.append_ #[22, 22] 22 #[.slice s3.1.a s3.1.len s3.1.cap, .slice t41.a t41.len t41.cap])) w fun t42 w =>
                k7 (t42, ()) w)
                (k7 (s3.1, ()) w))
          (NilP p0 fun t56 =>
          RunU Try.prog (U (Instr.storeAt 22 (.pointer (some (t56.add 1))) (.slice s3.1.a s3.1.len s3.1.cap))) w fun w =>
          K 0 w))
      ((⟨none, 0, 0⟩ : Sl), 0, ()) w))
  fun k1 =>
    CallK Try.prog .bool 43 #[.pointer p0, .int .i64 p1] w fun t13 w =>
    SplitB t13
      (CallK Try.prog .bool 43 #[.pointer p0, .int .i64 p2] w fun t17 w =>
      k1 (t17, ()) w)
      (k1 (false, ()) w)
theorem T37.calls {p0 : Option Addr} {p1 : Int} {p2 : Int} {w : World} {K : Int → World → Prop} (h : T37 p0 p1 p2 w K) : CallK Try.prog (.int .i64) 37 #[.pointer p0, .int .i64 p1, .int .i64 p2] w K :=
  bodyZ_sound (κ := kappa) (ann := [(1, [(7, .bool)]), (9, [(9, .sl), (10, (.int .i64))]), (12, [(9, .sl)]), (13, [(9, .sl)])]) (fn := Try.f37) Try.func37 rfl (by kernel_rfl) (cast (show T37 p0 p1 p2 w K = bodyZ Try.prog kappa [(1, [(7, .bool)]), (9, [(9, .sl), (10, (.int .i64))]), (12, [(9, .sl)]), (13, [(9, .sl)])] (.int .i64) Try.f37 [.pointer p0, .int .i64 p1, .int .i64 p2] w K by kernel_rfl) h)

/-- (*sluice/sluiceref4.Bag).At -/
def T38 (p0 : Option Addr) (p1 : Int) (w : World) (K : ((Int × Int × Sl × Unit) × Int × Unit) → World → Prop) : Prop :=
  RunN Try.prog .addr (V (Instr.alloc 31 true (.tuple #[]))) w fun t4 w =>
  CallK Try.prog .bool 43 #[.pointer p0, .int .i64 p1] w fun t9 w =>
  SplitB (!t9)
    (RunU Try.prog (U (Instr.storeAt 31 (.pointer (some t4)) (.agg #[.int .i64 0, .int .i64 0, .slice none 0 0]))) w fun w =>
    ReadN Try.prog (.agg (.cons (.int .i64) (.cons (.int .i64) (.cons .sl .nilT)))) (V (Instr.loadAt 31 (.pointer (some t4)))) w fun r0 =>
    K ((r0.1, r0.2.1, r0.2.2.1, ()), 40, ()) w)
    (NilP p0 fun t14 =>
    RunN Try.prog .sl (V (Instr.loadAt 22 (.pointer (some (t14.add 1))))) w fun t16 w =>
    RunN Try.prog .addr (V (Instr.indexAt 22 (.slice t16.a t16.len t16.cap) (.int .i64 p1))) w fun t18 w =>
    RunN Try.prog (.agg (.cons (.int .i64) (.cons (.int .i64) (.cons .sl .nilT)))) (V (Instr.loadAt 31 (.pointer (some t18)))) w fun t19 w =>
    CallK Try.prog (.agg (.cons (.int .i64) (.cons (.int .i64) (.cons .sl .nilT)))) 44 #[.agg #[.int .i64 t19.1, .int .i64 t19.2.1, .slice t19.2.2.1.a t19.2.2.1.len t19.2.2.1.cap]] w fun t20 w =>
    RunU Try.prog (U (Instr.storeAt 31 (.pointer (some t4)) (.agg #[.int .i64 t20.1, .int .i64 t20.2.1, .slice t20.2.2.1.a t20.2.2.1.len t20.2.2.1.cap]))) w fun w =>
    ReadN Try.prog (.agg (.cons (.int .i64) (.cons (.int .i64) (.cons .sl .nilT)))) (V (Instr.loadAt 31 (.pointer (some t4)))) w fun r0 =>
    K ((r0.1, r0.2.1, r0.2.2.1, ()), 0, ()) w)
theorem T38.calls {p0 : Option Addr} {p1 : Int} {w : World} {K : ((Int × Int × Sl × Unit) × Int × Unit) → World → Prop} (h : T38 p0 p1 w K) : CallK Try.prog (.tup (.cons (.agg (.cons (.int .i64) (.cons (.int .i64) (.cons .sl .nilT)))) (.cons (.int .i64) .nilT))) 38 #[.pointer p0, .int .i64 p1] w K :=
  bodyZ_sound (κ := kappa) (ann := []) (fn := Try.f38) Try.func38 rfl (by kernel_rfl) (cast (show T38 p0 p1 w K = bodyZ Try.prog kappa [] (.tup (.cons (.agg (.cons (.int .i64) (.cons (.int .i64) (.cons .sl .nilT)))) (.cons (.int .i64) .nilT))) Try.f38 [.pointer p0, .int .i64 p1] w K by kernel_rfl) h)

/-- sluice/sluicelaw4.sign -/
def T39 (p0 : Int) (p1 : Int) (w : World) (K : Int → World → Prop) : Prop :=
  K (IntKind.u8.wrap (IntKind.i64.wrap ((IntKind.i64.wrap ((IntKind.i64.wrap (7 * p0)) + (IntKind.i64.wrap (Int.tdiv p0 256)))) + (IntKind.i64.wrap (3 * p1))))) w
theorem T39.calls {p0 : Int} {p1 : Int} {w : World} {K : Int → World → Prop} (h : T39 p0 p1 w K) : CallK Try.prog (.int .u8) 39 #[.int .i64 p0, .int .i64 p1] w K :=
  bodyZ_sound (κ := kappa) (ann := []) (fn := Try.f39) Try.func39 rfl (by kernel_rfl) (cast (show T39 p0 p1 w K = bodyZ Try.prog kappa [] (.int .u8) Try.f39 [.int .i64 p0, .int .i64 p1] w K by kernel_rfl) h)

/-- slices.Clone[[]byte,byte] -/
def T40 (p0 : Sl) (w : World) (K : Sl → World → Prop) : Prop :=
  RunN Try.prog .bool (V (do eqGuard .eql 29 (.tmp 3) (.const (.slice none 0 0)) (.slice p0.a p0.len p0.cap) (.slice none 0 0); binOp .eql 29 (.slice p0.a p0.len p0.cap) (.slice none 0 0))) w fun t4 w =>
  SplitB t4
    (K (⟨none, 0, 0⟩ : Sl) w)
    (RunN Try.prog .sl (V (Instr.buildSlice 29 0 #[])) w fun t5 w =>
    RunN Try.prog .sl (V (Builtin.append_ #[29, 29] 29 #[.slice t5.a t5.len t5.cap, .slice p0.a p0.len p0.cap])) w fun t7 w =>
    K t7 w)
theorem T40.calls {p0 : Sl} {w : World} {K : Sl → World → Prop} (h : T40 p0 w K) : CallK Try.prog .sl 40 #[.slice p0.a p0.len p0.cap] w K :=
  bodyZ_sound (κ := kappa) (ann := []) (fn := Try.f40) Try.func40 rfl (by kernel_rfl) (cast (show T40 p0 w K = bodyZ Try.prog kappa [] .sl Try.f40 [.slice p0.a p0.len p0.cap] w K by kernel_rfl) h)

/-- (*sluice/sluiceref4.Bag).Send -/
def T41 (p0 : Option Addr) (p1 : (Int × Int × Sl × Unit)) (w : World) (K : Int → World → Prop) : Prop :=
  RunN Try.prog .addr (V (Instr.box 31 (.agg #[.int .i64 p1.1, .int .i64 p1.2.1, .slice p1.2.2.1.a p1.2.2.1.len p1.2.2.1.cap]))) w fun t3 w =>
  NilP p0 fun t6 =>
  ReadN Try.prog .sl (V (Instr.loadAt 22 (.pointer (some (t6.add 1))))) w.drew fun t8 =>
  NilP p0 fun t11 =>
  ReadN Try.prog (.int .i64) (V (Instr.loadAt 3 (.pointer (some (t11.add 0))))) w.drew fun t13 =>
  SplitB (decide ((t8.len : Int) ≥ t13))
    (K 41 w.drew)
    (NilP p0 fun t17 =>
    ReadN Try.prog .sl (V (Instr.loadAt 22 (.pointer (some (t17.add 1))))) w.drew.drew fun t19 =>
    ReadN Try.prog (.agg (.cons (.int .i64) (.cons (.int .i64) (.cons .sl .nilT)))) (V (Instr.loadAt 31 (.pointer (some t3)))) w.drew.drew fun t20 =>
    CallK Try.prog (.agg (.cons (.int .i64) (.cons (.int .i64) (.cons .sl .nilT)))) 44 #[.agg #[.int .i64 t20.1, .int .i64 t20.2.1, .slice t20.2.2.1.a t20.2.2.1.len t20.2.2.1.cap]] w.drew.drew fun t21 w =>
    StillV Try.prog (V (Instr.loadAt 22 (.pointer (some (t17.add 1))))) (.slice t19.a t19.len t19.cap) w ∧
    RunN Try.prog .sl (V (Instr.buildSlice 22 1 #[(0, .agg #[.int .i64 t21.1, .int .i64 t21.2.1, .slice t21.2.2.1.a t21.2.2.1.len t21.2.2.1.cap])])) w fun t22 w =>
    StillV Try.prog (V (Instr.loadAt 22 (.pointer (some (t17.add 1))))) (.slice t19.a t19.len t19.cap) w ∧
    RunN Try.prog .sl (V (Builtin.append_ #[22, 22] 22 #[.slice t19.a t19.len t19.cap, .slice t22.a t22.len t22.cap])) w fun t23 w =>
    NilP p0 fun t24 =>
    RunU Try.prog (U (Instr.storeAt 22 (.pointer (some (t24.add 1))) (.slice t23.a t23.len t23.cap))) w fun w =>
    K 0 w)
theorem T41.calls {p0 : Option Addr} {p1 : (Int × Int × Sl × Unit)} {w : World} {K : Int → World → Prop} (h : T41 p0 p1 w K) : CallK Try.prog (.int .i64) 41 #[.pointer p0, .agg #[.int .i64 p1.1, .int .i64 p1.2.1, .slice p1.2.2.1.a p1.2.2.1.len p1.2.2.1.cap]] w K :=
  bodyZ_sound (κ := kappa) (ann := []) (fn := Try.f41) Try.func41 rfl (by kernel_rfl) (cast (show T41 p0 p1 w K = bodyZ Try.prog kappa [] (.int .i64) Try.f41 [.pointer p0, .agg #[.int .i64 p1.1, .int .i64 p1.2.1, .slice p1.2.2.1.a p1.2.2.1.len p1.2.2.1.cap]] w K by kernel_rfl) h)

/-- (*sluice/sluiceref4.Bag).without -/
def T42 (p0 : Option Addr) (p1 : Int) (w : World) (K : Sl → World → Prop) : Prop :=
  LoopX (α := Sl × Int × Unit) (fun s1 w k2 =>
    NilP p0 fun t9 =>
    RunN Try.prog .sl (V (Instr.loadAt 22 (.pointer (some (t9.add 1))))) w fun t11 w =>
    SplitB (decide (s1.2.1 < (t11.len : Int)))
      (JoinX (α := Sl × Unit) (fun j4 w =>
        k2 (j4.1, IntKind.i64.wrap (s1.2.1 + 1), ()) w)
      fun k3 =>
        SplitB (s1.2.1 != p1)
          (NilP p0 fun t21 =>
          RunN Try.prog .sl (V (Instr.loadAt 22 (.pointer (some (t21.add 1))))) w fun t23 w =>
          RunN Try.prog .addr (V (Instr.indexAt 22 (.slice t23.a t23.len t23.cap) (.int .i64 s1.2.1))) w fun t25 w =>
          RunN Try.prog (.agg (.cons (.int .i64) (.cons (.int .i64) (.cons .sl .nilT)))) (V (Instr.loadAt 31 (.pointer (some t25)))) w fun t26 w =>
          RunN Try.prog .sl (V (Instr.buildSlice 22 1 #[(0, .agg #[.int .i64 t26.1, .int .i64 t26.2.1, .slice t26.2.2.1.a t26.2.2.1.len t26.2.2.1.cap])])) w fun t27 w =>
          RunN Try.prog .sl (V (Builtin.append_ #[22, 22] 22 #[.slice s1.1.a s1.1.len s1.1.cap, .slice t27.a t27.len t27.cap])) w fun t28 w =>
          k3 (t28, ()) w)
          (k3 (s1.1, ()) w))
      (K s1.1 w))
  ((⟨none, 0, 0⟩ : Sl), 0, ()) w
theorem T42.calls {p0 : Option Addr} {p1 : Int} {w : World} {K : Sl → World → Prop} (h : T42 p0 p1 w K) : CallK Try.prog .sl 42 #[.pointer p0, .int .i64 p1] w K :=
  bodyZ_sound (κ := kappa) (ann := [(4, [(5, .sl), (6, (.int .i64))]), (7, [(5, .sl)])]) (fn := Try.f42) Try.func42 rfl (by kernel_rfl) (cast (show T42 p0 p1 w K = bodyZ Try.prog kappa [(4, [(5, .sl), (6, (.int .i64))]), (7, [(5, .sl)])] .sl Try.f42 [.pointer p0, .int .i64 p1] w K by kernel_rfl) h)

/-- (*sluice/sluiceref4.Bag).in -/
def T43 (p0 : Option Addr) (p1 : Int) (w : World) (K : Bool → World → Prop) : Prop :=
  SplitB (decide (p1 ≥ 0))
    (NilP p0 fun t10 =>
    RunN Try.prog .sl (V (Instr.loadAt 22 (.pointer (some (t10.add 1))))) w fun t12 w =>
    K (decide (p1 < (t12.len : Int))) w)
    (K false w)
theorem T43.calls {p0 : Option Addr} {p1 : Int} {w : World} {K : Bool → World → Prop} (h : T43 p0 p1 w K) : CallK Try.prog .bool 43 #[.pointer p0, .int .i64 p1] w K :=
  bodyZ_sound (κ := kappa) (ann := []) (fn := Try.f43) Try.func43 rfl (by kernel_rfl) (cast (show T43 p0 p1 w K = bodyZ Try.prog kappa [] .bool Try.f43 [.pointer p0, .int .i64 p1] w K by kernel_rfl) h)

/-- sluice/sluiceref4.own -/
def T44 (p0 : (Int × Int × Sl × Unit)) (w : World) (K : (Int × Int × Sl × Unit) → World → Prop) : Prop :=
  RunN Try.prog .addr (V (Instr.box 31 (.agg #[.int .i64 p0.1, .int .i64 p0.2.1, .slice p0.2.2.1.a p0.2.2.1.len p0.2.2.1.cap]))) w fun t1 w =>
  RunN Try.prog .addr (V (Instr.alloc 31 true (.tuple #[]))) w fun t2 w =>
  LoopX (α := Sl × Int × Unit) (fun s1 w k2 =>
    RunN Try.prog .sl (V (Instr.loadAt 29 (.pointer (some (t1.add 2))))) w fun t7 w =>
    SplitB (decide (s1.2.1 < (t7.len : Int)))
      (RunN Try.prog .sl (V (Instr.loadAt 29 (.pointer (some (t1.add 2))))) w fun t14 w =>
      RunN Try.prog .addr (V (Instr.indexAt 29 (.slice t14.a t14.len t14.cap) (.int .i64 s1.2.1))) w fun t16 w =>
      RunN Try.prog (.int .u8) (V (Instr.loadAt 5 (.pointer (some t16)))) w fun t17 w =>
      RunN Try.prog .sl (V (Instr.buildSlice 29 1 #[(0, .int .u8 t17)])) w fun t18 w =>
      RunN Try.prog .sl (V (Builtin.append_ #[29, 29] 29 #[.slice s1.1.a s1.1.len s1.1.cap, .slice t18.a t18.len t18.cap])) w fun t19 w =>
      k2 (t19, IntKind.i64.wrap (s1.2.1 + 1), ()) w)
      (RunN Try.prog (.int .i64) (V (Instr.loadAt 3 (.pointer (some (t1.add 0))))) w fun t21 w =>
      RunN Try.prog (.int .i64) (V (Instr.loadAt 3 (.pointer (some (t1.add 1))))) w fun t23 w =>
      RunU Try.prog (U (Instr.storeAt 31 (.pointer (some t2)) (.agg #[.int .i64 t21, .int .i64 t23, .slice s1.1.a s1.1.len s1.1.cap]))) w fun w =>
      ReadN Try.prog (.agg (.cons (.int .i64) (.cons (.int .i64) (.cons .sl .nilT)))) (V (Instr.loadAt 31 (.pointer (some t2)))) w fun r0 =>
      K (r0.1, r0.2.1, r0.2.2.1, ()) w))
  ((⟨none, 0, 0⟩ : Sl), 0, ()) w
theorem T44.calls {p0 : (Int × Int × Sl × Unit)} {w : World} {K : (Int × Int × Sl × Unit) → World → Prop} (h : T44 p0 w K) : CallK Try.prog (.agg (.cons (.int .i64) (.cons (.int .i64) (.cons .sl .nilT)))) 44 #[.agg #[.int .i64 p0.1, .int .i64 p0.2.1, .slice p0.2.2.1.a p0.2.2.1.len p0.2.2.1.cap]] w K :=
  bodyZ_sound (κ := kappa) (ann := [(4, [(3, .sl), (4, (.int .i64))])]) (fn := Try.f44) Try.func44 rfl (by kernel_rfl) (cast (show T44 p0 w K = bodyZ Try.prog kappa [(4, [(3, .sl), (4, (.int .i64))])] (.agg (.cons (.int .i64) (.cons (.int .i64) (.cons .sl .nilT)))) Try.f44 [.agg #[.int .i64 p0.1, .int .i64 p0.2.1, .slice p0.2.2.1.a p0.2.2.1.len p0.2.2.1.cap]] w K by kernel_rfl) h)
end Go.Proofs.Ytmhjlngkdppgpaa
