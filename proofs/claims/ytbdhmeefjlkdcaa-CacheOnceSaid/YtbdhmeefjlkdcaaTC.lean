import Derived.Test.YtbdhmeefjlkdcaaProg
import Derived.Test.YtbdhmeefjlkdcaaFwG
namespace Go.Proofs.Ytbdhmeefjlkdcaa
open Go Go.Fw Go.Proofs
set_option maxRecDepth 100000
set_option linter.unusedVariables false
def kappa : List Kd := [(.tup .nilT), .raw, (.int .i64), (.int .i64), .bool, (.int .u8), (.int .u8), (.agg (.cons (.int .i64) (.cons (.int .i64) (.cons .bool (.cons (.int .u8) .nilT))))), (.agg (.cons (.int .i64) (.cons (.int .i64) (.cons .bool (.cons (.int .u8) .nilT))))), .str, .str, .str, (.int .u64), (.agg (.cons .str (.cons (.int .u64) .nilT))), (.agg (.cons .str (.cons (.int .u64) .nilT))), .ptr, .ptr, .ptr, (.agg (.cons .ptr .nilT)), (.agg (.cons .ptr .nilT)), .raw, (.int .i32), .sl, .raw, .raw, .raw, .ptr, (.tup (.cons .ptr (.cons .bool .nilT))), .raw, .raw, .raw, (.agg (.cons (.int .i64) (.cons (.int .i64) .nilT))), (.agg (.cons (.int .i64) (.cons (.int .i64) .nilT))), (.agg (.cons (.int .i64) (.cons (.int .i64) (.cons (.int .i64) (.cons (.int .i64) (.cons (.int .i64) .nilT)))))), (.agg (.cons (.int .i64) (.cons (.int .i64) (.cons (.int .i64) (.cons (.int .i64) (.cons (.int .i64) .nilT)))))), .raw, .ptr, (.int .i64), (.tup (.cons .ptr (.cons (.int .i64) .nilT))), .raw, .raw, .sl, (.agg (.cons (.int .i64) (.cons (.int .i64) (.cons (.int .i64) (.cons (.int .i64) .nilT))))), (.agg (.cons (.int .i64) (.cons (.int .i64) (.cons (.int .i64) (.cons (.int .i64) .nilT))))), (.agg (.cons (.int .i64) (.cons (.int .i64) (.cons (.int .i64) (.cons (.int .i64) (.cons (.int .i64) (.cons (.int .i64) (.cons (.int .i64) .nilT)))))))), (.agg (.cons (.int .i64) (.cons (.int .i64) (.cons (.int .i64) (.cons (.int .i64) (.cons (.int .i64) (.cons (.int .i64) (.cons (.int .i64) .nilT)))))))), .raw, (.tup (.cons (.agg (.cons (.int .i64) (.cons (.int .i64) (.cons (.int .i64) (.cons (.int .i64) .nilT))))) (.cons .bool (.cons (.int .i64) .nilT)))), .raw, .raw, .sl, .raw, .raw, .raw, .ptr, .sl, (.agg (.cons .ptr (.cons .ptr (.cons .sl (.cons .sl (.cons (.int .i64) (.cons .sl (.cons .sl .nilT)))))))), (.agg (.cons .ptr (.cons .ptr (.cons .sl (.cons .sl (.cons (.int .i64) (.cons .sl (.cons .sl .nilT)))))))), (.tup (.cons .ptr (.cons (.int .i64) .nilT))), .raw, .sl, .raw, .map, (.agg (.cons (.int .i64) (.cons (.int .i64) (.cons (.int .i64) (.cons (.int .i64) (.cons .map .nilT)))))), (.agg (.cons (.int .i64) (.cons (.int .i64) (.cons (.int .i64) (.cons (.int .i64) (.cons .map .nilT)))))), .ptr, .raw, .raw, .raw, (.agg (.cons (.int .i64) (.cons (.int .i64) .nilT))), (.agg (.cons (.int .i64) (.cons (.int .i64) .nilT))), .raw, (.tup (.cons (.int .i64) (.cons .bool .nilT))), .raw, .raw, .raw, .raw, .raw, .sl, .raw, .raw, .raw, .raw, .raw, (.int .u64), .raw, .raw, .raw, .raw, .raw, (.tup (.cons (.agg (.cons (.int .i64) (.cons (.int .i64) (.cons (.int .i64) (.cons (.int .i64) .nilT))))) (.cons .bool (.cons (.int .i64) .nilT)))), .raw, .raw, .raw, (.tup (.cons (.agg (.cons (.int .i64) (.cons (.int .i64) (.cons (.int .i64) (.cons (.int .i64) .nilT))))) (.cons .bool .nilT))), .raw, .raw, (.agg (.cons .ptr (.cons .ptr (.cons .ptr (.cons .str .nilT))))), (.agg (.cons .ptr (.cons .ptr (.cons .ptr (.cons .str .nilT))))), (.agg .nilT), (.agg .nilT), (.agg .nilT), .raw, (.int .u32), (.int .u8), (.int .u8), .raw, .ptr, (.int .i32), (.int .i32), (.agg (.cons (.int .u64) (.cons (.int .u64) (.cons (.int .u32) (.cons (.int .u8) (.cons (.int .u8) (.cons (.int .u8) (.cons (.int .u8) (.cons .raw (.cons .ptr (.cons (.int .i32) (.cons (.int .i32) .nilT)))))))))))), (.agg (.cons (.int .u64) (.cons (.int .u64) (.cons (.int .u32) (.cons (.int .u8) (.cons (.int .u8) (.cons (.int .u8) (.cons (.int .u8) (.cons .raw (.cons .ptr (.cons (.int .i32) (.cons (.int .i32) .nilT))))))))))))]

/-- sluice/sluicelaw13.CacheRequests -/
def T3 (p0 : Int) (p1 : Int) (p2 : Int) (p3 : Int) (p4 : Sl) (w : World) (K : Bool → World → Prop) : Prop :=
  CallK Try.prog .bool 8 #[.int .i64 p0, .int .i64 p1, .int .i64 p2, .int .i64 p3, .slice p4.a p4.len p4.cap, .int .i64 0, .int .i64 0] w fun t16 w =>
  K t16 w
theorem T3.calls {p0 : Int} {p1 : Int} {p2 : Int} {p3 : Int} {p4 : Sl} {w : World} {K : Bool → World → Prop} (h : T3 p0 p1 p2 p3 p4 w K) : CallK Try.prog .bool 3 #[.int .i64 p0, .int .i64 p1, .int .i64 p2, .int .i64 p3, .slice p4.a p4.len p4.cap] w K :=
  bodyZ_sound (κ := kappa) (ann := []) (fn := Try.f3) Try.func3 rfl (by kernel_rfl) (cast (show T3 p0 p1 p2 p3 p4 w K = bodyZ Try.prog kappa [] .bool Try.f3 [.int .i64 p0, .int .i64 p1, .int .i64 p2, .int .i64 p3, .slice p4.a p4.len p4.cap] w K by kernel_rfl) h)

/-- sluice/sluicelaw13.CacheLooks -/
def T4 (p0 : Int) (p1 : Int) (p2 : Int) (p3 : Int) (p4 : Sl) (w : World) (K : Bool → World → Prop) : Prop :=
  CallK Try.prog .bool 8 #[.int .i64 p0, .int .i64 p1, .int .i64 p2, .int .i64 p3, .slice p4.a p4.len p4.cap, .int .i64 5, .int .i64 6] w fun t16 w =>
  K t16 w
theorem T4.calls {p0 : Int} {p1 : Int} {p2 : Int} {p3 : Int} {p4 : Sl} {w : World} {K : Bool → World → Prop} (h : T4 p0 p1 p2 p3 p4 w K) : CallK Try.prog .bool 4 #[.int .i64 p0, .int .i64 p1, .int .i64 p2, .int .i64 p3, .slice p4.a p4.len p4.cap] w K :=
  bodyZ_sound (κ := kappa) (ann := []) (fn := Try.f4) Try.func4 rfl (by kernel_rfl) (cast (show T4 p0 p1 p2 p3 p4 w K = bodyZ Try.prog kappa [] .bool Try.f4 [.int .i64 p0, .int .i64 p1, .int .i64 p2, .int .i64 p3, .slice p4.a p4.len p4.cap] w K by kernel_rfl) h)

/-- sluice/sluicelaw13.CacheAll -/
def T5 (p0 : Int) (p1 : Int) (p2 : Int) (p3 : Int) (p4 : Int) (p5 : Sl) (w : World) (K : Bool → World → Prop) : Prop :=
  SplitB (decide ((p5.len : Int) > 400))
    (K true w)
    (CallK Try.prog .bool 9 #[] w fun t23 w =>
    CallK Try.prog (.tup (.cons .ptr (.cons .bool .nilT))) 10 #[.int .i64 p0, .int .i64 p1, .int .i64 p2, .int .i64 p3] w fun t29 w =>
    CallK Try.prog (.int .i64) 11 #[.int .i64 p3, .int .i64 16] w fun t37 w =>
    CallK Try.prog (.tup (.cons .ptr (.cons .bool .nilT))) 10 #[.int .i64 p4, .int .i64 p1, .int .i64 p2, .int .i64 (IntKind.i64.wrap (1 + t37))] w fun t39 w =>
    JoinX (α := Bool × Unit) (fun j2 w =>
      SplitB j2.1
        (K false w)
        (LoopX (α := Int × Unit) (fun s3 w k4 =>
          SplitB (decide (s3.1 < (p5.len : Int)))
            (JoinX (α := Bool × Unit) (fun j6 w =>
              JoinX (α := Bool × Unit) (fun j8 w =>
                JoinX (α := Bool × Unit) (fun j10 w =>
                  SplitB j10.1
                    (K false w)
                    (k4 (IntKind.i64.wrap (s3.1 + 1), ()) w))
                fun k9 =>
                  SplitB (!j8.1)
                    (k9 (true, ()) w)
                    (RunN Try.prog .bool (V (do eqGuard .neq 26 (.tmp 87) (.const (.pointer none)) (.pointer t29.1) (.pointer none); binOp .neq 26 (.pointer t29.1) (.pointer none))) w fun t88 w =>
                    SplitB t88
                      (CallK Try.prog .bool 13 #[.pointer t29.1] w fun t91 w =>
                      SplitB (!t91)
                        (k9 (true, ()) w)
                        (RunN Try.prog .bool (V (do eqGuard .neq 26 (.tmp 96) (.const (.pointer none)) (.pointer t39.1) (.pointer none); binOp .neq 26 (.pointer t39.1) (.pointer none))) w fun t97 w =>
                        SplitB t97
                          (CallK Try.prog .bool 13 #[.pointer t39.1] w fun t100 w =>
                          k9 (!t100, ()) w)
                          (k9 (false, ()) w)))
                      (RunN Try.prog .bool (V (do eqGuard .neq 26 (.tmp 96) (.const (.pointer none)) (.pointer t39.1) (.pointer none); binOp .neq 26 (.pointer t39.1) (.pointer none))) w fun t97 w =>
                      SplitB t97
                        (CallK Try.prog .bool 13 #[.pointer t39.1] w fun t100 w =>
                        k9 (!t100, ()) w)
                        (k9 (false, ()) w))))
              fun k7 =>
                JoinX (α := Bool × Unit) (fun j12 w =>
                  SplitB j12.1
                    (RunN Try.prog .addr (V (Instr.indexAt 22 (.slice p5.a p5.len p5.cap) (.int .i64 s3.1))) w fun t81 w =>
                    RunN Try.prog (.agg (.cons (.int .i64) (.cons (.int .i64) (.cons (.int .i64) (.cons (.int .i64) (.cons (.int .i64) .nilT)))))) (V (Instr.loadAt 34 (.pointer (some t81)))) w fun t82 w =>
                    CallK Try.prog .bool 12 #[.pointer t39.1, .agg #[.int .i64 t82.1, .int .i64 t82.2.1, .int .i64 t82.2.2.1, .int .i64 t82.2.2.2.1, .int .i64 t82.2.2.2.2.1]] w fun t83 w =>
                    k7 (t83, ()) w)
                    (k7 (j6.1, ()) w))
                fun k11 =>
                  SplitB ((Int.tmod s3.1 2) == 1)
                    (RunN Try.prog .bool (V (do eqGuard .neq 26 (.tmp 75) (.const (.pointer none)) (.pointer t39.1) (.pointer none); binOp .neq 26 (.pointer t39.1) (.pointer none))) w fun t76 w =>
                    k11 (t76, ()) w)
                    (k11 (false, ()) w))
            fun k5 =>
              JoinX (α := Bool × Unit) (fun j14 w =>
                SplitB j14.1
                  (RunN Try.prog .addr (V (Instr.indexAt 22 (.slice p5.a p5.len p5.cap) (.int .i64 s3.1))) w fun t68 w =>
                  RunN Try.prog (.agg (.cons (.int .i64) (.cons (.int .i64) (.cons (.int .i64) (.cons (.int .i64) (.cons (.int .i64) .nilT)))))) (V (Instr.loadAt 34 (.pointer (some t68)))) w fun t69 w =>
                  CallK Try.prog .bool 12 #[.pointer t29.1, .agg #[.int .i64 t69.1, .int .i64 t69.2.1, .int .i64 t69.2.2.1, .int .i64 t69.2.2.2.1, .int .i64 t69.2.2.2.2.1]] w fun t70 w =>
                  k5 (t70, ()) w)
                  (k5 (true, ()) w))
              fun k13 =>
                SplitB ((Int.tmod s3.1 2) == 0)
                  (RunN Try.prog .bool (V (do eqGuard .neq 26 (.tmp 62) (.const (.pointer none)) (.pointer t29.1) (.pointer none); binOp .neq 26 (.pointer t29.1) (.pointer none))) w fun t63 w =>
                  k13 (t63, ()) w)
                  (k13 (false, ()) w))
            (RunN Try.prog .bool (V (do eqGuard .eql 26 (.tmp 104) (.const (.pointer none)) (.pointer t29.1) (.pointer none); binOp .eql 26 (.pointer t29.1) (.pointer none))) w fun t105 w =>
            SplitB t105
              (RunN Try.prog .bool (V (do eqGuard .eql 26 (.tmp 111) (.const (.pointer none)) (.pointer t39.1) (.pointer none); binOp .eql 26 (.pointer t39.1) (.pointer none))) w fun t112 w =>
              SplitB t112
                (K true w)
                (CallK Try.prog .bool 14 #[.pointer t39.1] w fun t115 w =>
                K t115 w))
              (CallK Try.prog .bool 14 #[.pointer t29.1] w fun t108 w =>
              SplitB t108
                (RunN Try.prog .bool (V (do eqGuard .eql 26 (.tmp 111) (.const (.pointer none)) (.pointer t39.1) (.pointer none); binOp .eql 26 (.pointer t39.1) (.pointer none))) w fun t112 w =>
                SplitB t112
                  (K true w)
                  (CallK Try.prog .bool 14 #[.pointer t39.1] w fun t115 w =>
                  K t115 w))
                (K false w))))
        (0, ()) w))
    fun k1 =>
      SplitB (!t23)
        (k1 (true, ()) w)
        (SplitB (!t29.2.1)
          (k1 (true, ()) w)
          (k1 (!t39.2.1, ()) w)))
theorem T5.calls {p0 : Int} {p1 : Int} {p2 : Int} {p3 : Int} {p4 : Int} {p5 : Sl} {w : World} {K : Bool → World → Prop} (h : T5 p0 p1 p2 p3 p4 p5 w K) : CallK Try.prog .bool 5 #[.int .i64 p0, .int .i64 p1, .int .i64 p2, .int .i64 p3, .int .i64 p4, .slice p5.a p5.len p5.cap] w K :=
  bodyZ_sound (κ := kappa) (ann := [(8, [(51, .bool)]), (12, [(18, (.int .i64))]), (17, [(19, .bool)]), (19, [(19, .bool)]), (21, [(103, .bool)]), (20, [(77, .bool)]), (18, [(64, .bool)])]) (fn := Try.f5) Try.func5 rfl (by kernel_rfl) (cast (show T5 p0 p1 p2 p3 p4 p5 w K = bodyZ Try.prog kappa [(8, [(51, .bool)]), (12, [(18, (.int .i64))]), (17, [(19, .bool)]), (19, [(19, .bool)]), (21, [(103, .bool)]), (20, [(77, .bool)]), (18, [(64, .bool)])] .bool Try.f5 [.int .i64 p0, .int .i64 p1, .int .i64 p2, .int .i64 p3, .int .i64 p4, .slice p5.a p5.len p5.cap] w K by kernel_rfl) h)

/-- sluice/sluicelaw13.CacheOnce -/
def T6 (p0 : Int) (p1 : Int) (p2 : Sl) (w : World) (K : Bool → World → Prop) : Prop :=
  SplitB (decide ((p2.len : Int) > 100))
    (K true w)
    (CallK Try.prog .bool 9 #[] w fun t26 w =>
    CallK Try.prog (.int .i64) 11 #[.int .i64 p0, .int .i64 64] w fun t28 w =>
    CallK Try.prog (.int .i64) 11 #[.int .i64 p1, .int .i64 16] w fun t31 w =>
    CallK Try.prog (.tup (.cons .ptr (.cons (.int .i64) .nilT))) 15 #[.int .i64 0, .int .i64 2, .int .i64 (IntKind.i64.wrap (1 + t28)), .int .i64 (IntKind.i64.wrap (1 + t31))] w fun t36 w =>
    JoinX (α := Bool × Unit) (fun j2 w =>
      SplitB j2.1
        (K false w)
        (LoopX (α := Sl × Int × Unit) (fun s3 w k4 =>
          SplitB (decide (s3.2.1 < (p2.len : Int)))
            (JoinX (α := Sl × Unit) (fun j6 w =>
              k4 (j6.1, IntKind.i64.wrap (s3.2.1 + 1), ()) w)
            fun k5 =>
              RunN Try.prog .addr (V (Instr.indexAt 22 (.slice p2.a p2.len p2.cap) (.int .i64 s3.2.1))) w fun t58 w =>
              RunN Try.prog (.agg (.cons (.int .i64) (.cons (.int .i64) (.cons (.int .i64) (.cons (.int .i64) (.cons (.int .i64) .nilT)))))) (V (Instr.loadAt 34 (.pointer (some t58)))) w fun t59 w =>
              RunN Try.prog .addr (V (Instr.alloc 34 true (.tuple #[]))) w fun t14 w =>
              RunU Try.prog (U (Instr.storeAt 34 (.pointer (some t14)) (.agg #[.int .i64 t59.1, .int .i64 t59.2.1, .int .i64 t59.2.2.1, .int .i64 t59.2.2.2.1, .int .i64 t59.2.2.2.2.1]))) w fun w =>
              LoopX (α := Int × Int × Int × Unit) (fun s7 w k8 =>
                SplitB (decide (s7.2.2.1 < (s3.1.len : Int)))
                  (JoinX (α := Int × Int × Unit) (fun j10 w =>
                    k8 (j10.1, j10.2.1, IntKind.i64.wrap (s7.2.2.1 + 1), ()) w)
                  fun k9 =>
                    JoinX (α := Int × Unit) (fun j12 w =>
                      JoinX (α := Bool × Unit) (fun j14 w =>
                        SplitB j14.1
                          (k9 (j12.1, IntKind.i64.wrap (s7.2.1 + 1), ()) w)
                          (k9 (j12.1, s7.2.1, ()) w))
                      fun k13 =>
                        ReadN Try.prog .addr (V (Instr.indexAt 41 (.slice s3.1.a s3.1.len s3.1.cap) (.int .i64 s7.2.2.1))) w.drew fun t77 =>
                        ReadN Try.prog (.int .i64) (V (Instr.loadAt 3 (.pointer (some ((t77.add 0).add 0))))) w.drew fun t80 =>
                        ReadN Try.prog (.int .i64) (V (Instr.loadAt 3 (.pointer (some ((t14.add 1).add 0))))) w.drew fun t83 =>
                        SplitB (t80 == t83)
                          (ReadN Try.prog .addr (V (Instr.indexAt 41 (.slice s3.1.a s3.1.len s3.1.cap) (.int .i64 s7.2.2.1))) w.drew fun t88 =>
                          ReadN Try.prog (.int .i64) (V (Instr.loadAt 3 (.pointer (some ((t88.add 0).add 1))))) w.drew fun t91 =>
                          ReadN Try.prog (.int .i64) (V (Instr.loadAt 3 (.pointer (some ((t14.add 1).add 1))))) w.drew fun t94 =>
                          SplitB (decide (t91 > t94))
                            (ReadN Try.prog .addr (V (Instr.indexAt 41 (.slice s3.1.a s3.1.len s3.1.cap) (.int .i64 s7.2.2.1))) w.drew fun t100 =>
                            ReadN Try.prog (.int .i64) (V (Instr.loadAt 3 (.pointer (some (t100.add 2))))) w.drew fun t102 =>
                            k13 (t102 == 2, ()) w.drew)
                            (k13 (false, ()) w.drew))
                          (k13 (false, ()) w.drew))
                    fun k11 =>
                      ReadN Try.prog .addr (V (Instr.indexAt 41 (.slice s3.1.a s3.1.len s3.1.cap) (.int .i64 s7.2.2.1))) w.drew fun t68 =>
                      ReadN Try.prog (.agg (.cons (.int .i64) (.cons (.int .i64) .nilT))) (V (Instr.loadAt 32 (.pointer (some (t68.add 0))))) w.drew fun t70 =>
                      ReadN Try.prog (.agg (.cons (.int .i64) (.cons (.int .i64) .nilT))) (V (Instr.loadAt 32 (.pointer (some (t14.add 1))))) w.drew fun t72 =>
                      ReadN Try.prog .bool (V (do eqGuard .eql 32 (.tmp 70) (.tmp 72) (.agg #[.int .i64 t70.1, .int .i64 t70.2.1]) (.agg #[.int .i64 t72.1, .int .i64 t72.2.1]); binOp .eql 32 (.agg #[.int .i64 t70.1, .int .i64 t70.2.1]) (.agg #[.int .i64 t72.1, .int .i64 t72.2.1]))) w.drew fun t73 =>
                      SplitB t73
                        (k11 (s7.2.2.1, ()) w.drew)
                        (k11 (s7.1, ()) w.drew))
                  (RunN Try.prog (.int .i64) (V (Instr.loadAt 3 (.pointer (some (t14.add 0))))) w fun t108 w =>
                  SplitB (t108 == 2)
                    (RunN Try.prog (.agg (.cons (.int .i64) (.cons (.int .i64) .nilT))) (V (Instr.loadAt 32 (.pointer (some (t14.add 1))))) w fun t111 w =>
                    RunN Try.prog (.int .i64) (V (Instr.loadAt 3 (.pointer (some (t14.add 3))))) w fun t113 w =>
                    RunN Try.prog (.int .i64) (V (Instr.loadAt 3 (.pointer (some (t14.add 4))))) w fun t115 w =>
                    RunN Try.prog .addr (V (Instr.alloc 43 true (.tuple #[]))) w fun t18 w =>
                    RunU Try.prog (U (Instr.storeAt 43 (.pointer (some t18)) (.agg #[.int .i64 t111.1, .int .i64 t111.2.1, .int .i64 t113, .int .i64 t115]))) w fun w =>
                    RunN Try.prog (.agg (.cons (.int .i64) (.cons (.int .i64) (.cons (.int .i64) (.cons (.int .i64) .nilT))))) (V (Instr.loadAt 43 (.pointer (some t18)))) w fun t118 w =>
                    CallK Try.prog (.int .i64) 17 #[.pointer t36.1, .agg #[.int .i64 t118.1, .int .i64 t118.2.1, .int .i64 t118.2.2.1, .int .i64 t118.2.2.2.1]] w fun t119 w =>
                    JoinX (α := Bool × Unit) (fun j16 w =>
                      SplitB j16.1
                        (K false w)
                        (CallK Try.prog (.int .i64) 16 #[.int .i64 t119] w fun t136 w =>
                        SplitB (t136 == 0)
                          (RunN Try.prog .addr (V (Instr.indexAt 41 (.slice s3.1.a s3.1.len s3.1.cap) (.int .i64 s7.1))) w fun t140 w =>
                          RunU Try.prog (U (Instr.storeAt 3 (.pointer (some (t140.add 2))) (.int .i64 2))) w fun w =>
                          RunN Try.prog (.agg (.cons (.int .i64) (.cons (.int .i64) (.cons (.int .i64) (.cons (.int .i64) .nilT))))) (V (Instr.loadAt 43 (.pointer (some t18)))) w fun t144 w =>
                          RunN Try.prog .addr (V (Instr.indexAt 41 (.slice s3.1.a s3.1.len s3.1.cap) (.int .i64 s7.1))) w fun t145 w =>
                          RunU Try.prog (U (Instr.storeAt 43 (.pointer (some (t145.add 3))) (.agg #[.int .i64 t144.1, .int .i64 t144.2.1, .int .i64 t144.2.2.1, .int .i64 t144.2.2.2.1]))) w fun w =>
                          k5 (s3.1, ()) w)
                          (k5 (s3.1, ()) w)))
                    fun k15 =>
                      CallK Try.prog (.int .i64) 16 #[.int .i64 t119] w fun t121 w =>
                      SplitB (decide (s7.1 ≥ 0))
                        (RunN Try.prog (.int .i64) (V (Builtin.max_ #[3, 3] 3 #[.int .i64 s7.1, .int .i64 0])) w fun t128 w =>
                        RunN Try.prog .addr (V (Instr.indexAt 41 (.slice s3.1.a s3.1.len s3.1.cap) (.int .i64 t128))) w fun t129 w =>
                        RunN Try.prog (.int .i64) (V (Instr.loadAt 3 (.pointer (some (t129.add 2))))) w fun t131 w =>
                        k15 (!((t121 == 0) == (t131 == 1)), ()) w)
                        (k15 (!((t121 == 0) == false), ()) w))
                    (RunN Try.prog (.agg (.cons (.int .i64) (.cons (.int .i64) .nilT))) (V (Instr.loadAt 32 (.pointer (some (t14.add 1))))) w fun t150 w =>
                    CallK Try.prog (.tup (.cons (.agg (.cons (.int .i64) (.cons (.int .i64) (.cons (.int .i64) (.cons (.int .i64) .nilT))))) (.cons .bool (.cons (.int .i64) .nilT)))) 18 #[.pointer t36.1, .agg #[.int .i64 t150.1, .int .i64 t150.2.1]] w fun t151 w =>
                    RunN Try.prog .addr (V (Instr.alloc 43 true (.tuple #[]))) w fun t20 w =>
                    RunU Try.prog (U (Instr.storeAt 43 (.pointer (some t20)) (.agg #[.int .i64 t151.1.1, .int .i64 t151.1.2.1, .int .i64 t151.1.2.2.1, .int .i64 t151.1.2.2.2.1]))) w fun w =>
                    JoinX (α := Bool × Unit) (fun j18 w =>
                      SplitB j18.1
                        (JoinX (α := Bool × Unit) (fun j20 w =>
                          SplitB j20.1
                            (K false w)
                            (RunN Try.prog (.agg (.cons (.int .i64) (.cons (.int .i64) .nilT))) (V (Instr.loadAt 32 (.pointer (some (t14.add 1))))) w fun t203 w =>
                            RunN Try.prog .sl (V (Instr.buildSlice 41 1 #[(0, .agg #[.int .i64 t203.1, .int .i64 t203.2.1, .int .i64 1, .int .i64 0, .int .i64 0, .int .i64 0, .int .i64 0])])) w fun t205 w =>
                            RunN Try.prog .sl (V (Builtin.append_ #[41, 41] 41 #[.slice s3.1.a s3.1.len s3.1.cap, .slice t205.a t205.len t205.cap])) w fun t206 w =>
                            k5 (t206, ()) w))
                        fun k19 =>
                          SplitB t151.2.1
                            (k19 (true, ()) w)
                            (RunN Try.prog (.agg (.cons (.int .i64) (.cons (.int .i64) (.cons (.int .i64) (.cons (.int .i64) .nilT))))) (V (Instr.loadAt 43 (.pointer (some t20)))) w fun t171 w =>
                            RunN Try.prog .bool (V (do eqGuard .neq 43 (.tmp 171) (.tmp 172) (.agg #[.int .i64 t171.1, .int .i64 t171.2.1, .int .i64 t171.2.2.1, .int .i64 t171.2.2.2.1]) (.agg #[.int .i64 0, .int .i64 0, .int .i64 0, .int .i64 0]); binOp .neq 43 (.agg #[.int .i64 t171.1, .int .i64 t171.2.1, .int .i64 t171.2.2.1, .int .i64 t171.2.2.2.1]) (.agg #[.int .i64 0, .int .i64 0, .int .i64 0, .int .i64 0]))) w fun t173 w =>
                            SplitB t173
                              (k19 (true, ()) w)
                              (RunN Try.prog (.int .i64) (V (Instr.loadAt 3 (.pointer (some ((t14.add 1).add 1))))) w fun t178 w =>
                              SplitB (decide (t178 < 1))
                                (k19 (true, ()) w)
                                (RunN Try.prog (.int .i64) (V (Instr.loadAt 3 (.pointer (some ((t14.add 1).add 0))))) w fun t184 w =>
                                SplitB (decide (t184 < 0))
                                  (k19 (true, ()) w)
                                  (RunN Try.prog (.int .i64) (V (Instr.loadAt 3 (.pointer (some ((t14.add 1).add 0))))) w fun t190 w =>
                                  SplitB (decide (t190 ≥ (IntKind.i64.wrap (1 + t28))))
                                    (k19 (true, ()) w)
                                    (RunN Try.prog (.int .i64) (V (Instr.loadAt 3 (.pointer (some ((t14.add 1).add 0))))) w fun t197 w =>
                                    k19 ((Int.tmod t197 2) != 0, ()) w))))))
                        (SplitB (decide (s7.1 < 0))
                          (JoinX (α := Bool × Unit) (fun j22 w =>
                            SplitB j22.1
                              (K false w)
                              (k5 (s3.1, ()) w))
                          fun k21 =>
                            SplitB t151.2.1
                              (k21 (true, ()) w)
                              (CallK Try.prog (.int .i64) 16 #[.int .i64 t151.2.2.1] w fun t213 w =>
                              SplitB (decide (t213 < 1))
                                (k21 (true, ()) w)
                                (CallK Try.prog (.int .i64) 16 #[.int .i64 t151.2.2.1] w fun t218 w =>
                                SplitB (t218 == 133)
                                  (k21 (true, ()) w)
                                  (CallK Try.prog (.int .i64) 16 #[.int .i64 t151.2.2.1] w fun t223 w =>
                                  SplitB (t223 == 130)
                                    (RunN Try.prog (.int .i64) (V (Instr.loadAt 3 (.pointer (some ((t14.add 1).add 1))))) w fun t228 w =>
                                    k21 (decide (t228 > 0), ()) w)
                                    (k21 (false, ()) w)))))
                          (RunN Try.prog .addr (V (Instr.indexAt 41 (.slice s3.1.a s3.1.len s3.1.cap) (.int .i64 s7.1))) w fun t235 w =>
                          RunN Try.prog (.int .i64) (V (Instr.loadAt 3 (.pointer (some (t235.add 2))))) w fun t237 w =>
                          SplitB (t237 == 1)
                            (JoinX (α := Bool × Unit) (fun j24 w =>
                              SplitB j24.1
                                (K false w)
                                (k5 (s3.1, ()) w))
                            fun k23 =>
                              SplitB t151.2.1
                                (k23 (true, ()) w)
                                (CallK Try.prog (.int .i64) 16 #[.int .i64 t151.2.2.1] w fun t242 w =>
                                k23 (t242 != 133, ()) w))
                            (SplitB (decide (s7.2.1 < (IntKind.i64.wrap (1 + t31))))
                              (JoinX (α := Bool × Unit) (fun j26 w =>
                                SplitB j26.1
                                  (K false w)
                                  (k5 (s3.1, ()) w))
                              fun k25 =>
                                SplitB (!t151.2.1)
                                  (k25 (true, ()) w.drew)
                                  (CallK Try.prog (.int .i64) 16 #[.int .i64 t151.2.2.1] w.drew fun t253 w =>
                                  SplitB (t253 != 0)
                                    (k25 (true, ()) w)
                                    (ReadN Try.prog (.agg (.cons (.int .i64) (.cons (.int .i64) (.cons (.int .i64) (.cons (.int .i64) .nilT))))) (V (Instr.loadAt 43 (.pointer (some t20)))) w fun t257 =>
                                    ReadN Try.prog .addr (V (Instr.indexAt 41 (.slice s3.1.a s3.1.len s3.1.cap) (.int .i64 s7.1))) w fun t260 =>
                                    ReadN Try.prog (.agg (.cons (.int .i64) (.cons (.int .i64) (.cons (.int .i64) (.cons (.int .i64) .nilT))))) (V (Instr.loadAt 43 (.pointer (some (t260.add 3))))) w fun t262 =>
                                    ReadN Try.prog .bool (V (do eqGuard .neq 43 (.tmp 257) (.tmp 262) (.agg #[.int .i64 t257.1, .int .i64 t257.2.1, .int .i64 t257.2.2.1, .int .i64 t257.2.2.2.1]) (.agg #[.int .i64 t262.1, .int .i64 t262.2.1, .int .i64 t262.2.2.1, .int .i64 t262.2.2.2.1]); binOp .neq 43 (.agg #[.int .i64 t257.1, .int .i64 t257.2.1, .int .i64 t257.2.2.1, .int .i64 t257.2.2.2.1]) (.agg #[.int .i64 t262.1, .int .i64 t262.2.1, .int .i64 t262.2.2.1, .int .i64 t262.2.2.2.1]))) w fun t263 =>
                                    k25 (t263, ()) w)))
                              (JoinX (α := Bool × Unit) (fun j28 w =>
                                SplitB j28.1
                                  (K false w)
                                  (k5 (s3.1, ()) w))
                              fun k27 =>
                                SplitB t151.2.1
                                  (k27 (true, ()) w)
                                  (CallK Try.prog (.int .i64) 16 #[.int .i64 t151.2.2.1] w fun t158 w =>
                                  k27 (t158 != 130, ()) w))))))
                    fun k17 =>
                      SplitB (decide (s7.1 < 0))
                        (CallK Try.prog (.int .i64) 16 #[.int .i64 t151.2.2.1] w fun t166 w =>
                        k17 (t166 == 0, ()) w)
                        (k17 (false, ()) w))))
              ((-1), 0, 0, ()) w)
            (K true w))
        ((⟨none, 0, 0⟩ : Sl), 0, ()) w))
    fun k1 =>
      SplitB (!t26)
        (k1 (true, ()) w)
        (CallK Try.prog (.int .i64) 16 #[.int .i64 t36.2.1] w fun t43 w =>
        SplitB (t43 != 0)
          (k1 (true, ()) w)
          (RunN Try.prog .bool (V (do eqGuard .eql 36 (.tmp 47) (.const (.pointer none)) (.pointer t36.1) (.pointer none); binOp .eql 36 (.pointer t36.1) (.pointer none))) w fun t48 w =>
          k1 (t48, ()) w)))
theorem T6.calls {p0 : Int} {p1 : Int} {p2 : Sl} {w : World} {K : Bool → World → Prop} (h : T6 p0 p1 p2 w K) : CallK Try.prog .bool 6 #[.int .i64 p0, .int .i64 p1, .slice p2.a p2.len p2.cap] w K :=
  bodyZ_sound (κ := kappa) (ann := [(9, [(49, .bool)]), (14, [(12, .sl), (13, (.int .i64))]), (17, [(12, .sl)]), (23, [(15, (.int .i64)), (16, (.int .i64)), (17, (.int .i64))]), (26, [(15, (.int .i64)), (16, (.int .i64))]), (27, [(15, (.int .i64))]), (29, [(104, .bool)]), (35, [(134, .bool)]), (41, [(161, .bool)]), (43, [(200, .bool)]), (46, [(231, .bool)]), (49, [(244, .bool)]), (52, [(264, .bool)]), (54, [(160, .bool)])]) (fn := Try.f6) Try.func6 rfl (by kernel_rfl) (cast (show T6 p0 p1 p2 w K = bodyZ Try.prog kappa [(9, [(49, .bool)]), (14, [(12, .sl), (13, (.int .i64))]), (17, [(12, .sl)]), (23, [(15, (.int .i64)), (16, (.int .i64)), (17, (.int .i64))]), (26, [(15, (.int .i64)), (16, (.int .i64))]), (27, [(15, (.int .i64))]), (29, [(104, .bool)]), (35, [(134, .bool)]), (41, [(161, .bool)]), (43, [(200, .bool)]), (46, [(231, .bool)]), (49, [(244, .bool)]), (52, [(264, .bool)]), (54, [(160, .bool)])] .bool Try.f6 [.int .i64 p0, .int .i64 p1, .slice p2.a p2.len p2.cap] w K by kernel_rfl) h)

/-- sluice/sluicelaw13.CacheOrder -/
def T7 (p0 : Int) (p1 : Int) (p2 : Sl) (w : World) (K : Bool → World → Prop) : Prop :=
  SplitB (decide ((p2.len : Int) > 200))
    (K true w)
    (CallK Try.prog .bool 9 #[] w fun t20 w =>
    CallK Try.prog (.int .i64) 11 #[.int .i64 p0, .int .i64 64] w fun t22 w =>
    CallK Try.prog (.int .i64) 11 #[.int .i64 p1, .int .i64 16] w fun t27 w =>
    CallK Try.prog (.tup (.cons .ptr (.cons (.int .i64) .nilT))) 15 #[.int .i64 0, .int .i64 2, .int .i64 (IntKind.i64.wrap (1 + t22)), .int .i64 (IntKind.i64.wrap (1 + t27))] w fun t29 w =>
    JoinX (α := Bool × Unit) (fun j2 w =>
      SplitB j2.1
        (K false w)
        (RunN Try.prog .addr (V (Instr.alloc 51 true (.tuple #[]))) w fun t11 w =>
        LoopX (α := Int × Unit) (fun s3 w k4 =>
          SplitB (decide (s3.1 < (p2.len : Int)))
            (CallK Try.prog (.int .i64) 11 #[.int .i64 (IntKind.i64.wrap (s3.1 * 7)), .int .i64 (IntKind.i64.wrap (Int.tdiv (IntKind.i64.wrap ((IntKind.i64.wrap (1 + t22)) + 1)) 2))] w fun t54 w =>
            RunN Try.prog .addr (V (Instr.indexAt 50 (.slice p2.a p2.len p2.cap) (.int .i64 s3.1))) w fun t61 w =>
            RunN Try.prog (.int .i64) (V (Instr.loadAt 3 (.pointer (some t61)))) w fun t62 w =>
            CallK Try.prog (.tup (.cons (.agg (.cons (.int .i64) (.cons (.int .i64) (.cons (.int .i64) (.cons (.int .i64) .nilT))))) (.cons .bool (.cons (.int .i64) .nilT)))) 18 #[.pointer t29.1, .agg #[.int .i64 (IntKind.i64.wrap (2 * t54)), .int .i64 t62]] w fun t64 w =>
            RunN Try.prog .addr (V (Instr.alloc 43 true (.tuple #[]))) w fun t14 w =>
            RunU Try.prog (U (Instr.storeAt 43 (.pointer (some t14)) (.agg #[.int .i64 t64.1.1, .int .i64 t64.1.2.1, .int .i64 t64.1.2.2.1, .int .i64 t64.1.2.2.2.1]))) w fun w =>
            JoinX (α := Bool × Unit) (fun j6 w =>
              SplitB j6.1
                (K false w)
                (JoinX (α := Unit) (fun j8 w =>
                  ReadN Try.prog .addr (V (Instr.indexAt 51 (.pointer (some t11)) (.int .i64 (IntKind.i64.wrap (2 * t54))))) w.drew fun t115 =>
                  ReadN Try.prog (.int .i64) (V (Instr.loadAt 3 (.pointer (some t115)))) w.drew fun t116 =>
                  CallK Try.prog (.int .i64) 19 #[.pointer t29.1, .int .i64 (IntKind.i64.wrap (2 * t54))] w.drew fun t113 w =>
                  StillV Try.prog (V (Instr.loadAt 3 (.pointer (some t115)))) (.int .i64 t116) w ∧
                  StillV Try.prog (V (Instr.indexAt 51 (.pointer (some t11)) (.int .i64 (IntKind.i64.wrap (2 * t54))))) (.pointer (some t115)) w ∧
                  SplitB (t113 != t116)
                    (K false w)
                    (k4 (IntKind.i64.wrap (s3.1 + 1), ()) w))
                fun k7 =>
                  CallK Try.prog (.int .i64) 16 #[.int .i64 t64.2.2.1] w fun t104 w =>
                  SplitB (t104 == 0)
                    (RunN Try.prog .addr (V (Instr.indexAt 51 (.pointer (some t11)) (.int .i64 (IntKind.i64.wrap (2 * t54))))) w fun t107 w =>
                    RunN Try.prog (.int .i64) (V (Instr.loadAt 3 (.pointer (some t107)))) w fun t108 w =>
                    RunN Try.prog .addr (V (Instr.indexAt 51 (.pointer (some t11)) (.int .i64 (IntKind.i64.wrap (2 * t54))))) w fun t110 w =>
                    RunU Try.prog (U (Instr.storeAt 3 (.pointer (some t110)) (.int .i64 (IntKind.i64.wrap (t108 + 1))))) w fun w =>
                    k7 () w)
                    (k7 () w)))
            fun k5 =>
              ReadN Try.prog .addr (V (Instr.indexAt 50 (.slice p2.a p2.len p2.cap) (.int .i64 s3.1))) w.drew fun t73 =>
              ReadN Try.prog (.int .i64) (V (Instr.loadAt 3 (.pointer (some t73)))) w.drew fun t74 =>
              ReadN Try.prog .addr (V (Instr.indexAt 51 (.pointer (some t11)) (.int .i64 (IntKind.i64.wrap (2 * t54))))) w.drew fun t76 =>
              ReadN Try.prog (.int .i64) (V (Instr.loadAt 3 (.pointer (some t76)))) w.drew fun t77 =>
              CallK Try.prog (.int .i64) 16 #[.int .i64 t64.2.2.1] w.drew fun t69 w =>
              StillV Try.prog (V (Instr.loadAt 3 (.pointer (some t76)))) (.int .i64 t77) w ∧
              StillV Try.prog (V (Instr.indexAt 51 (.pointer (some t11)) (.int .i64 (IntKind.i64.wrap (2 * t54))))) (.pointer (some t76)) w ∧
              StillV Try.prog (V (Instr.loadAt 3 (.pointer (some t73)))) (.int .i64 t74) w ∧
              StillV Try.prog (V (Instr.indexAt 50 (.slice p2.a p2.len p2.cap) (.int .i64 s3.1))) (.pointer (some t73)) w ∧
              SplitB (!((t69 == 0) == (t74 == (IntKind.i64.wrap (t77 + 1)))))
                (k5 (true, ()) w)
                (ReadN Try.prog .addr (V (Instr.indexAt 50 (.slice p2.a p2.len p2.cap) (.int .i64 s3.1))) w fun t87 =>
                ReadN Try.prog (.int .i64) (V (Instr.loadAt 3 (.pointer (some t87)))) w fun t88 =>
                ReadN Try.prog .addr (V (Instr.indexAt 51 (.pointer (some t11)) (.int .i64 (IntKind.i64.wrap (2 * t54))))) w fun t90 =>
                ReadN Try.prog (.int .i64) (V (Instr.loadAt 3 (.pointer (some t90)))) w fun t91 =>
                CallK Try.prog (.int .i64) 16 #[.int .i64 t64.2.2.1] w fun t83 w =>
                StillV Try.prog (V (Instr.loadAt 3 (.pointer (some t90)))) (.int .i64 t91) w ∧
                StillV Try.prog (V (Instr.indexAt 51 (.pointer (some t11)) (.int .i64 (IntKind.i64.wrap (2 * t54))))) (.pointer (some t90)) w ∧
                StillV Try.prog (V (Instr.loadAt 3 (.pointer (some t87)))) (.int .i64 t88) w ∧
                StillV Try.prog (V (Instr.indexAt 50 (.slice p2.a p2.len p2.cap) (.int .i64 s3.1))) (.pointer (some t87)) w ∧
                SplitB (decide (t88 > (IntKind.i64.wrap (t91 + 1))))
                  (ReadN Try.prog .addr (V (Instr.indexAt 50 (.slice p2.a p2.len p2.cap) (.int .i64 s3.1))) w fun t97 =>
                  ReadN Try.prog (.int .i64) (V (Instr.loadAt 3 (.pointer (some t97)))) w fun t98 =>
                  k5 (!((t83 == 131) == (decide (t98 ≤ 1099511627776))), ()) w)
                  (k5 (!((t83 == 131) == false), ()) w)))
            (K true w))
        (0, ()) w))
    fun k1 =>
      SplitB (!t20)
        (k1 (true, ()) w)
        (CallK Try.prog (.int .i64) 16 #[.int .i64 t29.2.1] w fun t36 w =>
        SplitB (t36 != 0)
          (k1 (true, ()) w)
          (RunN Try.prog .bool (V (do eqGuard .eql 36 (.tmp 40) (.const (.pointer none)) (.pointer t29.1) (.pointer none); binOp .eql 36 (.pointer t29.1) (.pointer none))) w fun t41 w =>
          k1 (t41, ()) w)))
theorem T7.calls {p0 : Int} {p1 : Int} {p2 : Sl} {w : World} {K : Bool → World → Prop} (h : T7 p0 p1 p2 w K) : CallK Try.prog .bool 7 #[.int .i64 p0, .int .i64 p1, .slice p2.a p2.len p2.cap] w K :=
  bodyZ_sound (κ := kappa) (ann := [(8, [(42, .bool)]), (13, [(12, (.int .i64))]), (20, [(102, .bool)]), (22, [])]) (fn := Try.f7) Try.func7 rfl (by kernel_rfl) (cast (show T7 p0 p1 p2 w K = bodyZ Try.prog kappa [(8, [(42, .bool)]), (13, [(12, (.int .i64))]), (20, [(102, .bool)]), (22, [])] .bool Try.f7 [.int .i64 p0, .int .i64 p1, .slice p2.a p2.len p2.cap] w K by kernel_rfl) h)

/-- sluice/sluicelaw13.holds -/
def T8 (p0 : Int) (p1 : Int) (p2 : Int) (p3 : Int) (p4 : Sl) (p5 : Int) (p6 : Int) (w : World) (K : Bool → World → Prop) : Prop :=
  SplitB (decide ((p4.len : Int) > 400))
    (K true w)
    (CallK Try.prog .bool 9 #[] w fun t24 w =>
    CallK Try.prog (.tup (.cons .ptr (.cons .bool .nilT))) 10 #[.int .i64 p0, .int .i64 p1, .int .i64 p2, .int .i64 p3] w fun t30 w =>
    JoinX (α := Bool × Unit) (fun j2 w =>
      SplitB j2.1
        (K false w)
        (LoopX (α := Int × Unit) (fun s3 w k4 =>
          JoinX (α := Bool × Unit) (fun j6 w =>
            SplitB j6.1
              (JoinX (α := Unit) (fun j8 w =>
                k4 (IntKind.i64.wrap (s3.1 + 1), ()) w)
              fun k7 =>
                RunN Try.prog .addr (V (Instr.indexAt 22 (.slice p4.a p4.len p4.cap) (.int .i64 s3.1))) w fun t51 w =>
                RunN Try.prog (.int .i64) (V (Instr.loadAt 3 (.pointer (some (t51.add 0))))) w fun t53 w =>
                JoinX (α := Bool × Unit) (fun j10 w =>
                  SplitB j10.1
                    (k7 () w)
                    (RunN Try.prog .addr (V (Instr.indexAt 22 (.slice p4.a p4.len p4.cap) (.int .i64 s3.1))) w fun t69 w =>
                    RunN Try.prog (.agg (.cons (.int .i64) (.cons (.int .i64) (.cons (.int .i64) (.cons (.int .i64) (.cons (.int .i64) .nilT)))))) (V (Instr.loadAt 34 (.pointer (some t69)))) w fun t70 w =>
                    CallK Try.prog .bool 12 #[.pointer t30.1, .agg #[.int .i64 t70.1, .int .i64 t70.2.1, .int .i64 t70.2.2.1, .int .i64 t70.2.2.2.1, .int .i64 t70.2.2.2.2.1]] w fun t71 w =>
                    SplitB (!t71)
                      (K false w)
                      (k7 () w)))
                fun k9 =>
                  SplitB (decide (t53 ≥ 5))
                    (SplitB (decide (t53 < p5))
                      (k9 (true, ()) w)
                      (k9 (decide (t53 > p6), ()) w))
                    (k9 (false, ()) w))
              (RunN Try.prog .bool (V (do eqGuard .eql 26 (.tmp 74) (.const (.pointer none)) (.pointer t30.1) (.pointer none); binOp .eql 26 (.pointer t30.1) (.pointer none))) w fun t75 w =>
              SplitB t75
                (K true w)
                (CallK Try.prog .bool 14 #[.pointer t30.1] w fun t78 w =>
                K t78 w)))
          fun k5 =>
            SplitB (decide (s3.1 < (p4.len : Int)))
              (RunN Try.prog .bool (V (do eqGuard .neq 26 (.tmp 44) (.const (.pointer none)) (.pointer t30.1) (.pointer none); binOp .neq 26 (.pointer t30.1) (.pointer none))) w fun t45 w =>
              k5 (t45, ()) w)
              (k5 (false, ()) w))
        (0, ()) w))
    fun k1 =>
      SplitB (!t24)
        (k1 (true, ()) w)
        (k1 (!t30.2.1, ()) w))
theorem T8.calls {p0 : Int} {p1 : Int} {p2 : Int} {p3 : Int} {p4 : Sl} {p5 : Int} {p6 : Int} {w : World} {K : Bool → World → Prop} (h : T8 p0 p1 p2 p3 p4 p5 p6 w K) : CallK Try.prog .bool 8 #[.int .i64 p0, .int .i64 p1, .int .i64 p2, .int .i64 p3, .slice p4.a p4.len p4.cap, .int .i64 p5, .int .i64 p6] w K :=
  bodyZ_sound (κ := kappa) (ann := [(7, [(38, .bool)]), (11, [(18, (.int .i64))]), (13, [(46, .bool)]), (14, []), (17, [(65, .bool)])]) (fn := Try.f8) Try.func8 rfl (by kernel_rfl) (cast (show T8 p0 p1 p2 p3 p4 p5 p6 w K = bodyZ Try.prog kappa [(7, [(38, .bool)]), (11, [(18, (.int .i64))]), (13, [(46, .bool)]), (14, []), (17, [(65, .bool)])] .bool Try.f8 [.int .i64 p0, .int .i64 p1, .int .i64 p2, .int .i64 p3, .slice p4.a p4.len p4.cap, .int .i64 p5, .int .i64 p6] w K by kernel_rfl) h)

/-- sluice/sluicelaw13.alive -/
def T9  (w : World) (K : Bool → World → Prop) : Prop :=
  CallK Try.prog (.tup (.cons .ptr (.cons .bool .nilT))) 10 #[.int .i64 1, .int .i64 3, .int .i64 6, .int .i64 1] w fun t9 w =>
  JoinX (α := Bool × Unit) (fun j2 w =>
    SplitB j2.1
      (K false w)
      (RunN Try.prog .addr (V (Instr.alloc 32 true (.tuple #[]))) w fun t3 w =>
      RunU Try.prog (U (Instr.storeAt 32 (.pointer (some t3)) (.agg #[.int .i64 4, .int .i64 1]))) w fun w =>
      RunN Try.prog .addr (V (Instr.alloc 32 true (.tuple #[]))) w fun t4 w =>
      RunU Try.prog (U (Instr.storeAt 32 (.pointer (some t4)) (.agg #[.int .i64 4, .int .i64 2]))) w fun w =>
      RunN Try.prog (.agg (.cons (.int .i64) (.cons (.int .i64) .nilT))) (V (Instr.loadAt 32 (.pointer (some t4)))) w fun t20 w =>
      RunN Try.prog (.agg (.cons (.int .i64) (.cons (.int .i64) .nilT))) (V (Instr.loadAt 32 (.pointer (some t3)))) w fun t22 w =>
      RunN Try.prog (.agg (.cons (.int .i64) (.cons (.int .i64) .nilT))) (V (Instr.loadAt 32 (.pointer (some t3)))) w fun t24 w =>
      RunN Try.prog (.agg (.cons (.int .i64) (.cons (.int .i64) .nilT))) (V (Instr.loadAt 32 (.pointer (some t3)))) w fun t27 w =>
      RunN Try.prog (.agg (.cons (.int .i64) (.cons (.int .i64) .nilT))) (V (Instr.loadAt 32 (.pointer (some t3)))) w fun t29 w =>
      RunN Try.prog (.agg (.cons (.int .i64) (.cons (.int .i64) .nilT))) (V (Instr.loadAt 32 (.pointer (some t3)))) w fun t31 w =>
      RunN Try.prog (.agg (.cons (.int .i64) (.cons (.int .i64) .nilT))) (V (Instr.loadAt 32 (.pointer (some t3)))) w fun t34 w =>
      RunN Try.prog (.agg (.cons (.int .i64) (.cons (.int .i64) .nilT))) (V (Instr.loadAt 32 (.pointer (some t4)))) w fun t36 w =>
      RunN Try.prog (.agg (.cons (.int .i64) (.cons (.int .i64) .nilT))) (V (Instr.loadAt 32 (.pointer (some t3)))) w fun t38 w =>
      RunN Try.prog .sl (V (Instr.buildSlice 22 11 #[(0, .agg #[.int .i64 1, .int .i64 t20.1, .int .i64 t20.2.1, .int .i64 0, .int .i64 0]), (1, .agg #[.int .i64 1, .int .i64 t22.1, .int .i64 t22.2.1, .int .i64 0, .int .i64 0]), (2, .agg #[.int .i64 1, .int .i64 t24.1, .int .i64 t24.2.1, .int .i64 0, .int .i64 0]), (3, .agg #[.int .i64 5, .int .i64 0, .int .i64 0, .int .i64 0, .int .i64 0]), (4, .agg #[.int .i64 2, .int .i64 t27.1, .int .i64 t27.2.1, .int .i64 0, .int .i64 7]), (5, .agg #[.int .i64 1, .int .i64 t29.1, .int .i64 t29.2.1, .int .i64 0, .int .i64 0]), (6, .agg #[.int .i64 3, .int .i64 t31.1, .int .i64 t31.2.1, .int .i64 0, .int .i64 0]), (7, .agg #[.int .i64 4, .int .i64 0, .int .i64 0, .int .i64 0, .int .i64 8]), (8, .agg #[.int .i64 1, .int .i64 t34.1, .int .i64 t34.2.1, .int .i64 0, .int .i64 0]), (9, .agg #[.int .i64 1, .int .i64 t36.1, .int .i64 t36.2.1, .int .i64 0, .int .i64 0]), (10, .agg #[.int .i64 6, .int .i64 t38.1, .int .i64 t38.2.1, .int .i64 0, .int .i64 0])])) w fun t40 w =>
      LoopX (α := Int × Unit) (fun s3 w k4 =>
        SplitB (decide (s3.1 < (t40.len : Int)))
          (RunN Try.prog .addr (V (Instr.indexAt 22 (.slice t40.a t40.len t40.cap) (.int .i64 s3.1))) w fun t50 w =>
          RunN Try.prog (.agg (.cons (.int .i64) (.cons (.int .i64) (.cons (.int .i64) (.cons (.int .i64) (.cons (.int .i64) .nilT)))))) (V (Instr.loadAt 34 (.pointer (some t50)))) w fun t51 w =>
          CallK Try.prog .bool 12 #[.pointer t9.1, .agg #[.int .i64 t51.1, .int .i64 t51.2.1, .int .i64 t51.2.2.1, .int .i64 t51.2.2.2.1, .int .i64 t51.2.2.2.2.1]] w fun t52 w =>
          SplitB (!t52)
            (K false w)
            (k4 (IntKind.i64.wrap (s3.1 + 1), ()) w))
          (NilP t9.1 fun t56 =>
          RunN Try.prog .ptr (V (Instr.loadAt 36 (.pointer (some (t56.add 0))))) w fun t58 w =>
          CallK Try.prog (.int .i64) 19 #[.pointer t58, .int .i64 4] w fun t59 w =>
          K (t59 == 2) w))
      (0, ()) w))
  fun k1 =>
    SplitB (!t9.2.1)
      (k1 (true, ()) w)
      (RunN Try.prog .bool (V (do eqGuard .eql 26 (.tmp 15) (.const (.pointer none)) (.pointer t9.1) (.pointer none); binOp .eql 26 (.pointer t9.1) (.pointer none))) w fun t16 w =>
      k1 (t16, ()) w)
theorem T9.calls  {w : World} {K : Bool → World → Prop} (h : T9  w K) : CallK Try.prog .bool 9 #[] w K :=
  bodyZ_sound (κ := kappa) (ann := [(3, [(17, .bool)]), (10, [(6, (.int .i64))])]) (fn := Try.f9) Try.func9 rfl (by kernel_rfl) (cast (show T9  w K = bodyZ Try.prog kappa [(3, [(17, .bool)]), (10, [(6, (.int .i64))])] .bool Try.f9 [] w K by kernel_rfl) h)

/-- sluice/sluicelaw13.made -/
def T10 (p0 : Int) (p1 : Int) (p2 : Int) (p3 : Int) (w : World) (K : (Option Addr × Bool × Unit) → World → Prop) : Prop :=
  CallK Try.prog (.tup (.cons .ptr (.cons (.int .i64) .nilT))) 15 #[.int .i64 p0, .int .i64 p1, .int .i64 p2, .int .i64 p3] w fun t19 w =>
  CallK Try.prog (.tup (.cons .ptr (.cons (.int .i64) .nilT))) 20 #[.int .i64 p0, .int .i64 p1, .int .i64 p2, .int .i64 p3] w fun t27 w =>
  JoinX (α := Bool × Unit) (fun j2 w =>
    SplitB j2.1
      (K (none, false, ()) w)
      (JoinX (α := Bool × Unit) (fun j4 w =>
        SplitB j4.1
          (K (none, true, ()) w)
          (RunN Try.prog .addr (V (Instr.box 57 (.agg #[.pointer t19.1, .pointer t27.1, .slice none 0 0, .slice none 0 0, .int .i64 0, .slice none 0 0, .slice none 0 0]))) w fun t50 w =>
          K (some t50, true, ()) w))
      fun k3 =>
        RunN Try.prog .bool (V (do eqGuard .eql 36 (.tmp 41) (.const (.pointer none)) (.pointer t19.1) (.pointer none); binOp .eql 36 (.pointer t19.1) (.pointer none))) w fun t42 w =>
        SplitB t42
          (k3 (true, ()) w)
          (RunN Try.prog .bool (V (do eqGuard .eql 54 (.tmp 44) (.const (.pointer none)) (.pointer t27.1) (.pointer none); binOp .eql 54 (.pointer t27.1) (.pointer none))) w fun t45 w =>
          k3 (t45, ()) w)))
  fun k1 =>
    CallK Try.prog (.int .i64) 16 #[.int .i64 t19.2.1] w fun t31 w =>
    SplitB (t31 != t27.2.1)
      (k1 (true, ()) w)
      (RunN Try.prog .bool (V (do eqGuard .eql 36 (.tmp 35) (.const (.pointer none)) (.pointer t19.1) (.pointer none); binOp .eql 36 (.pointer t19.1) (.pointer none))) w fun t36 w =>
      RunN Try.prog .bool (V (do eqGuard .eql 54 (.tmp 37) (.const (.pointer none)) (.pointer t27.1) (.pointer none); binOp .eql 54 (.pointer t27.1) (.pointer none))) w fun t38 w =>
      k1 (!(t36 == t38), ()) w)
theorem T10.calls {p0 : Int} {p1 : Int} {p2 : Int} {p3 : Int} {w : World} {K : (Option Addr × Bool × Unit) → World → Prop} (h : T10 p0 p1 p2 p3 w K) : CallK Try.prog (.tup (.cons .ptr (.cons .bool .nilT))) 10 #[.int .i64 p0, .int .i64 p1, .int .i64 p2, .int .i64 p3] w K :=
  bodyZ_sound (κ := kappa) (ann := [(4, [(40, .bool)]), (7, [(46, .bool)])]) (fn := Try.f10) Try.func10 rfl (by kernel_rfl) (cast (show T10 p0 p1 p2 p3 w K = bodyZ Try.prog kappa [(4, [(40, .bool)]), (7, [(46, .bool)])] (.tup (.cons .ptr (.cons .bool .nilT))) Try.f10 [.int .i64 p0, .int .i64 p1, .int .i64 p2, .int .i64 p3] w K by kernel_rfl) h)

/-- sluice/sluicelaw13.slot -/
def T11 (p0 : Int) (p1 : Int) (w : World) (K : Int → World → Prop) : Prop :=
  RunN Try.prog (.int .i64) (V (binOp .rem 3 (.int .i64 p0) (.int .i64 p1))) w fun t7 w =>
  SplitB (decide (t7 < 0))
    (K (IntKind.i64.wrap (t7 + p1)) w)
    (K t7 w)
theorem T11.calls {p0 : Int} {p1 : Int} {w : World} {K : Int → World → Prop} (h : T11 p0 p1 w K) : CallK Try.prog (.int .i64) 11 #[.int .i64 p0, .int .i64 p1] w K :=
  bodyZ_sound (κ := kappa) (ann := []) (fn := Try.f11) Try.func11 rfl (by kernel_rfl) (cast (show T11 p0 p1 w K = bodyZ Try.prog kappa [] (.int .i64) Try.f11 [.int .i64 p0, .int .i64 p1] w K by kernel_rfl) h)

/-- (*sluice/sluicelaw13.pair).plays -/
def T12 (p0 : Option Addr) (p1 : (Int × Int × Int × Int × Int × Unit)) (w : World) (K : Bool → World → Prop) : Prop :=
  RunN Try.prog .addr (V (Instr.box 34 (.agg #[.int .i64 p1.1, .int .i64 p1.2.1, .int .i64 p1.2.2.1, .int .i64 p1.2.2.2.1, .int .i64 p1.2.2.2.2.1]))) w fun t3 w =>
  RunN Try.prog (.agg (.cons (.int .i64) (.cons (.int .i64) (.cons (.int .i64) (.cons (.int .i64) (.cons (.int .i64) .nilT)))))) (V (Instr.loadAt 34 (.pointer (some t3)))) w fun t7 w =>
  CallK Try.prog .bool 21 #[.pointer p0, .agg #[.int .i64 t7.1, .int .i64 t7.2.1, .int .i64 t7.2.2.1, .int .i64 t7.2.2.2.1, .int .i64 t7.2.2.2.2.1]] w fun t8 w =>
  SplitB t8
    (CallK Try.prog .bool 13 #[.pointer p0] w fun t12 w =>
    K t12 w)
    (K false w)
theorem T12.calls {p0 : Option Addr} {p1 : (Int × Int × Int × Int × Int × Unit)} {w : World} {K : Bool → World → Prop} (h : T12 p0 p1 w K) : CallK Try.prog .bool 12 #[.pointer p0, .agg #[.int .i64 p1.1, .int .i64 p1.2.1, .int .i64 p1.2.2.1, .int .i64 p1.2.2.2.1, .int .i64 p1.2.2.2.2.1]] w K :=
  bodyZ_sound (κ := kappa) (ann := []) (fn := Try.f12) Try.func12 rfl (by kernel_rfl) (cast (show T12 p0 p1 w K = bodyZ Try.prog kappa [] .bool Try.f12 [.pointer p0, .agg #[.int .i64 p1.1, .int .i64 p1.2.1, .int .i64 p1.2.2.1, .int .i64 p1.2.2.2.1, .int .i64 p1.2.2.2.2.1]] w K by kernel_rfl) h)

/-- (*sluice/sluicelaw13.pair).stands -/
def T13 (p0 : Option Addr) (w : World) (K : Bool → World → Prop) : Prop :=
  LoopX (α := Int × Unit) (fun s1 w k2 =>
    NilP p0 fun t7 =>
    RunN Try.prog .sl (V (Instr.loadAt 55 (.pointer (some (t7.add 2))))) w fun t9 w =>
    SplitB (decide (s1.1 < (t9.len : Int)))
      (LoopX (α := Int × Unit) (fun s3 w k4 =>
        NilP p0 fun t16 =>
        RunN Try.prog .sl (V (Instr.loadAt 55 (.pointer (some (t16.add 2))))) w fun t18 w =>
        RunN Try.prog .addr (V (Instr.indexAt 55 (.slice t18.a t18.len t18.cap) (.int .i64 s1.1))) w fun t20 w =>
        RunN Try.prog .sl (V (Instr.loadAt 60 (.pointer (some t20)))) w fun t21 w =>
        SplitB (decide (s3.1 < (t21.len : Int)))
          (NilP p0 fun t27 =>
          ReadN Try.prog .sl (V (Instr.loadAt 55 (.pointer (some (t27.add 2))))) w.drew fun t29 =>
          ReadN Try.prog .addr (V (Instr.indexAt 55 (.slice t29.a t29.len t29.cap) (.int .i64 s1.1))) w.drew fun t31 =>
          ReadN Try.prog .sl (V (Instr.loadAt 60 (.pointer (some t31)))) w.drew fun t32 =>
          ReadN Try.prog .addr (V (Instr.indexAt 60 (.slice t32.a t32.len t32.cap) (.int .i64 s3.1))) w.drew fun t34 =>
          ReadN Try.prog (.int .i64) (V (Instr.loadAt 3 (.pointer (some (t34.add 0))))) w.drew fun t36 =>
          NilP p0 fun t38 =>
          ReadN Try.prog .sl (V (Instr.loadAt 50 (.pointer (some (t38.add 3))))) w.drew fun t40 =>
          ReadN Try.prog .addr (V (Instr.indexAt 50 (.slice t40.a t40.len t40.cap) (.int .i64 s1.1))) w.drew fun t42 =>
          ReadN Try.prog (.int .i64) (V (Instr.loadAt 3 (.pointer (some t42)))) w.drew fun t43 =>
          SplitB (t36 != t43)
            (K false w.drew)
            (k4 (IntKind.i64.wrap (s3.1 + 1), ()) w.drew))
          (k2 (IntKind.i64.wrap (s1.1 + 1), ()) w))
      (0, ()) w)
      (K true w))
  (0, ()) w
theorem T13.calls {p0 : Option Addr} {w : World} {K : Bool → World → Prop} (h : T13 p0 w K) : CallK Try.prog .bool 13 #[.pointer p0] w K :=
  bodyZ_sound (κ := kappa) (ann := [(3, [(3, (.int .i64))]), (8, [(4, (.int .i64))])]) (fn := Try.f13) Try.func13 rfl (by kernel_rfl) (cast (show T13 p0 w K = bodyZ Try.prog kappa [(3, [(3, (.int .i64))]), (8, [(4, (.int .i64))])] .bool Try.f13 [.pointer p0] w K by kernel_rfl) h)

/-- (*sluice/sluicelaw13.pair).apart -/
def T14 (p0 : Option Addr) (w : World) (K : Bool → World → Prop) : Prop :=
  LoopX (α := Int × Unit) (fun s1 w k2 =>
    NilP p0 fun t15 =>
    RunN Try.prog .sl (V (Instr.loadAt 55 (.pointer (some (t15.add 5))))) w fun t17 w =>
    SplitB (decide (s1.1 < (t17.len : Int)))
      (NilP p0 fun t23 =>
      ReadN Try.prog .sl (V (Instr.loadAt 55 (.pointer (some (t23.add 5))))) w.drew fun t25 =>
      ReadN Try.prog .addr (V (Instr.indexAt 55 (.slice t25.a t25.len t25.cap) (.int .i64 s1.1))) w.drew fun t27 =>
      ReadN Try.prog .sl (V (Instr.loadAt 60 (.pointer (some t27)))) w.drew fun t28 =>
      NilP p0 fun t30 =>
      ReadN Try.prog .sl (V (Instr.loadAt 55 (.pointer (some (t30.add 6))))) w.drew fun t32 =>
      ReadN Try.prog .addr (V (Instr.indexAt 55 (.slice t32.a t32.len t32.cap) (.int .i64 s1.1))) w.drew fun t34 =>
      ReadN Try.prog .sl (V (Instr.loadAt 60 (.pointer (some t34)))) w.drew fun t35 =>
      CallK Try.prog .bool 22 #[.slice t28.a t28.len t28.cap, .slice t35.a t35.len t35.cap] w.drew fun t36 w =>
      SplitB (!t36)
        (K false w)
        (k2 (IntKind.i64.wrap (s1.1 + 1), ()) w))
      (LoopX (α := Int × Unit) (fun s3 w k4 =>
        NilP p0 fun t40 =>
        RunN Try.prog .sl (V (Instr.loadAt 55 (.pointer (some (t40.add 5))))) w fun t42 w =>
        SplitB (decide (s3.1 < (t42.len : Int)))
          (LoopX (α := Int × Unit) (fun s5 w k6 =>
            NilP p0 fun t49 =>
            RunN Try.prog .sl (V (Instr.loadAt 55 (.pointer (some (t49.add 5))))) w fun t51 w =>
            RunN Try.prog .addr (V (Instr.indexAt 55 (.slice t51.a t51.len t51.cap) (.int .i64 s3.1))) w fun t53 w =>
            RunN Try.prog .sl (V (Instr.loadAt 60 (.pointer (some t53)))) w fun t54 w =>
            SplitB (decide (s5.1 < (t54.len : Int)))
              (NilP p0 fun t60 =>
              RunN Try.prog .sl (V (Instr.loadAt 55 (.pointer (some (t60.add 5))))) w fun t62 w =>
              RunN Try.prog .addr (V (Instr.indexAt 55 (.slice t62.a t62.len t62.cap) (.int .i64 s3.1))) w fun t64 w =>
              RunN Try.prog .sl (V (Instr.loadAt 60 (.pointer (some t64)))) w fun t65 w =>
              RunN Try.prog .addr (V (Instr.indexAt 60 (.slice t65.a t65.len t65.cap) (.int .i64 s5.1))) w fun t70 w =>
              RunU Try.prog (U (Instr.storeAt 32 (.pointer (some t70)) (.agg #[.int .i64 (IntKind.i64.wrap ((-1) - s3.1)), .int .i64 0]))) w fun w =>
              k6 (IntKind.i64.wrap (s5.1 + 1), ()) w)
              (k4 (IntKind.i64.wrap (s3.1 + 1), ()) w))
          (0, ()) w)
          (LoopX (α := Sl × Int × Unit) (fun s7 w k8 =>
            NilP p0 fun t73 =>
            RunN Try.prog .sl (V (Instr.loadAt 55 (.pointer (some (t73.add 5))))) w fun t75 w =>
            SplitB (decide (s7.2.1 < (t75.len : Int)))
              (NilP p0 fun t81 =>
              RunN Try.prog .sl (V (Instr.loadAt 55 (.pointer (some (t81.add 5))))) w fun t83 w =>
              RunN Try.prog .addr (V (Instr.indexAt 55 (.slice t83.a t83.len t83.cap) (.int .i64 s7.2.1))) w fun t85 w =>
              RunN Try.prog .sl (V (Instr.loadAt 60 (.pointer (some t85)))) w fun t86 w =>
              LoopX (α := Sl × Int × Unit) (fun s9 w k10 =>
                SplitB (decide (s9.2.1 < 100))
                  (RunN Try.prog .sl (V (Instr.buildSlice 60 1 #[(0, .agg #[.int .i64 (IntKind.i64.wrap ((-1000000) - s7.2.1)), .int .i64 0])])) w fun t95 w =>
                  RunN Try.prog .sl (V (Builtin.append_ #[60, 60] 60 #[.slice s9.1.a s9.1.len s9.1.cap, .slice t95.a t95.len t95.cap])) w fun t96 w =>
                  k10 (t96, IntKind.i64.wrap (s9.2.1 + 1), ()) w)
                  (RunN Try.prog .sl (V (Instr.buildSlice 55 1 #[(0, .slice s9.1.a s9.1.len s9.1.cap)])) w fun t99 w =>
                  RunN Try.prog .sl (V (Builtin.append_ #[55, 55] 55 #[.slice s7.1.a s7.1.len s7.1.cap, .slice t99.a t99.len t99.cap])) w fun t100 w =>
                  k8 (t100, IntKind.i64.wrap (s7.2.1 + 1), ()) w))
              (t86, 0, ()) w)
              (LoopX (α := Int × Unit) (fun s11 w k12 =>
                SplitB (decide (s11.1 < (s7.1.len : Int)))
                  (NilP p0 fun t108 =>
                  RunN Try.prog .sl (V (Instr.loadAt 55 (.pointer (some (t108.add 5))))) w fun t110 w =>
                  RunN Try.prog .addr (V (Instr.indexAt 55 (.slice t110.a t110.len t110.cap) (.int .i64 s11.1))) w fun t112 w =>
                  RunN Try.prog .sl (V (Instr.loadAt 60 (.pointer (some t112)))) w fun t113 w =>
                  LoopX (α := Int × Unit) (fun s13 w k14 =>
                    RunN Try.prog .addr (V (Instr.indexAt 55 (.slice s7.1.a s7.1.len s7.1.cap) (.int .i64 s11.1))) w fun t118 w =>
                    RunN Try.prog .sl (V (Instr.loadAt 60 (.pointer (some t118)))) w fun t119 w =>
                    SplitB (decide (s13.1 < (t119.len : Int)))
                      (JoinX (α := Bool × Unit) (fun j16 w =>
                        SplitB j16.1
                          (K false w)
                          (k14 (IntKind.i64.wrap (s13.1 + 1), ()) w))
                      fun k15 =>
                        SplitB (decide (s13.1 < (t113.len : Int)))
                          (NilP p0 fun t129 =>
                          RunN Try.prog .sl (V (Instr.loadAt 55 (.pointer (some (t129.add 5))))) w fun t131 w =>
                          RunN Try.prog .addr (V (Instr.indexAt 55 (.slice t131.a t131.len t131.cap) (.int .i64 s11.1))) w fun t133 w =>
                          RunN Try.prog .sl (V (Instr.loadAt 60 (.pointer (some t133)))) w fun t134 w =>
                          RunN Try.prog .addr (V (Instr.indexAt 60 (.slice t134.a t134.len t134.cap) (.int .i64 s13.1))) w fun t136 w =>
                          RunN Try.prog (.int .i64) (V (Instr.loadAt 3 (.pointer (some (t136.add 0))))) w fun t138 w =>
                          SplitB (t138 != (IntKind.i64.wrap ((-1) - s11.1)))
                            (k15 (true, ()) w)
                            (RunN Try.prog .addr (V (Instr.indexAt 55 (.slice s7.1.a s7.1.len s7.1.cap) (.int .i64 s11.1))) w fun t145 w =>
                            RunN Try.prog .sl (V (Instr.loadAt 60 (.pointer (some t145)))) w fun t146 w =>
                            RunN Try.prog .addr (V (Instr.indexAt 60 (.slice t146.a t146.len t146.cap) (.int .i64 s13.1))) w fun t148 w =>
                            RunN Try.prog (.int .i64) (V (Instr.loadAt 3 (.pointer (some (t148.add 0))))) w fun t150 w =>
                            SplitB (t150 != (IntKind.i64.wrap ((-1) - s11.1)))
                              (k15 (true, ()) w)
                              (SplitB (decide (s13.1 ≥ (t113.len : Int)))
                                (RunN Try.prog .addr (V (Instr.indexAt 55 (.slice s7.1.a s7.1.len s7.1.cap) (.int .i64 s11.1))) w fun t163 w =>
                                RunN Try.prog .sl (V (Instr.loadAt 60 (.pointer (some t163)))) w fun t164 w =>
                                RunN Try.prog .addr (V (Instr.indexAt 60 (.slice t164.a t164.len t164.cap) (.int .i64 s13.1))) w fun t166 w =>
                                RunN Try.prog (.int .i64) (V (Instr.loadAt 3 (.pointer (some (t166.add 0))))) w fun t168 w =>
                                k15 (t168 != (IntKind.i64.wrap ((-1000000) - s11.1)), ()) w)
                                (k15 (false, ()) w))))
                          (SplitB (decide (s13.1 ≥ (t113.len : Int)))
                            (RunN Try.prog .addr (V (Instr.indexAt 55 (.slice s7.1.a s7.1.len s7.1.cap) (.int .i64 s11.1))) w fun t163 w =>
                            RunN Try.prog .sl (V (Instr.loadAt 60 (.pointer (some t163)))) w fun t164 w =>
                            RunN Try.prog .addr (V (Instr.indexAt 60 (.slice t164.a t164.len t164.cap) (.int .i64 s13.1))) w fun t166 w =>
                            RunN Try.prog (.int .i64) (V (Instr.loadAt 3 (.pointer (some (t166.add 0))))) w fun t168 w =>
                            k15 (t168 != (IntKind.i64.wrap ((-1000000) - s11.1)), ()) w)
                            (k15 (false, ()) w)))
                      (k12 (IntKind.i64.wrap (s11.1 + 1), ()) w))
                  (0, ()) w)
                  (K true w))
              (0, ()) w))
          ((⟨none, 0, 0⟩ : Sl), 0, ()) w))
      (0, ()) w))
  (0, ()) w
theorem T14.calls {p0 : Option Addr} {w : World} {K : Bool → World → Prop} (h : T14 p0 w K) : CallK Try.prog .bool 14 #[.pointer p0] w K :=
  bodyZ_sound (κ := kappa) (ann := [(3, [(3, (.int .i64))]), (11, [(4, (.int .i64))]), (16, [(5, (.int .i64))]), (23, [(6, .sl), (7, (.int .i64))]), (30, [(8, .sl), (9, (.int .i64))]), (36, [(10, (.int .i64))]), (42, [(12, (.int .i64))]), (46, [(173, .bool)])]) (fn := Try.f14) Try.func14 rfl (by kernel_rfl) (cast (show T14 p0 w K = bodyZ Try.prog kappa [(3, [(3, (.int .i64))]), (11, [(4, (.int .i64))]), (16, [(5, (.int .i64))]), (23, [(6, .sl), (7, (.int .i64))]), (30, [(8, .sl), (9, (.int .i64))]), (36, [(10, (.int .i64))]), (42, [(12, (.int .i64))]), (46, [(173, .bool)])] .bool Try.f14 [.pointer p0] w K by kernel_rfl) h)

/-- sluice/cache.New -/
def T15 (p0 : Int) (p1 : Int) (p2 : Int) (p3 : Int) (w : World) (K : (Option Addr × Int × Unit) → World → Prop) : Prop :=
  JoinX (α := Bool × Unit) (fun j2 w =>
    SplitB j2.1
      (K (none, 1, ()) w)
      (JoinX (α := Bool × Unit) (fun j4 w =>
        SplitB j4.1
          (K (none, 1, ()) w)
          (JoinX (α := Bool × Unit) (fun j6 w =>
            SplitB j6.1
              (K (none, 3, ()) w)
              (RunN Try.prog .map (V (Instr.makeMap 62 none)) w fun t46 w =>
              RunN Try.prog .addr (V (Instr.box 64 (.agg #[.int .i64 p0, .int .i64 p1, .int .i64 p2, .int .i64 p3, .map t46]))) w fun t48 w =>
              LoopX (α := Int × Unit) (fun s7 w k8 =>
                SplitB (decide (s7.1 < p2))
                  (RunN Try.prog .map (V (Instr.loadAt 62 (.pointer (some (t48.add 4))))) w fun t59 w =>
                  RunN Try.prog .raw (V (Instr.build 68 #[])) w fun t63 w =>
                  RunN Try.prog .addr (V (Instr.box 68 (t63))) w fun t64 w =>
                  RunU Try.prog (U (Instr.mapUpdate 62 (.map t59) (.agg #[.int .i64 p0, .int .i64 s7.1]) (.pointer (some t64)))) w fun w =>
                  k8 (IntKind.i64.wrap (s7.1 + p1), ()) w)
                  (K (some t48, 0, ()) w))
              (p0, ()) w))
          fun k5 =>
            SplitB (decide (p0 < 0))
              (k5 (true, ()) w)
              (k5 (decide (p0 ≥ p1), ()) w)))
      fun k3 =>
        SplitB (decide (p2 < 1))
          (k3 (true, ()) w)
          (SplitB (decide (p2 > 64))
            (k3 (true, ()) w)
            (SplitB (decide (p3 < 1))
              (k3 (true, ()) w)
              (k3 (decide (p3 > 16), ()) w)))))
  fun k1 =>
    SplitB (decide (p1 < 2))
      (k1 (true, ()) w)
      (k1 (decide (p1 > 16), ()) w)
theorem T15.calls {p0 : Int} {p1 : Int} {p2 : Int} {p3 : Int} {w : World} {K : (Option Addr × Int × Unit) → World → Prop} (h : T15 p0 p1 p2 p3 w K) : CallK Try.prog (.tup (.cons .ptr (.cons (.int .i64) .nilT))) 15 #[.int .i64 p0, .int .i64 p1, .int .i64 p2, .int .i64 p3] w K :=
  bodyZ_sound (κ := kappa) (ann := [(2, [(12, .bool)]), (4, [(19, .bool)]), (6, [(34, .bool)]), (11, [(11, (.int .i64))])]) (fn := Try.f15) Try.func15 rfl (by kernel_rfl) (cast (show T15 p0 p1 p2 p3 w K = bodyZ Try.prog kappa [(2, [(12, .bool)]), (4, [(19, .bool)]), (6, [(34, .bool)]), (11, [(11, (.int .i64))])] (.tup (.cons .ptr (.cons (.int .i64) .nilT))) Try.f15 [.int .i64 p0, .int .i64 p1, .int .i64 p2, .int .i64 p3] w K by kernel_rfl) h)

/-- sluice/sluicelaw13.num -/
def T16 (p0 : Int) (w : World) (K : Int → World → Prop) : Prop :=
  K p0 w
theorem T16.calls {p0 : Int} {w : World} {K : Int → World → Prop} (h : T16 p0 w K) : CallK Try.prog (.int .i64) 16 #[.int .i64 p0] w K :=
  bodyZ_sound (κ := kappa) (ann := []) (fn := Try.f16) Try.func16 rfl (by kernel_rfl) (cast (show T16 p0 w K = bodyZ Try.prog kappa [] (.int .i64) Try.f16 [.int .i64 p0] w K by kernel_rfl) h)

/-- (*sluice/cache.Cache).End -/
def T17 (p0 : Option Addr) (p1 : (Int × Int × Int × Int × Unit)) (w : World) (K : Int → World → Prop) : Prop :=
  RunN Try.prog .addr (V (Instr.box 43 (.agg #[.int .i64 p1.1, .int .i64 p1.2.1, .int .i64 p1.2.2.1, .int .i64 p1.2.2.2.1]))) w fun t3 w =>
  RunN Try.prog (.int .i64) (V (Instr.loadAt 3 (.pointer (some ((t3.add 0).add 0))))) w fun t11 w =>
  CallK Try.prog .ptr 23 #[.pointer p0, .int .i64 t11] w fun t12 w =>
  RunN Try.prog .bool (V (do eqGuard .eql 65 (.tmp 13) (.const (.pointer none)) (.pointer t12) (.pointer none); binOp .eql 65 (.pointer t12) (.pointer none))) w fun t14 w =>
  SplitB t14
    (K 132 w)
    (ReadN Try.prog (.int .i64) (V (Instr.loadAt 3 (.pointer (some ((t3.add 0).add 1))))) w.drew fun t17 =>
    NilP t12 fun t19 =>
    ReadN Try.prog (.int .i64) (V (Instr.loadAt 3 (.pointer (some (t19.add 0))))) w.drew fun t21 =>
    SplitB (decide (t17 > t21))
      (K 131 w.drew)
      (NilP t12 fun t25 =>
      ReadN Try.prog .sl (V (Instr.loadAt 50 (.pointer (some (t25.add 1))))) w.drew.drew fun t27 =>
      ReadN Try.prog (.int .i64) (V (Instr.loadAt 3 (.pointer (some ((t3.add 0).add 1))))) w.drew.drew fun t30 =>
      CallK Try.prog (.tup (.cons (.int .i64) (.cons .bool .nilT))) 24 #[.slice t27.a t27.len t27.cap, .int .i64 t30] w.drew.drew fun t31 w =>
      SplitB (!t31.2.1)
        (K 130 w)
        (NilP t12 fun t38 =>
        RunN Try.prog .sl (V (Instr.loadAt 50 (.pointer (some (t38.add 1))))) w fun t40 w =>
        CallK Try.prog .sl 25 #[.slice t40.a t40.len t40.cap, .int .i64 t31.1, .int .i64 (IntKind.i64.wrap (t31.1 + 1))] w fun t44 w =>
        NilP t12 fun t45 =>
        RunU Try.prog (U (Instr.storeAt 50 (.pointer (some (t45.add 1))) (.slice t44.a t44.len t44.cap))) w fun w =>
        ReadN Try.prog (.agg (.cons (.int .i64) (.cons (.int .i64) (.cons (.int .i64) (.cons (.int .i64) .nilT))))) (V (Instr.loadAt 43 (.pointer (some t3)))) w.drew fun t48 =>
        NilP p0 fun t50 =>
        ReadN Try.prog (.int .i64) (V (Instr.loadAt 3 (.pointer (some (t50.add 3))))) w.drew fun t52 =>
        CallK Try.prog (.tup .nilT) 26 #[.pointer t12, .agg #[.int .i64 t48.1, .int .i64 t48.2.1, .int .i64 t48.2.2.1, .int .i64 t48.2.2.2.1], .int .i64 t52] w.drew fun t53 w =>
        K 0 w)))
theorem T17.calls {p0 : Option Addr} {p1 : (Int × Int × Int × Int × Unit)} {w : World} {K : Int → World → Prop} (h : T17 p0 p1 w K) : CallK Try.prog (.int .i64) 17 #[.pointer p0, .agg #[.int .i64 p1.1, .int .i64 p1.2.1, .int .i64 p1.2.2.1, .int .i64 p1.2.2.2.1]] w K :=
  bodyZ_sound (κ := kappa) (ann := []) (fn := Try.f17) Try.func17 rfl (by kernel_rfl) (cast (show T17 p0 p1 w K = bodyZ Try.prog kappa [] (.int .i64) Try.f17 [.pointer p0, .agg #[.int .i64 p1.1, .int .i64 p1.2.1, .int .i64 p1.2.2.1, .int .i64 p1.2.2.2.1]] w K by kernel_rfl) h)

/-- (*sluice/cache.Cache).Begin -/
def T18 (p0 : Option Addr) (p1 : (Int × Int × Unit)) (w : World) (K : ((Int × Int × Int × Int × Unit) × Bool × Int × Unit) → World → Prop) : Prop :=
  RunN Try.prog .addr (V (Instr.box 32 (.agg #[.int .i64 p1.1, .int .i64 p1.2.1]))) w fun t3 w =>
  RunN Try.prog .addr (V (Instr.alloc 43 true (.tuple #[]))) w fun t4 w =>
  RunN Try.prog (.int .i64) (V (Instr.loadAt 3 (.pointer (some (t3.add 0))))) w fun t12 w =>
  CallK Try.prog .ptr 23 #[.pointer p0, .int .i64 t12] w fun t13 w =>
  RunN Try.prog .bool (V (do eqGuard .eql 65 (.tmp 15) (.const (.pointer none)) (.pointer t13) (.pointer none); binOp .eql 65 (.pointer t13) (.pointer none))) w fun t16 w =>
  SplitB t16
    (RunU Try.prog (U (Instr.storeAt 43 (.pointer (some t4)) (.agg #[.int .i64 0, .int .i64 0, .int .i64 0, .int .i64 0]))) w fun w =>
    ReadN Try.prog (.agg (.cons (.int .i64) (.cons (.int .i64) (.cons (.int .i64) (.cons (.int .i64) .nilT))))) (V (Instr.loadAt 43 (.pointer (some t4)))) w fun r0 =>
    K ((r0.1, r0.2.1, r0.2.2.1, r0.2.2.2.1, ()), false, 132, ()) w)
    (JoinX (α := Bool × Unit) (fun j2 w =>
      SplitB j2.1
        (RunU Try.prog (U (Instr.storeAt 43 (.pointer (some t4)) (.agg #[.int .i64 0, .int .i64 0, .int .i64 0, .int .i64 0]))) w fun w =>
        ReadN Try.prog (.agg (.cons (.int .i64) (.cons (.int .i64) (.cons (.int .i64) (.cons (.int .i64) .nilT))))) (V (Instr.loadAt 43 (.pointer (some t4)))) w fun r0 =>
        K ((r0.1, r0.2.1, r0.2.2.1, r0.2.2.2.1, ()), false, 1, ()) w)
        (ReadN Try.prog (.int .i64) (V (Instr.loadAt 3 (.pointer (some (t3.add 1))))) w.drew fun t30 =>
        NilP t13 fun t32 =>
        ReadN Try.prog (.int .i64) (V (Instr.loadAt 3 (.pointer (some (t32.add 0))))) w.drew fun t34 =>
        SplitB (decide (t30 > (IntKind.i64.wrap (t34 + 1))))
          (RunU Try.prog (U (Instr.storeAt 43 (.pointer (some t4)) (.agg #[.int .i64 0, .int .i64 0, .int .i64 0, .int .i64 0]))) w.drew fun w =>
          ReadN Try.prog (.agg (.cons (.int .i64) (.cons (.int .i64) (.cons (.int .i64) (.cons (.int .i64) .nilT))))) (V (Instr.loadAt 43 (.pointer (some t4)))) w fun r0 =>
          K ((r0.1, r0.2.1, r0.2.2.1, r0.2.2.2.1, ()), false, 131, ()) w)
          (ReadN Try.prog (.int .i64) (V (Instr.loadAt 3 (.pointer (some (t3.add 1))))) w.drew.drew fun t40 =>
          NilP t13 fun t42 =>
          ReadN Try.prog (.int .i64) (V (Instr.loadAt 3 (.pointer (some (t42.add 0))))) w.drew.drew fun t44 =>
          SplitB (t40 == (IntKind.i64.wrap (t44 + 1)))
            (RunN Try.prog (.int .i64) (V (Instr.loadAt 3 (.pointer (some (t3.add 1))))) w.drew.drew fun t49 w =>
            NilP t13 fun t50 =>
            RunU Try.prog (U (Instr.storeAt 3 (.pointer (some (t50.add 0))) (.int .i64 t49))) w fun w =>
            NilP t13 fun t54 =>
            ReadN Try.prog .sl (V (Instr.loadAt 50 (.pointer (some (t54.add 1))))) w.drew fun t56 =>
            ReadN Try.prog (.int .i64) (V (Instr.loadAt 3 (.pointer (some (t3.add 1))))) w.drew fun t58 =>
            RunN Try.prog .sl (V (Instr.buildSlice 50 1 #[(0, .int .i64 t58)])) w.drew fun t59 w =>
            StillV Try.prog (V (Instr.loadAt 50 (.pointer (some (t54.add 1))))) (.slice t56.a t56.len t56.cap) w ∧
            RunN Try.prog .sl (V (Builtin.append_ #[50, 50] 50 #[.slice t56.a t56.len t56.cap, .slice t59.a t59.len t59.cap])) w fun t60 w =>
            NilP t13 fun t61 =>
            RunU Try.prog (U (Instr.storeAt 50 (.pointer (some (t61.add 1))) (.slice t60.a t60.len t60.cap))) w fun w =>
            RunU Try.prog (U (Instr.storeAt 43 (.pointer (some t4)) (.agg #[.int .i64 0, .int .i64 0, .int .i64 0, .int .i64 0]))) w fun w =>
            ReadN Try.prog (.agg (.cons (.int .i64) (.cons (.int .i64) (.cons (.int .i64) (.cons (.int .i64) .nilT))))) (V (Instr.loadAt 43 (.pointer (some t4)))) w fun r0 =>
            K ((r0.1, r0.2.1, r0.2.2.1, r0.2.2.2.1, ()), false, 0, ()) w)
            (NilP t13 fun t66 =>
            ReadN Try.prog .sl (V (Instr.loadAt 50 (.pointer (some (t66.add 1))))) w.drew.drew.drew fun t68 =>
            ReadN Try.prog (.int .i64) (V (Instr.loadAt 3 (.pointer (some (t3.add 1))))) w.drew.drew.drew fun t70 =>
            CallK Try.prog .bool 27 #[.slice t68.a t68.len t68.cap, .int .i64 t70] w.drew.drew.drew fun t71 w =>
            SplitB t71
              (RunU Try.prog (U (Instr.storeAt 43 (.pointer (some t4)) (.agg #[.int .i64 0, .int .i64 0, .int .i64 0, .int .i64 0]))) w fun w =>
              ReadN Try.prog (.agg (.cons (.int .i64) (.cons (.int .i64) (.cons (.int .i64) (.cons (.int .i64) .nilT))))) (V (Instr.loadAt 43 (.pointer (some t4)))) w fun r0 =>
              K ((r0.1, r0.2.1, r0.2.2.1, r0.2.2.2.1, ()), false, 133, ()) w)
              (RunN Try.prog (.int .i64) (V (Instr.loadAt 3 (.pointer (some (t3.add 1))))) w fun t76 w =>
              CallK Try.prog (.tup (.cons (.int .i64) (.cons .bool .nilT))) 28 #[.pointer t13, .int .i64 t76] w fun t77 w =>
              SplitB t77.2.1
                (NilP t13 fun t83 =>
                RunN Try.prog .addr (V (Instr.indexAt 66 (.pointer (some (t83.add 2))) (.int .i64 t77.1))) w fun t85 w =>
                RunN Try.prog (.agg (.cons (.int .i64) (.cons (.int .i64) (.cons (.int .i64) (.cons (.int .i64) .nilT))))) (V (Instr.loadAt 43 (.pointer (some t85)))) w fun t86 w =>
                RunU Try.prog (U (Instr.storeAt 43 (.pointer (some t4)) (.agg #[.int .i64 t86.1, .int .i64 t86.2.1, .int .i64 t86.2.2.1, .int .i64 t86.2.2.2.1]))) w fun w =>
                ReadN Try.prog (.agg (.cons (.int .i64) (.cons (.int .i64) (.cons (.int .i64) (.cons (.int .i64) .nilT))))) (V (Instr.loadAt 43 (.pointer (some t4)))) w fun r0 =>
                K ((r0.1, r0.2.1, r0.2.2.1, r0.2.2.2.1, ()), true, 0, ()) w)
                (RunU Try.prog (U (Instr.storeAt 43 (.pointer (some t4)) (.agg #[.int .i64 0, .int .i64 0, .int .i64 0, .int .i64 0]))) w fun w =>
                ReadN Try.prog (.agg (.cons (.int .i64) (.cons (.int .i64) (.cons (.int .i64) (.cons (.int .i64) .nilT))))) (V (Instr.loadAt 43 (.pointer (some t4)))) w fun r0 =>
                K ((r0.1, r0.2.1, r0.2.2.1, r0.2.2.2.1, ()), false, 130, ()) w))))))
    fun k1 =>
      RunN Try.prog (.int .i64) (V (Instr.loadAt 3 (.pointer (some (t3.add 1))))) w fun t20 w =>
      SplitB (decide (t20 < 1))
        (k1 (true, ()) w)
        (RunN Try.prog (.int .i64) (V (Instr.loadAt 3 (.pointer (some (t3.add 1))))) w fun t24 w =>
        k1 (decide (t24 > 1099511627776), ()) w))
theorem T18.calls {p0 : Option Addr} {p1 : (Int × Int × Unit)} {w : World} {K : ((Int × Int × Int × Int × Unit) × Bool × Int × Unit) → World → Prop} (h : T18 p0 p1 w K) : CallK Try.prog (.tup (.cons (.agg (.cons (.int .i64) (.cons (.int .i64) (.cons (.int .i64) (.cons (.int .i64) .nilT))))) (.cons .bool (.cons (.int .i64) .nilT)))) 18 #[.pointer p0, .agg #[.int .i64 p1.1, .int .i64 p1.2.1]] w K :=
  bodyZ_sound (κ := kappa) (ann := [(5, [(18, .bool)])]) (fn := Try.f18) Try.func18 rfl (by kernel_rfl) (cast (show T18 p0 p1 w K = bodyZ Try.prog kappa [(5, [(18, .bool)])] (.tup (.cons (.agg (.cons (.int .i64) (.cons (.int .i64) (.cons (.int .i64) (.cons (.int .i64) .nilT))))) (.cons .bool (.cons (.int .i64) .nilT)))) Try.f18 [.pointer p0, .agg #[.int .i64 p1.1, .int .i64 p1.2.1]] w K by kernel_rfl) h)

/-- (*sluice/cache.Cache).Last -/
def T19 (p0 : Option Addr) (p1 : Int) (w : World) (K : Int → World → Prop) : Prop :=
  CallK Try.prog .ptr 23 #[.pointer p0, .int .i64 p1] w fun t8 w =>
  RunN Try.prog .bool (V (do eqGuard .neq 65 (.tmp 9) (.const (.pointer none)) (.pointer t8) (.pointer none); binOp .neq 65 (.pointer t8) (.pointer none))) w fun t10 w =>
  SplitB t10
    (NilP t8 fun t12 =>
    RunN Try.prog (.int .i64) (V (Instr.loadAt 3 (.pointer (some (t12.add 0))))) w fun t14 w =>
    K t14 w)
    (K 0 w)
theorem T19.calls {p0 : Option Addr} {p1 : Int} {w : World} {K : Int → World → Prop} (h : T19 p0 p1 w K) : CallK Try.prog (.int .i64) 19 #[.pointer p0, .int .i64 p1] w K :=
  bodyZ_sound (κ := kappa) (ann := []) (fn := Try.f19) Try.func19 rfl (by kernel_rfl) (cast (show T19 p0 p1 w K = bodyZ Try.prog kappa [] (.int .i64) Try.f19 [.pointer p0, .int .i64 p1] w K by kernel_rfl) h)

/-- sluice/sluiceref13.New -/
def T20 (p0 : Int) (p1 : Int) (p2 : Int) (p3 : Int) (w : World) (K : (Option Addr × Int × Unit) → World → Prop) : Prop :=
  JoinX (α := Bool × Unit) (fun j2 w =>
    SplitB j2.1
      (K (none, 1, ()) w)
      (JoinX (α := Bool × Unit) (fun j4 w =>
        SplitB j4.1
          (K (none, 3, ()) w)
          (RunN Try.prog .raw (V (Instr.build 80 #[(0, .int .i64 p0), (1, .int .i64 p1), (2, .int .i64 p2), (3, .int .i64 p3)])) w fun t43 w =>
          RunN Try.prog .addr (V (Instr.box 80 (t43))) w fun t44 w =>
          K (some t44, 0, ()) w))
      fun k3 =>
        SplitB (decide (p0 < 0))
          (k3 (true, ()) w)
          (k3 (decide (p0 ≥ p1), ()) w)))
  fun k1 =>
    SplitB (decide (p1 < 2))
      (k1 (true, ()) w)
      (SplitB (decide (p1 > 16))
        (k1 (true, ()) w)
        (SplitB (decide (p2 < 1))
          (k1 (true, ()) w)
          (SplitB (decide (p2 > 64))
            (k1 (true, ()) w)
            (SplitB (decide (p3 < 1))
              (k1 (true, ()) w)
              (k1 (decide (p3 > 16), ()) w)))))
theorem T20.calls {p0 : Int} {p1 : Int} {p2 : Int} {p3 : Int} {w : World} {K : (Option Addr × Int × Unit) → World → Prop} (h : T20 p0 p1 p2 p3 w K) : CallK Try.prog (.tup (.cons .ptr (.cons (.int .i64) .nilT))) 20 #[.int .i64 p0, .int .i64 p1, .int .i64 p2, .int .i64 p3] w K :=
  bodyZ_sound (κ := kappa) (ann := [(2, [(31, .bool)]), (5, [(38, .bool)])]) (fn := Try.f20) Try.func20 rfl (by kernel_rfl) (cast (show T20 p0 p1 p2 p3 w K = bodyZ Try.prog kappa [(2, [(31, .bool)]), (5, [(38, .bool)])] (.tup (.cons .ptr (.cons (.int .i64) .nilT))) Try.f20 [.int .i64 p0, .int .i64 p1, .int .i64 p2, .int .i64 p3] w K by kernel_rfl) h)

/-- (*sluice/sluicelaw13.pair).call -/
def T21 (p0 : Option Addr) (p1 : (Int × Int × Int × Int × Int × Unit)) (w : World) (K : Bool → World → Prop) : Prop :=
  RunN Try.prog .addr (V (Instr.box 34 (.agg #[.int .i64 p1.1, .int .i64 p1.2.1, .int .i64 p1.2.2.1, .int .i64 p1.2.2.2.1, .int .i64 p1.2.2.2.2.1]))) w fun t3 w =>
  RunN Try.prog (.int .i64) (V (Instr.loadAt 3 (.pointer (some (t3.add 0))))) w fun t7 w =>
  SplitB (t7 == 1)
    (RunN Try.prog (.agg (.cons (.int .i64) (.cons (.int .i64) .nilT))) (V (Instr.loadAt 32 (.pointer (some (t3.add 1))))) w fun t12 w =>
    CallK Try.prog .bool 29 #[.pointer p0, .agg #[.int .i64 t12.1, .int .i64 t12.2.1]] w fun t13 w =>
    K t13 w)
    (SplitB (t7 == 2)
      (RunN Try.prog (.agg (.cons (.int .i64) (.cons (.int .i64) .nilT))) (V (Instr.loadAt 32 (.pointer (some (t3.add 1))))) w fun t18 w =>
      RunN Try.prog (.int .i64) (V (Instr.loadAt 3 (.pointer (some (t3.add 3))))) w fun t20 w =>
      RunN Try.prog (.int .i64) (V (Instr.loadAt 3 (.pointer (some (t3.add 4))))) w fun t22 w =>
      CallK Try.prog .bool 30 #[.pointer p0, .agg #[.int .i64 t18.1, .int .i64 t18.2.1, .int .i64 t20, .int .i64 t22]] w fun t24 w =>
      K t24 w)
      (SplitB (t7 == 3)
        (ReadN Try.prog (.int .i64) (V (Instr.loadAt 3 (.pointer (some ((t3.add 1).add 0))))) w.drew fun t30 =>
        NilP p0 fun t32 =>
        ReadN Try.prog .ptr (V (Instr.loadAt 54 (.pointer (some (t32.add 1))))) w.drew fun t34 =>
        ReadN Try.prog (.int .i64) (V (Instr.loadAt 3 (.pointer (some ((t3.add 1).add 0))))) w.drew fun t37 =>
        CallK Try.prog (.int .i64) 31 #[.pointer t34, .int .i64 t37] w.drew fun t38 w =>
        StillV Try.prog (V (Instr.loadAt 3 (.pointer (some ((t3.add 1).add 0))))) (.int .i64 t30) w ∧
        CallK Try.prog .bool 29 #[.pointer p0, .agg #[.int .i64 t30, .int .i64 (IntKind.i64.wrap (t38 + 1))]] w fun t41 w =>
        K t41 w)
        (SplitB (t7 == 4)
          (NilP p0 fun t45 =>
          RunN Try.prog .ptr (V (Instr.loadAt 54 (.pointer (some (t45.add 1))))) w fun t47 w =>
          CallK Try.prog .sl 32 #[.pointer t47] w fun t48 w =>
          SplitB ((t48.len : Int) == 0)
            (K true w)
            (ReadN Try.prog (.int .i64) (V (Instr.loadAt 3 (.pointer (some (t3.add 3))))) w.drew fun t55 =>
            ReadN Try.prog (.int .i64) (V (Instr.loadAt 3 (.pointer (some (t3.add 3))))) w.drew fun t62 =>
            ReadN Try.prog (.int .i64) (V (Instr.loadAt 3 (.pointer (some (t3.add 4))))) w.drew fun t64 =>
            CallK Try.prog (.int .i64) 11 #[.int .i64 t55, .int .i64 (t48.len : Int)] w.drew fun t58 w =>
            StillV Try.prog (V (Instr.loadAt 3 (.pointer (some (t3.add 4))))) (.int .i64 t64) w ∧
            StillV Try.prog (V (Instr.loadAt 3 (.pointer (some (t3.add 3))))) (.int .i64 t62) w ∧
            ReadN Try.prog .addr (V (Instr.indexAt 60 (.slice t48.a t48.len t48.cap) (.int .i64 t58))) w fun t59 =>
            ReadN Try.prog (.agg (.cons (.int .i64) (.cons (.int .i64) .nilT))) (V (Instr.loadAt 32 (.pointer (some t59)))) w fun t60 =>
            CallK Try.prog .bool 30 #[.pointer p0, .agg #[.int .i64 t60.1, .int .i64 t60.2.1, .int .i64 t62, .int .i64 t64]] w fun t66 w =>
            K t66 w))
          (SplitB (t7 == 5)
            (CallK Try.prog .bool 33 #[.pointer p0] w fun t70 w =>
            K t70 w)
            (SplitB (t7 == 6)
              (NilP p0 fun t74 =>
              ReadN Try.prog .ptr (V (Instr.loadAt 36 (.pointer (some (t74.add 0))))) w.drew fun t76 =>
              ReadN Try.prog (.int .i64) (V (Instr.loadAt 3 (.pointer (some ((t3.add 1).add 0))))) w.drew fun t79 =>
              NilP p0 fun t82 =>
              ReadN Try.prog .ptr (V (Instr.loadAt 54 (.pointer (some (t82.add 1))))) w.drew fun t84 =>
              ReadN Try.prog (.int .i64) (V (Instr.loadAt 3 (.pointer (some ((t3.add 1).add 0))))) w.drew fun t87 =>
              CallK Try.prog (.int .i64) 19 #[.pointer t76, .int .i64 t79] w.drew fun t80 w =>
              StillV Try.prog (V (Instr.loadAt 3 (.pointer (some ((t3.add 1).add 0))))) (.int .i64 t87) w ∧
              StillV Try.prog (V (Instr.loadAt 54 (.pointer (some (t82.add 1))))) (.pointer t84) w ∧
              CallK Try.prog (.int .i64) 31 #[.pointer t84, .int .i64 t87] w fun t88 w =>
              K (t80 == t88) w)
              (K true w))))))
theorem T21.calls {p0 : Option Addr} {p1 : (Int × Int × Int × Int × Int × Unit)} {w : World} {K : Bool → World → Prop} (h : T21 p0 p1 w K) : CallK Try.prog .bool 21 #[.pointer p0, .agg #[.int .i64 p1.1, .int .i64 p1.2.1, .int .i64 p1.2.2.1, .int .i64 p1.2.2.2.1, .int .i64 p1.2.2.2.2.1]] w K :=
  bodyZ_sound (κ := kappa) (ann := []) (fn := Try.f21) Try.func21 rfl (by kernel_rfl) (cast (show T21 p0 p1 w K = bodyZ Try.prog kappa [] .bool Try.f21 [.pointer p0, .agg #[.int .i64 p1.1, .int .i64 p1.2.1, .int .i64 p1.2.2.1, .int .i64 p1.2.2.2.1, .int .i64 p1.2.2.2.2.1]] w K by kernel_rfl) h)

/-- sluice/sluicelaw13.sameCalls -/
def T22 (p0 : Sl) (p1 : Sl) (w : World) (K : Bool → World → Prop) : Prop :=
  SplitB ((p0.len : Int) != (p1.len : Int))
    (K false w)
    (LoopX (α := Int × Unit) (fun s1 w k2 =>
      SplitB (decide (s1.1 < (p0.len : Int)))
        (ReadN Try.prog .addr (V (Instr.indexAt 60 (.slice p0.a p0.len p0.cap) (.int .i64 s1.1))) w.drew fun t19 =>
        ReadN Try.prog (.agg (.cons (.int .i64) (.cons (.int .i64) .nilT))) (V (Instr.loadAt 32 (.pointer (some t19)))) w.drew fun t20 =>
        ReadN Try.prog .addr (V (Instr.indexAt 60 (.slice p1.a p1.len p1.cap) (.int .i64 s1.1))) w.drew fun t23 =>
        ReadN Try.prog (.agg (.cons (.int .i64) (.cons (.int .i64) .nilT))) (V (Instr.loadAt 32 (.pointer (some t23)))) w.drew fun t24 =>
        ReadN Try.prog .bool (V (do eqGuard .neq 32 (.tmp 20) (.tmp 24) (.agg #[.int .i64 t20.1, .int .i64 t20.2.1]) (.agg #[.int .i64 t24.1, .int .i64 t24.2.1]); binOp .neq 32 (.agg #[.int .i64 t20.1, .int .i64 t20.2.1]) (.agg #[.int .i64 t24.1, .int .i64 t24.2.1]))) w.drew fun t25 =>
        SplitB t25
          (K false w.drew)
          (k2 (IntKind.i64.wrap (s1.1 + 1), ()) w.drew))
        (K true w))
    (0, ()) w)
theorem T22.calls {p0 : Sl} {p1 : Sl} {w : World} {K : Bool → World → Prop} (h : T22 p0 p1 w K) : CallK Try.prog .bool 22 #[.slice p0.a p0.len p0.cap, .slice p1.a p1.len p1.cap] w K :=
  bodyZ_sound (κ := kappa) (ann := [(6, [(5, (.int .i64))])]) (fn := Try.f22) Try.func22 rfl (by kernel_rfl) (cast (show T22 p0 p1 w K = bodyZ Try.prog kappa [(6, [(5, (.int .i64))])] .bool Try.f22 [.slice p0.a p0.len p0.cap, .slice p1.a p1.len p1.cap] w K by kernel_rfl) h)

/-- (*sluice/cache.Cache).of -/
def T23 (p0 : Option Addr) (p1 : Int) (w : World) (K : Option Addr → World → Prop) : Prop :=
  NilP p0 fun t6 =>
  ReadN Try.prog .map (V (Instr.loadAt 62 (.pointer (some (t6.add 4))))) w.drew fun t8 =>
  NilP p0 fun t10 =>
  ReadN Try.prog (.int .i64) (V (Instr.loadAt 3 (.pointer (some (t10.add 0))))) w.drew fun t12 =>
  ReadN Try.prog .ptr (V (Instr.lookup 62 (.map t8) (.agg #[.int .i64 t12, .int .i64 p1]) false)) w.drew fun t15 =>
  K t15 w.drew
theorem T23.calls {p0 : Option Addr} {p1 : Int} {w : World} {K : Option Addr → World → Prop} (h : T23 p0 p1 w K) : CallK Try.prog .ptr 23 #[.pointer p0, .int .i64 p1] w K :=
  bodyZ_sound (κ := kappa) (ann := []) (fn := Try.f23) Try.func23 rfl (by kernel_rfl) (cast (show T23 p0 p1 w K = bodyZ Try.prog kappa [] .ptr Try.f23 [.pointer p0, .int .i64 p1] w K by kernel_rfl) h)

/-- slices.BinarySearch[[]int,int] -/
def T24 (p0 : Sl) (p1 : Int) (w : World) (K : (Int × Bool × Unit) → World → Prop) : Prop :=
  LoopX (α := Int × Int × Unit) (fun s1 w k2 =>
    SplitB (decide (s1.1 < s1.2.1))
      (RunN Try.prog .addr (V (Instr.indexAt 50 (.slice p0.a p0.len p0.cap) (.int .i64 (IntKind.i64.wrap (Int.fdiv (IntKind.u64.wrap (IntKind.i64.wrap (s1.1 + s1.2.1))) (2 ^ 1)))))) w fun t24 w =>
      RunN Try.prog (.int .i64) (V (Instr.loadAt 3 (.pointer (some t24)))) w fun t25 w =>
      CallK Try.prog .bool 34 #[.int .i64 t25, .int .i64 p1] w fun t27 w =>
      SplitB t27
        (k2 (IntKind.i64.wrap ((IntKind.i64.wrap (Int.fdiv (IntKind.u64.wrap (IntKind.i64.wrap (s1.1 + s1.2.1))) (2 ^ 1))) + 1), s1.2.1, ()) w)
        (k2 (s1.1, IntKind.i64.wrap (Int.fdiv (IntKind.u64.wrap (IntKind.i64.wrap (s1.1 + s1.2.1))) (2 ^ 1)), ()) w))
      (SplitB (decide (s1.1 < (p0.len : Int)))
        (RunN Try.prog .addr (V (Instr.indexAt 50 (.slice p0.a p0.len p0.cap) (.int .i64 s1.1))) w fun t38 w =>
        RunN Try.prog (.int .i64) (V (Instr.loadAt 3 (.pointer (some t38)))) w fun t39 w =>
        SplitB (t39 == p1)
          (K (s1.1, true, ()) w)
          (RunN Try.prog .addr (V (Instr.indexAt 50 (.slice p0.a p0.len p0.cap) (.int .i64 s1.1))) w fun t45 w =>
          RunN Try.prog (.int .i64) (V (Instr.loadAt 3 (.pointer (some t45)))) w fun t46 w =>
          CallK Try.prog .bool 35 #[.int .i64 t46] w fun t47 w =>
          SplitB t47
            (CallK Try.prog .bool 35 #[.int .i64 p1] w fun t50 w =>
            K (s1.1, t50, ()) w)
            (K (s1.1, false, ()) w)))
        (K (s1.1, false, ()) w)))
  (0, (p0.len : Int), ()) w
theorem T24.calls {p0 : Sl} {p1 : Int} {w : World} {K : (Int × Bool × Unit) → World → Prop} (h : T24 p0 p1 w K) : CallK Try.prog (.tup (.cons (.int .i64) (.cons .bool .nilT))) 24 #[.slice p0.a p0.len p0.cap, .int .i64 p1] w K :=
  bodyZ_sound (κ := kappa) (ann := [(4, [(7, (.int .i64)), (8, (.int .i64))])]) (fn := Try.f24) Try.func24 rfl (by kernel_rfl) (cast (show T24 p0 p1 w K = bodyZ Try.prog kappa [(4, [(7, (.int .i64)), (8, (.int .i64))])] (.tup (.cons (.int .i64) (.cons .bool .nilT))) Try.f24 [.slice p0.a p0.len p0.cap, .int .i64 p1] w K by kernel_rfl) h)

/-- slices.Delete[[]int,int] -/
def T25 (p0 : Sl) (p1 : Int) (p2 : Int) (w : World) (K : Sl → World → Prop) : Prop :=
  RunN Try.prog .sl (V (Instr.sliceAt 50 (.slice p0.a p0.len p0.cap) (some (.int .i64 p1)) (some (.int .i64 p2)) (some (.int .i64 (p0.len : Int))))) w fun t13 w =>
  SplitB (p1 == p2)
    (K p0 w)
    (ReadN Try.prog .sl (V (Instr.sliceAt 50 (.slice p0.a p0.len p0.cap) none (some (.int .i64 p1)) none)) w.drew fun t22 =>
    ReadN Try.prog .sl (V (Instr.sliceAt 50 (.slice p0.a p0.len p0.cap) (some (.int .i64 p2)) none none)) w.drew fun t25 =>
    RunN Try.prog .sl (V (Builtin.append_ #[50, 50] 50 #[.slice t22.a t22.len t22.cap, .slice t25.a t25.len t25.cap])) w.drew fun t26 w =>
    RunN Try.prog .sl (V (Instr.sliceAt 50 (.slice t26.a t26.len t26.cap) (some (.int .i64 (t26.len : Int))) (some (.int .i64 (p0.len : Int))) none)) w fun t31 w =>
    RunN Try.prog (.tup .nilT) (V (Builtin.clear_ #[50] 0 #[.slice t31.a t31.len t31.cap])) w fun _ w =>
    K t26 w)
theorem T25.calls {p0 : Sl} {p1 : Int} {p2 : Int} {w : World} {K : Sl → World → Prop} (h : T25 p0 p1 p2 w K) : CallK Try.prog .sl 25 #[.slice p0.a p0.len p0.cap, .int .i64 p1, .int .i64 p2] w K :=
  bodyZ_sound (κ := kappa) (ann := []) (fn := Try.f25) Try.func25 rfl (by kernel_rfl) (cast (show T25 p0 p1 p2 w K = bodyZ Try.prog kappa [] .sl Try.f25 [.slice p0.a p0.len p0.cap, .int .i64 p1, .int .i64 p2] w K by kernel_rfl) h)

/-- (*sluice/cache.session).keep -/
def T26 (p0 : Option Addr) (p1 : (Int × Int × Int × Int × Unit)) (p2 : Int) (w : World) (K : Unit → World → Prop) : Prop :=
  RunN Try.prog .addr (V (Instr.box 43 (.agg #[.int .i64 p1.1, .int .i64 p1.2.1, .int .i64 p1.2.2.1, .int .i64 p1.2.2.2.1]))) w fun t4 w =>
  RunN Try.prog (.int .i64) (V (Instr.loadAt 3 (.pointer (some ((t4.add 0).add 1))))) w fun t12 w =>
  CallK Try.prog (.tup (.cons (.int .i64) (.cons .bool .nilT))) 28 #[.pointer p0, .int .i64 t12] w fun t13 w =>
  NilP p0 fun t17 =>
  RunN Try.prog (.int .i64) (V (Instr.loadAt 3 (.pointer (some (t17.add 66))))) w fun t19 w =>
  SplitB (decide (t19 < p2))
    (NilP p0 fun t23 =>
    NilP p0 fun t28 =>
    ReadN Try.prog (.int .i64) (V (Instr.loadAt 3 (.pointer (some (t28.add 66))))) w.drew fun t30 =>
    ReadN Try.prog .sl (V (Instr.sliceAt 66 (.pointer (some (t23.add 2))) (some (.int .i64 (IntKind.i64.wrap (t13.1 + 1)))) (some (.int .i64 (IntKind.i64.wrap (t30 + 1)))) none)) w.drew fun t32 =>
    NilP p0 fun t34 =>
    NilP p0 fun t38 =>
    ReadN Try.prog (.int .i64) (V (Instr.loadAt 3 (.pointer (some (t38.add 66))))) w.drew fun t40 =>
    ReadN Try.prog .sl (V (Instr.sliceAt 66 (.pointer (some (t34.add 2))) (some (.int .i64 t13.1)) (some (.int .i64 t40)) none)) w.drew fun t41 =>
    RunN Try.prog (.int .i64) (V (Builtin.copy_ #[78, 78] 3 #[.slice t32.a t32.len t32.cap, .slice t41.a t41.len t41.cap])) w.drew fun t42 w =>
    ReadN Try.prog (.agg (.cons (.int .i64) (.cons (.int .i64) (.cons (.int .i64) (.cons (.int .i64) .nilT))))) (V (Instr.loadAt 43 (.pointer (some t4)))) w.drew fun t45 =>
    NilP p0 fun t46 =>
    ReadN Try.prog .addr (V (Instr.indexAt 66 (.pointer (some (t46.add 2))) (.int .i64 t13.1))) w.drew fun t48 =>
    RunU Try.prog (U (Instr.storeAt 43 (.pointer (some t48)) (.agg #[.int .i64 t45.1, .int .i64 t45.2.1, .int .i64 t45.2.2.1, .int .i64 t45.2.2.2.1]))) w.drew fun w =>
    NilP p0 fun t50 =>
    RunN Try.prog (.int .i64) (V (Instr.loadAt 3 (.pointer (some (t50.add 66))))) w fun t52 w =>
    NilP p0 fun t54 =>
    RunU Try.prog (U (Instr.storeAt 3 (.pointer (some (t54.add 66))) (.int .i64 (IntKind.i64.wrap (t52 + 1))))) w fun w =>
    K () w)
    (SplitB (decide (t13.1 > 0))
      (NilP p0 fun t59 =>
      ReadN Try.prog .sl (V (Instr.sliceAt 66 (.pointer (some (t59.add 2))) none (some (.int .i64 (IntKind.i64.wrap (t13.1 - 1)))) none)) w.drew fun t63 =>
      NilP p0 fun t65 =>
      ReadN Try.prog .sl (V (Instr.sliceAt 66 (.pointer (some (t65.add 2))) (some (.int .i64 1)) (some (.int .i64 t13.1)) none)) w.drew fun t68 =>
      RunN Try.prog (.int .i64) (V (Builtin.copy_ #[78, 78] 3 #[.slice t63.a t63.len t63.cap, .slice t68.a t68.len t68.cap])) w.drew fun t69 w =>
      ReadN Try.prog (.agg (.cons (.int .i64) (.cons (.int .i64) (.cons (.int .i64) (.cons (.int .i64) .nilT))))) (V (Instr.loadAt 43 (.pointer (some t4)))) w.drew fun t73 =>
      NilP p0 fun t74 =>
      ReadN Try.prog .addr (V (Instr.indexAt 66 (.pointer (some (t74.add 2))) (.int .i64 (IntKind.i64.wrap (t13.1 - 1))))) w.drew fun t76 =>
      RunU Try.prog (U (Instr.storeAt 43 (.pointer (some t76)) (.agg #[.int .i64 t73.1, .int .i64 t73.2.1, .int .i64 t73.2.2.1, .int .i64 t73.2.2.2.1]))) w.drew fun w =>
      K () w)
      (K () w))
theorem T26.calls {p0 : Option Addr} {p1 : (Int × Int × Int × Int × Unit)} {p2 : Int} {w : World} {K : Unit → World → Prop} (h : T26 p0 p1 p2 w K) : CallK Try.prog (.tup .nilT) 26 #[.pointer p0, .agg #[.int .i64 p1.1, .int .i64 p1.2.1, .int .i64 p1.2.2.1, .int .i64 p1.2.2.2.1], .int .i64 p2] w K :=
  bodyZ_sound (κ := kappa) (ann := []) (fn := Try.f26) Try.func26 rfl (by kernel_rfl) (cast (show T26 p0 p1 p2 w K = bodyZ Try.prog kappa [] (.tup .nilT) Try.f26 [.pointer p0, .agg #[.int .i64 p1.1, .int .i64 p1.2.1, .int .i64 p1.2.2.1, .int .i64 p1.2.2.2.1], .int .i64 p2] w K by kernel_rfl) h)

/-- slices.Contains[[]int,int] -/
def T27 (p0 : Sl) (p1 : Int) (w : World) (K : Bool → World → Prop) : Prop :=
  CallK Try.prog (.int .i64) 36 #[.slice p0.a p0.len p0.cap, .int .i64 p1] w fun t7 w =>
  K (decide (t7 ≥ 0)) w
theorem T27.calls {p0 : Sl} {p1 : Int} {w : World} {K : Bool → World → Prop} (h : T27 p0 p1 w K) : CallK Try.prog .bool 27 #[.slice p0.a p0.len p0.cap, .int .i64 p1] w K :=
  bodyZ_sound (κ := kappa) (ann := []) (fn := Try.f27) Try.func27 rfl (by kernel_rfl) (cast (show T27 p0 p1 w K = bodyZ Try.prog kappa [] .bool Try.f27 [.slice p0.a p0.len p0.cap, .int .i64 p1] w K by kernel_rfl) h)

/-- (*sluice/cache.session).find -/
def T28 (p0 : Option Addr) (p1 : Int) (w : World) (K : (Int × Bool × Unit) → World → Prop) : Prop :=
  NilP p0 fun t7 =>
  NilP p0 fun t10 =>
  ReadN Try.prog (.int .i64) (V (Instr.loadAt 3 (.pointer (some (t10.add 66))))) w.drew fun t12 =>
  ReadN Try.prog .sl (V (Instr.sliceAt 66 (.pointer (some (t7.add 2))) none (some (.int .i64 t12)) none)) w.drew fun t13 =>
  CallK Try.prog (.tup (.cons (.int .i64) (.cons .bool .nilT))) 37 #[.slice t13.a t13.len t13.cap, .int .i64 p1, .func (.func 38) #[] #[]] w.drew fun t15 w =>
  K (t15.1, t15.2.1, ()) w
theorem T28.calls {p0 : Option Addr} {p1 : Int} {w : World} {K : (Int × Bool × Unit) → World → Prop} (h : T28 p0 p1 w K) : CallK Try.prog (.tup (.cons (.int .i64) (.cons .bool .nilT))) 28 #[.pointer p0, .int .i64 p1] w K :=
  bodyZ_sound (κ := kappa) (ann := []) (fn := Try.f28) Try.func28 rfl (by kernel_rfl) (cast (show T28 p0 p1 w K = bodyZ Try.prog kappa [] (.tup (.cons (.int .i64) (.cons .bool .nilT))) Try.f28 [.pointer p0, .int .i64 p1] w K by kernel_rfl) h)

/-- (*sluice/sluicelaw13.pair).begin -/
def T29 (p0 : Option Addr) (p1 : (Int × Int × Unit)) (w : World) (K : Bool → World → Prop) : Prop :=
  RunN Try.prog .addr (V (Instr.box 32 (.agg #[.int .i64 p1.1, .int .i64 p1.2.1]))) w fun t3 w =>
  ((NilP p0 fun t13 =>
    ReadN Try.prog .ptr (V (Instr.loadAt 36 (.pointer (some (t13.add 0))))) w.drew fun t15 =>
    ReadN Try.prog (.agg (.cons (.int .i64) (.cons (.int .i64) .nilT))) (V (Instr.loadAt 32 (.pointer (some t3)))) w.drew fun t16 =>
    CallK Try.prog (.tup (.cons (.agg (.cons (.int .i64) (.cons (.int .i64) (.cons (.int .i64) (.cons (.int .i64) .nilT))))) (.cons .bool (.cons (.int .i64) .nilT)))) 18 #[.pointer t15, .agg #[.int .i64 t16.1, .int .i64 t16.2.1]] w.drew fun t17 w =>
    RunN Try.prog .addr (V (Instr.alloc 43 true (.tuple #[]))) w fun t5 w =>
    RunU Try.prog (U (Instr.storeAt 43 (.pointer (some t5)) (.agg #[.int .i64 t17.1.1, .int .i64 t17.1.2.1, .int .i64 t17.1.2.2.1, .int .i64 t17.1.2.2.2.1]))) w fun w =>
    ((NilP p0 fun t23 =>
      ReadN Try.prog .ptr (V (Instr.loadAt 54 (.pointer (some (t23.add 1))))) w.drew fun t25 =>
      ReadN Try.prog (.agg (.cons (.int .i64) (.cons (.int .i64) .nilT))) (V (Instr.loadAt 32 (.pointer (some t3)))) w.drew fun t26 =>
      CallK Try.prog (.tup (.cons (.agg (.cons (.int .i64) (.cons (.int .i64) (.cons (.int .i64) (.cons (.int .i64) .nilT))))) (.cons .bool (.cons (.int .i64) .nilT)))) 40 #[.pointer t25, .agg #[.int .i64 t26.1, .int .i64 t26.2.1]] w.drew fun t27 w =>
      RunN Try.prog .addr (V (Instr.alloc 43 true (.tuple #[]))) w fun t8 w =>
      RunU Try.prog (U (Instr.storeAt 43 (.pointer (some t8)) (.agg #[.int .i64 t27.1.1, .int .i64 t27.1.2.1, .int .i64 t27.1.2.2.1, .int .i64 t27.1.2.2.2.1]))) w fun w =>
      RunN Try.prog (.agg (.cons (.int .i64) (.cons (.int .i64) (.cons (.int .i64) (.cons (.int .i64) .nilT))))) (V (Instr.loadAt 43 (.pointer (some t5)))) w fun t31 w =>
      RunN Try.prog (.agg (.cons (.int .i64) (.cons (.int .i64) (.cons (.int .i64) (.cons (.int .i64) .nilT))))) (V (Instr.loadAt 43 (.pointer (some t8)))) w fun t32 w =>
      RunN Try.prog .bool (V (do eqGuard .eql 43 (.tmp 31) (.tmp 32) (.agg #[.int .i64 t31.1, .int .i64 t31.2.1, .int .i64 t31.2.2.1, .int .i64 t31.2.2.2.1]) (.agg #[.int .i64 t32.1, .int .i64 t32.2.1, .int .i64 t32.2.2.1, .int .i64 t32.2.2.2.1]); binOp .eql 43 (.agg #[.int .i64 t31.1, .int .i64 t31.2.1, .int .i64 t31.2.2.1, .int .i64 t31.2.2.2.1]) (.agg #[.int .i64 t32.1, .int .i64 t32.2.1, .int .i64 t32.2.2.1, .int .i64 t32.2.2.2.1]))) w fun t33 w =>
      SplitB t33
        (SplitB (t17.2.1 == t27.2.1)
          (CallK Try.prog (.int .i64) 16 #[.int .i64 t17.2.2.1] w fun t41 w =>
          K (t41 == t27.2.2.1) w)
          (K false w))
        (K false w)) ∧
    (NilP p0 fun t23 =>
      ReadN Try.prog .ptr (V (Instr.loadAt 54 (.pointer (some (t23.add 1))))) w.drew fun t25 =>
      ReadN Try.prog (.agg (.cons (.int .i64) (.cons (.int .i64) .nilT))) (V (Instr.loadAt 32 (.pointer (some t3)))) w.drew fun t26 =>
      RunN Try.prog .addr (V (Instr.alloc 43 true (.tuple #[]))) w.drew fun t8 w =>
      StillV Try.prog (V (Instr.loadAt 32 (.pointer (some t3)))) (.agg #[.int .i64 t26.1, .int .i64 t26.2.1]) w ∧
      StillV Try.prog (V (Instr.loadAt 54 (.pointer (some (t23.add 1))))) (.pointer t25) w ∧
      CallK Try.prog (.tup (.cons (.agg (.cons (.int .i64) (.cons (.int .i64) (.cons (.int .i64) (.cons (.int .i64) .nilT))))) (.cons .bool (.cons (.int .i64) .nilT)))) 40 #[.pointer t25, .agg #[.int .i64 t26.1, .int .i64 t26.2.1]] w fun t27 w =>
      RunU Try.prog (U (Instr.storeAt 43 (.pointer (some t8)) (.agg #[.int .i64 t27.1.1, .int .i64 t27.1.2.1, .int .i64 t27.1.2.2.1, .int .i64 t27.1.2.2.2.1]))) w fun w =>
      RunN Try.prog (.agg (.cons (.int .i64) (.cons (.int .i64) (.cons (.int .i64) (.cons (.int .i64) .nilT))))) (V (Instr.loadAt 43 (.pointer (some t5)))) w fun t31 w =>
      RunN Try.prog (.agg (.cons (.int .i64) (.cons (.int .i64) (.cons (.int .i64) (.cons (.int .i64) .nilT))))) (V (Instr.loadAt 43 (.pointer (some t8)))) w fun t32 w =>
      RunN Try.prog .bool (V (do eqGuard .eql 43 (.tmp 31) (.tmp 32) (.agg #[.int .i64 t31.1, .int .i64 t31.2.1, .int .i64 t31.2.2.1, .int .i64 t31.2.2.2.1]) (.agg #[.int .i64 t32.1, .int .i64 t32.2.1, .int .i64 t32.2.2.1, .int .i64 t32.2.2.2.1]); binOp .eql 43 (.agg #[.int .i64 t31.1, .int .i64 t31.2.1, .int .i64 t31.2.2.1, .int .i64 t31.2.2.2.1]) (.agg #[.int .i64 t32.1, .int .i64 t32.2.1, .int .i64 t32.2.2.1, .int .i64 t32.2.2.2.1]))) w fun t33 w =>
      SplitB t33
        (SplitB (t17.2.1 == t27.2.1)
          (CallK Try.prog (.int .i64) 16 #[.int .i64 t17.2.2.1] w fun t41 w =>
          K (t41 == t27.2.2.1) w)
          (K false w))
        (K false w)))) ∧
  (NilP p0 fun t13 =>
    ReadN Try.prog .ptr (V (Instr.loadAt 36 (.pointer (some (t13.add 0))))) w.drew fun t15 =>
    ReadN Try.prog (.agg (.cons (.int .i64) (.cons (.int .i64) .nilT))) (V (Instr.loadAt 32 (.pointer (some t3)))) w.drew fun t16 =>
    RunN Try.prog .addr (V (Instr.alloc 43 true (.tuple #[]))) w.drew fun t5 w =>
    StillV Try.prog (V (Instr.loadAt 32 (.pointer (some t3)))) (.agg #[.int .i64 t16.1, .int .i64 t16.2.1]) w ∧
    StillV Try.prog (V (Instr.loadAt 36 (.pointer (some (t13.add 0))))) (.pointer t15) w ∧
    CallK Try.prog (.tup (.cons (.agg (.cons (.int .i64) (.cons (.int .i64) (.cons (.int .i64) (.cons (.int .i64) .nilT))))) (.cons .bool (.cons (.int .i64) .nilT)))) 18 #[.pointer t15, .agg #[.int .i64 t16.1, .int .i64 t16.2.1]] w fun t17 w =>
    RunU Try.prog (U (Instr.storeAt 43 (.pointer (some t5)) (.agg #[.int .i64 t17.1.1, .int .i64 t17.1.2.1, .int .i64 t17.1.2.2.1, .int .i64 t17.1.2.2.2.1]))) w fun w =>
    ((NilP p0 fun t23 =>
      ReadN Try.prog .ptr (V (Instr.loadAt 54 (.pointer (some (t23.add 1))))) w.drew fun t25 =>
      ReadN Try.prog (.agg (.cons (.int .i64) (.cons (.int .i64) .nilT))) (V (Instr.loadAt 32 (.pointer (some t3)))) w.drew fun t26 =>
      CallK Try.prog (.tup (.cons (.agg (.cons (.int .i64) (.cons (.int .i64) (.cons (.int .i64) (.cons (.int .i64) .nilT))))) (.cons .bool (.cons (.int .i64) .nilT)))) 40 #[.pointer t25, .agg #[.int .i64 t26.1, .int .i64 t26.2.1]] w.drew fun t27 w =>
      RunN Try.prog .addr (V (Instr.alloc 43 true (.tuple #[]))) w fun t8 w =>
      RunU Try.prog (U (Instr.storeAt 43 (.pointer (some t8)) (.agg #[.int .i64 t27.1.1, .int .i64 t27.1.2.1, .int .i64 t27.1.2.2.1, .int .i64 t27.1.2.2.2.1]))) w fun w =>
      RunN Try.prog (.agg (.cons (.int .i64) (.cons (.int .i64) (.cons (.int .i64) (.cons (.int .i64) .nilT))))) (V (Instr.loadAt 43 (.pointer (some t5)))) w fun t31 w =>
      RunN Try.prog (.agg (.cons (.int .i64) (.cons (.int .i64) (.cons (.int .i64) (.cons (.int .i64) .nilT))))) (V (Instr.loadAt 43 (.pointer (some t8)))) w fun t32 w =>
      RunN Try.prog .bool (V (do eqGuard .eql 43 (.tmp 31) (.tmp 32) (.agg #[.int .i64 t31.1, .int .i64 t31.2.1, .int .i64 t31.2.2.1, .int .i64 t31.2.2.2.1]) (.agg #[.int .i64 t32.1, .int .i64 t32.2.1, .int .i64 t32.2.2.1, .int .i64 t32.2.2.2.1]); binOp .eql 43 (.agg #[.int .i64 t31.1, .int .i64 t31.2.1, .int .i64 t31.2.2.1, .int .i64 t31.2.2.2.1]) (.agg #[.int .i64 t32.1, .int .i64 t32.2.1, .int .i64 t32.2.2.1, .int .i64 t32.2.2.2.1]))) w fun t33 w =>
      SplitB t33
        (SplitB (t17.2.1 == t27.2.1)
          (CallK Try.prog (.int .i64) 16 #[.int .i64 t17.2.2.1] w fun t41 w =>
          K (t41 == t27.2.2.1) w)
          (K false w))
        (K false w)) ∧
    (NilP p0 fun t23 =>
      ReadN Try.prog .ptr (V (Instr.loadAt 54 (.pointer (some (t23.add 1))))) w.drew fun t25 =>
      ReadN Try.prog (.agg (.cons (.int .i64) (.cons (.int .i64) .nilT))) (V (Instr.loadAt 32 (.pointer (some t3)))) w.drew fun t26 =>
      RunN Try.prog .addr (V (Instr.alloc 43 true (.tuple #[]))) w.drew fun t8 w =>
      StillV Try.prog (V (Instr.loadAt 32 (.pointer (some t3)))) (.agg #[.int .i64 t26.1, .int .i64 t26.2.1]) w ∧
      StillV Try.prog (V (Instr.loadAt 54 (.pointer (some (t23.add 1))))) (.pointer t25) w ∧
      CallK Try.prog (.tup (.cons (.agg (.cons (.int .i64) (.cons (.int .i64) (.cons (.int .i64) (.cons (.int .i64) .nilT))))) (.cons .bool (.cons (.int .i64) .nilT)))) 40 #[.pointer t25, .agg #[.int .i64 t26.1, .int .i64 t26.2.1]] w fun t27 w =>
      RunU Try.prog (U (Instr.storeAt 43 (.pointer (some t8)) (.agg #[.int .i64 t27.1.1, .int .i64 t27.1.2.1, .int .i64 t27.1.2.2.1, .int .i64 t27.1.2.2.2.1]))) w fun w =>
      RunN Try.prog (.agg (.cons (.int .i64) (.cons (.int .i64) (.cons (.int .i64) (.cons (.int .i64) .nilT))))) (V (Instr.loadAt 43 (.pointer (some t5)))) w fun t31 w =>
      RunN Try.prog (.agg (.cons (.int .i64) (.cons (.int .i64) (.cons (.int .i64) (.cons (.int .i64) .nilT))))) (V (Instr.loadAt 43 (.pointer (some t8)))) w fun t32 w =>
      RunN Try.prog .bool (V (do eqGuard .eql 43 (.tmp 31) (.tmp 32) (.agg #[.int .i64 t31.1, .int .i64 t31.2.1, .int .i64 t31.2.2.1, .int .i64 t31.2.2.2.1]) (.agg #[.int .i64 t32.1, .int .i64 t32.2.1, .int .i64 t32.2.2.1, .int .i64 t32.2.2.2.1]); binOp .eql 43 (.agg #[.int .i64 t31.1, .int .i64 t31.2.1, .int .i64 t31.2.2.1, .int .i64 t31.2.2.2.1]) (.agg #[.int .i64 t32.1, .int .i64 t32.2.1, .int .i64 t32.2.2.1, .int .i64 t32.2.2.2.1]))) w fun t33 w =>
      SplitB t33
        (SplitB (t17.2.1 == t27.2.1)
          (CallK Try.prog (.int .i64) 16 #[.int .i64 t17.2.2.1] w fun t41 w =>
          K (t41 == t27.2.2.1) w)
          (K false w))
        (K false w)))))
theorem T29.calls {p0 : Option Addr} {p1 : (Int × Int × Unit)} {w : World} {K : Bool → World → Prop} (h : T29 p0 p1 w K) : CallK Try.prog .bool 29 #[.pointer p0, .agg #[.int .i64 p1.1, .int .i64 p1.2.1]] w K :=
  bodyZ_sound (κ := kappa) (ann := []) (fn := Try.f29) Try.func29 rfl (by kernel_rfl) (cast (show T29 p0 p1 w K = bodyZ Try.prog kappa [] .bool Try.f29 [.pointer p0, .agg #[.int .i64 p1.1, .int .i64 p1.2.1]] w K by kernel_rfl) h)

/-- (*sluice/sluicelaw13.pair).end -/
def T30 (p0 : Option Addr) (p1 : (Int × Int × Int × Int × Unit)) (w : World) (K : Bool → World → Prop) : Prop :=
  RunN Try.prog .addr (V (Instr.box 43 (.agg #[.int .i64 p1.1, .int .i64 p1.2.1, .int .i64 p1.2.2.1, .int .i64 p1.2.2.2.1]))) w fun t3 w =>
  NilP p0 fun t7 =>
  ReadN Try.prog .ptr (V (Instr.loadAt 36 (.pointer (some (t7.add 0))))) w.drew fun t9 =>
  ReadN Try.prog (.agg (.cons (.int .i64) (.cons (.int .i64) (.cons (.int .i64) (.cons (.int .i64) .nilT))))) (V (Instr.loadAt 43 (.pointer (some t3)))) w.drew fun t10 =>
  CallK Try.prog (.int .i64) 17 #[.pointer t9, .agg #[.int .i64 t10.1, .int .i64 t10.2.1, .int .i64 t10.2.2.1, .int .i64 t10.2.2.2.1]] w.drew fun t11 w =>
  NilP p0 fun t15 =>
  ReadN Try.prog .ptr (V (Instr.loadAt 54 (.pointer (some (t15.add 1))))) w.drew fun t17 =>
  ReadN Try.prog (.agg (.cons (.int .i64) (.cons (.int .i64) (.cons (.int .i64) (.cons (.int .i64) .nilT))))) (V (Instr.loadAt 43 (.pointer (some t3)))) w.drew fun t18 =>
  CallK Try.prog (.int .i64) 16 #[.int .i64 t11] w.drew fun t13 w =>
  StillV Try.prog (V (Instr.loadAt 43 (.pointer (some t3)))) (.agg #[.int .i64 t18.1, .int .i64 t18.2.1, .int .i64 t18.2.2.1, .int .i64 t18.2.2.2.1]) w ∧
  StillV Try.prog (V (Instr.loadAt 54 (.pointer (some (t15.add 1))))) (.pointer t17) w ∧
  CallK Try.prog (.int .i64) 41 #[.pointer t17, .agg #[.int .i64 t18.1, .int .i64 t18.2.1, .int .i64 t18.2.2.1, .int .i64 t18.2.2.2.1]] w fun t19 w =>
  K (t13 == t19) w
theorem T30.calls {p0 : Option Addr} {p1 : (Int × Int × Int × Int × Unit)} {w : World} {K : Bool → World → Prop} (h : T30 p0 p1 w K) : CallK Try.prog .bool 30 #[.pointer p0, .agg #[.int .i64 p1.1, .int .i64 p1.2.1, .int .i64 p1.2.2.1, .int .i64 p1.2.2.2.1]] w K :=
  bodyZ_sound (κ := kappa) (ann := []) (fn := Try.f30) Try.func30 rfl (by kernel_rfl) (cast (show T30 p0 p1 w K = bodyZ Try.prog kappa [] .bool Try.f30 [.pointer p0, .agg #[.int .i64 p1.1, .int .i64 p1.2.1, .int .i64 p1.2.2.1, .int .i64 p1.2.2.2.1]] w K by kernel_rfl) h)

/-- (*sluice/sluiceref13.Cache).Last -/
def T31 (p0 : Option Addr) (p1 : Int) (w : World) (K : Int → World → Prop) : Prop :=
  CallK Try.prog .bool 42 #[.pointer p0, .int .i64 p1] w fun t8 w =>
  SplitB (!t8)
    (K 0 w)
    (NilP p0 fun t13 =>
    RunN Try.prog .addr (V (Instr.indexAt 51 (.pointer (some (t13.add 4))) (.int .i64 p1))) w fun t15 w =>
    RunN Try.prog (.int .i64) (V (Instr.loadAt 3 (.pointer (some t15)))) w fun t16 w =>
    K t16 w)
theorem T31.calls {p0 : Option Addr} {p1 : Int} {w : World} {K : Int → World → Prop} (h : T31 p0 p1 w K) : CallK Try.prog (.int .i64) 31 #[.pointer p0, .int .i64 p1] w K :=
  bodyZ_sound (κ := kappa) (ann := []) (fn := Try.f31) Try.func31 rfl (by kernel_rfl) (cast (show T31 p0 p1 w K = bodyZ Try.prog kappa [] (.int .i64) Try.f31 [.pointer p0, .int .i64 p1] w K by kernel_rfl) h)

/-- (*sluice/sluiceref13.Cache).Pending -/
def T32 (p0 : Option Addr) (w : World) (K : Sl → World → Prop) : Prop :=
  NilP p0 fun t10 =>
  RunN Try.prog .sl (V (Instr.loadAt 60 (.pointer (some (t10.add 68))))) w fun t12 w =>
  RunN Try.prog .sl (V (Instr.makeSlice 60 (.int .i64 (t12.len : Int)) (.int .i64 (t12.len : Int)))) w fun t14 w =>
  LoopX (α := Int × Unit) (fun s1 w k2 =>
    NilP p0 fun t17 =>
    RunN Try.prog .sl (V (Instr.loadAt 60 (.pointer (some (t17.add 68))))) w fun t19 w =>
    SplitB (decide (s1.1 < (t19.len : Int)))
      (LoopX (α := Int × Int × Unit) (fun s3 w k4 =>
        NilP p0 fun t26 =>
        RunN Try.prog .sl (V (Instr.loadAt 60 (.pointer (some (t26.add 68))))) w fun t28 w =>
        SplitB (decide (s3.2.1 < (t28.len : Int)))
          (JoinX (α := Int × Unit) (fun j6 w =>
            k4 (j6.1, IntKind.i64.wrap (s3.2.1 + 1), ()) w)
          fun k5 =>
            NilP p0 fun t34 =>
            RunN Try.prog .sl (V (Instr.loadAt 60 (.pointer (some (t34.add 68))))) w fun t36 w =>
            RunN Try.prog .addr (V (Instr.indexAt 60 (.slice t36.a t36.len t36.cap) (.int .i64 s3.2.1))) w fun t38 w =>
            RunN Try.prog (.agg (.cons (.int .i64) (.cons (.int .i64) .nilT))) (V (Instr.loadAt 32 (.pointer (some t38)))) w fun t39 w =>
            RunN Try.prog .addr (V (Instr.alloc 32 true (.tuple #[]))) w fun t7 w =>
            RunU Try.prog (U (Instr.storeAt 32 (.pointer (some t7)) (.agg #[.int .i64 t39.1, .int .i64 t39.2.1]))) w fun w =>
            NilP p0 fun t41 =>
            RunN Try.prog .sl (V (Instr.loadAt 60 (.pointer (some (t41.add 68))))) w fun t43 w =>
            RunN Try.prog .addr (V (Instr.indexAt 60 (.slice t43.a t43.len t43.cap) (.int .i64 s1.1))) w fun t45 w =>
            RunN Try.prog (.agg (.cons (.int .i64) (.cons (.int .i64) .nilT))) (V (Instr.loadAt 32 (.pointer (some t45)))) w fun t46 w =>
            RunN Try.prog .addr (V (Instr.alloc 32 true (.tuple #[]))) w fun t8 w =>
            RunU Try.prog (U (Instr.storeAt 32 (.pointer (some t8)) (.agg #[.int .i64 t46.1, .int .i64 t46.2.1]))) w fun w =>
            JoinX (α := Bool × Unit) (fun j8 w =>
              SplitB j8.1
                (k5 (IntKind.i64.wrap (s3.1 + 1), ()) w)
                (k5 (s3.1, ()) w))
            fun k7 =>
              RunN Try.prog (.int .i64) (V (Instr.loadAt 3 (.pointer (some (t7.add 0))))) w fun t48 w =>
              RunN Try.prog (.int .i64) (V (Instr.loadAt 3 (.pointer (some (t8.add 0))))) w fun t50 w =>
              SplitB (decide (t48 < t50))
                (k7 (true, ()) w)
                (RunN Try.prog (.int .i64) (V (Instr.loadAt 3 (.pointer (some (t7.add 0))))) w fun t54 w =>
                RunN Try.prog (.int .i64) (V (Instr.loadAt 3 (.pointer (some (t8.add 0))))) w fun t56 w =>
                SplitB (t54 == t56)
                  (RunN Try.prog (.int .i64) (V (Instr.loadAt 3 (.pointer (some (t7.add 1))))) w fun t60 w =>
                  RunN Try.prog (.int .i64) (V (Instr.loadAt 3 (.pointer (some (t8.add 1))))) w fun t62 w =>
                  k7 (decide (t60 < t62), ()) w)
                  (k7 (false, ()) w)))
          (NilP p0 fun t71 =>
          RunN Try.prog .sl (V (Instr.loadAt 60 (.pointer (some (t71.add 68))))) w fun t73 w =>
          RunN Try.prog .addr (V (Instr.indexAt 60 (.slice t73.a t73.len t73.cap) (.int .i64 s1.1))) w fun t75 w =>
          RunN Try.prog (.agg (.cons (.int .i64) (.cons (.int .i64) .nilT))) (V (Instr.loadAt 32 (.pointer (some t75)))) w fun t76 w =>
          RunN Try.prog .addr (V (Instr.indexAt 60 (.slice t14.a t14.len t14.cap) (.int .i64 s3.1))) w fun t77 w =>
          RunU Try.prog (U (Instr.storeAt 32 (.pointer (some t77)) (.agg #[.int .i64 t76.1, .int .i64 t76.2.1]))) w fun w =>
          k2 (IntKind.i64.wrap (s1.1 + 1), ()) w))
      (0, 0, ()) w)
      (K t14 w))
  (0, ()) w
theorem T32.calls {p0 : Option Addr} {w : World} {K : Sl → World → Prop} (h : T32 p0 w K) : CallK Try.prog .sl 32 #[.pointer p0] w K :=
  bodyZ_sound (κ := kappa) (ann := [(4, [(4, (.int .i64))]), (11, [(5, (.int .i64)), (6, (.int .i64))]), (14, [(5, (.int .i64))]), (17, [(65, .bool)])]) (fn := Try.f32) Try.func32 rfl (by kernel_rfl) (cast (show T32 p0 w K = bodyZ Try.prog kappa [(4, [(4, (.int .i64))]), (11, [(5, (.int .i64)), (6, (.int .i64))]), (14, [(5, (.int .i64))]), (17, [(65, .bool)])] .sl Try.f32 [.pointer p0] w K by kernel_rfl) h)

/-- (*sluice/sluicelaw13.pair).pending -/
def T33 (p0 : Option Addr) (w : World) (K : Bool → World → Prop) : Prop :=
  NilP p0 fun t9 =>
  RunN Try.prog .ptr (V (Instr.loadAt 36 (.pointer (some (t9.add 0))))) w fun t11 w =>
  CallK Try.prog .sl 43 #[.pointer t11] w fun t12 w =>
  NilP p0 fun t15 =>
  RunN Try.prog .ptr (V (Instr.loadAt 54 (.pointer (some (t15.add 1))))) w fun t17 w =>
  CallK Try.prog .sl 32 #[.pointer t17] w fun t18 w =>
  CallK Try.prog .bool 22 #[.slice t12.a t12.len t12.cap, .slice t18.a t18.len t18.cap] w fun t19 w =>
  NilP p0 fun t21 =>
  RunN Try.prog (.int .i64) (V (Instr.loadAt 3 (.pointer (some (t21.add 4))))) w fun t23 w =>
  NilP p0 fun t25 =>
  RunU Try.prog (U (Instr.storeAt 3 (.pointer (some (t25.add 4))) (.int .i64 (IntKind.i64.wrap (t23 + 1))))) w fun w =>
  NilP p0 fun t28 =>
  RunN Try.prog (.int .i64) (V (Instr.loadAt 3 (.pointer (some (t28.add 4))))) w fun t30 w =>
  SplitB ((Int.tmod t30 3) != 0)
    (NilP p0 fun t35 =>
    RunN Try.prog .sl (V (Instr.loadAt 55 (.pointer (some (t35.add 5))))) w fun t37 w =>
    RunN Try.prog .sl (V (Instr.buildSlice 55 1 #[(0, .slice t12.a t12.len t12.cap)])) w fun t39 w =>
    RunN Try.prog .sl (V (Builtin.append_ #[55, 55] 55 #[.slice t37.a t37.len t37.cap, .slice t39.a t39.len t39.cap])) w fun t40 w =>
    NilP p0 fun t41 =>
    RunU Try.prog (U (Instr.storeAt 55 (.pointer (some (t41.add 5))) (.slice t40.a t40.len t40.cap))) w fun w =>
    NilP p0 fun t45 =>
    ReadN Try.prog .sl (V (Instr.loadAt 55 (.pointer (some (t45.add 6))))) w.drew fun t47 =>
    RunN Try.prog .sl (V (Builtin.append_ #[60, 60] 60 #[.slice none 0 0, .slice t12.a t12.len t12.cap])) w.drew fun t49 w =>
    StillV Try.prog (V (Instr.loadAt 55 (.pointer (some (t45.add 6))))) (.slice t47.a t47.len t47.cap) w ∧
    RunN Try.prog .sl (V (Instr.buildSlice 55 1 #[(0, .slice t49.a t49.len t49.cap)])) w fun t50 w =>
    StillV Try.prog (V (Instr.loadAt 55 (.pointer (some (t45.add 6))))) (.slice t47.a t47.len t47.cap) w ∧
    RunN Try.prog .sl (V (Builtin.append_ #[55, 55] 55 #[.slice t47.a t47.len t47.cap, .slice t50.a t50.len t50.cap])) w fun t51 w =>
    NilP p0 fun t52 =>
    RunU Try.prog (U (Instr.storeAt 55 (.pointer (some (t52.add 6))) (.slice t51.a t51.len t51.cap))) w fun w =>
    K t19 w)
    (LoopX (α := Int × Unit) (fun s1 w k2 =>
      SplitB (decide (s1.1 < (t12.len : Int)))
        (NilP p0 fun t64 =>
        RunN Try.prog (.int .i64) (V (Instr.loadAt 3 (.pointer (some (t64.add 4))))) w fun t66 w =>
        RunN Try.prog .addr (V (Instr.indexAt 60 (.slice t12.a t12.len t12.cap) (.int .i64 s1.1))) w fun t69 w =>
        RunU Try.prog (U (Instr.storeAt 32 (.pointer (some t69)) (.agg #[.int .i64 (IntKind.i64.wrap (0 - t66)), .int .i64 0]))) w fun w =>
        k2 (IntKind.i64.wrap (s1.1 + 1), ()) w)
        (LoopX (α := Sl × Int × Unit) (fun s3 w k4 =>
          SplitB (decide (s3.2.1 < 80))
            (NilP p0 fun t77 =>
            RunN Try.prog (.int .i64) (V (Instr.loadAt 3 (.pointer (some (t77.add 4))))) w fun t79 w =>
            RunN Try.prog .sl (V (Instr.buildSlice 60 1 #[(0, .agg #[.int .i64 (IntKind.i64.wrap ((-1000000) - t79)), .int .i64 0])])) w fun t82 w =>
            RunN Try.prog .sl (V (Builtin.append_ #[60, 60] 60 #[.slice s3.1.a s3.1.len s3.1.cap, .slice t82.a t82.len t82.cap])) w fun t83 w =>
            k4 (t83, IntKind.i64.wrap (s3.2.1 + 1), ()) w)
            (NilP p0 fun t86 =>
            RunN Try.prog .sl (V (Instr.loadAt 55 (.pointer (some (t86.add 2))))) w fun t88 w =>
            RunN Try.prog .sl (V (Instr.buildSlice 55 1 #[(0, .slice t12.a t12.len t12.cap)])) w fun t90 w =>
            RunN Try.prog .sl (V (Builtin.append_ #[55, 55] 55 #[.slice t88.a t88.len t88.cap, .slice t90.a t90.len t90.cap])) w fun t91 w =>
            NilP p0 fun t92 =>
            RunU Try.prog (U (Instr.storeAt 55 (.pointer (some (t92.add 2))) (.slice t91.a t91.len t91.cap))) w fun w =>
            NilP p0 fun t96 =>
            ReadN Try.prog .sl (V (Instr.loadAt 50 (.pointer (some (t96.add 3))))) w.drew fun t98 =>
            NilP p0 fun t100 =>
            ReadN Try.prog (.int .i64) (V (Instr.loadAt 3 (.pointer (some (t100.add 4))))) w.drew fun t102 =>
            RunN Try.prog .sl (V (Instr.buildSlice 50 1 #[(0, .int .i64 (IntKind.i64.wrap (0 - t102)))])) w.drew fun t104 w =>
            StillV Try.prog (V (Instr.loadAt 50 (.pointer (some (t96.add 3))))) (.slice t98.a t98.len t98.cap) w ∧
            RunN Try.prog .sl (V (Builtin.append_ #[50, 50] 50 #[.slice t98.a t98.len t98.cap, .slice t104.a t104.len t104.cap])) w fun t105 w =>
            NilP p0 fun t106 =>
            RunU Try.prog (U (Instr.storeAt 50 (.pointer (some (t106.add 3))) (.slice t105.a t105.len t105.cap))) w fun w =>
            JoinX (α := Unit) (fun j6 w =>
              SplitB t19
                (K ((s3.1.len : Int) == (IntKind.i64.wrap ((t12.len : Int) + 80))) w)
                (K false w))
            fun k5 =>
              NilP p0 fun t109 =>
              RunN Try.prog .sl (V (Instr.loadAt 55 (.pointer (some (t109.add 2))))) w fun t111 w =>
              SplitB (decide ((t111.len : Int) > 4))
                (NilP p0 fun t116 =>
                RunN Try.prog .sl (V (Instr.loadAt 55 (.pointer (some (t116.add 2))))) w fun t118 w =>
                RunN Try.prog .sl (V (Instr.sliceAt 55 (.slice t118.a t118.len t118.cap) (some (.int .i64 1)) none none)) w fun t119 w =>
                NilP p0 fun t120 =>
                RunU Try.prog (U (Instr.storeAt 55 (.pointer (some (t120.add 2))) (.slice t119.a t119.len t119.cap))) w fun w =>
                NilP p0 fun t124 =>
                RunN Try.prog .sl (V (Instr.loadAt 50 (.pointer (some (t124.add 3))))) w fun t126 w =>
                RunN Try.prog .sl (V (Instr.sliceAt 50 (.slice t126.a t126.len t126.cap) (some (.int .i64 1)) none none)) w fun t127 w =>
                NilP p0 fun t128 =>
                RunU Try.prog (U (Instr.storeAt 50 (.pointer (some (t128.add 3))) (.slice t127.a t127.len t127.cap))) w fun w =>
                k5 () w)
                (k5 () w)))
        (t12, 0, ()) w))
    (0, ()) w)
theorem T33.calls {p0 : Option Addr} {w : World} {K : Bool → World → Prop} (h : T33 p0 w K) : CallK Try.prog .bool 33 #[.pointer p0] w K :=
  bodyZ_sound (κ := kappa) (ann := [(11, [(5, (.int .i64))]), (18, [(6, .sl), (7, (.int .i64))]), (24, [])]) (fn := Try.f33) Try.func33 rfl (by kernel_rfl) (cast (show T33 p0 w K = bodyZ Try.prog kappa [(11, [(5, (.int .i64))]), (18, [(6, .sl), (7, (.int .i64))]), (24, [])] .bool Try.f33 [.pointer p0] w K by kernel_rfl) h)

/-- cmp.Less[int] -/
def T34 (p0 : Int) (p1 : Int) (w : World) (K : Bool → World → Prop) : Prop :=
  CallK Try.prog .bool 44 #[.int .i64 p0] w fun t6 w =>
  SplitB t6
    (CallK Try.prog .bool 44 #[.int .i64 p1] w fun t9 w =>
    SplitB (!t9)
      (K true w)
      (K (decide (p0 < p1)) w))
    (K (decide (p0 < p1)) w)
theorem T34.calls {p0 : Int} {p1 : Int} {w : World} {K : Bool → World → Prop} (h : T34 p0 p1 w K) : CallK Try.prog .bool 34 #[.int .i64 p0, .int .i64 p1] w K :=
  bodyZ_sound (κ := kappa) (ann := []) (fn := Try.f34) Try.func34 rfl (by kernel_rfl) (cast (show T34 p0 p1 w K = bodyZ Try.prog kappa [] .bool Try.f34 [.int .i64 p0, .int .i64 p1] w K by kernel_rfl) h)

/-- slices.isNaN[int] -/
def T35 (p0 : Int) (w : World) (K : Bool → World → Prop) : Prop :=
  K (p0 != p0) w
theorem T35.calls {p0 : Int} {w : World} {K : Bool → World → Prop} (h : T35 p0 w K) : CallK Try.prog .bool 35 #[.int .i64 p0] w K :=
  bodyZ_sound (κ := kappa) (ann := []) (fn := Try.f35) Try.func35 rfl (by kernel_rfl) (cast (show T35 p0 w K = bodyZ Try.prog kappa [] .bool Try.f35 [.int .i64 p0] w K by kernel_rfl) h)

/-- slices.Index[[]int,int] -/
def T36 (p0 : Sl) (p1 : Int) (w : World) (K : Int → World → Prop) : Prop :=
  LoopX (α := Int × Unit) (fun s1 w k2 =>
    SplitB (decide (s1.1 < (p0.len : Int)))
      (RunN Try.prog .addr (V (Instr.indexAt 50 (.slice p0.a p0.len p0.cap) (.int .i64 s1.1))) w fun t14 w =>
      RunN Try.prog (.int .i64) (V (Instr.loadAt 3 (.pointer (some t14)))) w fun t15 w =>
      SplitB (p1 == t15)
        (K s1.1 w)
        (k2 (IntKind.i64.wrap (s1.1 + 1), ()) w))
      (K (-1) w))
  (0, ()) w
theorem T36.calls {p0 : Sl} {p1 : Int} {w : World} {K : Int → World → Prop} (h : T36 p0 p1 w K) : CallK Try.prog (.int .i64) 36 #[.slice p0.a p0.len p0.cap, .int .i64 p1] w K :=
  bodyZ_sound (κ := kappa) (ann := [(3, [(8, (.int .i64))])]) (fn := Try.f36) Try.func36 rfl (by kernel_rfl) (cast (show T36 p0 p1 w K = bodyZ Try.prog kappa [(3, [(8, (.int .i64))])] (.int .i64) Try.f36 [.slice p0.a p0.len p0.cap, .int .i64 p1] w K by kernel_rfl) h)

/-- slices.BinarySearchFunc[[]sluice/api.Reply,sluice/api.Reply,int] -/
def T37 (p0 : Sl) (p1 : Int) (w : World) (K : (Int × Bool × Unit) → World → Prop) : Prop :=
  LoopX (α := Int × Int × Unit) (fun s1 w k2 =>
    SplitB (decide (s1.1 < s1.2.1))
      (RunN Try.prog .addr (V (Instr.indexAt 78 (.slice p0.a p0.len p0.cap) (.int .i64 (IntKind.i64.wrap (Int.fdiv (IntKind.u64.wrap (IntKind.i64.wrap (s1.1 + s1.2.1))) (2 ^ 1)))))) w fun t27 w =>
      RunN Try.prog (.agg (.cons (.int .i64) (.cons (.int .i64) (.cons (.int .i64) (.cons (.int .i64) .nilT))))) (V (Instr.loadAt 43 (.pointer (some t27)))) w fun t28 w =>
      CallK Try.prog (.int .i64) 38 #[.agg #[.int .i64 t28.1, .int .i64 t28.2.1, .int .i64 t28.2.2.1, .int .i64 t28.2.2.2.1], .int .i64 p1] w fun t30 w =>
      SplitB (decide (t30 < 0))
        (k2 (IntKind.i64.wrap ((IntKind.i64.wrap (Int.fdiv (IntKind.u64.wrap (IntKind.i64.wrap (s1.1 + s1.2.1))) (2 ^ 1))) + 1), s1.2.1, ()) w)
        (k2 (s1.1, IntKind.i64.wrap (Int.fdiv (IntKind.u64.wrap (IntKind.i64.wrap (s1.1 + s1.2.1))) (2 ^ 1)), ()) w))
      (SplitB (decide (s1.1 < (p0.len : Int)))
        (RunN Try.prog .addr (V (Instr.indexAt 78 (.slice p0.a p0.len p0.cap) (.int .i64 s1.1))) w fun t43 w =>
        RunN Try.prog (.agg (.cons (.int .i64) (.cons (.int .i64) (.cons (.int .i64) (.cons (.int .i64) .nilT))))) (V (Instr.loadAt 43 (.pointer (some t43)))) w fun t44 w =>
        CallK Try.prog (.int .i64) 38 #[.agg #[.int .i64 t44.1, .int .i64 t44.2.1, .int .i64 t44.2.2.1, .int .i64 t44.2.2.2.1], .int .i64 p1] w fun t46 w =>
        K (s1.1, t46 == 0, ()) w)
        (K (s1.1, false, ()) w)))
  (0, (p0.len : Int), ()) w
theorem T37.calls {p0 : Sl} {p1 : Int} {w : World} {K : (Int × Bool × Unit) → World → Prop} (h : T37 p0 p1 w K) : CallK Try.prog (.tup (.cons (.int .i64) (.cons .bool .nilT))) 37 #[.slice p0.a p0.len p0.cap, .int .i64 p1, .func (.func 38) #[] #[]] w K :=
  bodyZ_sound (κ := kappa) (ann := [(4, [(9, (.int .i64)), (10, (.int .i64))])]) (fn := Try.f37) Try.func37 rfl (by kernel_rfl) (cast (show T37 p0 p1 w K = bodyZ Try.prog kappa [(4, [(9, (.int .i64)), (10, (.int .i64))])] (.tup (.cons (.int .i64) (.cons .bool .nilT))) Try.f37 [.slice p0.a p0.len p0.cap, .int .i64 p1, .func (.func 38) #[] #[]] w K by kernel_rfl) h)

/-- (*sluice/cache.session).find$1 -/
def T38 (p0 : (Int × Int × Int × Int × Unit)) (p1 : Int) (w : World) (K : Int → World → Prop) : Prop :=
  RunN Try.prog .addr (V (Instr.box 43 (.agg #[.int .i64 p0.1, .int .i64 p0.2.1, .int .i64 p0.2.2.1, .int .i64 p0.2.2.2.1]))) w fun t2 w =>
  RunN Try.prog (.int .i64) (V (Instr.loadAt 3 (.pointer (some ((t2.add 0).add 1))))) w fun t7 w =>
  CallK Try.prog (.int .i64) 39 #[.int .i64 t7, .int .i64 p1] w fun t9 w =>
  K t9 w
theorem T38.calls {p0 : (Int × Int × Int × Int × Unit)} {p1 : Int} {w : World} {K : Int → World → Prop} (h : T38 p0 p1 w K) : CallK Try.prog (.int .i64) 38 #[.agg #[.int .i64 p0.1, .int .i64 p0.2.1, .int .i64 p0.2.2.1, .int .i64 p0.2.2.2.1], .int .i64 p1] w K :=
  bodyZ_sound (κ := kappa) (ann := []) (fn := Try.f38) Try.func38 rfl (by kernel_rfl) (cast (show T38 p0 p1 w K = bodyZ Try.prog kappa [] (.int .i64) Try.f38 [.agg #[.int .i64 p0.1, .int .i64 p0.2.1, .int .i64 p0.2.2.1, .int .i64 p0.2.2.2.1], .int .i64 p1] w K by kernel_rfl) h)

/-- cmp.Compare[int] -/
def T39 (p0 : Int) (p1 : Int) (w : World) (K : Int → World → Prop) : Prop :=
  CallK Try.prog .bool 44 #[.int .i64 p0] w fun t8 w =>
  CallK Try.prog .bool 44 #[.int .i64 p1] w fun t10 w =>
  SplitB t8
    (SplitB t10
      (K 0 w)
      (K (-1) w))
    (SplitB t10
      (K 1 w)
      (SplitB (decide (p0 < p1))
        (K (-1) w)
        (SplitB (decide (p0 > p1))
          (K 1 w)
          (K 0 w))))
theorem T39.calls {p0 : Int} {p1 : Int} {w : World} {K : Int → World → Prop} (h : T39 p0 p1 w K) : CallK Try.prog (.int .i64) 39 #[.int .i64 p0, .int .i64 p1] w K :=
  bodyZ_sound (κ := kappa) (ann := []) (fn := Try.f39) Try.func39 rfl (by kernel_rfl) (cast (show T39 p0 p1 w K = bodyZ Try.prog kappa [] (.int .i64) Try.f39 [.int .i64 p0, .int .i64 p1] w K by kernel_rfl) h)

/-- (*sluice/sluiceref13.Cache).Begin -/
def T40 (p0 : Option Addr) (p1 : (Int × Int × Unit)) (w : World) (K : ((Int × Int × Int × Int × Unit) × Bool × Int × Unit) → World → Prop) : Prop :=
  RunN Try.prog .addr (V (Instr.box 32 (.agg #[.int .i64 p1.1, .int .i64 p1.2.1]))) w fun t3 w =>
  RunN Try.prog .addr (V (Instr.alloc 43 true (.tuple #[]))) w fun t4 w =>
  RunN Try.prog .addr (V (Instr.alloc 43 true (.tuple #[]))) w fun t7 w =>
  RunU Try.prog (U (Instr.storeAt 43 (.pointer (some t7)) (.agg #[.int .i64 0, .int .i64 0, .int .i64 0, .int .i64 0]))) w fun w =>
  RunN Try.prog (.int .i64) (V (Instr.loadAt 3 (.pointer (some (t3.add 0))))) w fun t15 w =>
  CallK Try.prog .bool 42 #[.pointer p0, .int .i64 t15] w fun t16 w =>
  SplitB (!t16)
    (RunN Try.prog (.agg (.cons (.int .i64) (.cons (.int .i64) (.cons (.int .i64) (.cons (.int .i64) .nilT))))) (V (Instr.loadAt 43 (.pointer (some t7)))) w fun t19 w =>
    RunU Try.prog (U (Instr.storeAt 43 (.pointer (some t4)) (.agg #[.int .i64 t19.1, .int .i64 t19.2.1, .int .i64 t19.2.2.1, .int .i64 t19.2.2.2.1]))) w fun w =>
    ReadN Try.prog (.agg (.cons (.int .i64) (.cons (.int .i64) (.cons (.int .i64) (.cons (.int .i64) .nilT))))) (V (Instr.loadAt 43 (.pointer (some t4)))) w fun r0 =>
    K ((r0.1, r0.2.1, r0.2.2.1, r0.2.2.2.1, ()), false, 132, ()) w)
    (JoinX (α := Bool × Unit) (fun j2 w =>
      SplitB j2.1
        (RunN Try.prog (.agg (.cons (.int .i64) (.cons (.int .i64) (.cons (.int .i64) (.cons (.int .i64) .nilT))))) (V (Instr.loadAt 43 (.pointer (some t7)))) w fun t28 w =>
        RunU Try.prog (U (Instr.storeAt 43 (.pointer (some t4)) (.agg #[.int .i64 t28.1, .int .i64 t28.2.1, .int .i64 t28.2.2.1, .int .i64 t28.2.2.2.1]))) w fun w =>
        ReadN Try.prog (.agg (.cons (.int .i64) (.cons (.int .i64) (.cons (.int .i64) (.cons (.int .i64) .nilT))))) (V (Instr.loadAt 43 (.pointer (some t4)))) w fun r0 =>
        K ((r0.1, r0.2.1, r0.2.2.1, r0.2.2.2.1, ()), false, 1, ()) w)
        (ReadN Try.prog (.int .i64) (V (Instr.loadAt 3 (.pointer (some (t3.add 0))))) w.drew fun t31 =>
        NilP p0 fun t32 =>
        ReadN Try.prog .addr (V (Instr.indexAt 51 (.pointer (some (t32.add 4))) (.int .i64 t31))) w.drew fun t34 =>
        ReadN Try.prog (.int .i64) (V (Instr.loadAt 3 (.pointer (some t34)))) w.drew fun t35 =>
        RunN Try.prog (.int .i64) (V (Instr.loadAt 3 (.pointer (some (t3.add 1))))) w.drew fun t37 w =>
        SplitB (decide (t37 > (IntKind.i64.wrap (t35 + 1))))
          (RunN Try.prog (.agg (.cons (.int .i64) (.cons (.int .i64) (.cons (.int .i64) (.cons (.int .i64) .nilT))))) (V (Instr.loadAt 43 (.pointer (some t7)))) w fun t41 w =>
          RunU Try.prog (U (Instr.storeAt 43 (.pointer (some t4)) (.agg #[.int .i64 t41.1, .int .i64 t41.2.1, .int .i64 t41.2.2.1, .int .i64 t41.2.2.2.1]))) w fun w =>
          ReadN Try.prog (.agg (.cons (.int .i64) (.cons (.int .i64) (.cons (.int .i64) (.cons (.int .i64) .nilT))))) (V (Instr.loadAt 43 (.pointer (some t4)))) w fun r0 =>
          K ((r0.1, r0.2.1, r0.2.2.1, r0.2.2.2.1, ()), false, 131, ()) w)
          (RunN Try.prog (.int .i64) (V (Instr.loadAt 3 (.pointer (some (t3.add 1))))) w fun t43 w =>
          SplitB (t43 == (IntKind.i64.wrap (t35 + 1)))
            (ReadN Try.prog (.int .i64) (V (Instr.loadAt 3 (.pointer (some (t3.add 0))))) w.drew fun t49 =>
            ReadN Try.prog (.int .i64) (V (Instr.loadAt 3 (.pointer (some (t3.add 1))))) w.drew fun t51 =>
            NilP p0 fun t52 =>
            ReadN Try.prog .addr (V (Instr.indexAt 51 (.pointer (some (t52.add 4))) (.int .i64 t49))) w.drew fun t54 =>
            RunU Try.prog (U (Instr.storeAt 3 (.pointer (some t54)) (.int .i64 t51))) w.drew fun w =>
            NilP p0 fun t57 =>
            ReadN Try.prog .sl (V (Instr.loadAt 60 (.pointer (some (t57.add 68))))) w.drew fun t59 =>
            ReadN Try.prog (.agg (.cons (.int .i64) (.cons (.int .i64) .nilT))) (V (Instr.loadAt 32 (.pointer (some t3)))) w.drew fun t60 =>
            RunN Try.prog .sl (V (Instr.buildSlice 60 1 #[(0, .agg #[.int .i64 t60.1, .int .i64 t60.2.1])])) w.drew fun t61 w =>
            StillV Try.prog (V (Instr.loadAt 60 (.pointer (some (t57.add 68))))) (.slice t59.a t59.len t59.cap) w ∧
            RunN Try.prog .sl (V (Builtin.append_ #[60, 60] 60 #[.slice t59.a t59.len t59.cap, .slice t61.a t61.len t61.cap])) w fun t62 w =>
            NilP p0 fun t63 =>
            RunU Try.prog (U (Instr.storeAt 60 (.pointer (some (t63.add 68))) (.slice t62.a t62.len t62.cap))) w fun w =>
            RunN Try.prog (.agg (.cons (.int .i64) (.cons (.int .i64) (.cons (.int .i64) (.cons (.int .i64) .nilT))))) (V (Instr.loadAt 43 (.pointer (some t7)))) w fun t65 w =>
            RunU Try.prog (U (Instr.storeAt 43 (.pointer (some t4)) (.agg #[.int .i64 t65.1, .int .i64 t65.2.1, .int .i64 t65.2.2.1, .int .i64 t65.2.2.2.1]))) w fun w =>
            ReadN Try.prog (.agg (.cons (.int .i64) (.cons (.int .i64) (.cons (.int .i64) (.cons (.int .i64) .nilT))))) (V (Instr.loadAt 43 (.pointer (some t4)))) w fun r0 =>
            K ((r0.1, r0.2.1, r0.2.2.1, r0.2.2.2.1, ()), false, 0, ()) w)
            (RunN Try.prog (.agg (.cons (.int .i64) (.cons (.int .i64) .nilT))) (V (Instr.loadAt 32 (.pointer (some t3)))) w fun t67 w =>
            CallK Try.prog (.int .i64) 45 #[.pointer p0, .agg #[.int .i64 t67.1, .int .i64 t67.2.1]] w fun t68 w =>
            SplitB (decide (t68 ≥ 0))
              (RunN Try.prog (.agg (.cons (.int .i64) (.cons (.int .i64) (.cons (.int .i64) (.cons (.int .i64) .nilT))))) (V (Instr.loadAt 43 (.pointer (some t7)))) w fun t70 w =>
              RunU Try.prog (U (Instr.storeAt 43 (.pointer (some t4)) (.agg #[.int .i64 t70.1, .int .i64 t70.2.1, .int .i64 t70.2.2.1, .int .i64 t70.2.2.2.1]))) w fun w =>
              ReadN Try.prog (.agg (.cons (.int .i64) (.cons (.int .i64) (.cons (.int .i64) (.cons (.int .i64) .nilT))))) (V (Instr.loadAt 43 (.pointer (some t4)))) w fun r0 =>
              K ((r0.1, r0.2.1, r0.2.2.1, r0.2.2.2.1, ()), false, 133, ()) w)
              (RunN Try.prog (.agg (.cons (.int .i64) (.cons (.int .i64) .nilT))) (V (Instr.loadAt 32 (.pointer (some t3)))) w fun t73 w =>
              CallK Try.prog (.tup (.cons (.agg (.cons (.int .i64) (.cons (.int .i64) (.cons (.int .i64) (.cons (.int .i64) .nilT))))) (.cons .bool .nilT))) 46 #[.pointer p0, .agg #[.int .i64 t73.1, .int .i64 t73.2.1]] w fun t74 w =>
              RunN Try.prog .addr (V (Instr.alloc 43 true (.tuple #[]))) w fun t10 w =>
              RunU Try.prog (U (Instr.storeAt 43 (.pointer (some t10)) (.agg #[.int .i64 t74.1.1, .int .i64 t74.1.2.1, .int .i64 t74.1.2.2.1, .int .i64 t74.1.2.2.2.1]))) w fun w =>
              SplitB t74.2.1
                (RunN Try.prog (.agg (.cons (.int .i64) (.cons (.int .i64) (.cons (.int .i64) (.cons (.int .i64) .nilT))))) (V (Instr.loadAt 43 (.pointer (some t10)))) w fun t78 w =>
                RunU Try.prog (U (Instr.storeAt 43 (.pointer (some t4)) (.agg #[.int .i64 t78.1, .int .i64 t78.2.1, .int .i64 t78.2.2.1, .int .i64 t78.2.2.2.1]))) w fun w =>
                ReadN Try.prog (.agg (.cons (.int .i64) (.cons (.int .i64) (.cons (.int .i64) (.cons (.int .i64) .nilT))))) (V (Instr.loadAt 43 (.pointer (some t4)))) w fun r0 =>
                K ((r0.1, r0.2.1, r0.2.2.1, r0.2.2.2.1, ()), true, 0, ()) w)
                (RunN Try.prog (.agg (.cons (.int .i64) (.cons (.int .i64) (.cons (.int .i64) (.cons (.int .i64) .nilT))))) (V (Instr.loadAt 43 (.pointer (some t7)))) w fun t79 w =>
                RunU Try.prog (U (Instr.storeAt 43 (.pointer (some t4)) (.agg #[.int .i64 t79.1, .int .i64 t79.2.1, .int .i64 t79.2.2.1, .int .i64 t79.2.2.2.1]))) w fun w =>
                ReadN Try.prog (.agg (.cons (.int .i64) (.cons (.int .i64) (.cons (.int .i64) (.cons (.int .i64) .nilT))))) (V (Instr.loadAt 43 (.pointer (some t4)))) w fun r0 =>
                K ((r0.1, r0.2.1, r0.2.2.1, r0.2.2.2.1, ()), false, 130, ()) w))))))
    fun k1 =>
      RunN Try.prog (.int .i64) (V (Instr.loadAt 3 (.pointer (some (t3.add 1))))) w fun t21 w =>
      SplitB (decide (t21 < 1))
        (k1 (true, ()) w)
        (RunN Try.prog (.int .i64) (V (Instr.loadAt 3 (.pointer (some (t3.add 1))))) w fun t25 w =>
        k1 (decide (t25 > 1099511627776), ()) w))
theorem T40.calls {p0 : Option Addr} {p1 : (Int × Int × Unit)} {w : World} {K : ((Int × Int × Int × Int × Unit) × Bool × Int × Unit) → World → Prop} (h : T40 p0 p1 w K) : CallK Try.prog (.tup (.cons (.agg (.cons (.int .i64) (.cons (.int .i64) (.cons (.int .i64) (.cons (.int .i64) .nilT))))) (.cons .bool (.cons (.int .i64) .nilT)))) 40 #[.pointer p0, .agg #[.int .i64 p1.1, .int .i64 p1.2.1]] w K :=
  bodyZ_sound (κ := kappa) (ann := [(7, [(27, .bool)])]) (fn := Try.f40) Try.func40 rfl (by kernel_rfl) (cast (show T40 p0 p1 w K = bodyZ Try.prog kappa [(7, [(27, .bool)])] (.tup (.cons (.agg (.cons (.int .i64) (.cons (.int .i64) (.cons (.int .i64) (.cons (.int .i64) .nilT))))) (.cons .bool (.cons (.int .i64) .nilT)))) Try.f40 [.pointer p0, .agg #[.int .i64 p1.1, .int .i64 p1.2.1]] w K by kernel_rfl) h)

/-- (*sluice/sluiceref13.Cache).End -/
def T41 (p0 : Option Addr) (p1 : (Int × Int × Int × Int × Unit)) (w : World) (K : Int → World → Prop) : Prop :=
  RunN Try.prog .addr (V (Instr.box 43 (.agg #[.int .i64 p1.1, .int .i64 p1.2.1, .int .i64 p1.2.2.1, .int .i64 p1.2.2.2.1]))) w fun t3 w =>
  RunN Try.prog (.int .i64) (V (Instr.loadAt 3 (.pointer (some ((t3.add 0).add 0))))) w fun t11 w =>
  CallK Try.prog .bool 42 #[.pointer p0, .int .i64 t11] w fun t12 w =>
  SplitB (!t12)
    (K 132 w)
    (ReadN Try.prog (.int .i64) (V (Instr.loadAt 3 (.pointer (some ((t3.add 0).add 1))))) w.drew fun t17 =>
    ReadN Try.prog (.int .i64) (V (Instr.loadAt 3 (.pointer (some ((t3.add 0).add 0))))) w.drew fun t21 =>
    NilP p0 fun t22 =>
    ReadN Try.prog .addr (V (Instr.indexAt 51 (.pointer (some (t22.add 4))) (.int .i64 t21))) w.drew fun t24 =>
    ReadN Try.prog (.int .i64) (V (Instr.loadAt 3 (.pointer (some t24)))) w.drew fun t25 =>
    SplitB (decide (t17 > t25))
      (K 131 w.drew)
      (RunN Try.prog (.agg (.cons (.int .i64) (.cons (.int .i64) .nilT))) (V (Instr.loadAt 32 (.pointer (some (t3.add 0))))) w.drew fun t29 w =>
      CallK Try.prog (.int .i64) 45 #[.pointer p0, .agg #[.int .i64 t29.1, .int .i64 t29.2.1]] w fun t30 w =>
      SplitB (decide (t30 < 0))
        (K 130 w)
        (NilP p0 fun t35 =>
        RunN Try.prog .sl (V (Instr.loadAt 60 (.pointer (some (t35.add 68))))) w fun t37 w =>
        RunN Try.prog .sl (V (Instr.sliceAt 60 (.slice t37.a t37.len t37.cap) none (some (.int .i64 t30)) none)) w fun t39 w =>
        RunN Try.prog .sl (V (Builtin.append_ #[60, 60] 60 #[.slice none 0 0, .slice t39.a t39.len t39.cap])) w fun t40 w =>
        NilP p0 fun t44 =>
        RunN Try.prog .sl (V (Instr.loadAt 60 (.pointer (some (t44.add 68))))) w fun t46 w =>
        RunN Try.prog .sl (V (Instr.sliceAt 60 (.slice t46.a t46.len t46.cap) (some (.int .i64 (IntKind.i64.wrap (t30 + 1)))) none none)) w fun t49 w =>
        RunN Try.prog .sl (V (Builtin.append_ #[60, 60] 60 #[.slice t40.a t40.len t40.cap, .slice t49.a t49.len t49.cap])) w fun t50 w =>
        NilP p0 fun t51 =>
        RunU Try.prog (U (Instr.storeAt 60 (.pointer (some (t51.add 68))) (.slice t50.a t50.len t50.cap))) w fun w =>
        NilP p0 fun t55 =>
        ReadN Try.prog .sl (V (Instr.loadAt 78 (.pointer (some (t55.add 69))))) w.drew fun t57 =>
        ReadN Try.prog (.agg (.cons (.int .i64) (.cons (.int .i64) (.cons (.int .i64) (.cons (.int .i64) .nilT))))) (V (Instr.loadAt 43 (.pointer (some t3)))) w.drew fun t58 =>
        RunN Try.prog .sl (V (Instr.buildSlice 78 1 #[(0, .agg #[.int .i64 t58.1, .int .i64 t58.2.1, .int .i64 t58.2.2.1, .int .i64 t58.2.2.2.1])])) w.drew fun t59 w =>
        StillV Try.prog (V (Instr.loadAt 78 (.pointer (some (t55.add 69))))) (.slice t57.a t57.len t57.cap) w ∧
        RunN Try.prog .sl (V (Builtin.append_ #[78, 78] 78 #[.slice t57.a t57.len t57.cap, .slice t59.a t59.len t59.cap])) w fun t60 w =>
        NilP p0 fun t61 =>
        RunU Try.prog (U (Instr.storeAt 78 (.pointer (some (t61.add 69))) (.slice t60.a t60.len t60.cap))) w fun w =>
        K 0 w)))
theorem T41.calls {p0 : Option Addr} {p1 : (Int × Int × Int × Int × Unit)} {w : World} {K : Int → World → Prop} (h : T41 p0 p1 w K) : CallK Try.prog (.int .i64) 41 #[.pointer p0, .agg #[.int .i64 p1.1, .int .i64 p1.2.1, .int .i64 p1.2.2.1, .int .i64 p1.2.2.2.1]] w K :=
  bodyZ_sound (κ := kappa) (ann := []) (fn := Try.f41) Try.func41 rfl (by kernel_rfl) (cast (show T41 p0 p1 w K = bodyZ Try.prog kappa [] (.int .i64) Try.f41 [.pointer p0, .agg #[.int .i64 p1.1, .int .i64 p1.2.1, .int .i64 p1.2.2.1, .int .i64 p1.2.2.2.1]] w K by kernel_rfl) h)

/-- (*sluice/sluiceref13.Cache).mine -/
def T42 (p0 : Option Addr) (p1 : Int) (w : World) (K : Bool → World → Prop) : Prop :=
  SplitB (decide (p1 ≥ 0))
    (NilP p0 fun t10 =>
    ReadN Try.prog (.int .i64) (V (Instr.loadAt 3 (.pointer (some (t10.add 2))))) w.drew fun t12 =>
    SplitB (decide (p1 < t12))
      (NilP p0 fun t18 =>
      ReadN Try.prog (.int .i64) (V (Instr.loadAt 3 (.pointer (some (t18.add 1))))) w.drew fun t20 =>
      ReadN Try.prog (.int .i64) (V (binOp .rem 3 (.int .i64 p1) (.int .i64 t20))) w.drew fun t21 =>
      NilP p0 fun t23 =>
      ReadN Try.prog (.int .i64) (V (Instr.loadAt 3 (.pointer (some (t23.add 0))))) w.drew fun t25 =>
      K (t21 == t25) w.drew)
      (K false w.drew))
    (K false w.drew)
theorem T42.calls {p0 : Option Addr} {p1 : Int} {w : World} {K : Bool → World → Prop} (h : T42 p0 p1 w K) : CallK Try.prog .bool 42 #[.pointer p0, .int .i64 p1] w K :=
  bodyZ_sound (κ := kappa) (ann := []) (fn := Try.f42) Try.func42 rfl (by kernel_rfl) (cast (show T42 p0 p1 w K = bodyZ Try.prog kappa [] .bool Try.f42 [.pointer p0, .int .i64 p1] w K by kernel_rfl) h)

/-- (*sluice/cache.Cache).Pending -/
def T43 (p0 : Option Addr) (w : World) (K : Sl → World → Prop) : Prop :=
  NilP p0 fun t8 =>
  RunN Try.prog (.int .i64) (V (Instr.loadAt 3 (.pointer (some (t8.add 0))))) w fun t10 w =>
  LoopX (α := Sl × Int × Unit) (fun s1 w k2 =>
    NilP p0 fun t13 =>
    RunN Try.prog (.int .i64) (V (Instr.loadAt 3 (.pointer (some (t13.add 2))))) w fun t15 w =>
    SplitB (decide (s1.2.1 < t15))
      (CallK Try.prog .ptr 23 #[.pointer p0, .int .i64 s1.2.1] w fun t25 w =>
      NilP t25 fun t26 =>
      RunN Try.prog .sl (V (Instr.loadAt 50 (.pointer (some (t26.add 1))))) w fun t28 w =>
      LoopX (α := Sl × Int × Unit) (fun s3 w k4 =>
        SplitB (decide (s3.2.1 < (t28.len : Int)))
          (RunN Try.prog .addr (V (Instr.indexAt 50 (.slice t28.a t28.len t28.cap) (.int .i64 s3.2.1))) w fun t32 w =>
          RunN Try.prog (.int .i64) (V (Instr.loadAt 3 (.pointer (some t32)))) w fun t33 w =>
          RunN Try.prog .sl (V (Instr.buildSlice 60 1 #[(0, .agg #[.int .i64 s1.2.1, .int .i64 t33])])) w fun t38 w =>
          RunN Try.prog .sl (V (Builtin.append_ #[60, 60] 60 #[.slice s3.1.a s3.1.len s3.1.cap, .slice t38.a t38.len t38.cap])) w fun t39 w =>
          k4 (t39, IntKind.i64.wrap (s3.2.1 + 1), ()) w)
          (NilP p0 fun t19 =>
          RunN Try.prog (.int .i64) (V (Instr.loadAt 3 (.pointer (some (t19.add 1))))) w fun t21 w =>
          k2 (s3.1, IntKind.i64.wrap (s1.2.1 + t21), ()) w))
      (s1.1, 0, ()) w)
      (K s1.1 w))
  ((⟨none, 0, 0⟩ : Sl), t10, ()) w
theorem T43.calls {p0 : Option Addr} {w : World} {K : Sl → World → Prop} (h : T43 p0 w K) : CallK Try.prog .sl 43 #[.pointer p0] w K :=
  bodyZ_sound (κ := kappa) (ann := [(4, [(3, .sl), (4, (.int .i64))]), (9, [(3, .sl), (30, (.int .i64))])]) (fn := Try.f43) Try.func43 rfl (by kernel_rfl) (cast (show T43 p0 w K = bodyZ Try.prog kappa [(4, [(3, .sl), (4, (.int .i64))]), (9, [(3, .sl), (30, (.int .i64))])] .sl Try.f43 [.pointer p0] w K by kernel_rfl) h)

/-- cmp.isNaN[int] -/
def T44 (p0 : Int) (w : World) (K : Bool → World → Prop) : Prop :=
  K (p0 != p0) w
theorem T44.calls {p0 : Int} {w : World} {K : Bool → World → Prop} (h : T44 p0 w K) : CallK Try.prog .bool 44 #[.int .i64 p0] w K :=
  bodyZ_sound (κ := kappa) (ann := []) (fn := Try.f44) Try.func44 rfl (by kernel_rfl) (cast (show T44 p0 w K = bodyZ Try.prog kappa [] .bool Try.f44 [.int .i64 p0] w K by kernel_rfl) h)

/-- (*sluice/sluiceref13.Cache).pending -/
def T45 (p0 : Option Addr) (p1 : (Int × Int × Unit)) (w : World) (K : Int → World → Prop) : Prop :=
  RunN Try.prog .addr (V (Instr.box 32 (.agg #[.int .i64 p1.1, .int .i64 p1.2.1]))) w fun t3 w =>
  LoopX (α := Int × Unit) (fun s1 w k2 =>
    NilP p0 fun t8 =>
    RunN Try.prog .sl (V (Instr.loadAt 60 (.pointer (some (t8.add 68))))) w fun t10 w =>
    SplitB (decide (s1.1 < (t10.len : Int)))
      (NilP p0 fun t16 =>
      ReadN Try.prog .sl (V (Instr.loadAt 60 (.pointer (some (t16.add 68))))) w.drew fun t18 =>
      ReadN Try.prog .addr (V (Instr.indexAt 60 (.slice t18.a t18.len t18.cap) (.int .i64 s1.1))) w.drew fun t20 =>
      ReadN Try.prog (.agg (.cons (.int .i64) (.cons (.int .i64) .nilT))) (V (Instr.loadAt 32 (.pointer (some t20)))) w.drew fun t21 =>
      ReadN Try.prog (.agg (.cons (.int .i64) (.cons (.int .i64) .nilT))) (V (Instr.loadAt 32 (.pointer (some t3)))) w.drew fun t22 =>
      ReadN Try.prog .bool (V (do eqGuard .eql 32 (.tmp 21) (.tmp 22) (.agg #[.int .i64 t21.1, .int .i64 t21.2.1]) (.agg #[.int .i64 t22.1, .int .i64 t22.2.1]); binOp .eql 32 (.agg #[.int .i64 t21.1, .int .i64 t21.2.1]) (.agg #[.int .i64 t22.1, .int .i64 t22.2.1]))) w.drew fun t23 =>
      SplitB t23
        (K s1.1 w.drew)
        (k2 (IntKind.i64.wrap (s1.1 + 1), ()) w.drew))
      (K (-1) w))
  (0, ()) w
theorem T45.calls {p0 : Option Addr} {p1 : (Int × Int × Unit)} {w : World} {K : Int → World → Prop} (h : T45 p0 p1 w K) : CallK Try.prog (.int .i64) 45 #[.pointer p0, .agg #[.int .i64 p1.1, .int .i64 p1.2.1]] w K :=
  bodyZ_sound (κ := kappa) (ann := [(3, [(5, (.int .i64))])]) (fn := Try.f45) Try.func45 rfl (by kernel_rfl) (cast (show T45 p0 p1 w K = bodyZ Try.prog kappa [(3, [(5, (.int .i64))])] (.int .i64) Try.f45 [.pointer p0, .agg #[.int .i64 p1.1, .int .i64 p1.2.1]] w K by kernel_rfl) h)

/-- (*sluice/sluiceref13.Cache).kept -/
def T46 (p0 : Option Addr) (p1 : (Int × Int × Unit)) (w : World) (K : ((Int × Int × Int × Int × Unit) × Bool × Unit) → World → Prop) : Prop :=
  RunN Try.prog .addr (V (Instr.box 32 (.agg #[.int .i64 p1.1, .int .i64 p1.2.1]))) w fun t3 w =>
  RunN Try.prog .addr (V (Instr.alloc 43 true (.tuple #[]))) w fun t4 w =>
  RunN Try.prog .addr (V (Instr.alloc 43 true (.tuple #[]))) w fun t6 w =>
  LoopX (α := Bool × Int × Int × Unit) (fun s1 w k2 =>
    NilP p0 fun t13 =>
    RunN Try.prog .sl (V (Instr.loadAt 78 (.pointer (some (t13.add 69))))) w fun t15 w =>
    SplitB (decide (s1.2.2.1 < (t15.len : Int)))
      (JoinX (α := Bool × Int × Unit) (fun j4 w =>
        k2 (j4.1, j4.2.1, IntKind.i64.wrap (s1.2.2.1 + 1), ()) w)
      fun k3 =>
        NilP p0 fun t21 =>
        RunN Try.prog .sl (V (Instr.loadAt 78 (.pointer (some (t21.add 69))))) w fun t23 w =>
        RunN Try.prog .addr (V (Instr.indexAt 78 (.slice t23.a t23.len t23.cap) (.int .i64 s1.2.2.1))) w fun t25 w =>
        RunN Try.prog (.agg (.cons (.int .i64) (.cons (.int .i64) .nilT))) (V (Instr.loadAt 32 (.pointer (some (t25.add 0))))) w fun t27 w =>
        RunN Try.prog .addr (V (Instr.alloc 32 true (.tuple #[]))) w fun t10 w =>
        RunU Try.prog (U (Instr.storeAt 32 (.pointer (some t10)) (.agg #[.int .i64 t27.1, .int .i64 t27.2.1]))) w fun w =>
        JoinX (α := Bool × Unit) (fun j6 w =>
          JoinX (α := Bool × Unit) (fun j8 w =>
            SplitB j8.1
              (k3 (j6.1, IntKind.i64.wrap (s1.2.1 + 1), ()) w)
              (k3 (j6.1, s1.2.1, ()) w))
          fun k7 =>
            RunN Try.prog (.int .i64) (V (Instr.loadAt 3 (.pointer (some (t10.add 0))))) w fun t39 w =>
            RunN Try.prog (.int .i64) (V (Instr.loadAt 3 (.pointer (some (t3.add 0))))) w fun t41 w =>
            SplitB (t39 == t41)
              (RunN Try.prog (.int .i64) (V (Instr.loadAt 3 (.pointer (some (t10.add 1))))) w fun t45 w =>
              RunN Try.prog (.int .i64) (V (Instr.loadAt 3 (.pointer (some (t3.add 1))))) w fun t47 w =>
              k7 (decide (t45 > t47), ()) w)
              (k7 (false, ()) w))
        fun k5 =>
          RunN Try.prog (.agg (.cons (.int .i64) (.cons (.int .i64) .nilT))) (V (Instr.loadAt 32 (.pointer (some t10)))) w fun t28 w =>
          RunN Try.prog (.agg (.cons (.int .i64) (.cons (.int .i64) .nilT))) (V (Instr.loadAt 32 (.pointer (some t3)))) w fun t29 w =>
          RunN Try.prog .bool (V (do eqGuard .eql 32 (.tmp 28) (.tmp 29) (.agg #[.int .i64 t28.1, .int .i64 t28.2.1]) (.agg #[.int .i64 t29.1, .int .i64 t29.2.1]); binOp .eql 32 (.agg #[.int .i64 t28.1, .int .i64 t28.2.1]) (.agg #[.int .i64 t29.1, .int .i64 t29.2.1]))) w fun t30 w =>
          SplitB t30
            (NilP p0 fun t32 =>
            RunN Try.prog .sl (V (Instr.loadAt 78 (.pointer (some (t32.add 69))))) w fun t34 w =>
            RunN Try.prog .addr (V (Instr.indexAt 78 (.slice t34.a t34.len t34.cap) (.int .i64 s1.2.2.1))) w fun t36 w =>
            RunN Try.prog (.agg (.cons (.int .i64) (.cons (.int .i64) (.cons (.int .i64) (.cons (.int .i64) .nilT))))) (V (Instr.loadAt 43 (.pointer (some t36)))) w fun t37 w =>
            RunU Try.prog (U (Instr.storeAt 43 (.pointer (some t6)) (.agg #[.int .i64 t37.1, .int .i64 t37.2.1, .int .i64 t37.2.2.1, .int .i64 t37.2.2.2.1]))) w fun w =>
            k5 (true, ()) w)
            (k5 (s1.1, ()) w))
      (JoinX (α := Bool × Unit) (fun j10 w =>
        SplitB j10.1
          (RunU Try.prog (U (Instr.storeAt 43 (.pointer (some t4)) (.agg #[.int .i64 0, .int .i64 0, .int .i64 0, .int .i64 0]))) w fun w =>
          ReadN Try.prog (.agg (.cons (.int .i64) (.cons (.int .i64) (.cons (.int .i64) (.cons (.int .i64) .nilT))))) (V (Instr.loadAt 43 (.pointer (some t4)))) w fun r0 =>
          K ((r0.1, r0.2.1, r0.2.2.1, r0.2.2.2.1, ()), false, ()) w)
          (RunN Try.prog (.agg (.cons (.int .i64) (.cons (.int .i64) (.cons (.int .i64) (.cons (.int .i64) .nilT))))) (V (Instr.loadAt 43 (.pointer (some t6)))) w fun t63 w =>
          RunU Try.prog (U (Instr.storeAt 43 (.pointer (some t4)) (.agg #[.int .i64 t63.1, .int .i64 t63.2.1, .int .i64 t63.2.2.1, .int .i64 t63.2.2.2.1]))) w fun w =>
          ReadN Try.prog (.agg (.cons (.int .i64) (.cons (.int .i64) (.cons (.int .i64) (.cons (.int .i64) .nilT))))) (V (Instr.loadAt 43 (.pointer (some t4)))) w fun r0 =>
          K ((r0.1, r0.2.1, r0.2.2.1, r0.2.2.2.1, ()), true, ()) w))
      fun k9 =>
        SplitB (!s1.1)
          (k9 (true, ()) w)
          (NilP p0 fun t57 =>
          RunN Try.prog (.int .i64) (V (Instr.loadAt 3 (.pointer (some (t57.add 3))))) w fun t59 w =>
          k9 (decide (s1.2.1 ≥ t59), ()) w)))
  (false, 0, 0, ()) w
theorem T46.calls {p0 : Option Addr} {p1 : (Int × Int × Unit)} {w : World} {K : ((Int × Int × Int × Int × Unit) × Bool × Unit) → World → Prop} (h : T46 p0 p1 w K) : CallK Try.prog (.tup (.cons (.agg (.cons (.int .i64) (.cons (.int .i64) (.cons (.int .i64) (.cons (.int .i64) .nilT))))) (.cons .bool .nilT))) 46 #[.pointer p0, .agg #[.int .i64 p1.1, .int .i64 p1.2.1]] w K :=
  bodyZ_sound (κ := kappa) (ann := [(6, [(7, .bool), (8, (.int .i64)), (9, (.int .i64))]), (9, [(7, .bool), (8, (.int .i64))]), (11, [(7, .bool)]), (14, [(49, .bool)]), (16, [(61, .bool)])]) (fn := Try.f46) Try.func46 rfl (by kernel_rfl) (cast (show T46 p0 p1 w K = bodyZ Try.prog kappa [(6, [(7, .bool), (8, (.int .i64)), (9, (.int .i64))]), (9, [(7, .bool), (8, (.int .i64))]), (11, [(7, .bool)]), (14, [(49, .bool)]), (16, [(61, .bool)])] (.tup (.cons (.agg (.cons (.int .i64) (.cons (.int .i64) (.cons (.int .i64) (.cons (.int .i64) .nilT))))) (.cons .bool .nilT))) Try.f46 [.pointer p0, .agg #[.int .i64 p1.1, .int .i64 p1.2.1]] w K by kernel_rfl) h)

end Go.Proofs.Ytbdhmeefjlkdcaa
