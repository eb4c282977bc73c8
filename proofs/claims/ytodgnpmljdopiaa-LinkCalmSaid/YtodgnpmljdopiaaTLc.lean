import Derived.Test.YtodgnpmljdopiaaProg
import Derived.Test.YtodgnpmljdopiaaTLk
namespace Go.Proofs.Ytodgnpmljdopiaa
open Go Go.Fw Go.Proofs
set_option maxRecDepth 100000
set_option linter.unusedVariables false

/-- sluice/sluicelaw3.LinkCalm -/
def T7 (p0 : Int) (p1 : Int) (p2 : Int) (p3 : Sl) (p4 : Sl) (w : World) (K : Bool → World → Prop) : Prop :=
  CallK Try.prog .bool 9 #[] w fun t19 w =>
  CallK Try.prog .ptr 16 #[.int .i64 p0, .int .i64 p1, .int .i64 p2] w fun t23 w =>
  JoinX (α := Bool × Unit) (fun j2 w =>
    SplitB j2.1
      (K false w)
      (CallK Try.prog (.int .i64) 17 #[.int .i64 p0, .int .i64 1, .int .i64 16] w fun t31 w =>
      CallK Try.prog (.int .i64) 17 #[.int .i64 p1, .int .i64 1, .int .i64 16] w fun t33 w =>
      RunN Try.prog .addr (V (Instr.alloc 43 true (.tuple #[]))) w fun t13 w =>
      RunU Try.prog (U (Instr.storeAt 43 (.pointer (some t13)) (.agg #[.int .i64 t31, .int .i64 t33]))) w fun w =>
      LoopX (α := Int × Unit) (fun s3 w k4 =>
        JoinX (α := Bool × Unit) (fun j6 w =>
          SplitB j6.1
            (ReadN Try.prog .addr (V (Instr.indexAt 39 (.slice p3.a p3.len p3.cap) (.int .i64 s3.1))) w.drew fun t48 =>
            ReadN Try.prog (.agg (.cons (.int .i64) (.cons (.int .i64) (.cons (.int .i64) (.cons .sl .nilT))))) (V (Instr.loadAt 47 (.pointer (some t48)))) w.drew fun t49 =>
            ReadN Try.prog (.agg (.cons (.int .i64) (.cons (.int .i64) .nilT))) (V (Instr.loadAt 43 (.pointer (some t13)))) w.drew fun t50 =>
            CallK Try.prog .bool 18 #[.pointer t23, .agg #[.int .i64 t49.1, .int .i64 t49.2.1, .int .i64 t49.2.2.1, .slice t49.2.2.2.1.a t49.2.2.2.1.len t49.2.2.2.1.cap], .agg #[.int .i64 t50.1, .int .i64 t50.2.1]] w.drew fun t51 w =>
            SplitB (!t51)
              (K false w)
              (k4 (IntKind.i64.wrap (s3.1 + 1), ()) w))
            (JoinX (α := Bool × Unit) (fun j8 w =>
              SplitB (!j8.1)
                (K false w)
                (CallK Try.prog (.int .i64) 17 #[.int .i64 p2, .int .i64 1, .int .i64 20] w fun t68 w =>
                LoopX (α := Int × Unit) (fun s9 w k10 =>
                  SplitB (decide (s9.1 < t68))
                    (NilP t23 fun t75 =>
                    RunN Try.prog .addr (V (Instr.indexAt 50 (.pointer (some (t75.add 0))) (.int .i64 0))) w fun t77 w =>
                    RunN Try.prog .ptr (V (Instr.loadAt 26 (.pointer (some t77)))) w fun t78 w =>
                    CallK Try.prog (.tup .nilT) 20 #[.pointer t78] w fun t79 w =>
                    NilP t23 fun t81 =>
                    RunN Try.prog .addr (V (Instr.indexAt 50 (.pointer (some (t81.add 0))) (.int .i64 1))) w fun t83 w =>
                    RunN Try.prog .ptr (V (Instr.loadAt 26 (.pointer (some t83)))) w fun t84 w =>
                    CallK Try.prog (.tup .nilT) 20 #[.pointer t84] w fun t85 w =>
                    CallK Try.prog .bool 21 #[.pointer t23] w fun t87 w =>
                    SplitB (!t87)
                      (K false w)
                      (k10 (IntKind.i64.wrap (s9.1 + 1), ()) w))
                    (LoopX (α := Int × Unit) (fun s11 w k12 =>
                      SplitB (decide (s11.1 < 2))
                        (JoinX (α := Bool × Unit) (fun j14 w =>
                          SplitB j14.1
                            (K false w)
                            (k12 (IntKind.i64.wrap (s11.1 + 1), ()) w))
                        fun k13 =>
                          NilP t23 fun t95 =>
                          ReadN Try.prog .addr (V (Instr.indexAt 43 (.pointer (some (t95.add 4))) (.int .i64 s11.1))) w.drew fun t97 =>
                          ReadN Try.prog (.int .i64) (V (Instr.loadAt 3 (.pointer (some t97)))) w.drew fun t98 =>
                          NilP t23 fun t101 =>
                          ReadN Try.prog .addr (V (Instr.indexAt 52 (.pointer (some (t101.add 2))) (.int .i64 s11.1))) w.drew fun t103 =>
                          ReadN Try.prog .sl (V (Instr.loadAt 51 (.pointer (some t103)))) w.drew fun t104 =>
                          SplitB (t98 != (t104.len : Int))
                            (k13 (true, ()) w.drew)
                            (NilP t23 fun t110 =>
                            ReadN Try.prog .addr (V (Instr.indexAt 50 (.pointer (some (t110.add 0))) (.int .i64 s11.1))) w.drew fun t112 =>
                            ReadN Try.prog .ptr (V (Instr.loadAt 26 (.pointer (some t112)))) w.drew fun t113 =>
                            CallK Try.prog .sl 14 #[.pointer t113] w.drew fun t114 w =>
                            SplitB ((t114.len : Int) != 0)
                              (k13 (true, ()) w)
                              (NilP t23 fun t121 =>
                              ReadN Try.prog .addr (V (Instr.indexAt 50 (.pointer (some (t121.add 0))) (.int .i64 s11.1))) w fun t123 =>
                              ReadN Try.prog .ptr (V (Instr.loadAt 26 (.pointer (some t123)))) w fun t124 =>
                              ReadN Try.prog .addr (V (Instr.indexAt 43 (.pointer (some t13)) (.int .i64 s11.1))) w fun t127 =>
                              ReadN Try.prog (.int .i64) (V (Instr.loadAt 3 (.pointer (some t127)))) w fun t128 =>
                              CallK Try.prog (.int .i64) 12 #[.pointer t124] w fun t125 w =>
                              StillV Try.prog (V (Instr.loadAt 3 (.pointer (some t127)))) (.int .i64 t128) w ∧
                              StillV Try.prog (V (Instr.indexAt 43 (.pointer (some t13)) (.int .i64 s11.1))) (.pointer (some t127)) w ∧
                              k13 (t125 != t128, ()) w)))
                        (NilP t23 fun t132 =>
                        RunN Try.prog .addr (V (Instr.indexAt 50 (.pointer (some (t132.add 0))) (.int .i64 0))) w fun t134 w =>
                        RunN Try.prog .ptr (V (Instr.loadAt 26 (.pointer (some t134)))) w fun t135 w =>
                        CallK Try.prog .sl 13 #[.pointer t135] w fun t136 w =>
                        SplitB ((t136.len : Int) == 0)
                          (NilP t23 fun t141 =>
                          RunN Try.prog .addr (V (Instr.indexAt 50 (.pointer (some (t141.add 0))) (.int .i64 1))) w fun t143 w =>
                          RunN Try.prog .ptr (V (Instr.loadAt 26 (.pointer (some t143)))) w fun t144 w =>
                          CallK Try.prog .sl 13 #[.pointer t144] w fun t145 w =>
                          K ((t145.len : Int) == 0) w)
                          (K false w)))
                    (0, ()) w))
                (0, ()) w))
            fun k7 =>
              RunN Try.prog (.agg (.cons (.int .i64) (.cons (.int .i64) .nilT))) (V (Instr.loadAt 43 (.pointer (some t13)))) w fun t56 w =>
              CallK Try.prog .bool 18 #[.pointer t23, .agg #[.int .i64 0, .int .i64 0, .int .i64 0, .slice p4.a p4.len p4.cap], .agg #[.int .i64 t56.1, .int .i64 t56.2.1]] w fun t57 w =>
              SplitB t57
                (RunN Try.prog (.agg (.cons (.int .i64) (.cons (.int .i64) .nilT))) (V (Instr.loadAt 43 (.pointer (some t13)))) w fun t62 w =>
                CallK Try.prog .bool 18 #[.pointer t23, .agg #[.int .i64 0, .int .i64 1, .int .i64 0, .slice p4.a p4.len p4.cap], .agg #[.int .i64 t62.1, .int .i64 t62.2.1]] w fun t63 w =>
                k7 (t63, ()) w)
                (k7 (false, ()) w)))
        fun k5 =>
          SplitB (decide (s3.1 < (p3.len : Int)))
            (k5 (decide (s3.1 < 300), ()) w)
            (k5 (false, ()) w))
      (0, ()) w))
  fun k1 =>
    SplitB (!t19)
      (k1 (true, ()) w)
      (RunN Try.prog .bool (V (do eqGuard .eql 40 (.tmp 27) (.const (.pointer none)) (.pointer t23) (.pointer none); binOp .eql 40 (.pointer t23) (.pointer none))) w fun t28 w =>
      k1 (t28, ()) w)
theorem T7.calls {p0 : Int} {p1 : Int} {p2 : Int} {p3 : Sl} {p4 : Sl} {w : World} {K : Bool → World → Prop} (h : T7 p0 p1 p2 p3 p4 w K) : CallK Try.prog .bool 7 #[.int .i64 p0, .int .i64 p1, .int .i64 p2, .slice p3.a p3.len p3.cap, .slice p4.a p4.len p4.cap] w K :=
  bodyZ_sound (κ := kappa) (ann := [(4, [(29, .bool)]), (9, [(14, (.int .i64))]), (11, [(42, .bool)]), (15, [(15, .bool)]), (22, [(17, (.int .i64))]), (32, [(18, (.int .i64))]), (36, [(130, .bool)])]) (fn := Try.f7) Try.func7 rfl (by kernel_rfl) (cast (show T7 p0 p1 p2 p3 p4 w K = bodyZ Try.prog kappa [(4, [(29, .bool)]), (9, [(14, (.int .i64))]), (11, [(42, .bool)]), (15, [(15, .bool)]), (22, [(17, (.int .i64))]), (32, [(18, (.int .i64))]), (36, [(130, .bool)])] .bool Try.f7 [.int .i64 p0, .int .i64 p1, .int .i64 p2, .slice p3.a p3.len p3.cap, .slice p4.a p4.len p4.cap] w K by kernel_rfl) h)

/-- (*sluice/sluicelaw3.line).quiet -/
def T21 (p0 : Option Addr) (w : World) (K : Bool → World → Prop) : Prop :=
  LoopX (α := Int × Unit) (fun s1 w k2 =>
    SplitB (decide (s1.1 < 200))
      (NilP p0 fun t13 =>
      RunN Try.prog .addr (V (Instr.indexAt 50 (.pointer (some (t13.add 0))) (.int .i64 0))) w fun t15 w =>
      RunN Try.prog .ptr (V (Instr.loadAt 26 (.pointer (some t15)))) w fun t16 w =>
      CallK Try.prog .sl 13 #[.pointer t16] w fun t17 w =>
      LoopX (α := Int × Unit) (fun s3 w k4 =>
        SplitB (decide (s3.1 < (t17.len : Int)))
          (RunN Try.prog .addr (V (Instr.indexAt 33 (.slice t17.a t17.len t17.cap) (.int .i64 s3.1))) w fun t27 w =>
          RunN Try.prog (.agg (.cons (.int .i64) (.cons (.int .i64) (.cons (.int .i64) (.cons (.int .i64) (.cons .sl .nilT)))))) (V (Instr.loadAt 62 (.pointer (some t27)))) w fun t28 w =>
          CallK Try.prog .bool 31 #[.pointer p0, .agg #[.int .i64 t28.1, .int .i64 t28.2.1, .int .i64 t28.2.2.1, .int .i64 t28.2.2.2.1, .slice t28.2.2.2.2.1.a t28.2.2.2.2.1.len t28.2.2.2.2.1.cap]] w fun t29 w =>
          SplitB (!t29)
            (K false w)
            (k4 (IntKind.i64.wrap (s3.1 + 1), ()) w))
          (NilP p0 fun t32 =>
          RunN Try.prog .addr (V (Instr.indexAt 50 (.pointer (some (t32.add 0))) (.int .i64 1))) w fun t34 w =>
          RunN Try.prog .ptr (V (Instr.loadAt 26 (.pointer (some t34)))) w fun t35 w =>
          CallK Try.prog .sl 13 #[.pointer t35] w fun t36 w =>
          LoopX (α := Int × Unit) (fun s5 w k6 =>
            SplitB (decide (s5.1 < (t36.len : Int)))
              (RunN Try.prog .addr (V (Instr.indexAt 33 (.slice t36.a t36.len t36.cap) (.int .i64 s5.1))) w fun t46 w =>
              RunN Try.prog (.agg (.cons (.int .i64) (.cons (.int .i64) (.cons (.int .i64) (.cons (.int .i64) (.cons .sl .nilT)))))) (V (Instr.loadAt 62 (.pointer (some t46)))) w fun t47 w =>
              CallK Try.prog .bool 31 #[.pointer p0, .agg #[.int .i64 t47.1, .int .i64 t47.2.1, .int .i64 t47.2.2.1, .int .i64 t47.2.2.2.1, .slice t47.2.2.2.2.1.a t47.2.2.2.2.1.len t47.2.2.2.2.1.cap]] w fun t48 w =>
              SplitB (!t48)
                (K false w)
                (k6 (IntKind.i64.wrap (s5.1 + 1), ()) w))
              (JoinX (α := Bool × Unit) (fun j8 w =>
                SplitB j8.1
                  (K true w)
                  (k2 (IntKind.i64.wrap (s1.1 + 1), ()) w))
              fun k7 =>
                SplitB ((t17.len : Int) == 0)
                  (k7 ((t36.len : Int) == 0, ()) w)
                  (k7 (false, ()) w)))
          (0, ()) w))
      (0, ()) w)
      (K false w))
  (0, ()) w
theorem T21.calls {p0 : Option Addr} {w : World} {K : Bool → World → Prop} (h : T21 p0 w K) : CallK Try.prog .bool 21 #[.pointer p0] w K :=
  bodyZ_sound (κ := kappa) (ann := [(3, [(3, (.int .i64))]), (10, [(5, (.int .i64))]), (19, [(7, (.int .i64))]), (25, [(57, .bool)])]) (fn := Try.f21) Try.func21 rfl (by kernel_rfl) (cast (show T21 p0 w K = bodyZ Try.prog kappa [(3, [(3, (.int .i64))]), (10, [(5, (.int .i64))]), (19, [(7, (.int .i64))]), (25, [(57, .bool)])] .bool Try.f21 [.pointer p0] w K by kernel_rfl) h)
end Go.Proofs.Ytodgnpmljdopiaa
