/- Words and steps, part 7: The line in memory: types. The line in memory: a segment comes. The line in memory: its ends, looked at from either side; what always holds. The line in memory: one thing that happens. LinkOnce. What a law of the link reads of its arguments: a play. A list of segments comes, one by one: what the receiver becomes. One round of two ends that tell each other all they have. The line in memory: both ends tell each other all they have. -/
import Derived.Test.YtodgnpmljdopiaaProg
import Derived.Test.YtodgnpmljdopiaaLsQ6
namespace Go.Proofs.Ytodgnpmljdopiaa
open Go Go.Fw Go.Proofs
set_option maxRecDepth 100000
set_option linter.unusedVariables false

/-- sluice/sluicelaw3.LinkOnce -/
def T6 (p0 : Int) (p1 : Int) (p2 : Int) (p3 : Sl) (w : World) (K : Bool → World → Prop) : Prop :=
  CallK Try.prog .bool 9 #[] w fun t13 w =>
  CallK Try.prog .ptr 16 #[.int .i64 p0, .int .i64 p1, .int .i64 p2] w fun t17 w =>
  JoinX (α := Bool × Unit) (fun j2 w =>
    SplitB j2.1
      (K false w)
      (CallK Try.prog (.int .i64) 17 #[.int .i64 p0, .int .i64 1, .int .i64 16] w fun t25 w =>
      CallK Try.prog (.int .i64) 17 #[.int .i64 p1, .int .i64 1, .int .i64 16] w fun t27 w =>
      RunN Try.prog .addr (V (Instr.alloc 43 true (.tuple #[]))) w fun t11 w =>
      RunU Try.prog (U (Instr.storeAt 43 (.pointer (some t11)) (.agg #[.int .i64 t25, .int .i64 t27]))) w fun w =>
      LoopX (α := Int × Unit) (fun s3 w k4 =>
        JoinX (α := Bool × Unit) (fun j6 w =>
          SplitB j6.1
            (ReadN Try.prog .addr (V (Instr.indexAt 39 (.slice p3.a p3.len p3.cap) (.int .i64 s3.1))) w.drew fun t42 =>
            ReadN Try.prog (.agg (.cons (.int .i64) (.cons (.int .i64) (.cons (.int .i64) (.cons .sl .nilT))))) (V (Instr.loadAt 47 (.pointer (some t42)))) w.drew fun t43 =>
            ReadN Try.prog (.agg (.cons (.int .i64) (.cons (.int .i64) .nilT))) (V (Instr.loadAt 43 (.pointer (some t11)))) w.drew fun t44 =>
            CallK Try.prog .bool 18 #[.pointer t17, .agg #[.int .i64 t43.1, .int .i64 t43.2.1, .int .i64 t43.2.2.1, .slice t43.2.2.2.1.a t43.2.2.2.1.len t43.2.2.2.1.cap], .agg #[.int .i64 t44.1, .int .i64 t44.2.1]] w.drew fun t45 w =>
            SplitB (!t45)
              (K false w)
              (k4 (IntKind.i64.wrap (s3.1 + 1), ()) w))
            (RunN Try.prog .addr (V (Instr.indexAt 43 (.pointer (some t11)) (.int .i64 0))) w fun t48 w =>
            RunN Try.prog (.int .i64) (V (Instr.loadAt 3 (.pointer (some t48)))) w fun t49 w =>
            CallK Try.prog .bool 19 #[.pointer t17, .int .i64 0, .int .i64 t49] w fun t50 w =>
            SplitB t50
              (RunN Try.prog .addr (V (Instr.indexAt 43 (.pointer (some t11)) (.int .i64 1))) w fun t53 w =>
              RunN Try.prog (.int .i64) (V (Instr.loadAt 3 (.pointer (some t53)))) w fun t54 w =>
              CallK Try.prog .bool 19 #[.pointer t17, .int .i64 1, .int .i64 t54] w fun t55 w =>
              K t55 w)
              (K false w)))
        fun k5 =>
          SplitB (decide (s3.1 < (p3.len : Int)))
            (k5 (decide (s3.1 < 300), ()) w)
            (k5 (false, ()) w))
      (0, ()) w))
  fun k1 =>
    SplitB (!t13)
      (k1 (true, ()) w)
      (RunN Try.prog .bool (V (do eqGuard .eql 40 (.tmp 21) (.const (.pointer none)) (.pointer t17) (.pointer none); binOp .eql 40 (.pointer t17) (.pointer none))) w fun t22 w =>
      k1 (t22, ()) w)
theorem T6.calls {p0 : Int} {p1 : Int} {p2 : Int} {p3 : Sl} {w : World} {K : Bool → World → Prop} (h : T6 p0 p1 p2 p3 w K) : CallK Try.prog .bool 6 #[.int .i64 p0, .int .i64 p1, .int .i64 p2, .slice p3.a p3.len p3.cap] w K :=
  bodyZ_sound (κ := kappa) (ann := [(4, [(23, .bool)]), (9, [(12, (.int .i64))]), (11, [(36, .bool)])]) (fn := Try.f6) Try.func6 rfl (by kernel_rfl) (cast (show T6 p0 p1 p2 p3 w K = bodyZ Try.prog kappa [(4, [(23, .bool)]), (9, [(12, (.int .i64))]), (11, [(36, .bool)])] .bool Try.f6 [.int .i64 p0, .int .i64 p1, .int .i64 p2, .slice p3.a p3.len p3.cap] w K by kernel_rfl) h)

/-- sluice/sluicelaw3.begun -/
def T16 (p0 : Int) (p1 : Int) (p2 : Int) (w : World) (K : Option Addr → World → Prop) : Prop :=
  CallK Try.prog (.int .i64) 17 #[.int .i64 p0, .int .i64 1, .int .i64 16] w fun t13 w =>
  CallK Try.prog (.int .i64) 17 #[.int .i64 p2, .int .i64 1, .int .i64 20] w fun t15 w =>
  CallK Try.prog (.tup (.cons .ptr (.cons (.int .i64) .nilT))) 22 #[.int .i64 3, .int .i64 5, .int .i64 t13, .int .i64 t15] w fun t16 w =>
  CallK Try.prog (.int .i64) 17 #[.int .i64 p1, .int .i64 1, .int .i64 16] w fun t21 w =>
  CallK Try.prog (.int .i64) 17 #[.int .i64 p2, .int .i64 1, .int .i64 20] w fun t23 w =>
  CallK Try.prog (.tup (.cons .ptr (.cons (.int .i64) .nilT))) 22 #[.int .i64 5, .int .i64 3, .int .i64 t21, .int .i64 t23] w fun t24 w =>
  JoinX (α := Bool × Unit) (fun j2 w =>
    SplitB j2.1
      (K none w)
      (RunN Try.prog .addr (V (Instr.box 54 (.agg #[.pointer t16.1, .pointer t24.1, .slice none 0 0, .slice none 0 0, .int .i64 0, .int .i64 0, .slice none 0 0]))) w fun t45 w =>
      K (some t45) w))
  fun k1 =>
    SplitB (t16.2.1 != 0)
      (k1 (true, ()) w)
      (SplitB (t24.2.1 != 0)
        (k1 (true, ()) w)
        (RunN Try.prog .bool (V (do eqGuard .eql 26 (.tmp 34) (.const (.pointer none)) (.pointer t16.1) (.pointer none); binOp .eql 26 (.pointer t16.1) (.pointer none))) w fun t35 w =>
        SplitB t35
          (k1 (true, ()) w)
          (RunN Try.prog .bool (V (do eqGuard .eql 26 (.tmp 38) (.const (.pointer none)) (.pointer t24.1) (.pointer none); binOp .eql 26 (.pointer t24.1) (.pointer none))) w fun t39 w =>
          k1 (t39, ()) w)))
theorem T16.calls {p0 : Int} {p1 : Int} {p2 : Int} {w : World} {K : Option Addr → World → Prop} (h : T16 p0 p1 p2 w K) : CallK Try.prog .ptr 16 #[.int .i64 p0, .int .i64 p1, .int .i64 p2] w K :=
  bodyZ_sound (κ := kappa) (ann := [(4, [(40, .bool)])]) (fn := Try.f16) Try.func16 rfl (by kernel_rfl) (cast (show T16 p0 p1 p2 w K = bodyZ Try.prog kappa [(4, [(40, .bool)])] .ptr Try.f16 [.int .i64 p0, .int .i64 p1, .int .i64 p2] w K by kernel_rfl) h)

/-- (*sluice/sluicelaw3.line).step -/
def T18 (p0 : Option Addr) (p1 : (Int × Int × Int × Sl × Unit)) (p2 : (Int × Int × Unit)) (w : World) (K : Bool → World → Prop) : Prop :=
  RunN Try.prog .addr (V (Instr.box 47 (.agg #[.int .i64 p1.1, .int .i64 p1.2.1, .int .i64 p1.2.2.1, .slice p1.2.2.2.1.a p1.2.2.2.1.len p1.2.2.2.1.cap]))) w fun t4 w =>
  RunN Try.prog .addr (V (Instr.box 43 (.agg #[.int .i64 p2.1, .int .i64 p2.2.1]))) w fun t5 w =>
  RunN Try.prog (.int .i64) (V (Instr.loadAt 3 (.pointer (some (t4.add 1))))) w fun t14 w =>
  CallK Try.prog (.int .i64) 17 #[.int .i64 t14, .int .i64 0, .int .i64 1] w fun t15 w =>
  JoinX (α := Unit) (fun j2 w =>
    RunN Try.prog .addr (V (Instr.indexAt 43 (.pointer (some t5)) (.int .i64 t15))) w fun t152 w =>
    RunN Try.prog (.int .i64) (V (Instr.loadAt 3 (.pointer (some t152)))) w fun t153 w =>
    CallK Try.prog .bool 19 #[.pointer p0, .int .i64 t15, .int .i64 t153] w fun t154 w =>
    K t154 w)
  fun k1 =>
    RunN Try.prog (.int .i64) (V (Instr.loadAt 3 (.pointer (some (t4.add 0))))) w fun t17 w =>
    CallK Try.prog (.int .i64) 17 #[.int .i64 t17, .int .i64 0, .int .i64 3] w fun t18 w =>
    SplitB (t18 == 0)
      (NilP p0 fun t23 =>
      RunN Try.prog .addr (V (Instr.indexAt 50 (.pointer (some (t23.add 0))) (.int .i64 t15))) w fun t25 w =>
      RunN Try.prog .ptr (V (Instr.loadAt 26 (.pointer (some t25)))) w fun t26 w =>
      CallK Try.prog (.int .i64) 12 #[.pointer t26] w fun t27 w =>
      RunN Try.prog .sl (V (Instr.loadAt 45 (.pointer (some (t4.add 3))))) w fun t29 w =>
      CallK Try.prog .sl 24 #[.slice t29.a t29.len t29.cap] w fun t30 w =>
      NilP p0 fun t33 =>
      ReadN Try.prog .addr (V (Instr.indexAt 50 (.pointer (some (t33.add 0))) (.int .i64 t15))) w.drew fun t35 =>
      ReadN Try.prog .ptr (V (Instr.loadAt 26 (.pointer (some t35)))) w.drew fun t36 =>
      ReadN Try.prog .sl (V (Instr.loadAt 45 (.pointer (some (t4.add 3))))) w.drew fun t39 =>
      ReadN Try.prog .sl (V (Instr.sliceAt 45 (.slice t30.a t30.len t30.cap) none (some (.int .i64 (t39.len : Int))) none)) w.drew fun t41 =>
      CallK Try.prog (.int .i64) 23 #[.pointer t36, .slice t41.a t41.len t41.cap] w.drew fun t42 w =>
      RunN Try.prog .sl (V (Instr.loadAt 45 (.pointer (some (t4.add 3))))) w fun t44 w =>
      SplitB (decide ((t44.len : Int) > 4000))
        (K (t42 == 2) w)
        (SplitB (!((t42 == 0) == (decide (t27 > 0))))
          (K false w)
          (SplitB (t42 == 0)
            (NilP p0 fun t60 =>
            ReadN Try.prog .addr (V (Instr.indexAt 52 (.pointer (some (t60.add 2))) (.int .i64 t15))) w.drew fun t62 =>
            ReadN Try.prog .sl (V (Instr.loadAt 51 (.pointer (some t62)))) w.drew fun t63 =>
            ReadN Try.prog .sl (V (Instr.loadAt 45 (.pointer (some (t4.add 3))))) w.drew fun t65 =>
            ReadN Try.prog .sl (V (Instr.loadAt 45 (.pointer (some (t4.add 3))))) w.drew fun t68 =>
            NilP p0 fun t73 =>
            CallK Try.prog .sl 24 #[.slice t65.a t65.len t65.cap] w.drew fun t66 w =>
            StillV Try.prog (V (Instr.loadAt 45 (.pointer (some (t4.add 3))))) (.slice t68.a t68.len t68.cap) w ∧
            StillV Try.prog (V (Instr.loadAt 51 (.pointer (some t62)))) (.slice t63.a t63.len t63.cap) w ∧
            StillV Try.prog (V (Instr.indexAt 52 (.pointer (some (t60.add 2))) (.int .i64 t15))) (.pointer (some t62)) w ∧
            ReadN Try.prog .sl (V (Instr.sliceAt 45 (.slice t66.a t66.len t66.cap) none (some (.int .i64 (t68.len : Int))) none)) w fun t70 =>
            RunN Try.prog .sl (V (Instr.buildSlice 51 1 #[(0, .slice t70.a t70.len t70.cap)])) w fun t71 w =>
            StillV Try.prog (V (Instr.loadAt 51 (.pointer (some t62)))) (.slice t63.a t63.len t63.cap) w ∧
            StillV Try.prog (V (Instr.indexAt 52 (.pointer (some (t60.add 2))) (.int .i64 t15))) (.pointer (some t62)) w ∧
            RunN Try.prog .sl (V (Builtin.append_ #[51, 51] 51 #[.slice t63.a t63.len t63.cap, .slice t71.a t71.len t71.cap])) w fun t72 w =>
            ReadN Try.prog .addr (V (Instr.indexAt 52 (.pointer (some (t73.add 2))) (.int .i64 t15))) w fun t75 =>
            RunU Try.prog (U (Instr.storeAt 51 (.pointer (some t75)) (.slice t72.a t72.len t72.cap))) w fun w =>
            k1 () w)
            (k1 () w))))
      (SplitB (t18 == 1)
        (NilP p0 fun t80 =>
        RunN Try.prog .addr (V (Instr.indexAt 50 (.pointer (some (t80.add 0))) (.int .i64 t15))) w fun t82 w =>
        RunN Try.prog .ptr (V (Instr.loadAt 26 (.pointer (some t82)))) w fun t83 w =>
        CallK Try.prog (.tup .nilT) 20 #[.pointer t83] w fun t84 w =>
        k1 () w)
        (SplitB (t18 == 2)
          (NilP p0 fun t89 =>
          RunN Try.prog .addr (V (Instr.indexAt 50 (.pointer (some (t89.add 0))) (.int .i64 t15))) w fun t91 w =>
          RunN Try.prog .ptr (V (Instr.loadAt 26 (.pointer (some t91)))) w fun t92 w =>
          CallK Try.prog .sl 13 #[.pointer t92] w fun t93 w =>
          LoopX (α := Int × Unit) (fun s3 w k4 =>
            JoinX (α := Bool × Unit) (fun j6 w =>
              SplitB j6.1
                (NilP p0 fun t110 =>
                ReadN Try.prog .sl (V (Instr.loadAt 33 (.pointer (some (t110.add 6))))) w.drew fun t112 =>
                ReadN Try.prog .addr (V (Instr.indexAt 33 (.slice t93.a t93.len t93.cap) (.int .i64 s3.1))) w.drew fun t115 =>
                ReadN Try.prog (.agg (.cons (.int .i64) (.cons (.int .i64) (.cons (.int .i64) (.cons (.int .i64) (.cons .sl .nilT)))))) (V (Instr.loadAt 62 (.pointer (some t115)))) w.drew fun t116 =>
                RunN Try.prog .sl (V (Instr.buildSlice 33 1 #[(0, .agg #[.int .i64 t116.1, .int .i64 t116.2.1, .int .i64 t116.2.2.1, .int .i64 t116.2.2.2.1, .slice t116.2.2.2.2.1.a t116.2.2.2.2.1.len t116.2.2.2.2.1.cap])])) w.drew fun t117 w =>
                StillV Try.prog (V (Instr.loadAt 33 (.pointer (some (t110.add 6))))) (.slice t112.a t112.len t112.cap) w ∧
                RunN Try.prog .sl (V (Builtin.append_ #[33, 33] 33 #[.slice t112.a t112.len t112.cap, .slice t117.a t117.len t117.cap])) w fun t118 w =>
                NilP p0 fun t119 =>
                RunU Try.prog (U (Instr.storeAt 33 (.pointer (some (t119.add 6))) (.slice t118.a t118.len t118.cap))) w fun w =>
                k4 (IntKind.i64.wrap (s3.1 + 1), ()) w)
                (k1 () w))
            fun k5 =>
              SplitB (decide (s3.1 < (t93.len : Int)))
                (NilP p0 fun t100 =>
                RunN Try.prog .sl (V (Instr.loadAt 33 (.pointer (some (t100.add 6))))) w fun t102 w =>
                k5 (decide ((t102.len : Int) < 400), ()) w)
                (k5 (false, ()) w))
          (0, ()) w)
          (SplitB (t18 == 3)
            (JoinX (α := Bool × Unit) (fun j8 w =>
              SplitB j8.1
                (K false w)
                (k1 () w))
            fun k7 =>
              NilP p0 fun t124 =>
              ReadN Try.prog .sl (V (Instr.loadAt 33 (.pointer (some (t124.add 6))))) w.drew fun t126 =>
              SplitB (decide ((t126.len : Int) > 0))
                (NilP p0 fun t132 =>
                ReadN Try.prog .sl (V (Instr.loadAt 33 (.pointer (some (t132.add 6))))) w.drew fun t134 =>
                ReadN Try.prog (.int .i64) (V (Instr.loadAt 3 (.pointer (some (t4.add 2))))) w.drew fun t136 =>
                NilP p0 fun t138 =>
                ReadN Try.prog .sl (V (Instr.loadAt 33 (.pointer (some (t138.add 6))))) w.drew fun t140 =>
                CallK Try.prog (.int .i64) 17 #[.int .i64 t136, .int .i64 0, .int .i64 (IntKind.i64.wrap ((t140.len : Int) - 1))] w.drew fun t143 w =>
                StillV Try.prog (V (Instr.loadAt 33 (.pointer (some (t132.add 6))))) (.slice t134.a t134.len t134.cap) w ∧
                ReadN Try.prog .addr (V (Instr.indexAt 33 (.slice t134.a t134.len t134.cap) (.int .i64 t143))) w fun t144 =>
                ReadN Try.prog (.agg (.cons (.int .i64) (.cons (.int .i64) (.cons (.int .i64) (.cons (.int .i64) (.cons .sl .nilT)))))) (V (Instr.loadAt 62 (.pointer (some t144)))) w fun t145 =>
                CallK Try.prog .bool 31 #[.pointer p0, .agg #[.int .i64 t145.1, .int .i64 t145.2.1, .int .i64 t145.2.2.1, .int .i64 t145.2.2.2.1, .slice t145.2.2.2.2.1.a t145.2.2.2.2.1.len t145.2.2.2.2.1.cap]] w fun t146 w =>
                k7 (!t146, ()) w)
                (k7 (false, ()) w.drew))
            (k1 () w))))
theorem T18.calls {p0 : Option Addr} {p1 : (Int × Int × Int × Sl × Unit)} {p2 : (Int × Int × Unit)} {w : World} {K : Bool → World → Prop} (h : T18 p0 p1 p2 w K) : CallK Try.prog .bool 18 #[.pointer p0, .agg #[.int .i64 p1.1, .int .i64 p1.2.1, .int .i64 p1.2.2.1, .slice p1.2.2.2.1.a p1.2.2.2.1.len p1.2.2.2.1.cap], .agg #[.int .i64 p2.1, .int .i64 p2.2.1]] w K :=
  bodyZ_sound (κ := kappa) (ann := [(2, []), (19, [(12, (.int .i64))]), (21, [(105, .bool)]), (24, [(148, .bool)])]) (fn := Try.f18) Try.func18 rfl (by kernel_rfl) (cast (show T18 p0 p1 p2 w K = bodyZ Try.prog kappa [(2, []), (19, [(12, (.int .i64))]), (21, [(105, .bool)]), (24, [(148, .bool)])] .bool Try.f18 [.pointer p0, .agg #[.int .i64 p1.1, .int .i64 p1.2.1, .int .i64 p1.2.2.1, .slice p1.2.2.2.1.a p1.2.2.2.1.len p1.2.2.2.1.cap], .agg #[.int .i64 p2.1, .int .i64 p2.2.1]] w K by kernel_rfl) h)

/-- (*sluice/sluicelaw3.line).sound -/
def T19 (p0 : Option Addr) (p1 : Int) (p2 : Int) (w : World) (K : Bool → World → Prop) : Prop :=
  NilP p0 fun t12 =>
  RunN Try.prog .addr (V (Instr.indexAt 50 (.pointer (some (t12.add 0))) (.int .i64 p1))) w fun t14 w =>
  RunN Try.prog .ptr (V (Instr.loadAt 26 (.pointer (some t14)))) w fun t15 w =>
  CallK Try.prog (.int .i64) 12 #[.pointer t15] w fun t16 w =>
  NilP p0 fun t20 =>
  RunN Try.prog .addr (V (Instr.indexAt 50 (.pointer (some (t20.add 0))) (.int .i64 p1))) w fun t22 w =>
  RunN Try.prog .ptr (V (Instr.loadAt 26 (.pointer (some t22)))) w fun t23 w =>
  CallK Try.prog .sl 14 #[.pointer t23] w fun t24 w =>
  SplitB (decide ((IntKind.i64.wrap (p2 - t16)) ≥ (t24.len : Int)))
    (SplitB (decide ((IntKind.i64.wrap (p2 - t16)) ≤ p2))
      (NilP p0 fun t37 =>
      ReadN Try.prog .addr (V (Instr.indexAt 52 (.pointer (some (t37.add 2))) (.int .i64 p1))) w.drew fun t39 =>
      ReadN Try.prog .sl (V (Instr.loadAt 51 (.pointer (some t39)))) w.drew fun t40 =>
      NilP p0 fun t46 =>
      ReadN Try.prog .addr (V (Instr.indexAt 43 (.pointer (some (t46.add 4))) (.int .i64 p1))) w.drew fun t48 =>
      ReadN Try.prog (.int .i64) (V (Instr.loadAt 3 (.pointer (some t48)))) w.drew fun t49 =>
      SplitB (decide ((IntKind.i64.wrap ((t40.len : Int) - (IntKind.i64.wrap (p2 - t16)))) ≤ t49))
        (SplitB ((IntKind.i64.wrap (p2 - t16)) == 0)
          (K true w.drew)
          (NilP p0 fun t58 =>
          ReadN Try.prog .addr (V (Instr.indexAt 52 (.pointer (some (t58.add 2))) (.int .i64 p1))) w.drew fun t60 =>
          ReadN Try.prog .sl (V (Instr.loadAt 51 (.pointer (some t60)))) w.drew fun t61 =>
          K (decide ((t61.len : Int) > 0)) w.drew))
        (K false w.drew))
      (K false w.drew))
    (K false w.drew)
theorem T19.calls {p0 : Option Addr} {p1 : Int} {p2 : Int} {w : World} {K : Bool → World → Prop} (h : T19 p0 p1 p2 w K) : CallK Try.prog .bool 19 #[.pointer p0, .int .i64 p1, .int .i64 p2] w K :=
  bodyZ_sound (κ := kappa) (ann := []) (fn := Try.f19) Try.func19 rfl (by kernel_rfl) (cast (show T19 p0 p1 p2 w K = bodyZ Try.prog kappa [] .bool Try.f19 [.pointer p0, .int .i64 p1, .int .i64 p2] w K by kernel_rfl) h)

/-- (*sluice/sluicelaw3.line).comes -/
def T31 (p0 : Option Addr) (p1 : (Int × Int × Int × Int × Sl × Unit)) (w : World) (K : Bool → World → Prop) : Prop :=
  RunN Try.prog .addr (V (Instr.box 62 (.agg #[.int .i64 p1.1, .int .i64 p1.2.1, .int .i64 p1.2.2.1, .int .i64 p1.2.2.2.1, .slice p1.2.2.2.2.1.a p1.2.2.2.2.1.len p1.2.2.2.2.1.cap]))) w fun t3 w =>
  JoinX (α := Int × Unit) (fun j2 w =>
    RunN Try.prog .sl (V (Instr.loadAt 45 (.pointer (some (t3.add 4))))) w fun t15 w =>
    CallK Try.prog .sl 24 #[.slice t15.a t15.len t15.cap] w fun t16 w =>
    RunN Try.prog .sl (V (Instr.loadAt 45 (.pointer (some (t3.add 4))))) w fun t19 w =>
    RunN Try.prog .sl (V (Instr.sliceAt 45 (.slice t16.a t16.len t16.cap) none (some (.int .i64 (t19.len : Int))) none)) w fun t21 w =>
    RunU Try.prog (U (Instr.storeAt 45 (.pointer (some (t3.add 4))) (.slice t21.a t21.len t21.cap))) w fun w =>
    NilP p0 fun t26 =>
    ReadN Try.prog .addr (V (Instr.indexAt 50 (.pointer (some (t26.add 0))) (.int .i64 j2.1))) w.drew fun t28 =>
    ReadN Try.prog .ptr (V (Instr.loadAt 26 (.pointer (some t28)))) w.drew fun t29 =>
    ReadN Try.prog (.agg (.cons (.int .i64) (.cons (.int .i64) (.cons (.int .i64) (.cons (.int .i64) (.cons .sl .nilT)))))) (V (Instr.loadAt 62 (.pointer (some t3)))) w.drew fun t30 =>
    CallK Try.prog (.tup (.cons .sl (.cons (.int .i64) .nilT))) 26 #[.pointer t29, .agg #[.int .i64 t30.1, .int .i64 t30.2.1, .int .i64 t30.2.2.1, .int .i64 t30.2.2.2.1, .slice t30.2.2.2.2.1.a t30.2.2.2.2.1.len t30.2.2.2.2.1.cap]] w.drew fun t31 w =>
    SplitB (t31.2.1 != 0)
      (K false w)
      (LoopX (α := Int × Unit) (fun s3 w k4 =>
        SplitB (decide (s3.1 < (t31.1.len : Int)))
          (NilP p0 fun t45 =>
          RunN Try.prog .addr (V (Instr.indexAt 43 (.pointer (some (t45.add 4))) (.int .i64 (IntKind.i64.wrap (1 - j2.1))))) w fun t47 w =>
          RunN Try.prog (.int .i64) (V (Instr.loadAt 3 (.pointer (some t47)))) w fun t48 w =>
          JoinX (α := Bool × Unit) (fun j6 w =>
            SplitB j6.1
              (K false w)
              (NilP p0 fun t80 =>
              ReadN Try.prog .addr (V (Instr.indexAt 43 (.pointer (some (t80.add 4))) (.int .i64 (IntKind.i64.wrap (1 - j2.1))))) w.drew fun t82 =>
              ReadN Try.prog (.int .i64) (V (Instr.loadAt 3 (.pointer (some t82)))) w.drew fun t83 =>
              NilP p0 fun t85 =>
              ReadN Try.prog .addr (V (Instr.indexAt 43 (.pointer (some (t85.add 4))) (.int .i64 (IntKind.i64.wrap (1 - j2.1))))) w.drew fun t87 =>
              RunU Try.prog (U (Instr.storeAt 3 (.pointer (some t87)) (.int .i64 (IntKind.i64.wrap (t83 + 1))))) w.drew fun w =>
              k4 (IntKind.i64.wrap (s3.1 + 1), ()) w))
          fun k5 =>
            NilP p0 fun t53 =>
            ReadN Try.prog .addr (V (Instr.indexAt 52 (.pointer (some (t53.add 2))) (.int .i64 (IntKind.i64.wrap (1 - j2.1))))) w.drew fun t55 =>
            ReadN Try.prog .sl (V (Instr.loadAt 51 (.pointer (some t55)))) w.drew fun t56 =>
            SplitB (decide (t48 ≥ (t56.len : Int)))
              (k5 (true, ()) w.drew)
              (ReadN Try.prog .addr (V (Instr.indexAt 51 (.slice t31.1.a t31.1.len t31.1.cap) (.int .i64 s3.1))) w.drew fun t62 =>
              ReadN Try.prog .sl (V (Instr.loadAt 45 (.pointer (some t62)))) w.drew fun t63 =>
              NilP p0 fun t67 =>
              ReadN Try.prog .addr (V (Instr.indexAt 52 (.pointer (some (t67.add 2))) (.int .i64 (IntKind.i64.wrap (1 - j2.1))))) w.drew fun t69 =>
              ReadN Try.prog .sl (V (Instr.loadAt 51 (.pointer (some t69)))) w.drew fun t70 =>
              ReadN Try.prog .addr (V (Instr.indexAt 51 (.slice t70.a t70.len t70.cap) (.int .i64 t48))) w.drew fun t72 =>
              ReadN Try.prog .sl (V (Instr.loadAt 45 (.pointer (some t72)))) w.drew fun t73 =>
              CallK Try.prog .bool 25 #[.slice t63.a t63.len t63.cap, .slice t73.a t73.len t73.cap] w.drew fun t74 w =>
              k5 (!t74, ()) w))
          (NilP p0 fun t90 =>
          ReadN Try.prog .addr (V (Instr.indexAt 50 (.pointer (some (t90.add 0))) (.int .i64 j2.1))) w.drew fun t92 =>
          ReadN Try.prog .ptr (V (Instr.loadAt 26 (.pointer (some t92)))) w.drew fun t93 =>
          NilP p0 fun t98 =>
          ReadN Try.prog .addr (V (Instr.indexAt 43 (.pointer (some (t98.add 4))) (.int .i64 (IntKind.i64.wrap (1 - j2.1))))) w.drew fun t100 =>
          ReadN Try.prog (.int .i64) (V (Instr.loadAt 3 (.pointer (some t100)))) w.drew fun t101 =>
          CallK Try.prog (.int .i64) 11 #[.pointer t93] w.drew fun t94 w =>
          StillV Try.prog (V (Instr.loadAt 3 (.pointer (some t100)))) (.int .i64 t101) w ∧
          StillV Try.prog (V (Instr.indexAt 43 (.pointer (some (t98.add 4))) (.int .i64 (IntKind.i64.wrap (1 - j2.1))))) (.pointer (some t100)) w ∧
          K (t94 == (IntKind.i64.wrap (t101 + 1))) w))
      (0, ()) w))
  fun k1 =>
    RunN Try.prog (.int .i64) (V (Instr.loadAt 3 (.pointer (some (t3.add 1))))) w fun t12 w =>
    SplitB (t12 == 5)
      (k1 (1, ()) w)
      (k1 (0, ()) w)
theorem T31.calls {p0 : Option Addr} {p1 : (Int × Int × Int × Int × Sl × Unit)} {w : World} {K : Bool → World → Prop} (h : T31 p0 p1 w K) : CallK Try.prog .bool 31 #[.pointer p0, .agg #[.int .i64 p1.1, .int .i64 p1.2.1, .int .i64 p1.2.2.1, .int .i64 p1.2.2.2.1, .slice p1.2.2.2.2.1.a p1.2.2.2.2.1.len p1.2.2.2.2.1.cap]] w K :=
  bodyZ_sound (κ := kappa) (ann := [(2, [(5, (.int .i64))]), (12, [(9, (.int .i64))]), (18, [(76, .bool)])]) (fn := Try.f31) Try.func31 rfl (by kernel_rfl) (cast (show T31 p0 p1 w K = bodyZ Try.prog kappa [(2, [(5, (.int .i64))]), (12, [(9, (.int .i64))]), (18, [(76, .bool)])] .bool Try.f31 [.pointer p0, .agg #[.int .i64 p1.1, .int .i64 p1.2.1, .int .i64 p1.2.2.1, .int .i64 p1.2.2.2.1, .slice p1.2.2.2.2.1.a p1.2.2.2.2.1.len p1.2.2.2.2.1.cap]] w K by kernel_rfl) h)
end Go.Proofs.Ytodgnpmljdopiaa

/- The line in memory: types. -/
namespace Go.Proofs.Ytodgnpmljdopiaa
open Go Go.Fw Go.RowKit
set_option linter.unusedVariables false
set_option linter.unusedSimpArgs false
set_option maxRecDepth 4000
instance : Sc Try.prog 39 := ⟨by kernel_rfl⟩
instance : Sc Try.prog 40 := ⟨by kernel_rfl⟩
instance : Ag Try.prog 43 2 := ⟨by kernel_rfl⟩
instance : Ag Try.prog 47 4 := ⟨by kernel_rfl⟩
instance : Et Try.prog 39 47 4 48 := ⟨ET.of (by kernel_rfl), by decide⟩
instance : NewC Try.prog 43 [.int .i64 0, .int .i64 0] := ⟨fun _ => by kernel_rfl⟩
instance : Ar Try.prog 43 2 := Ar.of (e := 3) (by kernel_rfl) (by kernel_rfl)
instance : Ar Try.prog 50 2 := Ar.of (e := 26) (by kernel_rfl) (by kernel_rfl)
instance : Ar Try.prog 52 2 := Ar.of (e := 51) (by kernel_rfl) (by kernel_rfl)
instance : PtE Try.prog 40 := ⟨fun _ _ _ _ => by kernel_rfl, fun _ _ _ => by kernel_rfl, fun _ _ _ _ => by kernel_rfl, fun _ _ _ => by kernel_rfl⟩
end Go.Proofs.Ytodgnpmljdopiaa

/- The line in memory: a segment comes. -/
namespace Go.Proofs.Ytodgnpmljdopiaa
open Go Go.Fw Go.RowKit
set_option linter.unusedVariables false
set_option linter.unusedSimpArgs false
set_option maxRecDepth 4000
set_option maxHeartbeats 4000000
variable {w0 w : World} {F G : Grps}

/-- The line, looked at from the end j: this end and the other. -/
structure Ln where
  e : Lm
  f : Lm
  ie : Sl × List Bs
  jf : Sl × List Bs
  oe : Nat
  of : Nat
  ps : Sl
  pool : List Sg
  cb : Nat
  g8 : List Ent
  gh : List Sg
def sv (s : Sl) : Value := .slice s.a s.len s.cap
def lnC (j : Nat) (x : Ln) : List Value :=
  if j = 0 then [.pointer x.e.p, .pointer x.f.p, sv x.ie.1, sv x.jf.1, .int .i64 (x.oe : Int), .int .i64 (x.of : Int), sv x.ps]
  else [.pointer x.f.p, .pointer x.e.p, sv x.jf.1, sv x.ie.1, .int .i64 (x.of : Int), .int .i64 (x.oe : Int), sv x.ps]
def lnG (j : Nat) (x : Ln) (F : Grps) : Grps :=
  [.cel x.cb 54 (lnC j x)] :: lmE x.e :: dat x.e.toLk :: ups x.e.ea :: lmE x.f :: dat x.f.toLk :: ups x.f.ea :: [.row 45 1 x.ie.1 (lsl x.ie.2)] :: [.row 45 1 x.jf.1 (lsl x.jf.2)] :: [.row 62 5 x.ps (x.pool.flatMap sgv)] :: x.g8 :: F
def Sees8 (g8 : List Ent) (b : Bs) : Prop := ∀ (w0 w : World) (F : Grps), St w0 w (g8 :: F) → Rd w b.1 1 (bys b.2)
theorem Sees8.more {g8 m : List Ent} {b : Bs} (h : Sees8 g8 b) : Sees8 (g8 ++ m) b := fun w0 w F hs => h w0 w (m :: F) (St.two.1 hs)
def mej (j : Nat) : Int := if j = 0 then 3 else 5
structure LnI (j n : Nat) (x : Ln) : Prop where
  we : x.e.wf
  wf : x.f.wf
  ef : Dir x.e.toLk x.f.toLk (x.ie.2.map (·.2)) x.oe (x.pool ++ x.gh)
  fe : Dir x.f.toLk x.e.toLk (x.jf.2.map (·.2)) x.of (x.pool ++ x.gh)
  me : x.e.me = mej j
  mf : x.f.me = mej (1 - j)
  pe : x.e.peer = x.f.me
  pf : x.f.peer = x.e.me
  see : ∀ b ∈ x.ie.2, Sees8 x.g8 b
  sef : ∀ b ∈ x.jf.2, Sees8 x.g8 b
  sep : ∀ g ∈ x.pool ++ x.gh, Sees8 x.g8 g.d
  tos : ∀ g ∈ x.pool ++ x.gh, g.to = x.e.me ∨ g.to = x.f.me
  pl : x.pool.length ≤ 400
  ne : x.ie.2.length ≤ n
  nf : x.jf.2.length ≤ n
section cells
variable {j : Nat} {x : Ln}
theorem c_e (h : j < 2) : nthO (lnC j x) (0 + j) = some (.pointer x.e.p) := by
  rcases (by omega : j = 0 ∨ j = 1) with rfl | rfl <;> rfl
theorem c_ie (h : j < 2) : nthO (lnC j x) (2 + j) = some (sv x.ie.1) := by
  rcases (by omega : j = 0 ∨ j = 1) with rfl | rfl <;> rfl
theorem c_if (h : j < 2) : nthO (lnC j x) (2 + (1 - j)) = some (sv x.jf.1) := by
  rcases (by omega : j = 0 ∨ j = 1) with rfl | rfl <;> rfl
theorem c_oe (h : j < 2) : nthO (lnC j x) (4 + j) = some (.int .i64 (x.oe : Int)) := by
  rcases (by omega : j = 0 ∨ j = 1) with rfl | rfl <;> rfl
theorem c_of (h : j < 2) : nthO (lnC j x) (4 + (1 - j)) = some (.int .i64 (x.of : Int)) := by
  rcases (by omega : j = 0 ∨ j = 1) with rfl | rfl <;> rfl
theorem c_ps : nthO (lnC j x) 6 = some (sv x.ps) := by
  unfold lnC; split <;> rfl
theorem c_len : (lnC j x).length = 7 := by
  unfold lnC; split <;> rfl
theorem s_of (h : j < 2) (n : Nat) : setO (lnC j x) (4 + (1 - j)) (.int .i64 (n : Int)) = lnC j { x with of := n } := by
  rcases (by omega : j = 0 ∨ j = 1) with rfl | rfl <;> rfl
theorem s_ie (h : j < 2) (s : Sl) : setO (lnC j x) (2 + j) (sv s) = lnC j { x with ie := (s, x.ie.2) } := by
  rcases (by omega : j = 0 ∨ j = 1) with rfl | rfl <;> rfl
theorem s_ps (s : Sl) : setO (lnC j x) 6 (sv s) = lnC j { x with ps := s } := by
  unfold lnC; split <;> rfl
end cells
theorem lsl_rd {W : World} {s : Sl} {L : List Bs} (h : Rd W s 1 (lsl L)) : s.len = L.length := by have := h.1; rw [lsl_len] at this; omega
theorem comes_st {j n : Nat} {x : Ln} (hj : j < 2) (h : St w0 w (lnG j x F)) (hI : LnI j n x) (hn : n ≤ 1048576) {g : Sg} (hg : g ∈ x.pool ++ x.gh) (hto : g.to = x.e.me) :
    CallK Try.prog .bool 31 #[.pointer (some ⟨x.cb, 0, none⟩), .agg #[.int .i64 g.fr, .int .i64 g.to, .int .i64 g.seq, .int .i64 g.ack, .slice g.d.1.a g.d.1.len g.d.1.cap]] w
      fun (r : Bool) w' => r = true ∧ ∃ us mc u l, TakeR x.e.toLk g u l ∧ LnI j n { x with e := x.e.took g us mc u.length l, of := x.of + u.length } ∧ St w0 w' (lnG j { x with e := x.e.took g us mc u.length l, of := x.of + u.length } F) := by
  have hfit := hI.fe.fits hI.ef hI.wf hI.we hg hto
  have hfs := fits_seq hfit
  refine T31.calls (p1 := sgt g) ?_
  unfold T31
  refine h.newB run_boxA rfl ?_
  intro b3 w1 h
  have h : St w0 w1 ([.cel b3 62 (sgv g)] :: lnG j x F) := h
  refine JoinX.mk (fun (y : Int × Unit) w' => y.1 = (j : Int) ∧ St w0 w' ([.cel b3 62 (sgv g)] :: lnG j x F)) ?_ ?_
  rotate_left
  · intro k hk
    refine h.loadB 0 0 ⟨_, rfl, rfl⟩ rfl (kd := .int .i64) (x := g.to) rfl ?_
    rw [hto, hI.me, SplitB_iff]
    refine ⟨fun hc => ?_, fun hc => ?_⟩
    · have hc : mej j = 5 := by simpa using hc
      refine hk _ _ ⟨?_, h⟩
      unfold mej at hc
      split at hc
      · cases hc
      · show (1 : Int) = j; omega
    · have hc : ¬ mej j = 5 := by simpa using hc
      refine hk _ _ ⟨?_, h⟩
      unfold mej at hc
      split at hc
      · show (0 : Int) = j; omega
      · exact absurd rfl hc
  clear h
  rintro ⟨y, ⟨⟩⟩ w2 ⟨hy, h⟩
  dsimp only at hy
  subst hy
  dsimp only
  refine h.loadB 0 0 ⟨_, rfl, rfl⟩ rfl (kd := .sl) (x := g.d.1) rfl ?_
  have hs8 := hI.sep g hg
  have hsee : SeesG w0 ([.cel b3 62 (sgv g)] :: lnG j x F) g.d.1 1 (bys g.d.2) := fun w h => by
    have h2 := h.ord 12 [11]
    dsimp only [lnG, pick, nthO, dropO] at h2
    exact hs8 _ _ _ h2
  have hgl : g.d.1.len = g.d.2.length := (hsee _ h).bys_len
  refine (lend_st h hsee (by omega)).mono ?_
  intro t w3 ⟨htl, h⟩
  refine h.loadB 1 0 ⟨_, rfl, rfl⟩ rfl (kd := .sl) (x := g.d.1) rfl ?_
  refine RunN.sH g.d.2.length (by rw [hgl]) (by have := (h.rd (k := 0) (i := 0) (E := 5) (sz := 1) (s := t) (vs := bys (g.d.2 ++ mks)) ⟨_, rfl, rfl⟩).2.2; omega) ?_
  refine h.storB 1 0 ⟨_, rfl, rfl⟩ rfl rfl rfl ?_
  intro w4 h
  let g' : Sg := { g with d := (subS t 0 g.d.2.length 1, g.d.2) }
  have h : St w0 w4 ([brow (t, g.d.2 ++ mks)] :: [.cel b3 62 (sgv g')] :: lnG j x F) := h
  refine NilP.mk ?_
  refine ReadN.arr (ha := add_lit' _ _ _) j rfl hj ?_
  refine h.drew.readB 2 0 (j := 0 + 0 + j) ⟨_, rfl, rfl⟩ rfl (kd := .ptr) (x := x.e.p) (c_e hj) ?_
  refine ReadN.of (kd := Kds) (x := sgt g') (h.drew.run_loadA (k := 1) (i := 0) (b := b3) (t := 62) (cs := sgv g') ⟨_, rfl, rfl⟩ (t' := 62) (n := 5) (j := 0) rfl (vs := sgv g') rfl rfl) ?_
  have h := h.drew.ord 13 [3, 4, 5, 0, 2, 1, 6, 7, 8, 9, 10, 11, 12]
  dsimp only [lnG, pick, nthO, dropO] at h
  refine (take_st (e := x.e) h hI.we (g := g') (lent_sees htl) (by show g.d.2.length ≤ _; omega)).mono ?_
  rintro ⟨up, er, ⟨⟩⟩ w5 (⟨hf, _⟩ | ⟨_, he0, us, mc, u, l, ht, hul, h⟩)
  · have : x.e.fits g = false := hf
    rw [hfit] at this; cases this
  dsimp only at he0 hul h
  have ht : TakeR x.e.toLk g u l := ⟨ht.yes, ht.no⟩
  have hup := hI.fe.up hI.wf hg hto ht
  dsimp only
  rw [he0, SplitB_iff]
  refine ⟨fun hf => (by cases hf), fun _ => ?_⟩
  have hw1j : IntKind.i64.wrap (1 - (j : Int)) = ((1 - j : Nat) : Int) := by
    rcases (by omega : j = 0 ∨ j = 1) with rfl | rfl <;> rfl
  rw [hw1j]
  have h1j : 1 - j < 2 := by omega
  let x1 : Ln := { x with e := x.e.took g us mc u.length l }
  have hIN : (x.jf.2.map (·.2)).length = x.jf.2.length := List.length_map ..
  have hnf := hI.nf
  have hul4 : u.length ≤ 1048576 := by
    rcases Nat.eq_zero_or_pos u.length with h0 | h0
    · omega
    · have := (List.getElem?_eq_some_iff.1 (hup.1 (u.length - 1) (by omega))).1
      omega
  have hof : x.of ≤ 1048576 ∧ x.of + u.length ≤ x.jf.2.length := by
    have h1 := hup.2.1
    have h2 := hI.fe.last
    have h3 := hI.wf.gone
    omega
  have h : St w0 w5 (lmE x1.e :: dat x1.e.toLk :: ups l :: upE up u :: ups u :: [brow (t, g.d.2 ++ mks)] :: [.cel x.cb 54 (lnC j { x1 with of := x.of + 0 })] :: [.cel b3 62 (sgv g')] :: lmE x.f :: dat x.f.toLk :: ups x.f.ea :: [.row 45 1 x.ie.1 (lsl x.ie.2)] :: [.row 45 1 x.jf.1 (lsl x.jf.2)] :: [.row 62 5 x.ps (x.pool.flatMap sgv)] :: x.g8 :: F) := h
  refine LoopX.mk (fun st w' => ∃ m : Nat, st = ((m : Int), ()) ∧ m ≤ u.length ∧ St w0 w' (lmE x1.e :: dat x1.e.toLk :: ups l :: upE up u :: ups u :: [brow (t, g.d.2 ++ mks)] :: [.cel x.cb 54 (lnC j { x1 with of := x.of + m })] :: [.cel b3 62 (sgv g')] :: lmE x.f :: dat x.f.toLk :: ups x.f.ea :: [.row 45 1 x.ie.1 (lsl x.ie.2)] :: [.row 45 1 x.jf.1 (lsl x.jf.2)] :: [.row 62 5 x.ps (x.pool.flatMap sgv)] :: x.g8 :: F)) (fun st => u.length - st.1.toNat) ⟨0, rfl, Nat.zero_le _, h⟩ ?_
  clear h
  rintro _ w6 ⟨m, rfl, hm, h⟩ k hk
  dsimp only at hk ⊢
  have huli : (up.len : Int) = (u.length : Int) := by omega
  rw [huli, SplitB_iff]
  refine ⟨fun hc => ?_, fun hc => ?_⟩
  · have hc : m < u.length := by have : (m : Int) < (u.length : Int) := of_decide_eq_true hc
                                 omega
    have hem : IntKind.i64.wrap ((m : Int) + 1) = ((m + 1 : Nat) : Int) := by rw [wr (by omega)]; omega
    rw [hem]
    have hini := hup.1 m hc
    obtain ⟨hil, hix⟩ := List.getElem?_eq_some_iff.1 hini
    rw [List.getElem_map] at hix
    rw [hIN] at hil
    refine NilP.mk ?_
    refine RunN.arr (ha := add_lit' _ _ _) (1 - j) rfl h1j ?_
    refine h.loadB 6 0 (j := 0 + 4 + (1 - j)) ⟨_, rfl, rfl⟩ rfl (kd := .int .i64) (x := ((x.of + m : Nat) : Int)) (by rw [Nat.zero_add]; exact c_of hj) ?_
    refine JoinX.mk (fun (y : Bool × Unit) w' => y.1 = false ∧ St w0 w' (lmE x1.e :: dat x1.e.toLk :: ups l :: upE up u :: ups u :: [brow (t, g.d.2 ++ mks)] :: [.cel x.cb 54 (lnC j { x1 with of := x.of + m })] :: [.cel b3 62 (sgv g')] :: lmE x.f :: dat x.f.toLk :: ups x.f.ea :: [.row 45 1 x.ie.1 (lsl x.ie.2)] :: [.row 45 1 x.jf.1 (lsl x.jf.2)] :: [.row 62 5 x.ps (x.pool.flatMap sgv)] :: x.g8 :: F)) ?_ ?_
    · rintro ⟨y, ⟨⟩⟩ w7 ⟨hy, h⟩
      dsimp only at hy
      subst hy
      rw [SplitB_iff]
      refine ⟨fun hf => (by cases hf), fun _ => ?_⟩
      refine NilP.mk ?_
      refine ReadN.arr (ha := add_lit' _ _ _) (1 - j) rfl h1j ?_
      refine h.drew.readB 6 0 (j := 0 + 4 + (1 - j)) ⟨_, rfl, rfl⟩ rfl (kd := .int .i64) (x := ((x.of + m : Nat) : Int)) (by rw [Nat.zero_add]; exact c_of hj) ?_
      refine NilP.mk ?_
      refine ReadN.arr (ha := add_lit' _ _ _) (1 - j) rfl h1j ?_
      have hem2 : IntKind.i64.wrap (((x.of + m : Nat) : Int) + 1) = ((x.of + (m + 1) : Nat) : Int) := by rw [wr (by omega)]; omega
      rw [hem2]
      refine h.drew.storB 6 0 (j := 0 + 4 + (1 - j)) ⟨_, rfl, rfl⟩ rfl (by rw [c_len]; rcases (by omega : j = 0 ∨ j = 1) with rfl | rfl <;> rfl) rfl ?_
      intro w8 h
      dsimp only [updG, setO] at h
      have e0 : setO (lnC j { x1 with of := x.of + m }) (0 + 4 + (1 - j)) (.int .i64 ((x.of + (m + 1) : Nat) : Int)) = lnC j { x1 with of := x.of + (m + 1) } := by rw [Nat.zero_add]; exact s_of hj _
      rw [e0] at h
      exact hk _ _ ⟨m + 1, rfl, by omega, h⟩ (by dsimp only; omega)
    · intro k5 hk5
      refine NilP.mk ?_
      refine ReadN.arr (ha := add_lit' _ _ _) (1 - j) rfl h1j ?_
      refine h.drew.readB 6 0 (j := 0 + 2 + (1 - j)) ⟨_, rfl, rfl⟩ rfl (kd := .sl) (x := x.jf.1) (by rw [Nat.zero_add]; exact c_if hj) ?_
      have hjr := h.drew.rd (k := 12) (i := 0) (E := 45) (sz := 1) (s := x.jf.1) (vs := lsl x.jf.2) ⟨_, rfl, rfl⟩
      have hjl := lsl_rd hjr
      rw [SplitB_iff]
      refine ⟨fun hf => ?_, fun _ => ?_⟩
      · have : ((x.of + m : Nat) : Int) ≥ (x.jf.1.len : Int) := of_decide_eq_true hf
        omega
      have hur := h.drew.rd (k := 3) (i := 0) (E := 45) (sz := 1) (s := up) (vs := u.flatMap upv) ⟨_, rfl, rfl⟩
      refine hur.idxR m rfl (by omega) ?_
      intro b1 o1 ha1
      refine hur.elR ha1 (m * 1) rfl (kd := .sl) (x := u[m].1.2.1) (flat_cell upv_len (l := u) hc 0 (by decide)) ?_
      refine NilP.mk ?_
      refine ReadN.arr (ha := add_lit' _ _ _) (1 - j) rfl h1j ?_
      refine h.drew.readB 6 0 (j := 0 + 2 + (1 - j)) ⟨_, rfl, rfl⟩ rfl (kd := .sl) (x := x.jf.1) (by rw [Nat.zero_add]; exact c_if hj) ?_
      refine hjr.idxR (x.of + m) rfl (by omega) ?_
      intro b2 o2 ha2
      refine hjr.elR ha2 ((x.of + m) * 1) rfl (kd := .sl) (x := x.jf.2[x.of + m].1) (by rw [Nat.mul_one]; exact lsl_at hil) ?_
      have hp1 : Rd w6.drew u[m].1.2.1 1 (bys u[m].1.2.2) :=
        ((h.drew.memG (k := 4) rfl (List.mem_map.2 ⟨u[m], List.getElem_mem hc, rfl⟩) : (brow u[m].1.2).ok w6.drew w0.heap.size)).1.rd
      have hp2 : Rd w6.drew x.jf.2[x.of + m].1 1 (bys x.jf.2[x.of + m].2) := by
        have h2 := h.drew.ord 15 [14]
        dsimp only [pick, nthO, dropO] at h2
        exact hI.sef _ (List.getElem_mem hil) _ _ _ h2
      refine (same_ok hp1 hp2).mono ?_
      rintro r3 w7 ⟨rfl, hr3⟩
      have hr3 : (r3 : Bool) = true := by rw [hr3]; exact decide_eq_true hix.symm
      rw [hr3]
      exact hk5 _ _ ⟨rfl, h.drew⟩
  · have hc : m = u.length := by have : ¬ (m : Int) < (u.length : Int) := of_decide_eq_false hc
                                 omega
    subst hc
    refine NilP.mk ?_
    refine ReadN.arr (ha := add_lit' _ _ _) j rfl hj ?_
    refine h.drew.readB 6 0 (j := 0 + 0 + j) ⟨_, rfl, rfl⟩ rfl (kd := .ptr) (x := x.e.p) (c_e hj) ?_
    refine NilP.mk ?_
    refine ReadN.arr (ha := add_lit' _ _ _) (1 - j) rfl h1j ?_
    refine h.drew.readB 6 0 (j := 0 + 4 + (1 - j)) ⟨_, rfl, rfl⟩ rfl (kd := .int .i64) (x := ((x.of + u.length : Nat) : Int)) (by rw [Nat.zero_add]; exact c_of hj) ?_
    refine (next_st (e := x1.e) h.drew).mono ?_
    intro (v : Int) w7 ⟨hv, h⟩
    refine ⟨h.stillB 6 0 (j := 0 + 4 + (1 - j)) ⟨_, rfl, rfl⟩ rfl (by rw [Nat.zero_add]; exact c_of hj), ?_⟩
    refine ⟨StillV.of (run_arr (add_lit' _ _ _) (1 - j) rfl h1j), ?_⟩
    have hwt := hI.fe.want
    have hvv : v = ((x.of + u.length : Nat) : Int) + 1 := by
      rw [hv]
      show x.e.want + (u.length : Int) = _
      have : x.e.want = x.e.toLk.want := rfl
      omega
    rw [wr (by omega), hvv]
    refine ⟨by simp, us, mc, u, l, ht, ?_, ?_⟩
    · have hak : g.ack ≤ (x.oe : Int) := by
        have h1 := (hI.fe.po g hg hto).2.2.2.1
        have h2 := hI.ef.want
        omega
      exact ⟨took_wf hI.we hfit ht us mc, hI.wf, hI.ef.takeS hI.we hak us mc _ _, hI.fe.takeT hI.wf hg hto ht us mc, hI.me, hI.mf, hI.pe, hI.pf, hI.see, hI.sef, hI.sep, hI.tos, hI.pl, hI.ne, hI.nf⟩
    · have h := h.ord 15 [6, 0, 1, 2, 8, 9, 10, 11, 12, 13, 14]
      dsimp only [pick, nthO, dropO] at h
      exact h
end Go.Proofs.Ytodgnpmljdopiaa

/- The line in memory: its ends, looked at from either side; what always holds. -/
namespace Go.Proofs.Ytodgnpmljdopiaa
open Go Go.Fw Go.RowKit
set_option linter.unusedVariables false
set_option linter.unusedSimpArgs false
set_option maxRecDepth 4000
set_option maxHeartbeats 4000000
variable {w0 w : World} {F G : Grps} {j n : Nat} {x : Ln}

def Ln.sw (x : Ln) : Ln := ⟨x.f, x.e, x.jf, x.ie, x.of, x.oe, x.ps, x.pool, x.cb, x.g8, x.gh⟩
theorem lnC_sw (hj : j < 2) : lnC (1 - j) x.sw = lnC j x := by
  rcases (by omega : j = 0 ∨ j = 1) with rfl | rfl <;> rfl
theorem sw_st (hj : j < 2) (h : St w0 w (lnG j x F)) : St w0 w (lnG (1 - j) x.sw F) := by
  have h := h.ord 11 [0, 4, 5, 6, 1, 2, 3, 8, 7, 9, 10]
  dsimp only [lnG, pick, nthO, dropO] at h
  rw [← lnC_sw hj] at h
  exact h
theorem sw_I (hj : j < 2) (h : LnI j n x) : LnI (1 - j) n x.sw := by
  have e : 1 - (1 - j) = j := by omega
  exact ⟨h.wf, h.we, h.fe, h.ef, h.mf, by rw [e]; exact h.me, h.pf, h.pe, h.sef, h.see, h.sep, fun g hg => (h.tos g hg).symm, h.pl, h.nf, h.ne⟩
/-- The line, from the end j. -/
def At (w0 : World) (F : Grps) (cb : Nat) (wn : Nat → Int) (j n : Nat) (w : World) : Prop :=
  ∃ x, LnI j n x ∧ x.cb = cb ∧ (x.e.win : Int) = wn j ∧ ((x.f.win : Int) = wn (1 - j) ∧ x.e.res = wn 2 ∧ x.f.res = wn 2) ∧ St w0 w (lnG j x F)
theorem At.swap {cb : Nat} {wn : Nat → Int} (hj : j < 2) (h : At w0 F cb wn j n w) : At w0 F cb wn (1 - j) n w := by
  obtain ⟨x, h1, h2, h3, h4, h5⟩ := h
  have e : 1 - (1 - j) = j := by omega
  exact ⟨x.sw, sw_I hj h1, h2, h4.1, ⟨by rw [e]; exact h3, h4.2.2, h4.2.1⟩, sw_st hj h5⟩
theorem At.to {cb : Nat} {wn : Nat → Int} (hj : j < 2) (h : At w0 F cb wn j n w) {i : Nat} (hi : i < 2) : At w0 F cb wn i n w := by
  by_cases hij : i = j
  · subst hij; exact h
  · have : i = 1 - j := by omega
    rw [this]; exact h.swap hj
theorem LnI.mono (h : LnI j n x) {m : Nat} (hm : n ≤ m) : LnI j m x := ⟨h.we, h.wf, h.ef, h.fe, h.me, h.mf, h.pe, h.pf, h.see, h.sef, h.sep, h.tos, h.pl, Nat.le_trans h.ne hm, Nat.le_trans h.nf hm⟩
theorem At.mono {cb : Nat} {wn : Nat → Int} (h : At w0 F cb wn j n w) {m : Nat} (hm : n ≤ m) : At w0 F cb wn j m w := by
  obtain ⟨x, h1, r⟩ := h
  exact ⟨x, h1.mono hm, r⟩
theorem room_ln (h : St w0 w (lnG j x F)) (hw : x.e.wf) : CallK Try.prog (.int .i64) 12 #[.pointer x.e.p] w fun (v : Int) w' => v = x.e.room ∧ St w0 w' (lnG j x F) := by
  have h := h.ord 2 [1, 0]
  dsimp only [lnG, pick, nthO, dropO] at h
  refine (room_st h hw).mono ?_
  intro (v : Int) w1 ⟨hv, h⟩
  have h := h.ord 2 [1, 0]
  dsimp only [pick, nthO, dropO] at h
  exact ⟨hv, h⟩
theorem tick_ln (h : St w0 w (lnG j x F)) (hw : x.e.wf) : CallK Try.prog (.tup .nilT) 20 #[.pointer x.e.p] w fun (_ : Unit) w' => St w0 w' (lnG j { x with e := x.e.tick } F) := by
  have h := h.ord 3 [1, 2, 0]
  dsimp only [lnG, pick, nthO, dropO] at h
  refine (tick_st' h hw).mono ?_
  intro _ w1 h
  have h := h.ord 3 [2, 0, 1]
  dsimp only [pick, nthO, dropO] at h
  exact h
theorem send_ln {t : Sl} {l : List UInt8} (h : St w0 w ([brow (t, l ++ mks)] :: lnG j x F)) (htl : t.len = l.length + 3) (hw : x.e.wf) (hl : l.length ≤ 140737488351232) : CallK Try.prog (.int .i64) 23 #[.pointer x.e.p, .slice (subS t 0 l.length 1).a (subS t 0 l.length 1).len (subS t 0 l.length 1).cap] w
    fun (v : Int) w' => v = x.e.refuse l ∧ (v ≠ 0 → St w0 w' ([brow (t, l ++ mks)] :: lnG j x F)) ∧ (v = 0 → ∃ s, St w0 w' ([brow (t, l ++ mks)] :: lnG j { x with e := x.e.sent s l } F)) := by
  have h := h.ord 4 [2, 3, 0, 1]
  dsimp only [lnG, pick, nthO, dropO] at h
  refine (send_st h hw (lent_sees htl) hl).mono ?_
  intro (v : Int) w1 ⟨hv, h1, h2⟩
  refine ⟨hv, fun hne => ?_, fun h0 => ?_⟩
  · have h := (h1 hne).ord 4 [2, 3, 0, 1]
    dsimp only [pick, nthO, dropO] at h
    exact h
  · obtain ⟨s, h⟩ := h2 h0
    have h := h.ord 4 [2, 3, 0, 1]
    dsimp only [pick, nthO, dropO] at h
    exact ⟨s, h⟩
theorem out_ln (h : St w0 w (lnG j x F)) (hw : x.e.wf) : CallK Try.prog .sl 13 #[.pointer x.e.p] w
    fun (o : Sl) w' => ∃ us gs, gs.map Sg.pl = x.e.tells x.e.outs ∧ o.len = gs.length ∧ St w0 w' (outE o gs :: outD gs :: lnG j { x with e := x.e.outed us } F) := by
  have h := h.ord 3 [1, 2, 0]
  dsimp only [lnG, pick, nthO, dropO] at h
  refine (out_st h hw).mono ?_
  rintro o w1 ⟨us, gs, h1, h2, h⟩
  have h := h.ord 5 [2, 3, 4, 0, 1]
  dsimp only [pick, nthO, dropO] at h
  exact ⟨us, gs, h1, h2, h⟩
theorem under_ln (h : St w0 w (lnG j x F)) (hw : x.e.wf) : CallK Try.prog .sl 14 #[.pointer x.e.p] w
    fun (o : Sl) w' => ∃ gs, gs.map Sg.pl = x.e.tells x.e.un ∧ o.len = gs.length ∧ St w0 w' (outE o gs :: outD gs :: lnG j x F) := by
  have h := h.ord 3 [1, 2, 0]
  dsimp only [lnG, pick, nthO, dropO] at h
  refine (under_st h hw).mono ?_
  rintro o w1 ⟨gs, h1, h2, h⟩
  have h := h.ord 5 [2, 3, 4, 0, 1]
  dsimp only [pick, nthO, dropO] at h
  exact ⟨gs, h1, h2, h⟩
theorem sound_st (hj : j < 2) (h : St w0 w (lnG j x F)) (hI : LnI j n x) (hn : n ≤ 1048576) : CallK Try.prog .bool 19 #[.pointer (some ⟨x.cb, 0, none⟩), .int .i64 (j : Int), .int .i64 (x.e.win : Int)] w
    fun (r : Bool) w' => r = true ∧ St w0 w' (lnG j x F) := by
  have hroom : x.e.room = (x.e.win : Int) - x.e.bx.length - x.e.un.length := rfl
  have hcnt := hI.we.cnt; have hwin := hI.we.win; have hlow := hI.we.low
  have hlast := hI.ef.last
  have hdone := hI.ef.done
  rw [List.length_map] at hlast
  refine T19.calls ?_
  unfold T19
  refine NilP.mk ?_
  refine RunN.arr (ha := add_lit' _ _ _) j rfl hj ?_
  refine h.loadB 0 0 (j := 0 + 0 + j) ⟨_, rfl, rfl⟩ rfl (kd := .ptr) (x := x.e.p) (c_e hj) ?_
  refine (room_ln h hI.we).mono ?_
  intro (v : Int) w1 ⟨hv, h⟩
  refine NilP.mk ?_
  refine RunN.arr (ha := add_lit' _ _ _) j rfl hj ?_
  refine h.loadB 0 0 (j := 0 + 0 + j) ⟨_, rfl, rfl⟩ rfl (kd := .ptr) (x := x.e.p) (c_e hj) ?_
  refine (under_ln h hI.we).mono ?_
  rintro o w2 ⟨gs, hgs, hol, h⟩
  have hgl : gs.length = x.e.un.length := by have := congrArg List.length hgs; simpa [Lk.tells] using this
  have h := (h.drop 0).drop 0
  dsimp only [delO] at h
  have hop : IntKind.i64.wrap ((x.e.win : Int) - v) = (x.e.bx.length : Int) + x.e.un.length := by rw [hv, hroom, wr (by omega)]; omega
  rw [hop]
  rw [SplitB_iff]
  refine ⟨fun _ => ?_, fun hf => ?_⟩
  rotate_left
  · have : ¬ (x.e.bx.length : Int) + x.e.un.length ≥ (o.len : Int) := of_decide_eq_false hf
    omega
  rw [SplitB_iff]
  refine ⟨fun _ => ?_, fun hf => ?_⟩
  rotate_left
  · have : ¬ (x.e.bx.length : Int) + x.e.un.length ≤ (x.e.win : Int) := of_decide_eq_false hf
    omega
  refine NilP.mk ?_
  refine ReadN.arr (ha := add_lit' _ _ _) j rfl hj ?_
  refine h.drew.readB 0 0 (j := 0 + 2 + j) ⟨_, rfl, rfl⟩ rfl (kd := .sl) (x := x.ie.1) (by rw [Nat.zero_add]; exact c_ie hj) ?_
  have hil := lsl_rd (h.drew.rd (k := 7) (i := 0) (E := 45) (sz := 1) (s := x.ie.1) (vs := lsl x.ie.2) ⟨_, rfl, rfl⟩)
  refine NilP.mk ?_
  refine ReadN.arr (ha := add_lit' _ _ _) j rfl hj ?_
  refine h.drew.readB 0 0 (j := 0 + 4 + j) ⟨_, rfl, rfl⟩ rfl (kd := .int .i64) (x := (x.oe : Int)) (by rw [Nat.zero_add]; exact c_oe hj) ?_
  have hili : (x.ie.1.len : Int) = x.ie.2.length := by omega
  have hne := hI.ne
  rw [hili, wr (x := (x.ie.2.length : Int) - ((x.e.bx.length : Int) + x.e.un.length)) (by omega), SplitB_iff]
  refine ⟨fun _ => ?_, fun hf => ?_⟩
  rotate_left
  · have : ¬ (x.ie.2.length : Int) - ((x.e.bx.length : Int) + x.e.un.length) ≤ (x.oe : Int) := of_decide_eq_false hf
    omega
  rw [SplitB_iff]
  refine ⟨fun _ => ⟨rfl, h.drew⟩, fun hf => ?_⟩
  have hf : ¬ (x.e.bx.length : Int) + x.e.un.length = 0 := by simpa using hf
  refine NilP.mk ?_
  refine ReadN.arr (ha := add_lit' _ _ _) j rfl hj ?_
  refine h.drew.readB 0 0 (j := 0 + 2 + j) ⟨_, rfl, rfl⟩ rfl (kd := .sl) (x := x.ie.1) (by rw [Nat.zero_add]; exact c_ie hj) ?_
  refine ⟨?_, h.drew⟩
  exact decide_eq_true (by omega)
end Go.Proofs.Ytodgnpmljdopiaa

/- The line in memory: one thing that happens. -/
namespace Go.Proofs.Ytodgnpmljdopiaa
open Go Go.Fw Go.RowKit
set_option linter.unusedVariables false
set_option linter.unusedSimpArgs false
set_option maxRecDepth 4000
set_option maxHeartbeats 8000000
variable {w0 w : World} {F G : Grps} {j n : Nat} {x : Ln}

theorem sent_I (hI : LnI j n x) {l : List UInt8} (hr : x.e.refuse l = 0) (s t : Sl) (ht : t.len = l.length + 3) (is : Sl) :
    LnI j (n + 1) { x with e := x.e.sent s l, ie := (is, x.ie.2 ++ [(subS t 0 l.length 1, l)]), g8 := x.g8 ++ [brow (t, l ++ mks)] } := by
  have hl := (refuse_zero hr).1
  have hne := hI.ne; have hnf := hI.nf
  refine ⟨sent_wf hI.we s hr, hI.wf, ?_, hI.fe.sendT l s, hI.me, hI.mf, hI.pe, hI.pf, ?_, fun b hb => (hI.sef b hb).more, fun g hg => (hI.sep g hg).more, hI.tos, hI.pl, by simp; omega, by simp; omega⟩
  · have := hI.ef.sendS hl s
    show Dir _ _ ((x.ie.2 ++ [(subS t 0 l.length 1, l)]).map (·.2)) _ _
    rw [List.map_append]
    exact this
  · intro b hb
    rcases List.mem_append.1 hb with hb | hb
    · exact (hI.see b hb).more
    · simp at hb
      subst hb
      intro w0 w F h
      have h2 : St w0 w ([brow (t, l ++ mks)] :: x.g8 :: F) := by
        have := St.two.1 h
        have := this.ord 2 [1, 0]
        dsimp only [pick, nthO, dropO] at this
        exact this
      exact lent_sees (w0 := w0) (F := x.g8 :: F) ht w h2
theorem ticked_I (hI : LnI j n x) : LnI j n { x with e := x.e.tick } :=
  ⟨ticked_wf hI.we, hI.wf, hI.ef.tickS, hI.fe.tickT, hI.me, hI.mf, hI.pe, hI.pf, hI.see, hI.sef, hI.sep, hI.tos, hI.pl, hI.ne, hI.nf⟩
theorem outed_I (hI : LnI j n x) (us : Sl) {gs more : List Sg} (hg : gs.map Sg.pl = x.e.tells x.e.outs) (hm : ∀ g ∈ more, g ∈ gs) (hl : x.pool.length + more.length ≤ 400) (ps : Sl) :
    LnI j n { x with e := x.e.outed us, pool := x.pool ++ more, ps := ps, g8 := x.g8 ++ outD gs } := by
  have hp : ∀ g ∈ x.pool ++ more ++ x.gh, g ∈ x.pool ++ x.gh ∨ g ∈ gs := fun g h => by
    rcases List.mem_append.1 h with h | h
    · rcases List.mem_append.1 h with h | h
      · exact .inl (List.mem_append_left _ h)
      · exact .inr (hm g h)
    · exact .inl (List.mem_append_right _ h)
  have hjj : x.e.me ≠ x.e.peer := by
    rw [hI.pe, hI.me, hI.mf]
    unfold mej
    split <;> split <;> omega
  refine ⟨outed_wf hI.we us, hI.wf, hI.ef.outS hI.we hI.pf.symm hg us hp, hI.fe.outT hjj hg us hp, hI.me, hI.mf, hI.pe, hI.pf, fun b hb => (hI.see b hb).more, fun b hb => (hI.sef b hb).more, fun g hg2 => ?_, fun g hg2 => ?_, by simpa using hl, hI.ne, hI.nf⟩
  · rcases hp g hg2 with h1 | h1
    · exact (hI.sep g h1).more
    · intro w0 w F h
      have h2 : St w0 w (outD gs :: x.g8 :: F) := by
        have := St.two.1 h
        have := this.ord 2 [1, 0]
        dsimp only [pick, nthO, dropO] at this
        exact this
      exact outD_sees h1 w h2
  · rcases hp g hg2 with h1 | h1
    · exact hI.tos g h1
    · have h2 : g.pl ∈ x.e.tells x.e.outs := by rw [← hg]; exact List.mem_map.2 ⟨g, h1, rfl⟩
      obtain ⟨p, hp1, hp2⟩ := List.mem_map.1 h2
      simp only [Sg.pl, Prod.mk.injEq] at hp2
      refine .inr ?_
      show g.to = x.f.me
      rw [← hI.pe]; exact hp2.2.1.symm
/-- What happens: kind, who, which, data. -/
structure Mo where
  kind : Int
  who : Int
  a : Int
  d : Sl × List UInt8
def mov (m : Mo) : List Value := [.int .i64 m.kind, .int .i64 m.who, .int .i64 m.a, sv m.d.1]
structure Mo.ok (m : Mo) : Prop where
  kind : -9223372036854775808 ≤ m.kind ∧ m.kind ≤ 9223372036854775807
  who : -9223372036854775808 ≤ m.who ∧ m.who ≤ 9223372036854775807
  a : -9223372036854775808 ≤ m.a ∧ m.a ≤ 9223372036854775807
  len : m.d.2.length ≤ 140737488351232
theorem step_st {cb : Nat} {wn : Nat → Int} {i : Nat} (hi : i < 2) (h : At w0 F cb wn i n w) (hn : n ≤ 1048000) {m : Mo} (hm : m.ok) (hd : Rd w0 m.d.1 1 (bys m.d.2)) :
    CallK Try.prog .bool 18 #[.pointer (some ⟨cb, 0, none⟩), .agg #[.int .i64 m.kind, .int .i64 m.who, .int .i64 m.a, .slice m.d.1.a m.d.1.len m.d.1.cap], .agg #[.int .i64 (wn 0), .int .i64 (wn 1)]] w
      fun (r : Bool) w' => r = true ∧ At w0 F cb wn 0 (n + 1) w' := by
  have hdl := hd.bys_len
  have hml := hm.len
  refine T18.calls (p1 := (m.kind, m.who, m.a, m.d.1, ())) (p2 := (wn 0, wn 1, ())) ?_
  unfold T18
  obtain ⟨jn, hjn⟩ : ∃ jn : Nat, wi m.who 0 1 = (jn : Int) ∧ jn < 2 := by
    have := wi_in (x := m.who) (lo := 0) (hi := 1) (by decide)
    exact ⟨(wi m.who 0 1).toNat, by omega, by omega⟩
  obtain ⟨hj1, hj⟩ := hjn
  obtain ⟨x, hI, rfl, hwe, hwf, h⟩ := h.to hi hj
  generalize jn = j at hI hwe hwf h hj1 hj
  refine h.newB run_boxA rfl ?_
  intro b4 w1 h
  refine h.newB run_boxA rfl ?_
  intro b5 w2 h
  have h := h.ord 13 [2, 3, 4, 5, 6, 7, 8, 9, 10, 11, 12, 1, 0]
  dsimp only [lnG, pick, nthO, dropO] at h
  have h : St w0 w2 (lnG j x ([.cel b4 47 (mov m)] :: [.cel b5 43 [.int .i64 (wn 0), .int .i64 (wn 1)]] :: F)) := h
  refine h.loadB 11 0 ⟨_, rfl, rfl⟩ rfl (kd := .int .i64) (x := m.who) rfl ?_
  refine (within_st h (by decide) (by decide) (by decide) hm.who).mono ?_
  intro (v : Int) w3 ⟨hv, h⟩
  rw [hv, hj1]
  clear hv v
  let F' : Grps := [.cel b4 47 (mov m)] :: [.cel b5 43 [.int .i64 (wn 0), .int .i64 (wn 1)]] :: F
  have h : St w0 w3 (lnG j x F') := h
  have hfin : ∀ {i : Nat} {w'}, i < 2 → At w0 F' x.cb wn i (n + 1) w' → At w0 F x.cb wn 0 (n + 1) w' := by
    intro i w' hi h
    obtain ⟨x', g1, g2, g3, g4, h⟩ := h.to hi (i := 0) (by decide)
    have h := h.ord 13 [0, 1, 2, 3, 4, 5, 6, 7, 8, 9, 10]
    dsimp only [lnG, pick, nthO, dropO] at h
    exact ⟨x', g1, g2, g3, g4, h⟩
  refine JoinX.mk (fun (y : Unit) w' => At w0 F' x.cb wn j (n + 1) w') ?_ ?_
  · rintro ⟨⟩ w4 ⟨x', hI', hcb', hwe', hwf', h⟩
    refine RunN.arr rfl j rfl hj ?_
    have hwin : nthO [Value.int .i64 (wn 0), .int .i64 (wn 1)] (0 + j) = some (.int .i64 (wn j)) := by
      rcases (by omega : j = 0 ∨ j = 1) with h0 | h0 <;> rw [h0] <;> rfl
    refine h.loadB 12 0 (j := 0 + j) ⟨_, rfl, rfl⟩ rfl (kd := .int .i64) (x := wn j) hwin ?_
    have hso := sound_st hj h hI' (by omega)
    rw [hcb', hwe'] at hso
    refine hso.mono ?_
    intro (r : Bool) w5 ⟨hr, h⟩
    exact ⟨hr, hfin hj ⟨x', hI', hcb', hwe', hwf', h⟩⟩
  intro k hk
  have hkA : ∀ {w'}, At w0 F' x.cb wn j n w' → k () w' := fun h => hk _ _ (h.mono (by omega))
  refine h.loadB 11 0 ⟨_, rfl, rfl⟩ rfl (kd := .int .i64) (x := m.kind) rfl ?_
  refine (within_st h (by decide) (by decide) (by decide) hm.kind).mono ?_
  intro (v : Int) w4 ⟨hv, h⟩
  clear hv
  rw [SplitB_iff]
  refine ⟨fun _ => ?_, fun _ => ?_⟩
  · -- data is handed in
    refine NilP.mk ?_
    refine RunN.arr (ha := add_lit' _ _ _) j rfl hj ?_
    refine h.loadB 0 0 (j := 0 + 0 + j) ⟨_, rfl, rfl⟩ rfl (kd := .ptr) (x := x.e.p) (c_e hj) ?_
    refine (room_ln h hI.we).mono ?_
    intro (rm : Int) w5 ⟨hrm, h⟩
    refine h.loadB 11 0 ⟨_, rfl, rfl⟩ rfl (kd := .sl) (x := m.d.1) rfl ?_
    refine (lend_st h (p := m.d.1) (l := m.d.2) (fun w h => h.old hd) hml).mono ?_
    intro t w6 ⟨htl, h⟩
    refine NilP.mk ?_
    refine ReadN.arr (ha := add_lit' _ _ _) j rfl hj ?_
    refine h.drew.readB 1 0 (j := 0 + 0 + j) ⟨_, rfl, rfl⟩ rfl (kd := .ptr) (x := x.e.p) (c_e hj) ?_
    refine h.drew.readB 12 0 ⟨_, rfl, rfl⟩ rfl (kd := .sl) (x := m.d.1) rfl ?_
    refine ReadN.sH m.d.2.length (by rw [hdl]) (by have := (h.drew.rd (k := 0) (i := 0) (E := 5) (sz := 1) (s := t) (vs := bys (m.d.2 ++ mks)) ⟨_, rfl, rfl⟩).2.2; omega) ?_
    refine (send_ln h.drew htl hI.we hml).mono ?_
    intro (v2 : Int) w7 ⟨hv2, hno, hyes⟩
    have hroom : x.e.room = (x.e.win : Int) - x.e.bx.length - x.e.un.length := rfl
    have hlast := hI.ef.last
    rw [List.length_map] at hlast
    have hne := hI.ne
    have hcase : (v2 = 0 → x.e.refuse m.d.2 = 0) ∧ (m.d.2.length > 4000 → v2 = 2) ∧ (¬ m.d.2.length > 4000 → (v2 == 0) = decide (rm > 0)) := by
      refine ⟨fun h0 => by rw [← hv2, h0], fun hl => by rw [hv2, Lk.refuse, if_pos hl], fun hl => ?_⟩
      rw [hv2, hrm, Lk.refuse, if_neg hl]
      by_cases hr : x.e.room ≤ 0
      · rw [if_pos (.inl hr), decide_eq_false (by omega)]; rfl
      · rw [if_neg (by omega), decide_eq_true (by omega)]; rfl
    by_cases hz : v2 = 0
    · obtain ⟨s, h⟩ := hyes hz
      have href := hcase.1 hz
      have hl4 := (refuse_zero href).1
      refine h.loadB 12 0 ⟨_, rfl, rfl⟩ rfl (kd := .sl) (x := m.d.1) rfl ?_
      rw [hdl, SplitB_iff]
      refine ⟨fun hf => ?_, fun _ => ?_⟩
      · have : (m.d.2.length : Int) > 4000 := of_decide_eq_true hf
        omega
      rw [hcase.2.2 (by omega), SplitB_iff]
      refine ⟨fun hf => by simp at hf, fun _ => ?_⟩
      rw [← hcase.2.2 (by omega), hz, SplitB_iff]
      refine ⟨fun _ => ?_, fun hf => (by cases hf)⟩
      let x1 : Ln := { x with e := x.e.sent s m.d.2 }
      have h : St w0 w7 ([brow (t, m.d.2 ++ mks)] :: lnG j x1 F') := h
      refine NilP.mk ?_
      refine ReadN.arr (ha := add_lit' _ _ _) j rfl hj ?_
      refine h.drew.readB 1 0 (j := 0 + 2 + j) ⟨_, rfl, rfl⟩ rfl (kd := .sl) (x := x.ie.1) (by rw [Nat.zero_add]; exact c_ie hj) ?_
      refine h.drew.readB 12 0 ⟨_, rfl, rfl⟩ rfl (kd := .sl) (x := m.d.1) rfl ?_
      refine h.drew.readB 12 0 ⟨_, rfl, rfl⟩ rfl (kd := .sl) (x := m.d.1) rfl ?_
      refine NilP.mk ?_
      refine (lend_st h.drew (p := m.d.1) (l := m.d.2) (fun w h => h.old hd) hml).mono ?_
      intro t2 w8 ⟨htl2, h⟩
      refine ⟨h.stillB 13 0 ⟨_, rfl, rfl⟩ rfl rfl, ?_⟩
      refine ⟨h.stillB 2 0 (j := 0 + 2 + j) ⟨_, rfl, rfl⟩ rfl (by rw [Nat.zero_add]; exact c_ie hj), ?_⟩
      refine ⟨StillV.of (run_arr (add_lit' _ _ _) j rfl hj), ?_⟩
      refine ReadN.sH m.d.2.length (by rw [hdl]) (by have := (h.rd (k := 0) (i := 0) (E := 5) (sz := 1) (s := t2) (vs := bys (m.d.2 ++ mks)) ⟨_, rfl, rfl⟩).2.2; omega) ?_
      refine h.newS 1 (bs51 _ _ _ _) rfl rfl rfl ?_
      intro u w9 hu1 hu2 _ h
      refine ⟨h.stillB 3 0 (j := 0 + 2 + j) ⟨_, rfl, rfl⟩ rfl (by rw [Nat.zero_add]; exact c_ie hj), ?_⟩
      refine ⟨StillV.of (run_arr (add_lit' _ _ _) j rfl hj), ?_⟩
      have hil := lsl_rd (h.rd (k := 10) (i := 0) (E := 45) (sz := 1) (s := x.ie.1) (vs := lsl x.ie.2) ⟨_, rfl, rfl⟩)
      have hx1 : x1.ie.1.len = x.ie.1.len := rfl
      refine h.app 10 0 ⟨_, rfl, rfl⟩ (h.rd (k := 0) (i := 0) ⟨_, rfl, rfl⟩) (fun v hv => by simp at hv; subst hv; rfl) (by simp only [maxLen]; omega) (by omega) ?_
      intro is w10 his h
      have h := h.drop 0
      dsimp only [delO, updG, setO, lnG] at h
      refine ReadN.arr (ha := add_lit' _ _ _) j rfl hj ?_
      refine h.storB 2 0 (j := 0 + 2 + j) ⟨_, rfl, rfl⟩ rfl (by rw [c_len]; rcases (by omega : j = 0 ∨ j = 1) with h0 | h0 <;> rw [h0] <;> rfl) rfl ?_
      intro w11 h
      dsimp only [updG, setO] at h
      have e0 : setO (lnC j x1) (0 + 2 + j) (sv is) = lnC j { x1 with ie := (is, x1.ie.2) } := by rw [Nat.zero_add]; exact s_ie hj _
      have h := h.ord 13 [2, 3, 4, 5, 6, 7, 8, 9, 10, 11, 0, 12]
      dsimp only [pick, nthO, dropO] at h
      have h := snocAt [_, _, _, _, _, _, _, _, _, _] h
      refine hk _ _ ⟨{ x with e := x.e.sent s m.d.2, ie := (is, x.ie.2 ++ [(subS t2 0 m.d.2.length 1, m.d.2)]), g8 := x.g8 ++ [brow (t2, m.d.2 ++ mks)] }, sent_I hI href s t2 htl2 is, rfl, hwe, hwf, ?_⟩
      have e1 : lsl (x.ie.2 ++ [(subS t2 0 m.d.2.length 1, m.d.2)]) = lsl x.ie.2 ++ [.slice (subS t2 0 m.d.2.length 1).a (subS t2 0 m.d.2.length 1).len (subS t2 0 m.d.2.length 1).cap] := lsl_snoc _ _
      have e2 : setO (lnC j x1) (0 + 2 + j) (.slice is.a is.len is.cap) = lnC j { x1 with ie := (is, x1.ie.2) } := e0
      have hg : lnG j { x with e := x.e.sent s m.d.2, ie := (is, x.ie.2 ++ [(subS t2 0 m.d.2.length 1, m.d.2)]), g8 := x.g8 ++ [brow (t2, m.d.2 ++ mks)] } F' =
          [.cel x.cb 54 (setO (lnC j x1) (0 + 2 + j) (.slice is.a is.len is.cap))] :: lmE x1.e :: dat x1.e.toLk :: ups x1.e.ea :: lmE x.f :: dat x.f.toLk :: ups x.f.ea :: [.row 45 1 is (lsl x.ie.2 ++ [.slice (subS t2 0 m.d.2.length 1).a (subS t2 0 m.d.2.length 1).len (subS t2 0 m.d.2.length 1).cap])] :: [.row 45 1 x.jf.1 (lsl x.jf.2)] :: [.row 62 5 x.ps (x.pool.flatMap sgv)] :: (x.g8 ++ [brow (t2, m.d.2 ++ mks)]) :: F' := by
        rw [e2, ← e1]; rfl
      rw [hg]
      exact h
    · have h := (hno hz).drop 0
      dsimp only [delO] at h
      refine h.loadB 11 0 ⟨_, rfl, rfl⟩ rfl (kd := .sl) (x := m.d.1) rfl ?_
      rw [hdl, SplitB_iff]
      refine ⟨fun hf => ?_, fun hf => ?_⟩
      · have hf : m.d.2.length > 4000 := by have : (m.d.2.length : Int) > 4000 := of_decide_eq_true hf
                                            omega
        rw [hcase.2.1 hf]
        exact ⟨rfl, hfin hj (At.mono ⟨x, hI, rfl, hwe, hwf, h⟩ (by omega))⟩
      · have hf : ¬ m.d.2.length > 4000 := by have : ¬ (m.d.2.length : Int) > 4000 := of_decide_eq_false hf
                                              omega
        rw [hcase.2.2 hf, SplitB_iff]
        refine ⟨fun hf2 => by simp at hf2, fun _ => ?_⟩
        rw [← hcase.2.2 hf, SplitB_iff]
        refine ⟨fun hf2 => absurd (by simpa using hf2) hz, fun _ => ?_⟩
        exact hkA ⟨x, hI, rfl, hwe, hwf, h⟩
  rw [SplitB_iff]
  refine ⟨fun _ => ?_, fun _ => ?_⟩
  · -- a tick
    refine NilP.mk ?_
    refine RunN.arr (ha := add_lit' _ _ _) j rfl hj ?_
    refine h.loadB 0 0 (j := 0 + 0 + j) ⟨_, rfl, rfl⟩ rfl (kd := .ptr) (x := x.e.p) (c_e hj) ?_
    refine (tick_ln h hI.we).mono ?_
    intro _ w5 h
    exact hkA ⟨_, ticked_I hI, rfl, hwe, hwf, h⟩
  rw [SplitB_iff]
  refine ⟨fun _ => ?_, fun _ => ?_⟩
  · -- what is told is under way
    refine NilP.mk ?_
    refine RunN.arr (ha := add_lit' _ _ _) j rfl hj ?_
    refine h.loadB 0 0 (j := 0 + 0 + j) ⟨_, rfl, rfl⟩ rfl (kd := .ptr) (x := x.e.p) (c_e hj) ?_
    refine (out_ln h hI.we).mono ?_
    rintro o w5 ⟨us, gs, hgs, hol, h⟩
    let x1 : Ln := { x with e := x.e.outed us }
    have h : St w0 w5 (outE o gs :: outD gs :: lnG j { x1 with pool := x.pool ++ gs.take 0, ps := x.ps } F') := by
      rw [List.take_zero, List.append_nil]; exact h
    have hpl := hI.pl
    have hgl : gs.length ≤ 1048576 := by
      have := congrArg List.length hgs
      have h1 := hI.we.cnt; have h2 := hI.we.win
      simp only [Lk.tells, Lk.outs, List.length_map, List.length_append] at this
      split at this <;> split at this <;> simp at this <;> omega
    refine LoopX.mk (fun st w' => ∃ (m : Nat) (ps : Sl), st = ((m : Int), ()) ∧ m ≤ gs.length ∧ x.pool.length + m ≤ 400 ∧ St w0 w' (outE o gs :: outD gs :: lnG j { x1 with pool := x.pool ++ gs.take m, ps := ps } F')) (fun st => gs.length - st.1.toNat) ⟨0, x.ps, rfl, Nat.zero_le _, by omega, h⟩ ?_
    clear h
    rintro _ w6 ⟨m2, ps, rfl, hm2, hpm, h⟩ k4 hk4
    dsimp only at hk4 ⊢
    have hlen2 : (x.pool ++ gs.take m2).length = x.pool.length + m2 := by simp; omega
    have hpsl : ps.len = x.pool.length + m2 := by
      have := out_len (h.rd (k := 11) (i := 0) (E := 62) (sz := 5) (s := ps) (vs := (x.pool ++ gs.take m2).flatMap sgv) ⟨_, rfl, rfl⟩)
      omega
    have hoi : (o.len : Int) = (gs.length : Int) := by omega
    refine JoinX.mk (fun (y : Bool × Unit) w' => y.1 = decide (m2 < gs.length ∧ x.pool.length + m2 < 400) ∧ St w0 w' (outE o gs :: outD gs :: lnG j { x1 with pool := x.pool ++ gs.take m2, ps := ps } F')) ?_ ?_
    rotate_left
    · intro k5 hk5
      rw [hoi, SplitB_iff]
      refine ⟨fun hc => ?_, fun hc => ?_⟩
      · have hc : (m2 : Int) < (gs.length : Int) := of_decide_eq_true hc
        refine NilP.mk ?_
        refine h.loadB 2 0 (j := 6) ⟨_, rfl, rfl⟩ rfl (kd := .sl) (x := ps) c_ps ?_
        refine hk5 _ _ ⟨?_, h⟩
        exact decide_eq_decide.2 ⟨fun h => ⟨by omega, by omega⟩, fun h => by omega⟩
      · have hc : ¬ (m2 : Int) < (gs.length : Int) := of_decide_eq_false hc
        refine hk5 _ _ ⟨?_, h⟩
        symm
        exact decide_eq_false (fun h => by omega)
    clear h
    rintro ⟨y, ⟨⟩⟩ w7 ⟨hy, h⟩
    dsimp only at hy
    subst hy
    rw [SplitB_iff]
    refine ⟨fun hc => ?_, fun hc => ?_⟩
    · have hc : m2 < gs.length ∧ x.pool.length + m2 < 400 := of_decide_eq_true hc
      have hem : IntKind.i64.wrap ((m2 : Int) + 1) = ((m2 + 1 : Nat) : Int) := by rw [wr (by omega)]; omega
      rw [hem]
      refine NilP.mk ?_
      refine h.drew.readB 2 0 (j := 6) ⟨_, rfl, rfl⟩ rfl (kd := .sl) (x := ps) c_ps ?_
      have hrr := h.drew.rd (k := 0) (i := 0) (E := 62) (sz := 5) (s := o) (vs := gs.flatMap sgv) ⟨_, rfl, rfl⟩
      refine hrr.idxR m2 rfl (by omega) ?_
      intro b0 o0 ha
      refine hrr.elAR ha (m2 * 5) rfl (kd := Kds) (sgt gs[m2]) (ds := sgv gs[m2]) (flat_at sgv_len _ _ hc.1) ?_
      refine h.drew.newS 5 (bs33' _ gs[m2]) rfl rfl rfl ?_
      intro u w8 hu1 hu2 _ h
      refine ⟨h.stillB 3 0 (j := 6) ⟨_, rfl, rfl⟩ rfl c_ps, ?_⟩
      refine h.app 12 0 (s := ps) ⟨_, rfl, rfl⟩ (h.rd (k := 0) (i := 0) ⟨_, rfl, rfl⟩) (sgv_one _) (by simp only [maxLen]; omega) (by omega) ?_
      intro ps' w9 hl9 h
      have h := h.drop 0
      dsimp only [delO, updG, setO, lnG] at h
      refine NilP.mk ?_
      refine h.storB 2 0 (j := 6) ⟨_, rfl, rfl⟩ rfl (by rw [c_len]; rfl) rfl ?_
      intro w10 h
      dsimp only [updG, setO] at h
      refine hk4 _ _ ⟨m2 + 1, ps', rfl, by omega, by omega, ?_⟩ (by dsimp only; omega)
      have e1 : (x.pool ++ gs.take (m2 + 1)).flatMap sgv = (x.pool ++ gs.take m2).flatMap sgv ++ sgv gs[m2] := by
        rw [List.take_succ_eq_append_getElem hc.1, ← List.append_assoc, List.flatMap_append]
        congr 1
        first | done | simp
      have e2 : setO (lnC j { x1 with pool := x.pool ++ gs.take m2, ps := ps }) 6 (.slice ps'.a ps'.len ps'.cap) = lnC j { x1 with pool := x.pool ++ gs.take (m2 + 1), ps := ps' } := s_ps ps'
      have hg : lnG j { x1 with pool := x.pool ++ gs.take (m2 + 1), ps := ps' } F' =
          [.cel x.cb 54 (setO (lnC j { x1 with pool := x.pool ++ gs.take m2, ps := ps }) 6 (.slice ps'.a ps'.len ps'.cap))] :: lmE x1.e :: dat x1.e.toLk :: ups x1.e.ea :: lmE x.f :: dat x.f.toLk :: ups x.f.ea :: [.row 45 1 x.ie.1 (lsl x.ie.2)] :: [.row 45 1 x.jf.1 (lsl x.jf.2)] :: [.row 62 5 ps' ((x.pool ++ gs.take m2).flatMap sgv ++ sgv gs[m2])] :: x.g8 :: F' := by
        rw [e2, ← e1]; rfl
      rw [hg]
      exact h
    · have h := h.ord 13 [2, 3, 4, 5, 6, 7, 8, 9, 10, 11, 1, 12]
      dsimp only [lnG, pick, nthO, dropO] at h
      have h := joinAt [_, _, _, _, _, _, _, _, _, _] h
      refine hkA ⟨_, outed_I hI us hgs (more := gs.take m2) (fun g hg => List.mem_of_mem_take hg) (by rw [← List.length_append, hlen2]; exact hpm) ps, rfl, hwe, hwf, ?_⟩
      exact h
  rw [SplitB_iff]
  refine ⟨fun _ => ?_, fun _ => ?_⟩
  · -- a segment comes
    refine JoinX.mk (fun (y : Bool × Unit) w' => y.1 = false ∧ At w0 F' x.cb wn j n w') ?_ ?_
    · rintro ⟨y, ⟨⟩⟩ w5 ⟨hy, h⟩
      dsimp only at hy
      subst hy
      rw [SplitB_iff]
      exact ⟨fun hf => (by cases hf), fun _ => hkA h⟩
    intro k7 hk7
    have hpl := hI.pl
    have hpsl := out_len (h.rd (k := 9) (i := 0) (E := 62) (sz := 5) (s := x.ps) (vs := x.pool.flatMap sgv) ⟨_, rfl, rfl⟩)
    refine NilP.mk ?_
    refine h.drew.readB 0 0 (j := 6) ⟨_, rfl, rfl⟩ rfl (kd := .sl) (x := x.ps) c_ps ?_
    rw [SplitB_iff]
    refine ⟨fun hc => ?_, fun hc => ?_⟩
    · have hc : 0 < x.pool.length := by have : (x.ps.len : Int) > 0 := of_decide_eq_true hc
                                        omega
      refine NilP.mk ?_
      refine h.drew.readB 0 0 (j := 6) ⟨_, rfl, rfl⟩ rfl (kd := .sl) (x := x.ps) c_ps ?_
      refine h.drew.readB 11 0 ⟨_, rfl, rfl⟩ rfl (kd := .int .i64) (x := m.a) rfl ?_
      refine NilP.mk ?_
      refine h.drew.readB 0 0 (j := 6) ⟨_, rfl, rfl⟩ rfl (kd := .sl) (x := x.ps) c_ps ?_
      rw [wr (by omega)]
      refine (within_st h.drew (x := m.a) (lo := 0) (hi := (x.ps.len : Int) - 1) (by decide) (by omega) (by omega) hm.a).mono ?_
      intro (v : Int) w5 ⟨hv, h⟩
      have hin := wi_in (x := m.a) (lo := 0) (hi := (x.ps.len : Int) - 1) (by omega)
      rw [← hv] at hin
      obtain ⟨q, rfl⟩ := Int.eq_ofNat_of_zero_le hin.1
      have hq : q < x.pool.length := by omega
      refine ⟨h.stillB 0 0 (j := 6) ⟨_, rfl, rfl⟩ rfl c_ps, ?_⟩
      have hrr := h.rd (k := 9) (i := 0) (E := 62) (sz := 5) (s := x.ps) (vs := x.pool.flatMap sgv) ⟨_, rfl, rfl⟩
      refine hrr.idxR q rfl (by omega) ?_
      intro b0 o0 ha
      refine hrr.elAR ha (q * 5) rfl (kd := Kds) (sgt x.pool[q]) (ds := sgv x.pool[q]) (flat_at sgv_len _ _ hq) ?_
      have hgm : x.pool[q] ∈ x.pool ++ x.gh := List.mem_append_left _ (List.getElem_mem hq)
      rcases hI.tos _ hgm with hto | hto
      · refine (comes_st hj h hI (by omega) hgm hto).mono ?_
        rintro r w6 ⟨hr, us, mc, u, l, _, hI', h⟩
        have hr : (r : Bool) = true := hr
        rw [hr]
        exact hk7 _ _ ⟨rfl, _, hI', rfl, hwe, hwf, h⟩
      · have h1j : 1 - j < 2 := by omega
        have e : 1 - (1 - j) = j := by omega
        refine (comes_st (x := x.sw) h1j (sw_st hj h) (sw_I hj hI) (by omega) hgm hto).mono ?_
        rintro r w6 ⟨hr, us, mc, u, l, _, hI', h⟩
        have hr : (r : Bool) = true := hr
        rw [hr]
        have hA : At w0 F' x.cb wn (1 - j) n w6 := ⟨_, hI', rfl, hwf.1, ⟨by rw [e]; exact hwe, hwf.2.2, hwf.2.1⟩, h⟩
        exact hk7 _ _ ⟨rfl, hA.to h1j hj⟩
    · exact hk7 _ _ ⟨rfl, x, hI, rfl, hwe, hwf, h.drew⟩
  · exact hkA ⟨x, hI, rfl, hwe, hwf, h⟩
end Go.Proofs.Ytodgnpmljdopiaa

/- LinkOnce. -/
namespace Go.Proofs.Ytodgnpmljdopiaa
open Go Go.Fw Go.RowKit
set_option linter.unusedVariables false
set_option linter.unusedSimpArgs false
set_option maxRecDepth 4000
set_option maxHeartbeats 8000000
variable {W w0 w : World} {F G : Grps} {j n : Nat} {x : Ln}

def wns (p0 p1 p2 : Int) (k : Nat) : Int := if k = 0 then wi p0 1 16 else if k = 1 then wi p1 1 16 else wi p2 1 20
theorem dir0 (a b c d a' b' c' d' : Int) : Dir (lk0 a b c d) (lk0 a' b' c' d') [] 0 [] := by
  refine ⟨rfl, ?_, rfl, ?_, ?_, ?_, ?_, ?_⟩
  · intro p hp; simp [lk0] at hp
  · show ((0 : Nat) : Int) ≤ 0; decide
  · show (0 : Int) - _ ≤ _; simp [lk0]
  · intro x hx; simp [lk0] at hx
  · intro g hg; cases hg
  · intro l hl; cases hl
theorem begun_st (h : St w0 w F) {p0 p1 p2 : Int} (r0 : -9223372036854775808 ≤ p0 ∧ p0 ≤ 9223372036854775807) (r1 : -9223372036854775808 ≤ p1 ∧ p1 ≤ 9223372036854775807) (r2 : -9223372036854775808 ≤ p2 ∧ p2 ≤ 9223372036854775807) :
    CallK Try.prog .ptr 16 #[.int .i64 p0, .int .i64 p1, .int .i64 p2] w fun (r : Option Addr) w' => ∃ cb, r = some ⟨cb, 0, none⟩ ∧ At w0 F cb (wns p0 p1 p2) 0 0 w' := by
  refine T16.calls ?_
  unfold T16
  have ha1 := wi_in (x := p0) (lo := 1) (hi := 16) (by decide)
  have hb1 := wi_in (x := p1) (lo := 1) (hi := 16) (by decide)
  have hn1 := wi_in (x := p2) (lo := 1) (hi := 20) (by decide)
  refine (within_st h (by decide) (by decide) (by decide) r0).mono ?_
  intro (a : Int) w2 ⟨ha, h⟩
  refine (within_st h (by decide) (by decide) (by decide) r2).mono ?_
  intro (n : Int) w3 ⟨hn, h⟩
  rw [← ha] at ha1
  rw [← hn] at hn1
  have hE : newE 3 5 a n = 0 := by
    rw [newE, if_neg (by decide), if_neg (by omega)]
  refine (new_st h 3 5 a n).mono ?_
  rintro r w4 (⟨hne, _⟩ | ⟨_, e, rfl, he, h⟩)
  · exact absurd hE hne
  refine (within_st h (by decide) (by decide) (by decide) r1).mono ?_
  intro (b : Int) w5 ⟨hb, h⟩
  refine (within_st h (by decide) (by decide) (by decide) r2).mono ?_
  intro (n2 : Int) w6 ⟨hn2, h⟩
  rw [← hb] at hb1
  have hnn : n2 = n := hn2.trans hn.symm
  rw [hnn]
  have hE2 : newE 5 3 b n = 0 := by
    rw [newE, if_neg (by decide), if_neg (by omega)]
  refine (new_st h 5 3 b n).mono ?_
  rintro r w7 (⟨hne, _⟩ | ⟨_, f, rfl, hf, h⟩)
  · exact absurd hE2 hne
  have hl1 := lk0_wf hE
  have hl2 := lk0_wf hE2
  refine JoinX.mk (fun (y : Bool × Unit) w' => y.1 = false ∧ St w0 w' (lmE f :: lmE e :: F)) ?_ ?_
  · rintro ⟨y, ⟨⟩⟩ w8 ⟨hy, h⟩
    dsimp only at hy
    subst hy
    rw [SplitB_iff]
    refine ⟨fun hf => (by cases hf), fun _ => ?_⟩
    refine h.newB run_boxA rfl ?_
    intro cb w9 h
    have h := ((h.nilrow 45 1).nilrow 45 1).nilrow 62 5
    have h := h.ord 6 [3, 5, 4, 1, 2, 0]
    dsimp only [pick, nthO, dropO] at h
    refine ⟨cb, rfl, ⟨e, f, (⟨none, 0, 0⟩, []), (⟨none, 0, 0⟩, []), 0, 0, ⟨none, 0, 0⟩, [], cb, [], []⟩, ?_, rfl, ?_, ⟨?_, ?_, ?_⟩, ?_⟩
    · refine ⟨by show e.toLk.wf; rw [he]; exact hl1.1, by show f.toLk.wf; rw [hf]; exact hl2.1, ?_, ?_, by show e.toLk.me = _; rw [he]; rfl, by show f.toLk.me = _; rw [hf]; rfl, by show e.toLk.peer = f.toLk.me; rw [he, hf]; rfl, by show f.toLk.peer = e.toLk.me; rw [he, hf]; rfl, fun b hb => (by cases hb), fun b hb => (by cases hb), fun b hb => (by cases hb), fun b hb => (by cases hb), Nat.zero_le _, Nat.zero_le _, Nat.zero_le _⟩
      · show Dir e.toLk f.toLk _ _ _
        rw [he, hf]; exact dir0 _ _ _ _ _ _ _ _
      · show Dir f.toLk e.toLk _ _ _
        rw [he, hf]; exact dir0 _ _ _ _ _ _ _ _
    · show ((e.toLk.win : Nat) : Int) = _
      rw [he, hl1.2, ha]; rfl
    · show ((f.toLk.win : Nat) : Int) = _
      rw [hf, hl2.2, hb]; rfl
    · show e.toLk.res = _
      rw [he]; exact hn
    · show f.toLk.res = _
      rw [hf]; exact hn
    · have h : St w0 w9 ([.cel cb 54 [.pointer e.p, .pointer f.p, .slice none 0 0, .slice none 0 0, .int .i64 0, .int .i64 0, .slice none 0 0]] :: lmE e :: dat e.toLk :: ups e.ea :: lmE f :: dat f.toLk :: ups f.ea :: [.row 45 1 ⟨none, 0, 0⟩ []] :: [.row 45 1 ⟨none, 0, 0⟩ []] :: [.row 62 5 ⟨none, 0, 0⟩ []] :: [] :: F) := by
        rw [(lk0_dat he).1, (lk0_dat he).2, (lk0_dat hf).1, (lk0_dat hf).2]
        exact h.perm (by simp)
      exact h
  · intro k hk
    rw [SplitB_iff]
    refine ⟨fun hf => (by cases hf), fun _ => ?_⟩
    rw [SplitB_iff]
    refine ⟨fun hf => (by cases hf), fun _ => ?_⟩
    refine RunN.pEqS ?_
    rw [SplitB_iff]
    refine ⟨fun hf => (by cases hf), fun _ => ?_⟩
    refine RunN.pEqS ?_
    exact hk _ _ ⟨rfl, h⟩
theorem sound0 {cb : Nat} {wn : Nat → Int} {i n : Nat} (hi : i < 2) (h : At w0 F cb wn i n w) (hn : n ≤ 1048576) {k : Nat} (hk : k < 2) : CallK Try.prog .bool 19 #[.pointer (some ⟨cb, 0, none⟩), .int .i64 (k : Int), .int .i64 (wn k)] w
    fun (r : Bool) w' => r = true ∧ At w0 F cb wn k n w' := by
  obtain ⟨x, hI, rfl, hwe, hwf, h⟩ := h.to hi hk
  rw [← hwe]
  refine (sound_st hk h hI hn).mono ?_
  intro (r : Bool) w5 ⟨hr, h⟩
  exact ⟨hr, x, hI, rfl, hwe, hwf, h⟩
abbrev movs (l : List Mo) : List Value := l.flatMap mov
theorem mov_len (m : Mo) : (mov m).length = 4 := rfl
theorem once_st {s : Sl} {L : List Mo} (hs : Rd W s 4 (movs L)) (hL : ∀ m ∈ L, m.ok ∧ Rd W m.d.1 1 (bys m.d.2)) {p0 p1 p2 : Int} (r0 : -9223372036854775808 ≤ p0 ∧ p0 ≤ 9223372036854775807) (r1 : -9223372036854775808 ≤ p1 ∧ p1 ≤ 9223372036854775807) (r2 : -9223372036854775808 ≤ p2 ∧ p2 ≤ 9223372036854775807) :
    CallK Try.prog .bool 6 #[.int .i64 p0, .int .i64 p1, .int .i64 p2, .slice s.a s.len s.cap] W fun (r : Bool) w' => r = true ∧ Upd W w' nobody := by
  have hsl : s.len = L.length := by have := hs.1; rw [flat_len mov_len] at this; omega
  refine T6.calls ?_
  unfold T6
  refine (alive_st (St.init W)).mono ?_
  intro (al : Bool) w1 ⟨hal, h⟩
  rw [hal]
  refine (begun_st h r0 r1 r2).mono ?_
  rintro r w2 ⟨cb, rfl, hA⟩
  refine JoinX.mk (fun (y : Bool × Unit) w' => y.1 = false ∧ At W [] cb (wns p0 p1 p2) 0 0 w') ?_ ?_
  rotate_left
  · intro k hk
    rw [SplitB_iff]
    refine ⟨fun hf => (by cases hf), fun _ => ?_⟩
    refine RunN.pEqS ?_
    exact hk _ _ ⟨rfl, hA⟩
  clear h hA
  rintro ⟨y, ⟨⟩⟩ w3 ⟨hy, x, hI, rfl, hwe, hwf, h⟩
  dsimp only at hy
  subst hy
  rw [SplitB_iff]
  refine ⟨fun hf => (by cases hf), fun _ => ?_⟩
  refine (within_st h (by decide) (by decide) (by decide) r0).mono ?_
  intro (a : Int) w4 ⟨ha, h⟩
  refine (within_st h (by decide) (by decide) (by decide) r1).mono ?_
  intro (b : Int) w5 ⟨hb, h⟩
  have ha : a = wns p0 p1 p2 0 := ha
  have hb : b = wns p0 p1 p2 1 := hb
  rw [ha, hb]
  refine h.newB (NewC.run _) rfl ?_
  intro b3 w6 h
  refine h.stor2 0 0 ⟨_, rfl, rfl⟩ rfl ?_
  intro w7 h
  dsimp only [updG, setO] at h
  have h := h.ord 12 [1, 2, 3, 4, 5, 6, 7, 8, 9, 10, 11, 0]
  dsimp only [lnG, pick, nthO, dropO] at h
  let F' : Grps := [[.cel b3 43 [.int .i64 (wns p0 p1 p2 0), .int .i64 (wns p0 p1 p2 1)]]]
  have hA : At W F' x.cb (wns p0 p1 p2) 0 0 w7 := ⟨x, hI, rfl, hwe, hwf, h⟩
  have hcell : ∀ {n w'}, At W F' x.cb (wns p0 p1 p2) 0 n w' → ∃ y, LnI 0 n y ∧ y.cb = x.cb ∧ (y.e.win : Int) = wns p0 p1 p2 0 ∧ ((y.f.win : Int) = wns p0 p1 p2 1 ∧ y.e.res = wns p0 p1 p2 2 ∧ y.f.res = wns p0 p1 p2 2) ∧ St W w' (lnG 0 y F') := fun h => h
  refine LoopX.mk (fun st w' => ∃ m : Nat, st = ((m : Int), ()) ∧ m ≤ L.length ∧ m ≤ 300 ∧ At W F' x.cb (wns p0 p1 p2) 0 m w') (fun st => 400 - st.1.toNat) ⟨0, rfl, Nat.zero_le _, by omega, hA⟩ ?_
  clear h hA
  rintro _ w8 ⟨m, rfl, hm, hm3, hA⟩ k hk
  dsimp only at hk ⊢
  refine JoinX.mk (fun (y : Bool × Unit) w' => y.1 = decide (m < L.length ∧ m < 300) ∧ At W F' x.cb (wns p0 p1 p2) 0 m w') ?_ ?_
  rotate_left
  · intro k2 hk2
    rw [hsl, SplitB_iff]
    refine ⟨fun hc => ?_, fun hc => ?_⟩
    · have hc : (m : Int) < (L.length : Int) := of_decide_eq_true hc
      refine hk2 _ _ ⟨?_, hA⟩
      exact decide_eq_decide.2 ⟨fun h => ⟨by omega, by omega⟩, fun h => by omega⟩
    · have hc : ¬ (m : Int) < (L.length : Int) := of_decide_eq_false hc
      refine hk2 _ _ ⟨?_, hA⟩
      symm
      exact decide_eq_false (fun h => by omega)
  clear hA
  rintro ⟨y, ⟨⟩⟩ w9 ⟨hy, hA⟩
  dsimp only at hy
  subst hy
  obtain ⟨y, hI2, hcb2, hwe2, hwf2, h⟩ := hcell hA
  rw [SplitB_iff]
  refine ⟨fun hc => ?_, fun hc => ?_⟩
  · have hc : m < L.length ∧ m < 300 := of_decide_eq_true hc
    have hem : IntKind.i64.wrap ((m : Int) + 1) = ((m + 1 : Nat) : Int) := by rw [wr (by omega)]; omega
    rw [hem]
    have hsr : Rd w9.drew s 4 (movs L) := h.drew.old hs
    refine hsr.idxR m rfl (by omega) ?_
    intro b0 o0 ha0
    refine hsr.elAR ha0 (m * 4) rfl (kd := .agg (.cons (.int .i64) (.cons (.int .i64) (.cons (.int .i64) (.cons .sl .nilT))))) (L[m].kind, L[m].who, L[m].a, L[m].d.1, ()) (ds := mov L[m]) (flat_at mov_len _ _ hc.1) ?_
    refine h.drew.read2 11 0 ⟨_, rfl, rfl⟩ rfl ?_
    have hmo := hL _ (List.getElem_mem hc.1)
    have hA2 : At W F' x.cb (wns p0 p1 p2) 0 m w9.drew := ⟨y, hI2, hcb2, hwe2, hwf2, h.drew⟩
    refine (step_st (by decide) hA2 (by omega) hmo.1 hmo.2).mono ?_
    intro (r : Bool) w10 ⟨hr, hA⟩
    rw [hr, SplitB_iff]
    refine ⟨fun hf => (by cases hf), fun _ => ?_⟩
    exact hk _ _ ⟨m + 1, rfl, by omega, by omega, hA⟩ (by dsimp only; omega)
  · refine RunN.arr rfl 0 rfl (by decide) ?_
    refine h.loadB 11 0 (j := 0 + 0) ⟨_, rfl, rfl⟩ rfl (kd := .int .i64) (x := wns p0 p1 p2 0) rfl ?_
    refine (sound0 (by decide) hA (by omega) (k := 0) (by decide)).mono ?_
    intro (r : Bool) w10 ⟨hr, hA⟩
    rw [hr, SplitB_iff]
    refine ⟨fun _ => ?_, fun hf => (by cases hf)⟩
    obtain ⟨y, hI2, hcb2, hwe2, hwf2, h⟩ := hcell hA
    refine RunN.arr rfl 1 rfl (by decide) ?_
    refine h.loadB 11 0 (j := 0 + 1) ⟨_, rfl, rfl⟩ rfl (kd := .int .i64) (x := wns p0 p1 p2 1) rfl ?_
    refine (sound0 (by decide) hA (by omega) (k := 1) (by decide)).mono ?_
    intro (r : Bool) w11 ⟨hr, x3, _, _, _, _, h⟩
    exact ⟨hr, h.upd⟩
theorem law6 {s : Sl} {L : List Mo} (hs : Rd W s 4 (movs L) ∧ ∀ m ∈ L, m.ok ∧ Rd W m.d.1 1 (bys m.d.2)) {p0 p1 p2 : Int} (r0 : -9223372036854775808 ≤ p0 ∧ p0 ≤ 9223372036854775807) (r1 : -9223372036854775808 ≤ p1 ∧ p1 ≤ 9223372036854775807) (r2 : -9223372036854775808 ≤ p2 ∧ p2 ≤ 9223372036854775807) :
    CallK Try.prog .bool 6 #[.int .i64 p0, .int .i64 p1, .int .i64 p2, .slice s.a s.len s.cap] W fun (r : Bool) w' => Upd W w' nobody ∧ r = true :=
  (once_st hs.1 hs.2 r0 r1 r2).mono fun _ _ h => ⟨h.2, h.1⟩
end Go.Proofs.Ytodgnpmljdopiaa

/- What a law of the link reads of its arguments: a play. -/
namespace Go.Proofs.Ytodgnpmljdopiaa
open Go.ChangeShapes Go.WideShapes Go.ChangeAt Go.RowKit Go Go.Fw
set_option linter.unusedVariables false
set_option linter.unusedSimpArgs false
set_option maxRecDepth 20000

theorem u39 : Try.prog.underlying 39 = some (.slice 47) := by kernel_rfl
noncomputable def fields47 : Array Field := match Try.prog.underlying 47 with | some (.struct fs) => fs | _ => #[]
theorem u47 : Try.prog.underlying 47 = some (.struct fields47) := by kernel_rfl
theorem f47 : fields47.toList.map (fun f => (f.type, f.offset)) = [(3, 0), (3, 1), (3, 2), (45, 3)] := by kernel_rfl
theorem field_of {fs : Array Field} {l : List (TypeId × Nat)} (h : fs.toList.map (fun f => (f.type, f.offset)) = l) {i : Nat} {p : TypeId × Nat} (hi : l[i]? = some p) : ∃ f, fs[i]? = some f ∧ f.type = p.1 ∧ f.offset = p.2 := by
  rw [← h, List.getElem?_map, Option.map_eq_some_iff] at hi
  obtain ⟨f, hf, rfl⟩ := hi
  exact ⟨f, by simpa using hf, rfl, rfl⟩
theorem mo_of {H : Type} {enc : TypeId × Value → H} {W : World} {base : Nat} {spare : Nat → Bool} {held : Bool} {n : Nat} {c : List Value} {y : DataW H × List MemPlace} (hc : c.length = 4)
    (hd : DataW.trod enc Try.prog W base spare held n 47 c = some y) (hw : Wt Try.prog 47 y.1) : ∃ m : Mo, c = mov m ∧ m.ok ∧ Rd W m.d.1 1 (bys m.d.2) := by
  have hf := open_fields u47 hd hw
  have c3 : Try.prog.cellsOf 3 = 1 := by kernel_rfl
  have c45 : Try.prog.cellsOf 45 = 1 := by kernel_rfl
  obtain ⟨g0, h0, t0, o0⟩ := field_of f47 (i := 0) rfl
  obtain ⟨g1, h1, t1, o1⟩ := field_of f47 (i := 1) rfl
  obtain ⟨g2, h2, t2, o2⟩ := field_of f47 (i := 2) rfl
  obtain ⟨g3, h3, t3, o3⟩ := field_of f47 (i := 3) rfl
  obtain ⟨n0, y0, e0, _⟩ := hf 0 g0 h0
  obtain ⟨n1, y1, e1, _⟩ := hf 1 g1 h1
  obtain ⟨n2, y2, e2, _⟩ := hf 2 g2 h2
  obtain ⟨n3, y3, e3, w3⟩ := hf 3 g3 h3
  rw [t0, o0, c3] at e0
  rw [t1, o1, c3] at e1
  rw [t2, o2, c3] at e2
  rw [t3, o3, c45] at e3
  rw [t3] at w3
  obtain ⟨a0, ha0, _, wa0⟩ := DataW.trod_int u3 e0
  obtain ⟨a1, ha1, _, wa1⟩ := DataW.trod_int u3 e1
  obtain ⟨a2, ha2, _, wa2⟩ := DataW.trod_int u3 e2
  obtain ⟨s, l, hs, hr, hl⟩ := open_bys u45 u5 (by kernel_rfl) (by kernel_rfl) e3 w3
  refine ⟨⟨a0, a1, a2, (s, l)⟩, ?_, ⟨wf_i64 wa0, wf_i64 wa1, wf_i64 wa2, Nat.le_trans hl (Nat.le_of_eq rfl)⟩, hr⟩
  match c, hc with
  | [x0, x1, x2, x3], _ =>
    simp at ha0 ha1 ha2 hs
    subst ha0; subst ha1; subst ha2; subst hs
    rfl
theorem movs_of {H : Type} {enc : TypeId × Value → H} {W : World} {base b : Nat} {spare : Nat → Bool} {held : Bool} {v : Value} {d : DataW H} {ps : List MemPlace} (hval : Value.okWide Try.prog W .any b 39 v)
    (hd : DataW.Trod enc Try.prog W base spare held 39 v d ps) (hw : Wt Try.prog 39 d) : ∃ (s : Sl) (L : List Mo), v = .slice s.a s.len s.cap ∧ Rd W s 4 (movs L) ∧ ∀ m ∈ L, m.ok ∧ Rd W m.d.1 1 (bys m.d.2) := by
  obtain ⟨a0, len, cap, rfl⟩ := okWide_slice u39 hval
  obtain ⟨fuel0, hf⟩ := hd
  obtain ⟨s, els, hcs, hl, hr, _, hel⟩ := open_rd u39 (sz := 4) (by kernel_rfl) (by decide) hf hw
  have : ∃ L : List Mo, els.flatten = movs L ∧ ∀ m ∈ L, m.ok ∧ Rd W m.d.1 1 (bys m.d.2) := by
    clear hl hr hcs
    induction els with
    | nil => exact ⟨[], rfl, fun m hm => by cases hm⟩
    | cons c r ih =>
      obtain ⟨L, e, hL⟩ := ih fun c hc => hel c (List.mem_cons_of_mem _ hc)
      obtain ⟨hc1, n, y, hy, hwy⟩ := hel c (List.mem_cons_self ..)
      obtain ⟨m, rfl, hm⟩ := mo_of hc1 hy hwy
      refine ⟨m :: L, by rw [List.flatten_cons, e]; rfl, fun z hz => ?_⟩
      rcases List.mem_cons.1 hz with rfl | hz
      · exact hm
      · exact hL z hz
  obtain ⟨L, e, hL⟩ := this
  rw [e] at hr
  simp [Value.cells] at hcs
  obtain ⟨rfl, rfl, rfl⟩ := hcs
  exact ⟨s, L, rfl, hr, hL⟩
end Go.Proofs.Ytodgnpmljdopiaa

/- A list of segments comes, one by one: what the receiver becomes. -/
namespace Go.Proofs.Ytodgnpmljdopiaa
open Go Go.Fw Go.RowKit
set_option linter.unusedVariables false
set_option linter.unusedSimpArgs false
set_option maxRecDepth 4000
set_option maxHeartbeats 8000000

/-- The receiver takes these, in this order. -/
inductive Pass (x : Ln) : List Sg → Ln → Prop
  | nil : Pass x [] x
  | snoc {gs : List Sg} {y : Ln} {g : Sg} {us : Sl} {mc : Nat} {u l : List Ea} : Pass x gs y → y.e.wf → TakeR y.e.toLk g u l → y.e.fits g = true →
      Pass x (gs ++ [g]) { y with e := y.e.took g us mc u.length l, of := y.of + u.length }
structure Same (x y : Ln) : Prop where
  f : y.f = x.f
  ie : y.ie = x.ie
  jf : y.jf = x.jf
  oe : y.oe = x.oe
  ps : y.ps = x.ps
  pool : y.pool = x.pool
  gh : y.gh = x.gh
  cb : y.cb = x.cb
  g8 : y.g8 = x.g8
  p : y.e.p = x.e.p
  win : y.e.win = x.e.win
  res : y.e.res = x.e.res
  me : y.e.me = x.e.me
  peer : y.e.peer = x.e.peer
  bx : y.e.bx = x.e.bx
  last : y.e.last = x.e.last
  gone : y.e.gone = x.e.gone
  du : y.e.du = x.e.du
  ag : y.e.ag = x.e.ag
theorem Pass.same {x y : Ln} {gs : List Sg} (h : Pass x gs y) : Same x y := by
  induction h with
  | nil => exact ⟨rfl, rfl, rfl, rfl, rfl, rfl, rfl, rfl, rfl, rfl, rfl, rfl, rfl, rfl, rfl, rfl, rfl, rfl, rfl⟩
  | snoc _ _ _ _ ih => exact ⟨ih.f, ih.ie, ih.jf, ih.oe, ih.ps, ih.pool, ih.gh, ih.cb, ih.g8, ih.p, ih.win, ih.res, ih.me, ih.peer, ih.bx, ih.last, ih.gone, ih.du, ih.ag⟩
theorem Pass.un {x y : Ln} {gs : List Sg} (h : Pass x gs y) : ∃ d, y.e.un = x.e.un.drop d := by
  induction h with
  | nil => exact ⟨0, rfl⟩
  | @snoc gs y g us mc u l _ _ _ _ ih =>
    obtain ⟨d, hd⟩ := ih
    refine ⟨d + ackd y.e.un g.ack, ?_⟩
    show y.e.un.drop (ackd y.e.un g.ack) = _
    rw [hd, List.drop_drop]
theorem Pass.ow {x y : Ln} {gs : List Sg} (h : Pass x gs y) : y.e.ow = true ↔ (x.e.ow = true ∨ ∃ g ∈ gs, g.seq ≠ 0) := by
  induction h with
  | nil => simp
  | @snoc gs y g us mc u l _ _ _ _ ih =>
    show (if g.seq = 0 then y.e.ow else true) = true ↔ _
    by_cases hg : g.seq = 0
    · rw [if_pos hg, ih]
      constructor
      · rintro (h | ⟨a, ha, h⟩)
        · exact .inl h
        · exact .inr ⟨a, List.mem_append_left _ ha, h⟩
      · rintro (h | ⟨a, ha, h⟩)
        · exact .inl h
        · rcases List.mem_append.1 ha with ha | ha
          · exact .inr ⟨a, ha, h⟩
          · simp at ha; subst ha; exact absurd hg h
    · rw [if_neg hg]
      simp only [true_iff]
      exact .inr ⟨g, by simp, hg⟩
theorem ackd_rest {e : Lk} (hw : e.wf) {a : Int} : ∀ p ∈ e.un.drop (ackd e.un a), a < p.1 := by
  intro p hp
  obtain ⟨i, hi, rfl⟩ := List.mem_iff_getElem.1 hp
  rw [List.length_drop] at hi
  rw [List.getElem_drop]
  have hlt : ackd e.un a < e.un.length := by omega
  have h0 : a < (e.un[ackd e.un a]'hlt).1 := by
    have : ∀ (l : List Pc) (h : ackd l a < l.length), a < (l[ackd l a]'h).1 := by
      intro l
      induction l with
      | nil => intro h; simp at h
      | cons x r ih =>
        intro h
        by_cases hx : x.1 ≤ a
        · have e1 : ackd (x :: r) a = ackd r a + 1 := by rw [ackd, ackd, List.takeWhile_cons]; simp [hx]
          simp only [e1, List.getElem_cons_succ]
          exact ih (by rw [e1] at h; simpa using h)
        · have e1 : ackd (x :: r) a = 0 := by rw [ackd, List.takeWhile_cons]; simp [hx]
          simp only [e1, List.getElem_cons_zero]
          omega
    exact this _ hlt
  have h1 : ∀ (k : Nat) (hk : k < e.un.length), (e.un[k]'hk).1 = e.last - (e.un.length + e.bx.length : Nat) + 1 + k := by
    intro k hk
    have := hw.seq k (by rw [List.length_append]; omega)
    rwa [List.getElem_append_left hk] at this
  have h2 := h1 _ hlt
  have h3 := h1 (ackd e.un a + i) (by omega)
  omega
theorem Pass.acked {x y : Ln} {gs : List Sg} (h : Pass x gs y) {a : Int} (hg : ∃ g ∈ gs, g.ack = a) : ∀ p ∈ y.e.un, a < p.1 := by
  induction h with
  | nil => obtain ⟨g, hg, _⟩ := hg; cases hg
  | @snoc gs y g us mc u l _ hw _ _ ih =>
    intro p hp
    have hp : p ∈ y.e.un.drop (ackd y.e.un g.ack) := hp
    obtain ⟨g', hg', ha⟩ := hg
    rcases List.mem_append.1 hg' with h1 | h1
    · exact ih ⟨g', h1, ha⟩ p (List.mem_of_mem_drop hp)
    · simp at h1; subst h1
      rw [← ha]
      exact ackd_rest hw p hp
theorem take_want {e : Lk} (hw : e.wf) {g : Sg} {u l : List Ea} (ht : TakeR e g u l) (hs : g.seq ≠ 0) (h : g.seq ≤ e.want) : g.seq + 1 ≤ e.want + u.length := by
  by_cases h1 : g.seq < e.want
  · omega
  · have hse : g.seq = e.want := by omega
    have hwin := hw.win
    have hn : e.news g := ⟨hs, fun x hx hk => by have := (hw.erange x hx).1; omega, by omega, by omega⟩
    obtain ⟨s, c, hp, hk, hl⟩ := ht.yes hn
    rcases Nat.eq_zero_or_pos u.length with h0 | h0
    · exfalso
      have hu : u = [] := List.eq_nil_of_length_eq_zero h0
      subst hu
      have := hl ((g.seq, s, g.d.2), c) (by
        have := hp.mem_iff.1 (List.mem_append_right e.ea (List.mem_singleton.2 rfl))
        simpa using this)
      simp at this
      omega
    · omega
theorem Pass.want {x y : Ln} {gs : List Sg} (h : Pass x gs y) {q : Nat} {d : Int} (hq : ∀ (i : Nat) (hi : i < gs.length), gs[i].seq = if i < q then 0 else d + (i - q : Nat) + 1) (hd : 0 ≤ d) (hx : d + 1 ≤ x.e.want) : d + (gs.length - q : Nat) + 1 ≤ y.e.want := by
  induction h with
  | nil => simpa using hx
  | @snoc gs y g us mc u l hp hw ht hf ih =>
    have h1 := ih (fun i hi => by
      have := hq i (by simp; omega)
      rwa [List.getElem_append_left hi] at this)
    have h2 := hq gs.length (by simp)
    rw [List.getElem_append_right (Nat.le_refl _)] at h2
    simp only [Nat.sub_self, List.getElem_cons_zero] at h2
    show d + ((gs ++ [g]).length - q : Nat) + 1 ≤ y.e.want + u.length
    have h4 : (gs ++ [g]).length = gs.length + 1 := by simp
    rw [h4]
    by_cases h3 : gs.length < q
    · omega
    · rw [if_neg h3] at h2
      have := take_want hw ht (by omega) (by omega)
      omega
/-- The numbers of what is told. -/
theorem outs_seq {e : Lk} (hw : e.wf) (hall : e.un = [] ∨ e.du = true) {gs : List Sg} (hg : gs.map Sg.pl = e.tells e.outs) :
    ∃ q, gs.length = q + (e.un.length + e.bx.length) ∧ ∀ (i : Nat) (hi : i < gs.length), gs[i].seq = if i < q then 0 else (e.last - (e.un.length + e.bx.length : Nat)) + (i - q : Nat) + 1 := by
  have ho : e.outs = (if e.ow = true then [ackP] else []) ++ (e.un ++ e.bx) := by
    rw [Lk.outs]
    rcases hall with h | h
    · rw [h]; simp
    · rw [h]; simp
  rw [ho] at hg
  have hlen := congrArg List.length hg
  simp only [Lk.tells, List.length_map, List.length_append] at hlen
  refine ⟨(if e.ow = true then [ackP] else []).length, by omega, fun i hi => ?_⟩
  have h1 : (gs.map Sg.pl)[i]? = (e.tells ((if e.ow = true then [ackP] else []) ++ (e.un ++ e.bx)))[i]? := by rw [hg]
  have hi2 : i < ((if e.ow = true then [ackP] else []) ++ (e.un ++ e.bx)).length := by simp only [List.length_append]; omega
  rw [Lk.tells, List.getElem?_map, List.getElem?_map, List.getElem?_eq_getElem hi, List.getElem?_eq_getElem hi2] at h1
  simp only [Option.map_some, Option.some.injEq, Sg.pl, Prod.mk.injEq] at h1
  rw [h1.2.2.1]
  by_cases hq : i < (if e.ow = true then [ackP] else []).length
  · rw [if_pos hq, List.getElem_append_left hq]
    have : ∀ p ∈ (if e.ow = true then [ackP] else []), p.1 = 0 := by
      intro p hp
      split at hp
      · simp at hp; rw [hp]; rfl
      · cases hp
    exact this _ (List.getElem_mem hq)
  · rw [if_neg hq, List.getElem_append_right (by omega)]
    have hk : i - (if e.ow = true then [ackP] else []).length < (e.un ++ e.bx).length := by simp only [List.length_append] at hi2 ⊢; omega
    have := hw.seq _ hk
    rw [this]; omega
theorem outs_ack {e : Lk} {gs : List Sg} (hg : gs.map Sg.pl = e.tells e.outs) : ∀ g ∈ gs, g.ack = e.want - 1 := by
  intro g h
  have h2 : g.pl ∈ e.tells e.outs := by rw [← hg]; exact List.mem_map.2 ⟨g, h, rfl⟩
  obtain ⟨p, hp1, hp2⟩ := List.mem_map.1 h2
  simp only [Sg.pl, Prod.mk.injEq] at hp2
  exact hp2.2.2.2.1.symm
end Go.Proofs.Ytodgnpmljdopiaa

/- One round of two ends that tell each other all they have. -/
namespace Go.Proofs.Ytodgnpmljdopiaa
open Go Go.Fw Go.RowKit
set_option linter.unusedVariables false
set_option linter.unusedSimpArgs false
set_option maxRecDepth 4000
set_option maxHeartbeats 8000000

def outg (x : Ln) (us : Sl) (gs : List Sg) : Ln := { x with e := x.e.outed us, gh := x.gh ++ gs, g8 := x.g8 ++ outD gs }
structure Round (n : Nat) (x : Ln) (gA gB : List Sg) (y z : Ln) (ua ub : Sl) : Prop where
  ix : LnI 0 n x
  iy : LnI 1 n y
  iz : LnI 0 n z
  a : gA.map Sg.pl = x.e.tells x.e.outs
  pa : Pass (outg x ua gA).sw gA y
  b : gB.map Sg.pl = y.e.tells y.e.outs
  pb : Pass (outg y ub gB).sw gB z
theorem un_nil {e : Lk} (hw : e.wf) {a : Int} (h : ∀ p ∈ e.un, a < p.1) (ha : e.last ≤ a) : e.un = [] := by
  cases hu : e.un with
  | nil => rfl
  | cons p r =>
    exfalso
    have h1 := h p (by rw [hu]; exact List.mem_cons_self ..)
    have h2 := hw.seq 0 (by rw [hu]; simp)
    have h3 : (e.un ++ e.bx)[0]'(by rw [hu]; simp) = p := by simp [hu]
    rw [h3] at h2
    have h4 : 0 < e.un.length := by rw [hu]; simp
    omega
section
variable {n : Nat} {x y z : Ln} {gA gB : List Sg} {ua ub : Sl}
theorem Round.facts (r : Round n x gA gB y z ua ub) : z.f = y.e.outed ub ∧ z.e.bx = [] ∧ z.e.du = false ∧ z.e.last = x.e.last ∧ y.e.bx = x.f.bx ∧ y.e.last = x.f.last ∧ y.e.du = x.f.du ∧ y.e.ag = x.f.ag ∧ (∃ d, y.e.un = x.f.un.drop d) ∧
    (∃ d, z.e.un = (x.e.un ++ x.e.bx).drop d) ∧ z.e.ag = (x.e.outed ua).ag ∧ y.f = x.e.outed ua := by
  have s1 := r.pa.same
  have s2 := r.pb.same
  have e1 : y.f = x.e.outed ua := s1.f
  refine ⟨s2.f, ?_, ?_, ?_, s1.bx, s1.last, s1.du, s1.ag, r.pa.un, ?_, ?_, e1⟩
  · have := s2.bx
    rw [this]; show y.f.bx = []
    rw [e1]; rfl
  · have := s2.du
    rw [this]; show y.f.du = false
    rw [e1]; rfl
  · have := s2.last
    rw [this]; show y.f.last = _
    rw [e1]; rfl
  · obtain ⟨d, hd⟩ := r.pb.un
    refine ⟨d, ?_⟩
    rw [hd]; show y.f.un.drop d = _
    rw [e1]; rfl
  · have := s2.ag
    rw [this]; show y.f.ag = _
    rw [e1]
theorem Round.first (r : Round n x gA gB y z ua ub) (h : x.e.un = [] ∨ x.e.du = true) : z.e.un = [] := by
  obtain ⟨f1, f2, f3, f4, f5, f6, f7, f8, f9, ⟨d2, f10⟩, f11, f12⟩ := r.facts
  by_cases h0 : x.e.un.length + x.e.bx.length = 0
  · have : x.e.un ++ x.e.bx = [] := List.eq_nil_of_length_eq_zero (by rw [List.length_append]; exact h0)
    rw [f10, this]; simp
  · obtain ⟨q, hq1, hq2⟩ := outs_seq r.ix.we h r.a
    have hlow := r.ix.we.low
    have hdone := r.ix.ef.done
    have hwant := r.ix.ef.want
    have hw := r.pa.want hq2 (by omega) (by show _ ≤ x.f.want; omega)
    have how : y.e.ow = true := by
      rw [r.pa.ow]
      refine .inr ⟨gA[q]'(by omega), List.getElem_mem _, ?_⟩
      rw [hq2 q (by omega), if_neg (by omega)]
      omega
    have hmem : ∃ g ∈ gB, g.ack = y.e.want - 1 := by
      have hne : 0 < gB.length := by
        have := congrArg List.length r.b
        simp only [Lk.tells, Lk.outs, how, List.length_map, List.length_append] at this
        simp at this; omega
      exact ⟨gB[0], List.getElem_mem hne, outs_ack r.b _ (List.getElem_mem hne)⟩
    exact un_nil r.iz.we (r.pb.acked hmem) (by rw [f4]; omega)
theorem Round.second (r : Round n x gA gB y z ua ub) (h : y.e.un = [] ∨ y.e.du = true) : z.f.un = [] ∨ (z.e.ow = true ∧ z.e.want = z.f.last + 1) := by
  obtain ⟨f1, f2, f3, f4, f5, f6, f7, f8, f9, f10, f11, f12⟩ := r.facts
  by_cases h0 : y.e.un.length + y.e.bx.length = 0
  · left
    have : y.e.un ++ y.e.bx = [] := List.eq_nil_of_length_eq_zero (by rw [List.length_append]; exact h0)
    rw [f1]; exact this
  · right
    obtain ⟨q, hq1, hq2⟩ := outs_seq r.iy.we h r.b
    have hlow := r.iy.we.low
    have hdone := r.iy.ef.done
    have hwant := r.iy.ef.want
    have hw := r.pb.want hq2 (by omega) (by show _ ≤ y.f.want; omega)
    refine ⟨?_, ?_⟩
    · rw [r.pb.ow]
      refine .inr ⟨gB[q]'(by omega), List.getElem_mem _, ?_⟩
      rw [hq2 q (by omega), if_neg (by omega)]
      omega
    · have h1 := r.iz.fe.want
      have h2 := r.iz.fe.og
      have h3 := r.iz.wf.gone
      have h4 : z.f.last = y.e.last := by rw [f1]; rfl
      omega
/-- Behind a round: an end has nothing out any more, or its clock goes on. -/
structure Idle (x0 z : Ln) : Prop where
  ebx : z.e.bx = []
  edu : z.e.du = false
  fbx : z.f.bx = []
  fdu : z.f.du = false
  fow : z.f.ow = false
  ce : z.e.un = [] ∨ (z.e.ag = x0.e.ag ∧ x0.e.un ≠ [] ∧ x0.e.du = false)
  cf : (z.f.un = [] ∨ (z.f.ag = x0.f.ag ∧ x0.f.un ≠ [] ∧ x0.f.du = false)) ∨ (z.e.ow = true ∧ z.e.want = z.f.last + 1)
theorem Round.ow0 (r : Round n x gA gB y z ua ub) (h : gB = []) : z.e.ow = false := by
  obtain ⟨f1, f2, f3, f4, f5, f6, f7, f8, f9, f10, f11, f12⟩ := r.facts
  cases hz : z.e.ow with
  | false => rfl
  | true =>
    have := r.pb.ow.1 hz
    subst h
    rcases this with h1 | ⟨g, hg, _⟩
    · have h2 : y.f.ow = true := h1
      rw [f12] at h2
      cases h2
    · cases hg
theorem Round.idle (r : Round n x gA gB y z ua ub) : Idle x z := by
  obtain ⟨f1, f2, f3, f4, f5, f6, f7, f8, ⟨d, f9⟩, f10, f11, f12⟩ := r.facts
  refine ⟨f2, f3, by rw [f1]; rfl, by rw [f1]; rfl, by rw [f1]; rfl, ?_, ?_⟩
  · by_cases h : x.e.un = [] ∨ x.e.du = true
    · exact .inl (r.first h)
    · rw [not_or] at h
      have h2 : ¬ x.e.un.length = 0 := fun h0 => h.1 (List.eq_nil_of_length_eq_zero h0)
      refine .inr ⟨?_, h.1, by simpa using h.2⟩
      rw [f11]
      show (if x.e.un.length = 0 ∧ 0 < x.e.bx.length then 0 else x.e.ag) = x.e.ag
      rw [if_neg (fun hh => h2 hh.1)]
  · by_cases h : y.e.un = [] ∨ y.e.du = true
    · rcases r.second h with h1 | h1
      · exact .inl (.inl h1)
      · exact .inr h1
    · rw [not_or] at h
      left; right
      have h2 : ¬ y.e.un.length = 0 := fun h0 => h.1 (List.eq_nil_of_length_eq_zero h0)
      refine ⟨?_, fun h0 => h.1 (by rw [f9, h0]; simp), by rw [← f7]; simpa using h.2⟩
      rw [f1, ← f8]
      show (if y.e.un.length = 0 ∧ 0 < y.e.bx.length then 0 else y.e.ag) = y.e.ag
      rw [if_neg (fun hh => h2 hh.1)]
theorem Round.again (r : Round n x gA gB y z ua ub) {x0 : Ln} (hi : Idle x0 x) : gB = [] ∧ (x.e.ow = false → gA = []) ∧ Idle x0 z ∧ z.e.ow = false := by
  obtain ⟨f1, f2, f3, f4, f5, f6, f7, f8, ⟨d, f9⟩, ⟨d2, f10⟩, f11, f12⟩ := r.facts
  have hA : x.e.outs = if x.e.ow = true then [ackP] else [] := by rw [Lk.outs, hi.ebx, hi.edu]; simp
  have hAq : ∀ g ∈ gA, g.seq = 0 := by
    intro g hg
    have h2 : g.pl ∈ x.e.tells x.e.outs := by rw [← r.a]; exact List.mem_map.2 ⟨g, hg, rfl⟩
    obtain ⟨p, hp1, hp2⟩ := List.mem_map.1 h2
    simp only [Sg.pl, Prod.mk.injEq] at hp2
    rw [← hp2.2.2.1]
    rw [hA] at hp1
    split at hp1
    · simp at hp1; rw [hp1]; rfl
    · cases hp1
  have hyow : y.e.ow = false := by
    cases hz : y.e.ow with
    | false => rfl
    | true =>
      rcases r.pa.ow.1 hz with h1 | ⟨g, hg, h1⟩
      · have h2 : x.f.ow = true := h1
        rw [hi.fow] at h2; cases h2
      · exact absurd (hAq g hg) h1
  have hB : gB = [] := by
    have := r.b
    rw [Lk.outs, hyow, f5, f7, hi.fbx, hi.fdu] at this
    simpa [Lk.tells] using this
  have hzow := r.ow0 hB
  refine ⟨hB, fun h => ?_, ?_, hzow⟩
  · have := r.a
    rw [hA, h] at this
    simpa [Lk.tells] using this
  · have hea : z.e.ag = x.e.ag := by
      rw [f11]
      show (if x.e.un.length = 0 ∧ 0 < x.e.bx.length then 0 else x.e.ag) = x.e.ag
      rw [hi.ebx, if_neg (by simp)]
    have hfa : z.f.ag = x.f.ag := by
      rw [f1, ← f8]
      show (if y.e.un.length = 0 ∧ 0 < y.e.bx.length then 0 else y.e.ag) = y.e.ag
      rw [f5, hi.fbx, if_neg (by simp)]
    have hfu : z.f.un = y.e.un := by
      rw [f1]; show y.e.un ++ y.e.bx = _
      rw [f5, hi.fbx, List.append_nil]
    refine ⟨f2, f3, by rw [f1]; rfl, by rw [f1]; rfl, by rw [f1]; rfl, ?_, .inl ?_⟩
    · rcases hi.ce with h1 | h1
      · left; rw [f10, h1, hi.ebx]; simp
      · right; rw [hea]; exact h1
    · rcases hi.cf with (h1 | h1) | ⟨h1, h2⟩
      · left; rw [hfu, f9, h1]; simp
      · right; rw [hfa]; exact h1
      · left
        rw [hfu]
        have hmem : ∃ g ∈ gA, g.ack = x.e.want - 1 := by
          have hne : 0 < gA.length := by
            have := congrArg List.length r.a
            rw [hA, h1] at this
            simp [Lk.tells] at this; omega
          exact ⟨gA[0], List.getElem_mem hne, outs_ack r.a _ (List.getElem_mem hne)⟩
        exact un_nil r.iy.we (r.pa.acked hmem) (by rw [f6]; omega)
end
end Go.Proofs.Ytodgnpmljdopiaa

namespace Go.Proofs.Ytodgnpmljdopiaa
open Go Go.Fw Go.Proofs
set_option maxRecDepth 100000
set_option linter.unusedVariables false

/-- sluice/sluicelaw3.LinkCalm -/
def T7 (p0 : Int) (p1 : Int) (p2 : Int) (p3 : Sl) (p4 : Sl) (w : World) (K : Bool → World → Prop) : Prop :=
  CallK Try.prog .bool 9 #[] w fun t19 w =>
  CallK Try.prog .ptr 16 #[.int .i64 p0, .int .i64 p1, .int .i64 p2] w fun t23 w =>
  JoinX (α := Bool × Unit) (fun j2 w =>
    SplitB j2.1
      (K false w)
      (CallK Try.prog (.int .i64) 17 #[.int .i64 p0, .int .i64 1, .int .i64 16] w fun t31 w =>
      CallK Try.prog (.int .i64) 17 #[.int .i64 p1, .int .i64 1, .int .i64 16] w fun t33 w =>
      RunN Try.prog .addr (V (Instr.alloc 43 true (.tuple #[]))) w fun t13 w =>
      RunU Try.prog (U (Instr.storeAt 43 (.pointer (some t13)) (.agg #[.int .i64 t31, .int .i64 t33]))) w fun w =>
      LoopX (α := Int × Unit) (fun s3 w k4 =>
        JoinX (α := Bool × Unit) (fun j6 w =>
          SplitB j6.1
            (ReadN Try.prog .addr (V (Instr.indexAt 39 (.slice p3.a p3.len p3.cap) (.int .i64 s3.1))) w.drew fun t48 =>
            ReadN Try.prog (.agg (.cons (.int .i64) (.cons (.int .i64) (.cons (.int .i64) (.cons .sl .nilT))))) (V (Instr.loadAt 47 (.pointer (some t48)))) w.drew fun t49 =>
            ReadN Try.prog (.agg (.cons (.int .i64) (.cons (.int .i64) .nilT))) (V (Instr.loadAt 43 (.pointer (some t13)))) w.drew fun t50 =>
            CallK Try.prog .bool 18 #[.pointer t23, .agg #[.int .i64 t49.1, .int .i64 t49.2.1, .int .i64 t49.2.2.1, .slice t49.2.2.2.1.a t49.2.2.2.1.len t49.2.2.2.1.cap], .agg #[.int .i64 t50.1, .int .i64 t50.2.1]] w.drew fun t51 w =>
            SplitB (!t51)
              (K false w)
              (k4 (IntKind.i64.wrap (s3.1 + 1), ()) w))
            (JoinX (α := Bool × Unit) (fun j8 w =>
              SplitB (!j8.1)
                (K false w)
                (CallK Try.prog (.int .i64) 17 #[.int .i64 p2, .int .i64 1, .int .i64 20] w fun t68 w =>
                LoopX (α := Int × Unit) (fun s9 w k10 =>
                  SplitB (decide (s9.1 < t68))
                    (NilP t23 fun t75 =>
                    RunN Try.prog .addr (V (Instr.indexAt 50 (.pointer (some (t75.add 0))) (.int .i64 0))) w fun t77 w =>
                    RunN Try.prog .ptr (V (Instr.loadAt 26 (.pointer (some t77)))) w fun t78 w =>
                    CallK Try.prog (.tup .nilT) 20 #[.pointer t78] w fun t79 w =>
                    NilP t23 fun t81 =>
                    RunN Try.prog .addr (V (Instr.indexAt 50 (.pointer (some (t81.add 0))) (.int .i64 1))) w fun t83 w =>
                    RunN Try.prog .ptr (V (Instr.loadAt 26 (.pointer (some t83)))) w fun t84 w =>
                    CallK Try.prog (.tup .nilT) 20 #[.pointer t84] w fun t85 w =>
                    CallK Try.prog .bool 21 #[.pointer t23] w fun t87 w =>
                    SplitB (!t87)
                      (K false w)
                      (k10 (IntKind.i64.wrap (s9.1 + 1), ()) w))
                    (LoopX (α := Int × Unit) (fun s11 w k12 =>
                      SplitB (decide (s11.1 < 2))
                        (JoinX (α := Bool × Unit) (fun j14 w =>
                          SplitB j14.1
                            (K false w)
                            (k12 (IntKind.i64.wrap (s11.1 + 1), ()) w))
                        fun k13 =>
                          NilP t23 fun t95 =>
                          ReadN Try.prog .addr (V (Instr.indexAt 43 (.pointer (some (t95.add 4))) (.int .i64 s11.1))) w.drew fun t97 =>
                          ReadN Try.prog (.int .i64) (V (Instr.loadAt 3 (.pointer (some t97)))) w.drew fun t98 =>
                          NilP t23 fun t101 =>
                          ReadN Try.prog .addr (V (Instr.indexAt 52 (.pointer (some (t101.add 2))) (.int .i64 s11.1))) w.drew fun t103 =>
                          ReadN Try.prog .sl (V (Instr.loadAt 51 (.pointer (some t103)))) w.drew fun t104 =>
                          SplitB (t98 != (t104.len : Int))
                            (k13 (true, ()) w.drew)
                            (NilP t23 fun t110 =>
                            ReadN Try.prog .addr (V (Instr.indexAt 50 (.pointer (some (t110.add 0))) (.int .i64 s11.1))) w.drew fun t112 =>
                            ReadN Try.prog .ptr (V (Instr.loadAt 26 (.pointer (some t112)))) w.drew fun t113 =>
                            CallK Try.prog .sl 14 #[.pointer t113] w.drew fun t114 w =>
                            SplitB ((t114.len : Int) != 0)
                              (k13 (true, ()) w)
                              (NilP t23 fun t121 =>
                              ReadN Try.prog .addr (V (Instr.indexAt 50 (.pointer (some (t121.add 0))) (.int .i64 s11.1))) w fun t123 =>
                              ReadN Try.prog .ptr (V (Instr.loadAt 26 (.pointer (some t123)))) w fun t124 =>
                              ReadN Try.prog .addr (V (Instr.indexAt 43 (.pointer (some t13)) (.int .i64 s11.1))) w fun t127 =>
                              ReadN Try.prog (.int .i64) (V (Instr.loadAt 3 (.pointer (some t127)))) w fun t128 =>
                              CallK Try.prog (.int .i64) 12 #[.pointer t124] w fun t125 w =>
                              StillV Try.prog (V (Instr.loadAt 3 (.pointer (some t127)))) (.int .i64 t128) w ∧
                              StillV Try.prog (V (Instr.indexAt 43 (.pointer (some t13)) (.int .i64 s11.1))) (.pointer (some t127)) w ∧
                              k13 (t125 != t128, ()) w)))
                        (NilP t23 fun t132 =>
                        RunN Try.prog .addr (V (Instr.indexAt 50 (.pointer (some (t132.add 0))) (.int .i64 0))) w fun t134 w =>
                        RunN Try.prog .ptr (V (Instr.loadAt 26 (.pointer (some t134)))) w fun t135 w =>
                        CallK Try.prog .sl 13 #[.pointer t135] w fun t136 w =>
                        SplitB ((t136.len : Int) == 0)
                          (NilP t23 fun t141 =>
                          RunN Try.prog .addr (V (Instr.indexAt 50 (.pointer (some (t141.add 0))) (.int .i64 1))) w fun t143 w =>
                          RunN Try.prog .ptr (V (Instr.loadAt 26 (.pointer (some t143)))) w fun t144 w =>
                          CallK Try.prog .sl 13 #[.pointer t144] w fun t145 w =>
                          K ((t145.len : Int) == 0) w)
                          (K false w)))
                    (0, ()) w))
                (0, ()) w))
            fun k7 =>
              RunN Try.prog (.agg (.cons (.int .i64) (.cons (.int .i64) .nilT))) (V (Instr.loadAt 43 (.pointer (some t13)))) w fun t56 w =>
              CallK Try.prog .bool 18 #[.pointer t23, .agg #[.int .i64 0, .int .i64 0, .int .i64 0, .slice p4.a p4.len p4.cap], .agg #[.int .i64 t56.1, .int .i64 t56.2.1]] w fun t57 w =>
              SplitB t57
                (RunN Try.prog (.agg (.cons (.int .i64) (.cons (.int .i64) .nilT))) (V (Instr.loadAt 43 (.pointer (some t13)))) w fun t62 w =>
                CallK Try.prog .bool 18 #[.pointer t23, .agg #[.int .i64 0, .int .i64 1, .int .i64 0, .slice p4.a p4.len p4.cap], .agg #[.int .i64 t62.1, .int .i64 t62.2.1]] w fun t63 w =>
                k7 (t63, ()) w)
                (k7 (false, ()) w)))
        fun k5 =>
          SplitB (decide (s3.1 < (p3.len : Int)))
            (k5 (decide (s3.1 < 300), ()) w)
            (k5 (false, ()) w))
      (0, ()) w))
  fun k1 =>
    SplitB (!t19)
      (k1 (true, ()) w)
      (RunN Try.prog .bool (V (do eqGuard .eql 40 (.tmp 27) (.const (.pointer none)) (.pointer t23) (.pointer none); binOp .eql 40 (.pointer t23) (.pointer none))) w fun t28 w =>
      k1 (t28, ()) w)
theorem T7.calls {p0 : Int} {p1 : Int} {p2 : Int} {p3 : Sl} {p4 : Sl} {w : World} {K : Bool → World → Prop} (h : T7 p0 p1 p2 p3 p4 w K) : CallK Try.prog .bool 7 #[.int .i64 p0, .int .i64 p1, .int .i64 p2, .slice p3.a p3.len p3.cap, .slice p4.a p4.len p4.cap] w K :=
  bodyZ_sound (κ := kappa) (ann := [(4, [(29, .bool)]), (9, [(14, (.int .i64))]), (11, [(42, .bool)]), (15, [(15, .bool)]), (22, [(17, (.int .i64))]), (32, [(18, (.int .i64))]), (36, [(130, .bool)])]) (fn := Try.f7) Try.func7 rfl (by kernel_rfl) (cast (show T7 p0 p1 p2 p3 p4 w K = bodyZ Try.prog kappa [(4, [(29, .bool)]), (9, [(14, (.int .i64))]), (11, [(42, .bool)]), (15, [(15, .bool)]), (22, [(17, (.int .i64))]), (32, [(18, (.int .i64))]), (36, [(130, .bool)])] .bool Try.f7 [.int .i64 p0, .int .i64 p1, .int .i64 p2, .slice p3.a p3.len p3.cap, .slice p4.a p4.len p4.cap] w K by kernel_rfl) h)

/-- (*sluice/sluicelaw3.line).quiet -/
def T21 (p0 : Option Addr) (w : World) (K : Bool → World → Prop) : Prop :=
  LoopX (α := Int × Unit) (fun s1 w k2 =>
    SplitB (decide (s1.1 < 200))
      (NilP p0 fun t13 =>
      RunN Try.prog .addr (V (Instr.indexAt 50 (.pointer (some (t13.add 0))) (.int .i64 0))) w fun t15 w =>
      RunN Try.prog .ptr (V (Instr.loadAt 26 (.pointer (some t15)))) w fun t16 w =>
      CallK Try.prog .sl 13 #[.pointer t16] w fun t17 w =>
      LoopX (α := Int × Unit) (fun s3 w k4 =>
        SplitB (decide (s3.1 < (t17.len : Int)))
          (RunN Try.prog .addr (V (Instr.indexAt 33 (.slice t17.a t17.len t17.cap) (.int .i64 s3.1))) w fun t27 w =>
          RunN Try.prog (.agg (.cons (.int .i64) (.cons (.int .i64) (.cons (.int .i64) (.cons (.int .i64) (.cons .sl .nilT)))))) (V (Instr.loadAt 62 (.pointer (some t27)))) w fun t28 w =>
          CallK Try.prog .bool 31 #[.pointer p0, .agg #[.int .i64 t28.1, .int .i64 t28.2.1, .int .i64 t28.2.2.1, .int .i64 t28.2.2.2.1, .slice t28.2.2.2.2.1.a t28.2.2.2.2.1.len t28.2.2.2.2.1.cap]] w fun t29 w =>
          SplitB (!t29)
            (K false w)
            (k4 (IntKind.i64.wrap (s3.1 + 1), ()) w))
          (NilP p0 fun t32 =>
          RunN Try.prog .addr (V (Instr.indexAt 50 (.pointer (some (t32.add 0))) (.int .i64 1))) w fun t34 w =>
          RunN Try.prog .ptr (V (Instr.loadAt 26 (.pointer (some t34)))) w fun t35 w =>
          CallK Try.prog .sl 13 #[.pointer t35] w fun t36 w =>
          LoopX (α := Int × Unit) (fun s5 w k6 =>
            SplitB (decide (s5.1 < (t36.len : Int)))
              (RunN Try.prog .addr (V (Instr.indexAt 33 (.slice t36.a t36.len t36.cap) (.int .i64 s5.1))) w fun t46 w =>
              RunN Try.prog (.agg (.cons (.int .i64) (.cons (.int .i64) (.cons (.int .i64) (.cons (.int .i64) (.cons .sl .nilT)))))) (V (Instr.loadAt 62 (.pointer (some t46)))) w fun t47 w =>
              CallK Try.prog .bool 31 #[.pointer p0, .agg #[.int .i64 t47.1, .int .i64 t47.2.1, .int .i64 t47.2.2.1, .int .i64 t47.2.2.2.1, .slice t47.2.2.2.2.1.a t47.2.2.2.2.1.len t47.2.2.2.2.1.cap]] w fun t48 w =>
              SplitB (!t48)
                (K false w)
                (k6 (IntKind.i64.wrap (s5.1 + 1), ()) w))
              (JoinX (α := Bool × Unit) (fun j8 w =>
                SplitB j8.1
                  (K true w)
                  (k2 (IntKind.i64.wrap (s1.1 + 1), ()) w))
              fun k7 =>
                SplitB ((t17.len : Int) == 0)
                  (k7 ((t36.len : Int) == 0, ()) w)
                  (k7 (false, ()) w)))
          (0, ()) w))
      (0, ()) w)
      (K false w))
  (0, ()) w
theorem T21.calls {p0 : Option Addr} {w : World} {K : Bool → World → Prop} (h : T21 p0 w K) : CallK Try.prog .bool 21 #[.pointer p0] w K :=
  bodyZ_sound (κ := kappa) (ann := [(3, [(3, (.int .i64))]), (10, [(5, (.int .i64))]), (19, [(7, (.int .i64))]), (25, [(57, .bool)])]) (fn := Try.f21) Try.func21 rfl (by kernel_rfl) (cast (show T21 p0 w K = bodyZ Try.prog kappa [(3, [(3, (.int .i64))]), (10, [(5, (.int .i64))]), (19, [(7, (.int .i64))]), (25, [(57, .bool)])] .bool Try.f21 [.pointer p0] w K by kernel_rfl) h)
end Go.Proofs.Ytodgnpmljdopiaa

/- The line in memory: both ends tell each other all they have. -/
namespace Go.Proofs.Ytodgnpmljdopiaa
open Go Go.Fw Go.RowKit
set_option linter.unusedVariables false
set_option linter.unusedSimpArgs false
set_option maxRecDepth 4000
set_option maxHeartbeats 8000000
variable {w0 w : World} {F G : Grps} {j n : Nat} {x : Ln}

theorem outg_I (hI : LnI j n x) (us : Sl) {gs : List Sg} (hg : gs.map Sg.pl = x.e.tells x.e.outs) : LnI j n (outg x us gs) := by
  have hp : ∀ g ∈ x.pool ++ (x.gh ++ gs), g ∈ x.pool ++ x.gh ∨ g ∈ gs := fun g h => by
    rw [← List.append_assoc] at h
    exact List.mem_append.1 h
  have hjj : x.e.me ≠ x.e.peer := by
    rw [hI.pe, hI.me, hI.mf]
    unfold mej
    split <;> split <;> omega
  refine ⟨outed_wf hI.we us, hI.wf, hI.ef.outS hI.we hI.pf.symm hg us hp, hI.fe.outT hjj hg us hp, hI.me, hI.mf, hI.pe, hI.pf, fun b hb => (hI.see b hb).more, fun b hb => (hI.sef b hb).more, fun g hg2 => ?_, fun g hg2 => ?_, hI.pl, hI.ne, hI.nf⟩
  · rcases hp g hg2 with h1 | h1
    · exact (hI.sep g h1).more
    · intro w0 w F h
      have h2 : St w0 w (outD gs :: x.g8 :: F) := by
        have := St.two.1 h
        have := this.ord 2 [1, 0]
        dsimp only [pick, nthO, dropO] at this
        exact this
      exact outD_sees h1 w h2
  · rcases hp g hg2 with h1 | h1
    · exact hI.tos g h1
    · have h2 : g.pl ∈ x.e.tells x.e.outs := by rw [← hg]; exact List.mem_map.2 ⟨g, h1, rfl⟩
      obtain ⟨p, hp1, hp2⟩ := List.mem_map.1 h2
      simp only [Sg.pl, Prod.mk.injEq] at hp2
      refine .inr ?_
      show g.to = x.f.me
      rw [← hI.pe]; exact hp2.2.1.symm
theorem told_to (hI : LnI j n x) {gs : List Sg} (hg : gs.map Sg.pl = x.e.tells x.e.outs) : ∀ g ∈ gs, g.to = x.f.me := by
  intro g h1
  have h2 : g.pl ∈ x.e.tells x.e.outs := by rw [← hg]; exact List.mem_map.2 ⟨g, h1, rfl⟩
  obtain ⟨p, hp1, hp2⟩ := List.mem_map.1 h2
  simp only [Sg.pl, Prod.mk.injEq] at hp2
  rw [← hI.pe]; exact hp2.2.1.symm
theorem told_len (hI : LnI j n x) {gs : List Sg} (hg : gs.map Sg.pl = x.e.tells x.e.outs) : gs.length ≤ 1048576 := by
  have := congrArg List.length hg
  have h1 := hI.we.cnt; have h2 := hI.we.win
  simp only [Lk.tells, Lk.outs, List.length_map, List.length_append] at this
  split at this <;> split at this <;> simp at this <;> omega
theorem outg_ln (h : St w0 w (lnG j x F)) (hI : LnI j n x) : CallK Try.prog .sl 13 #[.pointer x.e.p] w
    fun (o : Sl) w' => ∃ us gs, gs.map Sg.pl = x.e.tells x.e.outs ∧ o.len = gs.length ∧ LnI j n (outg x us gs) ∧ St w0 w' (lnG j (outg x us gs) (outE o gs :: F)) := by
  refine (out_ln h hI.we).mono ?_
  rintro o w1 ⟨us, gs, h1, h2, h⟩
  have h := h.ord 13 [2, 3, 4, 5, 6, 7, 8, 9, 10, 11, 1, 12, 0]
  dsimp only [lnG, pick, nthO, dropO] at h
  have h := joinAt [_, _, _, _, _, _, _, _, _, _] h
  exact ⟨us, gs, h1, h2, outg_I hI us h1, h⟩
theorem pass_st (hj : j < 2) {o : Sl} {gs : List Sg} (h : St w0 w (lnG j x (outE o gs :: F))) (hI : LnI j n x) (hn : n ≤ 1048576) (hgs : ∀ g ∈ gs, g ∈ x.pool ++ x.gh ∧ g.to = x.e.me) (hol : o.len = gs.length) (hgl : gs.length ≤ 1048576) {Kf Rest : World → Prop}
    (hR : ∀ y w', Pass x gs y → LnI j n y → St w0 w' (lnG j y (outE o gs :: F)) → Rest w') :
    LoopX (α := Int × Unit) (fun s3 w k4 =>
        SplitB (decide (s3.1 < (o.len : Int)))
          (RunN Try.prog .addr (V (Instr.indexAt 33 (.slice o.a o.len o.cap) (.int .i64 s3.1))) w fun t27 w =>
          RunN Try.prog (.agg (.cons (.int .i64) (.cons (.int .i64) (.cons (.int .i64) (.cons (.int .i64) (.cons .sl .nilT)))))) (V (Instr.loadAt 62 (.pointer (some t27)))) w fun t28 w =>
          CallK Try.prog .bool 31 #[.pointer (some ⟨x.cb, 0, none⟩), .agg #[.int .i64 t28.1, .int .i64 t28.2.1, .int .i64 t28.2.2.1, .int .i64 t28.2.2.2.1, .slice t28.2.2.2.2.1.a t28.2.2.2.2.1.len t28.2.2.2.2.1.cap]] w fun t29 w =>
          SplitB (!t29)
            (Kf w)
            (k4 (IntKind.i64.wrap (s3.1 + 1), ()) w))
          (Rest w)) (0, ()) w := by
  refine LoopX.mk (fun st w' => ∃ (m : Nat) (y : Ln), st = ((m : Int), ()) ∧ m ≤ gs.length ∧ Pass x (gs.take m) y ∧ LnI j n y ∧ St w0 w' (lnG j y (outE o gs :: F))) (fun st => gs.length - st.1.toNat) ⟨0, x, rfl, Nat.zero_le _, by rw [List.take_zero]; exact .nil, hI, h⟩ ?_
  clear h
  rintro _ w1 ⟨m, y, rfl, hm, hp, hI2, h⟩ k hk
  dsimp only at hk ⊢
  have hoi : (o.len : Int) = (gs.length : Int) := by omega
  have sm := hp.same
  rw [SplitB_iff]
  refine ⟨fun hc => ?_, fun hc => ?_⟩
  · have hc : m < gs.length := by have : (m : Int) < (o.len : Int) := of_decide_eq_true hc
                                  omega
    have hem : IntKind.i64.wrap ((m : Int) + 1) = ((m + 1 : Nat) : Int) := by rw [wr (by omega)]; omega
    rw [hem]
    have hrr := h.rd (k := 11) (i := 0) (E := 62) (sz := 5) (s := o) (vs := gs.flatMap sgv) ⟨_, rfl, rfl⟩
    refine hrr.idxK m rfl (by omega) ?_
    intro b0 o0 ha
    refine hrr.elA ha (m * 5) rfl (kd := Kds) (sgt gs[m]) (ds := sgv gs[m]) (flat_at sgv_len _ _ hc) ?_
    obtain ⟨hg1, hg2⟩ := hgs _ (List.getElem_mem hc)
    have hg1 : gs[m] ∈ y.pool ++ y.gh := by rw [sm.pool, sm.gh]; exact hg1
    have hg2 : gs[m].to = y.e.me := by rw [sm.me]; exact hg2
    rw [← sm.cb]
    refine (comes_st hj h hI2 hn hg1 hg2).mono ?_
    rintro r w2 ⟨hr, us, mc, u, l, ht, hI3, h⟩
    have hr : (r : Bool) = true := hr
    rw [hr, SplitB_iff]
    refine ⟨fun hf => (by cases hf), fun _ => ?_⟩
    refine hk _ _ ⟨m + 1, _, rfl, by omega, ?_, hI3, h⟩ (by dsimp only; omega)
    rw [List.take_succ_eq_append_getElem hc]
    exact .snoc hp hI2.we ht (hI2.fe.fits hI2.ef hI2.wf hI2.we hg1 hg2)
  · have hc : m = gs.length := by have : ¬ (m : Int) < (o.len : Int) := of_decide_eq_false hc
                                  omega
    subst hc
    rw [List.take_length] at hp
    exact hR y _ hp hI2 h
theorem Round.keep {y z : Ln} {gA gB : List Sg} {ua ub : Sl} (r : Round n x gA gB y z ua ub) : z.cb = x.cb ∧ z.e.win = x.e.win ∧ z.f.win = x.f.win ∧ z.e.res = x.e.res ∧ z.f.res = x.f.res := by
  have s1 := r.pa.same
  have s2 := r.pb.same
  have e1 : y.f = x.e.outed ua := s1.f
  have e2 : z.f = y.e.outed ub := s2.f
  refine ⟨s2.cb.trans s1.cb, s2.win.trans ?_, ?_, s2.res.trans ?_, ?_⟩
  · show y.f.win = _
    rw [e1]; rfl
  · rw [e2]; exact s1.win
  · show y.f.res = _
    rw [e1]; rfl
  · rw [e2]; exact s1.res
theorem quiet_st (h : St w0 w (lnG 0 x F)) (hI : LnI 0 n x) (hn : n ≤ 1048576) : CallK Try.prog .bool 21 #[.pointer (some ⟨x.cb, 0, none⟩)] w
    fun (r : Bool) w' => r = true ∧ ∃ z, Idle x z ∧ z.e.ow = false ∧ LnI 0 n z ∧ (z.cb = x.cb ∧ z.e.win = x.e.win ∧ z.f.win = x.f.win ∧ z.e.res = x.e.res ∧ z.f.res = x.f.res) ∧ St w0 w' (lnG 0 z F) := by
  refine T21.calls ?_
  unfold T21
  refine LoopX.mk (fun st w' => ∃ (i : Nat) (x1 : Ln), st = ((i : Int), ()) ∧ LnI 0 n x1 ∧ (x1.cb = x.cb ∧ x1.e.win = x.e.win ∧ x1.f.win = x.f.win ∧ x1.e.res = x.e.res ∧ x1.f.res = x.f.res) ∧ ((i = 0 ∧ x1 = x) ∨ (i = 1 ∧ Idle x x1) ∨ (i = 2 ∧ Idle x x1 ∧ x1.e.ow = false)) ∧ St w0 w' (lnG 0 x1 F)) (fun st => 10 - st.1.toNat) ⟨0, x, rfl, hI, ⟨rfl, rfl, rfl, rfl, rfl⟩, .inl ⟨rfl, rfl⟩, h⟩ ?_
  clear h
  rintro _ w1 ⟨i, x1, rfl, hI1, hkp, hph, h⟩ k hk
  dsimp only at hk ⊢
  have hi : i ≤ 2 := by rcases hph with h | h | h <;> omega
  have hem : IntKind.i64.wrap ((i : Int) + 1) = ((i + 1 : Nat) : Int) := by rw [wr (by omega)]; omega
  rw [hem, SplitB_iff]
  refine ⟨fun _ => ?_, fun hf => ?_⟩
  rotate_left
  · have : ¬ (i : Int) < 200 := of_decide_eq_false hf
    omega
  rw [← hkp.1]
  refine NilP.mk ?_
  refine RunN.arr (ha := add_lit' _ _ _) 0 rfl (by decide) ?_
  refine h.loadB 0 0 (j := 0 + 0 + 0) ⟨_, rfl, rfl⟩ rfl (kd := .ptr) (x := x1.e.p) (c_e (by decide)) ?_
  refine (outg_ln h hI1).mono ?_
  rintro oa w2 ⟨ua, gA, hgA, hoa, hIa, h⟩
  have h := sw_st (by decide) h
  have hIs := sw_I (by decide) hIa
  have ht1 := told_to hI1 hgA
  refine pass_st (x := (outg x1 ua gA).sw) (j := 1) (by decide) h hIs hn (fun g hg => ⟨List.mem_append_right _ (List.mem_append_right _ hg), ht1 g hg⟩) hoa (told_len hI1 hgA) ?_
  intro y w3 hpa hIy h
  have sa := hpa.same
  refine NilP.mk ?_
  refine RunN.arr (ha := add_lit' _ _ _) 1 rfl (by decide) ?_
  have hcy : y.cb = x1.cb := sa.cb
  refine h.loadB 0 0 (j := 0 + 0 + 1) ⟨_, rfl, rfl⟩ (by rw [hcy]) (kd := .ptr) (x := y.e.p) (c_e (by decide)) ?_
  refine (outg_ln h hIy).mono ?_
  rintro ob w4 ⟨ub, gB, hgB, hob, hIb, h⟩
  have h := sw_st (j := 1) (by decide) h
  have hIs2 := sw_I (j := 1) (by decide) hIb
  have ht2 := told_to hIy hgB
  have hcb2 : x1.cb = (outg y ub gB).sw.cb := hcy.symm
  rw [hcb2]
  refine pass_st (x := (outg y ub gB).sw) (j := 0) (by decide) h hIs2 hn (fun g hg => ⟨List.mem_append_right _ (List.mem_append_right _ hg), ht2 g hg⟩) hob (told_len hIy hgB) ?_
  intro z w5 hpb hIz h
  have r : Round n x1 gA gB y z ua ub := ⟨hI1, hIy, hIz, hgA, hpa, hgB, hpb⟩
  have hkz := r.keep
  have hkeep : z.cb = x.cb ∧ z.e.win = x.e.win ∧ z.f.win = x.f.win ∧ z.e.res = x.e.res ∧ z.f.res = x.f.res := ⟨hkz.1.trans hkp.1, hkz.2.1.trans hkp.2.1, hkz.2.2.1.trans hkp.2.2.1, hkz.2.2.2.1.trans hkp.2.2.2.1, hkz.2.2.2.2.trans hkp.2.2.2.2⟩
  have hz : St w0 w5 (lnG 0 z F) := by
    have h := h.ord 13 [0, 1, 2, 3, 4, 5, 6, 7, 8, 9, 10]
    dsimp only [lnG, pick, nthO, dropO] at h
    exact h
  have hidle : Idle x z := by
    rcases hph with ⟨_, rfl⟩ | ⟨_, hd⟩ | ⟨_, hd, _⟩
    · exact r.idle
    · exact (r.again hd).2.2.1
    · exact (r.again hd).2.2.1
  refine JoinX.mk (fun (y : Bool × Unit) w' => y.1 = decide (gA.length = 0 ∧ gB.length = 0) ∧ St w0 w' (lnG 0 z F)) ?_ ?_
  · rintro ⟨v, ⟨⟩⟩ w6 ⟨hv, h⟩
    dsimp only at hv
    subst hv
    rw [SplitB_iff]
    refine ⟨fun hc => ?_, fun hc => ?_⟩
    · have hc : gA.length = 0 ∧ gB.length = 0 := of_decide_eq_true hc
      exact ⟨rfl, z, hidle, r.ow0 (List.eq_nil_of_length_eq_zero hc.2), hIz, ⟨hpb.same.cb, hkeep.2⟩, h⟩
    · have hc : ¬ (gA.length = 0 ∧ gB.length = 0) := of_decide_eq_false hc
      rcases hph with ⟨h0, rfl⟩ | ⟨h0, hd⟩ | ⟨h0, hd, how⟩
      · exact hk _ _ ⟨i + 1, z, rfl, hIz, hkeep, .inr (.inl ⟨by omega, hidle⟩), h⟩ (by dsimp only; omega)
      · exact hk _ _ ⟨i + 1, z, rfl, hIz, hkeep, .inr (.inr ⟨by omega, hidle, (r.again hd).2.2.2⟩), h⟩ (by dsimp only; omega)
      · have h1 := r.again hd
        exact absurd ⟨by rw [h1.2.1 how]; rfl, by rw [h1.1]; rfl⟩ hc
  · intro k7 hk7
    have hai : (oa.len : Int) = (gA.length : Int) := by omega
    have hbi : (ob.len : Int) = (gB.length : Int) := by omega
    rw [hai, hbi, SplitB_iff]
    refine ⟨fun hc => ?_, fun hc => ?_⟩
    · have hc : gA.length = 0 := by have : ((gA.length : Nat) : Int) = 0 := by simpa using hc
                                    omega
      refine hk7 _ _ ⟨?_, hz⟩
      rw [Bool.eq_iff_iff]
      simp [hc]
    · have hc : ¬ gA.length = 0 := by intro h0; rw [h0] at hc; simp at hc
      refine hk7 _ _ ⟨?_, hz⟩
      symm
      exact decide_eq_false (fun hh => hc hh.1)
end Go.Proofs.Ytodgnpmljdopiaa
