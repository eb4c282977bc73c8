import Derived.Test.YtodgnpmljdopiaaProg
import Derived.Test.YtodgnpmljdopiaaTLk
namespace Go.Proofs.Ytodgnpmljdopiaa
open Go Go.Fw Go.Proofs
set_option maxRecDepth 100000
set_option linter.unusedVariables false

/-- sluice/sluicelaw3.LinkOnce -/
def T6 (p0 : Int) (p1 : Int) (p2 : Int) (p3 : Sl) (w : World) (K : Bool → World → Prop) : Prop :=
  CallK Try.prog .bool 9 #[] w fun t13 w =>
  CallK Try.prog .ptr 16 #[.int .i64 p0, .int .i64 p1, .int .i64 p2] w fun t17 w =>
  JoinX (α := Bool × Unit) (fun j2 w =>
    SplitB j2.1
      (K false w)
      (CallK Try.prog (.int .i64) 17 #[.int .i64 p0, .int .i64 1, .int .i64 16] w fun t25 w =>
      CallK Try.prog (.int .i64) 17 #[.int .i64 p1, .int .i64 1, .int .i64 16] w fun t27 w =>
      RunN Try.prog .addr (V (Instr.alloc 43 true (.tuple #[]))) w fun t11 w =>
      RunU Try.prog (U (Instr.storeAt 43 (.pointer (some t11)) (.agg #[.int .i64 t25, .int .i64 t27]))) w fun w =>
      LoopX (α := Int × Unit) (fun s3 w k4 =>
        JoinX (α := Bool × Unit) (fun j6 w =>
          SplitB j6.1
            (ReadN Try.prog .addr (V (Instr.indexAt 39 (.slice p3.a p3.len p3.cap) (.int .i64 s3.1))) w.drew fun t42 =>
            ReadN Try.prog (.agg (.cons (.int .i64) (.cons (.int .i64) (.cons (.int .i64) (.cons .sl .nilT))))) (V (Instr.loadAt 47 (.pointer (some t42)))) w.drew fun t43 =>
            ReadN Try.prog (.agg (.cons (.int .i64) (.cons (.int .i64) .nilT))) (V (Instr.loadAt 43 (.pointer (some t11)))) w.drew fun t44 =>
            CallK Try.prog .bool 18 #[.pointer t17, .agg #[.int .i64 t43.1, .int .i64 t43.2.1, .int .i64 t43.2.2.1, .slice t43.2.2.2.1.a t43.2.2.2.1.len t43.2.2.2.1.cap], .agg #[.int .i64 t44.1, .int .i64 t44.2.1]] w.drew fun t45 w =>
            SplitB (!t45)
              (K false w)
              (k4 (IntKind.i64.wrap (s3.1 + 1), ()) w))
            (RunN Try.prog .addr (V (Instr.indexAt 43 (.pointer (some t11)) (.int .i64 0))) w fun t48 w =>
            RunN Try.prog (.int .i64) (V (Instr.loadAt 3 (.pointer (some t48)))) w fun t49 w =>
            CallK Try.prog .bool 19 #[.pointer t17, .int .i64 0, .int .i64 t49] w fun t50 w =>
            SplitB t50
              (RunN Try.prog .addr (V (Instr.indexAt 43 (.pointer (some t11)) (.int .i64 1))) w fun t53 w =>
              RunN Try.prog (.int .i64) (V (Instr.loadAt 3 (.pointer (some t53)))) w fun t54 w =>
              CallK Try.prog .bool 19 #[.pointer t17, .int .i64 1, .int .i64 t54] w fun t55 w =>
              K t55 w)
              (K false w)))
        fun k5 =>
          SplitB (decide (s3.1 < (p3.len : Int)))
            (k5 (decide (s3.1 < 300), ()) w)
            (k5 (false, ()) w))
      (0, ()) w))
  fun k1 =>
    SplitB (!t13)
      (k1 (true, ()) w)
      (RunN Try.prog .bool (V (do eqGuard .eql 40 (.tmp 21) (.const (.pointer none)) (.pointer t17) (.pointer none); binOp .eql 40 (.pointer t17) (.pointer none))) w fun t22 w =>
      k1 (t22, ()) w)
theorem T6.calls {p0 : Int} {p1 : Int} {p2 : Int} {p3 : Sl} {w : World} {K : Bool → World → Prop} (h : T6 p0 p1 p2 p3 w K) : CallK Try.prog .bool 6 #[.int .i64 p0, .int .i64 p1, .int .i64 p2, .slice p3.a p3.len p3.cap] w K :=
  bodyZ_sound (κ := kappa) (ann := [(4, [(23, .bool)]), (9, [(12, (.int .i64))]), (11, [(36, .bool)])]) (fn := Try.f6) Try.func6 rfl (by kernel_rfl) (cast (show T6 p0 p1 p2 p3 w K = bodyZ Try.prog kappa [(4, [(23, .bool)]), (9, [(12, (.int .i64))]), (11, [(36, .bool)])] .bool Try.f6 [.int .i64 p0, .int .i64 p1, .int .i64 p2, .slice p3.a p3.len p3.cap] w K by kernel_rfl) h)

/-- sluice/sluicelaw3.begun -/
def T16 (p0 : Int) (p1 : Int) (p2 : Int) (w : World) (K : Option Addr → World → Prop) : Prop :=
  CallK Try.prog (.int .i64) 17 #[.int .i64 p0, .int .i64 1, .int .i64 16] w fun t13 w =>
  CallK Try.prog (.int .i64) 17 #[.int .i64 p2, .int .i64 1, .int .i64 20] w fun t15 w =>
  CallK Try.prog (.tup (.cons .ptr (.cons (.int .i64) .nilT))) 22 #[.int .i64 3, .int .i64 5, .int .i64 t13, .int .i64 t15] w fun t16 w =>
  CallK Try.prog (.int .i64) 17 #[.int .i64 p1, .int .i64 1, .int .i64 16] w fun t21 w =>
  CallK Try.prog (.int .i64) 17 #[.int .i64 p2, .int .i64 1, .int .i64 20] w fun t23 w =>
  CallK Try.prog (.tup (.cons .ptr (.cons (.int .i64) .nilT))) 22 #[.int .i64 5, .int .i64 3, .int .i64 t21, .int .i64 t23] w fun t24 w =>
  JoinX (α := Bool × Unit) (fun j2 w =>
    SplitB j2.1
      (K none w)
      (RunN Try.prog .addr (V (Instr.box 54 (.agg #[.pointer t16.1, .pointer t24.1, .slice none 0 0, .slice none 0 0, .int .i64 0, .int .i64 0, .slice none 0 0]))) w fun t45 w =>
      K (some t45) w))
  fun k1 =>
    SplitB (t16.2.1 != 0)
      (k1 (true, ()) w)
      (SplitB (t24.2.1 != 0)
        (k1 (true, ()) w)
        (RunN Try.prog .bool (V (do eqGuard .eql 26 (.tmp 34) (.const (.pointer none)) (.pointer t16.1) (.pointer none); binOp .eql 26 (.pointer t16.1) (.pointer none))) w fun t35 w =>
        SplitB t35
          (k1 (true, ()) w)
          (RunN Try.prog .bool (V (do eqGuard .eql 26 (.tmp 38) (.const (.pointer none)) (.pointer t24.1) (.pointer none); binOp .eql 26 (.pointer t24.1) (.pointer none))) w fun t39 w =>
          k1 (t39, ()) w)))
theorem T16.calls {p0 : Int} {p1 : Int} {p2 : Int} {w : World} {K : Option Addr → World → Prop} (h : T16 p0 p1 p2 w K) : CallK Try.prog .ptr 16 #[.int .i64 p0, .int .i64 p1, .int .i64 p2] w K :=
  bodyZ_sound (κ := kappa) (ann := [(4, [(40, .bool)])]) (fn := Try.f16) Try.func16 rfl (by kernel_rfl) (cast (show T16 p0 p1 p2 w K = bodyZ Try.prog kappa [(4, [(40, .bool)])] .ptr Try.f16 [.int .i64 p0, .int .i64 p1, .int .i64 p2] w K by kernel_rfl) h)

/-- (*sluice/sluicelaw3.line).step -/
def T18 (p0 : Option Addr) (p1 : (Int × Int × Int × Sl × Unit)) (p2 : (Int × Int × Unit)) (w : World) (K : Bool → World → Prop) : Prop :=
  RunN Try.prog .addr (V (Instr.box 47 (.agg #[.int .i64 p1.1, .int .i64 p1.2.1, .int .i64 p1.2.2.1, .slice p1.2.2.2.1.a p1.2.2.2.1.len p1.2.2.2.1.cap]))) w fun t4 w =>
  RunN Try.prog .addr (V (Instr.box 43 (.agg #[.int .i64 p2.1, .int .i64 p2.2.1]))) w fun t5 w =>
  RunN Try.prog (.int .i64) (V (Instr.loadAt 3 (.pointer (some (t4.add 1))))) w fun t14 w =>
  CallK Try.prog (.int .i64) 17 #[.int .i64 t14, .int .i64 0, .int .i64 1] w fun t15 w =>
  JoinX (α := Unit) (fun j2 w =>
    RunN Try.prog .addr (V (Instr.indexAt 43 (.pointer (some t5)) (.int .i64 t15))) w fun t152 w =>
    RunN Try.prog (.int .i64) (V (Instr.loadAt 3 (.pointer (some t152)))) w fun t153 w =>
    CallK Try.prog .bool 19 #[.pointer p0, .int .i64 t15, .int .i64 t153] w fun t154 w =>
    K t154 w)
  fun k1 =>
    RunN Try.prog (.int .i64) (V (Instr.loadAt 3 (.pointer (some (t4.add 0))))) w fun t17 w =>
    CallK Try.prog (.int .i64) 17 #[.int .i64 t17, .int .i64 0, .int .i64 3] w fun t18 w =>
    SplitB (t18 == 0)
      (NilP p0 fun t23 =>
      RunN Try.prog .addr (V (Instr.indexAt 50 (.pointer (some (t23.add 0))) (.int .i64 t15))) w fun t25 w =>
      RunN Try.prog .ptr (V (Instr.loadAt 26 (.pointer (some t25)))) w fun t26 w =>
      CallK Try.prog (.int .i64) 12 #[.pointer t26] w fun t27 w =>
      RunN Try.prog .sl (V (Instr.loadAt 45 (.pointer (some (t4.add 3))))) w fun t29 w =>
      CallK Try.prog .sl 24 #[.slice t29.a t29.len t29.cap] w fun t30 w =>
      NilP p0 fun t33 =>
      ReadN Try.prog .addr (V (Instr.indexAt 50 (.pointer (some (t33.add 0))) (.int .i64 t15))) w.drew fun t35 =>
      ReadN Try.prog .ptr (V (Instr.loadAt 26 (.pointer (some t35)))) w.drew fun t36 =>
      ReadN Try.prog .sl (V (Instr.loadAt 45 (.pointer (some (t4.add 3))))) w.drew fun t39 =>
      ReadN Try.prog .sl (V (Instr.sliceAt 45 (.slice t30.a t30.len t30.cap) none (some (.int .i64 (t39.len : Int))) none)) w.drew fun t41 =>
      CallK Try.prog (.int .i64) 23 #[.pointer t36, .slice t41.a t41.len t41.cap] w.drew fun t42 w =>
      RunN Try.prog .sl (V (Instr.loadAt 45 (.pointer (some (t4.add 3))))) w fun t44 w =>
      SplitB (decide ((t44.len : Int) > 4000))
        (K (t42 == 2) w)
        (SplitB (!((t42 == 0) == (decide (t27 > 0))))
          (K false w)
          (SplitB (t42 == 0)
            (NilP p0 fun t60 =>
            ReadN Try.prog .addr (V (Instr.indexAt 52 (.pointer (some (t60.add 2))) (.int .i64 t15))) w.drew fun t62 =>
            ReadN Try.prog .sl (V (Instr.loadAt 51 (.pointer (some t62)))) w.drew fun t63 =>
            ReadN Try.prog .sl (V (Instr.loadAt 45 (.pointer (some (t4.add 3))))) w.drew fun t65 =>
            ReadN Try.prog .sl (V (Instr.loadAt 45 (.pointer (some (t4.add 3))))) w.drew fun t68 =>
            NilP p0 fun t73 =>
            CallK Try.prog .sl 24 #[.slice t65.a t65.len t65.cap] w.drew fun t66 w =>
            StillV Try.prog (V (Instr.loadAt 45 (.pointer (some (t4.add 3))))) (.slice t68.a t68.len t68.cap) w ∧
            StillV Try.prog (V (Instr.loadAt 51 (.pointer (some t62)))) (.slice t63.a t63.len t63.cap) w ∧
            StillV Try.prog (V (Instr.indexAt 52 (.pointer (some (t60.add 2))) (.int .i64 t15))) (.pointer (some t62)) w ∧
            ReadN Try.prog .sl (V (Instr.sliceAt 45 (.slice t66.a t66.len t66.cap) none (some (.int .i64 (t68.len : Int))) none)) w fun t70 =>
            RunN Try.prog .sl (V (Instr.buildSlice 51 1 #[(0, .slice t70.a t70.len t70.cap)])) w fun t71 w =>
            StillV Try.prog (V (Instr.loadAt 51 (.pointer (some t62)))) (.slice t63.a t63.len t63.cap) w ∧
            StillV Try.prog (V (Instr.indexAt 52 (.pointer (some (t60.add 2))) (.int .i64 t15))) (.pointer (some t62)) w ∧
            RunN Try.prog .sl (V (Builtin.append_ #[51, 51] 51 #[.slice t63.a t63.len t63.cap, .slice t71.a t71.len t71.cap])) w fun t72 w =>
            ReadN Try.prog .addr (V (Instr.indexAt 52 (.pointer (some (t73.add 2))) (.int .i64 t15))) w fun t75 =>
            RunU Try.prog (U (Instr.storeAt 51 (.pointer (some t75)) (.slice t72.a t72.len t72.cap))) w fun w =>
            k1 () w)
            (k1 () w))))
      (SplitB (t18 == 1)
        (NilP p0 fun t80 =>
        RunN Try.prog .addr (V (Instr.indexAt 50 (.pointer (some (t80.add 0))) (.int .i64 t15))) w fun t82 w =>
        RunN Try.prog .ptr (V (Instr.loadAt 26 (.pointer (some t82)))) w fun t83 w =>
        CallK Try.prog (.tup .nilT) 20 #[.pointer t83] w fun t84 w =>
        k1 () w)
        (SplitB (t18 == 2)
          (NilP p0 fun t89 =>
          RunN Try.prog .addr (V (Instr.indexAt 50 (.pointer (some (t89.add 0))) (.int .i64 t15))) w fun t91 w =>
          RunN Try.prog .ptr (V (Instr.loadAt 26 (.pointer (some t91)))) w fun t92 w =>
          CallK Try.prog .sl 13 #[.pointer t92] w fun t93 w =>
          LoopX (α := Int × Unit) (fun s3 w k4 =>
            JoinX (α := Bool × Unit) (fun j6 w =>
              SplitB j6.1
                (NilP p0 fun t110 =>
                ReadN Try.prog .sl (V (Instr.loadAt 33 (.pointer (some (t110.add 6))))) w.drew fun t112 =>
                ReadN Try.prog .addr (V (Instr.indexAt 33 (.slice t93.a t93.len t93.cap) (.int .i64 s3.1))) w.drew fun t115 =>
                ReadN Try.prog (.agg (.cons (.int .i64) (.cons (.int .i64) (.cons (.int .i64) (.cons (.int .i64) (.cons .sl .nilT)))))) (V (Instr.loadAt 62 (.pointer (some t115)))) w.drew fun t116 =>
                RunN Try.prog .sl (V (Instr.buildSlice 33 1 #[(0, .agg #[.int .i64 t116.1, .int .i64 t116.2.1, .int .i64 t116.2.2.1, .int .i64 t116.2.2.2.1, .slice t116.2.2.2.2.1.a t116.2.2.2.2.1.len t116.2.2.2.2.1.cap])])) w.drew fun t117 w =>
                StillV Try.prog (V (Instr.loadAt 33 (.pointer (some (t110.add 6))))) (.slice t112.a t112.len t112.cap) w ∧
                RunN Try.prog .sl (V (Builtin.append_ #[33, 33] 33 #[.slice t112.a t112.len t112.cap, .slice t117.a t117.len t117.cap])) w fun t118 w =>
                NilP p0 fun t119 =>
                RunU Try.prog (U (Instr.storeAt 33 (.pointer (some (t119.add 6))) (.slice t118.a t118.len t118.cap))) w fun w =>
                k4 (IntKind.i64.wrap (s3.1 + 1), ()) w)
                (k1 () w))
            fun k5 =>
              SplitB (decide (s3.1 < (t93.len : Int)))
                (NilP p0 fun t100 =>
                RunN Try.prog .sl (V (Instr.loadAt 33 (.pointer (some (t100.add 6))))) w fun t102 w =>
                k5 (decide ((t102.len : Int) < 400), ()) w)
                (k5 (false, ()) w))
          (0, ()) w)
          (SplitB (t18 == 3)
            (JoinX (α := Bool × Unit) (fun j8 w =>
              SplitB j8.1
                (K false w)
                (k1 () w))
            fun k7 =>
              NilP p0 fun t124 =>
              ReadN Try.prog .sl (V (Instr.loadAt 33 (.pointer (some (t124.add 6))))) w.drew fun t126 =>
              SplitB (decide ((t126.len : Int) > 0))
                (NilP p0 fun t132 =>
                ReadN Try.prog .sl (V (Instr.loadAt 33 (.pointer (some (t132.add 6))))) w.drew fun t134 =>
                ReadN Try.prog (.int .i64) (V (Instr.loadAt 3 (.pointer (some (t4.add 2))))) w.drew fun t136 =>
                NilP p0 fun t138 =>
                ReadN Try.prog .sl (V (Instr.loadAt 33 (.pointer (some (t138.add 6))))) w.drew fun t140 =>
                CallK Try.prog (.int .i64) 17 #[.int .i64 t136, .int .i64 0, .int .i64 (IntKind.i64.wrap ((t140.len : Int) - 1))] w.drew fun t143 w =>
                StillV Try.prog (V (Instr.loadAt 33 (.pointer (some (t132.add 6))))) (.slice t134.a t134.len t134.cap) w ∧
                ReadN Try.prog .addr (V (Instr.indexAt 33 (.slice t134.a t134.len t134.cap) (.int .i64 t143))) w fun t144 =>
                ReadN Try.prog (.agg (.cons (.int .i64) (.cons (.int .i64) (.cons (.int .i64) (.cons (.int .i64) (.cons .sl .nilT)))))) (V (Instr.loadAt 62 (.pointer (some t144)))) w fun t145 =>
                CallK Try.prog .bool 31 #[.pointer p0, .agg #[.int .i64 t145.1, .int .i64 t145.2.1, .int .i64 t145.2.2.1, .int .i64 t145.2.2.2.1, .slice t145.2.2.2.2.1.a t145.2.2.2.2.1.len t145.2.2.2.2.1.cap]] w fun t146 w =>
                k7 (!t146, ()) w)
                (k7 (false, ()) w.drew))
            (k1 () w))))
theorem T18.calls {p0 : Option Addr} {p1 : (Int × Int × Int × Sl × Unit)} {p2 : (Int × Int × Unit)} {w : World} {K : Bool → World → Prop} (h : T18 p0 p1 p2 w K) : CallK Try.prog .bool 18 #[.pointer p0, .agg #[.int .i64 p1.1, .int .i64 p1.2.1, .int .i64 p1.2.2.1, .slice p1.2.2.2.1.a p1.2.2.2.1.len p1.2.2.2.1.cap], .agg #[.int .i64 p2.1, .int .i64 p2.2.1]] w K :=
  bodyZ_sound (κ := kappa) (ann := [(2, []), (19, [(12, (.int .i64))]), (21, [(105, .bool)]), (24, [(148, .bool)])]) (fn := Try.f18) Try.func18 rfl (by kernel_rfl) (cast (show T18 p0 p1 p2 w K = bodyZ Try.prog kappa [(2, []), (19, [(12, (.int .i64))]), (21, [(105, .bool)]), (24, [(148, .bool)])] .bool Try.f18 [.pointer p0, .agg #[.int .i64 p1.1, .int .i64 p1.2.1, .int .i64 p1.2.2.1, .slice p1.2.2.2.1.a p1.2.2.2.1.len p1.2.2.2.1.cap], .agg #[.int .i64 p2.1, .int .i64 p2.2.1]] w K by kernel_rfl) h)

/-- (*sluice/sluicelaw3.line).sound -/
def T19 (p0 : Option Addr) (p1 : Int) (p2 : Int) (w : World) (K : Bool → World → Prop) : Prop :=
  NilP p0 fun t12 =>
  RunN Try.prog .addr (V (Instr.indexAt 50 (.pointer (some (t12.add 0))) (.int .i64 p1))) w fun t14 w =>
  RunN Try.prog .ptr (V (Instr.loadAt 26 (.pointer (some t14)))) w fun t15 w =>
  CallK Try.prog (.int .i64) 12 #[.pointer t15] w fun t16 w =>
  NilP p0 fun t20 =>
  RunN Try.prog .addr (V (Instr.indexAt 50 (.pointer (some (t20.add 0))) (.int .i64 p1))) w fun t22 w =>
  RunN Try.prog .ptr (V (Instr.loadAt 26 (.pointer (some t22)))) w fun t23 w =>
  CallK Try.prog .sl 14 #[.pointer t23] w fun t24 w =>
  SplitB (decide ((IntKind.i64.wrap (p2 - t16)) ≥ (t24.len : Int)))
    (SplitB (decide ((IntKind.i64.wrap (p2 - t16)) ≤ p2))
      (NilP p0 fun t37 =>
      ReadN Try.prog .addr (V (Instr.indexAt 52 (.pointer (some (t37.add 2))) (.int .i64 p1))) w.drew fun t39 =>
      ReadN Try.prog .sl (V (Instr.loadAt 51 (.pointer (some t39)))) w.drew fun t40 =>
      NilP p0 fun t46 =>
      ReadN Try.prog .addr (V (Instr.indexAt 43 (.pointer (some (t46.add 4))) (.int .i64 p1))) w.drew fun t48 =>
      ReadN Try.prog (.int .i64) (V (Instr.loadAt 3 (.pointer (some t48)))) w.drew fun t49 =>
      SplitB (decide ((IntKind.i64.wrap ((t40.len : Int) - (IntKind.i64.wrap (p2 - t16)))) ≤ t49))
        (SplitB ((IntKind.i64.wrap (p2 - t16)) == 0)
          (K true w.drew)
          (NilP p0 fun t58 =>
          ReadN Try.prog .addr (V (Instr.indexAt 52 (.pointer (some (t58.add 2))) (.int .i64 p1))) w.drew fun t60 =>
          ReadN Try.prog .sl (V (Instr.loadAt 51 (.pointer (some t60)))) w.drew fun t61 =>
          K (decide ((t61.len : Int) > 0)) w.drew))
        (K false w.drew))
      (K false w.drew))
    (K false w.drew)
theorem T19.calls {p0 : Option Addr} {p1 : Int} {p2 : Int} {w : World} {K : Bool → World → Prop} (h : T19 p0 p1 p2 w K) : CallK Try.prog .bool 19 #[.pointer p0, .int .i64 p1, .int .i64 p2] w K :=
  bodyZ_sound (κ := kappa) (ann := []) (fn := Try.f19) Try.func19 rfl (by kernel_rfl) (cast (show T19 p0 p1 p2 w K = bodyZ Try.prog kappa [] .bool Try.f19 [.pointer p0, .int .i64 p1, .int .i64 p2] w K by kernel_rfl) h)

/-- (*sluice/sluicelaw3.line).comes -/
def T31 (p0 : Option Addr) (p1 : (Int × Int × Int × Int × Sl × Unit)) (w : World) (K : Bool → World → Prop) : Prop :=
  RunN Try.prog .addr (V (Instr.box 62 (.agg #[.int .i64 p1.1, .int .i64 p1.2.1, .int .i64 p1.2.2.1, .int .i64 p1.2.2.2.1, .slice p1.2.2.2.2.1.a p1.2.2.2.2.1.len p1.2.2.2.2.1.cap]))) w fun t3 w =>
  JoinX (α := Int × Unit) (fun j2 w =>
    RunN Try.prog .sl (V (Instr.loadAt 45 (.pointer (some (t3.add 4))))) w fun t15 w =>
    CallK Try.prog .sl 24 #[.slice t15.a t15.len t15.cap] w fun t16 w =>
    RunN Try.prog .sl (V (Instr.loadAt 45 (.pointer (some (t3.add 4))))) w fun t19 w =>
    RunN Try.prog .sl (V (Instr.sliceAt 45 (.slice t16.a t16.len t16.cap) none (some (.int .i64 (t19.len : Int))) none)) w fun t21 w =>
    RunU Try.prog (U (Instr.storeAt 45 (.pointer (some (t3.add 4))) (.slice t21.a t21.len t21.cap))) w fun w =>
    NilP p0 fun t26 =>
    ReadN Try.prog .addr (V (Instr.indexAt 50 (.pointer (some (t26.add 0))) (.int .i64 j2.1))) w.drew fun t28 =>
    ReadN Try.prog .ptr (V (Instr.loadAt 26 (.pointer (some t28)))) w.drew fun t29 =>
    ReadN Try.prog (.agg (.cons (.int .i64) (.cons (.int .i64) (.cons (.int .i64) (.cons (.int .i64) (.cons .sl .nilT)))))) (V (Instr.loadAt 62 (.pointer (some t3)))) w.drew fun t30 =>
    CallK Try.prog (.tup (.cons .sl (.cons (.int .i64) .nilT))) 26 #[.pointer t29, .agg #[.int .i64 t30.1, .int .i64 t30.2.1, .int .i64 t30.2.2.1, .int .i64 t30.2.2.2.1, .slice t30.2.2.2.2.1.a t30.2.2.2.2.1.len t30.2.2.2.2.1.cap]] w.drew fun t31 w =>
    SplitB (t31.2.1 != 0)
      (K false w)
      (LoopX (α := Int × Unit) (fun s3 w k4 =>
        SplitB (decide (s3.1 < (t31.1.len : Int)))
          (NilP p0 fun t45 =>
          RunN Try.prog .addr (V (Instr.indexAt 43 (.pointer (some (t45.add 4))) (.int .i64 (IntKind.i64.wrap (1 - j2.1))))) w fun t47 w =>
          RunN Try.prog (.int .i64) (V (Instr.loadAt 3 (.pointer (some t47)))) w fun t48 w =>
          JoinX (α := Bool × Unit) (fun j6 w =>
            SplitB j6.1
              (K false w)
              (NilP p0 fun t80 =>
              ReadN Try.prog .addr (V (Instr.indexAt 43 (.pointer (some (t80.add 4))) (.int .i64 (IntKind.i64.wrap (1 - j2.1))))) w.drew fun t82 =>
              ReadN Try.prog (.int .i64) (V (Instr.loadAt 3 (.pointer (some t82)))) w.drew fun t83 =>
              NilP p0 fun t85 =>
              ReadN Try.prog .addr (V (Instr.indexAt 43 (.pointer (some (t85.add 4))) (.int .i64 (IntKind.i64.wrap (1 - j2.1))))) w.drew fun t87 =>
              RunU Try.prog (U (Instr.storeAt 3 (.pointer (some t87)) (.int .i64 (IntKind.i64.wrap (t83 + 1))))) w.drew fun w =>
              k4 (IntKind.i64.wrap (s3.1 + 1), ()) w))
          fun k5 =>
            NilP p0 fun t53 =>
            ReadN Try.prog .addr (V (Instr.indexAt 52 (.pointer (some (t53.add 2))) (.int .i64 (IntKind.i64.wrap (1 - j2.1))))) w.drew fun t55 =>
            ReadN Try.prog .sl (V (Instr.loadAt 51 (.pointer (some t55)))) w.drew fun t56 =>
            SplitB (decide (t48 ≥ (t56.len : Int)))
              (k5 (true, ()) w.drew)
              (ReadN Try.prog .addr (V (Instr.indexAt 51 (.slice t31.1.a t31.1.len t31.1.cap) (.int .i64 s3.1))) w.drew fun t62 =>
              ReadN Try.prog .sl (V (Instr.loadAt 45 (.pointer (some t62)))) w.drew fun t63 =>
              NilP p0 fun t67 =>
              ReadN Try.prog .addr (V (Instr.indexAt 52 (.pointer (some (t67.add 2))) (.int .i64 (IntKind.i64.wrap (1 - j2.1))))) w.drew fun t69 =>
              ReadN Try.prog .sl (V (Instr.loadAt 51 (.pointer (some t69)))) w.drew fun t70 =>
              ReadN Try.prog .addr (V (Instr.indexAt 51 (.slice t70.a t70.len t70.cap) (.int .i64 t48))) w.drew fun t72 =>
              ReadN Try.prog .sl (V (Instr.loadAt 45 (.pointer (some t72)))) w.drew fun t73 =>
              CallK Try.prog .bool 25 #[.slice t63.a t63.len t63.cap, .slice t73.a t73.len t73.cap] w.drew fun t74 w =>
              k5 (!t74, ()) w))
          (NilP p0 fun t90 =>
          ReadN Try.prog .addr (V (Instr.indexAt 50 (.pointer (some (t90.add 0))) (.int .i64 j2.1))) w.drew fun t92 =>
          ReadN Try.prog .ptr (V (Instr.loadAt 26 (.pointer (some t92)))) w.drew fun t93 =>
          NilP p0 fun t98 =>
          ReadN Try.prog .addr (V (Instr.indexAt 43 (.pointer (some (t98.add 4))) (.int .i64 (IntKind.i64.wrap (1 - j2.1))))) w.drew fun t100 =>
          ReadN Try.prog (.int .i64) (V (Instr.loadAt 3 (.pointer (some t100)))) w.drew fun t101 =>
          CallK Try.prog (.int .i64) 11 #[.pointer t93] w.drew fun t94 w =>
          StillV Try.prog (V (Instr.loadAt 3 (.pointer (some t100)))) (.int .i64 t101) w ∧
          StillV Try.prog (V (Instr.indexAt 43 (.pointer (some (t98.add 4))) (.int .i64 (IntKind.i64.wrap (1 - j2.1))))) (.pointer (some t100)) w ∧
          K (t94 == (IntKind.i64.wrap (t101 + 1))) w))
      (0, ()) w))
  fun k1 =>
    RunN Try.prog (.int .i64) (V (Instr.loadAt 3 (.pointer (some (t3.add 1))))) w fun t12 w =>
    SplitB (t12 == 5)
      (k1 (1, ()) w)
      (k1 (0, ()) w)
theorem T31.calls {p0 : Option Addr} {p1 : (Int × Int × Int × Int × Sl × Unit)} {w : World} {K : Bool → World → Prop} (h : T31 p0 p1 w K) : CallK Try.prog .bool 31 #[.pointer p0, .agg #[.int .i64 p1.1, .int .i64 p1.2.1, .int .i64 p1.2.2.1, .int .i64 p1.2.2.2.1, .slice p1.2.2.2.2.1.a p1.2.2.2.2.1.len p1.2.2.2.2.1.cap]] w K :=
  bodyZ_sound (κ := kappa) (ann := [(2, [(5, (.int .i64))]), (12, [(9, (.int .i64))]), (18, [(76, .bool)])]) (fn := Try.f31) Try.func31 rfl (by kernel_rfl) (cast (show T31 p0 p1 w K = bodyZ Try.prog kappa [(2, [(5, (.int .i64))]), (12, [(9, (.int .i64))]), (18, [(76, .bool)])] .bool Try.f31 [.pointer p0, .agg #[.int .i64 p1.1, .int .i64 p1.2.1, .int .i64 p1.2.2.1, .int .i64 p1.2.2.2.1, .slice p1.2.2.2.2.1.a p1.2.2.2.2.1.len p1.2.2.2.2.1.cap]] w K by kernel_rfl) h)
end Go.Proofs.Ytodgnpmljdopiaa
