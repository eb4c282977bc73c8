/- Words and steps, part 4:  -/
import Derived.Test.YtmfbmfppjdkeeaaProg
import Derived.Test.YtmfbmfppjdkeeaaErQ3
namespace Go.Proofs.Ytmfbmfppjdkeeaa
open Go Go.Fw Go.Proofs
set_option maxRecDepth 100000
set_option linter.unusedVariables false
def kappa : List Kd := [(.tup .nilT), .raw, (.int .i64), (.int .i64), .bool, (.int .u8), (.int .u8), (.agg (.cons (.int .i64) (.cons (.int .i64) (.cons .bool (.cons (.int .u8) .nilT))))), (.agg (.cons (.int .i64) (.cons (.int .i64) (.cons .bool (.cons (.int .u8) .nilT))))), .str, .str, .str, (.int .u64), (.agg (.cons .str (.cons (.int .u64) .nilT))), (.agg (.cons .str (.cons (.int .u64) .nilT))), .ptr, .ptr, .ptr, (.agg (.cons .ptr .nilT)), (.agg (.cons .ptr .nilT)), .raw, (.int .i32), .sl, .raw, .raw, .raw, .sl, .sl, .ptr, .raw, .raw, .raw, (.agg (.cons (.int .i64) (.cons (.int .i64) (.cons (.int .i64) (.cons (.int .i64) (.cons .bool .nilT)))))), (.agg (.cons (.int .i64) (.cons (.int .i64) (.cons (.int .i64) (.cons (.int .i64) (.cons .bool .nilT)))))), .sl, .sl, (.agg (.cons .sl (.cons .sl (.cons (.int .i64) (.cons (.int .i64) (.cons (.int .i64) (.cons (.int .i64) (.cons .bool .nilT)))))))), (.agg (.cons .sl (.cons .sl (.cons (.int .i64) (.cons (.int .i64) (.cons (.int .i64) (.cons (.int .i64) (.cons .bool .nilT)))))))), .raw, .raw, .raw, .ptr, .ptr, .ptr, (.agg (.cons .ptr (.cons .ptr .nilT))), (.agg (.cons .ptr (.cons .ptr .nilT))), (.agg (.cons .ptr (.cons .ptr .nilT))), .raw, .ptr, .sl, .sl, (.agg (.cons .bool (.cons .sl (.cons .sl (.cons .sl (.cons .sl (.cons .sl (.cons .sl .nilT)))))))), (.agg (.cons .bool (.cons .sl (.cons .sl (.cons .sl (.cons .sl (.cons .sl (.cons .sl .nilT)))))))), (.agg (.cons (.int .i64) (.cons (.int .i64) .nilT))), (.agg (.cons (.int .i64) (.cons (.int .i64) .nilT))), (.agg (.cons (.int .i64) (.cons (.int .i64) (.cons (.int .i64) (.cons (.int .i64) (.cons (.int .i64) (.cons .bool (.cons .bool (.cons (.int .i64) (.cons (.int .i64) (.cons (.int .i64) (.cons (.int .i64) (.cons (.int .i64) .nilT))))))))))))), (.agg (.cons (.int .i64) (.cons (.int .i64) (.cons (.int .i64) (.cons (.int .i64) (.cons (.int .i64) (.cons .bool (.cons .bool (.cons (.int .i64) (.cons (.int .i64) (.cons (.int .i64) (.cons (.int .i64) (.cons (.int .i64) .nilT))))))))))))), .raw, .raw, (.int .i64), (.tup (.cons .ptr (.cons (.int .i64) .nilT))), .raw, .ptr, .sl, (.agg (.cons .ptr (.cons (.int .i64) (.cons (.int .i64) (.cons .sl (.cons .bool (.cons (.int .i64) (.cons (.int .i64) (.cons .bool .nilT))))))))), (.agg (.cons .ptr (.cons (.int .i64) (.cons (.int .i64) (.cons .sl (.cons .bool (.cons (.int .i64) (.cons (.int .i64) (.cons .bool .nilT))))))))), .sl, (.tup (.cons .sl (.cons (.int .i64) .nilT))), .raw, (.agg (.cons (.int .i64) (.cons (.int .i64) (.cons (.int .i64) (.cons (.int .i64) (.cons (.int .i64) (.cons (.int .i64) .nilT))))))), (.agg (.cons (.int .i64) (.cons (.int .i64) (.cons (.int .i64) (.cons (.int .i64) (.cons (.int .i64) (.cons (.int .i64) .nilT))))))), .raw, (.agg (.cons (.int .i64) (.cons (.int .i64) (.cons (.int .i64) (.cons (.int .i64) (.cons (.int .i64) (.cons (.int .i64) (.cons (.int .i64) (.cons (.int .i64) (.cons (.int .i64) .nilT)))))))))), (.agg (.cons (.int .i64) (.cons (.int .i64) (.cons (.int .i64) (.cons (.int .i64) (.cons (.int .i64) (.cons (.int .i64) (.cons (.int .i64) (.cons (.int .i64) (.cons (.int .i64) .nilT)))))))))), .raw, .raw, .raw, .raw, .sl, .raw, (.tup (.cons .ptr (.cons (.int .i64) .nilT))), .raw, .sl, (.tup (.cons .sl (.cons (.int .i64) .nilT))), .raw, .raw, .raw, .raw, .raw, .raw, .raw, .raw, .raw, .raw, .raw, .raw, .raw, .chan, (.agg (.cons (.int .i64) (.cons (.int .i64) (.cons (.int .i64) (.cons (.int .i64) (.cons (.int .i64) (.cons (.int .i64) (.cons (.int .i64) (.cons (.int .i64) (.cons (.int .i64) (.cons (.int .i64) (.cons (.int .i64) (.cons (.int .i64) (.cons (.int .i64) (.cons (.int .i64) (.cons (.int .i64) (.cons (.int .i64) .nilT))))))))))))))))), (.agg (.cons (.int .i64) (.cons (.int .i64) (.cons (.int .i64) (.cons (.int .i64) (.cons (.int .i64) (.cons (.int .i64) (.cons (.int .i64) (.cons (.int .i64) (.cons (.int .i64) (.cons (.int .i64) (.cons (.int .i64) (.cons (.int .i64) (.cons (.int .i64) (.cons (.int .i64) (.cons (.int .i64) (.cons (.int .i64) (.cons (.int .i64) (.cons (.int .i64) (.cons (.int .i64) (.cons (.int .i64) (.cons (.int .i64) (.cons (.int .i64) (.cons (.int .i64) (.cons (.int .i64) (.cons (.int .i64) (.cons (.int .i64) (.cons (.int .i64) (.cons (.int .i64) (.cons (.int .i64) (.cons (.int .i64) (.cons (.int .i64) (.cons (.int .i64) (.cons (.int .i64) (.cons (.int .i64) (.cons (.int .i64) (.cons (.int .i64) (.cons (.int .i64) (.cons (.int .i64) (.cons (.int .i64) (.cons (.int .i64) (.cons (.int .i64) (.cons (.int .i64) (.cons (.int .i64) (.cons (.int .i64) (.cons (.int .i64) (.cons (.int .i64) (.cons (.int .i64) (.cons (.int .i64) (.cons (.int .i64) (.cons (.int .i64) (.cons .bool (.cons .chan .nilT))))))))))))))))))))))))))))))))))))))))))))))))))))), (.agg (.cons (.int .i64) (.cons (.int .i64) (.cons (.int .i64) (.cons (.int .i64) (.cons (.int .i64) (.cons (.int .i64) (.cons (.int .i64) (.cons (.int .i64) (.cons (.int .i64) (.cons (.int .i64) (.cons (.int .i64) (.cons (.int .i64) (.cons (.int .i64) (.cons (.int .i64) (.cons (.int .i64) (.cons (.int .i64) (.cons (.int .i64) (.cons (.int .i64) (.cons (.int .i64) (.cons (.int .i64) (.cons (.int .i64) (.cons (.int .i64) (.cons (.int .i64) (.cons (.int .i64) (.cons (.int .i64) (.cons (.int .i64) (.cons (.int .i64) (.cons (.int .i64) (.cons (.int .i64) (.cons (.int .i64) (.cons (.int .i64) (.cons (.int .i64) (.cons (.int .i64) (.cons (.int .i64) (.cons (.int .i64) (.cons (.int .i64) (.cons (.int .i64) (.cons (.int .i64) (.cons (.int .i64) (.cons (.int .i64) (.cons (.int .i64) (.cons (.int .i64) (.cons (.int .i64) (.cons (.int .i64) (.cons (.int .i64) (.cons (.int .i64) (.cons (.int .i64) (.cons (.int .i64) (.cons (.int .i64) (.cons (.int .i64) (.cons .bool (.cons .chan .nilT))))))))))))))))))))))))))))))))))))))))))))))))))))), .raw, .raw, .raw, .raw, .raw, .raw, (.tup (.cons (.agg (.cons (.int .i64) (.cons (.int .i64) .nilT))) (.cons .bool .nilT))), .raw, .sl, (.agg (.cons (.int .i64) (.cons (.int .i64) (.cons .sl (.cons .sl (.cons .sl (.cons .bool .nilT))))))), (.agg (.cons (.int .i64) (.cons (.int .i64) (.cons .sl (.cons .sl (.cons .sl (.cons .bool .nilT))))))), .raw, .raw, (.agg (.cons (.int .i64) (.cons (.int .i64) (.cons (.int .i64) (.cons (.int .i64) (.cons (.int .i64) (.cons (.int .i64) .nilT))))))), .raw, .raw, (.agg (.cons (.int .i64) (.cons (.int .i64) (.cons (.int .i64) (.cons (.int .i64) .nilT))))), (.agg (.cons (.int .i64) (.cons (.int .i64) (.cons (.int .i64) (.cons (.int .i64) .nilT))))), .raw, .raw, .raw, .raw, .raw, (.tup (.cons (.int .i64) (.cons .bool .nilT))), .raw, .raw, (.agg (.cons .ptr (.cons .ptr (.cons .ptr (.cons .str .nilT))))), (.agg (.cons .ptr (.cons .ptr (.cons .ptr (.cons .str .nilT))))), (.agg .nilT), (.agg .nilT), (.agg .nilT), (.int .u32), (.int .u8), (.int .u8), .raw, .ptr, (.int .i32), (.int .i32), (.agg (.cons (.int .u64) (.cons (.int .u64) (.cons (.int .u32) (.cons (.int .u8) (.cons (.int .u8) (.cons (.int .u8) (.cons (.int .u8) (.cons .raw (.cons .ptr (.cons (.int .i32) (.cons (.int .i32) .nilT)))))))))))), (.agg (.cons (.int .u64) (.cons (.int .u64) (.cons (.int .u32) (.cons (.int .u8) (.cons (.int .u8) (.cons (.int .u8) (.cons (.int .u8) (.cons .raw (.cons .ptr (.cons (.int .i32) (.cons (.int .i32) .nilT))))))))))))]

/-- sluice/sluicelaw11.EpochBegins -/
def T3 (p0 : Int) (p1 : Int) (p2 : Sl) (w : World) (K : Bool → World → Prop) : Prop :=
  CallK Try.prog .bool 9 #[.int .i64 p0, .int .i64 p1, .int .i64 0, .int .i64 2, .slice p2.a p2.len p2.cap, .int .i64 1, .int .i64 1, .bool false] w fun t10 w =>
  K t10 w
theorem T3.calls {p0 : Int} {p1 : Int} {p2 : Sl} {w : World} {K : Bool → World → Prop} (h : T3 p0 p1 p2 w K) : CallK Try.prog .bool 3 #[.int .i64 p0, .int .i64 p1, .slice p2.a p2.len p2.cap] w K :=
  bodyZ_sound (κ := kappa) (ann := []) (fn := Try.f3) Try.func3 rfl (by kernel_rfl) (cast (show T3 p0 p1 p2 w K = bodyZ Try.prog kappa [] .bool Try.f3 [.int .i64 p0, .int .i64 p1, .slice p2.a p2.len p2.cap] w K by kernel_rfl) h)

/-- sluice/sluicelaw11.EpochHears -/
def T4 (p0 : Int) (p1 : Int) (p2 : Sl) (w : World) (K : Bool → World → Prop) : Prop :=
  CallK Try.prog .bool 9 #[.int .i64 p0, .int .i64 p1, .int .i64 0, .int .i64 2, .slice p2.a p2.len p2.cap, .int .i64 2, .int .i64 3, .bool false] w fun t10 w =>
  K t10 w
theorem T4.calls {p0 : Int} {p1 : Int} {p2 : Sl} {w : World} {K : Bool → World → Prop} (h : T4 p0 p1 p2 w K) : CallK Try.prog .bool 4 #[.int .i64 p0, .int .i64 p1, .slice p2.a p2.len p2.cap] w K :=
  bodyZ_sound (κ := kappa) (ann := []) (fn := Try.f4) Try.func4 rfl (by kernel_rfl) (cast (show T4 p0 p1 p2 w K = bodyZ Try.prog kappa [] .bool Try.f4 [.int .i64 p0, .int .i64 p1, .slice p2.a p2.len p2.cap] w K by kernel_rfl) h)

/-- sluice/sluicelaw11.EpochLooks -/
def T5 (p0 : Int) (p1 : Int) (p2 : Sl) (w : World) (K : Bool → World → Prop) : Prop :=
  CallK Try.prog .bool 9 #[.int .i64 p0, .int .i64 p1, .int .i64 0, .int .i64 2, .slice p2.a p2.len p2.cap, .int .i64 4, .int .i64 6, .bool false] w fun t10 w =>
  K t10 w
theorem T5.calls {p0 : Int} {p1 : Int} {p2 : Sl} {w : World} {K : Bool → World → Prop} (h : T5 p0 p1 p2 w K) : CallK Try.prog .bool 5 #[.int .i64 p0, .int .i64 p1, .slice p2.a p2.len p2.cap] w K :=
  bodyZ_sound (κ := kappa) (ann := []) (fn := Try.f5) Try.func5 rfl (by kernel_rfl) (cast (show T5 p0 p1 p2 w K = bodyZ Try.prog kappa [] .bool Try.f5 [.int .i64 p0, .int .i64 p1, .slice p2.a p2.len p2.cap] w K by kernel_rfl) h)

/-- sluice/sluicelaw11.EpochAll -/
def T6 (p0 : Int) (p1 : Int) (p2 : Int) (p3 : Int) (p4 : Sl) (w : World) (K : Bool → World → Prop) : Prop :=
  CallK Try.prog .bool 9 #[.int .i64 p0, .int .i64 p1, .int .i64 p2, .int .i64 p3, .slice p4.a p4.len p4.cap, .int .i64 1, .int .i64 6, .bool false] w fun t16 w =>
  SplitB t16
    (CallK Try.prog .bool 9 #[.int .i64 p0, .int .i64 p1, .int .i64 p2, .int .i64 p3, .slice p4.a p4.len p4.cap, .int .i64 1, .int .i64 6, .bool true] w fun t23 w =>
    K t23 w)
    (K false w)
theorem T6.calls {p0 : Int} {p1 : Int} {p2 : Int} {p3 : Int} {p4 : Sl} {w : World} {K : Bool → World → Prop} (h : T6 p0 p1 p2 p3 p4 w K) : CallK Try.prog .bool 6 #[.int .i64 p0, .int .i64 p1, .int .i64 p2, .int .i64 p3, .slice p4.a p4.len p4.cap] w K :=
  bodyZ_sound (κ := kappa) (ann := []) (fn := Try.f6) Try.func6 rfl (by kernel_rfl) (cast (show T6 p0 p1 p2 p3 p4 w K = bodyZ Try.prog kappa [] .bool Try.f6 [.int .i64 p0, .int .i64 p1, .int .i64 p2, .int .i64 p3, .slice p4.a p4.len p4.cap] w K by kernel_rfl) h)

/-- sluice/sluicelaw11.plays -/
def T9 (p0 : Int) (p1 : Int) (p2 : Int) (p3 : Int) (p4 : Sl) (p5 : Int) (p6 : Int) (p7 : Bool) (w : World) (K : Bool → World → Prop) : Prop :=
  RunN Try.prog .addr (V (Instr.box 45 (.agg #[.pointer none, .pointer none]))) w fun t23 w =>
  RunN Try.prog .addr (V (Instr.box 45 (.agg #[.pointer none, .pointer none]))) w fun t25 w =>
  RunN Try.prog .addr (V (Instr.alloc 46 true (.tuple #[]))) w fun t17 w =>
  RunU Try.prog (U (Instr.storeAt 46 (.pointer (some t17)) (.agg #[.pointer (some t23), .pointer (some t25)]))) w fun w =>
  JoinX (α := Bool × Unit) (fun j2 w =>
    SplitB j2.1
      (K false w)
      (RunN Try.prog .addr (V (Instr.box 52 (.agg #[.bool p7, .slice none 0 0, .slice none 0 0, .slice none 0 0, .slice none 0 0, .slice none 0 0, .slice none 0 0]))) w fun t47 w =>
      LoopX (α := Int × Unit) (fun s3 w k4 =>
        SplitB (decide (s3.1 < (p4.len : Int)))
          (JoinX (α := Unit) (fun j6 w =>
            k4 (IntKind.i64.wrap (s3.1 + 1), ()) w)
          fun k5 =>
            RunN Try.prog .addr (V (Instr.indexAt 22 (.slice p4.a p4.len p4.cap) (.int .i64 s3.1))) w fun t56 w =>
            RunN Try.prog (.int .i64) (V (Instr.loadAt 3 (.pointer (some (t56.add 0))))) w fun t58 w =>
            RunN Try.prog .addr (V (Instr.indexAt 46 (.pointer (some t17)) (.int .i64 (bitAnd .i64 t58 1)))) w fun t60 w =>
            RunN Try.prog .ptr (V (Instr.loadAt 41 (.pointer (some t60)))) w fun t61 w =>
            JoinX (α := Bool × Unit) (fun j8 w =>
              SplitB j8.1
                (k5 () w)
                (RunN Try.prog .addr (V (Instr.indexAt 22 (.slice p4.a p4.len p4.cap) (.int .i64 s3.1))) w fun t77 w =>
                RunN Try.prog (.agg (.cons (.int .i64) (.cons (.int .i64) (.cons (.int .i64) (.cons (.int .i64) (.cons (.int .i64) (.cons .bool (.cons .bool (.cons (.int .i64) (.cons (.int .i64) (.cons (.int .i64) (.cons (.int .i64) (.cons (.int .i64) .nilT))))))))))))) (V (Instr.loadAt 56 (.pointer (some t77)))) w fun t78 w =>
                CallK Try.prog .bool 16 #[.pointer t61, .agg #[.int .i64 t78.1, .int .i64 t78.2.1, .int .i64 t78.2.2.1, .int .i64 t78.2.2.2.1, .int .i64 t78.2.2.2.2.1, .bool t78.2.2.2.2.2.1, .bool t78.2.2.2.2.2.2.1, .int .i64 t78.2.2.2.2.2.2.2.1, .int .i64 t78.2.2.2.2.2.2.2.2.1, .int .i64 t78.2.2.2.2.2.2.2.2.2.1, .int .i64 t78.2.2.2.2.2.2.2.2.2.2.1, .int .i64 t78.2.2.2.2.2.2.2.2.2.2.2.1], .pointer (some t47)] w fun t80 w =>
                JoinX (α := Bool × Unit) (fun j10 w =>
                  SplitB j10.1
                    (K false w)
                    (k5 () w))
                fun k9 =>
                  SplitB (!t80)
                    (RunN Try.prog .addr (V (Instr.indexAt 22 (.slice p4.a p4.len p4.cap) (.int .i64 s3.1))) w fun t86 w =>
                    RunN Try.prog (.int .i64) (V (Instr.loadAt 3 (.pointer (some (t86.add 1))))) w fun t88 w =>
                    SplitB (decide (t88 ≥ p5))
                      (RunN Try.prog .addr (V (Instr.indexAt 22 (.slice p4.a p4.len p4.cap) (.int .i64 s3.1))) w fun t95 w =>
                      RunN Try.prog (.int .i64) (V (Instr.loadAt 3 (.pointer (some (t95.add 1))))) w fun t97 w =>
                      k9 (decide (t97 ≤ p6), ()) w)
                      (k9 (false, ()) w))
                    (k9 (false, ()) w)))
            fun k7 =>
              NilP t61 fun t63 =>
              RunN Try.prog .ptr (V (Instr.loadAt 42 (.pointer (some (t63.add 0))))) w fun t65 w =>
              RunN Try.prog .bool (V (do eqGuard .eql 42 (.tmp 65) (.const (.pointer none)) (.pointer t65) (.pointer none); binOp .eql 42 (.pointer t65) (.pointer none))) w fun t66 w =>
              SplitB t66
                (k7 (true, ()) w)
                (NilP t61 fun t69 =>
                RunN Try.prog .ptr (V (Instr.loadAt 43 (.pointer (some (t69.add 1))))) w fun t71 w =>
                RunN Try.prog .bool (V (do eqGuard .eql 43 (.tmp 71) (.const (.pointer none)) (.pointer t71) (.pointer none); binOp .eql 43 (.pointer t71) (.pointer none))) w fun t72 w =>
                k7 (t72, ()) w))
          (CallK Try.prog .bool 17 #[.pointer (some t47)] w fun t102 w =>
          K t102 w))
      (0, ()) w))
  fun k1 =>
    CallK Try.prog .bool 11 #[] w fun t27 w =>
    SplitB (!t27)
      (k1 (true, ()) w)
      (RunN Try.prog .addr (V (Instr.indexAt 46 (.pointer (some t17)) (.int .i64 0))) w fun t30 w =>
      RunN Try.prog .ptr (V (Instr.loadAt 41 (.pointer (some t30)))) w fun t31 w =>
      CallK Try.prog .bool 15 #[.pointer t31, .int .i64 p0, .int .i64 p1] w fun t34 w =>
      SplitB (!t34)
        (k1 (true, ()) w)
        (RunN Try.prog .addr (V (Instr.indexAt 46 (.pointer (some t17)) (.int .i64 1))) w fun t38 w =>
        RunN Try.prog .ptr (V (Instr.loadAt 41 (.pointer (some t38)))) w fun t39 w =>
        CallK Try.prog .bool 15 #[.pointer t39, .int .i64 p2, .int .i64 p3] w fun t42 w =>
        k1 (!t42, ()) w))
theorem T9.calls {p0 : Int} {p1 : Int} {p2 : Int} {p3 : Int} {p4 : Sl} {p5 : Int} {p6 : Int} {p7 : Bool} {w : World} {K : Bool → World → Prop} (h : T9 p0 p1 p2 p3 p4 p5 p6 p7 w K) : CallK Try.prog .bool 9 #[.int .i64 p0, .int .i64 p1, .int .i64 p2, .int .i64 p3, .slice p4.a p4.len p4.cap, .int .i64 p5, .int .i64 p6, .bool p7] w K :=
  bodyZ_sound (κ := kappa) (ann := [(3, [(44, .bool)]), (8, [(19, (.int .i64))]), (11, []), (14, [(73, .bool)]), (16, [(100, .bool)])]) (fn := Try.f9) Try.func9 rfl (by kernel_rfl) (cast (show T9 p0 p1 p2 p3 p4 p5 p6 p7 w K = bodyZ Try.prog kappa [(3, [(44, .bool)]), (8, [(19, (.int .i64))]), (11, []), (14, [(73, .bool)]), (16, [(100, .bool)])] .bool Try.f9 [.int .i64 p0, .int .i64 p1, .int .i64 p2, .int .i64 p3, .slice p4.a p4.len p4.cap, .int .i64 p5, .int .i64 p6, .bool p7] w K by kernel_rfl) h)

/-- sluice/sluicelaw11.able -/
def T11  (w : World) (K : Bool → World → Prop) : Prop :=
  CallK Try.prog (.tup (.cons .ptr (.cons (.int .i64) .nilT))) 19 #[.int .i64 1, .int .i64 3] w fun t5 w =>
  JoinX (α := Bool × Unit) (fun j2 w =>
    SplitB j2.1
      (K false w)
      (CallK Try.prog (.tup (.cons .sl (.cons (.int .i64) .nilT))) 20 #[.pointer t5.1, .int .i64 10, .int .i64 4, .int .i64 0, .bool false] w fun t16 w =>
      JoinX (α := Bool × Unit) (fun j4 w =>
        SplitB j4.1
          (K false w)
          (CallK Try.prog .sl 21 #[.pointer t5.1, .int .i64 10, .int .i64 10, .int .i64 0] w fun t49 w =>
          SplitB ((t49.len : Int) == 1)
            (RunN Try.prog .addr (V (Instr.indexAt 66 (.slice t49.a t49.len t49.cap) (.int .i64 0))) w fun t55 w =>
            RunN Try.prog (.int .i64) (V (Instr.loadAt 3 (.pointer (some (t55.add 0))))) w fun t57 w =>
            SplitB (t57 == 4)
              (CallK Try.prog .bool 22 #[.pointer t5.1] w fun t62 w =>
              K t62 w)
              (K false w))
            (K false w)))
      fun k3 =>
        SplitB (t16.2.1 != 0)
          (k3 (true, ()) w)
          (SplitB ((t16.1.len : Int) != 1)
            (k3 (true, ()) w)
            (RunN Try.prog .addr (V (Instr.indexAt 66 (.slice t16.1.a t16.1.len t16.1.cap) (.int .i64 0))) w fun t28 w =>
            RunN Try.prog (.int .i64) (V (Instr.loadAt 3 (.pointer (some (t28.add 0))))) w fun t30 w =>
            SplitB (t30 != 1)
              (k3 (true, ()) w)
              (RunN Try.prog .addr (V (Instr.indexAt 66 (.slice t16.1.a t16.1.len t16.1.cap) (.int .i64 0))) w fun t35 w =>
              RunN Try.prog (.int .i64) (V (Instr.loadAt 3 (.pointer (some (t35.add 1))))) w fun t37 w =>
              SplitB (t37 != (-1))
                (k3 (true, ()) w)
                (RunN Try.prog .addr (V (Instr.indexAt 66 (.slice t16.1.a t16.1.len t16.1.cap) (.int .i64 0))) w fun t42 w =>
                RunN Try.prog (.agg (.cons (.int .i64) (.cons (.int .i64) .nilT))) (V (Instr.loadAt 54 (.pointer (some (t42.add 2))))) w fun t44 w =>
                RunN Try.prog .bool (V (do eqGuard .neq 54 (.tmp 44) (.tmp 45) (.agg #[.int .i64 t44.1, .int .i64 t44.2.1]) (.agg #[.int .i64 1, .int .i64 1]); binOp .neq 54 (.agg #[.int .i64 t44.1, .int .i64 t44.2.1]) (.agg #[.int .i64 1, .int .i64 1]))) w fun t46 w =>
                k3 (t46, ()) w))))))
  fun k1 =>
    RunN Try.prog .bool (V (do eqGuard .eql 42 (.tmp 8) (.const (.pointer none)) (.pointer t5.1) (.pointer none); binOp .eql 42 (.pointer t5.1) (.pointer none))) w fun t9 w =>
    SplitB t9
      (k1 (true, ()) w)
      (k1 (t5.2.1 != 0, ()) w)
theorem T11.calls  {w : World} {K : Bool → World → Prop} (h : T11  w K) : CallK Try.prog .bool 11 #[] w K :=
  bodyZ_sound (κ := kappa) (ann := [(3, [(13, .bool)]), (7, [(47, .bool)])]) (fn := Try.f11) Try.func11 rfl (by kernel_rfl) (cast (show T11  w K = bodyZ Try.prog kappa [(3, [(13, .bool)]), (7, [(47, .bool)])] .bool Try.f11 [] w K by kernel_rfl) h)

/-- (*sluice/sluicelaw11.pair).begin -/
def T15 (p0 : Option Addr) (p1 : Int) (p2 : Int) (w : World) (K : Bool → World → Prop) : Prop :=
  CallK Try.prog (.tup (.cons .ptr (.cons (.int .i64) .nilT))) 19 #[.int .i64 p1, .int .i64 p2] w fun t14 w =>
  CallK Try.prog (.tup (.cons .ptr (.cons (.int .i64) .nilT))) 29 #[.int .i64 p1, .int .i64 p2] w fun t20 w =>
  NilP p0 fun t25 =>
  RunU Try.prog (U (Instr.storeAt 42 (.pointer (some (t25.add 0))) (.pointer t14.1))) w fun w =>
  NilP p0 fun t29 =>
  RunU Try.prog (U (Instr.storeAt 43 (.pointer (some (t29.add 1))) (.pointer t20.1))) w fun w =>
  SplitB (t14.2.1 == t20.2.1)
    (RunN Try.prog .bool (V (do eqGuard .eql 42 (.tmp 35) (.const (.pointer none)) (.pointer t14.1) (.pointer none); binOp .eql 42 (.pointer t14.1) (.pointer none))) w fun t36 w =>
    RunN Try.prog .bool (V (do eqGuard .eql 43 (.tmp 37) (.const (.pointer none)) (.pointer t20.1) (.pointer none); binOp .eql 43 (.pointer t20.1) (.pointer none))) w fun t38 w =>
    K (t36 == t38) w)
    (K false w)
theorem T15.calls {p0 : Option Addr} {p1 : Int} {p2 : Int} {w : World} {K : Bool → World → Prop} (h : T15 p0 p1 p2 w K) : CallK Try.prog .bool 15 #[.pointer p0, .int .i64 p1, .int .i64 p2] w K :=
  bodyZ_sound (κ := kappa) (ann := []) (fn := Try.f15) Try.func15 rfl (by kernel_rfl) (cast (show T15 p0 p1 p2 w K = bodyZ Try.prog kappa [] .bool Try.f15 [.pointer p0, .int .i64 p1, .int .i64 p2] w K by kernel_rfl) h)

/-- (*sluice/sluicelaw11.pair).played -/
def T16 (p0 : Option Addr) (p1 : (Int × Int × Int × Int × Int × Bool × Bool × Int × Int × Int × Int × Int × Unit)) (p2 : Option Addr) (w : World) (K : Bool → World → Prop) : Prop :=
  RunN Try.prog .addr (V (Instr.box 56 (.agg #[.int .i64 p1.1, .int .i64 p1.2.1, .int .i64 p1.2.2.1, .int .i64 p1.2.2.2.1, .int .i64 p1.2.2.2.2.1, .bool p1.2.2.2.2.2.1, .bool p1.2.2.2.2.2.2.1, .int .i64 p1.2.2.2.2.2.2.2.1, .int .i64 p1.2.2.2.2.2.2.2.2.1, .int .i64 p1.2.2.2.2.2.2.2.2.2.1, .int .i64 p1.2.2.2.2.2.2.2.2.2.2.1, .int .i64 p1.2.2.2.2.2.2.2.2.2.2.2.1]))) w fun t4 w =>
  JoinX (α := Unit) (fun j2 w =>
    JoinX (α := Sl × Sl × Int × Int × Unit) (fun j4 w =>
      JoinX (α := Bool × Unit) (fun j6 w =>
        CallK Try.prog (.tup .nilT) 42 #[.pointer p2, .slice j4.1.a j4.1.len j4.1.cap] w fun t162 w =>
        CallK Try.prog .bool 43 #[.pointer p0, .pointer p2] w fun t165 w =>
        SplitB t165
          (K j6.1 w)
          (K false w))
      fun k5 =>
        SplitB (j4.2.2.1 == j4.2.2.2.1)
          (CallK Try.prog .bool 41 #[.slice j4.1.a j4.1.len j4.1.cap, .slice j4.2.1.a j4.2.1.len j4.2.1.cap] w fun t158 w =>
          k5 (t158, ()) w)
          (k5 (false, ()) w))
    fun k3 =>
      RunN Try.prog (.int .i64) (V (Instr.loadAt 3 (.pointer (some (t4.add 1))))) w fun t21 w =>
      SplitB (t21 == 1)
        (NilP p0 fun t26 =>
        ReadN Try.prog .ptr (V (Instr.loadAt 42 (.pointer (some (t26.add 0))))) w.drew fun t28 =>
        ReadN Try.prog (.int .i64) (V (Instr.loadAt 3 (.pointer (some (t4.add 2))))) w.drew fun t30 =>
        ReadN Try.prog (.int .i64) (V (Instr.loadAt 3 (.pointer (some (t4.add 3))))) w.drew fun t32 =>
        ReadN Try.prog (.int .i64) (V (Instr.loadAt 3 (.pointer (some (t4.add 4))))) w.drew fun t34 =>
        ReadN Try.prog .bool (V (Instr.loadAt 4 (.pointer (some (t4.add 5))))) w.drew fun t36 =>
        CallK Try.prog (.tup (.cons .sl (.cons (.int .i64) .nilT))) 20 #[.pointer t28, .int .i64 t30, .int .i64 t32, .int .i64 t34, .bool t36] w.drew fun t37 w =>
        NilP p0 fun t42 =>
        ReadN Try.prog .ptr (V (Instr.loadAt 43 (.pointer (some (t42.add 1))))) w.drew fun t44 =>
        ReadN Try.prog (.int .i64) (V (Instr.loadAt 3 (.pointer (some (t4.add 2))))) w.drew fun t46 =>
        ReadN Try.prog (.int .i64) (V (Instr.loadAt 3 (.pointer (some (t4.add 3))))) w.drew fun t48 =>
        ReadN Try.prog (.int .i64) (V (Instr.loadAt 3 (.pointer (some (t4.add 4))))) w.drew fun t50 =>
        ReadN Try.prog .bool (V (Instr.loadAt 4 (.pointer (some (t4.add 5))))) w.drew fun t52 =>
        CallK Try.prog (.tup (.cons .sl (.cons (.int .i64) .nilT))) 31 #[.pointer t44, .int .i64 t46, .int .i64 t48, .int .i64 t50, .bool t52] w.drew fun t53 w =>
        k3 (t37.1, t53.1, t37.2.1, t53.2.1, ()) w)
        (SplitB (t21 == 2)
          (NilP p0 fun t59 =>
          ReadN Try.prog .ptr (V (Instr.loadAt 42 (.pointer (some (t59.add 0))))) w.drew fun t61 =>
          ReadN Try.prog (.agg (.cons (.int .i64) (.cons (.int .i64) .nilT))) (V (Instr.loadAt 54 (.pointer (some (t4.add 8))))) w.drew fun t63 =>
          CallK Try.prog .sl 32 #[.pointer t61, .agg #[.int .i64 t63.1, .int .i64 t63.2.1]] w.drew fun t64 w =>
          NilP p0 fun t66 =>
          ReadN Try.prog .ptr (V (Instr.loadAt 43 (.pointer (some (t66.add 1))))) w.drew fun t68 =>
          ReadN Try.prog (.agg (.cons (.int .i64) (.cons (.int .i64) .nilT))) (V (Instr.loadAt 54 (.pointer (some (t4.add 8))))) w.drew fun t70 =>
          CallK Try.prog .sl 33 #[.pointer t68, .agg #[.int .i64 t70.1, .int .i64 t70.2.1]] w.drew fun t71 w =>
          k3 (t64, t71, 0, 0, ()) w)
          (SplitB (t21 == 3)
            (NilP p0 fun t75 =>
            ReadN Try.prog .ptr (V (Instr.loadAt 42 (.pointer (some (t75.add 0))))) w.drew fun t77 =>
            ReadN Try.prog (.agg (.cons (.int .i64) (.cons (.int .i64) .nilT))) (V (Instr.loadAt 54 (.pointer (some (t4.add 8))))) w.drew fun t79 =>
            ReadN Try.prog (.agg (.cons (.int .i64) (.cons (.int .i64) .nilT))) (V (Instr.loadAt 54 (.pointer (some (t4.add 10))))) w.drew fun t81 =>
            CallK Try.prog .sl 34 #[.pointer t77, .agg #[.int .i64 t79.1, .int .i64 t79.2.1], .agg #[.int .i64 t81.1, .int .i64 t81.2.1]] w.drew fun t82 w =>
            NilP p0 fun t84 =>
            ReadN Try.prog .ptr (V (Instr.loadAt 43 (.pointer (some (t84.add 1))))) w.drew fun t86 =>
            ReadN Try.prog (.agg (.cons (.int .i64) (.cons (.int .i64) .nilT))) (V (Instr.loadAt 54 (.pointer (some (t4.add 8))))) w.drew fun t88 =>
            ReadN Try.prog (.agg (.cons (.int .i64) (.cons (.int .i64) .nilT))) (V (Instr.loadAt 54 (.pointer (some (t4.add 10))))) w.drew fun t90 =>
            CallK Try.prog .sl 35 #[.pointer t86, .agg #[.int .i64 t88.1, .int .i64 t88.2.1], .agg #[.int .i64 t90.1, .int .i64 t90.2.1]] w.drew fun t91 w =>
            k3 (t82, t91, 0, 0, ()) w)
            (SplitB (t21 == 4)
              (NilP p0 fun t95 =>
              ReadN Try.prog .ptr (V (Instr.loadAt 42 (.pointer (some (t95.add 0))))) w.drew fun t97 =>
              ReadN Try.prog (.int .i64) (V (Instr.loadAt 3 (.pointer (some (t4.add 7))))) w.drew fun t99 =>
              ReadN Try.prog (.agg (.cons (.int .i64) (.cons (.int .i64) .nilT))) (V (Instr.loadAt 54 (.pointer (some (t4.add 8))))) w.drew fun t101 =>
              ReadN Try.prog (.int .i64) (V (Instr.loadAt 3 (.pointer (some (t4.add 4))))) w.drew fun t103 =>
              CallK Try.prog .sl 36 #[.pointer t97, .int .i64 t99, .agg #[.int .i64 t101.1, .int .i64 t101.2.1], .int .i64 t103] w.drew fun t104 w =>
              NilP p0 fun t106 =>
              ReadN Try.prog .ptr (V (Instr.loadAt 43 (.pointer (some (t106.add 1))))) w.drew fun t108 =>
              ReadN Try.prog (.int .i64) (V (Instr.loadAt 3 (.pointer (some (t4.add 7))))) w.drew fun t110 =>
              ReadN Try.prog (.agg (.cons (.int .i64) (.cons (.int .i64) .nilT))) (V (Instr.loadAt 54 (.pointer (some (t4.add 8))))) w.drew fun t112 =>
              ReadN Try.prog (.int .i64) (V (Instr.loadAt 3 (.pointer (some (t4.add 4))))) w.drew fun t114 =>
              CallK Try.prog (.tup .nilT) 37 #[.pointer t108, .int .i64 t110, .agg #[.int .i64 t112.1, .int .i64 t112.2.1], .int .i64 t114] w.drew fun t115 w =>
              k3 (t104, (⟨none, 0, 0⟩ : Sl), 0, 0, ()) w)
              (SplitB (t21 == 5)
                (NilP p0 fun t119 =>
                ReadN Try.prog .ptr (V (Instr.loadAt 42 (.pointer (some (t119.add 0))))) w.drew fun t121 =>
                ReadN Try.prog (.int .i64) (V (Instr.loadAt 3 (.pointer (some (t4.add 2))))) w.drew fun t123 =>
                ReadN Try.prog (.int .i64) (V (Instr.loadAt 3 (.pointer (some (t4.add 3))))) w.drew fun t125 =>
                ReadN Try.prog (.int .i64) (V (Instr.loadAt 3 (.pointer (some (t4.add 4))))) w.drew fun t127 =>
                CallK Try.prog .sl 21 #[.pointer t121, .int .i64 t123, .int .i64 t125, .int .i64 t127] w.drew fun t128 w =>
                NilP p0 fun t130 =>
                ReadN Try.prog .ptr (V (Instr.loadAt 43 (.pointer (some (t130.add 1))))) w.drew fun t132 =>
                ReadN Try.prog (.int .i64) (V (Instr.loadAt 3 (.pointer (some (t4.add 2))))) w.drew fun t134 =>
                ReadN Try.prog (.int .i64) (V (Instr.loadAt 3 (.pointer (some (t4.add 3))))) w.drew fun t136 =>
                ReadN Try.prog (.int .i64) (V (Instr.loadAt 3 (.pointer (some (t4.add 4))))) w.drew fun t138 =>
                CallK Try.prog .sl 38 #[.pointer t132, .int .i64 t134, .int .i64 t136, .int .i64 t138] w.drew fun t139 w =>
                k3 (t128, t139, 0, 0, ()) w)
                (SplitB (t21 == 6)
                  (NilP p0 fun t143 =>
                  RunN Try.prog .ptr (V (Instr.loadAt 42 (.pointer (some (t143.add 0))))) w fun t145 w =>
                  CallK Try.prog .sl 39 #[.pointer t145] w fun t146 w =>
                  NilP p0 fun t148 =>
                  RunN Try.prog .ptr (V (Instr.loadAt 43 (.pointer (some (t148.add 1))))) w fun t150 w =>
                  CallK Try.prog .sl 40 #[.pointer t150] w fun t151 w =>
                  k3 (t146, t151, 0, 0, ()) w)
                  (k3 ((⟨none, 0, 0⟩ : Sl), (⟨none, 0, 0⟩ : Sl), 0, 0, ()) w)))))))
  fun k1 =>
    RunN Try.prog .bool (V (Instr.loadAt 4 (.pointer (some (t4.add 6))))) w fun t13 w =>
    SplitB t13
      (NilP p0 fun t15 =>
      RunN Try.prog .ptr (V (Instr.loadAt 43 (.pointer (some (t15.add 1))))) w fun t17 w =>
      CallK Try.prog (.agg (.cons (.int .i64) (.cons (.int .i64) .nilT))) 30 #[.pointer t17] w fun t18 w =>
      RunU Try.prog (U (Instr.storeAt 54 (.pointer (some (t4.add 8))) (.agg #[.int .i64 t18.1, .int .i64 t18.2.1]))) w fun w =>
      k1 () w)
      (k1 () w)
theorem T16.calls {p0 : Option Addr} {p1 : (Int × Int × Int × Int × Int × Bool × Bool × Int × Int × Int × Int × Int × Unit)} {p2 : Option Addr} {w : World} {K : Bool → World → Prop} (h : T16 p0 p1 p2 w K) : CallK Try.prog .bool 16 #[.pointer p0, .agg #[.int .i64 p1.1, .int .i64 p1.2.1, .int .i64 p1.2.2.1, .int .i64 p1.2.2.2.1, .int .i64 p1.2.2.2.2.1, .bool p1.2.2.2.2.2.1, .bool p1.2.2.2.2.2.2.1, .int .i64 p1.2.2.2.2.2.2.2.1, .int .i64 p1.2.2.2.2.2.2.2.2.1, .int .i64 p1.2.2.2.2.2.2.2.2.2.1, .int .i64 p1.2.2.2.2.2.2.2.2.2.2.1, .int .i64 p1.2.2.2.2.2.2.2.2.2.2.2.1], .pointer p2] w K :=
  bodyZ_sound (κ := kappa) (ann := [(1, []), (7, [(7, .sl), (8, .sl), (9, (.int .i64)), (10, (.int .i64))]), (21, [(11, .bool)])]) (fn := Try.f16) Try.func16 rfl (by kernel_rfl) (cast (show T16 p0 p1 p2 w K = bodyZ Try.prog kappa [(1, []), (7, [(7, .sl), (8, .sl), (9, (.int .i64)), (10, (.int .i64))]), (21, [(11, .bool)])] .bool Try.f16 [.pointer p0, .agg #[.int .i64 p1.1, .int .i64 p1.2.1, .int .i64 p1.2.2.1, .int .i64 p1.2.2.2.1, .int .i64 p1.2.2.2.2.1, .bool p1.2.2.2.2.2.1, .bool p1.2.2.2.2.2.2.1, .int .i64 p1.2.2.2.2.2.2.2.1, .int .i64 p1.2.2.2.2.2.2.2.2.1, .int .i64 p1.2.2.2.2.2.2.2.2.2.1, .int .i64 p1.2.2.2.2.2.2.2.2.2.2.1, .int .i64 p1.2.2.2.2.2.2.2.2.2.2.2.1], .pointer p2] w K by kernel_rfl) h)

/-- (*sluice/sluicelaw11.keep).whole -/
def T17 (p0 : Option Addr) (w : World) (K : Bool → World → Prop) : Prop :=
  NilP p0 fun t8 =>
  RunN Try.prog .bool (V (Instr.loadAt 4 (.pointer (some (t8.add 0))))) w fun t10 w =>
  SplitB t10
    (CallK Try.prog .bool 44 #[.pointer p0] w fun t12 w =>
    K t12 w)
    (LoopX (α := Int × Unit) (fun s1 w k2 =>
      NilP p0 fun t15 =>
      RunN Try.prog .sl (V (Instr.loadAt 49 (.pointer (some (t15.add 1))))) w fun t17 w =>
      SplitB (decide (s1.1 < (t17.len : Int)))
        (LoopX (α := Int × Unit) (fun s3 w k4 =>
          NilP p0 fun t24 =>
          RunN Try.prog .sl (V (Instr.loadAt 49 (.pointer (some (t24.add 1))))) w fun t26 w =>
          RunN Try.prog .addr (V (Instr.indexAt 49 (.slice t26.a t26.len t26.cap) (.int .i64 s1.1))) w fun t28 w =>
          RunN Try.prog .sl (V (Instr.loadAt 66 (.pointer (some t28)))) w fun t29 w =>
          SplitB (decide (s3.1 < (t29.len : Int)))
            (NilP p0 fun t35 =>
            ReadN Try.prog .sl (V (Instr.loadAt 49 (.pointer (some (t35.add 1))))) w.drew fun t37 =>
            ReadN Try.prog .addr (V (Instr.indexAt 49 (.slice t37.a t37.len t37.cap) (.int .i64 s1.1))) w.drew fun t39 =>
            ReadN Try.prog .sl (V (Instr.loadAt 66 (.pointer (some t39)))) w.drew fun t40 =>
            ReadN Try.prog .addr (V (Instr.indexAt 66 (.slice t40.a t40.len t40.cap) (.int .i64 s3.1))) w.drew fun t42 =>
            ReadN Try.prog (.agg (.cons (.int .i64) (.cons (.int .i64) (.cons (.int .i64) (.cons (.int .i64) (.cons (.int .i64) (.cons (.int .i64) .nilT))))))) (V (Instr.loadAt 70 (.pointer (some t42)))) w.drew fun t43 =>
            NilP p0 fun t45 =>
            ReadN Try.prog .sl (V (Instr.loadAt 26 (.pointer (some (t45.add 3))))) w.drew fun t47 =>
            ReadN Try.prog .addr (V (Instr.indexAt 26 (.slice t47.a t47.len t47.cap) (.int .i64 s1.1))) w.drew fun t49 =>
            ReadN Try.prog (.int .i64) (V (Instr.loadAt 3 (.pointer (some t49)))) w.drew fun t50 =>
            ReadN Try.prog .bool (V (do eqGuard .neq 70 (.tmp 43) (.tmp 51) (.agg #[.int .i64 t43.1, .int .i64 t43.2.1, .int .i64 t43.2.2.1, .int .i64 t43.2.2.2.1, .int .i64 t43.2.2.2.2.1, .int .i64 t43.2.2.2.2.2.1]) (.agg #[.int .i64 (-9), .int .i64 t50, .int .i64 0, .int .i64 0, .int .i64 0, .int .i64 0]); binOp .neq 70 (.agg #[.int .i64 t43.1, .int .i64 t43.2.1, .int .i64 t43.2.2.1, .int .i64 t43.2.2.2.1, .int .i64 t43.2.2.2.2.1, .int .i64 t43.2.2.2.2.2.1]) (.agg #[.int .i64 (-9), .int .i64 t50, .int .i64 0, .int .i64 0, .int .i64 0, .int .i64 0]))) w.drew fun t52 =>
            SplitB t52
              (K false w.drew)
              (k4 (IntKind.i64.wrap (s3.1 + 1), ()) w.drew))
            (k2 (IntKind.i64.wrap (s1.1 + 1), ()) w))
        (0, ()) w)
        (LoopX (α := Int × Unit) (fun s5 w k6 =>
          NilP p0 fun t55 =>
          RunN Try.prog .sl (V (Instr.loadAt 50 (.pointer (some (t55.add 4))))) w fun t57 w =>
          SplitB (decide (s5.1 < (t57.len : Int)))
            (LoopX (α := Int × Unit) (fun s7 w k8 =>
              NilP p0 fun t64 =>
              RunN Try.prog .sl (V (Instr.loadAt 50 (.pointer (some (t64.add 4))))) w fun t66 w =>
              RunN Try.prog .addr (V (Instr.indexAt 50 (.slice t66.a t66.len t66.cap) (.int .i64 s5.1))) w fun t68 w =>
              RunN Try.prog .sl (V (Instr.loadAt 78 (.pointer (some t68)))) w fun t69 w =>
              SplitB (decide (s7.1 < (t69.len : Int)))
                (NilP p0 fun t75 =>
                ReadN Try.prog .sl (V (Instr.loadAt 50 (.pointer (some (t75.add 4))))) w.drew fun t77 =>
                ReadN Try.prog .addr (V (Instr.indexAt 50 (.slice t77.a t77.len t77.cap) (.int .i64 s5.1))) w.drew fun t79 =>
                ReadN Try.prog .sl (V (Instr.loadAt 78 (.pointer (some t79)))) w.drew fun t80 =>
                ReadN Try.prog .addr (V (Instr.indexAt 78 (.slice t80.a t80.len t80.cap) (.int .i64 s7.1))) w.drew fun t82 =>
                ReadN Try.prog (.agg (.cons (.int .i64) (.cons (.int .i64) .nilT))) (V (Instr.loadAt 54 (.pointer (some t82)))) w.drew fun t83 =>
                NilP p0 fun t85 =>
                ReadN Try.prog .sl (V (Instr.loadAt 26 (.pointer (some (t85.add 6))))) w.drew fun t87 =>
                ReadN Try.prog .addr (V (Instr.indexAt 26 (.slice t87.a t87.len t87.cap) (.int .i64 s5.1))) w.drew fun t89 =>
                ReadN Try.prog (.int .i64) (V (Instr.loadAt 3 (.pointer (some t89)))) w.drew fun t90 =>
                ReadN Try.prog .bool (V (do eqGuard .neq 54 (.tmp 83) (.tmp 91) (.agg #[.int .i64 t83.1, .int .i64 t83.2.1]) (.agg #[.int .i64 (-9), .int .i64 t90]); binOp .neq 54 (.agg #[.int .i64 t83.1, .int .i64 t83.2.1]) (.agg #[.int .i64 (-9), .int .i64 t90]))) w.drew fun t92 =>
                SplitB t92
                  (K false w.drew)
                  (k8 (IntKind.i64.wrap (s7.1 + 1), ()) w.drew))
                (k6 (IntKind.i64.wrap (s5.1 + 1), ()) w))
            (0, ()) w)
            (K true w))
        (0, ()) w))
    (0, ()) w)
theorem T17.calls {p0 : Option Addr} {w : World} {K : Bool → World → Prop} (h : T17 p0 w K) : CallK Try.prog .bool 17 #[.pointer p0] w K :=
  bodyZ_sound (κ := kappa) (ann := [(6, [(3, (.int .i64))]), (11, [(4, (.int .i64))]), (19, [(5, (.int .i64))]), (24, [(6, (.int .i64))])]) (fn := Try.f17) Try.func17 rfl (by kernel_rfl) (cast (show T17 p0 w K = bodyZ Try.prog kappa [(6, [(3, (.int .i64))]), (11, [(4, (.int .i64))]), (19, [(5, (.int .i64))]), (24, [(6, (.int .i64))])] .bool Try.f17 [.pointer p0] w K by kernel_rfl) h)

/-- sluice/epoch.New -/
def T19 (p0 : Int) (p1 : Int) (w : World) (K : (Option Addr × Int × Unit) → World → Prop) : Prop :=
  JoinX (α := Bool × Unit) (fun j2 w =>
    SplitB j2.1
      (K (none, 1, ()) w)
      (JoinX (α := Bool × Unit) (fun j4 w =>
        SplitB j4.1
          (K (none, 3, ()) w)
          (RunN Try.prog .chan (V (Instr.makeChan 97 (.int .i64 4))) w fun t23 w =>
          RunN Try.prog .addr (V (Instr.box 100 (.agg #[.int .i64 p0, .int .i64 p1, .int .i64 0, .int .i64 0, .int .i64 0, .int .i64 0, .int .i64 0, .int .i64 0, .int .i64 0, .int .i64 0, .int .i64 0, .int .i64 0, .int .i64 0, .int .i64 0, .int .i64 0, .int .i64 0, .int .i64 0, .int .i64 0, .int .i64 0, .int .i64 0, .int .i64 0, .int .i64 0, .int .i64 0, .int .i64 0, .int .i64 0, .int .i64 0, .int .i64 0, .int .i64 0, .int .i64 0, .int .i64 0, .int .i64 0, .int .i64 0, .int .i64 0, .int .i64 0, .int .i64 0, .int .i64 0, .int .i64 0, .int .i64 0, .int .i64 0, .int .i64 0, .int .i64 0, .int .i64 0, .int .i64 0, .int .i64 0, .int .i64 0, .int .i64 0, .int .i64 0, .int .i64 0, .int .i64 0, .int .i64 0, .bool false, .chan t23]))) w fun t25 w =>
          K (some t25, 0, ()) w))
      fun k3 =>
        SplitB (decide (p0 < 0))
          (k3 (true, ()) w)
          (k3 (decide (p0 ≥ p1), ()) w)))
  fun k1 =>
    SplitB (decide (p1 < 2))
      (k1 (true, ()) w)
      (k1 (decide (p1 > 16), ()) w)
theorem T19.calls {p0 : Int} {p1 : Int} {w : World} {K : (Option Addr × Int × Unit) → World → Prop} (h : T19 p0 p1 w K) : CallK Try.prog (.tup (.cons .ptr (.cons (.int .i64) .nilT))) 19 #[.int .i64 p0, .int .i64 p1] w K :=
  bodyZ_sound (κ := kappa) (ann := [(2, [(6, .bool)]), (4, [(13, .bool)])]) (fn := Try.f19) Try.func19 rfl (by kernel_rfl) (cast (show T19 p0 p1 w K = bodyZ Try.prog kappa [(2, [(6, .bool)]), (4, [(13, .bool)])] (.tup (.cons .ptr (.cons (.int .i64) .nilT))) Try.f19 [.int .i64 p0, .int .i64 p1] w K by kernel_rfl) h)

/-- (*sluice/epoch.Machine).Begin -/
def T20 (p0 : Option Addr) (p1 : Int) (p2 : Int) (p3 : Int) (p4 : Bool) (w : World) (K : (Sl × Int × Unit) → World → Prop) : Prop :=
  NilP p0 fun t18 =>
  RunN Try.prog (.agg (.cons (.int .i64) (.cons (.int .i64) (.cons (.int .i64) (.cons (.int .i64) (.cons (.int .i64) (.cons (.int .i64) (.cons (.int .i64) (.cons (.int .i64) (.cons (.int .i64) (.cons (.int .i64) (.cons (.int .i64) (.cons (.int .i64) (.cons (.int .i64) (.cons (.int .i64) (.cons (.int .i64) (.cons (.int .i64) .nilT))))))))))))))))) (V (Instr.loadAt 98 (.pointer (some (t18.add 2))))) w fun t20 w =>
  LoopX (α := Int × Int × Unit) (fun s1 w k2 =>
    SplitB (decide (s1.2.1 < 16))
      (RunN Try.prog (.int .i64) (V (Instr.index 98 (.agg #[.int .i64 t20.1, .int .i64 t20.2.1, .int .i64 t20.2.2.1, .int .i64 t20.2.2.2.1, .int .i64 t20.2.2.2.2.1, .int .i64 t20.2.2.2.2.2.1, .int .i64 t20.2.2.2.2.2.2.1, .int .i64 t20.2.2.2.2.2.2.2.1, .int .i64 t20.2.2.2.2.2.2.2.2.1, .int .i64 t20.2.2.2.2.2.2.2.2.2.1, .int .i64 t20.2.2.2.2.2.2.2.2.2.2.1, .int .i64 t20.2.2.2.2.2.2.2.2.2.2.2.1, .int .i64 t20.2.2.2.2.2.2.2.2.2.2.2.2.1, .int .i64 t20.2.2.2.2.2.2.2.2.2.2.2.2.2.1, .int .i64 t20.2.2.2.2.2.2.2.2.2.2.2.2.2.2.1, .int .i64 t20.2.2.2.2.2.2.2.2.2.2.2.2.2.2.2.1]) (.int .i64 s1.2.1))) w fun t23 w =>
      RunN Try.prog (.int .i64) (V (Builtin.max_ #[3, 3] 3 #[.int .i64 s1.1, .int .i64 t23])) w fun t26 w =>
      k2 (t26, IntKind.i64.wrap (s1.2.1 + 1), ()) w)
      (JoinX (α := Bool × Unit) (fun j4 w =>
        SplitB j4.1
          (K ((⟨none, 0, 0⟩ : Sl), 1, ()) w)
          (CallK Try.prog .bool 22 #[.pointer p0] w fun t41 w =>
          SplitB t41
            (K ((⟨none, 0, 0⟩ : Sl), 62, ()) w)
            (SplitB (decide (s1.1 ≥ 1099511627776))
              (K ((⟨none, 0, 0⟩ : Sl), 2, ()) w)
              (NilP p0 fun t47 =>
              ReadN Try.prog (.int .i64) (V (Instr.loadAt 3 (.pointer (some (t47.add 0))))) w.drew fun t49 =>
              NilP p0 fun t52 =>
              ReadN Try.prog .addr (V (Instr.indexAt 98 (.pointer (some (t52.add 2))) (.int .i64 t49))) w.drew fun t54 =>
              RunU Try.prog (U (Instr.storeAt 3 (.pointer (some t54)) (.int .i64 (IntKind.i64.wrap (s1.1 + 1))))) w.drew fun w =>
              NilP p0 fun t57 =>
              RunU Try.prog (U (Instr.storeAt 4 (.pointer (some (t57.add 50))) (.bool p4))) w fun w =>
              LoopX (α := Int × Unit) (fun s5 w k6 =>
                SplitB (decide (s5.1 < 16))
                  (NilP p0 fun t64 =>
                  RunN Try.prog .addr (V (Instr.indexAt 98 (.pointer (some (t64.add 34))) (.int .i64 s5.1))) w fun t66 w =>
                  RunU Try.prog (U (Instr.storeAt 3 (.pointer (some t66)) (.int .i64 (-1)))) w fun w =>
                  k6 (IntKind.i64.wrap (s5.1 + 1), ()) w)
                  (CallK Try.prog .sl 21 #[.pointer p0, .int .i64 p1, .int .i64 p2, .int .i64 p3] w fun t72 w =>
                  SplitB (decide ((t72.len : Int) > 0))
                    (K (t72, 0, ()) w)
                    (CallK Try.prog (.agg (.cons (.int .i64) (.cons (.int .i64) .nilT))) 25 #[.pointer p0] w fun t79 w =>
                    CallK Try.prog (.tup .nilT) 46 #[.pointer p0, .agg #[.int .i64 1, .int .i64 (-1), .int .i64 t79.1, .int .i64 t79.2.1, .int .i64 0, .int .i64 0]] w fun t81 w =>
                    CallK Try.prog .sl 47 #[.pointer p0] w fun t83 w =>
                    K (t83, 0, ()) w)))
              (0, ()) w))))
      fun k3 =>
        RunN Try.prog .sl (V (Instr.buildSlice 26 3 #[(0, .int .i64 p1), (1, .int .i64 p2), (2, .int .i64 p3)])) w fun t32 w =>
        CallK Try.prog .bool 45 #[.slice t32.a t32.len t32.cap] w fun t33 w =>
        SplitB (!t33)
          (k3 (true, ()) w)
          (k3 (p1 == 0, ()) w)))
  (0, 0, ()) w
theorem T20.calls {p0 : Option Addr} {p1 : Int} {p2 : Int} {p3 : Int} {p4 : Bool} {w : World} {K : (Sl × Int × Unit) → World → Prop} (h : T20 p0 p1 p2 p3 p4 w K) : CallK Try.prog (.tup (.cons .sl (.cons (.int .i64) .nilT))) 20 #[.pointer p0, .int .i64 p1, .int .i64 p2, .int .i64 p3, .bool p4] w K :=
  bodyZ_sound (κ := kappa) (ann := [(4, [(12, (.int .i64)), (21, (.int .i64))]), (10, [(28, .bool)]), (20, [(59, (.int .i64))])]) (fn := Try.f20) Try.func20 rfl (by kernel_rfl) (cast (show T20 p0 p1 p2 p3 p4 w K = bodyZ Try.prog kappa [(4, [(12, (.int .i64)), (21, (.int .i64))]), (10, [(28, .bool)]), (20, [(59, (.int .i64))])] (.tup (.cons .sl (.cons (.int .i64) .nilT))) Try.f20 [.pointer p0, .int .i64 p1, .int .i64 p2, .int .i64 p3, .bool p4] w K by kernel_rfl) h)

/-- (*sluice/epoch.Machine).Look -/
def T21 (p0 : Option Addr) (p1 : Int) (p2 : Int) (p3 : Int) (w : World) (K : Sl → World → Prop) : Prop :=
  CallK Try.prog (.agg (.cons (.int .i64) (.cons (.int .i64) .nilT))) 25 #[.pointer p0] w fun t11 w =>
  RunN Try.prog .addr (V (Instr.alloc 54 true (.tuple #[]))) w fun t9 w =>
  RunU Try.prog (U (Instr.storeAt 54 (.pointer (some t9)) (.agg #[.int .i64 t11.1, .int .i64 t11.2.1]))) w fun w =>
  JoinX (α := Bool × Unit) (fun j2 w =>
    SplitB j2.1
      (K (⟨none, 0, 0⟩ : Sl) w)
      (NilP p0 fun t50 =>
      ReadN Try.prog (.int .i64) (V (Instr.loadAt 3 (.pointer (some (t50.add 0))))) w.drew fun t52 =>
      ReadN Try.prog (.agg (.cons (.int .i64) (.cons (.int .i64) .nilT))) (V (Instr.loadAt 54 (.pointer (some t9)))) w.drew fun t53 =>
      CallK Try.prog (.tup .nilT) 46 #[.pointer p0, .agg #[.int .i64 4, .int .i64 t52, .int .i64 t53.1, .int .i64 t53.2.1, .int .i64 0, .int .i64 0]] w.drew fun t55 w =>
      CallK Try.prog .sl 47 #[.pointer p0] w fun t57 w =>
      K t57 w))
  fun k1 =>
    RunN Try.prog (.agg (.cons (.int .i64) (.cons (.int .i64) .nilT))) (V (Instr.loadAt 54 (.pointer (some t9)))) w fun t12 w =>
    CallK Try.prog .bool 48 #[.agg #[.int .i64 t12.1, .int .i64 t12.2.1]] w fun t13 w =>
    SplitB (!t13)
      (k1 (true, ()) w)
      (RunN Try.prog .sl (V (Instr.buildSlice 26 3 #[(0, .int .i64 p1), (1, .int .i64 p2), (2, .int .i64 p3)])) w fun t19 w =>
      CallK Try.prog .bool 45 #[.slice t19.a t19.len t19.cap] w fun t20 w =>
      SplitB (!t20)
        (k1 (true, ()) w)
        (SplitB (p1 == 0)
          (k1 (true, ()) w)
          (CallK Try.prog (.int .i64) 49 #[.pointer p0] w fun t32 w =>
          SplitB ((IntKind.i64.wrap ((IntKind.i64.wrap (p2 + p3)) + t32)) != p1)
            (k1 (true, ()) w)
            (NilP p0 fun t39 =>
            RunN Try.prog .bool (V (Instr.loadAt 4 (.pointer (some (t39.add 50))))) w fun t41 w =>
            SplitB t41
              (CallK Try.prog .bool 50 #[.pointer p0] w fun t44 w =>
              k1 (!t44, ()) w)
              (k1 (false, ()) w)))))
theorem T21.calls {p0 : Option Addr} {p1 : Int} {p2 : Int} {p3 : Int} {w : World} {K : Sl → World → Prop} (h : T21 p0 p1 p2 p3 w K) : CallK Try.prog .sl 21 #[.pointer p0, .int .i64 p1, .int .i64 p2, .int .i64 p3] w K :=
  bodyZ_sound (κ := kappa) (ann := [(3, [(47, .bool)])]) (fn := Try.f21) Try.func21 rfl (by kernel_rfl) (cast (show T21 p0 p1 p2 p3 w K = bodyZ Try.prog kappa [(3, [(47, .bool)])] .sl Try.f21 [.pointer p0, .int .i64 p1, .int .i64 p2, .int .i64 p3] w K by kernel_rfl) h)

/-- (*sluice/epoch.Machine).Frozen -/
def T22 (p0 : Option Addr) (w : World) (K : Bool → World → Prop) : Prop :=
  CallK Try.prog (.agg (.cons (.int .i64) (.cons (.int .i64) .nilT))) 51 #[.pointer p0] w fun t4 w =>
  CallK Try.prog .bool 48 #[.agg #[.int .i64 t4.1, .int .i64 t4.2.1]] w fun t5 w =>
  K t5 w
theorem T22.calls {p0 : Option Addr} {w : World} {K : Bool → World → Prop} (h : T22 p0 w K) : CallK Try.prog .bool 22 #[.pointer p0] w K :=
  bodyZ_sound (κ := kappa) (ann := []) (fn := Try.f22) Try.func22 rfl (by kernel_rfl) (cast (show T22 p0 w K = bodyZ Try.prog kappa [] .bool Try.f22 [.pointer p0] w K by kernel_rfl) h)

/-- (*sluice/epoch.Machine).Own -/
def T25 (p0 : Option Addr) (w : World) (K : (Int × Int × Unit) → World → Prop) : Prop :=
  RunN Try.prog .addr (V (Instr.alloc 54 true (.tuple #[]))) w fun t2 w =>
  NilP p0 fun t8 =>
  RunN Try.prog (.int .i64) (V (Instr.loadAt 3 (.pointer (some (t8.add 0))))) w fun t10 w =>
  CallK Try.prog (.tup (.cons (.agg (.cons (.int .i64) (.cons (.int .i64) .nilT))) (.cons .bool .nilT))) 56 #[.pointer p0, .int .i64 t10] w fun t11 w =>
  RunN Try.prog .addr (V (Instr.alloc 54 true (.tuple #[]))) w fun t3 w =>
  RunU Try.prog (U (Instr.storeAt 54 (.pointer (some t3)) (.agg #[.int .i64 t11.1.1, .int .i64 t11.1.2.1]))) w fun w =>
  RunN Try.prog (.agg (.cons (.int .i64) (.cons (.int .i64) .nilT))) (V (Instr.loadAt 54 (.pointer (some t3)))) w fun t14 w =>
  RunU Try.prog (U (Instr.storeAt 54 (.pointer (some t2)) (.agg #[.int .i64 t14.1, .int .i64 t14.2.1]))) w fun w =>
  ReadN Try.prog (.agg (.cons (.int .i64) (.cons (.int .i64) .nilT))) (V (Instr.loadAt 54 (.pointer (some t2)))) w fun r0 =>
  K (r0.1, r0.2.1, ()) w
theorem T25.calls {p0 : Option Addr} {w : World} {K : (Int × Int × Unit) → World → Prop} (h : T25 p0 w K) : CallK Try.prog (.agg (.cons (.int .i64) (.cons (.int .i64) .nilT))) 25 #[.pointer p0] w K :=
  bodyZ_sound (κ := kappa) (ann := []) (fn := Try.f25) Try.func25 rfl (by kernel_rfl) (cast (show T25 p0 w K = bodyZ Try.prog kappa [] (.agg (.cons (.int .i64) (.cons (.int .i64) .nilT))) Try.f25 [.pointer p0] w K by kernel_rfl) h)

/-- (*sluice/epoch.Machine).Live -/
def T28 (p0 : Option Addr) (w : World) (K : Sl → World → Prop) : Prop :=
  NilP p0 fun t8 =>
  RunN Try.prog (.int .i64) (V (Instr.loadAt 3 (.pointer (some (t8.add 1))))) w fun t10 w =>
  LoopX (α := Sl × Int × Unit) (fun s1 w k2 =>
    SplitB (decide (s1.2.1 < t10))
      (CallK Try.prog (.tup (.cons (.agg (.cons (.int .i64) (.cons (.int .i64) .nilT))) (.cons .bool .nilT))) 56 #[.pointer p0, .int .i64 s1.2.1] w fun t17 w =>
      RunN Try.prog .addr (V (Instr.alloc 54 true (.tuple #[]))) w fun t5 w =>
      RunU Try.prog (U (Instr.storeAt 54 (.pointer (some t5)) (.agg #[.int .i64 t17.1.1, .int .i64 t17.1.2.1]))) w fun w =>
      SplitB t17.2.1
        (RunN Try.prog (.agg (.cons (.int .i64) (.cons (.int .i64) .nilT))) (V (Instr.loadAt 54 (.pointer (some t5)))) w fun t22 w =>
        RunN Try.prog .sl (V (Instr.buildSlice 78 1 #[(0, .agg #[.int .i64 t22.1, .int .i64 t22.2.1])])) w fun t23 w =>
        RunN Try.prog .sl (V (Builtin.append_ #[78, 78] 78 #[.slice s1.1.a s1.1.len s1.1.cap, .slice t23.a t23.len t23.cap])) w fun t24 w =>
        k2 (t24, IntKind.i64.wrap (s1.2.1 + 1), ()) w)
        (k2 (s1.1, IntKind.i64.wrap (s1.2.1 + 1), ()) w))
      (K s1.1 w))
  ((⟨none, 0, 0⟩ : Sl), 0, ()) w
theorem T28.calls {p0 : Option Addr} {w : World} {K : Sl → World → Prop} (h : T28 p0 w K) : CallK Try.prog .sl 28 #[.pointer p0] w K :=
  bodyZ_sound (κ := kappa) (ann := [(4, [(3, .sl), (11, (.int .i64))])]) (fn := Try.f28) Try.func28 rfl (by kernel_rfl) (cast (show T28 p0 w K = bodyZ Try.prog kappa [(4, [(3, .sl), (11, (.int .i64))])] .sl Try.f28 [.pointer p0] w K by kernel_rfl) h)

/-- sluice/sluiceref11.New -/
def T29 (p0 : Int) (p1 : Int) (w : World) (K : (Option Addr × Int × Unit) → World → Prop) : Prop :=
  JoinX (α := Bool × Unit) (fun j2 w =>
    SplitB j2.1
      (K (none, 1, ()) w)
      (JoinX (α := Bool × Unit) (fun j4 w =>
        SplitB j4.1
          (K (none, 3, ()) w)
          (RunN Try.prog .addr (V (Instr.box 111 (.agg #[.int .i64 p0, .int .i64 p1, .slice none 0 0, .slice none 0 0, .slice none 0 0, .bool false]))) w fun t22 w =>
          K (some t22, 0, ()) w))
      fun k3 =>
        SplitB (decide (p0 < 0))
          (k3 (true, ()) w)
          (k3 (decide (p0 ≥ p1), ()) w)))
  fun k1 =>
    SplitB (decide (p1 < 2))
      (k1 (true, ()) w)
      (k1 (decide (p1 > 16), ()) w)
theorem T29.calls {p0 : Int} {p1 : Int} {w : World} {K : (Option Addr × Int × Unit) → World → Prop} (h : T29 p0 p1 w K) : CallK Try.prog (.tup (.cons .ptr (.cons (.int .i64) .nilT))) 29 #[.int .i64 p0, .int .i64 p1] w K :=
  bodyZ_sound (κ := kappa) (ann := [(2, [(11, .bool)]), (5, [(18, .bool)])]) (fn := Try.f29) Try.func29 rfl (by kernel_rfl) (cast (show T29 p0 p1 w K = bodyZ Try.prog kappa [(2, [(11, .bool)]), (5, [(18, .bool)])] (.tup (.cons .ptr (.cons (.int .i64) .nilT))) Try.f29 [.int .i64 p0, .int .i64 p1] w K by kernel_rfl) h)

/-- (*sluice/sluiceref11.Machine).Own -/
def T30 (p0 : Option Addr) (w : World) (K : (Int × Int × Unit) → World → Prop) : Prop :=
  RunN Try.prog .addr (V (Instr.alloc 54 true (.tuple #[]))) w fun t2 w =>
  CallK Try.prog .sl 57 #[.pointer p0] w fun t6 w =>
  LoopX (α := Int × Unit) (fun s1 w k2 =>
    SplitB (decide (s1.1 < (t6.len : Int)))
      (ReadN Try.prog .addr (V (Instr.indexAt 78 (.slice t6.a t6.len t6.cap) (.int .i64 s1.1))) w.drew fun t15 =>
      ReadN Try.prog (.int .i64) (V (Instr.loadAt 3 (.pointer (some (t15.add 1))))) w.drew fun t17 =>
      NilP p0 fun t19 =>
      ReadN Try.prog (.int .i64) (V (Instr.loadAt 3 (.pointer (some (t19.add 0))))) w.drew fun t21 =>
      SplitB (t17 == t21)
        (RunN Try.prog .addr (V (Instr.indexAt 78 (.slice t6.a t6.len t6.cap) (.int .i64 s1.1))) w.drew fun t25 w =>
        RunN Try.prog (.agg (.cons (.int .i64) (.cons (.int .i64) .nilT))) (V (Instr.loadAt 54 (.pointer (some t25)))) w fun t26 w =>
        RunU Try.prog (U (Instr.storeAt 54 (.pointer (some t2)) (.agg #[.int .i64 t26.1, .int .i64 t26.2.1]))) w fun w =>
        ReadN Try.prog (.agg (.cons (.int .i64) (.cons (.int .i64) .nilT))) (V (Instr.loadAt 54 (.pointer (some t2)))) w fun r0 =>
        K (r0.1, r0.2.1, ()) w)
        (k2 (IntKind.i64.wrap (s1.1 + 1), ()) w.drew))
      (RunU Try.prog (U (Instr.storeAt 54 (.pointer (some t2)) (.agg #[.int .i64 0, .int .i64 0]))) w fun w =>
      ReadN Try.prog (.agg (.cons (.int .i64) (.cons (.int .i64) .nilT))) (V (Instr.loadAt 54 (.pointer (some t2)))) w fun r0 =>
      K (r0.1, r0.2.1, ()) w))
  (0, ()) w
theorem T30.calls {p0 : Option Addr} {w : World} {K : (Int × Int × Unit) → World → Prop} (h : T30 p0 w K) : CallK Try.prog (.agg (.cons (.int .i64) (.cons (.int .i64) .nilT))) 30 #[.pointer p0] w K :=
  bodyZ_sound (κ := kappa) (ann := [(4, [(4, (.int .i64))])]) (fn := Try.f30) Try.func30 rfl (by kernel_rfl) (cast (show T30 p0 w K = bodyZ Try.prog kappa [(4, [(4, (.int .i64))])] (.agg (.cons (.int .i64) (.cons (.int .i64) .nilT))) Try.f30 [.pointer p0] w K by kernel_rfl) h)

/-- (*sluice/sluiceref11.Machine).Begin -/
def T31 (p0 : Option Addr) (p1 : Int) (p2 : Int) (p3 : Int) (p4 : Bool) (w : World) (K : (Sl × Int × Unit) → World → Prop) : Prop :=
  CallK Try.prog .bool 58 #[.int .i64 p1, .int .i64 p2, .int .i64 p3] w fun t19 w =>
  SplitB (!t19)
    (K ((⟨none, 0, 0⟩ : Sl), 1, ()) w)
    (CallK Try.prog .bool 59 #[.pointer p0] w fun t22 w =>
    SplitB t22
      (K ((⟨none, 0, 0⟩ : Sl), 62, ()) w)
      (LoopX (α := Int × Int × Unit) (fun s1 w k2 =>
        NilP p0 fun t25 =>
        RunN Try.prog (.int .i64) (V (Instr.loadAt 3 (.pointer (some (t25.add 1))))) w fun t27 w =>
        SplitB (decide (s1.2.1 < t27))
          (NilP p0 fun t33 =>
          RunN Try.prog .sl (V (Instr.loadAt 78 (.pointer (some (t33.add 2))))) w fun t35 w =>
          CallK Try.prog (.int .i64) 60 #[.slice t35.a t35.len t35.cap, .int .i64 s1.2.1] w fun t37 w =>
          RunN Try.prog (.int .i64) (V (Builtin.max_ #[3, 3] 3 #[.int .i64 s1.1, .int .i64 t37])) w fun t38 w =>
          k2 (t38, IntKind.i64.wrap (s1.2.1 + 1), ()) w)
          (SplitB (decide (s1.1 ≥ 1099511627776))
            (K ((⟨none, 0, 0⟩ : Sl), 2, ()) w)
            (NilP p0 fun t44 =>
            RunN Try.prog (.int .i64) (V (Instr.loadAt 3 (.pointer (some (t44.add 0))))) w fun t46 w =>
            RunN Try.prog .addr (V (Instr.alloc 54 true (.tuple #[]))) w fun t14 w =>
            RunU Try.prog (U (Instr.storeAt 54 (.pointer (some t14)) (.agg #[.int .i64 (IntKind.i64.wrap (s1.1 + 1)), .int .i64 t46]))) w fun w =>
            NilP p0 fun t50 =>
            ReadN Try.prog .sl (V (Instr.loadAt 78 (.pointer (some (t50.add 2))))) w.drew fun t52 =>
            ReadN Try.prog (.agg (.cons (.int .i64) (.cons (.int .i64) .nilT))) (V (Instr.loadAt 54 (.pointer (some t14)))) w.drew fun t53 =>
            RunN Try.prog .sl (V (Instr.buildSlice 78 1 #[(0, .agg #[.int .i64 t53.1, .int .i64 t53.2.1])])) w.drew fun t54 w =>
            StillV Try.prog (V (Instr.loadAt 78 (.pointer (some (t50.add 2))))) (.slice t52.a t52.len t52.cap) w ∧
            RunN Try.prog .sl (V (Builtin.append_ #[78, 78] 78 #[.slice t52.a t52.len t52.cap, .slice t54.a t54.len t54.cap])) w fun t55 w =>
            NilP p0 fun t56 =>
            RunU Try.prog (U (Instr.storeAt 78 (.pointer (some (t56.add 2))) (.slice t55.a t55.len t55.cap))) w fun w =>
            NilP p0 fun t60 =>
            RunU Try.prog (U (Instr.storeAt 4 (.pointer (some (t60.add 5))) (.bool p4))) w fun w =>
            CallK Try.prog .sl 38 #[.pointer p0, .int .i64 p1, .int .i64 p2, .int .i64 p3] w fun t66 w =>
            JoinX (α := Sl × Unit) (fun j4 w =>
              K (j4.1, 0, ()) w)
            fun k3 =>
              SplitB ((t66.len : Int) == 0)
                (RunN Try.prog (.agg (.cons (.int .i64) (.cons (.int .i64) .nilT))) (V (Instr.loadAt 54 (.pointer (some t14)))) w fun t70 w =>
                RunN Try.prog .sl (V (Instr.buildSlice 82 1 #[(0, .agg #[.int .i64 1, .int .i64 (-1), .int .i64 t70.1, .int .i64 t70.2.1, .int .i64 0, .int .i64 0])])) w fun t72 w =>
                k3 (t72, ()) w)
                (k3 (t66, ()) w))))
      (0, 0, ()) w))
theorem T31.calls {p0 : Option Addr} {p1 : Int} {p2 : Int} {p3 : Int} {p4 : Bool} {w : World} {K : (Sl × Int × Unit) → World → Prop} (h : T31 p0 p1 p2 p3 p4 w K) : CallK Try.prog (.tup (.cons .sl (.cons (.int .i64) .nilT))) 31 #[.pointer p0, .int .i64 p1, .int .i64 p2, .int .i64 p3, .bool p4] w K :=
  bodyZ_sound (κ := kappa) (ann := [(10, [(12, (.int .i64)), (13, (.int .i64))]), (21, [(15, .sl)])]) (fn := Try.f31) Try.func31 rfl (by kernel_rfl) (cast (show T31 p0 p1 p2 p3 p4 w K = bodyZ Try.prog kappa [(10, [(12, (.int .i64)), (13, (.int .i64))]), (21, [(15, .sl)])] (.tup (.cons .sl (.cons (.int .i64) .nilT))) Try.f31 [.pointer p0, .int .i64 p1, .int .i64 p2, .int .i64 p3, .bool p4] w K by kernel_rfl) h)

/-- (*sluice/epoch.Machine).Hear -/
def T32 (p0 : Option Addr) (p1 : (Int × Int × Unit)) (w : World) (K : Sl → World → Prop) : Prop :=
  RunN Try.prog .addr (V (Instr.box 54 (.agg #[.int .i64 p1.1, .int .i64 p1.2.1]))) w fun t3 w =>
  CallK Try.prog (.agg (.cons (.int .i64) (.cons (.int .i64) .nilT))) 51 #[.pointer p0] w fun t7 w =>
  RunN Try.prog .addr (V (Instr.alloc 54 true (.tuple #[]))) w fun t5 w =>
  RunU Try.prog (U (Instr.storeAt 54 (.pointer (some t5)) (.agg #[.int .i64 t7.1, .int .i64 t7.2.1]))) w fun w =>
  RunN Try.prog (.agg (.cons (.int .i64) (.cons (.int .i64) .nilT))) (V (Instr.loadAt 54 (.pointer (some t3)))) w fun t9 w =>
  CallK Try.prog (.tup .nilT) 61 #[.pointer p0, .agg #[.int .i64 t9.1, .int .i64 t9.2.1], .bool false] w fun t10 w =>
  RunN Try.prog (.agg (.cons (.int .i64) (.cons (.int .i64) .nilT))) (V (Instr.loadAt 54 (.pointer (some t5)))) w fun t12 w =>
  CallK Try.prog .sl 62 #[.pointer p0, .agg #[.int .i64 t12.1, .int .i64 t12.2.1]] w fun t13 w =>
  K t13 w
theorem T32.calls {p0 : Option Addr} {p1 : (Int × Int × Unit)} {w : World} {K : Sl → World → Prop} (h : T32 p0 p1 w K) : CallK Try.prog .sl 32 #[.pointer p0, .agg #[.int .i64 p1.1, .int .i64 p1.2.1]] w K :=
  bodyZ_sound (κ := kappa) (ann := []) (fn := Try.f32) Try.func32 rfl (by kernel_rfl) (cast (show T32 p0 p1 w K = bodyZ Try.prog kappa [] .sl Try.f32 [.pointer p0, .agg #[.int .i64 p1.1, .int .i64 p1.2.1]] w K by kernel_rfl) h)

/-- (*sluice/sluiceref11.Machine).Hear -/
def T33 (p0 : Option Addr) (p1 : (Int × Int × Unit)) (w : World) (K : Sl → World → Prop) : Prop :=
  RunN Try.prog .addr (V (Instr.box 54 (.agg #[.int .i64 p1.1, .int .i64 p1.2.1]))) w fun t3 w =>
  CallK Try.prog (.agg (.cons (.int .i64) (.cons (.int .i64) .nilT))) 63 #[.pointer p0] w fun t7 w =>
  RunN Try.prog .addr (V (Instr.alloc 54 true (.tuple #[]))) w fun t5 w =>
  RunU Try.prog (U (Instr.storeAt 54 (.pointer (some t5)) (.agg #[.int .i64 t7.1, .int .i64 t7.2.1]))) w fun w =>
  RunN Try.prog (.agg (.cons (.int .i64) (.cons (.int .i64) .nilT))) (V (Instr.loadAt 54 (.pointer (some t3)))) w fun t9 w =>
  CallK Try.prog (.tup .nilT) 64 #[.pointer p0, .agg #[.int .i64 t9.1, .int .i64 t9.2.1]] w fun t10 w =>
  RunN Try.prog (.agg (.cons (.int .i64) (.cons (.int .i64) .nilT))) (V (Instr.loadAt 54 (.pointer (some t5)))) w fun t12 w =>
  CallK Try.prog .sl 65 #[.pointer p0, .agg #[.int .i64 t12.1, .int .i64 t12.2.1]] w fun t13 w =>
  K t13 w
theorem T33.calls {p0 : Option Addr} {p1 : (Int × Int × Unit)} {w : World} {K : Sl → World → Prop} (h : T33 p0 p1 w K) : CallK Try.prog .sl 33 #[.pointer p0, .agg #[.int .i64 p1.1, .int .i64 p1.2.1]] w K :=
  bodyZ_sound (κ := kappa) (ann := []) (fn := Try.f33) Try.func33 rfl (by kernel_rfl) (cast (show T33 p0 p1 w K = bodyZ Try.prog kappa [] .sl Try.f33 [.pointer p0, .agg #[.int .i64 p1.1, .int .i64 p1.2.1]] w K by kernel_rfl) h)

/-- (*sluice/epoch.Machine).End -/
def T34 (p0 : Option Addr) (p1 : (Int × Int × Unit)) (p2 : (Int × Int × Unit)) (w : World) (K : Sl → World → Prop) : Prop :=
  RunN Try.prog .addr (V (Instr.box 54 (.agg #[.int .i64 p1.1, .int .i64 p1.2.1]))) w fun t4 w =>
  RunN Try.prog .addr (V (Instr.box 54 (.agg #[.int .i64 p2.1, .int .i64 p2.2.1]))) w fun t5 w =>
  CallK Try.prog (.agg (.cons (.int .i64) (.cons (.int .i64) .nilT))) 51 #[.pointer p0] w fun t9 w =>
  RunN Try.prog .addr (V (Instr.alloc 54 true (.tuple #[]))) w fun t7 w =>
  RunU Try.prog (U (Instr.storeAt 54 (.pointer (some t7)) (.agg #[.int .i64 t9.1, .int .i64 t9.2.1]))) w fun w =>
  RunN Try.prog (.agg (.cons (.int .i64) (.cons (.int .i64) .nilT))) (V (Instr.loadAt 54 (.pointer (some t4)))) w fun t11 w =>
  CallK Try.prog (.tup .nilT) 61 #[.pointer p0, .agg #[.int .i64 t11.1, .int .i64 t11.2.1], .bool true] w fun t12 w =>
  RunN Try.prog (.agg (.cons (.int .i64) (.cons (.int .i64) .nilT))) (V (Instr.loadAt 54 (.pointer (some t5)))) w fun t14 w =>
  CallK Try.prog (.tup .nilT) 61 #[.pointer p0, .agg #[.int .i64 t14.1, .int .i64 t14.2.1], .bool false] w fun t15 w =>
  RunN Try.prog (.agg (.cons (.int .i64) (.cons (.int .i64) .nilT))) (V (Instr.loadAt 54 (.pointer (some t7)))) w fun t17 w =>
  CallK Try.prog .sl 62 #[.pointer p0, .agg #[.int .i64 t17.1, .int .i64 t17.2.1]] w fun t18 w =>
  K t18 w
theorem T34.calls {p0 : Option Addr} {p1 : (Int × Int × Unit)} {p2 : (Int × Int × Unit)} {w : World} {K : Sl → World → Prop} (h : T34 p0 p1 p2 w K) : CallK Try.prog .sl 34 #[.pointer p0, .agg #[.int .i64 p1.1, .int .i64 p1.2.1], .agg #[.int .i64 p2.1, .int .i64 p2.2.1]] w K :=
  bodyZ_sound (κ := kappa) (ann := []) (fn := Try.f34) Try.func34 rfl (by kernel_rfl) (cast (show T34 p0 p1 p2 w K = bodyZ Try.prog kappa [] .sl Try.f34 [.pointer p0, .agg #[.int .i64 p1.1, .int .i64 p1.2.1], .agg #[.int .i64 p2.1, .int .i64 p2.2.1]] w K by kernel_rfl) h)

/-- (*sluice/sluiceref11.Machine).End -/
def T35 (p0 : Option Addr) (p1 : (Int × Int × Unit)) (p2 : (Int × Int × Unit)) (w : World) (K : Sl → World → Prop) : Prop :=
  RunN Try.prog .addr (V (Instr.box 54 (.agg #[.int .i64 p1.1, .int .i64 p1.2.1]))) w fun t4 w =>
  RunN Try.prog .addr (V (Instr.box 54 (.agg #[.int .i64 p2.1, .int .i64 p2.2.1]))) w fun t5 w =>
  CallK Try.prog (.agg (.cons (.int .i64) (.cons (.int .i64) .nilT))) 63 #[.pointer p0] w fun t9 w =>
  RunN Try.prog .addr (V (Instr.alloc 54 true (.tuple #[]))) w fun t7 w =>
  RunU Try.prog (U (Instr.storeAt 54 (.pointer (some t7)) (.agg #[.int .i64 t9.1, .int .i64 t9.2.1]))) w fun w =>
  JoinX (α := Unit) (fun j2 w =>
    RunN Try.prog (.agg (.cons (.int .i64) (.cons (.int .i64) .nilT))) (V (Instr.loadAt 54 (.pointer (some t5)))) w fun t36 w =>
    CallK Try.prog (.tup .nilT) 64 #[.pointer p0, .agg #[.int .i64 t36.1, .int .i64 t36.2.1]] w fun t37 w =>
    RunN Try.prog (.agg (.cons (.int .i64) (.cons (.int .i64) .nilT))) (V (Instr.loadAt 54 (.pointer (some t7)))) w fun t39 w =>
    CallK Try.prog .sl 65 #[.pointer p0, .agg #[.int .i64 t39.1, .int .i64 t39.2.1]] w fun t40 w =>
    K t40 w)
  fun k1 =>
    JoinX (α := Bool × Unit) (fun j4 w =>
      SplitB j4.1
        (RunN Try.prog (.agg (.cons (.int .i64) (.cons (.int .i64) .nilT))) (V (Instr.loadAt 54 (.pointer (some t4)))) w fun t23 w =>
        CallK Try.prog (.tup .nilT) 64 #[.pointer p0, .agg #[.int .i64 t23.1, .int .i64 t23.2.1]] w fun t24 w =>
        NilP p0 fun t27 =>
        ReadN Try.prog .sl (V (Instr.loadAt 78 (.pointer (some (t27.add 3))))) w.drew fun t29 =>
        ReadN Try.prog (.agg (.cons (.int .i64) (.cons (.int .i64) .nilT))) (V (Instr.loadAt 54 (.pointer (some t4)))) w.drew fun t30 =>
        RunN Try.prog .sl (V (Instr.buildSlice 78 1 #[(0, .agg #[.int .i64 t30.1, .int .i64 t30.2.1])])) w.drew fun t31 w =>
        StillV Try.prog (V (Instr.loadAt 78 (.pointer (some (t27.add 3))))) (.slice t29.a t29.len t29.cap) w ∧
        RunN Try.prog .sl (V (Builtin.append_ #[78, 78] 78 #[.slice t29.a t29.len t29.cap, .slice t31.a t31.len t31.cap])) w fun t32 w =>
        NilP p0 fun t33 =>
        RunU Try.prog (U (Instr.storeAt 78 (.pointer (some (t33.add 3))) (.slice t32.a t32.len t32.cap))) w fun w =>
        k1 () w)
        (k1 () w))
    fun k3 =>
      ReadN Try.prog (.agg (.cons (.int .i64) (.cons (.int .i64) .nilT))) (V (Instr.loadAt 54 (.pointer (some t4)))) w.drew fun t11 =>
      CallK Try.prog .bool 66 #[.pointer p0, .agg #[.int .i64 t11.1, .int .i64 t11.2.1]] w.drew fun t12 w =>
      SplitB t12
        (ReadN Try.prog (.int .i64) (V (Instr.loadAt 3 (.pointer (some (t4.add 1))))) w fun t15 =>
        NilP p0 fun t17 =>
        ReadN Try.prog (.int .i64) (V (Instr.loadAt 3 (.pointer (some (t17.add 0))))) w fun t19 =>
        k3 (t15 != t19, ()) w)
        (k3 (false, ()) w)
theorem T35.calls {p0 : Option Addr} {p1 : (Int × Int × Unit)} {p2 : (Int × Int × Unit)} {w : World} {K : Sl → World → Prop} (h : T35 p0 p1 p2 w K) : CallK Try.prog .sl 35 #[.pointer p0, .agg #[.int .i64 p1.1, .int .i64 p1.2.1], .agg #[.int .i64 p2.1, .int .i64 p2.2.1]] w K :=
  bodyZ_sound (κ := kappa) (ann := [(2, []), (3, [(21, .bool)])]) (fn := Try.f35) Try.func35 rfl (by kernel_rfl) (cast (show T35 p0 p1 p2 w K = bodyZ Try.prog kappa [(2, []), (3, [(21, .bool)])] .sl Try.f35 [.pointer p0, .agg #[.int .i64 p1.1, .int .i64 p1.2.1], .agg #[.int .i64 p2.1, .int .i64 p2.2.1]] w K by kernel_rfl) h)

/-- (*sluice/epoch.Machine).Report -/
def T36 (p0 : Option Addr) (p1 : Int) (p2 : (Int × Int × Unit)) (p3 : Int) (w : World) (K : Sl → World → Prop) : Prop :=
  RunN Try.prog .addr (V (Instr.box 54 (.agg #[.int .i64 p2.1, .int .i64 p2.2.1]))) w fun t6 w =>
  JoinX (α := Bool × Unit) (fun j2 w =>
    SplitB j2.1
      (NilP p0 fun t45 =>
      RunN Try.prog .addr (V (Instr.indexAt 98 (.pointer (some (t45.add 34))) (.int .i64 p1))) w fun t47 w =>
      RunU Try.prog (U (Instr.storeAt 3 (.pointer (some t47)) (.int .i64 p3))) w fun w =>
      K (⟨none, 0, 0⟩ : Sl) w)
      (K (⟨none, 0, 0⟩ : Sl) w))
  fun k1 =>
    SplitB (decide (p1 ≥ 0))
      (NilP p0 fun t14 =>
      ReadN Try.prog (.int .i64) (V (Instr.loadAt 3 (.pointer (some (t14.add 1))))) w.drew fun t16 =>
      SplitB (decide (p1 < t16))
        (NilP p0 fun t22 =>
        ReadN Try.prog (.int .i64) (V (Instr.loadAt 3 (.pointer (some (t22.add 0))))) w.drew fun t24 =>
        SplitB (p1 != t24)
          (ReadN Try.prog (.agg (.cons (.int .i64) (.cons (.int .i64) .nilT))) (V (Instr.loadAt 54 (.pointer (some t6)))) w.drew fun t28 =>
          CallK Try.prog .bool 48 #[.agg #[.int .i64 t28.1, .int .i64 t28.2.1]] w.drew fun t29 w =>
          SplitB t29
            (ReadN Try.prog (.agg (.cons (.int .i64) (.cons (.int .i64) .nilT))) (V (Instr.loadAt 54 (.pointer (some t6)))) w fun t32 =>
            CallK Try.prog (.agg (.cons (.int .i64) (.cons (.int .i64) .nilT))) 25 #[.pointer p0] w fun t34 w =>
            StillV Try.prog (V (Instr.loadAt 54 (.pointer (some t6)))) (.agg #[.int .i64 t32.1, .int .i64 t32.2.1]) w ∧
            ReadN Try.prog .bool (V (do eqGuard .eql 54 (.tmp 32) (.tmp 34) (.agg #[.int .i64 t32.1, .int .i64 t32.2.1]) (.agg #[.int .i64 t34.1, .int .i64 t34.2.1]); binOp .eql 54 (.agg #[.int .i64 t32.1, .int .i64 t32.2.1]) (.agg #[.int .i64 t34.1, .int .i64 t34.2.1]))) w fun t35 =>
            SplitB t35
              (RunN Try.prog .sl (V (Instr.buildSlice 26 1 #[(0, .int .i64 p3)])) w fun t39 w =>
              CallK Try.prog .bool 45 #[.slice t39.a t39.len t39.cap] w fun t40 w =>
              k1 (t40, ()) w)
              (k1 (false, ()) w))
            (k1 (false, ()) w))
          (k1 (false, ()) w.drew))
        (k1 (false, ()) w.drew))
      (k1 (false, ()) w.drew)
theorem T36.calls {p0 : Option Addr} {p1 : Int} {p2 : (Int × Int × Unit)} {p3 : Int} {w : World} {K : Sl → World → Prop} (h : T36 p0 p1 p2 p3 w K) : CallK Try.prog .sl 36 #[.pointer p0, .int .i64 p1, .agg #[.int .i64 p2.1, .int .i64 p2.2.1], .int .i64 p3] w K :=
  bodyZ_sound (κ := kappa) (ann := [(2, [(41, .bool)])]) (fn := Try.f36) Try.func36 rfl (by kernel_rfl) (cast (show T36 p0 p1 p2 p3 w K = bodyZ Try.prog kappa [(2, [(41, .bool)])] .sl Try.f36 [.pointer p0, .int .i64 p1, .agg #[.int .i64 p2.1, .int .i64 p2.2.1], .int .i64 p3] w K by kernel_rfl) h)

/-- (*sluice/sluiceref11.Machine).Report -/
def T37 (p0 : Option Addr) (p1 : Int) (p2 : (Int × Int × Unit)) (p3 : Int) (w : World) (K : Unit → World → Prop) : Prop :=
  RunN Try.prog .addr (V (Instr.box 54 (.agg #[.int .i64 p2.1, .int .i64 p2.2.1]))) w fun t6 w =>
  JoinX (α := Bool × Unit) (fun j2 w =>
    SplitB j2.1
      (NilP p0 fun t47 =>
      ReadN Try.prog .sl (V (Instr.loadAt 109 (.pointer (some (t47.add 4))))) w.drew fun t49 =>
      ReadN Try.prog (.agg (.cons (.int .i64) (.cons (.int .i64) .nilT))) (V (Instr.loadAt 54 (.pointer (some t6)))) w.drew fun t52 =>
      RunN Try.prog .sl (V (Instr.buildSlice 109 1 #[(0, .agg #[.int .i64 p1, .int .i64 p3, .int .i64 t52.1, .int .i64 t52.2.1])])) w.drew fun t54 w =>
      StillV Try.prog (V (Instr.loadAt 109 (.pointer (some (t47.add 4))))) (.slice t49.a t49.len t49.cap) w ∧
      RunN Try.prog .sl (V (Builtin.append_ #[109, 109] 109 #[.slice t49.a t49.len t49.cap, .slice t54.a t54.len t54.cap])) w fun t55 w =>
      NilP p0 fun t56 =>
      RunU Try.prog (U (Instr.storeAt 109 (.pointer (some (t56.add 4))) (.slice t55.a t55.len t55.cap))) w fun w =>
      K () w)
      (K () w))
  fun k1 =>
    NilP p0 fun t10 =>
    ReadN Try.prog (.int .i64) (V (Instr.loadAt 3 (.pointer (some (t10.add 0))))) w.drew fun t12 =>
    SplitB (p1 != t12)
      (SplitB (decide (p1 ≥ 0))
        (NilP p0 fun t21 =>
        ReadN Try.prog (.int .i64) (V (Instr.loadAt 3 (.pointer (some (t21.add 1))))) w.drew fun t23 =>
        SplitB (decide (p1 < t23))
          (SplitB (decide (p3 ≥ 0))
            (SplitB (decide (p3 ≤ 1099511627776))
              (ReadN Try.prog (.agg (.cons (.int .i64) (.cons (.int .i64) .nilT))) (V (Instr.loadAt 54 (.pointer (some t6)))) w.drew fun t35 =>
              CallK Try.prog (.agg (.cons (.int .i64) (.cons (.int .i64) .nilT))) 30 #[.pointer p0] w.drew fun t37 w =>
              StillV Try.prog (V (Instr.loadAt 54 (.pointer (some t6)))) (.agg #[.int .i64 t35.1, .int .i64 t35.2.1]) w ∧
              ReadN Try.prog .bool (V (do eqGuard .eql 54 (.tmp 35) (.tmp 37) (.agg #[.int .i64 t35.1, .int .i64 t35.2.1]) (.agg #[.int .i64 t37.1, .int .i64 t37.2.1]); binOp .eql 54 (.agg #[.int .i64 t35.1, .int .i64 t35.2.1]) (.agg #[.int .i64 t37.1, .int .i64 t37.2.1]))) w fun t38 =>
              SplitB t38
                (ReadN Try.prog (.int .i64) (V (Instr.loadAt 3 (.pointer (some (t6.add 0))))) w fun t42 =>
                k1 (decide (t42 > 0), ()) w)
                (k1 (false, ()) w))
              (k1 (false, ()) w.drew))
            (k1 (false, ()) w.drew))
          (k1 (false, ()) w.drew))
        (k1 (false, ()) w.drew))
      (k1 (false, ()) w.drew)
theorem T37.calls {p0 : Option Addr} {p1 : Int} {p2 : (Int × Int × Unit)} {p3 : Int} {w : World} {K : Unit → World → Prop} (h : T37 p0 p1 p2 p3 w K) : CallK Try.prog (.tup .nilT) 37 #[.pointer p0, .int .i64 p1, .agg #[.int .i64 p2.1, .int .i64 p2.2.1], .int .i64 p3] w K :=
  bodyZ_sound (κ := kappa) (ann := [(1, [(44, .bool)])]) (fn := Try.f37) Try.func37 rfl (by kernel_rfl) (cast (show T37 p0 p1 p2 p3 w K = bodyZ Try.prog kappa [(1, [(44, .bool)])] (.tup .nilT) Try.f37 [.pointer p0, .int .i64 p1, .agg #[.int .i64 p2.1, .int .i64 p2.2.1], .int .i64 p3] w K by kernel_rfl) h)

/-- (*sluice/sluiceref11.Machine).Look -/
def T38 (p0 : Option Addr) (p1 : Int) (p2 : Int) (p3 : Int) (w : World) (K : Sl → World → Prop) : Prop :=
  CallK Try.prog (.agg (.cons (.int .i64) (.cons (.int .i64) .nilT))) 30 #[.pointer p0] w fun t11 w =>
  RunN Try.prog .addr (V (Instr.alloc 54 true (.tuple #[]))) w fun t9 w =>
  RunU Try.prog (U (Instr.storeAt 54 (.pointer (some t9)) (.agg #[.int .i64 t11.1, .int .i64 t11.2.1]))) w fun w =>
  JoinX (α := Bool × Unit) (fun j2 w =>
    SplitB j2.1
      (K (⟨none, 0, 0⟩ : Sl) w)
      (NilP p0 fun t44 =>
      ReadN Try.prog (.int .i64) (V (Instr.loadAt 3 (.pointer (some (t44.add 0))))) w.drew fun t46 =>
      ReadN Try.prog (.agg (.cons (.int .i64) (.cons (.int .i64) .nilT))) (V (Instr.loadAt 54 (.pointer (some t9)))) w.drew fun t47 =>
      RunN Try.prog .sl (V (Instr.buildSlice 82 1 #[(0, .agg #[.int .i64 4, .int .i64 t46, .int .i64 t47.1, .int .i64 t47.2.1, .int .i64 0, .int .i64 0])])) w.drew fun t49 w =>
      K t49 w))
  fun k1 =>
    RunN Try.prog (.int .i64) (V (Instr.loadAt 3 (.pointer (some (t9.add 0))))) w fun t13 w =>
    SplitB (t13 == 0)
      (k1 (true, ()) w)
      (CallK Try.prog .bool 58 #[.int .i64 p1, .int .i64 p2, .int .i64 p3] w fun t19 w =>
      SplitB (!t19)
        (k1 (true, ()) w)
        (CallK Try.prog (.int .i64) 67 #[.pointer p0] w fun t27 w =>
        SplitB ((IntKind.i64.wrap ((IntKind.i64.wrap (p2 + p3)) + t27)) != p1)
          (k1 (true, ()) w)
          (NilP p0 fun t34 =>
          RunN Try.prog .bool (V (Instr.loadAt 4 (.pointer (some (t34.add 5))))) w fun t36 w =>
          SplitB t36
            (CallK Try.prog .bool 68 #[.pointer p0] w fun t39 w =>
            k1 (!t39, ()) w)
            (k1 (false, ()) w))))
theorem T38.calls {p0 : Option Addr} {p1 : Int} {p2 : Int} {p3 : Int} {w : World} {K : Sl → World → Prop} (h : T38 p0 p1 p2 p3 w K) : CallK Try.prog .sl 38 #[.pointer p0, .int .i64 p1, .int .i64 p2, .int .i64 p3] w K :=
  bodyZ_sound (κ := kappa) (ann := [(3, [(42, .bool)])]) (fn := Try.f38) Try.func38 rfl (by kernel_rfl) (cast (show T38 p0 p1 p2 p3 w K = bodyZ Try.prog kappa [(3, [(42, .bool)])] .sl Try.f38 [.pointer p0, .int .i64 p1, .int .i64 p2, .int .i64 p3] w K by kernel_rfl) h)

/-- (*sluice/epoch.Machine).Finish -/
def T39 (p0 : Option Addr) (w : World) (K : Sl → World → Prop) : Prop :=
  CallK Try.prog (.agg (.cons (.int .i64) (.cons (.int .i64) .nilT))) 25 #[.pointer p0] w fun t6 w =>
  CallK Try.prog (.agg (.cons (.int .i64) (.cons (.int .i64) .nilT))) 51 #[.pointer p0] w fun t8 w =>
  RunN Try.prog .addr (V (Instr.alloc 54 true (.tuple #[]))) w fun t3 w =>
  RunN Try.prog .addr (V (Instr.alloc 54 true (.tuple #[]))) w fun t4 w =>
  RunU Try.prog (U (Instr.storeAt 54 (.pointer (some t3)) (.agg #[.int .i64 t6.1, .int .i64 t6.2.1]))) w fun w =>
  RunU Try.prog (U (Instr.storeAt 54 (.pointer (some t4)) (.agg #[.int .i64 t8.1, .int .i64 t8.2.1]))) w fun w =>
  RunN Try.prog (.agg (.cons (.int .i64) (.cons (.int .i64) .nilT))) (V (Instr.loadAt 54 (.pointer (some t3)))) w fun t9 w =>
  CallK Try.prog .bool 48 #[.agg #[.int .i64 t9.1, .int .i64 t9.2.1]] w fun t10 w =>
  SplitB (!t10)
    (K (⟨none, 0, 0⟩ : Sl) w)
    (NilP p0 fun t14 =>
    ReadN Try.prog (.int .i64) (V (Instr.loadAt 3 (.pointer (some (t14.add 0))))) w.drew fun t16 =>
    ReadN Try.prog (.int .i64) (V (Instr.loadAt 3 (.pointer (some (t3.add 0))))) w.drew fun t18 =>
    NilP p0 fun t19 =>
    ReadN Try.prog .addr (V (Instr.indexAt 98 (.pointer (some (t19.add 18))) (.int .i64 t16))) w.drew fun t21 =>
    RunU Try.prog (U (Instr.storeAt 3 (.pointer (some t21)) (.int .i64 t18))) w.drew fun w =>
    RunN Try.prog (.agg (.cons (.int .i64) (.cons (.int .i64) .nilT))) (V (Instr.loadAt 54 (.pointer (some t4)))) w fun t23 w =>
    CallK Try.prog .sl 62 #[.pointer p0, .agg #[.int .i64 t23.1, .int .i64 t23.2.1]] w fun t24 w =>
    K t24 w)
theorem T39.calls {p0 : Option Addr} {w : World} {K : Sl → World → Prop} (h : T39 p0 w K) : CallK Try.prog .sl 39 #[.pointer p0] w K :=
  bodyZ_sound (κ := kappa) (ann := []) (fn := Try.f39) Try.func39 rfl (by kernel_rfl) (cast (show T39 p0 w K = bodyZ Try.prog kappa [] .sl Try.f39 [.pointer p0] w K by kernel_rfl) h)

/-- (*sluice/sluiceref11.Machine).Finish -/
def T40 (p0 : Option Addr) (w : World) (K : Sl → World → Prop) : Prop :=
  CallK Try.prog (.agg (.cons (.int .i64) (.cons (.int .i64) .nilT))) 63 #[.pointer p0] w fun t6 w =>
  RunN Try.prog .addr (V (Instr.alloc 54 true (.tuple #[]))) w fun t3 w =>
  RunU Try.prog (U (Instr.storeAt 54 (.pointer (some t3)) (.agg #[.int .i64 t6.1, .int .i64 t6.2.1]))) w fun w =>
  CallK Try.prog (.agg (.cons (.int .i64) (.cons (.int .i64) .nilT))) 30 #[.pointer p0] w fun t8 w =>
  RunN Try.prog .addr (V (Instr.alloc 54 true (.tuple #[]))) w fun t4 w =>
  RunU Try.prog (U (Instr.storeAt 54 (.pointer (some t4)) (.agg #[.int .i64 t8.1, .int .i64 t8.2.1]))) w fun w =>
  RunN Try.prog (.int .i64) (V (Instr.loadAt 3 (.pointer (some (t4.add 0))))) w fun t10 w =>
  SplitB (t10 == 0)
    (K (⟨none, 0, 0⟩ : Sl) w)
    (NilP p0 fun t14 =>
    ReadN Try.prog .sl (V (Instr.loadAt 78 (.pointer (some (t14.add 3))))) w.drew fun t16 =>
    ReadN Try.prog (.agg (.cons (.int .i64) (.cons (.int .i64) .nilT))) (V (Instr.loadAt 54 (.pointer (some t4)))) w.drew fun t17 =>
    RunN Try.prog .sl (V (Instr.buildSlice 78 1 #[(0, .agg #[.int .i64 t17.1, .int .i64 t17.2.1])])) w.drew fun t18 w =>
    StillV Try.prog (V (Instr.loadAt 78 (.pointer (some (t14.add 3))))) (.slice t16.a t16.len t16.cap) w ∧
    RunN Try.prog .sl (V (Builtin.append_ #[78, 78] 78 #[.slice t16.a t16.len t16.cap, .slice t18.a t18.len t18.cap])) w fun t19 w =>
    NilP p0 fun t20 =>
    RunU Try.prog (U (Instr.storeAt 78 (.pointer (some (t20.add 3))) (.slice t19.a t19.len t19.cap))) w fun w =>
    RunN Try.prog (.agg (.cons (.int .i64) (.cons (.int .i64) .nilT))) (V (Instr.loadAt 54 (.pointer (some t3)))) w fun t23 w =>
    CallK Try.prog .sl 65 #[.pointer p0, .agg #[.int .i64 t23.1, .int .i64 t23.2.1]] w fun t24 w =>
    K t24 w)
theorem T40.calls {p0 : Option Addr} {w : World} {K : Sl → World → Prop} (h : T40 p0 w K) : CallK Try.prog .sl 40 #[.pointer p0] w K :=
  bodyZ_sound (κ := kappa) (ann := []) (fn := Try.f40) Try.func40 rfl (by kernel_rfl) (cast (show T40 p0 w K = bodyZ Try.prog kappa [] .sl Try.f40 [.pointer p0] w K by kernel_rfl) h)

/-- sluice/sluicelaw11.same -/
def T41 (p0 : Sl) (p1 : Sl) (w : World) (K : Bool → World → Prop) : Prop :=
  SplitB ((p0.len : Int) != (p1.len : Int))
    (K false w)
    (LoopX (α := Int × Unit) (fun s1 w k2 =>
      SplitB (decide (s1.1 < (p0.len : Int)))
        (JoinX (α := Bool × Unit) (fun j4 w =>
          SplitB j4.1
            (K false w)
            (k2 (IntKind.i64.wrap (s1.1 + 1), ()) w))
        fun k3 =>
          ReadN Try.prog .addr (V (Instr.indexAt 66 (.slice p0.a p0.len p0.cap) (.int .i64 s1.1))) w.drew fun t19 =>
          ReadN Try.prog (.int .i64) (V (Instr.loadAt 3 (.pointer (some (t19.add 0))))) w.drew fun t21 =>
          ReadN Try.prog .addr (V (Instr.indexAt 82 (.slice p1.a p1.len p1.cap) (.int .i64 s1.1))) w.drew fun t24 =>
          ReadN Try.prog (.int .i64) (V (Instr.loadAt 3 (.pointer (some (t24.add 0))))) w.drew fun t26 =>
          SplitB (t21 != t26)
            (k3 (true, ()) w.drew)
            (ReadN Try.prog .addr (V (Instr.indexAt 66 (.slice p0.a p0.len p0.cap) (.int .i64 s1.1))) w.drew fun t31 =>
            ReadN Try.prog (.int .i64) (V (Instr.loadAt 3 (.pointer (some (t31.add 1))))) w.drew fun t33 =>
            ReadN Try.prog .addr (V (Instr.indexAt 82 (.slice p1.a p1.len p1.cap) (.int .i64 s1.1))) w.drew fun t36 =>
            ReadN Try.prog (.int .i64) (V (Instr.loadAt 3 (.pointer (some (t36.add 1))))) w.drew fun t38 =>
            SplitB (t33 != t38)
              (k3 (true, ()) w.drew)
              (ReadN Try.prog .addr (V (Instr.indexAt 66 (.slice p0.a p0.len p0.cap) (.int .i64 s1.1))) w.drew fun t44 =>
              ReadN Try.prog (.agg (.cons (.int .i64) (.cons (.int .i64) .nilT))) (V (Instr.loadAt 54 (.pointer (some (t44.add 2))))) w.drew fun t46 =>
              ReadN Try.prog .addr (V (Instr.indexAt 82 (.slice p1.a p1.len p1.cap) (.int .i64 s1.1))) w.drew fun t49 =>
              ReadN Try.prog (.agg (.cons (.int .i64) (.cons (.int .i64) .nilT))) (V (Instr.loadAt 54 (.pointer (some (t49.add 2))))) w.drew fun t51 =>
              ReadN Try.prog .bool (V (do eqGuard .neq 54 (.tmp 46) (.tmp 51) (.agg #[.int .i64 t46.1, .int .i64 t46.2.1]) (.agg #[.int .i64 t51.1, .int .i64 t51.2.1]); binOp .neq 54 (.agg #[.int .i64 t46.1, .int .i64 t46.2.1]) (.agg #[.int .i64 t51.1, .int .i64 t51.2.1]))) w.drew fun t52 =>
              SplitB t52
                (k3 (true, ()) w.drew)
                (ReadN Try.prog .addr (V (Instr.indexAt 66 (.slice p0.a p0.len p0.cap) (.int .i64 s1.1))) w.drew fun t57 =>
                ReadN Try.prog (.agg (.cons (.int .i64) (.cons (.int .i64) .nilT))) (V (Instr.loadAt 54 (.pointer (some (t57.add 4))))) w.drew fun t59 =>
                ReadN Try.prog .addr (V (Instr.indexAt 82 (.slice p1.a p1.len p1.cap) (.int .i64 s1.1))) w.drew fun t62 =>
                ReadN Try.prog (.agg (.cons (.int .i64) (.cons (.int .i64) .nilT))) (V (Instr.loadAt 54 (.pointer (some (t62.add 4))))) w.drew fun t64 =>
                ReadN Try.prog .bool (V (do eqGuard .neq 54 (.tmp 59) (.tmp 64) (.agg #[.int .i64 t59.1, .int .i64 t59.2.1]) (.agg #[.int .i64 t64.1, .int .i64 t64.2.1]); binOp .neq 54 (.agg #[.int .i64 t59.1, .int .i64 t59.2.1]) (.agg #[.int .i64 t64.1, .int .i64 t64.2.1]))) w.drew fun t65 =>
                k3 (t65, ()) w.drew))))
        (K true w))
    (0, ()) w)
theorem T41.calls {p0 : Sl} {p1 : Sl} {w : World} {K : Bool → World → Prop} (h : T41 p0 p1 w K) : CallK Try.prog .bool 41 #[.slice p0.a p0.len p0.cap, .slice p1.a p1.len p1.cap] w K :=
  bodyZ_sound (κ := kappa) (ann := [(6, [(5, (.int .i64))]), (10, [(66, .bool)])]) (fn := Try.f41) Try.func41 rfl (by kernel_rfl) (cast (show T41 p0 p1 w K = bodyZ Try.prog kappa [(6, [(5, (.int .i64))]), (10, [(66, .bool)])] .bool Try.f41 [.slice p0.a p0.len p0.cap, .slice p1.a p1.len p1.cap] w K by kernel_rfl) h)

/-- (*sluice/sluicelaw11.keep).put -/
def T42 (p0 : Option Addr) (p1 : Sl) (w : World) (K : Unit → World → Prop) : Prop :=
  NilP p0 fun t6 =>
  RunN Try.prog .bool (V (Instr.loadAt 4 (.pointer (some (t6.add 0))))) w fun t8 w =>
  SplitB t8
    (NilP p0 fun t11 =>
    RunN Try.prog .sl (V (Instr.loadAt 49 (.pointer (some (t11.add 1))))) w fun t13 w =>
    RunN Try.prog .sl (V (Instr.buildSlice 49 1 #[(0, .slice p1.a p1.len p1.cap)])) w fun t15 w =>
    RunN Try.prog .sl (V (Builtin.append_ #[49, 49] 49 #[.slice t13.a t13.len t13.cap, .slice t15.a t15.len t15.cap])) w fun t16 w =>
    NilP p0 fun t17 =>
    RunU Try.prog (U (Instr.storeAt 49 (.pointer (some (t17.add 1))) (.slice t16.a t16.len t16.cap))) w fun w =>
    NilP p0 fun t21 =>
    ReadN Try.prog .sl (V (Instr.loadAt 49 (.pointer (some (t21.add 2))))) w.drew fun t23 =>
    RunN Try.prog .sl (V (Builtin.append_ #[66, 66] 66 #[.slice none 0 0, .slice p1.a p1.len p1.cap])) w.drew fun t25 w =>
    StillV Try.prog (V (Instr.loadAt 49 (.pointer (some (t21.add 2))))) (.slice t23.a t23.len t23.cap) w ∧
    RunN Try.prog .sl (V (Instr.buildSlice 49 1 #[(0, .slice t25.a t25.len t25.cap)])) w fun t26 w =>
    StillV Try.prog (V (Instr.loadAt 49 (.pointer (some (t21.add 2))))) (.slice t23.a t23.len t23.cap) w ∧
    RunN Try.prog .sl (V (Builtin.append_ #[49, 49] 49 #[.slice t23.a t23.len t23.cap, .slice t26.a t26.len t26.cap])) w fun t27 w =>
    NilP p0 fun t28 =>
    RunU Try.prog (U (Instr.storeAt 49 (.pointer (some (t28.add 2))) (.slice t27.a t27.len t27.cap))) w fun w =>
    K () w)
    (NilP p0 fun t31 =>
    RunN Try.prog .sl (V (Instr.loadAt 26 (.pointer (some (t31.add 3))))) w fun t33 w =>
    CallK Try.prog (.tup .nilT) 69 #[.slice p1.a p1.len p1.cap, .int .i64 (t33.len : Int)] w fun t37 w =>
    CallK Try.prog (.tup .nilT) 70 #[.pointer p0, .slice p1.a p1.len p1.cap, .int .i64 (t33.len : Int)] w fun t41 w =>
    K () w)
theorem T42.calls {p0 : Option Addr} {p1 : Sl} {w : World} {K : Unit → World → Prop} (h : T42 p0 p1 w K) : CallK Try.prog (.tup .nilT) 42 #[.pointer p0, .slice p1.a p1.len p1.cap] w K :=
  bodyZ_sound (κ := kappa) (ann := []) (fn := Try.f42) Try.func42 rfl (by kernel_rfl) (cast (show T42 p0 p1 w K = bodyZ Try.prog kappa [] (.tup .nilT) Try.f42 [.pointer p0, .slice p1.a p1.len p1.cap] w K by kernel_rfl) h)

/-- (*sluice/sluicelaw11.pair).looks -/
def T43 (p0 : Option Addr) (p1 : Option Addr) (w : World) (K : Bool → World → Prop) : Prop :=
  NilP p0 fun t9 =>
  RunN Try.prog .ptr (V (Instr.loadAt 42 (.pointer (some (t9.add 0))))) w fun t11 w =>
  CallK Try.prog .sl 28 #[.pointer t11] w fun t12 w =>
  NilP p0 fun t15 =>
  RunN Try.prog .ptr (V (Instr.loadAt 43 (.pointer (some (t15.add 1))))) w fun t17 w =>
  CallK Try.prog .sl 57 #[.pointer t17] w fun t18 w =>
  CallK Try.prog .bool 71 #[.slice t12.a t12.len t12.cap, .slice t18.a t18.len t18.cap] w fun t19 w =>
  CallK Try.prog (.tup .nilT) 72 #[.pointer p1, .slice t12.a t12.len t12.cap] w fun t22 w =>
  NilP p0 fun t24 =>
  RunN Try.prog .ptr (V (Instr.loadAt 43 (.pointer (some (t24.add 1))))) w fun t26 w =>
  CallK Try.prog (.agg (.cons (.int .i64) (.cons (.int .i64) .nilT))) 30 #[.pointer t26] w fun t27 w =>
  RunN Try.prog .addr (V (Instr.alloc 54 true (.tuple #[]))) w fun t7 w =>
  RunU Try.prog (U (Instr.storeAt 54 (.pointer (some t7)) (.agg #[.int .i64 t27.1, .int .i64 t27.2.1]))) w fun w =>
  SplitB t19
    (NilP p0 fun t31 =>
    ReadN Try.prog .ptr (V (Instr.loadAt 42 (.pointer (some (t31.add 0))))) w.drew fun t33 =>
    NilP p0 fun t36 =>
    ReadN Try.prog .ptr (V (Instr.loadAt 43 (.pointer (some (t36.add 1))))) w.drew fun t38 =>
    CallK Try.prog .bool 22 #[.pointer t33] w.drew fun t34 w =>
    StillV Try.prog (V (Instr.loadAt 43 (.pointer (some (t36.add 1))))) (.pointer t38) w ∧
    CallK Try.prog .bool 59 #[.pointer t38] w fun t39 w =>
    SplitB (t34 == t39)
      (NilP p0 fun t44 =>
      ReadN Try.prog .ptr (V (Instr.loadAt 42 (.pointer (some (t44.add 0))))) w fun t46 =>
      NilP p0 fun t49 =>
      ReadN Try.prog .ptr (V (Instr.loadAt 43 (.pointer (some (t49.add 1))))) w fun t51 =>
      CallK Try.prog (.agg (.cons (.int .i64) (.cons (.int .i64) .nilT))) 51 #[.pointer t46] w fun t47 w =>
      StillV Try.prog (V (Instr.loadAt 43 (.pointer (some (t49.add 1))))) (.pointer t51) w ∧
      CallK Try.prog (.agg (.cons (.int .i64) (.cons (.int .i64) .nilT))) 63 #[.pointer t51] w fun t52 w =>
      ReadN Try.prog .bool (V (do eqGuard .eql 54 (.tmp 47) (.tmp 52) (.agg #[.int .i64 t47.1, .int .i64 t47.2.1]) (.agg #[.int .i64 t52.1, .int .i64 t52.2.1]); binOp .eql 54 (.agg #[.int .i64 t47.1, .int .i64 t47.2.1]) (.agg #[.int .i64 t52.1, .int .i64 t52.2.1]))) w fun t53 =>
      SplitB t53
        (NilP p0 fun t57 =>
        ReadN Try.prog .ptr (V (Instr.loadAt 42 (.pointer (some (t57.add 0))))) w fun t59 =>
        ReadN Try.prog (.agg (.cons (.int .i64) (.cons (.int .i64) .nilT))) (V (Instr.loadAt 54 (.pointer (some t7)))) w fun t61 =>
        CallK Try.prog (.agg (.cons (.int .i64) (.cons (.int .i64) .nilT))) 25 #[.pointer t59] w fun t60 w =>
        StillV Try.prog (V (Instr.loadAt 54 (.pointer (some t7)))) (.agg #[.int .i64 t61.1, .int .i64 t61.2.1]) w ∧
        ReadN Try.prog .bool (V (do eqGuard .eql 54 (.tmp 60) (.tmp 61) (.agg #[.int .i64 t60.1, .int .i64 t60.2.1]) (.agg #[.int .i64 t61.1, .int .i64 t61.2.1]); binOp .eql 54 (.agg #[.int .i64 t60.1, .int .i64 t60.2.1]) (.agg #[.int .i64 t61.1, .int .i64 t61.2.1]))) w fun t62 =>
        SplitB t62
          (NilP p0 fun t66 =>
          ReadN Try.prog .ptr (V (Instr.loadAt 42 (.pointer (some (t66.add 0))))) w fun t68 =>
          ReadN Try.prog (.int .i64) (V (Instr.loadAt 3 (.pointer (some (t7.add 0))))) w fun t71 =>
          CallK Try.prog .bool 50 #[.pointer t68] w fun t69 w =>
          StillV Try.prog (V (Instr.loadAt 3 (.pointer (some (t7.add 0))))) (.int .i64 t71) w ∧
          SplitB (decide (t71 > 0))
            (NilP p0 fun t75 =>
            ReadN Try.prog .ptr (V (Instr.loadAt 43 (.pointer (some (t75.add 1))))) w fun t77 =>
            CallK Try.prog .bool 68 #[.pointer t77] w fun t78 w =>
            SplitB (t69 == t78)
              (NilP p0 fun t84 =>
              ReadN Try.prog .ptr (V (Instr.loadAt 42 (.pointer (some (t84.add 0))))) w fun t86 =>
              NilP p0 fun t89 =>
              ReadN Try.prog .ptr (V (Instr.loadAt 43 (.pointer (some (t89.add 1))))) w fun t91 =>
              CallK Try.prog (.int .i64) 49 #[.pointer t86] w fun t87 w =>
              StillV Try.prog (V (Instr.loadAt 43 (.pointer (some (t89.add 1))))) (.pointer t91) w ∧
              CallK Try.prog (.int .i64) 67 #[.pointer t91] w fun t92 w =>
              K (t87 == t92) w)
              (K false w))
            (SplitB (t69 == false)
              (NilP p0 fun t84 =>
              ReadN Try.prog .ptr (V (Instr.loadAt 42 (.pointer (some (t84.add 0))))) w fun t86 =>
              NilP p0 fun t89 =>
              ReadN Try.prog .ptr (V (Instr.loadAt 43 (.pointer (some (t89.add 1))))) w fun t91 =>
              CallK Try.prog (.int .i64) 49 #[.pointer t86] w fun t87 w =>
              StillV Try.prog (V (Instr.loadAt 43 (.pointer (some (t89.add 1))))) (.pointer t91) w ∧
              CallK Try.prog (.int .i64) 67 #[.pointer t91] w fun t92 w =>
              K (t87 == t92) w)
              (K false w)))
          (K false w))
        (K false w))
      (K false w))
    (K false w.drew)
theorem T43.calls {p0 : Option Addr} {p1 : Option Addr} {w : World} {K : Bool → World → Prop} (h : T43 p0 p1 w K) : CallK Try.prog .bool 43 #[.pointer p0, .pointer p1] w K :=
  bodyZ_sound (κ := kappa) (ann := []) (fn := Try.f43) Try.func43 rfl (by kernel_rfl) (cast (show T43 p0 p1 w K = bodyZ Try.prog kappa [] .bool Try.f43 [.pointer p0, .pointer p1] w K by kernel_rfl) h)

/-- (*sluice/sluicelaw11.keep).lately -/
def T44 (p0 : Option Addr) (w : World) (K : Bool → World → Prop) : Prop :=
  LoopX (α := Int × Unit) (fun s1 w k2 =>
    NilP p0 fun t12 =>
    RunN Try.prog .sl (V (Instr.loadAt 49 (.pointer (some (t12.add 1))))) w fun t14 w =>
    SplitB (decide (s1.1 < (t14.len : Int)))
      (NilP p0 fun t20 =>
      ReadN Try.prog .sl (V (Instr.loadAt 49 (.pointer (some (t20.add 1))))) w.drew fun t22 =>
      ReadN Try.prog .addr (V (Instr.indexAt 49 (.slice t22.a t22.len t22.cap) (.int .i64 s1.1))) w.drew fun t24 =>
      ReadN Try.prog .sl (V (Instr.loadAt 66 (.pointer (some t24)))) w.drew fun t25 =>
      NilP p0 fun t27 =>
      ReadN Try.prog .sl (V (Instr.loadAt 49 (.pointer (some (t27.add 2))))) w.drew fun t29 =>
      ReadN Try.prog .addr (V (Instr.indexAt 49 (.slice t29.a t29.len t29.cap) (.int .i64 s1.1))) w.drew fun t31 =>
      ReadN Try.prog .sl (V (Instr.loadAt 66 (.pointer (some t31)))) w.drew fun t32 =>
      CallK Try.prog .bool 73 #[.slice t25.a t25.len t25.cap, .slice t32.a t32.len t32.cap] w.drew fun t33 w =>
      SplitB (!t33)
        (K false w)
        (k2 (IntKind.i64.wrap (s1.1 + 1), ()) w))
      (LoopX (α := Int × Unit) (fun s3 w k4 =>
        NilP p0 fun t37 =>
        RunN Try.prog .sl (V (Instr.loadAt 50 (.pointer (some (t37.add 4))))) w fun t39 w =>
        SplitB (decide (s3.1 < (t39.len : Int)))
          (NilP p0 fun t45 =>
          ReadN Try.prog .sl (V (Instr.loadAt 50 (.pointer (some (t45.add 4))))) w.drew fun t47 =>
          ReadN Try.prog .addr (V (Instr.indexAt 50 (.slice t47.a t47.len t47.cap) (.int .i64 s3.1))) w.drew fun t49 =>
          ReadN Try.prog .sl (V (Instr.loadAt 78 (.pointer (some t49)))) w.drew fun t50 =>
          NilP p0 fun t52 =>
          ReadN Try.prog .sl (V (Instr.loadAt 50 (.pointer (some (t52.add 5))))) w.drew fun t54 =>
          ReadN Try.prog .addr (V (Instr.indexAt 50 (.slice t54.a t54.len t54.cap) (.int .i64 s3.1))) w.drew fun t56 =>
          ReadN Try.prog .sl (V (Instr.loadAt 78 (.pointer (some t56)))) w.drew fun t57 =>
          CallK Try.prog .bool 71 #[.slice t50.a t50.len t50.cap, .slice t57.a t57.len t57.cap] w.drew fun t58 w =>
          SplitB (!t58)
            (K false w)
            (k4 (IntKind.i64.wrap (s3.1 + 1), ()) w))
          (RunN Try.prog .addr (V (Instr.box 52 (.agg #[.bool false, .slice none 0 0, .slice none 0 0, .slice none 0 0, .slice none 0 0, .slice none 0 0, .slice none 0 0]))) w fun t61 w =>
          LoopX (α := Int × Unit) (fun s5 w k6 =>
            NilP p0 fun t64 =>
            RunN Try.prog .sl (V (Instr.loadAt 49 (.pointer (some (t64.add 1))))) w fun t66 w =>
            SplitB (decide (s5.1 < (t66.len : Int)))
              (NilP p0 fun t72 =>
              RunN Try.prog .sl (V (Instr.loadAt 49 (.pointer (some (t72.add 1))))) w fun t74 w =>
              RunN Try.prog .addr (V (Instr.indexAt 49 (.slice t74.a t74.len t74.cap) (.int .i64 s5.1))) w fun t76 w =>
              RunN Try.prog .sl (V (Instr.loadAt 66 (.pointer (some t76)))) w fun t77 w =>
              CallK Try.prog (.tup .nilT) 69 #[.slice t77.a t77.len t77.cap, .int .i64 s5.1] w fun t79 w =>
              k6 (IntKind.i64.wrap (s5.1 + 1), ()) w)
              (LoopX (α := Int × Unit) (fun s7 w k8 =>
                NilP p0 fun t82 =>
                RunN Try.prog .sl (V (Instr.loadAt 50 (.pointer (some (t82.add 4))))) w fun t84 w =>
                SplitB (decide (s7.1 < (t84.len : Int)))
                  (NilP p0 fun t90 =>
                  RunN Try.prog .sl (V (Instr.loadAt 50 (.pointer (some (t90.add 4))))) w fun t92 w =>
                  RunN Try.prog .addr (V (Instr.indexAt 50 (.slice t92.a t92.len t92.cap) (.int .i64 s7.1))) w fun t94 w =>
                  RunN Try.prog .sl (V (Instr.loadAt 78 (.pointer (some t94)))) w fun t95 w =>
                  CallK Try.prog (.tup .nilT) 74 #[.slice t95.a t95.len t95.cap, .int .i64 s7.1] w fun t97 w =>
                  k8 (IntKind.i64.wrap (s7.1 + 1), ()) w)
                  (LoopX (α := Int × Unit) (fun s9 w k10 =>
                    NilP p0 fun t100 =>
                    RunN Try.prog .sl (V (Instr.loadAt 49 (.pointer (some (t100.add 1))))) w fun t102 w =>
                    SplitB (decide (s9.1 < (t102.len : Int)))
                      (NilP p0 fun t109 =>
                      RunN Try.prog .sl (V (Instr.loadAt 49 (.pointer (some (t109.add 1))))) w fun t111 w =>
                      RunN Try.prog .addr (V (Instr.indexAt 49 (.slice t111.a t111.len t111.cap) (.int .i64 s9.1))) w fun t113 w =>
                      RunN Try.prog .sl (V (Instr.loadAt 66 (.pointer (some t113)))) w fun t114 w =>
                      CallK Try.prog (.tup .nilT) 70 #[.pointer (some t61), .slice t114.a t114.len t114.cap, .int .i64 s9.1] w fun t116 w =>
                      k10 (IntKind.i64.wrap (s9.1 + 1), ()) w)
                      (LoopX (α := Int × Unit) (fun s11 w k12 =>
                        NilP p0 fun t119 =>
                        RunN Try.prog .sl (V (Instr.loadAt 50 (.pointer (some (t119.add 4))))) w fun t121 w =>
                        SplitB (decide (s11.1 < (t121.len : Int)))
                          (NilP p0 fun t128 =>
                          RunN Try.prog .sl (V (Instr.loadAt 50 (.pointer (some (t128.add 4))))) w fun t130 w =>
                          RunN Try.prog .addr (V (Instr.indexAt 50 (.slice t130.a t130.len t130.cap) (.int .i64 s11.1))) w fun t132 w =>
                          RunN Try.prog .sl (V (Instr.loadAt 78 (.pointer (some t132)))) w fun t133 w =>
                          CallK Try.prog (.tup .nilT) 75 #[.pointer (some t61), .slice t133.a t133.len t133.cap, .int .i64 s11.1] w fun t135 w =>
                          k12 (IntKind.i64.wrap (s11.1 + 1), ()) w)
                          (CallK Try.prog .bool 17 #[.pointer (some t61)] w fun t137 w =>
                          K t137 w))
                      (0, ()) w))
                  (0, ()) w))
              (0, ()) w))
          (0, ()) w))
      (0, ()) w))
  (0, ()) w
theorem T44.calls {p0 : Option Addr} {w : World} {K : Bool → World → Prop} (h : T44 p0 w K) : CallK Try.prog .bool 44 #[.pointer p0] w K :=
  bodyZ_sound (κ := kappa) (ann := [(3, [(3, (.int .i64))]), (11, [(4, (.int .i64))]), (20, [(6, (.int .i64))]), (26, [(7, (.int .i64))]), (32, [(8, (.int .i64))]), (38, [(9, (.int .i64))])]) (fn := Try.f44) Try.func44 rfl (by kernel_rfl) (cast (show T44 p0 w K = bodyZ Try.prog kappa [(3, [(3, (.int .i64))]), (11, [(4, (.int .i64))]), (20, [(6, (.int .i64))]), (26, [(7, (.int .i64))]), (32, [(8, (.int .i64))]), (38, [(9, (.int .i64))])] .bool Try.f44 [.pointer p0] w K by kernel_rfl) h)

/-- sluice/epoch.amount -/
def T45 (p0 : Sl) (w : World) (K : Bool → World → Prop) : Prop :=
  LoopX (α := Int × Unit) (fun s1 w k2 =>
    SplitB (decide (s1.1 < (p0.len : Int)))
      (RunN Try.prog .addr (V (Instr.indexAt 26 (.slice p0.a p0.len p0.cap) (.int .i64 s1.1))) w fun t9 w =>
      RunN Try.prog (.int .i64) (V (Instr.loadAt 3 (.pointer (some t9)))) w fun t10 w =>
      JoinX (α := Bool × Unit) (fun j4 w =>
        SplitB j4.1
          (K false w)
          (k2 (IntKind.i64.wrap (s1.1 + 1), ()) w))
      fun k3 =>
        SplitB (decide (t10 < 0))
          (k3 (true, ()) w)
          (k3 (decide (t10 > 1099511627776), ()) w))
      (K true w))
  (0, ()) w
theorem T45.calls {p0 : Sl} {w : World} {K : Bool → World → Prop} (h : T45 p0 w K) : CallK Try.prog .bool 45 #[.slice p0.a p0.len p0.cap] w K :=
  bodyZ_sound (κ := kappa) (ann := [(3, [(7, (.int .i64))]), (8, [(16, .bool)])]) (fn := Try.f45) Try.func45 rfl (by kernel_rfl) (cast (show T45 p0 w K = bodyZ Try.prog kappa [(3, [(7, (.int .i64))]), (8, [(16, .bool)])] .bool Try.f45 [.slice p0.a p0.len p0.cap] w K by kernel_rfl) h)

/-- (*sluice/epoch.Machine).put -/
def T46 (p0 : Option Addr) (p1 : (Int × Int × Int × Int × Int × Int × Unit)) (w : World) (K : Unit → World → Prop) : Prop :=
  RunN Try.prog .addr (V (Instr.box 70 (.agg #[.int .i64 p1.1, .int .i64 p1.2.1, .int .i64 p1.2.2.1, .int .i64 p1.2.2.2.1, .int .i64 p1.2.2.2.2.1, .int .i64 p1.2.2.2.2.2.1]))) w fun t3 w =>
  NilP p0 fun t5 =>
  RunN Try.prog .chan (V (Instr.loadAt 97 (.pointer (some (t5.add 51))))) w fun t7 w =>
  RunN Try.prog (.agg (.cons (.int .i64) (.cons (.int .i64) (.cons (.int .i64) (.cons (.int .i64) (.cons (.int .i64) (.cons (.int .i64) .nilT))))))) (V (Instr.loadAt 70 (.pointer (some t3)))) w fun t8 w =>
  SendB Try.prog 70 t7 (.agg #[.int .i64 t8.1, .int .i64 t8.2.1, .int .i64 t8.2.2.1, .int .i64 t8.2.2.2.1, .int .i64 t8.2.2.2.2.1, .int .i64 t8.2.2.2.2.2.1]) w
    (fun w =>
    SplitB (0 == 0)
      (K () w)
      (K () w))
    (fun w =>
    SplitB ((-1) == 0)
      (K () w)
      (K () w))
theorem T46.calls {p0 : Option Addr} {p1 : (Int × Int × Int × Int × Int × Int × Unit)} {w : World} {K : Unit → World → Prop} (h : T46 p0 p1 w K) : CallK Try.prog (.tup .nilT) 46 #[.pointer p0, .agg #[.int .i64 p1.1, .int .i64 p1.2.1, .int .i64 p1.2.2.1, .int .i64 p1.2.2.2.1, .int .i64 p1.2.2.2.2.1, .int .i64 p1.2.2.2.2.2.1]] w K :=
  bodyL_sound (κ := kappa) (ann := []) (fn := Try.f46) Try.func46 rfl (by kernel_rfl) (cast (show T46 p0 p1 w K = bodyL Try.prog kappa [] (.tup .nilT) Try.f46 [.pointer p0, .agg #[.int .i64 p1.1, .int .i64 p1.2.1, .int .i64 p1.2.2.1, .int .i64 p1.2.2.2.1, .int .i64 p1.2.2.2.2.1, .int .i64 p1.2.2.2.2.2.1]] w K by kernel_rfl) h)

/-- (*sluice/epoch.Machine).taken -/
def T47 (p0 : Option Addr) (w : World) (K : Sl → World → Prop) : Prop :=
  LoopX (α := Sl × Unit) (fun s1 w k2 =>
    NilP p0 fun t6 =>
    RunN Try.prog .chan (V (Instr.loadAt 97 (.pointer (some (t6.add 51))))) w fun t8 w =>
    RecvB Try.prog (.agg (.cons (.int .i64) (.cons (.int .i64) (.cons (.int .i64) (.cons (.int .i64) (.cons (.int .i64) (.cons (.int .i64) .nilT))))))) 70 t8 w
      (fun t9 w =>
      SplitB (0 == 0)
        (RunN Try.prog .addr (V (Instr.alloc 70 true (.tuple #[]))) w fun t4 w =>
        RunU Try.prog (U (Instr.storeAt 70 (.pointer (some t4)) (.agg #[.int .i64 t9.1, .int .i64 t9.2.1, .int .i64 t9.2.2.1, .int .i64 t9.2.2.2.1, .int .i64 t9.2.2.2.2.1, .int .i64 t9.2.2.2.2.2.1]))) w fun w =>
        RunN Try.prog (.agg (.cons (.int .i64) (.cons (.int .i64) (.cons (.int .i64) (.cons (.int .i64) (.cons (.int .i64) (.cons (.int .i64) .nilT))))))) (V (Instr.loadAt 70 (.pointer (some t4)))) w fun t15 w =>
        RunN Try.prog .sl (V (Instr.buildSlice 66 1 #[(0, .agg #[.int .i64 t15.1, .int .i64 t15.2.1, .int .i64 t15.2.2.1, .int .i64 t15.2.2.2.1, .int .i64 t15.2.2.2.2.1, .int .i64 t15.2.2.2.2.2.1])])) w fun t16 w =>
        RunN Try.prog .sl (V (Builtin.append_ #[66, 66] 66 #[.slice s1.1.a s1.1.len s1.1.cap, .slice t16.a t16.len t16.cap])) w fun t17 w =>
        k2 (t17, ()) w)
        (K s1.1 w))
      (fun z9 w =>
      SplitB ((-1) == 0)
        (RunN Try.prog .addr (V (Instr.alloc 70 true (.tuple #[]))) w fun t4 w =>
        RunU Try.prog (U (Instr.storeAt 70 (.pointer (some t4)) (z9))) w fun w =>
        RunN Try.prog (.agg (.cons (.int .i64) (.cons (.int .i64) (.cons (.int .i64) (.cons (.int .i64) (.cons (.int .i64) (.cons (.int .i64) .nilT))))))) (V (Instr.loadAt 70 (.pointer (some t4)))) w fun t15 w =>
        RunN Try.prog .sl (V (Instr.buildSlice 66 1 #[(0, .agg #[.int .i64 t15.1, .int .i64 t15.2.1, .int .i64 t15.2.2.1, .int .i64 t15.2.2.2.1, .int .i64 t15.2.2.2.2.1, .int .i64 t15.2.2.2.2.2.1])])) w fun t16 w =>
        RunN Try.prog .sl (V (Builtin.append_ #[66, 66] 66 #[.slice s1.1.a s1.1.len s1.1.cap, .slice t16.a t16.len t16.cap])) w fun t17 w =>
        k2 (t17, ()) w)
        (K s1.1 w)))
  ((⟨none, 0, 0⟩ : Sl), ()) w
theorem T47.calls {p0 : Option Addr} {w : World} {K : Sl → World → Prop} (h : T47 p0 w K) : CallK Try.prog .sl 47 #[.pointer p0] w K :=
  bodyL_sound (κ := kappa) (ann := [(2, [(3, .sl)])]) (fn := Try.f47) Try.func47 rfl (by kernel_rfl) (cast (show T47 p0 w K = bodyL Try.prog kappa [(2, [(3, .sl)])] .sl Try.f47 [.pointer p0] w K by kernel_rfl) h)

/-- sluice/epoch.some -/
def T48 (p0 : (Int × Int × Unit)) (w : World) (K : Bool → World → Prop) : Prop :=
  RunN Try.prog .addr (V (Instr.box 54 (.agg #[.int .i64 p0.1, .int .i64 p0.2.1]))) w fun t1 w =>
  RunN Try.prog (.agg (.cons (.int .i64) (.cons (.int .i64) .nilT))) (V (Instr.loadAt 54 (.pointer (some t1)))) w fun t3 w =>
  RunN Try.prog .bool (V (do eqGuard .neq 54 (.tmp 3) (.tmp 4) (.agg #[.int .i64 t3.1, .int .i64 t3.2.1]) (.agg #[.int .i64 0, .int .i64 0]); binOp .neq 54 (.agg #[.int .i64 t3.1, .int .i64 t3.2.1]) (.agg #[.int .i64 0, .int .i64 0]))) w fun t5 w =>
  K t5 w
theorem T48.calls {p0 : (Int × Int × Unit)} {w : World} {K : Bool → World → Prop} (h : T48 p0 w K) : CallK Try.prog .bool 48 #[.agg #[.int .i64 p0.1, .int .i64 p0.2.1]] w K :=
  bodyZ_sound (κ := kappa) (ann := []) (fn := Try.f48) Try.func48 rfl (by kernel_rfl) (cast (show T48 p0 w K = bodyZ Try.prog kappa [] .bool Try.f48 [.agg #[.int .i64 p0.1, .int .i64 p0.2.1]] w K by kernel_rfl) h)

/-- (*sluice/epoch.Machine).Reported -/
def T49 (p0 : Option Addr) (w : World) (K : Int → World → Prop) : Prop :=
  CallK Try.prog (.agg (.cons (.int .i64) (.cons (.int .i64) .nilT))) 25 #[.pointer p0] w fun t6 w =>
  CallK Try.prog .bool 48 #[.agg #[.int .i64 t6.1, .int .i64 t6.2.1]] w fun t7 w =>
  SplitB t7
    (NilP p0 fun t9 =>
    RunN Try.prog (.int .i64) (V (Instr.loadAt 3 (.pointer (some (t9.add 1))))) w fun t11 w =>
    LoopX (α := Int × Int × Unit) (fun s1 w k2 =>
      SplitB (decide (s1.2.1 < t11))
        (NilP p0 fun t18 =>
        RunN Try.prog .addr (V (Instr.indexAt 98 (.pointer (some (t18.add 34))) (.int .i64 s1.2.1))) w fun t20 w =>
        RunN Try.prog (.int .i64) (V (Instr.loadAt 3 (.pointer (some t20)))) w fun t21 w =>
        RunN Try.prog (.int .i64) (V (Builtin.max_ #[3, 3] 3 #[.int .i64 t21, .int .i64 0])) w fun t22 w =>
        k2 (IntKind.i64.wrap (s1.1 + t22), IntKind.i64.wrap (s1.2.1 + 1), ()) w)
        (K s1.1 w))
    (0, 0, ()) w)
    (K 0 w)
theorem T49.calls {p0 : Option Addr} {w : World} {K : Int → World → Prop} (h : T49 p0 w K) : CallK Try.prog (.int .i64) 49 #[.pointer p0] w K :=
  bodyZ_sound (κ := kappa) (ann := [(5, [(3, (.int .i64)), (12, (.int .i64))])]) (fn := Try.f49) Try.func49 rfl (by kernel_rfl) (cast (show T49 p0 w K = bodyZ Try.prog kappa [(5, [(3, (.int .i64)), (12, (.int .i64))])] (.int .i64) Try.f49 [.pointer p0] w K by kernel_rfl) h)

/-- (*sluice/epoch.Machine).All -/
def T50 (p0 : Option Addr) (w : World) (K : Bool → World → Prop) : Prop :=
  NilP p0 fun t5 =>
  RunN Try.prog (.int .i64) (V (Instr.loadAt 3 (.pointer (some (t5.add 1))))) w fun t7 w =>
  LoopX (α := Int × Unit) (fun s1 w k2 =>
    SplitB (decide (s1.1 < t7))
      (JoinX (α := Bool × Unit) (fun j4 w =>
        SplitB j4.1
          (K false w)
          (k2 (IntKind.i64.wrap (s1.1 + 1), ()) w))
      fun k3 =>
        NilP p0 fun t13 =>
        RunN Try.prog (.int .i64) (V (Instr.loadAt 3 (.pointer (some (t13.add 0))))) w fun t15 w =>
        SplitB (s1.1 != t15)
          (NilP p0 fun t20 =>
          RunN Try.prog .addr (V (Instr.indexAt 98 (.pointer (some (t20.add 34))) (.int .i64 s1.1))) w fun t22 w =>
          RunN Try.prog (.int .i64) (V (Instr.loadAt 3 (.pointer (some t22)))) w fun t23 w =>
          k3 (t23 == (-1), ()) w)
          (k3 (false, ()) w))
      (CallK Try.prog (.agg (.cons (.int .i64) (.cons (.int .i64) .nilT))) 25 #[.pointer p0] w fun t28 w =>
      CallK Try.prog .bool 48 #[.agg #[.int .i64 t28.1, .int .i64 t28.2.1]] w fun t29 w =>
      K t29 w))
  (0, ()) w
theorem T50.calls {p0 : Option Addr} {w : World} {K : Bool → World → Prop} (h : T50 p0 w K) : CallK Try.prog .bool 50 #[.pointer p0] w K :=
  bodyZ_sound (κ := kappa) (ann := [(3, [(8, (.int .i64))]), (8, [(25, .bool)])]) (fn := Try.f50) Try.func50 rfl (by kernel_rfl) (cast (show T50 p0 w K = bodyZ Try.prog kappa [(3, [(8, (.int .i64))]), (8, [(25, .bool)])] .bool Try.f50 [.pointer p0] w K by kernel_rfl) h)

/-- (*sluice/epoch.Machine).Target -/
def T51 (p0 : Option Addr) (w : World) (K : (Int × Int × Unit) → World → Prop) : Prop :=
  RunN Try.prog .addr (V (Instr.alloc 54 true (.tuple #[]))) w fun t2 w =>
  RunN Try.prog .addr (V (Instr.alloc 54 true (.tuple #[]))) w fun t3 w =>
  CallK Try.prog .sl 28 #[.pointer p0] w fun t7 w =>
  LoopX (α := Int × Unit) (fun s1 w k2 =>
    SplitB (decide (s1.1 < (t7.len : Int)))
      (RunN Try.prog .addr (V (Instr.indexAt 78 (.slice t7.a t7.len t7.cap) (.int .i64 s1.1))) w fun t11 w =>
      RunN Try.prog (.agg (.cons (.int .i64) (.cons (.int .i64) .nilT))) (V (Instr.loadAt 54 (.pointer (some t11)))) w fun t12 w =>
      RunN Try.prog .addr (V (Instr.alloc 54 true (.tuple #[]))) w fun t5 w =>
      RunU Try.prog (U (Instr.storeAt 54 (.pointer (some t5)) (.agg #[.int .i64 t12.1, .int .i64 t12.2.1]))) w fun w =>
      RunN Try.prog (.int .i64) (V (Instr.loadAt 3 (.pointer (some (t5.add 0))))) w fun t14 w =>
      RunN Try.prog (.int .i64) (V (Instr.loadAt 3 (.pointer (some (t3.add 0))))) w fun t16 w =>
      SplitB (decide (t14 ≥ t16))
        (RunN Try.prog (.agg (.cons (.int .i64) (.cons (.int .i64) .nilT))) (V (Instr.loadAt 54 (.pointer (some t5)))) w fun t18 w =>
        RunU Try.prog (U (Instr.storeAt 54 (.pointer (some t3)) (.agg #[.int .i64 t18.1, .int .i64 t18.2.1]))) w fun w =>
        k2 (IntKind.i64.wrap (s1.1 + 1), ()) w)
        (k2 (IntKind.i64.wrap (s1.1 + 1), ()) w))
      (RunN Try.prog (.agg (.cons (.int .i64) (.cons (.int .i64) .nilT))) (V (Instr.loadAt 54 (.pointer (some t3)))) w fun t20 w =>
      RunU Try.prog (U (Instr.storeAt 54 (.pointer (some t2)) (.agg #[.int .i64 t20.1, .int .i64 t20.2.1]))) w fun w =>
      ReadN Try.prog (.agg (.cons (.int .i64) (.cons (.int .i64) .nilT))) (V (Instr.loadAt 54 (.pointer (some t2)))) w fun r0 =>
      K (r0.1, r0.2.1, ()) w))
  (0, ()) w
theorem T51.calls {p0 : Option Addr} {w : World} {K : (Int × Int × Unit) → World → Prop} (h : T51 p0 w K) : CallK Try.prog (.agg (.cons (.int .i64) (.cons (.int .i64) .nilT))) 51 #[.pointer p0] w K :=
  bodyZ_sound (κ := kappa) (ann := [(4, [(9, (.int .i64))])]) (fn := Try.f51) Try.func51 rfl (by kernel_rfl) (cast (show T51 p0 w K = bodyZ Try.prog kappa [(4, [(9, (.int .i64))])] (.agg (.cons (.int .i64) (.cons (.int .i64) .nilT))) Try.f51 [.pointer p0] w K by kernel_rfl) h)

/-- (*sluice/epoch.Machine).live -/
def T56 (p0 : Option Addr) (p1 : Int) (w : World) (K : ((Int × Int × Unit) × Bool × Unit) → World → Prop) : Prop :=
  RunN Try.prog .addr (V (Instr.alloc 54 true (.tuple #[]))) w fun t4 w =>
  NilP p0 fun t8 =>
  ReadN Try.prog .addr (V (Instr.indexAt 98 (.pointer (some (t8.add 2))) (.int .i64 p1))) w.drew fun t10 =>
  ReadN Try.prog (.int .i64) (V (Instr.loadAt 3 (.pointer (some t10)))) w.drew fun t11 =>
  NilP p0 fun t14 =>
  ReadN Try.prog .addr (V (Instr.indexAt 98 (.pointer (some (t14.add 18))) (.int .i64 p1))) w.drew fun t16 =>
  ReadN Try.prog (.int .i64) (V (Instr.loadAt 3 (.pointer (some t16)))) w.drew fun t17 =>
  SplitB (decide (t11 > t17))
    (NilP p0 fun t21 =>
    RunN Try.prog .addr (V (Instr.indexAt 98 (.pointer (some (t21.add 2))) (.int .i64 p1))) w.drew fun t23 w =>
    RunN Try.prog (.int .i64) (V (Instr.loadAt 3 (.pointer (some t23)))) w fun t24 w =>
    RunU Try.prog (U (Instr.storeAt 54 (.pointer (some t4)) (.agg #[.int .i64 t24, .int .i64 p1]))) w fun w =>
    ReadN Try.prog (.agg (.cons (.int .i64) (.cons (.int .i64) .nilT))) (V (Instr.loadAt 54 (.pointer (some t4)))) w fun r0 =>
    K ((r0.1, r0.2.1, ()), true, ()) w)
    (RunU Try.prog (U (Instr.storeAt 54 (.pointer (some t4)) (.agg #[.int .i64 0, .int .i64 0]))) w.drew fun w =>
    ReadN Try.prog (.agg (.cons (.int .i64) (.cons (.int .i64) .nilT))) (V (Instr.loadAt 54 (.pointer (some t4)))) w fun r0 =>
    K ((r0.1, r0.2.1, ()), false, ()) w)
theorem T56.calls {p0 : Option Addr} {p1 : Int} {w : World} {K : ((Int × Int × Unit) × Bool × Unit) → World → Prop} (h : T56 p0 p1 w K) : CallK Try.prog (.tup (.cons (.agg (.cons (.int .i64) (.cons (.int .i64) .nilT))) (.cons .bool .nilT))) 56 #[.pointer p0, .int .i64 p1] w K :=
  bodyZ_sound (κ := kappa) (ann := []) (fn := Try.f56) Try.func56 rfl (by kernel_rfl) (cast (show T56 p0 p1 w K = bodyZ Try.prog kappa [] (.tup (.cons (.agg (.cons (.int .i64) (.cons (.int .i64) .nilT))) (.cons .bool .nilT))) Try.f56 [.pointer p0, .int .i64 p1] w K by kernel_rfl) h)

/-- (*sluice/sluiceref11.Machine).Live -/
def T57 (p0 : Option Addr) (w : World) (K : Sl → World → Prop) : Prop :=
  LoopX (α := Sl × Int × Unit) (fun s1 w k2 =>
    NilP p0 fun t8 =>
    RunN Try.prog (.int .i64) (V (Instr.loadAt 3 (.pointer (some (t8.add 1))))) w fun t10 w =>
    SplitB (decide (s1.2.1 < t10))
      (JoinX (α := Sl × Unit) (fun j4 w =>
        k2 (j4.1, IntKind.i64.wrap (s1.2.1 + 1), ()) w)
      fun k3 =>
        NilP p0 fun t15 =>
        RunN Try.prog .sl (V (Instr.loadAt 78 (.pointer (some (t15.add 2))))) w fun t17 w =>
        CallK Try.prog (.int .i64) 60 #[.slice t17.a t17.len t17.cap, .int .i64 s1.2.1] w fun t19 w =>
        NilP p0 fun t22 =>
        RunN Try.prog .sl (V (Instr.loadAt 78 (.pointer (some (t22.add 3))))) w fun t24 w =>
        CallK Try.prog (.int .i64) 60 #[.slice t24.a t24.len t24.cap, .int .i64 s1.2.1] w fun t26 w =>
        SplitB (decide (t19 > t26))
          (RunN Try.prog .sl (V (Instr.buildSlice 78 1 #[(0, .agg #[.int .i64 t19, .int .i64 s1.2.1])])) w fun t32 w =>
          RunN Try.prog .sl (V (Builtin.append_ #[78, 78] 78 #[.slice s1.1.a s1.1.len s1.1.cap, .slice t32.a t32.len t32.cap])) w fun t33 w =>
          k3 (t33, ()) w)
          (k3 (s1.1, ()) w))
      (K s1.1 w))
  ((⟨none, 0, 0⟩ : Sl), 0, ()) w
theorem T57.calls {p0 : Option Addr} {w : World} {K : Sl → World → Prop} (h : T57 p0 w K) : CallK Try.prog .sl 57 #[.pointer p0] w K :=
  bodyZ_sound (κ := kappa) (ann := [(4, [(3, .sl), (4, (.int .i64))]), (7, [(3, .sl)])]) (fn := Try.f57) Try.func57 rfl (by kernel_rfl) (cast (show T57 p0 w K = bodyZ Try.prog kappa [(4, [(3, .sl), (4, (.int .i64))]), (7, [(3, .sl)])] .sl Try.f57 [.pointer p0] w K by kernel_rfl) h)

/-- sluice/sluiceref11.right -/
def T58 (p0 : Int) (p1 : Int) (p2 : Int) (w : World) (K : Bool → World → Prop) : Prop :=
  SplitB (decide (p0 ≥ 1))
    (SplitB (decide (p0 ≤ 1099511627776))
      (SplitB (decide (p1 ≥ 0))
        (SplitB (decide (p1 ≤ 1099511627776))
          (SplitB (decide (p2 ≥ 0))
            (K (decide (p2 ≤ 1099511627776)) w)
            (K false w))
          (K false w))
        (K false w))
      (K false w))
    (K false w)
theorem T58.calls {p0 : Int} {p1 : Int} {p2 : Int} {w : World} {K : Bool → World → Prop} (h : T58 p0 p1 p2 w K) : CallK Try.prog .bool 58 #[.int .i64 p0, .int .i64 p1, .int .i64 p2] w K :=
  bodyZ_sound (κ := kappa) (ann := []) (fn := Try.f58) Try.func58 rfl (by kernel_rfl) (cast (show T58 p0 p1 p2 w K = bodyZ Try.prog kappa [] .bool Try.f58 [.int .i64 p0, .int .i64 p1, .int .i64 p2] w K by kernel_rfl) h)

/-- (*sluice/sluiceref11.Machine).Frozen -/
def T59 (p0 : Option Addr) (w : World) (K : Bool → World → Prop) : Prop :=
  CallK Try.prog .sl 57 #[.pointer p0] w fun t4 w =>
  K (decide ((t4.len : Int) > 0)) w
theorem T59.calls {p0 : Option Addr} {w : World} {K : Bool → World → Prop} (h : T59 p0 w K) : CallK Try.prog .bool 59 #[.pointer p0] w K :=
  bodyZ_sound (κ := kappa) (ann := []) (fn := Try.f59) Try.func59 rfl (by kernel_rfl) (cast (show T59 p0 w K = bodyZ Try.prog kappa [] .bool Try.f59 [.pointer p0] w K by kernel_rfl) h)

/-- sluice/sluiceref11.greatest -/
def T60 (p0 : Sl) (p1 : Int) (w : World) (K : Int → World → Prop) : Prop :=
  LoopX (α := Int × Int × Unit) (fun s1 w k2 =>
    SplitB (decide (s1.2.1 < (p0.len : Int)))
      (JoinX (α := Int × Unit) (fun j4 w =>
        k2 (j4.1, IntKind.i64.wrap (s1.2.1 + 1), ()) w)
      fun k3 =>
        JoinX (α := Bool × Unit) (fun j6 w =>
          SplitB j6.1
            (RunN Try.prog .addr (V (Instr.indexAt 78 (.slice p0.a p0.len p0.cap) (.int .i64 s1.2.1))) w fun t31 w =>
            RunN Try.prog (.int .i64) (V (Instr.loadAt 3 (.pointer (some (t31.add 0))))) w fun t33 w =>
            k3 (t33, ()) w)
            (k3 (s1.1, ()) w))
        fun k5 =>
          RunN Try.prog .addr (V (Instr.indexAt 78 (.slice p0.a p0.len p0.cap) (.int .i64 s1.2.1))) w fun t15 w =>
          RunN Try.prog (.int .i64) (V (Instr.loadAt 3 (.pointer (some (t15.add 1))))) w fun t17 w =>
          SplitB (t17 == p1)
            (RunN Try.prog .addr (V (Instr.indexAt 78 (.slice p0.a p0.len p0.cap) (.int .i64 s1.2.1))) w fun t23 w =>
            RunN Try.prog (.int .i64) (V (Instr.loadAt 3 (.pointer (some (t23.add 0))))) w fun t25 w =>
            k5 (decide (t25 > s1.1), ()) w)
            (k5 (false, ()) w))
      (K s1.1 w))
  (0, 0, ()) w
theorem T60.calls {p0 : Sl} {p1 : Int} {w : World} {K : Int → World → Prop} (h : T60 p0 p1 w K) : CallK Try.prog (.int .i64) 60 #[.slice p0.a p0.len p0.cap, .int .i64 p1] w K :=
  bodyZ_sound (κ := kappa) (ann := [(4, [(5, (.int .i64)), (6, (.int .i64))]), (7, [(5, (.int .i64))]), (8, [(28, .bool)])]) (fn := Try.f60) Try.func60 rfl (by kernel_rfl) (cast (show T60 p0 p1 w K = bodyZ Try.prog kappa [(4, [(5, (.int .i64)), (6, (.int .i64))]), (7, [(5, (.int .i64))]), (8, [(28, .bool)])] (.int .i64) Try.f60 [.slice p0.a p0.len p0.cap, .int .i64 p1] w K by kernel_rfl) h)

/-- (*sluice/epoch.Machine).told -/
def T61 (p0 : Option Addr) (p1 : (Int × Int × Unit)) (p2 : Bool) (w : World) (K : Unit → World → Prop) : Prop :=
  RunN Try.prog .addr (V (Instr.box 54 (.agg #[.int .i64 p1.1, .int .i64 p1.2.1]))) w fun t4 w =>
  JoinX (α := Bool × Unit) (fun j2 w =>
    SplitB j2.1
      (K () w)
      (ReadN Try.prog (.int .i64) (V (Instr.loadAt 3 (.pointer (some (t4.add 1))))) w.drew fun t39 =>
      ReadN Try.prog (.int .i64) (V (Instr.loadAt 3 (.pointer (some (t4.add 1))))) w.drew fun t42 =>
      NilP p0 fun t43 =>
      ReadN Try.prog .addr (V (Instr.indexAt 98 (.pointer (some (t43.add 2))) (.int .i64 t42))) w.drew fun t45 =>
      ReadN Try.prog (.int .i64) (V (Instr.loadAt 3 (.pointer (some t45)))) w.drew fun t46 =>
      ReadN Try.prog (.int .i64) (V (Instr.loadAt 3 (.pointer (some (t4.add 0))))) w.drew fun t48 =>
      ReadN Try.prog (.int .i64) (V (Builtin.max_ #[3, 3] 3 #[.int .i64 t46, .int .i64 t48])) w.drew fun t49 =>
      NilP p0 fun t50 =>
      ReadN Try.prog .addr (V (Instr.indexAt 98 (.pointer (some (t50.add 2))) (.int .i64 t39))) w.drew fun t52 =>
      RunU Try.prog (U (Instr.storeAt 3 (.pointer (some t52)) (.int .i64 t49))) w.drew fun w =>
      SplitB p2
        (ReadN Try.prog (.int .i64) (V (Instr.loadAt 3 (.pointer (some (t4.add 1))))) w.drew fun t56 =>
        ReadN Try.prog (.int .i64) (V (Instr.loadAt 3 (.pointer (some (t4.add 1))))) w.drew fun t59 =>
        NilP p0 fun t60 =>
        ReadN Try.prog .addr (V (Instr.indexAt 98 (.pointer (some (t60.add 18))) (.int .i64 t59))) w.drew fun t62 =>
        ReadN Try.prog (.int .i64) (V (Instr.loadAt 3 (.pointer (some t62)))) w.drew fun t63 =>
        ReadN Try.prog (.int .i64) (V (Instr.loadAt 3 (.pointer (some (t4.add 0))))) w.drew fun t65 =>
        ReadN Try.prog (.int .i64) (V (Builtin.max_ #[3, 3] 3 #[.int .i64 t63, .int .i64 t65])) w.drew fun t66 =>
        NilP p0 fun t67 =>
        ReadN Try.prog .addr (V (Instr.indexAt 98 (.pointer (some (t67.add 18))) (.int .i64 t56))) w.drew fun t69 =>
        RunU Try.prog (U (Instr.storeAt 3 (.pointer (some t69)) (.int .i64 t66))) w.drew fun w =>
        K () w)
        (K () w)))
  fun k1 =>
    ReadN Try.prog (.int .i64) (V (Instr.loadAt 3 (.pointer (some (t4.add 0))))) w.drew fun t7 =>
    SplitB (decide (t7 < 1))
      (k1 (true, ()) w.drew)
      (ReadN Try.prog (.int .i64) (V (Instr.loadAt 3 (.pointer (some (t4.add 0))))) w.drew fun t11 =>
      SplitB (decide (t11 > 1099511627776))
        (k1 (true, ()) w.drew)
        (ReadN Try.prog (.int .i64) (V (Instr.loadAt 3 (.pointer (some (t4.add 1))))) w.drew fun t16 =>
        SplitB (decide (t16 < 0))
          (k1 (true, ()) w.drew)
          (ReadN Try.prog (.int .i64) (V (Instr.loadAt 3 (.pointer (some (t4.add 1))))) w.drew fun t21 =>
          NilP p0 fun t23 =>
          ReadN Try.prog (.int .i64) (V (Instr.loadAt 3 (.pointer (some (t23.add 1))))) w.drew fun t25 =>
          SplitB (decide (t21 ≥ t25))
            (k1 (true, ()) w.drew)
            (ReadN Try.prog (.int .i64) (V (Instr.loadAt 3 (.pointer (some (t4.add 1))))) w.drew fun t30 =>
            NilP p0 fun t32 =>
            ReadN Try.prog (.int .i64) (V (Instr.loadAt 3 (.pointer (some (t32.add 0))))) w.drew fun t34 =>
            k1 (t30 == t34, ()) w.drew))))
theorem T61.calls {p0 : Option Addr} {p1 : (Int × Int × Unit)} {p2 : Bool} {w : World} {K : Unit → World → Prop} (h : T61 p0 p1 p2 w K) : CallK Try.prog (.tup .nilT) 61 #[.pointer p0, .agg #[.int .i64 p1.1, .int .i64 p1.2.1], .bool p2] w K :=
  bodyZ_sound (κ := kappa) (ann := [(2, [(36, .bool)])]) (fn := Try.f61) Try.func61 rfl (by kernel_rfl) (cast (show T61 p0 p1 p2 w K = bodyZ Try.prog kappa [(2, [(36, .bool)])] (.tup .nilT) Try.f61 [.pointer p0, .agg #[.int .i64 p1.1, .int .i64 p1.2.1], .bool p2] w K by kernel_rfl) h)

/-- (*sluice/epoch.Machine).turn -/
def T62 (p0 : Option Addr) (p1 : (Int × Int × Unit)) (w : World) (K : Sl → World → Prop) : Prop :=
  RunN Try.prog .addr (V (Instr.box 54 (.agg #[.int .i64 p1.1, .int .i64 p1.2.1]))) w fun t3 w =>
  CallK Try.prog (.agg (.cons (.int .i64) (.cons (.int .i64) .nilT))) 25 #[.pointer p0] w fun t8 w =>
  CallK Try.prog (.agg (.cons (.int .i64) (.cons (.int .i64) .nilT))) 51 #[.pointer p0] w fun t10 w =>
  RunN Try.prog .addr (V (Instr.alloc 54 true (.tuple #[]))) w fun t5 w =>
  RunN Try.prog .addr (V (Instr.alloc 54 true (.tuple #[]))) w fun t6 w =>
  RunU Try.prog (U (Instr.storeAt 54 (.pointer (some t5)) (.agg #[.int .i64 t8.1, .int .i64 t8.2.1]))) w fun w =>
  RunU Try.prog (U (Instr.storeAt 54 (.pointer (some t6)) (.agg #[.int .i64 t10.1, .int .i64 t10.2.1]))) w fun w =>
  JoinX (α := Unit) (fun j2 w =>
    JoinX (α := Unit) (fun j4 w =>
      CallK Try.prog .sl 47 #[.pointer p0] w fun t71 w =>
      K t71 w)
    fun k3 =>
      JoinX (α := Bool × Unit) (fun j6 w =>
        SplitB j6.1
          (k3 () w)
          (RunN Try.prog (.agg (.cons (.int .i64) (.cons (.int .i64) .nilT))) (V (Instr.loadAt 54 (.pointer (some t6)))) w fun t60 w =>
          CallK Try.prog .bool 48 #[.agg #[.int .i64 t60.1, .int .i64 t60.2.1]] w fun t61 w =>
          SplitB (!t61)
            (NilP p0 fun t65 =>
            RunN Try.prog (.int .i64) (V (Instr.loadAt 3 (.pointer (some (t65.add 0))))) w fun t67 w =>
            CallK Try.prog (.tup .nilT) 46 #[.pointer p0, .agg #[.int .i64 6, .int .i64 t67, .int .i64 0, .int .i64 0, .int .i64 0, .int .i64 0]] w fun t69 w =>
            k3 () w)
            (RunN Try.prog (.int .i64) (V (Instr.loadAt 3 (.pointer (some (t6.add 1))))) w fun t44 w =>
            RunN Try.prog (.agg (.cons (.int .i64) (.cons (.int .i64) .nilT))) (V (Instr.loadAt 54 (.pointer (some t6)))) w fun t45 w =>
            CallK Try.prog (.tup .nilT) 46 #[.pointer p0, .agg #[.int .i64 2, .int .i64 t44, .int .i64 t45.1, .int .i64 t45.2.1, .int .i64 0, .int .i64 0]] w fun t47 w =>
            k3 () w)))
      fun k5 =>
        RunN Try.prog (.agg (.cons (.int .i64) (.cons (.int .i64) .nilT))) (V (Instr.loadAt 54 (.pointer (some t6)))) w fun t49 w =>
        RunN Try.prog (.agg (.cons (.int .i64) (.cons (.int .i64) .nilT))) (V (Instr.loadAt 54 (.pointer (some t3)))) w fun t50 w =>
        RunN Try.prog .bool (V (do eqGuard .eql 54 (.tmp 49) (.tmp 50) (.agg #[.int .i64 t49.1, .int .i64 t49.2.1]) (.agg #[.int .i64 t50.1, .int .i64 t50.2.1]); binOp .eql 54 (.agg #[.int .i64 t49.1, .int .i64 t49.2.1]) (.agg #[.int .i64 t50.1, .int .i64 t50.2.1]))) w fun t51 w =>
        SplitB t51
          (k5 (t51, ()) w)
          (RunN Try.prog (.agg (.cons (.int .i64) (.cons (.int .i64) .nilT))) (V (Instr.loadAt 54 (.pointer (some t5)))) w fun t52 w =>
          CallK Try.prog .bool 48 #[.agg #[.int .i64 t52.1, .int .i64 t52.2.1]] w fun t53 w =>
          SplitB t53
            (RunN Try.prog (.agg (.cons (.int .i64) (.cons (.int .i64) .nilT))) (V (Instr.loadAt 54 (.pointer (some t6)))) w fun t55 w =>
            RunN Try.prog (.agg (.cons (.int .i64) (.cons (.int .i64) .nilT))) (V (Instr.loadAt 54 (.pointer (some t5)))) w fun t56 w =>
            RunN Try.prog .bool (V (do eqGuard .eql 54 (.tmp 55) (.tmp 56) (.agg #[.int .i64 t55.1, .int .i64 t55.2.1]) (.agg #[.int .i64 t56.1, .int .i64 t56.2.1]); binOp .eql 54 (.agg #[.int .i64 t55.1, .int .i64 t55.2.1]) (.agg #[.int .i64 t56.1, .int .i64 t56.2.1]))) w fun t57 w =>
            k5 (t57, ()) w)
            (k5 (false, ()) w)))
  fun k1 =>
    JoinX (α := Bool × Unit) (fun j8 w =>
      SplitB j8.1
        (NilP p0 fun t20 =>
        ReadN Try.prog (.int .i64) (V (Instr.loadAt 3 (.pointer (some (t20.add 0))))) w.drew fun t22 =>
        ReadN Try.prog (.int .i64) (V (Instr.loadAt 3 (.pointer (some (t5.add 0))))) w.drew fun t24 =>
        NilP p0 fun t25 =>
        ReadN Try.prog .addr (V (Instr.indexAt 98 (.pointer (some (t25.add 18))) (.int .i64 t22))) w.drew fun t27 =>
        RunU Try.prog (U (Instr.storeAt 3 (.pointer (some t27)) (.int .i64 t24))) w.drew fun w =>
        RunN Try.prog (.agg (.cons (.int .i64) (.cons (.int .i64) .nilT))) (V (Instr.loadAt 54 (.pointer (some t5)))) w fun t29 w =>
        RunN Try.prog (.agg (.cons (.int .i64) (.cons (.int .i64) .nilT))) (V (Instr.loadAt 54 (.pointer (some t6)))) w fun t30 w =>
        CallK Try.prog (.tup .nilT) 46 #[.pointer p0, .agg #[.int .i64 3, .int .i64 (-1), .int .i64 t29.1, .int .i64 t29.2.1, .int .i64 t30.1, .int .i64 t30.2.1]] w fun t32 w =>
        NilP p0 fun t35 =>
        ReadN Try.prog (.int .i64) (V (Instr.loadAt 3 (.pointer (some (t35.add 0))))) w.drew fun t37 =>
        ReadN Try.prog (.agg (.cons (.int .i64) (.cons (.int .i64) .nilT))) (V (Instr.loadAt 54 (.pointer (some t5)))) w.drew fun t38 =>
        CallK Try.prog (.tup .nilT) 46 #[.pointer p0, .agg #[.int .i64 5, .int .i64 t37, .int .i64 t38.1, .int .i64 t38.2.1, .int .i64 0, .int .i64 0]] w.drew fun t40 w =>
        RunN Try.prog (.agg (.cons (.int .i64) (.cons (.int .i64) .nilT))) (V (Instr.loadAt 54 (.pointer (some t5)))) w fun t41 w =>
        RunU Try.prog (U (Instr.storeAt 54 (.pointer (some t3)) (.agg #[.int .i64 t41.1, .int .i64 t41.2.1]))) w fun w =>
        k1 () w)
        (k1 () w))
    fun k7 =>
      RunN Try.prog (.agg (.cons (.int .i64) (.cons (.int .i64) .nilT))) (V (Instr.loadAt 54 (.pointer (some t5)))) w fun t11 w =>
      CallK Try.prog .bool 48 #[.agg #[.int .i64 t11.1, .int .i64 t11.2.1]] w fun t12 w =>
      SplitB t12
        (RunN Try.prog (.agg (.cons (.int .i64) (.cons (.int .i64) .nilT))) (V (Instr.loadAt 54 (.pointer (some t6)))) w fun t14 w =>
        RunN Try.prog (.agg (.cons (.int .i64) (.cons (.int .i64) .nilT))) (V (Instr.loadAt 54 (.pointer (some t5)))) w fun t15 w =>
        RunN Try.prog .bool (V (do eqGuard .neq 54 (.tmp 14) (.tmp 15) (.agg #[.int .i64 t14.1, .int .i64 t14.2.1]) (.agg #[.int .i64 t15.1, .int .i64 t15.2.1]); binOp .neq 54 (.agg #[.int .i64 t14.1, .int .i64 t14.2.1]) (.agg #[.int .i64 t15.1, .int .i64 t15.2.1]))) w fun t16 w =>
        k7 (t16, ()) w)
        (k7 (false, ()) w)
theorem T62.calls {p0 : Option Addr} {p1 : (Int × Int × Unit)} {w : World} {K : Sl → World → Prop} (h : T62 p0 p1 w K) : CallK Try.prog .sl 62 #[.pointer p0, .agg #[.int .i64 p1.1, .int .i64 p1.2.1]] w K :=
  bodyZ_sound (κ := kappa) (ann := [(2, []), (7, []), (8, [(48, .bool)]), (3, [(17, .bool)])]) (fn := Try.f62) Try.func62 rfl (by kernel_rfl) (cast (show T62 p0 p1 w K = bodyZ Try.prog kappa [(2, []), (7, []), (8, [(48, .bool)]), (3, [(17, .bool)])] .sl Try.f62 [.pointer p0, .agg #[.int .i64 p1.1, .int .i64 p1.2.1]] w K by kernel_rfl) h)

/-- (*sluice/sluiceref11.Machine).Target -/
def T63 (p0 : Option Addr) (w : World) (K : (Int × Int × Unit) → World → Prop) : Prop :=
  RunN Try.prog .addr (V (Instr.alloc 54 true (.tuple #[]))) w fun t2 w =>
  RunN Try.prog .addr (V (Instr.alloc 54 true (.tuple #[]))) w fun t3 w =>
  CallK Try.prog .sl 57 #[.pointer p0] w fun t7 w =>
  LoopX (α := Int × Unit) (fun s1 w k2 =>
    SplitB (decide (s1.1 < (t7.len : Int)))
      (JoinX (α := Unit) (fun j4 w =>
        k2 (IntKind.i64.wrap (s1.1 + 1), ()) w)
      fun k3 =>
        ReadN Try.prog .addr (V (Instr.indexAt 78 (.slice t7.a t7.len t7.cap) (.int .i64 s1.1))) w.drew fun t16 =>
        ReadN Try.prog (.int .i64) (V (Instr.loadAt 3 (.pointer (some (t16.add 0))))) w.drew fun t18 =>
        ReadN Try.prog (.int .i64) (V (Instr.loadAt 3 (.pointer (some (t3.add 0))))) w.drew fun t20 =>
        SplitB (decide (t18 ≥ t20))
          (RunN Try.prog .addr (V (Instr.indexAt 78 (.slice t7.a t7.len t7.cap) (.int .i64 s1.1))) w.drew fun t24 w =>
          RunN Try.prog (.agg (.cons (.int .i64) (.cons (.int .i64) .nilT))) (V (Instr.loadAt 54 (.pointer (some t24)))) w fun t25 w =>
          RunU Try.prog (U (Instr.storeAt 54 (.pointer (some t3)) (.agg #[.int .i64 t25.1, .int .i64 t25.2.1]))) w fun w =>
          k3 () w)
          (k3 () w.drew))
      (RunN Try.prog (.agg (.cons (.int .i64) (.cons (.int .i64) .nilT))) (V (Instr.loadAt 54 (.pointer (some t3)))) w fun t26 w =>
      RunU Try.prog (U (Instr.storeAt 54 (.pointer (some t2)) (.agg #[.int .i64 t26.1, .int .i64 t26.2.1]))) w fun w =>
      ReadN Try.prog (.agg (.cons (.int .i64) (.cons (.int .i64) .nilT))) (V (Instr.loadAt 54 (.pointer (some t2)))) w fun r0 =>
      K (r0.1, r0.2.1, ()) w))
  (0, ()) w
theorem T63.calls {p0 : Option Addr} {w : World} {K : (Int × Int × Unit) → World → Prop} (h : T63 p0 w K) : CallK Try.prog (.agg (.cons (.int .i64) (.cons (.int .i64) .nilT))) 63 #[.pointer p0] w K :=
  bodyZ_sound (κ := kappa) (ann := [(5, [(5, (.int .i64))]), (8, [])]) (fn := Try.f63) Try.func63 rfl (by kernel_rfl) (cast (show T63 p0 w K = bodyZ Try.prog kappa [(5, [(5, (.int .i64))]), (8, [])] (.agg (.cons (.int .i64) (.cons (.int .i64) .nilT))) Try.f63 [.pointer p0] w K by kernel_rfl) h)

/-- (*sluice/sluiceref11.Machine).told -/
def T64 (p0 : Option Addr) (p1 : (Int × Int × Unit)) (w : World) (K : Unit → World → Prop) : Prop :=
  RunN Try.prog .addr (V (Instr.box 54 (.agg #[.int .i64 p1.1, .int .i64 p1.2.1]))) w fun t3 w =>
  JoinX (α := Bool × Unit) (fun j2 w =>
    SplitB j2.1
      (NilP p0 fun t18 =>
      ReadN Try.prog .sl (V (Instr.loadAt 78 (.pointer (some (t18.add 2))))) w.drew fun t20 =>
      ReadN Try.prog (.agg (.cons (.int .i64) (.cons (.int .i64) .nilT))) (V (Instr.loadAt 54 (.pointer (some t3)))) w.drew fun t21 =>
      RunN Try.prog .sl (V (Instr.buildSlice 78 1 #[(0, .agg #[.int .i64 t21.1, .int .i64 t21.2.1])])) w.drew fun t22 w =>
      StillV Try.prog (V (Instr.loadAt 78 (.pointer (some (t18.add 2))))) (.slice t20.a t20.len t20.cap) w ∧
      RunN Try.prog .sl (V (Builtin.append_ #[78, 78] 78 #[.slice t20.a t20.len t20.cap, .slice t22.a t22.len t22.cap])) w fun t23 w =>
      NilP p0 fun t24 =>
      RunU Try.prog (U (Instr.storeAt 78 (.pointer (some (t24.add 2))) (.slice t23.a t23.len t23.cap))) w fun w =>
      K () w)
      (K () w))
  fun k1 =>
    ReadN Try.prog (.agg (.cons (.int .i64) (.cons (.int .i64) .nilT))) (V (Instr.loadAt 54 (.pointer (some t3)))) w.drew fun t5 =>
    CallK Try.prog .bool 66 #[.pointer p0, .agg #[.int .i64 t5.1, .int .i64 t5.2.1]] w.drew fun t6 w =>
    SplitB t6
      (ReadN Try.prog (.int .i64) (V (Instr.loadAt 3 (.pointer (some (t3.add 1))))) w fun t9 =>
      NilP p0 fun t11 =>
      ReadN Try.prog (.int .i64) (V (Instr.loadAt 3 (.pointer (some (t11.add 0))))) w fun t13 =>
      k1 (t9 != t13, ()) w)
      (k1 (false, ()) w)
theorem T64.calls {p0 : Option Addr} {p1 : (Int × Int × Unit)} {w : World} {K : Unit → World → Prop} (h : T64 p0 p1 w K) : CallK Try.prog (.tup .nilT) 64 #[.pointer p0, .agg #[.int .i64 p1.1, .int .i64 p1.2.1]] w K :=
  bodyZ_sound (κ := kappa) (ann := [(1, [(15, .bool)])]) (fn := Try.f64) Try.func64 rfl (by kernel_rfl) (cast (show T64 p0 p1 w K = bodyZ Try.prog kappa [(1, [(15, .bool)])] (.tup .nilT) Try.f64 [.pointer p0, .agg #[.int .i64 p1.1, .int .i64 p1.2.1]] w K by kernel_rfl) h)

/-- (*sluice/sluiceref11.Machine).turn -/
def T65 (p0 : Option Addr) (p1 : (Int × Int × Unit)) (w : World) (K : Sl → World → Prop) : Prop :=
  RunN Try.prog .addr (V (Instr.box 54 (.agg #[.int .i64 p1.1, .int .i64 p1.2.1]))) w fun t3 w =>
  CallK Try.prog (.agg (.cons (.int .i64) (.cons (.int .i64) .nilT))) 30 #[.pointer p0] w fun t8 w =>
  RunN Try.prog .addr (V (Instr.alloc 54 true (.tuple #[]))) w fun t5 w =>
  RunU Try.prog (U (Instr.storeAt 54 (.pointer (some t5)) (.agg #[.int .i64 t8.1, .int .i64 t8.2.1]))) w fun w =>
  CallK Try.prog (.agg (.cons (.int .i64) (.cons (.int .i64) .nilT))) 63 #[.pointer p0] w fun t10 w =>
  RunN Try.prog .addr (V (Instr.alloc 54 true (.tuple #[]))) w fun t6 w =>
  RunU Try.prog (U (Instr.storeAt 54 (.pointer (some t6)) (.agg #[.int .i64 t10.1, .int .i64 t10.2.1]))) w fun w =>
  JoinX (α := Bool × Unit) (fun j2 w =>
    SplitB j2.1
      (NilP p0 fun t22 =>
      ReadN Try.prog .sl (V (Instr.loadAt 78 (.pointer (some (t22.add 3))))) w.drew fun t24 =>
      ReadN Try.prog (.agg (.cons (.int .i64) (.cons (.int .i64) .nilT))) (V (Instr.loadAt 54 (.pointer (some t5)))) w.drew fun t25 =>
      RunN Try.prog .sl (V (Instr.buildSlice 78 1 #[(0, .agg #[.int .i64 t25.1, .int .i64 t25.2.1])])) w.drew fun t26 w =>
      StillV Try.prog (V (Instr.loadAt 78 (.pointer (some (t22.add 3))))) (.slice t24.a t24.len t24.cap) w ∧
      RunN Try.prog .sl (V (Builtin.append_ #[78, 78] 78 #[.slice t24.a t24.len t24.cap, .slice t26.a t26.len t26.cap])) w fun t27 w =>
      NilP p0 fun t28 =>
      RunU Try.prog (U (Instr.storeAt 78 (.pointer (some (t28.add 3))) (.slice t27.a t27.len t27.cap))) w fun w =>
      ReadN Try.prog (.agg (.cons (.int .i64) (.cons (.int .i64) .nilT))) (V (Instr.loadAt 54 (.pointer (some t5)))) w.drew fun t30 =>
      ReadN Try.prog (.agg (.cons (.int .i64) (.cons (.int .i64) .nilT))) (V (Instr.loadAt 54 (.pointer (some t6)))) w.drew fun t31 =>
      NilP p0 fun t34 =>
      ReadN Try.prog (.int .i64) (V (Instr.loadAt 3 (.pointer (some (t34.add 0))))) w.drew fun t36 =>
      ReadN Try.prog (.agg (.cons (.int .i64) (.cons (.int .i64) .nilT))) (V (Instr.loadAt 54 (.pointer (some t5)))) w.drew fun t37 =>
      ReadN Try.prog (.int .i64) (V (Instr.loadAt 3 (.pointer (some (t6.add 1))))) w.drew fun t40 =>
      ReadN Try.prog (.agg (.cons (.int .i64) (.cons (.int .i64) .nilT))) (V (Instr.loadAt 54 (.pointer (some t6)))) w.drew fun t41 =>
      RunN Try.prog .sl (V (Instr.buildSlice 82 3 #[(0, .agg #[.int .i64 3, .int .i64 (-1), .int .i64 t30.1, .int .i64 t30.2.1, .int .i64 t31.1, .int .i64 t31.2.1]), (1, .agg #[.int .i64 5, .int .i64 t36, .int .i64 t37.1, .int .i64 t37.2.1, .int .i64 0, .int .i64 0]), (2, .agg #[.int .i64 2, .int .i64 t40, .int .i64 t41.1, .int .i64 t41.2.1, .int .i64 0, .int .i64 0])])) w.drew fun t43 w =>
      K t43 w)
      (JoinX (α := Bool × Unit) (fun j4 w =>
        SplitB j4.1
          (RunN Try.prog (.int .i64) (V (Instr.loadAt 3 (.pointer (some (t6.add 1))))) w fun t59 w =>
          RunN Try.prog (.agg (.cons (.int .i64) (.cons (.int .i64) .nilT))) (V (Instr.loadAt 54 (.pointer (some t6)))) w fun t60 w =>
          RunN Try.prog .sl (V (Instr.buildSlice 82 1 #[(0, .agg #[.int .i64 2, .int .i64 t59, .int .i64 t60.1, .int .i64 t60.2.1, .int .i64 0, .int .i64 0])])) w fun t62 w =>
          K t62 w)
          (JoinX (α := Bool × Unit) (fun j6 w =>
            SplitB j6.1
              (NilP p0 fun t73 =>
              RunN Try.prog (.int .i64) (V (Instr.loadAt 3 (.pointer (some (t73.add 0))))) w fun t75 w =>
              RunN Try.prog .sl (V (Instr.buildSlice 82 1 #[(0, .agg #[.int .i64 6, .int .i64 t75, .int .i64 0, .int .i64 0, .int .i64 0, .int .i64 0])])) w fun t77 w =>
              K t77 w)
              (K (⟨none, 0, 0⟩ : Sl) w))
          fun k5 =>
            RunN Try.prog (.int .i64) (V (Instr.loadAt 3 (.pointer (some (t6.add 0))))) w fun t65 w =>
            SplitB (t65 == 0)
              (RunN Try.prog (.int .i64) (V (Instr.loadAt 3 (.pointer (some (t3.add 0))))) w fun t69 w =>
              k5 (decide (t69 > 0), ()) w)
              (k5 (false, ()) w)))
      fun k3 =>
        RunN Try.prog (.int .i64) (V (Instr.loadAt 3 (.pointer (some (t6.add 0))))) w fun t46 w =>
        SplitB (decide (t46 > 0))
          (RunN Try.prog (.agg (.cons (.int .i64) (.cons (.int .i64) .nilT))) (V (Instr.loadAt 54 (.pointer (some t6)))) w fun t49 w =>
          RunN Try.prog (.agg (.cons (.int .i64) (.cons (.int .i64) .nilT))) (V (Instr.loadAt 54 (.pointer (some t5)))) w fun t50 w =>
          RunN Try.prog .bool (V (do eqGuard .neq 54 (.tmp 49) (.tmp 50) (.agg #[.int .i64 t49.1, .int .i64 t49.2.1]) (.agg #[.int .i64 t50.1, .int .i64 t50.2.1]); binOp .neq 54 (.agg #[.int .i64 t49.1, .int .i64 t49.2.1]) (.agg #[.int .i64 t50.1, .int .i64 t50.2.1]))) w fun t51 w =>
          SplitB t51
            (RunN Try.prog (.agg (.cons (.int .i64) (.cons (.int .i64) .nilT))) (V (Instr.loadAt 54 (.pointer (some t6)))) w fun t54 w =>
            RunN Try.prog (.agg (.cons (.int .i64) (.cons (.int .i64) .nilT))) (V (Instr.loadAt 54 (.pointer (some t3)))) w fun t55 w =>
            RunN Try.prog .bool (V (do eqGuard .neq 54 (.tmp 54) (.tmp 55) (.agg #[.int .i64 t54.1, .int .i64 t54.2.1]) (.agg #[.int .i64 t55.1, .int .i64 t55.2.1]); binOp .neq 54 (.agg #[.int .i64 t54.1, .int .i64 t54.2.1]) (.agg #[.int .i64 t55.1, .int .i64 t55.2.1]))) w fun t56 w =>
            k3 (t56, ()) w)
            (k3 (false, ()) w))
          (k3 (false, ()) w)))
  fun k1 =>
    RunN Try.prog (.int .i64) (V (Instr.loadAt 3 (.pointer (some (t5.add 0))))) w fun t13 w =>
    SplitB (decide (t13 > 0))
      (RunN Try.prog (.agg (.cons (.int .i64) (.cons (.int .i64) .nilT))) (V (Instr.loadAt 54 (.pointer (some t6)))) w fun t16 w =>
      RunN Try.prog (.agg (.cons (.int .i64) (.cons (.int .i64) .nilT))) (V (Instr.loadAt 54 (.pointer (some t5)))) w fun t17 w =>
      RunN Try.prog .bool (V (do eqGuard .neq 54 (.tmp 16) (.tmp 17) (.agg #[.int .i64 t16.1, .int .i64 t16.2.1]) (.agg #[.int .i64 t17.1, .int .i64 t17.2.1]); binOp .neq 54 (.agg #[.int .i64 t16.1, .int .i64 t16.2.1]) (.agg #[.int .i64 t17.1, .int .i64 t17.2.1]))) w fun t18 w =>
      k1 (t18, ()) w)
      (k1 (false, ()) w)
theorem T65.calls {p0 : Option Addr} {p1 : (Int × Int × Unit)} {w : World} {K : Sl → World → Prop} (h : T65 p0 p1 w K) : CallK Try.prog .sl 65 #[.pointer p0, .agg #[.int .i64 p1.1, .int .i64 p1.2.1]] w K :=
  bodyZ_sound (κ := kappa) (ann := [(4, [(11, .bool)]), (7, [(44, .bool)]), (9, [(63, .bool)])]) (fn := Try.f65) Try.func65 rfl (by kernel_rfl) (cast (show T65 p0 p1 w K = bodyZ Try.prog kappa [(4, [(11, .bool)]), (7, [(44, .bool)]), (9, [(63, .bool)])] .sl Try.f65 [.pointer p0, .agg #[.int .i64 p1.1, .int .i64 p1.2.1]] w K by kernel_rfl) h)

/-- (*sluice/sluiceref11.Machine).one -/
def T66 (p0 : Option Addr) (p1 : (Int × Int × Unit)) (w : World) (K : Bool → World → Prop) : Prop :=
  RunN Try.prog .addr (V (Instr.box 54 (.agg #[.int .i64 p1.1, .int .i64 p1.2.1]))) w fun t3 w =>
  ReadN Try.prog (.int .i64) (V (Instr.loadAt 3 (.pointer (some (t3.add 0))))) w.drew fun t6 =>
  SplitB (decide (t6 ≥ 1))
    (ReadN Try.prog (.int .i64) (V (Instr.loadAt 3 (.pointer (some (t3.add 0))))) w.drew fun t10 =>
    SplitB (decide (t10 ≤ 1099511627776))
      (ReadN Try.prog (.int .i64) (V (Instr.loadAt 3 (.pointer (some (t3.add 1))))) w.drew fun t15 =>
      SplitB (decide (t15 ≥ 0))
        (ReadN Try.prog (.int .i64) (V (Instr.loadAt 3 (.pointer (some (t3.add 1))))) w.drew fun t20 =>
        NilP p0 fun t22 =>
        ReadN Try.prog (.int .i64) (V (Instr.loadAt 3 (.pointer (some (t22.add 1))))) w.drew fun t24 =>
        K (decide (t20 < t24)) w.drew)
        (K false w.drew))
      (K false w.drew))
    (K false w.drew)
theorem T66.calls {p0 : Option Addr} {p1 : (Int × Int × Unit)} {w : World} {K : Bool → World → Prop} (h : T66 p0 p1 w K) : CallK Try.prog .bool 66 #[.pointer p0, .agg #[.int .i64 p1.1, .int .i64 p1.2.1]] w K :=
  bodyZ_sound (κ := kappa) (ann := []) (fn := Try.f66) Try.func66 rfl (by kernel_rfl) (cast (show T66 p0 p1 w K = bodyZ Try.prog kappa [] .bool Try.f66 [.pointer p0, .agg #[.int .i64 p1.1, .int .i64 p1.2.1]] w K by kernel_rfl) h)

/-- (*sluice/sluiceref11.Machine).Reported -/
def T67 (p0 : Option Addr) (w : World) (K : Int → World → Prop) : Prop :=
  LoopX (α := Int × Int × Unit) (fun s1 w k2 =>
    NilP p0 fun t9 =>
    RunN Try.prog (.int .i64) (V (Instr.loadAt 3 (.pointer (some (t9.add 1))))) w fun t11 w =>
    SplitB (decide (s1.2.1 < t11))
      (CallK Try.prog (.tup (.cons (.int .i64) (.cons .bool .nilT))) 76 #[.pointer p0, .int .i64 s1.2.1] w fun t18 w =>
      k2 (IntKind.i64.wrap (s1.1 + t18.1), IntKind.i64.wrap (s1.2.1 + 1), ()) w)
      (K s1.1 w))
  (0, 0, ()) w
theorem T67.calls {p0 : Option Addr} {w : World} {K : Int → World → Prop} (h : T67 p0 w K) : CallK Try.prog (.int .i64) 67 #[.pointer p0] w K :=
  bodyZ_sound (κ := kappa) (ann := [(4, [(3, (.int .i64)), (4, (.int .i64))])]) (fn := Try.f67) Try.func67 rfl (by kernel_rfl) (cast (show T67 p0 w K = bodyZ Try.prog kappa [(4, [(3, (.int .i64)), (4, (.int .i64))])] (.int .i64) Try.f67 [.pointer p0] w K by kernel_rfl) h)

/-- (*sluice/sluiceref11.Machine).All -/
def T68 (p0 : Option Addr) (w : World) (K : Bool → World → Prop) : Prop :=
  LoopX (α := Int × Unit) (fun s1 w k2 =>
    NilP p0 fun t8 =>
    RunN Try.prog (.int .i64) (V (Instr.loadAt 3 (.pointer (some (t8.add 1))))) w fun t10 w =>
    SplitB (decide (s1.1 < t10))
      (CallK Try.prog (.tup (.cons (.int .i64) (.cons .bool .nilT))) 76 #[.pointer p0, .int .i64 s1.1] w fun t17 w =>
      JoinX (α := Bool × Unit) (fun j4 w =>
        SplitB j4.1
          (K false w)
          (k2 (IntKind.i64.wrap (s1.1 + 1), ()) w))
      fun k3 =>
        NilP p0 fun t22 =>
        RunN Try.prog (.int .i64) (V (Instr.loadAt 3 (.pointer (some (t22.add 0))))) w fun t24 w =>
        SplitB (s1.1 != t24)
          (k3 (!t17.2.1, ()) w)
          (k3 (false, ()) w))
      (K true w))
  (0, ()) w
theorem T68.calls {p0 : Option Addr} {w : World} {K : Bool → World → Prop} (h : T68 p0 w K) : CallK Try.prog .bool 68 #[.pointer p0] w K :=
  bodyZ_sound (κ := kappa) (ann := [(3, [(3, (.int .i64))]), (8, [(29, .bool)])]) (fn := Try.f68) Try.func68 rfl (by kernel_rfl) (cast (show T68 p0 w K = bodyZ Try.prog kappa [(3, [(3, (.int .i64))]), (8, [(29, .bool)])] .bool Try.f68 [.pointer p0] w K by kernel_rfl) h)

/-- sluice/sluicelaw11.fill -/
def T69 (p0 : Sl) (p1 : Int) (w : World) (K : Unit → World → Prop) : Prop :=
  LoopX (α := Int × Unit) (fun s1 w k2 =>
    SplitB (decide (s1.1 < (p0.len : Int)))
      (RunN Try.prog .addr (V (Instr.indexAt 66 (.slice p0.a p0.len p0.cap) (.int .i64 s1.1))) w fun t15 w =>
      RunU Try.prog (U (Instr.storeAt 70 (.pointer (some t15)) (.agg #[.int .i64 (-9), .int .i64 p1, .int .i64 0, .int .i64 0, .int .i64 0, .int .i64 0]))) w fun w =>
      k2 (IntKind.i64.wrap (s1.1 + 1), ()) w)
      (K () w))
  (0, ()) w
theorem T69.calls {p0 : Sl} {p1 : Int} {w : World} {K : Unit → World → Prop} (h : T69 p0 p1 w K) : CallK Try.prog (.tup .nilT) 69 #[.slice p0.a p0.len p0.cap, .int .i64 p1] w K :=
  bodyZ_sound (κ := kappa) (ann := [(1, [(4, (.int .i64))])]) (fn := Try.f69) Try.func69 rfl (by kernel_rfl) (cast (show T69 p0 p1 w K = bodyZ Try.prog kappa [(1, [(4, (.int .i64))])] (.tup .nilT) Try.f69 [.slice p0.a p0.len p0.cap, .int .i64 p1] w K by kernel_rfl) h)

/-- (*sluice/sluicelaw11.keep).hold -/
def T70 (p0 : Option Addr) (p1 : Sl) (p2 : Int) (w : World) (K : Unit → World → Prop) : Prop :=
  NilP p0 fun t10 =>
  RunN Try.prog .sl (V (Instr.loadAt 49 (.pointer (some (t10.add 1))))) w fun t12 w =>
  RunN Try.prog .sl (V (Instr.buildSlice 49 1 #[(0, .slice p1.a p1.len p1.cap)])) w fun t14 w =>
  RunN Try.prog .sl (V (Builtin.append_ #[49, 49] 49 #[.slice t12.a t12.len t12.cap, .slice t14.a t14.len t14.cap])) w fun t15 w =>
  NilP p0 fun t16 =>
  RunU Try.prog (U (Instr.storeAt 49 (.pointer (some (t16.add 1))) (.slice t15.a t15.len t15.cap))) w fun w =>
  NilP p0 fun t20 =>
  RunN Try.prog .sl (V (Instr.loadAt 26 (.pointer (some (t20.add 3))))) w fun t22 w =>
  RunN Try.prog .sl (V (Instr.buildSlice 26 1 #[(0, .int .i64 p2)])) w fun t24 w =>
  RunN Try.prog .sl (V (Builtin.append_ #[26, 26] 26 #[.slice t22.a t22.len t22.cap, .slice t24.a t24.len t24.cap])) w fun t25 w =>
  NilP p0 fun t26 =>
  RunU Try.prog (U (Instr.storeAt 26 (.pointer (some (t26.add 3))) (.slice t25.a t25.len t25.cap))) w fun w =>
  LoopX (α := Sl × Int × Unit) (fun s1 w k2 =>
    SplitB (decide (s1.2.1 < 40))
      (JoinX (α := Sl × Unit) (fun j4 w =>
        k2 (j4.1, IntKind.i64.wrap (s1.2.1 + 1), ()) w)
      fun k3 =>
        RunN Try.prog .sl (V (Instr.buildSlice 66 1 #[(0, .agg #[.int .i64 (-9), .int .i64 p2, .int .i64 0, .int .i64 0, .int .i64 0, .int .i64 0])])) w fun t36 w =>
        RunN Try.prog .sl (V (Builtin.append_ #[66, 66] 66 #[.slice s1.1.a s1.1.len s1.1.cap, .slice t36.a t36.len t36.cap])) w fun t37 w =>
        JoinX (α := Bool × Unit) (fun j6 w =>
          SplitB j6.1
            (NilP p0 fun t46 =>
            RunN Try.prog .sl (V (Instr.loadAt 49 (.pointer (some (t46.add 1))))) w fun t48 w =>
            RunN Try.prog .sl (V (Instr.buildSlice 49 1 #[(0, .slice t37.a t37.len t37.cap)])) w fun t50 w =>
            RunN Try.prog .sl (V (Builtin.append_ #[49, 49] 49 #[.slice t48.a t48.len t48.cap, .slice t50.a t50.len t50.cap])) w fun t51 w =>
            NilP p0 fun t52 =>
            RunU Try.prog (U (Instr.storeAt 49 (.pointer (some (t52.add 1))) (.slice t51.a t51.len t51.cap))) w fun w =>
            NilP p0 fun t56 =>
            RunN Try.prog .sl (V (Instr.loadAt 26 (.pointer (some (t56.add 3))))) w fun t58 w =>
            RunN Try.prog .sl (V (Instr.buildSlice 26 1 #[(0, .int .i64 p2)])) w fun t60 w =>
            RunN Try.prog .sl (V (Builtin.append_ #[26, 26] 26 #[.slice t58.a t58.len t58.cap, .slice t60.a t60.len t60.cap])) w fun t61 w =>
            NilP p0 fun t62 =>
            RunU Try.prog (U (Instr.storeAt 26 (.pointer (some (t62.add 3))) (.slice t61.a t61.len t61.cap))) w fun w =>
            k3 (t37, ()) w)
            (k3 (t37, ()) w))
        fun k5 =>
          SplitB (decide (s1.2.1 < 16))
            (k5 (true, ()) w)
            (k5 (s1.2.1 == 39, ()) w))
      (K () w))
  (p1, 0, ()) w
theorem T70.calls {p0 : Option Addr} {p1 : Sl} {p2 : Int} {w : World} {K : Unit → World → Prop} (h : T70 p0 p1 p2 w K) : CallK Try.prog (.tup .nilT) 70 #[.pointer p0, .slice p1.a p1.len p1.cap, .int .i64 p2] w K :=
  bodyZ_sound (κ := kappa) (ann := [(4, [(6, .sl), (7, (.int .i64))]), (7, [(6, .sl)]), (9, [(43, .bool)])]) (fn := Try.f70) Try.func70 rfl (by kernel_rfl) (cast (show T70 p0 p1 p2 w K = bodyZ Try.prog kappa [(4, [(6, .sl), (7, (.int .i64))]), (7, [(6, .sl)]), (9, [(43, .bool)])] (.tup .nilT) Try.f70 [.pointer p0, .slice p1.a p1.len p1.cap, .int .i64 p2] w K by kernel_rfl) h)

/-- sluice/sluicelaw11.sameEpochs -/
def T71 (p0 : Sl) (p1 : Sl) (w : World) (K : Bool → World → Prop) : Prop :=
  SplitB ((p0.len : Int) != (p1.len : Int))
    (K false w)
    (LoopX (α := Int × Unit) (fun s1 w k2 =>
      SplitB (decide (s1.1 < (p0.len : Int)))
        (ReadN Try.prog .addr (V (Instr.indexAt 78 (.slice p0.a p0.len p0.cap) (.int .i64 s1.1))) w.drew fun t19 =>
        ReadN Try.prog (.agg (.cons (.int .i64) (.cons (.int .i64) .nilT))) (V (Instr.loadAt 54 (.pointer (some t19)))) w.drew fun t20 =>
        ReadN Try.prog .addr (V (Instr.indexAt 78 (.slice p1.a p1.len p1.cap) (.int .i64 s1.1))) w.drew fun t23 =>
        ReadN Try.prog (.agg (.cons (.int .i64) (.cons (.int .i64) .nilT))) (V (Instr.loadAt 54 (.pointer (some t23)))) w.drew fun t24 =>
        ReadN Try.prog .bool (V (do eqGuard .neq 54 (.tmp 20) (.tmp 24) (.agg #[.int .i64 t20.1, .int .i64 t20.2.1]) (.agg #[.int .i64 t24.1, .int .i64 t24.2.1]); binOp .neq 54 (.agg #[.int .i64 t20.1, .int .i64 t20.2.1]) (.agg #[.int .i64 t24.1, .int .i64 t24.2.1]))) w.drew fun t25 =>
        SplitB t25
          (K false w.drew)
          (k2 (IntKind.i64.wrap (s1.1 + 1), ()) w.drew))
        (K true w))
    (0, ()) w)
theorem T71.calls {p0 : Sl} {p1 : Sl} {w : World} {K : Bool → World → Prop} (h : T71 p0 p1 w K) : CallK Try.prog .bool 71 #[.slice p0.a p0.len p0.cap, .slice p1.a p1.len p1.cap] w K :=
  bodyZ_sound (κ := kappa) (ann := [(6, [(5, (.int .i64))])]) (fn := Try.f71) Try.func71 rfl (by kernel_rfl) (cast (show T71 p0 p1 w K = bodyZ Try.prog kappa [(6, [(5, (.int .i64))])] .bool Try.f71 [.slice p0.a p0.len p0.cap, .slice p1.a p1.len p1.cap] w K by kernel_rfl) h)

/-- (*sluice/sluicelaw11.keep).putEpochs -/
def T72 (p0 : Option Addr) (p1 : Sl) (w : World) (K : Unit → World → Prop) : Prop :=
  NilP p0 fun t6 =>
  RunN Try.prog .bool (V (Instr.loadAt 4 (.pointer (some (t6.add 0))))) w fun t8 w =>
  SplitB t8
    (NilP p0 fun t11 =>
    RunN Try.prog .sl (V (Instr.loadAt 50 (.pointer (some (t11.add 4))))) w fun t13 w =>
    RunN Try.prog .sl (V (Instr.buildSlice 50 1 #[(0, .slice p1.a p1.len p1.cap)])) w fun t15 w =>
    RunN Try.prog .sl (V (Builtin.append_ #[50, 50] 50 #[.slice t13.a t13.len t13.cap, .slice t15.a t15.len t15.cap])) w fun t16 w =>
    NilP p0 fun t17 =>
    RunU Try.prog (U (Instr.storeAt 50 (.pointer (some (t17.add 4))) (.slice t16.a t16.len t16.cap))) w fun w =>
    NilP p0 fun t21 =>
    ReadN Try.prog .sl (V (Instr.loadAt 50 (.pointer (some (t21.add 5))))) w.drew fun t23 =>
    RunN Try.prog .sl (V (Builtin.append_ #[78, 78] 78 #[.slice none 0 0, .slice p1.a p1.len p1.cap])) w.drew fun t25 w =>
    StillV Try.prog (V (Instr.loadAt 50 (.pointer (some (t21.add 5))))) (.slice t23.a t23.len t23.cap) w ∧
    RunN Try.prog .sl (V (Instr.buildSlice 50 1 #[(0, .slice t25.a t25.len t25.cap)])) w fun t26 w =>
    StillV Try.prog (V (Instr.loadAt 50 (.pointer (some (t21.add 5))))) (.slice t23.a t23.len t23.cap) w ∧
    RunN Try.prog .sl (V (Builtin.append_ #[50, 50] 50 #[.slice t23.a t23.len t23.cap, .slice t26.a t26.len t26.cap])) w fun t27 w =>
    NilP p0 fun t28 =>
    RunU Try.prog (U (Instr.storeAt 50 (.pointer (some (t28.add 5))) (.slice t27.a t27.len t27.cap))) w fun w =>
    K () w)
    (NilP p0 fun t31 =>
    RunN Try.prog .sl (V (Instr.loadAt 26 (.pointer (some (t31.add 6))))) w fun t33 w =>
    CallK Try.prog (.tup .nilT) 74 #[.slice p1.a p1.len p1.cap, .int .i64 (t33.len : Int)] w fun t37 w =>
    CallK Try.prog (.tup .nilT) 75 #[.pointer p0, .slice p1.a p1.len p1.cap, .int .i64 (t33.len : Int)] w fun t41 w =>
    K () w)
theorem T72.calls {p0 : Option Addr} {p1 : Sl} {w : World} {K : Unit → World → Prop} (h : T72 p0 p1 w K) : CallK Try.prog (.tup .nilT) 72 #[.pointer p0, .slice p1.a p1.len p1.cap] w K :=
  bodyZ_sound (κ := kappa) (ann := []) (fn := Try.f72) Try.func72 rfl (by kernel_rfl) (cast (show T72 p0 p1 w K = bodyZ Try.prog kappa [] (.tup .nilT) Try.f72 [.pointer p0, .slice p1.a p1.len p1.cap] w K by kernel_rfl) h)

/-- sluice/sluicelaw11.sameActs -/
def T73 (p0 : Sl) (p1 : Sl) (w : World) (K : Bool → World → Prop) : Prop :=
  SplitB ((p0.len : Int) != (p1.len : Int))
    (K false w)
    (LoopX (α := Int × Unit) (fun s1 w k2 =>
      SplitB (decide (s1.1 < (p0.len : Int)))
        (ReadN Try.prog .addr (V (Instr.indexAt 66 (.slice p0.a p0.len p0.cap) (.int .i64 s1.1))) w.drew fun t19 =>
        ReadN Try.prog (.agg (.cons (.int .i64) (.cons (.int .i64) (.cons (.int .i64) (.cons (.int .i64) (.cons (.int .i64) (.cons (.int .i64) .nilT))))))) (V (Instr.loadAt 70 (.pointer (some t19)))) w.drew fun t20 =>
        ReadN Try.prog .addr (V (Instr.indexAt 66 (.slice p1.a p1.len p1.cap) (.int .i64 s1.1))) w.drew fun t23 =>
        ReadN Try.prog (.agg (.cons (.int .i64) (.cons (.int .i64) (.cons (.int .i64) (.cons (.int .i64) (.cons (.int .i64) (.cons (.int .i64) .nilT))))))) (V (Instr.loadAt 70 (.pointer (some t23)))) w.drew fun t24 =>
        ReadN Try.prog .bool (V (do eqGuard .neq 70 (.tmp 20) (.tmp 24) (.agg #[.int .i64 t20.1, .int .i64 t20.2.1, .int .i64 t20.2.2.1, .int .i64 t20.2.2.2.1, .int .i64 t20.2.2.2.2.1, .int .i64 t20.2.2.2.2.2.1]) (.agg #[.int .i64 t24.1, .int .i64 t24.2.1, .int .i64 t24.2.2.1, .int .i64 t24.2.2.2.1, .int .i64 t24.2.2.2.2.1, .int .i64 t24.2.2.2.2.2.1]); binOp .neq 70 (.agg #[.int .i64 t20.1, .int .i64 t20.2.1, .int .i64 t20.2.2.1, .int .i64 t20.2.2.2.1, .int .i64 t20.2.2.2.2.1, .int .i64 t20.2.2.2.2.2.1]) (.agg #[.int .i64 t24.1, .int .i64 t24.2.1, .int .i64 t24.2.2.1, .int .i64 t24.2.2.2.1, .int .i64 t24.2.2.2.2.1, .int .i64 t24.2.2.2.2.2.1]))) w.drew fun t25 =>
        SplitB t25
          (K false w.drew)
          (k2 (IntKind.i64.wrap (s1.1 + 1), ()) w.drew))
        (K true w))
    (0, ()) w)
theorem T73.calls {p0 : Sl} {p1 : Sl} {w : World} {K : Bool → World → Prop} (h : T73 p0 p1 w K) : CallK Try.prog .bool 73 #[.slice p0.a p0.len p0.cap, .slice p1.a p1.len p1.cap] w K :=
  bodyZ_sound (κ := kappa) (ann := [(6, [(5, (.int .i64))])]) (fn := Try.f73) Try.func73 rfl (by kernel_rfl) (cast (show T73 p0 p1 w K = bodyZ Try.prog kappa [(6, [(5, (.int .i64))])] .bool Try.f73 [.slice p0.a p0.len p0.cap, .slice p1.a p1.len p1.cap] w K by kernel_rfl) h)

/-- sluice/sluicelaw11.fillEpochs -/
def T74 (p0 : Sl) (p1 : Int) (w : World) (K : Unit → World → Prop) : Prop :=
  LoopX (α := Int × Unit) (fun s1 w k2 =>
    SplitB (decide (s1.1 < (p0.len : Int)))
      (RunN Try.prog .addr (V (Instr.indexAt 78 (.slice p0.a p0.len p0.cap) (.int .i64 s1.1))) w fun t15 w =>
      RunU Try.prog (U (Instr.storeAt 54 (.pointer (some t15)) (.agg #[.int .i64 (-9), .int .i64 p1]))) w fun w =>
      k2 (IntKind.i64.wrap (s1.1 + 1), ()) w)
      (K () w))
  (0, ()) w
theorem T74.calls {p0 : Sl} {p1 : Int} {w : World} {K : Unit → World → Prop} (h : T74 p0 p1 w K) : CallK Try.prog (.tup .nilT) 74 #[.slice p0.a p0.len p0.cap, .int .i64 p1] w K :=
  bodyZ_sound (κ := kappa) (ann := [(1, [(4, (.int .i64))])]) (fn := Try.f74) Try.func74 rfl (by kernel_rfl) (cast (show T74 p0 p1 w K = bodyZ Try.prog kappa [(1, [(4, (.int .i64))])] (.tup .nilT) Try.f74 [.slice p0.a p0.len p0.cap, .int .i64 p1] w K by kernel_rfl) h)

/-- (*sluice/sluicelaw11.keep).holdEpochs -/
def T75 (p0 : Option Addr) (p1 : Sl) (p2 : Int) (w : World) (K : Unit → World → Prop) : Prop :=
  NilP p0 fun t10 =>
  RunN Try.prog .sl (V (Instr.loadAt 50 (.pointer (some (t10.add 4))))) w fun t12 w =>
  RunN Try.prog .sl (V (Instr.buildSlice 50 1 #[(0, .slice p1.a p1.len p1.cap)])) w fun t14 w =>
  RunN Try.prog .sl (V (Builtin.append_ #[50, 50] 50 #[.slice t12.a t12.len t12.cap, .slice t14.a t14.len t14.cap])) w fun t15 w =>
  NilP p0 fun t16 =>
  RunU Try.prog (U (Instr.storeAt 50 (.pointer (some (t16.add 4))) (.slice t15.a t15.len t15.cap))) w fun w =>
  NilP p0 fun t20 =>
  RunN Try.prog .sl (V (Instr.loadAt 26 (.pointer (some (t20.add 6))))) w fun t22 w =>
  RunN Try.prog .sl (V (Instr.buildSlice 26 1 #[(0, .int .i64 p2)])) w fun t24 w =>
  RunN Try.prog .sl (V (Builtin.append_ #[26, 26] 26 #[.slice t22.a t22.len t22.cap, .slice t24.a t24.len t24.cap])) w fun t25 w =>
  NilP p0 fun t26 =>
  RunU Try.prog (U (Instr.storeAt 26 (.pointer (some (t26.add 6))) (.slice t25.a t25.len t25.cap))) w fun w =>
  LoopX (α := Sl × Int × Unit) (fun s1 w k2 =>
    SplitB (decide (s1.2.1 < 40))
      (JoinX (α := Sl × Unit) (fun j4 w =>
        k2 (j4.1, IntKind.i64.wrap (s1.2.1 + 1), ()) w)
      fun k3 =>
        RunN Try.prog .sl (V (Instr.buildSlice 78 1 #[(0, .agg #[.int .i64 (-9), .int .i64 p2])])) w fun t36 w =>
        RunN Try.prog .sl (V (Builtin.append_ #[78, 78] 78 #[.slice s1.1.a s1.1.len s1.1.cap, .slice t36.a t36.len t36.cap])) w fun t37 w =>
        JoinX (α := Bool × Unit) (fun j6 w =>
          SplitB j6.1
            (NilP p0 fun t46 =>
            RunN Try.prog .sl (V (Instr.loadAt 50 (.pointer (some (t46.add 4))))) w fun t48 w =>
            RunN Try.prog .sl (V (Instr.buildSlice 50 1 #[(0, .slice t37.a t37.len t37.cap)])) w fun t50 w =>
            RunN Try.prog .sl (V (Builtin.append_ #[50, 50] 50 #[.slice t48.a t48.len t48.cap, .slice t50.a t50.len t50.cap])) w fun t51 w =>
            NilP p0 fun t52 =>
            RunU Try.prog (U (Instr.storeAt 50 (.pointer (some (t52.add 4))) (.slice t51.a t51.len t51.cap))) w fun w =>
            NilP p0 fun t56 =>
            RunN Try.prog .sl (V (Instr.loadAt 26 (.pointer (some (t56.add 6))))) w fun t58 w =>
            RunN Try.prog .sl (V (Instr.buildSlice 26 1 #[(0, .int .i64 p2)])) w fun t60 w =>
            RunN Try.prog .sl (V (Builtin.append_ #[26, 26] 26 #[.slice t58.a t58.len t58.cap, .slice t60.a t60.len t60.cap])) w fun t61 w =>
            NilP p0 fun t62 =>
            RunU Try.prog (U (Instr.storeAt 26 (.pointer (some (t62.add 6))) (.slice t61.a t61.len t61.cap))) w fun w =>
            k3 (t37, ()) w)
            (k3 (t37, ()) w))
        fun k5 =>
          SplitB (decide (s1.2.1 < 16))
            (k5 (true, ()) w)
            (k5 (s1.2.1 == 39, ()) w))
      (K () w))
  (p1, 0, ()) w
theorem T75.calls {p0 : Option Addr} {p1 : Sl} {p2 : Int} {w : World} {K : Unit → World → Prop} (h : T75 p0 p1 p2 w K) : CallK Try.prog (.tup .nilT) 75 #[.pointer p0, .slice p1.a p1.len p1.cap, .int .i64 p2] w K :=
  bodyZ_sound (κ := kappa) (ann := [(4, [(6, .sl), (7, (.int .i64))]), (7, [(6, .sl)]), (9, [(43, .bool)])]) (fn := Try.f75) Try.func75 rfl (by kernel_rfl) (cast (show T75 p0 p1 p2 w K = bodyZ Try.prog kappa [(4, [(6, .sl), (7, (.int .i64))]), (7, [(6, .sl)]), (9, [(43, .bool)])] (.tup .nilT) Try.f75 [.pointer p0, .slice p1.a p1.len p1.cap, .int .i64 p2] w K by kernel_rfl) h)

/-- (*sluice/sluiceref11.Machine).report -/
def T76 (p0 : Option Addr) (p1 : Int) (w : World) (K : (Int × Bool × Unit) → World → Prop) : Prop :=
  CallK Try.prog (.agg (.cons (.int .i64) (.cons (.int .i64) .nilT))) 30 #[.pointer p0] w fun t9 w =>
  RunN Try.prog .addr (V (Instr.alloc 54 true (.tuple #[]))) w fun t6 w =>
  RunU Try.prog (U (Instr.storeAt 54 (.pointer (some t6)) (.agg #[.int .i64 t9.1, .int .i64 t9.2.1]))) w fun w =>
  NilP p0 fun t11 =>
  RunN Try.prog .sl (V (Instr.loadAt 109 (.pointer (some (t11.add 4))))) w fun t13 w =>
  LoopX (α := Int × Unit) (fun s1 w k2 =>
    SplitB (decide (s1.1 ≥ 0))
      (JoinX (α := Bool × Unit) (fun j4 w =>
        SplitB j4.1
          (NilP p0 fun t48 =>
          RunN Try.prog .sl (V (Instr.loadAt 109 (.pointer (some (t48.add 4))))) w fun t50 w =>
          RunN Try.prog .addr (V (Instr.indexAt 109 (.slice t50.a t50.len t50.cap) (.int .i64 s1.1))) w fun t52 w =>
          RunN Try.prog (.int .i64) (V (Instr.loadAt 3 (.pointer (some (t52.add 1))))) w fun t54 w =>
          K (t54, true, ()) w)
          (k2 (IntKind.i64.wrap (s1.1 - 1), ()) w))
      fun k3 =>
        NilP p0 fun t21 =>
        ReadN Try.prog .sl (V (Instr.loadAt 109 (.pointer (some (t21.add 4))))) w.drew fun t23 =>
        ReadN Try.prog .addr (V (Instr.indexAt 109 (.slice t23.a t23.len t23.cap) (.int .i64 s1.1))) w.drew fun t25 =>
        ReadN Try.prog (.int .i64) (V (Instr.loadAt 3 (.pointer (some (t25.add 0))))) w.drew fun t27 =>
        SplitB (t27 == p1)
          (NilP p0 fun t32 =>
          ReadN Try.prog .sl (V (Instr.loadAt 109 (.pointer (some (t32.add 4))))) w.drew fun t34 =>
          ReadN Try.prog .addr (V (Instr.indexAt 109 (.slice t34.a t34.len t34.cap) (.int .i64 s1.1))) w.drew fun t36 =>
          ReadN Try.prog (.agg (.cons (.int .i64) (.cons (.int .i64) .nilT))) (V (Instr.loadAt 54 (.pointer (some (t36.add 2))))) w.drew fun t38 =>
          ReadN Try.prog (.agg (.cons (.int .i64) (.cons (.int .i64) .nilT))) (V (Instr.loadAt 54 (.pointer (some t6)))) w.drew fun t39 =>
          ReadN Try.prog .bool (V (do eqGuard .eql 54 (.tmp 38) (.tmp 39) (.agg #[.int .i64 t38.1, .int .i64 t38.2.1]) (.agg #[.int .i64 t39.1, .int .i64 t39.2.1]); binOp .eql 54 (.agg #[.int .i64 t38.1, .int .i64 t38.2.1]) (.agg #[.int .i64 t39.1, .int .i64 t39.2.1]))) w.drew fun t40 =>
          SplitB t40
            (ReadN Try.prog (.int .i64) (V (Instr.loadAt 3 (.pointer (some (t6.add 0))))) w.drew fun t44 =>
            k3 (decide (t44 > 0), ()) w.drew)
            (k3 (false, ()) w.drew))
          (k3 (false, ()) w.drew))
      (K (0, false, ()) w))
  (IntKind.i64.wrap ((t13.len : Int) - 1), ()) w
theorem T76.calls {p0 : Option Addr} {p1 : Int} {w : World} {K : (Int × Bool × Unit) → World → Prop} (h : T76 p0 p1 w K) : CallK Try.prog (.tup (.cons (.int .i64) (.cons .bool .nilT))) 76 #[.pointer p0, .int .i64 p1] w K :=
  bodyZ_sound (κ := kappa) (ann := [(4, [(7, (.int .i64))]), (8, [(46, .bool)])]) (fn := Try.f76) Try.func76 rfl (by kernel_rfl) (cast (show T76 p0 p1 w K = bodyZ Try.prog kappa [(4, [(7, (.int .i64))]), (8, [(46, .bool)])] (.tup (.cons (.int .i64) (.cons .bool .nilT))) Try.f76 [.pointer p0, .int .i64 p1] w K by kernel_rfl) h)
end Go.Proofs.Ytmfbmfppjdkeeaa
