import Derived.Test.YtaocddmmgefeoaaDoorProg
import Derived.Test.YtaocddmmgefeoaaDoorFwC
namespace Go.Proofs.YtaocddmmgefeoaaDoor
open Go Go.Fw Go.Proofs
set_option maxRecDepth 100000
set_option linter.unusedVariables false
def kappa : List Kd := [(.tup .nilT), .raw, (.int .i64), (.int .i64), .bool, (.int .u8), (.int .u8), (.agg (.cons (.int .i64) (.cons (.int .i64) (.cons .bool (.cons (.int .u8) .nilT))))), (.agg (.cons (.int .i64) (.cons (.int .i64) (.cons .bool (.cons (.int .u8) .nilT))))), .str, .str, .str, (.int .u64), (.agg (.cons .str (.cons (.int .u64) .nilT))), (.agg (.cons .str (.cons (.int .u64) .nilT))), .ptr, .ptr, .ptr, (.agg (.cons .ptr .nilT)), (.agg (.cons .ptr .nilT)), .raw, (.int .i32), .sl, .raw, .ptr, .sl, .sl, (.agg (.cons .sl (.cons .sl (.cons (.int .i64) (.cons .sl (.cons .sl (.cons .sl .nilT))))))), (.agg (.cons .sl (.cons .sl (.cons (.int .i64) (.cons .sl (.cons .sl (.cons .sl .nilT))))))), .raw, .raw, .sl, (.agg (.cons (.int .i64) (.cons (.int .i64) (.cons (.int .u8) (.cons .sl .nilT))))), (.agg (.cons (.int .i64) (.cons (.int .i64) (.cons (.int .u8) (.cons .sl .nilT))))), (.tup (.cons .sl (.cons (.int .i64) .nilT))), .raw, .raw, .raw, (.int .i64), (.tup (.cons .sl (.cons (.int .i64) .nilT))), .raw, .raw, (.tup (.cons .sl (.cons .bool .nilT))), .raw, .raw, .raw, (.agg (.cons (.int .u8) (.cons (.int .u8) (.cons (.int .u8) (.cons (.int .u8) .nilT))))), .raw, .raw, .raw, .raw, (.int .u64), (.int .u32), .raw, (.agg (.cons (.int .u32) (.cons (.int .u32) (.cons (.int .u32) (.cons (.int .u32) (.cons (.int .u32) (.cons (.int .u32) (.cons (.int .u32) (.cons (.int .u32) (.cons (.int .u32) (.cons (.int .u32) (.cons (.int .u32) (.cons (.int .u32) (.cons (.int .u32) (.cons (.int .u32) (.cons (.int .u32) (.cons (.int .u32) .nilT))))))))))))))))), .raw, (.agg (.cons .ptr (.cons .ptr (.cons .ptr (.cons .str .nilT))))), (.agg (.cons .ptr (.cons .ptr (.cons .ptr (.cons .str .nilT))))), (.agg .nilT), (.agg .nilT), (.agg .nilT), .raw, (.int .u8), (.int .u8), .raw, .ptr, (.int .i32), (.int .i32), (.agg (.cons (.int .u64) (.cons (.int .u64) (.cons (.int .u32) (.cons (.int .u8) (.cons (.int .u8) (.cons (.int .u8) (.cons (.int .u8) (.cons .raw (.cons .ptr (.cons (.int .i32) (.cons (.int .i32) .nilT)))))))))))), (.agg (.cons (.int .u64) (.cons (.int .u64) (.cons (.int .u32) (.cons (.int .u8) (.cons (.int .u8) (.cons (.int .u8) (.cons (.int .u8) (.cons .raw (.cons .ptr (.cons (.int .i32) (.cons (.int .i32) .nilT))))))))))))]

/-- sluice/sluicelaw1.FrameSeals -/
def T3 (p0 : Sl) (w : World) (K : Bool → World → Prop) : Prop :=
  SplitB (decide ((p0.len : Int) > 65536))
    (K true w)
    (CallK Tryd.prog .bool 11 #[] w fun t9 w =>
    RunN Tryd.prog .addr (V (Instr.box 28 (.agg #[.slice none 0 0, .slice none 0 0, .int .i64 0, .slice none 0 0, .slice none 0 0, .slice none 0 0]))) w fun t11 w =>
    CallK Tryd.prog .sl 12 #[.slice p0.a p0.len p0.cap] w fun t13 w =>
    SplitB t9
      (CallK Tryd.prog .bool 13 #[.pointer (some t11), .slice p0.a p0.len p0.cap] w fun t18 w =>
      SplitB t18
        (CallK Tryd.prog .bool 13 #[.pointer (some t11), .slice t13.a t13.len t13.cap] w fun t23 w =>
        SplitB t23
          (CallK Tryd.prog .bool 13 #[.pointer (some t11), .slice p0.a p0.len p0.cap] w fun t28 w =>
          SplitB t28
            (CallK Tryd.prog .bool 13 #[.pointer (some t11), .slice p0.a p0.len p0.cap] w fun t33 w =>
            SplitB t33
              (CallK Tryd.prog .bool 14 #[.pointer (some t11)] w fun t37 w =>
              K t37 w)
              (K false w))
            (K false w))
          (K false w))
        (K false w))
      (K false w))
theorem T3.calls {p0 : Sl} {w : World} {K : Bool → World → Prop} (h : T3 p0 w K) : CallK Tryd.prog .bool 3 #[.slice p0.a p0.len p0.cap] w K :=
  bodyX_sound (κ := kappa) (ann := []) (fn := Tryd.f3) Tryd.func3 rfl (by kernel_rfl) (cast (show T3 p0 w K = bodyX Tryd.prog kappa [] .bool Tryd.f3 [.slice p0.a p0.len p0.cap] w K by kernel_rfl) h)

/-- sluice/sluicelaw1.FrameOpens -/
def T4 (p0 : Sl) (w : World) (K : Bool → World → Prop) : Prop :=
  SplitB (decide ((p0.len : Int) > 65536))
    (K true w)
    (CallK Tryd.prog .bool 11 #[] w fun t9 w =>
    RunN Tryd.prog .addr (V (Instr.box 28 (.agg #[.slice none 0 0, .slice none 0 0, .int .i64 0, .slice none 0 0, .slice none 0 0, .slice none 0 0]))) w fun t11 w =>
    CallK Tryd.prog .sl 12 #[.slice p0.a p0.len p0.cap] w fun t13 w =>
    SplitB t9
      (CallK Tryd.prog .bool 15 #[.pointer (some t11), .slice p0.a p0.len p0.cap] w fun t18 w =>
      SplitB t18
        (CallK Tryd.prog .bool 15 #[.pointer (some t11), .slice t13.a t13.len t13.cap] w fun t23 w =>
        SplitB t23
          (CallK Tryd.prog .bool 15 #[.pointer (some t11), .slice p0.a p0.len p0.cap] w fun t28 w =>
          SplitB t28
            (CallK Tryd.prog .bool 15 #[.pointer (some t11), .slice p0.a p0.len p0.cap] w fun t33 w =>
            SplitB t33
              (CallK Tryd.prog .bool 14 #[.pointer (some t11)] w fun t37 w =>
              K t37 w)
              (K false w))
            (K false w))
          (K false w))
        (K false w))
      (K false w))
theorem T4.calls {p0 : Sl} {w : World} {K : Bool → World → Prop} (h : T4 p0 w K) : CallK Tryd.prog .bool 4 #[.slice p0.a p0.len p0.cap] w K :=
  bodyX_sound (κ := kappa) (ann := []) (fn := Tryd.f4) Tryd.func4 rfl (by kernel_rfl) (cast (show T4 p0 w K = bodyX Tryd.prog kappa [] .bool Tryd.f4 [.slice p0.a p0.len p0.cap] w K by kernel_rfl) h)

/-- sluice/sluicelaw1.FrameBack -/
def T6 (p0 : Sl) (w : World) (K : Bool → World → Prop) : Prop :=
  SplitB (decide ((p0.len : Int) > 65536))
    (K true w)
    (CallK Tryd.prog .bool 11 #[] w fun t13 w =>
    SplitB (!t13)
      (K false w)
      (SplitB (decide ((p0.len : Int) > 4096))
        (CallK Tryd.prog (.tup (.cons .sl (.cons (.int .i64) .nilT))) 18 #[.slice p0.a p0.len p0.cap] w fun t21 w =>
        CallK Tryd.prog (.int .i64) 19 #[.int .i64 t21.2.1] w fun t25 w =>
        SplitB (t25 == 2)
          (K ((t21.1.len : Int) == 0) w)
          (K false w))
        (CallK Tryd.prog (.tup (.cons .sl (.cons .bool .nilT))) 20 #[.slice p0.a p0.len p0.cap] w fun t34 w =>
        CallK Tryd.prog (.tup (.cons .sl (.cons (.int .i64) .nilT))) 21 #[.slice t34.1.a t34.1.len t34.1.cap] w fun t39 w =>
        SplitB t34.2.1
          (CallK Tryd.prog (.int .i64) 19 #[.int .i64 t39.2.1] w fun t45 w =>
          SplitB (t45 == 0)
            (CallK Tryd.prog .bool 22 #[.slice t39.1.a t39.1.len t39.1.cap, .slice p0.a p0.len p0.cap] w fun t51 w =>
            K t51 w)
            (K false w))
          (K false w))))
theorem T6.calls {p0 : Sl} {w : World} {K : Bool → World → Prop} (h : T6 p0 w K) : CallK Tryd.prog .bool 6 #[.slice p0.a p0.len p0.cap] w K :=
  bodyX_sound (κ := kappa) (ann := []) (fn := Tryd.f6) Tryd.func6 rfl (by kernel_rfl) (cast (show T6 p0 w K = bodyX Tryd.prog kappa [] .bool Tryd.f6 [.slice p0.a p0.len p0.cap] w K by kernel_rfl) h)

/-- sluice/sluicelaw1.FrameForm -/
def T7 (p0 : Sl) (w : World) (K : Bool → World → Prop) : Prop :=
  SplitB (decide ((p0.len : Int) > 65536))
    (K true w)
    (CallK Tryd.prog .bool 11 #[] w fun t11 w =>
    RunN Tryd.prog .sl (V (Builtin.append_ #[22, 22] 22 #[.slice none 0 0, .slice p0.a p0.len p0.cap])) w fun t14 w =>
    CallK Tryd.prog (.tup (.cons .sl (.cons (.int .i64) .nilT))) 21 #[.slice t14.a t14.len t14.cap] w fun t15 w =>
    JoinX (α := Bool × Unit) (fun j2 w =>
      SplitB j2.1
        (SplitB t11
          (SplitB ((t15.1.len : Int) == 0)
            (CallK Tryd.prog (.int .i64) 19 #[.int .i64 t15.2.1] w fun t33 w =>
            SplitB (t33 == 10)
              (K true w)
              (CallK Tryd.prog (.int .i64) 19 #[.int .i64 t15.2.1] w fun t37 w =>
              SplitB (t37 == 11)
                (K true w)
                (CallK Tryd.prog (.int .i64) 19 #[.int .i64 t15.2.1] w fun t42 w =>
                K (t42 == 12) w)))
            (K false w))
          (K false w))
        (CallK Tryd.prog (.tup (.cons .sl (.cons .bool .nilT))) 20 #[.slice t15.1.a t15.1.len t15.1.cap] w fun t48 w =>
        SplitB t48.2.1
          (CallK Tryd.prog .bool 22 #[.slice t48.1.a t48.1.len t48.1.cap, .slice p0.a p0.len p0.cap] w fun t55 w =>
          K t55 w)
          (K false w)))
    fun k1 =>
      SplitB (!t11)
        (k1 (true, ()) w)
        (CallK Tryd.prog (.int .i64) 19 #[.int .i64 t15.2.1] w fun t22 w =>
        k1 (t22 != 0, ()) w))
theorem T7.calls {p0 : Sl} {w : World} {K : Bool → World → Prop} (h : T7 p0 w K) : CallK Tryd.prog .bool 7 #[.slice p0.a p0.len p0.cap] w K :=
  bodyX_sound (κ := kappa) (ann := [(7, [(24, .bool)])]) (fn := Tryd.f7) Tryd.func7 rfl (by kernel_rfl) (cast (show T7 p0 w K = bodyX Tryd.prog kappa [(7, [(24, .bool)])] .bool Tryd.f7 [.slice p0.a p0.len p0.cap] w K by kernel_rfl) h)

/-- sluice/sluicelaw1.FrameByte -/
def T8 (p0 : Sl) (p1 : Int) (p2 : Int) (w : World) (K : Bool → World → Prop) : Prop :=
  SplitB (decide ((p0.len : Int) > 4096))
    (K true w)
    (CallK Tryd.prog .bool 11 #[] w fun t16 w =>
    CallK Tryd.prog (.tup (.cons .sl (.cons .bool .nilT))) 20 #[.slice p0.a p0.len p0.cap] w fun t19 w =>
    JoinX (α := Bool × Unit) (fun j2 w =>
      SplitB j2.1
        (K false w)
        (CallK Tryd.prog (.int .i64) 17 #[.int .i64 p1, .int .i64 (t19.1.len : Int)] w fun t31 w =>
        RunN Tryd.prog .addr (V (Instr.indexAt 22 (.slice t19.1.a t19.1.len t19.1.cap) (.int .i64 t31))) w fun t36 w =>
        RunN Tryd.prog (.int .u8) (V (Instr.loadAt 5 (.pointer (some t36)))) w fun t37 w =>
        RunN Tryd.prog .addr (V (Instr.indexAt 22 (.slice t19.1.a t19.1.len t19.1.cap) (.int .i64 t31))) w fun t40 w =>
        RunU Tryd.prog (U (Instr.storeAt 5 (.pointer (some t40)) (.int .u8 (IntKind.u8.wrap (t37 + p2))))) w fun w =>
        CallK Tryd.prog (.tup (.cons .sl (.cons (.int .i64) .nilT))) 21 #[.slice t19.1.a t19.1.len t19.1.cap] w fun t43 w =>
        SplitB (p2 == 0)
          (CallK Tryd.prog (.int .i64) 19 #[.int .i64 t43.2.1] w fun t49 w =>
          SplitB (t49 == 0)
            (CallK Tryd.prog .bool 22 #[.slice t43.1.a t43.1.len t43.1.cap, .slice p0.a p0.len p0.cap] w fun t54 w =>
            K t54 w)
            (K false w))
          (CallK Tryd.prog (.int .i64) 19 #[.int .i64 t43.2.1] w fun t57 w =>
          SplitB (t57 != 0)
            (K ((t43.1.len : Int) == 0) w)
            (K false w))))
    fun k1 =>
      SplitB (!t16)
        (k1 (true, ()) w)
        (k1 (!t19.2.1, ()) w))
theorem T8.calls {p0 : Sl} {p1 : Int} {p2 : Int} {w : World} {K : Bool → World → Prop} (h : T8 p0 p1 p2 w K) : CallK Tryd.prog .bool 8 #[.slice p0.a p0.len p0.cap, .int .i64 p1, .int .u8 p2] w K :=
  bodyX_sound (κ := kappa) (ann := [(7, [(27, .bool)])]) (fn := Tryd.f8) Tryd.func8 rfl (by kernel_rfl) (cast (show T8 p0 p1 p2 w K = bodyX Tryd.prog kappa [(7, [(27, .bool)])] .bool Tryd.f8 [.slice p0.a p0.len p0.cap, .int .i64 p1, .int .u8 p2] w K by kernel_rfl) h)

/-- sluice/sluicelaw1.FrameBurst -/
def T9 (p0 : Sl) (p1 : Int) (p2 : (Int × Int × Int × Int × Unit)) (w : World) (K : Bool → World → Prop) : Prop :=
  RunN Tryd.prog .addr (V (Instr.box 46 (.agg #[.int .u8 p2.1, .int .u8 p2.2.1, .int .u8 p2.2.2.1, .int .u8 p2.2.2.2.1]))) w fun t5 w =>
  SplitB (decide ((p0.len : Int) > 4096))
    (K true w)
    (CallK Tryd.prog .bool 11 #[] w fun t18 w =>
    CallK Tryd.prog (.tup (.cons .sl (.cons .bool .nilT))) 20 #[.slice p0.a p0.len p0.cap] w fun t21 w =>
    JoinX (α := Bool × Unit) (fun j2 w =>
      SplitB j2.1
        (K false w)
        (CallK Tryd.prog (.int .i64) 17 #[.int .i64 p1, .int .i64 (IntKind.i64.wrap ((t21.1.len : Int) - 3))] w fun t34 w =>
        LoopX (α := Bool × Int × Unit) (fun s3 w k4 =>
          JoinX (α := Bool × Unit) (fun j6 w =>
            SplitB j6.1
              (JoinX (α := Bool × Unit) (fun j8 w =>
                k4 (j8.1, IntKind.i64.wrap (s3.2.1 + 1), ()) w)
              fun k7 =>
                ReadN Tryd.prog .addr (V (Instr.indexAt 22 (.slice t21.1.a t21.1.len t21.1.cap) (.int .i64 (IntKind.i64.wrap ((IntKind.i64.wrap (3 + t34)) + s3.2.1))))) w.drew fun t56 =>
                ReadN Tryd.prog (.int .u8) (V (Instr.loadAt 5 (.pointer (some t56)))) w.drew fun t57 =>
                ReadN Tryd.prog .addr (V (Instr.indexAt 46 (.pointer (some t5)) (.int .i64 s3.2.1))) w.drew fun t59 =>
                ReadN Tryd.prog (.int .u8) (V (Instr.loadAt 5 (.pointer (some t59)))) w.drew fun t60 =>
                ReadN Tryd.prog .addr (V (Instr.indexAt 22 (.slice t21.1.a t21.1.len t21.1.cap) (.int .i64 (IntKind.i64.wrap ((IntKind.i64.wrap (3 + t34)) + s3.2.1))))) w.drew fun t62 =>
                RunU Tryd.prog (U (Instr.storeAt 5 (.pointer (some t62)) (.int .u8 (bitXor .u8 t57 t60)))) w.drew fun w9 =>
                SplitB s3.1
                  (k7 (true, ()) w9)
                  (RunN Tryd.prog .addr (V (Instr.indexAt 46 (.pointer (some t5)) (.int .i64 s3.2.1))) w9 fun t66 w =>
                  RunN Tryd.prog (.int .u8) (V (Instr.loadAt 5 (.pointer (some t66)))) w fun t67 w =>
                  k7 (t67 != 0, ()) w))
              (CallK Tryd.prog (.tup (.cons .sl (.cons (.int .i64) .nilT))) 21 #[.slice t21.1.a t21.1.len t21.1.cap] w fun t72 w =>
              SplitB (!s3.1)
                (CallK Tryd.prog (.int .i64) 19 #[.int .i64 t72.2.1] w fun t78 w =>
                SplitB (t78 == 0)
                  (CallK Tryd.prog .bool 22 #[.slice t72.1.a t72.1.len t72.1.cap, .slice p0.a p0.len p0.cap] w fun t83 w =>
                  K t83 w)
                  (K false w))
                (CallK Tryd.prog (.int .i64) 19 #[.int .i64 t72.2.1] w fun t86 w =>
                SplitB (t86 == 12)
                  (K ((t72.1.len : Int) == 0) w)
                  (K false w))))
          fun k5 =>
            SplitB (decide (s3.2.1 < 4))
              (k5 (decide ((IntKind.i64.wrap ((IntKind.i64.wrap (3 + t34)) + s3.2.1)) < (t21.1.len : Int)), ()) w)
              (k5 (false, ()) w))
        (false, 0, ()) w))
    fun k1 =>
      SplitB (!t18)
        (k1 (true, ()) w)
        (k1 (!t21.2.1, ()) w))
theorem T9.calls {p0 : Sl} {p1 : Int} {p2 : (Int × Int × Int × Int × Unit)} {w : World} {K : Bool → World → Prop} (h : T9 p0 p1 p2 w K) : CallK Tryd.prog .bool 9 #[.slice p0.a p0.len p0.cap, .int .i64 p1, .agg #[.int .u8 p2.1, .int .u8 p2.2.1, .int .u8 p2.2.2.1, .int .u8 p2.2.2.2.1]] w K :=
  bodyX_sound (κ := kappa) (ann := [(7, [(29, .bool)]), (13, [(11, .bool), (12, (.int .i64))]), (15, [(45, .bool)]), (16, [(11, .bool)])]) (fn := Tryd.f9) Tryd.func9 rfl (by kernel_rfl) (cast (show T9 p0 p1 p2 w K = bodyX Tryd.prog kappa [(7, [(29, .bool)]), (13, [(11, .bool), (12, (.int .i64))]), (15, [(45, .bool)]), (16, [(11, .bool)])] .bool Tryd.f9 [.slice p0.a p0.len p0.cap, .int .i64 p1, .agg #[.int .u8 p2.1, .int .u8 p2.2.1, .int .u8 p2.2.2.1, .int .u8 p2.2.2.2.1]] w K by kernel_rfl) h)

/-- sluice/sluicelaw1.FrameEnds -/
def T10 (p0 : Sl) (p1 : Int) (p2 : Sl) (w : World) (K : Bool → World → Prop) : Prop :=
  JoinX (α := Bool × Unit) (fun j2 w =>
    SplitB j2.1
      (K true w)
      (CallK Tryd.prog .bool 11 #[] w fun t22 w =>
      CallK Tryd.prog (.tup (.cons .sl (.cons .bool .nilT))) 20 #[.slice p0.a p0.len p0.cap] w fun t25 w =>
      JoinX (α := Bool × Unit) (fun j4 w =>
        SplitB j4.1
          (K false w)
          (CallK Tryd.prog (.int .i64) 17 #[.int .i64 p1, .int .i64 (t25.1.len : Int)] w fun t39 w =>
          RunN Tryd.prog .sl (V (Instr.sliceAt 22 (.slice t25.1.a t25.1.len t25.1.cap) none (some (.int .i64 t39)) none)) w fun t40 w =>
          CallK Tryd.prog (.tup (.cons .sl (.cons (.int .i64) .nilT))) 21 #[.slice t40.a t40.len t40.cap] w fun t41 w =>
          RunN Tryd.prog .sl (V (Builtin.append_ #[22, 22] 22 #[.slice none 0 0, .slice t25.1.a t25.1.len t25.1.cap])) w fun t46 w =>
          RunN Tryd.prog .sl (V (Builtin.append_ #[22, 22] 22 #[.slice t46.a t46.len t46.cap, .slice p2.a p2.len p2.cap])) w fun t48 w =>
          CallK Tryd.prog (.tup (.cons .sl (.cons (.int .i64) .nilT))) 21 #[.slice t48.a t48.len t48.cap] w fun t49 w =>
          JoinX (α := Bool × Unit) (fun j6 w =>
            SplitB j6.1
              (K false w)
              (SplitB ((p2.len : Int) == 0)
                (CallK Tryd.prog (.int .i64) 19 #[.int .i64 t49.2.1] w fun t64 w =>
                SplitB (t64 == 0)
                  (CallK Tryd.prog .bool 22 #[.slice t49.1.a t49.1.len t49.1.cap, .slice p0.a p0.len p0.cap] w fun t69 w =>
                  K t69 w)
                  (K false w))
                (CallK Tryd.prog (.int .i64) 19 #[.int .i64 t49.2.1] w fun t72 w =>
                SplitB (t72 == 10)
                  (K ((t49.1.len : Int) == 0) w)
                  (K false w))))
          fun k5 =>
            CallK Tryd.prog (.int .i64) 19 #[.int .i64 t41.2.1] w fun t53 w =>
            SplitB (t53 != 10)
              (k5 (true, ()) w)
              (k5 ((t41.1.len : Int) != 0, ()) w)))
      fun k3 =>
        SplitB (!t22)
          (k3 (true, ()) w)
          (k3 (!t25.2.1, ()) w)))
  fun k1 =>
    SplitB (decide ((p0.len : Int) > 4096))
      (k1 (true, ()) w)
      (k1 (decide ((p2.len : Int) > 4096), ()) w)
theorem T10.calls {p0 : Sl} {p1 : Int} {p2 : Sl} {w : World} {K : Bool → World → Prop} (h : T10 p0 p1 p2 w K) : CallK Tryd.prog .bool 10 #[.slice p0.a p0.len p0.cap, .int .i64 p1, .slice p2.a p2.len p2.cap] w K :=
  bodyX_sound (κ := kappa) (ann := [(2, [(21, .bool)]), (7, [(33, .bool)]), (12, [(59, .bool)])]) (fn := Tryd.f10) Tryd.func10 rfl (by kernel_rfl) (cast (show T10 p0 p1 p2 w K = bodyX Tryd.prog kappa [(2, [(21, .bool)]), (7, [(33, .bool)]), (12, [(59, .bool)])] .bool Tryd.f10 [.slice p0.a p0.len p0.cap, .int .i64 p1, .slice p2.a p2.len p2.cap] w K by kernel_rfl) h)

/-- sluice/sluicelaw1.alive -/
def T11  (w : World) (K : Bool → World → Prop) : Prop :=
  RunN Tryd.prog .sl (V (Instr.buildSlice 22 3 #[(0, .int .u8 97), (1, .int .u8 98), (2, .int .u8 99)])) w fun t8 w =>
  RunN Tryd.prog .sl (V (convert 22 22 (.slice t8.a t8.len t8.cap))) w fun t9 w =>
  CallK Tryd.prog (.tup (.cons .sl (.cons (.int .i64) .nilT))) 18 #[.slice t9.a t9.len t9.cap] w fun t10 w =>
  RunN Tryd.prog .sl (V (Instr.buildSlice 22 7 #[(0, .int .u8 1), (1, .int .u8 0), (2, .int .u8 0), (3, .int .u8 37), (4, .int .u8 179), (5, .int .u8 131), (6, .int .u8 254)])) w fun t14 w =>
  CallK Tryd.prog (.tup (.cons .sl (.cons (.int .i64) .nilT))) 21 #[.slice t14.a t14.len t14.cap] w fun t15 w =>
  RunN Tryd.prog .sl (V (Instr.buildSlice 22 7 #[(0, .int .u8 1), (1, .int .u8 0), (2, .int .u8 0), (3, .int .u8 37), (4, .int .u8 179), (5, .int .u8 131), (6, .int .u8 255)])) w fun t19 w =>
  CallK Tryd.prog (.tup (.cons .sl (.cons (.int .i64) .nilT))) 21 #[.slice t19.a t19.len t19.cap] w fun t20 w =>
  CallK Tryd.prog (.int .i64) 19 #[.int .i64 t10.2.1] w fun t24 w =>
  SplitB (t24 == 0)
    (RunN Tryd.prog .sl (V (Instr.buildSlice 22 10 #[(0, .int .u8 1), (1, .int .u8 3), (2, .int .u8 0), (3, .int .u8 97), (4, .int .u8 98), (5, .int .u8 99), (6, .int .u8 6), (7, .int .u8 144), (8, .int .u8 91), (9, .int .u8 247)])) w fun t28 w =>
    CallK Tryd.prog .bool 22 #[.slice t10.1.a t10.1.len t10.1.cap, .slice t28.a t28.len t28.cap] w fun t29 w =>
    SplitB t29
      (CallK Tryd.prog (.int .i64) 19 #[.int .i64 t15.2.1] w fun t33 w =>
      SplitB (t33 == 0)
        (SplitB ((t15.1.len : Int) == 0)
          (CallK Tryd.prog (.int .i64) 19 #[.int .i64 t20.2.1] w fun t43 w =>
          K (t43 == 12) w)
          (K false w))
        (K false w))
      (K false w))
    (K false w)
theorem T11.calls  {w : World} {K : Bool → World → Prop} (h : T11  w K) : CallK Tryd.prog .bool 11 #[] w K :=
  bodyX_sound (κ := kappa) (ann := []) (fn := Tryd.f11) Tryd.func11 rfl (by kernel_rfl) (cast (show T11  w K = bodyX Tryd.prog kappa [] .bool Tryd.f11 [] w K by kernel_rfl) h)

/-- sluice/sluicelaw1.turned -/
def T12 (p0 : Sl) (w : World) (K : Sl → World → Prop) : Prop :=
  RunN Tryd.prog .sl (V (Builtin.append_ #[22, 22] 22 #[.slice none 0 0, .slice p0.a p0.len p0.cap])) w fun t5 w =>
  SplitB (decide ((t5.len : Int) > 0))
    (RunN Tryd.prog .addr (V (Instr.indexAt 22 (.slice t5.a t5.len t5.cap) (.int .i64 (IntKind.i64.wrap (Int.tdiv (t5.len : Int) 2))))) w fun t17 w =>
    RunN Tryd.prog (.int .u8) (V (Instr.loadAt 5 (.pointer (some t17)))) w fun t18 w =>
    RunN Tryd.prog .addr (V (Instr.indexAt 22 (.slice t5.a t5.len t5.cap) (.int .i64 (IntKind.i64.wrap (Int.tdiv (t5.len : Int) 2))))) w fun t20 w =>
    RunU Tryd.prog (U (Instr.storeAt 5 (.pointer (some t20)) (.int .u8 (bitXor .u8 t18 1)))) w fun w =>
    K t5 w)
    (K t5 w)
theorem T12.calls {p0 : Sl} {w : World} {K : Sl → World → Prop} (h : T12 p0 w K) : CallK Tryd.prog .sl 12 #[.slice p0.a p0.len p0.cap] w K :=
  bodyX_sound (κ := kappa) (ann := []) (fn := Tryd.f12) Tryd.func12 rfl (by kernel_rfl) (cast (show T12 p0 w K = bodyX Tryd.prog kappa [] .sl Tryd.f12 [.slice p0.a p0.len p0.cap] w K by kernel_rfl) h)

/-- (*sluice/sluicelaw1.shelf).seals -/
def T13 (p0 : Option Addr) (p1 : Sl) (w : World) (K : Bool → World → Prop) : Prop :=
  CallK Tryd.prog .sl 23 #[.pointer p0, .slice p1.a p1.len p1.cap] w fun t13 w =>
  RunN Tryd.prog .sl (V (Instr.sliceAt 22 (.slice t13.a t13.len t13.cap) none (some (.int .i64 (p1.len : Int))) none)) w fun t18 w =>
  CallK Tryd.prog (.tup (.cons .sl (.cons (.int .i64) .nilT))) 18 #[.slice t18.a t18.len t18.cap] w fun t19 w =>
  CallK Tryd.prog (.tup (.cons .sl (.cons (.int .i64) .nilT))) 16 #[.slice p1.a p1.len p1.cap] w fun t24 w =>
  JoinX (α := Bool × Unit) (fun j2 w =>
    CallK Tryd.prog (.tup .nilT) 26 #[.pointer p0, .slice t19.1.a t19.1.len t19.1.cap] w fun t52 w =>
    SplitB j2.1
      (CallK Tryd.prog .bool 25 #[.pointer p0] w fun t56 w =>
      K t56 w)
      (K false w))
  fun k1 =>
    CallK Tryd.prog (.int .i64) 19 #[.int .i64 t19.2.1] w fun t28 w =>
    SplitB (t28 == t24.2.1)
      (CallK Tryd.prog .bool 22 #[.slice t19.1.a t19.1.len t19.1.cap, .slice t24.1.a t24.1.len t24.1.cap] w fun t34 w =>
      SplitB t34
        (CallK Tryd.prog .bool 24 #[.slice t13.a t13.len t13.cap, .slice p1.a p1.len p1.cap] w fun t39 w =>
        SplitB t39
          (CallK Tryd.prog .bool 22 #[.slice t19.1.a t19.1.len t19.1.cap, .slice t24.1.a t24.1.len t24.1.cap] w fun t44 w =>
          SplitB t44
            (CallK Tryd.prog .bool 25 #[.pointer p0] w fun t48 w =>
            k1 (t48, ()) w)
            (k1 (false, ()) w))
          (k1 (false, ()) w))
        (k1 (false, ()) w))
      (k1 (false, ()) w)
theorem T13.calls {p0 : Option Addr} {p1 : Sl} {w : World} {K : Bool → World → Prop} (h : T13 p0 p1 w K) : CallK Tryd.prog .bool 13 #[.pointer p0, .slice p1.a p1.len p1.cap] w K :=
  bodyX_sound (κ := kappa) (ann := [(4, [(10, .bool)])]) (fn := Tryd.f13) Tryd.func13 rfl (by kernel_rfl) (cast (show T13 p0 p1 w K = bodyX Tryd.prog kappa [(4, [(10, .bool)])] .bool Tryd.f13 [.pointer p0, .slice p1.a p1.len p1.cap] w K by kernel_rfl) h)

/-- (*sluice/sluicelaw1.shelf).apart -/
def T14 (p0 : Option Addr) (w : World) (K : Bool → World → Prop) : Prop :=
  LoopX (α := Int × Unit) (fun s1 w k2 =>
    NilP p0 fun t15 =>
    RunN Tryd.prog .sl (V (Instr.loadAt 25 (.pointer (some (t15.add 4))))) w fun t17 w =>
    SplitB (decide (s1.1 < (t17.len : Int)))
      (NilP p0 fun t23 =>
      ReadN Tryd.prog .sl (V (Instr.loadAt 25 (.pointer (some (t23.add 4))))) w.drew fun t25 =>
      ReadN Tryd.prog .addr (V (Instr.indexAt 25 (.slice t25.a t25.len t25.cap) (.int .i64 s1.1))) w.drew fun t27 =>
      ReadN Tryd.prog .sl (V (Instr.loadAt 22 (.pointer (some t27)))) w.drew fun t28 =>
      ReadN Tryd.prog .str (V (convert 22 9 (.slice t28.a t28.len t28.cap))) w.drew fun t29 =>
      NilP p0 fun t31 =>
      ReadN Tryd.prog .sl (V (Instr.loadAt 26 (.pointer (some (t31.add 5))))) w.drew fun t33 =>
      ReadN Tryd.prog .addr (V (Instr.indexAt 26 (.slice t33.a t33.len t33.cap) (.int .i64 s1.1))) w.drew fun t35 =>
      ReadN Tryd.prog .str (V (Instr.loadAt 9 (.pointer (some t35)))) w.drew fun t36 =>
      SplitB (!(t29.toList == t36.toList))
        (K false w.drew)
        (k2 (IntKind.i64.wrap (s1.1 + 1), ()) w.drew))
      (LoopX (α := Int × Unit) (fun s3 w k4 =>
        NilP p0 fun t40 =>
        RunN Tryd.prog .sl (V (Instr.loadAt 25 (.pointer (some (t40.add 4))))) w fun t42 w =>
        SplitB (decide (s3.1 < (t42.len : Int)))
          (LoopX (α := Int × Unit) (fun s5 w k6 =>
            NilP p0 fun t49 =>
            RunN Tryd.prog .sl (V (Instr.loadAt 25 (.pointer (some (t49.add 4))))) w fun t51 w =>
            RunN Tryd.prog .addr (V (Instr.indexAt 25 (.slice t51.a t51.len t51.cap) (.int .i64 s3.1))) w fun t53 w =>
            RunN Tryd.prog .sl (V (Instr.loadAt 22 (.pointer (some t53)))) w fun t54 w =>
            SplitB (decide (s5.1 < (t54.len : Int)))
              (NilP p0 fun t60 =>
              RunN Tryd.prog .sl (V (Instr.loadAt 25 (.pointer (some (t60.add 4))))) w fun t62 w =>
              RunN Tryd.prog .addr (V (Instr.indexAt 25 (.slice t62.a t62.len t62.cap) (.int .i64 s3.1))) w fun t64 w =>
              RunN Tryd.prog .sl (V (Instr.loadAt 22 (.pointer (some t64)))) w fun t65 w =>
              RunN Tryd.prog .addr (V (Instr.indexAt 22 (.slice t65.a t65.len t65.cap) (.int .i64 s5.1))) w fun t70 w =>
              RunU Tryd.prog (U (Instr.storeAt 5 (.pointer (some t70)) (.int .u8 (IntKind.u8.wrap (IntKind.i64.wrap (s3.1 + 1)))))) w fun w =>
              k6 (IntKind.i64.wrap (s5.1 + 1), ()) w)
              (k4 (IntKind.i64.wrap (s3.1 + 1), ()) w))
          (0, ()) w)
          (LoopX (α := Sl × Int × Unit) (fun s7 w k8 =>
            NilP p0 fun t73 =>
            RunN Tryd.prog .sl (V (Instr.loadAt 25 (.pointer (some (t73.add 4))))) w fun t75 w =>
            SplitB (decide (s7.2.1 < (t75.len : Int)))
              (NilP p0 fun t81 =>
              RunN Tryd.prog .sl (V (Instr.loadAt 25 (.pointer (some (t81.add 4))))) w fun t83 w =>
              RunN Tryd.prog .addr (V (Instr.indexAt 25 (.slice t83.a t83.len t83.cap) (.int .i64 s7.2.1))) w fun t85 w =>
              RunN Tryd.prog .sl (V (Instr.loadAt 22 (.pointer (some t85)))) w fun t86 w =>
              LoopX (α := Sl × Int × Unit) (fun s9 w k10 =>
                SplitB (decide (s9.2.1 < 100))
                  (RunN Tryd.prog .sl (V (Instr.buildSlice 22 1 #[(0, .int .u8 (IntKind.u8.wrap (IntKind.i64.wrap (s7.2.1 + 130))))])) w fun t95 w =>
                  RunN Tryd.prog .sl (V (Builtin.append_ #[22, 22] 22 #[.slice s9.1.a s9.1.len s9.1.cap, .slice t95.a t95.len t95.cap])) w fun t96 w =>
                  k10 (t96, IntKind.i64.wrap (s9.2.1 + 1), ()) w)
                  (RunN Tryd.prog .sl (V (Instr.buildSlice 25 1 #[(0, .slice s9.1.a s9.1.len s9.1.cap)])) w fun t99 w =>
                  RunN Tryd.prog .sl (V (Builtin.append_ #[25, 25] 25 #[.slice s7.1.a s7.1.len s7.1.cap, .slice t99.a t99.len t99.cap])) w fun t100 w =>
                  k8 (t100, IntKind.i64.wrap (s7.2.1 + 1), ()) w))
              (t86, 0, ()) w)
              (LoopX (α := Int × Unit) (fun s11 w k12 =>
                SplitB (decide (s11.1 < (s7.1.len : Int)))
                  (LoopX (α := Int × Unit) (fun s13 w k14 =>
                    RunN Tryd.prog .addr (V (Instr.indexAt 25 (.slice s7.1.a s7.1.len s7.1.cap) (.int .i64 s11.1))) w fun t110 w =>
                    RunN Tryd.prog .sl (V (Instr.loadAt 22 (.pointer (some t110)))) w fun t111 w =>
                    SplitB (decide (s13.1 < (t111.len : Int)))
                      (NilP p0 fun t117 =>
                      RunN Tryd.prog .sl (V (Instr.loadAt 25 (.pointer (some (t117.add 4))))) w fun t119 w =>
                      RunN Tryd.prog .addr (V (Instr.indexAt 25 (.slice t119.a t119.len t119.cap) (.int .i64 s11.1))) w fun t121 w =>
                      RunN Tryd.prog .sl (V (Instr.loadAt 22 (.pointer (some t121)))) w fun t122 w =>
                      JoinX (α := Bool × Unit) (fun j16 w =>
                        SplitB j16.1
                          (K false w)
                          (k14 (IntKind.i64.wrap (s13.1 + 1), ()) w))
                      fun k15 =>
                        SplitB (decide (s13.1 < (t122.len : Int)))
                          (NilP p0 fun t129 =>
                          RunN Tryd.prog .sl (V (Instr.loadAt 25 (.pointer (some (t129.add 4))))) w fun t131 w =>
                          RunN Tryd.prog .addr (V (Instr.indexAt 25 (.slice t131.a t131.len t131.cap) (.int .i64 s11.1))) w fun t133 w =>
                          RunN Tryd.prog .sl (V (Instr.loadAt 22 (.pointer (some t133)))) w fun t134 w =>
                          RunN Tryd.prog .addr (V (Instr.indexAt 22 (.slice t134.a t134.len t134.cap) (.int .i64 s13.1))) w fun t136 w =>
                          RunN Tryd.prog (.int .u8) (V (Instr.loadAt 5 (.pointer (some t136)))) w fun t137 w =>
                          SplitB (t137 != (IntKind.u8.wrap (IntKind.i64.wrap (s11.1 + 1))))
                            (k15 (true, ()) w)
                            (RunN Tryd.prog .addr (V (Instr.indexAt 25 (.slice s7.1.a s7.1.len s7.1.cap) (.int .i64 s11.1))) w fun t145 w =>
                            RunN Tryd.prog .sl (V (Instr.loadAt 22 (.pointer (some t145)))) w fun t146 w =>
                            RunN Tryd.prog .addr (V (Instr.indexAt 22 (.slice t146.a t146.len t146.cap) (.int .i64 s13.1))) w fun t148 w =>
                            RunN Tryd.prog (.int .u8) (V (Instr.loadAt 5 (.pointer (some t148)))) w fun t149 w =>
                            SplitB (t149 != (IntKind.u8.wrap (IntKind.i64.wrap (s11.1 + 1))))
                              (k15 (true, ()) w)
                              (SplitB (decide (s13.1 ≥ (t122.len : Int)))
                                (RunN Tryd.prog .addr (V (Instr.indexAt 25 (.slice s7.1.a s7.1.len s7.1.cap) (.int .i64 s11.1))) w fun t163 w =>
                                RunN Tryd.prog .sl (V (Instr.loadAt 22 (.pointer (some t163)))) w fun t164 w =>
                                RunN Tryd.prog .addr (V (Instr.indexAt 22 (.slice t164.a t164.len t164.cap) (.int .i64 s13.1))) w fun t166 w =>
                                RunN Tryd.prog (.int .u8) (V (Instr.loadAt 5 (.pointer (some t166)))) w fun t167 w =>
                                k15 (t167 != (IntKind.u8.wrap (IntKind.i64.wrap (s11.1 + 130))), ()) w)
                                (k15 (false, ()) w))))
                          (SplitB (decide (s13.1 ≥ (t122.len : Int)))
                            (RunN Tryd.prog .addr (V (Instr.indexAt 25 (.slice s7.1.a s7.1.len s7.1.cap) (.int .i64 s11.1))) w fun t163 w =>
                            RunN Tryd.prog .sl (V (Instr.loadAt 22 (.pointer (some t163)))) w fun t164 w =>
                            RunN Tryd.prog .addr (V (Instr.indexAt 22 (.slice t164.a t164.len t164.cap) (.int .i64 s13.1))) w fun t166 w =>
                            RunN Tryd.prog (.int .u8) (V (Instr.loadAt 5 (.pointer (some t166)))) w fun t167 w =>
                            k15 (t167 != (IntKind.u8.wrap (IntKind.i64.wrap (s11.1 + 130))), ()) w)
                            (k15 (false, ()) w)))
                      (k12 (IntKind.i64.wrap (s11.1 + 1), ()) w))
                  (0, ()) w)
                  (K true w))
              (0, ()) w))
          ((⟨none, 0, 0⟩ : Sl), 0, ()) w))
      (0, ()) w))
  (0, ()) w
theorem T14.calls {p0 : Option Addr} {w : World} {K : Bool → World → Prop} (h : T14 p0 w K) : CallK Tryd.prog .bool 14 #[.pointer p0] w K :=
  bodyX_sound (κ := kappa) (ann := [(3, [(3, (.int .i64))]), (11, [(4, (.int .i64))]), (16, [(5, (.int .i64))]), (23, [(6, .sl), (7, (.int .i64))]), (30, [(8, .sl), (9, (.int .i64))]), (36, [(10, (.int .i64))]), (41, [(11, (.int .i64))]), (46, [(173, .bool)])]) (fn := Tryd.f14) Tryd.func14 rfl (by kernel_rfl) (cast (show T14 p0 w K = bodyX Tryd.prog kappa [(3, [(3, (.int .i64))]), (11, [(4, (.int .i64))]), (16, [(5, (.int .i64))]), (23, [(6, .sl), (7, (.int .i64))]), (30, [(8, .sl), (9, (.int .i64))]), (36, [(10, (.int .i64))]), (41, [(11, (.int .i64))]), (46, [(173, .bool)])] .bool Tryd.f14 [.pointer p0] w K by kernel_rfl) h)

/-- (*sluice/sluicelaw1.shelf).opens -/
def T15 (p0 : Option Addr) (p1 : Sl) (w : World) (K : Bool → World → Prop) : Prop :=
  CallK Tryd.prog .sl 23 #[.pointer p0, .slice p1.a p1.len p1.cap] w fun t13 w =>
  RunN Tryd.prog .sl (V (Instr.sliceAt 22 (.slice t13.a t13.len t13.cap) none (some (.int .i64 (p1.len : Int))) none)) w fun t18 w =>
  CallK Tryd.prog (.tup (.cons .sl (.cons (.int .i64) .nilT))) 21 #[.slice t18.a t18.len t18.cap] w fun t19 w =>
  CallK Tryd.prog (.tup (.cons .sl (.cons (.int .i64) .nilT))) 27 #[.slice p1.a p1.len p1.cap] w fun t24 w =>
  JoinX (α := Bool × Unit) (fun j2 w =>
    CallK Tryd.prog (.tup .nilT) 26 #[.pointer p0, .slice t19.1.a t19.1.len t19.1.cap] w fun t52 w =>
    SplitB j2.1
      (CallK Tryd.prog .bool 25 #[.pointer p0] w fun t56 w =>
      K t56 w)
      (K false w))
  fun k1 =>
    CallK Tryd.prog (.int .i64) 19 #[.int .i64 t19.2.1] w fun t28 w =>
    SplitB (t28 == t24.2.1)
      (CallK Tryd.prog .bool 22 #[.slice t19.1.a t19.1.len t19.1.cap, .slice t24.1.a t24.1.len t24.1.cap] w fun t34 w =>
      SplitB t34
        (CallK Tryd.prog .bool 24 #[.slice t13.a t13.len t13.cap, .slice p1.a p1.len p1.cap] w fun t39 w =>
        SplitB t39
          (CallK Tryd.prog .bool 22 #[.slice t19.1.a t19.1.len t19.1.cap, .slice t24.1.a t24.1.len t24.1.cap] w fun t44 w =>
          SplitB t44
            (CallK Tryd.prog .bool 25 #[.pointer p0] w fun t48 w =>
            k1 (t48, ()) w)
            (k1 (false, ()) w))
          (k1 (false, ()) w))
        (k1 (false, ()) w))
      (k1 (false, ()) w)
theorem T15.calls {p0 : Option Addr} {p1 : Sl} {w : World} {K : Bool → World → Prop} (h : T15 p0 p1 w K) : CallK Tryd.prog .bool 15 #[.pointer p0, .slice p1.a p1.len p1.cap] w K :=
  bodyX_sound (κ := kappa) (ann := [(4, [(10, .bool)])]) (fn := Tryd.f15) Tryd.func15 rfl (by kernel_rfl) (cast (show T15 p0 p1 w K = bodyX Tryd.prog kappa [(4, [(10, .bool)])] .bool Tryd.f15 [.pointer p0, .slice p1.a p1.len p1.cap] w K by kernel_rfl) h)

/-- sluice/sluiceref1.Seal -/
def T16 (p0 : Sl) (w : World) (K : (Sl × Int × Unit) → World → Prop) : Prop :=
  SplitB (decide ((p0.len : Int) > 4096))
    (K ((⟨none, 0, 0⟩ : Sl), 2, ()) w)
    (RunN Tryd.prog .sl (V (Instr.buildSlice 22 3 #[(0, .int .u8 1), (1, .int .u8 (IntKind.u8.wrap (Int.tmod (p0.len : Int) 256))), (2, .int .u8 (IntKind.u8.wrap (IntKind.i64.wrap (Int.tdiv (p0.len : Int) 256))))])) w fun t19 w =>
    LoopX (α := Sl × Int × Unit) (fun s1 w k2 =>
      SplitB (decide (s1.2.1 < (p0.len : Int)))
        (RunN Tryd.prog .addr (V (Instr.indexAt 22 (.slice p0.a p0.len p0.cap) (.int .i64 s1.2.1))) w fun t28 w =>
        RunN Tryd.prog (.int .u8) (V (Instr.loadAt 5 (.pointer (some t28)))) w fun t29 w =>
        RunN Tryd.prog .sl (V (Instr.buildSlice 22 1 #[(0, .int .u8 t29)])) w fun t30 w =>
        RunN Tryd.prog .sl (V (Builtin.append_ #[22, 22] 22 #[.slice s1.1.a s1.1.len s1.1.cap, .slice t30.a t30.len t30.cap])) w fun t31 w =>
        k2 (t31, IntKind.i64.wrap (s1.2.1 + 1), ()) w)
        (CallK Tryd.prog (.int .i64) 28 #[.slice s1.1.a s1.1.len s1.1.cap] w fun t33 w =>
        LoopX (α := Sl × Int × Int × Unit) (fun s3 w k4 =>
          SplitB (decide (s3.2.2.1 < 4))
            (RunN Tryd.prog .sl (V (Instr.buildSlice 22 1 #[(0, .int .u8 (IntKind.u8.wrap (Int.tmod s3.2.1 256)))])) w fun t42 w =>
            RunN Tryd.prog .sl (V (Builtin.append_ #[22, 22] 22 #[.slice s3.1.a s3.1.len s3.1.cap, .slice t42.a t42.len t42.cap])) w fun t43 w =>
            k4 (t43, IntKind.i64.wrap (Int.tdiv s3.2.1 256), IntKind.i64.wrap (s3.2.2.1 + 1), ()) w)
            (K (s3.1, 0, ()) w))
        (s1.1, t33, 0, ()) w))
    (t19, 0, ()) w)
theorem T16.calls {p0 : Sl} {w : World} {K : (Sl × Int × Unit) → World → Prop} (h : T16 p0 w K) : CallK Tryd.prog (.tup (.cons .sl (.cons (.int .i64) .nilT))) 16 #[.slice p0.a p0.len p0.cap] w K :=
  bodyX_sound (κ := kappa) (ann := [(8, [(5, .sl), (6, (.int .i64))]), (15, [(5, .sl), (7, (.int .i64)), (8, (.int .i64))])]) (fn := Tryd.f16) Tryd.func16 rfl (by kernel_rfl) (cast (show T16 p0 w K = bodyX Tryd.prog kappa [(8, [(5, .sl), (6, (.int .i64))]), (15, [(5, .sl), (7, (.int .i64)), (8, (.int .i64))])] (.tup (.cons .sl (.cons (.int .i64) .nilT))) Tryd.f16 [.slice p0.a p0.len p0.cap] w K by kernel_rfl) h)

/-- sluice/sluicelaw1.slot -/
def T17 (p0 : Int) (p1 : Int) (w : World) (K : Int → World → Prop) : Prop :=
  RunN Tryd.prog (.int .i64) (V (binOp .rem 3 (.int .i64 p0) (.int .i64 p1))) w fun t7 w =>
  SplitB (decide (t7 < 0))
    (K (IntKind.i64.wrap (t7 + p1)) w)
    (K t7 w)
theorem T17.calls {p0 : Int} {p1 : Int} {w : World} {K : Int → World → Prop} (h : T17 p0 p1 w K) : CallK Tryd.prog (.int .i64) 17 #[.int .i64 p0, .int .i64 p1] w K :=
  bodyX_sound (κ := kappa) (ann := []) (fn := Tryd.f17) Tryd.func17 rfl (by kernel_rfl) (cast (show T17 p0 p1 w K = bodyX Tryd.prog kappa [] (.int .i64) Tryd.f17 [.int .i64 p0, .int .i64 p1] w K by kernel_rfl) h)

/-- sluice/frame.Seal -/
def T18 (p0 : Sl) (w : World) (K : (Sl × Int × Unit) → World → Prop) : Prop :=
  SplitB (decide ((p0.len : Int) > 4096))
    (K ((⟨none, 0, 0⟩ : Sl), 2, ()) w)
    (RunN Tryd.prog .sl (V (Instr.makeSlice 22 (.int .i64 0) (.int .i64 (IntKind.i64.wrap ((p0.len : Int) + 7))))) w fun t12 w =>
    RunN Tryd.prog .sl (V (Instr.buildSlice 22 3 #[(0, .int .u8 1), (1, .int .u8 (IntKind.u8.wrap (p0.len : Int))), (2, .int .u8 (IntKind.u8.wrap (Int.fdiv (p0.len : Int) (2 ^ 8))))])) w fun t18 w =>
    RunN Tryd.prog .sl (V (Builtin.append_ #[22, 22] 22 #[.slice t12.a t12.len t12.cap, .slice t18.a t18.len t18.cap])) w fun t19 w =>
    RunN Tryd.prog .sl (V (Builtin.append_ #[22, 22] 22 #[.slice t19.a t19.len t19.cap, .slice p0.a p0.len p0.cap])) w fun t22 w =>
    CallK Tryd.prog .sl 29 #[.slice t22.a t22.len t22.cap] w fun t23 w =>
    K (t23, 0, ()) w)
theorem T18.calls {p0 : Sl} {w : World} {K : (Sl × Int × Unit) → World → Prop} (h : T18 p0 w K) : CallK Tryd.prog (.tup (.cons .sl (.cons (.int .i64) .nilT))) 18 #[.slice p0.a p0.len p0.cap] w K :=
  bodyX_sound (κ := kappa) (ann := []) (fn := Tryd.f18) Tryd.func18 rfl (by kernel_rfl) (cast (show T18 p0 w K = bodyX Tryd.prog kappa [] (.tup (.cons .sl (.cons (.int .i64) .nilT))) Tryd.f18 [.slice p0.a p0.len p0.cap] w K by kernel_rfl) h)

/-- sluice/sluicelaw1.num -/
def T19 (p0 : Int) (w : World) (K : Int → World → Prop) : Prop :=
  K p0 w
theorem T19.calls {p0 : Int} {w : World} {K : Int → World → Prop} (h : T19 p0 w K) : CallK Tryd.prog (.int .i64) 19 #[.int .i64 p0] w K :=
  bodyX_sound (κ := kappa) (ann := []) (fn := Tryd.f19) Tryd.func19 rfl (by kernel_rfl) (cast (show T19 p0 w K = bodyX Tryd.prog kappa [] (.int .i64) Tryd.f19 [.int .i64 p0] w K by kernel_rfl) h)

/-- sluice/sluicelaw1.sealed -/
def T20 (p0 : Sl) (w : World) (K : (Sl × Bool × Unit) → World → Prop) : Prop :=
  RunN Tryd.prog .sl (V (Builtin.append_ #[22, 22] 22 #[.slice none 0 0, .slice p0.a p0.len p0.cap])) w fun t8 w =>
  CallK Tryd.prog (.tup (.cons .sl (.cons (.int .i64) .nilT))) 18 #[.slice t8.a t8.len t8.cap] w fun t9 w =>
  CallK Tryd.prog (.int .i64) 19 #[.int .i64 t9.2.1] w fun t14 w =>
  SplitB (t14 == 0)
    (K (t9.1, (t9.1.len : Int) == (IntKind.i64.wrap ((p0.len : Int) + 7)), ()) w)
    (K (t9.1, false, ()) w)
theorem T20.calls {p0 : Sl} {w : World} {K : (Sl × Bool × Unit) → World → Prop} (h : T20 p0 w K) : CallK Tryd.prog (.tup (.cons .sl (.cons .bool .nilT))) 20 #[.slice p0.a p0.len p0.cap] w K :=
  bodyX_sound (κ := kappa) (ann := []) (fn := Tryd.f20) Tryd.func20 rfl (by kernel_rfl) (cast (show T20 p0 w K = bodyX Tryd.prog kappa [] (.tup (.cons .sl (.cons .bool .nilT))) Tryd.f20 [.slice p0.a p0.len p0.cap] w K by kernel_rfl) h)

/-- sluice/frame.Open -/
def T21 (p0 : Sl) (w : World) (K : (Sl × Int × Unit) → World → Prop) : Prop :=
  SplitB (decide ((p0.len : Int) < 7))
    (K ((⟨none, 0, 0⟩ : Sl), 10, ()) w)
    (RunN Tryd.prog .addr (V (Instr.indexAt 22 (.slice p0.a p0.len p0.cap) (.int .i64 0))) w fun t15 w =>
    RunN Tryd.prog (.int .u8) (V (Instr.loadAt 5 (.pointer (some t15)))) w fun t16 w =>
    SplitB (t16 != 1)
      (K ((⟨none, 0, 0⟩ : Sl), 11, ()) w)
      (ReadN Tryd.prog .addr (V (Instr.indexAt 22 (.slice p0.a p0.len p0.cap) (.int .i64 1))) w.drew fun t19 =>
      ReadN Tryd.prog (.int .u8) (V (Instr.loadAt 5 (.pointer (some t19)))) w.drew fun t20 =>
      ReadN Tryd.prog .addr (V (Instr.indexAt 22 (.slice p0.a p0.len p0.cap) (.int .i64 2))) w.drew fun t23 =>
      ReadN Tryd.prog (.int .u8) (V (Instr.loadAt 5 (.pointer (some t23)))) w.drew fun t24 =>
      JoinX (α := Bool × Unit) (fun j2 w =>
        SplitB j2.1
          (K ((⟨none, 0, 0⟩ : Sl), 10, ()) w)
          (RunN Tryd.prog .sl (V (Instr.sliceAt 22 (.slice p0.a p0.len p0.cap) none (some (.int .i64 (IntKind.i64.wrap (3 + (bitOr .i64 (IntKind.i64.wrap t20) (IntKind.i64.wrap ((IntKind.i64.wrap t24) * 2 ^ 8))))))) none)) w fun t40 w =>
          CallK Tryd.prog (.int .u32) 30 #[.slice t40.a t40.len t40.cap] w fun t41 w =>
          RunN Tryd.prog .sl (V (Instr.sliceAt 22 (.slice p0.a p0.len p0.cap) (some (.int .i64 (IntKind.i64.wrap (3 + (bitOr .i64 (IntKind.i64.wrap t20) (IntKind.i64.wrap ((IntKind.i64.wrap t24) * 2 ^ 8))))))) none none)) w fun t45 w =>
          LoopX (α := Int × Unit) (fun s3 w k4 =>
            SplitB (decide (s3.1 < (t45.len : Int)))
              (RunN Tryd.prog .addr (V (Instr.indexAt 22 (.slice t45.a t45.len t45.cap) (.int .i64 s3.1))) w fun t50 w =>
              RunN Tryd.prog (.int .u8) (V (Instr.loadAt 5 (.pointer (some t50)))) w fun t51 w =>
              RunN Tryd.prog (.int .u32) (V (binOp .shr 52 (.int .u32 t41) (.int .i64 (IntKind.i64.wrap (8 * s3.1))))) w fun t56 w =>
              SplitB (t51 != (IntKind.u8.wrap t56))
                (K ((⟨none, 0, 0⟩ : Sl), 12, ()) w)
                (k4 (IntKind.i64.wrap (s3.1 + 1), ()) w))
              (RunN Tryd.prog .sl (V (Instr.sliceAt 22 (.slice p0.a p0.len p0.cap) (some (.int .i64 3)) (some (.int .i64 (IntKind.i64.wrap (3 + (bitOr .i64 (IntKind.i64.wrap t20) (IntKind.i64.wrap ((IntKind.i64.wrap t24) * 2 ^ 8))))))) (some (.int .i64 (IntKind.i64.wrap (3 + (bitOr .i64 (IntKind.i64.wrap t20) (IntKind.i64.wrap ((IntKind.i64.wrap t24) * 2 ^ 8))))))))) w fun t65 w =>
              RunN Tryd.prog .sl (V (Instr.makeSlice 22 (.int .i64 0) (.int .i64 (bitOr .i64 (IntKind.i64.wrap t20) (IntKind.i64.wrap ((IntKind.i64.wrap t24) * 2 ^ 8)))))) w fun t67 w =>
              RunN Tryd.prog .sl (V (Builtin.append_ #[22, 22] 22 #[.slice t67.a t67.len t67.cap, .slice t65.a t65.len t65.cap])) w fun t69 w =>
              K (t69, 0, ()) w))
          (0, ()) w))
      fun k1 =>
        SplitB (decide ((bitOr .i64 (IntKind.i64.wrap t20) (IntKind.i64.wrap ((IntKind.i64.wrap t24) * 2 ^ 8))) > 4096))
          (k1 (true, ()) w.drew)
          (k1 ((bitOr .i64 (IntKind.i64.wrap t20) (IntKind.i64.wrap ((IntKind.i64.wrap t24) * 2 ^ 8))) != (IntKind.i64.wrap ((p0.len : Int) - 7)), ()) w.drew)))
theorem T21.calls {p0 : Sl} {w : World} {K : (Sl × Int × Unit) → World → Prop} (h : T21 p0 w K) : CallK Tryd.prog (.tup (.cons .sl (.cons (.int .i64) .nilT))) 21 #[.slice p0.a p0.len p0.cap] w K :=
  bodyX_sound (κ := kappa) (ann := [(8, [(36, .bool)]), (13, [(47, (.int .i64))])]) (fn := Tryd.f21) Tryd.func21 rfl (by kernel_rfl) (cast (show T21 p0 w K = bodyX Tryd.prog kappa [(8, [(36, .bool)]), (13, [(47, (.int .i64))])] (.tup (.cons .sl (.cons (.int .i64) .nilT))) Tryd.f21 [.slice p0.a p0.len p0.cap] w K by kernel_rfl) h)

/-- sluice/sluicelaw1.same -/
def T22 (p0 : Sl) (p1 : Sl) (w : World) (K : Bool → World → Prop) : Prop :=
  RunN Tryd.prog .str (V (convert 22 9 (.slice p0.a p0.len p0.cap))) w fun t6 w =>
  RunN Tryd.prog .str (V (convert 22 9 (.slice p1.a p1.len p1.cap))) w fun t8 w =>
  K (t6.toList == t8.toList) w
theorem T22.calls {p0 : Sl} {p1 : Sl} {w : World} {K : Bool → World → Prop} (h : T22 p0 p1 w K) : CallK Tryd.prog .bool 22 #[.slice p0.a p0.len p0.cap, .slice p1.a p1.len p1.cap] w K :=
  bodyX_sound (κ := kappa) (ann := []) (fn := Tryd.f22) Tryd.func22 rfl (by kernel_rfl) (cast (show T22 p0 p1 w K = bodyX Tryd.prog kappa [] .bool Tryd.f22 [.slice p0.a p0.len p0.cap, .slice p1.a p1.len p1.cap] w K by kernel_rfl) h)

/-- (*sluice/sluicelaw1.shelf).lend -/
def T23 (p0 : Option Addr) (p1 : Sl) (w : World) (K : Sl → World → Prop) : Prop :=
  NilP p0 fun t8 =>
  RunN Tryd.prog .sl (V (Instr.loadAt 22 (.pointer (some (t8.add 3))))) w fun t10 w =>
  JoinX (α := Sl × Unit) (fun j2 w =>
    RunN Tryd.prog (.int .i64) (V (Builtin.copy_ #[22, 22] 3 #[.slice j2.1.a j2.1.len j2.1.cap, .slice p1.a p1.len p1.cap])) w fun t23 w =>
    LoopX (α := Int × Unit) (fun s3 w k4 =>
      SplitB (decide (s3.1 < 40))
        (RunN Tryd.prog .addr (V (Instr.indexAt 22 (.slice j2.1.a j2.1.len j2.1.cap) (.int .i64 (IntKind.i64.wrap ((p1.len : Int) + s3.1))))) w fun t36 w =>
        RunU Tryd.prog (U (Instr.storeAt 5 (.pointer (some t36)) (.int .u8 (IntKind.u8.wrap (IntKind.i64.wrap (167 + s3.1)))))) w fun w =>
        k4 (IntKind.i64.wrap (s3.1 + 1), ()) w)
        (NilP p0 fun t39 =>
        RunU Tryd.prog (U (Instr.storeAt 22 (.pointer (some (t39.add 3))) (.slice j2.1.a j2.1.len j2.1.cap))) w fun w =>
        K j2.1 w))
    (0, ()) w)
  fun k1 =>
    SplitB ((t10.len : Int) != (IntKind.i64.wrap ((p1.len : Int) + 40)))
      (RunN Tryd.prog .sl (V (Instr.makeSlice 22 (.int .i64 (IntKind.i64.wrap ((p1.len : Int) + 40))) (.int .i64 (IntKind.i64.wrap ((p1.len : Int) + 40))))) w fun t20 w =>
      k1 (t20, ()) w)
      (k1 (t10, ()) w)
theorem T23.calls {p0 : Option Addr} {p1 : Sl} {w : World} {K : Sl → World → Prop} (h : T23 p0 p1 w K) : CallK Tryd.prog .sl 23 #[.pointer p0, .slice p1.a p1.len p1.cap] w K :=
  bodyX_sound (κ := kappa) (ann := [(2, [(5, .sl)]), (7, [(6, (.int .i64))])]) (fn := Tryd.f23) Tryd.func23 rfl (by kernel_rfl) (cast (show T23 p0 p1 w K = bodyX Tryd.prog kappa [(2, [(5, .sl)]), (7, [(6, (.int .i64))])] .sl Tryd.f23 [.pointer p0, .slice p1.a p1.len p1.cap] w K by kernel_rfl) h)

/-- sluice/sluicelaw1.kept -/
def T24 (p0 : Sl) (p1 : Sl) (w : World) (K : Bool → World → Prop) : Prop :=
  JoinX (α := Bool × Unit) (fun j2 w =>
    LoopX (α := Bool × Int × Unit) (fun s3 w k4 =>
      SplitB (decide (s3.2.1 < (p0.len : Int)))
        (JoinX (α := Bool × Unit) (fun j6 w =>
          k4 (j6.1, IntKind.i64.wrap (s3.2.1 + 1), ()) w)
        fun k5 =>
          SplitB s3.1
            (RunN Tryd.prog .addr (V (Instr.indexAt 22 (.slice p0.a p0.len p0.cap) (.int .i64 s3.2.1))) w fun t34 w =>
            RunN Tryd.prog (.int .u8) (V (Instr.loadAt 5 (.pointer (some t34)))) w fun t35 w =>
            k5 (t35 == (IntKind.u8.wrap (IntKind.i64.wrap ((IntKind.i64.wrap (167 + s3.2.1)) - (p1.len : Int)))), ()) w)
            (k5 (false, ()) w))
        (LoopX (α := Int × Unit) (fun s7 w k8 =>
          SplitB (decide (s7.1 < (p0.len : Int)))
            (RunN Tryd.prog .addr (V (Instr.indexAt 22 (.slice p0.a p0.len p0.cap) (.int .i64 s7.1))) w fun t54 w =>
            RunU Tryd.prog (U (Instr.storeAt 5 (.pointer (some t54)) (.int .u8 (IntKind.u8.wrap (IntKind.i64.wrap (91 + s7.1)))))) w fun w =>
            k8 (IntKind.i64.wrap (s7.1 + 1), ()) w)
            (K s3.1 w))
        (0, ()) w))
    (j2.1, (p1.len : Int), ()) w)
  fun k1 =>
    SplitB ((p0.len : Int) == (IntKind.i64.wrap ((p1.len : Int) + 40)))
      (RunN Tryd.prog .sl (V (Instr.sliceAt 22 (.slice p0.a p0.len p0.cap) none (some (.int .i64 (p1.len : Int))) none)) w fun t19 w =>
      CallK Tryd.prog .bool 22 #[.slice t19.a t19.len t19.cap, .slice p1.a p1.len p1.cap] w fun t21 w =>
      k1 (t21, ()) w)
      (k1 (false, ()) w)
theorem T24.calls {p0 : Sl} {p1 : Sl} {w : World} {K : Bool → World → Prop} (h : T24 p0 p1 w K) : CallK Tryd.prog .bool 24 #[.slice p0.a p0.len p0.cap, .slice p1.a p1.len p1.cap] w K :=
  bodyX_sound (κ := kappa) (ann := [(2, [(6, .bool)]), (5, [(6, .bool), (7, (.int .i64))]), (8, [(6, .bool)]), (11, [(8, (.int .i64))])]) (fn := Tryd.f24) Tryd.func24 rfl (by kernel_rfl) (cast (show T24 p0 p1 w K = bodyX Tryd.prog kappa [(2, [(6, .bool)]), (5, [(6, .bool), (7, (.int .i64))]), (8, [(6, .bool)]), (11, [(8, (.int .i64))])] .bool Tryd.f24 [.slice p0.a p0.len p0.cap, .slice p1.a p1.len p1.cap] w K by kernel_rfl) h)

/-- (*sluice/sluicelaw1.shelf).stands -/
def T25 (p0 : Option Addr) (w : World) (K : Bool → World → Prop) : Prop :=
  LoopX (α := Int × Unit) (fun s1 w k2 =>
    NilP p0 fun t6 =>
    RunN Tryd.prog .sl (V (Instr.loadAt 25 (.pointer (some (t6.add 0))))) w fun t8 w =>
    SplitB (decide (s1.1 < (t8.len : Int)))
      (NilP p0 fun t14 =>
      ReadN Tryd.prog .sl (V (Instr.loadAt 25 (.pointer (some (t14.add 0))))) w.drew fun t16 =>
      ReadN Tryd.prog .addr (V (Instr.indexAt 25 (.slice t16.a t16.len t16.cap) (.int .i64 s1.1))) w.drew fun t18 =>
      ReadN Tryd.prog .sl (V (Instr.loadAt 22 (.pointer (some t18)))) w.drew fun t19 =>
      ReadN Tryd.prog .str (V (convert 22 9 (.slice t19.a t19.len t19.cap))) w.drew fun t20 =>
      NilP p0 fun t22 =>
      ReadN Tryd.prog .sl (V (Instr.loadAt 26 (.pointer (some (t22.add 1))))) w.drew fun t24 =>
      ReadN Tryd.prog .addr (V (Instr.indexAt 26 (.slice t24.a t24.len t24.cap) (.int .i64 s1.1))) w.drew fun t26 =>
      ReadN Tryd.prog .str (V (Instr.loadAt 9 (.pointer (some t26)))) w.drew fun t27 =>
      SplitB (!(t20.toList == t27.toList))
        (K false w.drew)
        (k2 (IntKind.i64.wrap (s1.1 + 1), ()) w.drew))
      (K true w))
  (0, ()) w
theorem T25.calls {p0 : Option Addr} {w : World} {K : Bool → World → Prop} (h : T25 p0 w K) : CallK Tryd.prog .bool 25 #[.pointer p0] w K :=
  bodyX_sound (κ := kappa) (ann := [(3, [(3, (.int .i64))])]) (fn := Tryd.f25) Tryd.func25 rfl (by kernel_rfl) (cast (show T25 p0 w K = bodyX Tryd.prog kappa [(3, [(3, (.int .i64))])] .bool Tryd.f25 [.pointer p0] w K by kernel_rfl) h)

/-- (*sluice/sluicelaw1.shelf).keep -/
def T26 (p0 : Option Addr) (p1 : Sl) (w : World) (K : Unit → World → Prop) : Prop :=
  NilP p0 fun t8 =>
  RunN Tryd.prog (.int .i64) (V (Instr.loadAt 3 (.pointer (some (t8.add 2))))) w fun t10 w =>
  NilP p0 fun t12 =>
  RunU Tryd.prog (U (Instr.storeAt 3 (.pointer (some (t12.add 2))) (.int .i64 (IntKind.i64.wrap (t10 + 1))))) w fun w =>
  NilP p0 fun t15 =>
  RunN Tryd.prog (.int .i64) (V (Instr.loadAt 3 (.pointer (some (t15.add 2))))) w fun t17 w =>
  SplitB ((Int.tmod t17 3) != 0)
    (NilP p0 fun t22 =>
    RunN Tryd.prog .sl (V (Instr.loadAt 25 (.pointer (some (t22.add 4))))) w fun t24 w =>
    RunN Tryd.prog .sl (V (Instr.buildSlice 25 1 #[(0, .slice p1.a p1.len p1.cap)])) w fun t26 w =>
    RunN Tryd.prog .sl (V (Builtin.append_ #[25, 25] 25 #[.slice t24.a t24.len t24.cap, .slice t26.a t26.len t26.cap])) w fun t27 w =>
    NilP p0 fun t28 =>
    RunU Tryd.prog (U (Instr.storeAt 25 (.pointer (some (t28.add 4))) (.slice t27.a t27.len t27.cap))) w fun w =>
    NilP p0 fun t32 =>
    ReadN Tryd.prog .sl (V (Instr.loadAt 26 (.pointer (some (t32.add 5))))) w.drew fun t34 =>
    ReadN Tryd.prog .str (V (convert 22 9 (.slice p1.a p1.len p1.cap))) w.drew fun t36 =>
    RunN Tryd.prog .sl (V (Instr.buildSlice 26 1 #[(0, .string t36)])) w.drew fun t37 w1 =>
    StillV Tryd.prog (V (Instr.loadAt 26 (.pointer (some (t32.add 5))))) (.slice t34.a t34.len t34.cap) w1 ∧
    RunN Tryd.prog .sl (V (Builtin.append_ #[26, 26] 26 #[.slice t34.a t34.len t34.cap, .slice t37.a t37.len t37.cap])) w1 fun t38 w2 =>
    NilP p0 fun t39 =>
    RunU Tryd.prog (U (Instr.storeAt 26 (.pointer (some (t39.add 5))) (.slice t38.a t38.len t38.cap))) w2 fun w3 =>
    K () w3)
    (LoopX (α := Int × Unit) (fun s4 w k5 =>
      SplitB (decide (s4.1 < (p1.len : Int)))
        (NilP p0 fun t50 =>
        RunN Tryd.prog (.int .i64) (V (Instr.loadAt 3 (.pointer (some (t50.add 2))))) w fun t52 w =>
        RunN Tryd.prog .addr (V (Instr.indexAt 22 (.slice p1.a p1.len p1.cap) (.int .i64 s4.1))) w fun t57 w =>
        RunU Tryd.prog (U (Instr.storeAt 5 (.pointer (some t57)) (.int .u8 (IntKind.u8.wrap (IntKind.i64.wrap ((IntKind.i64.wrap (37 * t52)) + s4.1)))))) w fun w =>
        k5 (IntKind.i64.wrap (s4.1 + 1), ()) w)
        (LoopX (α := Sl × Int × Unit) (fun s6 w k7 =>
          SplitB (decide (s6.2.1 < 80))
            (NilP p0 fun t65 =>
            RunN Tryd.prog (.int .i64) (V (Instr.loadAt 3 (.pointer (some (t65.add 2))))) w fun t67 w =>
            RunN Tryd.prog .sl (V (Instr.buildSlice 22 1 #[(0, .int .u8 (IntKind.u8.wrap (IntKind.i64.wrap ((IntKind.i64.wrap (200 + t67)) + s6.2.1))))])) w fun t72 w =>
            RunN Tryd.prog .sl (V (Builtin.append_ #[22, 22] 22 #[.slice s6.1.a s6.1.len s6.1.cap, .slice t72.a t72.len t72.cap])) w fun t73 w =>
            k7 (t73, IntKind.i64.wrap (s6.2.1 + 1), ()) w)
            (NilP p0 fun t76 =>
            RunN Tryd.prog .sl (V (Instr.loadAt 25 (.pointer (some (t76.add 0))))) w fun t78 w =>
            RunN Tryd.prog .sl (V (Instr.buildSlice 25 2 #[(0, .slice p1.a p1.len p1.cap), (1, .slice s6.1.a s6.1.len s6.1.cap)])) w fun t81 w =>
            RunN Tryd.prog .sl (V (Builtin.append_ #[25, 25] 25 #[.slice t78.a t78.len t78.cap, .slice t81.a t81.len t81.cap])) w fun t82 w =>
            NilP p0 fun t83 =>
            RunU Tryd.prog (U (Instr.storeAt 25 (.pointer (some (t83.add 0))) (.slice t82.a t82.len t82.cap))) w fun w =>
            NilP p0 fun t87 =>
            ReadN Tryd.prog .sl (V (Instr.loadAt 26 (.pointer (some (t87.add 1))))) w.drew fun t89 =>
            ReadN Tryd.prog .str (V (convert 22 9 (.slice p1.a p1.len p1.cap))) w.drew fun t91 =>
            ReadN Tryd.prog .str (V (convert 22 9 (.slice s6.1.a s6.1.len s6.1.cap))) w.drew fun t93 =>
            RunN Tryd.prog .sl (V (Instr.buildSlice 26 2 #[(0, .string t91), (1, .string t93)])) w.drew fun t94 w8 =>
            StillV Tryd.prog (V (Instr.loadAt 26 (.pointer (some (t87.add 1))))) (.slice t89.a t89.len t89.cap) w8 ∧
            RunN Tryd.prog .sl (V (Builtin.append_ #[26, 26] 26 #[.slice t89.a t89.len t89.cap, .slice t94.a t94.len t94.cap])) w8 fun t95 w9 =>
            NilP p0 fun t96 =>
            RunU Tryd.prog (U (Instr.storeAt 26 (.pointer (some (t96.add 1))) (.slice t95.a t95.len t95.cap))) w9 fun w10 =>
            NilP p0 fun t99 =>
            RunN Tryd.prog .sl (V (Instr.loadAt 25 (.pointer (some (t99.add 0))))) w10 fun t101 w =>
            SplitB (decide ((t101.len : Int) > 8))
              (NilP p0 fun t106 =>
              RunN Tryd.prog .sl (V (Instr.loadAt 25 (.pointer (some (t106.add 0))))) w fun t108 w =>
              RunN Tryd.prog .sl (V (Instr.sliceAt 25 (.slice t108.a t108.len t108.cap) (some (.int .i64 2)) none none)) w fun t109 w =>
              NilP p0 fun t110 =>
              RunU Tryd.prog (U (Instr.storeAt 25 (.pointer (some (t110.add 0))) (.slice t109.a t109.len t109.cap))) w fun w =>
              NilP p0 fun t114 =>
              RunN Tryd.prog .sl (V (Instr.loadAt 26 (.pointer (some (t114.add 1))))) w fun t116 w =>
              RunN Tryd.prog .sl (V (Instr.sliceAt 26 (.slice t116.a t116.len t116.cap) (some (.int .i64 2)) none none)) w fun t117 w =>
              NilP p0 fun t118 =>
              RunU Tryd.prog (U (Instr.storeAt 26 (.pointer (some (t118.add 1))) (.slice t117.a t117.len t117.cap))) w fun w =>
              K () w)
              (K () w)))
        (p1, 0, ()) w))
    (0, ()) w)
theorem T26.calls {p0 : Option Addr} {p1 : Sl} {w : World} {K : Unit → World → Prop} (h : T26 p0 p1 w K) : CallK Tryd.prog (.tup .nilT) 26 #[.pointer p0, .slice p1.a p1.len p1.cap] w K :=
  bodyX_sound (κ := kappa) (ann := [(7, [(4, (.int .i64))]), (14, [(5, .sl), (6, (.int .i64))])]) (fn := Tryd.f26) Tryd.func26 rfl (by kernel_rfl) (cast (show T26 p0 p1 w K = bodyX Tryd.prog kappa [(7, [(4, (.int .i64))]), (14, [(5, .sl), (6, (.int .i64))])] (.tup .nilT) Tryd.f26 [.pointer p0, .slice p1.a p1.len p1.cap] w K by kernel_rfl) h)

/-- sluice/sluiceref1.Open -/
def T27 (p0 : Sl) (w : World) (K : (Sl × Int × Unit) → World → Prop) : Prop :=
  SplitB (decide ((p0.len : Int) < 7))
    (K ((⟨none, 0, 0⟩ : Sl), 10, ()) w)
    (RunN Tryd.prog .addr (V (Instr.indexAt 22 (.slice p0.a p0.len p0.cap) (.int .i64 0))) w fun t13 w =>
    RunN Tryd.prog (.int .u8) (V (Instr.loadAt 5 (.pointer (some t13)))) w fun t14 w =>
    SplitB (t14 != 1)
      (K ((⟨none, 0, 0⟩ : Sl), 11, ()) w)
      (ReadN Tryd.prog .addr (V (Instr.indexAt 22 (.slice p0.a p0.len p0.cap) (.int .i64 1))) w.drew fun t17 =>
      ReadN Tryd.prog (.int .u8) (V (Instr.loadAt 5 (.pointer (some t17)))) w.drew fun t18 =>
      ReadN Tryd.prog .addr (V (Instr.indexAt 22 (.slice p0.a p0.len p0.cap) (.int .i64 2))) w.drew fun t21 =>
      ReadN Tryd.prog (.int .u8) (V (Instr.loadAt 5 (.pointer (some t21)))) w.drew fun t22 =>
      JoinX (α := Bool × Unit) (fun j2 w =>
        SplitB j2.1
          (K ((⟨none, 0, 0⟩ : Sl), 10, ()) w)
          (LoopX (α := Sl × Int × Unit) (fun s3 w k4 =>
            SplitB (decide (s3.2.1 < (IntKind.i64.wrap ((IntKind.i64.wrap t18) + (IntKind.i64.wrap (256 * (IntKind.i64.wrap t22)))))))
              (RunN Tryd.prog .addr (V (Instr.indexAt 22 (.slice p0.a p0.len p0.cap) (.int .i64 (IntKind.i64.wrap (3 + s3.2.1))))) w fun t44 w =>
              RunN Tryd.prog (.int .u8) (V (Instr.loadAt 5 (.pointer (some t44)))) w fun t45 w =>
              RunN Tryd.prog .sl (V (Instr.buildSlice 22 1 #[(0, .int .u8 t45)])) w fun t46 w =>
              RunN Tryd.prog .sl (V (Builtin.append_ #[22, 22] 22 #[.slice s3.1.a s3.1.len s3.1.cap, .slice t46.a t46.len t46.cap])) w fun t47 w =>
              k4 (t47, IntKind.i64.wrap (s3.2.1 + 1), ()) w)
              (RunN Tryd.prog .sl (V (Instr.sliceAt 22 (.slice p0.a p0.len p0.cap) none (some (.int .i64 (IntKind.i64.wrap (3 + (IntKind.i64.wrap ((IntKind.i64.wrap t18) + (IntKind.i64.wrap (256 * (IntKind.i64.wrap t22))))))))) none)) w fun t51 w =>
              CallK Tryd.prog (.int .i64) 28 #[.slice t51.a t51.len t51.cap] w fun t52 w =>
              LoopX (α := Int × Int × Unit) (fun s5 w k6 =>
                SplitB (decide (s5.2.1 < 4))
                  (RunN Tryd.prog .addr (V (Instr.indexAt 22 (.slice p0.a p0.len p0.cap) (.int .i64 (IntKind.i64.wrap ((IntKind.i64.wrap (3 + (IntKind.i64.wrap ((IntKind.i64.wrap t18) + (IntKind.i64.wrap (256 * (IntKind.i64.wrap t22))))))) + s5.2.1))))) w fun t62 w =>
                  RunN Tryd.prog (.int .u8) (V (Instr.loadAt 5 (.pointer (some t62)))) w fun t63 w =>
                  SplitB ((IntKind.i64.wrap t63) != (Int.tmod s5.1 256))
                    (K ((⟨none, 0, 0⟩ : Sl), 12, ()) w)
                    (k6 (IntKind.i64.wrap (Int.tdiv s5.1 256), IntKind.i64.wrap (s5.2.1 + 1), ()) w))
                  (K (s3.1, 0, ()) w))
              (t52, 0, ()) w))
          ((⟨none, 0, 0⟩ : Sl), 0, ()) w))
      fun k1 =>
        SplitB (decide ((IntKind.i64.wrap ((IntKind.i64.wrap t18) + (IntKind.i64.wrap (256 * (IntKind.i64.wrap t22))))) > 4096))
          (k1 (true, ()) w.drew)
          (k1 ((p0.len : Int) != (IntKind.i64.wrap ((IntKind.i64.wrap ((IntKind.i64.wrap t18) + (IntKind.i64.wrap (256 * (IntKind.i64.wrap t22))))) + 7)), ()) w.drew)))
theorem T27.calls {p0 : Sl} {w : World} {K : (Sl × Int × Unit) → World → Prop} (h : T27 p0 w K) : CallK Tryd.prog (.tup (.cons .sl (.cons (.int .i64) .nilT))) 27 #[.slice p0.a p0.len p0.cap] w K :=
  bodyX_sound (κ := kappa) (ann := [(9, [(34, .bool)]), (14, [(5, .sl), (6, (.int .i64))]), (21, [(7, (.int .i64)), (8, (.int .i64))])]) (fn := Tryd.f27) Tryd.func27 rfl (by kernel_rfl) (cast (show T27 p0 w K = bodyX Tryd.prog kappa [(9, [(34, .bool)]), (14, [(5, .sl), (6, (.int .i64))]), (21, [(7, (.int .i64)), (8, (.int .i64))])] (.tup (.cons .sl (.cons (.int .i64) .nilT))) Tryd.f27 [.slice p0.a p0.len p0.cap] w K by kernel_rfl) h)

/-- sluice/sluiceref1.Sum -/
def T28 (p0 : Sl) (w : World) (K : Int → World → Prop) : Prop :=
  LoopX (α := Int × Int × Unit) (fun s1 w k2 =>
    SplitB (decide (s1.2.1 < (p0.len : Int)))
      (RunN Tryd.prog .addr (V (Instr.indexAt 22 (.slice p0.a p0.len p0.cap) (.int .i64 s1.2.1))) w fun t16 w =>
      RunN Tryd.prog (.int .u8) (V (Instr.loadAt 5 (.pointer (some t16)))) w fun t17 w =>
      LoopX (α := Int × Int × Int × Unit) (fun s3 w k4 =>
        SplitB (decide (s3.2.2.1 < 8))
          (JoinX (α := Int × Int × Unit) (fun j6 w =>
            k4 (j6.1, j6.2.1, IntKind.i64.wrap (s3.2.2.1 + 1), ()) w)
          fun k5 =>
            SplitB ((Int.tmod (IntKind.i64.wrap (s3.1 + s3.2.1)) 2) == 1)
              (k5 (bitXor .i64 (IntKind.i64.wrap (Int.tdiv s3.1 2)) 3988292384, IntKind.i64.wrap (Int.tdiv s3.2.1 2), ()) w)
              (k5 (IntKind.i64.wrap (Int.tdiv s3.1 2), IntKind.i64.wrap (Int.tdiv s3.2.1 2), ()) w))
          (k2 (s3.1, IntKind.i64.wrap (s1.2.1 + 1), ()) w))
      (s1.1, IntKind.i64.wrap t17, 0, ()) w)
      (K (IntKind.i64.wrap (4294967295 - s1.1)) w))
  (4294967295, 0, ()) w
theorem T28.calls {p0 : Sl} {w : World} {K : Int → World → Prop} (h : T28 p0 w K) : CallK Tryd.prog (.int .i64) 28 #[.slice p0.a p0.len p0.cap] w K :=
  bodyX_sound (κ := kappa) (ann := [(4, [(3, (.int .i64)), (4, (.int .i64))]), (10, [(3, (.int .i64)), (5, (.int .i64)), (6, (.int .i64))]), (13, [(3, (.int .i64)), (5, (.int .i64))])]) (fn := Tryd.f28) Tryd.func28 rfl (by kernel_rfl) (cast (show T28 p0 w K = bodyX Tryd.prog kappa [(4, [(3, (.int .i64)), (4, (.int .i64))]), (10, [(3, (.int .i64)), (5, (.int .i64)), (6, (.int .i64))]), (13, [(3, (.int .i64)), (5, (.int .i64))])] (.int .i64) Tryd.f28 [.slice p0.a p0.len p0.cap] w K by kernel_rfl) h)

/-- sluice/frame.signed -/
def T29 (p0 : Sl) (w : World) (K : Sl → World → Prop) : Prop :=
  CallK Tryd.prog (.int .u32) 30 #[.slice p0.a p0.len p0.cap] w fun t5 w =>
  RunN Tryd.prog .sl (V (Instr.buildSlice 22 4 #[(0, .int .u8 (IntKind.u8.wrap t5)), (1, .int .u8 (IntKind.u8.wrap (Int.fdiv t5 (2 ^ 8)))), (2, .int .u8 (IntKind.u8.wrap (Int.fdiv t5 (2 ^ 16)))), (3, .int .u8 (IntKind.u8.wrap (Int.fdiv t5 (2 ^ 24))))])) w fun t18 w =>
  RunN Tryd.prog .sl (V (Builtin.append_ #[22, 22] 22 #[.slice p0.a p0.len p0.cap, .slice t18.a t18.len t18.cap])) w fun t19 w =>
  K t19 w
theorem T29.calls {p0 : Sl} {w : World} {K : Sl → World → Prop} (h : T29 p0 w K) : CallK Tryd.prog .sl 29 #[.slice p0.a p0.len p0.cap] w K :=
  bodyX_sound (κ := kappa) (ann := []) (fn := Tryd.f29) Tryd.func29 rfl (by kernel_rfl) (cast (show T29 p0 w K = bodyX Tryd.prog kappa [] .sl Tryd.f29 [.slice p0.a p0.len p0.cap] w K by kernel_rfl) h)

/-- sluice/frame.sum -/
def T30 (p0 : Sl) (w : World) (K : Int → World → Prop) : Prop :=
  LoopX (α := Int × Int × Unit) (fun s1 w k2 =>
    SplitB (decide (s1.2.1 < (p0.len : Int)))
      (RunN Tryd.prog .addr (V (Instr.indexAt 22 (.slice p0.a p0.len p0.cap) (.int .i64 s1.2.1))) w fun t10 w =>
      RunN Tryd.prog (.int .u8) (V (Instr.loadAt 5 (.pointer (some t10)))) w fun t11 w =>
      RunN Tryd.prog .addr (V (Instr.indexAt 54 (.pointer (some ⟨0, 0, none⟩)) (.int .u32 (bitAnd .u32 (bitXor .u32 s1.1 (IntKind.u32.wrap t11)) 15)))) w fun t20 w =>
      RunN Tryd.prog (.int .u32) (V (Instr.loadAt 52 (.pointer (some t20)))) w fun t21 w =>
      RunN Tryd.prog .addr (V (Instr.indexAt 54 (.pointer (some ⟨0, 0, none⟩)) (.int .u32 (bitAnd .u32 (bitXor .u32 (Int.fdiv (bitXor .u32 s1.1 (IntKind.u32.wrap t11)) (2 ^ 4)) t21) 15)))) w fun t27 w =>
      RunN Tryd.prog (.int .u32) (V (Instr.loadAt 52 (.pointer (some t27)))) w fun t28 w =>
      k2 (bitXor .u32 (Int.fdiv (bitXor .u32 (Int.fdiv (bitXor .u32 s1.1 (IntKind.u32.wrap t11)) (2 ^ 4)) t21) (2 ^ 4)) t28, IntKind.i64.wrap (s1.2.1 + 1), ()) w)
      (K (bitXor .u32 s1.1 4294967295) w))
  (4294967295, 0, ()) w
theorem T30.calls {p0 : Sl} {w : World} {K : Int → World → Prop} (h : T30 p0 w K) : CallK Tryd.prog (.int .u32) 30 #[.slice p0.a p0.len p0.cap] w K :=
  bodyX_sound (κ := kappa) (ann := [(4, [(3, (.int .u32)), (8, (.int .i64))])]) (fn := Tryd.f30) Tryd.func30 rfl (by kernel_rfl) (cast (show T30 p0 w K = bodyX Tryd.prog kappa [(4, [(3, (.int .u32)), (8, (.int .i64))])] (.int .u32) Tryd.f30 [.slice p0.a p0.len p0.cap] w K by kernel_rfl) h)
end Go.Proofs.YtaocddmmgefeoaaDoor
