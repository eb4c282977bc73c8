import Derived.Test.YtahlobpnmpelbaaProg
import Derived.Test.YtahlobpnmpelbaaFwE
namespace Go.Proofs.Ytahlobpnmpelbaa
open Go Go.Fw Go.Proofs
set_option maxRecDepth 100000
set_option linter.unusedVariables false
def kappa : List Kd := [(.tup .nilT), .raw, (.int .i64), (.int .i64), .bool, (.int .u8), (.int .u8), (.agg (.cons (.int .i64) (.cons (.int .i64) (.cons .bool (.cons (.int .u8) .nilT))))), (.agg (.cons (.int .i64) (.cons (.int .i64) (.cons .bool (.cons (.int .u8) .nilT))))), .str, .str, .str, (.int .u64), (.agg (.cons .str (.cons (.int .u64) .nilT))), (.agg (.cons .str (.cons (.int .u64) .nilT))), .ptr, .ptr, .ptr, (.agg (.cons .ptr .nilT)), (.agg (.cons .ptr .nilT)), .raw, (.int .i32), .raw, .sl, .raw, (.agg (.cons (.int .i64) (.cons (.int .i64) (.cons (.int .i64) (.cons (.int .i64) (.cons (.int .i64) (.cons (.int .i64) (.cons (.int .i64) (.cons (.int .i64) (.cons (.int .i64) (.cons (.int .i64) .nilT))))))))))), (.agg (.cons (.int .i64) (.cons (.int .i64) (.cons (.int .i64) (.cons (.int .i64) (.cons (.int .i64) (.cons (.int .i64) (.cons (.int .i64) (.cons (.int .i64) (.cons (.int .i64) (.cons (.int .i64) .nilT))))))))))), .sl, .raw, (.agg (.cons (.int .i64) (.cons (.int .i64) .nilT))), .raw, (.agg (.cons .ptr (.cons .ptr (.cons .ptr (.cons .str .nilT))))), (.agg (.cons .ptr (.cons .ptr (.cons .ptr (.cons .str .nilT))))), (.agg .nilT), (.agg .nilT), (.agg .nilT), .raw, (.int .u32), (.int .u8), (.int .u8), .raw, .ptr, (.int .i32), (.int .i32), (.agg (.cons (.int .u64) (.cons (.int .u64) (.cons (.int .u32) (.cons (.int .u8) (.cons (.int .u8) (.cons (.int .u8) (.cons (.int .u8) (.cons .raw (.cons .ptr (.cons (.int .i32) (.cons (.int .i32) .nilT)))))))))))), (.agg (.cons (.int .u64) (.cons (.int .u64) (.cons (.int .u32) (.cons (.int .u8) (.cons (.int .u8) (.cons (.int .u8) (.cons (.int .u8) (.cons .raw (.cons .ptr (.cons (.int .i32) (.cons (.int .i32) .nilT))))))))))))]

/-- sluice/sluicetop.TopNames -/
def T3  (w : World) (K : Bool → World → Prop) : Prop :=
  JoinX (α := Bool × Unit) (fun j2 w =>
    RunN Try.prog .addr (V (Instr.alloc 26 true (.tuple #[]))) w fun t2 w =>
    RunU Try.prog (U (Instr.storeAt 26 (.pointer (some t2)) (.agg #[.int .i64 16, .int .i64 16, .int .i64 1000, .int .i64 1000, .int .i64 32, .int .i64 16, .int .i64 4, .int .i64 16, .int .i64 64, .int .i64 1024]))) w fun w =>
    LoopX (α := Sl × Int × Unit) (fun s3 w k4 =>
      SplitB (decide (s3.2.1 < 20))
        (RunN Try.prog (.agg (.cons (.int .i64) (.cons (.int .i64) (.cons (.int .i64) (.cons (.int .i64) (.cons (.int .i64) (.cons (.int .i64) (.cons (.int .i64) (.cons (.int .i64) (.cons (.int .i64) (.cons (.int .i64) .nilT))))))))))) (V (Instr.loadAt 26 (.pointer (some t2)))) w fun t23 w =>
        RunN Try.prog .sl (V (Instr.buildSlice 27 1 #[(0, .agg #[.int .i64 t23.1, .int .i64 t23.2.1, .int .i64 t23.2.2.1, .int .i64 t23.2.2.2.1, .int .i64 t23.2.2.2.2.1, .int .i64 t23.2.2.2.2.2.1, .int .i64 t23.2.2.2.2.2.2.1, .int .i64 t23.2.2.2.2.2.2.2.1, .int .i64 t23.2.2.2.2.2.2.2.2.1, .int .i64 t23.2.2.2.2.2.2.2.2.2.1])])) w fun t24 w =>
        RunN Try.prog .sl (V (Builtin.append_ #[27, 27] 27 #[.slice s3.1.a s3.1.len s3.1.cap, .slice t24.a t24.len t24.cap])) w fun t25 w =>
        k4 (t25, IntKind.i64.wrap (s3.2.1 + 1), ()) w)
        (RunN Try.prog .addr (V (Instr.indexAt 27 (.slice s3.1.a s3.1.len s3.1.cap) (.int .i64 0))) w fun t36 w =>
        RunU Try.prog (U (Instr.storeAt 3 (.pointer (some (t36.add 0))) (.int .i64 17))) w fun w =>
        RunN Try.prog .addr (V (Instr.indexAt 27 (.slice s3.1.a s3.1.len s3.1.cap) (.int .i64 1))) w fun t38 w =>
        RunU Try.prog (U (Instr.storeAt 3 (.pointer (some (t38.add 1))) (.int .i64 17))) w fun w =>
        RunN Try.prog .addr (V (Instr.indexAt 27 (.slice s3.1.a s3.1.len s3.1.cap) (.int .i64 2))) w fun t40 w =>
        RunU Try.prog (U (Instr.storeAt 3 (.pointer (some (t40.add 2))) (.int .i64 1001))) w fun w =>
        RunN Try.prog .addr (V (Instr.indexAt 27 (.slice s3.1.a s3.1.len s3.1.cap) (.int .i64 3))) w fun t42 w =>
        RunU Try.prog (U (Instr.storeAt 3 (.pointer (some (t42.add 3))) (.int .i64 1001))) w fun w =>
        RunN Try.prog .addr (V (Instr.indexAt 27 (.slice s3.1.a s3.1.len s3.1.cap) (.int .i64 4))) w fun t44 w =>
        RunU Try.prog (U (Instr.storeAt 3 (.pointer (some (t44.add 4))) (.int .i64 33))) w fun w =>
        RunN Try.prog .addr (V (Instr.indexAt 27 (.slice s3.1.a s3.1.len s3.1.cap) (.int .i64 5))) w fun t46 w =>
        RunU Try.prog (U (Instr.storeAt 3 (.pointer (some (t46.add 5))) (.int .i64 17))) w fun w =>
        RunN Try.prog .addr (V (Instr.indexAt 27 (.slice s3.1.a s3.1.len s3.1.cap) (.int .i64 6))) w fun t48 w =>
        RunU Try.prog (U (Instr.storeAt 3 (.pointer (some (t48.add 6))) (.int .i64 5))) w fun w =>
        RunN Try.prog .addr (V (Instr.indexAt 27 (.slice s3.1.a s3.1.len s3.1.cap) (.int .i64 7))) w fun t50 w =>
        RunU Try.prog (U (Instr.storeAt 3 (.pointer (some (t50.add 7))) (.int .i64 17))) w fun w =>
        RunN Try.prog .addr (V (Instr.indexAt 27 (.slice s3.1.a s3.1.len s3.1.cap) (.int .i64 8))) w fun t52 w =>
        RunU Try.prog (U (Instr.storeAt 3 (.pointer (some (t52.add 8))) (.int .i64 65))) w fun w =>
        RunN Try.prog .addr (V (Instr.indexAt 27 (.slice s3.1.a s3.1.len s3.1.cap) (.int .i64 9))) w fun t54 w =>
        RunU Try.prog (U (Instr.storeAt 3 (.pointer (some (t54.add 9))) (.int .i64 1025))) w fun w =>
        RunN Try.prog .addr (V (Instr.indexAt 27 (.slice s3.1.a s3.1.len s3.1.cap) (.int .i64 10))) w fun t66 w =>
        RunU Try.prog (U (Instr.storeAt 3 (.pointer (some (t66.add 0))) (.int .i64 1))) w fun w =>
        RunN Try.prog .addr (V (Instr.indexAt 27 (.slice s3.1.a s3.1.len s3.1.cap) (.int .i64 11))) w fun t68 w =>
        RunU Try.prog (U (Instr.storeAt 3 (.pointer (some (t68.add 1))) (.int .i64 0))) w fun w =>
        RunN Try.prog .addr (V (Instr.indexAt 27 (.slice s3.1.a s3.1.len s3.1.cap) (.int .i64 12))) w fun t70 w =>
        RunU Try.prog (U (Instr.storeAt 3 (.pointer (some (t70.add 2))) (.int .i64 0))) w fun w =>
        RunN Try.prog .addr (V (Instr.indexAt 27 (.slice s3.1.a s3.1.len s3.1.cap) (.int .i64 13))) w fun t72 w =>
        RunU Try.prog (U (Instr.storeAt 3 (.pointer (some (t72.add 3))) (.int .i64 0))) w fun w =>
        RunN Try.prog .addr (V (Instr.indexAt 27 (.slice s3.1.a s3.1.len s3.1.cap) (.int .i64 14))) w fun t74 w =>
        RunU Try.prog (U (Instr.storeAt 3 (.pointer (some (t74.add 4))) (.int .i64 0))) w fun w =>
        RunN Try.prog .addr (V (Instr.indexAt 27 (.slice s3.1.a s3.1.len s3.1.cap) (.int .i64 15))) w fun t76 w =>
        RunU Try.prog (U (Instr.storeAt 3 (.pointer (some (t76.add 5))) (.int .i64 0))) w fun w =>
        RunN Try.prog .addr (V (Instr.indexAt 27 (.slice s3.1.a s3.1.len s3.1.cap) (.int .i64 16))) w fun t78 w =>
        RunU Try.prog (U (Instr.storeAt 3 (.pointer (some (t78.add 6))) (.int .i64 0))) w fun w =>
        RunN Try.prog .addr (V (Instr.indexAt 27 (.slice s3.1.a s3.1.len s3.1.cap) (.int .i64 17))) w fun t80 w =>
        RunU Try.prog (U (Instr.storeAt 3 (.pointer (some (t80.add 7))) (.int .i64 (-1)))) w fun w =>
        RunN Try.prog .addr (V (Instr.indexAt 27 (.slice s3.1.a s3.1.len s3.1.cap) (.int .i64 18))) w fun t82 w =>
        RunU Try.prog (U (Instr.storeAt 3 (.pointer (some (t82.add 8))) (.int .i64 0))) w fun w =>
        RunN Try.prog .addr (V (Instr.indexAt 27 (.slice s3.1.a s3.1.len s3.1.cap) (.int .i64 19))) w fun t84 w =>
        RunU Try.prog (U (Instr.storeAt 3 (.pointer (some (t84.add 9))) (.int .i64 0))) w fun w =>
        LoopX (α := Int × Unit) (fun s5 w k6 =>
          SplitB (decide (s5.1 < (s3.1.len : Int)))
            (RunN Try.prog .addr (V (Instr.indexAt 27 (.slice s3.1.a s3.1.len s3.1.cap) (.int .i64 s5.1))) w fun t94 w =>
            RunN Try.prog (.agg (.cons (.int .i64) (.cons (.int .i64) (.cons (.int .i64) (.cons (.int .i64) (.cons (.int .i64) (.cons (.int .i64) (.cons (.int .i64) (.cons (.int .i64) (.cons (.int .i64) (.cons (.int .i64) .nilT))))))))))) (V (Instr.loadAt 26 (.pointer (some t94)))) w fun t95 w =>
            CallK Try.prog .bool 8 #[.agg #[.int .i64 t95.1, .int .i64 t95.2.1, .int .i64 t95.2.2.1, .int .i64 t95.2.2.2.1, .int .i64 t95.2.2.2.2.1, .int .i64 t95.2.2.2.2.2.1, .int .i64 t95.2.2.2.2.2.2.1, .int .i64 t95.2.2.2.2.2.2.2.1, .int .i64 t95.2.2.2.2.2.2.2.2.1, .int .i64 t95.2.2.2.2.2.2.2.2.2.1]] w fun t96 w =>
            SplitB t96
              (K false w)
              (k6 (IntKind.i64.wrap (s5.1 + 1), ()) w))
            (RunN Try.prog .addr (V (Instr.alloc 26 true (.tuple #[]))) w fun t6 w =>
            RunU Try.prog (U (Instr.storeAt 26 (.pointer (some t6)) (.agg #[.int .i64 2, .int .i64 1, .int .i64 1, .int .i64 1, .int .i64 1, .int .i64 1, .int .i64 1, .int .i64 0, .int .i64 1, .int .i64 1]))) w fun w =>
            SplitB j2.1
              (RunN Try.prog (.agg (.cons (.int .i64) (.cons (.int .i64) (.cons (.int .i64) (.cons (.int .i64) (.cons (.int .i64) (.cons (.int .i64) (.cons (.int .i64) (.cons (.int .i64) (.cons (.int .i64) (.cons (.int .i64) .nilT))))))))))) (V (Instr.loadAt 26 (.pointer (some t2)))) w fun t100 w =>
              CallK Try.prog .bool 8 #[.agg #[.int .i64 t100.1, .int .i64 t100.2.1, .int .i64 t100.2.2.1, .int .i64 t100.2.2.2.1, .int .i64 t100.2.2.2.2.1, .int .i64 t100.2.2.2.2.2.1, .int .i64 t100.2.2.2.2.2.2.1, .int .i64 t100.2.2.2.2.2.2.2.1, .int .i64 t100.2.2.2.2.2.2.2.2.1, .int .i64 t100.2.2.2.2.2.2.2.2.2.1]] w fun t101 w =>
              SplitB t101
                (RunN Try.prog (.agg (.cons (.int .i64) (.cons (.int .i64) (.cons (.int .i64) (.cons (.int .i64) (.cons (.int .i64) (.cons (.int .i64) (.cons (.int .i64) (.cons (.int .i64) (.cons (.int .i64) (.cons (.int .i64) .nilT))))))))))) (V (Instr.loadAt 26 (.pointer (some t6)))) w fun t104 w =>
                CallK Try.prog .bool 8 #[.agg #[.int .i64 t104.1, .int .i64 t104.2.1, .int .i64 t104.2.2.1, .int .i64 t104.2.2.2.1, .int .i64 t104.2.2.2.2.1, .int .i64 t104.2.2.2.2.2.1, .int .i64 t104.2.2.2.2.2.2.1, .int .i64 t104.2.2.2.2.2.2.2.1, .int .i64 t104.2.2.2.2.2.2.2.2.1, .int .i64 t104.2.2.2.2.2.2.2.2.2.1]] w fun t105 w =>
                K t105 w)
                (K false w))
              (K false w)))
        (0, ()) w))
    ((⟨none, 0, 0⟩ : Sl), 0, ()) w)
  fun k1 =>
    CallK Try.prog .sl 5 #[] w fun t7 w =>
    CallK Try.prog .bool 4 #[.slice t7.a t7.len t7.cap] w fun t8 w =>
    SplitB t8
      (CallK Try.prog .sl 6 #[] w fun t10 w =>
      CallK Try.prog .bool 4 #[.slice t10.a t10.len t10.cap] w fun t11 w =>
      SplitB t11
        (CallK Try.prog .sl 7 #[] w fun t14 w =>
        CallK Try.prog .bool 4 #[.slice t14.a t14.len t14.cap] w fun t15 w =>
        k1 (t15, ()) w)
        (k1 (false, ()) w))
      (k1 (false, ()) w)
theorem T3.calls  {w : World} {K : Bool → World → Prop} (h : T3  w K) : CallK Try.prog .bool 3 #[] w K :=
  bodyY_sound (κ := kappa) (ann := [(1, [(1, .bool)]), (6, [(3, .sl), (4, (.int .i64))]), (14, [(5, (.int .i64))])]) (fn := Try.f3) Try.func3 rfl (by kernel_rfl) (cast (show T3  w K = bodyY Try.prog kappa [(1, [(1, .bool)]), (6, [(3, .sl), (4, (.int .i64))]), (14, [(5, (.int .i64))])] .bool Try.f3 [] w K by kernel_rfl) h)

/-- sluice/sluicetop.named -/
def T4 (p0 : Sl) (w : World) (K : Bool → World → Prop) : Prop :=
  LoopX (α := Int × Unit) (fun s1 w k2 =>
    SplitB (decide (s1.1 < (p0.len : Int)))
      (ReadN Try.prog .addr (V (Instr.indexAt 23 (.slice p0.a p0.len p0.cap) (.int .i64 s1.1))) w.drew fun t12 =>
      ReadN Try.prog .addr (V (Instr.indexAt 29 (.pointer (some t12)) (.int .i64 0))) w.drew fun t13 =>
      ReadN Try.prog (.int .i64) (V (Instr.loadAt 3 (.pointer (some t13)))) w.drew fun t14 =>
      ReadN Try.prog .addr (V (Instr.indexAt 23 (.slice p0.a p0.len p0.cap) (.int .i64 s1.1))) w.drew fun t17 =>
      ReadN Try.prog .addr (V (Instr.indexAt 29 (.pointer (some t17)) (.int .i64 1))) w.drew fun t18 =>
      ReadN Try.prog (.int .i64) (V (Instr.loadAt 3 (.pointer (some t18)))) w.drew fun t19 =>
      SplitB (t14 != t19)
        (K false w.drew)
        (k2 (IntKind.i64.wrap (s1.1 + 1), ()) w.drew))
      (K (decide ((p0.len : Int) > 0)) w))
  (0, ()) w
theorem T4.calls {p0 : Sl} {w : World} {K : Bool → World → Prop} (h : T4 p0 w K) : CallK Try.prog .bool 4 #[.slice p0.a p0.len p0.cap] w K :=
  bodyY_sound (κ := kappa) (ann := [(3, [(3, (.int .i64))])]) (fn := Try.f4) Try.func4 rfl (by kernel_rfl) (cast (show T4 p0 w K = bodyY Try.prog kappa [(3, [(3, (.int .i64))])] .bool Try.f4 [.slice p0.a p0.len p0.cap] w K by kernel_rfl) h)

/-- sluice/sluicetop.names1 -/
def T5  (w : World) (K : Sl → World → Prop) : Prop :=
  RunN Try.prog .sl (V (Instr.buildSlice 23 45 #[(0, .agg #[.int .i64 0, .int .i64 0]), (1, .agg #[.int .i64 1, .int .i64 1]), (2, .agg #[.int .i64 2, .int .i64 2]), (3, .agg #[.int .i64 3, .int .i64 3]), (4, .agg #[.int .i64 10, .int .i64 10]), (5, .agg #[.int .i64 11, .int .i64 11]), (6, .agg #[.int .i64 12, .int .i64 12]), (7, .agg #[.int .i64 20, .int .i64 20]), (8, .agg #[.int .i64 21, .int .i64 21]), (9, .agg #[.int .i64 30, .int .i64 30]), (10, .agg #[.int .i64 31, .int .i64 31]), (11, .agg #[.int .i64 40, .int .i64 40]), (12, .agg #[.int .i64 41, .int .i64 41]), (13, .agg #[.int .i64 50, .int .i64 50]), (14, .agg #[.int .i64 60, .int .i64 60]), (15, .agg #[.int .i64 61, .int .i64 61]), (16, .agg #[.int .i64 62, .int .i64 62]), (17, .agg #[.int .i64 70, .int .i64 70]), (18, .agg #[.int .i64 71, .int .i64 71]), (19, .agg #[.int .i64 100, .int .i64 100]), (20, .agg #[.int .i64 101, .int .i64 101]), (21, .agg #[.int .i64 102, .int .i64 102]), (22, .agg #[.int .i64 110, .int .i64 110]), (23, .agg #[.int .i64 111, .int .i64 111]), (24, .agg #[.int .i64 130, .int .i64 130]), (25, .agg #[.int .i64 131, .int .i64 131]), (26, .agg #[.int .i64 132, .int .i64 132]), (27, .agg #[.int .i64 133, .int .i64 133]), (28, .agg #[.int .i64 140, .int .i64 140]), (29, .agg #[.int .i64 150, .int .i64 150]), (30, .agg #[.int .i64 170, .int .i64 170]), (31, .agg #[.int .i64 171, .int .i64 171]), (32, .agg #[.int .i64 172, .int .i64 172]), (33, .agg #[.int .i64 180, .int .i64 180]), (34, .agg #[.int .i64 200, .int .i64 200]), (35, .agg #[.int .i64 201, .int .i64 201]), (36, .agg #[.int .i64 210, .int .i64 210]), (37, .agg #[.int .i64 211, .int .i64 211]), (38, .agg #[.int .i64 220, .int .i64 220]), (39, .agg #[.int .i64 2, .int .i64 2]), (40, .agg #[.int .i64 16, .int .i64 16]), (41, .agg #[.int .i64 1099511627776, .int .i64 1099511627776]), (42, .agg #[.int .i64 16, .int .i64 16]), (43, .agg #[.int .i64 16, .int .i64 16]), (44, .agg #[.int .i64 1000, .int .i64 1000])])) w fun t46 w =>
  K t46 w
theorem T5.calls  {w : World} {K : Sl → World → Prop} (h : T5  w K) : CallK Try.prog .sl 5 #[] w K :=
  bodyY_sound (κ := kappa) (ann := []) (fn := Try.f5) Try.func5 rfl (by kernel_rfl) (cast (show T5  w K = bodyY Try.prog kappa [] .sl Try.f5 [] w K by kernel_rfl) h)

/-- sluice/sluicetop.names2 -/
def T6  (w : World) (K : Sl → World → Prop) : Prop :=
  RunN Try.prog .sl (V (Instr.buildSlice 23 45 #[(0, .agg #[.int .i64 32, .int .i64 32]), (1, .agg #[.int .i64 16, .int .i64 16]), (2, .agg #[.int .i64 4, .int .i64 4]), (3, .agg #[.int .i64 16, .int .i64 16]), (4, .agg #[.int .i64 64, .int .i64 64]), (5, .agg #[.int .i64 1024, .int .i64 1024]), (6, .agg #[.int .i64 20000, .int .i64 20000]), (7, .agg #[.int .i64 64, .int .i64 64]), (8, .agg #[.int .i64 1099511627776, .int .i64 1099511627776]), (9, .agg #[.int .i64 1099511627776, .int .i64 1099511627776]), (10, .agg #[.int .i64 1099511627776, .int .i64 1099511627776]), (11, .agg #[.int .i64 4096, .int .i64 4096]), (12, .agg #[.int .i64 1048576, .int .i64 1048576]), (13, .agg #[.int .i64 12, .int .i64 12]), (14, .agg #[.int .i64 512, .int .i64 512]), (15, .agg #[.int .i64 65536, .int .i64 65536]), (16, .agg #[.int .i64 64, .int .i64 64]), (17, .agg #[.int .i64 8192, .int .i64 8192]), (18, .agg #[.int .i64 1, .int .i64 1]), (19, .agg #[.int .i64 2, .int .i64 2]), (20, .agg #[.int .i64 3, .int .i64 3]), (21, .agg #[.int .i64 4, .int .i64 4]), (22, .agg #[.int .i64 5, .int .i64 5]), (23, .agg #[.int .i64 6, .int .i64 6]), (24, .agg #[.int .i64 7, .int .i64 7]), (25, .agg #[.int .i64 8, .int .i64 8]), (26, .agg #[.int .i64 9, .int .i64 9]), (27, .agg #[.int .i64 10, .int .i64 10]), (28, .agg #[.int .i64 11, .int .i64 11]), (29, .agg #[.int .i64 12, .int .i64 12]), (30, .agg #[.int .i64 1, .int .i64 1]), (31, .agg #[.int .i64 2, .int .i64 2]), (32, .agg #[.int .i64 3, .int .i64 3]), (33, .agg #[.int .i64 4, .int .i64 4]), (34, .agg #[.int .i64 5, .int .i64 5]), (35, .agg #[.int .i64 6, .int .i64 6]), (36, .agg #[.int .i64 7, .int .i64 7]), (37, .agg #[.int .i64 8, .int .i64 8]), (38, .agg #[.int .i64 9, .int .i64 9]), (39, .agg #[.int .i64 10, .int .i64 10]), (40, .agg #[.int .i64 1, .int .i64 1]), (41, .agg #[.int .i64 2, .int .i64 2]), (42, .agg #[.int .i64 3, .int .i64 3]), (43, .agg #[.int .i64 4, .int .i64 4]), (44, .agg #[.int .i64 5, .int .i64 5])])) w fun t46 w =>
  K t46 w
theorem T6.calls  {w : World} {K : Sl → World → Prop} (h : T6  w K) : CallK Try.prog .sl 6 #[] w K :=
  bodyY_sound (κ := kappa) (ann := []) (fn := Try.f6) Try.func6 rfl (by kernel_rfl) (cast (show T6  w K = bodyY Try.prog kappa [] .sl Try.f6 [] w K by kernel_rfl) h)

/-- sluice/sluicetop.names3 -/
def T7  (w : World) (K : Sl → World → Prop) : Prop :=
  RunN Try.prog .sl (V (Instr.buildSlice 23 10 #[(0, .agg #[.int .i64 6, .int .i64 6]), (1, .agg #[.int .i64 7, .int .i64 7]), (2, .agg #[.int .i64 8, .int .i64 8]), (3, .agg #[.int .i64 9, .int .i64 9]), (4, .agg #[.int .i64 10, .int .i64 10]), (5, .agg #[.int .i64 11, .int .i64 11]), (6, .agg #[.int .i64 12, .int .i64 12]), (7, .agg #[.int .i64 13, .int .i64 13]), (8, .agg #[.int .i64 14, .int .i64 14]), (9, .agg #[.int .i64 15, .int .i64 15])])) w fun t11 w =>
  K t11 w
theorem T7.calls  {w : World} {K : Sl → World → Prop} (h : T7  w K) : CallK Try.prog .sl 7 #[] w K :=
  bodyY_sound (κ := kappa) (ann := []) (fn := Try.f7) Try.func7 rfl (by kernel_rfl) (cast (show T7  w K = bodyY Try.prog kappa [] .sl Try.f7 [] w K by kernel_rfl) h)

/-- (sluice/api.Config).Right -/
def T8 (p0 : (Int × Int × Int × Int × Int × Int × Int × Int × Int × Int × Unit)) (w : World) (K : Bool → World → Prop) : Prop :=
  RunN Try.prog .addr (V (Instr.box 26 (.agg #[.int .i64 p0.1, .int .i64 p0.2.1, .int .i64 p0.2.2.1, .int .i64 p0.2.2.2.1, .int .i64 p0.2.2.2.2.1, .int .i64 p0.2.2.2.2.2.1, .int .i64 p0.2.2.2.2.2.2.1, .int .i64 p0.2.2.2.2.2.2.2.1, .int .i64 p0.2.2.2.2.2.2.2.2.1, .int .i64 p0.2.2.2.2.2.2.2.2.2.1]))) w fun t1 w =>
  RunN Try.prog (.int .i64) (V (Instr.loadAt 3 (.pointer (some (t1.add 0))))) w fun t4 w =>
  SplitB (decide (t4 ≥ 2))
    (RunN Try.prog (.int .i64) (V (Instr.loadAt 3 (.pointer (some (t1.add 0))))) w fun t8 w =>
    SplitB (decide (t8 ≤ 16))
      (RunN Try.prog (.int .i64) (V (Instr.loadAt 3 (.pointer (some (t1.add 1))))) w fun t13 w =>
      SplitB (decide (t13 ≥ 1))
        (RunN Try.prog (.int .i64) (V (Instr.loadAt 3 (.pointer (some (t1.add 1))))) w fun t18 w =>
        SplitB (decide (t18 ≤ 16))
          (RunN Try.prog (.int .i64) (V (Instr.loadAt 3 (.pointer (some (t1.add 2))))) w fun t23 w =>
          SplitB (decide (t23 ≥ 1))
            (RunN Try.prog (.int .i64) (V (Instr.loadAt 3 (.pointer (some (t1.add 2))))) w fun t28 w =>
            SplitB (decide (t28 ≤ 1000))
              (RunN Try.prog (.int .i64) (V (Instr.loadAt 3 (.pointer (some (t1.add 3))))) w fun t33 w =>
              SplitB (decide (t33 ≥ 1))
                (RunN Try.prog (.int .i64) (V (Instr.loadAt 3 (.pointer (some (t1.add 3))))) w fun t38 w =>
                SplitB (decide (t38 ≤ 1000))
                  (RunN Try.prog (.int .i64) (V (Instr.loadAt 3 (.pointer (some (t1.add 4))))) w fun t43 w =>
                  SplitB (decide (t43 ≥ 1))
                    (RunN Try.prog (.int .i64) (V (Instr.loadAt 3 (.pointer (some (t1.add 4))))) w fun t48 w =>
                    SplitB (decide (t48 ≤ 32))
                      (RunN Try.prog (.int .i64) (V (Instr.loadAt 3 (.pointer (some (t1.add 5))))) w fun t53 w =>
                      SplitB (decide (t53 ≥ 1))
                        (RunN Try.prog (.int .i64) (V (Instr.loadAt 3 (.pointer (some (t1.add 5))))) w fun t58 w =>
                        SplitB (decide (t58 ≤ 16))
                          (RunN Try.prog (.int .i64) (V (Instr.loadAt 3 (.pointer (some (t1.add 6))))) w fun t63 w =>
                          SplitB (decide (t63 ≥ 1))
                            (RunN Try.prog (.int .i64) (V (Instr.loadAt 3 (.pointer (some (t1.add 6))))) w fun t68 w =>
                            SplitB (decide (t68 ≤ 4))
                              (RunN Try.prog (.int .i64) (V (Instr.loadAt 3 (.pointer (some (t1.add 7))))) w fun t73 w =>
                              SplitB (decide (t73 ≥ 0))
                                (RunN Try.prog (.int .i64) (V (Instr.loadAt 3 (.pointer (some (t1.add 7))))) w fun t78 w =>
                                SplitB (decide (t78 ≤ 16))
                                  (RunN Try.prog (.int .i64) (V (Instr.loadAt 3 (.pointer (some (t1.add 8))))) w fun t83 w =>
                                  SplitB (decide (t83 ≥ 1))
                                    (RunN Try.prog (.int .i64) (V (Instr.loadAt 3 (.pointer (some (t1.add 8))))) w fun t88 w =>
                                    SplitB (decide (t88 ≤ 64))
                                      (RunN Try.prog (.int .i64) (V (Instr.loadAt 3 (.pointer (some (t1.add 9))))) w fun t93 w =>
                                      SplitB (decide (t93 ≥ 1))
                                        (RunN Try.prog (.int .i64) (V (Instr.loadAt 3 (.pointer (some (t1.add 9))))) w fun t98 w =>
                                        K (decide (t98 ≤ 1024)) w)
                                        (K false w))
                                      (K false w))
                                    (K false w))
                                  (K false w))
                                (K false w))
                              (K false w))
                            (K false w))
                          (K false w))
                        (K false w))
                      (K false w))
                    (K false w))
                  (K false w))
                (K false w))
              (K false w))
            (K false w))
          (K false w))
        (K false w))
      (K false w))
    (K false w)
theorem T8.calls {p0 : (Int × Int × Int × Int × Int × Int × Int × Int × Int × Int × Unit)} {w : World} {K : Bool → World → Prop} (h : T8 p0 w K) : CallK Try.prog .bool 8 #[.agg #[.int .i64 p0.1, .int .i64 p0.2.1, .int .i64 p0.2.2.1, .int .i64 p0.2.2.2.1, .int .i64 p0.2.2.2.2.1, .int .i64 p0.2.2.2.2.2.1, .int .i64 p0.2.2.2.2.2.2.1, .int .i64 p0.2.2.2.2.2.2.2.1, .int .i64 p0.2.2.2.2.2.2.2.2.1, .int .i64 p0.2.2.2.2.2.2.2.2.2.1]] w K :=
  bodyY_sound (κ := kappa) (ann := []) (fn := Try.f8) Try.func8 rfl (by kernel_rfl) (cast (show T8 p0 w K = bodyY Try.prog kappa [] .bool Try.f8 [.agg #[.int .i64 p0.1, .int .i64 p0.2.1, .int .i64 p0.2.2.1, .int .i64 p0.2.2.2.1, .int .i64 p0.2.2.2.2.1, .int .i64 p0.2.2.2.2.2.1, .int .i64 p0.2.2.2.2.2.2.1, .int .i64 p0.2.2.2.2.2.2.2.1, .int .i64 p0.2.2.2.2.2.2.2.2.1, .int .i64 p0.2.2.2.2.2.2.2.2.2.1]] w K by kernel_rfl) h)
end Go.Proofs.Ytahlobpnmpelbaa
