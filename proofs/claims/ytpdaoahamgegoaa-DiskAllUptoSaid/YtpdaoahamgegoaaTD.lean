import Derived.Test.YtpdaoahamgegoaaProg
import Derived.Test.YtpdaoahamgegoaaFwG
namespace Go.Proofs.Ytpdaoahamgegoaa
open Go Go.Fw Go.Proofs
set_option maxRecDepth 100000
set_option linter.unusedVariables false
def kappa : List Kd := [(.tup .nilT), .raw, (.int .i64), (.int .i64), .bool, (.int .u8), (.int .u8), (.agg (.cons (.int .i64) (.cons (.int .i64) (.cons .bool (.cons (.int .u8) .nilT))))), (.agg (.cons (.int .i64) (.cons (.int .i64) (.cons .bool (.cons (.int .u8) .nilT))))), .str, .str, .str, (.int .u64), (.agg (.cons .str (.cons (.int .u64) .nilT))), (.agg (.cons .str (.cons (.int .u64) .nilT))), .ptr, .ptr, .ptr, (.agg (.cons .ptr .nilT)), (.agg (.cons .ptr .nilT)), .raw, (.int .i32), .sl, .raw, .ptr, (.int .i64), (.tup (.cons .ptr (.cons (.int .i64) .nilT))), .raw, .raw, .sl, .sl, .raw, .raw, (.agg (.cons (.int .i64) (.cons (.int .u8) .nilT))), (.agg (.cons (.int .i64) (.cons (.int .u8) .nilT))), .raw, (.tup (.cons .sl (.cons (.int .i64) .nilT))), .raw, .raw, .raw, .raw, .raw, .raw, .raw, .sl, .raw, .raw, .raw, .raw, .raw, .raw, .sl, .raw, .raw, .ptr, (.tup (.cons .ptr (.cons .bool .nilT))), .raw, .raw, (.agg (.cons (.int .i64) (.cons (.int .i64) (.cons (.int .i64) (.cons (.int .i64) (.cons .sl .nilT)))))), (.agg (.cons (.int .i64) (.cons (.int .i64) (.cons (.int .i64) (.cons (.int .i64) (.cons .sl .nilT)))))), .raw, .ptr, .sl, .sl, (.agg (.cons .sl (.cons .sl (.cons .sl (.cons .sl (.cons (.int .i64) (.cons .sl (.cons .sl (.cons .sl (.cons .sl (.cons (.int .i64) .nilT))))))))))), (.agg (.cons .sl (.cons .sl (.cons .sl (.cons .sl (.cons (.int .i64) (.cons .sl (.cons .sl (.cons .sl (.cons .sl (.cons (.int .i64) .nilT))))))))))), (.agg (.cons .ptr (.cons .ptr (.cons .sl (.cons .sl (.cons .sl (.cons .sl (.cons (.int .i64) (.cons .sl (.cons .sl (.cons .sl (.cons .sl (.cons (.int .i64) (.cons .sl (.cons (.int .i64) .nilT))))))))))))))), (.agg (.cons .ptr (.cons .ptr (.cons .sl (.cons .sl (.cons .sl (.cons .sl (.cons (.int .i64) (.cons .sl (.cons .sl (.cons .sl (.cons .sl (.cons (.int .i64) (.cons .sl (.cons (.int .i64) .nilT))))))))))))))), .sl, .raw, .raw, .raw, .raw, .raw, (.tup (.cons .ptr (.cons (.int .i64) .nilT))), .raw, .raw, .raw, .raw, .ptr, .ptr, .raw, .raw, .sl, (.agg (.cons (.int .i64) (.cons .sl (.cons .sl (.cons .bool (.cons (.int .i64) (.cons (.int .i64) .nilT))))))), (.agg (.cons (.int .i64) (.cons .sl (.cons .sl (.cons .bool (.cons (.int .i64) (.cons (.int .i64) .nilT))))))), .raw, .raw, (.tup (.cons .sl (.cons (.int .i64) .nilT))), .raw, (.agg (.cons (.int .i64) (.cons (.int .i64) (.cons .sl .nilT)))), (.agg (.cons (.int .i64) (.cons (.int .i64) (.cons .sl .nilT)))), .raw, .raw, .raw, .raw, (.agg (.cons .ptr (.cons .ptr (.cons .ptr (.cons .str .nilT))))), (.agg (.cons .ptr (.cons .ptr (.cons .ptr (.cons .str .nilT))))), (.agg .nilT), (.agg .nilT), (.agg .nilT), (.int .u32), (.int .u8), (.int .u8), .raw, .ptr, (.int .i32), (.int .i32), (.agg (.cons (.int .u64) (.cons (.int .u64) (.cons (.int .u32) (.cons (.int .u8) (.cons (.int .u8) (.cons (.int .u8) (.cons (.int .u8) (.cons .raw (.cons .ptr (.cons (.int .i32) (.cons (.int .i32) .nilT)))))))))))), (.agg (.cons (.int .u64) (.cons (.int .u64) (.cons (.int .u32) (.cons (.int .u8) (.cons (.int .u8) (.cons (.int .u8) (.cons (.int .u8) (.cons .raw (.cons .ptr (.cons (.int .i32) (.cons (.int .i32) .nilT))))))))))))]

/-- sluice/sluicelaw20.DiskLasts -/
def T3 (p0 : Int) (p1 : Sl) (p2 : Int) (w : World) (K : Bool → World → Prop) : Prop :=
  SplitB (decide ((p1.len : Int) > 300))
    (K true w)
    (CallK Try.prog (.int .i64) 10 #[.int .i64 p0] w fun t24 w =>
    CallK Try.prog (.tup (.cons .ptr (.cons (.int .i64) .nilT))) 11 #[.int .i64 t24] w fun t27 w =>
    JoinX (α := Bool × Unit) (fun j2 w =>
      SplitB j2.1
        (K false w)
        (LoopX (α := Sl × Int × Unit) (fun s3 w k4 =>
          SplitB (decide (s3.2.1 < t24))
            (CallK Try.prog .sl 13 #[.int .u8 0] w fun t43 w =>
            RunN Try.prog .sl (V (Instr.buildSlice 29 1 #[(0, .slice t43.a t43.len t43.cap)])) w fun t44 w =>
            RunN Try.prog .sl (V (Builtin.append_ #[29, 29] 29 #[.slice s3.1.a s3.1.len s3.1.cap, .slice t44.a t44.len t44.cap])) w fun t45 w =>
            k4 (t45, IntKind.i64.wrap (s3.2.1 + 1), ()) w)
            (LoopX (α := Int × Unit) (fun s5 w k6 =>
              SplitB (decide (s5.1 < (p1.len : Int)))
                (JoinX (α := Unit) (fun j8 w =>
                  k6 (IntKind.i64.wrap (s5.1 + 1), ()) w)
                fun k7 =>
                  RunN Try.prog .addr (V (Instr.indexAt 22 (.slice p1.a p1.len p1.cap) (.int .i64 s5.1))) w fun t54 w =>
                  RunN Try.prog (.int .i64) (V (Instr.loadAt 3 (.pointer (some (t54.add 0))))) w fun t56 w =>
                  CallK Try.prog (.int .i64) 14 #[.int .i64 t56, .int .i64 t24] w fun t58 w =>
                  RunN Try.prog .addr (V (Instr.indexAt 22 (.slice p1.a p1.len p1.cap) (.int .i64 s5.1))) w fun t61 w =>
                  RunN Try.prog (.int .u8) (V (Instr.loadAt 5 (.pointer (some (t61.add 1))))) w fun t63 w =>
                  CallK Try.prog .sl 13 #[.int .u8 t63] w fun t64 w =>
                  CallK Try.prog (.int .i64) 15 #[.pointer t27.1, .int .i64 t58, .slice t64.a t64.len t64.cap] w fun t68 w =>
                  CallK Try.prog (.int .i64) 12 #[.int .i64 t68] w fun t69 w =>
                  SplitB (t69 != 0)
                    (K false w)
                    (RunN Try.prog .addr (V (Instr.indexAt 22 (.slice p1.a p1.len p1.cap) (.int .i64 s5.1))) w fun t75 w =>
                    RunN Try.prog (.int .u8) (V (Instr.loadAt 5 (.pointer (some (t75.add 1))))) w fun t77 w =>
                    CallK Try.prog .sl 13 #[.int .u8 t77] w fun t78 w =>
                    RunN Try.prog .addr (V (Instr.indexAt 29 (.slice s3.1.a s3.1.len s3.1.cap) (.int .i64 t58))) w fun t79 w =>
                    RunU Try.prog (U (Instr.storeAt 30 (.pointer (some t79)) (.slice t78.a t78.len t78.cap))) w fun w =>
                    CallK Try.prog (.int .i64) 14 #[.int .i64 p2, .int .i64 (p1.len : Int)] w fun t84 w =>
                    SplitB (s5.1 == t84)
                      (CallK Try.prog (.tup .nilT) 16 #[.pointer t27.1] w fun t87 w =>
                      CallK Try.prog (.tup (.cons .sl (.cons (.int .i64) .nilT))) 17 #[.pointer t27.1, .int .i64 0] w fun t90 w =>
                      CallK Try.prog .sl 13 #[.int .u8 9] w fun t94 w =>
                      CallK Try.prog (.int .i64) 15 #[.pointer t27.1, .int .i64 0, .slice t94.a t94.len t94.cap] w fun t95 w =>
                      JoinX (α := Bool × Unit) (fun j10 w =>
                        SplitB j10.1
                          (K false w)
                          (CallK Try.prog (.tup .nilT) 19 #[.pointer t27.1] w fun t109 w =>
                          k7 () w))
                      fun k9 =>
                        CallK Try.prog (.int .i64) 12 #[.int .i64 t90.2.1] w fun t97 w =>
                        SplitB (t97 != 200)
                          (k9 (true, ()) w)
                          (CallK Try.prog (.int .i64) 12 #[.int .i64 t95] w fun t101 w =>
                          SplitB (t101 != 200)
                            (k9 (true, ()) w)
                            (CallK Try.prog .bool 18 #[.pointer t27.1] w fun t106 w =>
                            k9 (t106, ()) w)))
                      (k7 () w)))
                (LoopX (α := Int × Unit) (fun s11 w k12 =>
                  SplitB (decide (s11.1 < t24))
                    (RunN Try.prog .addr (V (Instr.indexAt 29 (.slice s3.1.a s3.1.len s3.1.cap) (.int .i64 s11.1))) w fun t119 w =>
                    RunN Try.prog .sl (V (Instr.loadAt 30 (.pointer (some t119)))) w fun t120 w =>
                    CallK Try.prog .bool 20 #[.pointer t27.1, .int .i64 s11.1, .slice t120.a t120.len t120.cap] w fun t121 w =>
                    SplitB (!t121)
                      (K false w)
                      (k12 (IntKind.i64.wrap (s11.1 + 1), ()) w))
                    (CallK Try.prog .bool 18 #[.pointer t27.1] w fun t125 w =>
                    SplitB t125
                      (CallK Try.prog (.int .i64) 21 #[.pointer t27.1] w fun t128 w =>
                      SplitB (t128 == (p1.len : Int))
                        (CallK Try.prog .sl 22 #[.pointer t27.1] w fun t135 w =>
                        K ((t135.len : Int) == (IntKind.i64.wrap (512 * t24))) w)
                        (K false w))
                      (K false w)))
                (0, ()) w))
            (0, ()) w))
        ((⟨none, 0, 0⟩ : Sl), 0, ()) w))
    fun k1 =>
      CallK Try.prog (.int .i64) 12 #[.int .i64 t27.2.1] w fun t31 w =>
      SplitB (t31 != 0)
        (k1 (true, ()) w)
        (RunN Try.prog .bool (V (do eqGuard .eql 24 (.tmp 34) (.const (.pointer none)) (.pointer t27.1) (.pointer none); binOp .eql 24 (.pointer t27.1) (.pointer none))) w fun t35 w =>
        k1 (t35, ()) w))
theorem T3.calls {p0 : Int} {p1 : Sl} {p2 : Int} {w : World} {K : Bool → World → Prop} (h : T3 p0 p1 p2 w K) : CallK Try.prog .bool 3 #[.int .i64 p0, .slice p1.a p1.len p1.cap, .int .i64 p2] w K :=
  bodyZ_sound (κ := kappa) (ann := [(7, [(36, .bool)]), (12, [(10, .sl), (11, (.int .i64))]), (18, [(12, (.int .i64))]), (21, []), (33, [(107, .bool)]), (37, [(18, (.int .i64))])]) (fn := Try.f3) Try.func3 rfl (by kernel_rfl) (cast (show T3 p0 p1 p2 w K = bodyZ Try.prog kappa [(7, [(36, .bool)]), (12, [(10, .sl), (11, (.int .i64))]), (18, [(12, (.int .i64))]), (21, []), (33, [(107, .bool)]), (37, [(18, (.int .i64))])] .bool Try.f3 [.int .i64 p0, .slice p1.a p1.len p1.cap, .int .i64 p2] w K by kernel_rfl) h)

/-- sluice/sluicelaw20.DiskTorn -/
def T4 (p0 : Int) (p1 : Sl) (p2 : Int) (p3 : Int) (w : World) (K : Bool → World → Prop) : Prop :=
  JoinX (α := Bool × Unit) (fun j2 w =>
    SplitB j2.1
      (K true w)
      (CallK Try.prog (.int .i64) 10 #[.int .i64 p0] w fun t33 w =>
      CallK Try.prog (.int .i64) 14 #[.int .i64 p2, .int .i64 (p1.len : Int)] w fun t37 w =>
      CallK Try.prog (.int .i64) 14 #[.int .i64 p3, .int .i64 513] w fun t39 w =>
      CallK Try.prog (.tup (.cons .ptr (.cons (.int .i64) .nilT))) 11 #[.int .i64 t33] w fun t42 w =>
      JoinX (α := Bool × Unit) (fun j4 w =>
        SplitB j4.1
          (K false w)
          (LoopX (α := Sl × Int × Unit) (fun s5 w k6 =>
            SplitB (decide (s5.2.1 < t33))
              (CallK Try.prog .sl 13 #[.int .u8 0] w fun t58 w =>
              RunN Try.prog .sl (V (Instr.buildSlice 29 1 #[(0, .slice t58.a t58.len t58.cap)])) w fun t59 w =>
              RunN Try.prog .sl (V (Builtin.append_ #[29, 29] 29 #[.slice s5.1.a s5.1.len s5.1.cap, .slice t59.a t59.len t59.cap])) w fun t60 w =>
              k6 (t60, IntKind.i64.wrap (s5.2.1 + 1), ()) w)
              (CallK Try.prog (.tup .nilT) 23 #[.pointer t42.1, .int .i64 t37, .int .i64 t39] w fun t64 w =>
              LoopX (α := Int × Unit) (fun s7 w k8 =>
                SplitB (decide (s7.1 < (p1.len : Int)))
                  (JoinX (α := Unit) (fun j10 w =>
                    k8 (IntKind.i64.wrap (s7.1 + 1), ()) w)
                  fun k9 =>
                    RunN Try.prog .addr (V (Instr.indexAt 22 (.slice p1.a p1.len p1.cap) (.int .i64 s7.1))) w fun t73 w =>
                    RunN Try.prog (.int .i64) (V (Instr.loadAt 3 (.pointer (some (t73.add 0))))) w fun t75 w =>
                    CallK Try.prog (.int .i64) 14 #[.int .i64 t75, .int .i64 t33] w fun t77 w =>
                    RunN Try.prog .addr (V (Instr.indexAt 22 (.slice p1.a p1.len p1.cap) (.int .i64 s7.1))) w fun t80 w =>
                    RunN Try.prog (.int .u8) (V (Instr.loadAt 5 (.pointer (some (t80.add 1))))) w fun t82 w =>
                    CallK Try.prog .sl 13 #[.int .u8 t82] w fun t83 w =>
                    CallK Try.prog (.int .i64) 15 #[.pointer t42.1, .int .i64 t77, .slice t83.a t83.len t83.cap] w fun t87 w =>
                    CallK Try.prog (.int .i64) 12 #[.int .i64 t87] w fun t88 w =>
                    JoinX (α := Bool × Unit) (fun j12 w =>
                      SplitB j12.1
                        (K false w)
                        (JoinX (α := Unit) (fun j14 w =>
                          SplitB (s7.1 == t37)
                            (RunN Try.prog .addr (V (Instr.indexAt 22 (.slice p1.a p1.len p1.cap) (.int .i64 s7.1))) w fun t125 w =>
                            RunN Try.prog (.int .u8) (V (Instr.loadAt 5 (.pointer (some (t125.add 1))))) w fun t127 w =>
                            CallK Try.prog .sl 13 #[.int .u8 t127] w fun t128 w =>
                            ReadN Try.prog .sl (V (Instr.sliceAt 30 (.slice t128.a t128.len t128.cap) (some (.int .i64 t39)) none none)) w.drew fun t131 =>
                            ReadN Try.prog .addr (V (Instr.indexAt 29 (.slice s5.1.a s5.1.len s5.1.cap) (.int .i64 t77))) w.drew fun t134 =>
                            ReadN Try.prog .sl (V (Instr.loadAt 30 (.pointer (some t134)))) w.drew fun t135 =>
                            ReadN Try.prog .sl (V (Instr.sliceAt 30 (.slice t135.a t135.len t135.cap) (some (.int .i64 t39)) none none)) w.drew fun t137 =>
                            RunN Try.prog (.int .i64) (V (Builtin.copy_ #[30, 30] 3 #[.slice t131.a t131.len t131.cap, .slice t137.a t137.len t137.cap])) w.drew fun t138 w =>
                            RunN Try.prog .addr (V (Instr.indexAt 29 (.slice s5.1.a s5.1.len s5.1.cap) (.int .i64 t77))) w fun t142 w =>
                            RunU Try.prog (U (Instr.storeAt 30 (.pointer (some t142)) (.slice t128.a t128.len t128.cap))) w fun w =>
                            k9 () w)
                            (k9 () w))
                        fun k13 =>
                          SplitB (decide (s7.1 < t37))
                            (RunN Try.prog .addr (V (Instr.indexAt 29 (.slice s5.1.a s5.1.len s5.1.cap) (.int .i64 t77))) w fun t119 w =>
                            RunU Try.prog (U (Instr.storeAt 30 (.pointer (some t119)) (.slice t83.a t83.len t83.cap))) w fun w =>
                            k13 () w)
                            (k13 () w)))
                    fun k11 =>
                      SplitB (decide (s7.1 < t37))
                        (SplitB (t88 != 0)
                          (k11 (true, ()) w)
                          (SplitB (decide (s7.1 ≥ t37))
                            (SplitB (t88 != 200)
                              (k11 (true, ()) w)
                              (CallK Try.prog .bool 18 #[.pointer t42.1] w fun t107 w =>
                              k11 (!(t107 == (decide (s7.1 < t37))), ()) w))
                            (CallK Try.prog .bool 18 #[.pointer t42.1] w fun t107 w =>
                            k11 (!(t107 == (decide (s7.1 < t37))), ()) w)))
                        (SplitB (decide (s7.1 ≥ t37))
                          (SplitB (t88 != 200)
                            (k11 (true, ()) w)
                            (CallK Try.prog .bool 18 #[.pointer t42.1] w fun t107 w =>
                            k11 (!(t107 == (decide (s7.1 < t37))), ()) w))
                          (CallK Try.prog .bool 18 #[.pointer t42.1] w fun t107 w =>
                          k11 (!(t107 == (decide (s7.1 < t37))), ()) w)))
                  (CallK Try.prog (.tup .nilT) 19 #[.pointer t42.1] w fun t144 w =>
                  LoopX (α := Int × Unit) (fun s15 w k16 =>
                    SplitB (decide (s15.1 < t33))
                      (RunN Try.prog .addr (V (Instr.indexAt 29 (.slice s5.1.a s5.1.len s5.1.cap) (.int .i64 s15.1))) w fun t154 w =>
                      RunN Try.prog .sl (V (Instr.loadAt 30 (.pointer (some t154)))) w fun t155 w =>
                      CallK Try.prog .bool 20 #[.pointer t42.1, .int .i64 s15.1, .slice t155.a t155.len t155.cap] w fun t156 w =>
                      SplitB (!t156)
                        (K false w)
                        (k16 (IntKind.i64.wrap (s15.1 + 1), ()) w))
                      (CallK Try.prog .sl 24 #[.pointer t42.1] w fun t160 w =>
                      CallK Try.prog (.int .i64) 21 #[.pointer t42.1] w.drew fun t162 w =>
                      SplitB (t162 == (IntKind.i64.wrap (t37 + 1)))
                        (ReadN Try.prog (.int .i64) (V (Builtin.min_ #[3, 3] 3 #[.int .i64 (IntKind.i64.wrap (t37 + 1)), .int .i64 64])) w fun t171 =>
                        SplitB ((t160.len : Int) == t171)
                          (ReadN Try.prog .addr (V (Instr.indexAt 44 (.slice t160.a t160.len t160.cap) (.int .i64 (IntKind.i64.wrap ((t160.len : Int) - 1))))) w fun t179 =>
                          ReadN Try.prog (.int .i64) (V (Instr.loadAt 3 (.pointer (some t179)))) w fun t180 =>
                          ReadN Try.prog .addr (V (Instr.indexAt 22 (.slice p1.a p1.len p1.cap) (.int .i64 t37))) w fun t183 =>
                          ReadN Try.prog (.int .i64) (V (Instr.loadAt 3 (.pointer (some (t183.add 0))))) w fun t185 =>
                          CallK Try.prog (.int .i64) 14 #[.int .i64 t185, .int .i64 t33] w fun t187 w =>
                          StillV Try.prog (V (Instr.loadAt 3 (.pointer (some t179)))) (.int .i64 t180) w ∧
                          StillV Try.prog (V (Instr.indexAt 44 (.slice t160.a t160.len t160.cap) (.int .i64 (IntKind.i64.wrap ((t160.len : Int) - 1))))) (.pointer (some t179)) w ∧
                          SplitB (t180 == t187)
                            (CallK Try.prog .sl 13 #[.int .u8 1] w fun t192 w =>
                            CallK Try.prog (.int .i64) 15 #[.pointer t42.1, .int .i64 0, .slice t192.a t192.len t192.cap] w fun t193 w =>
                            CallK Try.prog (.int .i64) 12 #[.int .i64 t193] w fun t194 w =>
                            K (t194 == 0) w)
                            (K false w))
                          (K false w))
                        (K false w)))
                  (0, ()) w))
              (0, ()) w))
          ((⟨none, 0, 0⟩ : Sl), 0, ()) w))
      fun k3 =>
        CallK Try.prog (.int .i64) 12 #[.int .i64 t42.2.1] w fun t46 w =>
        SplitB (t46 != 0)
          (k3 (true, ()) w)
          (RunN Try.prog .bool (V (do eqGuard .eql 24 (.tmp 49) (.const (.pointer none)) (.pointer t42.1) (.pointer none); binOp .eql 24 (.pointer t42.1) (.pointer none))) w fun t50 w =>
          k3 (t50, ()) w)))
  fun k1 =>
    SplitB (decide ((p1.len : Int) > 300))
      (k1 (true, ()) w)
      (k1 ((p1.len : Int) == 0, ()) w)
theorem T4.calls {p0 : Int} {p1 : Sl} {p2 : Int} {p3 : Int} {w : World} {K : Bool → World → Prop} (h : T4 p0 p1 p2 p3 w K) : CallK Try.prog .bool 4 #[.int .i64 p0, .slice p1.a p1.len p1.cap, .int .i64 p2, .int .i64 p3] w K :=
  bodyZ_sound (κ := kappa) (ann := [(2, [(31, .bool)]), (9, [(51, .bool)]), (14, [(14, .sl), (15, (.int .i64))]), (21, [(16, (.int .i64))]), (24, []), (29, [(112, .bool)]), (31, []), (39, [(21, (.int .i64))])]) (fn := Try.f4) Try.func4 rfl (by kernel_rfl) (cast (show T4 p0 p1 p2 p3 w K = bodyZ Try.prog kappa [(2, [(31, .bool)]), (9, [(51, .bool)]), (14, [(14, .sl), (15, (.int .i64))]), (21, [(16, (.int .i64))]), (24, []), (29, [(112, .bool)]), (31, []), (39, [(21, (.int .i64))])] .bool Try.f4 [.int .i64 p0, .slice p1.a p1.len p1.cap, .int .i64 p2, .int .i64 p3] w K by kernel_rfl) h)

/-- sluice/sluicelaw20.DiskCopy -/
def T5 (p0 : Int) (p1 : Sl) (p2 : Sl) (w : World) (K : Bool → World → Prop) : Prop :=
  JoinX (α := Bool × Unit) (fun j2 w =>
    SplitB j2.1
      (K true w)
      (CallK Try.prog (.int .i64) 10 #[.int .i64 p0] w fun t28 w =>
      CallK Try.prog (.tup (.cons .ptr (.cons (.int .i64) .nilT))) 11 #[.int .i64 t28] w fun t31 w =>
      JoinX (α := Bool × Unit) (fun j4 w =>
        SplitB j4.1
          (K false w)
          (LoopX (α := Int × Unit) (fun s5 w k6 =>
            SplitB (decide (s5.1 < (p1.len : Int)))
              (ReadN Try.prog .addr (V (Instr.indexAt 22 (.slice p1.a p1.len p1.cap) (.int .i64 s5.1))) w.drew fun t50 =>
              ReadN Try.prog (.int .i64) (V (Instr.loadAt 3 (.pointer (some (t50.add 0))))) w.drew fun t52 =>
              ReadN Try.prog .addr (V (Instr.indexAt 22 (.slice p1.a p1.len p1.cap) (.int .i64 s5.1))) w.drew fun t57 =>
              ReadN Try.prog (.int .u8) (V (Instr.loadAt 5 (.pointer (some (t57.add 1))))) w.drew fun t59 =>
              CallK Try.prog (.int .i64) 14 #[.int .i64 t52, .int .i64 t28] w.drew fun t54 w =>
              StillV Try.prog (V (Instr.loadAt 5 (.pointer (some (t57.add 1))))) (.int .u8 t59) w ∧
              StillV Try.prog (V (Instr.indexAt 22 (.slice p1.a p1.len p1.cap) (.int .i64 s5.1))) (.pointer (some t57)) w ∧
              CallK Try.prog .sl 13 #[.int .u8 t59] w fun t60 w =>
              CallK Try.prog (.int .i64) 15 #[.pointer t31.1, .int .i64 t54, .slice t60.a t60.len t60.cap] w fun t61 w =>
              k6 (IntKind.i64.wrap (s5.1 + 1), ()) w)
              (CallK Try.prog .sl 22 #[.pointer t31.1] w fun t63 w =>
              RunN Try.prog .str (V (convert 30 9 (.slice t63.a t63.len t63.cap))) w fun t65 w =>
              CallK Try.prog (.tup (.cons .ptr (.cons (.int .i64) .nilT))) 25 #[.slice t63.a t63.len t63.cap] w fun t68 w =>
              JoinX (α := Bool × Unit) (fun j8 w =>
                SplitB j8.1
                  (K false w)
                  (CallK Try.prog (.tup .nilT) 27 #[.slice t63.a t63.len t63.cap] w fun t92 w =>
                  JoinX (α := Bool × Unit) (fun j10 w =>
                    SplitB j10.1
                      (K false w)
                      (LoopX (α := Int × Unit) (fun s11 w k12 =>
                        SplitB (decide (s11.1 < (p2.len : Int)))
                          (ReadN Try.prog .addr (V (Instr.indexAt 22 (.slice p2.a p2.len p2.cap) (.int .i64 s11.1))) w.drew fun t114 =>
                          ReadN Try.prog (.int .i64) (V (Instr.loadAt 3 (.pointer (some (t114.add 0))))) w.drew fun t116 =>
                          ReadN Try.prog .addr (V (Instr.indexAt 22 (.slice p2.a p2.len p2.cap) (.int .i64 s11.1))) w.drew fun t121 =>
                          ReadN Try.prog (.int .u8) (V (Instr.loadAt 5 (.pointer (some (t121.add 1))))) w.drew fun t123 =>
                          CallK Try.prog (.int .i64) 14 #[.int .i64 t116, .int .i64 t28] w.drew fun t118 w =>
                          StillV Try.prog (V (Instr.loadAt 5 (.pointer (some (t121.add 1))))) (.int .u8 t123) w ∧
                          StillV Try.prog (V (Instr.indexAt 22 (.slice p2.a p2.len p2.cap) (.int .i64 s11.1))) (.pointer (some t121)) w ∧
                          CallK Try.prog .sl 13 #[.int .u8 t123] w fun t124 w =>
                          CallK Try.prog (.int .i64) 15 #[.pointer t68.1, .int .i64 t118, .slice t124.a t124.len t124.cap] w fun t125 w =>
                          RunN Try.prog .addr (V (Instr.indexAt 22 (.slice p2.a p2.len p2.cap) (.int .i64 s11.1))) w fun t130 w =>
                          RunN Try.prog (.int .i64) (V (Instr.loadAt 3 (.pointer (some (t130.add 0))))) w fun t132 w =>
                          CallK Try.prog (.int .i64) 14 #[.int .i64 t132, .int .i64 t28] w fun t134 w =>
                          CallK Try.prog (.tup (.cons .sl (.cons (.int .i64) .nilT))) 17 #[.pointer t68.1, .int .i64 t134] w fun t135 w =>
                          RunN Try.prog .addr (V (Instr.indexAt 22 (.slice p2.a p2.len p2.cap) (.int .i64 s11.1))) w fun t141 w =>
                          RunN Try.prog (.int .u8) (V (Instr.loadAt 5 (.pointer (some (t141.add 1))))) w fun t143 w =>
                          CallK Try.prog .sl 13 #[.int .u8 t143] w fun t144 w =>
                          CallK Try.prog .bool 28 #[.slice t135.1.a t135.1.len t135.1.cap, .slice t144.a t144.len t144.cap] w fun t145 w =>
                          CallK Try.prog (.tup .nilT) 27 #[.slice t135.1.a t135.1.len t135.1.cap] w fun t147 w =>
                          JoinX (α := Bool × Unit) (fun j14 w =>
                            SplitB j14.1
                              (K false w)
                              (k12 (IntKind.i64.wrap (s11.1 + 1), ()) w))
                          fun k13 =>
                            SplitB (!t145)
                              (k13 (true, ()) w.drew)
                              (ReadN Try.prog .addr (V (Instr.indexAt 22 (.slice p2.a p2.len p2.cap) (.int .i64 s11.1))) w.drew fun t154 =>
                              ReadN Try.prog (.int .i64) (V (Instr.loadAt 3 (.pointer (some (t154.add 0))))) w.drew fun t156 =>
                              ReadN Try.prog .addr (V (Instr.indexAt 22 (.slice p2.a p2.len p2.cap) (.int .i64 s11.1))) w.drew fun t161 =>
                              ReadN Try.prog (.int .u8) (V (Instr.loadAt 5 (.pointer (some (t161.add 1))))) w.drew fun t163 =>
                              CallK Try.prog (.int .i64) 14 #[.int .i64 t156, .int .i64 t28] w.drew fun t158 w =>
                              StillV Try.prog (V (Instr.loadAt 5 (.pointer (some (t161.add 1))))) (.int .u8 t163) w ∧
                              StillV Try.prog (V (Instr.indexAt 22 (.slice p2.a p2.len p2.cap) (.int .i64 s11.1))) (.pointer (some t161)) w ∧
                              CallK Try.prog .sl 13 #[.int .u8 t163] w fun t164 w =>
                              CallK Try.prog .bool 20 #[.pointer t68.1, .int .i64 t158, .slice t164.a t164.len t164.cap] w fun t165 w =>
                              SplitB (!t165)
                                (k13 (true, ()) w)
                                (CallK Try.prog .sl 22 #[.pointer t31.1] w fun t170 w =>
                                ReadN Try.prog .str (V (convert 30 9 (.slice t170.a t170.len t170.cap))) w fun t171 =>
                                k13 (!(t171.toList == t65.toList), ()) w)))
                          (CallK Try.prog (.tup .nilT) 16 #[.pointer t68.1] w fun t176 w =>
                          CallK Try.prog .bool 18 #[.pointer t31.1] w fun t178 w =>
                          SplitB t178
                            (CallK Try.prog .bool 18 #[.pointer t68.1] w fun t181 w =>
                            SplitB (!t181)
                              (CallK Try.prog (.int .i64) 21 #[.pointer t68.1] w fun t186 w =>
                              SplitB (t186 == (p2.len : Int))
                                (CallK Try.prog (.int .i64) 21 #[.pointer t31.1] w fun t193 w =>
                                SplitB (t193 == (p1.len : Int))
                                  (CallK Try.prog .sl 22 #[.pointer t31.1] w fun t200 w =>
                                  RunN Try.prog .str (V (convert 30 9 (.slice t200.a t200.len t200.cap))) w fun t201 w =>
                                  K (t201.toList == t65.toList) w)
                                  (K false w))
                                (K false w))
                              (K false w))
                            (K false w)))
                      (0, ()) w))
                  fun k9 =>
                    CallK Try.prog .sl 22 #[.pointer t68.1] w fun t94 w =>
                    RunN Try.prog .str (V (convert 30 9 (.slice t94.a t94.len t94.cap))) w fun t95 w =>
                    SplitB (!(t95.toList == t65.toList))
                      (k9 (true, ()) w)
                      (CallK Try.prog .sl 22 #[.pointer t31.1] w fun t100 w =>
                      RunN Try.prog .str (V (convert 30 9 (.slice t100.a t100.len t100.cap))) w fun t101 w =>
                      k9 (!(t101.toList == t65.toList), ()) w)))
              fun k7 =>
                CallK Try.prog (.int .i64) 12 #[.int .i64 t68.2.1] w fun t72 w =>
                SplitB (t72 != 0)
                  (k7 (true, ()) w)
                  (RunN Try.prog .bool (V (do eqGuard .eql 24 (.tmp 75) (.const (.pointer none)) (.pointer t68.1) (.pointer none); binOp .eql 24 (.pointer t68.1) (.pointer none))) w fun t76 w =>
                  SplitB t76
                    (k7 (true, ()) w)
                    (CallK Try.prog (.int .i64) 26 #[.pointer t68.1] w fun t80 w =>
                    SplitB (t80 != t28)
                      (k7 (true, ()) w)
                      (k7 ((t65.size : Int) != (IntKind.i64.wrap (512 * t28)), ()) w)))))
          (0, ()) w))
      fun k3 =>
        CallK Try.prog (.int .i64) 12 #[.int .i64 t31.2.1] w fun t35 w =>
        SplitB (t35 != 0)
          (k3 (true, ()) w)
          (RunN Try.prog .bool (V (do eqGuard .eql 24 (.tmp 38) (.const (.pointer none)) (.pointer t31.1) (.pointer none); binOp .eql 24 (.pointer t31.1) (.pointer none))) w fun t39 w =>
          k3 (t39, ()) w)))
  fun k1 =>
    SplitB (decide ((p1.len : Int) > 200))
      (k1 (true, ()) w)
      (k1 (decide ((p2.len : Int) > 200), ()) w)
theorem T5.calls {p0 : Int} {p1 : Sl} {p2 : Sl} {w : World} {K : Bool → World → Prop} (h : T5 p0 p1 p2 w K) : CallK Try.prog .bool 5 #[.int .i64 p0, .slice p1.a p1.len p1.cap, .slice p2.a p2.len p2.cap] w K :=
  bodyZ_sound (κ := kappa) (ann := [(2, [(26, .bool)]), (7, [(40, .bool)]), (11, [(10, (.int .i64))]), (19, [(90, .bool)]), (23, [(104, .bool)]), (27, [(15, (.int .i64))]), (35, [(174, .bool)])]) (fn := Try.f5) Try.func5 rfl (by kernel_rfl) (cast (show T5 p0 p1 p2 w K = bodyZ Try.prog kappa [(2, [(26, .bool)]), (7, [(40, .bool)]), (11, [(10, (.int .i64))]), (19, [(90, .bool)]), (23, [(104, .bool)]), (27, [(15, (.int .i64))]), (35, [(174, .bool)])] .bool Try.f5 [.int .i64 p0, .slice p1.a p1.len p1.cap, .slice p2.a p2.len p2.cap] w K by kernel_rfl) h)

/-- sluice/sluicelaw20.count -/
def T10 (p0 : Int) (w : World) (K : Int → World → Prop) : Prop :=
  K (IntKind.i64.wrap (1 + (bitAnd .i64 p0 63))) w
theorem T10.calls {p0 : Int} {w : World} {K : Int → World → Prop} (h : T10 p0 w K) : CallK Try.prog (.int .i64) 10 #[.int .i64 p0] w K :=
  bodyZ_sound (κ := kappa) (ann := []) (fn := Try.f10) Try.func10 rfl (by kernel_rfl) (cast (show T10 p0 w K = bodyZ Try.prog kappa [] (.int .i64) Try.f10 [.int .i64 p0] w K by kernel_rfl) h)

/-- sluice/disk.New -/
def T11 (p0 : Int) (w : World) (K : (Option Addr × Int × Unit) → World → Prop) : Prop :=
  JoinX (α := Bool × Unit) (fun j2 w =>
    SplitB j2.1
      (K (none, 1, ()) w)
      (RunN Try.prog .sl (V (Instr.makeSlice 68 (.int .i64 p0) (.int .i64 p0))) w fun t11 w =>
      RunN Try.prog .raw (V (Instr.build 71 #[(0, .slice t11.a t11.len t11.cap)])) w fun t12 w =>
      RunN Try.prog .addr (V (Instr.box 71 (t12))) w fun t13 w =>
      K (some t13, 0, ()) w))
  fun k1 =>
    SplitB (decide (p0 < 1))
      (k1 (true, ()) w)
      (k1 (decide (p0 > 65536), ()) w)
theorem T11.calls {p0 : Int} {w : World} {K : (Option Addr × Int × Unit) → World → Prop} (h : T11 p0 w K) : CallK Try.prog (.tup (.cons .ptr (.cons (.int .i64) .nilT))) 11 #[.int .i64 p0] w K :=
  bodyZ_sound (κ := kappa) (ann := [(2, [(9, .bool)])]) (fn := Try.f11) Try.func11 rfl (by kernel_rfl) (cast (show T11 p0 w K = bodyZ Try.prog kappa [(2, [(9, .bool)])] (.tup (.cons .ptr (.cons (.int .i64) .nilT))) Try.f11 [.int .i64 p0] w K by kernel_rfl) h)

/-- sluice/sluicelaw20.num -/
def T12 (p0 : Int) (w : World) (K : Int → World → Prop) : Prop :=
  K p0 w
theorem T12.calls {p0 : Int} {w : World} {K : Int → World → Prop} (h : T12 p0 w K) : CallK Try.prog (.int .i64) 12 #[.int .i64 p0] w K :=
  bodyZ_sound (κ := kappa) (ann := []) (fn := Try.f12) Try.func12 rfl (by kernel_rfl) (cast (show T12 p0 w K = bodyZ Try.prog kappa [] (.int .i64) Try.f12 [.int .i64 p0] w K by kernel_rfl) h)

/-- sluice/sluicelaw20.full -/
def T13 (p0 : Int) (w : World) (K : Sl → World → Prop) : Prop :=
  LoopX (α := Sl × Int × Unit) (fun s1 w k2 =>
    SplitB (decide (s1.2.1 < 512))
      (RunN Try.prog .sl (V (Instr.buildSlice 30 1 #[(0, .int .u8 p0)])) w fun t11 w =>
      RunN Try.prog .sl (V (Builtin.append_ #[30, 30] 30 #[.slice s1.1.a s1.1.len s1.1.cap, .slice t11.a t11.len t11.cap])) w fun t12 w =>
      k2 (t12, IntKind.i64.wrap (s1.2.1 + 1), ()) w)
      (K s1.1 w))
  ((⟨none, 0, 0⟩ : Sl), 0, ()) w
theorem T13.calls {p0 : Int} {w : World} {K : Sl → World → Prop} (h : T13 p0 w K) : CallK Try.prog .sl 13 #[.int .u8 p0] w K :=
  bodyZ_sound (κ := kappa) (ann := [(4, [(3, .sl), (4, (.int .i64))])]) (fn := Try.f13) Try.func13 rfl (by kernel_rfl) (cast (show T13 p0 w K = bodyZ Try.prog kappa [(4, [(3, .sl), (4, (.int .i64))])] .sl Try.f13 [.int .u8 p0] w K by kernel_rfl) h)

/-- sluice/sluicelaw20.slot -/
def T14 (p0 : Int) (p1 : Int) (w : World) (K : Int → World → Prop) : Prop :=
  RunN Try.prog (.int .i64) (V (binOp .rem 3 (.int .i64 p0) (.int .i64 p1))) w fun t7 w =>
  SplitB (decide (t7 < 0))
    (K (IntKind.i64.wrap (t7 + p1)) w)
    (K t7 w)
theorem T14.calls {p0 : Int} {p1 : Int} {w : World} {K : Int → World → Prop} (h : T14 p0 p1 w K) : CallK Try.prog (.int .i64) 14 #[.int .i64 p0, .int .i64 p1] w K :=
  bodyZ_sound (κ := kappa) (ann := []) (fn := Try.f14) Try.func14 rfl (by kernel_rfl) (cast (show T14 p0 p1 w K = bodyZ Try.prog kappa [] (.int .i64) Try.f14 [.int .i64 p0, .int .i64 p1] w K by kernel_rfl) h)

/-- (*sluice/disk.Disk).Write -/
def T15 (p0 : Option Addr) (p1 : Int) (p2 : Sl) (w : World) (K : Int → World → Prop) : Prop :=
  CallK Try.prog (.int .i64) 36 #[.pointer p0, .int .i64 p1] w fun t10 w =>
  SplitB (t10 != 0)
    (K t10 w)
    (SplitB ((p2.len : Int) != 512)
      (K 1 w)
      (NilP p0 fun t19 =>
      ReadN Try.prog (.int .i64) (V (Instr.loadAt 3 (.pointer (some (t19.add 5))))) w.drew fun t21 =>
      NilP p0 fun t24 =>
      ReadN Try.prog .addr (V (Instr.indexAt 69 (.pointer (some (t24.add 6))) (.int .i64 (Int.tmod t21 64)))) w.drew fun t26 =>
      RunU Try.prog (U (Instr.storeAt 3 (.pointer (some t26)) (.int .i64 p1))) w.drew fun w =>
      NilP p0 fun t28 =>
      RunN Try.prog (.int .i64) (V (Instr.loadAt 3 (.pointer (some (t28.add 5))))) w fun t30 w =>
      NilP p0 fun t32 =>
      RunU Try.prog (U (Instr.storeAt 3 (.pointer (some (t32.add 5))) (.int .i64 (IntKind.i64.wrap (t30 + 1))))) w fun w =>
      JoinX (α := Bool × Unit) (fun j2 w =>
        SplitB j2.1
          (NilP p0 fun t50 =>
          ReadN Try.prog (.int .i64) (V (Instr.loadAt 3 (.pointer (some (t50.add 4))))) w.drew fun t52 =>
          ReadN Try.prog .sl (V (Instr.sliceAt 30 (.slice p2.a p2.len p2.cap) none (some (.int .i64 t52)) none)) w.drew fun t53 =>
          CallK Try.prog .sl 37 #[.pointer p0, .int .i64 p1] w.drew fun t47 w =>
          StillV Try.prog (V (Instr.sliceAt 30 (.slice p2.a p2.len p2.cap) none (some (.int .i64 t52)) none)) (.slice t53.a t53.len t53.cap) w ∧
          StillV Try.prog (V (Instr.loadAt 3 (.pointer (some (t50.add 4))))) (.int .i64 t52) w ∧
          RunN Try.prog (.int .i64) (V (Builtin.copy_ #[30, 30] 3 #[.slice t47.a t47.len t47.cap, .slice t53.a t53.len t53.cap])) w fun t54 w =>
          CallK Try.prog (.tup .nilT) 16 #[.pointer p0] w fun t56 w =>
          K 200 w)
          (JoinX (α := Unit) (fun j4 w =>
            CallK Try.prog .sl 37 #[.pointer p0, .int .i64 p1] w fun t70 w =>
            RunN Try.prog (.int .i64) (V (Builtin.copy_ #[30, 30] 3 #[.slice t70.a t70.len t70.cap, .slice p2.a p2.len p2.cap])) w fun t72 w =>
            K 0 w)
          fun k3 =>
            NilP p0 fun t58 =>
            RunN Try.prog .bool (V (Instr.loadAt 4 (.pointer (some (t58.add 2))))) w fun t60 w =>
            SplitB t60
              (NilP p0 fun t62 =>
              RunN Try.prog (.int .i64) (V (Instr.loadAt 3 (.pointer (some (t62.add 3))))) w fun t64 w =>
              NilP p0 fun t66 =>
              RunU Try.prog (U (Instr.storeAt 3 (.pointer (some (t66.add 3))) (.int .i64 (IntKind.i64.wrap (t64 - 1))))) w fun w =>
              k3 () w)
              (k3 () w)))
      fun k1 =>
        NilP p0 fun t35 =>
        RunN Try.prog .bool (V (Instr.loadAt 4 (.pointer (some (t35.add 2))))) w fun t37 w =>
        SplitB t37
          (NilP p0 fun t40 =>
          RunN Try.prog (.int .i64) (V (Instr.loadAt 3 (.pointer (some (t40.add 3))))) w fun t42 w =>
          k1 (t42 == 0, ()) w)
          (k1 (false, ()) w)))
theorem T15.calls {p0 : Option Addr} {p1 : Int} {p2 : Sl} {w : World} {K : Int → World → Prop} (h : T15 p0 p1 p2 w K) : CallK Try.prog (.int .i64) 15 #[.pointer p0, .int .i64 p1, .slice p2.a p2.len p2.cap] w K :=
  bodyZ_sound (κ := kappa) (ann := [(11, [(44, .bool)]), (15, [])]) (fn := Try.f15) Try.func15 rfl (by kernel_rfl) (cast (show T15 p0 p1 p2 w K = bodyZ Try.prog kappa [(11, [(44, .bool)]), (15, [])] (.int .i64) Try.f15 [.pointer p0, .int .i64 p1, .slice p2.a p2.len p2.cap] w K by kernel_rfl) h)

/-- (*sluice/disk.Disk).Off -/
def T16 (p0 : Option Addr) (w : World) (K : Unit → World → Prop) : Prop :=
  NilP p0 fun t4 =>
  RunU Try.prog (U (Instr.storeAt 4 (.pointer (some (t4.add 1))) (.bool true))) w fun w =>
  NilP p0 fun t6 =>
  RunU Try.prog (U (Instr.storeAt 4 (.pointer (some (t6.add 2))) (.bool false))) w fun w =>
  K () w
theorem T16.calls {p0 : Option Addr} {w : World} {K : Unit → World → Prop} (h : T16 p0 w K) : CallK Try.prog (.tup .nilT) 16 #[.pointer p0] w K :=
  bodyZ_sound (κ := kappa) (ann := []) (fn := Try.f16) Try.func16 rfl (by kernel_rfl) (cast (show T16 p0 w K = bodyZ Try.prog kappa [] (.tup .nilT) Try.f16 [.pointer p0] w K by kernel_rfl) h)

/-- (*sluice/disk.Disk).Read -/
def T17 (p0 : Option Addr) (p1 : Int) (w : World) (K : (Sl × Int × Unit) → World → Prop) : Prop :=
  CallK Try.prog (.int .i64) 36 #[.pointer p0, .int .i64 p1] w fun t10 w =>
  SplitB (t10 != 0)
    (K ((⟨none, 0, 0⟩ : Sl), t10, ()) w)
    (RunN Try.prog .sl (V (Instr.makeSlice 30 (.int .i64 512) (.int .i64 512))) w fun t14 w =>
    CallK Try.prog .sl 38 #[.pointer p0, .int .i64 p1] w fun t18 w =>
    RunN Try.prog (.int .i64) (V (Builtin.copy_ #[30, 30] 3 #[.slice t14.a t14.len t14.cap, .slice t18.a t18.len t18.cap])) w fun t19 w =>
    K (t14, 0, ()) w)
theorem T17.calls {p0 : Option Addr} {p1 : Int} {w : World} {K : (Sl × Int × Unit) → World → Prop} (h : T17 p0 p1 w K) : CallK Try.prog (.tup (.cons .sl (.cons (.int .i64) .nilT))) 17 #[.pointer p0, .int .i64 p1] w K :=
  bodyZ_sound (κ := kappa) (ann := []) (fn := Try.f17) Try.func17 rfl (by kernel_rfl) (cast (show T17 p0 p1 w K = bodyZ Try.prog kappa [] (.tup (.cons .sl (.cons (.int .i64) .nilT))) Try.f17 [.pointer p0, .int .i64 p1] w K by kernel_rfl) h)

/-- (*sluice/disk.Disk).IsOn -/
def T18 (p0 : Option Addr) (w : World) (K : Bool → World → Prop) : Prop :=
  NilP p0 fun t4 =>
  RunN Try.prog .bool (V (Instr.loadAt 4 (.pointer (some (t4.add 1))))) w fun t6 w =>
  K (!t6) w
theorem T18.calls {p0 : Option Addr} {w : World} {K : Bool → World → Prop} (h : T18 p0 w K) : CallK Try.prog .bool 18 #[.pointer p0] w K :=
  bodyZ_sound (κ := kappa) (ann := []) (fn := Try.f18) Try.func18 rfl (by kernel_rfl) (cast (show T18 p0 w K = bodyZ Try.prog kappa [] .bool Try.f18 [.pointer p0] w K by kernel_rfl) h)

/-- (*sluice/disk.Disk).On -/
def T19 (p0 : Option Addr) (w : World) (K : Unit → World → Prop) : Prop :=
  NilP p0 fun t3 =>
  RunU Try.prog (U (Instr.storeAt 4 (.pointer (some (t3.add 1))) (.bool false))) w fun w =>
  K () w
theorem T19.calls {p0 : Option Addr} {w : World} {K : Unit → World → Prop} (h : T19 p0 w K) : CallK Try.prog (.tup .nilT) 19 #[.pointer p0] w K :=
  bodyZ_sound (κ := kappa) (ann := []) (fn := Try.f19) Try.func19 rfl (by kernel_rfl) (cast (show T19 p0 w K = bodyZ Try.prog kappa [] (.tup .nilT) Try.f19 [.pointer p0] w K by kernel_rfl) h)

/-- sluice/sluicelaw20.reads -/
def T20 (p0 : Option Addr) (p1 : Int) (p2 : Sl) (w : World) (K : Bool → World → Prop) : Prop :=
  CallK Try.prog (.tup (.cons .sl (.cons (.int .i64) .nilT))) 17 #[.pointer p0, .int .i64 p1] w fun t12 w =>
  CallK Try.prog (.int .i64) 12 #[.int .i64 t12.2.1] w fun t16 w =>
  SplitB (t16 == 0)
    (CallK Try.prog .bool 28 #[.slice t12.1.a t12.1.len t12.1.cap, .slice p2.a p2.len p2.cap] w fun t21 w =>
    K t21 w)
    (K false w)
theorem T20.calls {p0 : Option Addr} {p1 : Int} {p2 : Sl} {w : World} {K : Bool → World → Prop} (h : T20 p0 p1 p2 w K) : CallK Try.prog .bool 20 #[.pointer p0, .int .i64 p1, .slice p2.a p2.len p2.cap] w K :=
  bodyZ_sound (κ := kappa) (ann := []) (fn := Try.f20) Try.func20 rfl (by kernel_rfl) (cast (show T20 p0 p1 p2 w K = bodyZ Try.prog kappa [] .bool Try.f20 [.pointer p0, .int .i64 p1, .slice p2.a p2.len p2.cap] w K by kernel_rfl) h)

/-- (*sluice/disk.Disk).Writes -/
def T21 (p0 : Option Addr) (w : World) (K : Int → World → Prop) : Prop :=
  NilP p0 fun t4 =>
  RunN Try.prog (.int .i64) (V (Instr.loadAt 3 (.pointer (some (t4.add 5))))) w fun t6 w =>
  K t6 w
theorem T21.calls {p0 : Option Addr} {w : World} {K : Int → World → Prop} (h : T21 p0 w K) : CallK Try.prog (.int .i64) 21 #[.pointer p0] w K :=
  bodyZ_sound (κ := kappa) (ann := []) (fn := Try.f21) Try.func21 rfl (by kernel_rfl) (cast (show T21 p0 w K = bodyZ Try.prog kappa [] (.int .i64) Try.f21 [.pointer p0] w K by kernel_rfl) h)

/-- (*sluice/disk.Disk).Image -/
def T22 (p0 : Option Addr) (w : World) (K : Sl → World → Prop) : Prop :=
  NilP p0 fun t6 =>
  RunN Try.prog .sl (V (Instr.loadAt 68 (.pointer (some (t6.add 0))))) w fun t8 w =>
  RunN Try.prog .sl (V (Instr.makeSlice 30 (.int .i64 0) (.int .i64 (IntKind.i64.wrap ((t8.len : Int) * 512))))) w fun t11 w =>
  NilP p0 fun t13 =>
  RunN Try.prog .sl (V (Instr.loadAt 68 (.pointer (some (t13.add 0))))) w fun t15 w =>
  LoopX (α := Sl × Int × Unit) (fun s1 w k2 =>
    SplitB (decide (s1.2.1 < (t15.len : Int)))
      (CallK Try.prog .sl 38 #[.pointer p0, .int .i64 s1.2.1] w fun t23 w =>
      RunN Try.prog .sl (V (Builtin.append_ #[30, 30] 30 #[.slice s1.1.a s1.1.len s1.1.cap, .slice t23.a t23.len t23.cap])) w fun t24 w =>
      k2 (t24, IntKind.i64.wrap (s1.2.1 + 1), ()) w)
      (K s1.1 w))
  (t11, 0, ()) w
theorem T22.calls {p0 : Option Addr} {w : World} {K : Sl → World → Prop} (h : T22 p0 w K) : CallK Try.prog .sl 22 #[.pointer p0] w K :=
  bodyZ_sound (κ := kappa) (ann := [(4, [(3, .sl), (17, (.int .i64))])]) (fn := Try.f22) Try.func22 rfl (by kernel_rfl) (cast (show T22 p0 w K = bodyZ Try.prog kappa [(4, [(3, .sl), (17, (.int .i64))])] .sl Try.f22 [.pointer p0] w K by kernel_rfl) h)

/-- (*sluice/disk.Disk).Arm -/
def T23 (p0 : Option Addr) (p1 : Int) (p2 : Int) (w : World) (K : Unit → World → Prop) : Prop :=
  NilP p0 fun t7 =>
  RunN Try.prog .bool (V (Instr.loadAt 4 (.pointer (some (t7.add 1))))) w fun t9 w =>
  SplitB t9
    (K () w)
    (NilP p0 fun t13 =>
    RunU Try.prog (U (Instr.storeAt 4 (.pointer (some (t13.add 2))) (.bool (decide (p1 ≥ 0))))) w fun w =>
    RunN Try.prog (.int .i64) (V (Builtin.max_ #[3, 3] 3 #[.int .i64 p2, .int .i64 0])) w fun t19 w =>
    RunN Try.prog (.int .i64) (V (Builtin.min_ #[3, 3] 3 #[.int .i64 t19, .int .i64 512])) w fun t20 w =>
    NilP p0 fun t21 =>
    RunU Try.prog (U (Instr.storeAt 3 (.pointer (some (t21.add 3))) (.int .i64 p1))) w fun w =>
    NilP p0 fun t23 =>
    RunU Try.prog (U (Instr.storeAt 3 (.pointer (some (t23.add 4))) (.int .i64 t20))) w fun w =>
    K () w)
theorem T23.calls {p0 : Option Addr} {p1 : Int} {p2 : Int} {w : World} {K : Unit → World → Prop} (h : T23 p0 p1 p2 w K) : CallK Try.prog (.tup .nilT) 23 #[.pointer p0, .int .i64 p1, .int .i64 p2] w K :=
  bodyZ_sound (κ := kappa) (ann := []) (fn := Try.f23) Try.func23 rfl (by kernel_rfl) (cast (show T23 p0 p1 p2 w K = bodyZ Try.prog kappa [] (.tup .nilT) Try.f23 [.pointer p0, .int .i64 p1, .int .i64 p2] w K by kernel_rfl) h)

/-- (*sluice/disk.Disk).Trace -/
def T24 (p0 : Option Addr) (w : World) (K : Sl → World → Prop) : Prop :=
  NilP p0 fun t7 =>
  RunN Try.prog (.int .i64) (V (Instr.loadAt 3 (.pointer (some (t7.add 5))))) w fun t9 w =>
  RunN Try.prog (.int .i64) (V (Builtin.min_ #[3, 3] 3 #[.int .i64 t9, .int .i64 64])) w fun t10 w =>
  RunN Try.prog .sl (V (Instr.makeSlice 44 (.int .i64 0) (.int .i64 t10))) w fun t12 w =>
  NilP p0 fun t14 =>
  RunN Try.prog (.int .i64) (V (Instr.loadAt 3 (.pointer (some (t14.add 5))))) w fun t16 w =>
  LoopX (α := Sl × Int × Unit) (fun s1 w k2 =>
    NilP p0 fun t21 =>
    RunN Try.prog (.int .i64) (V (Instr.loadAt 3 (.pointer (some (t21.add 5))))) w fun t23 w =>
    SplitB (decide (s1.2.1 < t23))
      (NilP p0 fun t31 =>
      RunN Try.prog .addr (V (Instr.indexAt 69 (.pointer (some (t31.add 6))) (.int .i64 (Int.tmod s1.2.1 64)))) w fun t33 w =>
      RunN Try.prog (.int .i64) (V (Instr.loadAt 3 (.pointer (some t33)))) w fun t34 w =>
      RunN Try.prog .sl (V (Instr.buildSlice 44 1 #[(0, .int .i64 t34)])) w fun t35 w =>
      RunN Try.prog .sl (V (Builtin.append_ #[44, 44] 44 #[.slice s1.1.a s1.1.len s1.1.cap, .slice t35.a t35.len t35.cap])) w fun t36 w =>
      k2 (t36, IntKind.i64.wrap (s1.2.1 + 1), ()) w)
      (K s1.1 w))
  (t12, IntKind.i64.wrap (t16 - t10), ()) w
theorem T24.calls {p0 : Option Addr} {w : World} {K : Sl → World → Prop} (h : T24 p0 w K) : CallK Try.prog .sl 24 #[.pointer p0] w K :=
  bodyZ_sound (κ := kappa) (ann := [(5, [(4, .sl), (5, (.int .i64))])]) (fn := Try.f24) Try.func24 rfl (by kernel_rfl) (cast (show T24 p0 w K = bodyZ Try.prog kappa [(5, [(4, .sl), (5, (.int .i64))])] .sl Try.f24 [.pointer p0] w K by kernel_rfl) h)

/-- sluice/disk.From -/
def T25 (p0 : Sl) (w : World) (K : (Option Addr × Int × Unit) → World → Prop) : Prop :=
  SplitB ((Int.tmod (p0.len : Int) 512) != 0)
    (K (none, 1, ()) w)
    (CallK Try.prog (.tup (.cons .ptr (.cons (.int .i64) .nilT))) 11 #[.int .i64 (IntKind.i64.wrap (Int.tdiv (p0.len : Int) 512))] w fun t15 w =>
    SplitB (t15.2.1 != 0)
      (K (none, t15.2.1, ()) w)
      (NilP t15.1 fun t22 =>
      RunN Try.prog .sl (V (Instr.loadAt 68 (.pointer (some (t22.add 0))))) w fun t24 w =>
      LoopX (α := Sl × Int × Unit) (fun s1 w k2 =>
        SplitB (decide (s1.2.1 < (t24.len : Int)))
          (CallK Try.prog .sl 37 #[.pointer t15.1, .int .i64 s1.2.1] w fun t32 w =>
          RunN Try.prog (.int .i64) (V (Builtin.copy_ #[30, 30] 3 #[.slice t32.a t32.len t32.cap, .slice s1.1.a s1.1.len s1.1.cap])) w fun t34 w =>
          RunN Try.prog .sl (V (Instr.sliceAt 30 (.slice s1.1.a s1.1.len s1.1.cap) (some (.int .i64 t34)) none none)) w fun t35 w =>
          k2 (t35, IntKind.i64.wrap (s1.2.1 + 1), ()) w)
          (K (t15.1, 0, ()) w))
      (p0, 0, ()) w))
theorem T25.calls {p0 : Sl} {w : World} {K : (Option Addr × Int × Unit) → World → Prop} (h : T25 p0 w K) : CallK Try.prog (.tup (.cons .ptr (.cons (.int .i64) .nilT))) 25 #[.slice p0.a p0.len p0.cap] w K :=
  bodyZ_sound (κ := kappa) (ann := [(10, [(0, .sl), (26, (.int .i64))])]) (fn := Try.f25) Try.func25 rfl (by kernel_rfl) (cast (show T25 p0 w K = bodyZ Try.prog kappa [(10, [(0, .sl), (26, (.int .i64))])] (.tup (.cons .ptr (.cons (.int .i64) .nilT))) Try.f25 [.slice p0.a p0.len p0.cap] w K by kernel_rfl) h)

/-- (*sluice/disk.Disk).Sectors -/
def T26 (p0 : Option Addr) (w : World) (K : Int → World → Prop) : Prop :=
  NilP p0 fun t4 =>
  RunN Try.prog .sl (V (Instr.loadAt 68 (.pointer (some (t4.add 0))))) w fun t6 w =>
  K (t6.len : Int) w
theorem T26.calls {p0 : Option Addr} {w : World} {K : Int → World → Prop} (h : T26 p0 w K) : CallK Try.prog (.int .i64) 26 #[.pointer p0] w K :=
  bodyZ_sound (κ := kappa) (ann := []) (fn := Try.f26) Try.func26 rfl (by kernel_rfl) (cast (show T26 p0 w K = bodyZ Try.prog kappa [] (.int .i64) Try.f26 [.pointer p0] w K by kernel_rfl) h)

/-- sluice/sluicelaw20.spoil -/
def T27 (p0 : Sl) (w : World) (K : Unit → World → Prop) : Prop :=
  LoopX (α := Int × Unit) (fun s1 w k2 =>
    SplitB (decide (s1.1 < (p0.len : Int)))
      (RunN Try.prog .addr (V (Instr.indexAt 30 (.slice p0.a p0.len p0.cap) (.int .i64 s1.1))) w fun t15 w =>
      RunU Try.prog (U (Instr.storeAt 5 (.pointer (some t15)) (.int .u8 (IntKind.u8.wrap (IntKind.i64.wrap (90 + s1.1)))))) w fun w =>
      k2 (IntKind.i64.wrap (s1.1 + 1), ()) w)
      (LoopX (α := Sl × Int × Unit) (fun s3 w k4 =>
        SplitB (decide (s3.2.1 < 80))
          (RunN Try.prog .sl (V (Instr.buildSlice 30 1 #[(0, .int .u8 (IntKind.u8.wrap (IntKind.i64.wrap (7 + s3.2.1))))])) w fun t24 w =>
          RunN Try.prog .sl (V (Builtin.append_ #[30, 30] 30 #[.slice s3.1.a s3.1.len s3.1.cap, .slice t24.a t24.len t24.cap])) w fun t25 w =>
          k4 (t25, IntKind.i64.wrap (s3.2.1 + 1), ()) w)
          (SplitB (decide ((s3.1.len : Int) > 0))
            (RunN Try.prog .addr (V (Instr.indexAt 30 (.slice s3.1.a s3.1.len s3.1.cap) (.int .i64 (IntKind.i64.wrap ((s3.1.len : Int) - 1))))) w fun t33 w =>
            RunU Try.prog (U (Instr.storeAt 5 (.pointer (some t33)) (.int .u8 8))) w fun w =>
            K () w)
            (K () w)))
      (p0, 0, ()) w))
  (0, ()) w
theorem T27.calls {p0 : Sl} {w : World} {K : Unit → World → Prop} (h : T27 p0 w K) : CallK Try.prog (.tup .nilT) 27 #[.slice p0.a p0.len p0.cap] w K :=
  bodyZ_sound (κ := kappa) (ann := [(2, [(2, (.int .i64))]), (8, [(0, .sl), (3, (.int .i64))])]) (fn := Try.f27) Try.func27 rfl (by kernel_rfl) (cast (show T27 p0 w K = bodyZ Try.prog kappa [(2, [(2, (.int .i64))]), (8, [(0, .sl), (3, (.int .i64))])] (.tup .nilT) Try.f27 [.slice p0.a p0.len p0.cap] w K by kernel_rfl) h)

/-- sluice/sluicelaw20.same -/
def T28 (p0 : Sl) (p1 : Sl) (w : World) (K : Bool → World → Prop) : Prop :=
  RunN Try.prog .str (V (convert 30 9 (.slice p0.a p0.len p0.cap))) w fun t6 w =>
  RunN Try.prog .str (V (convert 30 9 (.slice p1.a p1.len p1.cap))) w fun t8 w =>
  K (t6.toList == t8.toList) w
theorem T28.calls {p0 : Sl} {p1 : Sl} {w : World} {K : Bool → World → Prop} (h : T28 p0 p1 w K) : CallK Try.prog .bool 28 #[.slice p0.a p0.len p0.cap, .slice p1.a p1.len p1.cap] w K :=
  bodyZ_sound (κ := kappa) (ann := []) (fn := Try.f28) Try.func28 rfl (by kernel_rfl) (cast (show T28 p0 p1 w K = bodyZ Try.prog kappa [] .bool Try.f28 [.slice p0.a p0.len p0.cap, .slice p1.a p1.len p1.cap] w K by kernel_rfl) h)

/-- (*sluice/disk.Disk).reach -/
def T36 (p0 : Option Addr) (p1 : Int) (w : World) (K : Int → World → Prop) : Prop :=
  NilP p0 fun t7 =>
  RunN Try.prog .bool (V (Instr.loadAt 4 (.pointer (some (t7.add 1))))) w fun t9 w =>
  SplitB t9
    (K 200 w)
    (JoinX (α := Bool × Unit) (fun j2 w =>
      SplitB j2.1
        (K 201 w)
        (K 0 w))
    fun k1 =>
      SplitB (decide (p1 < 0))
        (k1 (true, ()) w)
        (NilP p0 fun t16 =>
        RunN Try.prog .sl (V (Instr.loadAt 68 (.pointer (some (t16.add 0))))) w fun t18 w =>
        k1 (decide (p1 ≥ (t18.len : Int)), ()) w))
theorem T36.calls {p0 : Option Addr} {p1 : Int} {w : World} {K : Int → World → Prop} (h : T36 p0 p1 w K) : CallK Try.prog (.int .i64) 36 #[.pointer p0, .int .i64 p1] w K :=
  bodyZ_sound (κ := kappa) (ann := [(4, [(10, .bool)])]) (fn := Try.f36) Try.func36 rfl (by kernel_rfl) (cast (show T36 p0 p1 w K = bodyZ Try.prog kappa [(4, [(10, .bool)])] (.int .i64) Try.f36 [.pointer p0, .int .i64 p1] w K by kernel_rfl) h)

/-- (*sluice/disk.Disk).own -/
def T37 (p0 : Option Addr) (p1 : Int) (w : World) (K : Sl → World → Prop) : Prop :=
  JoinX (α := Unit) (fun j2 w =>
    NilP p0 fun t22 =>
    RunN Try.prog .sl (V (Instr.loadAt 68 (.pointer (some (t22.add 0))))) w fun t24 w =>
    RunN Try.prog .addr (V (Instr.indexAt 68 (.slice t24.a t24.len t24.cap) (.int .i64 p1))) w fun t26 w =>
    RunN Try.prog .ptr (V (Instr.loadAt 80 (.pointer (some t26)))) w fun t27 w =>
    NilP t27 fun t28 =>
    RunN Try.prog .sl (V (Instr.sliceAt 82 (.pointer (some t28)) none none none)) w fun t29 w =>
    K t29 w)
  fun k1 =>
    NilP p0 fun t6 =>
    RunN Try.prog .sl (V (Instr.loadAt 68 (.pointer (some (t6.add 0))))) w fun t8 w =>
    RunN Try.prog .addr (V (Instr.indexAt 68 (.slice t8.a t8.len t8.cap) (.int .i64 p1))) w fun t10 w =>
    RunN Try.prog .ptr (V (Instr.loadAt 80 (.pointer (some t10)))) w fun t11 w =>
    RunN Try.prog .bool (V (do eqGuard .eql 80 (.tmp 11) (.const (.pointer none)) (.pointer t11) (.pointer none); binOp .eql 80 (.pointer t11) (.pointer none))) w fun t12 w =>
    SplitB t12
      (NilP p0 fun t14 =>
      RunN Try.prog .sl (V (Instr.loadAt 68 (.pointer (some (t14.add 0))))) w fun t16 w =>
      RunN Try.prog .raw (V (Instr.build 82 #[])) w fun t18 w =>
      RunN Try.prog .addr (V (Instr.box 82 (t18))) w fun t19 w =>
      RunN Try.prog .addr (V (Instr.indexAt 68 (.slice t16.a t16.len t16.cap) (.int .i64 p1))) w fun t20 w =>
      RunU Try.prog (U (Instr.storeAt 80 (.pointer (some t20)) (.pointer (some t19)))) w fun w =>
      k1 () w)
      (k1 () w)
theorem T37.calls {p0 : Option Addr} {p1 : Int} {w : World} {K : Sl → World → Prop} (h : T37 p0 p1 w K) : CallK Try.prog .sl 37 #[.pointer p0, .int .i64 p1] w K :=
  bodyZ_sound (κ := kappa) (ann := [(1, [])]) (fn := Try.f37) Try.func37 rfl (by kernel_rfl) (cast (show T37 p0 p1 w K = bodyZ Try.prog kappa [(1, [])] .sl Try.f37 [.pointer p0, .int .i64 p1] w K by kernel_rfl) h)

/-- (*sluice/disk.Disk).bytes -/
def T38 (p0 : Option Addr) (p1 : Int) (w : World) (K : Sl → World → Prop) : Prop :=
  NilP p0 fun t7 =>
  RunN Try.prog .sl (V (Instr.loadAt 68 (.pointer (some (t7.add 0))))) w fun t9 w =>
  RunN Try.prog .addr (V (Instr.indexAt 68 (.slice t9.a t9.len t9.cap) (.int .i64 p1))) w fun t11 w =>
  RunN Try.prog .ptr (V (Instr.loadAt 80 (.pointer (some t11)))) w fun t12 w =>
  RunN Try.prog .bool (V (do eqGuard .neq 80 (.tmp 13) (.const (.pointer none)) (.pointer t12) (.pointer none); binOp .neq 80 (.pointer t12) (.pointer none))) w fun t14 w =>
  SplitB t14
    (NilP t12 fun t16 =>
    RunN Try.prog .sl (V (Instr.sliceAt 82 (.pointer (some t16)) none none none)) w fun t17 w =>
    K t17 w)
    (RunN Try.prog .sl (V (Instr.makeSlice 30 (.int .i64 512) (.int .i64 512))) w fun t18 w =>
    K t18 w)
theorem T38.calls {p0 : Option Addr} {p1 : Int} {w : World} {K : Sl → World → Prop} (h : T38 p0 p1 w K) : CallK Try.prog .sl 38 #[.pointer p0, .int .i64 p1] w K :=
  bodyZ_sound (κ := kappa) (ann := []) (fn := Try.f38) Try.func38 rfl (by kernel_rfl) (cast (show T38 p0 p1 w K = bodyZ Try.prog kappa [] .sl Try.f38 [.pointer p0, .int .i64 p1] w K by kernel_rfl) h)

end Go.Proofs.Ytpdaoahamgegoaa
