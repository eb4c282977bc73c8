import Derived.Test.YtimebochhbfkgaaProg
import Derived.Test.YtimebochhbfkgaaTJm
namespace Go.Proofs.Ytimebochhbfkgaa
open Go Go.Fw Go.Proofs
set_option maxRecDepth 100000
set_option linter.unusedVariables false

/-- sluice/sluicelaw21.JournalApart -/
def T3 (p0 : Sl) (p1 : Sl) (w : World) (K : Bool → World → Prop) : Prop :=
  RunN Try.prog .addr (V (Instr.alloc 24 true (.tuple #[]))) w fun t5 w =>
  LoopX (α := Int × Unit) (fun s1 w k2 =>
    SplitB (decide (s1.1 < 3))
      (CallK Try.prog (.tup (.cons .ptr (.cons (.int .i64) .nilT))) 10 #[.int .i64 300] w fun t20 w =>
      JoinX (α := Bool × Unit) (fun j4 w =>
        SplitB j4.1
          (K false w)
          (CallK Try.prog (.tup (.cons .ptr (.cons (.int .i64) .nilT))) 11 #[.pointer t20.1] w fun t32 w =>
          RunN Try.prog .addr (V (Instr.indexAt 24 (.pointer (some t5)) (.int .i64 s1.1))) w fun t35 w =>
          RunU Try.prog (U (Instr.storeAt 23 (.pointer (some t35)) (.pointer t32.1))) w fun w =>
          JoinX (α := Bool × Unit) (fun j6 w =>
            SplitB j6.1
              (K false w)
              (k2 (IntKind.i64.wrap (s1.1 + 1), ()) w))
          fun k5 =>
            RunN Try.prog .addr (V (Instr.indexAt 24 (.pointer (some t5)) (.int .i64 s1.1))) w fun t37 w =>
            RunN Try.prog .ptr (V (Instr.loadAt 23 (.pointer (some t37)))) w fun t38 w =>
            RunN Try.prog .bool (V (do eqGuard .eql 23 (.tmp 38) (.const (.pointer none)) (.pointer t38) (.pointer none); binOp .eql 23 (.pointer t38) (.pointer none))) w fun t39 w =>
            SplitB t39
              (k5 (true, ()) w)
              (k5 (t32.2.1 != 0, ()) w)))
      fun k3 =>
        RunN Try.prog .bool (V (do eqGuard .eql 25 (.tmp 23) (.const (.pointer none)) (.pointer t20.1) (.pointer none); binOp .eql 25 (.pointer t20.1) (.pointer none))) w fun t24 w =>
        SplitB t24
          (k3 (true, ()) w)
          (k3 (t20.2.1 != 0, ()) w))
      (LoopX (α := Sl × Int × Unit) (fun s7 w k8 =>
        JoinX (α := Bool × Unit) (fun j10 w =>
          SplitB j10.1
            (JoinX (α := Sl × Unit) (fun j12 w =>
              k8 (j12.1, IntKind.i64.wrap (s7.2.1 + 1), ()) w)
            fun k11 =>
              RunN Try.prog .addr (V (Instr.indexAt 22 (.slice p0.a p0.len p0.cap) (.int .i64 s7.2.1))) w fun t56 w =>
              RunN Try.prog .sl (V (Instr.loadAt 31 (.pointer (some t56)))) w fun t57 w =>
              CallK Try.prog .sl 12 #[.slice t57.a t57.len t57.cap] w fun t59 w =>
              ReadN Try.prog .addr (V (Instr.indexAt 24 (.pointer (some t5)) (.int .i64 0))) w.drew fun t60 =>
              ReadN Try.prog .ptr (V (Instr.loadAt 23 (.pointer (some t60)))) w.drew fun t61 =>
              ReadN Try.prog .sl (V (Instr.sliceAt 31 (.slice t59.a t59.len t59.cap) none (some (.int .i64 (t57.len : Int))) none)) w.drew fun t65 =>
              CallK Try.prog (.int .i64) 13 #[.pointer t61, .slice t65.a t65.len t65.cap] w.drew fun t66 w =>
              CallK Try.prog .bool 14 #[.slice t59.a t59.len t59.cap, .slice t57.a t57.len t57.cap] w fun t69 w =>
              SplitB (!t69)
                (K false w)
                (JoinX (α := Unit) (fun j14 w =>
                  RunN Try.prog .addr (V (Instr.indexAt 24 (.pointer (some t5)) (.int .i64 2))) w fun t82 w =>
                  RunN Try.prog .ptr (V (Instr.loadAt 23 (.pointer (some t82)))) w fun t83 w =>
                  CallK Try.prog (.int .i64) 13 #[.pointer t83, .slice t57.a t57.len t57.cap] w fun t85 w =>
                  JoinX (α := Bool × Unit) (fun j16 w =>
                    SplitB j16.1
                      (K false w)
                      (SplitB (t66 == 0)
                        (RunN Try.prog .sl (V (Instr.buildSlice 22 1 #[(0, .slice t57.a t57.len t57.cap)])) w fun t110 w =>
                        RunN Try.prog .sl (V (Builtin.append_ #[22, 22] 22 #[.slice s7.1.a s7.1.len s7.1.cap, .slice t110.a t110.len t110.cap])) w fun t111 w =>
                        k11 (t111, ()) w)
                        (k11 (s7.1, ()) w)))
                  fun k15 =>
                    SplitB (t66 != t85)
                      (k15 (true, ()) w.drew)
                      (SplitB (!((t66 == 0) == (decide ((t57.len : Int) ≤ 8192))))
                        (k15 (true, ()) w.drew)
                        (ReadN Try.prog .addr (V (Instr.indexAt 24 (.pointer (some t5)) (.int .i64 0))) w.drew fun t98 =>
                        ReadN Try.prog .ptr (V (Instr.loadAt 23 (.pointer (some t98)))) w.drew fun t99 =>
                        ReadN Try.prog .addr (V (Instr.indexAt 24 (.pointer (some t5)) (.int .i64 2))) w.drew fun t101 =>
                        ReadN Try.prog .ptr (V (Instr.loadAt 23 (.pointer (some t101)))) w.drew fun t102 =>
                        CallK Try.prog (.int .i64) 15 #[.pointer t99] w.drew fun t100 w =>
                        StillV Try.prog (V (Instr.loadAt 23 (.pointer (some t101)))) (.pointer t102) w ∧
                        StillV Try.prog (V (Instr.indexAt 24 (.pointer (some t5)) (.int .i64 2))) (.pointer (some t101)) w ∧
                        CallK Try.prog (.int .i64) 15 #[.pointer t102] w fun t103 w =>
                        k15 (t100 != t103, ()) w)))
                fun k13 =>
                  SplitB (decide (s7.2.1 < (p1.len : Int)))
                    (ReadN Try.prog .addr (V (Instr.indexAt 24 (.pointer (some t5)) (.int .i64 1))) w.drew fun t75 =>
                    ReadN Try.prog .ptr (V (Instr.loadAt 23 (.pointer (some t75)))) w.drew fun t76 =>
                    ReadN Try.prog .addr (V (Instr.indexAt 22 (.slice p1.a p1.len p1.cap) (.int .i64 s7.2.1))) w.drew fun t79 =>
                    ReadN Try.prog .sl (V (Instr.loadAt 31 (.pointer (some t79)))) w.drew fun t80 =>
                    CallK Try.prog (.int .i64) 13 #[.pointer t76, .slice t80.a t80.len t80.cap] w.drew fun t81 w =>
                    k13 () w)
                    (k13 () w)))
            (CallK Try.prog .bool 16 #[] w fun t112 w =>
            SplitB t112
              (RunN Try.prog .addr (V (Instr.indexAt 24 (.pointer (some t5)) (.int .i64 0))) w fun t114 w =>
              RunN Try.prog .ptr (V (Instr.loadAt 23 (.pointer (some t114)))) w fun t115 w =>
              CallK Try.prog .bool 17 #[.pointer t115, .slice s7.1.a s7.1.len s7.1.cap] w fun t117 w =>
              SplitB t117
                (RunN Try.prog .addr (V (Instr.indexAt 24 (.pointer (some t5)) (.int .i64 2))) w fun t120 w =>
                RunN Try.prog .ptr (V (Instr.loadAt 23 (.pointer (some t120)))) w fun t121 w =>
                CallK Try.prog .bool 17 #[.pointer t121, .slice s7.1.a s7.1.len s7.1.cap] w fun t123 w =>
                K t123 w)
                (K false w))
              (K false w)))
        fun k9 =>
          SplitB (decide (s7.2.1 < (p0.len : Int)))
            (k9 (decide (s7.2.1 < 12), ()) w)
            (k9 (false, ()) w))
      ((⟨none, 0, 0⟩ : Sl), 0, ()) w))
  (0, ()) w
theorem T3.calls {p0 : Sl} {p1 : Sl} {w : World} {K : Bool → World → Prop} (h : T3 p0 p1 w K) : CallK Try.prog .bool 3 #[.slice p0.a p0.len p0.cap, .slice p1.a p1.len p1.cap] w K :=
  bodyZ_sound (κ := kappa) (ann := [(4, [(6, (.int .i64))]), (10, [(28, .bool)]), (13, [(43, .bool)]), (18, [(9, .sl), (10, (.int .i64))]), (20, [(51, .bool)]), (21, [(9, .sl)]), (28, []), (32, [(105, .bool)])]) (fn := Try.f3) Try.func3 rfl (by kernel_rfl) (cast (show T3 p0 p1 w K = bodyZ Try.prog kappa [(4, [(6, (.int .i64))]), (10, [(28, .bool)]), (13, [(43, .bool)]), (18, [(9, .sl), (10, (.int .i64))]), (20, [(51, .bool)]), (21, [(9, .sl)]), (28, []), (32, [(105, .bool)])] .bool Try.f3 [.slice p0.a p0.len p0.cap, .slice p1.a p1.len p1.cap] w K by kernel_rfl) h)

/-- sluice/sluicelaw21.JournalFills -/
def T4 (p0 : Int) (p1 : Int) (w : World) (K : Bool → World → Prop) : Prop :=
  CallK Try.prog .bool 16 #[] w fun t11 w =>
  SplitB (!t11)
    (K false w)
    (CallK Try.prog (.int .i64) 18 #[.int .i64 p1, .int .i64 8193] w fun t14 w =>
    RunN Try.prog (.int .i64) (V (Builtin.max_ #[3, 3] 3 #[.int .i64 1, .int .i64 (IntKind.i64.wrap (Int.tdiv (IntKind.i64.wrap (t14 + 495)) 496))])) w fun t18 w =>
    CallK Try.prog (.int .i64) 18 #[.int .i64 p0, .int .i64 60] w fun t20 w =>
    LoopX (α := Sl × Int × Unit) (fun s1 w k2 =>
      RunN Try.prog (.int .i64) (V (binOp .quo 3 (.int .i64 (IntKind.i64.wrap (1 + t20))) (.int .i64 t18))) w fun t25 w =>
      SplitB (decide (s1.2.1 < t25))
        (RunN Try.prog .sl (V (Instr.buildSlice 40 1 #[(0, .int .i64 t14)])) w fun t31 w =>
        RunN Try.prog .sl (V (Builtin.append_ #[40, 40] 40 #[.slice s1.1.a s1.1.len s1.1.cap, .slice t31.a t31.len t31.cap])) w fun t32 w =>
        k2 (t32, IntKind.i64.wrap (s1.2.1 + 1), ()) w)
        (CallK Try.prog (.tup (.cons (.int .i64) (.cons (.int .i64) (.cons .bool .nilT)))) 19 #[.int .i64 (IntKind.i64.wrap (1 + t20)), .slice s1.1.a s1.1.len s1.1.cap] w fun t36 w =>
        JoinX (α := Bool × Unit) (fun j4 w =>
          SplitB j4.1
            (K false w)
            (RunN Try.prog .sl (V (Instr.buildSlice 40 1 #[(0, .int .i64 t14)])) w fun t57 w =>
            RunN Try.prog .sl (V (Builtin.append_ #[40, 40] 40 #[.slice s1.1.a s1.1.len s1.1.cap, .slice t57.a t57.len t57.cap])) w fun t58 w =>
            CallK Try.prog (.tup (.cons (.int .i64) (.cons (.int .i64) (.cons .bool .nilT)))) 19 #[.int .i64 (IntKind.i64.wrap (1 + t20)), .slice t58.a t58.len t58.cap] w fun t59 w =>
            SplitB t59.2.2.1
              (CallK Try.prog (.int .i64) 20 #[.int .i64 t59.2.1] w fun t66 w =>
              SplitB (t66 == 211)
                (RunN Try.prog (.int .i64) (V (binOp .rem 3 (.int .i64 (IntKind.i64.wrap (1 + t20))) (.int .i64 t18))) w fun t73 w =>
                K (t59.1 == t73) w)
                (K false w))
              (K false w)))
        fun k3 =>
          SplitB (!t36.2.2.1)
            (k3 (true, ()) w)
            (SplitB (t36.2.1 != 0)
              (k3 (true, ()) w)
              (RunN Try.prog (.int .i64) (V (binOp .rem 3 (.int .i64 (IntKind.i64.wrap (1 + t20))) (.int .i64 t18))) w fun t50 w =>
              k3 (t36.1 != t50, ()) w))))
    ((⟨none, 0, 0⟩ : Sl), 0, ()) w)
theorem T4.calls {p0 : Int} {p1 : Int} {w : World} {K : Bool → World → Prop} (h : T4 p0 p1 w K) : CallK Try.prog .bool 4 #[.int .i64 p0, .int .i64 p1] w K :=
  bodyZ_sound (κ := kappa) (ann := [(10, [(6, .sl), (7, (.int .i64))]), (16, [(52, .bool)])]) (fn := Try.f4) Try.func4 rfl (by kernel_rfl) (cast (show T4 p0 p1 w K = bodyZ Try.prog kappa [(10, [(6, .sl), (7, (.int .i64))]), (16, [(52, .bool)])] .bool Try.f4 [.int .i64 p0, .int .i64 p1] w K by kernel_rfl) h)

/-- sluice/sluicelaw21.JournalLasts -/
def T5 (p0 : Int) (p1 : Sl) (w : World) (K : Bool → World → Prop) : Prop :=
  CallK Try.prog (.int .i64) 18 #[.int .i64 p0, .int .i64 60] w fun t15 w =>
  CallK Try.prog (.tup (.cons .ptr (.cons (.int .i64) .nilT))) 10 #[.int .i64 (IntKind.i64.wrap (1 + t15))] w fun t17 w =>
  JoinX (α := Bool × Unit) (fun j2 w =>
    SplitB j2.1
      (K false w)
      (RunN Try.prog .addr (V (Instr.box 48 (.agg #[.pointer t17.1, .slice none 0 0]))) w fun t32 w =>
      LoopX (α := Sl × Bool × Int × Unit) (fun s3 w k4 =>
        SplitB (decide (s3.2.2.1 < (p1.len : Int)))
          (JoinX (α := Sl × Bool × Unit) (fun j6 w =>
            k4 (j6.1, j6.2.1, IntKind.i64.wrap (s3.2.2.1 + 1), ()) w)
          fun k5 =>
            CallK Try.prog .ptr 21 #[.pointer (some t32), .slice s3.1.a s3.1.len s3.1.cap, .bool s3.2.1] w fun t42 w =>
            RunN Try.prog .bool (V (do eqGuard .eql 23 (.tmp 43) (.const (.pointer none)) (.pointer t42) (.pointer none); binOp .eql 23 (.pointer t42) (.pointer none))) w fun t44 w =>
            SplitB t44
              (K false w)
              (RunN Try.prog .addr (V (Instr.indexAt 45 (.slice p1.a p1.len p1.cap) (.int .i64 s3.2.2.1))) w fun t47 w =>
              RunN Try.prog .bool (V (Instr.loadAt 4 (.pointer (some (t47.add 3))))) w fun t49 w =>
              SplitB t49
                (k5 ((⟨none, 0, 0⟩ : Sl), false, ()) w)
                (RunN Try.prog .addr (V (Instr.indexAt 45 (.slice p1.a p1.len p1.cap) (.int .i64 s3.2.2.1))) w fun t55 w =>
                RunN Try.prog (.agg (.cons .sl (.cons (.int .i64) (.cons (.int .i64) (.cons .bool .nilT))))) (V (Instr.loadAt 51 (.pointer (some t55)))) w fun t56 w =>
                CallK Try.prog (.tup (.cons .sl (.cons .bool (.cons .bool .nilT)))) 22 #[.pointer (some t32), .pointer t42, .agg #[.slice t56.1.a t56.1.len t56.1.cap, .int .i64 t56.2.1, .int .i64 t56.2.2.1, .bool t56.2.2.2.1]] w fun t57 w =>
                SplitB (!t57.2.2.1)
                  (K false w)
                  (k5 (t57.1, t57.2.1, ()) w))))
          (CallK Try.prog .ptr 21 #[.pointer (some t32), .slice s3.1.a s3.1.len s3.1.cap, .bool s3.2.1] w fun t66 w =>
          RunN Try.prog .bool (V (do eqGuard .neq 23 (.tmp 66) (.const (.pointer none)) (.pointer t66) (.pointer none); binOp .neq 23 (.pointer t66) (.pointer none))) w fun t67 w =>
          SplitB t67
            (CallK Try.prog .ptr 21 #[.pointer (some t32), .slice none 0 0, .bool false] w fun t70 w =>
            RunN Try.prog .bool (V (do eqGuard .neq 23 (.tmp 70) (.const (.pointer none)) (.pointer t70) (.pointer none); binOp .neq 23 (.pointer t70) (.pointer none))) w fun t71 w =>
            K t71 w)
            (K false w)))
      ((⟨none, 0, 0⟩ : Sl), false, 0, ()) w))
  fun k1 =>
    CallK Try.prog .bool 16 #[] w fun t20 w =>
    SplitB (!t20)
      (k1 (true, ()) w)
      (RunN Try.prog .bool (V (do eqGuard .eql 25 (.tmp 23) (.const (.pointer none)) (.pointer t17.1) (.pointer none); binOp .eql 25 (.pointer t17.1) (.pointer none))) w fun t24 w =>
      SplitB t24
        (k1 (true, ()) w)
        (k1 (t17.2.1 != 0, ()) w))
theorem T5.calls {p0 : Int} {p1 : Sl} {w : World} {K : Bool → World → Prop} (h : T5 p0 p1 w K) : CallK Try.prog .bool 5 #[.int .i64 p0, .slice p1.a p1.len p1.cap] w K :=
  bodyZ_sound (κ := kappa) (ann := [(3, [(29, .bool)]), (10, [(8, .sl), (9, .bool), (10, (.int .i64))]), (13, [(8, .sl), (9, .bool)])]) (fn := Try.f5) Try.func5 rfl (by kernel_rfl) (cast (show T5 p0 p1 w K = bodyZ Try.prog kappa [(3, [(29, .bool)]), (10, [(8, .sl), (9, .bool), (10, (.int .i64))]), (13, [(8, .sl), (9, .bool)])] .bool Try.f5 [.int .i64 p0, .slice p1.a p1.len p1.cap] w K by kernel_rfl) h)

/-- sluice/sluicelaw21.JournalTorn -/
def T6 (p0 : Sl) (p1 : Sl) (p2 : Sl) (p3 : Sl) (p4 : (Int × Int × Int × Unit)) (p5 : (Int × Int × Int × Unit)) (w : World) (K : Bool → World → Prop) : Prop :=
  RunN Try.prog .addr (V (Instr.box 55 (.agg #[.int .i64 p4.1, .int .i64 p4.2.1, .int .i64 p4.2.2.1]))) w fun t10 w =>
  RunN Try.prog .addr (V (Instr.box 55 (.agg #[.int .i64 p5.1, .int .i64 p5.2.1, .int .i64 p5.2.2.1]))) w fun t11 w =>
  CallK Try.prog (.tup (.cons .ptr (.cons (.int .i64) .nilT))) 10 #[.int .i64 60] w fun t27 w =>
  JoinX (α := Bool × Unit) (fun j2 w =>
    SplitB j2.1
      (K false w)
      (RunN Try.prog .addr (V (Instr.box 48 (.agg #[.pointer t27.1, .slice none 0 0]))) w fun t42 w =>
      CallK Try.prog .ptr 21 #[.pointer (some t42), .slice none 0 0, .bool false] w fun t44 w =>
      RunN Try.prog .bool (V (do eqGuard .eql 23 (.tmp 45) (.const (.pointer none)) (.pointer t44) (.pointer none); binOp .eql 23 (.pointer t44) (.pointer none))) w fun t46 w =>
      SplitB t46
        (K false w)
        (LoopX (α := Int × Unit) (fun s3 w k4 =>
          JoinX (α := Bool × Unit) (fun j6 w =>
            SplitB j6.1
              (RunN Try.prog .addr (V (Instr.indexAt 22 (.slice p0.a p0.len p0.cap) (.int .i64 s3.1))) w fun t59 w =>
              RunN Try.prog .sl (V (Instr.loadAt 31 (.pointer (some t59)))) w fun t60 w =>
              JoinX (α := Sl × Unit) (fun j8 w =>
                CallK Try.prog .sl 12 #[.slice j8.1.a j8.1.len j8.1.cap] w fun t68 w =>
                RunN Try.prog .sl (V (Instr.sliceAt 31 (.slice t68.a t68.len t68.cap) none (some (.int .i64 (j8.1.len : Int))) none)) w fun t71 w =>
                CallK Try.prog (.int .i64) 13 #[.pointer t44, .slice t71.a t71.len t71.cap] w fun t72 w =>
                SplitB (t72 != 0)
                  (K false w)
                  (RunN Try.prog .sl (V (Instr.loadAt 22 (.pointer (some (t42.add 1))))) w fun t78 w =>
                  RunN Try.prog .sl (V (Instr.buildSlice 22 1 #[(0, .slice j8.1.a j8.1.len j8.1.cap)])) w fun t80 w =>
                  RunN Try.prog .sl (V (Builtin.append_ #[22, 22] 22 #[.slice t78.a t78.len t78.cap, .slice t80.a t80.len t80.cap])) w fun t81 w =>
                  RunU Try.prog (U (Instr.storeAt 22 (.pointer (some (t42.add 1))) (.slice t81.a t81.len t81.cap))) w fun w =>
                  k4 (IntKind.i64.wrap (s3.1 + 1), ()) w))
              fun k7 =>
                SplitB (decide ((t60.len : Int) > 1000))
                  (RunN Try.prog .sl (V (Instr.sliceAt 31 (.slice t60.a t60.len t60.cap) none (some (.int .i64 1000)) none)) w fun t65 w =>
                  k7 (t65, ()) w)
                  (k7 (t60, ()) w))
              (RunN Try.prog .addr (V (Instr.alloc 56 true (.tuple #[]))) w fun t19 w =>
              RunU Try.prog (U (Instr.storeAt 56 (.pointer (some t19)) (.agg #[.slice p1.a p1.len p1.cap, .slice p2.a p2.len p2.cap, .slice p3.a p3.len p3.cap]))) w fun w =>
              LoopX (α := Option Addr × Int × Unit) (fun s9 w k10 =>
                SplitB (decide (s9.2.1 < 3))
                  (RunN Try.prog .addr (V (Instr.indexAt 56 (.pointer (some t19)) (.int .i64 s9.2.1))) w fun t93 w =>
                  RunN Try.prog .sl (V (Instr.loadAt 31 (.pointer (some t93)))) w fun t94 w =>
                  JoinX (α := Sl × Unit) (fun j12 w =>
                    RunN Try.prog .addr (V (Instr.indexAt 55 (.pointer (some t11)) (.int .i64 s9.2.1))) w fun t101 w =>
                    RunN Try.prog (.int .i64) (V (Instr.loadAt 3 (.pointer (some t101)))) w fun t102 w =>
                    CallK Try.prog (.int .i64) 18 #[.int .i64 t102, .int .i64 1025] w fun t103 w =>
                    JoinX (α := Int × Unit) (fun j14 w =>
                      RunN Try.prog .sl (V (Instr.buildSlice 22 1 #[(0, .slice j12.1.a j12.1.len j12.1.cap)])) w fun t113 w =>
                      RunN Try.prog .addr (V (Instr.indexAt 55 (.pointer (some t10)) (.int .i64 s9.2.1))) w fun t115 w =>
                      RunN Try.prog (.int .i64) (V (Instr.loadAt 3 (.pointer (some t115)))) w fun t116 w =>
                      CallK Try.prog (.int .i64) 18 #[.int .i64 t116, .int .i64 10] w fun t117 w =>
                      CallK Try.prog (.tup (.cons .sl (.cons .bool (.cons .bool .nilT)))) 22 #[.pointer (some t42), .pointer s9.1, .agg #[.slice t113.a t113.len t113.cap, .int .i64 t117, .int .i64 j14.1, .bool false]] w fun t120 w =>
                      SplitB (!t120.2.2.1)
                        (K false w)
                        (CallK Try.prog (.tup .nilT) 23 #[.pointer t27.1, .int .i64 (-1), .int .i64 0] w fun t127 w =>
                        CallK Try.prog .ptr 21 #[.pointer (some t42), .slice j12.1.a j12.1.len j12.1.cap, .bool t120.2.1] w fun t131 w =>
                        RunN Try.prog .bool (V (do eqGuard .eql 23 (.tmp 132) (.const (.pointer none)) (.pointer t131) (.pointer none); binOp .eql 23 (.pointer t131) (.pointer none))) w fun t133 w =>
                        SplitB t133
                          (K false w)
                          (k10 (t131, IntKind.i64.wrap (s9.2.1 + 1), ()) w)))
                    fun k13 =>
                      SplitB (decide ((IntKind.i64.wrap (t103 - 512)) < 0))
                        (k13 (IntKind.i64.wrap ((IntKind.i64.wrap (t103 - 512)) + 513), ()) w)
                        (k13 (IntKind.i64.wrap (t103 - 512), ()) w))
                  fun k11 =>
                    SplitB (decide ((t94.len : Int) > 4000))
                      (RunN Try.prog .sl (V (Instr.sliceAt 31 (.slice t94.a t94.len t94.cap) none (some (.int .i64 4000)) none)) w fun t99 w =>
                      k11 (t99, ()) w)
                      (k11 (t94, ()) w))
                  (K true w))
              (t44, 0, ()) w))
          fun k5 =>
            SplitB (decide (s3.1 < (p0.len : Int)))
              (k5 (decide (s3.1 < 3), ()) w)
              (k5 (false, ()) w))
        (0, ()) w)))
  fun k1 =>
    CallK Try.prog .bool 16 #[] w fun t30 w =>
    SplitB (!t30)
      (k1 (true, ()) w)
      (RunN Try.prog .bool (V (do eqGuard .eql 25 (.tmp 33) (.const (.pointer none)) (.pointer t27.1) (.pointer none); binOp .eql 25 (.pointer t27.1) (.pointer none))) w fun t34 w =>
      SplitB t34
        (k1 (true, ()) w)
        (k1 (t27.2.1 != 0, ()) w))
theorem T6.calls {p0 : Sl} {p1 : Sl} {p2 : Sl} {p3 : Sl} {p4 : (Int × Int × Int × Unit)} {p5 : (Int × Int × Int × Unit)} {w : World} {K : Bool → World → Prop} (h : T6 p0 p1 p2 p3 p4 p5 w K) : CallK Try.prog .bool 6 #[.slice p0.a p0.len p0.cap, .slice p1.a p1.len p1.cap, .slice p2.a p2.len p2.cap, .slice p3.a p3.len p3.cap, .agg #[.int .i64 p4.1, .int .i64 p4.2.1, .int .i64 p4.2.2.1], .agg #[.int .i64 p5.1, .int .i64 p5.2.1, .int .i64 p5.2.2.1]] w K :=
  bodyZ_sound (κ := kappa) (ann := [(3, [(39, .bool)]), (12, [(17, (.int .i64))]), (14, [(54, .bool)]), (17, [(18, .sl)]), (25, [(16, .ptr), (20, (.int .i64))]), (30, [(21, .sl)]), (33, [(22, (.int .i64))])]) (fn := Try.f6) Try.func6 rfl (by kernel_rfl) (cast (show T6 p0 p1 p2 p3 p4 p5 w K = bodyZ Try.prog kappa [(3, [(39, .bool)]), (12, [(17, (.int .i64))]), (14, [(54, .bool)]), (17, [(18, .sl)]), (25, [(16, .ptr), (20, (.int .i64))]), (30, [(21, .sl)]), (33, [(22, (.int .i64))])] .bool Try.f6 [.slice p0.a p0.len p0.cap, .slice p1.a p1.len p1.cap, .slice p2.a p2.len p2.cap, .slice p3.a p3.len p3.cap, .agg #[.int .i64 p4.1, .int .i64 p4.2.1, .int .i64 p4.2.2.1], .agg #[.int .i64 p5.1, .int .i64 p5.2.1, .int .i64 p5.2.2.1]] w K by kernel_rfl) h)

/-- sluice/sluicelaw21.spaces -/
def T19 (p0 : Int) (p1 : Sl) (w : World) (K : (Int × Int × Bool × Unit) → World → Prop) : Prop :=
  CallK Try.prog (.tup (.cons .ptr (.cons (.int .i64) .nilT))) 10 #[.int .i64 p0] w fun t15 w =>
  JoinX (α := Bool × Unit) (fun j2 w =>
    SplitB j2.1
      (K (0, 0, false, ()) w)
      (CallK Try.prog (.tup (.cons .ptr (.cons (.int .i64) .nilT))) 11 #[.pointer t15.1] w fun t26 w =>
      JoinX (α := Bool × Unit) (fun j4 w =>
        SplitB j4.1
          (K (0, 0, false, ()) w)
          (LoopX (α := Int × Int × Unit) (fun s5 w k6 =>
            SplitB (decide (s5.2.1 < (p1.len : Int)))
              (RunN Try.prog .addr (V (Instr.indexAt 40 (.slice p1.a p1.len p1.cap) (.int .i64 s5.2.1))) w fun t44 w =>
              RunN Try.prog (.int .i64) (V (Instr.loadAt 3 (.pointer (some t44)))) w fun t45 w =>
              RunN Try.prog .sl (V (Instr.makeSlice 31 (.int .i64 t45) (.int .i64 t45))) w fun t46 w =>
              CallK Try.prog (.int .i64) 13 #[.pointer t26.1, .slice t46.a t46.len t46.cap] w fun t47 w =>
              k6 (t47, IntKind.i64.wrap (s5.2.1 + 1), ()) w)
              (CallK Try.prog (.int .i64) 15 #[.pointer t26.1] w fun t49 w =>
              K (t49, s5.1, true, ()) w))
          (0, 0, ()) w))
      fun k3 =>
        RunN Try.prog .bool (V (do eqGuard .eql 23 (.tmp 29) (.const (.pointer none)) (.pointer t26.1) (.pointer none); binOp .eql 23 (.pointer t26.1) (.pointer none))) w fun t30 w =>
        SplitB t30
          (k3 (true, ()) w)
          (k3 (t26.2.1 != 0, ()) w)))
  fun k1 =>
    RunN Try.prog .bool (V (do eqGuard .eql 25 (.tmp 18) (.const (.pointer none)) (.pointer t15.1) (.pointer none); binOp .eql 25 (.pointer t15.1) (.pointer none))) w fun t19 w =>
    SplitB t19
      (k1 (true, ()) w)
      (k1 (t15.2.1 != 0, ()) w)
theorem T19.calls {p0 : Int} {p1 : Sl} {w : World} {K : (Int × Int × Bool × Unit) → World → Prop} (h : T19 p0 p1 w K) : CallK Try.prog (.tup (.cons (.int .i64) (.cons (.int .i64) (.cons .bool .nilT)))) 19 #[.int .i64 p0, .slice p1.a p1.len p1.cap] w K :=
  bodyZ_sound (κ := kappa) (ann := [(3, [(23, .bool)]), (7, [(34, .bool)]), (12, [(11, (.int .i64)), (12, (.int .i64))])]) (fn := Try.f19) Try.func19 rfl (by kernel_rfl) (cast (show T19 p0 p1 w K = bodyZ Try.prog kappa [(3, [(23, .bool)]), (7, [(34, .bool)]), (12, [(11, (.int .i64)), (12, (.int .i64))])] (.tup (.cons (.int .i64) (.cons (.int .i64) (.cons .bool .nilT)))) Try.f19 [.int .i64 p0, .slice p1.a p1.len p1.cap] w K by kernel_rfl) h)

/-- (*sluice/sluicelaw21.tale).opened -/
def T21 (p0 : Option Addr) (p1 : Sl) (p2 : Bool) (w : World) (K : Option Addr → World → Prop) : Prop :=
  NilP p0 fun t11 =>
  RunN Try.prog .ptr (V (Instr.loadAt 25 (.pointer (some (t11.add 0))))) w fun t13 w =>
  CallK Try.prog (.tup .nilT) 43 #[.pointer t13] w fun t14 w =>
  NilP p0 fun t17 =>
  RunN Try.prog .ptr (V (Instr.loadAt 25 (.pointer (some (t17.add 0))))) w fun t19 w =>
  CallK Try.prog (.tup (.cons .ptr (.cons (.int .i64) .nilT))) 11 #[.pointer t19] w fun t20 w =>
  JoinX (α := Bool × Unit) (fun j2 w =>
    SplitB j2.1
      (K none w)
      (CallK Try.prog (.int .i64) 40 #[.pointer t20.1] w fun t30 w =>
      JoinX (α := Bool × Unit) (fun j4 w =>
        SplitB j4.1
          (K none w)
          (JoinX (α := Unit) (fun j6 w =>
            NilP p0 fun t72 =>
            RunN Try.prog .sl (V (Instr.loadAt 22 (.pointer (some (t72.add 1))))) w fun t74 w =>
            CallK Try.prog .bool 17 #[.pointer t20.1, .slice t74.a t74.len t74.cap] w fun t75 w =>
            SplitB (!t75)
              (K none w)
              (K t20.1 w))
          fun k5 =>
            NilP p0 fun t54 =>
            RunN Try.prog .sl (V (Instr.loadAt 22 (.pointer (some (t54.add 1))))) w fun t56 w =>
            SplitB (decide (t30 > (t56.len : Int)))
              (NilP p0 fun t61 =>
              ReadN Try.prog .sl (V (Instr.loadAt 22 (.pointer (some (t61.add 1))))) w.drew fun t63 =>
              RunN Try.prog .sl (V (Builtin.append_ #[31, 31] 31 #[.slice none 0 0, .slice p1.a p1.len p1.cap])) w.drew fun t65 w =>
              StillV Try.prog (V (Instr.loadAt 22 (.pointer (some (t61.add 1))))) (.slice t63.a t63.len t63.cap) w ∧
              RunN Try.prog .sl (V (Instr.buildSlice 22 1 #[(0, .slice t65.a t65.len t65.cap)])) w fun t66 w =>
              StillV Try.prog (V (Instr.loadAt 22 (.pointer (some (t61.add 1))))) (.slice t63.a t63.len t63.cap) w ∧
              RunN Try.prog .sl (V (Builtin.append_ #[22, 22] 22 #[.slice t63.a t63.len t63.cap, .slice t66.a t66.len t66.cap])) w fun t67 w =>
              NilP p0 fun t68 =>
              RunU Try.prog (U (Instr.storeAt 22 (.pointer (some (t68.add 1))) (.slice t67.a t67.len t67.cap))) w fun w =>
              k5 () w)
              (k5 () w)))
      fun k3 =>
        NilP p0 fun t33 =>
        RunN Try.prog .sl (V (Instr.loadAt 22 (.pointer (some (t33.add 1))))) w fun t35 w =>
        SplitB (t30 != (t35.len : Int))
          (SplitB (!p2)
            (k3 (true, ()) w)
            (NilP p0 fun t44 =>
            RunN Try.prog .sl (V (Instr.loadAt 22 (.pointer (some (t44.add 1))))) w fun t46 w =>
            k3 (t30 != (IntKind.i64.wrap ((t46.len : Int) + 1)), ()) w))
          (k3 (false, ()) w)))
  fun k1 =>
    RunN Try.prog .bool (V (do eqGuard .eql 23 (.tmp 23) (.const (.pointer none)) (.pointer t20.1) (.pointer none); binOp .eql 23 (.pointer t20.1) (.pointer none))) w fun t24 w =>
    SplitB t24
      (k1 (true, ()) w)
      (k1 (t20.2.1 != 0, ()) w)
theorem T21.calls {p0 : Option Addr} {p1 : Sl} {p2 : Bool} {w : World} {K : Option Addr → World → Prop} (h : T21 p0 p1 p2 w K) : CallK Try.prog .ptr 21 #[.pointer p0, .slice p1.a p1.len p1.cap, .bool p2] w K :=
  bodyZ_sound (κ := kappa) (ann := [(4, [(28, .bool)]), (8, [(51, .bool)]), (10, [])]) (fn := Try.f21) Try.func21 rfl (by kernel_rfl) (cast (show T21 p0 p1 p2 w K = bodyZ Try.prog kappa [(4, [(28, .bool)]), (8, [(51, .bool)]), (10, [])] .ptr Try.f21 [.pointer p0, .slice p1.a p1.len p1.cap, .bool p2] w K by kernel_rfl) h)

/-- (*sluice/sluicelaw21.tale).life -/
def T22 (p0 : Option Addr) (p1 : Option Addr) (p2 : (Sl × Int × Int × Bool × Unit)) (w : World) (K : (Sl × Bool × Bool × Unit) → World → Prop) : Prop :=
  RunN Try.prog .addr (V (Instr.box 51 (.agg #[.slice p2.1.a p2.1.len p2.1.cap, .int .i64 p2.2.1, .int .i64 p2.2.2.1, .bool p2.2.2.2.1]))) w fun t5 w =>
  NilP p0 fun t14 =>
  ReadN Try.prog .ptr (V (Instr.loadAt 25 (.pointer (some (t14.add 0))))) w.drew fun t16 =>
  ReadN Try.prog (.int .i64) (V (Instr.loadAt 3 (.pointer (some (t5.add 1))))) w.drew fun t18 =>
  ReadN Try.prog (.int .i64) (V (Instr.loadAt 3 (.pointer (some (t5.add 2))))) w.drew fun t20 =>
  CallK Try.prog (.tup .nilT) 23 #[.pointer t16, .int .i64 t18, .int .i64 t20] w.drew fun t21 w =>
  LoopX (α := Int × Unit) (fun s1 w k2 =>
    RunN Try.prog .sl (V (Instr.loadAt 22 (.pointer (some (t5.add 0))))) w fun t24 w =>
    SplitB (decide (s1.1 < (t24.len : Int)))
      (RunN Try.prog .sl (V (Instr.loadAt 22 (.pointer (some (t5.add 0))))) w fun t30 w =>
      RunN Try.prog .addr (V (Instr.indexAt 22 (.slice t30.a t30.len t30.cap) (.int .i64 s1.1))) w fun t32 w =>
      RunN Try.prog .sl (V (Instr.loadAt 31 (.pointer (some t32)))) w fun t33 w =>
      CallK Try.prog (.int .i64) 15 #[.pointer p1] w fun t35 w =>
      CallK Try.prog .sl 12 #[.slice t33.a t33.len t33.cap] w fun t38 w =>
      RunN Try.prog .sl (V (Instr.sliceAt 31 (.slice t38.a t38.len t38.cap) none (some (.int .i64 (t33.len : Int))) none)) w fun t41 w =>
      CallK Try.prog (.int .i64) 13 #[.pointer p1, .slice t41.a t41.len t41.cap] w fun t42 w =>
      JoinX (α := Unit) (fun j4 w =>
        JoinX (α := Bool × Unit) (fun j6 w =>
          SplitB j6.1
            (K ((⟨none, 0, 0⟩ : Sl), false, false, ()) w)
            (k2 (IntKind.i64.wrap (s1.1 + 1), ()) w))
        fun k5 =>
          CallK Try.prog .bool 44 #[.pointer p1] w.drew fun t126 w =>
          SplitB (!t126)
            (NilP p0 fun t132 =>
            ReadN Try.prog .sl (V (Instr.loadAt 22 (.pointer (some (t132.add 1))))) w fun t134 =>
            CallK Try.prog (.int .i64) 40 #[.pointer p1] w fun t130 w =>
            StillV Try.prog (V (Instr.loadAt 22 (.pointer (some (t132.add 1))))) (.slice t134.a t134.len t134.cap) w ∧
            k5 (t130 != (t134.len : Int), ()) w)
            (k5 (false, ()) w))
      fun k3 =>
        SplitB (t42 == 0)
          (JoinX (α := Bool × Unit) (fun j8 w =>
            SplitB j8.1
              (K ((⟨none, 0, 0⟩ : Sl), false, false, ()) w)
              (NilP p0 fun t57 =>
              ReadN Try.prog .sl (V (Instr.loadAt 22 (.pointer (some (t57.add 1))))) w.drew fun t59 =>
              RunN Try.prog .sl (V (Builtin.append_ #[31, 31] 31 #[.slice none 0 0, .slice t33.a t33.len t33.cap])) w.drew fun t61 w =>
              StillV Try.prog (V (Instr.loadAt 22 (.pointer (some (t57.add 1))))) (.slice t59.a t59.len t59.cap) w ∧
              RunN Try.prog .sl (V (Instr.buildSlice 22 1 #[(0, .slice t61.a t61.len t61.cap)])) w fun t62 w =>
              StillV Try.prog (V (Instr.loadAt 22 (.pointer (some (t57.add 1))))) (.slice t59.a t59.len t59.cap) w ∧
              RunN Try.prog .sl (V (Builtin.append_ #[22, 22] 22 #[.slice t59.a t59.len t59.cap, .slice t62.a t62.len t62.cap])) w fun t63 w =>
              NilP p0 fun t64 =>
              RunU Try.prog (U (Instr.storeAt 22 (.pointer (some (t64.add 1))) (.slice t63.a t63.len t63.cap))) w fun w =>
              k3 () w))
          fun k7 =>
            SplitB (decide ((t33.len : Int) > 8192))
              (k7 (true, ()) w)
              (CallK Try.prog (.int .i64) 15 #[.pointer p1] w fun t51 w =>
              k7 (decide (t51 ≥ t35), ()) w))
          (CallK Try.prog (.int .i64) 20 #[.int .i64 t42] w fun t68 w =>
          SplitB (t68 == 200)
            (RunN Try.prog (.int .i64) (V (Instr.loadAt 3 (.pointer (some (t5.add 1))))) w fun t72 w =>
            SplitB (decide (t72 ≥ 0))
              (NilP p0 fun t76 =>
              RunN Try.prog .ptr (V (Instr.loadAt 25 (.pointer (some (t76.add 0))))) w fun t78 w =>
              CallK Try.prog .bool 33 #[.pointer t78] w fun t79 w =>
              SplitB (!t79)
                (CallK Try.prog .bool 44 #[.pointer p1] w fun t84 w =>
                SplitB t84
                  (CallK Try.prog (.int .i64) 40 #[.pointer p1] w fun t88 w =>
                  SplitB (t88 == 0)
                    (CallK Try.prog (.int .i64) 13 #[.pointer p1, .slice none 0 0] w fun t93 w =>
                    CallK Try.prog (.int .i64) 20 #[.int .i64 t93] w fun t94 w =>
                    K (t33, true, t94 == 200, ()) w)
                    (K (t33, true, false, ()) w))
                  (K (t33, true, false, ()) w))
                (K (t33, true, false, ()) w))
              (K (t33, true, false, ()) w))
            (JoinX (α := Bool × Unit) (fun j10 w =>
              SplitB j10.1
                (K ((⟨none, 0, 0⟩ : Sl), false, false, ()) w)
                (JoinX (α := Bool × Unit) (fun j12 w =>
                  SplitB j12.1
                    (K ((⟨none, 0, 0⟩ : Sl), false, false, ()) w)
                    (k3 () w))
                fun k11 =>
                  SplitB (decide ((t33.len : Int) > 8192))
                    (CallK Try.prog (.int .i64) 20 #[.int .i64 t42] w fun t122 w =>
                    k11 (t122 != 2, ()) w)
                    (k11 (false, ()) w)))
            fun k9 =>
              SplitB (decide ((t33.len : Int) ≤ 8192))
                (CallK Try.prog (.int .i64) 20 #[.int .i64 t42] w fun t103 w =>
                SplitB (t103 != 211)
                  (k9 (true, ()) w)
                  (SplitB (decide (t35 ≥ 17))
                    (k9 (true, ()) w)
                    (CallK Try.prog (.int .i64) 15 #[.pointer p1] w fun t111 w =>
                    k9 (t111 != t35, ()) w)))
                (k9 (false, ()) w))))
      (NilP p0 fun t139 =>
      RunN Try.prog .ptr (V (Instr.loadAt 25 (.pointer (some (t139.add 0))))) w fun t141 w =>
      CallK Try.prog (.tup .nilT) 23 #[.pointer t141, .int .i64 (-1), .int .i64 0] w fun t142 w =>
      K ((⟨none, 0, 0⟩ : Sl), false, true, ()) w))
  (0, ()) w
theorem T22.calls {p0 : Option Addr} {p1 : Option Addr} {p2 : (Sl × Int × Int × Bool × Unit)} {w : World} {K : (Sl × Bool × Bool × Unit) → World → Prop} (h : T22 p0 p1 p2 w K) : CallK Try.prog (.tup (.cons .sl (.cons .bool (.cons .bool .nilT)))) 22 #[.pointer p0, .pointer p1, .agg #[.slice p2.1.a p2.1.len p2.1.cap, .int .i64 p2.2.1, .int .i64 p2.2.2.1, .bool p2.2.2.2.1]] w K :=
  bodyZ_sound (κ := kappa) (ann := [(4, [(9, (.int .i64))]), (11, []), (22, [(137, .bool)]), (14, [(54, .bool)]), (18, [(97, .bool)]), (20, [(116, .bool)])]) (fn := Try.f22) Try.func22 rfl (by kernel_rfl) (cast (show T22 p0 p1 p2 w K = bodyZ Try.prog kappa [(4, [(9, (.int .i64))]), (11, []), (22, [(137, .bool)]), (14, [(54, .bool)]), (18, [(97, .bool)]), (20, [(116, .bool)])] (.tup (.cons .sl (.cons .bool (.cons .bool .nilT)))) Try.f22 [.pointer p0, .pointer p1, .agg #[.slice p2.1.a p2.1.len p2.1.cap, .int .i64 p2.2.1, .int .i64 p2.2.2.1, .bool p2.2.2.2.1]] w K by kernel_rfl) h)

end Go.Proofs.Ytimebochhbfkgaa
