import Derived.Test.YtimebochhbfkgaaProg
import Derived.Test.YtimebochhbfkgaaTJ2
namespace Go.Proofs.Ytimebochhbfkgaa
open Go Go.Fw Go.Proofs
set_option maxRecDepth 100000
set_option linter.unusedVariables false

/-- sluice/sluicelaw21.JournalOpens -/
def T7 (p0 : Int) (p1 : Sl) (w : World) (K : Bool → World → Prop) : Prop :=
  CallK Try.prog .sl 24 #[.int .i64 p0, .slice p1.a p1.len p1.cap] w fun t11 w =>
  CallK Try.prog .ptr 25 #[.slice t11.a t11.len t11.cap] w fun t13 w =>
  CallK Try.prog (.tup (.cons .ptr (.cons (.int .i64) .nilT))) 11 #[.pointer none] w fun t15 w =>
  CallK Try.prog .bool 16 #[] w.drew fun t18 w =>
  SplitB t18
    (CallK Try.prog (.int .i64) 20 #[.int .i64 t15.2.1] w fun t21 w =>
    SplitB (t21 == 1)
      (ReadN Try.prog .bool (V (do eqGuard .neq 60 (.tmp 25) (.const (.pointer none)) (.pointer t13) (.pointer none); binOp .neq 60 (.pointer t13) (.pointer none))) w fun t26 =>
      SplitB t26
        (NilP t13 fun t30 =>
        ReadN Try.prog .ptr (V (Instr.loadAt 23 (.pointer (some (t30.add 1))))) w fun t32 =>
        NilP t13 fun t34 =>
        ReadN Try.prog .sl (V (Instr.loadAt 22 (.pointer (some (t34.add 6))))) w fun t36 =>
        CallK Try.prog .bool 17 #[.pointer t32, .slice t36.a t36.len t36.cap] w fun t37 w =>
        SplitB t37
          (CallK Try.prog .bool 26 #[.pointer t13] w fun t41 w =>
          SplitB t41
            (NilP t13 fun t45 =>
            ReadN Try.prog .ptr (V (Instr.loadAt 25 (.pointer (some (t45.add 0))))) w fun t47 =>
            CallK Try.prog (.int .i64) 27 #[.pointer t47] w fun t48 w =>
            SplitB (t48 == 0)
              (NilP t13 fun t53 =>
              ReadN Try.prog .ptr (V (Instr.loadAt 25 (.pointer (some (t53.add 0))))) w fun t55 =>
              CallK Try.prog .sl 29 #[.pointer t55] w fun t56 w =>
              CallK Try.prog .bool 28 #[.slice t56.a t56.len t56.cap, .slice t11.a t11.len t11.cap] w fun t58 w =>
              K t58 w)
              (K false w))
            (K false w))
          (K false w))
        (K false w))
      (K false w))
    (K false w)
theorem T7.calls {p0 : Int} {p1 : Sl} {w : World} {K : Bool → World → Prop} (h : T7 p0 p1 w K) : CallK Try.prog .bool 7 #[.int .i64 p0, .slice p1.a p1.len p1.cap] w K :=
  bodyZ_sound (κ := kappa) (ann := []) (fn := Try.f7) Try.func7 rfl (by kernel_rfl) (cast (show T7 p0 p1 w K = bodyZ Try.prog kappa [] .bool Try.f7 [.int .i64 p0, .slice p1.a p1.len p1.cap] w K by kernel_rfl) h)

/-- sluice/sluicelaw21.JournalAppends -/
def T8 (p0 : Int) (p1 : Sl) (w : World) (K : Bool → World → Prop) : Prop :=
  CallK Try.prog .sl 24 #[.int .i64 p0, .slice none 0 0] w fun t8 w =>
  CallK Try.prog .ptr 25 #[.slice t8.a t8.len t8.cap] w fun t9 w =>
  JoinX (α := Bool × Unit) (fun j2 w =>
    SplitB j2.1
      (K false w)
      (LoopX (α := Int × Unit) (fun s3 w k4 =>
        SplitB (decide (s3.1 < (p1.len : Int)))
          (JoinX (α := Bool × Unit) (fun j6 w =>
            SplitB j6.1
              (K false w)
              (k4 (IntKind.i64.wrap (s3.1 + 1), ()) w))
          fun k5 =>
            RunN Try.prog .addr (V (Instr.indexAt 22 (.slice p1.a p1.len p1.cap) (.int .i64 s3.1))) w fun t25 w =>
            RunN Try.prog .sl (V (Instr.loadAt 31 (.pointer (some t25)))) w fun t26 w =>
            CallK Try.prog .bool 30 #[.pointer t9, .agg #[.int .i64 1, .int .i64 0, .int .i64 0, .slice t26.a t26.len t26.cap]] w fun t28 w =>
            SplitB (!t28)
              (k5 (true, ()) w)
              (CallK Try.prog .bool 26 #[.pointer t9] w fun t32 w =>
              k5 (!t32, ()) w))
          (NilP t9 fun t36 =>
          ReadN Try.prog .ptr (V (Instr.loadAt 23 (.pointer (some (t36.add 1))))) w.drew fun t38 =>
          NilP t9 fun t40 =>
          ReadN Try.prog .sl (V (Instr.loadAt 22 (.pointer (some (t40.add 6))))) w.drew fun t42 =>
          CallK Try.prog .bool 17 #[.pointer t38, .slice t42.a t42.len t42.cap] w.drew fun t43 w =>
          SplitB t43
            (CallK Try.prog .bool 31 #[.pointer t9] w fun t46 w =>
            SplitB t46
              (NilP t9 fun t50 =>
              ReadN Try.prog .ptr (V (Instr.loadAt 23 (.pointer (some (t50.add 1))))) w fun t52 =>
              NilP t9 fun t54 =>
              ReadN Try.prog .sl (V (Instr.loadAt 22 (.pointer (some (t54.add 6))))) w fun t56 =>
              CallK Try.prog .bool 17 #[.pointer t52, .slice t56.a t56.len t56.cap] w fun t57 w =>
              K t57 w)
              (K false w))
            (K false w)))
      (0, ()) w))
  fun k1 =>
    CallK Try.prog .bool 16 #[] w fun t10 w =>
    SplitB (!t10)
      (k1 (true, ()) w)
      (RunN Try.prog .bool (V (do eqGuard .eql 60 (.tmp 13) (.const (.pointer none)) (.pointer t9) (.pointer none); binOp .eql 60 (.pointer t9) (.pointer none))) w fun t14 w =>
      k1 (t14, ()) w)
theorem T8.calls {p0 : Int} {p1 : Sl} {w : World} {K : Bool → World → Prop} (h : T8 p0 p1 w K) : CallK Try.prog .bool 8 #[.int .i64 p0, .slice p1.a p1.len p1.cap] w K :=
  bodyZ_sound (κ := kappa) (ann := [(3, [(15, .bool)]), (7, [(6, (.int .i64))]), (11, [(34, .bool)])]) (fn := Try.f8) Try.func8 rfl (by kernel_rfl) (cast (show T8 p0 p1 w K = bodyZ Try.prog kappa [(3, [(15, .bool)]), (7, [(6, (.int .i64))]), (11, [(34, .bool)])] .bool Try.f8 [.int .i64 p0, .slice p1.a p1.len p1.cap] w K by kernel_rfl) h)

/-- sluice/sluicelaw21.JournalAll -/
def T9 (p0 : Int) (p1 : Sl) (p2 : Sl) (w : World) (K : Bool → World → Prop) : Prop :=
  CallK Try.prog .bool 16 #[] w fun t7 w =>
  SplitB t7
    (CallK Try.prog .bool 32 #[.int .i64 p0, .slice p1.a p1.len p1.cap, .slice p2.a p2.len p2.cap, .bool false] w fun t12 w =>
    SplitB t12
      (CallK Try.prog .bool 32 #[.int .i64 p0, .slice p1.a p1.len p1.cap, .slice p2.a p2.len p2.cap, .bool true] w fun t18 w =>
      K t18 w)
      (K false w))
    (K false w)
theorem T9.calls {p0 : Int} {p1 : Sl} {p2 : Sl} {w : World} {K : Bool → World → Prop} (h : T9 p0 p1 p2 w K) : CallK Try.prog .bool 9 #[.int .i64 p0, .slice p1.a p1.len p1.cap, .slice p2.a p2.len p2.cap] w K :=
  bodyZ_sound (κ := kappa) (ann := []) (fn := Try.f9) Try.func9 rfl (by kernel_rfl) (cast (show T9 p0 p1 p2 w K = bodyZ Try.prog kappa [] .bool Try.f9 [.int .i64 p0, .slice p1.a p1.len p1.cap, .slice p2.a p2.len p2.cap] w K by kernel_rfl) h)

/-- sluice/sluicelaw21.shaped -/
def T24 (p0 : Int) (p1 : Sl) (w : World) (K : Sl → World → Prop) : Prop :=
  JoinX (α := Int × Unit) (fun j2 w =>
    RunN Try.prog .sl (V (Instr.makeSlice 31 (.int .i64 (IntKind.i64.wrap (512 * (IntKind.i64.wrap (1 + (Int.tmod j2.1 80)))))) (.int .i64 (IntKind.i64.wrap (512 * (IntKind.i64.wrap (1 + (Int.tmod j2.1 80)))))))) w fun t15 w =>
    RunN Try.prog (.int .i64) (V (Builtin.copy_ #[31, 31] 3 #[.slice t15.a t15.len t15.cap, .slice p1.a p1.len p1.cap])) w fun t18 w =>
    K t15 w)
  fun k1 =>
    SplitB (decide (p0 < 0))
      (k1 (IntKind.i64.wrap (0 - (IntKind.i64.wrap (p0 + 1))), ()) w)
      (k1 (p0, ()) w)
theorem T24.calls {p0 : Int} {p1 : Sl} {w : World} {K : Sl → World → Prop} (h : T24 p0 p1 w K) : CallK Try.prog .sl 24 #[.int .i64 p0, .slice p1.a p1.len p1.cap] w K :=
  bodyZ_sound (κ := kappa) (ann := [(1, [(0, (.int .i64))])]) (fn := Try.f24) Try.func24 rfl (by kernel_rfl) (cast (show T24 p0 p1 w K = bodyZ Try.prog kappa [(1, [(0, (.int .i64))])] .sl Try.f24 [.int .i64 p0, .slice p1.a p1.len p1.cap] w K by kernel_rfl) h)

/-- sluice/sluicelaw21.begun -/
def T25 (p0 : Sl) (w : World) (K : Option Addr → World → Prop) : Prop :=
  RunN Try.prog .sl (V (Builtin.append_ #[31, 31] 31 #[.slice none 0 0, .slice p0.a p0.len p0.cap])) w fun t8 w =>
  CallK Try.prog (.tup (.cons .ptr (.cons (.int .i64) .nilT))) 45 #[.slice t8.a t8.len t8.cap] w fun t9 w =>
  JoinX (α := Bool × Unit) (fun j2 w =>
    SplitB j2.1
      (K none w)
      (RunN Try.prog .sl (V (Builtin.append_ #[31, 31] 31 #[.slice none 0 0, .slice p0.a p0.len p0.cap])) w fun t20 w =>
      RunN Try.prog .addr (V (Instr.box 89 (.agg #[.bool false, .slice none 0 0, .slice none 0 0, .slice none 0 0]))) w fun t22 w =>
      RunN Try.prog .addr (V (Instr.box 64 (.agg #[.pointer t9.1, .pointer none, .slice t20.a t20.len t20.cap, .bool true, .int .i64 (-1), .int .i64 0, .slice none 0 0, .int .i64 0, .bool false, .pointer (some t22)]))) w fun t24 w =>
      CallK Try.prog .bool 31 #[.pointer (some t24)] w fun t26 w =>
      SplitB (!t26)
        (K none w)
        (K (some t24) w)))
  fun k1 =>
    RunN Try.prog .bool (V (do eqGuard .eql 25 (.tmp 12) (.const (.pointer none)) (.pointer t9.1) (.pointer none); binOp .eql 25 (.pointer t9.1) (.pointer none))) w fun t13 w =>
    SplitB t13
      (k1 (true, ()) w)
      (k1 (t9.2.1 != 0, ()) w)
theorem T25.calls {p0 : Sl} {w : World} {K : Option Addr → World → Prop} (h : T25 p0 w K) : CallK Try.prog .ptr 25 #[.slice p0.a p0.len p0.cap] w K :=
  bodyZ_sound (κ := kappa) (ann := [(3, [(17, .bool)])]) (fn := Try.f25) Try.func25 rfl (by kernel_rfl) (cast (show T25 p0 w K = bodyZ Try.prog kappa [(3, [(17, .bool)])] .ptr Try.f25 [.slice p0.a p0.len p0.cap] w K by kernel_rfl) h)

/-- (*sluice/sluicelaw21.desk).looks -/
def T26 (p0 : Option Addr) (w : World) (K : Bool → World → Prop) : Prop :=
  NilP p0 fun t6 =>
  ReadN Try.prog .sl (V (Instr.loadAt 22 (.pointer (some (t6.add 6))))) w.drew fun t8 =>
  NilP p0 fun t11 =>
  ReadN Try.prog .sl (V (Instr.loadAt 31 (.pointer (some (t11.add 2))))) w.drew fun t13 =>
  NilP p0 fun t17 =>
  ReadN Try.prog (.int .i64) (V (Instr.loadAt 3 (.pointer (some (t17.add 7))))) w.drew fun t19 =>
  JoinX (α := Int × Int × Unit) (fun j2 w =>
    NilP p0 fun t26 =>
    ReadN Try.prog .ptr (V (Instr.loadAt 23 (.pointer (some (t26.add 1))))) w.drew fun t28 =>
    CallK Try.prog (.int .i64) 40 #[.pointer t28] w.drew fun t29 w =>
    SplitB (t29 == j2.1)
      (NilP p0 fun t34 =>
      ReadN Try.prog .ptr (V (Instr.loadAt 23 (.pointer (some (t34.add 1))))) w fun t36 =>
      CallK Try.prog (.int .i64) 15 #[.pointer t36] w fun t37 w =>
      SplitB (t37 == j2.2.1)
        (NilP p0 fun t43 =>
        ReadN Try.prog .ptr (V (Instr.loadAt 23 (.pointer (some (t43.add 1))))) w fun t45 =>
        NilP p0 fun t48 =>
        ReadN Try.prog .bool (V (Instr.loadAt 4 (.pointer (some (t48.add 8))))) w fun t50 =>
        CallK Try.prog .bool 44 #[.pointer t45] w fun t46 w =>
        StillV Try.prog (V (Instr.loadAt 4 (.pointer (some (t48.add 8))))) (.bool t50) w ∧
        K (t46 == t50) w)
        (K false w))
      (K false w))
  fun k1 =>
    NilP p0 fun t22 =>
    RunN Try.prog .bool (V (Instr.loadAt 4 (.pointer (some (t22.add 8))))) w.drew fun t24 w =>
    SplitB t24
      (k1 (0, 0, ()) w)
      (k1 ((t8.len : Int), IntKind.i64.wrap ((IntKind.i64.wrap (Int.tdiv (t13.len : Int) 512)) - t19), ()) w)
theorem T26.calls {p0 : Option Addr} {w : World} {K : Bool → World → Prop} (h : T26 p0 w K) : CallK Try.prog .bool 26 #[.pointer p0] w K :=
  bodyZ_sound (κ := kappa) (ann := [(2, [(3, (.int .i64)), (4, (.int .i64))])]) (fn := Try.f26) Try.func26 rfl (by kernel_rfl) (cast (show T26 p0 w K = bodyZ Try.prog kappa [(2, [(3, (.int .i64)), (4, (.int .i64))])] .bool Try.f26 [.pointer p0] w K by kernel_rfl) h)

/-- (*sluice/sluicelaw21.desk).played -/
def T30 (p0 : Option Addr) (p1 : (Int × Int × Int × Sl × Unit)) (w : World) (K : Bool → World → Prop) : Prop :=
  RunN Try.prog .addr (V (Instr.box 69 (.agg #[.int .i64 p1.1, .int .i64 p1.2.1, .int .i64 p1.2.2.1, .slice p1.2.2.2.1.a p1.2.2.2.1.len p1.2.2.2.1.cap]))) w fun t3 w =>
  JoinX (α := Bool × Unit) (fun j2 w =>
    SplitB j2.1
      (NilP p0 fun t125 =>
      ReadN Try.prog .ptr (V (Instr.loadAt 25 (.pointer (some (t125.add 0))))) w.drew fun t127 =>
      NilP p0 fun t130 =>
      ReadN Try.prog .sl (V (Instr.loadAt 31 (.pointer (some (t130.add 2))))) w.drew fun t132 =>
      CallK Try.prog .sl 29 #[.pointer t127] w.drew fun t128 w =>
      StillV Try.prog (V (Instr.loadAt 31 (.pointer (some (t130.add 2))))) (.slice t132.a t132.len t132.cap) w ∧
      CallK Try.prog .bool 28 #[.slice t128.a t128.len t128.cap, .slice t132.a t132.len t132.cap] w fun t133 w =>
      SplitB t133
        (NilP p0 fun t137 =>
        ReadN Try.prog .ptr (V (Instr.loadAt 25 (.pointer (some (t137.add 0))))) w fun t139 =>
        NilP p0 fun t142 =>
        ReadN Try.prog .bool (V (Instr.loadAt 4 (.pointer (some (t142.add 3))))) w fun t144 =>
        CallK Try.prog .bool 33 #[.pointer t139] w fun t140 w =>
        StillV Try.prog (V (Instr.loadAt 4 (.pointer (some (t142.add 3))))) (.bool t144) w ∧
        K (t140 == t144) w)
        (K false w))
      (K false w.drew))
  fun k1 =>
    RunN Try.prog (.int .i64) (V (Instr.loadAt 3 (.pointer (some (t3.add 0))))) w fun t9 w =>
    SplitB (t9 == 1)
      (NilP p0 fun t13 =>
      RunN Try.prog .ptr (V (Instr.loadAt 25 (.pointer (some (t13.add 0))))) w fun t15 w =>
      CallK Try.prog (.int .i64) 27 #[.pointer t15] w fun t16 w =>
      RunN Try.prog .sl (V (Instr.loadAt 31 (.pointer (some (t3.add 3))))) w fun t19 w =>
      CallK Try.prog .bool 47 #[.pointer p0, .slice t19.a t19.len t19.cap] w fun t20 w =>
      SplitB t20
        (NilP p0 fun t24 =>
        ReadN Try.prog .ptr (V (Instr.loadAt 25 (.pointer (some (t24.add 0))))) w.drew fun t26 =>
        ReadN Try.prog .sl (V (Instr.loadAt 31 (.pointer (some (t3.add 3))))) w.drew fun t31 =>
        ReadN Try.prog (.int .i64) (V (Builtin.min_ #[3, 3] 3 #[.int .i64 (t31.len : Int), .int .i64 8192])) w.drew fun t33 =>
        CallK Try.prog (.int .i64) 27 #[.pointer t26] w.drew fun t27 w =>
        StillV Try.prog (V (Builtin.min_ #[3, 3] 3 #[.int .i64 (t31.len : Int), .int .i64 8192])) (.int .i64 t33) w ∧
        StillV Try.prog (V (Instr.loadAt 31 (.pointer (some (t3.add 3))))) (.slice t31.a t31.len t31.cap) w ∧
        CallK Try.prog (.int .i64) 48 #[.int .i64 t33] w fun t34 w =>
        k1 (decide ((IntKind.i64.wrap (t27 - t16)) ≤ t34), ()) w)
        (k1 (false, ()) w.drew))
      (SplitB (t9 == 2)
        (CallK Try.prog .bool 26 #[.pointer p0] w fun t40 w =>
        K t40 w)
        (SplitB (t9 == 3)
          (RunN Try.prog (.int .i64) (V (Instr.loadAt 3 (.pointer (some (t3.add 1))))) w fun t45 w =>
          CallK Try.prog .bool 49 #[.pointer p0, .int .i64 t45] w fun t46 w =>
          K t46 w)
          (SplitB (t9 == 4)
            (NilP p0 fun t50 =>
            RunN Try.prog .ptr (V (Instr.loadAt 25 (.pointer (some (t50.add 0))))) w fun t52 w =>
            CallK Try.prog (.int .i64) 27 #[.pointer t52] w fun t53 w =>
            CallK Try.prog .bool 31 #[.pointer p0] w fun t55 w =>
            SplitB t55
              (NilP p0 fun t58 =>
              RunN Try.prog .ptr (V (Instr.loadAt 25 (.pointer (some (t58.add 0))))) w fun t60 w =>
              CallK Try.prog (.int .i64) 27 #[.pointer t60] w fun t61 w =>
              k1 (t61 == t53, ()) w)
              (k1 (false, ()) w))
            (SplitB (t9 == 5)
              (JoinX (α := Unit) (fun j4 w =>
                NilP p0 fun t83 =>
                ReadN Try.prog .ptr (V (Instr.loadAt 25 (.pointer (some (t83.add 0))))) w.drew fun t85 =>
                ReadN Try.prog (.int .i64) (V (Instr.loadAt 3 (.pointer (some (t3.add 1))))) w.drew fun t87 =>
                ReadN Try.prog (.int .i64) (V (Instr.loadAt 3 (.pointer (some (t3.add 2))))) w.drew fun t89 =>
                CallK Try.prog (.tup .nilT) 23 #[.pointer t85, .int .i64 t87, .int .i64 t89] w.drew fun t90 w =>
                K true w)
              fun k3 =>
                NilP p0 fun t68 =>
                RunN Try.prog .bool (V (Instr.loadAt 4 (.pointer (some (t68.add 3))))) w fun t70 w =>
                SplitB t70
                  (RunN Try.prog (.int .i64) (V (Instr.loadAt 3 (.pointer (some (t3.add 1))))) w fun t73 w =>
                  RunN Try.prog (.int .i64) (V (Builtin.max_ #[3, 3] 3 #[.int .i64 t73, .int .i64 (-1)])) w fun t74 w =>
                  NilP p0 fun t75 =>
                  RunU Try.prog (U (Instr.storeAt 3 (.pointer (some (t75.add 4))) (.int .i64 t74))) w fun w =>
                  RunN Try.prog (.int .i64) (V (Instr.loadAt 3 (.pointer (some (t3.add 2))))) w fun t79 w =>
                  NilP p0 fun t80 =>
                  RunU Try.prog (U (Instr.storeAt 3 (.pointer (some (t80.add 5))) (.int .i64 t79))) w fun w =>
                  k3 () w)
                  (k3 () w))
              (SplitB (t9 == 6)
                (NilP p0 fun t94 =>
                RunU Try.prog (U (Instr.storeAt 4 (.pointer (some (t94.add 3))) (.bool false))) w fun w =>
                NilP p0 fun t97 =>
                RunU Try.prog (U (Instr.storeAt 3 (.pointer (some (t97.add 4))) (.int .i64 (-1)))) w fun w =>
                NilP p0 fun t100 =>
                RunN Try.prog .ptr (V (Instr.loadAt 25 (.pointer (some (t100.add 0))))) w fun t102 w =>
                CallK Try.prog (.tup .nilT) 50 #[.pointer t102] w fun t103 w =>
                k1 (true, ()) w)
                (SplitB (t9 == 7)
                  (JoinX (α := Unit) (fun j6 w =>
                    NilP p0 fun t115 =>
                    RunU Try.prog (U (Instr.storeAt 4 (.pointer (some (t115.add 3))) (.bool true))) w fun w =>
                    NilP p0 fun t118 =>
                    RunN Try.prog .ptr (V (Instr.loadAt 25 (.pointer (some (t118.add 0))))) w fun t120 w =>
                    CallK Try.prog (.tup .nilT) 43 #[.pointer t120] w fun t121 w =>
                    k1 (true, ()) w)
                  fun k5 =>
                    NilP p0 fun t107 =>
                    RunN Try.prog .bool (V (Instr.loadAt 4 (.pointer (some (t107.add 3))))) w fun t109 w =>
                    SplitB (!t109)
                      (NilP p0 fun t112 =>
                      RunU Try.prog (U (Instr.storeAt 3 (.pointer (some (t112.add 4))) (.int .i64 (-1)))) w fun w =>
                      k5 () w)
                      (k5 () w))
                  (k1 (true, ()) w)))))))
theorem T30.calls {p0 : Option Addr} {p1 : (Int × Int × Int × Sl × Unit)} {w : World} {K : Bool → World → Prop} (h : T30 p0 p1 w K) : CallK Try.prog .bool 30 #[.pointer p0, .agg #[.int .i64 p1.1, .int .i64 p1.2.1, .int .i64 p1.2.2.1, .slice p1.2.2.2.1.a p1.2.2.2.1.len p1.2.2.2.1.cap]] w K :=
  bodyZ_sound (κ := kappa) (ann := [(2, [(5, .bool)]), (14, []), (23, [])]) (fn := Try.f30) Try.func30 rfl (by kernel_rfl) (cast (show T30 p0 p1 w K = bodyZ Try.prog kappa [(2, [(5, .bool)]), (14, []), (23, [])] .bool Try.f30 [.pointer p0, .agg #[.int .i64 p1.1, .int .i64 p1.2.1, .int .i64 p1.2.2.1, .slice p1.2.2.2.1.a p1.2.2.2.1.len p1.2.2.2.1.cap]] w K by kernel_rfl) h)

/-- (*sluice/sluicelaw21.desk).opens -/
def T31 (p0 : Option Addr) (w : World) (K : Bool → World → Prop) : Prop :=
  NilP p0 fun t7 =>
  RunN Try.prog .ptr (V (Instr.loadAt 25 (.pointer (some (t7.add 0))))) w fun t9 w =>
  CallK Try.prog (.tup (.cons .ptr (.cons (.int .i64) .nilT))) 11 #[.pointer t9] w fun t10 w =>
  NilP p0 fun t14 =>
  RunN Try.prog .bool (V (Instr.loadAt 4 (.pointer (some (t14.add 3))))) w fun t16 w =>
  SplitB (!t16)
    (RunN Try.prog .bool (V (do eqGuard .eql 23 (.tmp 18) (.const (.pointer none)) (.pointer t10.1) (.pointer none); binOp .eql 23 (.pointer t10.1) (.pointer none))) w fun t19 w =>
    SplitB t19
      (CallK Try.prog (.int .i64) 20 #[.int .i64 t10.2.1] w fun t22 w =>
      K (t22 == 200) w)
      (K false w))
    (JoinX (α := Bool × Unit) (fun j2 w =>
      SplitB j2.1
        (K false w)
        (NilP p0 fun t33 =>
        RunU Try.prog (U (Instr.storeAt 23 (.pointer (some (t33.add 1))) (.pointer t10.1))) w fun w =>
        NilP p0 fun t39 =>
        RunN Try.prog .sl (V (Instr.loadAt 31 (.pointer (some (t39.add 2))))) w fun t41 w =>
        CallK Try.prog (.tup (.cons .sl (.cons (.int .i64) .nilT))) 51 #[.slice t41.a t41.len t41.cap] w fun t42 w =>
        NilP p0 fun t45 =>
        RunU Try.prog (U (Instr.storeAt 22 (.pointer (some (t45.add 6))) (.slice t42.1.a t42.1.len t42.1.cap))) w fun w =>
        NilP p0 fun t47 =>
        RunU Try.prog (U (Instr.storeAt 3 (.pointer (some (t47.add 7))) (.int .i64 t42.2.1))) w fun w =>
        NilP p0 fun t50 =>
        RunU Try.prog (U (Instr.storeAt 4 (.pointer (some (t50.add 8))) (.bool false))) w fun w =>
        K true w))
    fun k1 =>
      RunN Try.prog .bool (V (do eqGuard .eql 23 (.tmp 25) (.const (.pointer none)) (.pointer t10.1) (.pointer none); binOp .eql 23 (.pointer t10.1) (.pointer none))) w fun t26 w =>
      SplitB t26
        (k1 (true, ()) w)
        (k1 (t10.2.1 != 0, ()) w))
theorem T31.calls {p0 : Option Addr} {w : World} {K : Bool → World → Prop} (h : T31 p0 w K) : CallK Try.prog .bool 31 #[.pointer p0] w K :=
  bodyZ_sound (κ := kappa) (ann := [(6, [(30, .bool)])]) (fn := Try.f31) Try.func31 rfl (by kernel_rfl) (cast (show T31 p0 w K = bodyZ Try.prog kappa [(6, [(30, .bool)])] .bool Try.f31 [.pointer p0] w K by kernel_rfl) h)

/-- sluice/sluicelaw21.plays -/
def T32 (p0 : Int) (p1 : Sl) (p2 : Sl) (p3 : Bool) (w : World) (K : Bool → World → Prop) : Prop :=
  CallK Try.prog .sl 24 #[.int .i64 p0, .slice p1.a p1.len p1.cap] w fun t13 w =>
  CallK Try.prog .ptr 25 #[.slice t13.a t13.len t13.cap] w fun t14 w =>
  RunN Try.prog .bool (V (do eqGuard .eql 60 (.tmp 15) (.const (.pointer none)) (.pointer t14) (.pointer none); binOp .eql 60 (.pointer t14) (.pointer none))) w fun t16 w =>
  SplitB t16
    (K false w)
    (NilP t14 fun t18 =>
    RunN Try.prog .ptr (V (Instr.loadAt 62 (.pointer (some (t18.add 9))))) w fun t20 w =>
    NilP t20 fun t22 =>
    RunU Try.prog (U (Instr.storeAt 4 (.pointer (some (t22.add 0))) (.bool p3))) w fun w =>
    LoopX (α := Int × Unit) (fun s1 w k2 =>
      SplitB (decide (s1.1 < (p2.len : Int)))
        (RunN Try.prog .addr (V (Instr.indexAt 71 (.slice p2.a p2.len p2.cap) (.int .i64 s1.1))) w fun t33 w =>
        RunN Try.prog (.agg (.cons (.int .i64) (.cons (.int .i64) (.cons (.int .i64) (.cons .sl .nilT))))) (V (Instr.loadAt 69 (.pointer (some t33)))) w fun t34 w =>
        CallK Try.prog .bool 30 #[.pointer t14, .agg #[.int .i64 t34.1, .int .i64 t34.2.1, .int .i64 t34.2.2.1, .slice t34.2.2.2.1.a t34.2.2.2.1.len t34.2.2.2.1.cap]] w fun t35 w =>
        SplitB (!t35)
          (K false w)
          (k2 (IntKind.i64.wrap (s1.1 + 1), ()) w))
        (CallK Try.prog .bool 26 #[.pointer t14] w fun t38 w =>
        SplitB t38
          (NilP t14 fun t41 =>
          RunN Try.prog .ptr (V (Instr.loadAt 62 (.pointer (some (t41.add 9))))) w fun t43 w =>
          CallK Try.prog .bool 52 #[.pointer t43] w fun t44 w =>
          K t44 w)
          (K false w)))
    (0, ()) w)
theorem T32.calls {p0 : Int} {p1 : Sl} {p2 : Sl} {p3 : Bool} {w : World} {K : Bool → World → Prop} (h : T32 p0 p1 p2 p3 w K) : CallK Try.prog .bool 32 #[.int .i64 p0, .slice p1.a p1.len p1.cap, .slice p2.a p2.len p2.cap, .bool p3] w K :=
  bodyZ_sound (κ := kappa) (ann := [(8, [(10, (.int .i64))])]) (fn := Try.f32) Try.func32 rfl (by kernel_rfl) (cast (show T32 p0 p1 p2 p3 w K = bodyZ Try.prog kappa [(8, [(10, (.int .i64))])] .bool Try.f32 [.int .i64 p0, .slice p1.a p1.len p1.cap, .slice p2.a p2.len p2.cap, .bool p3] w K by kernel_rfl) h)

/-- (*sluice/sluicelaw21.desk).appends -/
def T47 (p0 : Option Addr) (p1 : Sl) (w : World) (K : Bool → World → Prop) : Prop :=
  CallK Try.prog .sl 12 #[.slice p1.a p1.len p1.cap] w fun t11 w =>
  NilP p0 fun t13 =>
  ReadN Try.prog .ptr (V (Instr.loadAt 23 (.pointer (some (t13.add 1))))) w.drew fun t15 =>
  ReadN Try.prog .sl (V (Instr.sliceAt 31 (.slice t11.a t11.len t11.cap) none (some (.int .i64 (p1.len : Int))) none)) w.drew fun t19 =>
  CallK Try.prog (.int .i64) 13 #[.pointer t15, .slice t19.a t19.len t19.cap] w.drew fun t20 w =>
  JoinX (α := Int × Unit) (fun j2 w =>
    CallK Try.prog .bool 14 #[.slice t11.a t11.len t11.cap, .slice p1.a p1.len p1.cap] w fun t122 w =>
    SplitB t122
      (CallK Try.prog (.int .i64) 20 #[.int .i64 t20] w fun t125 w =>
      K (t125 == j2.1) w)
      (K false w))
  fun k1 =>
    JoinX (α := Bool × Unit) (fun j4 w =>
      SplitB j4.1
        (NilP p0 fun t98 =>
        RunU Try.prog (U (Instr.storeAt 4 (.pointer (some (t98.add 8))) (.bool true))) w fun w =>
        k1 (200, ()) w)
        (SplitB (decide ((p1.len : Int) > 8192))
          (k1 (2, ()) w)
          (NilP p0 fun t109 =>
          ReadN Try.prog .sl (V (Instr.loadAt 31 (.pointer (some (t109.add 2))))) w.drew fun t111 =>
          NilP p0 fun t115 =>
          ReadN Try.prog (.int .i64) (V (Instr.loadAt 3 (.pointer (some (t115.add 7))))) w.drew fun t117 =>
          CallK Try.prog (.int .i64) 48 #[.int .i64 (p1.len : Int)] w.drew fun t107 w =>
          StillV Try.prog (V (Instr.loadAt 3 (.pointer (some (t115.add 7))))) (.int .i64 t117) w ∧
          StillV Try.prog (V (Instr.loadAt 31 (.pointer (some (t109.add 2))))) (.slice t111.a t111.len t111.cap) w ∧
          SplitB (decide (t107 > (IntKind.i64.wrap ((IntKind.i64.wrap (Int.tdiv (t111.len : Int) 512)) - t117))))
            (k1 (211, ()) w)
            (NilP p0 fun t22 =>
            RunN Try.prog .sl (V (Instr.loadAt 22 (.pointer (some (t22.add 6))))) w fun t24 w =>
            CallK Try.prog .sl 57 #[.int .i64 (IntKind.i64.wrap ((t24.len : Int) + 1)), .slice p1.a p1.len p1.cap] w fun t28 w =>
            LoopX (α := Int × Int × Unit) (fun s5 w k6 =>
              JoinX (α := Bool × Unit) (fun j8 w =>
                SplitB j8.1
                  (JoinX (α := Int × Unit) (fun j10 w =>
                    NilP p0 fun t57 =>
                    RunN Try.prog (.int .i64) (V (Instr.loadAt 3 (.pointer (some (t57.add 4))))) w fun t59 w =>
                    RunN Try.prog (.int .i64) (V (Builtin.max_ #[3, 3] 3 #[.int .i64 t59, .int .i64 (-1)])) w fun t60 w =>
                    NilP p0 fun t61 =>
                    RunU Try.prog (U (Instr.storeAt 3 (.pointer (some (t61.add 4))) (.int .i64 t60))) w fun w =>
                    k6 (j10.1, IntKind.i64.wrap (s5.2.1 + 1), ()) w)
                  fun k9 =>
                    NilP p0 fun t41 =>
                    ReadN Try.prog (.int .i64) (V (Instr.loadAt 3 (.pointer (some (t41.add 7))))) w.drew fun t43 =>
                    ReadN Try.prog .addr (V (Instr.indexAt 22 (.slice t28.a t28.len t28.cap) (.int .i64 s5.2.1))) w.drew fun t48 =>
                    ReadN Try.prog .sl (V (Instr.loadAt 31 (.pointer (some t48)))) w.drew fun t49 =>
                    CallK Try.prog .bool 58 #[.pointer p0, .int .i64 (IntKind.i64.wrap (t43 + s5.2.1)), .slice t49.a t49.len t49.cap] w.drew fun t50 w =>
                    SplitB (!t50)
                      (NilP p0 fun t53 =>
                      RunU Try.prog (U (Instr.storeAt 4 (.pointer (some (t53.add 8))) (.bool true))) w fun w =>
                      k9 (200, ()) w)
                      (k9 (s5.1, ()) w))
                  (SplitB (s5.1 == 0)
                    (NilP p0 fun t67 =>
                    ReadN Try.prog .sl (V (Instr.loadAt 22 (.pointer (some (t67.add 6))))) w.drew fun t69 =>
                    RunN Try.prog .sl (V (Builtin.append_ #[31, 31] 31 #[.slice none 0 0, .slice p1.a p1.len p1.cap])) w.drew fun t71 w =>
                    StillV Try.prog (V (Instr.loadAt 22 (.pointer (some (t67.add 6))))) (.slice t69.a t69.len t69.cap) w ∧
                    RunN Try.prog .sl (V (Instr.buildSlice 22 1 #[(0, .slice t71.a t71.len t71.cap)])) w fun t72 w =>
                    StillV Try.prog (V (Instr.loadAt 22 (.pointer (some (t67.add 6))))) (.slice t69.a t69.len t69.cap) w ∧
                    RunN Try.prog .sl (V (Builtin.append_ #[22, 22] 22 #[.slice t69.a t69.len t69.cap, .slice t72.a t72.len t72.cap])) w fun t73 w =>
                    NilP p0 fun t74 =>
                    RunU Try.prog (U (Instr.storeAt 22 (.pointer (some (t74.add 6))) (.slice t73.a t73.len t73.cap))) w fun w =>
                    NilP p0 fun t77 =>
                    RunN Try.prog (.int .i64) (V (Instr.loadAt 3 (.pointer (some (t77.add 7))))) w fun t79 w =>
                    NilP p0 fun t83 =>
                    RunU Try.prog (U (Instr.storeAt 3 (.pointer (some (t83.add 7))) (.int .i64 (IntKind.i64.wrap (t79 + (t28.len : Int)))))) w fun w =>
                    k1 (s5.1, ()) w)
                    (k1 (s5.1, ()) w)))
              fun k7 =>
                SplitB (decide (s5.2.1 < (t28.len : Int)))
                  (k7 (s5.1 == 0, ()) w)
                  (k7 (false, ()) w))
            (0, 0, ()) w))))
    fun k3 =>
      NilP p0 fun t87 =>
      RunN Try.prog .bool (V (Instr.loadAt 4 (.pointer (some (t87.add 8))))) w fun t89 w =>
      SplitB t89
        (k3 (true, ()) w)
        (NilP p0 fun t92 =>
        RunN Try.prog .bool (V (Instr.loadAt 4 (.pointer (some (t92.add 3))))) w fun t94 w =>
        k3 (!t94, ()) w)
theorem T47.calls {p0 : Option Addr} {p1 : Sl} {w : World} {K : Bool → World → Prop} (h : T47 p0 p1 w K) : CallK Try.prog .bool 47 #[.pointer p0, .slice p1.a p1.len p1.cap] w K :=
  bodyZ_sound (κ := kappa) (ann := [(4, [(7, (.int .i64))]), (5, [(85, .bool)]), (12, [(7, (.int .i64)), (9, (.int .i64))]), (14, [(36, .bool)]), (16, [(7, (.int .i64))])]) (fn := Try.f47) Try.func47 rfl (by kernel_rfl) (cast (show T47 p0 p1 w K = bodyZ Try.prog kappa [(4, [(7, (.int .i64))]), (5, [(85, .bool)]), (12, [(7, (.int .i64)), (9, (.int .i64))]), (14, [(36, .bool)]), (16, [(7, (.int .i64))])] .bool Try.f47 [.pointer p0, .slice p1.a p1.len p1.cap] w K by kernel_rfl) h)

/-- sluice/sluiceref21.Count -/
def T48 (p0 : Int) (w : World) (K : Int → World → Prop) : Prop :=
  SplitB (p0 == 0)
    (K 1 w)
    (K (IntKind.i64.wrap (Int.tdiv (IntKind.i64.wrap ((IntKind.i64.wrap (p0 + 496)) - 1)) 496)) w)
theorem T48.calls {p0 : Int} {w : World} {K : Int → World → Prop} (h : T48 p0 w K) : CallK Try.prog (.int .i64) 48 #[.int .i64 p0] w K :=
  bodyZ_sound (κ := kappa) (ann := []) (fn := Try.f48) Try.func48 rfl (by kernel_rfl) (cast (show T48 p0 w K = bodyZ Try.prog kappa [] (.int .i64) Try.f48 [.int .i64 p0] w K by kernel_rfl) h)

/-- (*sluice/sluicelaw21.desk).at -/
def T49 (p0 : Option Addr) (p1 : Int) (w : World) (K : Bool → World → Prop) : Prop :=
  NilP p0 fun t10 =>
  RunN Try.prog .ptr (V (Instr.loadAt 23 (.pointer (some (t10.add 1))))) w fun t12 w =>
  CallK Try.prog (.tup (.cons .sl (.cons (.int .i64) .nilT))) 41 #[.pointer t12, .int .i64 p1] w fun t14 w =>
  JoinX (α := Bool × Unit) (fun j2 w =>
    SplitB j2.1
      (SplitB ((t14.1.len : Int) == 0)
        (CallK Try.prog (.int .i64) 20 #[.int .i64 t14.2.1] w fun t39 w =>
        K (t39 == 1) w)
        (K false w))
      (JoinX (α := Bool × Unit) (fun j4 w =>
        NilP p0 fun t57 =>
        RunN Try.prog .ptr (V (Instr.loadAt 62 (.pointer (some (t57.add 9))))) w fun t59 w =>
        CallK Try.prog (.tup .nilT) 59 #[.pointer t59, .slice t14.1.a t14.1.len t14.1.cap] w fun t61 w =>
        K j4.1 w)
      fun k3 =>
        CallK Try.prog (.int .i64) 20 #[.int .i64 t14.2.1] w fun t43 w =>
        SplitB (t43 == 0)
          (NilP p0 fun t48 =>
          RunN Try.prog .sl (V (Instr.loadAt 22 (.pointer (some (t48.add 6))))) w fun t50 w =>
          RunN Try.prog .addr (V (Instr.indexAt 22 (.slice t50.a t50.len t50.cap) (.int .i64 p1))) w fun t52 w =>
          RunN Try.prog .sl (V (Instr.loadAt 31 (.pointer (some t52)))) w fun t53 w =>
          CallK Try.prog .bool 28 #[.slice t14.1.a t14.1.len t14.1.cap, .slice t53.a t53.len t53.cap] w fun t54 w =>
          k3 (t54, ()) w)
          (k3 (false, ()) w)))
  fun k1 =>
    NilP p0 fun t18 =>
    RunN Try.prog .bool (V (Instr.loadAt 4 (.pointer (some (t18.add 8))))) w fun t20 w =>
    SplitB t20
      (k1 (true, ()) w)
      (SplitB (decide (p1 < 0))
        (k1 (true, ()) w)
        (NilP p0 fun t28 =>
        RunN Try.prog .sl (V (Instr.loadAt 22 (.pointer (some (t28.add 6))))) w fun t30 w =>
        k1 (decide (p1 ≥ (t30.len : Int)), ()) w))
theorem T49.calls {p0 : Option Addr} {p1 : Int} {w : World} {K : Bool → World → Prop} (h : T49 p0 p1 w K) : CallK Try.prog .bool 49 #[.pointer p0, .int .i64 p1] w K :=
  bodyZ_sound (κ := kappa) (ann := [(3, [(33, .bool)]), (5, [(7, .bool)])]) (fn := Try.f49) Try.func49 rfl (by kernel_rfl) (cast (show T49 p0 p1 w K = bodyZ Try.prog kappa [(3, [(33, .bool)]), (5, [(7, .bool)])] .bool Try.f49 [.pointer p0, .int .i64 p1] w K by kernel_rfl) h)

/-- sluice/sluiceref21.Read -/
def T51 (p0 : Sl) (w : World) (K : (Sl × Int × Unit) → World → Prop) : Prop :=
  LoopX (α := Sl × Int × Unit) (fun s1 w k2 =>
    CallK Try.prog (.tup (.cons .sl (.cons .bool .nilT))) 60 #[.slice p0.a p0.len p0.cap, .int .i64 s1.2.1, .int .i64 (IntKind.i64.wrap ((s1.1.len : Int) + 1))] w fun t14 w =>
    SplitB (!t14.2.1)
      (K (s1.1, s1.2.1, ()) w)
      (RunN Try.prog .sl (V (Instr.buildSlice 22 1 #[(0, .slice t14.1.a t14.1.len t14.1.cap)])) w fun t23 w =>
      RunN Try.prog .sl (V (Builtin.append_ #[22, 22] 22 #[.slice s1.1.a s1.1.len s1.1.cap, .slice t23.a t23.len t23.cap])) w fun t24 w =>
      CallK Try.prog (.int .i64) 48 #[.int .i64 (t14.1.len : Int)] w fun t28 w =>
      k2 (t24, IntKind.i64.wrap (s1.2.1 + t28), ()) w))
  ((⟨none, 0, 0⟩ : Sl), 0, ()) w
theorem T51.calls {p0 : Sl} {w : World} {K : (Sl × Int × Unit) → World → Prop} (h : T51 p0 w K) : CallK Try.prog (.tup (.cons .sl (.cons (.int .i64) .nilT))) 51 #[.slice p0.a p0.len p0.cap] w K :=
  bodyZ_sound (κ := kappa) (ann := [(3, [(4, .sl), (5, (.int .i64))])]) (fn := Try.f51) Try.func51 rfl (by kernel_rfl) (cast (show T51 p0 w K = bodyZ Try.prog kappa [(3, [(4, .sl), (5, (.int .i64))])] (.tup (.cons .sl (.cons (.int .i64) .nilT))) Try.f51 [.slice p0.a p0.len p0.cap] w K by kernel_rfl) h)

/-- (*sluice/sluicelaw21.shelf).whole -/
def T52 (p0 : Option Addr) (w : World) (K : Bool → World → Prop) : Prop :=
  NilP p0 fun t6 =>
  RunN Try.prog .bool (V (Instr.loadAt 4 (.pointer (some (t6.add 0))))) w fun t8 w =>
  SplitB t8
    (CallK Try.prog .bool 61 #[.pointer p0] w fun t10 w =>
    K t10 w)
    (LoopX (α := Int × Unit) (fun s1 w k2 =>
      NilP p0 fun t13 =>
      RunN Try.prog .sl (V (Instr.loadAt 22 (.pointer (some (t13.add 1))))) w fun t15 w =>
      SplitB (decide (s1.1 < (t15.len : Int)))
        (LoopX (α := Int × Unit) (fun s3 w k4 =>
          NilP p0 fun t22 =>
          RunN Try.prog .sl (V (Instr.loadAt 22 (.pointer (some (t22.add 1))))) w fun t24 w =>
          RunN Try.prog .addr (V (Instr.indexAt 22 (.slice t24.a t24.len t24.cap) (.int .i64 s1.1))) w fun t26 w =>
          RunN Try.prog .sl (V (Instr.loadAt 31 (.pointer (some t26)))) w fun t27 w =>
          SplitB (decide (s3.1 < (t27.len : Int)))
            (NilP p0 fun t33 =>
            ReadN Try.prog .sl (V (Instr.loadAt 22 (.pointer (some (t33.add 1))))) w.drew fun t35 =>
            ReadN Try.prog .addr (V (Instr.indexAt 22 (.slice t35.a t35.len t35.cap) (.int .i64 s1.1))) w.drew fun t37 =>
            ReadN Try.prog .sl (V (Instr.loadAt 31 (.pointer (some t37)))) w.drew fun t38 =>
            ReadN Try.prog .addr (V (Instr.indexAt 31 (.slice t38.a t38.len t38.cap) (.int .i64 s3.1))) w.drew fun t40 =>
            ReadN Try.prog (.int .u8) (V (Instr.loadAt 5 (.pointer (some t40)))) w.drew fun t41 =>
            NilP p0 fun t43 =>
            ReadN Try.prog .sl (V (Instr.loadAt 40 (.pointer (some (t43.add 3))))) w.drew fun t45 =>
            ReadN Try.prog .addr (V (Instr.indexAt 40 (.slice t45.a t45.len t45.cap) (.int .i64 s1.1))) w.drew fun t47 =>
            ReadN Try.prog (.int .i64) (V (Instr.loadAt 3 (.pointer (some t47)))) w.drew fun t48 =>
            SplitB (t41 != (IntKind.u8.wrap (IntKind.i64.wrap ((Int.tmod t48 250) + 1))))
              (K false w.drew)
              (k4 (IntKind.i64.wrap (s3.1 + 1), ()) w.drew))
            (k2 (IntKind.i64.wrap (s1.1 + 1), ()) w))
        (0, ()) w)
        (K true w))
    (0, ()) w)
theorem T52.calls {p0 : Option Addr} {w : World} {K : Bool → World → Prop} (h : T52 p0 w K) : CallK Try.prog .bool 52 #[.pointer p0] w K :=
  bodyZ_sound (κ := kappa) (ann := [(6, [(3, (.int .i64))]), (11, [(4, (.int .i64))])]) (fn := Try.f52) Try.func52 rfl (by kernel_rfl) (cast (show T52 p0 w K = bodyZ Try.prog kappa [(6, [(3, (.int .i64))]), (11, [(4, (.int .i64))])] .bool Try.f52 [.pointer p0] w K by kernel_rfl) h)

/-- sluice/sluiceref21.Sectors -/
def T57 (p0 : Int) (p1 : Sl) (w : World) (K : Sl → World → Prop) : Prop :=
  LoopX (α := Sl × Int × Unit) (fun s1 w k2 =>
    CallK Try.prog (.int .i64) 48 #[.int .i64 (p1.len : Int)] w fun t13 w =>
    SplitB (decide (s1.2.1 < t13))
      (CallK Try.prog .sl 63 #[.int .i64 p0, .int .i64 s1.2.1, .int .i64 (p1.len : Int)] w fun t21 w =>
      LoopX (α := Sl × Int × Unit) (fun s3 w k4 =>
        SplitB (decide (s3.2.1 < 496))
          (JoinX (α := Int × Unit) (fun j6 w =>
            RunN Try.prog .sl (V (Instr.buildSlice 31 1 #[(0, .int .u8 j6.1)])) w fun t42 w =>
            RunN Try.prog .sl (V (Builtin.append_ #[31, 31] 31 #[.slice s3.1.a s3.1.len s3.1.cap, .slice t42.a t42.len t42.cap])) w fun t43 w =>
            k4 (t43, IntKind.i64.wrap (s3.2.1 + 1), ()) w)
          fun k5 =>
            SplitB (decide ((IntKind.i64.wrap ((IntKind.i64.wrap (s1.2.1 * 496)) + s3.2.1)) < (p1.len : Int)))
              (RunN Try.prog .addr (V (Instr.indexAt 31 (.slice p1.a p1.len p1.cap) (.int .i64 (IntKind.i64.wrap ((IntKind.i64.wrap (s1.2.1 * 496)) + s3.2.1))))) w fun t38 w =>
              RunN Try.prog (.int .u8) (V (Instr.loadAt 5 (.pointer (some t38)))) w fun t39 w =>
              k5 (t39, ()) w)
              (k5 (0, ()) w))
          (CallK Try.prog .sl 63 #[.int .i64 p0, .int .i64 s1.2.1, .int .i64 (p1.len : Int)] w fun t50 w =>
          RunN Try.prog .sl (V (Builtin.append_ #[31, 31] 31 #[.slice s3.1.a s3.1.len s3.1.cap, .slice t50.a t50.len t50.cap])) w fun t51 w =>
          RunN Try.prog .sl (V (Instr.buildSlice 22 1 #[(0, .slice t51.a t51.len t51.cap)])) w fun t52 w =>
          RunN Try.prog .sl (V (Builtin.append_ #[22, 22] 22 #[.slice s1.1.a s1.1.len s1.1.cap, .slice t52.a t52.len t52.cap])) w fun t53 w =>
          k2 (t53, IntKind.i64.wrap (s1.2.1 + 1), ()) w))
      (t21, 0, ()) w)
      (K s1.1 w))
  ((⟨none, 0, 0⟩ : Sl), 0, ()) w
theorem T57.calls {p0 : Int} {p1 : Sl} {w : World} {K : Sl → World → Prop} (h : T57 p0 p1 w K) : CallK Try.prog .sl 57 #[.int .i64 p0, .slice p1.a p1.len p1.cap] w K :=
  bodyZ_sound (κ := kappa) (ann := [(4, [(5, .sl), (6, (.int .i64))]), (11, [(7, .sl), (8, (.int .i64))]), (16, [(9, (.int .u8))])]) (fn := Try.f57) Try.func57 rfl (by kernel_rfl) (cast (show T57 p0 p1 w K = bodyZ Try.prog kappa [(4, [(5, .sl), (6, (.int .i64))]), (11, [(7, .sl), (8, (.int .i64))]), (16, [(9, (.int .u8))])] .sl Try.f57 [.int .i64 p0, .slice p1.a p1.len p1.cap] w K by kernel_rfl) h)

/-- (*sluice/sluicelaw21.desk).written -/
def T58 (p0 : Option Addr) (p1 : Int) (p2 : Sl) (w : World) (K : Bool → World → Prop) : Prop :=
  JoinX (α := Int × Unit) (fun j2 w =>
    LoopX (α := Int × Unit) (fun s3 w k4 =>
      SplitB (decide (s3.1 < j2.1))
        (NilP p0 fun t31 =>
        ReadN Try.prog .sl (V (Instr.loadAt 31 (.pointer (some (t31.add 2))))) w.drew fun t33 =>
        ReadN Try.prog .addr (V (Instr.indexAt 31 (.slice p2.a p2.len p2.cap) (.int .i64 s3.1))) w.drew fun t40 =>
        ReadN Try.prog (.int .u8) (V (Instr.loadAt 5 (.pointer (some t40)))) w.drew fun t41 =>
        ReadN Try.prog .addr (V (Instr.indexAt 31 (.slice t33.a t33.len t33.cap) (.int .i64 (IntKind.i64.wrap ((IntKind.i64.wrap (p1 * 512)) + s3.1))))) w.drew fun t42 =>
        RunU Try.prog (U (Instr.storeAt 5 (.pointer (some t42)) (.int .u8 t41))) w.drew fun w =>
        k4 (IntKind.i64.wrap (s3.1 + 1), ()) w)
        (NilP p0 fun t44 =>
        RunN Try.prog (.int .i64) (V (Instr.loadAt 3 (.pointer (some (t44.add 4))))) w fun t46 w =>
        NilP p0 fun t48 =>
        RunU Try.prog (U (Instr.storeAt 3 (.pointer (some (t48.add 4))) (.int .i64 (IntKind.i64.wrap (t46 - 1))))) w fun w =>
        NilP p0 fun t51 =>
        RunN Try.prog .bool (V (Instr.loadAt 4 (.pointer (some (t51.add 3))))) w fun t53 w =>
        K t53 w))
    (0, ()) w)
  fun k1 =>
    NilP p0 fun t12 =>
    RunN Try.prog (.int .i64) (V (Instr.loadAt 3 (.pointer (some (t12.add 4))))) w fun t14 w =>
    SplitB (t14 == 0)
      (NilP p0 fun t17 =>
      RunN Try.prog (.int .i64) (V (Instr.loadAt 3 (.pointer (some (t17.add 5))))) w fun t19 w =>
      RunN Try.prog (.int .i64) (V (Builtin.max_ #[3, 3] 3 #[.int .i64 t19, .int .i64 0])) w fun t20 w =>
      RunN Try.prog (.int .i64) (V (Builtin.min_ #[3, 3] 3 #[.int .i64 t20, .int .i64 512])) w fun t21 w =>
      NilP p0 fun t23 =>
      RunU Try.prog (U (Instr.storeAt 4 (.pointer (some (t23.add 3))) (.bool false))) w fun w =>
      k1 (t21, ()) w)
      (k1 ((p2.len : Int), ()) w)
theorem T58.calls {p0 : Option Addr} {p1 : Int} {p2 : Sl} {w : World} {K : Bool → World → Prop} (h : T58 p0 p1 p2 w K) : CallK Try.prog .bool 58 #[.pointer p0, .int .i64 p1, .slice p2.a p2.len p2.cap] w K :=
  bodyZ_sound (κ := kappa) (ann := [(2, [(7, (.int .i64))]), (7, [(8, (.int .i64))])]) (fn := Try.f58) Try.func58 rfl (by kernel_rfl) (cast (show T58 p0 p1 p2 w K = bodyZ Try.prog kappa [(2, [(7, (.int .i64))]), (7, [(8, (.int .i64))])] .bool Try.f58 [.pointer p0, .int .i64 p1, .slice p2.a p2.len p2.cap] w K by kernel_rfl) h)

/-- (*sluice/sluicelaw21.shelf).put -/
def T59 (p0 : Option Addr) (p1 : Sl) (w : World) (K : Unit → World → Prop) : Prop :=
  NilP p0 fun t6 =>
  RunN Try.prog .bool (V (Instr.loadAt 4 (.pointer (some (t6.add 0))))) w fun t8 w =>
  SplitB t8
    (NilP p0 fun t11 =>
    RunN Try.prog .sl (V (Instr.loadAt 22 (.pointer (some (t11.add 1))))) w fun t13 w =>
    RunN Try.prog .sl (V (Instr.buildSlice 22 1 #[(0, .slice p1.a p1.len p1.cap)])) w fun t15 w =>
    RunN Try.prog .sl (V (Builtin.append_ #[22, 22] 22 #[.slice t13.a t13.len t13.cap, .slice t15.a t15.len t15.cap])) w fun t16 w =>
    NilP p0 fun t17 =>
    RunU Try.prog (U (Instr.storeAt 22 (.pointer (some (t17.add 1))) (.slice t16.a t16.len t16.cap))) w fun w =>
    NilP p0 fun t21 =>
    ReadN Try.prog .sl (V (Instr.loadAt 22 (.pointer (some (t21.add 2))))) w.drew fun t23 =>
    RunN Try.prog .sl (V (Builtin.append_ #[31, 31] 31 #[.slice none 0 0, .slice p1.a p1.len p1.cap])) w.drew fun t25 w =>
    StillV Try.prog (V (Instr.loadAt 22 (.pointer (some (t21.add 2))))) (.slice t23.a t23.len t23.cap) w ∧
    RunN Try.prog .sl (V (Instr.buildSlice 22 1 #[(0, .slice t25.a t25.len t25.cap)])) w fun t26 w =>
    StillV Try.prog (V (Instr.loadAt 22 (.pointer (some (t21.add 2))))) (.slice t23.a t23.len t23.cap) w ∧
    RunN Try.prog .sl (V (Builtin.append_ #[22, 22] 22 #[.slice t23.a t23.len t23.cap, .slice t26.a t26.len t26.cap])) w fun t27 w =>
    NilP p0 fun t28 =>
    RunU Try.prog (U (Instr.storeAt 22 (.pointer (some (t28.add 2))) (.slice t27.a t27.len t27.cap))) w fun w =>
    K () w)
    (NilP p0 fun t31 =>
    RunN Try.prog .sl (V (Instr.loadAt 40 (.pointer (some (t31.add 3))))) w fun t33 w =>
    CallK Try.prog (.tup .nilT) 64 #[.slice p1.a p1.len p1.cap, .int .i64 (t33.len : Int)] w fun t37 w =>
    CallK Try.prog (.tup .nilT) 65 #[.pointer p0, .slice p1.a p1.len p1.cap, .int .i64 (t33.len : Int)] w fun t41 w =>
    K () w)
theorem T59.calls {p0 : Option Addr} {p1 : Sl} {w : World} {K : Unit → World → Prop} (h : T59 p0 p1 w K) : CallK Try.prog (.tup .nilT) 59 #[.pointer p0, .slice p1.a p1.len p1.cap] w K :=
  bodyZ_sound (κ := kappa) (ann := []) (fn := Try.f59) Try.func59 rfl (by kernel_rfl) (cast (show T59 p0 p1 w K = bodyZ Try.prog kappa [] (.tup .nilT) Try.f59 [.pointer p0, .slice p1.a p1.len p1.cap] w K by kernel_rfl) h)

/-- sluice/sluiceref21.stands -/
def T60 (p0 : Sl) (p1 : Int) (p2 : Int) (w : World) (K : (Sl × Bool × Unit) → World → Prop) : Prop :=
  SplitB (decide ((IntKind.i64.wrap ((IntKind.i64.wrap (Int.tdiv (p0.len : Int) 512)) - p1)) < 1))
    (K ((⟨none, 0, 0⟩ : Sl), false, ()) w)
    (ReadN Try.prog .addr (V (Instr.indexAt 31 (.slice p0.a p0.len p0.cap) (.int .i64 (IntKind.i64.wrap ((IntKind.i64.wrap (p1 * 512)) + 5))))) w.drew fun t25 =>
    ReadN Try.prog (.int .u8) (V (Instr.loadAt 5 (.pointer (some t25)))) w.drew fun t26 =>
    ReadN Try.prog .addr (V (Instr.indexAt 31 (.slice p0.a p0.len p0.cap) (.int .i64 (IntKind.i64.wrap ((IntKind.i64.wrap (p1 * 512)) + 6))))) w.drew fun t32 =>
    ReadN Try.prog (.int .u8) (V (Instr.loadAt 5 (.pointer (some t32)))) w.drew fun t33 =>
    JoinX (α := Bool × Unit) (fun j2 w =>
      SplitB j2.1
        (K ((⟨none, 0, 0⟩ : Sl), false, ()) w)
        (LoopX (α := Sl × Int × Unit) (fun s3 w k4 =>
          CallK Try.prog (.int .i64) 48 #[.int .i64 (IntKind.i64.wrap ((IntKind.i64.wrap t26) + (IntKind.i64.wrap (256 * (IntKind.i64.wrap t33)))))] w fun t47 w =>
          SplitB (decide (s3.2.1 < t47))
            (CallK Try.prog .sl 63 #[.int .i64 p2, .int .i64 s3.2.1, .int .i64 (IntKind.i64.wrap ((IntKind.i64.wrap t26) + (IntKind.i64.wrap (256 * (IntKind.i64.wrap t33)))))] w fun t58 w =>
            JoinX (α := Bool × Unit) (fun j6 w =>
              SplitB j6.1
                (K ((⟨none, 0, 0⟩ : Sl), false, ()) w)
                (RunN Try.prog .sl (V (Instr.sliceAt 31 (.slice p0.a p0.len p0.cap) (some (.int .i64 (IntKind.i64.wrap ((IntKind.i64.wrap ((IntKind.i64.wrap (p1 + s3.2.1)) * 512)) + 8)))) (some (.int .i64 (IntKind.i64.wrap ((IntKind.i64.wrap ((IntKind.i64.wrap ((IntKind.i64.wrap (p1 + s3.2.1)) * 512)) + 512)) - 8)))) none)) w fun t80 w =>
                RunN Try.prog .sl (V (Builtin.append_ #[31, 31] 31 #[.slice s3.1.a s3.1.len s3.1.cap, .slice t80.a t80.len t80.cap])) w fun t81 w =>
                k4 (t81, IntKind.i64.wrap (s3.2.1 + 1), ()) w))
            fun k5 =>
              CallK Try.prog .bool 66 #[.slice p0.a p0.len p0.cap, .int .i64 (IntKind.i64.wrap ((IntKind.i64.wrap (p1 + s3.2.1)) * 512)), .slice t58.a t58.len t58.cap] w fun t62 w =>
              SplitB (!t62)
                (k5 (true, ()) w)
                (CallK Try.prog .bool 66 #[.slice p0.a p0.len p0.cap, .int .i64 (IntKind.i64.wrap ((IntKind.i64.wrap ((IntKind.i64.wrap ((IntKind.i64.wrap (p1 + s3.2.1)) * 512)) + 512)) - 8)), .slice t58.a t58.len t58.cap] w fun t70 w =>
                k5 (!t70, ()) w))
            (RunN Try.prog .sl (V (Instr.sliceAt 31 (.slice s3.1.a s3.1.len s3.1.cap) none (some (.int .i64 (IntKind.i64.wrap ((IntKind.i64.wrap t26) + (IntKind.i64.wrap (256 * (IntKind.i64.wrap t33))))))) (some (.int .i64 (IntKind.i64.wrap ((IntKind.i64.wrap t26) + (IntKind.i64.wrap (256 * (IntKind.i64.wrap t33))))))))) w fun t85 w =>
            K (t85, true, ()) w))
        ((⟨none, 0, 0⟩ : Sl), 0, ()) w))
    fun k1 =>
      SplitB (decide ((IntKind.i64.wrap ((IntKind.i64.wrap t26) + (IntKind.i64.wrap (256 * (IntKind.i64.wrap t33))))) > 8192))
        (k1 (true, ()) w.drew)
        (CallK Try.prog (.int .i64) 48 #[.int .i64 (IntKind.i64.wrap ((IntKind.i64.wrap t26) + (IntKind.i64.wrap (256 * (IntKind.i64.wrap t33)))))] w.drew fun t41 w =>
        k1 (decide (t41 > (IntKind.i64.wrap ((IntKind.i64.wrap (Int.tdiv (p0.len : Int) 512)) - p1))), ()) w))
theorem T60.calls {p0 : Sl} {p1 : Int} {p2 : Int} {w : World} {K : (Sl × Bool × Unit) → World → Prop} (h : T60 p0 p1 p2 w K) : CallK Try.prog (.tup (.cons .sl (.cons .bool .nilT))) 60 #[.slice p0.a p0.len p0.cap, .int .i64 p1, .int .i64 p2] w K :=
  bodyZ_sound (κ := kappa) (ann := [(7, [(44, .bool)]), (12, [(10, .sl), (11, (.int .i64))]), (19, [(72, .bool)])]) (fn := Try.f60) Try.func60 rfl (by kernel_rfl) (cast (show T60 p0 p1 p2 w K = bodyZ Try.prog kappa [(7, [(44, .bool)]), (12, [(10, .sl), (11, (.int .i64))]), (19, [(72, .bool)])] (.tup (.cons .sl (.cons .bool .nilT))) Try.f60 [.slice p0.a p0.len p0.cap, .int .i64 p1, .int .i64 p2] w K by kernel_rfl) h)

/-- (*sluice/sluicelaw21.shelf).lately -/
def T61 (p0 : Option Addr) (w : World) (K : Bool → World → Prop) : Prop :=
  LoopX (α := Int × Unit) (fun s1 w k2 =>
    NilP p0 fun t9 =>
    RunN Try.prog .sl (V (Instr.loadAt 22 (.pointer (some (t9.add 1))))) w fun t11 w =>
    SplitB (decide (s1.1 < (t11.len : Int)))
      (NilP p0 fun t17 =>
      ReadN Try.prog .sl (V (Instr.loadAt 22 (.pointer (some (t17.add 1))))) w.drew fun t19 =>
      ReadN Try.prog .addr (V (Instr.indexAt 22 (.slice t19.a t19.len t19.cap) (.int .i64 s1.1))) w.drew fun t21 =>
      ReadN Try.prog .sl (V (Instr.loadAt 31 (.pointer (some t21)))) w.drew fun t22 =>
      NilP p0 fun t24 =>
      ReadN Try.prog .sl (V (Instr.loadAt 22 (.pointer (some (t24.add 2))))) w.drew fun t26 =>
      ReadN Try.prog .addr (V (Instr.indexAt 22 (.slice t26.a t26.len t26.cap) (.int .i64 s1.1))) w.drew fun t28 =>
      ReadN Try.prog .sl (V (Instr.loadAt 31 (.pointer (some t28)))) w.drew fun t29 =>
      CallK Try.prog .bool 28 #[.slice t22.a t22.len t22.cap, .slice t29.a t29.len t29.cap] w.drew fun t30 w =>
      SplitB (!t30)
        (K false w)
        (k2 (IntKind.i64.wrap (s1.1 + 1), ()) w))
      (RunN Try.prog .addr (V (Instr.box 89 (.agg #[.bool false, .slice none 0 0, .slice none 0 0, .slice none 0 0]))) w fun t33 w =>
      LoopX (α := Int × Unit) (fun s3 w k4 =>
        NilP p0 fun t36 =>
        RunN Try.prog .sl (V (Instr.loadAt 22 (.pointer (some (t36.add 1))))) w fun t38 w =>
        SplitB (decide (s3.1 < (t38.len : Int)))
          (NilP p0 fun t44 =>
          RunN Try.prog .sl (V (Instr.loadAt 22 (.pointer (some (t44.add 1))))) w fun t46 w =>
          RunN Try.prog .addr (V (Instr.indexAt 22 (.slice t46.a t46.len t46.cap) (.int .i64 s3.1))) w fun t48 w =>
          RunN Try.prog .sl (V (Instr.loadAt 31 (.pointer (some t48)))) w fun t49 w =>
          CallK Try.prog (.tup .nilT) 64 #[.slice t49.a t49.len t49.cap, .int .i64 s3.1] w fun t51 w =>
          k4 (IntKind.i64.wrap (s3.1 + 1), ()) w)
          (LoopX (α := Int × Unit) (fun s5 w k6 =>
            NilP p0 fun t54 =>
            RunN Try.prog .sl (V (Instr.loadAt 22 (.pointer (some (t54.add 1))))) w fun t56 w =>
            SplitB (decide (s5.1 < (t56.len : Int)))
              (NilP p0 fun t63 =>
              RunN Try.prog .sl (V (Instr.loadAt 22 (.pointer (some (t63.add 1))))) w fun t65 w =>
              RunN Try.prog .addr (V (Instr.indexAt 22 (.slice t65.a t65.len t65.cap) (.int .i64 s5.1))) w fun t67 w =>
              RunN Try.prog .sl (V (Instr.loadAt 31 (.pointer (some t67)))) w fun t68 w =>
              CallK Try.prog (.tup .nilT) 65 #[.pointer (some t33), .slice t68.a t68.len t68.cap, .int .i64 s5.1] w fun t70 w =>
              k6 (IntKind.i64.wrap (s5.1 + 1), ()) w)
              (CallK Try.prog .bool 52 #[.pointer (some t33)] w fun t72 w =>
              K t72 w))
          (0, ()) w))
      (0, ()) w))
  (0, ()) w
theorem T61.calls {p0 : Option Addr} {w : World} {K : Bool → World → Prop} (h : T61 p0 w K) : CallK Try.prog .bool 61 #[.pointer p0] w K :=
  bodyZ_sound (κ := kappa) (ann := [(3, [(3, (.int .i64))]), (12, [(5, (.int .i64))]), (18, [(6, (.int .i64))])]) (fn := Try.f61) Try.func61 rfl (by kernel_rfl) (cast (show T61 p0 w K = bodyZ Try.prog kappa [(3, [(3, (.int .i64))]), (12, [(5, (.int .i64))]), (18, [(6, (.int .i64))])] .bool Try.f61 [.pointer p0] w K by kernel_rfl) h)

/-- sluice/sluicelaw21.fill -/
def T64 (p0 : Sl) (p1 : Int) (w : World) (K : Unit → World → Prop) : Prop :=
  LoopX (α := Int × Unit) (fun s1 w k2 =>
    SplitB (decide (s1.1 < (p0.len : Int)))
      (RunN Try.prog .addr (V (Instr.indexAt 31 (.slice p0.a p0.len p0.cap) (.int .i64 s1.1))) w fun t17 w =>
      RunU Try.prog (U (Instr.storeAt 5 (.pointer (some t17)) (.int .u8 (IntKind.u8.wrap (IntKind.i64.wrap ((Int.tmod p1 250) + 1)))))) w fun w =>
      k2 (IntKind.i64.wrap (s1.1 + 1), ()) w)
      (K () w))
  (0, ()) w
theorem T64.calls {p0 : Sl} {p1 : Int} {w : World} {K : Unit → World → Prop} (h : T64 p0 p1 w K) : CallK Try.prog (.tup .nilT) 64 #[.slice p0.a p0.len p0.cap, .int .i64 p1] w K :=
  bodyZ_sound (κ := kappa) (ann := [(1, [(4, (.int .i64))])]) (fn := Try.f64) Try.func64 rfl (by kernel_rfl) (cast (show T64 p0 p1 w K = bodyZ Try.prog kappa [(1, [(4, (.int .i64))])] (.tup .nilT) Try.f64 [.slice p0.a p0.len p0.cap, .int .i64 p1] w K by kernel_rfl) h)

/-- (*sluice/sluicelaw21.shelf).hold -/
def T65 (p0 : Option Addr) (p1 : Sl) (p2 : Int) (w : World) (K : Unit → World → Prop) : Prop :=
  NilP p0 fun t10 =>
  RunN Try.prog .sl (V (Instr.loadAt 22 (.pointer (some (t10.add 1))))) w fun t12 w =>
  RunN Try.prog .sl (V (Instr.buildSlice 22 1 #[(0, .slice p1.a p1.len p1.cap)])) w fun t14 w =>
  RunN Try.prog .sl (V (Builtin.append_ #[22, 22] 22 #[.slice t12.a t12.len t12.cap, .slice t14.a t14.len t14.cap])) w fun t15 w =>
  NilP p0 fun t16 =>
  RunU Try.prog (U (Instr.storeAt 22 (.pointer (some (t16.add 1))) (.slice t15.a t15.len t15.cap))) w fun w =>
  NilP p0 fun t20 =>
  RunN Try.prog .sl (V (Instr.loadAt 40 (.pointer (some (t20.add 3))))) w fun t22 w =>
  RunN Try.prog .sl (V (Instr.buildSlice 40 1 #[(0, .int .i64 p2)])) w fun t24 w =>
  RunN Try.prog .sl (V (Builtin.append_ #[40, 40] 40 #[.slice t22.a t22.len t22.cap, .slice t24.a t24.len t24.cap])) w fun t25 w =>
  NilP p0 fun t26 =>
  RunU Try.prog (U (Instr.storeAt 40 (.pointer (some (t26.add 3))) (.slice t25.a t25.len t25.cap))) w fun w =>
  LoopX (α := Sl × Int × Unit) (fun s1 w k2 =>
    SplitB (decide (s1.2.1 < 40))
      (JoinX (α := Sl × Unit) (fun j4 w =>
        k2 (j4.1, IntKind.i64.wrap (s1.2.1 + 1), ()) w)
      fun k3 =>
        RunN Try.prog .sl (V (Instr.buildSlice 31 1 #[(0, .int .u8 (IntKind.u8.wrap (IntKind.i64.wrap ((Int.tmod p2 250) + 1))))])) w fun t38 w =>
        RunN Try.prog .sl (V (Builtin.append_ #[31, 31] 31 #[.slice s1.1.a s1.1.len s1.1.cap, .slice t38.a t38.len t38.cap])) w fun t39 w =>
        JoinX (α := Bool × Unit) (fun j6 w =>
          SplitB j6.1
            (NilP p0 fun t48 =>
            RunN Try.prog .sl (V (Instr.loadAt 22 (.pointer (some (t48.add 1))))) w fun t50 w =>
            RunN Try.prog .sl (V (Instr.buildSlice 22 1 #[(0, .slice t39.a t39.len t39.cap)])) w fun t52 w =>
            RunN Try.prog .sl (V (Builtin.append_ #[22, 22] 22 #[.slice t50.a t50.len t50.cap, .slice t52.a t52.len t52.cap])) w fun t53 w =>
            NilP p0 fun t54 =>
            RunU Try.prog (U (Instr.storeAt 22 (.pointer (some (t54.add 1))) (.slice t53.a t53.len t53.cap))) w fun w =>
            NilP p0 fun t58 =>
            RunN Try.prog .sl (V (Instr.loadAt 40 (.pointer (some (t58.add 3))))) w fun t60 w =>
            RunN Try.prog .sl (V (Instr.buildSlice 40 1 #[(0, .int .i64 p2)])) w fun t62 w =>
            RunN Try.prog .sl (V (Builtin.append_ #[40, 40] 40 #[.slice t60.a t60.len t60.cap, .slice t62.a t62.len t62.cap])) w fun t63 w =>
            NilP p0 fun t64 =>
            RunU Try.prog (U (Instr.storeAt 40 (.pointer (some (t64.add 3))) (.slice t63.a t63.len t63.cap))) w fun w =>
            k3 (t39, ()) w)
            (k3 (t39, ()) w))
        fun k5 =>
          SplitB (decide (s1.2.1 < 16))
            (k5 (true, ()) w)
            (k5 (s1.2.1 == 39, ()) w))
      (K () w))
  (p1, 0, ()) w
theorem T65.calls {p0 : Option Addr} {p1 : Sl} {p2 : Int} {w : World} {K : Unit → World → Prop} (h : T65 p0 p1 p2 w K) : CallK Try.prog (.tup .nilT) 65 #[.pointer p0, .slice p1.a p1.len p1.cap, .int .i64 p2] w K :=
  bodyZ_sound (κ := kappa) (ann := [(4, [(6, .sl), (7, (.int .i64))]), (7, [(6, .sl)]), (9, [(45, .bool)])]) (fn := Try.f65) Try.func65 rfl (by kernel_rfl) (cast (show T65 p0 p1 p2 w K = bodyZ Try.prog kappa [(4, [(6, .sl), (7, (.int .i64))]), (7, [(6, .sl)]), (9, [(45, .bool)])] (.tup .nilT) Try.f65 [.pointer p0, .slice p1.a p1.len p1.cap, .int .i64 p2] w K by kernel_rfl) h)

/-- sluice/sluiceref21.alike -/
def T66 (p0 : Sl) (p1 : Int) (p2 : Sl) (w : World) (K : Bool → World → Prop) : Prop :=
  LoopX (α := Int × Unit) (fun s1 w k2 =>
    SplitB (decide (s1.1 < (p2.len : Int)))
      (ReadN Try.prog .addr (V (Instr.indexAt 31 (.slice p0.a p0.len p0.cap) (.int .i64 (IntKind.i64.wrap (p1 + s1.1))))) w.drew fun t18 =>
      ReadN Try.prog (.int .u8) (V (Instr.loadAt 5 (.pointer (some t18)))) w.drew fun t19 =>
      ReadN Try.prog .addr (V (Instr.indexAt 31 (.slice p2.a p2.len p2.cap) (.int .i64 s1.1))) w.drew fun t22 =>
      ReadN Try.prog (.int .u8) (V (Instr.loadAt 5 (.pointer (some t22)))) w.drew fun t23 =>
      SplitB (t19 != t23)
        (K false w.drew)
        (k2 (IntKind.i64.wrap (s1.1 + 1), ()) w.drew))
      (K true w))
  (0, ()) w
theorem T66.calls {p0 : Sl} {p1 : Int} {p2 : Sl} {w : World} {K : Bool → World → Prop} (h : T66 p0 p1 p2 w K) : CallK Try.prog .bool 66 #[.slice p0.a p0.len p0.cap, .int .i64 p1, .slice p2.a p2.len p2.cap] w K :=
  bodyZ_sound (κ := kappa) (ann := [(3, [(7, (.int .i64))])]) (fn := Try.f66) Try.func66 rfl (by kernel_rfl) (cast (show T66 p0 p1 p2 w K = bodyZ Try.prog kappa [(3, [(7, (.int .i64))])] .bool Try.f66 [.slice p0.a p0.len p0.cap, .int .i64 p1, .slice p2.a p2.len p2.cap] w K by kernel_rfl) h)

end Go.Proofs.Ytimebochhbfkgaa
