import Derived.Test.YtpdaoahamgegoaaTD
namespace Go.Proofs.Ytpdaoahamgegoaa
open Go Go.Fw Go.Proofs
set_option maxRecDepth 100000
set_option linter.unusedVariables false

/-- sluice/sluicelaw20.DiskReads -/
def T6 (p0 : Int) (p1 : Sl) (p2 : Sl) (w : World) (K : Bool → World → Prop) : Prop :=
  CallK Try.prog .bool 29 #[.int .i64 p0, .slice p1.a p1.len p1.cap, .slice p2.a p2.len p2.cap, .int .i64 5, .int .i64 5] w fun t10 w =>
  K t10 w
theorem T6.calls {p0 : Int} {p1 : Sl} {p2 : Sl} {w : World} {K : Bool → World → Prop} (h : T6 p0 p1 p2 w K) : CallK Try.prog .bool 6 #[.int .i64 p0, .slice p1.a p1.len p1.cap, .slice p2.a p2.len p2.cap] w K :=
  bodyZ_sound (κ := kappa) (ann := []) (fn := Try.f6) Try.func6 rfl (by kernel_rfl) (cast (show T6 p0 p1 p2 w K = bodyZ Try.prog kappa [] .bool Try.f6 [.int .i64 p0, .slice p1.a p1.len p1.cap, .slice p2.a p2.len p2.cap] w K by kernel_rfl) h)

/-- sluice/sluicelaw20.DiskPower -/
def T7 (p0 : Int) (p1 : Sl) (p2 : Sl) (w : World) (K : Bool → World → Prop) : Prop :=
  CallK Try.prog .bool 29 #[.int .i64 p0, .slice p1.a p1.len p1.cap, .slice p2.a p2.len p2.cap, .int .i64 6, .int .i64 9] w fun t10 w =>
  K t10 w
theorem T7.calls {p0 : Int} {p1 : Sl} {p2 : Sl} {w : World} {K : Bool → World → Prop} (h : T7 p0 p1 p2 w K) : CallK Try.prog .bool 7 #[.int .i64 p0, .slice p1.a p1.len p1.cap, .slice p2.a p2.len p2.cap] w K :=
  bodyZ_sound (κ := kappa) (ann := []) (fn := Try.f7) Try.func7 rfl (by kernel_rfl) (cast (show T7 p0 p1 p2 w K = bodyZ Try.prog kappa [] .bool Try.f7 [.int .i64 p0, .slice p1.a p1.len p1.cap, .slice p2.a p2.len p2.cap] w K by kernel_rfl) h)

/-- sluice/sluicelaw20.DiskImages -/
def T8 (p0 : Int) (p1 : Sl) (p2 : Sl) (w : World) (K : Bool → World → Prop) : Prop :=
  CallK Try.prog .bool 29 #[.int .i64 p0, .slice p1.a p1.len p1.cap, .slice p2.a p2.len p2.cap, .int .i64 10, .int .i64 11] w fun t10 w =>
  K t10 w
theorem T8.calls {p0 : Int} {p1 : Sl} {p2 : Sl} {w : World} {K : Bool → World → Prop} (h : T8 p0 p1 p2 w K) : CallK Try.prog .bool 8 #[.int .i64 p0, .slice p1.a p1.len p1.cap, .slice p2.a p2.len p2.cap] w K :=
  bodyZ_sound (κ := kappa) (ann := []) (fn := Try.f8) Try.func8 rfl (by kernel_rfl) (cast (show T8 p0 p1 p2 w K = bodyZ Try.prog kappa [] .bool Try.f8 [.int .i64 p0, .slice p1.a p1.len p1.cap, .slice p2.a p2.len p2.cap] w K by kernel_rfl) h)

/-- sluice/sluicelaw20.DiskAll -/
def T9 (p0 : Int) (p1 : Sl) (p2 : Sl) (w : World) (K : Bool → World → Prop) : Prop :=
  CallK Try.prog .bool 30 #[.int .i64 p0, .slice p1.a p1.len p1.cap, .slice p2.a p2.len p2.cap] w fun t18 w =>
  SplitB (!t18)
    (K true w)
    (CallK Try.prog .bool 31 #[] w fun t20 w =>
    CallK Try.prog (.tup (.cons .ptr (.cons .bool .nilT))) 32 #[.int .i64 p0] w fun t23 w =>
    CallK Try.prog (.tup (.cons .ptr (.cons .bool .nilT))) 33 #[.slice p1.a p1.len p1.cap] w fun t28 w =>
    JoinX (α := Bool × Unit) (fun j2 w =>
      SplitB j2.1
        (K false w)
        (LoopX (α := Int × Unit) (fun s3 w k4 =>
          SplitB (decide (s3.1 < (p2.len : Int)))
            (RunN Try.prog .sl (V (Instr.sliceAt 51 (.slice p2.a p2.len p2.cap) (some (.int .i64 s3.1)) (some (.int .i64 (IntKind.i64.wrap (s3.1 + 1)))) none)) w fun t51 w =>
            JoinX (α := Bool × Unit) (fun j6 w =>
              JoinX (α := Bool × Unit) (fun j8 w =>
                SplitB (!j8.1)
                  (K false w)
                  (k4 (IntKind.i64.wrap (s3.1 + 1), ()) w))
              fun k7 =>
                JoinX (α := Bool × Unit) (fun j10 w =>
                  SplitB j10.1
                    (CallK Try.prog .bool 34 #[.pointer t28.1, .slice t51.a t51.len t51.cap, .int .i64 5, .int .i64 11] w fun t79 w =>
                    k7 (t79, ()) w)
                    (k7 (j6.1, ()) w))
                fun k9 =>
                  RunN Try.prog .addr (V (Instr.indexAt 51 (.slice p2.a p2.len p2.cap) (.int .i64 s3.1))) w fun t68 w =>
                  RunN Try.prog (.int .i64) (V (Instr.loadAt 3 (.pointer (some (t68.add 1))))) w fun t70 w =>
                  SplitB ((Int.tmod t70 2) != 0)
                    (RunN Try.prog .bool (V (do eqGuard .neq 54 (.tmp 74) (.const (.pointer none)) (.pointer t28.1) (.pointer none); binOp .neq 54 (.pointer t28.1) (.pointer none))) w fun t75 w =>
                    k9 (t75, ()) w)
                    (k9 (false, ()) w))
            fun k5 =>
              JoinX (α := Bool × Unit) (fun j12 w =>
                SplitB j12.1
                  (CallK Try.prog .bool 34 #[.pointer t23.1, .slice t51.a t51.len t51.cap, .int .i64 5, .int .i64 11] w fun t65 w =>
                  k5 (t65, ()) w)
                  (k5 (true, ()) w))
              fun k11 =>
                RunN Try.prog .addr (V (Instr.indexAt 51 (.slice p2.a p2.len p2.cap) (.int .i64 s3.1))) w fun t54 w =>
                RunN Try.prog (.int .i64) (V (Instr.loadAt 3 (.pointer (some (t54.add 1))))) w fun t56 w =>
                SplitB ((Int.tmod t56 2) == 0)
                  (RunN Try.prog .bool (V (do eqGuard .neq 54 (.tmp 60) (.const (.pointer none)) (.pointer t23.1) (.pointer none); binOp .neq 54 (.pointer t23.1) (.pointer none))) w fun t61 w =>
                  k11 (t61, ()) w)
                  (k11 (false, ()) w))
            (RunN Try.prog .bool (V (do eqGuard .eql 54 (.tmp 82) (.const (.pointer none)) (.pointer t23.1) (.pointer none); binOp .eql 54 (.pointer t23.1) (.pointer none))) w fun t83 w =>
            SplitB t83
              (RunN Try.prog .bool (V (do eqGuard .eql 54 (.tmp 91) (.const (.pointer none)) (.pointer t28.1) (.pointer none); binOp .eql 54 (.pointer t28.1) (.pointer none))) w fun t92 w =>
              SplitB t92
                (K true w)
                (NilP t28.1 fun t95 =>
                CallK Try.prog .bool 35 #[.pointer (some (t95.add 2))] w fun t97 w =>
                K t97 w))
              (NilP t23.1 fun t86 =>
              CallK Try.prog .bool 35 #[.pointer (some (t86.add 2))] w fun t88 w =>
              SplitB t88
                (RunN Try.prog .bool (V (do eqGuard .eql 54 (.tmp 91) (.const (.pointer none)) (.pointer t28.1) (.pointer none); binOp .eql 54 (.pointer t28.1) (.pointer none))) w fun t92 w =>
                SplitB t92
                  (K true w)
                  (NilP t28.1 fun t95 =>
                  CallK Try.prog .bool 35 #[.pointer (some (t95.add 2))] w fun t97 w =>
                  K t97 w))
                (K false w))))
        (0, ()) w))
    fun k1 =>
      SplitB (!t20)
        (k1 (true, ()) w)
        (SplitB (!t23.2.1)
          (k1 (true, ()) w)
          (k1 (!t28.2.1, ()) w)))
theorem T9.calls {p0 : Int} {p1 : Sl} {p2 : Sl} {w : World} {K : Bool → World → Prop} (h : T9 p0 p1 p2 w K) : CallK Try.prog .bool 9 #[.int .i64 p0, .slice p1.a p1.len p1.cap, .slice p2.a p2.len p2.cap] w K :=
  bodyZ_sound (κ := kappa) (ann := [(8, [(40, .bool)]), (12, [(12, (.int .i64))]), (18, [(14, .bool)]), (20, [(14, .bool)]), (21, [(76, .bool)]), (19, [(62, .bool)])]) (fn := Try.f9) Try.func9 rfl (by kernel_rfl) (cast (show T9 p0 p1 p2 w K = bodyZ Try.prog kappa [(8, [(40, .bool)]), (12, [(12, (.int .i64))]), (18, [(14, .bool)]), (20, [(14, .bool)]), (21, [(76, .bool)]), (19, [(62, .bool)])] .bool Try.f9 [.int .i64 p0, .slice p1.a p1.len p1.cap, .slice p2.a p2.len p2.cap] w K by kernel_rfl) h)

/-- sluice/sluicelaw20.holds -/
def T29 (p0 : Int) (p1 : Sl) (p2 : Sl) (p3 : Int) (p4 : Int) (w : World) (K : Bool → World → Prop) : Prop :=
  CallK Try.prog .bool 30 #[.int .i64 p0, .slice p1.a p1.len p1.cap, .slice p2.a p2.len p2.cap] w fun t17 w =>
  SplitB (!t17)
    (K true w)
    (CallK Try.prog .bool 31 #[] w fun t19 w =>
    SplitB (!t19)
      (K false w)
      (CallK Try.prog (.tup (.cons .ptr (.cons .bool .nilT))) 32 #[.int .i64 p0] w fun t24 w =>
      JoinX (α := Option Addr × Bool × Unit) (fun j2 w =>
        JoinX (α := Bool × Unit) (fun j4 w =>
          SplitB j4.1
            (K j2.2.1 w)
            (CallK Try.prog .bool 34 #[.pointer j2.1, .slice p2.a p2.len p2.cap, .int .i64 p3, .int .i64 p4] w fun t46 w =>
            SplitB t46
              (NilP j2.1 fun t49 =>
              CallK Try.prog .bool 35 #[.pointer (some (t49.add 2))] w fun t51 w =>
              K t51 w)
              (K false w)))
        fun k3 =>
          SplitB (!j2.2.1)
            (k3 (true, ()) w)
            (RunN Try.prog .bool (V (do eqGuard .eql 54 (.tmp 38) (.const (.pointer none)) (.pointer j2.1) (.pointer none); binOp .eql 54 (.pointer j2.1) (.pointer none))) w fun t39 w =>
            k3 (t39, ()) w))
      fun k1 =>
        SplitB (decide ((p1.len : Int) > 0))
          (CallK Try.prog (.tup (.cons .ptr (.cons .bool .nilT))) 33 #[.slice p1.a p1.len p1.cap] w fun t32 w =>
          k1 (t32.1, t32.2.1, ()) w)
          (k1 (t24.1, t24.2.1, ()) w)))
theorem T29.calls {p0 : Int} {p1 : Sl} {p2 : Sl} {p3 : Int} {p4 : Int} {w : World} {K : Bool → World → Prop} (h : T29 p0 p1 p2 p3 p4 w K) : CallK Try.prog .bool 29 #[.int .i64 p0, .slice p1.a p1.len p1.cap, .slice p2.a p2.len p2.cap, .int .i64 p3, .int .i64 p4] w K :=
  bodyZ_sound (κ := kappa) (ann := [(9, [(12, .ptr), (13, .bool)]), (12, [(40, .bool)])]) (fn := Try.f29) Try.func29 rfl (by kernel_rfl) (cast (show T29 p0 p1 p2 p3 p4 w K = bodyZ Try.prog kappa [(9, [(12, .ptr), (13, .bool)]), (12, [(40, .bool)])] .bool Try.f29 [.int .i64 p0, .slice p1.a p1.len p1.cap, .slice p2.a p2.len p2.cap, .int .i64 p3, .int .i64 p4] w K by kernel_rfl) h)

/-- sluice/sluicelaw20.fits -/
def T30 (p0 : Int) (p1 : Sl) (p2 : Sl) (w : World) (K : Bool → World → Prop) : Prop :=
  LoopX (α := Int × Int × Int × Unit) (fun s1 w k2 =>
    SplitB (decide (s1.2.2.1 < (p2.len : Int)))
      (JoinX (α := Int × Int × Unit) (fun j4 w =>
        k2 (j4.1, j4.2.1, IntKind.i64.wrap (s1.2.2.1 + 1), ()) w)
      fun k3 =>
        RunN Try.prog .addr (V (Instr.indexAt 51 (.slice p2.a p2.len p2.cap) (.int .i64 s1.2.2.1))) w fun t20 w =>
        RunN Try.prog .sl (V (Instr.loadAt 30 (.pointer (some (t20.add 4))))) w fun t22 w =>
        RunN Try.prog .addr (V (Instr.indexAt 51 (.slice p2.a p2.len p2.cap) (.int .i64 s1.2.2.1))) w fun t27 w =>
        RunN Try.prog (.int .i64) (V (Instr.loadAt 3 (.pointer (some (t27.add 0))))) w fun t29 w =>
        SplitB (t29 == 10)
          (k3 (IntKind.i64.wrap (s1.1 + (t22.len : Int)), IntKind.i64.wrap (s1.2.1 + 1), ()) w)
          (k3 (IntKind.i64.wrap (s1.1 + (t22.len : Int)), s1.2.1, ()) w))
      (JoinX (α := Bool × Unit) (fun j6 w =>
        SplitB (decide ((p2.len : Int) ≤ 300))
          (SplitB (decide (s1.1 ≤ 4194304))
            (SplitB (decide ((p1.len : Int) ≤ 4194304))
              (SplitB (decide ((IntKind.i64.wrap ((p1.len : Int) * s1.2.1)) ≤ 134217728))
                (K (!j6.1) w)
                (K false w))
              (K false w))
            (K false w))
          (K false w))
      fun k5 =>
        SplitB (decide (p0 > 0))
          (SplitB (decide (p0 ≤ 65536))
            (k5 (decide ((IntKind.i64.wrap (p0 * s1.2.1)) > 262144), ()) w)
            (k5 (false, ()) w))
          (k5 (false, ()) w)))
  (0, 1, 0, ()) w
theorem T30.calls {p0 : Int} {p1 : Sl} {p2 : Sl} {w : World} {K : Bool → World → Prop} (h : T30 p0 p1 p2 w K) : CallK Try.prog .bool 30 #[.int .i64 p0, .slice p1.a p1.len p1.cap, .slice p2.a p2.len p2.cap] w K :=
  bodyZ_sound (κ := kappa) (ann := [(5, [(7, (.int .i64)), (8, (.int .i64)), (9, (.int .i64))]), (8, [(7, (.int .i64)), (8, (.int .i64))]), (11, [(10, .bool)])]) (fn := Try.f30) Try.func30 rfl (by kernel_rfl) (cast (show T30 p0 p1 p2 w K = bodyZ Try.prog kappa [(5, [(7, (.int .i64)), (8, (.int .i64)), (9, (.int .i64))]), (8, [(7, (.int .i64)), (8, (.int .i64))]), (11, [(10, .bool)])] .bool Try.f30 [.int .i64 p0, .slice p1.a p1.len p1.cap, .slice p2.a p2.len p2.cap] w K by kernel_rfl) h)

/-- sluice/sluicelaw20.alive -/
def T31  (w : World) (K : Bool → World → Prop) : Prop :=
  CallK Try.prog (.tup (.cons .ptr (.cons .bool .nilT))) 32 #[.int .i64 2] w fun t4 w =>
  JoinX (α := Bool × Unit) (fun j2 w =>
    SplitB j2.1
      (K false w)
      (CallK Try.prog .sl 13 #[.int .u8 65] w fun t15 w =>
      CallK Try.prog .sl 13 #[.int .u8 66] w fun t17 w =>
      RunN Try.prog .sl (V (Instr.buildSlice 51 10 #[(0, .agg #[.int .i64 2, .int .i64 0, .int .i64 1, .int .i64 5, .slice none 0 0]), (1, .agg #[.int .i64 1, .int .i64 0, .int .i64 1, .int .i64 0, .slice t15.a t15.len t15.cap]), (2, .agg #[.int .i64 1, .int .i64 0, .int .i64 1, .int .i64 0, .slice t17.a t17.len t17.cap]), (3, .agg #[.int .i64 6, .int .i64 0, .int .i64 0, .int .i64 0, .slice none 0 0]), (4, .agg #[.int .i64 4, .int .i64 0, .int .i64 0, .int .i64 0, .slice none 0 0]), (5, .agg #[.int .i64 5, .int .i64 0, .int .i64 1, .int .i64 0, .slice none 0 0]), (6, .agg #[.int .i64 7, .int .i64 0, .int .i64 0, .int .i64 0, .slice none 0 0]), (7, .agg #[.int .i64 8, .int .i64 0, .int .i64 0, .int .i64 0, .slice none 0 0]), (8, .agg #[.int .i64 9, .int .i64 0, .int .i64 0, .int .i64 0, .slice none 0 0]), (9, .agg #[.int .i64 10, .int .i64 0, .int .i64 0, .int .i64 0, .slice none 0 0])])) w fun t26 w =>
      CallK Try.prog .bool 34 #[.pointer t4.1, .slice t26.a t26.len t26.cap, .int .i64 5, .int .i64 11] w fun t27 w =>
      K t27 w))
  fun k1 =>
    SplitB (!t4.2.1)
      (k1 (true, ()) w)
      (RunN Try.prog .bool (V (do eqGuard .eql 54 (.tmp 10) (.const (.pointer none)) (.pointer t4.1) (.pointer none); binOp .eql 54 (.pointer t4.1) (.pointer none))) w fun t11 w =>
      k1 (t11, ()) w)
theorem T31.calls  {w : World} {K : Bool → World → Prop} (h : T31  w K) : CallK Try.prog .bool 31 #[] w K :=
  bodyZ_sound (κ := kappa) (ann := [(3, [(12, .bool)])]) (fn := Try.f31) Try.func31 rfl (by kernel_rfl) (cast (show T31  w K = bodyZ Try.prog kappa [(3, [(12, .bool)])] .bool Try.f31 [] w K by kernel_rfl) h)

/-- sluice/sluicelaw20.made -/
def T32 (p0 : Int) (w : World) (K : (Option Addr × Bool × Unit) → World → Prop) : Prop :=
  CallK Try.prog (.tup (.cons .ptr (.cons (.int .i64) .nilT))) 11 #[.int .i64 p0] w fun t10 w =>
  CallK Try.prog (.tup (.cons .ptr (.cons (.int .i64) .nilT))) 39 #[.int .i64 p0] w fun t15 w =>
  JoinX (α := Bool × Unit) (fun j2 w =>
    SplitB j2.1
      (K (none, false, ()) w)
      (JoinX (α := Bool × Unit) (fun j4 w =>
        SplitB j4.1
          (K (none, true, ()) w)
          (RunN Try.prog .addr (V (Instr.box 67 (.agg #[.pointer t10.1, .pointer t15.1, .slice none 0 0, .slice none 0 0, .slice none 0 0, .slice none 0 0, .int .i64 0, .slice none 0 0, .slice none 0 0, .slice none 0 0, .slice none 0 0, .int .i64 0, .slice none 0 0, .int .i64 0]))) w fun t38 w =>
          K (some t38, true, ()) w))
      fun k3 =>
        RunN Try.prog .bool (V (do eqGuard .eql 24 (.tmp 29) (.const (.pointer none)) (.pointer t10.1) (.pointer none); binOp .eql 24 (.pointer t10.1) (.pointer none))) w fun t30 w =>
        SplitB t30
          (k3 (true, ()) w)
          (RunN Try.prog .bool (V (do eqGuard .eql 61 (.tmp 32) (.const (.pointer none)) (.pointer t15.1) (.pointer none); binOp .eql 61 (.pointer t15.1) (.pointer none))) w fun t33 w =>
          k3 (t33, ()) w)))
  fun k1 =>
    CallK Try.prog (.int .i64) 12 #[.int .i64 t10.2.1] w fun t19 w =>
    SplitB (t19 != t15.2.1)
      (k1 (true, ()) w)
      (RunN Try.prog .bool (V (do eqGuard .eql 24 (.tmp 23) (.const (.pointer none)) (.pointer t10.1) (.pointer none); binOp .eql 24 (.pointer t10.1) (.pointer none))) w fun t24 w =>
      RunN Try.prog .bool (V (do eqGuard .eql 61 (.tmp 25) (.const (.pointer none)) (.pointer t15.1) (.pointer none); binOp .eql 61 (.pointer t15.1) (.pointer none))) w fun t26 w =>
      k1 (!(t24 == t26), ()) w)
theorem T32.calls {p0 : Int} {w : World} {K : (Option Addr × Bool × Unit) → World → Prop} (h : T32 p0 w K) : CallK Try.prog (.tup (.cons .ptr (.cons .bool .nilT))) 32 #[.int .i64 p0] w K :=
  bodyZ_sound (κ := kappa) (ann := [(4, [(28, .bool)]), (7, [(34, .bool)])]) (fn := Try.f32) Try.func32 rfl (by kernel_rfl) (cast (show T32 p0 w K = bodyZ Try.prog kappa [(4, [(28, .bool)]), (7, [(34, .bool)])] (.tup (.cons .ptr (.cons .bool .nilT))) Try.f32 [.int .i64 p0] w K by kernel_rfl) h)

/-- sluice/sluicelaw20.taken -/
def T33 (p0 : Sl) (w : World) (K : (Option Addr × Bool × Unit) → World → Prop) : Prop :=
  CallK Try.prog .sl 40 #[.slice p0.a p0.len p0.cap] w fun t13 w =>
  RunN Try.prog .sl (V (Instr.sliceAt 30 (.slice t13.a t13.len t13.cap) none (some (.int .i64 (p0.len : Int))) none)) w fun t18 w =>
  CallK Try.prog (.tup (.cons .ptr (.cons (.int .i64) .nilT))) 25 #[.slice t18.a t18.len t18.cap] w fun t19 w =>
  CallK Try.prog (.tup (.cons .ptr (.cons (.int .i64) .nilT))) 41 #[.slice p0.a p0.len p0.cap] w fun t24 w =>
  CallK Try.prog .bool 42 #[.slice t13.a t13.len t13.cap, .slice p0.a p0.len p0.cap] w fun t29 w =>
  JoinX (α := Bool × Unit) (fun j2 w =>
    SplitB j2.1
      (K (none, false, ()) w)
      (RunN Try.prog .sl (V (Instr.sliceAt 30 (.slice t13.a t13.len t13.cap) none (some (.int .i64 (p0.len : Int))) none)) w fun t49 w =>
      CallK Try.prog (.tup (.cons .ptr (.cons (.int .i64) .nilT))) 25 #[.slice t49.a t49.len t49.cap] w fun t50 w =>
      JoinX (α := Bool × Unit) (fun j4 w =>
        SplitB j4.1
          (K (none, false, ()) w)
          (JoinX (α := Bool × Unit) (fun j6 w =>
            SplitB j6.1
              (K (none, true, ()) w)
              (RunN Try.prog .addr (V (Instr.box 67 (.agg #[.pointer t19.1, .pointer t24.1, .slice none 0 0, .slice none 0 0, .slice none 0 0, .slice none 0 0, .int .i64 0, .slice none 0 0, .slice none 0 0, .slice none 0 0, .slice none 0 0, .int .i64 0, .slice none 0 0, .int .i64 0]))) w fun t87 w =>
              K (some t87, true, ()) w))
          fun k5 =>
            RunN Try.prog .bool (V (do eqGuard .eql 24 (.tmp 78) (.const (.pointer none)) (.pointer t19.1) (.pointer none); binOp .eql 24 (.pointer t19.1) (.pointer none))) w fun t79 w =>
            SplitB t79
              (k5 (true, ()) w)
              (RunN Try.prog .bool (V (do eqGuard .eql 61 (.tmp 81) (.const (.pointer none)) (.pointer t24.1) (.pointer none); binOp .eql 61 (.pointer t24.1) (.pointer none))) w fun t82 w =>
              k5 (t82, ()) w)))
      fun k3 =>
        CallK Try.prog (.int .i64) 12 #[.int .i64 t50.2.1] w.drew fun t54 w =>
        SplitB (t54 != t24.2.1)
          (k3 (true, ()) w)
          (ReadN Try.prog .bool (V (do eqGuard .eql 24 (.tmp 58) (.const (.pointer none)) (.pointer t50.1) (.pointer none); binOp .eql 24 (.pointer t50.1) (.pointer none))) w fun t59 =>
          ReadN Try.prog .bool (V (do eqGuard .eql 61 (.tmp 60) (.const (.pointer none)) (.pointer t24.1) (.pointer none); binOp .eql 61 (.pointer t24.1) (.pointer none))) w fun t61 =>
          SplitB (!(t59 == t61))
            (k3 (true, ()) w)
            (ReadN Try.prog .bool (V (do eqGuard .neq 24 (.tmp 65) (.const (.pointer none)) (.pointer t50.1) (.pointer none); binOp .neq 24 (.pointer t50.1) (.pointer none))) w fun t66 =>
            SplitB t66
              (ReadN Try.prog .sl (V (Instr.sliceAt 30 (.slice t13.a t13.len t13.cap) none (some (.int .i64 (p0.len : Int))) none)) w fun t73 =>
              CallK Try.prog .sl 22 #[.pointer t50.1] w fun t69 w =>
              StillV Try.prog (V (Instr.sliceAt 30 (.slice t13.a t13.len t13.cap) none (some (.int .i64 (p0.len : Int))) none)) (.slice t73.a t73.len t73.cap) w ∧
              CallK Try.prog .bool 28 #[.slice t69.a t69.len t69.cap, .slice t73.a t73.len t73.cap] w fun t74 w =>
              k3 (!t74, ()) w)
              (k3 (false, ()) w)))))
  fun k1 =>
    SplitB (!t29)
      (k1 (true, ()) w)
      (CallK Try.prog (.int .i64) 12 #[.int .i64 t19.2.1] w fun t34 w =>
      SplitB (t34 != t24.2.1)
        (k1 (true, ()) w)
        (RunN Try.prog .bool (V (do eqGuard .eql 24 (.tmp 39) (.const (.pointer none)) (.pointer t19.1) (.pointer none); binOp .eql 24 (.pointer t19.1) (.pointer none))) w fun t40 w =>
        RunN Try.prog .bool (V (do eqGuard .eql 61 (.tmp 41) (.const (.pointer none)) (.pointer t24.1) (.pointer none); binOp .eql 61 (.pointer t24.1) (.pointer none))) w fun t42 w =>
        k1 (!(t40 == t42), ()) w))
theorem T33.calls {p0 : Sl} {w : World} {K : (Option Addr × Bool × Unit) → World → Prop} (h : T33 p0 w K) : CallK Try.prog (.tup (.cons .ptr (.cons .bool .nilT))) 33 #[.slice p0.a p0.len p0.cap] w K :=
  bodyZ_sound (κ := kappa) (ann := [(6, [(44, .bool)]), (10, [(77, .bool)]), (13, [(83, .bool)])]) (fn := Try.f33) Try.func33 rfl (by kernel_rfl) (cast (show T33 p0 w K = bodyZ Try.prog kappa [(6, [(44, .bool)]), (10, [(77, .bool)]), (13, [(83, .bool)])] (.tup (.cons .ptr (.cons .bool .nilT))) Try.f33 [.slice p0.a p0.len p0.cap] w K by kernel_rfl) h)

/-- (*sluice/sluicelaw20.pair).plays -/
def T34 (p0 : Option Addr) (p1 : Sl) (p2 : Int) (p3 : Int) (w : World) (K : Bool → World → Prop) : Prop :=
  LoopX (α := Bool × Int × Unit) (fun s1 w k2 =>
    JoinX (α := Bool × Unit) (fun j4 w =>
      SplitB j4.1
        (JoinX (α := Bool × Unit) (fun j6 w =>
          k2 (j6.1, IntKind.i64.wrap (s1.2.1 + 1), ()) w)
        fun k5 =>
          RunN Try.prog .addr (V (Instr.indexAt 51 (.slice p1.a p1.len p1.cap) (.int .i64 s1.2.1))) w fun t23 w =>
          RunN Try.prog (.agg (.cons (.int .i64) (.cons (.int .i64) (.cons (.int .i64) (.cons (.int .i64) (.cons .sl .nilT)))))) (V (Instr.loadAt 59 (.pointer (some t23)))) w fun t24 w =>
          RunN Try.prog .addr (V (Instr.alloc 59 true (.tuple #[]))) w fun t11 w =>
          RunU Try.prog (U (Instr.storeAt 59 (.pointer (some t11)) (.agg #[.int .i64 t24.1, .int .i64 t24.2.1, .int .i64 t24.2.2.1, .int .i64 t24.2.2.2.1, .slice t24.2.2.2.2.1.a t24.2.2.2.2.1.len t24.2.2.2.2.1.cap]))) w fun w =>
          JoinX (α := Bool × Unit) (fun j8 w =>
            SplitB j8.1
              (NilP p0 fun t54 =>
              CallK Try.prog .bool 45 #[.pointer (some (t54.add 2))] w fun t56 w =>
              k5 (t56, ()) w)
              (k5 (false, ()) w))
          fun k7 =>
            JoinX (α := Bool × Unit) (fun j10 w =>
              SplitB j10.1
                (RunN Try.prog (.agg (.cons (.int .i64) (.cons (.int .i64) (.cons (.int .i64) (.cons (.int .i64) (.cons .sl .nilT)))))) (V (Instr.loadAt 59 (.pointer (some t11)))) w fun t35 w =>
                CallK Try.prog .bool 43 #[.pointer p0, .agg #[.int .i64 t35.1, .int .i64 t35.2.1, .int .i64 t35.2.2.1, .int .i64 t35.2.2.2.1, .slice t35.2.2.2.2.1.a t35.2.2.2.2.1.len t35.2.2.2.2.1.cap]] w fun t36 w =>
                k7 (t36, ()) w)
                (JoinX (α := Bool × Unit) (fun j12 w =>
                  SplitB j12.1
                    (RunN Try.prog (.agg (.cons (.int .i64) (.cons (.int .i64) (.cons (.int .i64) (.cons (.int .i64) (.cons .sl .nilT)))))) (V (Instr.loadAt 59 (.pointer (some t11)))) w fun t49 w =>
                    CallK Try.prog .bool 44 #[.pointer p0, .agg #[.int .i64 t49.1, .int .i64 t49.2.1, .int .i64 t49.2.2.1, .int .i64 t49.2.2.2.1, .slice t49.2.2.2.2.1.a t49.2.2.2.2.1.len t49.2.2.2.2.1.cap]] w fun t50 w =>
                    k7 (t50, ()) w)
                    (k7 (s1.1, ()) w))
                fun k11 =>
                  RunN Try.prog (.int .i64) (V (Instr.loadAt 3 (.pointer (some (t11.add 0))))) w fun t39 w =>
                  SplitB (decide (t39 ≥ p2))
                    (RunN Try.prog (.int .i64) (V (Instr.loadAt 3 (.pointer (some (t11.add 0))))) w fun t44 w =>
                    k11 (decide (t44 ≤ p3), ()) w)
                    (k11 (false, ()) w)))
            fun k9 =>
              RunN Try.prog (.int .i64) (V (Instr.loadAt 3 (.pointer (some (t11.add 0))))) w fun t27 w =>
              SplitB (decide (t27 ≥ 1))
                (RunN Try.prog (.int .i64) (V (Instr.loadAt 3 (.pointer (some (t11.add 0))))) w fun t31 w =>
                k9 (decide (t31 ≤ 4), ()) w)
                (k9 (false, ()) w))
        (K s1.1 w))
    fun k3 =>
      SplitB (decide (s1.2.1 < (p1.len : Int)))
        (k3 (s1.1, ()) w)
        (k3 (false, ()) w))
  (true, 0, ()) w
theorem T34.calls {p0 : Option Addr} {p1 : Sl} {p2 : Int} {p3 : Int} {w : World} {K : Bool → World → Prop} (h : T34 p0 p1 p2 p3 w K) : CallK Try.prog .bool 34 #[.pointer p0, .slice p1.a p1.len p1.cap, .int .i64 p2, .int .i64 p3] w K :=
  bodyZ_sound (κ := kappa) (ann := [(4, [(9, .bool), (10, (.int .i64))]), (6, [(18, .bool)]), (7, [(9, .bool)]), (9, [(9, .bool)]), (10, [(25, .bool)]), (11, [(37, .bool)])]) (fn := Try.f34) Try.func34 rfl (by kernel_rfl) (cast (show T34 p0 p1 p2 p3 w K = bodyZ Try.prog kappa [(4, [(9, .bool), (10, (.int .i64))]), (6, [(18, .bool)]), (7, [(9, .bool)]), (9, [(9, .bool)]), (10, [(25, .bool)]), (11, [(37, .bool)])] .bool Try.f34 [.pointer p0, .slice p1.a p1.len p1.cap, .int .i64 p2, .int .i64 p3] w K by kernel_rfl) h)

/-- (*sluice/sluicelaw20.shelf).apart -/
def T35 (p0 : Option Addr) (w : World) (K : Bool → World → Prop) : Prop :=
  LoopX (α := Int × Unit) (fun s1 w k2 =>
    NilP p0 fun t26 =>
    RunN Try.prog .sl (V (Instr.loadAt 29 (.pointer (some (t26.add 5))))) w fun t28 w =>
    SplitB (decide (s1.1 < (t28.len : Int)))
      (NilP p0 fun t34 =>
      ReadN Try.prog .sl (V (Instr.loadAt 29 (.pointer (some (t34.add 5))))) w.drew fun t36 =>
      ReadN Try.prog .addr (V (Instr.indexAt 29 (.slice t36.a t36.len t36.cap) (.int .i64 s1.1))) w.drew fun t38 =>
      ReadN Try.prog .sl (V (Instr.loadAt 30 (.pointer (some t38)))) w.drew fun t39 =>
      ReadN Try.prog .str (V (convert 30 9 (.slice t39.a t39.len t39.cap))) w.drew fun t40 =>
      NilP p0 fun t42 =>
      ReadN Try.prog .sl (V (Instr.loadAt 62 (.pointer (some (t42.add 6))))) w.drew fun t44 =>
      ReadN Try.prog .addr (V (Instr.indexAt 62 (.slice t44.a t44.len t44.cap) (.int .i64 s1.1))) w.drew fun t46 =>
      ReadN Try.prog .str (V (Instr.loadAt 9 (.pointer (some t46)))) w.drew fun t47 =>
      SplitB (!(t40.toList == t47.toList))
        (K false w.drew)
        (k2 (IntKind.i64.wrap (s1.1 + 1), ()) w.drew))
      (LoopX (α := Int × Unit) (fun s3 w k4 =>
        NilP p0 fun t51 =>
        RunN Try.prog .sl (V (Instr.loadAt 29 (.pointer (some (t51.add 5))))) w fun t53 w =>
        SplitB (decide (s3.1 < (t53.len : Int)))
          (LoopX (α := Int × Unit) (fun s5 w k6 =>
            NilP p0 fun t60 =>
            RunN Try.prog .sl (V (Instr.loadAt 29 (.pointer (some (t60.add 5))))) w fun t62 w =>
            RunN Try.prog .addr (V (Instr.indexAt 29 (.slice t62.a t62.len t62.cap) (.int .i64 s3.1))) w fun t64 w =>
            RunN Try.prog .sl (V (Instr.loadAt 30 (.pointer (some t64)))) w fun t65 w =>
            SplitB (decide (s5.1 < (t65.len : Int)))
              (NilP p0 fun t71 =>
              RunN Try.prog .sl (V (Instr.loadAt 29 (.pointer (some (t71.add 5))))) w fun t73 w =>
              RunN Try.prog .addr (V (Instr.indexAt 29 (.slice t73.a t73.len t73.cap) (.int .i64 s3.1))) w fun t75 w =>
              RunN Try.prog .sl (V (Instr.loadAt 30 (.pointer (some t75)))) w fun t76 w =>
              RunN Try.prog .addr (V (Instr.indexAt 30 (.slice t76.a t76.len t76.cap) (.int .i64 s5.1))) w fun t81 w =>
              RunU Try.prog (U (Instr.storeAt 5 (.pointer (some t81)) (.int .u8 (IntKind.u8.wrap (IntKind.i64.wrap (s3.1 + 1)))))) w fun w =>
              k6 (IntKind.i64.wrap (s5.1 + 1), ()) w)
              (k4 (IntKind.i64.wrap (s3.1 + 1), ()) w))
          (0, ()) w)
          (LoopX (α := Sl × Int × Unit) (fun s7 w k8 =>
            NilP p0 fun t84 =>
            RunN Try.prog .sl (V (Instr.loadAt 29 (.pointer (some (t84.add 5))))) w fun t86 w =>
            SplitB (decide (s7.2.1 < (t86.len : Int)))
              (NilP p0 fun t92 =>
              RunN Try.prog .sl (V (Instr.loadAt 29 (.pointer (some (t92.add 5))))) w fun t94 w =>
              RunN Try.prog .addr (V (Instr.indexAt 29 (.slice t94.a t94.len t94.cap) (.int .i64 s7.2.1))) w fun t96 w =>
              RunN Try.prog .sl (V (Instr.loadAt 30 (.pointer (some t96)))) w fun t97 w =>
              LoopX (α := Sl × Int × Unit) (fun s9 w k10 =>
                SplitB (decide (s9.2.1 < 600))
                  (RunN Try.prog .sl (V (Instr.buildSlice 30 1 #[(0, .int .u8 (IntKind.u8.wrap (IntKind.i64.wrap (s7.2.1 + 130))))])) w fun t106 w =>
                  RunN Try.prog .sl (V (Builtin.append_ #[30, 30] 30 #[.slice s9.1.a s9.1.len s9.1.cap, .slice t106.a t106.len t106.cap])) w fun t107 w =>
                  k10 (t107, IntKind.i64.wrap (s9.2.1 + 1), ()) w)
                  (RunN Try.prog .sl (V (Instr.buildSlice 29 1 #[(0, .slice s9.1.a s9.1.len s9.1.cap)])) w fun t110 w =>
                  RunN Try.prog .sl (V (Builtin.append_ #[29, 29] 29 #[.slice s7.1.a s7.1.len s7.1.cap, .slice t110.a t110.len t110.cap])) w fun t111 w =>
                  k8 (t111, IntKind.i64.wrap (s7.2.1 + 1), ()) w))
              (t97, 0, ()) w)
              (LoopX (α := Int × Unit) (fun s11 w k12 =>
                SplitB (decide (s11.1 < (s7.1.len : Int)))
                  (NilP p0 fun t119 =>
                  RunN Try.prog .sl (V (Instr.loadAt 29 (.pointer (some (t119.add 5))))) w fun t121 w =>
                  RunN Try.prog .addr (V (Instr.indexAt 29 (.slice t121.a t121.len t121.cap) (.int .i64 s11.1))) w fun t123 w =>
                  RunN Try.prog .sl (V (Instr.loadAt 30 (.pointer (some t123)))) w fun t124 w =>
                  LoopX (α := Int × Unit) (fun s13 w k14 =>
                    RunN Try.prog .addr (V (Instr.indexAt 29 (.slice s7.1.a s7.1.len s7.1.cap) (.int .i64 s11.1))) w fun t129 w =>
                    RunN Try.prog .sl (V (Instr.loadAt 30 (.pointer (some t129)))) w fun t130 w =>
                    SplitB (decide (s13.1 < (t130.len : Int)))
                      (JoinX (α := Bool × Unit) (fun j16 w =>
                        SplitB j16.1
                          (K false w)
                          (k14 (IntKind.i64.wrap (s13.1 + 1), ()) w))
                      fun k15 =>
                        SplitB (decide (s13.1 < (t124.len : Int)))
                          (NilP p0 fun t140 =>
                          RunN Try.prog .sl (V (Instr.loadAt 29 (.pointer (some (t140.add 5))))) w fun t142 w =>
                          RunN Try.prog .addr (V (Instr.indexAt 29 (.slice t142.a t142.len t142.cap) (.int .i64 s11.1))) w fun t144 w =>
                          RunN Try.prog .sl (V (Instr.loadAt 30 (.pointer (some t144)))) w fun t145 w =>
                          RunN Try.prog .addr (V (Instr.indexAt 30 (.slice t145.a t145.len t145.cap) (.int .i64 s13.1))) w fun t147 w =>
                          RunN Try.prog (.int .u8) (V (Instr.loadAt 5 (.pointer (some t147)))) w fun t148 w =>
                          SplitB (t148 != (IntKind.u8.wrap (IntKind.i64.wrap (s11.1 + 1))))
                            (k15 (true, ()) w)
                            (RunN Try.prog .addr (V (Instr.indexAt 29 (.slice s7.1.a s7.1.len s7.1.cap) (.int .i64 s11.1))) w fun t156 w =>
                            RunN Try.prog .sl (V (Instr.loadAt 30 (.pointer (some t156)))) w fun t157 w =>
                            RunN Try.prog .addr (V (Instr.indexAt 30 (.slice t157.a t157.len t157.cap) (.int .i64 s13.1))) w fun t159 w =>
                            RunN Try.prog (.int .u8) (V (Instr.loadAt 5 (.pointer (some t159)))) w fun t160 w =>
                            SplitB (t160 != (IntKind.u8.wrap (IntKind.i64.wrap (s11.1 + 1))))
                              (k15 (true, ()) w)
                              (SplitB (decide (s13.1 ≥ (t124.len : Int)))
                                (RunN Try.prog .addr (V (Instr.indexAt 29 (.slice s7.1.a s7.1.len s7.1.cap) (.int .i64 s11.1))) w fun t174 w =>
                                RunN Try.prog .sl (V (Instr.loadAt 30 (.pointer (some t174)))) w fun t175 w =>
                                RunN Try.prog .addr (V (Instr.indexAt 30 (.slice t175.a t175.len t175.cap) (.int .i64 s13.1))) w fun t177 w =>
                                RunN Try.prog (.int .u8) (V (Instr.loadAt 5 (.pointer (some t177)))) w fun t178 w =>
                                k15 (t178 != (IntKind.u8.wrap (IntKind.i64.wrap (s11.1 + 130))), ()) w)
                                (k15 (false, ()) w))))
                          (SplitB (decide (s13.1 ≥ (t124.len : Int)))
                            (RunN Try.prog .addr (V (Instr.indexAt 29 (.slice s7.1.a s7.1.len s7.1.cap) (.int .i64 s11.1))) w fun t174 w =>
                            RunN Try.prog .sl (V (Instr.loadAt 30 (.pointer (some t174)))) w fun t175 w =>
                            RunN Try.prog .addr (V (Instr.indexAt 30 (.slice t175.a t175.len t175.cap) (.int .i64 s13.1))) w fun t177 w =>
                            RunN Try.prog (.int .u8) (V (Instr.loadAt 5 (.pointer (some t177)))) w fun t178 w =>
                            k15 (t178 != (IntKind.u8.wrap (IntKind.i64.wrap (s11.1 + 130))), ()) w)
                            (k15 (false, ()) w)))
                      (k12 (IntKind.i64.wrap (s11.1 + 1), ()) w))
                  (0, ()) w)
                  (LoopX (α := Int × Unit) (fun s17 w k18 =>
                    NilP p0 fun t187 =>
                    RunN Try.prog .sl (V (Instr.loadAt 63 (.pointer (some (t187.add 7))))) w fun t189 w =>
                    SplitB (decide (s17.1 < (t189.len : Int)))
                      (LoopX (α := Int × Unit) (fun s19 w k20 =>
                        NilP p0 fun t196 =>
                        RunN Try.prog .sl (V (Instr.loadAt 63 (.pointer (some (t196.add 7))))) w fun t198 w =>
                        RunN Try.prog .addr (V (Instr.indexAt 63 (.slice t198.a t198.len t198.cap) (.int .i64 s17.1))) w fun t200 w =>
                        RunN Try.prog .sl (V (Instr.loadAt 44 (.pointer (some t200)))) w fun t201 w =>
                        SplitB (decide (s19.1 < (t201.len : Int)))
                          (NilP p0 fun t207 =>
                          ReadN Try.prog .sl (V (Instr.loadAt 63 (.pointer (some (t207.add 7))))) w.drew fun t209 =>
                          ReadN Try.prog .addr (V (Instr.indexAt 63 (.slice t209.a t209.len t209.cap) (.int .i64 s17.1))) w.drew fun t211 =>
                          ReadN Try.prog .sl (V (Instr.loadAt 44 (.pointer (some t211)))) w.drew fun t212 =>
                          ReadN Try.prog .addr (V (Instr.indexAt 44 (.slice t212.a t212.len t212.cap) (.int .i64 s19.1))) w.drew fun t214 =>
                          ReadN Try.prog (.int .i64) (V (Instr.loadAt 3 (.pointer (some t214)))) w.drew fun t215 =>
                          NilP p0 fun t217 =>
                          ReadN Try.prog .sl (V (Instr.loadAt 63 (.pointer (some (t217.add 8))))) w.drew fun t219 =>
                          ReadN Try.prog .addr (V (Instr.indexAt 63 (.slice t219.a t219.len t219.cap) (.int .i64 s17.1))) w.drew fun t221 =>
                          ReadN Try.prog .sl (V (Instr.loadAt 44 (.pointer (some t221)))) w.drew fun t222 =>
                          ReadN Try.prog .addr (V (Instr.indexAt 44 (.slice t222.a t222.len t222.cap) (.int .i64 s19.1))) w.drew fun t224 =>
                          ReadN Try.prog (.int .i64) (V (Instr.loadAt 3 (.pointer (some t224)))) w.drew fun t225 =>
                          SplitB (t215 != t225)
                            (K false w.drew)
                            (k20 (IntKind.i64.wrap (s19.1 + 1), ()) w.drew))
                          (k18 (IntKind.i64.wrap (s17.1 + 1), ()) w))
                      (0, ()) w)
                      (LoopX (α := Int × Unit) (fun s21 w k22 =>
                        NilP p0 fun t229 =>
                        RunN Try.prog .sl (V (Instr.loadAt 63 (.pointer (some (t229.add 7))))) w fun t231 w =>
                        SplitB (decide (s21.1 < (t231.len : Int)))
                          (LoopX (α := Int × Unit) (fun s23 w k24 =>
                            NilP p0 fun t238 =>
                            RunN Try.prog .sl (V (Instr.loadAt 63 (.pointer (some (t238.add 7))))) w fun t240 w =>
                            RunN Try.prog .addr (V (Instr.indexAt 63 (.slice t240.a t240.len t240.cap) (.int .i64 s21.1))) w fun t242 w =>
                            RunN Try.prog .sl (V (Instr.loadAt 44 (.pointer (some t242)))) w fun t243 w =>
                            SplitB (decide (s23.1 < (t243.len : Int)))
                              (NilP p0 fun t249 =>
                              RunN Try.prog .sl (V (Instr.loadAt 63 (.pointer (some (t249.add 7))))) w fun t251 w =>
                              RunN Try.prog .addr (V (Instr.indexAt 63 (.slice t251.a t251.len t251.cap) (.int .i64 s21.1))) w fun t253 w =>
                              RunN Try.prog .sl (V (Instr.loadAt 44 (.pointer (some t253)))) w fun t254 w =>
                              RunN Try.prog .addr (V (Instr.indexAt 44 (.slice t254.a t254.len t254.cap) (.int .i64 s23.1))) w fun t258 w =>
                              RunU Try.prog (U (Instr.storeAt 3 (.pointer (some t258)) (.int .i64 (IntKind.i64.wrap ((-1) - s21.1))))) w fun w =>
                              k24 (IntKind.i64.wrap (s23.1 + 1), ()) w)
                              (k22 (IntKind.i64.wrap (s21.1 + 1), ()) w))
                          (0, ()) w)
                          (LoopX (α := Sl × Int × Unit) (fun s25 w k26 =>
                            NilP p0 fun t261 =>
                            RunN Try.prog .sl (V (Instr.loadAt 63 (.pointer (some (t261.add 7))))) w fun t263 w =>
                            SplitB (decide (s25.2.1 < (t263.len : Int)))
                              (NilP p0 fun t269 =>
                              RunN Try.prog .sl (V (Instr.loadAt 63 (.pointer (some (t269.add 7))))) w fun t271 w =>
                              RunN Try.prog .addr (V (Instr.indexAt 63 (.slice t271.a t271.len t271.cap) (.int .i64 s25.2.1))) w fun t273 w =>
                              RunN Try.prog .sl (V (Instr.loadAt 44 (.pointer (some t273)))) w fun t274 w =>
                              LoopX (α := Sl × Int × Unit) (fun s27 w k28 =>
                                SplitB (decide (s27.2.1 < 100))
                                  (RunN Try.prog .sl (V (Instr.buildSlice 44 1 #[(0, .int .i64 (IntKind.i64.wrap ((-1000000) - s25.2.1)))])) w fun t282 w =>
                                  RunN Try.prog .sl (V (Builtin.append_ #[44, 44] 44 #[.slice s27.1.a s27.1.len s27.1.cap, .slice t282.a t282.len t282.cap])) w fun t283 w =>
                                  k28 (t283, IntKind.i64.wrap (s27.2.1 + 1), ()) w)
                                  (RunN Try.prog .sl (V (Instr.buildSlice 63 1 #[(0, .slice s27.1.a s27.1.len s27.1.cap)])) w fun t286 w =>
                                  RunN Try.prog .sl (V (Builtin.append_ #[63, 63] 63 #[.slice s25.1.a s25.1.len s25.1.cap, .slice t286.a t286.len t286.cap])) w fun t287 w =>
                                  k26 (t287, IntKind.i64.wrap (s25.2.1 + 1), ()) w))
                              (t274, 0, ()) w)
                              (LoopX (α := Int × Unit) (fun s29 w k30 =>
                                SplitB (decide (s29.1 < (s25.1.len : Int)))
                                  (NilP p0 fun t295 =>
                                  RunN Try.prog .sl (V (Instr.loadAt 63 (.pointer (some (t295.add 7))))) w fun t297 w =>
                                  RunN Try.prog .addr (V (Instr.indexAt 63 (.slice t297.a t297.len t297.cap) (.int .i64 s29.1))) w fun t299 w =>
                                  RunN Try.prog .sl (V (Instr.loadAt 44 (.pointer (some t299)))) w fun t300 w =>
                                  LoopX (α := Int × Unit) (fun s31 w k32 =>
                                    RunN Try.prog .addr (V (Instr.indexAt 63 (.slice s25.1.a s25.1.len s25.1.cap) (.int .i64 s29.1))) w fun t305 w =>
                                    RunN Try.prog .sl (V (Instr.loadAt 44 (.pointer (some t305)))) w fun t306 w =>
                                    SplitB (decide (s31.1 < (t306.len : Int)))
                                      (JoinX (α := Bool × Unit) (fun j34 w =>
                                        SplitB j34.1
                                          (K false w)
                                          (k32 (IntKind.i64.wrap (s31.1 + 1), ()) w))
                                      fun k33 =>
                                        SplitB (decide (s31.1 < (t300.len : Int)))
                                          (NilP p0 fun t316 =>
                                          RunN Try.prog .sl (V (Instr.loadAt 63 (.pointer (some (t316.add 7))))) w fun t318 w =>
                                          RunN Try.prog .addr (V (Instr.indexAt 63 (.slice t318.a t318.len t318.cap) (.int .i64 s29.1))) w fun t320 w =>
                                          RunN Try.prog .sl (V (Instr.loadAt 44 (.pointer (some t320)))) w fun t321 w =>
                                          RunN Try.prog .addr (V (Instr.indexAt 44 (.slice t321.a t321.len t321.cap) (.int .i64 s31.1))) w fun t323 w =>
                                          RunN Try.prog (.int .i64) (V (Instr.loadAt 3 (.pointer (some t323)))) w fun t324 w =>
                                          SplitB (t324 != (IntKind.i64.wrap ((-1) - s29.1)))
                                            (k33 (true, ()) w)
                                            (RunN Try.prog .addr (V (Instr.indexAt 63 (.slice s25.1.a s25.1.len s25.1.cap) (.int .i64 s29.1))) w fun t331 w =>
                                            RunN Try.prog .sl (V (Instr.loadAt 44 (.pointer (some t331)))) w fun t332 w =>
                                            RunN Try.prog .addr (V (Instr.indexAt 44 (.slice t332.a t332.len t332.cap) (.int .i64 s31.1))) w fun t334 w =>
                                            RunN Try.prog (.int .i64) (V (Instr.loadAt 3 (.pointer (some t334)))) w fun t335 w =>
                                            SplitB (t335 != (IntKind.i64.wrap ((-1) - s29.1)))
                                              (k33 (true, ()) w)
                                              (SplitB (decide (s31.1 ≥ (t300.len : Int)))
                                                (RunN Try.prog .addr (V (Instr.indexAt 63 (.slice s25.1.a s25.1.len s25.1.cap) (.int .i64 s29.1))) w fun t348 w =>
                                                RunN Try.prog .sl (V (Instr.loadAt 44 (.pointer (some t348)))) w fun t349 w =>
                                                RunN Try.prog .addr (V (Instr.indexAt 44 (.slice t349.a t349.len t349.cap) (.int .i64 s31.1))) w fun t351 w =>
                                                RunN Try.prog (.int .i64) (V (Instr.loadAt 3 (.pointer (some t351)))) w fun t352 w =>
                                                k33 (t352 != (IntKind.i64.wrap ((-1000000) - s29.1)), ()) w)
                                                (k33 (false, ()) w))))
                                          (SplitB (decide (s31.1 ≥ (t300.len : Int)))
                                            (RunN Try.prog .addr (V (Instr.indexAt 63 (.slice s25.1.a s25.1.len s25.1.cap) (.int .i64 s29.1))) w fun t348 w =>
                                            RunN Try.prog .sl (V (Instr.loadAt 44 (.pointer (some t348)))) w fun t349 w =>
                                            RunN Try.prog .addr (V (Instr.indexAt 44 (.slice t349.a t349.len t349.cap) (.int .i64 s31.1))) w fun t351 w =>
                                            RunN Try.prog (.int .i64) (V (Instr.loadAt 3 (.pointer (some t351)))) w fun t352 w =>
                                            k33 (t352 != (IntKind.i64.wrap ((-1000000) - s29.1)), ()) w)
                                            (k33 (false, ()) w)))
                                      (k30 (IntKind.i64.wrap (s29.1 + 1), ()) w))
                                  (0, ()) w)
                                  (K true w))
                              (0, ()) w))
                          ((⟨none, 0, 0⟩ : Sl), 0, ()) w))
                      (0, ()) w))
                  (0, ()) w))
              (0, ()) w))
          ((⟨none, 0, 0⟩ : Sl), 0, ()) w))
      (0, ()) w))
  (0, ()) w
theorem T35.calls {p0 : Option Addr} {w : World} {K : Bool → World → Prop} (h : T35 p0 w K) : CallK Try.prog .bool 35 #[.pointer p0] w K :=
  bodyZ_sound (κ := kappa) (ann := [(3, [(3, (.int .i64))]), (11, [(4, (.int .i64))]), (16, [(5, (.int .i64))]), (23, [(6, .sl), (7, (.int .i64))]), (30, [(8, .sl), (9, (.int .i64))]), (36, [(10, (.int .i64))]), (42, [(12, (.int .i64))]), (46, [(184, .bool)]), (50, [(13, (.int .i64))]), (55, [(14, (.int .i64))]), (63, [(15, (.int .i64))]), (68, [(16, (.int .i64))]), (75, [(17, .sl), (18, (.int .i64))]), (82, [(19, .sl), (20, (.int .i64))]), (88, [(21, (.int .i64))]), (94, [(23, (.int .i64))]), (98, [(357, .bool)])]) (fn := Try.f35) Try.func35 rfl (by kernel_rfl) (cast (show T35 p0 w K = bodyZ Try.prog kappa [(3, [(3, (.int .i64))]), (11, [(4, (.int .i64))]), (16, [(5, (.int .i64))]), (23, [(6, .sl), (7, (.int .i64))]), (30, [(8, .sl), (9, (.int .i64))]), (36, [(10, (.int .i64))]), (42, [(12, (.int .i64))]), (46, [(184, .bool)]), (50, [(13, (.int .i64))]), (55, [(14, (.int .i64))]), (63, [(15, (.int .i64))]), (68, [(16, (.int .i64))]), (75, [(17, .sl), (18, (.int .i64))]), (82, [(19, .sl), (20, (.int .i64))]), (88, [(21, (.int .i64))]), (94, [(23, (.int .i64))]), (98, [(357, .bool)])] .bool Try.f35 [.pointer p0] w K by kernel_rfl) h)

/-- sluice/sluicelaw20.lend -/
def T40 (p0 : Sl) (w : World) (K : Sl → World → Prop) : Prop :=
  RunN Try.prog .sl (V (Builtin.append_ #[30, 30] 30 #[.slice none 0 0, .slice p0.a p0.len p0.cap])) w fun t7 w =>
  LoopX (α := Sl × Int × Unit) (fun s1 w k2 =>
    SplitB (decide (s1.2.1 < 40))
      (RunN Try.prog .sl (V (Instr.buildSlice 30 1 #[(0, .int .u8 (IntKind.u8.wrap (IntKind.i64.wrap (167 + s1.2.1))))])) w fun t16 w =>
      RunN Try.prog .sl (V (Builtin.append_ #[30, 30] 30 #[.slice s1.1.a s1.1.len s1.1.cap, .slice t16.a t16.len t16.cap])) w fun t17 w =>
      k2 (t17, IntKind.i64.wrap (s1.2.1 + 1), ()) w)
      (K s1.1 w))
  (t7, 0, ()) w
theorem T40.calls {p0 : Sl} {w : World} {K : Sl → World → Prop} (h : T40 p0 w K) : CallK Try.prog .sl 40 #[.slice p0.a p0.len p0.cap] w K :=
  bodyZ_sound (κ := kappa) (ann := [(5, [(3, .sl), (4, (.int .i64))])]) (fn := Try.f40) Try.func40 rfl (by kernel_rfl) (cast (show T40 p0 w K = bodyZ Try.prog kappa [(5, [(3, .sl), (4, (.int .i64))])] .sl Try.f40 [.slice p0.a p0.len p0.cap] w K by kernel_rfl) h)

/-- sluice/sluicelaw20.kept -/
def T42 (p0 : Sl) (p1 : Sl) (w : World) (K : Bool → World → Prop) : Prop :=
  JoinX (α := Bool × Unit) (fun j2 w =>
    LoopX (α := Bool × Int × Unit) (fun s3 w k4 =>
      SplitB (decide (s3.2.1 < (p0.len : Int)))
        (JoinX (α := Bool × Unit) (fun j6 w =>
          k4 (j6.1, IntKind.i64.wrap (s3.2.1 + 1), ()) w)
        fun k5 =>
          SplitB s3.1
            (RunN Try.prog .addr (V (Instr.indexAt 30 (.slice p0.a p0.len p0.cap) (.int .i64 s3.2.1))) w fun t34 w =>
            RunN Try.prog (.int .u8) (V (Instr.loadAt 5 (.pointer (some t34)))) w fun t35 w =>
            k5 (t35 == (IntKind.u8.wrap (IntKind.i64.wrap ((IntKind.i64.wrap (167 + s3.2.1)) - (p1.len : Int)))), ()) w)
            (k5 (false, ()) w))
        (LoopX (α := Int × Unit) (fun s7 w k8 =>
          SplitB (decide (s7.1 < (p0.len : Int)))
            (RunN Try.prog .addr (V (Instr.indexAt 30 (.slice p0.a p0.len p0.cap) (.int .i64 s7.1))) w fun t54 w =>
            RunU Try.prog (U (Instr.storeAt 5 (.pointer (some t54)) (.int .u8 (IntKind.u8.wrap (IntKind.i64.wrap (60 + s7.1)))))) w fun w =>
            k8 (IntKind.i64.wrap (s7.1 + 1), ()) w)
            (K s3.1 w))
        (0, ()) w))
    (j2.1, (p1.len : Int), ()) w)
  fun k1 =>
    SplitB ((p0.len : Int) == (IntKind.i64.wrap ((p1.len : Int) + 40)))
      (RunN Try.prog .sl (V (Instr.sliceAt 30 (.slice p0.a p0.len p0.cap) none (some (.int .i64 (p1.len : Int))) none)) w fun t19 w =>
      CallK Try.prog .bool 28 #[.slice t19.a t19.len t19.cap, .slice p1.a p1.len p1.cap] w fun t21 w =>
      k1 (t21, ()) w)
      (k1 (false, ()) w)
theorem T42.calls {p0 : Sl} {p1 : Sl} {w : World} {K : Bool → World → Prop} (h : T42 p0 p1 w K) : CallK Try.prog .bool 42 #[.slice p0.a p0.len p0.cap, .slice p1.a p1.len p1.cap] w K :=
  bodyZ_sound (κ := kappa) (ann := [(2, [(6, .bool)]), (5, [(6, .bool), (7, (.int .i64))]), (8, [(6, .bool)]), (11, [(8, (.int .i64))])]) (fn := Try.f42) Try.func42 rfl (by kernel_rfl) (cast (show T42 p0 p1 w K = bodyZ Try.prog kappa [(2, [(6, .bool)]), (5, [(6, .bool), (7, (.int .i64))]), (8, [(6, .bool)]), (11, [(8, (.int .i64))])] .bool Try.f42 [.slice p0.a p0.len p0.cap, .slice p1.a p1.len p1.cap] w K by kernel_rfl) h)

/-- (*sluice/sluicelaw20.pair).acts -/
def T43 (p0 : Option Addr) (p1 : (Int × Int × Int × Int × Sl × Unit)) (w : World) (K : Bool → World → Prop) : Prop :=
  RunN Try.prog .addr (V (Instr.box 59 (.agg #[.int .i64 p1.1, .int .i64 p1.2.1, .int .i64 p1.2.2.1, .int .i64 p1.2.2.2.1, .slice p1.2.2.2.2.1.a p1.2.2.2.2.1.len p1.2.2.2.2.1.cap]))) w fun t3 w =>
  RunN Try.prog (.int .i64) (V (Instr.loadAt 3 (.pointer (some (t3.add 0))))) w fun t10 w =>
  SplitB (t10 == 1)
    (NilP p0 fun t14 =>
    ReadN Try.prog .sl (V (Instr.loadAt 30 (.pointer (some (t14.add 12))))) w.drew fun t16 =>
    ReadN Try.prog .sl (V (Instr.loadAt 30 (.pointer (some (t3.add 4))))) w.drew fun t18 =>
    CallK Try.prog .sl 47 #[.slice t16.a t16.len t16.cap, .slice t18.a t18.len t18.cap] w.drew fun t19 w =>
    NilP p0 fun t22 =>
    RunU Try.prog (U (Instr.storeAt 30 (.pointer (some (t22.add 12))) (.slice t19.a t19.len t19.cap))) w fun w =>
    NilP p0 fun t25 =>
    ReadN Try.prog .ptr (V (Instr.loadAt 24 (.pointer (some (t25.add 0))))) w.drew fun t27 =>
    ReadN Try.prog (.int .i64) (V (Instr.loadAt 3 (.pointer (some (t3.add 2))))) w.drew fun t29 =>
    ReadN Try.prog .sl (V (Instr.loadAt 30 (.pointer (some (t3.add 4))))) w.drew fun t32 =>
    ReadN Try.prog .sl (V (Instr.sliceAt 30 (.slice t19.a t19.len t19.cap) none (some (.int .i64 (t32.len : Int))) none)) w.drew fun t34 =>
    CallK Try.prog (.int .i64) 15 #[.pointer t27, .int .i64 t29, .slice t34.a t34.len t34.cap] w.drew fun t35 w =>
    NilP p0 fun t37 =>
    ReadN Try.prog .ptr (V (Instr.loadAt 61 (.pointer (some (t37.add 1))))) w.drew fun t39 =>
    ReadN Try.prog (.int .i64) (V (Instr.loadAt 3 (.pointer (some (t3.add 2))))) w.drew fun t41 =>
    ReadN Try.prog .sl (V (Instr.loadAt 30 (.pointer (some (t3.add 4))))) w.drew fun t43 =>
    CallK Try.prog (.int .i64) 48 #[.pointer t39, .int .i64 t41, .slice t43.a t43.len t43.cap] w.drew fun t44 w =>
    RunN Try.prog .sl (V (Instr.loadAt 30 (.pointer (some (t3.add 4))))) w fun t47 w =>
    CallK Try.prog .bool 42 #[.slice t19.a t19.len t19.cap, .slice t47.a t47.len t47.cap] w fun t48 w =>
    CallK Try.prog (.int .i64) 12 #[.int .i64 t35] w fun t50 w =>
    SplitB (t50 == t44)
      (K t48 w)
      (K false w))
    (SplitB (t10 == 2)
      (NilP p0 fun t59 =>
      ReadN Try.prog .ptr (V (Instr.loadAt 24 (.pointer (some (t59.add 0))))) w.drew fun t61 =>
      ReadN Try.prog (.int .i64) (V (Instr.loadAt 3 (.pointer (some (t3.add 2))))) w.drew fun t63 =>
      ReadN Try.prog (.int .i64) (V (Instr.loadAt 3 (.pointer (some (t3.add 3))))) w.drew fun t65 =>
      CallK Try.prog (.tup .nilT) 23 #[.pointer t61, .int .i64 t63, .int .i64 t65] w.drew fun t66 w =>
      NilP p0 fun t68 =>
      ReadN Try.prog .ptr (V (Instr.loadAt 61 (.pointer (some (t68.add 1))))) w.drew fun t70 =>
      ReadN Try.prog (.int .i64) (V (Instr.loadAt 3 (.pointer (some (t3.add 2))))) w.drew fun t72 =>
      ReadN Try.prog (.int .i64) (V (Instr.loadAt 3 (.pointer (some (t3.add 3))))) w.drew fun t74 =>
      CallK Try.prog (.tup .nilT) 49 #[.pointer t70, .int .i64 t72, .int .i64 t74] w.drew fun t75 w =>
      K true w)
      (SplitB (t10 == 3)
        (NilP p0 fun t79 =>
        RunN Try.prog .ptr (V (Instr.loadAt 24 (.pointer (some (t79.add 0))))) w fun t81 w =>
        CallK Try.prog (.tup .nilT) 16 #[.pointer t81] w fun t82 w =>
        NilP p0 fun t84 =>
        RunN Try.prog .ptr (V (Instr.loadAt 61 (.pointer (some (t84.add 1))))) w fun t86 w =>
        CallK Try.prog (.tup .nilT) 50 #[.pointer t86] w fun t87 w =>
        K true w)
        (SplitB (t10 == 4)
          (NilP p0 fun t91 =>
          RunN Try.prog .ptr (V (Instr.loadAt 24 (.pointer (some (t91.add 0))))) w fun t93 w =>
          CallK Try.prog (.tup .nilT) 19 #[.pointer t93] w fun t94 w =>
          NilP p0 fun t96 =>
          RunN Try.prog .ptr (V (Instr.loadAt 61 (.pointer (some (t96.add 1))))) w fun t98 w =>
          CallK Try.prog (.tup .nilT) 51 #[.pointer t98] w fun t99 w =>
          K true w)
          (K true w))))
theorem T43.calls {p0 : Option Addr} {p1 : (Int × Int × Int × Int × Sl × Unit)} {w : World} {K : Bool → World → Prop} (h : T43 p0 p1 w K) : CallK Try.prog .bool 43 #[.pointer p0, .agg #[.int .i64 p1.1, .int .i64 p1.2.1, .int .i64 p1.2.2.1, .int .i64 p1.2.2.2.1, .slice p1.2.2.2.2.1.a p1.2.2.2.2.1.len p1.2.2.2.2.1.cap]] w K :=
  bodyZ_sound (κ := kappa) (ann := []) (fn := Try.f43) Try.func43 rfl (by kernel_rfl) (cast (show T43 p0 p1 w K = bodyZ Try.prog kappa [] .bool Try.f43 [.pointer p0, .agg #[.int .i64 p1.1, .int .i64 p1.2.1, .int .i64 p1.2.2.1, .int .i64 p1.2.2.2.1, .slice p1.2.2.2.2.1.a p1.2.2.2.2.1.len p1.2.2.2.2.1.cap]] w K by kernel_rfl) h)

/-- (*sluice/sluicelaw20.pair).tells -/
def T44 (p0 : Option Addr) (p1 : (Int × Int × Int × Int × Sl × Unit)) (w : World) (K : Bool → World → Prop) : Prop :=
  RunN Try.prog .addr (V (Instr.box 59 (.agg #[.int .i64 p1.1, .int .i64 p1.2.1, .int .i64 p1.2.2.1, .int .i64 p1.2.2.2.1, .slice p1.2.2.2.2.1.a p1.2.2.2.2.1.len p1.2.2.2.2.1.cap]))) w fun t3 w =>
  RunN Try.prog (.int .i64) (V (Instr.loadAt 3 (.pointer (some (t3.add 0))))) w fun t16 w =>
  SplitB (t16 == 5)
    (NilP p0 fun t21 =>
    ReadN Try.prog .ptr (V (Instr.loadAt 24 (.pointer (some (t21.add 0))))) w.drew fun t23 =>
    ReadN Try.prog (.int .i64) (V (Instr.loadAt 3 (.pointer (some (t3.add 2))))) w.drew fun t25 =>
    CallK Try.prog (.tup (.cons .sl (.cons (.int .i64) .nilT))) 17 #[.pointer t23, .int .i64 t25] w.drew fun t26 w =>
    NilP p0 fun t31 =>
    ReadN Try.prog .ptr (V (Instr.loadAt 61 (.pointer (some (t31.add 1))))) w.drew fun t33 =>
    ReadN Try.prog (.int .i64) (V (Instr.loadAt 3 (.pointer (some (t3.add 2))))) w.drew fun t35 =>
    CallK Try.prog (.tup (.cons .sl (.cons (.int .i64) .nilT))) 52 #[.pointer t33, .int .i64 t35] w.drew fun t36 w =>
    JoinX (α := Bool × Unit) (fun j2 w =>
      CallK Try.prog (.tup .nilT) 53 #[.pointer p0, .slice t26.1.a t26.1.len t26.1.cap] w fun t50 w =>
      K j2.1 w)
    fun k1 =>
      CallK Try.prog (.int .i64) 12 #[.int .i64 t26.2.1] w fun t40 w =>
      SplitB (t40 == t36.2.1)
        (CallK Try.prog .bool 28 #[.slice t26.1.a t26.1.len t26.1.cap, .slice t36.1.a t36.1.len t36.1.cap] w fun t46 w =>
        k1 (t46, ()) w)
        (k1 (false, ()) w))
    (SplitB (t16 == 6)
      (NilP p0 fun t55 =>
      ReadN Try.prog .ptr (V (Instr.loadAt 24 (.pointer (some (t55.add 0))))) w.drew fun t57 =>
      NilP p0 fun t60 =>
      ReadN Try.prog .ptr (V (Instr.loadAt 61 (.pointer (some (t60.add 1))))) w.drew fun t62 =>
      NilP t62 fun t63 =>
      ReadN Try.prog .bool (V (Instr.loadAt 4 (.pointer (some (t63.add 3))))) w.drew fun t65 =>
      CallK Try.prog .bool 18 #[.pointer t57] w.drew fun t58 w =>
      StillV Try.prog (V (Instr.loadAt 4 (.pointer (some (t63.add 3))))) (.bool t65) w ∧
      StillV Try.prog (V (Instr.loadAt 61 (.pointer (some (t60.add 1))))) (.pointer t62) w ∧
      K (t58 == t65) w)
      (SplitB (t16 == 7)
        (NilP p0 fun t70 =>
        ReadN Try.prog .ptr (V (Instr.loadAt 24 (.pointer (some (t70.add 0))))) w.drew fun t72 =>
        NilP p0 fun t75 =>
        ReadN Try.prog .ptr (V (Instr.loadAt 61 (.pointer (some (t75.add 1))))) w.drew fun t77 =>
        NilP t77 fun t78 =>
        ReadN Try.prog (.int .i64) (V (Instr.loadAt 3 (.pointer (some (t78.add 0))))) w.drew fun t80 =>
        CallK Try.prog (.int .i64) 26 #[.pointer t72] w.drew fun t73 w =>
        StillV Try.prog (V (Instr.loadAt 3 (.pointer (some (t78.add 0))))) (.int .i64 t80) w ∧
        StillV Try.prog (V (Instr.loadAt 61 (.pointer (some (t75.add 1))))) (.pointer t77) w ∧
        K (t73 == t80) w)
        (SplitB (t16 == 8)
          (NilP p0 fun t85 =>
          ReadN Try.prog .ptr (V (Instr.loadAt 24 (.pointer (some (t85.add 0))))) w.drew fun t87 =>
          NilP p0 fun t90 =>
          ReadN Try.prog .ptr (V (Instr.loadAt 61 (.pointer (some (t90.add 1))))) w.drew fun t92 =>
          CallK Try.prog (.int .i64) 21 #[.pointer t87] w.drew fun t88 w =>
          StillV Try.prog (V (Instr.loadAt 61 (.pointer (some (t90.add 1))))) (.pointer t92) w ∧
          CallK Try.prog (.int .i64) 54 #[.pointer t92] w fun t93 w =>
          K (t88 == t93) w)
          (SplitB (t16 == 9)
            (CallK Try.prog .bool 55 #[.pointer p0] w fun t98 w =>
            K t98 w)
            (SplitB (t16 == 10)
              (NilP p0 fun t102 =>
              RunN Try.prog .ptr (V (Instr.loadAt 24 (.pointer (some (t102.add 0))))) w fun t104 w =>
              CallK Try.prog .sl 22 #[.pointer t104] w fun t105 w =>
              NilP p0 fun t107 =>
              RunN Try.prog .ptr (V (Instr.loadAt 61 (.pointer (some (t107.add 1))))) w fun t109 w =>
              CallK Try.prog .sl 56 #[.pointer t109] w fun t110 w =>
              CallK Try.prog .bool 28 #[.slice t105.a t105.len t105.cap, .slice t110.a t110.len t110.cap] w fun t113 w =>
              CallK Try.prog (.tup .nilT) 53 #[.pointer p0, .slice t105.a t105.len t105.cap] w fun t116 w =>
              K t113 w)
              (SplitB (t16 == 11)
                (RunN Try.prog .sl (V (Instr.loadAt 30 (.pointer (some (t3.add 4))))) w fun t122 w =>
                CallK Try.prog (.tup (.cons .ptr (.cons .bool .nilT))) 33 #[.slice t122.a t122.len t122.cap] w fun t123 w =>
                JoinX (α := Bool × Unit) (fun j4 w =>
                  SplitB j4.1
                    (K t123.2.1 w)
                    (NilP t123.1 fun t134 =>
                    ReadN Try.prog .ptr (V (Instr.loadAt 24 (.pointer (some (t134.add 0))))) w.drew fun t136 =>
                    NilP t123.1 fun t139 =>
                    ReadN Try.prog .ptr (V (Instr.loadAt 61 (.pointer (some (t139.add 1))))) w.drew fun t141 =>
                    CallK Try.prog .sl 22 #[.pointer t136] w.drew fun t137 w =>
                    StillV Try.prog (V (Instr.loadAt 61 (.pointer (some (t139.add 1))))) (.pointer t141) w ∧
                    CallK Try.prog .sl 56 #[.pointer t141] w fun t142 w =>
                    CallK Try.prog .bool 28 #[.slice t137.a t137.len t137.cap, .slice t142.a t142.len t142.cap] w fun t143 w =>
                    SplitB t143
                      (NilP t123.1 fun t146 =>
                      ReadN Try.prog .ptr (V (Instr.loadAt 24 (.pointer (some (t146.add 0))))) w fun t148 =>
                      CallK Try.prog .bool 18 #[.pointer t148] w fun t149 w =>
                      SplitB t149
                        (NilP t123.1 fun t153 =>
                        ReadN Try.prog .ptr (V (Instr.loadAt 24 (.pointer (some (t153.add 0))))) w fun t155 =>
                        CallK Try.prog (.int .i64) 21 #[.pointer t155] w fun t156 w =>
                        SplitB (t156 == 0)
                          (NilP t123.1 fun t161 =>
                          ReadN Try.prog .ptr (V (Instr.loadAt 24 (.pointer (some (t161.add 0))))) w fun t163 =>
                          NilP t123.1 fun t166 =>
                          ReadN Try.prog .ptr (V (Instr.loadAt 61 (.pointer (some (t166.add 1))))) w fun t168 =>
                          NilP t168 fun t169 =>
                          ReadN Try.prog (.int .i64) (V (Instr.loadAt 3 (.pointer (some (t169.add 0))))) w fun t171 =>
                          CallK Try.prog (.int .i64) 26 #[.pointer t163] w fun t164 w =>
                          StillV Try.prog (V (Instr.loadAt 3 (.pointer (some (t169.add 0))))) (.int .i64 t171) w ∧
                          StillV Try.prog (V (Instr.loadAt 61 (.pointer (some (t166.add 1))))) (.pointer t168) w ∧
                          K (t164 == t171) w)
                          (K false w))
                        (K false w))
                      (K false w)))
                fun k3 =>
                  SplitB (!t123.2.1)
                    (k3 (true, ()) w)
                    (RunN Try.prog .bool (V (do eqGuard .eql 54 (.tmp 129) (.const (.pointer none)) (.pointer t123.1) (.pointer none); binOp .eql 54 (.pointer t123.1) (.pointer none))) w fun t130 w =>
                    k3 (t130, ()) w))
                (K true w)))))))
theorem T44.calls {p0 : Option Addr} {p1 : (Int × Int × Int × Int × Sl × Unit)} {w : World} {K : Bool → World → Prop} (h : T44 p0 p1 w K) : CallK Try.prog .bool 44 #[.pointer p0, .agg #[.int .i64 p1.1, .int .i64 p1.2.1, .int .i64 p1.2.2.1, .int .i64 p1.2.2.2.1, .slice p1.2.2.2.2.1.a p1.2.2.2.2.1.len p1.2.2.2.2.1.cap]] w K :=
  bodyZ_sound (κ := kappa) (ann := [(6, [(9, .bool)]), (26, [(131, .bool)])]) (fn := Try.f44) Try.func44 rfl (by kernel_rfl) (cast (show T44 p0 p1 w K = bodyZ Try.prog kappa [(6, [(9, .bool)]), (26, [(131, .bool)])] .bool Try.f44 [.pointer p0, .agg #[.int .i64 p1.1, .int .i64 p1.2.1, .int .i64 p1.2.2.1, .int .i64 p1.2.2.2.1, .slice p1.2.2.2.2.1.a p1.2.2.2.2.1.len p1.2.2.2.2.1.cap]] w K by kernel_rfl) h)

/-- (*sluice/sluicelaw20.shelf).stands -/
def T45 (p0 : Option Addr) (w : World) (K : Bool → World → Prop) : Prop :=
  LoopX (α := Int × Unit) (fun s1 w k2 =>
    NilP p0 fun t8 =>
    RunN Try.prog .sl (V (Instr.loadAt 29 (.pointer (some (t8.add 0))))) w fun t10 w =>
    SplitB (decide (s1.1 < (t10.len : Int)))
      (NilP p0 fun t16 =>
      ReadN Try.prog .sl (V (Instr.loadAt 29 (.pointer (some (t16.add 0))))) w.drew fun t18 =>
      ReadN Try.prog .addr (V (Instr.indexAt 29 (.slice t18.a t18.len t18.cap) (.int .i64 s1.1))) w.drew fun t20 =>
      ReadN Try.prog .sl (V (Instr.loadAt 30 (.pointer (some t20)))) w.drew fun t21 =>
      ReadN Try.prog .str (V (convert 30 9 (.slice t21.a t21.len t21.cap))) w.drew fun t22 =>
      NilP p0 fun t24 =>
      ReadN Try.prog .sl (V (Instr.loadAt 62 (.pointer (some (t24.add 1))))) w.drew fun t26 =>
      ReadN Try.prog .addr (V (Instr.indexAt 62 (.slice t26.a t26.len t26.cap) (.int .i64 s1.1))) w.drew fun t28 =>
      ReadN Try.prog .str (V (Instr.loadAt 9 (.pointer (some t28)))) w.drew fun t29 =>
      SplitB (!(t22.toList == t29.toList))
        (K false w.drew)
        (k2 (IntKind.i64.wrap (s1.1 + 1), ()) w.drew))
      (LoopX (α := Int × Unit) (fun s3 w k4 =>
        NilP p0 fun t33 =>
        RunN Try.prog .sl (V (Instr.loadAt 63 (.pointer (some (t33.add 2))))) w fun t35 w =>
        SplitB (decide (s3.1 < (t35.len : Int)))
          (LoopX (α := Int × Unit) (fun s5 w k6 =>
            NilP p0 fun t42 =>
            RunN Try.prog .sl (V (Instr.loadAt 63 (.pointer (some (t42.add 2))))) w fun t44 w =>
            RunN Try.prog .addr (V (Instr.indexAt 63 (.slice t44.a t44.len t44.cap) (.int .i64 s3.1))) w fun t46 w =>
            RunN Try.prog .sl (V (Instr.loadAt 44 (.pointer (some t46)))) w fun t47 w =>
            SplitB (decide (s5.1 < (t47.len : Int)))
              (NilP p0 fun t53 =>
              ReadN Try.prog .sl (V (Instr.loadAt 63 (.pointer (some (t53.add 2))))) w.drew fun t55 =>
              ReadN Try.prog .addr (V (Instr.indexAt 63 (.slice t55.a t55.len t55.cap) (.int .i64 s3.1))) w.drew fun t57 =>
              ReadN Try.prog .sl (V (Instr.loadAt 44 (.pointer (some t57)))) w.drew fun t58 =>
              ReadN Try.prog .addr (V (Instr.indexAt 44 (.slice t58.a t58.len t58.cap) (.int .i64 s5.1))) w.drew fun t60 =>
              ReadN Try.prog (.int .i64) (V (Instr.loadAt 3 (.pointer (some t60)))) w.drew fun t61 =>
              NilP p0 fun t63 =>
              ReadN Try.prog .sl (V (Instr.loadAt 44 (.pointer (some (t63.add 3))))) w.drew fun t65 =>
              ReadN Try.prog .addr (V (Instr.indexAt 44 (.slice t65.a t65.len t65.cap) (.int .i64 s3.1))) w.drew fun t67 =>
              ReadN Try.prog (.int .i64) (V (Instr.loadAt 3 (.pointer (some t67)))) w.drew fun t68 =>
              SplitB (t61 != t68)
                (K false w.drew)
                (k6 (IntKind.i64.wrap (s5.1 + 1), ()) w.drew))
              (k4 (IntKind.i64.wrap (s3.1 + 1), ()) w))
          (0, ()) w)
          (K true w))
      (0, ()) w))
  (0, ()) w
theorem T45.calls {p0 : Option Addr} {w : World} {K : Bool → World → Prop} (h : T45 p0 w K) : CallK Try.prog .bool 45 #[.pointer p0] w K :=
  bodyZ_sound (κ := kappa) (ann := [(3, [(3, (.int .i64))]), (11, [(4, (.int .i64))]), (16, [(5, (.int .i64))])]) (fn := Try.f45) Try.func45 rfl (by kernel_rfl) (cast (show T45 p0 w K = bodyZ Try.prog kappa [(3, [(3, (.int .i64))]), (11, [(4, (.int .i64))]), (16, [(5, (.int .i64))])] .bool Try.f45 [.pointer p0] w K by kernel_rfl) h)

/-- sluice/sluicelaw20.again -/
def T47 (p0 : Sl) (p1 : Sl) (w : World) (K : Sl → World → Prop) : Prop :=
  SplitB ((p0.len : Int) != (IntKind.i64.wrap ((p1.len : Int) + 40)))
    (CallK Try.prog .sl 40 #[.slice p1.a p1.len p1.cap] w fun t13 w =>
    K t13 w)
    (RunN Try.prog (.int .i64) (V (Builtin.copy_ #[30, 30] 3 #[.slice p0.a p0.len p0.cap, .slice p1.a p1.len p1.cap])) w fun t16 w =>
    LoopX (α := Int × Unit) (fun s1 w k2 =>
      SplitB (decide (s1.1 < 40))
        (RunN Try.prog .addr (V (Instr.indexAt 30 (.slice p0.a p0.len p0.cap) (.int .i64 (IntKind.i64.wrap ((p1.len : Int) + s1.1))))) w fun t29 w =>
        RunU Try.prog (U (Instr.storeAt 5 (.pointer (some t29)) (.int .u8 (IntKind.u8.wrap (IntKind.i64.wrap (167 + s1.1)))))) w fun w =>
        k2 (IntKind.i64.wrap (s1.1 + 1), ()) w)
        (K p0 w))
    (0, ()) w)
theorem T47.calls {p0 : Sl} {p1 : Sl} {w : World} {K : Sl → World → Prop} (h : T47 p0 p1 w K) : CallK Try.prog .sl 47 #[.slice p0.a p0.len p0.cap, .slice p1.a p1.len p1.cap] w K :=
  bodyZ_sound (κ := kappa) (ann := [(7, [(5, (.int .i64))])]) (fn := Try.f47) Try.func47 rfl (by kernel_rfl) (cast (show T47 p0 p1 w K = bodyZ Try.prog kappa [(7, [(5, (.int .i64))])] .sl Try.f47 [.slice p0.a p0.len p0.cap, .slice p1.a p1.len p1.cap] w K by kernel_rfl) h)

/-- (*sluice/sluicelaw20.pair).answered -/
def T53 (p0 : Option Addr) (p1 : Sl) (w : World) (K : Unit → World → Prop) : Prop :=
  NilP p0 fun t5 =>
  RunN Try.prog (.int .i64) (V (Instr.loadAt 3 (.pointer (some (t5.add 13))))) w fun t7 w =>
  NilP p0 fun t9 =>
  RunU Try.prog (U (Instr.storeAt 3 (.pointer (some (t9.add 13))) (.int .i64 (IntKind.i64.wrap (t7 + 1))))) w fun w =>
  JoinX (α := Bool × Unit) (fun j2 w =>
    SplitB j2.1
      (CallK Try.prog (.tup .nilT) 27 #[.slice p1.a p1.len p1.cap] w fun t26 w =>
      NilP p0 fun t28 =>
      CallK Try.prog (.tup .nilT) 59 #[.pointer (some (t28.add 2)), .slice p1.a p1.len p1.cap] w fun t31 w =>
      K () w)
      (K () w))
  fun k1 =>
    NilP p0 fun t12 =>
    RunN Try.prog (.int .i64) (V (Instr.loadAt 3 (.pointer (some (t12.add 13))))) w fun t14 w =>
    SplitB ((Int.tmod t14 3) == 0)
      (k1 (true, ()) w)
      (NilP p0 fun t19 =>
      CallK Try.prog .bool 58 #[.pointer (some (t19.add 2)), .slice p1.a p1.len p1.cap] w fun t22 w =>
      k1 (!t22, ()) w)
theorem T53.calls {p0 : Option Addr} {p1 : Sl} {w : World} {K : Unit → World → Prop} (h : T53 p0 p1 w K) : CallK Try.prog (.tup .nilT) 53 #[.pointer p0, .slice p1.a p1.len p1.cap] w K :=
  bodyZ_sound (κ := kappa) (ann := [(1, [(24, .bool)])]) (fn := Try.f53) Try.func53 rfl (by kernel_rfl) (cast (show T53 p0 p1 w K = bodyZ Try.prog kappa [(1, [(24, .bool)])] (.tup .nilT) Try.f53 [.pointer p0, .slice p1.a p1.len p1.cap] w K by kernel_rfl) h)

/-- (*sluice/sluicelaw20.pair).traces -/
def T55 (p0 : Option Addr) (w : World) (K : Bool → World → Prop) : Prop :=
  NilP p0 fun t7 =>
  RunN Try.prog .ptr (V (Instr.loadAt 24 (.pointer (some (t7.add 0))))) w fun t9 w =>
  CallK Try.prog .sl 24 #[.pointer t9] w fun t10 w =>
  NilP p0 fun t12 =>
  RunN Try.prog .ptr (V (Instr.loadAt 61 (.pointer (some (t12.add 1))))) w fun t14 w =>
  CallK Try.prog .sl 60 #[.pointer t14] w fun t15 w =>
  SplitB ((t10.len : Int) != (t15.len : Int))
    (K false w)
    (LoopX (α := Int × Unit) (fun s1 w k2 =>
      SplitB (decide (s1.1 < (t10.len : Int)))
        (ReadN Try.prog .addr (V (Instr.indexAt 44 (.slice t10.a t10.len t10.cap) (.int .i64 s1.1))) w.drew fun t29 =>
        ReadN Try.prog (.int .i64) (V (Instr.loadAt 3 (.pointer (some t29)))) w.drew fun t30 =>
        ReadN Try.prog .addr (V (Instr.indexAt 44 (.slice t15.a t15.len t15.cap) (.int .i64 s1.1))) w.drew fun t33 =>
        ReadN Try.prog (.int .i64) (V (Instr.loadAt 3 (.pointer (some t33)))) w.drew fun t34 =>
        SplitB (t30 != t34)
          (K false w.drew)
          (k2 (IntKind.i64.wrap (s1.1 + 1), ()) w.drew))
        (NilP p0 fun t37 =>
        RunN Try.prog (.int .i64) (V (Instr.loadAt 3 (.pointer (some (t37.add 13))))) w fun t39 w =>
        NilP p0 fun t41 =>
        RunU Try.prog (U (Instr.storeAt 3 (.pointer (some (t41.add 13))) (.int .i64 (IntKind.i64.wrap (t39 + 1))))) w fun w =>
        JoinX (α := Bool × Unit) (fun j4 w =>
          SplitB j4.1
            (NilP p0 fun t58 =>
            CallK Try.prog (.tup .nilT) 62 #[.pointer (some (t58.add 2)), .slice t10.a t10.len t10.cap] w fun t61 w =>
            K true w)
            (K true w))
        fun k3 =>
          NilP p0 fun t44 =>
          RunN Try.prog (.int .i64) (V (Instr.loadAt 3 (.pointer (some (t44.add 13))))) w fun t46 w =>
          SplitB ((Int.tmod t46 3) == 0)
            (k3 (true, ()) w)
            (NilP p0 fun t51 =>
            CallK Try.prog .bool 61 #[.pointer (some (t51.add 2)), .slice t10.a t10.len t10.cap] w fun t54 w =>
            k3 (!t54, ()) w)))
    (0, ()) w)
theorem T55.calls {p0 : Option Addr} {w : World} {K : Bool → World → Prop} (h : T55 p0 w K) : CallK Try.prog .bool 55 #[.pointer p0] w K :=
  bodyZ_sound (κ := kappa) (ann := [(8, [(5, (.int .i64))]), (16, [(56, .bool)])]) (fn := Try.f55) Try.func55 rfl (by kernel_rfl) (cast (show T55 p0 w K = bodyZ Try.prog kappa [(8, [(5, (.int .i64))]), (16, [(56, .bool)])] .bool Try.f55 [.pointer p0] w K by kernel_rfl) h)

/-- (*sluice/sluicelaw20.shelf).leave -/
def T58 (p0 : Option Addr) (p1 : Sl) (w : World) (K : Bool → World → Prop) : Prop :=
  JoinX (α := Bool × Unit) (fun j2 w =>
    SplitB j2.1
      (K false w)
      (NilP p0 fun t23 =>
      RunN Try.prog (.int .i64) (V (Instr.loadAt 3 (.pointer (some (t23.add 9))))) w fun t25 w =>
      NilP p0 fun t29 =>
      RunU Try.prog (U (Instr.storeAt 3 (.pointer (some (t29.add 9))) (.int .i64 (IntKind.i64.wrap (t25 + (p1.len : Int)))))) w fun w =>
      NilP p0 fun t33 =>
      RunN Try.prog .sl (V (Instr.loadAt 29 (.pointer (some (t33.add 5))))) w fun t35 w =>
      RunN Try.prog .sl (V (Instr.buildSlice 29 1 #[(0, .slice p1.a p1.len p1.cap)])) w fun t37 w =>
      RunN Try.prog .sl (V (Builtin.append_ #[29, 29] 29 #[.slice t35.a t35.len t35.cap, .slice t37.a t37.len t37.cap])) w fun t38 w =>
      NilP p0 fun t39 =>
      RunU Try.prog (U (Instr.storeAt 29 (.pointer (some (t39.add 5))) (.slice t38.a t38.len t38.cap))) w fun w =>
      NilP p0 fun t43 =>
      ReadN Try.prog .sl (V (Instr.loadAt 62 (.pointer (some (t43.add 6))))) w.drew fun t45 =>
      ReadN Try.prog .str (V (convert 30 9 (.slice p1.a p1.len p1.cap))) w.drew fun t47 =>
      RunN Try.prog .sl (V (Instr.buildSlice 62 1 #[(0, .string t47)])) w.drew fun t48 w =>
      StillV Try.prog (V (Instr.loadAt 62 (.pointer (some (t43.add 6))))) (.slice t45.a t45.len t45.cap) w ∧
      RunN Try.prog .sl (V (Builtin.append_ #[62, 62] 62 #[.slice t45.a t45.len t45.cap, .slice t48.a t48.len t48.cap])) w fun t49 w =>
      NilP p0 fun t50 =>
      RunU Try.prog (U (Instr.storeAt 62 (.pointer (some (t50.add 6))) (.slice t49.a t49.len t49.cap))) w fun w =>
      K true w))
  fun k1 =>
    NilP p0 fun t8 =>
    RunN Try.prog (.int .i64) (V (Instr.loadAt 3 (.pointer (some (t8.add 9))))) w fun t10 w =>
    SplitB (decide ((p1.len : Int) > (IntKind.i64.wrap (4194304 - t10))))
      (k1 (true, ()) w)
      (NilP p0 fun t15 =>
      RunN Try.prog .sl (V (Instr.loadAt 29 (.pointer (some (t15.add 5))))) w fun t17 w =>
      k1 (decide ((t17.len : Int) ≥ 100), ()) w)
theorem T58.calls {p0 : Option Addr} {p1 : Sl} {w : World} {K : Bool → World → Prop} (h : T58 p0 p1 w K) : CallK Try.prog .bool 58 #[.pointer p0, .slice p1.a p1.len p1.cap] w K :=
  bodyZ_sound (κ := kappa) (ann := [(2, [(20, .bool)])]) (fn := Try.f58) Try.func58 rfl (by kernel_rfl) (cast (show T58 p0 p1 w K = bodyZ Try.prog kappa [(2, [(20, .bool)])] .bool Try.f58 [.pointer p0, .slice p1.a p1.len p1.cap] w K by kernel_rfl) h)

/-- (*sluice/sluicelaw20.shelf).keep -/
def T59 (p0 : Option Addr) (p1 : Sl) (w : World) (K : Unit → World → Prop) : Prop :=
  NilP p0 fun t6 =>
  RunN Try.prog (.int .i64) (V (Instr.loadAt 3 (.pointer (some (t6.add 4))))) w fun t8 w =>
  NilP p0 fun t10 =>
  RunU Try.prog (U (Instr.storeAt 3 (.pointer (some (t10.add 4))) (.int .i64 (IntKind.i64.wrap (t8 + 1))))) w fun w =>
  LoopX (α := Int × Unit) (fun s1 w k2 =>
    SplitB (decide (s1.1 < (p1.len : Int)))
      (NilP p0 fun t21 =>
      RunN Try.prog (.int .i64) (V (Instr.loadAt 3 (.pointer (some (t21.add 4))))) w fun t23 w =>
      RunN Try.prog .addr (V (Instr.indexAt 30 (.slice p1.a p1.len p1.cap) (.int .i64 s1.1))) w fun t28 w =>
      RunU Try.prog (U (Instr.storeAt 5 (.pointer (some t28)) (.int .u8 (IntKind.u8.wrap (IntKind.i64.wrap ((IntKind.i64.wrap (37 * t23)) + s1.1)))))) w fun w =>
      k2 (IntKind.i64.wrap (s1.1 + 1), ()) w)
      (NilP p0 fun t31 =>
      RunN Try.prog .sl (V (Instr.loadAt 29 (.pointer (some (t31.add 0))))) w fun t33 w =>
      RunN Try.prog .sl (V (Instr.buildSlice 29 1 #[(0, .slice p1.a p1.len p1.cap)])) w fun t35 w =>
      RunN Try.prog .sl (V (Builtin.append_ #[29, 29] 29 #[.slice t33.a t33.len t33.cap, .slice t35.a t35.len t35.cap])) w fun t36 w =>
      NilP p0 fun t37 =>
      RunU Try.prog (U (Instr.storeAt 29 (.pointer (some (t37.add 0))) (.slice t36.a t36.len t36.cap))) w fun w =>
      NilP p0 fun t41 =>
      ReadN Try.prog .sl (V (Instr.loadAt 62 (.pointer (some (t41.add 1))))) w.drew fun t43 =>
      ReadN Try.prog .str (V (convert 30 9 (.slice p1.a p1.len p1.cap))) w.drew fun t45 =>
      RunN Try.prog .sl (V (Instr.buildSlice 62 1 #[(0, .string t45)])) w.drew fun t46 w =>
      StillV Try.prog (V (Instr.loadAt 62 (.pointer (some (t41.add 1))))) (.slice t43.a t43.len t43.cap) w ∧
      RunN Try.prog .sl (V (Builtin.append_ #[62, 62] 62 #[.slice t43.a t43.len t43.cap, .slice t46.a t46.len t46.cap])) w fun t47 w =>
      NilP p0 fun t48 =>
      RunU Try.prog (U (Instr.storeAt 62 (.pointer (some (t48.add 1))) (.slice t47.a t47.len t47.cap))) w fun w =>
      NilP p0 fun t51 =>
      RunN Try.prog .sl (V (Instr.loadAt 29 (.pointer (some (t51.add 0))))) w fun t53 w =>
      SplitB (decide ((t53.len : Int) > 4))
        (NilP p0 fun t58 =>
        RunN Try.prog .sl (V (Instr.loadAt 29 (.pointer (some (t58.add 0))))) w fun t60 w =>
        RunN Try.prog .sl (V (Instr.sliceAt 29 (.slice t60.a t60.len t60.cap) (some (.int .i64 1)) none none)) w fun t61 w =>
        NilP p0 fun t62 =>
        RunU Try.prog (U (Instr.storeAt 29 (.pointer (some (t62.add 0))) (.slice t61.a t61.len t61.cap))) w fun w =>
        NilP p0 fun t66 =>
        RunN Try.prog .sl (V (Instr.loadAt 62 (.pointer (some (t66.add 1))))) w fun t68 w =>
        RunN Try.prog .sl (V (Instr.sliceAt 62 (.slice t68.a t68.len t68.cap) (some (.int .i64 1)) none none)) w fun t69 w =>
        NilP p0 fun t70 =>
        RunU Try.prog (U (Instr.storeAt 62 (.pointer (some (t70.add 1))) (.slice t69.a t69.len t69.cap))) w fun w =>
        K () w)
        (K () w)))
  (0, ()) w
theorem T59.calls {p0 : Option Addr} {p1 : Sl} {w : World} {K : Unit → World → Prop} (h : T59 p0 p1 w K) : CallK Try.prog (.tup .nilT) 59 #[.pointer p0, .slice p1.a p1.len p1.cap] w K :=
  bodyZ_sound (κ := kappa) (ann := [(3, [(4, (.int .i64))])]) (fn := Try.f59) Try.func59 rfl (by kernel_rfl) (cast (show T59 p0 p1 w K = bodyZ Try.prog kappa [(3, [(4, (.int .i64))])] (.tup .nilT) Try.f59 [.pointer p0, .slice p1.a p1.len p1.cap] w K by kernel_rfl) h)

/-- (*sluice/sluicelaw20.shelf).leaveInts -/
def T61 (p0 : Option Addr) (p1 : Sl) (w : World) (K : Bool → World → Prop) : Prop :=
  NilP p0 fun t6 =>
  RunN Try.prog .sl (V (Instr.loadAt 63 (.pointer (some (t6.add 7))))) w fun t8 w =>
  SplitB (decide ((t8.len : Int) ≥ 100))
    (K false w)
    (NilP p0 fun t13 =>
    RunN Try.prog .sl (V (Instr.loadAt 63 (.pointer (some (t13.add 7))))) w fun t15 w =>
    RunN Try.prog .sl (V (Instr.buildSlice 63 1 #[(0, .slice p1.a p1.len p1.cap)])) w fun t17 w =>
    RunN Try.prog .sl (V (Builtin.append_ #[63, 63] 63 #[.slice t15.a t15.len t15.cap, .slice t17.a t17.len t17.cap])) w fun t18 w =>
    NilP p0 fun t19 =>
    RunU Try.prog (U (Instr.storeAt 63 (.pointer (some (t19.add 7))) (.slice t18.a t18.len t18.cap))) w fun w =>
    NilP p0 fun t23 =>
    ReadN Try.prog .sl (V (Instr.loadAt 63 (.pointer (some (t23.add 8))))) w.drew fun t25 =>
    RunN Try.prog .sl (V (Builtin.append_ #[44, 44] 44 #[.slice none 0 0, .slice p1.a p1.len p1.cap])) w.drew fun t27 w =>
    StillV Try.prog (V (Instr.loadAt 63 (.pointer (some (t23.add 8))))) (.slice t25.a t25.len t25.cap) w ∧
    RunN Try.prog .sl (V (Instr.buildSlice 63 1 #[(0, .slice t27.a t27.len t27.cap)])) w fun t28 w =>
    StillV Try.prog (V (Instr.loadAt 63 (.pointer (some (t23.add 8))))) (.slice t25.a t25.len t25.cap) w ∧
    RunN Try.prog .sl (V (Builtin.append_ #[63, 63] 63 #[.slice t25.a t25.len t25.cap, .slice t28.a t28.len t28.cap])) w fun t29 w =>
    NilP p0 fun t30 =>
    RunU Try.prog (U (Instr.storeAt 63 (.pointer (some (t30.add 8))) (.slice t29.a t29.len t29.cap))) w fun w =>
    K true w)
theorem T61.calls {p0 : Option Addr} {p1 : Sl} {w : World} {K : Bool → World → Prop} (h : T61 p0 p1 w K) : CallK Try.prog .bool 61 #[.pointer p0, .slice p1.a p1.len p1.cap] w K :=
  bodyZ_sound (κ := kappa) (ann := []) (fn := Try.f61) Try.func61 rfl (by kernel_rfl) (cast (show T61 p0 p1 w K = bodyZ Try.prog kappa [] .bool Try.f61 [.pointer p0, .slice p1.a p1.len p1.cap] w K by kernel_rfl) h)

/-- (*sluice/sluicelaw20.shelf).keepInts -/
def T62 (p0 : Option Addr) (p1 : Sl) (w : World) (K : Unit → World → Prop) : Prop :=
  NilP p0 fun t6 =>
  RunN Try.prog (.int .i64) (V (Instr.loadAt 3 (.pointer (some (t6.add 4))))) w fun t8 w =>
  NilP p0 fun t10 =>
  RunU Try.prog (U (Instr.storeAt 3 (.pointer (some (t10.add 4))) (.int .i64 (IntKind.i64.wrap (t8 + 1))))) w fun w =>
  LoopX (α := Int × Unit) (fun s1 w k2 =>
    SplitB (decide (s1.1 < (p1.len : Int)))
      (NilP p0 fun t21 =>
      RunN Try.prog (.int .i64) (V (Instr.loadAt 3 (.pointer (some (t21.add 4))))) w fun t23 w =>
      RunN Try.prog .addr (V (Instr.indexAt 44 (.slice p1.a p1.len p1.cap) (.int .i64 s1.1))) w fun t25 w =>
      RunU Try.prog (U (Instr.storeAt 3 (.pointer (some t25)) (.int .i64 (IntKind.i64.wrap ((-1000) - t23))))) w fun w =>
      k2 (IntKind.i64.wrap (s1.1 + 1), ()) w)
      (NilP p0 fun t28 =>
      RunN Try.prog .sl (V (Instr.loadAt 63 (.pointer (some (t28.add 2))))) w fun t30 w =>
      RunN Try.prog .sl (V (Instr.buildSlice 63 1 #[(0, .slice p1.a p1.len p1.cap)])) w fun t32 w =>
      RunN Try.prog .sl (V (Builtin.append_ #[63, 63] 63 #[.slice t30.a t30.len t30.cap, .slice t32.a t32.len t32.cap])) w fun t33 w =>
      NilP p0 fun t34 =>
      RunU Try.prog (U (Instr.storeAt 63 (.pointer (some (t34.add 2))) (.slice t33.a t33.len t33.cap))) w fun w =>
      NilP p0 fun t38 =>
      ReadN Try.prog .sl (V (Instr.loadAt 44 (.pointer (some (t38.add 3))))) w.drew fun t40 =>
      NilP p0 fun t42 =>
      ReadN Try.prog (.int .i64) (V (Instr.loadAt 3 (.pointer (some (t42.add 4))))) w.drew fun t44 =>
      RunN Try.prog .sl (V (Instr.buildSlice 44 1 #[(0, .int .i64 (IntKind.i64.wrap ((-1000) - t44)))])) w.drew fun t46 w =>
      StillV Try.prog (V (Instr.loadAt 44 (.pointer (some (t38.add 3))))) (.slice t40.a t40.len t40.cap) w ∧
      RunN Try.prog .sl (V (Builtin.append_ #[44, 44] 44 #[.slice t40.a t40.len t40.cap, .slice t46.a t46.len t46.cap])) w fun t47 w =>
      NilP p0 fun t48 =>
      RunU Try.prog (U (Instr.storeAt 44 (.pointer (some (t48.add 3))) (.slice t47.a t47.len t47.cap))) w fun w =>
      NilP p0 fun t51 =>
      RunN Try.prog .sl (V (Instr.loadAt 63 (.pointer (some (t51.add 2))))) w fun t53 w =>
      SplitB (decide ((t53.len : Int) > 4))
        (NilP p0 fun t58 =>
        RunN Try.prog .sl (V (Instr.loadAt 63 (.pointer (some (t58.add 2))))) w fun t60 w =>
        RunN Try.prog .sl (V (Instr.sliceAt 63 (.slice t60.a t60.len t60.cap) (some (.int .i64 1)) none none)) w fun t61 w =>
        NilP p0 fun t62 =>
        RunU Try.prog (U (Instr.storeAt 63 (.pointer (some (t62.add 2))) (.slice t61.a t61.len t61.cap))) w fun w =>
        NilP p0 fun t66 =>
        RunN Try.prog .sl (V (Instr.loadAt 44 (.pointer (some (t66.add 3))))) w fun t68 w =>
        RunN Try.prog .sl (V (Instr.sliceAt 44 (.slice t68.a t68.len t68.cap) (some (.int .i64 1)) none none)) w fun t69 w =>
        NilP p0 fun t70 =>
        RunU Try.prog (U (Instr.storeAt 44 (.pointer (some (t70.add 3))) (.slice t69.a t69.len t69.cap))) w fun w =>
        K () w)
        (K () w)))
  (0, ()) w
theorem T62.calls {p0 : Option Addr} {p1 : Sl} {w : World} {K : Unit → World → Prop} (h : T62 p0 p1 w K) : CallK Try.prog (.tup .nilT) 62 #[.pointer p0, .slice p1.a p1.len p1.cap] w K :=
  bodyZ_sound (κ := kappa) (ann := [(3, [(4, (.int .i64))])]) (fn := Try.f62) Try.func62 rfl (by kernel_rfl) (cast (show T62 p0 p1 w K = bodyZ Try.prog kappa [(3, [(4, (.int .i64))])] (.tup .nilT) Try.f62 [.pointer p0, .slice p1.a p1.len p1.cap] w K by kernel_rfl) h)

end Go.Proofs.Ytpdaoahamgegoaa
