import Derived.Test.YtpdaoahamgegoaaTD
namespace Go.Proofs.Ytpdaoahamgegoaa
open Go Go.Fw Go.Proofs
set_option maxRecDepth 100000
set_option linter.unusedVariables false

/-- sluice/sluiceref20.New -/
def T39 (p0 : Int) (w : World) (K : (Option Addr × Int × Unit) → World → Prop) : Prop :=
  JoinX (α := Bool × Unit) (fun j2 w =>
    SplitB j2.1
      (K (none, 1, ()) w)
      (RunN Try.prog .addr (V (Instr.box 85 (.agg #[.int .i64 p0, .slice none 0 0, .slice none 0 0, .bool true, .int .i64 (-1), .int .i64 0]))) w fun t12 w =>
      K (some t12, 0, ()) w))
  fun k1 =>
    SplitB (decide (p0 < 1))
      (k1 (true, ()) w)
      (k1 (decide (p0 > 65536), ()) w)
theorem T39.calls {p0 : Int} {w : World} {K : (Option Addr × Int × Unit) → World → Prop} (h : T39 p0 w K) : CallK Try.prog (.tup (.cons .ptr (.cons (.int .i64) .nilT))) 39 #[.int .i64 p0] w K :=
  bodyZ_sound (κ := kappa) (ann := [(2, [(9, .bool)])]) (fn := Try.f39) Try.func39 rfl (by kernel_rfl) (cast (show T39 p0 w K = bodyZ Try.prog kappa [(2, [(9, .bool)])] (.tup (.cons .ptr (.cons (.int .i64) .nilT))) Try.f39 [.int .i64 p0] w K by kernel_rfl) h)

/-- sluice/sluiceref20.From -/
def T41 (p0 : Sl) (w : World) (K : (Option Addr × Int × Unit) → World → Prop) : Prop :=
  JoinX (α := Bool × Unit) (fun j2 w =>
    SplitB j2.1
      (K (none, 1, ()) w)
      (CallK Try.prog .sl 46 #[.slice p0.a p0.len p0.cap] w fun t23 w =>
      RunN Try.prog .addr (V (Instr.box 85 (.agg #[.int .i64 (IntKind.i64.wrap (Int.tdiv (p0.len : Int) 512)), .slice t23.a t23.len t23.cap, .slice none 0 0, .bool true, .int .i64 (-1), .int .i64 0]))) w fun t25 w =>
      K (some t25, 0, ()) w))
  fun k1 =>
    SplitB ((p0.len : Int) == 0)
      (k1 (true, ()) w)
      (SplitB ((Int.tmod (p0.len : Int) 512) != 0)
        (k1 (true, ()) w)
        (k1 (decide ((IntKind.i64.wrap (Int.tdiv (p0.len : Int) 512)) > 65536), ()) w))
theorem T41.calls {p0 : Sl} {w : World} {K : (Option Addr × Int × Unit) → World → Prop} (h : T41 p0 w K) : CallK Try.prog (.tup (.cons .ptr (.cons (.int .i64) .nilT))) 41 #[.slice p0.a p0.len p0.cap] w K :=
  bodyZ_sound (κ := kappa) (ann := [(3, [(20, .bool)])]) (fn := Try.f41) Try.func41 rfl (by kernel_rfl) (cast (show T41 p0 w K = bodyZ Try.prog kappa [(3, [(20, .bool)])] (.tup (.cons .ptr (.cons (.int .i64) .nilT))) Try.f41 [.slice p0.a p0.len p0.cap] w K by kernel_rfl) h)

/-- sluice/sluiceref20.copied -/
def T46 (p0 : Sl) (w : World) (K : Sl → World → Prop) : Prop :=
  LoopX (α := Sl × Int × Unit) (fun s1 w k2 =>
    SplitB (decide (s1.2.1 < (p0.len : Int)))
      (RunN Try.prog .addr (V (Instr.indexAt 30 (.slice p0.a p0.len p0.cap) (.int .i64 s1.2.1))) w fun t14 w =>
      RunN Try.prog (.int .u8) (V (Instr.loadAt 5 (.pointer (some t14)))) w fun t15 w =>
      RunN Try.prog .sl (V (Instr.buildSlice 30 1 #[(0, .int .u8 t15)])) w fun t16 w =>
      RunN Try.prog .sl (V (Builtin.append_ #[30, 30] 30 #[.slice s1.1.a s1.1.len s1.1.cap, .slice t16.a t16.len t16.cap])) w fun t17 w =>
      k2 (t17, IntKind.i64.wrap (s1.2.1 + 1), ()) w)
      (K s1.1 w))
  ((⟨none, 0, 0⟩ : Sl), 0, ()) w
theorem T46.calls {p0 : Sl} {w : World} {K : Sl → World → Prop} (h : T46 p0 w K) : CallK Try.prog .sl 46 #[.slice p0.a p0.len p0.cap] w K :=
  bodyZ_sound (κ := kappa) (ann := [(4, [(3, .sl), (4, (.int .i64))])]) (fn := Try.f46) Try.func46 rfl (by kernel_rfl) (cast (show T46 p0 w K = bodyZ Try.prog kappa [(4, [(3, .sl), (4, (.int .i64))])] .sl Try.f46 [.slice p0.a p0.len p0.cap] w K by kernel_rfl) h)

/-- (*sluice/sluiceref20.Disk).Write -/
def T48 (p0 : Option Addr) (p1 : Int) (p2 : Sl) (w : World) (K : Int → World → Prop) : Prop :=
  NilP p0 fun t9 =>
  RunN Try.prog .bool (V (Instr.loadAt 4 (.pointer (some (t9.add 3))))) w fun t11 w =>
  SplitB (!t11)
    (K 200 w)
    (JoinX (α := Bool × Unit) (fun j2 w =>
      SplitB j2.1
        (K 201 w)
        (SplitB ((p2.len : Int) != 512)
          (K 1 w)
          (CallK Try.prog .sl 46 #[.slice p2.a p2.len p2.cap] w fun t28 w =>
          RunN Try.prog .addr (V (Instr.alloc 91 true (.tuple #[]))) w fun t7 w =>
          RunU Try.prog (U (Instr.storeAt 91 (.pointer (some t7)) (.agg #[.int .i64 p1, .int .i64 512, .slice t28.a t28.len t28.cap]))) w fun w =>
          NilP p0 fun t31 =>
          RunN Try.prog (.int .i64) (V (Instr.loadAt 3 (.pointer (some (t31.add 4))))) w fun t33 w =>
          SplitB (t33 == 0)
            (NilP p0 fun t36 =>
            RunN Try.prog (.int .i64) (V (Instr.loadAt 3 (.pointer (some (t36.add 5))))) w fun t38 w =>
            RunU Try.prog (U (Instr.storeAt 3 (.pointer (some (t7.add 1))) (.int .i64 t38))) w fun w =>
            NilP p0 fun t42 =>
            ReadN Try.prog .sl (V (Instr.loadAt 83 (.pointer (some (t42.add 2))))) w.drew fun t44 =>
            ReadN Try.prog (.agg (.cons (.int .i64) (.cons (.int .i64) (.cons .sl .nilT)))) (V (Instr.loadAt 91 (.pointer (some t7)))) w.drew fun t45 =>
            RunN Try.prog .sl (V (Instr.buildSlice 83 1 #[(0, .agg #[.int .i64 t45.1, .int .i64 t45.2.1, .slice t45.2.2.1.a t45.2.2.1.len t45.2.2.1.cap])])) w.drew fun t46 w =>
            StillV Try.prog (V (Instr.loadAt 83 (.pointer (some (t42.add 2))))) (.slice t44.a t44.len t44.cap) w ∧
            RunN Try.prog .sl (V (Builtin.append_ #[83, 83] 83 #[.slice t44.a t44.len t44.cap, .slice t46.a t46.len t46.cap])) w fun t47 w =>
            NilP p0 fun t48 =>
            RunU Try.prog (U (Instr.storeAt 83 (.pointer (some (t48.add 2))) (.slice t47.a t47.len t47.cap))) w fun w =>
            CallK Try.prog (.tup .nilT) 50 #[.pointer p0] w fun t51 w =>
            K 200 w)
            (JoinX (α := Unit) (fun j4 w =>
              NilP p0 fun t66 =>
              ReadN Try.prog .sl (V (Instr.loadAt 83 (.pointer (some (t66.add 2))))) w.drew fun t68 =>
              ReadN Try.prog (.agg (.cons (.int .i64) (.cons (.int .i64) (.cons .sl .nilT)))) (V (Instr.loadAt 91 (.pointer (some t7)))) w.drew fun t69 =>
              RunN Try.prog .sl (V (Instr.buildSlice 83 1 #[(0, .agg #[.int .i64 t69.1, .int .i64 t69.2.1, .slice t69.2.2.1.a t69.2.2.1.len t69.2.2.1.cap])])) w.drew fun t70 w =>
              StillV Try.prog (V (Instr.loadAt 83 (.pointer (some (t66.add 2))))) (.slice t68.a t68.len t68.cap) w ∧
              RunN Try.prog .sl (V (Builtin.append_ #[83, 83] 83 #[.slice t68.a t68.len t68.cap, .slice t70.a t70.len t70.cap])) w fun t71 w =>
              NilP p0 fun t72 =>
              RunU Try.prog (U (Instr.storeAt 83 (.pointer (some (t72.add 2))) (.slice t71.a t71.len t71.cap))) w fun w =>
              K 0 w)
            fun k3 =>
              NilP p0 fun t53 =>
              RunN Try.prog (.int .i64) (V (Instr.loadAt 3 (.pointer (some (t53.add 4))))) w fun t55 w =>
              SplitB (decide (t55 > 0))
                (NilP p0 fun t58 =>
                RunN Try.prog (.int .i64) (V (Instr.loadAt 3 (.pointer (some (t58.add 4))))) w fun t60 w =>
                NilP p0 fun t62 =>
                RunU Try.prog (U (Instr.storeAt 3 (.pointer (some (t62.add 4))) (.int .i64 (IntKind.i64.wrap (t60 - 1))))) w fun w =>
                k3 () w)
                (k3 () w)))))
    fun k1 =>
      SplitB (decide (p1 < 0))
        (k1 (true, ()) w)
        (NilP p0 fun t18 =>
        RunN Try.prog (.int .i64) (V (Instr.loadAt 3 (.pointer (some (t18.add 0))))) w fun t20 w =>
        k1 (decide (p1 ≥ t20), ()) w))
theorem T48.calls {p0 : Option Addr} {p1 : Int} {p2 : Sl} {w : World} {K : Int → World → Prop} (h : T48 p0 p1 p2 w K) : CallK Try.prog (.int .i64) 48 #[.pointer p0, .int .i64 p1, .slice p2.a p2.len p2.cap] w K :=
  bodyZ_sound (κ := kappa) (ann := [(5, [(22, .bool)]), (17, [])]) (fn := Try.f48) Try.func48 rfl (by kernel_rfl) (cast (show T48 p0 p1 p2 w K = bodyZ Try.prog kappa [(5, [(22, .bool)]), (17, [])] (.int .i64) Try.f48 [.pointer p0, .int .i64 p1, .slice p2.a p2.len p2.cap] w K by kernel_rfl) h)

/-- (*sluice/sluiceref20.Disk).Arm -/
def T49 (p0 : Option Addr) (p1 : Int) (p2 : Int) (w : World) (K : Unit → World → Prop) : Prop :=
  NilP p0 fun t7 =>
  RunN Try.prog .bool (V (Instr.loadAt 4 (.pointer (some (t7.add 3))))) w fun t9 w =>
  SplitB (!t9)
    (K () w)
    (RunN Try.prog (.int .i64) (V (Builtin.max_ #[3, 3] 3 #[.int .i64 p1, .int .i64 (-1)])) w fun t13 w =>
    NilP p0 fun t14 =>
    RunU Try.prog (U (Instr.storeAt 3 (.pointer (some (t14.add 4))) (.int .i64 t13))) w fun w =>
    RunN Try.prog (.int .i64) (V (Builtin.max_ #[3, 3] 3 #[.int .i64 p2, .int .i64 0])) w fun t18 w =>
    RunN Try.prog (.int .i64) (V (Builtin.min_ #[3, 3] 3 #[.int .i64 t18, .int .i64 512])) w fun t19 w =>
    NilP p0 fun t20 =>
    RunU Try.prog (U (Instr.storeAt 3 (.pointer (some (t20.add 5))) (.int .i64 t19))) w fun w =>
    K () w)
theorem T49.calls {p0 : Option Addr} {p1 : Int} {p2 : Int} {w : World} {K : Unit → World → Prop} (h : T49 p0 p1 p2 w K) : CallK Try.prog (.tup .nilT) 49 #[.pointer p0, .int .i64 p1, .int .i64 p2] w K :=
  bodyZ_sound (κ := kappa) (ann := []) (fn := Try.f49) Try.func49 rfl (by kernel_rfl) (cast (show T49 p0 p1 p2 w K = bodyZ Try.prog kappa [] (.tup .nilT) Try.f49 [.pointer p0, .int .i64 p1, .int .i64 p2] w K by kernel_rfl) h)

/-- (*sluice/sluiceref20.Disk).Off -/
def T50 (p0 : Option Addr) (w : World) (K : Unit → World → Prop) : Prop :=
  NilP p0 fun t3 =>
  RunU Try.prog (U (Instr.storeAt 4 (.pointer (some (t3.add 3))) (.bool false))) w fun w =>
  NilP p0 fun t6 =>
  RunU Try.prog (U (Instr.storeAt 3 (.pointer (some (t6.add 4))) (.int .i64 (-1)))) w fun w =>
  K () w
theorem T50.calls {p0 : Option Addr} {w : World} {K : Unit → World → Prop} (h : T50 p0 w K) : CallK Try.prog (.tup .nilT) 50 #[.pointer p0] w K :=
  bodyZ_sound (κ := kappa) (ann := []) (fn := Try.f50) Try.func50 rfl (by kernel_rfl) (cast (show T50 p0 w K = bodyZ Try.prog kappa [] (.tup .nilT) Try.f50 [.pointer p0] w K by kernel_rfl) h)

/-- (*sluice/sluiceref20.Disk).Start -/
def T51 (p0 : Option Addr) (w : World) (K : Unit → World → Prop) : Prop :=
  NilP p0 fun t3 =>
  RunU Try.prog (U (Instr.storeAt 4 (.pointer (some (t3.add 3))) (.bool true))) w fun w =>
  K () w
theorem T51.calls {p0 : Option Addr} {w : World} {K : Unit → World → Prop} (h : T51 p0 w K) : CallK Try.prog (.tup .nilT) 51 #[.pointer p0] w K :=
  bodyZ_sound (κ := kappa) (ann := []) (fn := Try.f51) Try.func51 rfl (by kernel_rfl) (cast (show T51 p0 w K = bodyZ Try.prog kappa [] (.tup .nilT) Try.f51 [.pointer p0] w K by kernel_rfl) h)

/-- (*sluice/sluiceref20.Disk).Read -/
def T52 (p0 : Option Addr) (p1 : Int) (w : World) (K : (Sl × Int × Unit) → World → Prop) : Prop :=
  NilP p0 fun t7 =>
  RunN Try.prog .bool (V (Instr.loadAt 4 (.pointer (some (t7.add 3))))) w fun t9 w =>
  SplitB (!t9)
    (K ((⟨none, 0, 0⟩ : Sl), 200, ()) w)
    (JoinX (α := Bool × Unit) (fun j2 w =>
      SplitB j2.1
        (K ((⟨none, 0, 0⟩ : Sl), 201, ()) w)
        (CallK Try.prog .sl 57 #[.pointer p0, .int .i64 p1] w fun t23 w =>
        K (t23, 0, ()) w))
    fun k1 =>
      SplitB (decide (p1 < 0))
        (k1 (true, ()) w)
        (NilP p0 fun t16 =>
        RunN Try.prog (.int .i64) (V (Instr.loadAt 3 (.pointer (some (t16.add 0))))) w fun t18 w =>
        k1 (decide (p1 ≥ t18), ()) w))
theorem T52.calls {p0 : Option Addr} {p1 : Int} {w : World} {K : (Sl × Int × Unit) → World → Prop} (h : T52 p0 p1 w K) : CallK Try.prog (.tup (.cons .sl (.cons (.int .i64) .nilT))) 52 #[.pointer p0, .int .i64 p1] w K :=
  bodyZ_sound (κ := kappa) (ann := [(5, [(20, .bool)])]) (fn := Try.f52) Try.func52 rfl (by kernel_rfl) (cast (show T52 p0 p1 w K = bodyZ Try.prog kappa [(5, [(20, .bool)])] (.tup (.cons .sl (.cons (.int .i64) .nilT))) Try.f52 [.pointer p0, .int .i64 p1] w K by kernel_rfl) h)

/-- (*sluice/sluiceref20.Disk).Writes -/
def T54 (p0 : Option Addr) (w : World) (K : Int → World → Prop) : Prop :=
  NilP p0 fun t4 =>
  RunN Try.prog .sl (V (Instr.loadAt 83 (.pointer (some (t4.add 2))))) w fun t6 w =>
  K (t6.len : Int) w
theorem T54.calls {p0 : Option Addr} {w : World} {K : Int → World → Prop} (h : T54 p0 w K) : CallK Try.prog (.int .i64) 54 #[.pointer p0] w K :=
  bodyZ_sound (κ := kappa) (ann := []) (fn := Try.f54) Try.func54 rfl (by kernel_rfl) (cast (show T54 p0 w K = bodyZ Try.prog kappa [] (.int .i64) Try.f54 [.pointer p0] w K by kernel_rfl) h)

/-- (*sluice/sluiceref20.Disk).Image -/
def T56 (p0 : Option Addr) (w : World) (K : Sl → World → Prop) : Prop :=
  NilP p0 fun t9 =>
  RunN Try.prog (.int .i64) (V (Instr.loadAt 3 (.pointer (some (t9.add 0))))) w fun t11 w =>
  RunN Try.prog .sl (V (Instr.makeSlice 30 (.int .i64 (IntKind.i64.wrap (512 * t11))) (.int .i64 (IntKind.i64.wrap (512 * t11))))) w fun t13 w =>
  LoopX (α := Int × Unit) (fun s1 w k2 =>
    NilP p0 fun t16 =>
    RunN Try.prog .sl (V (Instr.loadAt 30 (.pointer (some (t16.add 1))))) w fun t18 w =>
    SplitB (decide (s1.1 < (t18.len : Int)))
      (NilP p0 fun t26 =>
      RunN Try.prog .sl (V (Instr.loadAt 30 (.pointer (some (t26.add 1))))) w fun t28 w =>
      RunN Try.prog .addr (V (Instr.indexAt 30 (.slice t28.a t28.len t28.cap) (.int .i64 s1.1))) w fun t30 w =>
      RunN Try.prog (.int .u8) (V (Instr.loadAt 5 (.pointer (some t30)))) w fun t31 w =>
      RunN Try.prog .addr (V (Instr.indexAt 30 (.slice t13.a t13.len t13.cap) (.int .i64 s1.1))) w fun t32 w =>
      RunU Try.prog (U (Instr.storeAt 5 (.pointer (some t32)) (.int .u8 t31))) w fun w =>
      k2 (IntKind.i64.wrap (s1.1 + 1), ()) w)
      (LoopX (α := Int × Unit) (fun s3 w k4 =>
        NilP p0 fun t35 =>
        RunN Try.prog .sl (V (Instr.loadAt 83 (.pointer (some (t35.add 2))))) w fun t37 w =>
        SplitB (decide (s3.1 < (t37.len : Int)))
          (NilP p0 fun t43 =>
          RunN Try.prog .sl (V (Instr.loadAt 83 (.pointer (some (t43.add 2))))) w fun t45 w =>
          RunN Try.prog .addr (V (Instr.indexAt 83 (.slice t45.a t45.len t45.cap) (.int .i64 s3.1))) w fun t47 w =>
          RunN Try.prog (.agg (.cons (.int .i64) (.cons (.int .i64) (.cons .sl .nilT)))) (V (Instr.loadAt 91 (.pointer (some t47)))) w fun t48 w =>
          RunN Try.prog .addr (V (Instr.alloc 91 true (.tuple #[]))) w fun t6 w =>
          RunU Try.prog (U (Instr.storeAt 91 (.pointer (some t6)) (.agg #[.int .i64 t48.1, .int .i64 t48.2.1, .slice t48.2.2.1.a t48.2.2.1.len t48.2.2.1.cap]))) w fun w =>
          LoopX (α := Int × Unit) (fun s5 w k6 =>
            RunN Try.prog (.int .i64) (V (Instr.loadAt 3 (.pointer (some (t6.add 1))))) w fun t51 w =>
            SplitB (decide (s5.1 < t51))
              (ReadN Try.prog (.int .i64) (V (Instr.loadAt 3 (.pointer (some (t6.add 0))))) w.drew fun t57 =>
              ReadN Try.prog .sl (V (Instr.loadAt 30 (.pointer (some (t6.add 2))))) w.drew fun t62 =>
              ReadN Try.prog .addr (V (Instr.indexAt 30 (.slice t62.a t62.len t62.cap) (.int .i64 s5.1))) w.drew fun t64 =>
              ReadN Try.prog (.int .u8) (V (Instr.loadAt 5 (.pointer (some t64)))) w.drew fun t65 =>
              ReadN Try.prog .addr (V (Instr.indexAt 30 (.slice t13.a t13.len t13.cap) (.int .i64 (IntKind.i64.wrap ((IntKind.i64.wrap (512 * t57)) + s5.1))))) w.drew fun t66 =>
              RunU Try.prog (U (Instr.storeAt 5 (.pointer (some t66)) (.int .u8 t65))) w.drew fun w =>
              k6 (IntKind.i64.wrap (s5.1 + 1), ()) w)
              (k4 (IntKind.i64.wrap (s3.1 + 1), ()) w))
          (0, ()) w)
          (K t13 w))
      (0, ()) w))
  (0, ()) w
theorem T56.calls {p0 : Option Addr} {w : World} {K : Sl → World → Prop} (h : T56 p0 w K) : CallK Try.prog .sl 56 #[.pointer p0] w K :=
  bodyZ_sound (κ := kappa) (ann := [(4, [(4, (.int .i64))]), (10, [(5, (.int .i64))]), (16, [(7, (.int .i64))])]) (fn := Try.f56) Try.func56 rfl (by kernel_rfl) (cast (show T56 p0 w K = bodyZ Try.prog kappa [(4, [(4, (.int .i64))]), (10, [(5, (.int .i64))]), (16, [(7, (.int .i64))])] .sl Try.f56 [.pointer p0] w K by kernel_rfl) h)

/-- (*sluice/sluiceref20.Disk).Bytes -/
def T57 (p0 : Option Addr) (p1 : Int) (w : World) (K : Sl → World → Prop) : Prop :=
  RunN Try.prog .sl (V (Instr.makeSlice 30 (.int .i64 512) (.int .i64 512))) w fun t9 w =>
  LoopX (α := Int × Unit) (fun s1 w k2 =>
    JoinX (α := Bool × Unit) (fun j4 w =>
      SplitB j4.1
        (NilP p0 fun t25 =>
        RunN Try.prog .sl (V (Instr.loadAt 30 (.pointer (some (t25.add 1))))) w fun t27 w =>
        RunN Try.prog .addr (V (Instr.indexAt 30 (.slice t27.a t27.len t27.cap) (.int .i64 (IntKind.i64.wrap ((IntKind.i64.wrap (512 * p1)) + s1.1))))) w fun t32 w =>
        RunN Try.prog (.int .u8) (V (Instr.loadAt 5 (.pointer (some t32)))) w fun t33 w =>
        RunN Try.prog .addr (V (Instr.indexAt 30 (.slice t9.a t9.len t9.cap) (.int .i64 s1.1))) w fun t34 w =>
        RunU Try.prog (U (Instr.storeAt 5 (.pointer (some t34)) (.int .u8 t33))) w fun w =>
        k2 (IntKind.i64.wrap (s1.1 + 1), ()) w)
        (LoopX (α := Int × Unit) (fun s5 w k6 =>
          NilP p0 fun t37 =>
          RunN Try.prog .sl (V (Instr.loadAt 83 (.pointer (some (t37.add 2))))) w fun t39 w =>
          SplitB (decide (s5.1 < (t39.len : Int)))
            (JoinX (α := Unit) (fun j8 w =>
              k6 (IntKind.i64.wrap (s5.1 + 1), ()) w)
            fun k7 =>
              NilP p0 fun t45 =>
              RunN Try.prog .sl (V (Instr.loadAt 83 (.pointer (some (t45.add 2))))) w fun t47 w =>
              RunN Try.prog .addr (V (Instr.indexAt 83 (.slice t47.a t47.len t47.cap) (.int .i64 s5.1))) w fun t49 w =>
              RunN Try.prog (.int .i64) (V (Instr.loadAt 3 (.pointer (some (t49.add 0))))) w fun t51 w =>
              SplitB (t51 == p1)
                (LoopX (α := Int × Unit) (fun s9 w k10 =>
                  NilP p0 fun t56 =>
                  RunN Try.prog .sl (V (Instr.loadAt 83 (.pointer (some (t56.add 2))))) w fun t58 w =>
                  RunN Try.prog .addr (V (Instr.indexAt 83 (.slice t58.a t58.len t58.cap) (.int .i64 s5.1))) w fun t60 w =>
                  RunN Try.prog (.int .i64) (V (Instr.loadAt 3 (.pointer (some (t60.add 1))))) w fun t62 w =>
                  SplitB (decide (s9.1 < t62))
                    (NilP p0 fun t69 =>
                    RunN Try.prog .sl (V (Instr.loadAt 83 (.pointer (some (t69.add 2))))) w fun t71 w =>
                    RunN Try.prog .addr (V (Instr.indexAt 83 (.slice t71.a t71.len t71.cap) (.int .i64 s5.1))) w fun t73 w =>
                    RunN Try.prog .sl (V (Instr.loadAt 30 (.pointer (some (t73.add 2))))) w fun t75 w =>
                    RunN Try.prog .addr (V (Instr.indexAt 30 (.slice t75.a t75.len t75.cap) (.int .i64 s9.1))) w fun t77 w =>
                    RunN Try.prog (.int .u8) (V (Instr.loadAt 5 (.pointer (some t77)))) w fun t78 w =>
                    RunN Try.prog .addr (V (Instr.indexAt 30 (.slice t9.a t9.len t9.cap) (.int .i64 s9.1))) w fun t79 w =>
                    RunU Try.prog (U (Instr.storeAt 5 (.pointer (some t79)) (.int .u8 t78))) w fun w =>
                    k10 (IntKind.i64.wrap (s9.1 + 1), ()) w)
                    (k7 () w))
                (0, ()) w)
                (k7 () w))
            (K t9 w))
        (0, ()) w))
    fun k3 =>
      SplitB (decide (s1.1 < 512))
        (NilP p0 fun t14 =>
        RunN Try.prog .sl (V (Instr.loadAt 30 (.pointer (some (t14.add 1))))) w fun t16 w =>
        k3 (decide ((t16.len : Int) > 0), ()) w)
        (k3 (false, ()) w))
  (0, ()) w
theorem T57.calls {p0 : Option Addr} {p1 : Int} {w : World} {K : Sl → World → Prop} (h : T57 p0 p1 w K) : CallK Try.prog .sl 57 #[.pointer p0, .int .i64 p1] w K :=
  bodyZ_sound (κ := kappa) (ann := [(4, [(6, (.int .i64))]), (6, [(19, .bool)]), (10, [(7, (.int .i64))]), (13, []), (16, [(8, (.int .i64))])]) (fn := Try.f57) Try.func57 rfl (by kernel_rfl) (cast (show T57 p0 p1 w K = bodyZ Try.prog kappa [(4, [(6, (.int .i64))]), (6, [(19, .bool)]), (10, [(7, (.int .i64))]), (13, []), (16, [(8, (.int .i64))])] .sl Try.f57 [.pointer p0, .int .i64 p1] w K by kernel_rfl) h)

/-- (*sluice/sluiceref20.Disk).Trace -/
def T60 (p0 : Option Addr) (w : World) (K : Sl → World → Prop) : Prop :=
  NilP p0 fun t6 =>
  RunN Try.prog .sl (V (Instr.loadAt 83 (.pointer (some (t6.add 2))))) w fun t8 w =>
  RunN Try.prog (.int .i64) (V (Builtin.max_ #[3, 3] 3 #[.int .i64 0, .int .i64 (IntKind.i64.wrap ((t8.len : Int) - 64))])) w fun t11 w =>
  LoopX (α := Sl × Int × Unit) (fun s1 w k2 =>
    NilP p0 fun t14 =>
    RunN Try.prog .sl (V (Instr.loadAt 83 (.pointer (some (t14.add 2))))) w fun t16 w =>
    SplitB (decide (s1.2.1 < (t16.len : Int)))
      (NilP p0 fun t23 =>
      RunN Try.prog .sl (V (Instr.loadAt 83 (.pointer (some (t23.add 2))))) w fun t25 w =>
      RunN Try.prog .addr (V (Instr.indexAt 83 (.slice t25.a t25.len t25.cap) (.int .i64 s1.2.1))) w fun t27 w =>
      RunN Try.prog (.int .i64) (V (Instr.loadAt 3 (.pointer (some (t27.add 0))))) w fun t29 w =>
      RunN Try.prog .sl (V (Instr.buildSlice 44 1 #[(0, .int .i64 t29)])) w fun t30 w =>
      RunN Try.prog .sl (V (Builtin.append_ #[44, 44] 44 #[.slice s1.1.a s1.1.len s1.1.cap, .slice t30.a t30.len t30.cap])) w fun t31 w =>
      k2 (t31, IntKind.i64.wrap (s1.2.1 + 1), ()) w)
      (K s1.1 w))
  ((⟨none, 0, 0⟩ : Sl), t11, ()) w
theorem T60.calls {p0 : Option Addr} {w : World} {K : Sl → World → Prop} (h : T60 p0 w K) : CallK Try.prog .sl 60 #[.pointer p0] w K :=
  bodyZ_sound (κ := kappa) (ann := [(4, [(3, .sl), (4, (.int .i64))])]) (fn := Try.f60) Try.func60 rfl (by kernel_rfl) (cast (show T60 p0 w K = bodyZ Try.prog kappa [(4, [(3, .sl), (4, (.int .i64))])] .sl Try.f60 [.pointer p0] w K by kernel_rfl) h)

end Go.Proofs.Ytpdaoahamgegoaa
