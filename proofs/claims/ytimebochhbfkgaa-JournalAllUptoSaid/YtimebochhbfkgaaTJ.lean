import Derived.Test.YtimebochhbfkgaaProg
import Derived.Test.YtimebochhbfkgaaFwH
namespace Go.Proofs.Ytimebochhbfkgaa
open Go Go.Fw Go.Proofs
set_option maxRecDepth 100000
set_option maxHeartbeats 4000000
set_option linter.unusedVariables false
def kappa : List Kd := [(.tup .nilT), .raw, (.int .i64), (.int .i64), .bool, (.int .u8), (.int .u8), (.agg (.cons (.int .i64) (.cons (.int .i64) (.cons .bool (.cons (.int .u8) .nilT))))), (.agg (.cons (.int .i64) (.cons (.int .i64) (.cons .bool (.cons (.int .u8) .nilT))))), .str, .str, .str, (.int .u64), (.agg (.cons .str (.cons (.int .u64) .nilT))), (.agg (.cons .str (.cons (.int .u64) .nilT))), .ptr, .ptr, .ptr, (.agg (.cons .ptr .nilT)), (.agg (.cons .ptr .nilT)), .raw, (.int .i32), .sl, .ptr, (.agg (.cons .ptr (.cons .ptr (.cons .ptr .nilT)))), .ptr, (.int .i64), (.tup (.cons .ptr (.cons (.int .i64) .nilT))), .raw, (.tup (.cons .ptr (.cons (.int .i64) .nilT))), .raw, .sl, .raw, .raw, .raw, .raw, .raw, .raw, .raw, .raw, .sl, (.tup (.cons (.int .i64) (.cons (.int .i64) (.cons .bool .nilT)))), .raw, .raw, .raw, .sl, .ptr, (.agg (.cons .ptr (.cons .sl .nilT))), (.agg (.cons .ptr (.cons .sl .nilT))), .raw, (.agg (.cons .sl (.cons (.int .i64) (.cons (.int .i64) (.cons .bool .nilT))))), (.agg (.cons .sl (.cons (.int .i64) (.cons (.int .i64) (.cons .bool .nilT))))), (.tup (.cons .sl (.cons .bool (.cons .bool .nilT)))), .raw, .raw, (.agg (.cons (.int .i64) (.cons (.int .i64) (.cons (.int .i64) .nilT)))), (.agg (.cons .sl (.cons .sl (.cons .sl .nilT)))), .raw, .raw, .raw, .ptr, .raw, .ptr, (.agg (.cons .ptr (.cons .ptr (.cons .sl (.cons .bool (.cons (.int .i64) (.cons (.int .i64) (.cons .sl (.cons (.int .i64) (.cons .bool (.cons .ptr .nilT))))))))))), (.agg (.cons .ptr (.cons .ptr (.cons .sl (.cons .bool (.cons (.int .i64) (.cons (.int .i64) (.cons .sl (.cons (.int .i64) (.cons .bool (.cons .ptr .nilT))))))))))), .raw, .raw, .raw, (.agg (.cons (.int .i64) (.cons (.int .i64) (.cons (.int .i64) (.cons .sl .nilT))))), (.agg (.cons (.int .i64) (.cons (.int .i64) (.cons (.int .i64) (.cons .sl .nilT))))), .raw, .sl, .raw, .raw, .sl, .raw, .raw, .raw, (.agg (.cons .ptr (.cons .sl (.cons (.int .i64) (.cons .bool .nilT))))), (.agg (.cons .ptr (.cons .sl (.cons (.int .i64) (.cons .bool .nilT))))), (.tup (.cons .sl (.cons .bool .nilT))), .raw, .raw, .raw, .raw, (.tup (.cons .sl (.cons (.int .i64) .nilT))), .raw, .raw, (.agg (.cons .bool (.cons .sl (.cons .sl (.cons .sl .nilT))))), (.agg (.cons .bool (.cons .sl (.cons .sl (.cons .sl .nilT))))), .raw, .raw, .raw, (.tup (.cons .sl (.cons (.int .i64) .nilT))), .raw, (.int .u64), .raw, .ptr, .raw, .raw, .raw, .raw, .raw, .raw, .raw, .raw, (.agg (.cons .ptr (.cons .ptr (.cons .ptr (.cons .str .nilT))))), (.agg (.cons .ptr (.cons .ptr (.cons .ptr (.cons .str .nilT))))), (.agg .nilT), (.agg .nilT), (.agg .nilT), (.int .u32), (.int .u8), (.int .u8), .raw, .ptr, (.int .i32), (.int .i32), (.agg (.cons (.int .u64) (.cons (.int .u64) (.cons (.int .u32) (.cons (.int .u8) (.cons (.int .u8) (.cons (.int .u8) (.cons (.int .u8) (.cons .raw (.cons .ptr (.cons (.int .i32) (.cons (.int .i32) .nilT)))))))))))), (.agg (.cons (.int .u64) (.cons (.int .u64) (.cons (.int .u32) (.cons (.int .u8) (.cons (.int .u8) (.cons (.int .u8) (.cons (.int .u8) (.cons .raw (.cons .ptr (.cons (.int .i32) (.cons (.int .i32) .nilT))))))))))))]

/-- sluice/disk.New -/
def T10 (p0 : Int) (w : World) (K : (Option Addr × Int × Unit) → World → Prop) : Prop :=
  JoinX (α := Bool × Unit) (fun j2 w =>
    SplitB j2.1
      (K (none, 1, ()) w)
      (RunN Try.prog .sl (V (Instr.makeSlice 74 (.int .i64 p0) (.int .i64 p0))) w fun t11 w =>
      RunN Try.prog .raw (V (Instr.build 77 #[(0, .slice t11.a t11.len t11.cap)])) w fun t12 w =>
      RunN Try.prog .addr (V (Instr.box 77 (t12))) w fun t13 w =>
      K (some t13, 0, ()) w))
  fun k1 =>
    SplitB (decide (p0 < 1))
      (k1 (true, ()) w)
      (k1 (decide (p0 > 65536), ()) w)
theorem T10.calls {p0 : Int} {w : World} {K : (Option Addr × Int × Unit) → World → Prop} (h : T10 p0 w K) : CallK Try.prog (.tup (.cons .ptr (.cons (.int .i64) .nilT))) 10 #[.int .i64 p0] w K :=
  bodyZ_sound (κ := kappa) (ann := [(2, [(9, .bool)])]) (fn := Try.f10) Try.func10 rfl (by kernel_rfl) (cast (show T10 p0 w K = bodyZ Try.prog kappa [(2, [(9, .bool)])] (.tup (.cons .ptr (.cons (.int .i64) .nilT))) Try.f10 [.int .i64 p0] w K by kernel_rfl) h)

/-- sluice/journal.Open -/
def T11 (p0 : Option Addr) (w : World) (K : (Option Addr × Int × Unit) → World → Prop) : Prop :=
  RunN Try.prog .bool (V (do eqGuard .eql 25 (.tmp 8) (.const (.pointer none)) (.pointer p0) (.pointer none); binOp .eql 25 (.pointer p0) (.pointer none))) w fun t9 w =>
  SplitB t9
    (K (none, 1, ()) w)
    (CallK Try.prog .bool 33 #[.pointer p0] w fun t12 w =>
    SplitB (!t12)
      (K (none, 200, ()) w)
      (RunN Try.prog .addr (V (Instr.box 79 (.agg #[.pointer p0, .slice none 0 0, .int .i64 0, .bool false]))) w fun t16 w =>
      LoopX (α := Unit) (fun s1 w k2 =>
        CallK Try.prog (.tup (.cons .sl (.cons .bool .nilT))) 34 #[.pointer (some t16)] w fun t19 w =>
        SplitB (!t19.2.1)
          (K (some t16, 0, ()) w)
          (RunN Try.prog .sl (V (Instr.loadAt 22 (.pointer (some (t16.add 1))))) w fun t29 w =>
          RunN Try.prog .sl (V (Instr.buildSlice 22 1 #[(0, .slice t19.1.a t19.1.len t19.1.cap)])) w fun t31 w =>
          RunN Try.prog .sl (V (Builtin.append_ #[22, 22] 22 #[.slice t29.a t29.len t29.cap, .slice t31.a t31.len t31.cap])) w fun t32 w =>
          RunU Try.prog (U (Instr.storeAt 22 (.pointer (some (t16.add 1))) (.slice t32.a t32.len t32.cap))) w fun w =>
          ReadN Try.prog (.int .i64) (V (Instr.loadAt 3 (.pointer (some (t16.add 2))))) w.drew fun t38 =>
          CallK Try.prog (.int .i64) 35 #[.int .i64 (t19.1.len : Int)] w.drew fun t41 w =>
          StillV Try.prog (V (Instr.loadAt 3 (.pointer (some (t16.add 2))))) (.int .i64 t38) w ∧
          RunU Try.prog (U (Instr.storeAt 3 (.pointer (some (t16.add 2))) (.int .i64 (IntKind.i64.wrap (t38 + t41))))) w fun w =>
          k2 () w))
      (()) w))
theorem T11.calls {p0 : Option Addr} {w : World} {K : (Option Addr × Int × Unit) → World → Prop} (h : T11 p0 w K) : CallK Try.prog (.tup (.cons .ptr (.cons (.int .i64) .nilT))) 11 #[.pointer p0] w K :=
  bodyZ_sound (κ := kappa) (ann := [(7, [])]) (fn := Try.f11) Try.func11 rfl (by kernel_rfl) (cast (show T11 p0 w K = bodyZ Try.prog kappa [(7, [])] (.tup (.cons .ptr (.cons (.int .i64) .nilT))) Try.f11 [.pointer p0] w K by kernel_rfl) h)

/-- sluice/sluicelaw21.lent -/
def T12 (p0 : Sl) (w : World) (K : Sl → World → Prop) : Prop :=
  RunN Try.prog .sl (V (Builtin.append_ #[31, 31] 31 #[.slice none 0 0, .slice p0.a p0.len p0.cap])) w fun t5 w =>
  RunN Try.prog .sl (V (Instr.buildSlice 31 2 #[(0, .int .u8 165), (1, .int .u8 90)])) w fun t7 w =>
  RunN Try.prog .sl (V (Builtin.append_ #[31, 31] 31 #[.slice t5.a t5.len t5.cap, .slice t7.a t7.len t7.cap])) w fun t8 w =>
  K t8 w
theorem T12.calls {p0 : Sl} {w : World} {K : Sl → World → Prop} (h : T12 p0 w K) : CallK Try.prog .sl 12 #[.slice p0.a p0.len p0.cap] w K :=
  bodyZ_sound (κ := kappa) (ann := []) (fn := Try.f12) Try.func12 rfl (by kernel_rfl) (cast (show T12 p0 w K = bodyZ Try.prog kappa [] .sl Try.f12 [.slice p0.a p0.len p0.cap] w K by kernel_rfl) h)

/-- (*sluice/journal.Journal).Append -/
def T13 (p0 : Option Addr) (p1 : Sl) (w : World) (K : Int → World → Prop) : Prop :=
  RunN Try.prog .addr (V (Instr.box 23 (.pointer p0))) w fun t2 w =>
  RunN Try.prog .addr (V (Instr.alloc 26 true (.tuple #[]))) w fun t4 w =>
  true = true ∧ true = true ∧
  JoinX (α := Bool × Unit) (fun j2 w =>
    SplitB j2.1
      (RunU Try.prog (U (Instr.storeAt 26 (.pointer (some t4)) (.int .i64 200))) w fun w =>
      CallKD Try.prog 36 #[.pointer (some t4), .pointer (some t2)] w fun w =>
      ReadN Try.prog (.int .i64) (V (Instr.loadAt 26 (.pointer (some t4)))) w fun r0 =>
      K r0 w)
      (SplitB (decide ((p1.len : Int) > 8192))
        (RunU Try.prog (U (Instr.storeAt 26 (.pointer (some t4)) (.int .i64 2))) w fun w =>
        CallKD Try.prog 36 #[.pointer (some t4), .pointer (some t2)] w fun w =>
        ReadN Try.prog (.int .i64) (V (Instr.loadAt 26 (.pointer (some t4)))) w fun r0 =>
        K r0 w)
        (ReadN Try.prog .ptr (V (Instr.loadAt 23 (.pointer (some t2)))) w.drew fun t30 =>
        CallK Try.prog (.int .i64) 35 #[.int .i64 (p1.len : Int)] w.drew fun t29 w =>
        StillV Try.prog (V (Instr.loadAt 23 (.pointer (some t2)))) (.pointer t30) w ∧
        CallK Try.prog (.int .i64) 15 #[.pointer t30] w fun t31 w =>
        SplitB (decide (t29 > t31))
          (RunU Try.prog (U (Instr.storeAt 26 (.pointer (some t4)) (.int .i64 211))) w fun w =>
          CallKD Try.prog 36 #[.pointer (some t4), .pointer (some t2)] w fun w =>
          ReadN Try.prog (.int .i64) (V (Instr.loadAt 26 (.pointer (some t4)))) w fun r0 =>
          K r0 w)
          (CallK Try.prog (.int .i64) 35 #[.int .i64 (p1.len : Int)] w fun t35 w =>
          LoopX (α := Int × Unit) (fun s3 w k4 =>
            SplitB (decide (s3.1 < t35))
              (RunN Try.prog .ptr (V (Instr.loadAt 23 (.pointer (some t2)))) w fun t39 w =>
              NilP t39 fun t40 =>
              RunN Try.prog .sl (V (Instr.loadAt 22 (.pointer (some (t40.add 1))))) w fun t42 w =>
              CallK Try.prog .sl 37 #[.int .i64 (IntKind.i64.wrap ((t42.len : Int) + 1)), .int .i64 s3.1, .int .i64 (p1.len : Int)] w fun t48 w =>
              RunN Try.prog .sl (V (Instr.makeSlice 31 (.int .i64 512) (.int .i64 512))) w fun t49 w =>
              RunN Try.prog (.int .i64) (V (Builtin.copy_ #[31, 31] 3 #[.slice t49.a t49.len t49.cap, .slice t48.a t48.len t48.cap])) w fun t52 w =>
              ReadN Try.prog .sl (V (Instr.sliceAt 31 (.slice t49.a t49.len t49.cap) (some (.int .i64 8)) (some (.int .i64 504)) none)) w.drew fun t54 =>
              ReadN Try.prog .sl (V (Instr.sliceAt 31 (.slice p1.a p1.len p1.cap) (some (.int .i64 (IntKind.i64.wrap (s3.1 * 496)))) none none)) w.drew fun t58 =>
              RunN Try.prog (.int .i64) (V (Builtin.copy_ #[31, 31] 3 #[.slice t54.a t54.len t54.cap, .slice t58.a t58.len t58.cap])) w.drew fun t59 w =>
              RunN Try.prog .sl (V (Instr.sliceAt 31 (.slice t49.a t49.len t49.cap) (some (.int .i64 504)) none none)) w fun t61 w =>
              RunN Try.prog (.int .i64) (V (Builtin.copy_ #[31, 31] 3 #[.slice t61.a t61.len t61.cap, .slice t48.a t48.len t48.cap])) w fun t63 w =>
              ReadN Try.prog .ptr (V (Instr.loadAt 23 (.pointer (some t2)))) w.drew fun t64 =>
              NilP t64 fun t65 =>
              ReadN Try.prog .ptr (V (Instr.loadAt 25 (.pointer (some (t65.add 0))))) w.drew fun t67 =>
              ReadN Try.prog .ptr (V (Instr.loadAt 23 (.pointer (some t2)))) w.drew fun t68 =>
              NilP t68 fun t69 =>
              ReadN Try.prog (.int .i64) (V (Instr.loadAt 3 (.pointer (some (t69.add 2))))) w.drew fun t71 =>
              CallK Try.prog (.int .i64) 38 #[.pointer t67, .int .i64 (IntKind.i64.wrap (t71 + s3.1)), .slice t49.a t49.len t49.cap] w.drew fun t75 w =>
              SplitB (t75 != 0)
                (RunU Try.prog (U (Instr.storeAt 26 (.pointer (some t4)) (.int .i64 200))) w fun w =>
                CallKD Try.prog 36 #[.pointer (some t4), .pointer (some t2)] w fun w =>
                ReadN Try.prog (.int .i64) (V (Instr.loadAt 26 (.pointer (some t4)))) w fun r0 =>
                K r0 w)
                (k4 (IntKind.i64.wrap (s3.1 + 1), ()) w))
              (ReadN Try.prog .ptr (V (Instr.loadAt 23 (.pointer (some t2)))) w.drew fun t78 =>
              ReadN Try.prog .ptr (V (Instr.loadAt 23 (.pointer (some t2)))) w.drew fun t79 =>
              NilP t79 fun t80 =>
              ReadN Try.prog .sl (V (Instr.loadAt 22 (.pointer (some (t80.add 1))))) w.drew fun t82 =>
              RunN Try.prog .sl (V (Builtin.append_ #[31, 31] 31 #[.slice none 0 0, .slice p1.a p1.len p1.cap])) w.drew fun t84 w =>
              StillV Try.prog (V (Instr.loadAt 22 (.pointer (some (t80.add 1))))) (.slice t82.a t82.len t82.cap) w ∧
              StillV Try.prog (V (Instr.loadAt 23 (.pointer (some t2)))) (.pointer t79) w ∧
              StillV Try.prog (V (Instr.loadAt 23 (.pointer (some t2)))) (.pointer t78) w ∧
              RunN Try.prog .sl (V (Instr.buildSlice 22 1 #[(0, .slice t84.a t84.len t84.cap)])) w fun t85 w =>
              StillV Try.prog (V (Instr.loadAt 22 (.pointer (some (t80.add 1))))) (.slice t82.a t82.len t82.cap) w ∧
              StillV Try.prog (V (Instr.loadAt 23 (.pointer (some t2)))) (.pointer t79) w ∧
              StillV Try.prog (V (Instr.loadAt 23 (.pointer (some t2)))) (.pointer t78) w ∧
              RunN Try.prog .sl (V (Builtin.append_ #[22, 22] 22 #[.slice t82.a t82.len t82.cap, .slice t85.a t85.len t85.cap])) w fun t86 w =>
              StillV Try.prog (V (Instr.loadAt 23 (.pointer (some t2)))) (.pointer t78) w ∧
              NilP t78 fun t87 =>
              RunU Try.prog (U (Instr.storeAt 22 (.pointer (some (t87.add 1))) (.slice t86.a t86.len t86.cap))) w fun w =>
              ReadN Try.prog .ptr (V (Instr.loadAt 23 (.pointer (some t2)))) w.drew fun t89 =>
              NilP t89 fun t90 =>
              ReadN Try.prog (.int .i64) (V (Instr.loadAt 3 (.pointer (some (t90.add 2))))) w.drew fun t92 =>
              CallK Try.prog (.int .i64) 35 #[.int .i64 (p1.len : Int)] w.drew fun t95 w =>
              StillV Try.prog (V (Instr.loadAt 3 (.pointer (some (t90.add 2))))) (.int .i64 t92) w ∧
              StillV Try.prog (V (Instr.loadAt 23 (.pointer (some t2)))) (.pointer t89) w ∧
              NilP t89 fun t97 =>
              RunU Try.prog (U (Instr.storeAt 3 (.pointer (some (t97.add 2))) (.int .i64 (IntKind.i64.wrap (t92 + t95))))) w fun w =>
              RunU Try.prog (U (Instr.storeAt 26 (.pointer (some t4)) (.int .i64 0))) w fun w =>
              CallKD Try.prog 36 #[.pointer (some t4), .pointer (some t2)] w fun w =>
              ReadN Try.prog (.int .i64) (V (Instr.loadAt 26 (.pointer (some t4)))) w fun r0 =>
              K r0 w))
          (0, ()) w))))
  fun k1 =>
    RunN Try.prog .ptr (V (Instr.loadAt 23 (.pointer (some t2)))) w fun t10 w =>
    NilP t10 fun t11 =>
    RunN Try.prog .bool (V (Instr.loadAt 4 (.pointer (some (t11.add 3))))) w fun t13 w =>
    SplitB t13
      (k1 (true, ()) w)
      (RunN Try.prog .ptr (V (Instr.loadAt 23 (.pointer (some t2)))) w fun t15 w =>
      NilP t15 fun t16 =>
      RunN Try.prog .ptr (V (Instr.loadAt 25 (.pointer (some (t16.add 0))))) w fun t18 w =>
      CallK Try.prog .bool 33 #[.pointer t18] w fun t19 w =>
      k1 (!t19, ()) w)
theorem T13.calls {p0 : Option Addr} {p1 : Sl} {w : World} {K : Int → World → Prop} (h : T13 p0 p1 w K) : CallK Try.prog (.int .i64) 13 #[.pointer p0, .slice p1.a p1.len p1.cap] w K :=
  bodyD_sound (κ := kappa) (ann := [(3, [(9, .bool)]), (11, [(36, (.int .i64))])]) (fn := Try.f13) (g := 36) (gn := Try.f36) (i0 := dId0 Try.f13) (i1 := dId1 Try.f13) (n1 := 2) (ops0 := dOps0 Try.f13) (o1 := dO Try.f13 0) (o2 := dO Try.f13 1) (t := 8) (caps := [(.tmp 4), (.tmp 2)]) (rest := dRest Try.f13) (cg := bodyOf Try.f36) Try.func13 Try.func36 (by kernel_rfl) (by kernel_rfl) (by kernel_rfl) (by kernel_rfl) (by kernel_rfl) (by kernel_rfl) (by kernel_rfl) (by kernel_rfl) (by kernel_rfl) (by kernel_rfl) (cast (show T13 p0 p1 w K = bodyD Try.prog kappa [(3, [(9, .bool)]), (11, [(36, (.int .i64))])] (.int .i64) Try.f13 (dId0 Try.f13) (dOps0 Try.f13) 8 36 [(.tmp 4), (.tmp 2)] (dRest Try.f13) 2 [.pointer p0, .slice p1.a p1.len p1.cap] w K by kernel_rfl) h)

/-- sluice/sluicelaw21.back -/
def T14 (p0 : Sl) (p1 : Sl) (w : World) (K : Bool → World → Prop) : Prop :=
  JoinX (α := Bool × Unit) (fun j2 w =>
    LoopX (α := Int × Unit) (fun s3 w k4 =>
      SplitB (decide (s3.1 < (p0.len : Int)))
        (RunN Try.prog .addr (V (Instr.indexAt 31 (.slice p0.a p0.len p0.cap) (.int .i64 s3.1))) w fun t38 w =>
        RunU Try.prog (U (Instr.storeAt 5 (.pointer (some t38)) (.int .u8 85))) w fun w =>
        k4 (IntKind.i64.wrap (s3.1 + 1), ()) w)
        (K j2.1 w))
    (0, ()) w)
  fun k1 =>
    RunN Try.prog .sl (V (Instr.sliceAt 31 (.slice p0.a p0.len p0.cap) none (some (.int .i64 (p1.len : Int))) none)) w fun t12 w =>
    CallK Try.prog .bool 28 #[.slice t12.a t12.len t12.cap, .slice p1.a p1.len p1.cap] w fun t14 w =>
    SplitB t14
      (RunN Try.prog .addr (V (Instr.indexAt 31 (.slice p0.a p0.len p0.cap) (.int .i64 (p1.len : Int)))) w fun t18 w =>
      RunN Try.prog (.int .u8) (V (Instr.loadAt 5 (.pointer (some t18)))) w fun t19 w =>
      SplitB (t19 == 165)
        (RunN Try.prog .addr (V (Instr.indexAt 31 (.slice p0.a p0.len p0.cap) (.int .i64 (IntKind.i64.wrap ((p1.len : Int) + 1))))) w fun t26 w =>
        RunN Try.prog (.int .u8) (V (Instr.loadAt 5 (.pointer (some t26)))) w fun t27 w =>
        k1 (t27 == 90, ()) w)
        (k1 (false, ()) w))
      (k1 (false, ()) w)
theorem T14.calls {p0 : Sl} {p1 : Sl} {w : World} {K : Bool → World → Prop} (h : T14 p0 p1 w K) : CallK Try.prog .bool 14 #[.slice p0.a p0.len p0.cap, .slice p1.a p1.len p1.cap] w K :=
  bodyZ_sound (κ := kappa) (ann := [(2, [(6, .bool)]), (5, [(7, (.int .i64))])]) (fn := Try.f14) Try.func14 rfl (by kernel_rfl) (cast (show T14 p0 p1 w K = bodyZ Try.prog kappa [(2, [(6, .bool)]), (5, [(7, (.int .i64))])] .bool Try.f14 [.slice p0.a p0.len p0.cap, .slice p1.a p1.len p1.cap] w K by kernel_rfl) h)

/-- (*sluice/journal.Journal).Room -/
def T15 (p0 : Option Addr) (w : World) (K : Int → World → Prop) : Prop :=
  NilP p0 fun t4 =>
  RunN Try.prog .bool (V (Instr.loadAt 4 (.pointer (some (t4.add 3))))) w fun t6 w =>
  SplitB t6
    (K 0 w)
    (NilP p0 fun t8 =>
    ReadN Try.prog .ptr (V (Instr.loadAt 25 (.pointer (some (t8.add 0))))) w.drew fun t10 =>
    NilP p0 fun t13 =>
    ReadN Try.prog (.int .i64) (V (Instr.loadAt 3 (.pointer (some (t13.add 2))))) w.drew fun t15 =>
    CallK Try.prog (.int .i64) 39 #[.pointer t10] w.drew fun t11 w =>
    StillV Try.prog (V (Instr.loadAt 3 (.pointer (some (t13.add 2))))) (.int .i64 t15) w ∧
    K (IntKind.i64.wrap (t11 - t15)) w)
theorem T15.calls {p0 : Option Addr} {w : World} {K : Int → World → Prop} (h : T15 p0 w K) : CallK Try.prog (.int .i64) 15 #[.pointer p0] w K :=
  bodyZ_sound (κ := kappa) (ann := []) (fn := Try.f15) Try.func15 rfl (by kernel_rfl) (cast (show T15 p0 w K = bodyZ Try.prog kappa [] (.int .i64) Try.f15 [.pointer p0] w K by kernel_rfl) h)

/-- sluice/sluicelaw21.able -/
def T16  (w : World) (K : Bool → World → Prop) : Prop :=
  CallK Try.prog (.tup (.cons .ptr (.cons (.int .i64) .nilT))) 10 #[.int .i64 4] w fun t10 w =>
  JoinX (α := Bool × Unit) (fun j2 w =>
    SplitB j2.1
      (K false w)
      (CallK Try.prog (.tup (.cons .ptr (.cons (.int .i64) .nilT))) 11 #[.pointer t10.1] w fun t21 w =>
      JoinX (α := Bool × Unit) (fun j4 w =>
        SplitB j4.1
          (K false w)
          (CallK Try.prog (.tup (.cons .sl (.cons (.int .i64) .nilT))) 41 #[.pointer t21.1, .int .i64 0] w fun t49 w =>
          CallK Try.prog (.tup (.cons .sl (.cons (.int .i64) .nilT))) 42 #[.pointer t10.1, .int .i64 0] w fun t54 w =>
          SplitB (t49.2.1 == 0)
            (SplitB (t54.2.1 == 0)
              (RunN Try.prog .sl (V (Instr.buildSlice 31 2 #[(0, .int .u8 97), (1, .int .u8 98)])) w fun t65 w =>
              RunN Try.prog .sl (V (convert 31 31 (.slice t65.a t65.len t65.cap))) w fun t66 w =>
              CallK Try.prog .bool 28 #[.slice t49.1.a t49.1.len t49.1.cap, .slice t66.a t66.len t66.cap] w fun t67 w =>
              SplitB t67
                (CallK Try.prog (.int .i64) 40 #[.pointer t21.1] w fun t71 w =>
                SplitB (t71 == 1)
                  (SplitB ((t54.1.len : Int) == 512)
                    (RunN Try.prog .addr (V (Instr.indexAt 31 (.slice t54.1.a t54.1.len t54.1.cap) (.int .i64 0))) w fun t81 w =>
                    RunN Try.prog (.int .u8) (V (Instr.loadAt 5 (.pointer (some t81)))) w fun t82 w =>
                    SplitB (t82 == 1)
                      (RunN Try.prog .addr (V (Instr.indexAt 31 (.slice t54.1.a t54.1.len t54.1.cap) (.int .i64 511))) w fun t87 w =>
                      RunN Try.prog (.int .u8) (V (Instr.loadAt 5 (.pointer (some t87)))) w fun t88 w =>
                      SplitB (t88 == 2)
                        (RunN Try.prog .addr (V (Instr.indexAt 31 (.slice t54.1.a t54.1.len t54.1.cap) (.int .i64 8))) w fun t93 w =>
                        RunN Try.prog (.int .u8) (V (Instr.loadAt 5 (.pointer (some t93)))) w fun t94 w =>
                        K (t94 == 97) w)
                        (K false w))
                      (K false w))
                    (K false w))
                  (K false w))
                (K false w))
              (K false w))
            (K false w)))
      fun k3 =>
        RunN Try.prog .bool (V (do eqGuard .eql 23 (.tmp 24) (.const (.pointer none)) (.pointer t21.1) (.pointer none); binOp .eql 23 (.pointer t21.1) (.pointer none))) w fun t25 w =>
        SplitB t25
          (k3 (true, ()) w)
          (SplitB (t21.2.1 != 0)
            (k3 (true, ()) w)
            (CallK Try.prog (.int .i64) 40 #[.pointer t21.1] w fun t32 w =>
            SplitB (t32 != 0)
              (k3 (true, ()) w)
              (CallK Try.prog (.int .i64) 15 #[.pointer t21.1] w fun t37 w =>
              SplitB (t37 != 4)
                (k3 (true, ()) w)
                (RunN Try.prog .sl (V (Instr.buildSlice 31 2 #[(0, .int .u8 97), (1, .int .u8 98)])) w fun t42 w =>
                RunN Try.prog .sl (V (convert 31 31 (.slice t42.a t42.len t42.cap))) w fun t43 w =>
                CallK Try.prog (.int .i64) 13 #[.pointer t21.1, .slice t43.a t43.len t43.cap] w fun t44 w =>
                k3 (t44 != 0, ()) w))))))
  fun k1 =>
    RunN Try.prog .bool (V (do eqGuard .eql 25 (.tmp 13) (.const (.pointer none)) (.pointer t10.1) (.pointer none); binOp .eql 25 (.pointer t10.1) (.pointer none))) w fun t14 w =>
    SplitB t14
      (k1 (true, ()) w)
      (k1 (t10.2.1 != 0, ()) w)
theorem T16.calls  {w : World} {K : Bool → World → Prop} (h : T16  w K) : CallK Try.prog .bool 16 #[] w K :=
  bodyZ_sound (κ := kappa) (ann := [(3, [(18, .bool)]), (7, [(46, .bool)])]) (fn := Try.f16) Try.func16 rfl (by kernel_rfl) (cast (show T16  w K = bodyZ Try.prog kappa [(3, [(18, .bool)]), (7, [(46, .bool)])] .bool Try.f16 [] w K by kernel_rfl) h)

/-- sluice/sluicelaw21.tells -/
def T17 (p0 : Option Addr) (p1 : Sl) (w : World) (K : Bool → World → Prop) : Prop :=
  CallK Try.prog (.int .i64) 40 #[.pointer p0] w fun t13 w =>
  SplitB (t13 != (p1.len : Int))
    (K false w)
    (LoopX (α := Int × Unit) (fun s1 w k2 =>
      SplitB (decide (s1.1 < (p1.len : Int)))
        (CallK Try.prog (.tup (.cons .sl (.cons (.int .i64) .nilT))) 41 #[.pointer p0, .int .i64 s1.1] w fun t26 w =>
        JoinX (α := Bool × Unit) (fun j4 w =>
          SplitB j4.1
            (K false w)
            (k2 (IntKind.i64.wrap (s1.1 + 1), ()) w))
        fun k3 =>
          SplitB (t26.2.1 != 0)
            (k3 (true, ()) w)
            (RunN Try.prog .addr (V (Instr.indexAt 22 (.slice p1.a p1.len p1.cap) (.int .i64 s1.1))) w fun t35 w =>
            RunN Try.prog .sl (V (Instr.loadAt 31 (.pointer (some t35)))) w fun t36 w =>
            CallK Try.prog .bool 28 #[.slice t26.1.a t26.1.len t26.1.cap, .slice t36.a t36.len t36.cap] w fun t37 w =>
            k3 (!t37, ()) w))
        (CallK Try.prog (.tup (.cons .sl (.cons (.int .i64) .nilT))) 41 #[.pointer p0, .int .i64 (p1.len : Int)] w fun t44 w =>
        CallK Try.prog (.tup (.cons .sl (.cons (.int .i64) .nilT))) 41 #[.pointer p0, .int .i64 (-1)] w fun t49 w =>
        CallK Try.prog (.int .i64) 20 #[.int .i64 t44.2.1] w fun t53 w =>
        SplitB (t53 == 1)
          (CallK Try.prog (.int .i64) 20 #[.int .i64 t49.2.1] w fun t57 w =>
          K (t57 == 1) w)
          (K false w)))
    (0, ()) w)
theorem T17.calls {p0 : Option Addr} {p1 : Sl} {w : World} {K : Bool → World → Prop} (h : T17 p0 p1 w K) : CallK Try.prog .bool 17 #[.pointer p0, .slice p1.a p1.len p1.cap] w K :=
  bodyZ_sound (κ := kappa) (ann := [(6, [(5, (.int .i64))]), (11, [(39, .bool)])]) (fn := Try.f17) Try.func17 rfl (by kernel_rfl) (cast (show T17 p0 p1 w K = bodyZ Try.prog kappa [(6, [(5, (.int .i64))]), (11, [(39, .bool)])] .bool Try.f17 [.pointer p0, .slice p1.a p1.len p1.cap] w K by kernel_rfl) h)

/-- sluice/sluicelaw21.within -/
def T18 (p0 : Int) (p1 : Int) (w : World) (K : Int → World → Prop) : Prop :=
  JoinX (α := Int × Unit) (fun j2 w =>
    RunN Try.prog (.int .i64) (V (binOp .rem 3 (.int .i64 j2.1) (.int .i64 p1))) w fun t12 w =>
    K t12 w)
  fun k1 =>
    SplitB (decide (p0 < 0))
      (k1 (IntKind.i64.wrap (0 - (IntKind.i64.wrap (p0 + 1))), ()) w)
      (k1 (p0, ()) w)
theorem T18.calls {p0 : Int} {p1 : Int} {w : World} {K : Int → World → Prop} (h : T18 p0 p1 w K) : CallK Try.prog (.int .i64) 18 #[.int .i64 p0, .int .i64 p1] w K :=
  bodyZ_sound (κ := kappa) (ann := [(1, [(0, (.int .i64))])]) (fn := Try.f18) Try.func18 rfl (by kernel_rfl) (cast (show T18 p0 p1 w K = bodyZ Try.prog kappa [(1, [(0, (.int .i64))])] (.int .i64) Try.f18 [.int .i64 p0, .int .i64 p1] w K by kernel_rfl) h)

/-- sluice/sluicelaw21.num -/
def T20 (p0 : Int) (w : World) (K : Int → World → Prop) : Prop :=
  K p0 w
theorem T20.calls {p0 : Int} {w : World} {K : Int → World → Prop} (h : T20 p0 w K) : CallK Try.prog (.int .i64) 20 #[.int .i64 p0] w K :=
  bodyZ_sound (κ := kappa) (ann := []) (fn := Try.f20) Try.func20 rfl (by kernel_rfl) (cast (show T20 p0 w K = bodyZ Try.prog kappa [] (.int .i64) Try.f20 [.int .i64 p0] w K by kernel_rfl) h)

/-- (*sluice/disk.Disk).Arm -/
def T23 (p0 : Option Addr) (p1 : Int) (p2 : Int) (w : World) (K : Unit → World → Prop) : Prop :=
  NilP p0 fun t7 =>
  RunN Try.prog .bool (V (Instr.loadAt 4 (.pointer (some (t7.add 1))))) w fun t9 w =>
  SplitB t9
    (K () w)
    (NilP p0 fun t13 =>
    RunU Try.prog (U (Instr.storeAt 4 (.pointer (some (t13.add 2))) (.bool (decide (p1 ≥ 0))))) w fun w =>
    RunN Try.prog (.int .i64) (V (Builtin.max_ #[3, 3] 3 #[.int .i64 p2, .int .i64 0])) w fun t19 w =>
    RunN Try.prog (.int .i64) (V (Builtin.min_ #[3, 3] 3 #[.int .i64 t19, .int .i64 512])) w fun t20 w =>
    NilP p0 fun t21 =>
    RunU Try.prog (U (Instr.storeAt 3 (.pointer (some (t21.add 3))) (.int .i64 p1))) w fun w =>
    NilP p0 fun t23 =>
    RunU Try.prog (U (Instr.storeAt 3 (.pointer (some (t23.add 4))) (.int .i64 t20))) w fun w =>
    K () w)
theorem T23.calls {p0 : Option Addr} {p1 : Int} {p2 : Int} {w : World} {K : Unit → World → Prop} (h : T23 p0 p1 p2 w K) : CallK Try.prog (.tup .nilT) 23 #[.pointer p0, .int .i64 p1, .int .i64 p2] w K :=
  bodyZ_sound (κ := kappa) (ann := []) (fn := Try.f23) Try.func23 rfl (by kernel_rfl) (cast (show T23 p0 p1 p2 w K = bodyZ Try.prog kappa [] (.tup .nilT) Try.f23 [.pointer p0, .int .i64 p1, .int .i64 p2] w K by kernel_rfl) h)

/-- (*sluice/disk.Disk).Writes -/
def T27 (p0 : Option Addr) (w : World) (K : Int → World → Prop) : Prop :=
  NilP p0 fun t4 =>
  RunN Try.prog (.int .i64) (V (Instr.loadAt 3 (.pointer (some (t4.add 5))))) w fun t6 w =>
  K t6 w
theorem T27.calls {p0 : Option Addr} {w : World} {K : Int → World → Prop} (h : T27 p0 w K) : CallK Try.prog (.int .i64) 27 #[.pointer p0] w K :=
  bodyZ_sound (κ := kappa) (ann := []) (fn := Try.f27) Try.func27 rfl (by kernel_rfl) (cast (show T27 p0 w K = bodyZ Try.prog kappa [] (.int .i64) Try.f27 [.pointer p0] w K by kernel_rfl) h)

/-- sluice/sluicelaw21.same -/
def T28 (p0 : Sl) (p1 : Sl) (w : World) (K : Bool → World → Prop) : Prop :=
  RunN Try.prog .str (V (convert 31 9 (.slice p0.a p0.len p0.cap))) w fun t6 w =>
  RunN Try.prog .str (V (convert 31 9 (.slice p1.a p1.len p1.cap))) w fun t8 w =>
  K (t6.toList == t8.toList) w
theorem T28.calls {p0 : Sl} {p1 : Sl} {w : World} {K : Bool → World → Prop} (h : T28 p0 p1 w K) : CallK Try.prog .bool 28 #[.slice p0.a p0.len p0.cap, .slice p1.a p1.len p1.cap] w K :=
  bodyZ_sound (κ := kappa) (ann := []) (fn := Try.f28) Try.func28 rfl (by kernel_rfl) (cast (show T28 p0 p1 w K = bodyZ Try.prog kappa [] .bool Try.f28 [.slice p0.a p0.len p0.cap, .slice p1.a p1.len p1.cap] w K by kernel_rfl) h)

/-- (*sluice/disk.Disk).Image -/
def T29 (p0 : Option Addr) (w : World) (K : Sl → World → Prop) : Prop :=
  NilP p0 fun t6 =>
  RunN Try.prog .sl (V (Instr.loadAt 74 (.pointer (some (t6.add 0))))) w fun t8 w =>
  RunN Try.prog .sl (V (Instr.makeSlice 31 (.int .i64 0) (.int .i64 (IntKind.i64.wrap ((t8.len : Int) * 512))))) w fun t11 w =>
  NilP p0 fun t13 =>
  RunN Try.prog .sl (V (Instr.loadAt 74 (.pointer (some (t13.add 0))))) w fun t15 w =>
  LoopX (α := Sl × Int × Unit) (fun s1 w k2 =>
    SplitB (decide (s1.2.1 < (t15.len : Int)))
      (CallK Try.prog .sl 46 #[.pointer p0, .int .i64 s1.2.1] w fun t23 w =>
      RunN Try.prog .sl (V (Builtin.append_ #[31, 31] 31 #[.slice s1.1.a s1.1.len s1.1.cap, .slice t23.a t23.len t23.cap])) w fun t24 w =>
      k2 (t24, IntKind.i64.wrap (s1.2.1 + 1), ()) w)
      (K s1.1 w))
  (t11, 0, ()) w
theorem T29.calls {p0 : Option Addr} {w : World} {K : Sl → World → Prop} (h : T29 p0 w K) : CallK Try.prog .sl 29 #[.pointer p0] w K :=
  bodyZ_sound (κ := kappa) (ann := [(4, [(3, .sl), (17, (.int .i64))])]) (fn := Try.f29) Try.func29 rfl (by kernel_rfl) (cast (show T29 p0 w K = bodyZ Try.prog kappa [(4, [(3, .sl), (17, (.int .i64))])] .sl Try.f29 [.pointer p0] w K by kernel_rfl) h)

/-- (*sluice/disk.Disk).IsOn -/
def T33 (p0 : Option Addr) (w : World) (K : Bool → World → Prop) : Prop :=
  NilP p0 fun t4 =>
  RunN Try.prog .bool (V (Instr.loadAt 4 (.pointer (some (t4.add 1))))) w fun t6 w =>
  K (!t6) w
theorem T33.calls {p0 : Option Addr} {w : World} {K : Bool → World → Prop} (h : T33 p0 w K) : CallK Try.prog .bool 33 #[.pointer p0] w K :=
  bodyZ_sound (κ := kappa) (ann := []) (fn := Try.f33) Try.func33 rfl (by kernel_rfl) (cast (show T33 p0 w K = bodyZ Try.prog kappa [] .bool Try.f33 [.pointer p0] w K by kernel_rfl) h)

/-- (*sluice/journal.Journal).record -/
def T34 (p0 : Option Addr) (w : World) (K : (Sl × Bool × Unit) → World → Prop) : Prop :=
  NilP p0 fun t12 =>
  RunN Try.prog .sl (V (Instr.loadAt 22 (.pointer (some (t12.add 1))))) w fun t14 w =>
  LoopX (α := Sl × Int × Int × Unit) (fun s1 w k2 =>
    CallK Try.prog (.int .i64) 35 #[.int .i64 s1.2.2.1] w fun t19 w =>
    SplitB (decide (s1.2.1 < t19))
      (NilP p0 fun t25 =>
      ReadN Try.prog .ptr (V (Instr.loadAt 25 (.pointer (some (t25.add 0))))) w.drew fun t27 =>
      NilP p0 fun t29 =>
      ReadN Try.prog (.int .i64) (V (Instr.loadAt 3 (.pointer (some (t29.add 2))))) w.drew fun t31 =>
      CallK Try.prog (.tup (.cons .sl (.cons (.int .i64) .nilT))) 42 #[.pointer t27, .int .i64 (IntKind.i64.wrap (t31 + s1.2.1))] w.drew fun t34 w =>
      SplitB (t34.2.1 != 0)
        (K ((⟨none, 0, 0⟩ : Sl), false, ()) w)
        (JoinX (α := Int × Unit) (fun j4 w =>
          CallK Try.prog .sl 37 #[.int .i64 (IntKind.i64.wrap ((t14.len : Int) + 1)), .int .i64 s1.2.1, .int .i64 j4.1] w fun t54 w =>
          JoinX (α := Bool × Unit) (fun j6 w =>
            SplitB j6.1
              (K ((⟨none, 0, 0⟩ : Sl), false, ()) w)
              (RunN Try.prog (.int .i64) (V (Builtin.min_ #[3, 3] 3 #[.int .i64 496, .int .i64 (IntKind.i64.wrap (j4.1 - (IntKind.i64.wrap (s1.2.1 * 496))))])) w fun t75 w =>
              RunN Try.prog .sl (V (Instr.sliceAt 31 (.slice t34.1.a t34.1.len t34.1.cap) (some (.int .i64 8)) (some (.int .i64 (IntKind.i64.wrap (8 + t75)))) none)) w fun t77 w =>
              RunN Try.prog .sl (V (Builtin.append_ #[31, 31] 31 #[.slice s1.1.a s1.1.len s1.1.cap, .slice t77.a t77.len t77.cap])) w fun t78 w =>
              k2 (t78, IntKind.i64.wrap (s1.2.1 + 1), j4.1, ()) w))
          fun k5 =>
            SplitB (decide (j4.1 > 8192))
              (k5 (true, ()) w)
              (CallK Try.prog .bool 53 #[.slice t34.1.a t34.1.len t34.1.cap, .slice t54.a t54.len t54.cap] w fun t60 w =>
              SplitB (!t60)
                (k5 (true, ()) w)
                (CallK Try.prog .bool 54 #[.slice t34.1.a t34.1.len t34.1.cap, .slice t54.a t54.len t54.cap] w fun t66 w =>
                k5 (!t66, ()) w)))
        fun k3 =>
          SplitB (s1.2.1 == 0)
            (ReadN Try.prog .addr (V (Instr.indexAt 31 (.slice t34.1.a t34.1.len t34.1.cap) (.int .i64 5))) w.drew fun t42 =>
            ReadN Try.prog (.int .u8) (V (Instr.loadAt 5 (.pointer (some t42)))) w.drew fun t43 =>
            ReadN Try.prog .addr (V (Instr.indexAt 31 (.slice t34.1.a t34.1.len t34.1.cap) (.int .i64 6))) w.drew fun t46 =>
            ReadN Try.prog (.int .u8) (V (Instr.loadAt 5 (.pointer (some t46)))) w.drew fun t47 =>
            k3 (bitOr .i64 (IntKind.i64.wrap t43) (IntKind.i64.wrap ((IntKind.i64.wrap t47) * 2 ^ 8)), ()) w.drew)
            (k3 (s1.2.2.1, ()) w)))
      (K (s1.1, true, ()) w))
  ((⟨none, 0, 0⟩ : Sl), 0, 0, ()) w
theorem T34.calls {p0 : Option Addr} {w : World} {K : (Sl × Bool × Unit) → World → Prop} (h : T34 p0 w K) : CallK Try.prog (.tup (.cons .sl (.cons .bool .nilT))) 34 #[.pointer p0] w K :=
  bodyZ_sound (κ := kappa) (ann := [(5, [(5, .sl), (6, (.int .i64)), (7, (.int .i64))]), (13, [(7, (.int .i64))]), (17, [(68, .bool)])]) (fn := Try.f34) Try.func34 rfl (by kernel_rfl) (cast (show T34 p0 w K = bodyZ Try.prog kappa [(5, [(5, .sl), (6, (.int .i64)), (7, (.int .i64))]), (13, [(7, (.int .i64))]), (17, [(68, .bool)])] (.tup (.cons .sl (.cons .bool .nilT))) Try.f34 [.pointer p0] w K by kernel_rfl) h)

/-- sluice/journal.sectors -/
def T35 (p0 : Int) (w : World) (K : Int → World → Prop) : Prop :=
  RunN Try.prog (.int .i64) (V (Builtin.max_ #[3, 3] 3 #[.int .i64 1, .int .i64 (IntKind.i64.wrap (Int.tdiv (IntKind.i64.wrap ((IntKind.i64.wrap (p0 + 496)) - 1)) 496))])) w fun t7 w =>
  K t7 w
theorem T35.calls {p0 : Int} {w : World} {K : Int → World → Prop} (h : T35 p0 w K) : CallK Try.prog (.int .i64) 35 #[.int .i64 p0] w K :=
  bodyZ_sound (κ := kappa) (ann := []) (fn := Try.f35) Try.func35 rfl (by kernel_rfl) (cast (show T35 p0 w K = bodyZ Try.prog kappa [] (.int .i64) Try.f35 [.int .i64 p0] w K by kernel_rfl) h)

/-- (*sluice/journal.Journal).Append$1 -/
def T36 (c0 : Addr) (c1 : Addr) (w : World) (K : Unit → World → Prop) : Prop :=
  RunN Try.prog (.int .i64) (V (Instr.loadAt 26 (.pointer (some c0)))) w fun t2 w =>
  SplitB (t2 == 200)
    (RunN Try.prog .ptr (V (Instr.loadAt 23 (.pointer (some c1)))) w fun t4 w =>
    NilP t4 fun t5 =>
    RunU Try.prog (U (Instr.storeAt 4 (.pointer (some (t5.add 3))) (.bool true))) w fun w =>
    K () w)
    (K () w)
theorem T36.calls {c0 : Addr} {c1 : Addr} {w : World} {K : Unit → World → Prop} (h : T36 c0 c1 w K) : CallK Try.prog (.tup .nilT) 36 #[.pointer (some c0), .pointer (some c1)] w K :=
  bodyZ_sound (κ := kappa) (ann := []) (fn := Try.f36) Try.func36 rfl (by kernel_rfl) (cast (show T36 c0 c1 w K = bodyZ Try.prog kappa [] (.tup .nilT) Try.f36 [.pointer (some c0), .pointer (some c1)] w K by kernel_rfl) h)
theorem T36.callsD {c0 : Addr} {c1 : Addr} {w : World} {K : World → Prop} (h : T36 c0 c1 w fun _ w => K w) : CallKD Try.prog 36 #[.pointer (some c0), .pointer (some c1)] w K :=
  bodyZ_soundD (κ := kappa) (ann := []) (fn := Try.f36) Try.func36 rfl (by kernel_rfl) (cast (show T36 c0 c1 w (fun _ w => K w) = bodyZ Try.prog kappa [] (.tup .nilT) Try.f36 [.pointer (some c0), .pointer (some c1)] w (fun _ w => K w) by kernel_rfl) h)

/-- (*sluice/disk.Disk).Write -/
def T38 (p0 : Option Addr) (p1 : Int) (p2 : Sl) (w : World) (K : Int → World → Prop) : Prop :=
  CallK Try.prog (.int .i64) 55 #[.pointer p0, .int .i64 p1] w fun t10 w =>
  SplitB (t10 != 0)
    (K t10 w)
    (SplitB ((p2.len : Int) != 512)
      (K 1 w)
      (NilP p0 fun t19 =>
      ReadN Try.prog (.int .i64) (V (Instr.loadAt 3 (.pointer (some (t19.add 5))))) w.drew fun t21 =>
      NilP p0 fun t24 =>
      ReadN Try.prog .addr (V (Instr.indexAt 75 (.pointer (some (t24.add 6))) (.int .i64 (Int.tmod t21 64)))) w.drew fun t26 =>
      RunU Try.prog (U (Instr.storeAt 3 (.pointer (some t26)) (.int .i64 p1))) w.drew fun w =>
      NilP p0 fun t28 =>
      RunN Try.prog (.int .i64) (V (Instr.loadAt 3 (.pointer (some (t28.add 5))))) w fun t30 w =>
      NilP p0 fun t32 =>
      RunU Try.prog (U (Instr.storeAt 3 (.pointer (some (t32.add 5))) (.int .i64 (IntKind.i64.wrap (t30 + 1))))) w fun w =>
      JoinX (α := Bool × Unit) (fun j2 w =>
        SplitB j2.1
          (NilP p0 fun t50 =>
          ReadN Try.prog (.int .i64) (V (Instr.loadAt 3 (.pointer (some (t50.add 4))))) w.drew fun t52 =>
          ReadN Try.prog .sl (V (Instr.sliceAt 31 (.slice p2.a p2.len p2.cap) none (some (.int .i64 t52)) none)) w.drew fun t53 =>
          CallK Try.prog .sl 56 #[.pointer p0, .int .i64 p1] w.drew fun t47 w =>
          StillV Try.prog (V (Instr.sliceAt 31 (.slice p2.a p2.len p2.cap) none (some (.int .i64 t52)) none)) (.slice t53.a t53.len t53.cap) w ∧
          StillV Try.prog (V (Instr.loadAt 3 (.pointer (some (t50.add 4))))) (.int .i64 t52) w ∧
          RunN Try.prog (.int .i64) (V (Builtin.copy_ #[31, 31] 3 #[.slice t47.a t47.len t47.cap, .slice t53.a t53.len t53.cap])) w fun t54 w =>
          CallK Try.prog (.tup .nilT) 50 #[.pointer p0] w fun t56 w =>
          K 200 w)
          (JoinX (α := Unit) (fun j4 w =>
            CallK Try.prog .sl 56 #[.pointer p0, .int .i64 p1] w fun t70 w =>
            RunN Try.prog (.int .i64) (V (Builtin.copy_ #[31, 31] 3 #[.slice t70.a t70.len t70.cap, .slice p2.a p2.len p2.cap])) w fun t72 w =>
            K 0 w)
          fun k3 =>
            NilP p0 fun t58 =>
            RunN Try.prog .bool (V (Instr.loadAt 4 (.pointer (some (t58.add 2))))) w fun t60 w =>
            SplitB t60
              (NilP p0 fun t62 =>
              RunN Try.prog (.int .i64) (V (Instr.loadAt 3 (.pointer (some (t62.add 3))))) w fun t64 w =>
              NilP p0 fun t66 =>
              RunU Try.prog (U (Instr.storeAt 3 (.pointer (some (t66.add 3))) (.int .i64 (IntKind.i64.wrap (t64 - 1))))) w fun w =>
              k3 () w)
              (k3 () w)))
      fun k1 =>
        NilP p0 fun t35 =>
        RunN Try.prog .bool (V (Instr.loadAt 4 (.pointer (some (t35.add 2))))) w fun t37 w =>
        SplitB t37
          (NilP p0 fun t40 =>
          RunN Try.prog (.int .i64) (V (Instr.loadAt 3 (.pointer (some (t40.add 3))))) w fun t42 w =>
          k1 (t42 == 0, ()) w)
          (k1 (false, ()) w)))
theorem T38.calls {p0 : Option Addr} {p1 : Int} {p2 : Sl} {w : World} {K : Int → World → Prop} (h : T38 p0 p1 p2 w K) : CallK Try.prog (.int .i64) 38 #[.pointer p0, .int .i64 p1, .slice p2.a p2.len p2.cap] w K :=
  bodyZ_sound (κ := kappa) (ann := [(11, [(44, .bool)]), (15, [])]) (fn := Try.f38) Try.func38 rfl (by kernel_rfl) (cast (show T38 p0 p1 p2 w K = bodyZ Try.prog kappa [(11, [(44, .bool)]), (15, [])] (.int .i64) Try.f38 [.pointer p0, .int .i64 p1, .slice p2.a p2.len p2.cap] w K by kernel_rfl) h)

/-- (*sluice/disk.Disk).Sectors -/
def T39 (p0 : Option Addr) (w : World) (K : Int → World → Prop) : Prop :=
  NilP p0 fun t4 =>
  RunN Try.prog .sl (V (Instr.loadAt 74 (.pointer (some (t4.add 0))))) w fun t6 w =>
  K (t6.len : Int) w
theorem T39.calls {p0 : Option Addr} {w : World} {K : Int → World → Prop} (h : T39 p0 w K) : CallK Try.prog (.int .i64) 39 #[.pointer p0] w K :=
  bodyZ_sound (κ := kappa) (ann := []) (fn := Try.f39) Try.func39 rfl (by kernel_rfl) (cast (show T39 p0 w K = bodyZ Try.prog kappa [] (.int .i64) Try.f39 [.pointer p0] w K by kernel_rfl) h)

/-- (*sluice/journal.Journal).Len -/
def T40 (p0 : Option Addr) (w : World) (K : Int → World → Prop) : Prop :=
  NilP p0 fun t4 =>
  RunN Try.prog .bool (V (Instr.loadAt 4 (.pointer (some (t4.add 3))))) w fun t6 w =>
  SplitB t6
    (K 0 w)
    (NilP p0 fun t8 =>
    RunN Try.prog .sl (V (Instr.loadAt 22 (.pointer (some (t8.add 1))))) w fun t10 w =>
    K (t10.len : Int) w)
theorem T40.calls {p0 : Option Addr} {w : World} {K : Int → World → Prop} (h : T40 p0 w K) : CallK Try.prog (.int .i64) 40 #[.pointer p0] w K :=
  bodyZ_sound (κ := kappa) (ann := []) (fn := Try.f40) Try.func40 rfl (by kernel_rfl) (cast (show T40 p0 w K = bodyZ Try.prog kappa [] (.int .i64) Try.f40 [.pointer p0] w K by kernel_rfl) h)

/-- (*sluice/journal.Journal).At -/
def T41 (p0 : Option Addr) (p1 : Int) (w : World) (K : (Sl × Int × Unit) → World → Prop) : Prop :=
  JoinX (α := Bool × Unit) (fun j2 w =>
    SplitB j2.1
      (K ((⟨none, 0, 0⟩ : Sl), 1, ()) w)
      (NilP p0 fun t15 =>
      RunN Try.prog .sl (V (Instr.loadAt 22 (.pointer (some (t15.add 1))))) w fun t17 w =>
      RunN Try.prog .addr (V (Instr.indexAt 22 (.slice t17.a t17.len t17.cap) (.int .i64 p1))) w fun t19 w =>
      RunN Try.prog .sl (V (Instr.loadAt 31 (.pointer (some t19)))) w fun t20 w =>
      RunN Try.prog .sl (V (Builtin.append_ #[31, 31] 31 #[.slice none 0 0, .slice t20.a t20.len t20.cap])) w fun t21 w =>
      K (t21, 0, ()) w))
  fun k1 =>
    SplitB (decide (p1 < 0))
      (k1 (true, ()) w)
      (CallK Try.prog (.int .i64) 40 #[.pointer p0] w fun t11 w =>
      k1 (decide (p1 ≥ t11), ()) w)
theorem T41.calls {p0 : Option Addr} {p1 : Int} {w : World} {K : (Sl × Int × Unit) → World → Prop} (h : T41 p0 p1 w K) : CallK Try.prog (.tup (.cons .sl (.cons (.int .i64) .nilT))) 41 #[.pointer p0, .int .i64 p1] w K :=
  bodyZ_sound (κ := kappa) (ann := [(2, [(13, .bool)])]) (fn := Try.f41) Try.func41 rfl (by kernel_rfl) (cast (show T41 p0 p1 w K = bodyZ Try.prog kappa [(2, [(13, .bool)])] (.tup (.cons .sl (.cons (.int .i64) .nilT))) Try.f41 [.pointer p0, .int .i64 p1] w K by kernel_rfl) h)

/-- (*sluice/disk.Disk).Read -/
def T42 (p0 : Option Addr) (p1 : Int) (w : World) (K : (Sl × Int × Unit) → World → Prop) : Prop :=
  CallK Try.prog (.int .i64) 55 #[.pointer p0, .int .i64 p1] w fun t10 w =>
  SplitB (t10 != 0)
    (K ((⟨none, 0, 0⟩ : Sl), t10, ()) w)
    (RunN Try.prog .sl (V (Instr.makeSlice 31 (.int .i64 512) (.int .i64 512))) w fun t14 w =>
    CallK Try.prog .sl 46 #[.pointer p0, .int .i64 p1] w fun t18 w =>
    RunN Try.prog (.int .i64) (V (Builtin.copy_ #[31, 31] 3 #[.slice t14.a t14.len t14.cap, .slice t18.a t18.len t18.cap])) w fun t19 w =>
    K (t14, 0, ()) w)
theorem T42.calls {p0 : Option Addr} {p1 : Int} {w : World} {K : (Sl × Int × Unit) → World → Prop} (h : T42 p0 p1 w K) : CallK Try.prog (.tup (.cons .sl (.cons (.int .i64) .nilT))) 42 #[.pointer p0, .int .i64 p1] w K :=
  bodyZ_sound (κ := kappa) (ann := []) (fn := Try.f42) Try.func42 rfl (by kernel_rfl) (cast (show T42 p0 p1 w K = bodyZ Try.prog kappa [] (.tup (.cons .sl (.cons (.int .i64) .nilT))) Try.f42 [.pointer p0, .int .i64 p1] w K by kernel_rfl) h)

/-- (*sluice/disk.Disk).On -/
def T43 (p0 : Option Addr) (w : World) (K : Unit → World → Prop) : Prop :=
  NilP p0 fun t3 =>
  RunU Try.prog (U (Instr.storeAt 4 (.pointer (some (t3.add 1))) (.bool false))) w fun w =>
  K () w
theorem T43.calls {p0 : Option Addr} {w : World} {K : Unit → World → Prop} (h : T43 p0 w K) : CallK Try.prog (.tup .nilT) 43 #[.pointer p0] w K :=
  bodyZ_sound (κ := kappa) (ann := []) (fn := Try.f43) Try.func43 rfl (by kernel_rfl) (cast (show T43 p0 w K = bodyZ Try.prog kappa [] (.tup .nilT) Try.f43 [.pointer p0] w K by kernel_rfl) h)

/-- (*sluice/journal.Journal).Dead -/
def T44 (p0 : Option Addr) (w : World) (K : Bool → World → Prop) : Prop :=
  NilP p0 fun t4 =>
  RunN Try.prog .bool (V (Instr.loadAt 4 (.pointer (some (t4.add 3))))) w fun t6 w =>
  K t6 w
theorem T44.calls {p0 : Option Addr} {w : World} {K : Bool → World → Prop} (h : T44 p0 w K) : CallK Try.prog .bool 44 #[.pointer p0] w K :=
  bodyZ_sound (κ := kappa) (ann := []) (fn := Try.f44) Try.func44 rfl (by kernel_rfl) (cast (show T44 p0 w K = bodyZ Try.prog kappa [] .bool Try.f44 [.pointer p0] w K by kernel_rfl) h)

/-- sluice/disk.From -/
def T45 (p0 : Sl) (w : World) (K : (Option Addr × Int × Unit) → World → Prop) : Prop :=
  SplitB ((Int.tmod (p0.len : Int) 512) != 0)
    (K (none, 1, ()) w)
    (CallK Try.prog (.tup (.cons .ptr (.cons (.int .i64) .nilT))) 10 #[.int .i64 (IntKind.i64.wrap (Int.tdiv (p0.len : Int) 512))] w fun t15 w =>
    SplitB (t15.2.1 != 0)
      (K (none, t15.2.1, ()) w)
      (NilP t15.1 fun t22 =>
      RunN Try.prog .sl (V (Instr.loadAt 74 (.pointer (some (t22.add 0))))) w fun t24 w =>
      LoopX (α := Sl × Int × Unit) (fun s1 w k2 =>
        SplitB (decide (s1.2.1 < (t24.len : Int)))
          (CallK Try.prog .sl 56 #[.pointer t15.1, .int .i64 s1.2.1] w fun t32 w =>
          RunN Try.prog (.int .i64) (V (Builtin.copy_ #[31, 31] 3 #[.slice t32.a t32.len t32.cap, .slice s1.1.a s1.1.len s1.1.cap])) w fun t34 w =>
          RunN Try.prog .sl (V (Instr.sliceAt 31 (.slice s1.1.a s1.1.len s1.1.cap) (some (.int .i64 t34)) none none)) w fun t35 w =>
          k2 (t35, IntKind.i64.wrap (s1.2.1 + 1), ()) w)
          (K (t15.1, 0, ()) w))
      (p0, 0, ()) w))
theorem T45.calls {p0 : Sl} {w : World} {K : (Option Addr × Int × Unit) → World → Prop} (h : T45 p0 w K) : CallK Try.prog (.tup (.cons .ptr (.cons (.int .i64) .nilT))) 45 #[.slice p0.a p0.len p0.cap] w K :=
  bodyZ_sound (κ := kappa) (ann := [(10, [(0, .sl), (26, (.int .i64))])]) (fn := Try.f45) Try.func45 rfl (by kernel_rfl) (cast (show T45 p0 w K = bodyZ Try.prog kappa [(10, [(0, .sl), (26, (.int .i64))])] (.tup (.cons .ptr (.cons (.int .i64) .nilT))) Try.f45 [.slice p0.a p0.len p0.cap] w K by kernel_rfl) h)

/-- (*sluice/disk.Disk).bytes -/
def T46 (p0 : Option Addr) (p1 : Int) (w : World) (K : Sl → World → Prop) : Prop :=
  NilP p0 fun t7 =>
  RunN Try.prog .sl (V (Instr.loadAt 74 (.pointer (some (t7.add 0))))) w fun t9 w =>
  RunN Try.prog .addr (V (Instr.indexAt 74 (.slice t9.a t9.len t9.cap) (.int .i64 p1))) w fun t11 w =>
  RunN Try.prog .ptr (V (Instr.loadAt 97 (.pointer (some t11)))) w fun t12 w =>
  RunN Try.prog .bool (V (do eqGuard .neq 97 (.tmp 13) (.const (.pointer none)) (.pointer t12) (.pointer none); binOp .neq 97 (.pointer t12) (.pointer none))) w fun t14 w =>
  SplitB t14
    (NilP t12 fun t16 =>
    RunN Try.prog .sl (V (Instr.sliceAt 102 (.pointer (some t16)) none none none)) w fun t17 w =>
    K t17 w)
    (RunN Try.prog .sl (V (Instr.makeSlice 31 (.int .i64 512) (.int .i64 512))) w fun t18 w =>
    K t18 w)
theorem T46.calls {p0 : Option Addr} {p1 : Int} {w : World} {K : Sl → World → Prop} (h : T46 p0 p1 w K) : CallK Try.prog .sl 46 #[.pointer p0, .int .i64 p1] w K :=
  bodyZ_sound (κ := kappa) (ann := []) (fn := Try.f46) Try.func46 rfl (by kernel_rfl) (cast (show T46 p0 p1 w K = bodyZ Try.prog kappa [] .sl Try.f46 [.pointer p0, .int .i64 p1] w K by kernel_rfl) h)

/-- (*sluice/disk.Disk).Off -/
def T50 (p0 : Option Addr) (w : World) (K : Unit → World → Prop) : Prop :=
  NilP p0 fun t4 =>
  RunU Try.prog (U (Instr.storeAt 4 (.pointer (some (t4.add 1))) (.bool true))) w fun w =>
  NilP p0 fun t6 =>
  RunU Try.prog (U (Instr.storeAt 4 (.pointer (some (t6.add 2))) (.bool false))) w fun w =>
  K () w
theorem T50.calls {p0 : Option Addr} {w : World} {K : Unit → World → Prop} (h : T50 p0 w K) : CallK Try.prog (.tup .nilT) 50 #[.pointer p0] w K :=
  bodyZ_sound (κ := kappa) (ann := []) (fn := Try.f50) Try.func50 rfl (by kernel_rfl) (cast (show T50 p0 w K = bodyZ Try.prog kappa [] (.tup .nilT) Try.f50 [.pointer p0] w K by kernel_rfl) h)

/-- bytes.HasPrefix -/
def T53 (p0 : Sl) (p1 : Sl) (w : World) (K : Bool → World → Prop) : Prop :=
  SplitB (decide ((p0.len : Int) ≥ (p1.len : Int)))
    (RunN Try.prog .sl (V (Instr.sliceAt 31 (.slice p0.a p0.len p0.cap) none (some (.int .i64 (p1.len : Int))) none)) w fun t14 w =>
    CallK Try.prog .bool 62 #[.slice t14.a t14.len t14.cap, .slice p1.a p1.len p1.cap] w fun t16 w =>
    K t16 w)
    (K false w)
theorem T53.calls {p0 : Sl} {p1 : Sl} {w : World} {K : Bool → World → Prop} (h : T53 p0 p1 w K) : CallK Try.prog .bool 53 #[.slice p0.a p0.len p0.cap, .slice p1.a p1.len p1.cap] w K :=
  bodyZ_sound (κ := kappa) (ann := []) (fn := Try.f53) Try.func53 rfl (by kernel_rfl) (cast (show T53 p0 p1 w K = bodyZ Try.prog kappa [] .bool Try.f53 [.slice p0.a p0.len p0.cap, .slice p1.a p1.len p1.cap] w K by kernel_rfl) h)

/-- bytes.HasSuffix -/
def T54 (p0 : Sl) (p1 : Sl) (w : World) (K : Bool → World → Prop) : Prop :=
  SplitB (decide ((p0.len : Int) ≥ (p1.len : Int)))
    (RunN Try.prog .sl (V (Instr.sliceAt 31 (.slice p0.a p0.len p0.cap) (some (.int .i64 (IntKind.i64.wrap ((p0.len : Int) - (p1.len : Int))))) none none)) w fun t17 w =>
    CallK Try.prog .bool 62 #[.slice t17.a t17.len t17.cap, .slice p1.a p1.len p1.cap] w fun t19 w =>
    K t19 w)
    (K false w)
theorem T54.calls {p0 : Sl} {p1 : Sl} {w : World} {K : Bool → World → Prop} (h : T54 p0 p1 w K) : CallK Try.prog .bool 54 #[.slice p0.a p0.len p0.cap, .slice p1.a p1.len p1.cap] w K :=
  bodyZ_sound (κ := kappa) (ann := []) (fn := Try.f54) Try.func54 rfl (by kernel_rfl) (cast (show T54 p0 p1 w K = bodyZ Try.prog kappa [] .bool Try.f54 [.slice p0.a p0.len p0.cap, .slice p1.a p1.len p1.cap] w K by kernel_rfl) h)

/-- (*sluice/disk.Disk).reach -/
def T55 (p0 : Option Addr) (p1 : Int) (w : World) (K : Int → World → Prop) : Prop :=
  NilP p0 fun t7 =>
  RunN Try.prog .bool (V (Instr.loadAt 4 (.pointer (some (t7.add 1))))) w fun t9 w =>
  SplitB t9
    (K 200 w)
    (JoinX (α := Bool × Unit) (fun j2 w =>
      SplitB j2.1
        (K 201 w)
        (K 0 w))
    fun k1 =>
      SplitB (decide (p1 < 0))
        (k1 (true, ()) w)
        (NilP p0 fun t16 =>
        RunN Try.prog .sl (V (Instr.loadAt 74 (.pointer (some (t16.add 0))))) w fun t18 w =>
        k1 (decide (p1 ≥ (t18.len : Int)), ()) w))
theorem T55.calls {p0 : Option Addr} {p1 : Int} {w : World} {K : Int → World → Prop} (h : T55 p0 p1 w K) : CallK Try.prog (.int .i64) 55 #[.pointer p0, .int .i64 p1] w K :=
  bodyZ_sound (κ := kappa) (ann := [(4, [(10, .bool)])]) (fn := Try.f55) Try.func55 rfl (by kernel_rfl) (cast (show T55 p0 p1 w K = bodyZ Try.prog kappa [(4, [(10, .bool)])] (.int .i64) Try.f55 [.pointer p0, .int .i64 p1] w K by kernel_rfl) h)

/-- (*sluice/disk.Disk).own -/
def T56 (p0 : Option Addr) (p1 : Int) (w : World) (K : Sl → World → Prop) : Prop :=
  JoinX (α := Unit) (fun j2 w =>
    NilP p0 fun t22 =>
    RunN Try.prog .sl (V (Instr.loadAt 74 (.pointer (some (t22.add 0))))) w fun t24 w =>
    RunN Try.prog .addr (V (Instr.indexAt 74 (.slice t24.a t24.len t24.cap) (.int .i64 p1))) w fun t26 w =>
    RunN Try.prog .ptr (V (Instr.loadAt 97 (.pointer (some t26)))) w fun t27 w =>
    NilP t27 fun t28 =>
    RunN Try.prog .sl (V (Instr.sliceAt 102 (.pointer (some t28)) none none none)) w fun t29 w =>
    K t29 w)
  fun k1 =>
    NilP p0 fun t6 =>
    RunN Try.prog .sl (V (Instr.loadAt 74 (.pointer (some (t6.add 0))))) w fun t8 w =>
    RunN Try.prog .addr (V (Instr.indexAt 74 (.slice t8.a t8.len t8.cap) (.int .i64 p1))) w fun t10 w =>
    RunN Try.prog .ptr (V (Instr.loadAt 97 (.pointer (some t10)))) w fun t11 w =>
    RunN Try.prog .bool (V (do eqGuard .eql 97 (.tmp 11) (.const (.pointer none)) (.pointer t11) (.pointer none); binOp .eql 97 (.pointer t11) (.pointer none))) w fun t12 w =>
    SplitB t12
      (NilP p0 fun t14 =>
      RunN Try.prog .sl (V (Instr.loadAt 74 (.pointer (some (t14.add 0))))) w fun t16 w =>
      RunN Try.prog .raw (V (Instr.build 102 #[])) w fun t18 w =>
      RunN Try.prog .addr (V (Instr.box 102 (t18))) w fun t19 w =>
      RunN Try.prog .addr (V (Instr.indexAt 74 (.slice t16.a t16.len t16.cap) (.int .i64 p1))) w fun t20 w =>
      RunU Try.prog (U (Instr.storeAt 97 (.pointer (some t20)) (.pointer (some t19)))) w fun w =>
      k1 () w)
      (k1 () w)
theorem T56.calls {p0 : Option Addr} {p1 : Int} {w : World} {K : Sl → World → Prop} (h : T56 p0 p1 w K) : CallK Try.prog .sl 56 #[.pointer p0, .int .i64 p1] w K :=
  bodyZ_sound (κ := kappa) (ann := [(1, [])]) (fn := Try.f56) Try.func56 rfl (by kernel_rfl) (cast (show T56 p0 p1 w K = bodyZ Try.prog kappa [(1, [])] .sl Try.f56 [.pointer p0, .int .i64 p1] w K by kernel_rfl) h)

/-- bytes.Equal -/
def T62 (p0 : Sl) (p1 : Sl) (w : World) (K : Bool → World → Prop) : Prop :=
  RunN Try.prog .str (V (convert 31 9 (.slice p0.a p0.len p0.cap))) w fun t6 w =>
  RunN Try.prog .str (V (convert 31 9 (.slice p1.a p1.len p1.cap))) w fun t8 w =>
  K (t6.toList == t8.toList) w
theorem T62.calls {p0 : Sl} {p1 : Sl} {w : World} {K : Bool → World → Prop} (h : T62 p0 p1 w K) : CallK Try.prog .bool 62 #[.slice p0.a p0.len p0.cap, .slice p1.a p1.len p1.cap] w K :=
  bodyZ_sound (κ := kappa) (ann := []) (fn := Try.f62) Try.func62 rfl (by kernel_rfl) (cast (show T62 p0 p1 w K = bodyZ Try.prog kappa [] .bool Try.f62 [.slice p0.a p0.len p0.cap, .slice p1.a p1.len p1.cap] w K by kernel_rfl) h)

end Go.Proofs.Ytimebochhbfkgaa
