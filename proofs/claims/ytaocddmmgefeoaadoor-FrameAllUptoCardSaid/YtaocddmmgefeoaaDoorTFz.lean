import Derived.Test.YtaocddmmgefeoaaDoorProg
import Derived.Test.YtaocddmmgefeoaaDoorFwG
namespace Go.Proofs.YtaocddmmgefeoaaDoor
open Go Go.Fw Go.Proofs
set_option maxRecDepth 100000
set_option linter.unusedVariables false
def kappaZ : List Kd := [(.tup .nilT), .raw, (.int .i64), (.int .i64), .bool, (.int .u8), (.int .u8), (.agg (.cons (.int .i64) (.cons (.int .i64) (.cons .bool (.cons (.int .u8) .nilT))))), (.agg (.cons (.int .i64) (.cons (.int .i64) (.cons .bool (.cons (.int .u8) .nilT))))), .str, .str, .str, (.int .u64), (.agg (.cons .str (.cons (.int .u64) .nilT))), (.agg (.cons .str (.cons (.int .u64) .nilT))), .ptr, .ptr, .ptr, (.agg (.cons .ptr .nilT)), (.agg (.cons .ptr .nilT)), .raw, (.int .i32), .sl, .raw, .ptr, .sl, .sl, (.agg (.cons .sl (.cons .sl (.cons (.int .i64) (.cons .sl (.cons .sl (.cons .sl .nilT))))))), (.agg (.cons .sl (.cons .sl (.cons (.int .i64) (.cons .sl (.cons .sl (.cons .sl .nilT))))))), .raw, .raw, .sl, (.agg (.cons (.int .i64) (.cons (.int .i64) (.cons (.int .u8) (.cons .sl .nilT))))), (.agg (.cons (.int .i64) (.cons (.int .i64) (.cons (.int .u8) (.cons .sl .nilT))))), (.tup (.cons .sl (.cons (.int .i64) .nilT))), .raw, .raw, .raw, (.int .i64), (.tup (.cons .sl (.cons (.int .i64) .nilT))), .raw, .raw, (.tup (.cons .sl (.cons .bool .nilT))), .raw, .raw, .raw, (.agg (.cons (.int .u8) (.cons (.int .u8) (.cons (.int .u8) (.cons (.int .u8) .nilT))))), .raw, .raw, .raw, .raw, (.int .u64), (.int .u32), .raw, (.agg (.cons (.int .u32) (.cons (.int .u32) (.cons (.int .u32) (.cons (.int .u32) (.cons (.int .u32) (.cons (.int .u32) (.cons (.int .u32) (.cons (.int .u32) (.cons (.int .u32) (.cons (.int .u32) (.cons (.int .u32) (.cons (.int .u32) (.cons (.int .u32) (.cons (.int .u32) (.cons (.int .u32) (.cons (.int .u32) .nilT))))))))))))))))), .raw, (.agg (.cons .ptr (.cons .ptr (.cons .ptr (.cons .str .nilT))))), (.agg (.cons .ptr (.cons .ptr (.cons .ptr (.cons .str .nilT))))), (.agg .nilT), (.agg .nilT), (.agg .nilT), .raw, (.int .u8), (.int .u8), .raw, .ptr, (.int .i32), (.int .i32), (.agg (.cons (.int .u64) (.cons (.int .u64) (.cons (.int .u32) (.cons (.int .u8) (.cons (.int .u8) (.cons (.int .u8) (.cons (.int .u8) (.cons .raw (.cons .ptr (.cons (.int .i32) (.cons (.int .i32) .nilT)))))))))))), (.agg (.cons (.int .u64) (.cons (.int .u64) (.cons (.int .u32) (.cons (.int .u8) (.cons (.int .u8) (.cons (.int .u8) (.cons (.int .u8) (.cons .raw (.cons .ptr (.cons (.int .i32) (.cons (.int .i32) .nilT))))))))))))]

/-- sluice/sluicelaw1.FrameAll -/
def T5 (p0 : Sl) (w : World) (K : Bool → World → Prop) : Prop :=
  LoopX (α := Int × Int × Unit) (fun s1 w k2 =>
    SplitB (decide (s1.2.1 < (p0.len : Int)))
      (RunN Tryd.prog .addr (V (Instr.indexAt 31 (.slice p0.a p0.len p0.cap) (.int .i64 s1.2.1))) w fun t20 w =>
      RunN Tryd.prog .sl (V (Instr.loadAt 22 (.pointer (some (t20.add 3))))) w fun t22 w =>
      k2 (IntKind.i64.wrap (s1.1 + (t22.len : Int)), IntKind.i64.wrap (s1.2.1 + 1), ()) w)
      (JoinX (α := Bool × Unit) (fun j4 w =>
        SplitB j4.1
          (K true w)
          (CallK Tryd.prog .bool 11 #[] w fun t32 w =>
          RunN Tryd.prog .addr (V (Instr.box 28 (.agg #[.slice none 0 0, .slice none 0 0, .int .i64 0, .slice none 0 0, .slice none 0 0, .slice none 0 0]))) w fun t34 w =>
          LoopX (α := Bool × Int × Unit) (fun s5 w k6 =>
            JoinX (α := Bool × Unit) (fun j8 w =>
              SplitB j8.1
                (JoinX (α := Bool × Unit) (fun j10 w =>
                  k6 (j10.1, IntKind.i64.wrap (s5.2.1 + 1), ()) w)
                fun k9 =>
                  RunN Tryd.prog .addr (V (Instr.indexAt 31 (.slice p0.a p0.len p0.cap) (.int .i64 s5.2.1))) w fun t46 w =>
                  RunN Tryd.prog (.agg (.cons (.int .i64) (.cons (.int .i64) (.cons (.int .u8) (.cons .sl .nilT))))) (V (Instr.loadAt 33 (.pointer (some t46)))) w fun t47 w =>
                  RunN Tryd.prog .addr (V (Instr.alloc 33 true (.tuple #[]))) w fun t8 w =>
                  RunU Tryd.prog (U (Instr.storeAt 33 (.pointer (some t8)) (.agg #[.int .i64 t47.1, .int .i64 t47.2.1, .int .u8 t47.2.2.1, .slice t47.2.2.2.1.a t47.2.2.2.1.len t47.2.2.2.1.cap]))) w fun w =>
                  RunN Tryd.prog (.int .i64) (V (Instr.loadAt 3 (.pointer (some (t8.add 0))))) w fun t49 w =>
                  SplitB (t49 == 1)
                    (RunN Tryd.prog .sl (V (Instr.loadAt 22 (.pointer (some (t8.add 3))))) w fun t54 w =>
                    CallK Tryd.prog .bool 13 #[.pointer (some t34), .slice t54.a t54.len t54.cap] w fun t55 w =>
                    k9 (t55, ()) w)
                    (SplitB (t49 == 2)
                      (RunN Tryd.prog .sl (V (Instr.loadAt 22 (.pointer (some (t8.add 3))))) w fun t60 w =>
                      CallK Tryd.prog .bool 15 #[.pointer (some t34), .slice t60.a t60.len t60.cap] w fun t61 w =>
                      k9 (t61, ()) w)
                      (SplitB (t49 == 3)
                        (RunN Tryd.prog .sl (V (Instr.loadAt 22 (.pointer (some (t8.add 3))))) w fun t66 w =>
                        CallK Tryd.prog (.tup (.cons .sl (.cons (.int .i64) .nilT))) 16 #[.slice t66.a t66.len t66.cap] w fun t67 w =>
                        JoinX (α := Unit) (fun j12 w =>
                          CallK Tryd.prog .bool 15 #[.pointer (some t34), .slice t67.1.a t67.1.len t67.1.cap] w fun t87 w =>
                          k9 (t87, ()) w)
                        fun k11 =>
                          SplitB (decide ((t67.1.len : Int) > 0))
                            (ReadN Tryd.prog (.int .i64) (V (Instr.loadAt 3 (.pointer (some (t8.add 1))))) w.drew fun t75 =>
                            ReadN Tryd.prog (.int .u8) (V (Instr.loadAt 5 (.pointer (some (t8.add 2))))) w.drew fun t82 =>
                            CallK Tryd.prog (.int .i64) 17 #[.int .i64 t75, .int .i64 (t67.1.len : Int)] w.drew fun t78 w =>
                            StillV Tryd.prog (V (Instr.loadAt 5 (.pointer (some (t8.add 2))))) (.int .u8 t82) w ∧
                            ReadN Tryd.prog .addr (V (Instr.indexAt 22 (.slice t67.1.a t67.1.len t67.1.cap) (.int .i64 t78))) w fun t79 =>
                            ReadN Tryd.prog (.int .u8) (V (Instr.loadAt 5 (.pointer (some t79)))) w fun t80 =>
                            ReadN Tryd.prog .addr (V (Instr.indexAt 22 (.slice t67.1.a t67.1.len t67.1.cap) (.int .i64 t78))) w fun t84 =>
                            RunU Tryd.prog (U (Instr.storeAt 5 (.pointer (some t84)) (.int .u8 (IntKind.u8.wrap (t80 + t82))))) w fun w =>
                            k11 () w)
                            (k11 () w))
                        (k9 (s5.1, ()) w))))
                (SplitB s5.1
                  (CallK Tryd.prog .bool 14 #[.pointer (some t34)] w fun t91 w =>
                  K t91 w)
                  (K false w)))
            fun k7 =>
              SplitB (decide (s5.2.1 < (p0.len : Int)))
                (k7 (s5.1, ()) w)
                (k7 (false, ()) w))
          (t32, 0, ()) w))
      fun k3 =>
        SplitB (decide ((p0.len : Int) > 200))
          (k3 (true, ()) w)
          (k3 (decide (s1.1 > 65536), ()) w)))
  (0, 0, ()) w
theorem T5.calls {p0 : Sl} {w : World} {K : Bool → World → Prop} (h : T5 p0 w K) : CallK Tryd.prog .bool 5 #[.slice p0.a p0.len p0.cap] w K :=
  bodyZ_sound (κ := kappaZ) (ann := [(4, [(3, (.int .i64)), (4, (.int .i64))]), (9, [(31, .bool)]), (15, [(5, .bool), (7, (.int .i64))]), (17, [(41, .bool)]), (18, [(5, .bool)]), (25, [])]) (fn := Tryd.f5) Tryd.func5 rfl (by kernel_rfl) (cast (show T5 p0 w K = bodyZ Tryd.prog kappaZ [(4, [(3, (.int .i64)), (4, (.int .i64))]), (9, [(31, .bool)]), (15, [(5, .bool), (7, (.int .i64))]), (17, [(41, .bool)]), (18, [(5, .bool)]), (25, [])] .bool Tryd.f5 [.slice p0.a p0.len p0.cap] w K by kernel_rfl) h)
end Go.Proofs.YtaocddmmgefeoaaDoor
