import Derived.Test.YtodgnpmljdopiaaProg
import Derived.Test.YtodgnpmljdopiaaTLk
namespace Go.Proofs.Ytodgnpmljdopiaa
open Go Go.Fw Go.Proofs
set_option maxRecDepth 100000
set_option linter.unusedVariables false

/-- sluice/sluicelaw3.LinkStill -/
def T8 (p0 : Int) (p1 : Int) (p2 : Sl) (p3 : Int) (w : World) (K : Bool → World → Prop) : Prop :=
  CallK Try.prog .bool 9 #[] w fun t22 w =>
  CallK Try.prog (.int .i64) 17 #[.int .i64 p0, .int .i64 1, .int .i64 16] w fun t24 w =>
  CallK Try.prog (.int .i64) 17 #[.int .i64 p1, .int .i64 1, .int .i64 20] w fun t26 w =>
  CallK Try.prog (.tup (.cons .ptr (.cons (.int .i64) .nilT))) 22 #[.int .i64 3, .int .i64 5, .int .i64 t24, .int .i64 t26] w fun t30 w =>
  JoinX (α := Bool × Unit) (fun j2 w =>
    SplitB j2.1
      (K false w)
      (LoopX (α := Int × Unit) (fun s3 w k4 =>
        SplitB (decide (s3.1 < 45))
          (CallK Try.prog (.tup .nilT) 20 #[.pointer t30.1] w fun t48 w =>
          CallK Try.prog .sl 13 #[.pointer t30.1] w fun t50 w =>
          SplitB ((t50.len : Int) != 0)
            (K false w)
            (k4 (IntKind.i64.wrap (s3.1 + 1), ()) w))
          (LoopX (α := Sl × Int × Unit) (fun s5 w k6 =>
            JoinX (α := Bool × Unit) (fun j8 w =>
              SplitB j8.1
                (JoinX (α := Sl × Unit) (fun j10 w =>
                  k6 (j10.1, IntKind.i64.wrap (s5.2.1 + 1), ()) w)
                fun k9 =>
                  RunN Try.prog .addr (V (Instr.indexAt 51 (.slice p2.a p2.len p2.cap) (.int .i64 s5.2.1))) w fun t66 w =>
                  RunN Try.prog .sl (V (Instr.loadAt 45 (.pointer (some t66)))) w fun t67 w =>
                  SplitB (decide ((t67.len : Int) ≤ 4000))
                    (ReadN Try.prog .addr (V (Instr.indexAt 51 (.slice p2.a p2.len p2.cap) (.int .i64 s5.2.1))) w.drew fun t73 =>
                    ReadN Try.prog .sl (V (Instr.loadAt 45 (.pointer (some t73)))) w.drew fun t74 =>
                    ReadN Try.prog .addr (V (Instr.indexAt 51 (.slice p2.a p2.len p2.cap) (.int .i64 s5.2.1))) w.drew fun t78 =>
                    ReadN Try.prog .sl (V (Instr.loadAt 45 (.pointer (some t78)))) w.drew fun t79 =>
                    CallK Try.prog .sl 24 #[.slice t74.a t74.len t74.cap] w.drew fun t75 w =>
                    StillV Try.prog (V (Instr.loadAt 45 (.pointer (some t78)))) (.slice t79.a t79.len t79.cap) w ∧
                    StillV Try.prog (V (Instr.indexAt 51 (.slice p2.a p2.len p2.cap) (.int .i64 s5.2.1))) (.pointer (some t78)) w ∧
                    ReadN Try.prog .sl (V (Instr.sliceAt 45 (.slice t75.a t75.len t75.cap) none (some (.int .i64 (t79.len : Int))) none)) w fun t81 =>
                    CallK Try.prog (.int .i64) 23 #[.pointer t30.1, .slice t81.a t81.len t81.cap] w fun t82 w =>
                    SplitB (t82 != 0)
                      (K false w)
                      (RunN Try.prog .addr (V (Instr.indexAt 51 (.slice p2.a p2.len p2.cap) (.int .i64 s5.2.1))) w fun t88 w =>
                      RunN Try.prog .sl (V (Instr.loadAt 45 (.pointer (some t88)))) w fun t89 w =>
                      RunN Try.prog .sl (V (Instr.buildSlice 51 1 #[(0, .slice t89.a t89.len t89.cap)])) w fun t90 w =>
                      RunN Try.prog .sl (V (Builtin.append_ #[51, 51] 51 #[.slice s5.1.a s5.1.len s5.1.cap, .slice t90.a t90.len t90.cap])) w fun t91 w =>
                      k9 (t91, ()) w))
                    (k9 (s5.1, ()) w))
                (CallK Try.prog .sl 13 #[.pointer t30.1] w fun t93 w =>
                SplitB ((t93.len : Int) != (s5.1.len : Int))
                  (K false w)
                  (LoopX (α := Int × Unit) (fun s11 w k12 =>
                    CallK Try.prog (.int .i64) 17 #[.int .i64 p3, .int .i64 1, .int .i64 60] w fun t101 w =>
                    SplitB (decide (s11.1 ≤ t101))
                      (JoinX (α := Unit) (fun j14 w =>
                        k12 (IntKind.i64.wrap (s11.1 + 1), ()) w)
                      fun k13 =>
                        CallK Try.prog (.tup .nilT) 20 #[.pointer t30.1] w fun t106 w =>
                        CallK Try.prog .sl 13 #[.pointer t30.1] w fun t108 w =>
                        JoinX (α := Bool × Unit) (fun j16 w =>
                          SplitB j16.1
                            (SplitB ((t108.len : Int) != 0)
                              (K false w)
                              (k13 () w))
                            (SplitB ((t108.len : Int) != (s5.1.len : Int))
                              (K false w)
                              (LoopX (α := Int × Unit) (fun s17 w k18 =>
                                SplitB (decide (s17.1 < (s5.1.len : Int)))
                                  (JoinX (α := Bool × Unit) (fun j20 w =>
                                    SplitB j20.1
                                      (K false w)
                                      (k18 (IntKind.i64.wrap (s17.1 + 1), ()) w))
                                  fun k19 =>
                                    ReadN Try.prog .addr (V (Instr.indexAt 33 (.slice t108.a t108.len t108.cap) (.int .i64 s17.1))) w.drew fun t134 =>
                                    ReadN Try.prog (.int .i64) (V (Instr.loadAt 3 (.pointer (some (t134.add 2))))) w.drew fun t136 =>
                                    SplitB (t136 != (IntKind.i64.wrap (s17.1 + 1)))
                                      (k19 (true, ()) w.drew)
                                      (ReadN Try.prog .addr (V (Instr.indexAt 33 (.slice t108.a t108.len t108.cap) (.int .i64 s17.1))) w.drew fun t143 =>
                                      ReadN Try.prog (.int .i64) (V (Instr.loadAt 3 (.pointer (some (t143.add 3))))) w.drew fun t145 =>
                                      SplitB (t145 != 0)
                                        (k19 (true, ()) w.drew)
                                        (ReadN Try.prog .addr (V (Instr.indexAt 33 (.slice t108.a t108.len t108.cap) (.int .i64 s17.1))) w.drew fun t151 =>
                                        ReadN Try.prog (.int .i64) (V (Instr.loadAt 3 (.pointer (some (t151.add 0))))) w.drew fun t153 =>
                                        SplitB (t153 != 3)
                                          (k19 (true, ()) w.drew)
                                          (ReadN Try.prog .addr (V (Instr.indexAt 33 (.slice t108.a t108.len t108.cap) (.int .i64 s17.1))) w.drew fun t159 =>
                                          ReadN Try.prog (.int .i64) (V (Instr.loadAt 3 (.pointer (some (t159.add 1))))) w.drew fun t161 =>
                                          SplitB (t161 != 5)
                                            (k19 (true, ()) w.drew)
                                            (ReadN Try.prog .addr (V (Instr.indexAt 33 (.slice t108.a t108.len t108.cap) (.int .i64 s17.1))) w.drew fun t167 =>
                                            ReadN Try.prog .sl (V (Instr.loadAt 45 (.pointer (some (t167.add 4))))) w.drew fun t169 =>
                                            ReadN Try.prog .addr (V (Instr.indexAt 51 (.slice s5.1.a s5.1.len s5.1.cap) (.int .i64 s17.1))) w.drew fun t172 =>
                                            ReadN Try.prog .sl (V (Instr.loadAt 45 (.pointer (some t172)))) w.drew fun t173 =>
                                            CallK Try.prog .bool 25 #[.slice t169.a t169.len t169.cap, .slice t173.a t173.len t173.cap] w.drew fun t174 w =>
                                            k19 (!t174, ()) w)))))
                                  (k13 () w))
                              (0, ()) w)))
                        fun k15 =>
                          RunN Try.prog (.int .i64) (V (binOp .rem 3 (.int .i64 s11.1) (.int .i64 t26))) w fun t111 w =>
                          SplitB (t111 != 0)
                            (k15 (true, ()) w)
                            (k15 ((s5.1.len : Int) == 0, ()) w))
                      (CallK Try.prog .sl 14 #[.pointer t30.1] w fun t178 w =>
                      K ((t178.len : Int) == (s5.1.len : Int)) w))
                  (1, ()) w)))
            fun k7 =>
              SplitB (decide (s5.2.1 < (p2.len : Int)))
                (k7 (decide (s5.2.1 < t24), ()) w)
                (k7 (false, ()) w))
          ((⟨none, 0, 0⟩ : Sl), 0, ()) w))
      (0, ()) w))
  fun k1 =>
    SplitB (!t22)
      (k1 (true, ()) w)
      (SplitB (t30.2.1 != 0)
        (k1 (true, ()) w)
        (RunN Try.prog .bool (V (do eqGuard .eql 26 (.tmp 40) (.const (.pointer none)) (.pointer t30.1) (.pointer none); binOp .eql 26 (.pointer t30.1) (.pointer none))) w fun t41 w =>
        k1 (t41, ()) w))
theorem T8.calls {p0 : Int} {p1 : Int} {p2 : Sl} {p3 : Int} {w : World} {K : Bool → World → Prop} (h : T8 p0 p1 p2 p3 w K) : CallK Try.prog .bool 8 #[.int .i64 p0, .int .i64 p1, .slice p2.a p2.len p2.cap, .int .i64 p3] w K :=
  bodyZ_sound (κ := kappa) (ann := [(6, [(42, .bool)]), (10, [(14, (.int .i64))]), (20, [(15, .sl), (16, (.int .i64))]), (22, [(61, .bool)]), (23, [(15, .sl)]), (35, [(19, (.int .i64))]), (38, []), (42, [(117, .bool)]), (50, [(21, (.int .i64))]), (54, [(176, .bool)])]) (fn := Try.f8) Try.func8 rfl (by kernel_rfl) (cast (show T8 p0 p1 p2 p3 w K = bodyZ Try.prog kappa [(6, [(42, .bool)]), (10, [(14, (.int .i64))]), (20, [(15, .sl), (16, (.int .i64))]), (22, [(61, .bool)]), (23, [(15, .sl)]), (35, [(19, (.int .i64))]), (38, []), (42, [(117, .bool)]), (50, [(21, (.int .i64))]), (54, [(176, .bool)])] .bool Try.f8 [.int .i64 p0, .int .i64 p1, .slice p2.a p2.len p2.cap, .int .i64 p3] w K by kernel_rfl) h)

/-- sluice/sluicelaw3.within -/
def T17 (p0 : Int) (p1 : Int) (p2 : Int) (w : World) (K : Int → World → Prop) : Prop :=
  JoinX (α := Int × Unit) (fun j2 w =>
    RunN Try.prog (.int .i64) (V (binOp .rem 3 (.int .i64 j2.1) (.int .i64 (IntKind.i64.wrap ((IntKind.i64.wrap (p2 - p1)) + 1))))) w fun t18 w =>
    K (IntKind.i64.wrap (p1 + t18)) w)
  fun k1 =>
    SplitB (decide (p0 < 0))
      (k1 (IntKind.i64.wrap (0 - (IntKind.i64.wrap (p0 + 1))), ()) w)
      (k1 (p0, ()) w)
theorem T17.calls {p0 : Int} {p1 : Int} {p2 : Int} {w : World} {K : Int → World → Prop} (h : T17 p0 p1 p2 w K) : CallK Try.prog (.int .i64) 17 #[.int .i64 p0, .int .i64 p1, .int .i64 p2] w K :=
  bodyZ_sound (κ := kappa) (ann := [(1, [(0, (.int .i64))])]) (fn := Try.f17) Try.func17 rfl (by kernel_rfl) (cast (show T17 p0 p1 p2 w K = bodyZ Try.prog kappa [(1, [(0, (.int .i64))])] (.int .i64) Try.f17 [.int .i64 p0, .int .i64 p1, .int .i64 p2] w K by kernel_rfl) h)
end Go.Proofs.Ytodgnpmljdopiaa
