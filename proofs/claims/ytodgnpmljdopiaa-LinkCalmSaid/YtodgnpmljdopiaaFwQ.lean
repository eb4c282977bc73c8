/- Steps on structs of two and of six numbers, on channels. -/
import Derived.Test.YtodgnpmljdopiaaFwL
import Derived.Test.YtodgnpmljdopiaaFwY
import Derived.Test.YtodgnpmljdopiaaFwK
set_option linter.unusedVariables false
set_option linter.unusedSimpArgs false
namespace Go.Fw
open Go Go.RowKit
variable {P : Program} {w0 w : World} {G : Grps}
abbrev Kd2 : Kd := .agg (.cons (.int .i64) (.cons (.int .i64) .nilT))
abbrev Kd6 : Kd := .agg (.cons (.int .i64) (.cons (.int .i64) (.cons (.int .i64) (.cons (.int .i64) (.cons (.int .i64) (.cons (.int .i64) .nilT))))))
theorem St.load2 (h : St w0 w G) (k i : Nat) {b : Nat} {t : TypeId} {x y : Int} (he : Has G k i (.cel b t [.int .i64 x, .int .i64 y])) {t' : TypeId} [Ag P t' 2] {p : Addr} (hp : p = ⟨b, 0, none⟩) {K : (Int × Int × Unit) → World → Prop} (hk : K (x, y, ()) w) :
    RunN P (.agg (.cons (.int .i64) (.cons (.int .i64) .nilT))) (V (Instr.loadAt t' (.pointer (some p)))) w K := RunN.of (kd := Kd2) (x := (x, y, ())) (h.run_loadA he hp rfl rfl) hk
theorem St.read2 (h : St w0 w G) (k i : Nat) {b : Nat} {t : TypeId} {x y : Int} (he : Has G k i (.cel b t [.int .i64 x, .int .i64 y])) {t' : TypeId} [Ag P t' 2] {p : Addr} (hp : p = ⟨b, 0, none⟩) {K : (Int × Int × Unit) → Prop} (hk : K (x, y, ())) :
    ReadN P (.agg (.cons (.int .i64) (.cons (.int .i64) .nilT))) (V (Instr.loadAt t' (.pointer (some p)))) w K := ReadN.of (kd := Kd2) (x := (x, y, ())) (h.run_loadA he hp rfl rfl) hk
theorem St.still2 (h : St w0 w G) (k i : Nat) {b : Nat} {t : TypeId} {x y : Int} (he : Has G k i (.cel b t [.int .i64 x, .int .i64 y])) {t' : TypeId} [Ag P t' 2] {p : Addr} (hp : p = ⟨b, 0, none⟩) :
    StillV P (V (Instr.loadAt t' (.pointer (some p)))) (.agg #[.int .i64 x, .int .i64 y]) w := StillV.of (h.run_loadA he hp rfl rfl)
theorem St.stor2 (h : St w0 w G) (k i : Nat) {b : Nat} {t : TypeId} {x y u v : Int} (he : Has G k i (.cel b t [.int .i64 x, .int .i64 y])) {t' : TypeId} [Ag P t' 2] {p : Addr} (hp : p = ⟨b, 0, none⟩) {K : World → Prop}
    (hk : ∀ w', St w0 w' (updG G k i [.cel b t [.int .i64 u, .int .i64 v]]) → K w') : RunU P (U (Instr.storeAt t' (.pointer (some p)) (.agg #[.int .i64 u, .int .i64 v]))) w K :=
  h.storA k i he (t' := t') (n := 2) (j := 0) hp (ds := [.int .i64 u, .int .i64 v]) rfl rfl rfl hk
theorem St.load6 (h : St w0 w G) (k i : Nat) {b : Nat} {t : TypeId} {x y u v m n : Int} (he : Has G k i (.cel b t [.int .i64 x, .int .i64 y, .int .i64 u, .int .i64 v, .int .i64 m, .int .i64 n])) {t' : TypeId} [Ag P t' 6] {p : Addr} (hp : p = ⟨b, 0, none⟩) {K : (Int × Int × Int × Int × Int × Int × Unit) → World → Prop} (hk : K (x, y, u, v, m, n, ()) w) :
    RunN P (.agg (.cons (.int .i64) (.cons (.int .i64) (.cons (.int .i64) (.cons (.int .i64) (.cons (.int .i64) (.cons (.int .i64) .nilT))))))) (V (Instr.loadAt t' (.pointer (some p)))) w K := RunN.of (kd := Kd6) (x := (x, y, u, v, m, n, ())) (h.run_loadA he hp rfl rfl) hk
theorem RunN.k2Ne {t : TypeId} [K2 P t] {x y : Operand} {a b c d : Int} {K : Bool → World → Prop} (h : K (!(a == c && b == d)) w) : RunN P .bool (V (do eqGuard .neq t x y (kv2 a b) (kv2 c d); binOp .neq t (kv2 a b) (kv2 c d))) w K := RunN.of (kd := .bool) (K2.neV w x y a b c d) h
/-! ### channels -/
theorem St.send (h : St w0 w G) (k i : Nat) {b cap s r : Nat} {buf : List Value} (he : Has G k i (.obj b (.chan cap ⟨buf⟩ false s r false))) (hroom : buf.length < cap) {e : TypeId} {z v : Value} (hz : (zeroValue e).run P w = .ok z w) {Kg Kn : World → Prop}
    (hk : ∀ w', St w0 w' (updG G k i [.obj b (.chan cap ⟨buf ++ [v]⟩ false (s + 1) r false)]) → Kg w') : SendB P e (some b) v w Kg Kn :=
  ⟨b, cap, buf, s, r, z, rfl, h.ob he, hz, .inl ⟨hroom, hk _ (h.setOb he _)⟩⟩
theorem St.recv (h : St w0 w G) (k i : Nat) {b cap s r : Nat} {buf : List Value} {kd : Kd} {x : kd.T} (he : Has G k i (.obj b (.chan cap ⟨kd.val x :: buf⟩ false s r false))) {e : TypeId} {z : Value} (hz : (zeroValue e).run P w = .ok z w) {Kg : kd.T → World → Prop} {Kn : Value → World → Prop}
    (hk : ∀ w', St w0 w' (updG G k i [.obj b (.chan cap ⟨buf⟩ false s (r + 1) false)]) → Kg x w') : RecvB P kd e (some b) w Kg Kn :=
  ⟨b, cap, _, s, r, z, rfl, h.ob he, hz, .inr ⟨x, buf, rfl, hk _ (h.setOb he _)⟩⟩
theorem St.recvNo (h : St w0 w G) (k i : Nat) {b cap s r : Nat} (he : Has G k i (.obj b (.chan cap ⟨[]⟩ false s r false))) {kd : Kd} {e : TypeId} {z : Value} (hz : (zeroValue e).run P w = .ok z w) {Kg : kd.T → World → Prop} {Kn : Value → World → Prop}
    (hk : Kn z w) : RecvB P kd e (some b) w Kg Kn :=
  ⟨b, cap, [], s, r, z, rfl, h.ob he, hz, .inl ⟨rfl, hk⟩⟩
end Go.Fw
