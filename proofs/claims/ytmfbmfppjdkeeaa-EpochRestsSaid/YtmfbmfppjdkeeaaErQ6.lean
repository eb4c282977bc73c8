/- Words and steps, part 6: Steps on structs of two and of six numbers, on channels. The epoch's machine in memory: types, places. The epoch's machine: what lives. Rows of pieces that grow. The epoch's machine: the target, the reports, what is to be done. The epoch's machine: what it hears, and what comes behind a change. -/
import Derived.Conc.SmallLaws
import Derived.Test.YtmfbmfppjdkeeaaErQ5
/- Steps on structs of two and of six numbers, on channels. -/
set_option linter.unusedVariables false
set_option linter.unusedSimpArgs false
namespace Go.Fw
open Go Go.RowKit
variable {P : Program} {w0 w : World} {G : Grps}
abbrev Kd2 : Kd := .agg (.cons (.int .i64) (.cons (.int .i64) .nilT))
abbrev Kd6 : Kd := .agg (.cons (.int .i64) (.cons (.int .i64) (.cons (.int .i64) (.cons (.int .i64) (.cons (.int .i64) (.cons (.int .i64) .nilT))))))
theorem St.load2 (h : St w0 w G) (k i : Nat) {b : Nat} {t : TypeId} {x y : Int} (he : Has G k i (.cel b t [.int .i64 x, .int .i64 y])) {t' : TypeId} [Ag P t' 2] {p : Addr} (hp : p = ⟨b, 0, none⟩) {K : (Int × Int × Unit) → World → Prop} (hk : K (x, y, ()) w) :
    RunN P (.agg (.cons (.int .i64) (.cons (.int .i64) .nilT))) (V (Instr.loadAt t' (.pointer (some p)))) w K := RunN.of (kd := Kd2) (x := (x, y, ())) (h.run_loadA he hp rfl rfl) hk
theorem St.read2 (h : St w0 w G) (k i : Nat) {b : Nat} {t : TypeId} {x y : Int} (he : Has G k i (.cel b t [.int .i64 x, .int .i64 y])) {t' : TypeId} [Ag P t' 2] {p : Addr} (hp : p = ⟨b, 0, none⟩) {K : (Int × Int × Unit) → Prop} (hk : K (x, y, ())) :
    ReadN P (.agg (.cons (.int .i64) (.cons (.int .i64) .nilT))) (V (Instr.loadAt t' (.pointer (some p)))) w K := ReadN.of (kd := Kd2) (x := (x, y, ())) (h.run_loadA he hp rfl rfl) hk
theorem St.still2 (h : St w0 w G) (k i : Nat) {b : Nat} {t : TypeId} {x y : Int} (he : Has G k i (.cel b t [.int .i64 x, .int .i64 y])) {t' : TypeId} [Ag P t' 2] {p : Addr} (hp : p = ⟨b, 0, none⟩) :
    StillV P (V (Instr.loadAt t' (.pointer (some p)))) (.agg #[.int .i64 x, .int .i64 y]) w := StillV.of (h.run_loadA he hp rfl rfl)
theorem St.stor2 (h : St w0 w G) (k i : Nat) {b : Nat} {t : TypeId} {x y u v : Int} (he : Has G k i (.cel b t [.int .i64 x, .int .i64 y])) {t' : TypeId} [Ag P t' 2] {p : Addr} (hp : p = ⟨b, 0, none⟩) {K : World → Prop}
    (hk : ∀ w', St w0 w' (updG G k i [.cel b t [.int .i64 u, .int .i64 v]]) → K w') : RunU P (U (Instr.storeAt t' (.pointer (some p)) (.agg #[.int .i64 u, .int .i64 v]))) w K :=
  h.storA k i he (t' := t') (n := 2) (j := 0) hp (ds := [.int .i64 u, .int .i64 v]) rfl rfl rfl hk
theorem St.load6 (h : St w0 w G) (k i : Nat) {b : Nat} {t : TypeId} {x y u v m n : Int} (he : Has G k i (.cel b t [.int .i64 x, .int .i64 y, .int .i64 u, .int .i64 v, .int .i64 m, .int .i64 n])) {t' : TypeId} [Ag P t' 6] {p : Addr} (hp : p = ⟨b, 0, none⟩) {K : (Int × Int × Int × Int × Int × Int × Unit) → World → Prop} (hk : K (x, y, u, v, m, n, ()) w) :
    RunN P (.agg (.cons (.int .i64) (.cons (.int .i64) (.cons (.int .i64) (.cons (.int .i64) (.cons (.int .i64) (.cons (.int .i64) .nilT))))))) (V (Instr.loadAt t' (.pointer (some p)))) w K := RunN.of (kd := Kd6) (x := (x, y, u, v, m, n, ())) (h.run_loadA he hp rfl rfl) hk
theorem RunN.k2Ne {t : TypeId} [K2 P t] {x y : Operand} {a b c d : Int} {K : Bool → World → Prop} (h : K (!(a == c && b == d)) w) : RunN P .bool (V (do eqGuard .neq t x y (kv2 a b) (kv2 c d); binOp .neq t (kv2 a b) (kv2 c d))) w K := RunN.of (kd := .bool) (K2.neV w x y a b c d) h
/-! ### channels -/
theorem St.send (h : St w0 w G) (k i : Nat) {b cap s r : Nat} {buf : List Value} (he : Has G k i (.obj b (.chan cap ⟨buf⟩ false s r false))) (hroom : buf.length < cap) {e : TypeId} {z v : Value} (hz : (zeroValue e).run P w = .ok z w) {Kg Kn : World → Prop}
    (hk : ∀ w', St w0 w' (updG G k i [.obj b (.chan cap ⟨buf ++ [v]⟩ false (s + 1) r false)]) → Kg w') : SendB P e (some b) v w Kg Kn :=
  ⟨b, cap, buf, s, r, z, rfl, h.ob he, hz, .inl ⟨hroom, hk _ (h.setOb he _)⟩⟩
theorem St.recv (h : St w0 w G) (k i : Nat) {b cap s r : Nat} {buf : List Value} {kd : Kd} {x : kd.T} (he : Has G k i (.obj b (.chan cap ⟨kd.val x :: buf⟩ false s r false))) {e : TypeId} {z : Value} (hz : (zeroValue e).run P w = .ok z w) {Kg : kd.T → World → Prop} {Kn : Value → World → Prop}
    (hk : ∀ w', St w0 w' (updG G k i [.obj b (.chan cap ⟨buf⟩ false s (r + 1) false)]) → Kg x w') : RecvB P kd e (some b) w Kg Kn :=
  ⟨b, cap, _, s, r, z, rfl, h.ob he, hz, .inr ⟨x, buf, rfl, hk _ (h.setOb he _)⟩⟩
theorem St.recvNo (h : St w0 w G) (k i : Nat) {b cap s r : Nat} (he : Has G k i (.obj b (.chan cap ⟨[]⟩ false s r false))) {kd : Kd} {e : TypeId} {z : Value} (hz : (zeroValue e).run P w = .ok z w) {Kg : kd.T → World → Prop} {Kn : Value → World → Prop}
    (hk : Kn z w) : RecvB P kd e (some b) w Kg Kn :=
  ⟨b, cap, [], s, r, z, rfl, h.ob he, hz, .inl ⟨rfl, hk⟩⟩
end Go.Fw

/- The epoch's machine in memory: types, places. -/
namespace Go.Proofs.Ytmfbmfppjdkeeaa
open Go Go.Fw Go.RowKit
set_option linter.unusedVariables false
set_option linter.unusedSimpArgs false
set_option maxRecDepth 4000

instance : Sc Try.prog 3 := ⟨by kernel_rfl⟩
instance : Sc Try.prog 4 := ⟨by kernel_rfl⟩
instance : Sc Try.prog 26 := ⟨by kernel_rfl⟩
instance : Sc Try.prog 42 := ⟨by kernel_rfl⟩
instance : Sc Try.prog 43 := ⟨by kernel_rfl⟩
instance : Sc Try.prog 48 := ⟨by kernel_rfl⟩
instance : Sc Try.prog 49 := ⟨by kernel_rfl⟩
instance : Sc Try.prog 50 := ⟨by kernel_rfl⟩
instance : Sc Try.prog 66 := ⟨by kernel_rfl⟩
instance : Sc Try.prog 78 := ⟨by kernel_rfl⟩
instance : Sc Try.prog 82 := ⟨by kernel_rfl⟩
instance : Sc Try.prog 97 := ⟨by kernel_rfl⟩
instance : Sc Try.prog 109 := ⟨by kernel_rfl⟩
instance : Ag Try.prog 54 2 := ⟨by kernel_rfl⟩
instance : Ag Try.prog 70 6 := ⟨by kernel_rfl⟩
instance : Ag Try.prog 114 6 := ⟨by kernel_rfl⟩
instance : Ag Try.prog 118 4 := ⟨by kernel_rfl⟩
instance : Ag Try.prog 56 12 := ⟨by kernel_rfl⟩
instance : Ag Try.prog 98 16 := ⟨by kernel_rfl⟩
instance : Et Try.prog 26 3 1 8 := ⟨ET.of (by kernel_rfl), by decide⟩
instance : Et Try.prog 66 70 6 48 := ⟨ET.of (by kernel_rfl), by decide⟩
instance : Et Try.prog 78 54 2 16 := ⟨ET.of (by kernel_rfl), by decide⟩
instance : Et Try.prog 82 114 6 48 := ⟨ET.of (by kernel_rfl), by decide⟩
instance : Et Try.prog 109 118 4 32 := ⟨ET.of (by kernel_rfl), by decide⟩
instance : Et Try.prog 49 66 1 24 := ⟨ET.of (by kernel_rfl), by decide⟩
instance : Et Try.prog 50 78 1 24 := ⟨ET.of (by kernel_rfl), by decide⟩
instance : Et Try.prog 22 56 12 88 := ⟨ET.of (by kernel_rfl), by decide⟩
instance : Ar Try.prog 98 16 := Ar.of (e := 3) (by kernel_rfl) (by kernel_rfl)
instance : NewC Try.prog 54 [.int .i64 0, .int .i64 0] := ⟨fun _ => by kernel_rfl⟩
instance : NewC Try.prog 70 [.int .i64 0, .int .i64 0, .int .i64 0, .int .i64 0, .int .i64 0, .int .i64 0] := ⟨fun _ => by kernel_rfl⟩
instance : K2 Try.prog 54 := K2.of (ti := 3) (by kernel_rfl) (by kernel_rfl) (by kernel_rfl) (by kernel_rfl) (fun _ _ _ => by kernel_rfl) (fun _ _ _ => by kernel_rfl) (fun _ _ _ _ => by kernel_rfl) (by kernel_rfl)
instance : PtE Try.prog 42 := ⟨fun _ _ _ _ => by kernel_rfl, fun _ _ _ => by kernel_rfl, fun _ _ _ _ => by kernel_rfl, fun _ _ _ => by kernel_rfl⟩
instance : PtE Try.prog 43 := ⟨fun _ _ _ _ => by kernel_rfl, fun _ _ _ => by kernel_rfl, fun _ _ _ _ => by kernel_rfl, fun _ _ _ => by kernel_rfl⟩
theorem zero70 (w : World) : (zeroValue 70).run Try.prog w = .ok (.agg ⟨[.int .i64 0, .int .i64 0, .int .i64 0, .int .i64 0, .int .i64 0, .int .i64 0]⟩) w := by kernel_rfl
theorem max_i (w : World) (a b : Int) : (Builtin.max_ #[3, 3] 3 #[.int .i64 a, .int .i64 b]).run Try.prog w = .ok (.int .i64 (max a b)) w := by
  rw [run_max_int2]
  congr 2
  omega
end Go.Proofs.Ytmfbmfppjdkeeaa

/- The epoch's machine: what lives. -/
namespace Go.Proofs.Ytmfbmfppjdkeeaa
open Go Go.Fw Go.RowKit
set_option linter.unusedVariables false
set_option linter.unusedSimpArgs false
set_option maxRecDepth 4000
set_option maxHeartbeats 2000000
variable {w0 w : World} {F G : Grps}

abbrev Ep := Int × Int
def epv (e : Ep) : List Value := [.int .i64 e.1, .int .i64 e.2]
theorem epv_len (e : Ep) : (epv e).length = 2 := rfl
abbrev eps (l : List Ep) : List Value := l.flatMap epv
abbrev A6 := Int × Int × Int × Int × Int × Int
def acv (a : A6) : List Value := [.int .i64 a.1, .int .i64 a.2.1, .int .i64 a.2.2.1, .int .i64 a.2.2.2.1, .int .i64 a.2.2.2.2.1, .int .i64 a.2.2.2.2.2]
theorem acv_len (e : A6) : (acv e).length = 6 := rfl
abbrev acs (l : List A6) : List Value := l.flatMap acv
def act (a : A6) : (Int × Int × Int × Int × Int × Int × Unit) := (a.1, a.2.1, a.2.2.1, a.2.2.2.1, a.2.2.2.2.1, a.2.2.2.2.2, ())
def aco (a : A6) : Value := .agg ⟨acv a⟩
structure Mv where
  me : Nat
  n : Nat
  kn : List Int
  fi : List Int
  re : List Int
  needs : Bool
structure Em extends Mv where
  cb : Nat
  ch : Nat
  cs : Nat
  cr : Nat
def emC (e : Em) : List Value := [.int .i64 (e.me : Int), .int .i64 (e.n : Int)] ++ (lin e.kn ++ (lin e.fi ++ (lin e.re ++ [.bool e.needs, .chan (some e.ch)])))
def emE (e : Em) (q : List A6) : List Ent := [.cel e.cb 100 (emC e), .obj e.ch (.chan 4 ⟨q.map aco⟩ false e.cs e.cr false)]
abbrev Em.p (e : Em) : Option Addr := some ⟨e.cb, 0, none⟩
structure Mv.wf (e : Mv) : Prop where
  n : 2 ≤ e.n ∧ e.n ≤ 16
  me : e.me < e.n
  kl : e.kn.length = 16
  fl : e.fi.length = 16
  rl : e.re.length = 16
  kb : ∀ x ∈ e.kn, 0 ≤ x ∧ x ≤ 1099511627776
  fb : ∀ x ∈ e.fi, 0 ≤ x ∧ x ≤ 1099511627776
  rb : ∀ x ∈ e.re, -1 ≤ x ∧ x ≤ 1099511627776
def gI (l : List Int) (i : Nat) : Int := l[i]?.getD 0
theorem gI_some {l : List Int} {i : Nat} (h : i < l.length) : l[i]? = some (gI l i) := by rw [gI, List.getElem?_eq_getElem h]; rfl
theorem gI_mem {l : List Int} {i : Nat} (h : i < l.length) : gI l i ∈ l := by rw [gI, List.getElem?_eq_getElem h]; exact List.getElem_mem h
theorem lin_ix {l : List Int} {i : Nat} (h : i < l.length) : (lin l)[i]? = some (.int .i64 (gI l i)) := by rw [lin, List.getElem?_map, gI_some h]; rfl
section
variable {e : Em}
theorem k_at (h : e.wf) {i : Nat} (hi : i < 16) : nthO (emC e) (2 + i) = some (.int .i64 (gI e.kn i)) := by
  rw [nthO_get, emC, List.getElem?_append_right (by simp), List.getElem?_append_left (by simp [lin_len, h.kl]; omega)]
  rw [show 2 + i - ([.int .i64 (e.me : Int), .int .i64 (e.n : Int)] : List Value).length = i by simp]
  exact lin_ix (by rw [h.kl]; exact hi)
theorem f_at (h : e.wf) {i : Nat} (hi : i < 16) : nthO (emC e) (18 + i) = some (.int .i64 (gI e.fi i)) := by
  rw [nthO_get, emC, List.getElem?_append_right (by simp; omega), List.getElem?_append_right (by simp [lin_len, h.kl]; omega), List.getElem?_append_left (by simp [lin_len, h.kl, h.fl]; omega)]
  rw [show 18 + i - ([.int .i64 (e.me : Int), .int .i64 (e.n : Int)] : List Value).length - (lin e.kn).length = i by simp [lin_len, h.kl]; omega]
  exact lin_ix (by rw [h.fl]; exact hi)
theorem r_at (h : e.wf) {i : Nat} (hi : i < 16) : nthO (emC e) (34 + i) = some (.int .i64 (gI e.re i)) := by
  rw [nthO_get, emC, List.getElem?_append_right (by simp; omega), List.getElem?_append_right (by simp [lin_len, h.kl]; omega), List.getElem?_append_right (by simp [lin_len, h.kl, h.fl]; omega), List.getElem?_append_left (by simp [lin_len, h.kl, h.fl, h.rl]; omega)]
  rw [show 34 + i - ([.int .i64 (e.me : Int), .int .i64 (e.n : Int)] : List Value).length - (lin e.kn).length - (lin e.fi).length = i by simp [lin_len, h.kl, h.fl]; omega]
  exact lin_ix (by rw [h.rl]; exact hi)
theorem needs_at (h : e.wf) : nthO (emC e) 50 = some (.bool e.needs) := by
  rw [nthO_get, emC, List.getElem?_append_right (by simp), List.getElem?_append_right (by simp [lin_len, h.kl]), List.getElem?_append_right (by simp [lin_len, h.kl, h.fl]), List.getElem?_append_right (by simp [lin_len, h.kl, h.fl, h.rl])]
  simp [lin_len, h.kl, h.fl, h.rl]
theorem ch_at (h : e.wf) : nthO (emC e) 51 = some (.chan (some e.ch)) := by
  rw [nthO_get, emC, List.getElem?_append_right (by simp), List.getElem?_append_right (by simp [lin_len, h.kl]), List.getElem?_append_right (by simp [lin_len, h.kl, h.fl]), List.getElem?_append_right (by simp [lin_len, h.kl, h.fl, h.rl])]
  simp [lin_len, h.kl, h.fl, h.rl]
theorem emC_len (h : e.wf) : (emC e).length = 52 := by simp [emC, lin_len, h.kl, h.fl, h.rl]
theorem lin_set (l : List Int) (i : Nat) (x : Int) : (lin l).set i (.int .i64 x) = lin (l.set i x) := by rw [lin, lin, List.map_set]
theorem k_set (h : e.wf) {i : Nat} (hi : i < 16) (x : Int) : setO (emC e) (2 + i) (.int .i64 x) = emC { e with kn := e.kn.set i x } := by
  rw [setO_set, emC, List.set_append_right _ _ (by simp), List.set_append_left _ _ (by simp [lin_len, h.kl]; omega)]
  rw [show 2 + i - ([.int .i64 (e.me : Int), .int .i64 (e.n : Int)] : List Value).length = i by simp, lin_set]; rfl
theorem f_set (h : e.wf) {i : Nat} (hi : i < 16) (x : Int) : setO (emC e) (18 + i) (.int .i64 x) = emC { e with fi := e.fi.set i x } := by
  rw [setO_set, emC, List.set_append_right _ _ (by simp; omega), List.set_append_right _ _ (by simp [lin_len, h.kl]; omega), List.set_append_left _ _ (by simp [lin_len, h.kl, h.fl]; omega)]
  rw [show 18 + i - ([.int .i64 (e.me : Int), .int .i64 (e.n : Int)] : List Value).length - (lin e.kn).length = i by simp [lin_len, h.kl]; omega, lin_set]; rfl
theorem r_set (h : e.wf) {i : Nat} (hi : i < 16) (x : Int) : setO (emC e) (34 + i) (.int .i64 x) = emC { e with re := e.re.set i x } := by
  rw [setO_set, emC, List.set_append_right _ _ (by simp; omega), List.set_append_right _ _ (by simp [lin_len, h.kl]; omega), List.set_append_right _ _ (by simp [lin_len, h.kl, h.fl]; omega), List.set_append_left _ _ (by simp [lin_len, h.kl, h.fl, h.rl]; omega)]
  rw [show 34 + i - ([.int .i64 (e.me : Int), .int .i64 (e.n : Int)] : List Value).length - (lin e.kn).length - (lin e.fi).length = i by simp [lin_len, h.kl, h.fl]; omega, lin_set]; rfl
theorem needs_set (h : e.wf) (x : Bool) : setO (emC e) 50 (.bool x) = emC { e with needs := x } := by
  rw [setO_set, emC, List.set_append_right _ _ (by simp), List.set_append_right _ _ (by simp [lin_len, h.kl]), List.set_append_right _ _ (by simp [lin_len, h.kl, h.fl]), List.set_append_right _ _ (by simp [lin_len, h.kl, h.fl, h.rl])]
  rw [show 50 - ([.int .i64 (e.me : Int), .int .i64 (e.n : Int)] : List Value).length - (lin e.kn).length - (lin e.fi).length - (lin e.re).length = 0 by simp [lin_len, h.kl, h.fl, h.rl]]; rfl
end
/-! ### what lives -/
def Mv.lv (e : Mv) (i : Nat) : Bool := decide (gI e.kn i > gI e.fi i)
def Mv.ep (e : Mv) (i : Nat) : Ep := if e.lv i = true then (gI e.kn i, (i : Int)) else (0, 0)
def Mv.lives (e : Mv) : List Ep := ((List.range e.n).filter e.lv).map fun i => (gI e.kn i, (i : Int))
def topE (l : List Ep) : Ep := l.foldl (fun t x => if x.1 ≥ t.1 then x else t) (0, 0)
def Mv.top (e : Mv) : Ep := topE e.lives
def Mv.own (e : Mv) : Ep := e.ep e.me
def someE (x : Ep) : Bool := !(x.1 == 0 && x.2 == 0)
theorem some_st (h : St w0 w F) (x y : Int) : CallK Try.prog .bool 48 #[.agg #[.int .i64 x, .int .i64 y]] w fun (v : Bool) w' => v = someE (x, y) ∧ St w0 w' F := by
  refine T48.calls (p0 := (x, y, ())) ?_
  unfold T48
  refine h.newB run_boxA rfl ?_
  intro bn w h
  refine h.load2 0 0 ⟨_, rfl, rfl⟩ rfl ?_
  refine RunN.k2Ne ?_
  exact ⟨rfl, h.drop 0⟩
theorem live_st {e : Em} {q : List A6} (h : St w0 w (emE e q :: F)) (hw : e.wf) {i : Nat} (hi : i < 16) : CallK Try.prog (.tup (.cons (.agg (.cons (.int .i64) (.cons (.int .i64) .nilT))) (.cons .bool .nilT))) 56 #[.pointer e.p, .int .i64 (i : Int)] w
    fun (v : (Int × Int × Unit) × Bool × Unit) w' => v = (((e.ep i).1, (e.ep i).2, ()), e.lv i, ()) ∧ St w0 w' (emE e q :: F) := by
  refine T56.calls ?_
  unfold T56
  repeat (first | (with_reducible refine NilP.mk ?_) | ((with_reducible refine RunN.isLoad ?_); (first | refine h.load2 0 0 ⟨_, rfl, rfl⟩ rfl ?_ | refine h.loadB 0 0 ⟨_, rfl, rfl⟩ rfl rfl ?_ | refine h.load2 1 0 ⟨_, rfl, rfl⟩ rfl ?_ | refine h.loadB 1 0 ⟨_, rfl, rfl⟩ rfl rfl ?_ | refine h.drew.load2 0 0 ⟨_, rfl, rfl⟩ rfl ?_ | refine h.drew.loadB 0 0 ⟨_, rfl, rfl⟩ rfl rfl ?_ | refine h.drew.load2 1 0 ⟨_, rfl, rfl⟩ rfl ?_ | refine h.drew.loadB 1 0 ⟨_, rfl, rfl⟩ rfl rfl ?_)) | ((with_reducible refine ReadN.isLoad ?_); (first | refine h.read2 0 0 ⟨_, rfl, rfl⟩ rfl ?_ | refine h.readB 0 0 ⟨_, rfl, rfl⟩ rfl rfl ?_ | refine h.read2 1 0 ⟨_, rfl, rfl⟩ rfl ?_ | refine h.readB 1 0 ⟨_, rfl, rfl⟩ rfl rfl ?_ | refine h.drew.read2 0 0 ⟨_, rfl, rfl⟩ rfl ?_ | refine h.drew.readB 0 0 ⟨_, rfl, rfl⟩ rfl rfl ?_ | refine h.drew.read2 1 0 ⟨_, rfl, rfl⟩ rfl ?_ | refine h.drew.readB 1 0 ⟨_, rfl, rfl⟩ rfl rfl ?_)) | ((with_reducible refine StillV.isLoad ?_); (first | refine ⟨h.stillB 0 0 ⟨_, rfl, rfl⟩ rfl rfl, ?_⟩ | refine ⟨h.still2 0 0 ⟨_, rfl, rfl⟩ rfl, ?_⟩ | refine ⟨h.stillB 1 0 ⟨_, rfl, rfl⟩ rfl rfl, ?_⟩ | refine ⟨h.still2 1 0 ⟨_, rfl, rfl⟩ rfl, ?_⟩)) | ((with_reducible refine RunU.isStor ?_); (first | (refine h.stor2 0 0 ⟨_, rfl, rfl⟩ rfl ?_; intro w h; dsimp only [updG, setO] at h) | (refine h.storB 0 0 ⟨_, rfl, rfl⟩ rfl rfl rfl ?_; intro w h; dsimp only [updG, setO] at h) | (refine h.stor2 1 0 ⟨_, rfl, rfl⟩ rfl ?_; intro w h; dsimp only [updG, setO] at h) | (refine h.storB 1 0 ⟨_, rfl, rfl⟩ rfl rfl rfl ?_; intro w h; dsimp only [updG, setO] at h) | (refine h.drew.stor2 0 0 ⟨_, rfl, rfl⟩ rfl ?_; intro w h; dsimp only [updG, setO] at h) | (refine h.drew.storB 0 0 ⟨_, rfl, rfl⟩ rfl rfl rfl ?_; intro w h; dsimp only [updG, setO] at h) | (refine h.drew.stor2 1 0 ⟨_, rfl, rfl⟩ rfl ?_; intro w h; dsimp only [updG, setO] at h) | (refine h.drew.storB 1 0 ⟨_, rfl, rfl⟩ rfl rfl rfl ?_; intro w h; dsimp only [updG, setO] at h))) | ((with_reducible refine RunN.isBox ?_); (first | (refine h.newB run_boxA rfl ?_; intro bn w h; try dsimp only at h; have h := h.ord 2 [1, 0]; dsimp only [pick, nthO, dropO] at h) | (refine h.drew.newB run_boxA rfl ?_; intro bn w h; try dsimp only at h; have h := h.ord 2 [1, 0]; dsimp only [pick, nthO, dropO] at h))) | ((with_reducible refine RunN.isNew ?_); (first | (refine h.newB (NewC.run _) rfl ?_; intro bn w h; have h := h.ord 2 [1, 0]; dsimp only [pick, nthO, dropO] at h) | (refine h.drew.newB (NewC.run _) rfl ?_; intro bn w h; have h := h.ord 2 [1, 0]; dsimp only [pick, nthO, dropO] at h))) | (refine RunN.k2Eq ?_) | (refine RunN.k2Ne ?_) | (refine ReadN.k2Eq ?_) | (refine ReadN.k2Ne ?_))
  refine ReadN.arr rfl i rfl hi ?_
  refine h.drew.readB 0 0 ⟨_, rfl, rfl⟩ rfl (kd := .int .i64) (x := gI e.kn i) (k_at hw hi) ?_
  refine NilP.mk ?_
  refine ReadN.arr rfl i rfl hi ?_
  refine h.drew.readB 0 0 ⟨_, rfl, rfl⟩ rfl (kd := .int .i64) (x := gI e.fi i) (f_at hw hi) ?_
  rw [SplitB_iff]
  refine ⟨fun hc => ?_, fun hc => ?_⟩
  · have hl : e.lv i = true := hc
    refine NilP.mk ?_
    refine RunN.arr rfl i rfl hi ?_
    refine h.drew.loadB 0 0 ⟨_, rfl, rfl⟩ rfl (kd := .int .i64) (x := gI e.kn i) (k_at hw hi) ?_
    repeat (first | (with_reducible refine NilP.mk ?_) | ((with_reducible refine RunN.isLoad ?_); (first | refine h.load2 0 0 ⟨_, rfl, rfl⟩ rfl ?_ | refine h.loadB 0 0 ⟨_, rfl, rfl⟩ rfl rfl ?_ | refine h.load2 1 0 ⟨_, rfl, rfl⟩ rfl ?_ | refine h.loadB 1 0 ⟨_, rfl, rfl⟩ rfl rfl ?_ | refine h.drew.load2 0 0 ⟨_, rfl, rfl⟩ rfl ?_ | refine h.drew.loadB 0 0 ⟨_, rfl, rfl⟩ rfl rfl ?_ | refine h.drew.load2 1 0 ⟨_, rfl, rfl⟩ rfl ?_ | refine h.drew.loadB 1 0 ⟨_, rfl, rfl⟩ rfl rfl ?_)) | ((with_reducible refine ReadN.isLoad ?_); (first | refine h.read2 0 0 ⟨_, rfl, rfl⟩ rfl ?_ | refine h.readB 0 0 ⟨_, rfl, rfl⟩ rfl rfl ?_ | refine h.read2 1 0 ⟨_, rfl, rfl⟩ rfl ?_ | refine h.readB 1 0 ⟨_, rfl, rfl⟩ rfl rfl ?_ | refine h.drew.read2 0 0 ⟨_, rfl, rfl⟩ rfl ?_ | refine h.drew.readB 0 0 ⟨_, rfl, rfl⟩ rfl rfl ?_ | refine h.drew.read2 1 0 ⟨_, rfl, rfl⟩ rfl ?_ | refine h.drew.readB 1 0 ⟨_, rfl, rfl⟩ rfl rfl ?_)) | ((with_reducible refine StillV.isLoad ?_); (first | refine ⟨h.stillB 0 0 ⟨_, rfl, rfl⟩ rfl rfl, ?_⟩ | refine ⟨h.still2 0 0 ⟨_, rfl, rfl⟩ rfl, ?_⟩ | refine ⟨h.stillB 1 0 ⟨_, rfl, rfl⟩ rfl rfl, ?_⟩ | refine ⟨h.still2 1 0 ⟨_, rfl, rfl⟩ rfl, ?_⟩)) | ((with_reducible refine RunU.isStor ?_); (first | (refine h.stor2 0 0 ⟨_, rfl, rfl⟩ rfl ?_; intro w h; dsimp only [updG, setO] at h) | (refine h.storB 0 0 ⟨_, rfl, rfl⟩ rfl rfl rfl ?_; intro w h; dsimp only [updG, setO] at h) | (refine h.stor2 1 0 ⟨_, rfl, rfl⟩ rfl ?_; intro w h; dsimp only [updG, setO] at h) | (refine h.storB 1 0 ⟨_, rfl, rfl⟩ rfl rfl rfl ?_; intro w h; dsimp only [updG, setO] at h) | (refine h.drew.stor2 0 0 ⟨_, rfl, rfl⟩ rfl ?_; intro w h; dsimp only [updG, setO] at h) | (refine h.drew.storB 0 0 ⟨_, rfl, rfl⟩ rfl rfl rfl ?_; intro w h; dsimp only [updG, setO] at h) | (refine h.drew.stor2 1 0 ⟨_, rfl, rfl⟩ rfl ?_; intro w h; dsimp only [updG, setO] at h) | (refine h.drew.storB 1 0 ⟨_, rfl, rfl⟩ rfl rfl rfl ?_; intro w h; dsimp only [updG, setO] at h))) | ((with_reducible refine RunN.isBox ?_); (first | (refine h.newB run_boxA rfl ?_; intro bn w h; try dsimp only at h; have h := h.ord 2 [1, 0]; dsimp only [pick, nthO, dropO] at h) | (refine h.drew.newB run_boxA rfl ?_; intro bn w h; try dsimp only at h; have h := h.ord 2 [1, 0]; dsimp only [pick, nthO, dropO] at h))) | ((with_reducible refine RunN.isNew ?_); (first | (refine h.newB (NewC.run _) rfl ?_; intro bn w h; have h := h.ord 2 [1, 0]; dsimp only [pick, nthO, dropO] at h) | (refine h.drew.newB (NewC.run _) rfl ?_; intro bn w h; have h := h.ord 2 [1, 0]; dsimp only [pick, nthO, dropO] at h))) | (refine RunN.k2Eq ?_) | (refine RunN.k2Ne ?_) | (refine ReadN.k2Eq ?_) | (refine ReadN.k2Ne ?_))
    refine ⟨?_, h.drop 1⟩
    rw [Mv.ep, hl]; rfl
  · have hl : e.lv i = false := hc
    repeat (first | (with_reducible refine NilP.mk ?_) | ((with_reducible refine RunN.isLoad ?_); (first | refine h.load2 0 0 ⟨_, rfl, rfl⟩ rfl ?_ | refine h.loadB 0 0 ⟨_, rfl, rfl⟩ rfl rfl ?_ | refine h.load2 1 0 ⟨_, rfl, rfl⟩ rfl ?_ | refine h.loadB 1 0 ⟨_, rfl, rfl⟩ rfl rfl ?_ | refine h.drew.load2 0 0 ⟨_, rfl, rfl⟩ rfl ?_ | refine h.drew.loadB 0 0 ⟨_, rfl, rfl⟩ rfl rfl ?_ | refine h.drew.load2 1 0 ⟨_, rfl, rfl⟩ rfl ?_ | refine h.drew.loadB 1 0 ⟨_, rfl, rfl⟩ rfl rfl ?_)) | ((with_reducible refine ReadN.isLoad ?_); (first | refine h.read2 0 0 ⟨_, rfl, rfl⟩ rfl ?_ | refine h.readB 0 0 ⟨_, rfl, rfl⟩ rfl rfl ?_ | refine h.read2 1 0 ⟨_, rfl, rfl⟩ rfl ?_ | refine h.readB 1 0 ⟨_, rfl, rfl⟩ rfl rfl ?_ | refine h.drew.read2 0 0 ⟨_, rfl, rfl⟩ rfl ?_ | refine h.drew.readB 0 0 ⟨_, rfl, rfl⟩ rfl rfl ?_ | refine h.drew.read2 1 0 ⟨_, rfl, rfl⟩ rfl ?_ | refine h.drew.readB 1 0 ⟨_, rfl, rfl⟩ rfl rfl ?_)) | ((with_reducible refine StillV.isLoad ?_); (first | refine ⟨h.stillB 0 0 ⟨_, rfl, rfl⟩ rfl rfl, ?_⟩ | refine ⟨h.still2 0 0 ⟨_, rfl, rfl⟩ rfl, ?_⟩ | refine ⟨h.stillB 1 0 ⟨_, rfl, rfl⟩ rfl rfl, ?_⟩ | refine ⟨h.still2 1 0 ⟨_, rfl, rfl⟩ rfl, ?_⟩)) | ((with_reducible refine RunU.isStor ?_); (first | (refine h.stor2 0 0 ⟨_, rfl, rfl⟩ rfl ?_; intro w h; dsimp only [updG, setO] at h) | (refine h.storB 0 0 ⟨_, rfl, rfl⟩ rfl rfl rfl ?_; intro w h; dsimp only [updG, setO] at h) | (refine h.stor2 1 0 ⟨_, rfl, rfl⟩ rfl ?_; intro w h; dsimp only [updG, setO] at h) | (refine h.storB 1 0 ⟨_, rfl, rfl⟩ rfl rfl rfl ?_; intro w h; dsimp only [updG, setO] at h) | (refine h.drew.stor2 0 0 ⟨_, rfl, rfl⟩ rfl ?_; intro w h; dsimp only [updG, setO] at h) | (refine h.drew.storB 0 0 ⟨_, rfl, rfl⟩ rfl rfl rfl ?_; intro w h; dsimp only [updG, setO] at h) | (refine h.drew.stor2 1 0 ⟨_, rfl, rfl⟩ rfl ?_; intro w h; dsimp only [updG, setO] at h) | (refine h.drew.storB 1 0 ⟨_, rfl, rfl⟩ rfl rfl rfl ?_; intro w h; dsimp only [updG, setO] at h))) | ((with_reducible refine RunN.isBox ?_); (first | (refine h.newB run_boxA rfl ?_; intro bn w h; try dsimp only at h; have h := h.ord 2 [1, 0]; dsimp only [pick, nthO, dropO] at h) | (refine h.drew.newB run_boxA rfl ?_; intro bn w h; try dsimp only at h; have h := h.ord 2 [1, 0]; dsimp only [pick, nthO, dropO] at h))) | ((with_reducible refine RunN.isNew ?_); (first | (refine h.newB (NewC.run _) rfl ?_; intro bn w h; have h := h.ord 2 [1, 0]; dsimp only [pick, nthO, dropO] at h) | (refine h.drew.newB (NewC.run _) rfl ?_; intro bn w h; have h := h.ord 2 [1, 0]; dsimp only [pick, nthO, dropO] at h))) | (refine RunN.k2Eq ?_) | (refine RunN.k2Ne ?_) | (refine ReadN.k2Eq ?_) | (refine ReadN.k2Ne ?_))
    refine ⟨?_, h.drop 1⟩
    rw [Mv.ep, hl]; rfl
theorem own_st {e : Em} {q : List A6} (h : St w0 w (emE e q :: F)) (hw : e.wf) : CallK Try.prog (.agg (.cons (.int .i64) (.cons (.int .i64) .nilT))) 25 #[.pointer e.p] w
    fun (v : Int × Int × Unit) w' => v = (e.own.1, e.own.2, ()) ∧ St w0 w' (emE e q :: F) := by
  refine T25.calls ?_
  unfold T25
  repeat (first | (with_reducible refine NilP.mk ?_) | ((with_reducible refine RunN.isLoad ?_); (first | refine h.load2 0 0 ⟨_, rfl, rfl⟩ rfl ?_ | refine h.loadB 0 0 ⟨_, rfl, rfl⟩ rfl rfl ?_ | refine h.load2 1 0 ⟨_, rfl, rfl⟩ rfl ?_ | refine h.loadB 1 0 ⟨_, rfl, rfl⟩ rfl rfl ?_ | refine h.drew.load2 0 0 ⟨_, rfl, rfl⟩ rfl ?_ | refine h.drew.loadB 0 0 ⟨_, rfl, rfl⟩ rfl rfl ?_ | refine h.drew.load2 1 0 ⟨_, rfl, rfl⟩ rfl ?_ | refine h.drew.loadB 1 0 ⟨_, rfl, rfl⟩ rfl rfl ?_)) | ((with_reducible refine ReadN.isLoad ?_); (first | refine h.read2 0 0 ⟨_, rfl, rfl⟩ rfl ?_ | refine h.readB 0 0 ⟨_, rfl, rfl⟩ rfl rfl ?_ | refine h.read2 1 0 ⟨_, rfl, rfl⟩ rfl ?_ | refine h.readB 1 0 ⟨_, rfl, rfl⟩ rfl rfl ?_ | refine h.drew.read2 0 0 ⟨_, rfl, rfl⟩ rfl ?_ | refine h.drew.readB 0 0 ⟨_, rfl, rfl⟩ rfl rfl ?_ | refine h.drew.read2 1 0 ⟨_, rfl, rfl⟩ rfl ?_ | refine h.drew.readB 1 0 ⟨_, rfl, rfl⟩ rfl rfl ?_)) | ((with_reducible refine StillV.isLoad ?_); (first | refine ⟨h.stillB 0 0 ⟨_, rfl, rfl⟩ rfl rfl, ?_⟩ | refine ⟨h.still2 0 0 ⟨_, rfl, rfl⟩ rfl, ?_⟩ | refine ⟨h.stillB 1 0 ⟨_, rfl, rfl⟩ rfl rfl, ?_⟩ | refine ⟨h.still2 1 0 ⟨_, rfl, rfl⟩ rfl, ?_⟩)) | ((with_reducible refine RunU.isStor ?_); (first | (refine h.stor2 0 0 ⟨_, rfl, rfl⟩ rfl ?_; intro w h; dsimp only [updG, setO] at h) | (refine h.storB 0 0 ⟨_, rfl, rfl⟩ rfl rfl rfl ?_; intro w h; dsimp only [updG, setO] at h) | (refine h.stor2 1 0 ⟨_, rfl, rfl⟩ rfl ?_; intro w h; dsimp only [updG, setO] at h) | (refine h.storB 1 0 ⟨_, rfl, rfl⟩ rfl rfl rfl ?_; intro w h; dsimp only [updG, setO] at h) | (refine h.drew.stor2 0 0 ⟨_, rfl, rfl⟩ rfl ?_; intro w h; dsimp only [updG, setO] at h) | (refine h.drew.storB 0 0 ⟨_, rfl, rfl⟩ rfl rfl rfl ?_; intro w h; dsimp only [updG, setO] at h) | (refine h.drew.stor2 1 0 ⟨_, rfl, rfl⟩ rfl ?_; intro w h; dsimp only [updG, setO] at h) | (refine h.drew.storB 1 0 ⟨_, rfl, rfl⟩ rfl rfl rfl ?_; intro w h; dsimp only [updG, setO] at h))) | ((with_reducible refine RunN.isBox ?_); (first | (refine h.newB run_boxA rfl ?_; intro bn w h; try dsimp only at h; have h := h.ord 2 [1, 0]; dsimp only [pick, nthO, dropO] at h) | (refine h.drew.newB run_boxA rfl ?_; intro bn w h; try dsimp only at h; have h := h.ord 2 [1, 0]; dsimp only [pick, nthO, dropO] at h))) | ((with_reducible refine RunN.isNew ?_); (first | (refine h.newB (NewC.run _) rfl ?_; intro bn w h; have h := h.ord 2 [1, 0]; dsimp only [pick, nthO, dropO] at h) | (refine h.drew.newB (NewC.run _) rfl ?_; intro bn w h; have h := h.ord 2 [1, 0]; dsimp only [pick, nthO, dropO] at h))) | (refine RunN.k2Eq ?_) | (refine RunN.k2Ne ?_) | (refine ReadN.k2Eq ?_) | (refine ReadN.k2Ne ?_))
  have hme := hw.me
  have hn := hw.n
  refine (live_st h hw (i := e.me) (by omega)).mono ?_
  rintro _ w1 ⟨rfl, h⟩
  repeat (first | (with_reducible refine NilP.mk ?_) | ((with_reducible refine RunN.isLoad ?_); (first | refine h.load2 0 0 ⟨_, rfl, rfl⟩ rfl ?_ | refine h.loadB 0 0 ⟨_, rfl, rfl⟩ rfl rfl ?_ | refine h.load2 1 0 ⟨_, rfl, rfl⟩ rfl ?_ | refine h.loadB 1 0 ⟨_, rfl, rfl⟩ rfl rfl ?_ | refine h.load2 2 0 ⟨_, rfl, rfl⟩ rfl ?_ | refine h.loadB 2 0 ⟨_, rfl, rfl⟩ rfl rfl ?_ | refine h.drew.load2 0 0 ⟨_, rfl, rfl⟩ rfl ?_ | refine h.drew.loadB 0 0 ⟨_, rfl, rfl⟩ rfl rfl ?_ | refine h.drew.load2 1 0 ⟨_, rfl, rfl⟩ rfl ?_ | refine h.drew.loadB 1 0 ⟨_, rfl, rfl⟩ rfl rfl ?_ | refine h.drew.load2 2 0 ⟨_, rfl, rfl⟩ rfl ?_ | refine h.drew.loadB 2 0 ⟨_, rfl, rfl⟩ rfl rfl ?_)) | ((with_reducible refine ReadN.isLoad ?_); (first | refine h.read2 0 0 ⟨_, rfl, rfl⟩ rfl ?_ | refine h.readB 0 0 ⟨_, rfl, rfl⟩ rfl rfl ?_ | refine h.read2 1 0 ⟨_, rfl, rfl⟩ rfl ?_ | refine h.readB 1 0 ⟨_, rfl, rfl⟩ rfl rfl ?_ | refine h.read2 2 0 ⟨_, rfl, rfl⟩ rfl ?_ | refine h.readB 2 0 ⟨_, rfl, rfl⟩ rfl rfl ?_ | refine h.drew.read2 0 0 ⟨_, rfl, rfl⟩ rfl ?_ | refine h.drew.readB 0 0 ⟨_, rfl, rfl⟩ rfl rfl ?_ | refine h.drew.read2 1 0 ⟨_, rfl, rfl⟩ rfl ?_ | refine h.drew.readB 1 0 ⟨_, rfl, rfl⟩ rfl rfl ?_ | refine h.drew.read2 2 0 ⟨_, rfl, rfl⟩ rfl ?_ | refine h.drew.readB 2 0 ⟨_, rfl, rfl⟩ rfl rfl ?_)) | ((with_reducible refine StillV.isLoad ?_); (first | refine ⟨h.stillB 0 0 ⟨_, rfl, rfl⟩ rfl rfl, ?_⟩ | refine ⟨h.still2 0 0 ⟨_, rfl, rfl⟩ rfl, ?_⟩ | refine ⟨h.stillB 1 0 ⟨_, rfl, rfl⟩ rfl rfl, ?_⟩ | refine ⟨h.still2 1 0 ⟨_, rfl, rfl⟩ rfl, ?_⟩ | refine ⟨h.stillB 2 0 ⟨_, rfl, rfl⟩ rfl rfl, ?_⟩ | refine ⟨h.still2 2 0 ⟨_, rfl, rfl⟩ rfl, ?_⟩)) | ((with_reducible refine RunU.isStor ?_); (first | (refine h.stor2 0 0 ⟨_, rfl, rfl⟩ rfl ?_; intro w h; dsimp only [updG, setO] at h) | (refine h.storB 0 0 ⟨_, rfl, rfl⟩ rfl rfl rfl ?_; intro w h; dsimp only [updG, setO] at h) | (refine h.stor2 1 0 ⟨_, rfl, rfl⟩ rfl ?_; intro w h; dsimp only [updG, setO] at h) | (refine h.storB 1 0 ⟨_, rfl, rfl⟩ rfl rfl rfl ?_; intro w h; dsimp only [updG, setO] at h) | (refine h.stor2 2 0 ⟨_, rfl, rfl⟩ rfl ?_; intro w h; dsimp only [updG, setO] at h) | (refine h.storB 2 0 ⟨_, rfl, rfl⟩ rfl rfl rfl ?_; intro w h; dsimp only [updG, setO] at h) | (refine h.drew.stor2 0 0 ⟨_, rfl, rfl⟩ rfl ?_; intro w h; dsimp only [updG, setO] at h) | (refine h.drew.storB 0 0 ⟨_, rfl, rfl⟩ rfl rfl rfl ?_; intro w h; dsimp only [updG, setO] at h) | (refine h.drew.stor2 1 0 ⟨_, rfl, rfl⟩ rfl ?_; intro w h; dsimp only [updG, setO] at h) | (refine h.drew.storB 1 0 ⟨_, rfl, rfl⟩ rfl rfl rfl ?_; intro w h; dsimp only [updG, setO] at h) | (refine h.drew.stor2 2 0 ⟨_, rfl, rfl⟩ rfl ?_; intro w h; dsimp only [updG, setO] at h) | (refine h.drew.storB 2 0 ⟨_, rfl, rfl⟩ rfl rfl rfl ?_; intro w h; dsimp only [updG, setO] at h))) | ((with_reducible refine RunN.isBox ?_); (first | (refine h.newB run_boxA rfl ?_; intro bn w h; try dsimp only at h; have h := h.ord 2 [1, 0]; dsimp only [pick, nthO, dropO] at h) | (refine h.drew.newB run_boxA rfl ?_; intro bn w h; try dsimp only at h; have h := h.ord 2 [1, 0]; dsimp only [pick, nthO, dropO] at h))) | ((with_reducible refine RunN.isNew ?_); (first | (refine h.newB (NewC.run _) rfl ?_; intro bn w h; have h := h.ord 2 [1, 0]; dsimp only [pick, nthO, dropO] at h) | (refine h.drew.newB (NewC.run _) rfl ?_; intro bn w h; have h := h.ord 2 [1, 0]; dsimp only [pick, nthO, dropO] at h))) | (refine RunN.k2Eq ?_) | (refine RunN.k2Ne ?_) | (refine ReadN.k2Eq ?_) | (refine ReadN.k2Ne ?_))
  exact ⟨rfl, (h.drop 1).drop 1⟩
theorem bs78 (w : World) (x y : Int) : (Instr.buildSlice 78 1 #[(0, .agg #[.int .i64 x, .int .i64 y])]).run Try.prog w = .ok (.slice (some ⟨w.heap.size, 0, none⟩) 1 1) (w.alloc (.cells ⟨[.int .i64 x, .int .i64 y]⟩ 54)) := by kernel_rfl
def Mv.livesTo (e : Mv) (m : Nat) : List Ep := ((List.range m).filter e.lv).map fun i => (gI e.kn i, (i : Int))
theorem livesTo_succ (e : Mv) (m : Nat) : e.livesTo (m + 1) = e.livesTo m ++ (if e.lv m = true then [(gI e.kn m, (m : Int))] else []) := by
  rw [Mv.livesTo, List.range_succ, List.filter_append, List.map_append, Mv.livesTo]
  congr 1
  rw [List.filter_cons, List.filter_nil]
  split <;> simp
theorem livesTo_len (e : Mv) (m : Nat) : (e.livesTo m).length ≤ m := by
  rw [Mv.livesTo, List.length_map]
  exact Nat.le_trans (List.length_filter_le _ _) (by simp)
theorem lives_st {e : Em} {q : List A6} (h : St w0 w (emE e q :: F)) (hw : e.wf) : CallK Try.prog .sl 28 #[.pointer e.p] w
    fun (s : Sl) w' => s.len = e.lives.length ∧ St w0 w' ([.row 54 2 s (eps e.lives)] :: emE e q :: F) := by
  refine T28.calls ?_
  unfold T28
  repeat (first | (with_reducible refine NilP.mk ?_) | ((with_reducible refine RunN.isLoad ?_); (first | refine h.load2 0 0 ⟨_, rfl, rfl⟩ rfl ?_ | refine h.loadB 0 0 ⟨_, rfl, rfl⟩ rfl rfl ?_ | refine h.drew.load2 0 0 ⟨_, rfl, rfl⟩ rfl ?_ | refine h.drew.loadB 0 0 ⟨_, rfl, rfl⟩ rfl rfl ?_)) | ((with_reducible refine ReadN.isLoad ?_); (first | refine h.read2 0 0 ⟨_, rfl, rfl⟩ rfl ?_ | refine h.readB 0 0 ⟨_, rfl, rfl⟩ rfl rfl ?_ | refine h.drew.read2 0 0 ⟨_, rfl, rfl⟩ rfl ?_ | refine h.drew.readB 0 0 ⟨_, rfl, rfl⟩ rfl rfl ?_)) | ((with_reducible refine StillV.isLoad ?_); (first | refine ⟨h.stillB 0 0 ⟨_, rfl, rfl⟩ rfl rfl, ?_⟩ | refine ⟨h.still2 0 0 ⟨_, rfl, rfl⟩ rfl, ?_⟩)) | ((with_reducible refine RunU.isStor ?_); (first | (refine h.stor2 0 0 ⟨_, rfl, rfl⟩ rfl ?_; intro w h; dsimp only [updG, setO] at h) | (refine h.storB 0 0 ⟨_, rfl, rfl⟩ rfl rfl rfl ?_; intro w h; dsimp only [updG, setO] at h) | (refine h.drew.stor2 0 0 ⟨_, rfl, rfl⟩ rfl ?_; intro w h; dsimp only [updG, setO] at h) | (refine h.drew.storB 0 0 ⟨_, rfl, rfl⟩ rfl rfl rfl ?_; intro w h; dsimp only [updG, setO] at h))) | ((with_reducible refine RunN.isBox ?_); (first | (refine h.newB run_boxA rfl ?_; intro bn w h; try dsimp only at h; have h := h.ord 2 [1, 0]; dsimp only [pick, nthO, dropO] at h) | (refine h.drew.newB run_boxA rfl ?_; intro bn w h; try dsimp only at h; have h := h.ord 2 [1, 0]; dsimp only [pick, nthO, dropO] at h))) | ((with_reducible refine RunN.isNew ?_); (first | (refine h.newB (NewC.run _) rfl ?_; intro bn w h; have h := h.ord 2 [1, 0]; dsimp only [pick, nthO, dropO] at h) | (refine h.drew.newB (NewC.run _) rfl ?_; intro bn w h; have h := h.ord 2 [1, 0]; dsimp only [pick, nthO, dropO] at h))) | (refine RunN.k2Eq ?_) | (refine RunN.k2Ne ?_) | (refine ReadN.k2Eq ?_) | (refine ReadN.k2Ne ?_))
  have hn := hw.n
  have h := h.nilrow 54 2
  refine LoopX.mk (fun st w' => ∃ (s : Sl) (m : Nat), st = (s, (m : Int), ()) ∧ m ≤ e.n ∧ s.len = (e.livesTo m).length ∧ St w0 w' ([.row 54 2 s (eps (e.livesTo m))] :: emE e q :: F)) (fun st => ((e.n : Int) - st.2.1).toNat) ⟨_, 0, rfl, Nat.zero_le _, rfl, h⟩ ?_
  clear h
  rintro _ w1 ⟨s, m, rfl, hm, hs, h⟩ k hk
  dsimp only at hk ⊢
  rw [SplitB_iff]
  refine ⟨fun hc => ?_, fun hc => ?_⟩
  · have hc : m < e.n := by have : (m : Int) < (e.n : Int) := of_decide_eq_true hc; omega
    have hem : IntKind.i64.wrap ((m : Int) + 1) = ((m + 1 : Nat) : Int) := by rw [wr (by omega)]; omega
    rw [hem]
    have h := h.ord 2 [1, 0]
    refine (live_st h hw (i := m) (by omega)).mono ?_
    rintro _ w2 ⟨rfl, h⟩
    have hll := livesTo_len e.toMv m
    repeat (first | (with_reducible refine NilP.mk ?_) | ((with_reducible refine RunN.isLoad ?_); (first | refine h.load2 0 0 ⟨_, rfl, rfl⟩ rfl ?_ | refine h.loadB 0 0 ⟨_, rfl, rfl⟩ rfl rfl ?_ | refine h.load2 1 0 ⟨_, rfl, rfl⟩ rfl ?_ | refine h.loadB 1 0 ⟨_, rfl, rfl⟩ rfl rfl ?_ | refine h.drew.load2 0 0 ⟨_, rfl, rfl⟩ rfl ?_ | refine h.drew.loadB 0 0 ⟨_, rfl, rfl⟩ rfl rfl ?_ | refine h.drew.load2 1 0 ⟨_, rfl, rfl⟩ rfl ?_ | refine h.drew.loadB 1 0 ⟨_, rfl, rfl⟩ rfl rfl ?_)) | ((with_reducible refine ReadN.isLoad ?_); (first | refine h.read2 0 0 ⟨_, rfl, rfl⟩ rfl ?_ | refine h.readB 0 0 ⟨_, rfl, rfl⟩ rfl rfl ?_ | refine h.read2 1 0 ⟨_, rfl, rfl⟩ rfl ?_ | refine h.readB 1 0 ⟨_, rfl, rfl⟩ rfl rfl ?_ | refine h.drew.read2 0 0 ⟨_, rfl, rfl⟩ rfl ?_ | refine h.drew.readB 0 0 ⟨_, rfl, rfl⟩ rfl rfl ?_ | refine h.drew.read2 1 0 ⟨_, rfl, rfl⟩ rfl ?_ | refine h.drew.readB 1 0 ⟨_, rfl, rfl⟩ rfl rfl ?_)) | ((with_reducible refine StillV.isLoad ?_); (first | refine ⟨h.stillB 0 0 ⟨_, rfl, rfl⟩ rfl rfl, ?_⟩ | refine ⟨h.still2 0 0 ⟨_, rfl, rfl⟩ rfl, ?_⟩ | refine ⟨h.stillB 1 0 ⟨_, rfl, rfl⟩ rfl rfl, ?_⟩ | refine ⟨h.still2 1 0 ⟨_, rfl, rfl⟩ rfl, ?_⟩)) | ((with_reducible refine RunU.isStor ?_); (first | (refine h.stor2 0 0 ⟨_, rfl, rfl⟩ rfl ?_; intro w h; dsimp only [updG, setO] at h) | (refine h.storB 0 0 ⟨_, rfl, rfl⟩ rfl rfl rfl ?_; intro w h; dsimp only [updG, setO] at h) | (refine h.stor2 1 0 ⟨_, rfl, rfl⟩ rfl ?_; intro w h; dsimp only [updG, setO] at h) | (refine h.storB 1 0 ⟨_, rfl, rfl⟩ rfl rfl rfl ?_; intro w h; dsimp only [updG, setO] at h) | (refine h.drew.stor2 0 0 ⟨_, rfl, rfl⟩ rfl ?_; intro w h; dsimp only [updG, setO] at h) | (refine h.drew.storB 0 0 ⟨_, rfl, rfl⟩ rfl rfl rfl ?_; intro w h; dsimp only [updG, setO] at h) | (refine h.drew.stor2 1 0 ⟨_, rfl, rfl⟩ rfl ?_; intro w h; dsimp only [updG, setO] at h) | (refine h.drew.storB 1 0 ⟨_, rfl, rfl⟩ rfl rfl rfl ?_; intro w h; dsimp only [updG, setO] at h))) | ((with_reducible refine RunN.isBox ?_); (first | (refine h.newB run_boxA rfl ?_; intro bn w h; try dsimp only at h; have h := h.ord 2 [1, 0]; dsimp only [pick, nthO, dropO] at h) | (refine h.drew.newB run_boxA rfl ?_; intro bn w h; try dsimp only at h; have h := h.ord 2 [1, 0]; dsimp only [pick, nthO, dropO] at h))) | ((with_reducible refine RunN.isNew ?_); (first | (refine h.newB (NewC.run _) rfl ?_; intro bn w h; have h := h.ord 2 [1, 0]; dsimp only [pick, nthO, dropO] at h) | (refine h.drew.newB (NewC.run _) rfl ?_; intro bn w h; have h := h.ord 2 [1, 0]; dsimp only [pick, nthO, dropO] at h))) | (refine RunN.k2Eq ?_) | (refine RunN.k2Ne ?_) | (refine ReadN.k2Eq ?_) | (refine ReadN.k2Ne ?_))
    rw [SplitB_iff]
    refine ⟨fun hl => ?_, fun hl => ?_⟩
    · have hl : e.lv m = true := hl
      have ee : e.ep m = (gI e.kn m, (m : Int)) := by rw [Mv.ep, if_pos hl]
      refine h.load2 1 0 ⟨_, rfl, rfl⟩ rfl ?_
      refine h.newS 2 (bs78 _ _ _) rfl rfl rfl ?_
      intro u w3 hu1 hu2 _ h
      dsimp only [pick, nthO, dropO] at h
      refine h.app 3 0 ⟨_, rfl, rfl⟩ (h.rd (k := 0) (i := 0) ⟨_, rfl, rfl⟩) (fun v hv => ?_) (by simp only [maxLen]; omega) (by omega) ?_
      · simp at hv; rcases hv with rfl | rfl <;> rfl
      intro s' w4 hl' h
      dsimp only [updG, setO] at h
      have h := (h.drop 0).ord 3 [2, 0]
      refine hk _ _ ⟨s', m + 1, rfl, by omega, ?_, ?_⟩ (by dsimp only; omega)
      · rw [livesTo_succ, if_pos hl, hl', hs, hu1]; simp
      · rw [livesTo_succ, if_pos hl, eps, List.flatMap_append]
        rw [ee] at h
        exact h
    · have hl : e.lv m = false := hl
      have h := h.ord 3 [2, 0]
      refine hk _ _ ⟨s, m + 1, rfl, by omega, ?_, ?_⟩ (by dsimp only; omega)
      · rw [livesTo_succ, if_neg (by rw [hl]; decide), List.append_nil]; exact hs
      · rw [livesTo_succ, if_neg (by rw [hl]; decide), List.append_nil]; exact h
  · have hc : m = e.n := by have : ¬ (m : Int) < (e.n : Int) := of_decide_eq_false hc; omega
    subst hc
    exact ⟨hs, h⟩
end Go.Proofs.Ytmfbmfppjdkeeaa

/- Rows of pieces that grow. -/
set_option linter.unusedVariables false
set_option linter.unusedSimpArgs false
namespace Go.Fw
open Go Go.RowKit
variable {w0 w : World} {G : Grps}
/-- A row that grows from its old one: it holds it as its beginning, or the old one is left. -/
def GrowS (E : TypeId) (sz : Nat) (w0 w : World) (q : Sl) (v : List Value) (d : Sl) (n : Nat) (e : List Value) (G : Grps) : Prop :=
  v.length = q.len * sz ∧ e.length = n * sz ∧ d.len = q.len + n ∧ (d.a = q.a ∧ d.cap = q.cap ∧ St w0 w ([.row E sz d (v ++ e)] :: G) ∨ St w0 w ([.row E sz d (v ++ e), .row E sz q v] :: G))
theorem GrowS.start {E : TypeId} {sz : Nat} {q : Sl} {v : List Value} {G : Grps} (h : St w0 w ([.row E sz q v] :: G)) : GrowS E sz w0 w q v q 0 [] G := by
  have hl := (h.rd (k := 0) (i := 0) ⟨_, rfl, rfl⟩).1
  exact ⟨hl, by simp, rfl, .inl ⟨rfl, rfl, by simpa using h⟩⟩
theorem GrowS.app {P : Program} {t E sz by_ : Nat} [et : Et P t E sz by_] (x : List Value) (hxl : x.length = sz) (hx : x.all Value.oneCell' = true) {s0 : Sem Value} (hbs : ∀ (w : World), s0.run P w = .ok (.slice (some ⟨w.heap.size, 0, none⟩) 1 1) (w.alloc (.cells ⟨x⟩ E)))
    {q : Sl} {v : List Value} {d : Sl} {n : Nat} {e : List Value} {G : Grps} (hg : GrowS E sz w0 w q v d n e G) (hl : (q.len + n + 1) * by_ ≤ 140737488355328) (hl2 : q.len + n ≤ 1048576000) {ty : TypeId} {K : Sl → World → Prop}
    (hk : ∀ d' w', GrowS E sz w0 w' q v d' (n + 1) (e ++ x) G → K d' w') :
    RunN P .sl (V s0) w fun u w =>
      RunN P .sl (V (Builtin.append_ #[t, t] ty #[.slice d.a d.len d.cap, .slice u.a u.len u.cap])) w fun u' w => K u' w := by
  obtain ⟨hql, hel, hdl, hc⟩ := hg
  have hone : ∀ y ∈ x, y.oneCell' = true := List.all_eq_true.1 hx
  have ebb : (v ++ e) ++ x = v ++ (e ++ x) := by rw [List.append_assoc]
  have hel2 : (e ++ x).length = (n + 1) * sz := by rw [List.length_append, hel, hxl, Nat.add_mul, Nat.one_mul]
  rcases hc with ⟨ha, hcap, h⟩ | h
  · refine h.newS sz (hbs _) rfl (by rw [Nat.one_mul]; exact hxl) hx ?_
    intro u w hl1 hc1 _ h
    have hru := h.rd (k := 0) (i := 0) ⟨_, rfl, rfl⟩
    refine h.appKeep 1 0 ⟨_, rfl, rfl⟩ hru hone (by simp only [maxLen]; omega) (by rw [hdl, hl1]; exact hl) ?_
    intro d' w hl' hd
    rw [ebb] at hd
    refine hk d' w ⟨hql, hel2, by omega, ?_⟩
    rcases hd with ⟨ha', hc', h⟩ | h
    · dsimp only [updG, setO] at h
      exact .inl ⟨ha'.trans ha, hc'.trans hcap, h.drop 0⟩
    · dsimp only [updG, delO, List.append_nil] at h
      have h := h.drop 0
      dsimp only [delO] at h
      have hrd := h.preR (k := 0) (i := 1) ⟨_, rfl, rfl⟩ (hi := q.len) (by omega)
      dsimp only [updG, setO] at hrd
      right
      have e1 : (v ++ e).take (q.len * sz) = v := by rw [← hql, List.take_append_of_le_length (by simp), List.take_of_length_le (by simp)]
      have e2 : subS d 0 q.len sz = q := by rw [subS_zero, ha, hcap]
      rw [e1, e2] at hrd
      exact hrd
  · refine h.newS sz (hbs _) rfl (by rw [Nat.one_mul]; exact hxl) hx ?_
    intro u w hl1 hc1 _ h
    have hru := h.rd (k := 0) (i := 0) ⟨_, rfl, rfl⟩
    refine h.app 1 0 ⟨_, rfl, rfl⟩ hru hone (by simp only [maxLen]; omega) (by rw [hdl, hl1]; exact hl) ?_
    intro d' w hl' h
    dsimp only [updG, setO] at h
    rw [ebb] at h
    exact hk d' w ⟨hql, hel2, by omega, .inr (h.drop 0)⟩
/-- What it grew from is there still. -/
theorem GrowS.done {E : TypeId} {sz : Nat} {q : Sl} {v : List Value} {d : Sl} {n : Nat} {e : List Value} (hg : GrowS E sz w0 w q v d n e G) : St w0 w ([.row E sz q v] :: G) := by
  obtain ⟨hql, hel, hdl, hc⟩ := hg
  rcases hc with ⟨ha, hcap, h⟩ | h
  · have hrd := h.preR (k := 0) (i := 0) ⟨_, rfl, rfl⟩ (hi := q.len) (by omega)
    dsimp only [updG, setO] at hrd
    have e1 : (v ++ e).take (q.len * sz) = v := by rw [← hql, List.take_append_of_le_length (by simp), List.take_of_length_le (by simp)]
    have e2 : subS d 0 q.len sz = q := by rw [subS_zero, ha, hcap]
    rw [e1, e2] at hrd
    exact hrd
  · exact (St.one.1 h).drop 0
/-- One that has grown: what it was is its beginning, or is left where it is. -/
def FarS (E : TypeId) (sz : Nat) (x y : Sl × List Value) (g : List Ent) : Prop :=
  (∃ e, y.2 = x.2 ++ e) ∧ x.2.length = x.1.len * sz ∧ x.1.len ≤ y.1.len ∧ x.1.len ≤ x.1.cap ∧ (g = [.row E sz y.1 y.2] ∧ y.1.a = x.1.a ∨ g = [.row E sz y.1 y.2, .row E sz x.1 x.2])
theorem FarS.reads {E : TypeId} {sz : Nat} {x y : Sl × List Value} {g : List Ent} (hf : FarS E sz x y g) (h : St w0 w G) {k : Nat} {gs : List Ent} (hk : nthO G k = some gs) (hg : ∀ e ∈ g, e ∈ gs) : Rd w y.1 sz y.2 ∧ Rd w x.1 sz x.2 := by
  obtain ⟨⟨e, h1⟩, h2, h3, h4, h5⟩ := hf
  have hy : Rd w y.1 sz y.2 := by
    have : Ent.row E sz y.1 y.2 ∈ gs := hg _ (by rcases h5 with ⟨h5, _⟩ | h5 <;> rw [h5] <;> simp)
    exact (h.memG k hk this).1.rd
  refine ⟨hy, ?_⟩
  rcases h5 with ⟨h5, ha⟩ | h5
  · have hp := hy.pre (hi := x.1.len) h3
    rw [subS_zero] at hp
    have e : y.2.take (x.1.len * sz) = x.2 := by rw [h1, ← h2, List.take_append_of_le_length (by simp), List.take_of_length_le (by simp)]
    rw [e] at hp
    refine ⟨h2, ?_, h4⟩
    rcases hp.2.1 with h0 | ⟨b, o, hb, hc⟩
    · exact .inl h0
    · exact .inr ⟨b, o, by rw [← ha]; exact hb, hc⟩
  · have : Ent.row E sz x.1 x.2 ∈ gs := hg _ (by rw [h5]; simp)
    exact (h.memG k hk this).1.rd
theorem GrowS.far {E : TypeId} {sz : Nat} {q : Sl} {v : List Value} {d : Sl} {n : Nat} {e : List Value} (hg : GrowS E sz w0 w q v d n e G) (hc : q.len ≤ q.cap) : ∃ g, FarS E sz (q, v) (d, v ++ e) g ∧ St w0 w (g :: G) := by
  obtain ⟨h1, h2, h3, h4⟩ := hg
  rcases h4 with ⟨ha, hcap, h⟩ | h
  · exact ⟨_, ⟨⟨e, rfl⟩, h1, by dsimp only; omega, hc, .inl ⟨rfl, ha⟩⟩, h⟩
  · exact ⟨_, ⟨⟨e, rfl⟩, h1, by dsimp only; omega, hc, .inr rfl⟩, h⟩
end Go.Fw

/- The epoch's machine: the target, the reports, what is to be done. -/
namespace Go.Proofs.Ytmfbmfppjdkeeaa
open Go Go.Fw Go.RowKit
set_option linter.unusedVariables false
set_option linter.unusedSimpArgs false
set_option maxRecDepth 4000
set_option maxHeartbeats 2000000
variable {w0 w : World} {F G : Grps}

theorem flat_len {α : Type} {f : α → List Value} {n : Nat} (hf : ∀ x, (f x).length = n) : ∀ l : List α, (l.flatMap f).length = l.length * n
  | [] => by simp
  | x :: r => by rw [List.flatMap_cons, List.length_append, hf, flat_len hf r, List.length_cons, Nat.add_mul]; omega
theorem flat_at {α : Type} {f : α → List Value} {n : Nat} (hf : ∀ x, (f x).length = n) (l : List α) (i : Nat) (hi : i < l.length) : ((l.flatMap f).drop (i * n)).take n = f l[i] := by
  have e1 : l = l.take i ++ l[i] :: l.drop (i + 1) := by rw [← List.drop_eq_getElem_cons hi, List.take_append_drop]
  have hA : ((l.take i).flatMap f).length = i * n := by rw [flat_len hf, List.length_take, Nat.min_eq_left (by omega)]
  have e3 : l.flatMap f = (l.take i).flatMap f ++ (f l[i] ++ (l.drop (i + 1)).flatMap f) := by
    conv => lhs; rw [e1]
    rw [List.flatMap_append, List.flatMap_cons]
  rw [e3, List.drop_append, hA, Nat.sub_self, List.drop_zero, List.drop_of_length_le (by omega), List.nil_append, List.take_append_of_le_length (by rw [hf]; exact Nat.le_refl _), List.take_of_length_le (by rw [hf]; exact Nat.le_refl _)]
theorem flat_cell {α : Type} {f : α → List Value} {n : Nat} (hf : ∀ x, (f x).length = n) {l : List α} {j : Nat} (hj : j < l.length) (m : Nat) (hm : m < n) : (l.flatMap f)[j * n + m]? = (f l[j])[m]? := by
  have h := congrArg (fun y => y[m]?) (flat_at hf l j hj)
  simp only [List.getElem?_take, if_pos hm, List.getElem?_drop] at h
  exact h
theorem flat_part {α : Type} {f : α → List Value} {n : Nat} (hf : ∀ x, (f x).length = n) {l : List α} {j : Nat} (hj : j < l.length) (a k : Nat) (h : a + k ≤ n) : ((l.flatMap f).drop (j * n + a)).take k = ((f l[j]).drop a).take k := by
  rw [← flat_at hf l j hj, List.drop_take, List.take_take, List.drop_drop, Nat.min_eq_left (by omega)]
theorem flat_one {α : Type} {f : α → List Value} (h1 : ∀ x, ∀ v ∈ f x, v.oneCell' = true) (l : List α) : ∀ v ∈ l.flatMap f, v.oneCell' = true := by
  intro v hv
  obtain ⟨x, _, hx⟩ := List.mem_flatMap.1 hv
  exact h1 x v hx
theorem epv_one (x : Ep) : ∀ v ∈ epv x, v.oneCell' = true := by intro v hv; simp [epv] at hv; rcases hv with rfl | rfl <;> rfl
theorem acv_one (x : A6) : ∀ v ∈ acv x, v.oneCell' = true := by intro v hv; simp [acv] at hv; rcases hv with rfl | rfl | rfl | rfl | rfl | rfl <;> rfl
theorem Rd.el2 {s : Sl} {l : List Ep} (h : Rd w s 2 (eps l)) {b o : Nat} (ha : s.a = some ⟨b, o, none⟩) {i : Nat} (hi : i < l.length) {K : (Int × Int × Unit) → World → Prop} (hk : K (l[i].1, l[i].2, ()) w) :
    RunN Try.prog (.agg (.cons (.int .i64) (.cons (.int .i64) .nilT))) (V (Instr.loadAt 54 (.pointer (some ⟨b, o + i * 2, none⟩)))) w K :=
  h.elA ha (i * 2) rfl (kd := Kd2) (l[i].1, l[i].2, ()) (flat_at epv_len _ _ hi) hk
theorem topE_snoc (l : List Ep) (x : Ep) : topE (l ++ [x]) = if x.1 ≥ (topE l).1 then x else topE l := by rw [topE, List.foldl_append]; rfl
theorem top_st {e : Em} {q : List A6} (h : St w0 w (emE e q :: F)) (hw : e.wf) : CallK Try.prog (.agg (.cons (.int .i64) (.cons (.int .i64) .nilT))) 51 #[.pointer e.p] w
    fun (v : Int × Int × Unit) w' => v = (e.top.1, e.top.2, ()) ∧ St w0 w' (emE e q :: F) := by
  refine T51.calls ?_
  unfold T51
  first | refine h.newB (NewC.run _) rfl ?_ | refine h.drew.newB (NewC.run _) rfl ?_
  intro b2 w h
  have h := h.ord 2 [1, 0]
  dsimp only [pick, nthO, dropO] at h
  first | refine h.newB (NewC.run _) rfl ?_ | refine h.drew.newB (NewC.run _) rfl ?_
  intro b1 w h
  have h := h.ord 2 [1, 0]
  dsimp only [pick, nthO, dropO] at h
  refine (lives_st h hw).mono ?_
  rintro s w1 ⟨hs, h⟩
  have hll := livesTo_len e.toMv e.n
  have hll : e.lives.length ≤ e.n := hll
  have hn := hw.n
  refine LoopX.mk (fun st w' => ∃ (m : Nat), st = ((m : Int), ()) ∧ m ≤ e.lives.length ∧ St w0 w' ([.row 54 2 s (eps e.lives)] :: emE e q :: [.cel b1 54 (epv (topE (e.lives.take m)))] :: [.cel b2 54 [.int .i64 0, .int .i64 0]] :: F)) (fun st => ((e.lives.length : Int) - st.1).toNat) ⟨0, rfl, Nat.zero_le _, h⟩ ?_
  clear h
  rintro _ w2 ⟨m, rfl, hm, h⟩ k hk
  dsimp only at hk ⊢
  rw [hs]
  rw [SplitB_iff]
  refine ⟨fun hc => ?_, fun hc => ?_⟩
  · have hc : m < e.lives.length := by have : (m : Int) < (e.lives.length : Int) := of_decide_eq_true hc; omega
    have hem : IntKind.i64.wrap ((m : Int) + 1) = ((m + 1 : Nat) : Int) := by rw [wr (by omega)]; omega
    rw [hem, ← hs]
    have hrr := h.rd (k := 0) (i := 0) (E := 54) (sz := 2) (s := s) (vs := eps e.lives) ⟨_, rfl, rfl⟩
    refine hrr.idxK m rfl (by omega) ?_
    intro g o ha
    refine Rd.el2 hrr ha hc ?_
    have et := topE_snoc (e.lives.take m) e.lives[m]
    rw [← List.take_succ_eq_append_getElem hc] at et
    have h : St w0 w2 ([.row 54 2 s (eps e.lives)] :: emE e q :: [.cel b1 54 [.int .i64 (topE (e.lives.take m)).1, .int .i64 (topE (e.lives.take m)).2]] :: [.cel b2 54 [.int .i64 0, .int .i64 0]] :: F) := h
    repeat (first | (with_reducible refine NilP.mk ?_) | ((with_reducible refine RunN.isLoad ?_); (first | refine h.load2 0 0 ⟨_, rfl, rfl⟩ rfl ?_ | refine h.loadB 0 0 ⟨_, rfl, rfl⟩ rfl rfl ?_ | refine h.load2 1 0 ⟨_, rfl, rfl⟩ rfl ?_ | refine h.loadB 1 0 ⟨_, rfl, rfl⟩ rfl rfl ?_ | refine h.load2 2 0 ⟨_, rfl, rfl⟩ rfl ?_ | refine h.loadB 2 0 ⟨_, rfl, rfl⟩ rfl rfl ?_ | refine h.load2 3 0 ⟨_, rfl, rfl⟩ rfl ?_ | refine h.loadB 3 0 ⟨_, rfl, rfl⟩ rfl rfl ?_ | refine h.drew.load2 0 0 ⟨_, rfl, rfl⟩ rfl ?_ | refine h.drew.loadB 0 0 ⟨_, rfl, rfl⟩ rfl rfl ?_ | refine h.drew.load2 1 0 ⟨_, rfl, rfl⟩ rfl ?_ | refine h.drew.loadB 1 0 ⟨_, rfl, rfl⟩ rfl rfl ?_ | refine h.drew.load2 2 0 ⟨_, rfl, rfl⟩ rfl ?_ | refine h.drew.loadB 2 0 ⟨_, rfl, rfl⟩ rfl rfl ?_ | refine h.drew.load2 3 0 ⟨_, rfl, rfl⟩ rfl ?_ | refine h.drew.loadB 3 0 ⟨_, rfl, rfl⟩ rfl rfl ?_)) | ((with_reducible refine ReadN.isLoad ?_); (first | refine h.read2 0 0 ⟨_, rfl, rfl⟩ rfl ?_ | refine h.readB 0 0 ⟨_, rfl, rfl⟩ rfl rfl ?_ | refine h.read2 1 0 ⟨_, rfl, rfl⟩ rfl ?_ | refine h.readB 1 0 ⟨_, rfl, rfl⟩ rfl rfl ?_ | refine h.read2 2 0 ⟨_, rfl, rfl⟩ rfl ?_ | refine h.readB 2 0 ⟨_, rfl, rfl⟩ rfl rfl ?_ | refine h.read2 3 0 ⟨_, rfl, rfl⟩ rfl ?_ | refine h.readB 3 0 ⟨_, rfl, rfl⟩ rfl rfl ?_ | refine h.drew.read2 0 0 ⟨_, rfl, rfl⟩ rfl ?_ | refine h.drew.readB 0 0 ⟨_, rfl, rfl⟩ rfl rfl ?_ | refine h.drew.read2 1 0 ⟨_, rfl, rfl⟩ rfl ?_ | refine h.drew.readB 1 0 ⟨_, rfl, rfl⟩ rfl rfl ?_ | refine h.drew.read2 2 0 ⟨_, rfl, rfl⟩ rfl ?_ | refine h.drew.readB 2 0 ⟨_, rfl, rfl⟩ rfl rfl ?_ | refine h.drew.read2 3 0 ⟨_, rfl, rfl⟩ rfl ?_ | refine h.drew.readB 3 0 ⟨_, rfl, rfl⟩ rfl rfl ?_)) | ((with_reducible refine StillV.isLoad ?_); (first | refine ⟨h.stillB 0 0 ⟨_, rfl, rfl⟩ rfl rfl, ?_⟩ | refine ⟨h.still2 0 0 ⟨_, rfl, rfl⟩ rfl, ?_⟩ | refine ⟨h.stillB 1 0 ⟨_, rfl, rfl⟩ rfl rfl, ?_⟩ | refine ⟨h.still2 1 0 ⟨_, rfl, rfl⟩ rfl, ?_⟩ | refine ⟨h.stillB 2 0 ⟨_, rfl, rfl⟩ rfl rfl, ?_⟩ | refine ⟨h.still2 2 0 ⟨_, rfl, rfl⟩ rfl, ?_⟩ | refine ⟨h.stillB 3 0 ⟨_, rfl, rfl⟩ rfl rfl, ?_⟩ | refine ⟨h.still2 3 0 ⟨_, rfl, rfl⟩ rfl, ?_⟩)) | ((with_reducible refine RunU.isStor ?_); (first | (refine h.stor2 0 0 ⟨_, rfl, rfl⟩ rfl ?_; intro w h; dsimp only [updG, setO] at h) | (refine h.storB 0 0 ⟨_, rfl, rfl⟩ rfl rfl rfl ?_; intro w h; dsimp only [updG, setO] at h) | (refine h.stor2 1 0 ⟨_, rfl, rfl⟩ rfl ?_; intro w h; dsimp only [updG, setO] at h) | (refine h.storB 1 0 ⟨_, rfl, rfl⟩ rfl rfl rfl ?_; intro w h; dsimp only [updG, setO] at h) | (refine h.stor2 2 0 ⟨_, rfl, rfl⟩ rfl ?_; intro w h; dsimp only [updG, setO] at h) | (refine h.storB 2 0 ⟨_, rfl, rfl⟩ rfl rfl rfl ?_; intro w h; dsimp only [updG, setO] at h) | (refine h.stor2 3 0 ⟨_, rfl, rfl⟩ rfl ?_; intro w h; dsimp only [updG, setO] at h) | (refine h.storB 3 0 ⟨_, rfl, rfl⟩ rfl rfl rfl ?_; intro w h; dsimp only [updG, setO] at h) | (refine h.drew.stor2 0 0 ⟨_, rfl, rfl⟩ rfl ?_; intro w h; dsimp only [updG, setO] at h) | (refine h.drew.storB 0 0 ⟨_, rfl, rfl⟩ rfl rfl rfl ?_; intro w h; dsimp only [updG, setO] at h) | (refine h.drew.stor2 1 0 ⟨_, rfl, rfl⟩ rfl ?_; intro w h; dsimp only [updG, setO] at h) | (refine h.drew.storB 1 0 ⟨_, rfl, rfl⟩ rfl rfl rfl ?_; intro w h; dsimp only [updG, setO] at h) | (refine h.drew.stor2 2 0 ⟨_, rfl, rfl⟩ rfl ?_; intro w h; dsimp only [updG, setO] at h) | (refine h.drew.storB 2 0 ⟨_, rfl, rfl⟩ rfl rfl rfl ?_; intro w h; dsimp only [updG, setO] at h) | (refine h.drew.stor2 3 0 ⟨_, rfl, rfl⟩ rfl ?_; intro w h; dsimp only [updG, setO] at h) | (refine h.drew.storB 3 0 ⟨_, rfl, rfl⟩ rfl rfl rfl ?_; intro w h; dsimp only [updG, setO] at h))) | ((with_reducible refine RunN.isBox ?_); (first | (refine h.newB run_boxA rfl ?_; intro bn w h; try dsimp only at h; have h := h.ord 2 [1, 0]; dsimp only [pick, nthO, dropO] at h) | (refine h.drew.newB run_boxA rfl ?_; intro bn w h; try dsimp only at h; have h := h.ord 2 [1, 0]; dsimp only [pick, nthO, dropO] at h))) | ((with_reducible refine RunN.isNew ?_); (first | (refine h.newB (NewC.run _) rfl ?_; intro bn w h; have h := h.ord 2 [1, 0]; dsimp only [pick, nthO, dropO] at h) | (refine h.drew.newB (NewC.run _) rfl ?_; intro bn w h; have h := h.ord 2 [1, 0]; dsimp only [pick, nthO, dropO] at h))) | (refine RunN.k2Eq ?_) | (refine RunN.k2Ne ?_) | (refine ReadN.k2Eq ?_) | (refine ReadN.k2Ne ?_))
    rw [SplitB_iff]
    refine ⟨fun hd => ?_, fun hd => ?_⟩
    · have hd : e.lives[m].1 ≥ (topE (e.lives.take m)).1 := of_decide_eq_true hd
      rw [if_pos hd] at et
      refine h.load2 1 0 ⟨_, rfl, rfl⟩ rfl ?_
      refine h.stor2 3 0 ⟨_, rfl, rfl⟩ rfl ?_
      intro w h
      dsimp only [updG, setO] at h
      refine hk _ _ ⟨m + 1, rfl, by omega, ?_⟩ (by dsimp only; omega)
      rw [et]
      exact h.drop 1
    · have hd : ¬ e.lives[m].1 ≥ (topE (e.lives.take m)).1 := of_decide_eq_false hd
      rw [if_neg hd] at et
      refine hk _ _ ⟨m + 1, rfl, by omega, ?_⟩ (by dsimp only; omega)
      rw [et]
      exact h.drop 1
  · have hc : m = e.lives.length := by have : ¬ (m : Int) < (e.lives.length : Int) := of_decide_eq_false hc; omega
    subst hc
    rw [List.take_length] at h
    have h : St w0 w2 ([.row 54 2 s (eps e.lives)] :: emE e q :: [.cel b1 54 [.int .i64 (topE e.lives).1, .int .i64 (topE e.lives).2]] :: [.cel b2 54 [.int .i64 0, .int .i64 0]] :: F) := h
    refine h.load2 2 0 ⟨_, rfl, rfl⟩ rfl ?_
    refine h.stor2 3 0 ⟨_, rfl, rfl⟩ rfl ?_
    intro w h
    dsimp only [updG, setO] at h
    refine h.read2 3 0 ⟨_, rfl, rfl⟩ rfl ?_
    exact ⟨rfl, ((h.drop 0).drop 1).drop 1⟩
theorem frozen_st {e : Em} {q : List A6} (h : St w0 w (emE e q :: F)) (hw : e.wf) : CallK Try.prog .bool 22 #[.pointer e.p] w fun (v : Bool) w' => v = someE e.top ∧ St w0 w' (emE e q :: F) := by
  refine T22.calls ?_
  unfold T22
  refine (top_st h hw).mono ?_
  rintro _ w1 ⟨rfl, h⟩
  refine (some_st h _ _).mono ?_
  rintro _ w2 ⟨rfl, h⟩
  exact ⟨rfl, h⟩
/-! ### reports -/
def repTo (l : List Int) (m : Nat) : Int := ((l.take m).map fun x => max x 0).sum
def Mv.reported (e : Mv) : Int := if someE e.own = true then repTo e.re e.n else 0
def Mv.all (e : Mv) : Bool := ((List.range e.n).all fun r => !(decide (r ≠ e.me) && gI e.re r == -1)) && someE e.own
theorem repTo_succ {l : List Int} {m : Nat} (h : m < l.length) : repTo l (m + 1) = repTo l m + max (gI l m) 0 := by
  rw [repTo, List.take_succ_eq_append_getElem h, List.map_append, List.sum_append, repTo, gI, List.getElem?_eq_getElem h]; simp
theorem repTo_bound {l : List Int} (hb : ∀ x ∈ l, -1 ≤ x ∧ x ≤ 1099511627776) : ∀ m, 0 ≤ repTo l m ∧ repTo l m ≤ m * 1099511627776 := by
  intro m
  induction m with
  | zero => simp [repTo]
  | succ m ih =>
    rcases Nat.lt_or_ge m l.length with h | h
    · rw [repTo_succ h]
      have := hb _ (gI_mem h)
      omega
    · have e : repTo l (m + 1) = repTo l m := by rw [repTo, repTo, List.take_of_length_le (by omega), List.take_of_length_le h]
      rw [e]; omega
theorem reported_st {e : Em} {q : List A6} (h : St w0 w (emE e q :: F)) (hw : e.wf) : CallK Try.prog (.int .i64) 49 #[.pointer e.p] w fun (v : Int) w' => v = e.reported ∧ St w0 w' (emE e q :: F) := by
  refine T49.calls ?_
  unfold T49
  refine (own_st h hw).mono ?_
  rintro _ w1 ⟨rfl, h⟩
  refine (some_st h _ _).mono ?_
  rintro _ w2 ⟨rfl, h⟩
  have hn := hw.n
  rw [SplitB_iff]
  refine ⟨fun hs => ?_, fun hs => ?_⟩
  · have hs : someE e.own = true := hs
    have hr : e.reported = repTo e.re e.n := if_pos hs
    repeat (first | (with_reducible refine NilP.mk ?_) | ((with_reducible refine RunN.isLoad ?_); (first | refine h.load2 0 0 ⟨_, rfl, rfl⟩ rfl ?_ | refine h.loadB 0 0 ⟨_, rfl, rfl⟩ rfl rfl ?_ | refine h.drew.load2 0 0 ⟨_, rfl, rfl⟩ rfl ?_ | refine h.drew.loadB 0 0 ⟨_, rfl, rfl⟩ rfl rfl ?_)) | ((with_reducible refine ReadN.isLoad ?_); (first | refine h.read2 0 0 ⟨_, rfl, rfl⟩ rfl ?_ | refine h.readB 0 0 ⟨_, rfl, rfl⟩ rfl rfl ?_ | refine h.drew.read2 0 0 ⟨_, rfl, rfl⟩ rfl ?_ | refine h.drew.readB 0 0 ⟨_, rfl, rfl⟩ rfl rfl ?_)) | ((with_reducible refine StillV.isLoad ?_); (first | refine ⟨h.stillB 0 0 ⟨_, rfl, rfl⟩ rfl rfl, ?_⟩ | refine ⟨h.still2 0 0 ⟨_, rfl, rfl⟩ rfl, ?_⟩)) | ((with_reducible refine RunU.isStor ?_); (first | (refine h.stor2 0 0 ⟨_, rfl, rfl⟩ rfl ?_; intro w h; dsimp only [updG, setO] at h) | (refine h.storB 0 0 ⟨_, rfl, rfl⟩ rfl rfl rfl ?_; intro w h; dsimp only [updG, setO] at h) | (refine h.drew.stor2 0 0 ⟨_, rfl, rfl⟩ rfl ?_; intro w h; dsimp only [updG, setO] at h) | (refine h.drew.storB 0 0 ⟨_, rfl, rfl⟩ rfl rfl rfl ?_; intro w h; dsimp only [updG, setO] at h))) | ((with_reducible refine RunN.isBox ?_); (first | (refine h.newB run_boxA rfl ?_; intro bn w h; try dsimp only at h; have h := h.ord 2 [1, 0]; dsimp only [pick, nthO, dropO] at h) | (refine h.drew.newB run_boxA rfl ?_; intro bn w h; try dsimp only at h; have h := h.ord 2 [1, 0]; dsimp only [pick, nthO, dropO] at h))) | ((with_reducible refine RunN.isNew ?_); (first | (refine h.newB (NewC.run _) rfl ?_; intro bn w h; have h := h.ord 2 [1, 0]; dsimp only [pick, nthO, dropO] at h) | (refine h.drew.newB (NewC.run _) rfl ?_; intro bn w h; have h := h.ord 2 [1, 0]; dsimp only [pick, nthO, dropO] at h))) | (refine RunN.k2Eq ?_) | (refine RunN.k2Ne ?_) | (refine ReadN.k2Eq ?_) | (refine ReadN.k2Ne ?_))
    refine LoopX.mk (fun st w' => ∃ (m : Nat), st = (repTo e.re m, (m : Int), ()) ∧ m ≤ e.n ∧ St w0 w' (emE e q :: F)) (fun st => ((e.n : Int) - st.2.1).toNat) ⟨0, rfl, Nat.zero_le _, h⟩ ?_
    clear h
    rintro _ w3 ⟨m, rfl, hm, h⟩ k hk
    dsimp only at hk ⊢
    rw [SplitB_iff]
    refine ⟨fun hc => ?_, fun hc => ?_⟩
    · have hc : m < e.n := by have : (m : Int) < (e.n : Int) := of_decide_eq_true hc; omega
      have hml : m < e.re.length := by rw [hw.rl]; omega
      have hem : IntKind.i64.wrap ((m : Int) + 1) = ((m + 1 : Nat) : Int) := by rw [wr (by omega)]; omega
      refine NilP.mk ?_
      refine RunN.arr rfl m rfl (by omega) ?_
      refine h.loadB 0 0 ⟨_, rfl, rfl⟩ rfl (kd := .int .i64) (x := gI e.re m) (r_at hw (by omega)) ?_
      refine RunN.of (kd := .int .i64) (max_i _ _ _) ?_
      have hb1 := repTo_bound hw.rb m
      have hb2 := hw.rb _ (gI_mem hml)
      have e3 : IntKind.i64.wrap (repTo e.re m + max (gI e.re m) 0) = repTo e.re (m + 1) := by rw [repTo_succ hml, wr (by omega)]
      rw [hem, e3]
      exact hk _ _ ⟨m + 1, rfl, by omega, h⟩ (by dsimp only; omega)
    · have hc : m = e.n := by have : ¬ (m : Int) < (e.n : Int) := of_decide_eq_false hc; omega
      subst hc
      exact ⟨hr.symm, h⟩
  · have hs : ¬ someE e.own = true := by rw [show someE e.own = false from hs]; decide
    exact ⟨(if_neg hs).symm, h⟩
theorem all_st {e : Em} {q : List A6} (h : St w0 w (emE e q :: F)) (hw : e.wf) : CallK Try.prog .bool 50 #[.pointer e.p] w fun (v : Bool) w' => v = e.all ∧ St w0 w' (emE e q :: F) := by
  refine T50.calls ?_
  unfold T50
  have hn := hw.n
  repeat (first | (with_reducible refine NilP.mk ?_) | ((with_reducible refine RunN.isLoad ?_); (first | refine h.load2 0 0 ⟨_, rfl, rfl⟩ rfl ?_ | refine h.loadB 0 0 ⟨_, rfl, rfl⟩ rfl rfl ?_ | refine h.drew.load2 0 0 ⟨_, rfl, rfl⟩ rfl ?_ | refine h.drew.loadB 0 0 ⟨_, rfl, rfl⟩ rfl rfl ?_)) | ((with_reducible refine ReadN.isLoad ?_); (first | refine h.read2 0 0 ⟨_, rfl, rfl⟩ rfl ?_ | refine h.readB 0 0 ⟨_, rfl, rfl⟩ rfl rfl ?_ | refine h.drew.read2 0 0 ⟨_, rfl, rfl⟩ rfl ?_ | refine h.drew.readB 0 0 ⟨_, rfl, rfl⟩ rfl rfl ?_)) | ((with_reducible refine StillV.isLoad ?_); (first | refine ⟨h.stillB 0 0 ⟨_, rfl, rfl⟩ rfl rfl, ?_⟩ | refine ⟨h.still2 0 0 ⟨_, rfl, rfl⟩ rfl, ?_⟩)) | ((with_reducible refine RunU.isStor ?_); (first | (refine h.stor2 0 0 ⟨_, rfl, rfl⟩ rfl ?_; intro w h; dsimp only [updG, setO] at h) | (refine h.storB 0 0 ⟨_, rfl, rfl⟩ rfl rfl rfl ?_; intro w h; dsimp only [updG, setO] at h) | (refine h.drew.stor2 0 0 ⟨_, rfl, rfl⟩ rfl ?_; intro w h; dsimp only [updG, setO] at h) | (refine h.drew.storB 0 0 ⟨_, rfl, rfl⟩ rfl rfl rfl ?_; intro w h; dsimp only [updG, setO] at h))) | ((with_reducible refine RunN.isBox ?_); (first | (refine h.newB run_boxA rfl ?_; intro bn w h; try dsimp only at h; have h := h.ord 2 [1, 0]; dsimp only [pick, nthO, dropO] at h) | (refine h.drew.newB run_boxA rfl ?_; intro bn w h; try dsimp only at h; have h := h.ord 2 [1, 0]; dsimp only [pick, nthO, dropO] at h))) | ((with_reducible refine RunN.isNew ?_); (first | (refine h.newB (NewC.run _) rfl ?_; intro bn w h; have h := h.ord 2 [1, 0]; dsimp only [pick, nthO, dropO] at h) | (refine h.drew.newB (NewC.run _) rfl ?_; intro bn w h; have h := h.ord 2 [1, 0]; dsimp only [pick, nthO, dropO] at h))) | (refine RunN.k2Eq ?_) | (refine RunN.k2Ne ?_) | (refine ReadN.k2Eq ?_) | (refine ReadN.k2Ne ?_))
  refine LoopX.mk (fun st w' => ∃ (m : Nat), st = ((m : Int), ()) ∧ m ≤ e.n ∧ (∀ r, r < m → ¬ (r ≠ e.me ∧ gI e.re r = -1)) ∧ St w0 w' (emE e q :: F)) (fun st => ((e.n : Int) - st.1).toNat) ⟨0, rfl, Nat.zero_le _, fun r hr => by omega, h⟩ ?_
  clear h
  rintro _ w3 ⟨m, rfl, hm, hall, h⟩ k hk
  dsimp only at hk ⊢
  rw [SplitB_iff]
  refine ⟨fun hc => ?_, fun hc => ?_⟩
  · have hc : m < e.n := by have : (m : Int) < (e.n : Int) := of_decide_eq_true hc; omega
    have hml : m < e.re.length := by rw [hw.rl]; omega
    have hem : IntKind.i64.wrap ((m : Int) + 1) = ((m + 1 : Nat) : Int) := by rw [wr (by omega)]; omega
    rw [hem]
    refine JoinX.mk (fun (y : Bool × Unit) w' => y.1 = decide (m ≠ e.me ∧ gI e.re m = -1) ∧ St w0 w' (emE e q :: F)) ?_ ?_
    · rintro ⟨y, ⟨⟩⟩ w4 ⟨hy, h⟩
      dsimp only at hy
      subst hy
      rw [SplitB_iff]
      refine ⟨fun hd => ?_, fun hd => ?_⟩
      · have hd := of_decide_eq_true hd
        refine ⟨?_, h⟩
        have : (((List.range e.n).all fun r => !(decide (r ≠ e.me) && gI e.re r == -1)) && someE e.own) = false := by
          rw [Bool.and_eq_false_iff]; left
          rw [List.all_eq_false]
          exact ⟨m, List.mem_range.2 hc, by simp [hd.1, hd.2]⟩
        exact this.symm
      · have hd := of_decide_eq_false hd
        refine hk _ _ ⟨m + 1, rfl, by omega, fun r hr => ?_, h⟩ (by dsimp only; omega)
        rcases Nat.lt_or_ge r m with h1 | h1
        · exact hall r h1
        · have : r = m := by omega
          subst this; exact hd
    · intro k3 hk3
      repeat (first | (with_reducible refine NilP.mk ?_) | ((with_reducible refine RunN.isLoad ?_); (first | refine h.load2 0 0 ⟨_, rfl, rfl⟩ rfl ?_ | refine h.loadB 0 0 ⟨_, rfl, rfl⟩ rfl rfl ?_ | refine h.drew.load2 0 0 ⟨_, rfl, rfl⟩ rfl ?_ | refine h.drew.loadB 0 0 ⟨_, rfl, rfl⟩ rfl rfl ?_)) | ((with_reducible refine ReadN.isLoad ?_); (first | refine h.read2 0 0 ⟨_, rfl, rfl⟩ rfl ?_ | refine h.readB 0 0 ⟨_, rfl, rfl⟩ rfl rfl ?_ | refine h.drew.read2 0 0 ⟨_, rfl, rfl⟩ rfl ?_ | refine h.drew.readB 0 0 ⟨_, rfl, rfl⟩ rfl rfl ?_)) | ((with_reducible refine StillV.isLoad ?_); (first | refine ⟨h.stillB 0 0 ⟨_, rfl, rfl⟩ rfl rfl, ?_⟩ | refine ⟨h.still2 0 0 ⟨_, rfl, rfl⟩ rfl, ?_⟩)) | ((with_reducible refine RunU.isStor ?_); (first | (refine h.stor2 0 0 ⟨_, rfl, rfl⟩ rfl ?_; intro w h; dsimp only [updG, setO] at h) | (refine h.storB 0 0 ⟨_, rfl, rfl⟩ rfl rfl rfl ?_; intro w h; dsimp only [updG, setO] at h) | (refine h.drew.stor2 0 0 ⟨_, rfl, rfl⟩ rfl ?_; intro w h; dsimp only [updG, setO] at h) | (refine h.drew.storB 0 0 ⟨_, rfl, rfl⟩ rfl rfl rfl ?_; intro w h; dsimp only [updG, setO] at h))) | ((with_reducible refine RunN.isBox ?_); (first | (refine h.newB run_boxA rfl ?_; intro bn w h; try dsimp only at h; have h := h.ord 2 [1, 0]; dsimp only [pick, nthO, dropO] at h) | (refine h.drew.newB run_boxA rfl ?_; intro bn w h; try dsimp only at h; have h := h.ord 2 [1, 0]; dsimp only [pick, nthO, dropO] at h))) | ((with_reducible refine RunN.isNew ?_); (first | (refine h.newB (NewC.run _) rfl ?_; intro bn w h; have h := h.ord 2 [1, 0]; dsimp only [pick, nthO, dropO] at h) | (refine h.drew.newB (NewC.run _) rfl ?_; intro bn w h; have h := h.ord 2 [1, 0]; dsimp only [pick, nthO, dropO] at h))) | (refine RunN.k2Eq ?_) | (refine RunN.k2Ne ?_) | (refine ReadN.k2Eq ?_) | (refine ReadN.k2Ne ?_))
      rw [SplitB_iff]
      refine ⟨fun hd => ?_, fun hd => ?_⟩
      · have hd : m ≠ e.me := by
          intro he; subst he; simp at hd
        refine NilP.mk ?_
        refine RunN.arr rfl m rfl (by omega) ?_
        refine h.loadB 0 0 ⟨_, rfl, rfl⟩ rfl (kd := .int .i64) (x := gI e.re m) (r_at hw (by omega)) ?_
        refine hk3 _ _ ⟨?_, h⟩
        dsimp only
        by_cases h1 : gI e.re m = -1
        · simp [h1, hd]
        · simp [h1]
      · have hd : m = e.me := by
          have : (m : Int) = (e.me : Int) := by simpa using hd
          omega
        exact hk3 _ _ ⟨by simp [hd], h⟩
  · have hc : m = e.n := by have : ¬ (m : Int) < (e.n : Int) := of_decide_eq_false hc; omega
    subst hc
    refine (own_st h hw).mono ?_
    rintro _ w4 ⟨rfl, h⟩
    refine (some_st h _ _).mono ?_
    rintro _ w5 ⟨rfl, h⟩
    refine ⟨?_, h⟩
    have : ((List.range e.n).all fun r => !(decide (r ≠ e.me) && gI e.re r == -1)) = true := by
      rw [List.all_eq_true]
      intro r hr
      have := hall r (List.mem_range.1 hr)
      by_cases h1 : r = e.me
      · simp [h1]
      · have h2 : ¬ gI e.re r = -1 := fun h2 => this ⟨h1, h2⟩
        simp [h2]
    rw [Mv.all, this, Bool.true_and]
/-! ### amounts -/
def okA (l : List Int) : Bool := l.all fun x => decide (0 ≤ x ∧ x ≤ 1099511627776)
theorem amount_st {s : Sl} {l : List Int} (h : Rd w s 1 (lin l)) (hl : l.length ≤ 1000) : CallK Try.prog .bool 45 #[.slice s.a s.len s.cap] w fun (v : Bool) w' => v = okA l ∧ w' = w := by
  have hsl : s.len = l.length := by have := h.1; rw [lin_len] at this; omega
  refine T45.calls ?_
  unfold T45
  refine LoopX.mk (fun st w' => ∃ (m : Nat), st = ((m : Int), ()) ∧ m ≤ l.length ∧ okA (l.take m) = true ∧ w' = w) (fun st => ((l.length : Int) - st.1).toNat) ⟨0, rfl, Nat.zero_le _, rfl, rfl⟩ ?_
  rintro _ w3 ⟨m, rfl, hm, hall, rfl⟩ k hk
  dsimp only at hk ⊢
  rw [SplitB_iff]
  refine ⟨fun hc => ?_, fun hc => ?_⟩
  · have hc : m < l.length := by have : (m : Int) < (s.len : Int) := of_decide_eq_true hc; omega
    have hem : IntKind.i64.wrap ((m : Int) + 1) = ((m + 1 : Nat) : Int) := by rw [wr (by omega)]; omega
    rw [hem]
    refine h.idxK m rfl (by omega) ?_
    intro g o ha
    refine h.el ha (m * 1) rfl (kd := .int .i64) (x := l[m]) (by rw [Nat.mul_one]; exact lin_at hc) ?_
    refine JoinX.mk (fun (y : Bool × Unit) w' => y.1 = !decide (0 ≤ l[m] ∧ l[m] ≤ 1099511627776) ∧ w' = w3) ?_ ?_
    · rintro ⟨y, ⟨⟩⟩ w4 ⟨hy, rfl⟩
      dsimp only at hy
      subst hy
      rw [SplitB_iff]
      refine ⟨fun hd => ?_, fun hd => ?_⟩
      · refine ⟨?_, rfl⟩
        have : okA l = false := by
          rw [okA, List.all_eq_false]
          exact ⟨l[m], List.getElem_mem hc, by simp at hd ⊢; omega⟩
        exact this.symm
      · refine hk _ _ ⟨m + 1, rfl, by omega, ?_, rfl⟩ (by dsimp only; omega)
        rw [List.take_succ_eq_append_getElem hc, okA, List.all_append]
        have h2 : decide (0 ≤ l[m] ∧ l[m] ≤ 1099511627776) = true := by simpa using hd
        simp only [List.all_cons, List.all_nil, h2, Bool.and_true]
        exact hall
    · intro k3 hk3
      rw [SplitB_iff]
      refine ⟨fun hd => ?_, fun hd => ?_⟩
      · have hd : l[m] < 0 := of_decide_eq_true hd
        refine hk3 _ _ ⟨?_, rfl⟩
        dsimp only
        rw [decide_eq_false (by omega)]; rfl
      · have hd : ¬ l[m] < 0 := of_decide_eq_false hd
        refine hk3 _ _ ⟨?_, rfl⟩
        dsimp only
        by_cases h2 : l[m] > 1099511627776
        · rw [decide_eq_true h2, decide_eq_false (by omega)]; rfl
        · rw [decide_eq_false h2, decide_eq_true (by omega)]; rfl
  · have hc : m = l.length := by have : ¬ (m : Int) < (s.len : Int) := of_decide_eq_false hc; omega
    subst hc
    rw [List.take_length] at hall
    exact ⟨hall.symm, rfl⟩
/-! ### acts -/
theorem put_st {e : Em} {q : List A6} (h : St w0 w (emE e q :: F)) (hw : e.wf) (hq : q.length < 4) (a : A6) : CallK Try.prog (.tup .nilT) 46 #[.pointer e.p, aco a] w fun (v : Unit) w' => St w0 w' (emE { e with cs := e.cs + 1 } (q ++ [a]) :: F) := by
  refine T46.calls (p1 := act a) ?_
  unfold T46
  refine h.newB run_boxA rfl ?_
  intro bn w h
  have h := h.ord 2 [1, 0]
  dsimp only [pick, nthO, dropO] at h
  refine NilP.mk ?_
  refine h.loadB 0 0 ⟨_, rfl, rfl⟩ rfl (kd := .chan) (x := some e.ch) (ch_at hw) ?_
  refine h.load6 1 0 ⟨_, rfl, rfl⟩ rfl ?_
  refine h.send 0 1 ⟨_, rfl, rfl⟩ (by simpa using hq) (zero70 _) ?_
  intro w2 h
  have h : St w0 w2 (emE { e with cs := e.cs + 1 } (q ++ [a]) :: F) := by
    have h := h.drop 1
    dsimp only [updG, setO, delO, emE] at h
    rw [emE, List.map_append]
    exact h
  rw [SplitB_iff]
  exact ⟨fun _ => h, fun _ => h⟩
theorem bs66 (w : World) (a : A6) : (Instr.buildSlice 66 1 #[(0, aco a)]).run Try.prog w = .ok (.slice (some ⟨w.heap.size, 0, none⟩) 1 1) (w.alloc (.cells ⟨acv a⟩ 70)) := by kernel_rfl
theorem taken_st {e : Em} {q : List A6} (h : St w0 w (emE e q :: F)) (hw : e.wf) (hq : q.length ≤ 4) : CallK Try.prog .sl 47 #[.pointer e.p] w
    fun (s : Sl) w' => s.len = q.length ∧ St w0 w' ([.row 70 6 s (acs q)] :: emE { e with cr := e.cr + q.length } [] :: F) := by
  refine T47.calls ?_
  unfold T47
  have h := h.nilrow 70 6
  refine LoopX.mk (fun st w' => ∃ (s : Sl) (m : Nat), st = (s, ()) ∧ m ≤ q.length ∧ s.len = m ∧ St w0 w' ([.row 70 6 s (acs (q.take m))] :: emE { e with cr := e.cr + m } (q.drop m) :: F)) (fun st => q.length - st.1.len) ⟨_, 0, rfl, Nat.zero_le _, rfl, h⟩ ?_
  clear h
  rintro _ w1 ⟨s, m, rfl, hm, hs, h⟩ k hk
  dsimp only at hk ⊢
  have hw1 : ({ e with cr := e.cr + m } : Em).wf := hw
  refine NilP.mk ?_
  refine h.loadB 1 0 ⟨_, rfl, rfl⟩ rfl (kd := .chan) (x := some e.ch) (ch_at hw1) ?_
  by_cases hc : m < q.length
  · rw [List.drop_eq_getElem_cons hc] at h
    refine h.recv 1 1 (kd := Kd6) (x := act q[m]) ⟨_, rfl, rfl⟩ (zero70 _) ?_
    intro w2 h
    rw [SplitB_iff]
    refine ⟨fun _ => ?_, fun hf => (by cases hf)⟩
    refine h.newB (NewC.run _) rfl ?_
    intro b w3 h
    refine h.storA 0 0 ⟨_, rfl, rfl⟩ (t' := 70) (n := 6) (j := 0) rfl (ds := acv q[m]) rfl rfl rfl ?_
    intro w4 h
    refine RunN.of (kd := Kd6) (x := act q[m]) (h.run_loadA (k := 0) (i := 0) (b := b) (t := 70) (cs := acv q[m]) ⟨_, rfl, rfl⟩ (t' := 70) (n := 6) (j := 0) rfl (vs := acv q[m]) rfl rfl) ?_
    refine h.newS 6 (bs66 _ q[m]) rfl rfl rfl ?_
    intro u w5 hu1 hu2 _ h
    refine h.app 2 0 ⟨_, rfl, rfl⟩ (h.rd (k := 0) (i := 0) ⟨_, rfl, rfl⟩) (acv_one _) (by simp only [maxLen]; omega) (by omega) ?_
    intro s' w6 hl h
    have h := (h.drop 0).drop 0
    refine hk _ _ ⟨s', m + 1, rfl, by omega, by omega, ?_⟩ (by dsimp only; omega)
    rw [List.take_succ_eq_append_getElem hc, acs, List.flatMap_append]
    have e2 : [q[m]].flatMap acv = acv q[m] := by simp
    rw [e2]
    exact h
  · have hc : m = q.length := by omega
    subst hc
    rw [List.drop_length] at h
    refine h.recvNo 1 1 ⟨_, rfl, rfl⟩ (zero70 _) ?_
    rw [SplitB_iff]
    refine ⟨fun hf => (by cases hf), fun _ => ?_⟩
    rw [List.take_length] at h
    exact ⟨hs, h⟩
end Go.Proofs.Ytmfbmfppjdkeeaa

/- The epoch's machine: what it hears, and what comes behind a change. -/
namespace Go.Proofs.Ytmfbmfppjdkeeaa
open Go Go.Fw Go.RowKit
set_option linter.unusedVariables false
set_option linter.unusedSimpArgs false
set_option maxRecDepth 4000
set_option maxHeartbeats 2000000
variable {w0 w : World} {F G : Grps}

def Mv.foreign (e : Mv) (x : Ep) : Prop := ¬ (x.1 < 1 ∨ x.1 > 1099511627776 ∨ x.2 < 0 ∨ x.2 ≥ (e.n : Int) ∨ x.2 = (e.me : Int))
instance (e : Mv) (x : Ep) : Decidable (e.foreign x) := by unfold Mv.foreign; exact inferInstance
def Mv.told (e : Mv) (x : Ep) (ended : Bool) : Mv :=
  if e.foreign x then { e with kn := e.kn.set x.2.toNat (max (gI e.kn x.2.toNat) x.1), fi := if ended = true then e.fi.set x.2.toNat (max (gI e.fi x.2.toNat) x.1) else e.fi } else e
theorem wf_told {e : Mv} (h : e.wf) (x : Ep) (b : Bool) : (e.told x b).wf := by
  rw [Mv.told]
  split
  · rename_i hf
    simp only [Mv.foreign, not_or] at hf
    have hi : x.2.toNat < 16 := by have := h.n; omega
    have hk := h.kb _ (gI_mem (l := e.kn) (i := x.2.toNat) (by rw [h.kl]; exact hi))
    have hfi := h.fb _ (gI_mem (l := e.fi) (i := x.2.toNat) (by rw [h.fl]; exact hi))
    refine ⟨h.n, h.me, by simp [h.kl], by dsimp only; split <;> simp [h.fl], h.rl, fun y hy => ?_, fun y hy => ?_, h.rb⟩
    · rcases List.mem_or_eq_of_mem_set hy with hy | rfl
      · exact h.kb _ hy
      · omega
    · dsimp only at hy
      split at hy
      · rcases List.mem_or_eq_of_mem_set hy with hy | rfl
        · exact h.fb _ hy
        · omega
      · exact h.fb _ hy
  · exact h
theorem told_st {e : Em} {q : List A6} (h : St w0 w (emE e q :: F)) (hw : e.wf) (x : Ep) (b : Bool) : CallK Try.prog (.tup .nilT) 61 #[.pointer e.p, .agg #[.int .i64 x.1, .int .i64 x.2], .bool b] w
    fun (_ : Unit) w' => St w0 w' (emE { e with toMv := e.told x b } q :: F) := by
  refine T61.calls (p1 := (x.1, x.2, ())) ?_
  unfold T61
  have hn := hw.n
  first | refine h.newB run_boxA rfl ?_ | refine h.drew.newB run_boxA rfl ?_
  intro b4 w h
  have h := h.ord 2 [1, 0]
  dsimp only [pick, nthO, dropO] at h
  refine JoinX.mk (fun (y : Bool × Unit) w' => y.1 = !decide (e.foreign x) ∧ St w0 w' (emE e q :: [.cel b4 54 [.int .i64 x.1, .int .i64 x.2]] :: F)) ?_ ?_
  · rintro ⟨y, ⟨⟩⟩ w1 ⟨hy, h⟩
    dsimp only at hy
    subst hy
    rw [SplitB_iff]
    refine ⟨fun hc => ?_, fun hc => ?_⟩
    · have hf : ¬ e.foreign x := by simpa using hc
      rw [Mv.told, if_neg hf]
      exact h.drop 1
    · have hf : e.foreign x := by simpa using hc
      rw [Mv.told, if_pos hf]
      simp only [Mv.foreign, not_or] at hf
      obtain ⟨i, hi⟩ := Int.eq_ofNat_of_zero_le (show 0 ≤ x.2 by omega)
      have hin : x.2.toNat = i := by omega
      have hi16 : i < 16 := by omega
      rw [hin]
      repeat (first | (with_reducible refine NilP.mk ?_) | ((with_reducible refine RunN.isLoad ?_); (first | refine h.load2 0 0 ⟨_, rfl, rfl⟩ rfl ?_ | refine h.loadB 0 0 ⟨_, rfl, rfl⟩ rfl rfl ?_ | refine h.load2 1 0 ⟨_, rfl, rfl⟩ rfl ?_ | refine h.loadB 1 0 ⟨_, rfl, rfl⟩ rfl rfl ?_ | refine h.drew.load2 0 0 ⟨_, rfl, rfl⟩ rfl ?_ | refine h.drew.loadB 0 0 ⟨_, rfl, rfl⟩ rfl rfl ?_ | refine h.drew.load2 1 0 ⟨_, rfl, rfl⟩ rfl ?_ | refine h.drew.loadB 1 0 ⟨_, rfl, rfl⟩ rfl rfl ?_)) | ((with_reducible refine ReadN.isLoad ?_); (first | refine h.read2 0 0 ⟨_, rfl, rfl⟩ rfl ?_ | refine h.readB 0 0 ⟨_, rfl, rfl⟩ rfl rfl ?_ | refine h.read2 1 0 ⟨_, rfl, rfl⟩ rfl ?_ | refine h.readB 1 0 ⟨_, rfl, rfl⟩ rfl rfl ?_ | refine h.drew.read2 0 0 ⟨_, rfl, rfl⟩ rfl ?_ | refine h.drew.readB 0 0 ⟨_, rfl, rfl⟩ rfl rfl ?_ | refine h.drew.read2 1 0 ⟨_, rfl, rfl⟩ rfl ?_ | refine h.drew.readB 1 0 ⟨_, rfl, rfl⟩ rfl rfl ?_)) | ((with_reducible refine StillV.isLoad ?_); (first | refine ⟨h.stillB 0 0 ⟨_, rfl, rfl⟩ rfl rfl, ?_⟩ | refine ⟨h.still2 0 0 ⟨_, rfl, rfl⟩ rfl, ?_⟩ | refine ⟨h.stillB 1 0 ⟨_, rfl, rfl⟩ rfl rfl, ?_⟩ | refine ⟨h.still2 1 0 ⟨_, rfl, rfl⟩ rfl, ?_⟩)) | ((with_reducible refine RunU.isStor ?_); (first | (refine h.stor2 0 0 ⟨_, rfl, rfl⟩ rfl ?_; intro w h; dsimp only [updG, setO] at h) | (refine h.storB 0 0 ⟨_, rfl, rfl⟩ rfl rfl rfl ?_; intro w h; dsimp only [updG, setO] at h) | (refine h.stor2 1 0 ⟨_, rfl, rfl⟩ rfl ?_; intro w h; dsimp only [updG, setO] at h) | (refine h.storB 1 0 ⟨_, rfl, rfl⟩ rfl rfl rfl ?_; intro w h; dsimp only [updG, setO] at h) | (refine h.drew.stor2 0 0 ⟨_, rfl, rfl⟩ rfl ?_; intro w h; dsimp only [updG, setO] at h) | (refine h.drew.storB 0 0 ⟨_, rfl, rfl⟩ rfl rfl rfl ?_; intro w h; dsimp only [updG, setO] at h) | (refine h.drew.stor2 1 0 ⟨_, rfl, rfl⟩ rfl ?_; intro w h; dsimp only [updG, setO] at h) | (refine h.drew.storB 1 0 ⟨_, rfl, rfl⟩ rfl rfl rfl ?_; intro w h; dsimp only [updG, setO] at h))) | ((with_reducible refine RunN.isBox ?_); (first | (refine h.newB run_boxA rfl ?_; intro bn w h; try dsimp only at h; have h := h.ord 2 [1, 0]; dsimp only [pick, nthO, dropO] at h) | (refine h.drew.newB run_boxA rfl ?_; intro bn w h; try dsimp only at h; have h := h.ord 2 [1, 0]; dsimp only [pick, nthO, dropO] at h))) | ((with_reducible refine RunN.isNew ?_); (first | (refine h.newB (NewC.run _) rfl ?_; intro bn w h; have h := h.ord 2 [1, 0]; dsimp only [pick, nthO, dropO] at h) | (refine h.drew.newB (NewC.run _) rfl ?_; intro bn w h; have h := h.ord 2 [1, 0]; dsimp only [pick, nthO, dropO] at h))) | (refine RunN.k2Eq ?_) | (refine RunN.k2Ne ?_) | (refine ReadN.k2Eq ?_) | (refine ReadN.k2Ne ?_))
      refine ReadN.arr rfl i hi hi16 ?_
      refine h.drew.readB 0 0 ⟨_, rfl, rfl⟩ rfl (kd := .int .i64) (x := gI e.kn i) (k_at hw hi16) ?_
      repeat (first | (with_reducible refine NilP.mk ?_) | ((with_reducible refine RunN.isLoad ?_); (first | refine h.load2 0 0 ⟨_, rfl, rfl⟩ rfl ?_ | refine h.loadB 0 0 ⟨_, rfl, rfl⟩ rfl rfl ?_ | refine h.load2 1 0 ⟨_, rfl, rfl⟩ rfl ?_ | refine h.loadB 1 0 ⟨_, rfl, rfl⟩ rfl rfl ?_ | refine h.drew.load2 0 0 ⟨_, rfl, rfl⟩ rfl ?_ | refine h.drew.loadB 0 0 ⟨_, rfl, rfl⟩ rfl rfl ?_ | refine h.drew.load2 1 0 ⟨_, rfl, rfl⟩ rfl ?_ | refine h.drew.loadB 1 0 ⟨_, rfl, rfl⟩ rfl rfl ?_)) | ((with_reducible refine ReadN.isLoad ?_); (first | refine h.read2 0 0 ⟨_, rfl, rfl⟩ rfl ?_ | refine h.readB 0 0 ⟨_, rfl, rfl⟩ rfl rfl ?_ | refine h.read2 1 0 ⟨_, rfl, rfl⟩ rfl ?_ | refine h.readB 1 0 ⟨_, rfl, rfl⟩ rfl rfl ?_ | refine h.drew.read2 0 0 ⟨_, rfl, rfl⟩ rfl ?_ | refine h.drew.readB 0 0 ⟨_, rfl, rfl⟩ rfl rfl ?_ | refine h.drew.read2 1 0 ⟨_, rfl, rfl⟩ rfl ?_ | refine h.drew.readB 1 0 ⟨_, rfl, rfl⟩ rfl rfl ?_)) | ((with_reducible refine StillV.isLoad ?_); (first | refine ⟨h.stillB 0 0 ⟨_, rfl, rfl⟩ rfl rfl, ?_⟩ | refine ⟨h.still2 0 0 ⟨_, rfl, rfl⟩ rfl, ?_⟩ | refine ⟨h.stillB 1 0 ⟨_, rfl, rfl⟩ rfl rfl, ?_⟩ | refine ⟨h.still2 1 0 ⟨_, rfl, rfl⟩ rfl, ?_⟩)) | ((with_reducible refine RunU.isStor ?_); (first | (refine h.stor2 0 0 ⟨_, rfl, rfl⟩ rfl ?_; intro w h; dsimp only [updG, setO] at h) | (refine h.storB 0 0 ⟨_, rfl, rfl⟩ rfl rfl rfl ?_; intro w h; dsimp only [updG, setO] at h) | (refine h.stor2 1 0 ⟨_, rfl, rfl⟩ rfl ?_; intro w h; dsimp only [updG, setO] at h) | (refine h.storB 1 0 ⟨_, rfl, rfl⟩ rfl rfl rfl ?_; intro w h; dsimp only [updG, setO] at h) | (refine h.drew.stor2 0 0 ⟨_, rfl, rfl⟩ rfl ?_; intro w h; dsimp only [updG, setO] at h) | (refine h.drew.storB 0 0 ⟨_, rfl, rfl⟩ rfl rfl rfl ?_; intro w h; dsimp only [updG, setO] at h) | (refine h.drew.stor2 1 0 ⟨_, rfl, rfl⟩ rfl ?_; intro w h; dsimp only [updG, setO] at h) | (refine h.drew.storB 1 0 ⟨_, rfl, rfl⟩ rfl rfl rfl ?_; intro w h; dsimp only [updG, setO] at h))) | ((with_reducible refine RunN.isBox ?_); (first | (refine h.newB run_boxA rfl ?_; intro bn w h; try dsimp only at h; have h := h.ord 2 [1, 0]; dsimp only [pick, nthO, dropO] at h) | (refine h.drew.newB run_boxA rfl ?_; intro bn w h; try dsimp only at h; have h := h.ord 2 [1, 0]; dsimp only [pick, nthO, dropO] at h))) | ((with_reducible refine RunN.isNew ?_); (first | (refine h.newB (NewC.run _) rfl ?_; intro bn w h; have h := h.ord 2 [1, 0]; dsimp only [pick, nthO, dropO] at h) | (refine h.drew.newB (NewC.run _) rfl ?_; intro bn w h; have h := h.ord 2 [1, 0]; dsimp only [pick, nthO, dropO] at h))) | (refine RunN.k2Eq ?_) | (refine RunN.k2Ne ?_) | (refine ReadN.k2Eq ?_) | (refine ReadN.k2Ne ?_))
      refine ReadN.of (kd := .int .i64) (max_i _ _ _) ?_
      repeat (first | (with_reducible refine NilP.mk ?_) | ((with_reducible refine RunN.isLoad ?_); (first | refine h.load2 0 0 ⟨_, rfl, rfl⟩ rfl ?_ | refine h.loadB 0 0 ⟨_, rfl, rfl⟩ rfl rfl ?_ | refine h.load2 1 0 ⟨_, rfl, rfl⟩ rfl ?_ | refine h.loadB 1 0 ⟨_, rfl, rfl⟩ rfl rfl ?_ | refine h.drew.load2 0 0 ⟨_, rfl, rfl⟩ rfl ?_ | refine h.drew.loadB 0 0 ⟨_, rfl, rfl⟩ rfl rfl ?_ | refine h.drew.load2 1 0 ⟨_, rfl, rfl⟩ rfl ?_ | refine h.drew.loadB 1 0 ⟨_, rfl, rfl⟩ rfl rfl ?_)) | ((with_reducible refine ReadN.isLoad ?_); (first | refine h.read2 0 0 ⟨_, rfl, rfl⟩ rfl ?_ | refine h.readB 0 0 ⟨_, rfl, rfl⟩ rfl rfl ?_ | refine h.read2 1 0 ⟨_, rfl, rfl⟩ rfl ?_ | refine h.readB 1 0 ⟨_, rfl, rfl⟩ rfl rfl ?_ | refine h.drew.read2 0 0 ⟨_, rfl, rfl⟩ rfl ?_ | refine h.drew.readB 0 0 ⟨_, rfl, rfl⟩ rfl rfl ?_ | refine h.drew.read2 1 0 ⟨_, rfl, rfl⟩ rfl ?_ | refine h.drew.readB 1 0 ⟨_, rfl, rfl⟩ rfl rfl ?_)) | ((with_reducible refine StillV.isLoad ?_); (first | refine ⟨h.stillB 0 0 ⟨_, rfl, rfl⟩ rfl rfl, ?_⟩ | refine ⟨h.still2 0 0 ⟨_, rfl, rfl⟩ rfl, ?_⟩ | refine ⟨h.stillB 1 0 ⟨_, rfl, rfl⟩ rfl rfl, ?_⟩ | refine ⟨h.still2 1 0 ⟨_, rfl, rfl⟩ rfl, ?_⟩)) | ((with_reducible refine RunU.isStor ?_); (first | (refine h.stor2 0 0 ⟨_, rfl, rfl⟩ rfl ?_; intro w h; dsimp only [updG, setO] at h) | (refine h.storB 0 0 ⟨_, rfl, rfl⟩ rfl rfl rfl ?_; intro w h; dsimp only [updG, setO] at h) | (refine h.stor2 1 0 ⟨_, rfl, rfl⟩ rfl ?_; intro w h; dsimp only [updG, setO] at h) | (refine h.storB 1 0 ⟨_, rfl, rfl⟩ rfl rfl rfl ?_; intro w h; dsimp only [updG, setO] at h) | (refine h.drew.stor2 0 0 ⟨_, rfl, rfl⟩ rfl ?_; intro w h; dsimp only [updG, setO] at h) | (refine h.drew.storB 0 0 ⟨_, rfl, rfl⟩ rfl rfl rfl ?_; intro w h; dsimp only [updG, setO] at h) | (refine h.drew.stor2 1 0 ⟨_, rfl, rfl⟩ rfl ?_; intro w h; dsimp only [updG, setO] at h) | (refine h.drew.storB 1 0 ⟨_, rfl, rfl⟩ rfl rfl rfl ?_; intro w h; dsimp only [updG, setO] at h))) | ((with_reducible refine RunN.isBox ?_); (first | (refine h.newB run_boxA rfl ?_; intro bn w h; try dsimp only at h; have h := h.ord 2 [1, 0]; dsimp only [pick, nthO, dropO] at h) | (refine h.drew.newB run_boxA rfl ?_; intro bn w h; try dsimp only at h; have h := h.ord 2 [1, 0]; dsimp only [pick, nthO, dropO] at h))) | ((with_reducible refine RunN.isNew ?_); (first | (refine h.newB (NewC.run _) rfl ?_; intro bn w h; have h := h.ord 2 [1, 0]; dsimp only [pick, nthO, dropO] at h) | (refine h.drew.newB (NewC.run _) rfl ?_; intro bn w h; have h := h.ord 2 [1, 0]; dsimp only [pick, nthO, dropO] at h))) | (refine RunN.k2Eq ?_) | (refine RunN.k2Ne ?_) | (refine ReadN.k2Eq ?_) | (refine ReadN.k2Ne ?_))
      refine ReadN.arr rfl i hi hi16 ?_
      refine h.drew.storB 0 0 (j := 2 + i) ⟨_, rfl, rfl⟩ rfl (by rw [Nat.blt_eq, emC_len hw]; omega) rfl ?_
      intro w2 h
      rw [k_set hw hi16] at h
      have h : St w0 w2 (emE { e with kn := e.kn.set i (max (gI e.kn i) x.1) } q :: [.cel b4 54 [.int .i64 x.1, .int .i64 x.2]] :: F) := h
      have hw2 : ({ e with kn := e.kn.set i (max (gI e.kn i) x.1) } : Em).wf := by
        have := wf_told hw x false
        rw [Mv.told, if_pos (by simp only [Mv.foreign, not_or]; omega), hin] at this
        simpa using this
      rw [SplitB_iff]
      refine ⟨fun hb => ?_, fun hb => ?_⟩
      · have hb : b = true := hb
        subst hb
        repeat (first | (with_reducible refine NilP.mk ?_) | ((with_reducible refine RunN.isLoad ?_); (first | refine h.load2 0 0 ⟨_, rfl, rfl⟩ rfl ?_ | refine h.loadB 0 0 ⟨_, rfl, rfl⟩ rfl rfl ?_ | refine h.load2 1 0 ⟨_, rfl, rfl⟩ rfl ?_ | refine h.loadB 1 0 ⟨_, rfl, rfl⟩ rfl rfl ?_ | refine h.drew.load2 0 0 ⟨_, rfl, rfl⟩ rfl ?_ | refine h.drew.loadB 0 0 ⟨_, rfl, rfl⟩ rfl rfl ?_ | refine h.drew.load2 1 0 ⟨_, rfl, rfl⟩ rfl ?_ | refine h.drew.loadB 1 0 ⟨_, rfl, rfl⟩ rfl rfl ?_)) | ((with_reducible refine ReadN.isLoad ?_); (first | refine h.read2 0 0 ⟨_, rfl, rfl⟩ rfl ?_ | refine h.readB 0 0 ⟨_, rfl, rfl⟩ rfl rfl ?_ | refine h.read2 1 0 ⟨_, rfl, rfl⟩ rfl ?_ | refine h.readB 1 0 ⟨_, rfl, rfl⟩ rfl rfl ?_ | refine h.drew.read2 0 0 ⟨_, rfl, rfl⟩ rfl ?_ | refine h.drew.readB 0 0 ⟨_, rfl, rfl⟩ rfl rfl ?_ | refine h.drew.read2 1 0 ⟨_, rfl, rfl⟩ rfl ?_ | refine h.drew.readB 1 0 ⟨_, rfl, rfl⟩ rfl rfl ?_)) | ((with_reducible refine StillV.isLoad ?_); (first | refine ⟨h.stillB 0 0 ⟨_, rfl, rfl⟩ rfl rfl, ?_⟩ | refine ⟨h.still2 0 0 ⟨_, rfl, rfl⟩ rfl, ?_⟩ | refine ⟨h.stillB 1 0 ⟨_, rfl, rfl⟩ rfl rfl, ?_⟩ | refine ⟨h.still2 1 0 ⟨_, rfl, rfl⟩ rfl, ?_⟩)) | ((with_reducible refine RunU.isStor ?_); (first | (refine h.stor2 0 0 ⟨_, rfl, rfl⟩ rfl ?_; intro w h; dsimp only [updG, setO] at h) | (refine h.storB 0 0 ⟨_, rfl, rfl⟩ rfl rfl rfl ?_; intro w h; dsimp only [updG, setO] at h) | (refine h.stor2 1 0 ⟨_, rfl, rfl⟩ rfl ?_; intro w h; dsimp only [updG, setO] at h) | (refine h.storB 1 0 ⟨_, rfl, rfl⟩ rfl rfl rfl ?_; intro w h; dsimp only [updG, setO] at h) | (refine h.drew.stor2 0 0 ⟨_, rfl, rfl⟩ rfl ?_; intro w h; dsimp only [updG, setO] at h) | (refine h.drew.storB 0 0 ⟨_, rfl, rfl⟩ rfl rfl rfl ?_; intro w h; dsimp only [updG, setO] at h) | (refine h.drew.stor2 1 0 ⟨_, rfl, rfl⟩ rfl ?_; intro w h; dsimp only [updG, setO] at h) | (refine h.drew.storB 1 0 ⟨_, rfl, rfl⟩ rfl rfl rfl ?_; intro w h; dsimp only [updG, setO] at h))) | ((with_reducible refine RunN.isBox ?_); (first | (refine h.newB run_boxA rfl ?_; intro bn w h; try dsimp only at h; have h := h.ord 2 [1, 0]; dsimp only [pick, nthO, dropO] at h) | (refine h.drew.newB run_boxA rfl ?_; intro bn w h; try dsimp only at h; have h := h.ord 2 [1, 0]; dsimp only [pick, nthO, dropO] at h))) | ((with_reducible refine RunN.isNew ?_); (first | (refine h.newB (NewC.run _) rfl ?_; intro bn w h; have h := h.ord 2 [1, 0]; dsimp only [pick, nthO, dropO] at h) | (refine h.drew.newB (NewC.run _) rfl ?_; intro bn w h; have h := h.ord 2 [1, 0]; dsimp only [pick, nthO, dropO] at h))) | (refine RunN.k2Eq ?_) | (refine RunN.k2Ne ?_) | (refine ReadN.k2Eq ?_) | (refine ReadN.k2Ne ?_))
        refine ReadN.arr rfl i hi hi16 ?_
        refine h.drew.readB 0 0 ⟨_, rfl, rfl⟩ rfl (kd := .int .i64) (x := gI e.fi i) (f_at hw2 hi16) ?_
        repeat (first | (with_reducible refine NilP.mk ?_) | ((with_reducible refine RunN.isLoad ?_); (first | refine h.load2 0 0 ⟨_, rfl, rfl⟩ rfl ?_ | refine h.loadB 0 0 ⟨_, rfl, rfl⟩ rfl rfl ?_ | refine h.load2 1 0 ⟨_, rfl, rfl⟩ rfl ?_ | refine h.loadB 1 0 ⟨_, rfl, rfl⟩ rfl rfl ?_ | refine h.drew.load2 0 0 ⟨_, rfl, rfl⟩ rfl ?_ | refine h.drew.loadB 0 0 ⟨_, rfl, rfl⟩ rfl rfl ?_ | refine h.drew.load2 1 0 ⟨_, rfl, rfl⟩ rfl ?_ | refine h.drew.loadB 1 0 ⟨_, rfl, rfl⟩ rfl rfl ?_)) | ((with_reducible refine ReadN.isLoad ?_); (first | refine h.read2 0 0 ⟨_, rfl, rfl⟩ rfl ?_ | refine h.readB 0 0 ⟨_, rfl, rfl⟩ rfl rfl ?_ | refine h.read2 1 0 ⟨_, rfl, rfl⟩ rfl ?_ | refine h.readB 1 0 ⟨_, rfl, rfl⟩ rfl rfl ?_ | refine h.drew.read2 0 0 ⟨_, rfl, rfl⟩ rfl ?_ | refine h.drew.readB 0 0 ⟨_, rfl, rfl⟩ rfl rfl ?_ | refine h.drew.read2 1 0 ⟨_, rfl, rfl⟩ rfl ?_ | refine h.drew.readB 1 0 ⟨_, rfl, rfl⟩ rfl rfl ?_)) | ((with_reducible refine StillV.isLoad ?_); (first | refine ⟨h.stillB 0 0 ⟨_, rfl, rfl⟩ rfl rfl, ?_⟩ | refine ⟨h.still2 0 0 ⟨_, rfl, rfl⟩ rfl, ?_⟩ | refine ⟨h.stillB 1 0 ⟨_, rfl, rfl⟩ rfl rfl, ?_⟩ | refine ⟨h.still2 1 0 ⟨_, rfl, rfl⟩ rfl, ?_⟩)) | ((with_reducible refine RunU.isStor ?_); (first | (refine h.stor2 0 0 ⟨_, rfl, rfl⟩ rfl ?_; intro w h; dsimp only [updG, setO] at h) | (refine h.storB 0 0 ⟨_, rfl, rfl⟩ rfl rfl rfl ?_; intro w h; dsimp only [updG, setO] at h) | (refine h.stor2 1 0 ⟨_, rfl, rfl⟩ rfl ?_; intro w h; dsimp only [updG, setO] at h) | (refine h.storB 1 0 ⟨_, rfl, rfl⟩ rfl rfl rfl ?_; intro w h; dsimp only [updG, setO] at h) | (refine h.drew.stor2 0 0 ⟨_, rfl, rfl⟩ rfl ?_; intro w h; dsimp only [updG, setO] at h) | (refine h.drew.storB 0 0 ⟨_, rfl, rfl⟩ rfl rfl rfl ?_; intro w h; dsimp only [updG, setO] at h) | (refine h.drew.stor2 1 0 ⟨_, rfl, rfl⟩ rfl ?_; intro w h; dsimp only [updG, setO] at h) | (refine h.drew.storB 1 0 ⟨_, rfl, rfl⟩ rfl rfl rfl ?_; intro w h; dsimp only [updG, setO] at h))) | ((with_reducible refine RunN.isBox ?_); (first | (refine h.newB run_boxA rfl ?_; intro bn w h; try dsimp only at h; have h := h.ord 2 [1, 0]; dsimp only [pick, nthO, dropO] at h) | (refine h.drew.newB run_boxA rfl ?_; intro bn w h; try dsimp only at h; have h := h.ord 2 [1, 0]; dsimp only [pick, nthO, dropO] at h))) | ((with_reducible refine RunN.isNew ?_); (first | (refine h.newB (NewC.run _) rfl ?_; intro bn w h; have h := h.ord 2 [1, 0]; dsimp only [pick, nthO, dropO] at h) | (refine h.drew.newB (NewC.run _) rfl ?_; intro bn w h; have h := h.ord 2 [1, 0]; dsimp only [pick, nthO, dropO] at h))) | (refine RunN.k2Eq ?_) | (refine RunN.k2Ne ?_) | (refine ReadN.k2Eq ?_) | (refine ReadN.k2Ne ?_))
        refine ReadN.of (kd := .int .i64) (max_i _ _ _) ?_
        repeat (first | (with_reducible refine NilP.mk ?_) | ((with_reducible refine RunN.isLoad ?_); (first | refine h.load2 0 0 ⟨_, rfl, rfl⟩ rfl ?_ | refine h.loadB 0 0 ⟨_, rfl, rfl⟩ rfl rfl ?_ | refine h.load2 1 0 ⟨_, rfl, rfl⟩ rfl ?_ | refine h.loadB 1 0 ⟨_, rfl, rfl⟩ rfl rfl ?_ | refine h.drew.load2 0 0 ⟨_, rfl, rfl⟩ rfl ?_ | refine h.drew.loadB 0 0 ⟨_, rfl, rfl⟩ rfl rfl ?_ | refine h.drew.load2 1 0 ⟨_, rfl, rfl⟩ rfl ?_ | refine h.drew.loadB 1 0 ⟨_, rfl, rfl⟩ rfl rfl ?_)) | ((with_reducible refine ReadN.isLoad ?_); (first | refine h.read2 0 0 ⟨_, rfl, rfl⟩ rfl ?_ | refine h.readB 0 0 ⟨_, rfl, rfl⟩ rfl rfl ?_ | refine h.read2 1 0 ⟨_, rfl, rfl⟩ rfl ?_ | refine h.readB 1 0 ⟨_, rfl, rfl⟩ rfl rfl ?_ | refine h.drew.read2 0 0 ⟨_, rfl, rfl⟩ rfl ?_ | refine h.drew.readB 0 0 ⟨_, rfl, rfl⟩ rfl rfl ?_ | refine h.drew.read2 1 0 ⟨_, rfl, rfl⟩ rfl ?_ | refine h.drew.readB 1 0 ⟨_, rfl, rfl⟩ rfl rfl ?_)) | ((with_reducible refine StillV.isLoad ?_); (first | refine ⟨h.stillB 0 0 ⟨_, rfl, rfl⟩ rfl rfl, ?_⟩ | refine ⟨h.still2 0 0 ⟨_, rfl, rfl⟩ rfl, ?_⟩ | refine ⟨h.stillB 1 0 ⟨_, rfl, rfl⟩ rfl rfl, ?_⟩ | refine ⟨h.still2 1 0 ⟨_, rfl, rfl⟩ rfl, ?_⟩)) | ((with_reducible refine RunU.isStor ?_); (first | (refine h.stor2 0 0 ⟨_, rfl, rfl⟩ rfl ?_; intro w h; dsimp only [updG, setO] at h) | (refine h.storB 0 0 ⟨_, rfl, rfl⟩ rfl rfl rfl ?_; intro w h; dsimp only [updG, setO] at h) | (refine h.stor2 1 0 ⟨_, rfl, rfl⟩ rfl ?_; intro w h; dsimp only [updG, setO] at h) | (refine h.storB 1 0 ⟨_, rfl, rfl⟩ rfl rfl rfl ?_; intro w h; dsimp only [updG, setO] at h) | (refine h.drew.stor2 0 0 ⟨_, rfl, rfl⟩ rfl ?_; intro w h; dsimp only [updG, setO] at h) | (refine h.drew.storB 0 0 ⟨_, rfl, rfl⟩ rfl rfl rfl ?_; intro w h; dsimp only [updG, setO] at h) | (refine h.drew.stor2 1 0 ⟨_, rfl, rfl⟩ rfl ?_; intro w h; dsimp only [updG, setO] at h) | (refine h.drew.storB 1 0 ⟨_, rfl, rfl⟩ rfl rfl rfl ?_; intro w h; dsimp only [updG, setO] at h))) | ((with_reducible refine RunN.isBox ?_); (first | (refine h.newB run_boxA rfl ?_; intro bn w h; try dsimp only at h; have h := h.ord 2 [1, 0]; dsimp only [pick, nthO, dropO] at h) | (refine h.drew.newB run_boxA rfl ?_; intro bn w h; try dsimp only at h; have h := h.ord 2 [1, 0]; dsimp only [pick, nthO, dropO] at h))) | ((with_reducible refine RunN.isNew ?_); (first | (refine h.newB (NewC.run _) rfl ?_; intro bn w h; have h := h.ord 2 [1, 0]; dsimp only [pick, nthO, dropO] at h) | (refine h.drew.newB (NewC.run _) rfl ?_; intro bn w h; have h := h.ord 2 [1, 0]; dsimp only [pick, nthO, dropO] at h))) | (refine RunN.k2Eq ?_) | (refine RunN.k2Ne ?_) | (refine ReadN.k2Eq ?_) | (refine ReadN.k2Ne ?_))
        refine ReadN.arr rfl i hi hi16 ?_
        refine h.drew.storB 0 0 (j := 18 + i) ⟨_, rfl, rfl⟩ rfl (by rw [Nat.blt_eq, emC_len hw2]; omega) rfl ?_
        intro w3 h
        rw [f_set hw2 hi16] at h
        have h := h.drop 1
        exact h
      · have hb : b = false := hb
        subst hb
        exact h.drop 1
  · intro k hk
    repeat (first | (with_reducible refine NilP.mk ?_) | ((with_reducible refine RunN.isLoad ?_); (first | refine h.load2 0 0 ⟨_, rfl, rfl⟩ rfl ?_ | refine h.loadB 0 0 ⟨_, rfl, rfl⟩ rfl rfl ?_ | refine h.load2 1 0 ⟨_, rfl, rfl⟩ rfl ?_ | refine h.loadB 1 0 ⟨_, rfl, rfl⟩ rfl rfl ?_ | refine h.drew.load2 0 0 ⟨_, rfl, rfl⟩ rfl ?_ | refine h.drew.loadB 0 0 ⟨_, rfl, rfl⟩ rfl rfl ?_ | refine h.drew.load2 1 0 ⟨_, rfl, rfl⟩ rfl ?_ | refine h.drew.loadB 1 0 ⟨_, rfl, rfl⟩ rfl rfl ?_)) | ((with_reducible refine ReadN.isLoad ?_); (first | refine h.read2 0 0 ⟨_, rfl, rfl⟩ rfl ?_ | refine h.readB 0 0 ⟨_, rfl, rfl⟩ rfl rfl ?_ | refine h.read2 1 0 ⟨_, rfl, rfl⟩ rfl ?_ | refine h.readB 1 0 ⟨_, rfl, rfl⟩ rfl rfl ?_ | refine h.drew.read2 0 0 ⟨_, rfl, rfl⟩ rfl ?_ | refine h.drew.readB 0 0 ⟨_, rfl, rfl⟩ rfl rfl ?_ | refine h.drew.read2 1 0 ⟨_, rfl, rfl⟩ rfl ?_ | refine h.drew.readB 1 0 ⟨_, rfl, rfl⟩ rfl rfl ?_)) | ((with_reducible refine StillV.isLoad ?_); (first | refine ⟨h.stillB 0 0 ⟨_, rfl, rfl⟩ rfl rfl, ?_⟩ | refine ⟨h.still2 0 0 ⟨_, rfl, rfl⟩ rfl, ?_⟩ | refine ⟨h.stillB 1 0 ⟨_, rfl, rfl⟩ rfl rfl, ?_⟩ | refine ⟨h.still2 1 0 ⟨_, rfl, rfl⟩ rfl, ?_⟩)) | ((with_reducible refine RunU.isStor ?_); (first | (refine h.stor2 0 0 ⟨_, rfl, rfl⟩ rfl ?_; intro w h; dsimp only [updG, setO] at h) | (refine h.storB 0 0 ⟨_, rfl, rfl⟩ rfl rfl rfl ?_; intro w h; dsimp only [updG, setO] at h) | (refine h.stor2 1 0 ⟨_, rfl, rfl⟩ rfl ?_; intro w h; dsimp only [updG, setO] at h) | (refine h.storB 1 0 ⟨_, rfl, rfl⟩ rfl rfl rfl ?_; intro w h; dsimp only [updG, setO] at h) | (refine h.drew.stor2 0 0 ⟨_, rfl, rfl⟩ rfl ?_; intro w h; dsimp only [updG, setO] at h) | (refine h.drew.storB 0 0 ⟨_, rfl, rfl⟩ rfl rfl rfl ?_; intro w h; dsimp only [updG, setO] at h) | (refine h.drew.stor2 1 0 ⟨_, rfl, rfl⟩ rfl ?_; intro w h; dsimp only [updG, setO] at h) | (refine h.drew.storB 1 0 ⟨_, rfl, rfl⟩ rfl rfl rfl ?_; intro w h; dsimp only [updG, setO] at h))) | ((with_reducible refine RunN.isBox ?_); (first | (refine h.newB run_boxA rfl ?_; intro bn w h; try dsimp only at h; have h := h.ord 2 [1, 0]; dsimp only [pick, nthO, dropO] at h) | (refine h.drew.newB run_boxA rfl ?_; intro bn w h; try dsimp only at h; have h := h.ord 2 [1, 0]; dsimp only [pick, nthO, dropO] at h))) | ((with_reducible refine RunN.isNew ?_); (first | (refine h.newB (NewC.run _) rfl ?_; intro bn w h; have h := h.ord 2 [1, 0]; dsimp only [pick, nthO, dropO] at h) | (refine h.drew.newB (NewC.run _) rfl ?_; intro bn w h; have h := h.ord 2 [1, 0]; dsimp only [pick, nthO, dropO] at h))) | (refine RunN.k2Eq ?_) | (refine RunN.k2Ne ?_) | (refine ReadN.k2Eq ?_) | (refine ReadN.k2Ne ?_))
    rw [SplitB_iff]
    refine ⟨fun h1 => ?_, fun h1 => ?_⟩
    · have h1 : x.1 < 1 := of_decide_eq_true h1
      exact hk _ _ ⟨by rw [decide_eq_false (by simp only [Mv.foreign]; omega)]; rfl, h.drew⟩
    have h1 : ¬ x.1 < 1 := of_decide_eq_false h1
    repeat (first | (with_reducible refine NilP.mk ?_) | ((with_reducible refine RunN.isLoad ?_); (first | refine h.load2 0 0 ⟨_, rfl, rfl⟩ rfl ?_ | refine h.loadB 0 0 ⟨_, rfl, rfl⟩ rfl rfl ?_ | refine h.load2 1 0 ⟨_, rfl, rfl⟩ rfl ?_ | refine h.loadB 1 0 ⟨_, rfl, rfl⟩ rfl rfl ?_ | refine h.drew.load2 0 0 ⟨_, rfl, rfl⟩ rfl ?_ | refine h.drew.loadB 0 0 ⟨_, rfl, rfl⟩ rfl rfl ?_ | refine h.drew.load2 1 0 ⟨_, rfl, rfl⟩ rfl ?_ | refine h.drew.loadB 1 0 ⟨_, rfl, rfl⟩ rfl rfl ?_)) | ((with_reducible refine ReadN.isLoad ?_); (first | refine h.read2 0 0 ⟨_, rfl, rfl⟩ rfl ?_ | refine h.readB 0 0 ⟨_, rfl, rfl⟩ rfl rfl ?_ | refine h.read2 1 0 ⟨_, rfl, rfl⟩ rfl ?_ | refine h.readB 1 0 ⟨_, rfl, rfl⟩ rfl rfl ?_ | refine h.drew.read2 0 0 ⟨_, rfl, rfl⟩ rfl ?_ | refine h.drew.readB 0 0 ⟨_, rfl, rfl⟩ rfl rfl ?_ | refine h.drew.read2 1 0 ⟨_, rfl, rfl⟩ rfl ?_ | refine h.drew.readB 1 0 ⟨_, rfl, rfl⟩ rfl rfl ?_)) | ((with_reducible refine StillV.isLoad ?_); (first | refine ⟨h.stillB 0 0 ⟨_, rfl, rfl⟩ rfl rfl, ?_⟩ | refine ⟨h.still2 0 0 ⟨_, rfl, rfl⟩ rfl, ?_⟩ | refine ⟨h.stillB 1 0 ⟨_, rfl, rfl⟩ rfl rfl, ?_⟩ | refine ⟨h.still2 1 0 ⟨_, rfl, rfl⟩ rfl, ?_⟩)) | ((with_reducible refine RunU.isStor ?_); (first | (refine h.stor2 0 0 ⟨_, rfl, rfl⟩ rfl ?_; intro w h; dsimp only [updG, setO] at h) | (refine h.storB 0 0 ⟨_, rfl, rfl⟩ rfl rfl rfl ?_; intro w h; dsimp only [updG, setO] at h) | (refine h.stor2 1 0 ⟨_, rfl, rfl⟩ rfl ?_; intro w h; dsimp only [updG, setO] at h) | (refine h.storB 1 0 ⟨_, rfl, rfl⟩ rfl rfl rfl ?_; intro w h; dsimp only [updG, setO] at h) | (refine h.drew.stor2 0 0 ⟨_, rfl, rfl⟩ rfl ?_; intro w h; dsimp only [updG, setO] at h) | (refine h.drew.storB 0 0 ⟨_, rfl, rfl⟩ rfl rfl rfl ?_; intro w h; dsimp only [updG, setO] at h) | (refine h.drew.stor2 1 0 ⟨_, rfl, rfl⟩ rfl ?_; intro w h; dsimp only [updG, setO] at h) | (refine h.drew.storB 1 0 ⟨_, rfl, rfl⟩ rfl rfl rfl ?_; intro w h; dsimp only [updG, setO] at h))) | ((with_reducible refine RunN.isBox ?_); (first | (refine h.newB run_boxA rfl ?_; intro bn w h; try dsimp only at h; have h := h.ord 2 [1, 0]; dsimp only [pick, nthO, dropO] at h) | (refine h.drew.newB run_boxA rfl ?_; intro bn w h; try dsimp only at h; have h := h.ord 2 [1, 0]; dsimp only [pick, nthO, dropO] at h))) | ((with_reducible refine RunN.isNew ?_); (first | (refine h.newB (NewC.run _) rfl ?_; intro bn w h; have h := h.ord 2 [1, 0]; dsimp only [pick, nthO, dropO] at h) | (refine h.drew.newB (NewC.run _) rfl ?_; intro bn w h; have h := h.ord 2 [1, 0]; dsimp only [pick, nthO, dropO] at h))) | (refine RunN.k2Eq ?_) | (refine RunN.k2Ne ?_) | (refine ReadN.k2Eq ?_) | (refine ReadN.k2Ne ?_))
    rw [SplitB_iff]
    refine ⟨fun h2 => ?_, fun h2 => ?_⟩
    · have h2 : x.1 > 1099511627776 := of_decide_eq_true h2
      exact hk _ _ ⟨by rw [decide_eq_false (by simp only [Mv.foreign]; omega)]; rfl, h.drew⟩
    have h2 : ¬ x.1 > 1099511627776 := of_decide_eq_false h2
    repeat (first | (with_reducible refine NilP.mk ?_) | ((with_reducible refine RunN.isLoad ?_); (first | refine h.load2 0 0 ⟨_, rfl, rfl⟩ rfl ?_ | refine h.loadB 0 0 ⟨_, rfl, rfl⟩ rfl rfl ?_ | refine h.load2 1 0 ⟨_, rfl, rfl⟩ rfl ?_ | refine h.loadB 1 0 ⟨_, rfl, rfl⟩ rfl rfl ?_ | refine h.drew.load2 0 0 ⟨_, rfl, rfl⟩ rfl ?_ | refine h.drew.loadB 0 0 ⟨_, rfl, rfl⟩ rfl rfl ?_ | refine h.drew.load2 1 0 ⟨_, rfl, rfl⟩ rfl ?_ | refine h.drew.loadB 1 0 ⟨_, rfl, rfl⟩ rfl rfl ?_)) | ((with_reducible refine ReadN.isLoad ?_); (first | refine h.read2 0 0 ⟨_, rfl, rfl⟩ rfl ?_ | refine h.readB 0 0 ⟨_, rfl, rfl⟩ rfl rfl ?_ | refine h.read2 1 0 ⟨_, rfl, rfl⟩ rfl ?_ | refine h.readB 1 0 ⟨_, rfl, rfl⟩ rfl rfl ?_ | refine h.drew.read2 0 0 ⟨_, rfl, rfl⟩ rfl ?_ | refine h.drew.readB 0 0 ⟨_, rfl, rfl⟩ rfl rfl ?_ | refine h.drew.read2 1 0 ⟨_, rfl, rfl⟩ rfl ?_ | refine h.drew.readB 1 0 ⟨_, rfl, rfl⟩ rfl rfl ?_)) | ((with_reducible refine StillV.isLoad ?_); (first | refine ⟨h.stillB 0 0 ⟨_, rfl, rfl⟩ rfl rfl, ?_⟩ | refine ⟨h.still2 0 0 ⟨_, rfl, rfl⟩ rfl, ?_⟩ | refine ⟨h.stillB 1 0 ⟨_, rfl, rfl⟩ rfl rfl, ?_⟩ | refine ⟨h.still2 1 0 ⟨_, rfl, rfl⟩ rfl, ?_⟩)) | ((with_reducible refine RunU.isStor ?_); (first | (refine h.stor2 0 0 ⟨_, rfl, rfl⟩ rfl ?_; intro w h; dsimp only [updG, setO] at h) | (refine h.storB 0 0 ⟨_, rfl, rfl⟩ rfl rfl rfl ?_; intro w h; dsimp only [updG, setO] at h) | (refine h.stor2 1 0 ⟨_, rfl, rfl⟩ rfl ?_; intro w h; dsimp only [updG, setO] at h) | (refine h.storB 1 0 ⟨_, rfl, rfl⟩ rfl rfl rfl ?_; intro w h; dsimp only [updG, setO] at h) | (refine h.drew.stor2 0 0 ⟨_, rfl, rfl⟩ rfl ?_; intro w h; dsimp only [updG, setO] at h) | (refine h.drew.storB 0 0 ⟨_, rfl, rfl⟩ rfl rfl rfl ?_; intro w h; dsimp only [updG, setO] at h) | (refine h.drew.stor2 1 0 ⟨_, rfl, rfl⟩ rfl ?_; intro w h; dsimp only [updG, setO] at h) | (refine h.drew.storB 1 0 ⟨_, rfl, rfl⟩ rfl rfl rfl ?_; intro w h; dsimp only [updG, setO] at h))) | ((with_reducible refine RunN.isBox ?_); (first | (refine h.newB run_boxA rfl ?_; intro bn w h; try dsimp only at h; have h := h.ord 2 [1, 0]; dsimp only [pick, nthO, dropO] at h) | (refine h.drew.newB run_boxA rfl ?_; intro bn w h; try dsimp only at h; have h := h.ord 2 [1, 0]; dsimp only [pick, nthO, dropO] at h))) | ((with_reducible refine RunN.isNew ?_); (first | (refine h.newB (NewC.run _) rfl ?_; intro bn w h; have h := h.ord 2 [1, 0]; dsimp only [pick, nthO, dropO] at h) | (refine h.drew.newB (NewC.run _) rfl ?_; intro bn w h; have h := h.ord 2 [1, 0]; dsimp only [pick, nthO, dropO] at h))) | (refine RunN.k2Eq ?_) | (refine RunN.k2Ne ?_) | (refine ReadN.k2Eq ?_) | (refine ReadN.k2Ne ?_))
    rw [SplitB_iff]
    refine ⟨fun h3 => ?_, fun h3 => ?_⟩
    · have h3 : x.2 < 0 := of_decide_eq_true h3
      exact hk _ _ ⟨by rw [decide_eq_false (by simp only [Mv.foreign]; omega)]; rfl, h.drew⟩
    have h3 : ¬ x.2 < 0 := of_decide_eq_false h3
    repeat (first | (with_reducible refine NilP.mk ?_) | ((with_reducible refine RunN.isLoad ?_); (first | refine h.load2 0 0 ⟨_, rfl, rfl⟩ rfl ?_ | refine h.loadB 0 0 ⟨_, rfl, rfl⟩ rfl rfl ?_ | refine h.load2 1 0 ⟨_, rfl, rfl⟩ rfl ?_ | refine h.loadB 1 0 ⟨_, rfl, rfl⟩ rfl rfl ?_ | refine h.drew.load2 0 0 ⟨_, rfl, rfl⟩ rfl ?_ | refine h.drew.loadB 0 0 ⟨_, rfl, rfl⟩ rfl rfl ?_ | refine h.drew.load2 1 0 ⟨_, rfl, rfl⟩ rfl ?_ | refine h.drew.loadB 1 0 ⟨_, rfl, rfl⟩ rfl rfl ?_)) | ((with_reducible refine ReadN.isLoad ?_); (first | refine h.read2 0 0 ⟨_, rfl, rfl⟩ rfl ?_ | refine h.readB 0 0 ⟨_, rfl, rfl⟩ rfl rfl ?_ | refine h.read2 1 0 ⟨_, rfl, rfl⟩ rfl ?_ | refine h.readB 1 0 ⟨_, rfl, rfl⟩ rfl rfl ?_ | refine h.drew.read2 0 0 ⟨_, rfl, rfl⟩ rfl ?_ | refine h.drew.readB 0 0 ⟨_, rfl, rfl⟩ rfl rfl ?_ | refine h.drew.read2 1 0 ⟨_, rfl, rfl⟩ rfl ?_ | refine h.drew.readB 1 0 ⟨_, rfl, rfl⟩ rfl rfl ?_)) | ((with_reducible refine StillV.isLoad ?_); (first | refine ⟨h.stillB 0 0 ⟨_, rfl, rfl⟩ rfl rfl, ?_⟩ | refine ⟨h.still2 0 0 ⟨_, rfl, rfl⟩ rfl, ?_⟩ | refine ⟨h.stillB 1 0 ⟨_, rfl, rfl⟩ rfl rfl, ?_⟩ | refine ⟨h.still2 1 0 ⟨_, rfl, rfl⟩ rfl, ?_⟩)) | ((with_reducible refine RunU.isStor ?_); (first | (refine h.stor2 0 0 ⟨_, rfl, rfl⟩ rfl ?_; intro w h; dsimp only [updG, setO] at h) | (refine h.storB 0 0 ⟨_, rfl, rfl⟩ rfl rfl rfl ?_; intro w h; dsimp only [updG, setO] at h) | (refine h.stor2 1 0 ⟨_, rfl, rfl⟩ rfl ?_; intro w h; dsimp only [updG, setO] at h) | (refine h.storB 1 0 ⟨_, rfl, rfl⟩ rfl rfl rfl ?_; intro w h; dsimp only [updG, setO] at h) | (refine h.drew.stor2 0 0 ⟨_, rfl, rfl⟩ rfl ?_; intro w h; dsimp only [updG, setO] at h) | (refine h.drew.storB 0 0 ⟨_, rfl, rfl⟩ rfl rfl rfl ?_; intro w h; dsimp only [updG, setO] at h) | (refine h.drew.stor2 1 0 ⟨_, rfl, rfl⟩ rfl ?_; intro w h; dsimp only [updG, setO] at h) | (refine h.drew.storB 1 0 ⟨_, rfl, rfl⟩ rfl rfl rfl ?_; intro w h; dsimp only [updG, setO] at h))) | ((with_reducible refine RunN.isBox ?_); (first | (refine h.newB run_boxA rfl ?_; intro bn w h; try dsimp only at h; have h := h.ord 2 [1, 0]; dsimp only [pick, nthO, dropO] at h) | (refine h.drew.newB run_boxA rfl ?_; intro bn w h; try dsimp only at h; have h := h.ord 2 [1, 0]; dsimp only [pick, nthO, dropO] at h))) | ((with_reducible refine RunN.isNew ?_); (first | (refine h.newB (NewC.run _) rfl ?_; intro bn w h; have h := h.ord 2 [1, 0]; dsimp only [pick, nthO, dropO] at h) | (refine h.drew.newB (NewC.run _) rfl ?_; intro bn w h; have h := h.ord 2 [1, 0]; dsimp only [pick, nthO, dropO] at h))) | (refine RunN.k2Eq ?_) | (refine RunN.k2Ne ?_) | (refine ReadN.k2Eq ?_) | (refine ReadN.k2Ne ?_))
    rw [SplitB_iff]
    refine ⟨fun h4 => ?_, fun h4 => ?_⟩
    · have h4 : x.2 ≥ (e.n : Int) := of_decide_eq_true h4
      exact hk _ _ ⟨by rw [decide_eq_false (by simp only [Mv.foreign]; omega)]; rfl, h.drew⟩
    have h4 : ¬ x.2 ≥ (e.n : Int) := of_decide_eq_false h4
    repeat (first | (with_reducible refine NilP.mk ?_) | ((with_reducible refine RunN.isLoad ?_); (first | refine h.load2 0 0 ⟨_, rfl, rfl⟩ rfl ?_ | refine h.loadB 0 0 ⟨_, rfl, rfl⟩ rfl rfl ?_ | refine h.load2 1 0 ⟨_, rfl, rfl⟩ rfl ?_ | refine h.loadB 1 0 ⟨_, rfl, rfl⟩ rfl rfl ?_ | refine h.drew.load2 0 0 ⟨_, rfl, rfl⟩ rfl ?_ | refine h.drew.loadB 0 0 ⟨_, rfl, rfl⟩ rfl rfl ?_ | refine h.drew.load2 1 0 ⟨_, rfl, rfl⟩ rfl ?_ | refine h.drew.loadB 1 0 ⟨_, rfl, rfl⟩ rfl rfl ?_)) | ((with_reducible refine ReadN.isLoad ?_); (first | refine h.read2 0 0 ⟨_, rfl, rfl⟩ rfl ?_ | refine h.readB 0 0 ⟨_, rfl, rfl⟩ rfl rfl ?_ | refine h.read2 1 0 ⟨_, rfl, rfl⟩ rfl ?_ | refine h.readB 1 0 ⟨_, rfl, rfl⟩ rfl rfl ?_ | refine h.drew.read2 0 0 ⟨_, rfl, rfl⟩ rfl ?_ | refine h.drew.readB 0 0 ⟨_, rfl, rfl⟩ rfl rfl ?_ | refine h.drew.read2 1 0 ⟨_, rfl, rfl⟩ rfl ?_ | refine h.drew.readB 1 0 ⟨_, rfl, rfl⟩ rfl rfl ?_)) | ((with_reducible refine StillV.isLoad ?_); (first | refine ⟨h.stillB 0 0 ⟨_, rfl, rfl⟩ rfl rfl, ?_⟩ | refine ⟨h.still2 0 0 ⟨_, rfl, rfl⟩ rfl, ?_⟩ | refine ⟨h.stillB 1 0 ⟨_, rfl, rfl⟩ rfl rfl, ?_⟩ | refine ⟨h.still2 1 0 ⟨_, rfl, rfl⟩ rfl, ?_⟩)) | ((with_reducible refine RunU.isStor ?_); (first | (refine h.stor2 0 0 ⟨_, rfl, rfl⟩ rfl ?_; intro w h; dsimp only [updG, setO] at h) | (refine h.storB 0 0 ⟨_, rfl, rfl⟩ rfl rfl rfl ?_; intro w h; dsimp only [updG, setO] at h) | (refine h.stor2 1 0 ⟨_, rfl, rfl⟩ rfl ?_; intro w h; dsimp only [updG, setO] at h) | (refine h.storB 1 0 ⟨_, rfl, rfl⟩ rfl rfl rfl ?_; intro w h; dsimp only [updG, setO] at h) | (refine h.drew.stor2 0 0 ⟨_, rfl, rfl⟩ rfl ?_; intro w h; dsimp only [updG, setO] at h) | (refine h.drew.storB 0 0 ⟨_, rfl, rfl⟩ rfl rfl rfl ?_; intro w h; dsimp only [updG, setO] at h) | (refine h.drew.stor2 1 0 ⟨_, rfl, rfl⟩ rfl ?_; intro w h; dsimp only [updG, setO] at h) | (refine h.drew.storB 1 0 ⟨_, rfl, rfl⟩ rfl rfl rfl ?_; intro w h; dsimp only [updG, setO] at h))) | ((with_reducible refine RunN.isBox ?_); (first | (refine h.newB run_boxA rfl ?_; intro bn w h; try dsimp only at h; have h := h.ord 2 [1, 0]; dsimp only [pick, nthO, dropO] at h) | (refine h.drew.newB run_boxA rfl ?_; intro bn w h; try dsimp only at h; have h := h.ord 2 [1, 0]; dsimp only [pick, nthO, dropO] at h))) | ((with_reducible refine RunN.isNew ?_); (first | (refine h.newB (NewC.run _) rfl ?_; intro bn w h; have h := h.ord 2 [1, 0]; dsimp only [pick, nthO, dropO] at h) | (refine h.drew.newB (NewC.run _) rfl ?_; intro bn w h; have h := h.ord 2 [1, 0]; dsimp only [pick, nthO, dropO] at h))) | (refine RunN.k2Eq ?_) | (refine RunN.k2Ne ?_) | (refine ReadN.k2Eq ?_) | (refine ReadN.k2Ne ?_))
    refine hk _ _ ⟨?_, h.drew⟩
    dsimp only
    by_cases h5 : x.2 = (e.me : Int)
    · rw [decide_eq_false (by simp only [Mv.foreign]; omega), h5]; simp
    · rw [decide_eq_true (by simp only [Mv.foreign]; omega)]; simpa using h5
/-! ### turn -/
def tailA (me : Nat) (own t was : Ep) : List A6 :=
  if t = was ∨ (someE own = true ∧ t = own) then [] else if someE t = false then [(6, (me : Int), 0, 0, 0, 0)] else [(2, t.2, t.1, t.2, 0, 0)]
def Mv.turns (e : Mv) : Prop := someE e.own = true ∧ e.top ≠ e.own
instance (e : Mv) : Decidable e.turns := by unfold Mv.turns; exact inferInstance
def Mv.turn (e : Mv) (was : Ep) : List A6 × Mv :=
  if e.turns then ([(3, -1, e.own.1, e.own.2, e.top.1, e.top.2), (5, (e.me : Int), e.own.1, e.own.2, 0, 0)] ++ tailA e.me e.own e.top e.own, { e with fi := e.fi.set e.me e.own.1 })
  else (tailA e.me e.own e.top was, e)
theorem own_bound {e : Mv} (h : e.wf) : 0 ≤ e.own.1 ∧ e.own.1 ≤ 1099511627776 := by
  have hn := h.n
  have hm := h.me
  have := h.kb _ (gI_mem (l := e.kn) (i := e.me) (by rw [h.kl]; omega))
  rw [Mv.own, Mv.ep]
  split
  · exact this
  · exact ⟨by decide, by decide⟩
theorem wf_fin {e : Mv} (h : e.wf) : ({ e with fi := e.fi.set e.me e.own.1 } : Mv).wf := by
  refine ⟨h.n, h.me, h.kl, by simp [h.fl], h.rl, h.kb, fun y hy => ?_, h.rb⟩
  rcases List.mem_or_eq_of_mem_set hy with hy | rfl
  · exact h.fb _ hy
  · exact own_bound h
theorem wf_turn {e : Mv} (h : e.wf) (was : Ep) : (e.turn was).2.wf := by
  rw [Mv.turn]
  split
  · exact wf_fin h
  · exact h
theorem tailA_len (me : Nat) (a b c : Ep) : (tailA me a b c).length ≤ 1 := by
  rw [tailA]
  split
  · simp
  · split <;> simp
theorem ne_ep (a b : Ep) : (!(a.1 == b.1 && a.2 == b.2)) = decide (a ≠ b) := by
  by_cases h : a = b
  · subst h; simp
  · rw [decide_eq_true h]
    simp
    by_cases h1 : a.1 = b.1
    · exact .inr fun h2 => h (Prod.ext h1 h2)
    · exact .inl h1
theorem eq_ep (a b : Ep) : (a.1 == b.1 && a.2 == b.2) = decide (a = b) := by
  by_cases h : a = b
  · subst h; simp
  · rw [decide_eq_false h]
    simp
    intro h1 h2
    exact h (Prod.ext h1 h2)
theorem turn_st {e : Em} (h : St w0 w (emE e [] :: F)) (hw : e.wf) (was : Ep) : CallK Try.prog .sl 62 #[.pointer e.p, .agg #[.int .i64 was.1, .int .i64 was.2]] w
    fun (s : Sl) w' => ∃ e' : Em, e'.cb = e.cb ∧ e'.toMv = (e.turn was).2 ∧ s.len = (e.turn was).1.length ∧ St w0 w' ([.row 70 6 s (acs (e.turn was).1)] :: emE e' [] :: F) := by
  refine T62.calls (p1 := (was.1, was.2, ())) ?_
  unfold T62
  have hn := hw.n
  have hm := hw.me
  first | refine h.newB run_boxA rfl ?_ | refine h.drew.newB run_boxA rfl ?_
  intro b3 w h
  have h := h.ord 2 [1, 0]
  dsimp only [pick, nthO, dropO] at h
  refine (own_st h hw).mono ?_
  rintro _ w1 ⟨rfl, h⟩
  refine (top_st h hw).mono ?_
  rintro _ w2 ⟨rfl, h⟩
  first | refine h.newB (NewC.run _) rfl ?_ | refine h.drew.newB (NewC.run _) rfl ?_
  intro b5 w h
  have h := h.ord 2 [1, 0]
  dsimp only [pick, nthO, dropO] at h
  first | refine h.newB (NewC.run _) rfl ?_ | refine h.drew.newB (NewC.run _) rfl ?_
  intro b6 w h
  have h := h.ord 2 [1, 0]
  dsimp only [pick, nthO, dropO] at h
  refine h.stor2 2 0 ⟨_, rfl, rfl⟩ rfl ?_
  intro w3 h
  dsimp only [updG, setO] at h
  refine h.stor2 1 0 ⟨_, rfl, rfl⟩ rfl ?_
  intro w4 h
  dsimp only [updG, setO] at h
  let L : Ep → Grps := fun was => [.cel b6 54 (epv e.top)] :: [.cel b5 54 (epv e.own)] :: [.cel b3 54 (epv was)] :: F
  have h : St w0 w4 (emE e [] :: L was) := h
  refine JoinX.mk (fun (_ : Unit) w' => ∃ (e1 : Em) (a0 : List A6) (was1 : Ep), e1.cb = e.cb ∧ e1.toMv = (e.turn was).2 ∧ e1.wf ∧ e1.me = e.me ∧ a0.length ≤ 2 ∧ (e.turn was).1 = a0 ++ tailA e.me e.own e.top was1 ∧ St w0 w' (emE e1 a0 :: L was1)) ?_ ?_
  · rintro ⟨⟩ w5 ⟨e1, a0, was1, h1, h2, hw1, hme, hal, h3, h⟩
    have hp : e.p = e1.p := by show some _ = some _; rw [h1]
    refine JoinX.mk (fun (_ : Unit) w' => ∃ (e2 : Em), e2.cb = e.cb ∧ e2.toMv = (e.turn was).2 ∧ e2.wf ∧ St w0 w' (emE e2 (e.turn was).1 :: L was1)) ?_ ?_
    · rintro ⟨⟩ w6 ⟨e2, g1, g2, g3, h⟩
      have hp : e.p = e2.p := by show some _ = some _; rw [g1]
      rw [hp]
      have htl := tailA_len e.me e.own e.top was1
      refine (taken_st h g3 (by rw [h3, List.length_append]; omega)).mono ?_
      rintro s w7 ⟨hs, h⟩
      exact ⟨{ e2 with cr := e2.cr + (e.turn was).1.length }, g1, g2, hs, ((h.drop 2).drop 2).drop 2⟩
    · intro k3 hk3
      refine JoinX.mk (fun (y : Bool × Unit) w' => y.1 = decide (e.top = was1 ∨ (someE e.own = true ∧ e.top = e.own)) ∧ St w0 w' (emE e1 a0 :: L was1)) ?_ ?_
      · rintro ⟨y, ⟨⟩⟩ w6 ⟨hy, h⟩
        dsimp only at hy
        subst hy
        rw [SplitB_iff]
        refine ⟨fun hc => ?_, fun hc => ?_⟩
        · have hc := of_decide_eq_true hc
          refine hk3 _ _ ⟨e1, h1, h2, hw1, ?_⟩
          rw [h3, tailA, if_pos hc, List.append_nil]; exact h
        · have hc := of_decide_eq_false hc
          rw [tailA, if_neg hc] at h3
          refine h.load2 1 0 ⟨_, rfl, rfl⟩ rfl ?_
          refine (some_st h _ _).mono ?_
          rintro _ w7 ⟨rfl, h⟩
          rw [SplitB_iff]
          refine ⟨fun hd => ?_, fun hd => ?_⟩
          · have hd : someE e.top = false := by simpa using hd
            rw [if_pos hd] at h3
            rw [hp]
            refine NilP.mk ?_
            refine h.loadB 0 0 ⟨_, rfl, rfl⟩ rfl rfl ?_
            refine (put_st h hw1 (by omega) (6, (e1.me : Int), 0, 0, 0, 0)).mono ?_
            rintro _ w8 h
            refine hk3 _ _ ⟨{ e1 with cs := e1.cs + 1 }, h1, h2, hw1, ?_⟩
            rw [h3, ← hme]; exact h
          · have hd : someE e.top = true := by simpa using hd
            rw [if_neg (by rw [hd]; decide)] at h3
            refine h.loadB 1 0 ⟨_, rfl, rfl⟩ rfl rfl ?_
            refine h.load2 1 0 ⟨_, rfl, rfl⟩ rfl ?_
            rw [hp]
            refine (put_st h hw1 (by omega) (2, e.top.2, e.top.1, e.top.2, 0, 0)).mono ?_
            rintro _ w8 h
            refine hk3 _ _ ⟨{ e1 with cs := e1.cs + 1 }, h1, h2, hw1, ?_⟩
            rw [h3]; exact h
      · intro k5 hk5
        refine h.load2 1 0 ⟨_, rfl, rfl⟩ rfl ?_
        refine h.load2 3 0 ⟨_, rfl, rfl⟩ rfl ?_
        refine RunN.k2Eq ?_
        rw [eq_ep]
        rw [SplitB_iff]
        refine ⟨fun hc => ?_, fun hc => ?_⟩
        · have hc := of_decide_eq_true hc
          exact hk5 _ _ ⟨by simp [hc], h⟩
        · have hc := of_decide_eq_false hc
          refine h.load2 2 0 ⟨_, rfl, rfl⟩ rfl ?_
          refine (some_st h _ _).mono ?_
          rintro _ w7 ⟨rfl, h⟩
          rw [SplitB_iff]
          refine ⟨fun hd => ?_, fun hd => ?_⟩
          · have hd : someE e.own = true := hd
            refine h.load2 1 0 ⟨_, rfl, rfl⟩ rfl ?_
            refine h.load2 2 0 ⟨_, rfl, rfl⟩ rfl ?_
            refine RunN.k2Eq ?_
            rw [eq_ep]
            exact hk5 _ _ ⟨by simp [hc, hd], h⟩
          · have hd : someE e.own = false := hd
            exact hk5 _ _ ⟨by simp [hc, hd], h⟩
  · intro k1 hk1
    refine JoinX.mk (fun (y : Bool × Unit) w' => y.1 = decide e.turns ∧ St w0 w' (emE e [] :: L was)) ?_ ?_
    · rintro ⟨y, ⟨⟩⟩ w5 ⟨hy, h⟩
      dsimp only at hy
      subst hy
      rw [SplitB_iff]
      refine ⟨fun hc => ?_, fun hc => ?_⟩
      · have hc : e.turns := of_decide_eq_true hc
        refine NilP.mk ?_
        refine h.drew.readB 0 0 ⟨_, rfl, rfl⟩ rfl rfl ?_
        refine h.drew.readB 2 0 ⟨_, rfl, rfl⟩ rfl rfl ?_
        refine NilP.mk ?_
        refine ReadN.arr rfl e.me rfl (by omega) ?_
        refine h.drew.storB 0 0 (j := 18 + e.me) ⟨_, rfl, rfl⟩ rfl (by rw [Nat.blt_eq, emC_len hw]; omega) rfl ?_
        intro w6 h
        rw [f_set hw (by omega)] at h
        have h : St w0 w6 (emE { e with fi := e.fi.set e.me e.own.1 } [] :: L was) := h
        have hw2 : ({ e with fi := e.fi.set e.me e.own.1 } : Em).wf := wf_fin hw
        refine h.load2 2 0 ⟨_, rfl, rfl⟩ rfl ?_
        refine h.load2 1 0 ⟨_, rfl, rfl⟩ rfl ?_
        refine (put_st h hw2 (by decide) (3, -1, e.own.1, e.own.2, e.top.1, e.top.2)).mono ?_
        rintro _ w7 h
        refine NilP.mk ?_
        refine h.drew.readB 0 0 ⟨_, rfl, rfl⟩ rfl rfl ?_
        refine h.drew.read2 2 0 ⟨_, rfl, rfl⟩ rfl ?_
        refine (put_st h.drew (by exact hw2) (by simp) (5, (e.me : Int), e.own.1, e.own.2, 0, 0)).mono ?_
        rintro _ w8 h
        refine h.load2 2 0 ⟨_, rfl, rfl⟩ rfl ?_
        refine h.stor2 3 0 ⟨_, rfl, rfl⟩ rfl ?_
        intro w9 h
        refine hk1 _ _ ⟨{ e with fi := e.fi.set e.me e.own.1, cs := e.cs + 1 + 1 }, [(3, -1, e.own.1, e.own.2, e.top.1, e.top.2), (5, (e.me : Int), e.own.1, e.own.2, 0, 0)], e.own, rfl, ?_, hw2, rfl, ?_, ?_, h⟩
        · rw [Mv.turn, if_pos hc]
        · simp
        · rw [Mv.turn, if_pos hc]
      · have hc : ¬ e.turns := of_decide_eq_false hc
        refine hk1 _ _ ⟨e, [], was, rfl, ?_, hw, rfl, by simp, ?_, h⟩
        · rw [Mv.turn, if_neg hc]
        · rw [Mv.turn, if_neg hc]; rfl
    · intro k7 hk7
      refine h.load2 2 0 ⟨_, rfl, rfl⟩ rfl ?_
      refine (some_st h _ _).mono ?_
      rintro _ w5 ⟨rfl, h⟩
      rw [SplitB_iff]
      refine ⟨fun hd => ?_, fun hd => ?_⟩
      · have hd : someE e.own = true := hd
        refine h.load2 1 0 ⟨_, rfl, rfl⟩ rfl ?_
        refine h.load2 2 0 ⟨_, rfl, rfl⟩ rfl ?_
        refine RunN.k2Ne ?_
        rw [ne_ep]
        exact hk7 _ _ ⟨by simp [Mv.turns, hd], h⟩
      · have hd : someE e.own = false := hd
        exact hk7 _ _ ⟨by simp [Mv.turns, hd], h⟩
theorem turn_wf {e : Em} {e' : Em} (hw : e.wf) {was : Ep} (h : e'.toMv = (e.turn was).2) : e'.wf := by rw [h]; exact wf_turn hw was
/-! ### Hear, End -/
def Mv.hear (e : Mv) (x : Ep) : List A6 × Mv := (e.told x false).turn e.top
def Mv.end_ (e : Mv) (x y : Ep) : List A6 × Mv := ((e.told x true).told y false).turn e.top
theorem hear_st {e : Em} (h : St w0 w (emE e [] :: F)) (hw : e.wf) (x : Ep) : CallK Try.prog .sl 32 #[.pointer e.p, .agg #[.int .i64 x.1, .int .i64 x.2]] w
    fun (s : Sl) w' => ∃ e' : Em, e'.cb = e.cb ∧ e'.toMv = (e.hear x).2 ∧ s.len = (e.hear x).1.length ∧ St w0 w' ([.row 70 6 s (acs (e.hear x).1)] :: emE e' [] :: F) := by
  refine T32.calls (p1 := (x.1, x.2, ())) ?_
  unfold T32
  first | refine h.newB run_boxA rfl ?_ | refine h.drew.newB run_boxA rfl ?_
  intro b3 w h
  have h := h.ord 2 [1, 0]
  dsimp only [pick, nthO, dropO] at h
  refine (top_st h hw).mono ?_
  rintro _ w1 ⟨rfl, h⟩
  first | refine h.newB (NewC.run _) rfl ?_ | refine h.drew.newB (NewC.run _) rfl ?_
  intro b5 w h
  have h := h.ord 2 [1, 0]
  dsimp only [pick, nthO, dropO] at h
  refine h.stor2 1 0 ⟨_, rfl, rfl⟩ rfl ?_
  intro w2 h
  dsimp only [updG, setO] at h
  refine h.load2 2 0 ⟨_, rfl, rfl⟩ rfl ?_
  refine (told_st h hw x false).mono ?_
  rintro _ w3 h
  refine h.load2 1 0 ⟨_, rfl, rfl⟩ rfl ?_
  refine (turn_st h (wf_told hw x false) e.top).mono ?_
  rintro s w4 ⟨e', h1, h2, h3, h⟩
  exact ⟨e', h1, h2, h3, (h.drop 2).drop 2⟩
theorem end_st {e : Em} (h : St w0 w (emE e [] :: F)) (hw : e.wf) (x y : Ep) : CallK Try.prog .sl 34 #[.pointer e.p, .agg #[.int .i64 x.1, .int .i64 x.2], .agg #[.int .i64 y.1, .int .i64 y.2]] w
    fun (s : Sl) w' => ∃ e' : Em, e'.cb = e.cb ∧ e'.toMv = (e.end_ x y).2 ∧ s.len = (e.end_ x y).1.length ∧ St w0 w' ([.row 70 6 s (acs (e.end_ x y).1)] :: emE e' [] :: F) := by
  refine T34.calls (p1 := (x.1, x.2, ())) (p2 := (y.1, y.2, ())) ?_
  unfold T34
  first | refine h.newB run_boxA rfl ?_ | refine h.drew.newB run_boxA rfl ?_
  intro b4 w h
  have h := h.ord 2 [1, 0]
  dsimp only [pick, nthO, dropO] at h
  first | refine h.newB run_boxA rfl ?_ | refine h.drew.newB run_boxA rfl ?_
  intro b5 w h
  have h := h.ord 2 [1, 0]
  dsimp only [pick, nthO, dropO] at h
  refine (top_st h hw).mono ?_
  rintro _ w1 ⟨rfl, h⟩
  first | refine h.newB (NewC.run _) rfl ?_ | refine h.drew.newB (NewC.run _) rfl ?_
  intro b7 w h
  have h := h.ord 2 [1, 0]
  dsimp only [pick, nthO, dropO] at h
  refine h.stor2 1 0 ⟨_, rfl, rfl⟩ rfl ?_
  intro w2 h
  dsimp only [updG, setO] at h
  refine h.load2 3 0 ⟨_, rfl, rfl⟩ rfl ?_
  refine (told_st h hw x true).mono ?_
  rintro _ w3 h
  refine h.load2 2 0 ⟨_, rfl, rfl⟩ rfl ?_
  have hw1 := wf_told hw x true
  refine (told_st h hw1 y false).mono ?_
  rintro _ w3 h
  refine h.load2 1 0 ⟨_, rfl, rfl⟩ rfl ?_
  refine (turn_st h (wf_told hw1 y false) e.top).mono ?_
  rintro s w4 ⟨e', h1, h2, h3, h⟩
  exact ⟨e', h1, h2, h3, ((h.drop 2).drop 2).drop 2⟩
end Go.Proofs.Ytmfbmfppjdkeeaa
