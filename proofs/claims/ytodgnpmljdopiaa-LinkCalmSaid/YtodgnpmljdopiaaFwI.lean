/- Maps with keys that are one number. -/
import Derived.Test.YtodgnpmljdopiaaFwQ
import Derived.MapKept
set_option linter.unusedVariables false
set_option linter.unusedSimpArgs false
namespace Go.Fw
open Go Go.RowKit Go.MapKept
/-- What such a map holds: (key, value, stamp). -/
abbrev M1 := List (Int × Value × Nat)
def m1e (x : Int × Value × Nat) : MapEntry := { key := .int .i64 x.1, val := x.2.1, born := x.2.2 }
def m1o (m : M1) (c : Nat) : Obj := .map ⟨m.map m1e⟩ c
def NoKey (m : M1) (k : Int) : Prop := ∀ x ∈ m, x.1 ≠ k
theorem find1_none {m : M1} {k : Int} (h : NoKey m k) : ∀ i, Instr.findNow (.int .i64) (.int .i64 k) (m.map m1e) i = some none := by
  induction m with
  | nil => intro i; rfl
  | cons x r ih =>
    intro i
    have h1 : (k == x.1) = false := by have := h x (List.mem_cons_self ..); simpa using fun e => this e.symm
    rw [List.map_cons, Instr.findNow]
    simp only [m1e, Instr.sameNow, if_true, h1]
    exact ih (fun y hy => h y (List.mem_cons_of_mem _ hy)) (i + 1)
theorem find1_some {pre post : M1} {k : Int} {v : Value} {n : Nat} (h : NoKey pre k) : ∀ i, Instr.findNow (.int .i64) (.int .i64 k) ((pre ++ (k, v, n) :: post).map m1e) i = some (some (i + pre.length, v)) := by
  induction pre with
  | nil =>
    intro i
    rw [List.nil_append, List.map_cons, Instr.findNow]
    simp [m1e, Instr.sameNow]
  | cons x r ih =>
    intro i
    have h1 : (k == x.1) = false := by have := h x (List.mem_cons_self ..); simpa using fun e => this e.symm
    rw [List.cons_append, List.map_cons, Instr.findNow]
    simp only [m1e, Instr.sameNow, if_true, h1]
    have := ih (fun y hy => h y (List.mem_cons_of_mem _ hy)) (i + 1)
    refine this.trans ?_
    rw [List.length_cons, show i + 1 + r.length = i + (r.length + 1) by omega]
section
variable {P : Program} {w w0 : World} {G : Grps} {xt kt et : TypeId}
class MapI (P : Program) (xt kt et : outParam TypeId) : Prop where
  dummy : True
theorem key1 (hk : P.underlying kt = some (.int .i64)) (em : Bool) (k : Int) : (Instr.checkKey em 10000 kt (.int .i64 k)).run P w = .ok () w := by
  rw [show (10000 : Nat) = 9999 + 1 from rfl, Instr.checkKey]
  simp [Sem.run_bind, run_underlying hk]
theorem lookup1_some (hu : P.underlying xt = some (.map kt et)) (hk : P.underlying kt = some (.int .i64)) {b c : Nat} {pre post : M1} {k : Int} {v : Value} {n : Nat} (hb : w.heap[b]? = some (m1o (pre ++ (k, v, n) :: post) c)) (h : NoKey pre k) :
    (Instr.lookup xt (.map (some b)) (.int .i64 k) true).run P w = .ok (.tuple #[v, .bool true]) w := by
  have hf := run_findKey (P := P) (w := w) hk (find1_some (post := post) (v := v) (n := n) h 0)
  have hg : (getObj b).run P w = .ok (m1o (pre ++ (k, v, n) :: post) c) w := by simp [getObj, Sem.run, hb, m1o]
  simp only [m1o] at hg
  simp only [Instr.lookup, Sem.run_bind, run_underlying hu, Result.andThen_ok, hg, Sem.run_pure, key1 hk, hf, if_true]
theorem lookup1_none (hu : P.underlying xt = some (.map kt et)) (hk : P.underlying kt = some (.int .i64)) {b c : Nat} {m : M1} {k : Int} (hb : w.heap[b]? = some (m1o m c)) (h : NoKey m k) {z : Value} (hz : (zeroValue et).run P w = .ok z w) :
    (Instr.lookup xt (.map (some b)) (.int .i64 k) true).run P w = .ok (.tuple #[z, .bool false]) w := by
  have hf := run_findKey (P := P) (w := w) hk (find1_none h 0)
  have hg : (getObj b).run P w = .ok (m1o m c) w := by simp [getObj, Sem.run, hb, m1o]
  simp only [m1o] at hg
  simp only [Instr.lookup, Sem.run_bind, run_underlying hu, Result.andThen_ok, hg, Sem.run_pure, key1 hk, hf, if_true, hz]
theorem mapUpdate1 (hu : P.underlying xt = some (.map kt et)) (hk : P.underlying kt = some (.int .i64)) {b c : Nat} {m : M1} {k : Int} (hb : w.heap[b]? = some (m1o m c)) (h : NoKey m k) (v : Value) :
    (Instr.mapUpdate xt (.map (some b)) (.int .i64 k) v).run P w = .ok () { w with heap := w.heap.setIfInBounds b (m1o (m ++ [(k, v, c)]) (c + 1)) } := by
  have hf := run_findKey (P := P) (w := w) hk (find1_none h 0)
  have e : m1o (m ++ [(k, v, c)]) (c + 1) = .map ((⟨m.map m1e⟩ : Array MapEntry).push { key := .int .i64 k, val := v, born := c }) (c + 1) := by
    simp [m1o, m1e]
  have hg : (getObj b).run P w = .ok (m1o m c) w := by simp [getObj, Sem.run, hb, m1o]
  simp only [m1o] at hg
  simp only [Instr.mapUpdate, Sem.run_bind, run_underlying hu, Result.andThen_ok, hg, key1 hk, hf]
  rw [e]
  exact run_setObj_map _ (by rw [hb]; rfl)
theorem erase1 (pre post : M1) (x : Int × Value × Nat) : (⟨(pre ++ x :: post).map m1e⟩ : Array MapEntry).eraseIdxIfInBounds (0 + pre.length) = ⟨(pre ++ post).map m1e⟩ := by
  rw [Array.eraseIdxIfInBounds]
  have hlt : 0 + pre.length < (⟨(pre ++ x :: post).map m1e⟩ : Array MapEntry).size := by simp
  rw [dif_pos hlt]
  apply Array.toList_inj.1
  rw [Array.toList_eraseIdx]
  simp [List.eraseIdx_append_of_length_le]
theorem delete1 (hu : P.underlying xt = some (.map kt et)) (hk : P.underlying kt = some (.int .i64)) {b c : Nat} {pre post : M1} {k : Int} {v : Value} {n : Nat} (hb : w.heap[b]? = some (m1o (pre ++ (k, v, n) :: post) c)) (h : NoKey pre k) (tx ty : TypeId) :
    (Builtin.delete_ #[xt, tx] ty #[.map (some b), .int .i64 k]).run P w = .ok (.tuple #[]) { w with heap := w.heap.setIfInBounds b (m1o (pre ++ post) c) } := by
  have hf := run_findKey (P := P) (w := w) hk (find1_some (post := post) (v := v) (n := n) h 0)
  have hg : (getObj b).run P w = .ok (m1o (pre ++ (k, v, n) :: post) c) w := by simp [getObj, Sem.run, hb, m1o]
  have hs := run_setObj_map (P := P) (m1o (pre ++ post) c) (show w.heap[b]? = some (.map _ c) from hb)
  simp only [m1o] at hg hs
  simp only [Builtin.delete_]
  simp only [List.getElem?_toArray, List.getElem?_cons_zero, List.getElem?_cons_succ, Sem.run_bind, run_underlying hu, Result.andThen_ok, hg, key1 hk, hf, erase1, hs, Sem.run_pure]
  rfl
abbrev KdSB : Kd := .tup (.cons .sl (.cons .bool .nilT))
theorem St.lookS (h : St w0 w G) (k i : Nat) {b c : Nat} {pre post : M1} {x : Int} {s : Sl} {n : Nat} (he : Has G k i (.obj b (m1o (pre ++ (x, .slice s.a s.len s.cap, n) :: post) c))) (hno : NoKey pre x) (hu : P.underlying xt = some (.map kt et)) (hk : P.underlying kt = some (.int .i64)) {K : Sl × Bool × Unit → Prop} (hK : K (s, true, ())) :
    ReadN P (.tup (.cons .sl (.cons .bool .nilT))) (V (Instr.lookup xt (.map (some b)) (.int .i64 x) true)) w K :=
  ReadN.of (kd := KdSB) (x := (s, true, ())) (lookup1_some hu hk (h.ob he) hno) hK
theorem St.lookN (h : St w0 w G) (k i : Nat) {b c : Nat} {m : M1} {x : Int} (he : Has G k i (.obj b (m1o m c))) (hno : NoKey m x) (hu : P.underlying xt = some (.map kt et)) (hk : P.underlying kt = some (.int .i64)) (hz : ∀ w, (zeroValue et).run P w = .ok (.slice none 0 0) w) {K : Sl × Bool × Unit → Prop} (hK : K (⟨none, 0, 0⟩, false, ())) :
    ReadN P (.tup (.cons .sl (.cons .bool .nilT))) (V (Instr.lookup xt (.map (some b)) (.int .i64 x) true)) w K :=
  ReadN.of (kd := KdSB) (x := (⟨none, 0, 0⟩, false, ())) (lookup1_none hu hk (h.ob he) hno (hz w)) hK
theorem St.map1Put (h : St w0 w G) (k i : Nat) {b c : Nat} {m : M1} {x : Int} {v : Value} (he : Has G k i (.obj b (m1o m c))) (hno : NoKey m x) (hu : P.underlying xt = some (.map kt et)) (hk : P.underlying kt = some (.int .i64)) {K : World → Prop}
    (hK : ∀ w', St w0 w' (updG G k i [.obj b (m1o (m ++ [(x, v, c)]) (c + 1))]) → K w') : RunU P (U (Instr.mapUpdate xt (.map (some b)) (.int .i64 x) v)) w K :=
  RunU.of (mapUpdate1 hu hk (h.ob he) hno v) (hK _ (h.setOb he _))
theorem St.map1Del (h : St w0 w G) (k i : Nat) {b c : Nat} {pre post : M1} {x : Int} {v : Value} {n : Nat} (he : Has G k i (.obj b (m1o (pre ++ (x, v, n) :: post) c))) (hno : NoKey pre x) (hu : P.underlying xt = some (.map kt et)) (hk : P.underlying kt = some (.int .i64)) {tx ty : TypeId} {K : Unit → World → Prop}
    (hK : ∀ w', St w0 w' (updG G k i [.obj b (m1o (pre ++ post) c)]) → K () w') : RunN P (.tup .nilT) (V (Builtin.delete_ #[xt, tx] ty #[.map (some b), .int .i64 x])) w K :=
  RunN.of (kd := .tup .nilT) (x := ()) (delete1 hu hk (h.ob he) hno tx ty) (hK _ (h.setOb he _))
theorem St.newMap1 (h : St w0 w G) {K : Option Nat → World → Prop} (hk : ∀ b w', St w0 w' ([.obj b (m1o [] 0)] :: G) → K (some b) w') : RunN P .map (V (Instr.makeMap xt none)) w K :=
  RunN.of (kd := .map) (x := some w.heap.size) rfl (hk _ _ (h.newOb _))
end
end Go.Fw
