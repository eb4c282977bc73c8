/- What was answered is kept: in memory. -/
import Derived.Test.YtmfbmfppjdkeeaaEkP
import Derived.Test.YtmfbmfppjdkeeaaFwJ
namespace Go.Proofs.Ytmfbmfppjdkeeaa
open Go Go.Fw Go.RowKit
set_option linter.unusedVariables false
set_option linter.unusedSimpArgs false
set_option maxRecDepth 4000

structure Kp where
  cb : Nat
  late : Bool
  aq : Sl
  aw : Sl
  am : Sl
  eq : Sl
  ew : Sl
  em : Sl
  A : List Sl
  W : List Sl
  M : List Int
  E : List Sl
  X : List Sl
  N : List Int
def slv (s : Sl) : Value := .slice s.a s.len s.cap
def sls (l : List Sl) : List Value := l.map slv
def kpC (k : Kp) : List Value := [.bool k.late, slv k.aq, slv k.aw, slv k.am, slv k.eq, slv k.ew, slv k.em]
def kpE (k : Kp) : List Ent := [.cel k.cb 52 (kpC k), .row 66 1 k.aq (sls k.A), .row 66 1 k.aw (sls k.W), .row 3 1 k.am (lin k.M), .row 78 1 k.eq (sls k.E), .row 78 1 k.ew (sls k.X), .row 3 1 k.em (lin k.N)]
abbrev Kp.p (k : Kp) : Option Addr := some ⟨k.cb, 0, none⟩
theorem k2_54 (d : Nat) (w : World) (a b c e : Int) : (Op.equalIn (d + 2) 54 (kv2 a b) (kv2 c e)).run Try.prog w = .ok (a == c && b == e) w :=
  k2_run (ti := 3) (by kernel_rfl) (by kernel_rfl) (by kernel_rfl) (by kernel_rfl) (fun _ _ _ => by kernel_rfl) (fun _ _ _ => by kernel_rfl) d w a b c e
instance : K6 Try.prog 70 := K6.of (t2 := 54) (ti := 3) (by kernel_rfl) (by kernel_rfl) (by kernel_rfl) (by kernel_rfl) k2_54 (fun _ _ _ _ _ _ _ => by kernel_rfl) (fun _ _ _ _ _ _ _ => by kernel_rfl) (fun _ _ _ _ _ _ _ => by kernel_rfl) (fun _ _ _ _ _ _ _ => by kernel_rfl) (by kernel_rfl)
theorem flat_upd {α : Type} {f : α → List Value} {n : Nat} (hf : ∀ x, (f x).length = n) (l : List α) (j : Nat) (hj : j < l.length) (a : Nat) (ds : List Value) (h : a + ds.length ≤ n) (x : α) (hx : f x = (f l[j]).take a ++ ds ++ (f l[j]).drop (a + ds.length)) :
    (l.flatMap f).take (j * n + a) ++ ds ++ (l.flatMap f).drop (j * n + a + ds.length) = (l.set j x).flatMap f := by
  have e1 : l = l.take j ++ l[j] :: l.drop (j + 1) := by rw [← List.drop_eq_getElem_cons hj, List.take_append_drop]
  have e2 : l.set j x = l.take j ++ x :: l.drop (j + 1) := by rw [List.set_eq_take_append_cons_drop, if_pos hj]
  have hA : ((l.take j).flatMap f).length = j * n := by rw [flat_len hf, List.length_take, Nat.min_eq_left (by omega)]
  have hF := hf l[j]
  rw [e2, List.flatMap_append, List.flatMap_cons, hx]
  have e3 : l.flatMap f = (l.take j).flatMap f ++ (f l[j] ++ (l.drop (j + 1)).flatMap f) := by
    conv => lhs; rw [e1]
    rw [List.flatMap_append, List.flatMap_cons]
  rw [e3]
  generalize (l.take j).flatMap f = A at hA
  generalize (l.drop (j + 1)).flatMap f = B
  generalize f l[j] = X at hF
  rw [List.take_append, List.drop_append, hA]
  rw [List.take_of_length_le (by omega), List.drop_of_length_le (by omega)]
  rw [show j * n + a - j * n = a by omega, show j * n + a + ds.length - j * n = a + ds.length by omega]
  rw [List.take_append_of_le_length (by omega), List.drop_append_of_le_length (by omega)]
  simp only [List.nil_append, List.append_assoc]
end Go.Proofs.Ytmfbmfppjdkeeaa
