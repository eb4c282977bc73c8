/- Structs of six numbers compared; slices of one mark that share memory. -/
import Derived.Test.YtmfbmfppjdkeeaaFwQ
import Derived.Test.YtmfbmfppjdkeeaaFwZ
set_option linter.unusedVariables false
set_option linter.unusedSimpArgs false
namespace Go.Fw
open Go Go.RowKit
abbrev kv6 (a b c d e f : Int) : Value := .agg #[.int .i64 a, .int .i64 b, .int .i64 c, .int .i64 d, .int .i64 e, .int .i64 f]
def eq6 (a b c d e f a' b' c' d' e' f' : Int) : Bool := a == a' && (b == b' && ((c == c' && d == d') && (e == e' && f == f')))
class K6 (P : Program) (t : TypeId) : Prop where
  neV : ∀ (w : World) (x y : Operand) (a b c d e f a' b' c' d' e' f' : Int), (do eqGuard .neq t x y (kv6 a b c d e f) (kv6 a' b' c' d' e' f'); binOp .neq t (kv6 a b c d e f) (kv6 a' b' c' d' e' f') : Sem Value).run P w = .ok (.bool !(eq6 a b c d e f a' b' c' d' e' f')) w
section
variable {P : Program}
theorem k6_run {t t2 ti : TypeId} (ht : P.underlying t = some (.struct (P.fieldsOf t))) (hp : P.stoodInHeld t = false) (hfs : (P.fieldsOf t).toList.map fsum = [(true, ti, 0), (true, ti, 1), (true, t2, 2), (true, t2, 4)]) (hi : P.underlying ti = some (.int .i64))
    (h2 : ∀ (d : Nat) (w : World) (a b c e : Int), (Op.equalIn (d + 2) t2 (kv2 a b) (kv2 c e)).run P w = .ok (a == c && b == e) w)
    (p0 : ∀ (w : World) (x y z u p q : Int), (part ti #[.int .i64 x, .int .i64 y, .int .i64 z, .int .i64 u, .int .i64 p, .int .i64 q] 0).run P w = .ok (.int .i64 x) w)
    (p1 : ∀ (w : World) (x y z u p q : Int), (part ti #[.int .i64 x, .int .i64 y, .int .i64 z, .int .i64 u, .int .i64 p, .int .i64 q] 1).run P w = .ok (.int .i64 y) w)
    (p2 : ∀ (w : World) (x y z u p q : Int), (part t2 #[.int .i64 x, .int .i64 y, .int .i64 z, .int .i64 u, .int .i64 p, .int .i64 q] 2).run P w = .ok (kv2 z u) w)
    (p4 : ∀ (w : World) (x y z u p q : Int), (part t2 #[.int .i64 x, .int .i64 y, .int .i64 z, .int .i64 u, .int .i64 p, .int .i64 q] 4).run P w = .ok (kv2 p q) w)
    (d : Nat) (w : World) (x y z u p q x' y' z' u' p' q' : Int) : (Op.equalIn (d + 3) t (kv6 x y z u p q) (kv6 x' y' z' u' p' q')).run P w = .ok (eq6 x y z u p q x' y' z' u' p' q') w := by
  rw [run_equalIn_agg w (d + 2) t _ _ ht hp, eqFields_map, hfs]
  simp only [eqF, if_true, Sem.run_bind, p0, Result.andThen_ok, run_equalIn_int w (d + 1) ti .i64 .i64 _ _ hi, eq6]
  cases h1 : (x == x')
  · simp
  · simp only [Bool.not_true, Bool.false_eq_true, if_false, Sem.run_bind, p1, Result.andThen_ok, run_equalIn_int w (d + 1) ti .i64 .i64 _ _ hi, Bool.true_and]
    cases h3 : (y == y')
    · simp
    · simp only [Bool.not_true, Bool.false_eq_true, if_false, Sem.run_bind, p2, Result.andThen_ok, h2, Bool.true_and]
      cases h4 : (z == z' && u == u')
      · simp
      · simp only [Bool.not_true, Bool.false_eq_true, if_false, Sem.run_bind, p4, Result.andThen_ok, h2, Bool.true_and]
        cases h5 : (p == p' && q == q') <;> simp
theorem K6.of {t t2 ti : TypeId} (ht : P.underlying t = some (.struct (P.fieldsOf t))) (hp : P.stoodInHeld t = false) (hfs : (P.fieldsOf t).toList.map fsum = [(true, ti, 0), (true, ti, 1), (true, t2, 2), (true, t2, 4)]) (hi : P.underlying ti = some (.int .i64))
    (h2 : ∀ (d : Nat) (w : World) (a b c e : Int), (Op.equalIn (d + 2) t2 (kv2 a b) (kv2 c e)).run P w = .ok (a == c && b == e) w)
    (p0 : ∀ (w : World) (x y z u p q : Int), (part ti #[.int .i64 x, .int .i64 y, .int .i64 z, .int .i64 u, .int .i64 p, .int .i64 q] 0).run P w = .ok (.int .i64 x) w)
    (p1 : ∀ (w : World) (x y z u p q : Int), (part ti #[.int .i64 x, .int .i64 y, .int .i64 z, .int .i64 u, .int .i64 p, .int .i64 q] 1).run P w = .ok (.int .i64 y) w)
    (p2 : ∀ (w : World) (x y z u p q : Int), (part t2 #[.int .i64 x, .int .i64 y, .int .i64 z, .int .i64 u, .int .i64 p, .int .i64 q] 2).run P w = .ok (kv2 z u) w)
    (p4 : ∀ (w : World) (x y z u p q : Int), (part t2 #[.int .i64 x, .int .i64 y, .int .i64 z, .int .i64 u, .int .i64 p, .int .i64 q] 4).run P w = .ok (kv2 p q) w)
    (hg : P.eqGuardType P.depth t = false) : K6 P t := by
  refine ⟨fun w x y a b c d e f a' b' c' d' e' f' => ?_⟩
  rw [Sem.run_bind, run_eqGuard_agg w _ _ _ _ _ _ hg, Result.andThen_ok, run_neq_struct, k6_run ht hp hfs hi h2 p0 p1 p2 p4 9997]
  rfl
end
section
variable {P : Program} {w0 w w' : World} {G : Grps}
/-! ### slices of one mark -/
def rep (v : List Value) (n : Nat) : List Value := (List.replicate n v).flatten
theorem rep_len (v : List Value) (n : Nat) : (rep v n).length = n * v.length := by
  rw [rep, List.length_flatten, List.map_replicate, List.sum_replicate_nat]
theorem rep_succ (v : List Value) (n : Nat) : rep v (n + 1) = rep v n ++ v := by
  rw [rep, List.replicate_succ', List.flatten_append, rep]; simp
theorem rep_take (v : List Value) {m n : Nat} (h : m ≤ n) : (rep v n).take (m * v.length) = rep v m := by
  have e : rep v n = rep v m ++ rep v (n - m) := by
    rw [rep, rep, rep, ← List.flatten_append, List.replicate_append_replicate]
    congr 2; omega
  rw [e, List.take_append_of_le_length (by rw [rep_len]; exact Nat.le_refl _), List.take_of_length_le (by rw [rep_len]; exact Nat.le_refl _)]
theorem rep_one {v : List Value} (h : ∀ x ∈ v, x.oneCell' = true) (n : Nat) : ∀ x ∈ rep v n, x.oneCell' = true := by
  intro x hx
  obtain ⟨l, hl, hx⟩ := List.mem_flatten.1 hx
  rw [(List.mem_replicate.1 hl).2] at hx
  exact h x hx
/-- Such a slice lies in one of these rows. -/
def Cov (E : TypeId) (v : List Value) (g : List Ent) (s : Sl) : Prop := s.len ≤ s.cap ∧ (s.len = 0 ∨ ∃ (t : Sl) (n : Nat), Ent.row E v.length t (rep v n) ∈ g ∧ t.a = s.a ∧ s.len ≤ n)
theorem Cov.mono {E : TypeId} {v : List Value} {g g' : List Ent} {s : Sl} (h : Cov E v g s) (hg : ∀ (t : Sl) (n : Nat), Ent.row E v.length t (rep v n) ∈ g → ∃ (t' : Sl) (n' : Nat), Ent.row E v.length t' (rep v n') ∈ g' ∧ t'.a = t.a ∧ n ≤ n') : Cov E v g' s := by
  refine ⟨h.1, ?_⟩
  rcases h.2 with h0 | ⟨t, n, h1, h2, h3⟩
  · exact .inl h0
  · obtain ⟨t', n', g1, g2, g3⟩ := hg t n h1
    exact .inr ⟨t', n', g1, g2.trans h2, by omega⟩
theorem Cov.sub {E : TypeId} {v : List Value} {g g' : List Ent} {s : Sl} (h : Cov E v g s) (hg : ∀ e ∈ g, e ∈ g') : Cov E v g' s := h.mono fun t n h1 => ⟨t, n, hg _ h1, rfl, Nat.le_refl _⟩
theorem Cov.rd {E : TypeId} {v : List Value} {g : List Ent} {s : Sl} (hc : Cov E v g s) (hv : 0 < v.length) (h : St w0 w G) {k : Nat} {gs : List Ent} (hk : nthO G k = some gs) (hg : ∀ e ∈ g, e ∈ gs) : Rd w s v.length (rep v s.len) := by
  refine ⟨rep_len _ _, ?_, hc.1⟩
  rcases hc.2 with h0 | ⟨t, n, h1, h2, h3⟩
  · left; rw [h0]; rfl
  · have ht : Ow w w0.heap.size E v.length t (rep v n) := (h.memG k hk (hg _ h1)).1
    have hn : n = t.len := by
      have := ht.1
      rw [rep_len] at this
      exact Nat.eq_of_mul_eq_mul_right hv this
    have hp := ht.rd.pre (hi := s.len) (by omega)
    rw [subS_zero, rep_take v h3] at hp
    rcases hp.2.1 with h4 | ⟨b, o, hb, hcell⟩
    · exact .inl h4
    · exact .inr ⟨b, o, by rw [← h2]; exact hb, hcell⟩
end
end Go.Fw
