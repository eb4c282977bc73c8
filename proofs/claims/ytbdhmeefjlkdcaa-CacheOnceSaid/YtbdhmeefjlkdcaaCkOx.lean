/- A request is new once: records in memory; the search of the law. -/
import Derived.Test.YtbdhmeefjlkdcaaCkOn
import Derived.Test.YtbdhmeefjlkdcaaCkOw
namespace Go.Proofs.Ytbdhmeefjlkdcaa
open Go Go.Fw Go.RowKit
set_option linter.unusedVariables false
set_option linter.unusedSimpArgs false
set_option maxRecDepth 4000
set_option maxHeartbeats 2000000
variable {w0 w : World} {F G : Grps}

instance : Et Try.prog 41 45 7 56 := ⟨ET.of (by kernel_rfl), by decide⟩
def psv (p : Pst) : List Value := [.int .i64 p.x, .int .i64 p.id, .int .i64 p.st, .int .i64 p.r.1, .int .i64 p.r.2.1, .int .i64 p.r.2.2.1, .int .i64 p.r.2.2.2]
theorem psv_len (p : Pst) : (psv p).length = 7 := rfl
abbrev psvs (l : List Pst) : List Value := l.flatMap psv
theorem psv_cell {l : List Pst} {j : Nat} (hj : j < l.length) (m : Nat) (hm : m < 7) : (psvs l)[j * 7 + m]? = (psv l[j])[m]? := by
  have h := congrArg (fun y => y[m]?) (flat_at psv_len l j hj)
  simp only [List.getElem?_take, if_pos hm, List.getElem?_drop] at h
  exact h
theorem psv_part {l : List Pst} {j : Nat} (hj : j < l.length) (a n : Nat) (h : a + n ≤ 7) : ((psvs l).drop (j * 7 + a)).take n = ((psv l[j]).drop a).take n := by
  rw [← flat_at psv_len l j hj, List.drop_take, List.take_take, List.drop_drop, Nat.min_eq_left (by omega)]
theorem flat_upd {α : Type} {f : α → List Value} {n : Nat} (hf : ∀ x, (f x).length = n) (l : List α) (j : Nat) (hj : j < l.length) (a : Nat) (ds : List Value) (h : a + ds.length ≤ n) (x : α) (hx : f x = (f l[j]).take a ++ ds ++ (f l[j]).drop (a + ds.length)) :
    (l.flatMap f).take (j * n + a) ++ ds ++ (l.flatMap f).drop (j * n + a + ds.length) = (l.set j x).flatMap f := by
  have e1 : l = l.take j ++ l[j] :: l.drop (j + 1) := by rw [← List.drop_eq_getElem_cons hj, List.take_append_drop]
  have e2 : l.set j x = l.take j ++ x :: l.drop (j + 1) := by rw [List.set_eq_take_append_cons_drop, if_pos hj]
  have hA : ((l.take j).flatMap f).length = j * n := by rw [flat_len hf, List.length_take, Nat.min_eq_left (by omega)]
  have hF := hf l[j]
  rw [e2, List.flatMap_append, List.flatMap_cons, hx]
  have e3 : l.flatMap f = (l.take j).flatMap f ++ (f l[j] ++ (l.drop (j + 1)).flatMap f) := by
    conv => lhs; rw [e1]
    rw [List.flatMap_append, List.flatMap_cons]
  rw [e3]
  generalize (l.take j).flatMap f = A at hA
  generalize (l.drop (j + 1)).flatMap f = B
  generalize f l[j] = X at hF
  rw [List.take_append, List.drop_append, hA]
  rw [List.take_of_length_le (by omega), List.drop_of_length_le (by omega)]
  rw [show j * n + a - j * n = a by omega, show j * n + a + ds.length - j * n = a + ds.length by omega]
  rw [List.take_append_of_le_length (by omega), List.drop_append_of_le_length (by omega)]
  simp only [List.nil_append, List.append_assoc]
theorem psv_upd {l : List Pst} {j : Nat} (hj : j < l.length) (a : Nat) (ds : List Value) (h : a + ds.length ≤ 7) (x : Pst) (hx : psv x = (psv l[j]).take a ++ ds ++ (psv l[j]).drop (a + ds.length)) : (psvs l).take (j * 7 + a) ++ ds ++ (psvs l).drop (j * 7 + a + ds.length) = psvs (l.set j x) := flat_upd psv_len l j hj a ds h x hx
theorem psv_set {l : List Pst} {j : Nat} (hj : j < l.length) (a : Nat) (v : Value) (h : a < 7) (x : Pst) (hx : psv x = (psv l[j]).set a v) : (psvs l).set (j * 7 + a) v = psvs (l.set j x) := by
  have hl : (psvs l).length = l.length * 7 := flat_len psv_len l
  have hm : (j + 1) * 7 ≤ l.length * 7 := Nat.mul_le_mul_right _ hj
  rw [List.set_eq_take_append_cons_drop, if_pos (by omega)]
  have := psv_upd hj a [v] (by simp; omega) x (by rw [hx, List.set_eq_take_append_cons_drop, if_pos (by rw [psv_len]; exact h)]; simp)
  rw [← this]
  simp
theorem bs41 (w : World) (x y : Int) : (Instr.buildSlice 41 1 #[(0, .agg #[.int .i64 x, .int .i64 y, .int .i64 1, .int .i64 0, .int .i64 0, .int .i64 0, .int .i64 0])]).run Try.prog w = .ok (.slice (some ⟨w.heap.size, 0, none⟩) 1 1) (w.alloc (.cells ⟨[.int .i64 x, .int .i64 y, .int .i64 1, .int .i64 0, .int .i64 0, .int .i64 0, .int .i64 0]⟩ 45)) := by kernel_rfl
theorem max13 (w : World) (a b : Int) : (Builtin.max_ #[3, 3] 3 #[.int .i64 a, .int .i64 b]).run Try.prog w = .ok (.int .i64 (max a b)) w := by
  rw [run_max_int2]
  have : max a b = if b > a then b else a := by split <;> omega
  rw [this]
def oneG (b : Nat) (o : Op5) (c : Cc) (q : Sl) (l : List Pst) : Grps := [.cel b 34 (opv o)] :: ccG c [[.row 45 7 q (psvs l)]]
/-- What the search finds. -/
def Fnd (l : List Pst) (k : Cl) (at_ : Int) : Prop := (at_ = -1 ∧ ∀ p ∈ l, p.key ≠ k) ∨ ∃ a, ∃ h : a < l.length, at_ = (a : Int) ∧ (l[a]).key = k
theorem fnd_next {l : List Pst} {k : Cl} {m : Nat} (hm : m < l.length) {at_ : Int} (h : Fnd (l.take m) k at_) : Fnd (l.take (m + 1)) k (if (l[m]).key = k then (m : Int) else at_) := by
  split
  · rename_i he
    exact .inr ⟨m, by rw [List.length_take]; omega, rfl, by rw [List.getElem_take]; exact he⟩
  · rename_i he
    rcases h with ⟨h1, h2⟩ | ⟨a, ha, h1, h2⟩
    · refine .inl ⟨h1, fun p hp => ?_⟩
      rw [List.take_succ_eq_append_getElem hm] at hp
      rcases List.mem_append.1 hp with hp | hp
      · exact h2 p hp
      · simp at hp; subst hp; exact he
    · rw [List.length_take] at ha
      exact .inr ⟨a, by rw [List.length_take]; omega, h1, by rw [List.getElem_take] at h2 ⊢; exact h2⟩
theorem abv_next {l : List Pst} {x id : Int} {m : Nat} (hm : m < l.length) : abv (l.take (m + 1)) x id = abv (l.take m) x id + if ((l[m]).x == x && decide ((l[m]).id > id) && (l[m]).st == 2) = true then 1 else 0 := by
  rw [abv, abv, List.take_succ_eq_append_getElem hm, List.countP_append, List.countP_singleton]
def srchF (b : Nat) (q : Sl) (K : Int × Int × Int × Unit → World → Prop) (w : World) : Prop :=
              LoopX (α := Int × Int × Int × Unit) (fun s7 w k8 =>
                SplitB (decide (s7.2.2.1 < (q.len : Int)))
                  (JoinX (α := Int × Int × Unit) (fun j10 w =>
                    k8 (j10.1, j10.2.1, IntKind.i64.wrap (s7.2.2.1 + 1), ()) w)
                  fun k9 =>
                    JoinX (α := Int × Unit) (fun j12 w =>
                      JoinX (α := Bool × Unit) (fun j14 w =>
                        SplitB j14.1
                          (k9 (j12.1, IntKind.i64.wrap (s7.2.1 + 1), ()) w)
                          (k9 (j12.1, s7.2.1, ()) w))
                      fun k13 =>
                        ReadN Try.prog .addr (V (Instr.indexAt 41 (.slice q.a q.len q.cap) (.int .i64 s7.2.2.1))) w.drew fun t77 =>
                        ReadN Try.prog (.int .i64) (V (Instr.loadAt 3 (.pointer (some ((t77.add 0).add 0))))) w.drew fun t80 =>
                        ReadN Try.prog (.int .i64) (V (Instr.loadAt 3 (.pointer (some (((⟨b, 0, none⟩ : Addr).add 1).add 0))))) w.drew fun t83 =>
                        SplitB (t80 == t83)
                          (ReadN Try.prog .addr (V (Instr.indexAt 41 (.slice q.a q.len q.cap) (.int .i64 s7.2.2.1))) w.drew fun t88 =>
                          ReadN Try.prog (.int .i64) (V (Instr.loadAt 3 (.pointer (some ((t88.add 0).add 1))))) w.drew fun t91 =>
                          ReadN Try.prog (.int .i64) (V (Instr.loadAt 3 (.pointer (some (((⟨b, 0, none⟩ : Addr).add 1).add 1))))) w.drew fun t94 =>
                          SplitB (decide (t91 > t94))
                            (ReadN Try.prog .addr (V (Instr.indexAt 41 (.slice q.a q.len q.cap) (.int .i64 s7.2.2.1))) w.drew fun t100 =>
                            ReadN Try.prog (.int .i64) (V (Instr.loadAt 3 (.pointer (some (t100.add 2))))) w.drew fun t102 =>
                            k13 (t102 == 2, ()) w.drew)
                            (k13 (false, ()) w.drew))
                          (k13 (false, ()) w.drew))
                    fun k11 =>
                      ReadN Try.prog .addr (V (Instr.indexAt 41 (.slice q.a q.len q.cap) (.int .i64 s7.2.2.1))) w.drew fun t68 =>
                      ReadN Try.prog (.agg (.cons (.int .i64) (.cons (.int .i64) .nilT))) (V (Instr.loadAt 32 (.pointer (some (t68.add 0))))) w.drew fun t70 =>
                      ReadN Try.prog (.agg (.cons (.int .i64) (.cons (.int .i64) .nilT))) (V (Instr.loadAt 32 (.pointer (some ((⟨b, 0, none⟩ : Addr).add 1))))) w.drew fun t72 =>
                      ReadN Try.prog .bool (V (do eqGuard .eql 32 (.tmp 70) (.tmp 72) (.agg #[.int .i64 t70.1, .int .i64 t70.2.1]) (.agg #[.int .i64 t72.1, .int .i64 t72.2.1]); binOp .eql 32 (.agg #[.int .i64 t70.1, .int .i64 t70.2.1]) (.agg #[.int .i64 t72.1, .int .i64 t72.2.1]))) w.drew fun t73 =>
                      SplitB t73
                        (k11 (s7.2.2.1, ()) w.drew)
                        (k11 (s7.1, ()) w.drew))
                  (K s7 w))
              ((-1), 0, 0, ()) w
theorem srch_st {b : Nat} {o : Op5} {c : Cc} {q : Sl} {l : List Pst} (h : St w0 w (oneG b o c q l)) (h100 : l.length ≤ 100) {K : Int × Int × Int × Unit → World → Prop}
    (hk : ∀ at_ (w' : World), Fnd l (o.2.1, o.2.2.1) at_ → St w0 w' (oneG b o c q l) → K (at_, ((abv l o.2.1 o.2.2.1 : Nat) : Int), ((l.length : Nat) : Int), ()) w') : srchF b q K w := by
  unfold srchF
  have hql : q.len = l.length := by have := (h.rd (k := 4) (i := 0) (E := 45) (sz := 7) (s := q) (vs := psvs l) ⟨_, rfl, rfl⟩).1; rw [flat_len psv_len] at this; omega
  refine LoopX.mk (fun st w' => ∃ (m : Nat) (at_ : Int), st = (at_, ((abv (l.take m) o.2.1 o.2.2.1 : Nat) : Int), (m : Int), ()) ∧ m ≤ l.length ∧ Fnd (l.take m) (o.2.1, o.2.2.1) at_ ∧ St w0 w' (oneG b o c q l)) (fun st => ((l.length : Int) - st.2.2.1).toNat) ⟨0, -1, rfl, Nat.zero_le _, .inl ⟨rfl, fun p hp => by simp at hp⟩, h⟩ ?_
  clear h
  rintro _ w1 ⟨m, at_, rfl, hm, hf, h⟩ k hk2
  dsimp only at hk2 ⊢
  rw [hql]
  rw [SplitB_iff]
  refine ⟨fun hd => ?_, fun hd => ?_⟩
  · have hd : m < l.length := by have : (m : Int) < (l.length : Int) := of_decide_eq_true hd; omega
    have hab : abv (l.take m) o.2.1 o.2.2.1 ≤ 100 := Nat.le_trans (List.countP_le_length) (by rw [List.length_take]; omega)
    have e1 : IntKind.i64.wrap ((m : Int) + 1) = ((m + 1 : Nat) : Int) := by rw [wr (by omega)]; omega
    have e2 : IntKind.i64.wrap (((abv (l.take m) o.2.1 o.2.2.1 : Nat) : Int) + 1) = ((abv (l.take m) o.2.1 o.2.2.1 + 1 : Nat) : Int) := by rw [wr (by omega)]; omega
    have hrd : ∀ {w' : World}, St w0 w' (oneG b o c q l) → Rd w' q 7 (psvs l) := fun h => h.rd (k := 4) (i := 0) (E := 45) (sz := 7) (s := q) (vs := psvs l) ⟨_, rfl, rfl⟩
    rw [← hql, e1, e2]
    refine JoinX.mk (fun (y : Int × Int × Unit) w' => y.1 = (if (l[m]).key = (o.2.1, o.2.2.1) then (m : Int) else at_) ∧ y.2.1 = ((abv (l.take (m + 1)) o.2.1 o.2.2.1 : Nat) : Int) ∧ St w0 w' (oneG b o c q l)) ?_ ?_
    · rintro ⟨y, z, ⟨⟩⟩ w2 ⟨hy, hz, h⟩
      dsimp only at hy hz ⊢
      subst hy; subst hz
      exact hk2 _ _ ⟨m + 1, _, rfl, by omega, fnd_next hd hf, h⟩ (by dsimp only; omega)
    · intro k9 hk9
      refine JoinX.mk (fun (y : Int × Unit) w' => y.1 = (if (l[m]).key = (o.2.1, o.2.2.1) then (m : Int) else at_) ∧ St w0 w' (oneG b o c q l)) ?_ ?_
      · rintro ⟨y, ⟨⟩⟩ w2 ⟨hy, h⟩
        dsimp only at hy ⊢
        subst hy
        refine JoinX.mk (fun (y : Bool × Unit) w' => y.1 = ((l[m]).x == o.2.1 && decide ((l[m]).id > o.2.2.1) && (l[m]).st == 2) ∧ St w0 w' (oneG b o c q l)) ?_ ?_
        · rintro ⟨y, ⟨⟩⟩ w3 ⟨hy, h⟩
          dsimp only at hy ⊢
          subst hy
          have e3 := abv_next (x := o.2.1) (id := o.2.2.1) hd
          rw [SplitB_iff]
          refine ⟨fun hb => ?_, fun hb => ?_⟩
          · rw [if_pos hb] at e3
            exact hk9 _ _ ⟨rfl, by dsimp only; omega, h⟩
          · rw [if_neg (by rw [hb]; decide), Nat.add_zero] at e3
            exact hk9 _ _ ⟨rfl, by dsimp only; omega, h⟩
        · intro k13 hk13
          have hr := hrd h.drew
          refine hr.idxR m rfl (by omega) ?_
          intro g oo ha
          refine hr.elR ha (m * 7 + 0) (by rw [add_lit', add_lit']; rfl) (kd := .int .i64) (x := (l[m]).x) (psv_cell hd 0 (by decide)) ?_
          refine h.drew.readB 0 0 ⟨_, rfl, rfl⟩ rfl (kd := .int .i64) (x := o.2.1) rfl ?_
          rw [SplitB_iff]
          refine ⟨fun h1 => ?_, fun h1 => ?_⟩
          · refine hr.idxR m rfl (by omega) ?_
            intro g oo ha
            refine hr.elR ha (m * 7 + 1) (by rw [add_lit', add_lit']; rfl) (kd := .int .i64) (x := (l[m]).id) (psv_cell hd 1 (by decide)) ?_
            refine h.drew.readB 0 0 ⟨_, rfl, rfl⟩ rfl (kd := .int .i64) (x := o.2.2.1) rfl ?_
            rw [SplitB_iff]
            refine ⟨fun h2 => ?_, fun h2 => ?_⟩
            · refine hr.idxR m rfl (by omega) ?_
              intro g oo ha
              refine hr.elR ha (m * 7 + 2) (by rw [add_lit']; rfl) (kd := .int .i64) (x := (l[m]).st) (psv_cell hd 2 (by decide)) ?_
              exact hk13 _ _ ⟨by dsimp only; rw [h1, h2]; rfl, h.drew⟩
            · exact hk13 _ _ ⟨by dsimp only; rw [h1, h2]; rfl, h.drew⟩
          · exact hk13 _ _ ⟨by dsimp only; rw [h1]; rfl, h.drew⟩
      · intro k11 hk11
        have hr := hrd h.drew
        refine hr.idxR m rfl (by omega) ?_
        intro g oo ha
        refine hr.elAR ha (m * 7 + 0) (by rw [add_lit']; rfl) (kd := .agg (.cons (.int .i64) (.cons (.int .i64) .nilT))) ((l[m]).x, (l[m]).id, ()) (psv_part hd 0 2 (by decide)) ?_
        refine h.drew.readA 0 0 ⟨_, rfl, rfl⟩ (t' := 32) (n := 2) (j := 1) rfl (kd := .agg (.cons (.int .i64) (.cons (.int .i64) .nilT))) (o.2.1, o.2.2.1, ()) (vs := clv (o.2.1, o.2.2.1)) rfl rfl rfl ?_
        refine ReadN.k2Eq ?_
        rw [SplitB_iff]
        refine ⟨fun h1 => ?_, fun h1 => ?_⟩
        · have h1 : (l[m]).key = (o.2.1, o.2.2.1) := by simp at h1; exact Prod.ext h1.1 h1.2
          exact hk11 _ _ ⟨by dsimp only; rw [if_pos h1], h.drew⟩
        · have h1 : ¬ (l[m]).key = (o.2.1, o.2.2.1) := by
            intro he
            have e5 : (l[m]).x = o.2.1 := congrArg Prod.fst he
            have e6 : (l[m]).id = o.2.2.1 := congrArg Prod.snd he
            rw [e5, e6] at h1; simp at h1
          exact hk11 _ _ ⟨by dsimp only; rw [if_neg h1], h.drew⟩
  · have hd : m = l.length := by have : ¬ (m : Int) < (l.length : Int) := of_decide_eq_false hd; omega
    subst hd
    rw [List.take_length] at hf ⊢
    exact hk _ _ hf h
end Go.Proofs.Ytbdhmeefjlkdcaa
