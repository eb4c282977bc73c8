/- Words and steps, part 9: The laws' own small functions: what was lent is as it was. The laws' own small functions: lists of segments alike. The shelf: lists that were written over hold their marks. The shelf: lists are put there, written over and grown. The book of answers, the pool of segments: what is kept there. An end and the book in memory; what an end tells is looked at and written over. A segment comes, at both; it comes once more. -/
import Derived.Test.YtodgnpmljdopiaaProg
import Derived.Test.YtodgnpmljdopiaaLsQ8
/- The laws' own small functions: what was lent is as it was. -/
namespace Go.Proofs.Ytodgnpmljdopiaa
open Go Go.Fw Go.RowKit
set_option linter.unusedVariables false
set_option linter.unusedSimpArgs false
set_option maxRecDepth 4000
set_option maxHeartbeats 4000000
variable {w0 w : World} {F G : Grps}

theorem kept_st {t p : Sl} {l : List UInt8} (h : St w0 w ([brow (t, l ++ mks)] :: F)) (hp : SeesG w0 F p 1 (bys l)) (hl : l.length ≤ 140737488351232) : CallK Try.prog .bool 38 #[.slice t.a t.len t.cap, .slice p.a p.len p.cap] w
    fun (v : Bool) w' => v = true ∧ ∃ l' : List UInt8, l'.length = l.length + 3 ∧ St w0 w' ([brow (t, l')] :: F) := by
  have htl : t.len = l.length + 3 := by
    have := (h.rd (k := 0) (i := 0) (E := 5) (sz := 1) (s := t) (vs := bys (l ++ mks)) ⟨_, rfl, rfl⟩).bys_len
    rw [this, List.length_append]; rfl
  refine T38.calls ?_
  unfold T38
  refine (lend_st h (sup hp) hl).mono ?_
  rintro s w1 ⟨hs, h⟩
  refine (same_ok (h.rd (k := 1) (i := 0) (E := 5) (sz := 1) (s := t) (vs := bys (l ++ mks)) ⟨_, rfl, rfl⟩) (h.rd (k := 0) (i := 0) (E := 5) (sz := 1) (s := s) (vs := bys (l ++ mks)) ⟨_, rfl, rfl⟩)).mono ?_
  rintro b w2 ⟨rfl, hb⟩
  have hb : (b : Bool) = true := by rw [hb]; exact decide_eq_true rfl
  have h := h.drop 0
  dsimp only [delO] at h
  rw [hb]
  refine LoopX.mk (fun st w' => ∃ (m : Nat) (l' : List UInt8), st = ((m : Int), ()) ∧ m ≤ t.len ∧ l'.length = l.length + 3 ∧ St w0 w' ([brow (t, l')] :: F)) (fun st => t.len - st.1.toNat) ⟨0, l ++ mks, rfl, Nat.zero_le _, by rw [List.length_append]; rfl, h⟩ ?_
  clear h
  rintro _ w3 ⟨m, l', rfl, hm, hl', h⟩ k hk
  dsimp only at hk ⊢
  rw [SplitB_iff]
  refine ⟨fun hc => ?_, fun hc => ?_⟩
  · have hc : m < t.len := by have : (m : Int) < (t.len : Int) := of_decide_eq_true hc
                              omega
    have hem : IntKind.i64.wrap ((m : Int) + 1) = ((m + 1 : Nat) : Int) := by rw [wr (by omega)]; omega
    rw [hem]
    have hrr := h.rd (k := 0) (i := 0) (E := 5) (sz := 1) (s := t) (vs := bys l') ⟨_, rfl, rfl⟩
    refine hrr.idxK m rfl hc ?_
    intro b0 o0 ha
    obtain ⟨y, hy⟩ : ∃ y : UInt8, IntKind.u8.wrap (IntKind.i64.wrap (60 + (m : Int))) = (y.toNat : Int) := by
      refine ⟨UInt8.ofNat (IntKind.u8.wrap (IntKind.i64.wrap (60 + (m : Int)))).toNat, ?_⟩
      have h1 : ∀ z : Int, 0 ≤ IntKind.u8.wrap z ∧ IntKind.u8.wrap z < 256 := by
        intro z
        simp only [IntKind.wrap]
        have : (2 : Int) ^ 8 = 256 := rfl
        constructor
        · exact Int.emod_nonneg _ (by decide)
        · exact Int.emod_lt_of_pos _ (by decide)
      obtain ⟨h2, h3⟩ := h1 (IntKind.i64.wrap (60 + (m : Int)))
      rw [UInt8.toNat_ofNat', Nat.mod_eq_of_lt (by omega)]
      omega
    rw [hy]
    refine h.storR 0 0 ⟨_, rfl, rfl⟩ ha (m * 1) rfl (by simp [bys]; omega) rfl ?_
    intro w4 h
    dsimp only [updG, setO] at h
    refine hk _ _ ⟨m + 1, l'.set m y, rfl, by omega, by simp [hl'], ?_⟩ (by dsimp only; omega)
    have e1 : bys (l'.set m y) = (bys l').set (m * 1) (.int .u8 (y.toNat : Int)) := by
      rw [Nat.mul_one, bys, bys, List.map_set]; rfl
    rw [brow, e1]
    exact h
  · exact ⟨rfl, l', hl', h⟩
end Go.Proofs.Ytodgnpmljdopiaa

/- The laws' own small functions: lists of segments alike. -/
namespace Go.Proofs.Ytodgnpmljdopiaa
open Go Go.Fw Go.RowKit
set_option linter.unusedVariables false
set_option linter.unusedSimpArgs false
set_option maxRecDepth 4000
set_option maxHeartbeats 4000000
variable {w0 w : World} {F G : Grps}

theorem alike_st (h : St w0 w F) {a b : Sg} (ha : SeesG w0 F a.d.1 1 (bys a.d.2)) (hb : SeesG w0 F b.d.1 1 (bys b.d.2)) (hab : a.pl = b.pl) : CallK Try.prog .bool 59 #[.agg #[.int .i64 a.fr, .int .i64 a.to, .int .i64 a.seq, .int .i64 a.ack, .slice a.d.1.a a.d.1.len a.d.1.cap], .agg #[.int .i64 b.fr, .int .i64 b.to, .int .i64 b.seq, .int .i64 b.ack, .slice b.d.1.a b.d.1.len b.d.1.cap]] w
    fun (v : Bool) w' => v = true ∧ St w0 w' F := by
  simp only [Sg.pl, Prod.mk.injEq] at hab
  obtain ⟨h1, h2, h3, h4, h5⟩ := hab
  refine T59.calls (p0 := sgt a) (p1 := sgt b) ?_
  unfold T59
  refine h.newB run_boxA rfl ?_
  intro b2 w1 h
  refine h.newB run_boxA rfl ?_
  intro b3 w2 h
  refine h.loadB 1 0 ⟨_, rfl, rfl⟩ rfl (kd := .int .i64) (x := a.fr) rfl ?_
  refine h.loadB 0 0 ⟨_, rfl, rfl⟩ rfl (kd := .int .i64) (x := b.fr) rfl ?_
  rw [h1, SplitB_iff]
  refine ⟨fun _ => ?_, fun hf => by simp at hf⟩
  refine h.loadB 1 0 ⟨_, rfl, rfl⟩ rfl (kd := .int .i64) (x := a.to) rfl ?_
  refine h.loadB 0 0 ⟨_, rfl, rfl⟩ rfl (kd := .int .i64) (x := b.to) rfl ?_
  rw [h2, SplitB_iff]
  refine ⟨fun _ => ?_, fun hf => by simp at hf⟩
  refine h.loadB 1 0 ⟨_, rfl, rfl⟩ rfl (kd := .int .i64) (x := a.seq) rfl ?_
  refine h.loadB 0 0 ⟨_, rfl, rfl⟩ rfl (kd := .int .i64) (x := b.seq) rfl ?_
  rw [h3, SplitB_iff]
  refine ⟨fun _ => ?_, fun hf => by simp at hf⟩
  refine h.loadB 1 0 ⟨_, rfl, rfl⟩ rfl (kd := .int .i64) (x := a.ack) rfl ?_
  refine h.loadB 0 0 ⟨_, rfl, rfl⟩ rfl (kd := .int .i64) (x := b.ack) rfl ?_
  rw [h4, SplitB_iff]
  refine ⟨fun _ => ?_, fun hf => by simp at hf⟩
  refine h.loadB 1 0 ⟨_, rfl, rfl⟩ rfl (kd := .sl) (x := a.d.1) rfl ?_
  refine h.loadB 0 0 ⟨_, rfl, rfl⟩ rfl (kd := .sl) (x := b.d.1) rfl ?_
  have h := (h.drop 0).drop 0
  dsimp only [delO] at h
  refine (same_ok (ha _ h) (hb _ h)).mono ?_
  rintro v w3 ⟨rfl, hv⟩
  exact ⟨by rw [hv]; exact decide_eq_true h5, h⟩
theorem all_st (h : St w0 w F) {o1 o2 : Sl} {g1 g2 : List Sg} (r1 : SeesG w0 F o1 5 (g1.flatMap sgv)) (r2 : SeesG w0 F o2 5 (g2.flatMap sgv)) (s1 : ∀ g ∈ g1, SeesG w0 F g.d.1 1 (bys g.d.2)) (s2 : ∀ g ∈ g2, SeesG w0 F g.d.1 1 (bys g.d.2)) (hg : g1.map Sg.pl = g2.map Sg.pl) (hl : g1.length ≤ 16777216) :
    CallK Try.prog .bool 45 #[.slice o1.a o1.len o1.cap, .slice o2.a o2.len o2.cap] w fun (v : Bool) w' => v = true ∧ St w0 w' F := by
  have l1 := out_len (r1 _ h)
  have l2 := out_len (r2 _ h)
  have hgl : g1.length = g2.length := by have := congrArg List.length hg; simpa using this
  refine T45.calls ?_
  unfold T45
  have hi : (o2.len : Int) = (o1.len : Int) := by omega
  rw [hi, SplitB_iff]
  refine ⟨fun hf => by simp at hf, fun _ => ?_⟩
  refine LoopX.mk (fun st w' => ∃ m : Nat, st = ((m : Int), ()) ∧ m ≤ g1.length ∧ St w0 w' F) (fun st => g1.length - st.1.toNat) ⟨0, rfl, Nat.zero_le _, h⟩ ?_
  clear h
  rintro _ w1 ⟨m, rfl, hm, h⟩ k hk
  dsimp only at hk ⊢
  rw [SplitB_iff]
  refine ⟨fun hc => ?_, fun hc => ⟨rfl, h⟩⟩
  have hc : m < g1.length := by have : (m : Int) < (o1.len : Int) := of_decide_eq_true hc
                                omega
  have hc2 : m < g2.length := by omega
  have hem : IntKind.i64.wrap ((m : Int) + 1) = ((m + 1 : Nat) : Int) := by rw [wr (by omega)]; omega
  rw [hem]
  have hr1 := r1 _ h.drew
  have hr2 := r2 _ h.drew
  refine hr1.idxR m rfl (by omega) ?_
  intro b1 q1 ha1
  refine hr1.elAR ha1 (m * 5) rfl (kd := Kds) (sgt g1[m]) (ds := sgv g1[m]) (flat_at sgv_len _ _ hc) ?_
  refine hr2.idxR m rfl (by omega) ?_
  intro b2 q2 ha2
  refine hr2.elAR ha2 (m * 5) rfl (kd := Kds) (sgt g2[m]) (ds := sgv g2[m]) (flat_at sgv_len _ _ hc2) ?_
  have hpl : g1[m].pl = g2[m].pl := by
    have : (g1.map Sg.pl)[m]? = (g2.map Sg.pl)[m]? := by rw [hg]
    rw [List.getElem?_map, List.getElem?_map, List.getElem?_eq_getElem hc, List.getElem?_eq_getElem hc2] at this
    simpa using this
  refine (alike_st h.drew (s1 _ (List.getElem_mem hc)) (s2 _ (List.getElem_mem hc2)) hpl).mono ?_
  intro (v : Bool) w2 ⟨hv, h⟩
  rw [hv, SplitB_iff]
  refine ⟨fun hf => (by cases hf), fun _ => ?_⟩
  exact hk _ _ ⟨m + 1, rfl, by omega, h⟩ (by dsimp only; omega)
/-- The lists within segments, as a list of their own. -/
theorem datas_st (h : St w0 w F) {o : Sl} {gs : List Sg} (r1 : SeesG w0 F o 5 (gs.flatMap sgv)) (hl : gs.length ≤ 16777216) : CallK Try.prog .sl 60 #[.slice o.a o.len o.cap] w
    fun (s : Sl) w' => s.len = gs.length ∧ St w0 w' ([.row 45 1 s (lsl (gs.map (·.d)))] :: F) := by
  have l1 := out_len (r1 _ h)
  refine T60.calls ?_
  unfold T60
  have h := h.nilrow 45 1
  refine LoopX.mk (fun st w' => ∃ (s : Sl) (m : Nat), st = (s, (m : Int), ()) ∧ m ≤ gs.length ∧ s.len = m ∧ St w0 w' ([.row 45 1 s (lsl ((gs.take m).map (·.d)))] :: F)) (fun st => gs.length - st.2.1.toNat) ⟨_, 0, rfl, Nat.zero_le _, rfl, h⟩ ?_
  clear h
  rintro _ w1 ⟨s, m, rfl, hm, hs, h⟩ k hk
  dsimp only at hk ⊢
  rw [SplitB_iff]
  refine ⟨fun hc => ?_, fun hc => ?_⟩
  · have hc : m < gs.length := by have : (m : Int) < (o.len : Int) := of_decide_eq_true hc
                                  omega
    have hem : IntKind.i64.wrap ((m : Int) + 1) = ((m + 1 : Nat) : Int) := by rw [wr (by omega)]; omega
    rw [hem]
    have hr := r1 _ (h.drop 0)
    refine hr.idxK m rfl (by omega) ?_
    intro b0 o0 ha
    refine hr.el ha (m * 5 + 4) (by rw [add_lit', Nat.add_assoc]) (kd := .sl) (x := gs[m].d.1) (by rw [flat_cell sgv_len hc 4 (by decide)]; rfl) ?_
    refine h.newS 1 (bs51 _ _ _ _) rfl rfl rfl ?_
    intro u w2 hu1 hu2 _ h
    refine h.app 1 0 ⟨_, rfl, rfl⟩ (h.rd (k := 0) (i := 0) ⟨_, rfl, rfl⟩) (fun v hv => by simp at hv; subst hv; rfl) (by simp only [maxLen]; omega) (by omega) ?_
    intro s' w3 hl3 h
    have h := h.drop 0
    dsimp only [delO, updG, setO] at h
    refine hk _ _ ⟨s', m + 1, rfl, by omega, by omega, ?_⟩ (by dsimp only; omega)
    have e1 : lsl ((gs.take (m + 1)).map (·.d)) = lsl ((gs.take m).map (·.d)) ++ [.slice gs[m].d.1.a gs[m].d.1.len gs[m].d.1.cap] := by
      rw [List.take_succ_eq_append_getElem hc, List.map_append]
      exact lsl_snoc _ _
    rw [e1]
    exact h
  · have hc : m = gs.length := by have : ¬ (m : Int) < (o.len : Int) := of_decide_eq_false hc
                                  omega
    subst hc
    rw [List.take_length] at h
    exact ⟨hs, h⟩
end Go.Proofs.Ytodgnpmljdopiaa

namespace Go.Proofs.Ytodgnpmljdopiaa
open Go Go.Fw Go.Proofs
set_option maxRecDepth 100000
set_option linter.unusedVariables false

/-- (*sluice/sluicelaw3.shelf).stands -/
def T50 (p0 : Option Addr) (w : World) (K : Bool → World → Prop) : Prop :=
  LoopX (α := Int × Unit) (fun s1 w k2 =>
    NilP p0 fun t7 =>
    RunN Try.prog .sl (V (Instr.loadAt 51 (.pointer (some (t7.add 0))))) w fun t9 w =>
    SplitB (decide (s1.1 < (t9.len : Int)))
      (LoopX (α := Int × Unit) (fun s3 w k4 =>
        NilP p0 fun t16 =>
        RunN Try.prog .sl (V (Instr.loadAt 51 (.pointer (some (t16.add 0))))) w fun t18 w =>
        RunN Try.prog .addr (V (Instr.indexAt 51 (.slice t18.a t18.len t18.cap) (.int .i64 s1.1))) w fun t20 w =>
        RunN Try.prog .sl (V (Instr.loadAt 45 (.pointer (some t20)))) w fun t21 w =>
        SplitB (decide (s3.1 < (t21.len : Int)))
          (NilP p0 fun t27 =>
          RunN Try.prog .sl (V (Instr.loadAt 51 (.pointer (some (t27.add 0))))) w fun t29 w =>
          RunN Try.prog .addr (V (Instr.indexAt 51 (.slice t29.a t29.len t29.cap) (.int .i64 s1.1))) w fun t31 w =>
          RunN Try.prog .sl (V (Instr.loadAt 45 (.pointer (some t31)))) w fun t32 w =>
          RunN Try.prog .addr (V (Instr.indexAt 45 (.slice t32.a t32.len t32.cap) (.int .i64 s3.1))) w fun t34 w =>
          RunN Try.prog (.int .u8) (V (Instr.loadAt 5 (.pointer (some t34)))) w fun t35 w =>
          SplitB (t35 != (IntKind.u8.wrap (IntKind.i64.wrap (s1.1 + s3.1))))
            (K false w)
            (k4 (IntKind.i64.wrap (s3.1 + 1), ()) w))
          (k2 (IntKind.i64.wrap (s1.1 + 1), ()) w))
      (0, ()) w)
      (K true w))
  (0, ()) w
theorem T50.calls {p0 : Option Addr} {w : World} {K : Bool → World → Prop} (h : T50 p0 w K) : CallK Try.prog .bool 50 #[.pointer p0] w K :=
  bodyZ_sound (κ := kappa) (ann := [(3, [(3, (.int .i64))]), (8, [(4, (.int .i64))])]) (fn := Try.f50) Try.func50 rfl (by kernel_rfl) (cast (show T50 p0 w K = bodyZ Try.prog kappa [(3, [(3, (.int .i64))]), (8, [(4, (.int .i64))])] .bool Try.f50 [.pointer p0] w K by kernel_rfl) h)

/-- (*sluice/sluicelaw3.shelf).put -/
def T56 (p0 : Option Addr) (p1 : Sl) (w : World) (K : Unit → World → Prop) : Prop :=
  NilP p0 fun t11 =>
  RunN Try.prog (.int .i64) (V (Instr.loadAt 3 (.pointer (some (t11.add 1))))) w fun t13 w =>
  LoopX (α := Int × Unit) (fun s1 w k2 =>
    SplitB (decide (s1.1 < (p1.len : Int)))
      (LoopX (α := Int × Unit) (fun s3 w k4 =>
        RunN Try.prog .addr (V (Instr.indexAt 51 (.slice p1.a p1.len p1.cap) (.int .i64 s1.1))) w fun t23 w =>
        RunN Try.prog .sl (V (Instr.loadAt 45 (.pointer (some t23)))) w fun t24 w =>
        SplitB (decide (s3.1 < (t24.len : Int)))
          (ReadN Try.prog .addr (V (Instr.indexAt 51 (.slice p1.a p1.len p1.cap) (.int .i64 s1.1))) w.drew fun t31 =>
          ReadN Try.prog .sl (V (Instr.loadAt 45 (.pointer (some t31)))) w.drew fun t32 =>
          NilP p0 fun t35 =>
          ReadN Try.prog (.int .i64) (V (Instr.loadAt 3 (.pointer (some (t35.add 1))))) w.drew fun t37 =>
          ReadN Try.prog .addr (V (Instr.indexAt 45 (.slice t32.a t32.len t32.cap) (.int .i64 s3.1))) w.drew fun t41 =>
          RunU Try.prog (U (Instr.storeAt 5 (.pointer (some t41)) (.int .u8 (IntKind.u8.wrap (IntKind.i64.wrap (t37 + s3.1)))))) w.drew fun w =>
          k4 (IntKind.i64.wrap (s3.1 + 1), ()) w)
          (NilP p0 fun t44 =>
          ReadN Try.prog .sl (V (Instr.loadAt 51 (.pointer (some (t44.add 0))))) w.drew fun t46 =>
          ReadN Try.prog .addr (V (Instr.indexAt 51 (.slice p1.a p1.len p1.cap) (.int .i64 s1.1))) w.drew fun t49 =>
          ReadN Try.prog .sl (V (Instr.loadAt 45 (.pointer (some t49)))) w.drew fun t50 =>
          RunN Try.prog .sl (V (Instr.buildSlice 51 1 #[(0, .slice t50.a t50.len t50.cap)])) w.drew fun t51 w =>
          StillV Try.prog (V (Instr.loadAt 51 (.pointer (some (t44.add 0))))) (.slice t46.a t46.len t46.cap) w ∧
          RunN Try.prog .sl (V (Builtin.append_ #[51, 51] 51 #[.slice t46.a t46.len t46.cap, .slice t51.a t51.len t51.cap])) w fun t52 w =>
          NilP p0 fun t53 =>
          RunU Try.prog (U (Instr.storeAt 51 (.pointer (some (t53.add 0))) (.slice t52.a t52.len t52.cap))) w fun w =>
          NilP p0 fun t56 =>
          RunN Try.prog (.int .i64) (V (Instr.loadAt 3 (.pointer (some (t56.add 1))))) w fun t58 w =>
          NilP p0 fun t60 =>
          RunU Try.prog (U (Instr.storeAt 3 (.pointer (some (t60.add 1))) (.int .i64 (IntKind.i64.wrap (t58 + 1))))) w fun w =>
          k2 (IntKind.i64.wrap (s1.1 + 1), ()) w))
      (0, ()) w)
      (LoopX (α := Int × Unit) (fun s5 w k6 =>
        SplitB (decide (s5.1 < (p1.len : Int)))
          (RunN Try.prog .addr (V (Instr.indexAt 51 (.slice p1.a p1.len p1.cap) (.int .i64 s5.1))) w fun t70 w =>
          RunN Try.prog .sl (V (Instr.loadAt 45 (.pointer (some t70)))) w fun t71 w =>
          LoopX (α := Sl × Int × Unit) (fun s7 w k8 =>
            SplitB (decide (s7.2.1 < 100))
              (RunN Try.prog .sl (V (Instr.buildSlice 45 1 #[(0, .int .u8 (IntKind.u8.wrap (IntKind.i64.wrap ((IntKind.i64.wrap ((IntKind.i64.wrap (t13 + s5.1)) + s7.2.1)) + 128))))])) w fun t84 w =>
              RunN Try.prog .sl (V (Builtin.append_ #[45, 45] 45 #[.slice s7.1.a s7.1.len s7.1.cap, .slice t84.a t84.len t84.cap])) w fun t85 w =>
              k8 (t85, IntKind.i64.wrap (s7.2.1 + 1), ()) w)
              (k6 (IntKind.i64.wrap (s5.1 + 1), ()) w))
          (t71, 0, ()) w)
          (K () w))
      (0, ()) w))
  (0, ()) w
theorem T56.calls {p0 : Option Addr} {p1 : Sl} {w : World} {K : Unit → World → Prop} (h : T56 p0 p1 w K) : CallK Try.prog (.tup .nilT) 56 #[.pointer p0, .slice p1.a p1.len p1.cap] w K :=
  bodyZ_sound (κ := kappa) (ann := [(3, [(5, (.int .i64))]), (9, [(6, (.int .i64))]), (15, [(7, (.int .i64))]), (21, [(8, .sl), (9, (.int .i64))])]) (fn := Try.f56) Try.func56 rfl (by kernel_rfl) (cast (show T56 p0 p1 w K = bodyZ Try.prog kappa [(3, [(5, (.int .i64))]), (9, [(6, (.int .i64))]), (15, [(7, (.int .i64))]), (21, [(8, .sl), (9, (.int .i64))])] (.tup .nilT) Try.f56 [.pointer p0, .slice p1.a p1.len p1.cap] w K by kernel_rfl) h)
end Go.Proofs.Ytodgnpmljdopiaa

/- The shelf: lists that were written over hold their marks. -/
namespace Go.Proofs.Ytodgnpmljdopiaa
open Go Go.Fw Go.RowKit
set_option linter.unusedVariables false
set_option linter.unusedSimpArgs false
set_option maxRecDepth 4000
set_option maxHeartbeats 4000000
variable {w0 w : World} {F G : Grps}

def mark (i n : Nat) : List UInt8 := (List.range n).map fun k => UInt8.ofNat (i + k)
theorem mark_len (i n : Nat) : (mark i n).length = n := by simp [mark]
theorem mark_at {i n k : Nat} (h : k < n) : (mark i n)[k]? = some (UInt8.ofNat (i + k)) := by simp [mark, h]
theorem u8_of (n : Nat) : IntKind.u8.wrap (n : Int) = ((UInt8.ofNat n).toNat : Int) := by
  rw [UInt8.toNat_ofNat']
  simp only [IntKind.wrap]
  show ((n : Int) % 256) = _
  omega
/-- The shelf: its lists, each with its mark. -/
structure ShI (L : List Bs) (g : List Ent) : Prop where
  sees : ∀ b ∈ L, Sees8 g b
  marks : ∀ (i : Nat) (h : i < L.length), L[i].2 = mark i L[i].2.length
  lens : ∀ b ∈ L, b.2.length ≤ 1048576
  few : L.length ≤ 1048576
def shE (sb : Nat) (ls : Sl) (L : List Bs) : List Ent := [.cel sb 70 [sv ls, .int .i64 (L.length : Int)], .row 45 1 ls (lsl L)]
theorem stands_st {sb : Nat} {ls : Sl} {L : List Bs} {g : List Ent} (h : St w0 w (shE sb ls L :: g :: F)) (hI : ShI L g) : CallK Try.prog .bool 50 #[.pointer (some ⟨sb, 0, none⟩)] w
    fun (v : Bool) w' => v = true ∧ St w0 w' (shE sb ls L :: g :: F) := by
  have hfew := hI.few
  refine T50.calls ?_
  unfold T50
  refine LoopX.mk (fun st w' => ∃ m : Nat, st = ((m : Int), ()) ∧ m ≤ L.length ∧ St w0 w' (shE sb ls L :: g :: F)) (fun st => L.length - st.1.toNat) ⟨0, rfl, Nat.zero_le _, h⟩ ?_
  clear h
  rintro _ w1 ⟨m, rfl, hm, h⟩ k hk
  dsimp only at hk ⊢
  have hll := lsl_rd (h.rd (k := 0) (i := 1) (E := 45) (sz := 1) (s := ls) (vs := lsl L) ⟨_, rfl, rfl⟩)
  refine NilP.mk ?_
  refine h.loadB 0 0 ⟨_, rfl, rfl⟩ rfl (kd := .sl) (x := ls) rfl ?_
  rw [SplitB_iff]
  refine ⟨fun hc => ?_, fun hc => ⟨rfl, h⟩⟩
  have hc : m < L.length := by have : (m : Int) < (ls.len : Int) := of_decide_eq_true hc
                               omega
  have hem : IntKind.i64.wrap ((m : Int) + 1) = ((m + 1 : Nat) : Int) := by rw [wr (by omega)]; omega
  rw [hem]
  have hbl := hI.lens _ (List.getElem_mem hc)
  have hmk := hI.marks m hc
  refine LoopX.mk (fun st w' => ∃ q : Nat, st = ((q : Int), ()) ∧ q ≤ L[m].2.length ∧ St w0 w' (shE sb ls L :: g :: F)) (fun st => L[m].2.length - st.1.toNat) ⟨0, rfl, Nat.zero_le _, h⟩ ?_
  clear h
  rintro _ w2 ⟨q, rfl, hq, h⟩ k4 hk4
  dsimp only at hk4 ⊢
  have hrr := h.rd (k := 0) (i := 1) (E := 45) (sz := 1) (s := ls) (vs := lsl L) ⟨_, rfl, rfl⟩
  have hbr : Rd w2 L[m].1 1 (bys L[m].2) := hI.sees _ (List.getElem_mem hc) _ _ F (by
    have h2 := h.ord 2 [1]
    dsimp only [pick, nthO, dropO] at h2
    exact h2)
  have hbn := hbr.bys_len
  refine NilP.mk ?_
  refine h.loadB 0 0 ⟨_, rfl, rfl⟩ rfl (kd := .sl) (x := ls) rfl ?_
  refine hrr.idxK m rfl (by omega) ?_
  intro b0 o0 ha
  refine hrr.el ha (m * 1) rfl (kd := .sl) (x := L[m].1) (by rw [Nat.mul_one]; exact lsl_at hc) ?_
  rw [SplitB_iff]
  refine ⟨fun hc2 => ?_, fun hc2 => ?_⟩
  · have hc2 : q < L[m].2.length := by have : (q : Int) < (L[m].1.len : Int) := of_decide_eq_true hc2
                                       omega
    have hem2 : IntKind.i64.wrap ((q : Int) + 1) = ((q + 1 : Nat) : Int) := by rw [wr (by omega)]; omega
    rw [hem2]
    refine NilP.mk ?_
    refine h.loadB 0 0 ⟨_, rfl, rfl⟩ rfl (kd := .sl) (x := ls) rfl ?_
    refine hrr.idxK m rfl (by omega) ?_
    intro b1 o1 ha1
    refine hrr.el ha1 (m * 1) rfl (kd := .sl) (x := L[m].1) (by rw [Nat.mul_one]; exact lsl_at hc) ?_
    refine hbr.idxK q rfl (by omega) ?_
    intro b2 o2 ha2
    have hval : L[m].2[q] = UInt8.ofNat (m + q) := by
      have h1 : L[m].2[q]? = (mark m L[m].2.length)[q]? := by rw [← hmk]
      rw [List.getElem?_eq_getElem hc2, mark_at hc2] at h1
      simpa using h1
    refine hbr.el ha2 (q * 1) rfl (kd := .int .u8) (x := (L[m].2[q].toNat : Int)) (by rw [Nat.mul_one]; exact bys_get hc2) ?_
    have hv : IntKind.u8.wrap (IntKind.i64.wrap ((m : Int) + (q : Int))) = (L[m].2[q].toNat : Int) := by
      rw [wr (by omega), hval, ← u8_of]
      congr 1
    rw [hv, SplitB_iff]
    refine ⟨fun hf => by simp at hf, fun _ => ?_⟩
    exact hk4 _ _ ⟨q + 1, rfl, by omega, h⟩ (by dsimp only; omega)
  · exact hk _ _ ⟨m + 1, rfl, by omega, h⟩ (by dsimp only; omega)
end Go.Proofs.Ytodgnpmljdopiaa

namespace Go.Proofs.Ytodgnpmljdopiaa
open Go Go.Fw Go.Proofs
set_option maxRecDepth 100000
set_option linter.unusedVariables false

/-- sluice/sluicelaw3.LinkSends -/
def T4 (p0 : Int) (p1 : Int) (p2 : Int) (p3 : Int) (p4 : Int) (p5 : Sl) (w : World) (K : Bool → World → Prop) : Prop :=
  CallK Try.prog .bool 15 #[.int .i64 p0, .int .i64 p1, .int .i64 p2, .int .i64 p3, .int .i64 p4, .slice p5.a p5.len p5.cap, .int .i64 0, .int .i64 0] w fun t19 w =>
  K t19 w
theorem T4.calls {p0 : Int} {p1 : Int} {p2 : Int} {p3 : Int} {p4 : Int} {p5 : Sl} {w : World} {K : Bool → World → Prop} (h : T4 p0 p1 p2 p3 p4 p5 w K) : CallK Try.prog .bool 4 #[.int .i64 p0, .int .i64 p1, .int .i64 p2, .int .i64 p3, .int .i64 p4, .slice p5.a p5.len p5.cap] w K :=
  bodyZ_sound (κ := kappa) (ann := []) (fn := Try.f4) Try.func4 rfl (by kernel_rfl) (cast (show T4 p0 p1 p2 p3 p4 p5 w K = bodyZ Try.prog kappa [] .bool Try.f4 [.int .i64 p0, .int .i64 p1, .int .i64 p2, .int .i64 p3, .int .i64 p4, .slice p5.a p5.len p5.cap] w K by kernel_rfl) h)

/-- sluice/sluicelaw3.LinkAll -/
def T5 (p0 : Int) (p1 : Int) (p2 : Int) (p3 : Int) (p4 : Int) (p5 : Sl) (w : World) (K : Bool → World → Prop) : Prop :=
  CallK Try.prog .bool 15 #[.int .i64 p0, .int .i64 p1, .int .i64 p2, .int .i64 p3, .int .i64 p4, .slice p5.a p5.len p5.cap, .int .i64 5, .int .i64 6] w fun t19 w =>
  K t19 w
theorem T5.calls {p0 : Int} {p1 : Int} {p2 : Int} {p3 : Int} {p4 : Int} {p5 : Sl} {w : World} {K : Bool → World → Prop} (h : T5 p0 p1 p2 p3 p4 p5 w K) : CallK Try.prog .bool 5 #[.int .i64 p0, .int .i64 p1, .int .i64 p2, .int .i64 p3, .int .i64 p4, .slice p5.a p5.len p5.cap] w K :=
  bodyZ_sound (κ := kappa) (ann := []) (fn := Try.f5) Try.func5 rfl (by kernel_rfl) (cast (show T5 p0 p1 p2 p3 p4 p5 w K = bodyZ Try.prog kappa [] .bool Try.f5 [.int .i64 p0, .int .i64 p1, .int .i64 p2, .int .i64 p3, .int .i64 p4, .slice p5.a p5.len p5.cap] w K by kernel_rfl) h)

/-- sluice/sluicelaw3.run -/
def T15 (p0 : Int) (p1 : Int) (p2 : Int) (p3 : Int) (p4 : Int) (p5 : Sl) (p6 : Int) (p7 : Int) (w : World) (K : Bool → World → Prop) : Prop :=
  CallK Try.prog .bool 9 #[] w fun t27 w =>
  CallK Try.prog (.tup (.cons .ptr (.cons .bool .nilT))) 10 #[.int .i64 p0, .int .i64 p1, .int .i64 p2, .int .i64 p4] w fun t33 w =>
  CallK Try.prog (.tup (.cons .ptr (.cons .bool .nilT))) 10 #[.int .i64 p1, .int .i64 p0, .int .i64 p3, .int .i64 p4] w fun t41 w =>
  JoinX (α := Bool × Unit) (fun j2 w =>
    SplitB j2.1
      (K false w)
      (RunN Try.prog .addr (V (Instr.box 84 (.agg #[.slice none 0 0]))) w fun t55 w =>
      RunN Try.prog .addr (V (Instr.box 73 (.agg #[.slice none 0 0, .int .i64 0]))) w fun t57 w =>
      JoinX (α := Unit) (fun j4 w =>
        JoinX (α := Unit) (fun j6 w =>
          LoopX (α := Int × Unit) (fun s7 w k8 =>
            JoinX (α := Bool × Unit) (fun j10 w =>
              SplitB j10.1
                (JoinX (α := Unit) (fun j12 w =>
                  k8 (IntKind.i64.wrap (s7.1 + 1), ()) w)
                fun k11 =>
                  RunN Try.prog .addr (V (Instr.indexAt 36 (.slice p5.a p5.len p5.cap) (.int .i64 s7.1))) w fun t82 w =>
                  RunN Try.prog (.agg (.cons (.int .i64) (.cons (.int .i64) (.cons (.int .i64) (.cons .sl (.cons (.int .i64) (.cons (.int .i64) (.cons (.int .i64) (.cons (.int .i64) (.cons .sl .nilT)))))))))) (V (Instr.loadAt 86 (.pointer (some t82)))) w fun t83 w =>
                  RunN Try.prog .addr (V (Instr.alloc 86 true (.tuple #[]))) w fun t25 w =>
                  RunU Try.prog (U (Instr.storeAt 86 (.pointer (some t25)) (.agg #[.int .i64 t83.1, .int .i64 t83.2.1, .int .i64 t83.2.2.1, .slice t83.2.2.2.1.a t83.2.2.2.1.len t83.2.2.2.1.cap, .int .i64 t83.2.2.2.2.1, .int .i64 t83.2.2.2.2.2.1, .int .i64 t83.2.2.2.2.2.2.1, .int .i64 t83.2.2.2.2.2.2.2.1, .slice t83.2.2.2.2.2.2.2.2.1.a t83.2.2.2.2.2.2.2.2.1.len t83.2.2.2.2.2.2.2.2.1.cap]))) w fun w =>
                  JoinX (α := Option Addr × Unit) (fun j14 w =>
                    JoinX (α := Bool × Unit) (fun j16 w =>
                      SplitB j16.1
                        (k11 () w)
                        (RunN Try.prog (.agg (.cons (.int .i64) (.cons (.int .i64) (.cons (.int .i64) (.cons .sl (.cons (.int .i64) (.cons (.int .i64) (.cons (.int .i64) (.cons (.int .i64) (.cons .sl .nilT)))))))))) (V (Instr.loadAt 86 (.pointer (some t25)))) w fun t114 w =>
                        CallK Try.prog .bool 29 #[.pointer j14.1, .agg #[.int .i64 t114.1, .int .i64 t114.2.1, .int .i64 t114.2.2.1, .slice t114.2.2.2.1.a t114.2.2.2.1.len t114.2.2.2.1.cap, .int .i64 t114.2.2.2.2.1, .int .i64 t114.2.2.2.2.2.1, .int .i64 t114.2.2.2.2.2.2.1, .int .i64 t114.2.2.2.2.2.2.2.1, .slice t114.2.2.2.2.2.2.2.2.1.a t114.2.2.2.2.2.2.2.2.1.len t114.2.2.2.2.2.2.2.2.1.cap], .pointer (some t55)] w fun t116 w =>
                        SplitB (!t116)
                          (K false w)
                          (k11 () w)))
                    fun k15 =>
                      RunN Try.prog .bool (V (do eqGuard .eql 23 (.tmp 89) (.const (.pointer none)) (.pointer j14.1) (.pointer none); binOp .eql 23 (.pointer j14.1) (.pointer none))) w fun t90 w =>
                      SplitB t90
                        (k15 (true, ()) w)
                        (RunN Try.prog (.int .i64) (V (Instr.loadAt 3 (.pointer (some (t25.add 0))))) w fun t93 w =>
                        SplitB (decide (t93 ≥ 5))
                          (RunN Try.prog (.int .i64) (V (Instr.loadAt 3 (.pointer (some (t25.add 0))))) w fun t97 w =>
                          SplitB (decide (t97 ≤ 6))
                            (RunN Try.prog (.int .i64) (V (Instr.loadAt 3 (.pointer (some (t25.add 0))))) w fun t102 w =>
                            SplitB (decide (t102 < p6))
                              (k15 (true, ()) w)
                              (RunN Try.prog (.int .i64) (V (Instr.loadAt 3 (.pointer (some (t25.add 0))))) w fun t107 w =>
                              k15 (decide (t107 > p7), ()) w))
                            (k15 (false, ()) w))
                          (k15 (false, ()) w)))
                  fun k13 =>
                    RunN Try.prog (.int .i64) (V (Instr.loadAt 3 (.pointer (some (t25.add 1))))) w fun t86 w =>
                    SplitB (t86 == 1)
                      (k13 (t41.1, ()) w)
                      (k13 (t33.1, ()) w))
                (CallK Try.prog .bool 30 #[.pointer (some t57)] w fun t120 w =>
                K t120 w))
            fun k9 =>
              SplitB (decide (s7.1 < (p5.len : Int)))
                (k9 (decide (s7.1 < 300), ()) w)
                (k9 (false, ()) w))
          (0, ()) w)
        fun k5 =>
          RunN Try.prog .bool (V (do eqGuard .neq 23 (.tmp 64) (.const (.pointer none)) (.pointer t41.1) (.pointer none); binOp .neq 23 (.pointer t41.1) (.pointer none))) w fun t65 w =>
          SplitB t65
            (NilP t41.1 fun t68 =>
            RunU Try.prog (U (Instr.storeAt 29 (.pointer (some (t68.add 3))) (.pointer (some t57)))) w fun w =>
            k5 () w)
            (k5 () w))
      fun k3 =>
        RunN Try.prog .bool (V (do eqGuard .neq 23 (.tmp 58) (.const (.pointer none)) (.pointer t33.1) (.pointer none); binOp .neq 23 (.pointer t33.1) (.pointer none))) w fun t59 w =>
        SplitB t59
          (NilP t33.1 fun t62 =>
          RunU Try.prog (U (Instr.storeAt 29 (.pointer (some (t62.add 3))) (.pointer (some t57)))) w fun w =>
          k3 () w)
          (k3 () w)))
  fun k1 =>
    SplitB (!t27)
      (k1 (true, ()) w)
      (SplitB (!t33.2.1)
        (k1 (true, ()) w)
        (k1 (!t41.2.1, ()) w))
theorem T15.calls {p0 : Int} {p1 : Int} {p2 : Int} {p3 : Int} {p4 : Int} {p5 : Sl} {p6 : Int} {p7 : Int} {w : World} {K : Bool → World → Prop} (h : T15 p0 p1 p2 p3 p4 p5 p6 p7 w K) : CallK Try.prog .bool 15 #[.int .i64 p0, .int .i64 p1, .int .i64 p2, .int .i64 p3, .int .i64 p4, .slice p5.a p5.len p5.cap, .int .i64 p6, .int .i64 p7] w K :=
  bodyZ_sound (κ := kappa) (ann := [(5, [(53, .bool)]), (9, []), (11, []), (15, [(24, (.int .i64))]), (17, [(77, .bool)]), (18, []), (21, [(26, .ptr)]), (24, [(112, .bool)])]) (fn := Try.f15) Try.func15 rfl (by kernel_rfl) (cast (show T15 p0 p1 p2 p3 p4 p5 p6 p7 w K = bodyZ Try.prog kappa [(5, [(53, .bool)]), (9, []), (11, []), (15, [(24, (.int .i64))]), (17, [(77, .bool)]), (18, []), (21, [(26, .ptr)]), (24, [(112, .bool)])] .bool Try.f15 [.int .i64 p0, .int .i64 p1, .int .i64 p2, .int .i64 p3, .int .i64 p4, .slice p5.a p5.len p5.cap, .int .i64 p6, .int .i64 p7] w K by kernel_rfl) h)

/-- (*sluice/sluicelaw3.end).played -/
def T29 (p0 : Option Addr) (p1 : (Int × Int × Int × Sl × Int × Int × Int × Int × Sl × Unit)) (p2 : Option Addr) (w : World) (K : Bool → World → Prop) : Prop :=
  RunN Try.prog .addr (V (Instr.box 86 (.agg #[.int .i64 p1.1, .int .i64 p1.2.1, .int .i64 p1.2.2.1, .slice p1.2.2.2.1.a p1.2.2.2.1.len p1.2.2.2.1.cap, .int .i64 p1.2.2.2.2.1, .int .i64 p1.2.2.2.2.2.1, .int .i64 p1.2.2.2.2.2.2.1, .int .i64 p1.2.2.2.2.2.2.2.1, .slice p1.2.2.2.2.2.2.2.2.1.a p1.2.2.2.2.2.2.2.2.1.len p1.2.2.2.2.2.2.2.2.1.cap]))) w fun t4 w =>
  JoinX (α := Bool × Unit) (fun j2 w =>
    SplitB j2.1
      (NilP p0 fun t201 =>
      RunN Try.prog .ptr (V (Instr.loadAt 28 (.pointer (some (t201.add 2))))) w fun t203 w =>
      CallK Try.prog .bool 50 #[.pointer t203] w fun t204 w =>
      K t204 w)
      (K false w))
  fun k1 =>
    RunN Try.prog (.int .i64) (V (Instr.loadAt 3 (.pointer (some (t4.add 0))))) w fun t17 w =>
    SplitB (t17 == 1)
      (RunN Try.prog .sl (V (Instr.loadAt 45 (.pointer (some (t4.add 3))))) w fun t21 w =>
      CallK Try.prog .sl 24 #[.slice t21.a t21.len t21.cap] w fun t22 w =>
      NilP p0 fun t24 =>
      ReadN Try.prog .ptr (V (Instr.loadAt 26 (.pointer (some (t24.add 0))))) w.drew fun t26 =>
      ReadN Try.prog .sl (V (Instr.loadAt 45 (.pointer (some (t4.add 3))))) w.drew fun t29 =>
      ReadN Try.prog .sl (V (Instr.sliceAt 45 (.slice t22.a t22.len t22.cap) none (some (.int .i64 (t29.len : Int))) none)) w.drew fun t31 =>
      CallK Try.prog (.int .i64) 23 #[.pointer t26, .slice t31.a t31.len t31.cap] w.drew fun t32 w =>
      NilP p0 fun t34 =>
      ReadN Try.prog .ptr (V (Instr.loadAt 27 (.pointer (some (t34.add 1))))) w.drew fun t36 =>
      ReadN Try.prog .sl (V (Instr.loadAt 45 (.pointer (some (t4.add 3))))) w.drew fun t38 =>
      CallK Try.prog (.int .i64) 37 #[.pointer t36, .slice t38.a t38.len t38.cap] w.drew fun t39 w =>
      RunN Try.prog .sl (V (Instr.loadAt 45 (.pointer (some (t4.add 3))))) w fun t42 w =>
      CallK Try.prog .bool 38 #[.slice t22.a t22.len t22.cap, .slice t42.a t42.len t42.cap] w fun t43 w =>
      SplitB t43
        (k1 (t32 == t39, ()) w)
        (k1 (false, ()) w))
      (SplitB (t17 == 2)
        (RunN Try.prog (.agg (.cons (.int .i64) (.cons (.int .i64) (.cons (.int .i64) (.cons (.int .i64) (.cons .sl .nilT)))))) (V (Instr.loadAt 62 (.pointer (some (t4.add 4))))) w fun t53 w =>
        CallK Try.prog .bool 39 #[.pointer p0, .agg #[.int .i64 t53.1, .int .i64 t53.2.1, .int .i64 t53.2.2.1, .int .i64 t53.2.2.2.1, .slice t53.2.2.2.2.1.a t53.2.2.2.2.1.len t53.2.2.2.2.1.cap]] w fun t54 w =>
        k1 (t54, ()) w)
        (SplitB (t17 == 3)
          (NilP p0 fun t58 =>
          RunN Try.prog .ptr (V (Instr.loadAt 26 (.pointer (some (t58.add 0))))) w fun t60 w =>
          CallK Try.prog (.tup .nilT) 20 #[.pointer t60] w fun t61 w =>
          NilP p0 fun t63 =>
          RunN Try.prog .ptr (V (Instr.loadAt 27 (.pointer (some (t63.add 1))))) w fun t65 w =>
          CallK Try.prog (.tup .nilT) 40 #[.pointer t65] w fun t66 w =>
          k1 (true, ()) w)
          (SplitB (t17 == 4)
            (NilP p0 fun t70 =>
            RunN Try.prog .ptr (V (Instr.loadAt 27 (.pointer (some (t70.add 1))))) w fun t72 w =>
            CallK Try.prog .sl 41 #[.pointer t72] w fun t73 w =>
            CallK Try.prog (.tup .nilT) 42 #[.pointer p2, .slice t73.a t73.len t73.cap] w fun t76 w =>
            NilP p0 fun t78 =>
            RunN Try.prog .ptr (V (Instr.loadAt 26 (.pointer (some (t78.add 0))))) w fun t80 w =>
            CallK Try.prog .sl 13 #[.pointer t80] w fun t81 w =>
            NilP p0 fun t83 =>
            RunN Try.prog .ptr (V (Instr.loadAt 29 (.pointer (some (t83.add 3))))) w fun t85 w =>
            CallK Try.prog .bool 43 #[.pointer t85] w fun t86 w =>
            SplitB t86
              (NilP p0 fun t88 =>
              RunN Try.prog .ptr (V (Instr.loadAt 29 (.pointer (some (t88.add 3))))) w fun t90 w =>
              CallK Try.prog (.tup .nilT) 44 #[.pointer t90, .slice t81.a t81.len t81.cap, .slice t73.a t73.len t73.cap] w fun t93 w =>
              CallK Try.prog .bool 45 #[.slice t81.a t81.len t81.cap, .slice t73.a t73.len t73.cap] w fun t96 w =>
              k1 (t96, ()) w)
              (CallK Try.prog .bool 46 #[.pointer p0, .slice t81.a t81.len t81.cap, .slice t73.a t73.len t73.cap] w fun t100 w =>
              k1 (t100, ()) w))
            (SplitB (t17 == 5)
              (NilP p0 fun t104 =>
              RunN Try.prog .ptr (V (Instr.loadAt 26 (.pointer (some (t104.add 0))))) w fun t106 w =>
              CallK Try.prog .sl 14 #[.pointer t106] w fun t107 w =>
              NilP p0 fun t109 =>
              RunN Try.prog .ptr (V (Instr.loadAt 26 (.pointer (some (t109.add 0))))) w fun t111 w =>
              CallK Try.prog .sl 14 #[.pointer t111] w fun t112 w =>
              NilP p0 fun t114 =>
              ReadN Try.prog .ptr (V (Instr.loadAt 29 (.pointer (some (t114.add 3))))) w.drew fun t116 =>
              NilP p0 fun t118 =>
              ReadN Try.prog .ptr (V (Instr.loadAt 26 (.pointer (some (t118.add 0))))) w.drew fun t120 =>
              NilP p0 fun t123 =>
              ReadN Try.prog .ptr (V (Instr.loadAt 27 (.pointer (some (t123.add 1))))) w.drew fun t125 =>
              CallK Try.prog .sl 14 #[.pointer t120] w.drew fun t121 w =>
              StillV Try.prog (V (Instr.loadAt 27 (.pointer (some (t123.add 1))))) (.pointer t125) w ∧
              StillV Try.prog (V (Instr.loadAt 29 (.pointer (some (t114.add 3))))) (.pointer t116) w ∧
              CallK Try.prog .sl 47 #[.pointer t125] w fun t126 w =>
              StillV Try.prog (V (Instr.loadAt 29 (.pointer (some (t114.add 3))))) (.pointer t116) w ∧
              CallK Try.prog (.tup .nilT) 44 #[.pointer t116, .slice t121.a t121.len t121.cap, .slice t126.a t126.len t126.cap] w fun t127 w =>
              NilP p0 fun t131 =>
              RunN Try.prog .ptr (V (Instr.loadAt 27 (.pointer (some (t131.add 1))))) w fun t133 w =>
              CallK Try.prog .sl 47 #[.pointer t133] w fun t134 w =>
              CallK Try.prog .bool 46 #[.pointer p0, .slice t107.a t107.len t107.cap, .slice t134.a t134.len t134.cap] w fun t135 w =>
              NilP p0 fun t139 =>
              RunN Try.prog .ptr (V (Instr.loadAt 27 (.pointer (some (t139.add 1))))) w fun t141 w =>
              CallK Try.prog .sl 47 #[.pointer t141] w fun t142 w =>
              CallK Try.prog .bool 46 #[.pointer p0, .slice t112.a t112.len t112.cap, .slice t142.a t142.len t142.cap] w fun t143 w =>
              SplitB t143
                (k1 (t135, ()) w)
                (k1 (false, ()) w))
              (SplitB (t17 == 6)
                (NilP p0 fun t150 =>
                ReadN Try.prog .ptr (V (Instr.loadAt 26 (.pointer (some (t150.add 0))))) w.drew fun t152 =>
                NilP p0 fun t155 =>
                ReadN Try.prog .ptr (V (Instr.loadAt 27 (.pointer (some (t155.add 1))))) w.drew fun t157 =>
                CallK Try.prog (.int .i64) 11 #[.pointer t152] w.drew fun t153 w =>
                StillV Try.prog (V (Instr.loadAt 27 (.pointer (some (t155.add 1))))) (.pointer t157) w ∧
                CallK Try.prog (.int .i64) 48 #[.pointer t157] w fun t158 w =>
                SplitB (t153 == t158)
                  (NilP p0 fun t162 =>
                  ReadN Try.prog .ptr (V (Instr.loadAt 26 (.pointer (some (t162.add 0))))) w fun t164 =>
                  NilP p0 fun t167 =>
                  ReadN Try.prog .ptr (V (Instr.loadAt 27 (.pointer (some (t167.add 1))))) w fun t169 =>
                  CallK Try.prog (.int .i64) 12 #[.pointer t164] w fun t165 w =>
                  StillV Try.prog (V (Instr.loadAt 27 (.pointer (some (t167.add 1))))) (.pointer t169) w ∧
                  CallK Try.prog (.int .i64) 49 #[.pointer t169] w fun t170 w =>
                  k1 (t165 == t170, ()) w)
                  (k1 (false, ()) w))
                (SplitB (t17 == 7)
                  (NilP p2 fun t176 =>
                  RunN Try.prog .sl (V (Instr.loadAt 33 (.pointer (some (t176.add 0))))) w fun t178 w =>
                  SplitB (decide ((t178.len : Int) > 0))
                    (NilP p2 fun t183 =>
                    ReadN Try.prog .sl (V (Instr.loadAt 33 (.pointer (some (t183.add 0))))) w.drew fun t185 =>
                    ReadN Try.prog (.int .i64) (V (Instr.loadAt 3 (.pointer (some (t4.add 2))))) w.drew fun t187 =>
                    NilP p2 fun t189 =>
                    ReadN Try.prog .sl (V (Instr.loadAt 33 (.pointer (some (t189.add 0))))) w.drew fun t191 =>
                    CallK Try.prog (.int .i64) 17 #[.int .i64 t187, .int .i64 0, .int .i64 (IntKind.i64.wrap ((t191.len : Int) - 1))] w.drew fun t194 w =>
                    StillV Try.prog (V (Instr.loadAt 33 (.pointer (some (t183.add 0))))) (.slice t185.a t185.len t185.cap) w ∧
                    ReadN Try.prog .addr (V (Instr.indexAt 33 (.slice t185.a t185.len t185.cap) (.int .i64 t194))) w fun t195 =>
                    ReadN Try.prog (.agg (.cons (.int .i64) (.cons (.int .i64) (.cons (.int .i64) (.cons (.int .i64) (.cons .sl .nilT)))))) (V (Instr.loadAt 62 (.pointer (some t195)))) w fun t196 =>
                    CallK Try.prog .bool 39 #[.pointer p0, .agg #[.int .i64 t196.1, .int .i64 t196.2.1, .int .i64 t196.2.2.1, .int .i64 t196.2.2.2.1, .slice t196.2.2.2.2.1.a t196.2.2.2.2.1.len t196.2.2.2.2.1.cap]] w fun t197 w =>
                    k1 (t197, ()) w)
                    (k1 (true, ()) w))
                  (k1 (true, ()) w)))))))
theorem T29.calls {p0 : Option Addr} {p1 : (Int × Int × Int × Sl × Int × Int × Int × Int × Sl × Unit)} {p2 : Option Addr} {w : World} {K : Bool → World → Prop} (h : T29 p0 p1 p2 w K) : CallK Try.prog .bool 29 #[.pointer p0, .agg #[.int .i64 p1.1, .int .i64 p1.2.1, .int .i64 p1.2.2.1, .slice p1.2.2.2.1.a p1.2.2.2.1.len p1.2.2.2.1.cap, .int .i64 p1.2.2.2.2.1, .int .i64 p1.2.2.2.2.2.1, .int .i64 p1.2.2.2.2.2.2.1, .int .i64 p1.2.2.2.2.2.2.2.1, .slice p1.2.2.2.2.2.2.2.2.1.a p1.2.2.2.2.2.2.2.2.1.len p1.2.2.2.2.2.2.2.2.1.cap], .pointer p2] w K :=
  bodyZ_sound (κ := kappa) (ann := [(2, [(7, .bool)])]) (fn := Try.f29) Try.func29 rfl (by kernel_rfl) (cast (show T29 p0 p1 p2 w K = bodyZ Try.prog kappa [(2, [(7, .bool)])] .bool Try.f29 [.pointer p0, .agg #[.int .i64 p1.1, .int .i64 p1.2.1, .int .i64 p1.2.2.1, .slice p1.2.2.2.1.a p1.2.2.2.1.len p1.2.2.2.1.cap, .int .i64 p1.2.2.2.2.1, .int .i64 p1.2.2.2.2.2.1, .int .i64 p1.2.2.2.2.2.2.1, .int .i64 p1.2.2.2.2.2.2.2.1, .slice p1.2.2.2.2.2.2.2.2.1.a p1.2.2.2.2.2.2.2.2.1.len p1.2.2.2.2.2.2.2.2.1.cap], .pointer p2] w K by kernel_rfl) h)

/-- (*sluice/sluicelaw3.book).apart -/
def T30 (p0 : Option Addr) (w : World) (K : Bool → World → Prop) : Prop :=
  LoopX (α := Sl × Int × Unit) (fun s1 w k2 =>
    NilP p0 fun t16 =>
    RunN Try.prog .sl (V (Instr.loadAt 71 (.pointer (some (t16.add 0))))) w fun t18 w =>
    SplitB (decide (s1.2.1 < (t18.len : Int)))
      (NilP p0 fun t24 =>
      RunN Try.prog .sl (V (Instr.loadAt 71 (.pointer (some (t24.add 0))))) w fun t26 w =>
      RunN Try.prog .addr (V (Instr.indexAt 71 (.slice t26.a t26.len t26.cap) (.int .i64 s1.2.1))) w fun t28 w =>
      RunN Try.prog (.agg (.cons .sl (.cons .sl (.cons .sl .nilT)))) (V (Instr.loadAt 101 (.pointer (some t28)))) w fun t29 w =>
      RunN Try.prog .addr (V (Instr.alloc 101 true (.tuple #[]))) w fun t5 w =>
      RunU Try.prog (U (Instr.storeAt 101 (.pointer (some t5)) (.agg #[.slice t29.1.a t29.1.len t29.1.cap, .slice t29.2.1.a t29.2.1.len t29.2.1.cap, .slice t29.2.2.1.a t29.2.2.1.len t29.2.2.1.cap]))) w fun w =>
      RunN Try.prog .sl (V (Instr.loadAt 33 (.pointer (some (t5.add 0))))) w fun t31 w =>
      RunN Try.prog .sl (V (Instr.loadAt 33 (.pointer (some (t5.add 1))))) w fun t33 w =>
      CallK Try.prog .bool 45 #[.slice t31.a t31.len t31.cap, .slice t33.a t33.len t33.cap] w fun t34 w =>
      SplitB (!t34)
        (K false w)
        (LoopX (α := Sl × Int × Unit) (fun s3 w k4 =>
          RunN Try.prog .sl (V (Instr.loadAt 33 (.pointer (some (t5.add 0))))) w fun t38 w =>
          SplitB (decide (s3.2.1 < (t38.len : Int)))
            (RunN Try.prog .sl (V (Instr.loadAt 33 (.pointer (some (t5.add 0))))) w fun t45 w =>
            RunN Try.prog .addr (V (Instr.indexAt 33 (.slice t45.a t45.len t45.cap) (.int .i64 s3.2.1))) w fun t47 w =>
            RunN Try.prog .sl (V (Instr.loadAt 45 (.pointer (some (t47.add 4))))) w fun t49 w =>
            RunN Try.prog .sl (V (Instr.buildSlice 51 1 #[(0, .slice t49.a t49.len t49.cap)])) w fun t50 w =>
            RunN Try.prog .sl (V (Builtin.append_ #[51, 51] 51 #[.slice s3.1.a s3.1.len s3.1.cap, .slice t50.a t50.len t50.cap])) w fun t51 w =>
            k4 (t51, IntKind.i64.wrap (s3.2.1 + 1), ()) w)
            (k2 (s3.1, IntKind.i64.wrap (s1.2.1 + 1), ()) w))
        (s1.1, 0, ()) w))
      (LoopX (α := Int × Unit) (fun s5 w k6 =>
        SplitB (decide (s5.1 < (s1.1.len : Int)))
          (LoopX (α := Int × Unit) (fun s7 w k8 =>
            RunN Try.prog .addr (V (Instr.indexAt 51 (.slice s1.1.a s1.1.len s1.1.cap) (.int .i64 s5.1))) w fun t61 w =>
            RunN Try.prog .sl (V (Instr.loadAt 45 (.pointer (some t61)))) w fun t62 w =>
            SplitB (decide (s7.1 < (t62.len : Int)))
              (RunN Try.prog .addr (V (Instr.indexAt 51 (.slice s1.1.a s1.1.len s1.1.cap) (.int .i64 s5.1))) w fun t69 w =>
              RunN Try.prog .sl (V (Instr.loadAt 45 (.pointer (some t69)))) w fun t70 w =>
              RunN Try.prog .addr (V (Instr.indexAt 45 (.slice t70.a t70.len t70.cap) (.int .i64 s7.1))) w fun t77 w =>
              RunU Try.prog (U (Instr.storeAt 5 (.pointer (some t77)) (.int .u8 (IntKind.u8.wrap (IntKind.i64.wrap ((IntKind.i64.wrap (7 * s5.1)) + s7.1)))))) w fun w =>
              k8 (IntKind.i64.wrap (s7.1 + 1), ()) w)
              (k6 (IntKind.i64.wrap (s5.1 + 1), ()) w))
          (0, ()) w)
          (LoopX (α := Sl × Int × Unit) (fun s9 w k10 =>
            SplitB (decide (s9.2.1 < (s1.1.len : Int)))
              (RunN Try.prog .addr (V (Instr.indexAt 51 (.slice s1.1.a s1.1.len s1.1.cap) (.int .i64 s9.2.1))) w fun t86 w =>
              RunN Try.prog .sl (V (Instr.loadAt 45 (.pointer (some t86)))) w fun t87 w =>
              LoopX (α := Sl × Int × Unit) (fun s11 w k12 =>
                RunN Try.prog .addr (V (Instr.indexAt 51 (.slice s1.1.a s1.1.len s1.1.cap) (.int .i64 s9.2.1))) w fun t94 w =>
                RunN Try.prog .sl (V (Instr.loadAt 45 (.pointer (some t94)))) w fun t95 w =>
                SplitB (decide ((s11.1.len : Int) < (IntKind.i64.wrap ((t95.len : Int) + 100))))
                  (RunN Try.prog .sl (V (Instr.buildSlice 45 1 #[(0, .int .u8 (IntKind.u8.wrap (IntKind.i64.wrap ((IntKind.i64.wrap (7 * s9.2.1)) + s11.2.1))))])) w fun t107 w =>
                  RunN Try.prog .sl (V (Builtin.append_ #[45, 45] 45 #[.slice s11.1.a s11.1.len s11.1.cap, .slice t107.a t107.len t107.cap])) w fun t108 w =>
                  k12 (t108, IntKind.i64.wrap (s11.2.1 + 1), ()) w)
                  (RunN Try.prog .sl (V (Instr.buildSlice 51 1 #[(0, .slice s11.1.a s11.1.len s11.1.cap)])) w fun t111 w =>
                  RunN Try.prog .sl (V (Builtin.append_ #[51, 51] 51 #[.slice s9.1.a s9.1.len s9.1.cap, .slice t111.a t111.len t111.cap])) w fun t112 w =>
                  k10 (t112, IntKind.i64.wrap (s9.2.1 + 1), ()) w))
              (t87, (t87.len : Int), ()) w)
              (LoopX (α := Int × Unit) (fun s13 w k14 =>
                SplitB (decide (s13.1 < (s1.1.len : Int)))
                  (JoinX (α := Bool × Unit) (fun j16 w =>
                    SplitB j16.1
                      (K false w)
                      (k14 (IntKind.i64.wrap (s13.1 + 1), ()) w))
                  fun k15 =>
                    RunN Try.prog .addr (V (Instr.indexAt 51 (.slice s1.1.a s1.1.len s1.1.cap) (.int .i64 s13.1))) w fun t121 w =>
                    RunN Try.prog .sl (V (Instr.loadAt 45 (.pointer (some t121)))) w fun t122 w =>
                    CallK Try.prog .bool 51 #[.slice t122.a t122.len t122.cap, .int .i64 (IntKind.i64.wrap (7 * s13.1))] w fun t125 w =>
                    SplitB (!t125)
                      (k15 (true, ()) w)
                      (RunN Try.prog .addr (V (Instr.indexAt 51 (.slice s9.1.a s9.1.len s9.1.cap) (.int .i64 s13.1))) w fun t130 w =>
                      RunN Try.prog .sl (V (Instr.loadAt 45 (.pointer (some t130)))) w fun t131 w =>
                      CallK Try.prog .bool 51 #[.slice t131.a t131.len t131.cap, .int .i64 (IntKind.i64.wrap (7 * s13.1))] w fun t134 w =>
                      k15 (!t134, ()) w))
                  (CallK Try.prog .bool 52 #[.pointer p0] w fun t138 w =>
                  K t138 w))
              (0, ()) w))
          ((⟨none, 0, 0⟩ : Sl), 0, ()) w))
      (0, ()) w))
  ((⟨none, 0, 0⟩ : Sl), 0, ()) w
theorem T30.calls {p0 : Option Addr} {w : World} {K : Bool → World → Prop} (h : T30 p0 w K) : CallK Try.prog .bool 30 #[.pointer p0] w K :=
  bodyZ_sound (κ := kappa) (ann := [(4, [(3, .sl), (4, (.int .i64))]), (13, [(3, .sl), (6, (.int .i64))]), (20, [(8, (.int .i64))]), (25, [(9, (.int .i64))]), (31, [(7, .sl), (10, (.int .i64))]), (38, [(11, .sl), (12, (.int .i64))]), (44, [(13, (.int .i64))]), (48, [(136, .bool)])]) (fn := Try.f30) Try.func30 rfl (by kernel_rfl) (cast (show T30 p0 w K = bodyZ Try.prog kappa [(4, [(3, .sl), (4, (.int .i64))]), (13, [(3, .sl), (6, (.int .i64))]), (20, [(8, (.int .i64))]), (25, [(9, (.int .i64))]), (31, [(7, .sl), (10, (.int .i64))]), (38, [(11, .sl), (12, (.int .i64))]), (44, [(13, (.int .i64))]), (48, [(136, .bool)])] .bool Try.f30 [.pointer p0] w K by kernel_rfl) h)

/-- (*sluice/sluicelaw3.end).takes -/
def T39 (p0 : Option Addr) (p1 : (Int × Int × Int × Int × Sl × Unit)) (w : World) (K : Bool → World → Prop) : Prop :=
  RunN Try.prog .addr (V (Instr.box 62 (.agg #[.int .i64 p1.1, .int .i64 p1.2.1, .int .i64 p1.2.2.1, .int .i64 p1.2.2.2.1, .slice p1.2.2.2.2.1.a p1.2.2.2.2.1.len p1.2.2.2.2.1.cap]))) w fun t3 w =>
  RunN Try.prog .sl (V (Instr.loadAt 45 (.pointer (some (t3.add 4))))) w fun t14 w =>
  CallK Try.prog .sl 24 #[.slice t14.a t14.len t14.cap] w fun t15 w =>
  RunN Try.prog (.agg (.cons (.int .i64) (.cons (.int .i64) (.cons (.int .i64) (.cons (.int .i64) (.cons .sl .nilT)))))) (V (Instr.loadAt 62 (.pointer (some t3)))) w fun t16 w =>
  RunN Try.prog .addr (V (Instr.alloc 62 true (.tuple #[]))) w fun t6 w =>
  RunU Try.prog (U (Instr.storeAt 62 (.pointer (some t6)) (.agg #[.int .i64 t16.1, .int .i64 t16.2.1, .int .i64 t16.2.2.1, .int .i64 t16.2.2.2.1, .slice t16.2.2.2.2.1.a t16.2.2.2.2.1.len t16.2.2.2.2.1.cap]))) w fun w =>
  RunN Try.prog .sl (V (Instr.loadAt 45 (.pointer (some (t3.add 4))))) w fun t19 w =>
  RunN Try.prog .sl (V (Instr.sliceAt 45 (.slice t15.a t15.len t15.cap) none (some (.int .i64 (t19.len : Int))) none)) w fun t21 w =>
  RunU Try.prog (U (Instr.storeAt 45 (.pointer (some (t6.add 4))) (.slice t21.a t21.len t21.cap))) w fun w =>
  NilP p0 fun t25 =>
  ReadN Try.prog .ptr (V (Instr.loadAt 26 (.pointer (some (t25.add 0))))) w.drew fun t27 =>
  ReadN Try.prog (.agg (.cons (.int .i64) (.cons (.int .i64) (.cons (.int .i64) (.cons (.int .i64) (.cons .sl .nilT)))))) (V (Instr.loadAt 62 (.pointer (some t6)))) w.drew fun t28 =>
  CallK Try.prog (.tup (.cons .sl (.cons (.int .i64) .nilT))) 26 #[.pointer t27, .agg #[.int .i64 t28.1, .int .i64 t28.2.1, .int .i64 t28.2.2.1, .int .i64 t28.2.2.2.1, .slice t28.2.2.2.2.1.a t28.2.2.2.2.1.len t28.2.2.2.2.1.cap]] w.drew fun t29 w =>
  NilP p0 fun t34 =>
  ReadN Try.prog .ptr (V (Instr.loadAt 27 (.pointer (some (t34.add 1))))) w.drew fun t36 =>
  ReadN Try.prog (.agg (.cons (.int .i64) (.cons (.int .i64) (.cons (.int .i64) (.cons (.int .i64) (.cons .sl .nilT)))))) (V (Instr.loadAt 62 (.pointer (some t3)))) w.drew fun t37 =>
  CallK Try.prog (.tup (.cons .sl (.cons (.int .i64) .nilT))) 54 #[.pointer t36, .agg #[.int .i64 t37.1, .int .i64 t37.2.1, .int .i64 t37.2.2.1, .int .i64 t37.2.2.2.1, .slice t37.2.2.2.2.1.a t37.2.2.2.2.1.len t37.2.2.2.2.1.cap]] w.drew fun t38 w =>
  RunN Try.prog .sl (V (Instr.loadAt 45 (.pointer (some (t3.add 4))))) w fun t43 w =>
  CallK Try.prog .bool 38 #[.slice t15.a t15.len t15.cap, .slice t43.a t43.len t43.cap] w fun t44 w =>
  JoinX (α := Bool × Unit) (fun j2 w =>
    SplitB j2.1
      (K false w)
      (LoopX (α := Int × Unit) (fun s3 w k4 =>
        SplitB (decide (s3.1 < (t29.1.len : Int)))
          (ReadN Try.prog .addr (V (Instr.indexAt 51 (.slice t29.1.a t29.1.len t29.1.cap) (.int .i64 s3.1))) w.drew fun t67 =>
          ReadN Try.prog .sl (V (Instr.loadAt 45 (.pointer (some t67)))) w.drew fun t68 =>
          ReadN Try.prog .addr (V (Instr.indexAt 51 (.slice t38.1.a t38.1.len t38.1.cap) (.int .i64 s3.1))) w.drew fun t71 =>
          ReadN Try.prog .sl (V (Instr.loadAt 45 (.pointer (some t71)))) w.drew fun t72 =>
          CallK Try.prog .bool 25 #[.slice t68.a t68.len t68.cap, .slice t72.a t72.len t72.cap] w.drew fun t73 w =>
          SplitB (!t73)
            (K false w)
            (k4 (IntKind.i64.wrap (s3.1 + 1), ()) w))
          (JoinX (α := Unit) (fun j6 w =>
            RunN Try.prog (.agg (.cons (.int .i64) (.cons (.int .i64) (.cons (.int .i64) (.cons (.int .i64) (.cons .sl .nilT)))))) (V (Instr.loadAt 62 (.pointer (some t6)))) w fun t99 w =>
            CallK Try.prog .bool 57 #[.pointer p0, .agg #[.int .i64 t99.1, .int .i64 t99.2.1, .int .i64 t99.2.2.1, .int .i64 t99.2.2.2.1, .slice t99.2.2.2.2.1.a t99.2.2.2.2.1.len t99.2.2.2.2.1.cap]] w fun t100 w =>
            K t100 w)
          fun k5 =>
            JoinX (α := Bool × Unit) (fun j8 w =>
              SplitB j8.1
                (NilP p0 fun t86 =>
                RunN Try.prog .ptr (V (Instr.loadAt 29 (.pointer (some (t86.add 3))))) w fun t88 w =>
                CallK Try.prog (.tup .nilT) 55 #[.pointer t88, .slice t29.1.a t29.1.len t29.1.cap, .slice t38.1.a t38.1.len t38.1.cap] w fun t91 w =>
                k5 () w)
                (NilP p0 fun t93 =>
                RunN Try.prog .ptr (V (Instr.loadAt 28 (.pointer (some (t93.add 2))))) w fun t95 w =>
                CallK Try.prog (.tup .nilT) 56 #[.pointer t95, .slice t29.1.a t29.1.len t29.1.cap] w fun t97 w =>
                k5 () w))
            fun k7 =>
              SplitB (decide ((t38.1.len : Int) > 0))
                (NilP p0 fun t80 =>
                RunN Try.prog .ptr (V (Instr.loadAt 29 (.pointer (some (t80.add 3))))) w fun t82 w =>
                CallK Try.prog .bool 43 #[.pointer t82] w fun t83 w =>
                k7 (t83, ()) w)
                (k7 (false, ()) w)))
      (0, ()) w))
  fun k1 =>
    SplitB (!t44)
      (k1 (true, ()) w)
      (SplitB (t29.2.1 != t38.2.1)
        (k1 (true, ()) w)
        (k1 ((t29.1.len : Int) != (t38.1.len : Int), ()) w))
theorem T39.calls {p0 : Option Addr} {p1 : (Int × Int × Int × Int × Sl × Unit)} {w : World} {K : Bool → World → Prop} (h : T39 p0 p1 w K) : CallK Try.prog .bool 39 #[.pointer p0, .agg #[.int .i64 p1.1, .int .i64 p1.2.1, .int .i64 p1.2.2.1, .int .i64 p1.2.2.2.1, .slice p1.2.2.2.2.1.a p1.2.2.2.2.1.len p1.2.2.2.2.1.cap]] w K :=
  bodyZ_sound (κ := kappa) (ann := [(8, [(58, .bool)]), (12, [(12, (.int .i64))]), (18, []), (19, [(84, .bool)])]) (fn := Try.f39) Try.func39 rfl (by kernel_rfl) (cast (show T39 p0 p1 w K = bodyZ Try.prog kappa [(8, [(58, .bool)]), (12, [(12, (.int .i64))]), (18, []), (19, [(84, .bool)])] .bool Try.f39 [.pointer p0, .agg #[.int .i64 p1.1, .int .i64 p1.2.1, .int .i64 p1.2.2.1, .int .i64 p1.2.2.2.1, .slice p1.2.2.2.2.1.a p1.2.2.2.2.1.len p1.2.2.2.2.1.cap]] w K by kernel_rfl) h)

/-- (*sluice/sluicelaw3.pool).add -/
def T42 (p0 : Option Addr) (p1 : Sl) (w : World) (K : Unit → World → Prop) : Prop :=
  LoopX (α := Int × Unit) (fun s1 w k2 =>
    JoinX (α := Bool × Unit) (fun j4 w =>
      SplitB j4.1
        (NilP p0 fun t21 =>
        ReadN Try.prog .sl (V (Instr.loadAt 33 (.pointer (some (t21.add 0))))) w.drew fun t23 =>
        ReadN Try.prog .addr (V (Instr.indexAt 33 (.slice p1.a p1.len p1.cap) (.int .i64 s1.1))) w.drew fun t26 =>
        ReadN Try.prog (.agg (.cons (.int .i64) (.cons (.int .i64) (.cons (.int .i64) (.cons (.int .i64) (.cons .sl .nilT)))))) (V (Instr.loadAt 62 (.pointer (some t26)))) w.drew fun t27 =>
        RunN Try.prog .sl (V (Instr.buildSlice 33 1 #[(0, .agg #[.int .i64 t27.1, .int .i64 t27.2.1, .int .i64 t27.2.2.1, .int .i64 t27.2.2.2.1, .slice t27.2.2.2.2.1.a t27.2.2.2.2.1.len t27.2.2.2.2.1.cap])])) w.drew fun t28 w =>
        StillV Try.prog (V (Instr.loadAt 33 (.pointer (some (t21.add 0))))) (.slice t23.a t23.len t23.cap) w ∧
        RunN Try.prog .sl (V (Builtin.append_ #[33, 33] 33 #[.slice t23.a t23.len t23.cap, .slice t28.a t28.len t28.cap])) w fun t29 w =>
        NilP p0 fun t30 =>
        RunU Try.prog (U (Instr.storeAt 33 (.pointer (some (t30.add 0))) (.slice t29.a t29.len t29.cap))) w fun w =>
        k2 (IntKind.i64.wrap (s1.1 + 1), ()) w)
        (K () w))
    fun k3 =>
      SplitB (decide (s1.1 < (p1.len : Int)))
        (NilP p0 fun t11 =>
        RunN Try.prog .sl (V (Instr.loadAt 33 (.pointer (some (t11.add 0))))) w fun t13 w =>
        k3 (decide ((t13.len : Int) < 400), ()) w)
        (k3 (false, ()) w))
  (0, ()) w
theorem T42.calls {p0 : Option Addr} {p1 : Sl} {w : World} {K : Unit → World → Prop} (h : T42 p0 p1 w K) : CallK Try.prog (.tup .nilT) 42 #[.pointer p0, .slice p1.a p1.len p1.cap] w K :=
  bodyZ_sound (κ := kappa) (ann := [(1, [(4, (.int .i64))]), (3, [(16, .bool)])]) (fn := Try.f42) Try.func42 rfl (by kernel_rfl) (cast (show T42 p0 p1 w K = bodyZ Try.prog kappa [(1, [(4, (.int .i64))]), (3, [(16, .bool)])] (.tup .nilT) Try.f42 [.pointer p0, .slice p1.a p1.len p1.cap] w K by kernel_rfl) h)

/-- (*sluice/sluicelaw3.book).segments -/
def T44 (p0 : Option Addr) (p1 : Sl) (p2 : Sl) (w : World) (K : Unit → World → Prop) : Prop :=
  NilP p0 fun t7 =>
  RunN Try.prog .sl (V (Instr.loadAt 71 (.pointer (some (t7.add 0))))) w fun t9 w =>
  SplitB (decide ((t9.len : Int) < 120))
    (NilP p0 fun t14 =>
    RunN Try.prog .sl (V (Instr.loadAt 71 (.pointer (some (t14.add 0))))) w fun t16 w =>
    RunN Try.prog .sl (V (Instr.buildSlice 71 1 #[(0, .agg #[.slice p1.a p1.len p1.cap, .slice p2.a p2.len p2.cap, .slice none 0 0])])) w fun t20 w =>
    RunN Try.prog .sl (V (Builtin.append_ #[71, 71] 71 #[.slice t16.a t16.len t16.cap, .slice t20.a t20.len t20.cap])) w fun t21 w =>
    NilP p0 fun t22 =>
    RunU Try.prog (U (Instr.storeAt 71 (.pointer (some (t22.add 0))) (.slice t21.a t21.len t21.cap))) w fun w =>
    K () w)
    (K () w)
theorem T44.calls {p0 : Option Addr} {p1 : Sl} {p2 : Sl} {w : World} {K : Unit → World → Prop} (h : T44 p0 p1 p2 w K) : CallK Try.prog (.tup .nilT) 44 #[.pointer p0, .slice p1.a p1.len p1.cap, .slice p2.a p2.len p2.cap] w K :=
  bodyZ_sound (κ := kappa) (ann := []) (fn := Try.f44) Try.func44 rfl (by kernel_rfl) (cast (show T44 p0 p1 p2 w K = bodyZ Try.prog kappa [] (.tup .nilT) Try.f44 [.pointer p0, .slice p1.a p1.len p1.cap, .slice p2.a p2.len p2.cap] w K by kernel_rfl) h)

/-- (*sluice/sluicelaw3.end).told -/
def T46 (p0 : Option Addr) (p1 : Sl) (p2 : Sl) (w : World) (K : Bool → World → Prop) : Prop :=
  CallK Try.prog .bool 45 #[.slice p1.a p1.len p1.cap, .slice p2.a p2.len p2.cap] w fun t13 w =>
  NilP p0 fun t15 =>
  ReadN Try.prog .ptr (V (Instr.loadAt 28 (.pointer (some (t15.add 2))))) w.drew fun t17 =>
  CallK Try.prog .sl 60 #[.slice p1.a p1.len p1.cap] w.drew fun t19 w =>
  StillV Try.prog (V (Instr.loadAt 28 (.pointer (some (t15.add 2))))) (.pointer t17) w ∧
  CallK Try.prog (.tup .nilT) 56 #[.pointer t17, .slice t19.a t19.len t19.cap] w fun t20 w =>
  LoopX (α := Int × Unit) (fun s1 w k2 =>
    SplitB (decide (s1.1 < (p1.len : Int)))
      (RunN Try.prog .addr (V (Instr.indexAt 33 (.slice p1.a p1.len p1.cap) (.int .i64 s1.1))) w fun t32 w =>
      RunU Try.prog (U (Instr.storeAt 62 (.pointer (some t32)) (.agg #[.int .i64 0, .int .i64 0, .int .i64 (IntKind.i64.wrap ((-1) - s1.1)), .int .i64 0, .slice none 0 0]))) w fun w =>
      k2 (IntKind.i64.wrap (s1.1 + 1), ()) w)
      (LoopX (α := Sl × Int × Unit) (fun s3 w k4 =>
        SplitB (decide (s3.2.1 < 40))
          (RunN Try.prog .sl (V (Instr.buildSlice 33 1 #[(0, .agg #[.int .i64 0, .int .i64 0, .int .i64 (-99), .int .i64 0, .slice none 0 0])])) w fun t40 w =>
          RunN Try.prog .sl (V (Builtin.append_ #[33, 33] 33 #[.slice s3.1.a s3.1.len s3.1.cap, .slice t40.a t40.len t40.cap])) w fun t41 w =>
          k4 (t41, IntKind.i64.wrap (s3.2.1 + 1), ()) w)
          (SplitB t13
            (K ((s3.1.len : Int) == (IntKind.i64.wrap ((p2.len : Int) + 40))) w)
            (K false w)))
      (p1, 0, ()) w))
  (0, ()) w
theorem T46.calls {p0 : Option Addr} {p1 : Sl} {p2 : Sl} {w : World} {K : Bool → World → Prop} (h : T46 p0 p1 p2 w K) : CallK Try.prog .bool 46 #[.pointer p0, .slice p1.a p1.len p1.cap, .slice p2.a p2.len p2.cap] w K :=
  bodyZ_sound (κ := kappa) (ann := [(5, [(8, (.int .i64))]), (12, [(9, .sl), (10, (.int .i64))])]) (fn := Try.f46) Try.func46 rfl (by kernel_rfl) (cast (show T46 p0 p1 p2 w K = bodyZ Try.prog kappa [(5, [(8, (.int .i64))]), (12, [(9, .sl), (10, (.int .i64))])] .bool Try.f46 [.pointer p0, .slice p1.a p1.len p1.cap, .slice p2.a p2.len p2.cap] w K by kernel_rfl) h)

/-- sluice/sluicelaw3.holds -/
def T51 (p0 : Sl) (p1 : Int) (w : World) (K : Bool → World → Prop) : Prop :=
  LoopX (α := Int × Unit) (fun s1 w k2 =>
    SplitB (decide (s1.1 < (p0.len : Int)))
      (RunN Try.prog .addr (V (Instr.indexAt 45 (.slice p0.a p0.len p0.cap) (.int .i64 s1.1))) w fun t14 w =>
      RunN Try.prog (.int .u8) (V (Instr.loadAt 5 (.pointer (some t14)))) w fun t15 w =>
      SplitB (t15 != (IntKind.u8.wrap (IntKind.i64.wrap (p1 + s1.1))))
        (K false w)
        (k2 (IntKind.i64.wrap (s1.1 + 1), ()) w))
      (K true w))
  (0, ()) w
theorem T51.calls {p0 : Sl} {p1 : Int} {w : World} {K : Bool → World → Prop} (h : T51 p0 p1 w K) : CallK Try.prog .bool 51 #[.slice p0.a p0.len p0.cap, .int .i64 p1] w K :=
  bodyZ_sound (κ := kappa) (ann := [(3, [(5, (.int .i64))])]) (fn := Try.f51) Try.func51 rfl (by kernel_rfl) (cast (show T51 p0 p1 w K = bodyZ Try.prog kappa [(3, [(5, (.int .i64))])] .bool Try.f51 [.slice p0.a p0.len p0.cap, .int .i64 p1] w K by kernel_rfl) h)

/-- (*sluice/sluicelaw3.book).outer -/
def T52 (p0 : Option Addr) (w : World) (K : Bool → World → Prop) : Prop :=
  LoopX (α := Int × Unit) (fun s1 w k2 =>
    NilP p0 fun t19 =>
    RunN Try.prog .sl (V (Instr.loadAt 71 (.pointer (some (t19.add 0))))) w fun t21 w =>
    SplitB (decide (s1.1 < (t21.len : Int)))
      (LoopX (α := Int × Unit) (fun s3 w k4 =>
        JoinX (α := Bool × Unit) (fun j6 w =>
          SplitB j6.1
            (NilP p0 fun t51 =>
            RunN Try.prog .sl (V (Instr.loadAt 71 (.pointer (some (t51.add 0))))) w fun t53 w =>
            RunN Try.prog .addr (V (Instr.indexAt 71 (.slice t53.a t53.len t53.cap) (.int .i64 s1.1))) w fun t55 w =>
            RunN Try.prog .sl (V (Instr.loadAt 33 (.pointer (some (t55.add 0))))) w fun t57 w =>
            RunN Try.prog .addr (V (Instr.indexAt 33 (.slice t57.a t57.len t57.cap) (.int .i64 s3.1))) w fun t63 w =>
            RunU Try.prog (U (Instr.storeAt 62 (.pointer (some t63)) (.agg #[.int .i64 0, .int .i64 0, .int .i64 (IntKind.i64.wrap ((-1000) - s1.1)), .int .i64 s3.1, .slice none 0 0]))) w fun w =>
            k4 (IntKind.i64.wrap (s3.1 + 1), ()) w)
            (LoopX (α := Int × Unit) (fun s7 w k8 =>
              NilP p0 fun t66 =>
              RunN Try.prog .sl (V (Instr.loadAt 71 (.pointer (some (t66.add 0))))) w fun t68 w =>
              RunN Try.prog .addr (V (Instr.indexAt 71 (.slice t68.a t68.len t68.cap) (.int .i64 s1.1))) w fun t70 w =>
              RunN Try.prog .sl (V (Instr.loadAt 51 (.pointer (some (t70.add 2))))) w fun t72 w =>
              SplitB (decide (s7.1 < (t72.len : Int)))
                (NilP p0 fun t78 =>
                RunN Try.prog .sl (V (Instr.loadAt 71 (.pointer (some (t78.add 0))))) w fun t80 w =>
                RunN Try.prog .addr (V (Instr.indexAt 71 (.slice t80.a t80.len t80.cap) (.int .i64 s1.1))) w fun t82 w =>
                RunN Try.prog .sl (V (Instr.loadAt 51 (.pointer (some (t82.add 2))))) w fun t84 w =>
                RunN Try.prog .sl (V (Instr.buildSlice 45 3 #[(0, .int .u8 (IntKind.u8.wrap s1.1)), (1, .int .u8 (IntKind.u8.wrap (Int.fdiv s1.1 (2 ^ 8)))), (2, .int .u8 (IntKind.u8.wrap s7.1))])) w fun t93 w =>
                RunN Try.prog .addr (V (Instr.indexAt 51 (.slice t84.a t84.len t84.cap) (.int .i64 s7.1))) w fun t94 w =>
                RunU Try.prog (U (Instr.storeAt 45 (.pointer (some t94)) (.slice t93.a t93.len t93.cap))) w fun w =>
                k8 (IntKind.i64.wrap (s7.1 + 1), ()) w)
                (k2 (IntKind.i64.wrap (s1.1 + 1), ()) w))
            (0, ()) w))
        fun k5 =>
          NilP p0 fun t28 =>
          RunN Try.prog .sl (V (Instr.loadAt 71 (.pointer (some (t28.add 0))))) w fun t30 w =>
          RunN Try.prog .addr (V (Instr.indexAt 71 (.slice t30.a t30.len t30.cap) (.int .i64 s1.1))) w fun t32 w =>
          RunN Try.prog .sl (V (Instr.loadAt 33 (.pointer (some (t32.add 0))))) w fun t34 w =>
          SplitB (decide (s3.1 < (t34.len : Int)))
            (NilP p0 fun t39 =>
            RunN Try.prog .sl (V (Instr.loadAt 71 (.pointer (some (t39.add 0))))) w fun t41 w =>
            RunN Try.prog .addr (V (Instr.indexAt 71 (.slice t41.a t41.len t41.cap) (.int .i64 s1.1))) w fun t43 w =>
            RunN Try.prog .sl (V (Instr.loadAt 51 (.pointer (some (t43.add 2))))) w fun t45 w =>
            RunN Try.prog .bool (V (do eqGuard .eql 51 (.tmp 45) (.const (.slice none 0 0)) (.slice t45.a t45.len t45.cap) (.slice none 0 0); binOp .eql 51 (.slice t45.a t45.len t45.cap) (.slice none 0 0))) w fun t46 w =>
            k5 (t46, ()) w)
            (k5 (false, ()) w))
      (0, ()) w)
      (LoopX (α := Sl × Sl × Int × Unit) (fun s9 w k10 =>
        NilP p0 fun t97 =>
        RunN Try.prog .sl (V (Instr.loadAt 71 (.pointer (some (t97.add 0))))) w fun t99 w =>
        SplitB (decide (s9.2.2.1 < (t99.len : Int)))
          (JoinX (α := Sl × Unit) (fun j12 w =>
            LoopX (α := Sl × Int × Unit) (fun s13 w k14 =>
              SplitB (decide (s13.2.1 < 100))
                (RunN Try.prog .sl (V (Instr.buildSlice 33 1 #[(0, .agg #[.int .i64 0, .int .i64 0, .int .i64 (IntKind.i64.wrap ((-1000) - s9.2.2.1)), .int .i64 s13.2.1, .slice none 0 0])])) w fun t132 w =>
                RunN Try.prog .sl (V (Builtin.append_ #[33, 33] 33 #[.slice s13.1.a s13.1.len s13.1.cap, .slice t132.a t132.len t132.cap])) w fun t133 w =>
                k14 (t133, IntKind.i64.wrap (s13.2.1 + 1), ()) w)
                (RunN Try.prog .sl (V (Instr.buildSlice 111 1 #[(0, .slice s13.1.a s13.1.len s13.1.cap)])) w fun t136 w =>
                RunN Try.prog .sl (V (Builtin.append_ #[111, 111] 111 #[.slice s9.1.a s9.1.len s9.1.cap, .slice t136.a t136.len t136.cap])) w fun t137 w =>
                NilP p0 fun t139 =>
                RunN Try.prog .sl (V (Instr.loadAt 71 (.pointer (some (t139.add 0))))) w fun t141 w =>
                RunN Try.prog .addr (V (Instr.indexAt 71 (.slice t141.a t141.len t141.cap) (.int .i64 s9.2.2.1))) w fun t143 w =>
                RunN Try.prog .sl (V (Instr.loadAt 51 (.pointer (some (t143.add 2))))) w fun t145 w =>
                LoopX (α := Sl × Int × Unit) (fun s15 w k16 =>
                  SplitB (decide (s15.2.1 < 100))
                    (RunN Try.prog .sl (V (Instr.buildSlice 45 3 #[(0, .int .u8 (IntKind.u8.wrap s9.2.2.1)), (1, .int .u8 (IntKind.u8.wrap (Int.fdiv s9.2.2.1 (2 ^ 8)))), (2, .int .u8 (IntKind.u8.wrap s15.2.1))])) w fun t160 w =>
                    RunN Try.prog .sl (V (Instr.buildSlice 51 1 #[(0, .slice t160.a t160.len t160.cap)])) w fun t161 w =>
                    RunN Try.prog .sl (V (Builtin.append_ #[51, 51] 51 #[.slice s15.1.a s15.1.len s15.1.cap, .slice t161.a t161.len t161.cap])) w fun t162 w =>
                    k16 (t162, IntKind.i64.wrap (s15.2.1 + 1), ()) w)
                    (RunN Try.prog .sl (V (Instr.buildSlice 112 1 #[(0, .slice s15.1.a s15.1.len s15.1.cap)])) w fun t165 w =>
                    RunN Try.prog .sl (V (Builtin.append_ #[112, 112] 112 #[.slice s9.2.1.a s9.2.1.len s9.2.1.cap, .slice t165.a t165.len t165.cap])) w fun t166 w =>
                    k10 (t137, t166, IntKind.i64.wrap (s9.2.2.1 + 1), ()) w))
                (t145, (t145.len : Int), ()) w))
            (j12.1, (j12.1.len : Int), ()) w)
          fun k11 =>
            NilP p0 fun t105 =>
            RunN Try.prog .sl (V (Instr.loadAt 71 (.pointer (some (t105.add 0))))) w fun t107 w =>
            RunN Try.prog .addr (V (Instr.indexAt 71 (.slice t107.a t107.len t107.cap) (.int .i64 s9.2.2.1))) w fun t109 w =>
            RunN Try.prog .sl (V (Instr.loadAt 51 (.pointer (some (t109.add 2))))) w fun t111 w =>
            RunN Try.prog .bool (V (do eqGuard .eql 51 (.tmp 111) (.const (.slice none 0 0)) (.slice t111.a t111.len t111.cap) (.slice none 0 0); binOp .eql 51 (.slice t111.a t111.len t111.cap) (.slice none 0 0))) w fun t112 w =>
            SplitB t112
              (NilP p0 fun t114 =>
              RunN Try.prog .sl (V (Instr.loadAt 71 (.pointer (some (t114.add 0))))) w fun t116 w =>
              RunN Try.prog .addr (V (Instr.indexAt 71 (.slice t116.a t116.len t116.cap) (.int .i64 s9.2.2.1))) w fun t118 w =>
              RunN Try.prog .sl (V (Instr.loadAt 33 (.pointer (some (t118.add 0))))) w fun t120 w =>
              k11 (t120, ()) w)
              (k11 ((⟨none, 0, 0⟩ : Sl), ()) w))
          (LoopX (α := Int × Unit) (fun s17 w k18 =>
            NilP p0 fun t169 =>
            RunN Try.prog .sl (V (Instr.loadAt 71 (.pointer (some (t169.add 0))))) w fun t171 w =>
            SplitB (decide (s17.1 < (t171.len : Int)))
              (LoopX (α := Int × Unit) (fun s19 w k20 =>
                RunN Try.prog .addr (V (Instr.indexAt 111 (.slice s9.1.a s9.1.len s9.1.cap) (.int .i64 s17.1))) w fun t179 w =>
                RunN Try.prog .sl (V (Instr.loadAt 33 (.pointer (some t179)))) w fun t180 w =>
                SplitB (decide (s19.1 < (t180.len : Int)))
                  (JoinX (α := Bool × Unit) (fun j22 w =>
                    SplitB j22.1
                      (K false w)
                      (k20 (IntKind.i64.wrap (s19.1 + 1), ()) w))
                  fun k21 =>
                    RunN Try.prog .addr (V (Instr.indexAt 111 (.slice s9.1.a s9.1.len s9.1.cap) (.int .i64 s17.1))) w fun t187 w =>
                    RunN Try.prog .sl (V (Instr.loadAt 33 (.pointer (some t187)))) w fun t188 w =>
                    RunN Try.prog .addr (V (Instr.indexAt 33 (.slice t188.a t188.len t188.cap) (.int .i64 s19.1))) w fun t190 w =>
                    RunN Try.prog (.int .i64) (V (Instr.loadAt 3 (.pointer (some (t190.add 2))))) w fun t192 w =>
                    SplitB (t192 != (IntKind.i64.wrap ((-1000) - s17.1)))
                      (k21 (true, ()) w)
                      (RunN Try.prog .addr (V (Instr.indexAt 111 (.slice s9.1.a s9.1.len s9.1.cap) (.int .i64 s17.1))) w fun t199 w =>
                      RunN Try.prog .sl (V (Instr.loadAt 33 (.pointer (some t199)))) w fun t200 w =>
                      RunN Try.prog .addr (V (Instr.indexAt 33 (.slice t200.a t200.len t200.cap) (.int .i64 s19.1))) w fun t202 w =>
                      RunN Try.prog (.int .i64) (V (Instr.loadAt 3 (.pointer (some (t202.add 3))))) w fun t204 w =>
                      SplitB (t204 != s19.1)
                        (k21 (true, ()) w)
                        (NilP p0 fun t211 =>
                        RunN Try.prog .sl (V (Instr.loadAt 71 (.pointer (some (t211.add 0))))) w fun t213 w =>
                        RunN Try.prog .addr (V (Instr.indexAt 71 (.slice t213.a t213.len t213.cap) (.int .i64 s17.1))) w fun t215 w =>
                        RunN Try.prog .sl (V (Instr.loadAt 33 (.pointer (some (t215.add 0))))) w fun t217 w =>
                        SplitB (decide (s19.1 < (t217.len : Int)))
                          (NilP p0 fun t222 =>
                          RunN Try.prog .sl (V (Instr.loadAt 71 (.pointer (some (t222.add 0))))) w fun t224 w =>
                          RunN Try.prog .addr (V (Instr.indexAt 71 (.slice t224.a t224.len t224.cap) (.int .i64 s17.1))) w fun t226 w =>
                          RunN Try.prog .sl (V (Instr.loadAt 51 (.pointer (some (t226.add 2))))) w fun t228 w =>
                          RunN Try.prog .bool (V (do eqGuard .eql 51 (.tmp 228) (.const (.slice none 0 0)) (.slice t228.a t228.len t228.cap) (.slice none 0 0); binOp .eql 51 (.slice t228.a t228.len t228.cap) (.slice none 0 0))) w fun t229 w =>
                          SplitB t229
                            (NilP p0 fun t233 =>
                            RunN Try.prog .sl (V (Instr.loadAt 71 (.pointer (some (t233.add 0))))) w fun t235 w =>
                            RunN Try.prog .addr (V (Instr.indexAt 71 (.slice t235.a t235.len t235.cap) (.int .i64 s17.1))) w fun t237 w =>
                            RunN Try.prog .sl (V (Instr.loadAt 33 (.pointer (some (t237.add 0))))) w fun t239 w =>
                            RunN Try.prog .addr (V (Instr.indexAt 33 (.slice t239.a t239.len t239.cap) (.int .i64 s19.1))) w fun t241 w =>
                            RunN Try.prog (.int .i64) (V (Instr.loadAt 3 (.pointer (some (t241.add 2))))) w fun t243 w =>
                            SplitB (t243 != (IntKind.i64.wrap ((-1000) - s17.1)))
                              (k21 (true, ()) w)
                              (NilP p0 fun t249 =>
                              RunN Try.prog .sl (V (Instr.loadAt 71 (.pointer (some (t249.add 0))))) w fun t251 w =>
                              RunN Try.prog .addr (V (Instr.indexAt 71 (.slice t251.a t251.len t251.cap) (.int .i64 s17.1))) w fun t253 w =>
                              RunN Try.prog .sl (V (Instr.loadAt 33 (.pointer (some (t253.add 0))))) w fun t255 w =>
                              RunN Try.prog .addr (V (Instr.indexAt 33 (.slice t255.a t255.len t255.cap) (.int .i64 s19.1))) w fun t257 w =>
                              RunN Try.prog (.int .i64) (V (Instr.loadAt 3 (.pointer (some (t257.add 3))))) w fun t259 w =>
                              k21 (t259 != s19.1, ()) w))
                            (k21 (false, ()) w))
                          (k21 (false, ()) w))))
                  (LoopX (α := Int × Unit) (fun s23 w k24 =>
                    RunN Try.prog .addr (V (Instr.indexAt 112 (.slice s9.2.1.a s9.2.1.len s9.2.1.cap) (.int .i64 s17.1))) w fun t268 w =>
                    RunN Try.prog .sl (V (Instr.loadAt 51 (.pointer (some t268)))) w fun t269 w =>
                    SplitB (decide (s23.1 < (t269.len : Int)))
                      (RunN Try.prog .sl (V (Instr.buildSlice 45 3 #[(0, .int .u8 (IntKind.u8.wrap s17.1)), (1, .int .u8 (IntKind.u8.wrap (Int.fdiv s17.1 (2 ^ 8)))), (2, .int .u8 (IntKind.u8.wrap s23.1))])) w fun t281 w =>
                      JoinX (α := Bool × Unit) (fun j26 w =>
                        SplitB j26.1
                          (K false w)
                          (k24 (IntKind.i64.wrap (s23.1 + 1), ()) w))
                      fun k25 =>
                        RunN Try.prog .addr (V (Instr.indexAt 112 (.slice s9.2.1.a s9.2.1.len s9.2.1.cap) (.int .i64 s17.1))) w fun t284 w =>
                        RunN Try.prog .sl (V (Instr.loadAt 51 (.pointer (some t284)))) w fun t285 w =>
                        RunN Try.prog .addr (V (Instr.indexAt 51 (.slice t285.a t285.len t285.cap) (.int .i64 s23.1))) w fun t287 w =>
                        RunN Try.prog .sl (V (Instr.loadAt 45 (.pointer (some t287)))) w fun t288 w =>
                        CallK Try.prog .bool 25 #[.slice t288.a t288.len t288.cap, .slice t281.a t281.len t281.cap] w fun t290 w =>
                        SplitB (!t290)
                          (k25 (true, ()) w)
                          (NilP p0 fun t295 =>
                          RunN Try.prog .sl (V (Instr.loadAt 71 (.pointer (some (t295.add 0))))) w fun t297 w =>
                          RunN Try.prog .addr (V (Instr.indexAt 71 (.slice t297.a t297.len t297.cap) (.int .i64 s17.1))) w fun t299 w =>
                          RunN Try.prog .sl (V (Instr.loadAt 51 (.pointer (some (t299.add 2))))) w fun t301 w =>
                          SplitB (decide (s23.1 < (t301.len : Int)))
                            (NilP p0 fun t306 =>
                            RunN Try.prog .sl (V (Instr.loadAt 71 (.pointer (some (t306.add 0))))) w fun t308 w =>
                            RunN Try.prog .addr (V (Instr.indexAt 71 (.slice t308.a t308.len t308.cap) (.int .i64 s17.1))) w fun t310 w =>
                            RunN Try.prog .sl (V (Instr.loadAt 51 (.pointer (some (t310.add 2))))) w fun t312 w =>
                            RunN Try.prog .addr (V (Instr.indexAt 51 (.slice t312.a t312.len t312.cap) (.int .i64 s23.1))) w fun t314 w =>
                            RunN Try.prog .sl (V (Instr.loadAt 45 (.pointer (some t314)))) w fun t315 w =>
                            CallK Try.prog .bool 25 #[.slice t315.a t315.len t315.cap, .slice t281.a t281.len t281.cap] w fun t317 w =>
                            k25 (!t317, ()) w)
                            (k25 (false, ()) w)))
                      (k18 (IntKind.i64.wrap (s17.1 + 1), ()) w))
                  (0, ()) w))
              (0, ()) w)
              (K true w))
          (0, ()) w))
      ((⟨none, 0, 0⟩ : Sl), (⟨none, 0, 0⟩ : Sl), 0, ()) w))
  (0, ()) w
theorem T52.calls {p0 : Option Addr} {w : World} {K : Bool → World → Prop} (h : T52 p0 w K) : CallK Try.prog .bool 52 #[.pointer p0] w K :=
  bodyZ_sound (κ := kappa) (ann := [(3, [(3, (.int .i64))]), (9, [(4, (.int .i64))]), (11, [(47, .bool)]), (14, [(5, (.int .i64))]), (22, [(6, .sl), (7, .sl), (8, (.int .i64))]), (27, [(9, .sl)]), (31, [(9, .sl), (10, (.int .i64))]), (39, [(11, .sl), (12, (.int .i64))]), (45, [(13, (.int .i64))]), (51, [(14, (.int .i64))]), (55, [(264, .bool)]), (58, [(15, (.int .i64))]), (63, [(320, .bool)])]) (fn := Try.f52) Try.func52 rfl (by kernel_rfl) (cast (show T52 p0 w K = bodyZ Try.prog kappa [(3, [(3, (.int .i64))]), (9, [(4, (.int .i64))]), (11, [(47, .bool)]), (14, [(5, (.int .i64))]), (22, [(6, .sl), (7, .sl), (8, (.int .i64))]), (27, [(9, .sl)]), (31, [(9, .sl), (10, (.int .i64))]), (39, [(11, .sl), (12, (.int .i64))]), (45, [(13, (.int .i64))]), (51, [(14, (.int .i64))]), (55, [(264, .bool)]), (58, [(15, (.int .i64))]), (63, [(320, .bool)])] .bool Try.f52 [.pointer p0] w K by kernel_rfl) h)

/-- (*sluice/sluicelaw3.book).handed -/
def T55 (p0 : Option Addr) (p1 : Sl) (p2 : Sl) (w : World) (K : Unit → World → Prop) : Prop :=
  NilP p0 fun t8 =>
  ReadN Try.prog .sl (V (Instr.loadAt 71 (.pointer (some (t8.add 0))))) w.drew fun t10 =>
  CallK Try.prog .sl 62 #[.slice p1.a p1.len p1.cap] w.drew fun t12 w =>
  StillV Try.prog (V (Instr.loadAt 71 (.pointer (some (t8.add 0))))) (.slice t10.a t10.len t10.cap) w ∧
  CallK Try.prog .sl 62 #[.slice p2.a p2.len p2.cap] w fun t14 w =>
  StillV Try.prog (V (Instr.loadAt 71 (.pointer (some (t8.add 0))))) (.slice t10.a t10.len t10.cap) w ∧
  RunN Try.prog .sl (V (Instr.buildSlice 71 1 #[(0, .agg #[.slice t12.a t12.len t12.cap, .slice t14.a t14.len t14.cap, .slice p1.a p1.len p1.cap])])) w fun t17 w =>
  StillV Try.prog (V (Instr.loadAt 71 (.pointer (some (t8.add 0))))) (.slice t10.a t10.len t10.cap) w ∧
  RunN Try.prog .sl (V (Builtin.append_ #[71, 71] 71 #[.slice t10.a t10.len t10.cap, .slice t17.a t17.len t17.cap])) w fun t18 w =>
  NilP p0 fun t19 =>
  RunU Try.prog (U (Instr.storeAt 71 (.pointer (some (t19.add 0))) (.slice t18.a t18.len t18.cap))) w fun w =>
  K () w
theorem T55.calls {p0 : Option Addr} {p1 : Sl} {p2 : Sl} {w : World} {K : Unit → World → Prop} (h : T55 p0 p1 p2 w K) : CallK Try.prog (.tup .nilT) 55 #[.pointer p0, .slice p1.a p1.len p1.cap, .slice p2.a p2.len p2.cap] w K :=
  bodyZ_sound (κ := kappa) (ann := []) (fn := Try.f55) Try.func55 rfl (by kernel_rfl) (cast (show T55 p0 p1 p2 w K = bodyZ Try.prog kappa [] (.tup .nilT) Try.f55 [.pointer p0, .slice p1.a p1.len p1.cap, .slice p2.a p2.len p2.cap] w K by kernel_rfl) h)

/-- (*sluice/sluicelaw3.end).again -/
def T57 (p0 : Option Addr) (p1 : (Int × Int × Int × Int × Sl × Unit)) (w : World) (K : Bool → World → Prop) : Prop :=
  RunN Try.prog .addr (V (Instr.box 62 (.agg #[.int .i64 p1.1, .int .i64 p1.2.1, .int .i64 p1.2.2.1, .int .i64 p1.2.2.2.1, .slice p1.2.2.2.2.1.a p1.2.2.2.2.1.len p1.2.2.2.2.1.cap]))) w fun t3 w =>
  RunN Try.prog .sl (V (Instr.loadAt 45 (.pointer (some (t3.add 4))))) w fun t11 w =>
  CallK Try.prog .sl 24 #[.slice t11.a t11.len t11.cap] w fun t12 w =>
  NilP p0 fun t15 =>
  ReadN Try.prog .ptr (V (Instr.loadAt 26 (.pointer (some (t15.add 0))))) w.drew fun t17 =>
  ReadN Try.prog (.agg (.cons (.int .i64) (.cons (.int .i64) (.cons (.int .i64) (.cons (.int .i64) (.cons .sl .nilT)))))) (V (Instr.loadAt 62 (.pointer (some t3)))) w.drew fun t18 =>
  CallK Try.prog (.tup (.cons .sl (.cons (.int .i64) .nilT))) 26 #[.pointer t17, .agg #[.int .i64 t18.1, .int .i64 t18.2.1, .int .i64 t18.2.2.1, .int .i64 t18.2.2.2.1, .slice t18.2.2.2.2.1.a t18.2.2.2.2.1.len t18.2.2.2.2.1.cap]] w.drew fun t19 w =>
  RunN Try.prog .sl (V (Instr.loadAt 45 (.pointer (some (t3.add 4))))) w fun t24 w =>
  RunN Try.prog .sl (V (Instr.sliceAt 45 (.slice t12.a t12.len t12.cap) none (some (.int .i64 (t24.len : Int))) none)) w fun t26 w =>
  RunU Try.prog (U (Instr.storeAt 45 (.pointer (some (t3.add 4))) (.slice t26.a t26.len t26.cap))) w fun w =>
  NilP p0 fun t30 =>
  ReadN Try.prog .ptr (V (Instr.loadAt 27 (.pointer (some (t30.add 1))))) w.drew fun t32 =>
  ReadN Try.prog (.agg (.cons (.int .i64) (.cons (.int .i64) (.cons (.int .i64) (.cons (.int .i64) (.cons .sl .nilT)))))) (V (Instr.loadAt 62 (.pointer (some t3)))) w.drew fun t33 =>
  CallK Try.prog (.tup (.cons .sl (.cons (.int .i64) .nilT))) 54 #[.pointer t32, .agg #[.int .i64 t33.1, .int .i64 t33.2.1, .int .i64 t33.2.2.1, .int .i64 t33.2.2.2.1, .slice t33.2.2.2.2.1.a t33.2.2.2.2.1.len t33.2.2.2.2.1.cap]] w.drew fun t34 w =>
  SplitB (t19.2.1 == t34.2.1)
    (SplitB ((t19.1.len : Int) == 0)
      (K ((t34.1.len : Int) == 0) w)
      (K false w))
    (K false w)
theorem T57.calls {p0 : Option Addr} {p1 : (Int × Int × Int × Int × Sl × Unit)} {w : World} {K : Bool → World → Prop} (h : T57 p0 p1 w K) : CallK Try.prog .bool 57 #[.pointer p0, .agg #[.int .i64 p1.1, .int .i64 p1.2.1, .int .i64 p1.2.2.1, .int .i64 p1.2.2.2.1, .slice p1.2.2.2.2.1.a p1.2.2.2.2.1.len p1.2.2.2.2.1.cap]] w K :=
  bodyZ_sound (κ := kappa) (ann := []) (fn := Try.f57) Try.func57 rfl (by kernel_rfl) (cast (show T57 p0 p1 w K = bodyZ Try.prog kappa [] .bool Try.f57 [.pointer p0, .agg #[.int .i64 p1.1, .int .i64 p1.2.1, .int .i64 p1.2.2.1, .int .i64 p1.2.2.2.1, .slice p1.2.2.2.2.1.a p1.2.2.2.2.1.len p1.2.2.2.2.1.cap]] w K by kernel_rfl) h)

/-- sluice/sluicelaw3.packed -/
def T62 (p0 : Sl) (w : World) (K : Sl → World → Prop) : Prop :=
  LoopX (α := Sl × Int × Unit) (fun s1 w k2 =>
    SplitB (decide (s1.2.1 < (p0.len : Int)))
      (RunN Try.prog .addr (V (Instr.indexAt 51 (.slice p0.a p0.len p0.cap) (.int .i64 s1.2.1))) w fun t14 w =>
      RunN Try.prog .sl (V (Instr.loadAt 45 (.pointer (some t14)))) w fun t15 w =>
      RunN Try.prog .sl (V (Instr.buildSlice 33 1 #[(0, .agg #[.int .i64 0, .int .i64 0, .int .i64 0, .int .i64 0, .slice t15.a t15.len t15.cap])])) w fun t17 w =>
      RunN Try.prog .sl (V (Builtin.append_ #[33, 33] 33 #[.slice s1.1.a s1.1.len s1.1.cap, .slice t17.a t17.len t17.cap])) w fun t18 w =>
      k2 (t18, IntKind.i64.wrap (s1.2.1 + 1), ()) w)
      (K s1.1 w))
  ((⟨none, 0, 0⟩ : Sl), 0, ()) w
theorem T62.calls {p0 : Sl} {w : World} {K : Sl → World → Prop} (h : T62 p0 w K) : CallK Try.prog .sl 62 #[.slice p0.a p0.len p0.cap] w K :=
  bodyZ_sound (κ := kappa) (ann := [(4, [(3, .sl), (4, (.int .i64))])]) (fn := Try.f62) Try.func62 rfl (by kernel_rfl) (cast (show T62 p0 w K = bodyZ Try.prog kappa [(4, [(3, .sl), (4, (.int .i64))])] .sl Try.f62 [.slice p0.a p0.len p0.cap] w K by kernel_rfl) h)

end Go.Proofs.Ytodgnpmljdopiaa

/- The shelf: lists are put there, written over and grown. -/
namespace Go.Proofs.Ytodgnpmljdopiaa
open Go Go.Fw Go.RowKit
set_option linter.unusedVariables false
set_option linter.unusedSimpArgs false
set_option maxRecDepth 4000
set_option maxHeartbeats 4000000
variable {w0 w : World} {F G : Grps}

theorem mark_step {i q : Nat} {l : List UInt8} (h : q < l.length) : (mark i q ++ l.drop q).set q (UInt8.ofNat (i + q)) = mark i (q + 1) ++ l.drop (q + 1) := by
  have e1 : l.drop q = l[q] :: l.drop (q + 1) := List.drop_eq_getElem_cons h
  have e2 : mark i (q + 1) = mark i q ++ [UInt8.ofNat (i + q)] := by simp [mark, List.range_succ]
  rw [e1, e2, List.set_append_right _ _ (by rw [mark_len]; exact Nat.le_refl _), mark_len, Nat.sub_self, List.set_cons_zero, List.append_assoc]
  rfl
theorem lsl_of {D D' : List Bs} (h : D'.map (·.1) = D.map (·.1)) : lsl D' = lsl D := by rw [lsl_map, lsl_map, h]
theorem brow_set (D : List Bs) (i : Nat) (x : Bs) : setO (D.map brow) i (brow x) = (D.set i x).map brow := setO_brw 5 D i x
theorem brow_at {l : List Bs} {i : Nat} (h : i < l.length) : nthO (l.map brow) i = some (.row 5 1 l[i].1 (bys l[i].2)) := brw_at h
theorem set_fst {D : List Bs} {m : Nat} (hm : m < D.length) (l : List UInt8) : (D.set m (D[m].1, l)).map (·.1) = D.map (·.1) := by
  refine List.ext_getElem? fun i => ?_
  rw [List.getElem?_map, List.getElem?_map, List.getElem?_set]
  split
  · subst_vars
    rw [List.getElem?_eq_getElem hm]; rfl
  · rfl
/-- What may be read as long as this group stands. -/
def SeesX (w0 : World) (H : List Ent) (p : Sl) (sz : Nat) (vs : List Value) : Prop := ∀ w F, St w0 w (H :: F) → Rd w p sz vs
theorem SeesX.more {H m : List Ent} {p : Sl} {sz : Nat} {vs : List Value} (h : SeesX w0 H p sz vs) : SeesX w0 (H ++ m) p sz vs := fun w F hs => h w (m :: F) (St.two.1 hs)
theorem SeesX.late {H m : List Ent} {p : Sl} {sz : Nat} {vs : List Value} (h : SeesX w0 m p sz vs) : SeesX w0 (H ++ m) p sz vs := fun w F hs => h w (H :: F) ((St.two.1 hs).perm (by
  simp only [List.flatten_cons, ← List.append_assoc]
  exact List.perm_append_comm.append_right _))
theorem SeesX.at {H : List Ent} {p : Sl} {sz : Nat} {vs : List Value} (h : SeesX w0 H p sz vs) (k : Nat) (hk : nthO G k = some H) : SeesG w0 G p sz vs := fun w hw => h w _ (hw.bring k hk)
theorem SeesX.row {H : List Ent} {E : TypeId} {sz : Nat} {s : Sl} {vs : List Value} (h : Ent.row E sz s vs ∈ H) : SeesX w0 H s sz vs := fun w F hs => ((hs.memG 0 rfl h).1 : Ow w w0.heap.size E sz s vs).rd
theorem SeesX.rowB {H : List Ent} {b : Bs} (h : brow b ∈ H) : SeesX w0 H b.1 1 (bys b.2) := SeesX.row (E := 5) h
theorem Sees8.late {g8 m : List Ent} {b : Bs} (h : Sees8 m b) : Sees8 (g8 ++ m) b := fun w0 w F hs => h w0 w (g8 :: F) ((St.two.1 hs).perm (by
  simp only [List.flatten_cons, ← List.append_assoc]
  exact List.perm_append_comm.append_right _))
theorem put_st {sb : Nat} {ls : Sl} {L : List Bs} {g : List Ent} {o : Sl} {D : List Bs} (h : St w0 w ([.row 45 1 o (lsl D)] :: D.map brow :: shE sb ls L :: g :: F)) (hI : ShI L g) (hlen : ∀ b ∈ D, b.2.length ≤ 4000) (hfew : L.length + D.length ≤ 1000000) :
    CallK Try.prog (.tup .nilT) 56 #[.pointer (some ⟨sb, 0, none⟩), .slice o.a o.len o.cap] w fun (_ : Unit) w' => ∃ ls' L' g', ShI L' g' ∧ L'.length = L.length + D.length ∧ St w0 w' ([.row 45 1 o (lsl D)] :: shE sb ls' L' :: g' :: F) := by
  have hol : o.len = D.length := lsl_rd (h.rd (k := 0) (i := 0) (E := 45) (sz := 1) (s := o) (vs := lsl D) ⟨_, rfl, rfl⟩)
  have hoi : (o.len : Int) = (D.length : Int) := by omega
  refine T56.calls ?_
  unfold T56
  refine NilP.mk ?_
  refine h.loadB 2 0 ⟨_, rfl, rfl⟩ rfl (kd := .int .i64) (x := (L.length : Int)) rfl ?_
  refine LoopX.mk (fun st w' => ∃ (m : Nat) (ls' : Sl) (D' : List Bs), st = ((m : Int), ()) ∧ m ≤ D.length ∧ D'.map (·.1) = D.map (·.1) ∧ (∀ b ∈ D', b.2.length ≤ 4000) ∧ (∀ (i : Nat) (hi : i < D'.length), i < m → D'[i].2 = mark (L.length + i) D'[i].2.length) ∧
    St w0 w' ([.row 45 1 o (lsl D)] :: D'.map brow :: shE sb ls' (L ++ D'.take m) :: g :: F)) (fun st => D.length - st.1.toNat) ⟨0, ls, D, rfl, Nat.zero_le _, rfl, hlen, fun i hi h0 => absurd h0 (Nat.not_lt_zero _), by rw [List.take_zero, List.append_nil]; exact h⟩ ?_
  clear h
  rintro _ w1 ⟨m, ls1, D1, rfl, hm, hD1, hlen1, hmk, h⟩ k hk
  dsimp only at hk ⊢
  have hDl : D1.length = D.length := by have := congrArg List.length hD1; simpa using this
  have hls := lsl_of hD1
  rw [hoi, SplitB_iff]
  refine ⟨fun hc => ?_, fun hc => ?_⟩
  · have hc : m < D.length := by have : (m : Int) < (D.length : Int) := of_decide_eq_true hc
                                 omega
    have hc1 : m < D1.length := by omega
    have hem : IntKind.i64.wrap ((m : Int) + 1) = ((m + 1 : Nat) : Int) := by rw [wr (by omega)]; omega
    rw [hem]
    have hbl := hlen1 _ (List.getElem_mem hc1)
    let Q : Nat → List Bs := fun q => D1.set m (D1[m].1, mark (L.length + m) q ++ D1[m].2.drop q)
    have hQ0 : Q 0 = D1 := by
      show D1.set m _ = D1
      have : (D1[m].1, mark (L.length + m) 0 ++ D1[m].2.drop 0) = D1[m] := by simp [mark]
      rw [this]; exact List.set_getElem_self hc1
    have hQf : ∀ q, (Q q).map (·.1) = D.map (·.1) := fun q => (set_fst hc1 _).trans hD1
    have hQl : ∀ q, (Q q).length = D1.length := fun q => by simp [Q]
    have hQm : ∀ q, (Q q)[m]'(by rw [hQl]; exact hc1) = (D1[m].1, mark (L.length + m) q ++ D1[m].2.drop q) := fun q => by simp [Q]
    have hTn : (L ++ D1.take m).length = L.length + m := by simp; omega
    refine LoopX.mk (fun st w' => ∃ q : Nat, st = ((q : Int), ()) ∧ q ≤ D1[m].2.length ∧ St w0 w' ([.row 45 1 o (lsl D)] :: (Q q).map brow :: shE sb ls1 (L ++ D1.take m) :: g :: F)) (fun st => D1[m].2.length - st.1.toNat) ⟨0, rfl, Nat.zero_le _, by rw [hQ0]; exact h⟩ ?_
    clear h
    rintro _ w2 ⟨q, rfl, hq, h⟩ k4 hk4
    dsimp only at hk4 ⊢
    have hor : ∀ {w' : World} {Z : Grps}, St w0 w' ([.row 45 1 o (lsl D)] :: Z) → Rd w' o 1 (lsl D) := fun h => h.rd (k := 0) (i := 0) (E := 45) (sz := 1) (s := o) (vs := lsl D) ⟨_, rfl, rfl⟩
    have hat : (lsl D)[m * 1]? = some (Value.slice D1[m].1.a D1[m].1.len D1[m].1.cap) := by rw [Nat.mul_one, ← hls]; exact lsl_at hc1
    have hgm := brow_at (l := Q q) (i := m) (by rw [hQl]; exact hc1)
    rw [hQm] at hgm
    have hbr : Rd w2 D1[m].1 1 (bys (mark (L.length + m) q ++ D1[m].2.drop q)) := h.rd (k := 1) (i := m) (E := 5) (sz := 1) ⟨_, rfl, hgm⟩
    have hbn := hbr.bys_len
    have hln : (mark (L.length + m) q ++ D1[m].2.drop q).length = D1[m].2.length := by simp [mark]; omega
    have hr := hor h
    refine hr.idxK m rfl (by omega) ?_
    intro b0 o0 ha
    refine hr.el ha (m * 1) rfl (kd := .sl) (x := D1[m].1) hat ?_
    rw [SplitB_iff]
    refine ⟨fun hc2 => ?_, fun hc2 => ?_⟩
    · have hc2 : q < D1[m].2.length := by have : (q : Int) < (D1[m].1.len : Int) := of_decide_eq_true hc2
                                          omega
      have hem2 : IntKind.i64.wrap ((q : Int) + 1) = ((q + 1 : Nat) : Int) := by rw [wr (by omega)]; omega
      rw [hem2]
      have hr2 := hor h.drew
      refine hr2.idxR m rfl (by omega) ?_
      intro b1 o1 ha1
      refine hr2.elR ha1 (m * 1) rfl (kd := .sl) (x := D1[m].1) hat ?_
      refine NilP.mk ?_
      refine h.drew.readB 2 0 ⟨_, rfl, rfl⟩ rfl (kd := .int .i64) (x := ((L ++ D1.take m).length : Int)) rfl ?_
      have hbr2 : Rd w2.drew D1[m].1 1 (bys (mark (L.length + m) q ++ D1[m].2.drop q)) := h.drew.rd (k := 1) (i := m) (E := 5) (sz := 1) ⟨_, rfl, hgm⟩
      refine hbr2.idxR q rfl (by omega) ?_
      intro b2 o2 ha2
      have hv : IntKind.u8.wrap (IntKind.i64.wrap (((L ++ D1.take m).length : Int) + (q : Int))) = ((UInt8.ofNat (L.length + m + q)).toNat : Int) := by
        rw [hTn, wr (by omega), ← u8_of]
        congr 1
      rw [hv]
      refine h.drew.storR 1 m ⟨_, rfl, hgm⟩ ha2 (q * 1) rfl (by rw [bys_length, hln]; omega) rfl ?_
      intro w3 h
      have e1 : (bys (mark (L.length + m) q ++ D1[m].2.drop q)).set (q * 1) (.int .u8 ((UInt8.ofNat (L.length + m + q)).toNat : Int)) = bys (mark (L.length + m) (q + 1) ++ D1[m].2.drop (q + 1)) := by
        rw [Nat.mul_one]
        exact (bys_set _ _ _).trans (congrArg bys (mark_step hc2))
      rw [e1] at h
      dsimp only [updG] at h
      have e2 : setO ((Q q).map brow) m (.row 5 1 D1[m].1 (bys (mark (L.length + m) (q + 1) ++ D1[m].2.drop (q + 1)))) = (Q (q + 1)).map brow := by
        refine (brow_set (Q q) m (D1[m].1, mark (L.length + m) (q + 1) ++ D1[m].2.drop (q + 1))).trans ?_
        simp [Q]
      rw [e2] at h
      exact hk4 _ _ ⟨q + 1, rfl, by omega, h⟩ (by dsimp only; omega)
    · have hc2 : q = D1[m].2.length := by have : ¬ (q : Int) < (D1[m].1.len : Int) := of_decide_eq_false hc2
                                          omega
      subst hc2
      have hll := lsl_rd (h.rd (k := 2) (i := 1) (E := 45) (sz := 1) (s := ls1) (vs := lsl (L ++ D1.take m)) ⟨_, rfl, rfl⟩)
      refine NilP.mk ?_
      refine h.drew.readB 2 0 ⟨_, rfl, rfl⟩ rfl (kd := .sl) (x := ls1) rfl ?_
      have hr2 := hor h.drew
      refine hr2.idxR m rfl (by omega) ?_
      intro b1 o1 ha1
      refine hr2.elR ha1 (m * 1) rfl (kd := .sl) (x := D1[m].1) hat ?_
      refine h.drew.newS 1 (bs51 _ _ _ _) rfl rfl rfl ?_
      intro u w3 hu1 hu2 _ h
      refine ⟨h.stillB 3 0 ⟨_, rfl, rfl⟩ rfl rfl, ?_⟩
      refine h.app 3 1 (s := ls1) ⟨_, rfl, rfl⟩ (h.rd (k := 0) (i := 0) ⟨_, rfl, rfl⟩) (fun v hv => by simp at hv; subst hv; rfl) (by simp only [maxLen]; omega) (by omega) ?_
      intro ls2 w4 hl4 h
      have h := h.drop 0
      dsimp only [delO, updG, setO, shE] at h
      refine NilP.mk ?_
      refine h.storB 2 0 ⟨_, rfl, rfl⟩ rfl rfl rfl ?_
      intro w5 h
      dsimp only [updG, setO] at h
      refine NilP.mk ?_
      refine h.loadB 2 0 ⟨_, rfl, rfl⟩ rfl (kd := .int .i64) (x := ((L ++ D1.take m).length : Int)) rfl ?_
      refine NilP.mk ?_
      refine h.storB 2 0 ⟨_, rfl, rfl⟩ rfl rfl rfl ?_
      intro w6 h
      dsimp only [updG, setO] at h
      have hfin : (Q D1[m].2.length)[m]'(by rw [hQl]; exact hc1) = (D1[m].1, mark (L.length + m) D1[m].2.length) := by rw [hQm, List.drop_length, List.append_nil]
      have htk : (Q D1[m].2.length).take (m + 1) = D1.take m ++ [(D1[m].1, mark (L.length + m) D1[m].2.length)] := by
        rw [List.take_succ_eq_append_getElem (by rw [hQl]; exact hc1), hfin]
        congr 1
        simp only [Q]
        rw [List.take_set_of_le (Nat.le_refl m)]
      have e3 : lsl (L ++ (Q D1[m].2.length).take (m + 1)) = lsl (L ++ D1.take m) ++ [.slice D1[m].1.a D1[m].1.len D1[m].1.cap] := by
        rw [htk, ← List.append_assoc]; exact lsl_snoc _ _
      have e4 : IntKind.i64.wrap (((L ++ D1.take m).length : Int) + 1) = ((L ++ (Q D1[m].2.length).take (m + 1)).length : Int) := by
        rw [wr (by omega), htk]
        simp; omega
      have hE : shE sb ls2 (L ++ (Q D1[m].2.length).take (m + 1)) = [.cel sb 70 [.slice ls2.a ls2.len ls2.cap, .int .i64 (IntKind.i64.wrap (((L ++ D1.take m).length : Int) + 1))], .row 45 1 ls2 (lsl (L ++ D1.take m) ++ [.slice D1[m].1.a D1[m].1.len D1[m].1.cap])] := by
        rw [shE, e3, e4]; rfl
      refine hk _ _ ⟨m + 1, ls2, Q D1[m].2.length, rfl, by omega, hQf _, fun b hb => ?_, fun i hi him => ?_, by rw [hE]; exact h⟩ (by dsimp only; omega)
      · rcases List.mem_or_eq_of_mem_set hb with hb | rfl
        · exact hlen1 b hb
        · rw [hln]; exact hbl
      · rcases Nat.lt_or_ge i m with hlt | hge
        · have : (Q D1[m].2.length)[i] = D1[i]'(by rw [hQl] at hi; exact hi) := by
            simp only [Q]
            rw [List.getElem_set_ne (by omega)]
          rw [this]
          exact hmk i _ hlt
        · have : i = m := by omega
          subst this
          rw [hfin, mark_len]
  · have hc : m = D.length := by have : ¬ (m : Int) < (D.length : Int) := of_decide_eq_false hc
                                 omega
    subst hc
    rw [List.take_of_length_le (by omega)] at h
    refine LoopX.mk (fun st w' => ∃ (m : Nat) (gd : List Ent), st = ((m : Int), ()) ∧ m ≤ D.length ∧ (∀ (i : Nat) (hi : i < D1.length), i < m → Sees8 gd D1[i]) ∧ St w0 w' ([.row 45 1 o (lsl D)] :: (D1.drop m).map brow :: gd :: shE sb ls1 (L ++ D1) :: g :: F)) (fun st => D.length - st.1.toNat) ⟨0, [], rfl, Nat.zero_le _, fun i hi h0 => absurd h0 (Nat.not_lt_zero _), by rw [List.drop_zero]; exact h.perm (by simp)⟩ ?_
    clear h
    rintro _ w2 ⟨m, gd, rfl, hm, hgd, h⟩ k6 hk6
    dsimp only at hk6 ⊢
    rw [SplitB_iff]
    refine ⟨fun hc => ?_, fun hc => ?_⟩
    · have hc : m < D.length := by have : (m : Int) < (D.length : Int) := of_decide_eq_true hc
                                   omega
      have hc1 : m < D1.length := by omega
      have hem : IntKind.i64.wrap ((m : Int) + 1) = ((m + 1 : Nat) : Int) := by rw [wr (by omega)]; omega
      rw [hem]
      have hbl := hlen1 _ (List.getElem_mem hc1)
      have hat : (lsl D)[m * 1]? = some (Value.slice D1[m].1.a D1[m].1.len D1[m].1.cap) := by rw [Nat.mul_one, ← hls]; exact lsl_at hc1
      have hr := h.rd (k := 0) (i := 0) (E := 45) (sz := 1) (s := o) (vs := lsl D) ⟨_, rfl, rfl⟩
      refine hr.idxK m rfl (by omega) ?_
      intro b0 o0 ha
      refine hr.el ha (m * 1) rfl (kd := .sl) (x := D1[m].1) hat ?_
      have e1 : (D1.drop m).map brow = brow D1[m] :: (D1.drop (m + 1)).map brow := by rw [List.drop_eq_getElem_cons hc1]; rfl
      rw [e1] at h
      have h := h.ord 2 [1, 0]
      dsimp only [pick, nthO, dropO] at h
      have h := St.one.1 h
      have hcap : D1[m].1.len ≤ D1[m].1.cap := (h.rd (k := 0) (i := 0) (E := 5) (sz := 1) (s := D1[m].1) (vs := bys D1[m].2) ⟨_, rfl, rfl⟩).2.2
      have hg0 := Grow.start (E := 5) h
      refine LoopX.mk (fun st w' => ∃ (q : Nat) (d : Sl) (e : List UInt8), st = (d, (q : Int), ()) ∧ q ≤ 100 ∧ e.length = q ∧ Grow 5 w0 w' D1[m].1 D1[m].2 d e ((D1.drop (m + 1)).map brow :: [.row 45 1 o (lsl D)] :: gd :: shE sb ls1 (L ++ D1) :: g :: F)) (fun st => 100 - st.2.1.toNat) ⟨0, D1[m].1, [], rfl, Nat.zero_le _, rfl, hg0⟩ ?_
      clear h hg0
      rintro _ w3 ⟨q, d, e, rfl, hq, hel, hgr⟩ k8 hk8
      dsimp only at hk8 ⊢
      rw [SplitB_iff]
      refine ⟨fun hc2 => ?_, fun hc2 => ?_⟩
      · have hc2 : q < 100 := by have : (q : Int) < 100 := of_decide_eq_true hc2
                                 omega
        have hem2 : IntKind.i64.wrap ((q : Int) + 1) = ((q + 1 : Nat) : Int) := by rw [wr (by omega)]; omega
        rw [hem2]
        refine hgr.app (fun w x => bs45 w x) _ _ (by8_v _) (by omega) ?_
        intro d' w4 hgr'
        exact hk8 _ _ ⟨q + 1, d', _, rfl, by omega, by simp; omega, hgr'⟩ (by dsimp only; omega)
      · obtain ⟨g1, hfar, h⟩ := hgr.far hcap
        refine hk6 _ _ ⟨m + 1, gd ++ g1, rfl, by omega, fun i hi him => ?_, ?_⟩ (by dsimp only; omega)
        · rcases Nat.lt_or_ge i m with hlt | hge
          · exact (hgd i hi hlt).more
          · have : i = m := by omega
            subst this
            refine Sees8.late fun wa wb Fa hs => ?_
            exact (hfar.reads hs (k := 0) rfl (fun e he => he)).2
        · have h := h.ord 4 [2, 1, 3, 0]
          dsimp only [pick, nthO, dropO] at h
          refine h.perm ?_
          simp only [List.flatten_cons, List.append_assoc]
          exact .refl _
    · have hc : m = D.length := by have : ¬ (m : Int) < (D.length : Int) := of_decide_eq_false hc
                                   omega
      subst hc
      have h := h.ord 5 [0, 3, 4, 2]
      dsimp only [pick, nthO, dropO] at h
      refine ⟨ls1, L ++ D1, g ++ gd, ⟨fun b hb => ?_, fun i hi => ?_, fun b hb => ?_, ?_⟩, by simp; omega, ?_⟩
      · rcases List.mem_append.1 hb with hb | hb
        · exact (hI.sees b hb).more
        · obtain ⟨i, hi, rfl⟩ := List.mem_iff_getElem.1 hb
          exact (hgd i hi (by omega)).late
      · rcases Nat.lt_or_ge i L.length with hlt | hge
        · rw [List.getElem_append_left hlt]; exact hI.marks i hlt
        · rw [List.getElem_append_right hge]
          have h2 := hmk (i - L.length) (by rw [List.length_append] at hi; omega) (by rw [List.length_append] at hi; omega)
          have e : L.length + (i - L.length) = i := by omega
          rw [e] at h2
          exact h2
      · rcases List.mem_append.1 hb with hb | hb
        · exact hI.lens b hb
        · have := hlen1 b hb; omega
      · rw [List.length_append]; omega
      · exact h.perm (by simp only [List.flatten_cons, List.append_assoc]; exact .refl _)
end Go.Proofs.Ytodgnpmljdopiaa

/- The book of answers, the pool of segments: what is kept there. -/
namespace Go.Proofs.Ytodgnpmljdopiaa
open Go Go.Fw Go.RowKit
set_option linter.unusedVariables false
set_option linter.unusedSimpArgs false
set_option maxRecDepth 4000
set_option maxHeartbeats 4000000
variable {w0 w : World} {F G : Grps}

instance : Sc Try.prog 71 := ⟨by kernel_rfl⟩
instance : Et Try.prog 71 101 3 72 := ⟨ET.of (by kernel_rfl), by decide⟩
instance : Ag Try.prog 101 3 := ⟨by kernel_rfl⟩
theorem bs71 (w : World) (a b c : Sl) : (Instr.buildSlice 71 1 #[(0, .agg #[.slice a.a a.len a.cap, .slice b.a b.len b.cap, .slice c.a c.len c.cap])]).run Try.prog w = .ok (.slice (some ⟨w.heap.size, 0, none⟩) 1 1) (w.alloc (.cells ⟨[slv a, slv b, slv c]⟩ 101)) := by kernel_rfl
abbrev S3 := Sl × Sl × Sl
def s3v (t : S3) : List Value := [slv t.1, slv t.2.1, slv t.2.2]
theorem s3v_len (t : S3) : (s3v t).length = 3 := rfl
theorem s3v_one (t : S3) : ∀ v ∈ s3v t, v.oneCell' = true := by intro v hv; simp [s3v] at hv; rcases hv with rfl | rfl | rfl <;> rfl
/-- The book: its list, how many were brought. -/
def bkE (bb : Nat) (bs : Sl) (T : List S3) (n : Nat) : List Ent := [.cel bb 73 [sv bs, .int .i64 (n : Int)], .row 101 3 bs (T.flatMap s3v)]
theorem bk_len {bs : Sl} {T : List S3} (h : Rd w bs 3 (T.flatMap s3v)) : bs.len = T.length := by
  have := h.1; rw [flat_len s3v_len] at this; omega
theorem turn_st {bb : Nat} {bs : Sl} {T : List S3} {n : Nat} (h : St w0 w (bkE bb bs T n :: F)) (hn : n ≤ 1000000) : CallK Try.prog .bool 43 #[.pointer (some ⟨bb, 0, none⟩)] w
    fun (v : Bool) w' => (v = true → T.length < 120) ∧ St w0 w' (bkE bb bs T (n + 1) :: F) := by
  have hbl := bk_len (h.rd (k := 0) (i := 1) (E := 101) (sz := 3) (s := bs) (vs := T.flatMap s3v) ⟨_, rfl, rfl⟩)
  refine T43.calls ?_
  unfold T43
  refine NilP.mk ?_
  refine h.loadB 0 0 ⟨_, rfl, rfl⟩ rfl (kd := .int .i64) (x := (n : Int)) rfl ?_
  have hem : IntKind.i64.wrap ((n : Int) + 1) = ((n + 1 : Nat) : Int) := by rw [wr (by omega)]; omega
  rw [hem]
  refine NilP.mk ?_
  refine h.storB 0 0 ⟨_, rfl, rfl⟩ rfl rfl rfl ?_
  intro w1 h
  dsimp only [updG, setO] at h
  have h : St w0 w1 (bkE bb bs T (n + 1) :: F) := h
  refine NilP.mk ?_
  refine h.loadB 0 0 ⟨_, rfl, rfl⟩ rfl (kd := .int .i64) (x := ((n + 1 : Nat) : Int)) rfl ?_
  rw [SplitB_iff]
  refine ⟨fun _ => ?_, fun _ => ⟨fun hf => (by cases hf), h⟩⟩
  refine NilP.mk ?_
  refine h.loadB 0 0 ⟨_, rfl, rfl⟩ rfl (kd := .sl) (x := bs) rfl ?_
  refine ⟨fun hd => ?_, h⟩
  have : (bs.len : Int) < 120 := of_decide_eq_true hd
  omega
/-- One more answer. -/
theorem book_app {bb : Nat} {bs : Sl} {T : List S3} {n : Nat} (h : St w0 w (bkE bb bs T n :: F)) (hT : T.length ≤ 1000) (t : S3) {K : World → Prop} (hk : ∀ bs' w', St w0 w' (bkE bb bs' (T ++ [t]) n :: F) → K w') :
    RunN Try.prog .sl (V (Instr.buildSlice 71 1 #[(0, .agg #[.slice t.1.a t.1.len t.1.cap, .slice t.2.1.a t.2.1.len t.2.1.cap, .slice t.2.2.a t.2.2.len t.2.2.cap])])) w fun t20 w =>
    StillV Try.prog (V (Instr.loadAt 71 (.pointer (some ((⟨bb, 0, none⟩ : Addr).add 0))))) (.slice bs.a bs.len bs.cap) w ∧
    RunN Try.prog .sl (V (Builtin.append_ #[71, 71] 71 #[.slice bs.a bs.len bs.cap, .slice t20.a t20.len t20.cap])) w fun t21 w =>
    NilP (some ⟨bb, 0, none⟩) fun t22 =>
    RunU Try.prog (U (Instr.storeAt 71 (.pointer (some (t22.add 0))) (.slice t21.a t21.len t21.cap))) w K := by
  have hbl := bk_len (h.rd (k := 0) (i := 1) (E := 101) (sz := 3) (s := bs) (vs := T.flatMap s3v) ⟨_, rfl, rfl⟩)
  refine h.newS 3 (bs71 _ t.1 t.2.1 t.2.2) rfl rfl rfl ?_
  intro u w1 hu1 hu2 _ h
  refine ⟨h.stillB 1 0 ⟨_, rfl, rfl⟩ rfl rfl, ?_⟩
  refine h.app 1 1 (s := bs) ⟨_, rfl, rfl⟩ (h.rd (k := 0) (i := 0) ⟨_, rfl, rfl⟩) (s3v_one t) (by simp only [maxLen]; omega) (by omega) ?_
  intro bs' w2 hl2 h
  have h := h.drop 0
  dsimp only [delO, updG, setO, bkE] at h
  refine NilP.mk ?_
  refine h.storB 0 0 ⟨_, rfl, rfl⟩ rfl rfl rfl ?_
  intro w3 h
  dsimp only [updG, setO] at h
  refine hk bs' w3 ?_
  have e1 : (T ++ [t]).flatMap s3v = T.flatMap s3v ++ [slv t.1, slv t.2.1, slv t.2.2] := by rw [List.flatMap_append]; simp [s3v]
  rw [bkE, e1]
  exact h
theorem segments_st {bb : Nat} {bs : Sl} {T : List S3} {n : Nat} (h : St w0 w (bkE bb bs T n :: F)) (hT : T.length ≤ 1000) (o v : Sl) : CallK Try.prog (.tup .nilT) 44 #[.pointer (some ⟨bb, 0, none⟩), .slice o.a o.len o.cap, .slice v.a v.len v.cap] w
    fun (_ : Unit) w' => (T.length < 120 ∧ ∃ bs', St w0 w' (bkE bb bs' (T ++ [(o, v, ⟨none, 0, 0⟩)]) n :: F)) ∨ (120 ≤ T.length ∧ St w0 w' (bkE bb bs T n :: F)) := by
  have hbl := bk_len (h.rd (k := 0) (i := 1) (E := 101) (sz := 3) (s := bs) (vs := T.flatMap s3v) ⟨_, rfl, rfl⟩)
  refine T44.calls ?_
  unfold T44
  refine NilP.mk ?_
  refine h.loadB 0 0 ⟨_, rfl, rfl⟩ rfl (kd := .sl) (x := bs) rfl ?_
  rw [SplitB_iff]
  refine ⟨fun hc => ?_, fun hc => ?_⟩
  · have hc : T.length < 120 := by have : (bs.len : Int) < 120 := of_decide_eq_true hc
                                   omega
    refine NilP.mk ?_
    refine h.loadB 0 0 ⟨_, rfl, rfl⟩ rfl (kd := .sl) (x := bs) rfl ?_
    have := book_app h hT (o, v, ⟨none, 0, 0⟩) (K := fun w' => (T.length < 120 ∧ ∃ bs', St w0 w' (bkE bb bs' (T ++ [(o, v, ⟨none, 0, 0⟩)]) n :: F)) ∨ (120 ≤ T.length ∧ St w0 w' (bkE bb bs T n :: F))) fun bs' w' h => .inl ⟨hc, bs', h⟩
    obtain ⟨x, w', h1, h2, h3⟩ := this
    exact ⟨x, w', h1, h3⟩
  · have hc : 120 ≤ T.length := by have : ¬ (bs.len : Int) < 120 := of_decide_eq_false hc
                                   omega
    exact .inr ⟨hc, h⟩
/-- A list of bytes as a segment of nothing else. -/
def pk (b : Bs) : Sg := ⟨0, 0, 0, 0, b⟩
theorem packed_st (h : St w0 w F) {o : Sl} {D : List Bs} (r1 : SeesG w0 F o 1 (lsl D)) (hl : D.length ≤ 1000000) : CallK Try.prog .sl 62 #[.slice o.a o.len o.cap] w
    fun (s : Sl) w' => s.len = D.length ∧ St w0 w' ([.row 62 5 s ((D.map pk).flatMap sgv)] :: F) := by
  have l1 := lsl_rd (r1 _ h)
  refine T62.calls ?_
  unfold T62
  have h := h.nilrow 62 5
  refine LoopX.mk (fun st w' => ∃ (s : Sl) (m : Nat), st = (s, (m : Int), ()) ∧ m ≤ D.length ∧ s.len = m ∧ St w0 w' ([.row 62 5 s (((D.take m).map pk).flatMap sgv)] :: F)) (fun st => D.length - st.2.1.toNat) ⟨_, 0, rfl, Nat.zero_le _, rfl, h⟩ ?_
  clear h
  rintro _ w1 ⟨s, m, rfl, hm, hs, h⟩ k hk
  dsimp only at hk ⊢
  rw [SplitB_iff]
  refine ⟨fun hc => ?_, fun hc => ?_⟩
  · have hc : m < D.length := by have : (m : Int) < (o.len : Int) := of_decide_eq_true hc
                                 omega
    have hem : IntKind.i64.wrap ((m : Int) + 1) = ((m + 1 : Nat) : Int) := by rw [wr (by omega)]; omega
    rw [hem]
    have hr := r1 _ (h.drop 0)
    refine hr.idxK m rfl (by omega) ?_
    intro b0 o0 ha
    refine hr.el ha (m * 1) rfl (kd := .sl) (x := D[m].1) (by rw [Nat.mul_one]; exact lsl_at hc) ?_
    refine h.newS 5 (bs33' _ (pk D[m])) rfl rfl rfl ?_
    intro u w2 hu1 hu2 _ h
    refine h.app 1 0 ⟨_, rfl, rfl⟩ (h.rd (k := 0) (i := 0) ⟨_, rfl, rfl⟩) (sgv_one _) (by simp only [maxLen]; omega) (by omega) ?_
    intro s' w3 hl3 h
    have h := h.drop 0
    dsimp only [delO, updG, setO] at h
    refine hk _ _ ⟨s', m + 1, rfl, by omega, by omega, ?_⟩ (by dsimp only; omega)
    have e1 : ((D.take (m + 1)).map pk).flatMap sgv = ((D.take m).map pk).flatMap sgv ++ sgv (pk D[m]) := by
      rw [List.take_succ_eq_append_getElem hc, List.map_append, List.flatMap_append]
      simp
    rw [e1]
    exact h
  · have hc : m = D.length := by have : ¬ (m : Int) < (o.len : Int) := of_decide_eq_false hc
                                 omega
    subst hc
    rw [List.take_length] at h
    exact ⟨hs, h⟩
theorem handed_st {bb : Nat} {bs : Sl} {T : List S3} {n : Nat} (h : St w0 w (bkE bb bs T n :: F)) (hT : T.length ≤ 1000) {o v : Sl} {D E : List Bs} (r1 : SeesG w0 F o 1 (lsl D)) (r2 : SeesG w0 F v 1 (lsl E)) (h1 : D.length ≤ 1000000) (h2 : E.length ≤ 1000000) :
    CallK Try.prog (.tup .nilT) 55 #[.pointer (some ⟨bb, 0, none⟩), .slice o.a o.len o.cap, .slice v.a v.len v.cap] w
    fun (_ : Unit) w' => ∃ bs' s t, St w0 w' (bkE bb bs' (T ++ [(s, t, o)]) n :: [.row 62 5 s ((D.map pk).flatMap sgv)] :: [.row 62 5 t ((E.map pk).flatMap sgv)] :: F) := by
  refine T55.calls ?_
  unfold T55
  refine NilP.mk ?_
  refine h.drew.readB 0 0 ⟨_, rfl, rfl⟩ rfl (kd := .sl) (x := bs) rfl ?_
  refine (packed_st h.drew (sup r1) h1).mono ?_
  intro (s : Sl) w1 ⟨hs, h⟩
  refine ⟨h.stillB 1 0 ⟨_, rfl, rfl⟩ rfl rfl, ?_⟩
  refine (packed_st h (sup (sup r2)) h2).mono ?_
  intro (t : Sl) w2 ⟨ht, h⟩
  refine ⟨h.stillB 2 0 ⟨_, rfl, rfl⟩ rfl rfl, ?_⟩
  have h := h.ord 3 [2, 1, 0]
  dsimp only [pick, nthO, dropO] at h
  exact book_app h hT (s, t, o) fun bs' w' h => ⟨bs', s, t, h⟩
/-- The pool. -/
def plE (pb : Nat) (ps : Sl) (pool : List Sg) : List Ent := [.cel pb 84 [sv ps], .row 62 5 ps (pool.flatMap sgv)]
theorem add_st {pb : Nat} {ps : Sl} {pool : List Sg} (h : St w0 w (plE pb ps pool :: F)) {o : Sl} {gs : List Sg} (r1 : SeesG w0 F o 5 (gs.flatMap sgv)) (hl : gs.length ≤ 1000000) (hp : pool.length ≤ 400) :
    CallK Try.prog (.tup .nilT) 42 #[.pointer (some ⟨pb, 0, none⟩), .slice o.a o.len o.cap] w fun (_ : Unit) w' => ∃ ps' more, (∀ g ∈ more, g ∈ gs) ∧ pool.length + more.length ≤ 400 ∧ St w0 w' (plE pb ps' (pool ++ more) :: F) := by
  have hol := out_len (r1 _ (h.drop 0))
  refine T42.calls ?_
  unfold T42
  refine LoopX.mk (fun st w' => ∃ (m : Nat) (ps' : Sl), st = ((m : Int), ()) ∧ m ≤ gs.length ∧ pool.length + m ≤ 400 ∧ St w0 w' (plE pb ps' (pool ++ gs.take m) :: F)) (fun st => gs.length - st.1.toNat) ⟨0, ps, rfl, Nat.zero_le _, by omega, by rw [List.take_zero, List.append_nil]; exact h⟩ ?_
  clear h
  rintro _ w1 ⟨m, ps1, rfl, hm, hpm, h⟩ k hk
  dsimp only at hk ⊢
  have hl2 : (pool ++ gs.take m).length = pool.length + m := by simp; omega
  have hpl := out_len (h.rd (k := 0) (i := 1) (E := 62) (sz := 5) (s := ps1) (vs := (pool ++ gs.take m).flatMap sgv) ⟨_, rfl, rfl⟩)
  refine JoinX.mk (fun (y : Bool × Unit) w' => y.1 = decide (m < gs.length ∧ pool.length + m < 400) ∧ St w0 w' (plE pb ps1 (pool ++ gs.take m) :: F)) ?_ ?_
  rotate_left
  · intro k5 hk5
    rw [SplitB_iff]
    refine ⟨fun hc => ?_, fun hc => ?_⟩
    · have hc : (m : Int) < (o.len : Int) := of_decide_eq_true hc
      refine NilP.mk ?_
      refine h.loadB 0 0 ⟨_, rfl, rfl⟩ rfl (kd := .sl) (x := ps1) rfl ?_
      refine hk5 _ _ ⟨?_, h⟩
      exact decide_eq_decide.2 ⟨fun h => ⟨by omega, by omega⟩, fun h => by omega⟩
    · have hc : ¬ (m : Int) < (o.len : Int) := of_decide_eq_false hc
      refine hk5 _ _ ⟨?_, h⟩
      symm
      exact decide_eq_false (fun h => by omega)
  clear h
  rintro ⟨y, ⟨⟩⟩ w2 ⟨hy, h⟩
  dsimp only at hy
  subst hy
  rw [SplitB_iff]
  refine ⟨fun hc => ?_, fun hc => ?_⟩
  · have hc : m < gs.length ∧ pool.length + m < 400 := of_decide_eq_true hc
    have hem : IntKind.i64.wrap ((m : Int) + 1) = ((m + 1 : Nat) : Int) := by rw [wr (by omega)]; omega
    rw [hem]
    refine NilP.mk ?_
    refine h.drew.readB 0 0 ⟨_, rfl, rfl⟩ rfl (kd := .sl) (x := ps1) rfl ?_
    have hr := r1 _ (h.drew.drop 0)
    refine hr.idxR m rfl (by omega) ?_
    intro b0 o0 ha
    refine hr.elAR ha (m * 5) rfl (kd := Kds) (sgt gs[m]) (ds := sgv gs[m]) (flat_at sgv_len _ _ hc.1) ?_
    refine h.drew.newS 5 (bs33' _ gs[m]) rfl rfl rfl ?_
    intro u w3 hu1 hu2 _ h
    refine ⟨h.stillB 1 0 ⟨_, rfl, rfl⟩ rfl rfl, ?_⟩
    refine h.app 1 1 (s := ps1) ⟨_, rfl, rfl⟩ (h.rd (k := 0) (i := 0) ⟨_, rfl, rfl⟩) (sgv_one _) (by simp only [maxLen]; omega) (by omega) ?_
    intro ps2 w4 hl4 h
    have h := h.drop 0
    dsimp only [delO, updG, setO, plE] at h
    refine NilP.mk ?_
    refine h.storB 0 0 ⟨_, rfl, rfl⟩ rfl rfl rfl ?_
    intro w5 h
    dsimp only [updG, setO] at h
    refine hk _ _ ⟨m + 1, ps2, rfl, by omega, by omega, ?_⟩ (by dsimp only; omega)
    have e1 : (pool ++ gs.take (m + 1)).flatMap sgv = (pool ++ gs.take m).flatMap sgv ++ sgv gs[m] := by
      rw [List.take_succ_eq_append_getElem hc.1, ← List.append_assoc, List.flatMap_append]
      congr 1
      first | done | simp
    rw [plE, e1]
    exact h
  · exact ⟨ps1, gs.take m, fun g hg => List.mem_of_mem_take hg, by rw [← List.length_append, hl2]; exact hpm, h⟩
end Go.Proofs.Ytodgnpmljdopiaa

/- An end and the book in memory; what an end tells is looked at and written over. -/
namespace Go.Proofs.Ytodgnpmljdopiaa
open Go Go.Fw Go.RowKit
set_option linter.unusedVariables false
set_option linter.unusedSimpArgs false
set_option maxRecDepth 4000
set_option maxHeartbeats 4000000
variable {w0 w : World} {F G : Grps}

instance : Sc Try.prog 28 := ⟨by kernel_rfl⟩
instance : Sc Try.prog 29 := ⟨by kernel_rfl⟩
theorem rowG {g : List Ent} {E : TypeId} {sz : Nat} {s : Sl} {vs : List Value} (k : Nat) (hk : nthO G k = some g) (h : Ent.row E sz s vs ∈ g) : SeesG w0 G s sz vs := fun w hs => ((hs.memG k hk h).1 : Ow w w0.heap.size E sz s vs).rd
/-- One end: the program's link, the document's, the shelf. -/
structure En where
  e : Lm
  r : Rm
  sb : Nat
  ls : Sl
  L : List Bs
  g : List Ent
  xb : Nat
def enG (bb : Nat) (x : En) (F : Grps) : Grps := lmE x.e :: dat x.e.toLk :: ups x.e.ea :: rmE 115 x.r :: rsd x.r.toRl :: rcd x.r.toRl :: shE x.sb x.ls x.L :: x.g :: [endC x.xb x.e x.r.rb x.sb bb] :: F
structure EnI (n : Nat) (x : En) : Prop where
  we : x.e.wf
  lr : LRel x.e.toLk x.r.toRl
  sh : ShI x.L x.g
  cs : ∀ p ∈ x.r.came, p.1 ≤ 1099511627776
  cl : x.r.came.length ≤ n
  sl : x.r.sent.length ≤ n
  Ll : x.L.length ≤ 200 * n
  lens : ∀ b ∈ x.r.sent, b.2.length ≤ 4000
  clens : ∀ p ∈ x.r.came, p.2.2.length ≤ 4000
theorem LRel.rwf {e : Lk} {r : Rl} (h : LRel e r) (hw : e.wf) (f : r.sent.length ≤ 1048576 ∧ r.came.length ≤ 1048576) (lens : ∀ b ∈ r.sent, b.2.length ≤ 4000) (clens : ∀ p ∈ r.came, p.2.2.length ≤ 4000) : r.wf := by
  have h1 := h.win; have h2 := h.res; have h3 := h.gone; have h4 := h.done; have h5 := h.last; have h6 := h.want; have h7 := h.ag
  have w1 := hw.win; have w2 := hw.res; have w3 := hw.gone; have w4 := hw.low; have w5 := hw.want; have w6 := hw.ag
  exact ⟨by omega, by omega, by omega, f, by omega, by omega, lens, clens⟩
theorem EnI.wr {n : Nat} {x : En} (h : EnI n x) (hn : n ≤ 5000) : x.r.wf := h.lr.rwf h.we ⟨by have := h.sl; omega, by have := h.cl; omega⟩ h.lens h.clens
theorem EnI.mono {n m : Nat} {x : En} (h : EnI n x) (hn : n ≤ m) : EnI m x := ⟨h.we, h.lr, h.sh, h.cs, by have := h.cl; omega, by have := h.sl; omega, by have := h.Ll; omega, h.lens, h.clens⟩
/-- An answer that is kept. -/
structure An where
  l : Sl
  want : Sl
  up : Sl
  gl : List Sg
  gw : List Sg
  ul : List Bs
def An.hd (a : An) : S3 := (a.l, a.want, a.up)
def An.lr (a : An) : Ent := .row 62 5 a.l (a.gl.flatMap sgv)
def An.ur (a : An) : Ent := .row 45 1 a.up (lsl a.ul)
def An.ds (a : An) : List Bs := a.gl.map (·.d)
structure Bk where
  bs : Sl
  n : Nat
  A : List An
  H : List Ent
def bkG (bb : Nat) (y : Bk) (F : Grps) : Grps := bkE bb y.bs (y.A.map An.hd) y.n :: y.A.map An.lr :: y.A.map An.ur :: (y.A.flatMap An.ds).map brow :: y.H :: F
structure AnI (w0 : World) (H : List Ent) (a : An) : Prop where
  pl : a.gl.map Sg.pl = a.gw.map Sg.pl
  rw : SeesX w0 H a.want 5 (a.gw.flatMap sgv)
  rd : ∀ g ∈ a.gw, SeesX w0 H g.d.1 1 (bys g.d.2)
  few : a.gl.length ≤ 1000
  ufew : a.ul.length ≤ 1000
  lens : ∀ g ∈ a.gl, g.d.2.length ≤ 4000
  kind : (a.up = ⟨none, 0, 0⟩ ∧ a.ul = []) ∨ a.up.a ≠ none
theorem AnI.more {H m : List Ent} {a : An} (h : AnI w0 H a) : AnI w0 (H ++ m) a := ⟨h.pl, h.rw.more, fun g hg => (h.rd g hg).more, h.few, h.ufew, h.lens, h.kind⟩
structure BkI (w0 : World) (n : Nat) (y : Bk) : Prop where
  few : y.A.length ≤ 120
  nn : y.n ≤ n
  ok : ∀ a ∈ y.A, AnI w0 y.H a
theorem BkI.mono {n m : Nat} {y : Bk} (h : BkI w0 n y) (hn : n ≤ m) : BkI w0 m y := ⟨h.few, Nat.le_trans h.nn hn, h.ok⟩
theorem book_add {bb : Nat} {bs : Sl} {n : Nat} {A : List An} {H h1 : List Ent} {a : An} (h : St w0 w (bkE bb bs (A.map An.hd ++ [a.hd]) n :: [a.lr] :: A.map An.lr :: [a.ur] :: A.map An.ur :: a.ds.map brow :: (A.flatMap An.ds).map brow :: h1 :: H :: F)) :
    St w0 w (bkG bb ⟨bs, n, A ++ [a], H ++ h1⟩ F) := by
  have h := joinAt [_] h
  have h := joinAt [_, _] h
  have h := joinAt [_, _, _] h
  have h := joinAt [_, _, _, _] h
  simp only [List.cons_append, List.nil_append] at h
  have e1 : (A ++ [a]).map An.hd = A.map An.hd ++ [a.hd] := by simp
  have e2 : (A ++ [a]).map An.lr = A.map An.lr ++ [a.lr] := by simp
  have e3 : (A ++ [a]).map An.ur = A.map An.ur ++ [a.ur] := by simp
  have e4 : ((A ++ [a]).flatMap An.ds).map brow = (A.flatMap An.ds).map brow ++ a.ds.map brow := by simp
  rw [bkG]
  simp only [e1, e2, e3, e4]
  exact h
theorem BkI.add {n : Nat} {bs : Sl} {y : Bk} (h : BkI w0 n y) (hf : y.A.length < 120) {a : An} {h1 : List Ent} (ha : AnI w0 (y.H ++ h1) a) : BkI w0 n ⟨bs, y.n, y.A ++ [a], y.H ++ h1⟩ := by
  refine ⟨by simp; omega, h.nn, fun b hb => ?_⟩
  rcases List.mem_append.1 hb with hb | hb
  · exact (h.ok b hb).more
  · simp at hb; subst hb; exact ha
theorem BkI.keep {n : Nat} {y : Bk} (h : BkI w0 n y) (h1 : List Ent) : BkI w0 n { y with H := y.H ++ h1 } := ⟨h.few, h.nn, fun b hb => (h.ok b hb).more⟩
theorem told_st {x : En} {bb : Nat} {o o2 : Sl} {gs gw : List Sg} (h : St w0 w (outE o gs :: outD gs :: shE x.sb x.ls x.L :: x.g :: [endC x.xb x.e x.r.rb x.sb bb] :: F)) (hI : ShI x.L x.g) (r2 : SeesG w0 F o2 5 (gw.flatMap sgv)) (s2 : ∀ g ∈ gw, SeesG w0 F g.d.1 1 (bys g.d.2)) (hg : gs.map Sg.pl = gw.map Sg.pl) (hl : gs.length ≤ 1000) (hlen : ∀ g ∈ gs, g.d.2.length ≤ 4000) (hfew : x.L.length ≤ 900000) :
    CallK Try.prog .bool 46 #[.pointer (some ⟨x.xb, 0, none⟩), .slice o.a o.len o.cap, .slice o2.a o2.len o2.cap] w
    fun (v : Bool) w' => v = true ∧ ∃ ls' L' g', ShI L' g' ∧ L'.length = x.L.length + gs.length ∧ St w0 w' (shE x.sb ls' L' :: g' :: [endC x.xb x.e x.r.rb x.sb bb] :: F) := by
  have hgl : gw.length = gs.length := by have := congrArg List.length hg; simpa using this.symm
  have hol : o.len = gs.length := out_len (h.rd (k := 0) (i := 0) (E := 62) (sz := 5) (s := o) (vs := gs.flatMap sgv) ⟨_, rfl, rfl⟩)
  refine T46.calls ?_
  unfold T46
  refine (all_st h (rowG (E := 62) 0 rfl (by simp [outE])) (sup (sup (sup (sup (sup r2))))) (fun g hg => rowG (E := 5) 1 rfl (List.mem_map.2 ⟨g, hg, rfl⟩)) (fun g hg => sup (sup (sup (sup (sup (s2 g hg)))))) hg (by omega)).mono ?_
  intro (v : Bool) w1 ⟨hv, h⟩
  refine NilP.mk ?_
  refine h.drew.readB 4 0 ⟨_, rfl, rfl⟩ rfl (kd := .ptr) (x := some ⟨x.sb, 0, none⟩) rfl ?_
  refine (datas_st (gs := gs) h.drew (rowG (E := 62) 0 rfl (by simp [outE])) (by omega)).mono ?_
  intro (s : Sl) w2 ⟨hs, h⟩
  refine ⟨h.stillB 5 0 ⟨_, rfl, rfl⟩ rfl rfl, ?_⟩
  have e1 : outD gs = (gs.map (·.d)).map brow := by simp [outD]
  rw [e1] at h
  have h := h.ord 5 [0, 2, 3, 4, 1]
  dsimp only [pick, nthO, dropO] at h
  refine (put_st (D := gs.map (·.d)) h hI (fun b hb => ?_) (by simp; omega)).mono ?_
  · obtain ⟨g, hg, rfl⟩ := List.mem_map.1 hb
    exact hlen g hg
  rintro _ w3 ⟨ls', L', g', hI', hL', h⟩
  rw [List.length_map] at hL'
  have h := h.ord 4 [3, 1, 2]
  dsimp only [pick, nthO, dropO] at h
  have hvl : (gs.flatMap sgv).length = gs.length * 5 := flat_len sgv_len gs
  have h : ∃ vs : List Value, vs.length = gs.length * 5 ∧ St w0 w3 ([.row 62 5 o vs] :: shE x.sb ls' L' :: g' :: [endC x.xb x.e x.r.rb x.sb bb] :: F) := ⟨_, hvl, h⟩
  refine LoopX.mk (fun st w' => ∃ m : Nat, st = ((m : Int), ()) ∧ m ≤ gs.length ∧ ∃ vs : List Value, vs.length = gs.length * 5 ∧ St w0 w' ([.row 62 5 o vs] :: shE x.sb ls' L' :: g' :: [endC x.xb x.e x.r.rb x.sb bb] :: F)) (fun st => gs.length - st.1.toNat) ⟨0, rfl, Nat.zero_le _, h⟩ ?_
  clear h
  rintro _ w4 ⟨m, rfl, hm, vs, hvs, h⟩ k hk
  dsimp only at hk ⊢
  rw [SplitB_iff]
  refine ⟨fun hc => ?_, fun hc => ?_⟩
  · have hc : m < gs.length := by have : (m : Int) < (o.len : Int) := of_decide_eq_true hc
                                  omega
    have hem : IntKind.i64.wrap ((m : Int) + 1) = ((m + 1 : Nat) : Int) := by rw [wr (by omega)]; omega
    rw [hem]
    have hr := h.rd (k := 0) (i := 0) (E := 62) (sz := 5) (s := o) (vs := vs) ⟨_, rfl, rfl⟩
    refine hr.idxK m rfl (by omega) ?_
    intro b0 o0 ha
    refine h.storRA (P := Try.prog) 0 0 ⟨_, rfl, rfl⟩ ha (t' := 62) (n := 5) (m * 5) rfl (ds := [.int .i64 0, .int .i64 0, .int .i64 (IntKind.i64.wrap ((-1) - (m : Int))), .int .i64 0, .slice none 0 0]) (by omega) rfl (by decide) rfl ?_
    intro w5 h
    dsimp only [updG, setO] at h
    refine hk _ _ ⟨m + 1, rfl, by omega, _, ?_, h⟩ (by dsimp only; omega)
    simp; omega
  · have hc : m = gs.length := by have : ¬ (m : Int) < (o.len : Int) := of_decide_eq_false hc
                                  omega
    subst hc
    refine LoopX.mk (fun st w' => ∃ (m : Nat) (s : Sl), st = (s, (m : Int), ()) ∧ m ≤ 40 ∧ s.len = gs.length + m ∧ ∃ vs : List Value, St w0 w' ([.row 62 5 s vs] :: shE x.sb ls' L' :: g' :: [endC x.xb x.e x.r.rb x.sb bb] :: F)) (fun st => 40 - st.2.1.toNat) ⟨0, o, rfl, Nat.zero_le _, hol, vs, h⟩ ?_
    clear h
    rintro _ w5 ⟨m, s2, rfl, hm, hsl, vs2, h⟩ k4 hk4
    dsimp only at hk4 ⊢
    rw [SplitB_iff]
    refine ⟨fun hc => ?_, fun hc => ?_⟩
    · have hc : m < 40 := by have : (m : Int) < 40 := of_decide_eq_true hc
                             omega
      have hem : IntKind.i64.wrap ((m : Int) + 1) = ((m + 1 : Nat) : Int) := by rw [wr (by omega)]; omega
      rw [hem]
      refine h.newS 5 (bs33 _ 0 0 (-99) 0 none 0 0) rfl rfl rfl ?_
      intro u w6 hu1 hu2 _ h
      refine h.app 1 0 ⟨_, rfl, rfl⟩ (h.rd (k := 0) (i := 0) ⟨_, rfl, rfl⟩) (fun v hv => by simp at hv; rcases hv with rfl | rfl | rfl | rfl | rfl <;> rfl) (by simp only [maxLen]; omega) (by omega) ?_
      intro s3 w7 hl3 h
      have h := h.drop 0
      dsimp only [delO, updG, setO] at h
      exact hk4 _ _ ⟨m + 1, s3, rfl, by omega, by omega, _, h⟩ (by dsimp only; omega)
    · have hc : m = 40 := by have : ¬ (m : Int) < 40 := of_decide_eq_false hc
                             omega
      subst hc
      have h2l : (o2.len : Int) = (gs.length : Int) := by
        have := out_len (r2 _ ((((h.drop 0).drop 0).drop 0).drop 0)); omega
      rw [SplitB_iff]
      refine ⟨fun _ => ?_, fun hf => by rw [hv] at hf; cases hf⟩
      refine ⟨?_, ls', L', g', hI', hL', h.drop 0⟩
      rw [wr (by omega)]
      simp; omega
end Go.Proofs.Ytodgnpmljdopiaa

/- A segment comes, at both; it comes once more. -/
namespace Go.Proofs.Ytodgnpmljdopiaa
open Go Go.Fw Go.RowKit
set_option linter.unusedVariables false
set_option linter.unusedSimpArgs false
set_option maxRecDepth 4000
set_option maxHeartbeats 4000000
variable {w0 w : World} {F G : Grps}

/-- What has come is news no more. -/
theorem took_old {e : Lm} {g g2 : Sg} {u l : List Ea} (ht : TakeR e.toLk g u l) (hs : g2.seq = g.seq) (us : Sl) (mc : Nat) : ¬ (e.took g us mc u.length l).toLk.news g2 := by
  rintro ⟨h1, q2, q3, q4⟩
  have h2 : ∀ x ∈ l, x.1.1 ≠ g2.seq := q2
  have h3 : e.want + (u.length : Int) ≤ g2.seq := q3
  have h4 : g2.seq < e.want + (u.length : Int) + e.win := q4
  clear q2 q3 q4
  by_cases hn : e.news g
  · obtain ⟨s, c, hp, hk, hl⟩ := ht.yes hn
    have hm : ((g.seq, s, g.d.2), c) ∈ u ++ l := hp.mem_iff.1 (by simp)
    rcases List.mem_append.1 hm with hm | hm
    · obtain ⟨i, hi, he⟩ := List.mem_iff_getElem.1 hm
      have := hk i hi
      rw [he] at this
      have : g.seq = e.want + i := this
      omega
    · exact h2 _ hm hs.symm
  · obtain ⟨rfl, rfl⟩ := ht.no hn
    simp only [List.length_nil] at h3 h4
    exact hn ⟨by rw [← hs]; exact h1, by rw [← hs]; exact h2, by omega, by omega⟩
theorem fits_like {e : Lk} {g g2 : Sg} (h1 : g2.fr = g.fr) (h2 : g2.to = g.to) (h3 : g2.seq = g.seq) (h4 : g2.ack = g.ack) (h5 : g2.d.2.length = g.d.2.length) : e.fits g2 = e.fits g := by
  rw [Lk.fits, Lk.fits, h1, h2, h3, h4, h5]
theorem LRel.e' {e e2 : Lk} {r : Rl} (h : LRel e r) (he : e2 = e) : LRel e2 r := he ▸ h
/-- What comes again is answered alike, and nothing goes up. -/
theorem again_st {n bb : Nat} {x : En} {c6 : Ent} {t : Sl} {l' : List UInt8} {g : Sg} (h : St w0 w ([brow (t, l')] :: [c6] :: enG bb x F)) (hI : EnI n x) (hn : n ≤ 5000) (hp : SeesX w0 [brow (t, l')] g.d.1 1 (bys g.d.2)) (hl : g.d.2.length ≤ 140737488351232) (hno : x.e.fits g = true → ¬ x.e.toLk.news g) :
    CallK Try.prog .bool 57 #[.pointer (some ⟨x.xb, 0, none⟩), .agg #[.int .i64 g.fr, .int .i64 g.to, .int .i64 g.seq, .int .i64 g.ack, .slice g.d.1.a g.d.1.len g.d.1.cap]] w
    fun (v : Bool) w' => v = true ∧ ∃ e' r', e'.cb = x.e.cb ∧ r'.rb = x.r.rb ∧ EnI n { x with e := e', r := r' } ∧ St w0 w' (enG bb { x with e := e', r := r' } F) := by
  have hdl : g.d.1.len = g.d.2.length := (hp _ _ h).bys_len
  refine T57.calls (p1 := sgt g) ?_
  unfold T57
  refine h.newB run_boxA rfl ?_
  intro c3 w1 h
  have h : St w0 w1 ([.cel c3 62 (sgv g)] :: [brow (t, l')] :: [c6] :: enG bb x F) := h
  refine h.loadB 0 0 ⟨_, rfl, rfl⟩ rfl (kd := .sl) (x := g.d.1) rfl ?_
  refine (lend_st h (hp.at 1 rfl) hl).mono ?_
  intro t2 w2 ⟨ht2, h⟩
  refine NilP.mk ?_
  refine h.drew.readB 12 0 ⟨_, rfl, rfl⟩ rfl (kd := .ptr) (x := x.e.p) rfl ?_
  refine ReadN.of (kd := Kds) (x := sgt g) (h.drew.run_loadA (k := 1) (i := 0) (b := c3) (t := 62) (cs := sgv g) ⟨_, rfl, rfl⟩ (t' := 62) (n := 5) (j := 0) rfl (vs := sgv g) rfl rfl) ?_
  have h := h.drew.ord 7 [4, 5, 6, 0, 1, 2, 3]
  dsimp only [enG, pick, nthO, dropO] at h
  refine (take_st (e := x.e) h hI.we (g := g) (hp.at 2 rfl) (by omega)).mono ?_
  rintro ⟨up, er, ⟨⟩⟩ w3 hT
  have hU : ∃ (e' : Lm) (u : List Ea), e'.cb = x.e.cb ∧ e'.wf ∧ up.len = 0 ∧ u = [] ∧ (x.e.fits g = false ∧ er = 31 ∧ e' = x.e ∨ x.e.fits g = true ∧ er = 0 ∧ ∃ us mc, TakeR x.e.toLk g [] x.e.ea ∧ e' = x.e.took g us mc 0 x.e.ea) ∧
      St w0 w3 (lmE e' :: dat e'.toLk :: ups e'.ea :: [brow (t2, g.d.2 ++ mks)] :: [.cel c3 62 (sgv g)] :: [brow (t, l')] :: [c6] :: rmE 115 x.r :: rsd x.r.toRl :: rcd x.r.toRl :: shE x.sb x.ls x.L :: x.g :: [endC x.xb x.e x.r.rb x.sb bb] :: F) := by
    rcases hT with ⟨hf, hv, h⟩ | ⟨hf, hv, us, mc, u, l, ht, hul, h⟩
    · have e1 : up = ⟨none, 0, 0⟩ := congrArg (·.1) hv
      have e2 : er = 31 := congrArg (·.2.1) hv
      exact ⟨x.e, [], rfl, hI.we, by rw [e1], rfl, .inl ⟨hf, e2, rfl⟩, h⟩
    · obtain ⟨rfl, rfl⟩ := ht.no (hno hf)
      have hwf := took_wf hI.we hf ht us mc
      have h := h.ord 5 [0, 1, 2]
      dsimp only [pick, nthO, dropO] at h
      exact ⟨x.e.took g us mc 0 x.e.ea, [], rfl, hwf, by rw [hul]; rfl, rfl, .inr ⟨hf, hv, us, mc, ht, rfl⟩, h⟩
  clear hT h
  obtain ⟨e', u, hcb, hwf', hup0, rfl, hcase, h⟩ := hU
  dsimp only
  refine h.loadB 4 0 ⟨_, rfl, rfl⟩ rfl (kd := .sl) (x := g.d.1) rfl ?_
  refine RunN.sH g.d.2.length (by rw [hdl]) (by have := (h.rd (k := 3) (i := 0) (E := 5) (sz := 1) (s := t2) (vs := bys (g.d.2 ++ mks)) ⟨_, rfl, rfl⟩).2.2; omega) ?_
  refine h.storB 4 0 ⟨_, rfl, rfl⟩ rfl rfl rfl ?_
  intro w4 h
  let g' : Sg := { g with d := (subS t2 0 g.d.2.length 1, g.d.2) }
  have h : St w0 w4 (lmE e' :: dat e'.toLk :: ups e'.ea :: [brow (t2, g.d.2 ++ mks)] :: [.cel c3 62 (sgv g')] :: [brow (t, l')] :: [c6] :: rmE 115 x.r :: rsd x.r.toRl :: rcd x.r.toRl :: shE x.sb x.ls x.L :: x.g :: [endC x.xb x.e x.r.rb x.sb bb] :: F) := h
  refine NilP.mk ?_
  refine h.drew.readB 12 0 ⟨_, rfl, rfl⟩ rfl (kd := .ptr) (x := some ⟨x.r.rb, 0, none⟩) rfl ?_
  refine ReadN.of (kd := Kds) (x := sgt g') (h.drew.run_loadA (k := 4) (i := 0) (b := c3) (t := 62) (cs := sgv g') ⟨_, rfl, rfl⟩ (t' := 62) (n := 5) (j := 0) rfl (vs := sgv g') rfl rfl) ?_
  have h := h.drew.ord 10 [7, 9, 3, 0, 1, 2, 8]
  dsimp only [pick, nthO, dropO] at h
  refine (rtake_st (r := x.r) h (hI.wr hn) hI.cs (by have := hI.cl; omega) (g := g') (lent_sees ht2)).mono ?_
  rintro ⟨v, f, ⟨⟩⟩ w5 hT
  have hlr := hI.lr
  have hfr : x.r.fits g' = x.e.fits g := by
    have h1 : x.e.fits g' = x.r.fits g' := hlr.fits g'
    rw [← h1]; exact fits_like rfl rfl rfl rfl rfl
  have hV : ∃ r' : Rm, r'.rb = x.r.rb ∧ r'.sent = x.r.sent ∧ r'.came = x.r.came ∧ v.len = 0 ∧ er = f ∧ LRel e'.toLk r'.toRl ∧
      St w0 w5 (rmE 115 r' :: rcd r'.toRl :: [brow (t2, g.d.2 ++ mks)] :: lmE e' :: dat e'.toLk :: ups e'.ea :: rsd x.r.toRl :: shE x.sb x.ls x.L :: x.g :: [endC x.xb x.e x.r.rb x.sb bb] :: F) := by
    rcases hT with ⟨hf, hv, h⟩ | ⟨hf, hv, cs, c, u, ht, hul, h⟩
    · rcases hcase with ⟨hf1, he, rfl⟩ | ⟨hf1, _⟩
      · have e1 : v = ⟨none, 0, 0⟩ := congrArg (·.1) hv
        have e2 : f = 31 := congrArg (·.2.1) hv
        exact ⟨x.r, rfl, rfl, rfl, by rw [e1], by rw [he, e2], hlr, h⟩
      · rw [hfr, hf1] at hf; cases hf
    · rcases hcase with ⟨hf1, he, rfl⟩ | ⟨hf1, he, us, mc, ht1, rfl⟩
      · rw [hfr, hf1] at hf; cases hf
      · have hnr : ¬ x.r.toRl.news g' := fun hh => hno hf1 ((hlr.news g).2 hh)
        have ht2 := ht.no hnr
        have hlt := hlr.take hI.we (g := g') (by rw [← hf1]; exact fits_like rfl rfl rfl rfl rfl) (u := []) (l := x.e.ea) ⟨fun hh => absurd hh (hno hf1), fun _ => ⟨rfl, rfl⟩⟩ ht us mc cs
        obtain ⟨rfl, rfl⟩ := ht2
        have h := h.ord 4 [0, 1]
        dsimp only [pick, nthO, dropO] at h
        exact ⟨x.r.took g' cs x.r.came 0, rfl, rfl, rfl, by rw [hul]; rfl, by rw [he]; exact hv.symm, hlt.2, h⟩
  clear hT h
  obtain ⟨r', hrb, hrs, hrc, hv0, hef, hlr', h⟩ := hV
  have hfin : v.len = 0 → ∃ e' r', e'.cb = x.e.cb ∧ r'.rb = x.r.rb ∧ EnI n { x with e := e', r := r' } ∧ St w0 w5 (enG bb { x with e := e', r := r' } F) := fun _ => by
    have h := h.ord 10 [3, 4, 5, 0, 6, 1, 7, 8, 9]
    dsimp only [pick, nthO, dropO] at h
    have e1 : rsd x.r.toRl = rsd r'.toRl := by rw [rsd, rsd, hrs]
    have e2 : endC x.xb x.e x.r.rb x.sb bb = endC x.xb e' r'.rb x.sb bb := by rw [endC, endC, Lm.p, Lm.p, hcb, hrb]
    rw [e1, e2] at h
    refine ⟨e', r', hcb, hrb, ⟨hwf', hlr', hI.sh, ?_, ?_, ?_, hI.Ll, ?_, ?_⟩, h⟩
    · show ∀ p ∈ r'.came, _
      rw [hrc]; exact hI.cs
    · show r'.came.length ≤ n
      rw [hrc]; exact hI.cl
    · show r'.sent.length ≤ n
      rw [hrs]; exact hI.sl
    · show ∀ b ∈ r'.sent, _
      rw [hrs]; exact hI.lens
    · show ∀ p ∈ r'.came, _
      rw [hrc]; exact hI.clens
  dsimp only
  rw [SplitB_iff]
  refine ⟨fun _ => ?_, fun hf => ?_⟩
  · rw [SplitB_iff]
    refine ⟨fun _ => ?_, fun hf => ?_⟩
    · exact ⟨by rw [hv0]; rfl, hfin hv0⟩
    · rw [hup0] at hf; simp at hf
  · rw [hef] at hf; simp at hf
end Go.Proofs.Ytodgnpmljdopiaa
