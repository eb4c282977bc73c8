/- Arrays: a place of one, one as a slice; copies into a piece of any type. -/
import Derived.Test.YtodgnpmljdopiaaFwU
set_option linter.unusedVariables false
set_option linter.unusedSimpArgs false
namespace Go.Fw
open Go Go.RowKit
class Ar (P : Program) (t : TypeId) (n : outParam Nat) : Prop where
  h : ∃ e i, P.underlying t = some (.array n e) ∧ P.info? e = some i ∧ i.size = 1
section
variable {P : Program} {w0 w w' : World} {G : Grps}
theorem Ar.of {t n e : Nat} (h : P.underlying t = some (.array n e)) (h1 : (P.info? e).map (·.size) = some 1) : Ar P t n := by
  cases hi : P.info? e with
  | none => simp [hi] at h1
  | some i => exact ⟨e, i, h, hi, by simpa [hi] using h1⟩
theorem run_arr {t n : Nat} [ar : Ar P t n] {a : Addr} {g o : Nat} (ha : a = ⟨g, o, none⟩) {k : IntKind} {i : Int} (j : Nat) (hj : i = (j : Int)) (hn : j < n) :
    (Instr.indexAt t (.pointer (some a)) (.int k i)).run P w = .ok (.pointer (some ⟨g, o + j, none⟩)) w := by
  subst hj; subst ha
  obtain ⟨e, inf, hu, hi, hs⟩ := ar.h
  have h0 : (0 : Int) ≤ (j : Int) := by omega
  have h1 : (j : Int) < (n : Int) := by omega
  simp [Instr.indexAt, asIntOf, run_underlying hu, Instr.sureAddr, h0, h1, hn, sizeOf, typeInfo, hi, hs, add_lit']
theorem RunN.arr {t n : Nat} [ar : Ar P t n] {a : Addr} {g o : Nat} (ha : a = ⟨g, o, none⟩) {k : IntKind} {i : Int} (j : Nat) (hj : i = (j : Int)) (hn : j < n) {K : Addr → World → Prop} (hk : K ⟨g, o + j, none⟩ w) :
    RunN P .addr (V (Instr.indexAt t (.pointer (some a)) (.int k i))) w K := RunN.of (kd := .addr) (run_arr ha j hj hn) hk
theorem ReadN.arr {t n : Nat} [ar : Ar P t n] {a : Addr} {g o : Nat} (ha : a = ⟨g, o, none⟩) {k : IntKind} {i : Int} (j : Nat) (hj : i = (j : Int)) (hn : j < n) {K : Addr → Prop} (hk : K ⟨g, o + j, none⟩) :
    ReadN P .addr (V (Instr.indexAt t (.pointer (some a)) (.int k i))) w K := ReadN.of (kd := .addr) (run_arr ha j hj hn) hk
theorem run_arrS {t n : Nat} [ar : Ar P t n] {a : Addr} {g o : Nat} (ha : a = ⟨g, o, none⟩) :
    (Instr.sliceAt t (.pointer (some a)) none none none).run P w = .ok (.slice (some ⟨g, o, none⟩) n n) w := by
  subst ha
  obtain ⟨e, inf, hu, hi, hs⟩ := ar.h
  simp [Instr.sliceAt, Instr.sureAddr, run_underlying hu, Instr.sliceBounds, sliced, sizeOf, typeInfo, hi, hs, add_lit']
theorem RunN.arrS {t n : Nat} [ar : Ar P t n] {a : Addr} {g o : Nat} (ha : a = ⟨g, o, none⟩) {K : Sl → World → Prop} (hk : K ⟨some ⟨g, o, none⟩, n, n⟩ w) :
    RunN P .sl (V (Instr.sliceAt t (.pointer (some a)) none none none)) w K := RunN.of (kd := .sl) (x := ⟨some ⟨g, o, none⟩, n, n⟩) (run_arrS ha) hk

/-- A block of cells as a row. -/
theorem St.celRow {b : Nat} {t : TypeId} {cs : List Value} (h : St w0 w ([.cel b t cs] :: G)) {n : Nat} (hn : cs.length = n) (hm : n ≤ maxLen) : St w0 w ([.row t 1 ⟨some ⟨b, 0, none⟩, n, n⟩ cs] :: G) := by
  have he := h.ent (k := 0) (i := 0) ⟨_, rfl, rfl⟩
  have := h.change1 (k := 0) (i := 0) (e' := .row t 1 ⟨some ⟨b, 0, none⟩, n, n⟩ cs) ⟨_, rfl, rfl⟩ (Upd.refl _ _) ⟨⟨by simp [hn], .inr ⟨b, 0, cs, rfl, he.1.1, he.1.2, Nat.le_refl _, hm, by dsimp only; omega, by dsimp only; rw [List.drop_zero, Nat.mul_one, ← hn, List.take_length]⟩⟩, he.2⟩ fun j hj => .inl (by simpa [Ent.blk, Sl.blk] using hj)
  exact this

theorem run_copyOwE {base : Nat} {t ts ty e E : TypeId} {sz by_ : Nat} (et : ET P t e sz by_) (ets : (P.underlying ts).isSome = true) (hsz : 0 < sz) {s : Sl} {vs : List Value} (ho : Ow w base E sz s vs) {i dl dc : Nat} {da : Option Addr}
    (hda : ∀ g o, s.a = some ⟨g, o, none⟩ → 0 < dl → da = some ⟨g, o + i * sz, none⟩) (hdl : i + dl ≤ s.len) {src : Sl} {ws : List Value} (hr : Rd w src sz ws) (h1 : ∀ v ∈ ws, v.oneCell' = true) :
    ∃ w', (Builtin.copy_ #[t, ts] ty #[.slice da dl dc, .slice src.a src.len src.cap]).run P w = .ok (.int .i64 (Nat.min src.len dl : Nat)) w' ∧
      Ow w' base E sz s (vs.take (i * sz) ++ ws.take (Nat.min src.len dl * sz) ++ vs.drop ((i + Nat.min src.len dl) * sz)) ∧ Upd w w' (fun k => s.blk = some k) := by
  obtain ⟨j, z, hi, hz, h2, h3, h4⟩ := et.hi
  have hmin1 : Nat.min src.len dl ≤ src.len := Nat.min_le_left _ _
  have hmin2 : Nat.min src.len dl ≤ dl := Nat.min_le_right _ _
  generalize hn : Nat.min src.len dl = n at *
  have hgo : goInt n = (.int .i64 (n : Int) : Value) := rfl
  by_cases h0 : n = 0
  · subst h0
    refine ⟨w, ?_, ?_, Upd.refl _ _⟩
    · have hfc : (Builtin.firstCells sz 0 (.slice src.a src.len src.cap)).run P w = .ok #[] w := by
        cases src.a <;> simp [Builtin.firstCells, loadCells, loadCellsFrom]
      cases da <;> simp [Builtin.copy_, run_underlying et.ht, Builtin.lenOf, sizeOf, typeInfo, hi, h2, hn, hfc, storeCells] <;> rfl
    · simp only [Nat.zero_mul, List.take_zero, List.append_nil, Nat.add_zero, List.take_append_drop]; exact ho
  · have hpos : 0 < n * sz := Nat.mul_pos (by omega) hsz
    obtain ⟨b, o, ha, hl⟩ := hr.loads (P := P) (n := n) (by omega) hpos
    have hlw : (ws.take (n * sz)).length = n * sz := by
      have h5 := hr.1
      have h6 : n * sz ≤ src.len * sz := Nat.mul_le_mul_right _ hmin1
      simp; omega
    have hlv := ho.1
    have hfit : (i + n) * sz ≤ s.len * sz := Nat.mul_le_mul_right _ (by omega)
    rw [Nat.add_mul] at hfit
    obtain ⟨g, o', hsa, hblk, w', hst, how, hup⟩ := ho.write (P := P) (i := i * sz) (news := ws.take (n * sz)) (by omega) (by intro e; rw [e] at hlw; simp at hlw; omega) (fun v hv => h1 v (List.mem_of_mem_take hv))
    have hd := hda g o' hsa (by omega)
    refine ⟨w', ?_, ?_, hup.mono fun k _ hk => by rw [hblk, hk]⟩
    · rw [hd, ha]
      simp [Builtin.copy_, run_underlying et.ht, Builtin.lenOf, Builtin.firstCells, sizeOf, typeInfo, hi, h2, hn, hl, hst, hgo]
    · rw [hlw, ← Nat.add_mul] at how; exact how
/-- Copy into a part of an owned piece, whatever it was made as. -/
theorem St.copyE (h : St w0 w G) (k i : Nat) {e E : TypeId} {sz by_ : Nat} {s : Sl} {vs : List Value} (he : Has G k i (.row E sz s vs)) {t ts ty : TypeId} [et : Et P t e sz by_] {e2 : TypeId} {sz2 b2 : Nat} [et2 : Et P ts e2 sz2 b2] {da : Option Addr} {dl dc : Nat} (lo : Nat)
    (hda : ∀ b o, s.a = some ⟨b, o, none⟩ → 0 < dl → da = some ⟨b, o + lo * sz, none⟩) (hdl : lo + dl ≤ s.len) {p : Sl} {ws : List Value} (hr : Rd w p sz ws) (h1 : ∀ v ∈ ws, v.oneCell' = true) {K : Int → World → Prop}
    (hk : ∀ w', St w0 w' (updG G k i [.row E sz s (vs.take (lo * sz) ++ ws.take (Nat.min p.len dl * sz) ++ vs.drop ((lo + Nat.min p.len dl) * sz))]) → K (Nat.min p.len dl : Nat) w') :
    RunN P (.int .i64) (V (Builtin.copy_ #[t, ts] ty #[.slice da dl dc, .slice p.a p.len p.cap])) w K := by
  obtain ⟨w', hr', ho, hu⟩ := run_copyOwE (P := P) (ts := ts) (ty := ty) (da := da) (dc := dc) et.h (by simp [et2.h.ht]) et.pos (h.ow he) hda hdl hr h1
  refine RunN.of (kd := .int .i64) hr' (hk w' (h.change1 he hu ⟨ho, fun v hv => ?_⟩ fun j hj => .inl hj))
  simp only [Ent.vals] at hv
  rcases List.mem_append.1 hv with hv | hv
  · rcases List.mem_append.1 hv with hv | hv
    · exact h.one1 he v (List.mem_of_mem_take hv)
    · exact h1 v (List.mem_of_mem_take hv)
  · exact h.one1 he v (List.mem_of_mem_drop hv)
/-- A new piece takes another one's place in the first group behind it. -/
theorem St.plug {e d : Ent} {g : List Ent} (h : St w0 w ([e] :: g :: G)) {i : Nat} (hi : nthO g i = some d) : St w0 w (setO g i e :: G) := by
  have h : St w0 w ([d] :: setO g i e :: G) := h.perm (by
    have p1 := nthO_perm hi
    have p2 := setO_perm e hi
    simp only [List.flatten_cons, List.cons_append, List.nil_append]
    refine (List.Perm.cons e (p1.append_right _)).trans ?_
    refine (List.Perm.swap _ _ _).trans (List.Perm.cons d ?_)
    exact (p2.append_right _).symm)
  exact h.drop 0
end
end Go.Fw
