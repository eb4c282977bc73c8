/- Words and steps, part 5: Rows of any one-cell values that grow. Arrays: a place of one, one as a slice; copies into a piece of any type. Groups in another order, some of them left; a loop's measure that looks at memory. Maps with keys of two numbers; structs of numbers compared. Steps on structs of two and of six numbers, on channels. The epoch's machine in memory: types, places. The epoch's machine: what lives. Rows of pieces that grow. The epoch's machine: the target, the reports, what is to be done. -/
import Derived.WideKeyRuns
import Derived.Laws.StructEq
import Derived.Conc.SmallLaws
import Derived.Test.YtmfbmfppjdkeeaaEgQ4
/- Rows of any one-cell values that grow. -/
set_option linter.unusedVariables false
set_option linter.unusedSimpArgs false
namespace Go.Fw
open Go Go.RowKit
variable {w0 w : World} {G : Grps}
/-- A row that grows from its old one: it holds it as its beginning, or the old one is left. -/
def GrowV (E : TypeId) (w0 w : World) (q : Sl) (v : List Value) (d : Sl) (e : List Value) (G : Grps) : Prop :=
  q.len = v.length ∧ d.len = v.length + e.length ∧ (d.a = q.a ∧ d.cap = q.cap ∧ St w0 w ([.row E 1 d (v ++ e)] :: G) ∨ St w0 w ([.row E 1 d (v ++ e), .row E 1 q v] :: G))
theorem GrowV.start {E : TypeId} {q : Sl} {v : List Value} {G : Grps} (h : St w0 w ([.row E 1 q v] :: G)) : GrowV E w0 w q v q [] G := by
  have hl := (h.rd (k := 0) (i := 0) ⟨_, rfl, rfl⟩).1
  exact ⟨by omega, by simp; omega, .inl ⟨rfl, rfl, by simpa using h⟩⟩
theorem GrowV.app {P : Program} {t E by_ : Nat} [et : Et P t E 1 by_] (x : Value) (hx : x.oneCell' = true) {s0 : Sem Value} (hbs : ∀ (w : World), s0.run P w = .ok (.slice (some ⟨w.heap.size, 0, none⟩) 1 1) (w.alloc (.cells ⟨[x]⟩ E)))
    {q : Sl} {v : List Value} {d : Sl} {e : List Value} {G : Grps} (hg : GrowV E w0 w q v d e G) (hl : (v.length + e.length + 1) * by_ ≤ 140737488355328) (hl2 : v.length + e.length ≤ 1048576000) {ty : TypeId} {K : Sl → World → Prop}
    (hk : ∀ d' w', GrowV E w0 w' q v d' (e ++ [x]) G → K d' w') :
    RunN P .sl (V s0) w fun u w =>
      RunN P .sl (V (Builtin.append_ #[t, t] ty #[.slice d.a d.len d.cap, .slice u.a u.len u.cap])) w fun u' w => K u' w := by
  obtain ⟨hql, hdl, hc⟩ := hg
  have hone : ∀ y ∈ [x], y.oneCell' = true := fun y hy => by simp at hy; subst hy; exact hx
  have ebb : (v ++ e) ++ [x] = v ++ (e ++ [x]) := by rw [List.append_assoc]
  rcases hc with ⟨ha, hcap, h⟩ | h
  · refine h.newS 1 (hbs _) rfl rfl (by simp [hx]) ?_
    intro u w hl1 hc1 _ h
    refine h.appKeep 1 0 ⟨_, rfl, rfl⟩ (h.rd (k := 0) (i := 0) ⟨_, rfl, rfl⟩) hone (by simp only [maxLen]; omega) (by rw [hdl, hl1]; exact hl) ?_
    intro d' w hl' hd
    rw [ebb] at hd
    refine hk d' w ⟨hql, by simp; omega, ?_⟩
    rcases hd with ⟨ha', hc', h⟩ | h
    · dsimp only [updG, setO] at h
      exact .inl ⟨ha'.trans ha, hc'.trans hcap, h.drop 0⟩
    · dsimp only [updG, delO, List.append_nil] at h
      have h := h.drop 0
      dsimp only [delO] at h
      have hrd := h.preR (k := 0) (i := 1) ⟨_, rfl, rfl⟩ (hi := v.length) (by omega)
      dsimp only [updG, setO] at hrd
      right
      have e1 : (v ++ e).take (v.length * 1) = v := by rw [Nat.mul_one, List.take_append_of_le_length (by simp), List.take_of_length_le (by simp)]
      have e2 : subS d 0 v.length 1 = q := by
        rw [subS_zero, ha, hcap, ← hql]
      rw [e1, e2] at hrd
      exact hrd
  · refine h.newS 1 (hbs _) rfl rfl (by simp [hx]) ?_
    intro u w hl1 hc1 _ h
    refine h.app 1 0 ⟨_, rfl, rfl⟩ (h.rd (k := 0) (i := 0) ⟨_, rfl, rfl⟩) hone (by simp only [maxLen]; omega) (by rw [hdl, hl1]; exact hl) ?_
    intro d' w hl' h
    dsimp only [updG, setO] at h
    rw [ebb] at h
    exact hk d' w ⟨hql, by simp; omega, .inr (h.drop 0)⟩
/-- One that has grown: what it was is its beginning, or is left where it is. -/
def FarV (E : TypeId) (x y : Sl × List Value) (g : List Ent) : Prop :=
  (∃ e, y.2 = x.2 ++ e) ∧ x.1.len = x.2.length ∧ y.1.len = y.2.length ∧ x.1.len ≤ x.1.cap ∧ (g = [.row E 1 y.1 y.2] ∧ y.1.a = x.1.a ∨ g = [.row E 1 y.1 y.2, .row E 1 x.1 x.2])
theorem FarV.reads {E : TypeId} {x y : Sl × List Value} {g : List Ent} (hf : FarV E x y g) (h : St w0 w G) {k : Nat} {gs : List Ent} (hk : nthO G k = some gs) (hg : ∀ e ∈ g, e ∈ gs) : Rd w y.1 1 y.2 ∧ Rd w x.1 1 x.2 := by
  obtain ⟨⟨e, h1⟩, h2, h3, h4, h5⟩ := hf
  have hy : Rd w y.1 1 y.2 := by
    have : Ent.row E 1 y.1 y.2 ∈ gs := hg _ (by rcases h5 with ⟨h5, _⟩ | h5 <;> rw [h5] <;> simp)
    exact (h.memG k hk this).1.rd
  refine ⟨hy, ?_⟩
  rcases h5 with ⟨h5, ha⟩ | h5
  · have hp := hy.pre (hi := x.1.len) (by rw [h3, h1, List.length_append]; omega)
    rw [subS_zero] at hp
    refine ⟨by rw [h2]; simp, ?_, h4⟩
    have e : y.2.take (x.1.len * 1) = x.2 := by rw [h1, h2, Nat.mul_one, List.take_append_of_le_length (by simp), List.take_of_length_le (by simp)]
    rw [e] at hp
    rcases hp.2.1 with h0 | ⟨b, o, hb, hc⟩
    · exact .inl h0
    · exact .inr ⟨b, o, by rw [← ha]; exact hb, hc⟩
  · have : Ent.row E 1 x.1 x.2 ∈ gs := hg _ (by rw [h5]; simp)
    exact (h.memG k hk this).1.rd
theorem GrowV.far {E : TypeId} {q : Sl} {v : List Value} {d : Sl} {e : List Value} (hg : GrowV E w0 w q v d e G) (hc : q.len ≤ q.cap) : ∃ g, FarV E (q, v) (d, v ++ e) g ∧ St w0 w (g :: G) := by
  obtain ⟨h1, h2, h3⟩ := hg
  rcases h3 with ⟨ha, hcap, h⟩ | h
  · exact ⟨_, ⟨⟨e, rfl⟩, h1, by dsimp only; rw [h2]; simp, hc, .inl ⟨rfl, ha⟩⟩, h⟩
  · exact ⟨_, ⟨⟨e, rfl⟩, h1, by dsimp only; rw [h2]; simp, hc, .inr rfl⟩, h⟩
end Go.Fw

/- Arrays: a place of one, one as a slice; copies into a piece of any type. -/
set_option linter.unusedVariables false
set_option linter.unusedSimpArgs false
namespace Go.Fw
open Go Go.RowKit
class Ar (P : Program) (t : TypeId) (n : outParam Nat) : Prop where
  h : ∃ e i, P.underlying t = some (.array n e) ∧ P.info? e = some i ∧ i.size = 1
section
variable {P : Program} {w0 w w' : World} {G : Grps}
theorem Ar.of {t n e : Nat} (h : P.underlying t = some (.array n e)) (h1 : (P.info? e).map (·.size) = some 1) : Ar P t n := by
  cases hi : P.info? e with
  | none => simp [hi] at h1
  | some i => exact ⟨e, i, h, hi, by simpa [hi] using h1⟩
theorem run_arr {t n : Nat} [ar : Ar P t n] {a : Addr} {g o : Nat} (ha : a = ⟨g, o, none⟩) {k : IntKind} {i : Int} (j : Nat) (hj : i = (j : Int)) (hn : j < n) :
    (Instr.indexAt t (.pointer (some a)) (.int k i)).run P w = .ok (.pointer (some ⟨g, o + j, none⟩)) w := by
  subst hj; subst ha
  obtain ⟨e, inf, hu, hi, hs⟩ := ar.h
  have h0 : (0 : Int) ≤ (j : Int) := by omega
  have h1 : (j : Int) < (n : Int) := by omega
  simp [Instr.indexAt, asIntOf, run_underlying hu, Instr.sureAddr, h0, h1, hn, sizeOf, typeInfo, hi, hs, add_lit']
theorem RunN.arr {t n : Nat} [ar : Ar P t n] {a : Addr} {g o : Nat} (ha : a = ⟨g, o, none⟩) {k : IntKind} {i : Int} (j : Nat) (hj : i = (j : Int)) (hn : j < n) {K : Addr → World → Prop} (hk : K ⟨g, o + j, none⟩ w) :
    RunN P .addr (V (Instr.indexAt t (.pointer (some a)) (.int k i))) w K := RunN.of (kd := .addr) (run_arr ha j hj hn) hk
theorem ReadN.arr {t n : Nat} [ar : Ar P t n] {a : Addr} {g o : Nat} (ha : a = ⟨g, o, none⟩) {k : IntKind} {i : Int} (j : Nat) (hj : i = (j : Int)) (hn : j < n) {K : Addr → Prop} (hk : K ⟨g, o + j, none⟩) :
    ReadN P .addr (V (Instr.indexAt t (.pointer (some a)) (.int k i))) w K := ReadN.of (kd := .addr) (run_arr ha j hj hn) hk
theorem run_arrS {t n : Nat} [ar : Ar P t n] {a : Addr} {g o : Nat} (ha : a = ⟨g, o, none⟩) :
    (Instr.sliceAt t (.pointer (some a)) none none none).run P w = .ok (.slice (some ⟨g, o, none⟩) n n) w := by
  subst ha
  obtain ⟨e, inf, hu, hi, hs⟩ := ar.h
  simp [Instr.sliceAt, Instr.sureAddr, run_underlying hu, Instr.sliceBounds, sliced, sizeOf, typeInfo, hi, hs, add_lit']
theorem RunN.arrS {t n : Nat} [ar : Ar P t n] {a : Addr} {g o : Nat} (ha : a = ⟨g, o, none⟩) {K : Sl → World → Prop} (hk : K ⟨some ⟨g, o, none⟩, n, n⟩ w) :
    RunN P .sl (V (Instr.sliceAt t (.pointer (some a)) none none none)) w K := RunN.of (kd := .sl) (x := ⟨some ⟨g, o, none⟩, n, n⟩) (run_arrS ha) hk

/-- A block of cells as a row. -/
theorem St.celRow {b : Nat} {t : TypeId} {cs : List Value} (h : St w0 w ([.cel b t cs] :: G)) {n : Nat} (hn : cs.length = n) (hm : n ≤ maxLen) : St w0 w ([.row t 1 ⟨some ⟨b, 0, none⟩, n, n⟩ cs] :: G) := by
  have he := h.ent (k := 0) (i := 0) ⟨_, rfl, rfl⟩
  have := h.change1 (k := 0) (i := 0) (e' := .row t 1 ⟨some ⟨b, 0, none⟩, n, n⟩ cs) ⟨_, rfl, rfl⟩ (Upd.refl _ _) ⟨⟨by simp [hn], .inr ⟨b, 0, cs, rfl, he.1.1, he.1.2, Nat.le_refl _, hm, by dsimp only; omega, by dsimp only; rw [List.drop_zero, Nat.mul_one, ← hn, List.take_length]⟩⟩, he.2⟩ fun j hj => .inl (by simpa [Ent.blk, Sl.blk] using hj)
  exact this

theorem run_copyOwE {base : Nat} {t ts ty e E : TypeId} {sz by_ : Nat} (et : ET P t e sz by_) (ets : (P.underlying ts).isSome = true) (hsz : 0 < sz) {s : Sl} {vs : List Value} (ho : Ow w base E sz s vs) {i dl dc : Nat} {da : Option Addr}
    (hda : ∀ g o, s.a = some ⟨g, o, none⟩ → 0 < dl → da = some ⟨g, o + i * sz, none⟩) (hdl : i + dl ≤ s.len) {src : Sl} {ws : List Value} (hr : Rd w src sz ws) (h1 : ∀ v ∈ ws, v.oneCell' = true) :
    ∃ w', (Builtin.copy_ #[t, ts] ty #[.slice da dl dc, .slice src.a src.len src.cap]).run P w = .ok (.int .i64 (Nat.min src.len dl : Nat)) w' ∧
      Ow w' base E sz s (vs.take (i * sz) ++ ws.take (Nat.min src.len dl * sz) ++ vs.drop ((i + Nat.min src.len dl) * sz)) ∧ Upd w w' (fun k => s.blk = some k) := by
  obtain ⟨j, z, hi, hz, h2, h3, h4⟩ := et.hi
  have hmin1 : Nat.min src.len dl ≤ src.len := Nat.min_le_left _ _
  have hmin2 : Nat.min src.len dl ≤ dl := Nat.min_le_right _ _
  generalize hn : Nat.min src.len dl = n at *
  have hgo : goInt n = (.int .i64 (n : Int) : Value) := rfl
  by_cases h0 : n = 0
  · subst h0
    refine ⟨w, ?_, ?_, Upd.refl _ _⟩
    · have hfc : (Builtin.firstCells sz 0 (.slice src.a src.len src.cap)).run P w = .ok #[] w := by
        cases src.a <;> simp [Builtin.firstCells, loadCells, loadCellsFrom]
      cases da <;> simp [Builtin.copy_, run_underlying et.ht, Builtin.lenOf, sizeOf, typeInfo, hi, h2, hn, hfc, storeCells] <;> rfl
    · simp only [Nat.zero_mul, List.take_zero, List.append_nil, Nat.add_zero, List.take_append_drop]; exact ho
  · have hpos : 0 < n * sz := Nat.mul_pos (by omega) hsz
    obtain ⟨b, o, ha, hl⟩ := hr.loads (P := P) (n := n) (by omega) hpos
    have hlw : (ws.take (n * sz)).length = n * sz := by
      have h5 := hr.1
      have h6 : n * sz ≤ src.len * sz := Nat.mul_le_mul_right _ hmin1
      simp; omega
    have hlv := ho.1
    have hfit : (i + n) * sz ≤ s.len * sz := Nat.mul_le_mul_right _ (by omega)
    rw [Nat.add_mul] at hfit
    obtain ⟨g, o', hsa, hblk, w', hst, how, hup⟩ := ho.write (P := P) (i := i * sz) (news := ws.take (n * sz)) (by omega) (by intro e; rw [e] at hlw; simp at hlw; omega) (fun v hv => h1 v (List.mem_of_mem_take hv))
    have hd := hda g o' hsa (by omega)
    refine ⟨w', ?_, ?_, hup.mono fun k _ hk => by rw [hblk, hk]⟩
    · rw [hd, ha]
      simp [Builtin.copy_, run_underlying et.ht, Builtin.lenOf, Builtin.firstCells, sizeOf, typeInfo, hi, h2, hn, hl, hst, hgo]
    · rw [hlw, ← Nat.add_mul] at how; exact how
/-- Copy into a part of an owned piece, whatever it was made as. -/
theorem St.copyE (h : St w0 w G) (k i : Nat) {e E : TypeId} {sz by_ : Nat} {s : Sl} {vs : List Value} (he : Has G k i (.row E sz s vs)) {t ts ty : TypeId} [et : Et P t e sz by_] {e2 : TypeId} {sz2 b2 : Nat} [et2 : Et P ts e2 sz2 b2] {da : Option Addr} {dl dc : Nat} (lo : Nat)
    (hda : ∀ b o, s.a = some ⟨b, o, none⟩ → 0 < dl → da = some ⟨b, o + lo * sz, none⟩) (hdl : lo + dl ≤ s.len) {p : Sl} {ws : List Value} (hr : Rd w p sz ws) (h1 : ∀ v ∈ ws, v.oneCell' = true) {K : Int → World → Prop}
    (hk : ∀ w', St w0 w' (updG G k i [.row E sz s (vs.take (lo * sz) ++ ws.take (Nat.min p.len dl * sz) ++ vs.drop ((lo + Nat.min p.len dl) * sz))]) → K (Nat.min p.len dl : Nat) w') :
    RunN P (.int .i64) (V (Builtin.copy_ #[t, ts] ty #[.slice da dl dc, .slice p.a p.len p.cap])) w K := by
  obtain ⟨w', hr', ho, hu⟩ := run_copyOwE (P := P) (ts := ts) (ty := ty) (da := da) (dc := dc) et.h (by simp [et2.h.ht]) et.pos (h.ow he) hda hdl hr h1
  refine RunN.of (kd := .int .i64) hr' (hk w' (h.change1 he hu ⟨ho, fun v hv => ?_⟩ fun j hj => .inl hj))
  simp only [Ent.vals] at hv
  rcases List.mem_append.1 hv with hv | hv
  · rcases List.mem_append.1 hv with hv | hv
    · exact h.one1 he v (List.mem_of_mem_take hv)
    · exact h1 v (List.mem_of_mem_take hv)
  · exact h.one1 he v (List.mem_of_mem_drop hv)
/-- A new piece takes another one's place in the first group behind it. -/
theorem St.plug {e d : Ent} {g : List Ent} (h : St w0 w ([e] :: g :: G)) {i : Nat} (hi : nthO g i = some d) : St w0 w (setO g i e :: G) := by
  have h : St w0 w ([d] :: setO g i e :: G) := h.perm (by
    have p1 := nthO_perm hi
    have p2 := setO_perm e hi
    simp only [List.flatten_cons, List.cons_append, List.nil_append]
    refine (List.Perm.cons e (p1.append_right _)).trans ?_
    refine (List.Perm.swap _ _ _).trans (List.Perm.cons d ?_)
    exact (p2.append_right _).symm)
  exact h.drop 0
end
end Go.Fw

/- Groups in another order, some of them left; a loop's measure that looks at memory. -/
set_option linter.unusedVariables false
set_option linter.unusedSimpArgs false
namespace Go.Fw
open Go Go.RowKit
variable {w0 w : World} {G : Grps}
def pick (G : Grps) : List Nat → Grps → Grps
  | [], T => T
  | i :: r, T => match nthO G i with | some g => g :: pick G r T | none => pick G r T
def dropO : Nat → Grps → Grps
  | 0, l => l
  | _ + 1, [] => []
  | n + 1, _ :: r => dropO n r
theorem pick_eq (G : Grps) (is : List Nat) (T : Grps) : pick G is T = is.filterMap (nthO G) ++ T := by
  induction is with
  | nil => rfl
  | cons i r ih => simp only [pick, List.filterMap_cons]; split <;> simp_all
theorem dropO_eq (G : Grps) (n : Nat) : dropO n G = G.drop n := by
  induction n generalizing G with
  | zero => rfl
  | succ n ih => cases G with
    | nil => rfl
    | cons x r => simp [dropO, ih]
theorem range_nth (G : Grps) (n : Nat) : (List.range n).filterMap (nthO G) = G.take n := by
  induction n with
  | zero => rfl
  | succ n ih =>
    rw [List.range_succ, List.filterMap_append, ih, List.take_add_one]
    congr 1
    simp only [List.filterMap_cons, List.filterMap_nil, nthO_get]
    cases G[n]? <;> rfl
/-- The first n groups in this order; those that are not named are left. -/
theorem St.ord (h : St w0 w G) (n : Nat) (is : List Nat) (hp : (is ++ (List.range n).filter (fun i => !is.contains i)).isPerm (List.range n) = true := by decide) : St w0 w (pick G is (dropO n G)) := by
  have hp := List.isPerm_iff.1 hp
  have h1 := hp.filterMap (nthO G)
  rw [range_nth, List.filterMap_append] at h1
  have h2 : G.Perm (((List.range n).filter (fun i => !is.contains i)).filterMap (nthO G) ++ (is.filterMap (nthO G) ++ G.drop n)) := by
    conv => lhs; rw [← List.take_append_drop n G]
    rw [← List.append_assoc]
    exact (h1.symm.trans List.perm_append_comm).append_right _
  rw [pick_eq, dropO_eq]
  generalize ((List.range n).filter (fun i => !is.contains i)).filterMap (nthO G) = X at h2
  have h3 := (h.perm h2.flatten).fl
  rw [List.flatten_append] at h3
  exact ⟨⟨h3.upd, fun e he => h3.ok e (List.mem_append_right _ he), (List.pairwise_append.1 h3.ap).2.1⟩⟩
theorem mkW {α : Type} {body : α → World → (α → World → Prop) → Prop} {s : α} {w : World} (I : α → World → Prop) (μ : α → World → Nat) (h0 : I s w) (h : ∀ s w, I s w → ∀ k : α → World → Prop, (∀ s' w', I s' w' → μ s' w' < μ s w → k s' w') → body s w k) : LoopX body s w :=
  ⟨I, μ, h0, fun s w hI => h s w hI _ fun s' w' h1 h2 => ⟨h1, h2⟩⟩
theorem St.ob (h : St w0 w G) {k i b : Nat} {o : Obj} (he : Has G k i (.obj b o)) : w.heap[b]? = some o := (h.ent he).1.2
/-- Another object in its place. -/
theorem St.setOb (h : St w0 w G) {k i b : Nat} {o : Obj} (he : Has G k i (.obj b o)) (o' : Obj) : St w0 { w with heap := w.heap.setIfInBounds b o' } (updG G k i [.obj b o']) := by
  have hob := h.ob he
  have hlt := lt_of_obj hob
  refine h.change1 he ⟨rfl, rfl, rfl, by simp, fun j hj hs => ?_⟩ ⟨⟨(h.ent he).1.1, by simp [hlt]⟩, fun v hv => by simp [Ent.vals] at hv⟩ fun j hj => .inl hj
  have : b ≠ j := fun e => hs (by subst e; rfl)
  simp [Array.getElem?_setIfInBounds, this]
/-- A new object. -/
theorem St.newOb (h : St w0 w G) (o : Obj) : St w0 (w.alloc o) ([.obj w.heap.size o] :: G) :=
  h.new (Upd.alloc _ _ _) ⟨⟨h.upd.size, heap_alloc_new w o⟩, fun v hv => by simp [Ent.vals] at hv⟩ fun j hj => by simp [Ent.blk] at hj; omega
/-- A number in memory. -/
def cellN (b i : Nat) (w : World) : Nat := match w.cell? ⟨b, i, none⟩ with | some (.int _ n) => n.toNat | _ => 0
theorem cellN_of (h : St w0 w G) {k i b : Nat} {t : TypeId} {cs : List Value} (he : Has G k i (.cel b t cs)) {m : Nat} {kk : IntKind} {n : Nat} (hv : nthO cs m = some (.int kk (n : Int))) : cellN b m w = n := by
  unfold cellN
  rw [(h.blk he).cell, ← nthO_get, hv]
  simp
theorem bys_copy (x y : List UInt8) (lo k : Nat) : (bys x).take (lo * 1) ++ (bys y).take (k * 1) ++ (bys x).drop ((lo + k) * 1) = bys (x.take lo ++ y.take k ++ x.drop (lo + k)) := by
  simp [bys, List.map_take, List.map_drop]
theorem bys_take (x : List UInt8) (n : Nat) : (bys x).take (n * 1) = bys (x.take n) := by simp [bys, List.map_take]
theorem bys_drop (x : List UInt8) (n : Nat) : (bys x).drop (n * 1) = bys (x.drop n) := by simp [bys, List.map_drop]
theorem bys_rep (n : Nat) : List.replicate n (Value.int .u8 0) = bys (List.replicate n 0) := by rw [bys, List.map_replicate]; rfl
end Go.Fw

/- Maps with keys of two numbers; structs of numbers compared. -/
set_option linter.unusedVariables false
set_option linter.unusedSimpArgs false
namespace Go.Fw
open Go Go.RowKit
abbrev kv2 (a b : Int) : Value := .agg #[.int .i64 a, .int .i64 b]
/-- A type of two numbers. -/
class K2 (P : Program) (t : TypeId) : Prop where
  eq : ∀ (w : World) (a b c d : Int), (Op.equal t (kv2 a b) (kv2 c d)).run P w = .ok (a == c && b == d) w
  chk : ∀ (w : World) (em : Bool) (a b : Int), (Instr.checkKey em 10000 t (kv2 a b)).run P w = .ok () w
  wide : (match P.underlying t with | some (.array _ _) | some (.struct _) => true | _ => false) = true
  eqV : ∀ (w : World) (x y : Operand) (a b c d : Int), (do eqGuard .eql t x y (kv2 a b) (kv2 c d); binOp .eql t (kv2 a b) (kv2 c d) : Sem Value).run P w = .ok (.bool (a == c && b == d)) w
  neV : ∀ (w : World) (x y : Operand) (a b c d : Int), (do eqGuard .neq t x y (kv2 a b) (kv2 c d); binOp .neq t (kv2 a b) (kv2 c d) : Sem Value).run P w = .ok (.bool !(a == c && b == d)) w
abbrev kv4 (a b c d : Int) : Value := .agg #[.int .i64 a, .int .i64 b, .int .i64 c, .int .i64 d]
def eq4 (a b c d a' b' c' d' : Int) : Bool := a == a' && b == b' && c == c' && d == d'
class K4 (P : Program) (t : TypeId) : Prop where
  eqV : ∀ (w : World) (x y : Operand) (a b c d a' b' c' d' : Int), (do eqGuard .eql t x y (kv4 a b c d) (kv4 a' b' c' d'); binOp .eql t (kv4 a b c d) (kv4 a' b' c' d') : Sem Value).run P w = .ok (.bool (eq4 a b c d a' b' c' d')) w
  neV : ∀ (w : World) (x y : Operand) (a b c d a' b' c' d' : Int), (do eqGuard .neq t x y (kv4 a b c d) (kv4 a' b' c' d'); binOp .neq t (kv4 a b c d) (kv4 a' b' c' d') : Sem Value).run P w = .ok (.bool !(eq4 a b c d a' b' c' d')) w
section
variable {P : Program}
def eqF (d : Nat) (xs ys : Array Value) : List (Bool × TypeId × Nat) → Sem Bool
  | [] => pure true
  | (c, t, o) :: fs =>
    if c = true then do
      let a ← part t xs o
      let b ← part t ys o
      let r ← Op.equalIn d t a b
      if (!r) = true then pure false else eqF d xs ys fs
    else eqF d xs ys fs
def fsum (f : Field) : Bool × TypeId × Nat := (f.name != "_", f.type, f.offset)
theorem eqFields_map (d : Nat) (xs ys : Array Value) (fs : List Field) : Op.eqFields d xs ys fs = eqF d xs ys (fs.map fsum) := by
  induction fs with
  | nil => rfl
  | cons f r ih =>
    rw [List.map_cons, Op.eqFields, eqF, ih]
    by_cases h : f.name = "_" <;> simp [fsum, h]
theorem k2_run {t ti : TypeId} (ht : P.underlying t = some (.struct (P.fieldsOf t))) (hp : P.stoodInHeld t = false) (hfs : (P.fieldsOf t).toList.map fsum = [(true, ti, 0), (true, ti, 1)]) (hi : P.underlying ti = some (.int .i64))
    (p0 : ∀ (w : World) (x y : Int), (part ti #[.int .i64 x, .int .i64 y] 0).run P w = .ok (.int .i64 x) w) (p1 : ∀ (w : World) (x y : Int), (part ti #[.int .i64 x, .int .i64 y] 1).run P w = .ok (.int .i64 y) w)
    (d : Nat) (w : World) (a b c e : Int) : (Op.equalIn (d + 2) t (kv2 a b) (kv2 c e)).run P w = .ok (a == c && b == e) w := by
  rw [run_equalIn_agg w (d + 1) t _ _ ht hp, eqFields_map, hfs]
  simp only [eqF, if_true, Sem.run_bind, p0, p1, Result.andThen_ok, run_equalIn_int w d ti .i64 .i64 _ _ hi]
  cases h1 : (a == c) <;> cases h2 : (b == e) <;> simp [Sem.run_bind, p0, p1, run_equalIn_int w d ti .i64 .i64 _ _ hi, h2]
theorem K2.of {t ti : TypeId} (ht : P.underlying t = some (.struct (P.fieldsOf t))) (hp : P.stoodInHeld t = false) (hfs : (P.fieldsOf t).toList.map fsum = [(true, ti, 0), (true, ti, 1)]) (hi : P.underlying ti = some (.int .i64))
    (p0 : ∀ (w : World) (x y : Int), (part ti #[.int .i64 x, .int .i64 y] 0).run P w = .ok (.int .i64 x) w) (p1 : ∀ (w : World) (x y : Int), (part ti #[.int .i64 x, .int .i64 y] 1).run P w = .ok (.int .i64 y) w)
    (hchk : ∀ (w : World) (em : Bool) (a b : Int), (Instr.checkKey em 10000 t (kv2 a b)).run P w = .ok () w) (hg : P.eqGuardType P.depth t = false) : K2 P t := by
  refine ⟨fun w a b c d => k2_run ht hp hfs hi p0 p1 9998 w a b c d, hchk, by rw [ht], fun w x y a b c d => ?_, fun w x y a b c d => ?_⟩
  · rw [Sem.run_bind, run_eqGuard_agg w _ _ _ _ _ _ hg, Result.andThen_ok, run_eql_struct, k2_run ht hp hfs hi p0 p1 9998]
    rfl
  · rw [Sem.run_bind, run_eqGuard_agg w _ _ _ _ _ _ hg, Result.andThen_ok, run_neq_struct, k2_run ht hp hfs hi p0 p1 9998]
    rfl
theorem k4_run {t t2 ti ti' : TypeId} (ht : P.underlying t = some (.struct (P.fieldsOf t))) (hp : P.stoodInHeld t = false) (hfs : (P.fieldsOf t).toList.map fsum = [(true, t2, 0), (true, ti, 2), (true, ti', 3)]) (hi : P.underlying ti = some (.int .i64)) (hi' : P.underlying ti' = some (.int .i64))
    (h2 : ∀ (d : Nat) (w : World) (a b c e : Int), (Op.equalIn (d + 2) t2 (kv2 a b) (kv2 c e)).run P w = .ok (a == c && b == e) w)
    (p0 : ∀ (w : World) (x y z u : Int), (part t2 #[.int .i64 x, .int .i64 y, .int .i64 z, .int .i64 u] 0).run P w = .ok (kv2 x y) w)
    (p2 : ∀ (w : World) (x y z u : Int), (part ti #[.int .i64 x, .int .i64 y, .int .i64 z, .int .i64 u] 2).run P w = .ok (.int .i64 z) w)
    (p3 : ∀ (w : World) (x y z u : Int), (part ti' #[.int .i64 x, .int .i64 y, .int .i64 z, .int .i64 u] 3).run P w = .ok (.int .i64 u) w)
    (d : Nat) (w : World) (x y z u x' y' z' u' : Int) : (Op.equalIn (d + 3) t (kv4 x y z u) (kv4 x' y' z' u')).run P w = .ok (eq4 x y z u x' y' z' u') w := by
  rw [run_equalIn_agg w (d + 2) t _ _ ht hp, eqFields_map, hfs]
  simp only [eqF, if_true, Sem.run_bind, p0, Result.andThen_ok, h2, eq4]
  cases h1 : (x == x' && y == y')
  · simp
  · simp only [Bool.not_true, Bool.false_eq_true, if_false, Sem.run_bind, p2, p3, Result.andThen_ok, run_equalIn_int w (d + 1) ti .i64 .i64 _ _ hi, Bool.true_and]
    cases h3 : (z == z')
    · simp
    · simp only [Bool.not_true, Bool.false_eq_true, if_false, Sem.run_bind, p2, p3, Result.andThen_ok, run_equalIn_int w (d + 1) ti' .i64 .i64 _ _ hi', Bool.true_and]
      cases h4 : (u == u') <;> simp
theorem K4.of {t t2 ti ti' : TypeId} (ht : P.underlying t = some (.struct (P.fieldsOf t))) (hp : P.stoodInHeld t = false) (hfs : (P.fieldsOf t).toList.map fsum = [(true, t2, 0), (true, ti, 2), (true, ti', 3)]) (hi : P.underlying ti = some (.int .i64)) (hi' : P.underlying ti' = some (.int .i64))
    (h2 : ∀ (d : Nat) (w : World) (a b c e : Int), (Op.equalIn (d + 2) t2 (kv2 a b) (kv2 c e)).run P w = .ok (a == c && b == e) w)
    (p0 : ∀ (w : World) (x y z u : Int), (part t2 #[.int .i64 x, .int .i64 y, .int .i64 z, .int .i64 u] 0).run P w = .ok (kv2 x y) w)
    (p2 : ∀ (w : World) (x y z u : Int), (part ti #[.int .i64 x, .int .i64 y, .int .i64 z, .int .i64 u] 2).run P w = .ok (.int .i64 z) w)
    (p3 : ∀ (w : World) (x y z u : Int), (part ti' #[.int .i64 x, .int .i64 y, .int .i64 z, .int .i64 u] 3).run P w = .ok (.int .i64 u) w) (hg : P.eqGuardType P.depth t = false) : K4 P t := by
  refine ⟨fun w x y a b c d a' b' c' d' => ?_, fun w x y a b c d a' b' c' d' => ?_⟩
  · rw [Sem.run_bind, run_eqGuard_agg w _ _ _ _ _ _ hg, Result.andThen_ok, run_eql_struct, k4_run ht hp hfs hi hi' h2 p0 p2 p3 9997]
    rfl
  · rw [Sem.run_bind, run_eqGuard_agg w _ _ _ _ _ _ hg, Result.andThen_ok, run_neq_struct, k4_run ht hp hfs hi hi' h2 p0 p2 p3 9997]
    rfl
end
section
variable {P : Program} {w w0 : World} {G : Grps} {t : TypeId}
theorem RunN.k2Eq [K2 P t] {x y : Operand} {a b c d : Int} {K : Bool → World → Prop} (h : K (a == c && b == d) w) : RunN P .bool (V (do eqGuard .eql t x y (kv2 a b) (kv2 c d); binOp .eql t (kv2 a b) (kv2 c d))) w K := RunN.of (kd := .bool) (K2.eqV w x y a b c d) h
theorem ReadN.k2Eq [K2 P t] {x y : Operand} {a b c d : Int} {K : Bool → Prop} (h : K (a == c && b == d)) : ReadN P .bool (V (do eqGuard .eql t x y (kv2 a b) (kv2 c d); binOp .eql t (kv2 a b) (kv2 c d))) w K := ReadN.of (kd := .bool) (K2.eqV w x y a b c d) h
theorem ReadN.k2Ne [K2 P t] {x y : Operand} {a b c d : Int} {K : Bool → Prop} (h : K (!(a == c && b == d))) : ReadN P .bool (V (do eqGuard .neq t x y (kv2 a b) (kv2 c d); binOp .neq t (kv2 a b) (kv2 c d))) w K := ReadN.of (kd := .bool) (K2.neV w x y a b c d) h
theorem RunN.k4Eq [K4 P t] {x y : Operand} {a b c d a' b' c' d' : Int} {K : Bool → World → Prop} (h : K (eq4 a b c d a' b' c' d') w) : RunN P .bool (V (do eqGuard .eql t x y (kv4 a b c d) (kv4 a' b' c' d'); binOp .eql t (kv4 a b c d) (kv4 a' b' c' d'))) w K := RunN.of (kd := .bool) (K4.eqV w x y a b c d a' b' c' d') h
theorem ReadN.k4Ne [K4 P t] {x y : Operand} {a b c d a' b' c' d' : Int} {K : Bool → Prop} (h : K (!(eq4 a b c d a' b' c' d'))) : ReadN P .bool (V (do eqGuard .neq t x y (kv4 a b c d) (kv4 a' b' c' d'); binOp .neq t (kv4 a b c d) (kv4 a' b' c' d'))) w K := ReadN.of (kd := .bool) (K4.neV w x y a b c d a' b' c' d') h

/-- What a map with keys of two numbers holds: (key, value). -/
abbrev M2 := List ((Int × Int) × Value)
def m2e (x : ((Int × Int) × Value) × Nat) : MapEntry := { key := kv2 x.1.1.1 x.1.1.2, val := x.1.2, born := x.2 }
def m2o (m : M2) : Obj := .map ⟨m.zipIdx.map m2e⟩ m.length
def m2get (m : M2) (k : Int × Int) : Option Value := (m.find? (fun x => k == x.1)).map (·.2)
theorem run_findAsking [K2 P t] (k : Int × Int) : ∀ (m : M2) (n i : Nat), ∃ j, (Instr.findAsking t (kv2 k.1 k.2) ((m.zipIdx n).map m2e) i).run P w = .ok ((m2get m k).map fun v => (j, v)) w
  | [], n, i => ⟨0, rfl⟩
  | x :: r, n, i => by
    obtain ⟨j, hj⟩ := run_findAsking k r (n + 1) (i + 1)
    rw [List.zipIdx_cons, List.map_cons, Instr.findAsking]
    have e := K2.eq (P := P) (t := t) w k.1 k.2 x.1.1 x.1.2
    by_cases h : k = x.1
    · refine ⟨i, ?_⟩
      have h1 : (k.1 == x.1.1 && k.2 == x.1.2) = true := by subst h; simp
      rw [h1] at e
      simp only [Sem.run_bind, m2e, e, Result.andThen_ok, if_true, Sem.run_pure]
      simp [m2get, h]
    · refine ⟨j, ?_⟩
      have h1 : (k.1 == x.1.1 && k.2 == x.1.2) = false := by
        rw [Bool.eq_false_iff]; intro hc; simp at hc; exact h (Prod.ext hc.1 hc.2)
      rw [h1] at e
      have h2 : m2get (x :: r) k = m2get r k := by
        have : (k == x.1) = false := by simpa using h
        simp [m2get, this]
      rw [h2]
      simp only [Sem.run_bind, m2e, e, Result.andThen_ok, Bool.false_eq_true, if_false]
      exact hj
theorem run_lookup2 [K2 P t] {xt e : TypeId} (hu : P.underlying xt = some (.map t e)) {b : Nat} {m : M2} (hb : w.heap[b]? = some (m2o m)) (k : Int × Int) {z : Value} (hz : (zeroValue e).run P w = .ok z w) :
    (Instr.lookup xt (.map (some b)) (kv2 k.1 k.2) false).run P w = .ok ((m2get m k).getD z) w := by
  obtain ⟨j, hj⟩ := run_findAsking (P := P) (w := w) (t := t) k m 0 0
  have hf := run_findKey_eq (P := P) (w := w) (k := t) K2.wide (kv2 k.1 k.2) (m.zipIdx.map m2e)
  rw [hj] at hf
  have hg : (getObj b).run P w = .ok (.map ⟨m.zipIdx.map m2e⟩ m.length) w := by simp [getObj, Sem.run, hb, m2o]
  simp only [Instr.lookup, Sem.run_bind, run_underlying hu, Result.andThen_ok, hg, Sem.run_pure, K2.chk, hf]
  cases m2get m k with
  | none => simp [Sem.run_bind, hz, Sem.run_pure]
  | some v => simp [Sem.run_bind, Sem.run_pure]
theorem run_mapUpdate2 [K2 P t] {xt e : TypeId} (hu : P.underlying xt = some (.map t e)) {b : Nat} {m : M2} (hb : w.heap[b]? = some (m2o m)) (k : Int × Int) (hk : m2get m k = none) (v : Value) :
    (Instr.mapUpdate xt (.map (some b)) (kv2 k.1 k.2) v).run P w = .ok () { w with heap := w.heap.setIfInBounds b (m2o (m ++ [(k, v)])) } := by
  obtain ⟨j, hj⟩ := run_findAsking (P := P) (w := w) (t := t) k m 0 0
  have hf := run_findKey_eq (P := P) (w := w) (k := t) K2.wide (kv2 k.1 k.2) (m.zipIdx.map m2e)
  rw [hj, hk] at hf
  have e : m2o (m ++ [(k, v)]) = .map ((⟨m.zipIdx.map m2e⟩ : Array MapEntry).push { key := kv2 k.1 k.2, val := v, born := m.length }) (m.length + 1) := by
    simp [m2o, List.zipIdx_append, m2e]
  have hg : (getObj b).run P w = .ok (.map ⟨m.zipIdx.map m2e⟩ m.length) w := by simp [getObj, Sem.run, hb, m2o]
  simp only [Instr.mapUpdate, Sem.run_bind, run_underlying hu, Result.andThen_ok, hg, K2.chk, hf, Option.map_none]
  rw [e]
  simp [setObj, Sem.run, hb]
  simp [m2o]
theorem St.lookR (h : St w0 w G) (k i : Nat) {b : Nat} {m : M2} (he : Has G k i (.obj b (m2o m))) [K2 P t] {xt e : TypeId} (hu : P.underlying xt = some (.map t e)) {x y : Int} (hz : ∀ w, (zeroValue e).run P w = .ok (.pointer none) w) (p : Option Addr)
    (hp : m2get m (x, y) = p.map fun a => .pointer (some a)) {K : Option Addr → Prop} (hk : K p) : ReadN P .ptr (V (Instr.lookup xt (.map (some b)) (kv2 x y) false)) w K := by
  refine ReadN.of (kd := .ptr) (x := p) ?_ hk
  rw [run_lookup2 hu (h.ob he) (x, y) (hz w), hp]
  cases p <;> rfl
theorem St.mapPut (h : St w0 w G) (k i : Nat) {b : Nat} {m : M2} (he : Has G k i (.obj b (m2o m))) [K2 P t] {xt e : TypeId} (hu : P.underlying xt = some (.map t e)) {x y : Int} {v : Value} (hn : m2get m (x, y) = none) {K : World → Prop}
    (hk : ∀ w', St w0 w' (updG G k i [.obj b (m2o (m ++ [((x, y), v)]))]) → K w') : RunU P (U (Instr.mapUpdate xt (.map (some b)) (kv2 x y) v)) w K :=
  RunU.of (run_mapUpdate2 hu (h.ob he) (x, y) hn v) (hk _ (h.setOb he _))
theorem St.newMap (h : St w0 w G) {xt : TypeId} {K : Option Nat → World → Prop} (hk : ∀ b w', St w0 w' ([.obj b (m2o [])] :: G) → K (some b) w') : RunN P .map (V (Instr.makeMap xt none)) w K :=
  RunN.of (kd := .map) (x := some w.heap.size) rfl (hk _ _ (h.newOb _))
theorem nthO_setO {α : Type} : ∀ {l : List α} {i : Nat} {x : α} (y : α), nthO l i = some x → nthO (setO l i y) i = some y
  | [], _, _, _, h => by cases h
  | _ :: _, 0, _, _, _ => rfl
  | _ :: r, i + 1, _, y, h => nthO_setO (l := r) y h
theorem has_upd : ∀ {G : Grps} {k i : Nat} {e : Ent}, Has G k i e → ∀ e' : Ent, Has (updG G k i [e']) k i e'
  | [], _, _, _, ⟨_, h, _⟩, _ => by cases h
  | g :: r, 0, i, e, ⟨g', h, h'⟩, e' => by
    simp [nthO] at h; subst h
    exact ⟨setO g i e', rfl, nthO_setO e' h'⟩
  | g :: r, k + 1, i, e, ⟨g', h, h'⟩, e' => has_upd (G := r) ⟨g', h, h'⟩ e'
theorem setO_setO {α : Type} : ∀ (l : List α) (i : Nat) (x y : α), setO (setO l i x) i y = setO l i y
  | [], _, _, _ => rfl
  | _ :: _, 0, _, _ => rfl
  | _ :: r, i + 1, x, y => by simp only [setO, setO_setO r i x y]
theorem upd_upd : ∀ {G : Grps} {k i : Nat} {e : Ent}, Has G k i e → ∀ {e1 e2 : Ent}, updG (updG G k i [e1]) k i [e2] = updG G k i [e2]
  | [], _, _, _, ⟨_, h, _⟩, _, _ => by cases h
  | g :: r, 0, i, e, _, e1, e2 => by simp only [updG, setO_setO]
  | g :: r, k + 1, i, e, ⟨g', h, h'⟩, e1, e2 => by simp only [updG]; rw [upd_upd (G := r) ⟨g', h, h'⟩]
theorem setO_self {α : Type} : ∀ {l : List α} {i : Nat} {x : α}, nthO l i = some x → setO l i x = l
  | [], _, _, h => by cases h
  | _ :: _, 0, _, h => by simp [nthO] at h; subst h; rfl
  | _ :: r, i + 1, _, h => by simp only [setO]; rw [setO_self (l := r) h]
theorem upd_self : ∀ {G : Grps} {k i : Nat} {e : Ent}, Has G k i e → updG G k i [e] = G
  | [], _, _, _, ⟨_, h, _⟩ => by cases h
  | g :: r, 0, i, e, ⟨g', h, h'⟩ => by
    simp [nthO] at h; subst h
    simp only [updG, setO_self h']
  | g :: r, k + 1, i, e, ⟨g', h, h'⟩ => by simp only [updG]; rw [upd_self (G := r) ⟨g', h, h'⟩]
/-- An array of pieces. -/
class Ars (P : Program) (t : TypeId) (n sz : outParam Nat) : Prop where
  h : ∃ e i, P.underlying t = some (.array n e) ∧ P.info? e = some i ∧ i.size = sz
theorem Ars.of {t n e sz : Nat} (h : P.underlying t = some (.array n e)) (h1 : (P.info? e).map (·.size) = some sz) : Ars P t n sz := by
  cases hi : P.info? e with
  | none => simp [hi] at h1
  | some i => exact ⟨e, i, h, hi, by simpa [hi] using h1⟩
theorem run_arrs {t n sz : Nat} [ar : Ars P t n sz] {a : Addr} {g o : Nat} (ha : a = ⟨g, o, none⟩) {k : IntKind} {i : Int} (j : Nat) (hj : i = (j : Int)) (hn : j < n) :
    (Instr.indexAt t (.pointer (some a)) (.int k i)).run P w = .ok (.pointer (some ⟨g, o + j * sz, none⟩)) w := by
  subst hj; subst ha
  obtain ⟨e, inf, hu, hi, hs⟩ := ar.h
  have h0 : (0 : Int) ≤ (j : Int) := by omega
  have h1 : (j : Int) < (n : Int) := by omega
  simp [Instr.indexAt, asIntOf, run_underlying hu, Instr.sureAddr, h0, h1, hn, sizeOf, typeInfo, hi, hs, add_lit']
theorem RunN.arrs {t n sz : Nat} [ar : Ars P t n sz] {a : Addr} {g o : Nat} (ha : a = ⟨g, o, none⟩) {k : IntKind} {i : Int} (j : Nat) (hj : i = (j : Int)) (hn : j < n) {K : Addr → World → Prop} (hk : K ⟨g, o + j * sz, none⟩ w) :
    RunN P .addr (V (Instr.indexAt t (.pointer (some a)) (.int k i))) w K := RunN.of (kd := .addr) (run_arrs ha j hj hn) hk
theorem ReadN.arrs {t n sz : Nat} [ar : Ars P t n sz] {a : Addr} {g o : Nat} (ha : a = ⟨g, o, none⟩) {k : IntKind} {i : Int} (j : Nat) (hj : i = (j : Int)) (hn : j < n) {K : Addr → Prop} (hk : K ⟨g, o + j * sz, none⟩) :
    ReadN P .addr (V (Instr.indexAt t (.pointer (some a)) (.int k i))) w K := ReadN.of (kd := .addr) (run_arrs ha j hj hn) hk
theorem run_arrLH {t n sz : Nat} [ar : Ars P t n sz] {a : Addr} {kl kh : IntKind} {l h : Int} {lo hi : Nat} (hl : l = (lo : Int)) (hh : h = (hi : Int)) (h1 : lo ≤ hi) (h2 : hi ≤ n) :
    (Instr.sliceAt t (.pointer (some a)) (some (.int kl l)) (some (.int kh h)) none).run P w = .ok (.slice (subS ⟨some a, n, n⟩ lo hi sz).a (subS ⟨some a, n, n⟩ lo hi sz).len (subS ⟨some a, n, n⟩ lo hi sz).cap) w := by
  subst hl; subst hh
  obtain ⟨e, inf, hu, hi, hs⟩ := ar.h
  have e1 : P.arrayLen t = n := by simp [Program.arrayLen, hu]
  have e2 : P.elem t = e := by simp [Program.elem, hu]
  rw [run_sliceAt_array_lh w t a (by rw [e1, e2]; exact hu) kl kh lo _ (by omega) (by omega) (by rw [e1]; omega), e1, e2]
  simp only [sizeOf, Sem.run_bind, typeInfo, hi]
  simp [hs, slicedAt, subS, hi]
  split <;> rfl
theorem run_arrH {t n sz : Nat} [ar : Ars P t n sz] {a : Addr} {kh : IntKind} {h : Int} {hi : Nat} (hh : h = (hi : Int)) (h2 : hi ≤ n) :
    (Instr.sliceAt t (.pointer (some a)) none (some (.int kh h)) none).run P w = .ok (.slice (subS ⟨some a, n, n⟩ 0 hi sz).a (subS ⟨some a, n, n⟩ 0 hi sz).len (subS ⟨some a, n, n⟩ 0 hi sz).cap) w := by
  subst hh
  obtain ⟨e, inf, hu, hi, hs⟩ := ar.h
  have e1 : P.arrayLen t = n := by simp [Program.arrayLen, hu]
  have e2 : P.elem t = e := by simp [Program.elem, hu]
  rw [run_sliceAt_array_h w t a (by rw [e1, e2]; exact hu) kh _ (by omega) (by rw [e1]; omega), e1, e2]
  simp only [sizeOf, Sem.run_bind, typeInfo, hi]
  simp [hs, slicedAt, subS, hi]
  split <;> rfl
theorem ReadN.arrLH {t n sz : Nat} [ar : Ars P t n sz] {a : Addr} {kl kh : IntKind} {l h : Int} (lo hi : Nat) (hl : l = (lo : Int)) (hh : h = (hi : Int)) (h1 : lo ≤ hi) (h2 : hi ≤ n) {K : Sl → Prop} (hk : K (subS ⟨some a, n, n⟩ lo hi sz)) :
    ReadN P .sl (V (Instr.sliceAt t (.pointer (some a)) (some (.int kl l)) (some (.int kh h)) none)) w K := ReadN.of (kd := .sl) (run_arrLH hl hh h1 h2) hk
theorem ReadN.arrH {t n sz : Nat} [ar : Ars P t n sz] {a : Addr} {kh : IntKind} {h : Int} (hi : Nat) (hh : h = (hi : Int)) (h2 : hi ≤ n) {K : Sl → Prop} (hk : K (subS ⟨some a, n, n⟩ 0 hi sz)) :
    ReadN P .sl (V (Instr.sliceAt t (.pointer (some a)) none (some (.int kh h)) none)) w K := ReadN.of (kd := .sl) (run_arrH hh h2) hk
/-- A part of a block, read as a slice of pieces. -/
theorem St.arrRd (h : St w0 w G) (k i : Nat) {b : Nat} {t : TypeId} {cs : List Value} (he : Has G k i (.cel b t cs)) {o n sz : Nat} (hfit : o + n * sz ≤ cs.length) {lo hi : Nat} (h1 : lo ≤ hi) (h2 : hi ≤ n) :
    Rd w (subS ⟨some ⟨b, o, none⟩, n, n⟩ lo hi sz) sz ((cs.drop (o + lo * sz)).take ((hi - lo) * sz)) := by
  have h0 : Rd w ⟨some ⟨b, o, none⟩, n, n⟩ sz ((cs.drop o).take (n * sz)) := by
    refine ⟨by simp; omega, .inr ⟨b, o, rfl, fun j v hj => ?_⟩, Nat.le_refl _⟩
    rw [List.getElem?_take] at hj
    split at hj
    · rw [List.getElem?_drop] at hj
      rw [(h.blk he).cell]; exact hj
    · cases hj
  have h3 := h0.subS h1 h2
  have e : hi * sz ≤ n * sz := Nat.mul_le_mul_right _ h2
  have e2 : lo * sz ≤ hi * sz := Nat.mul_le_mul_right _ h1
  rw [List.drop_take, List.drop_drop, List.take_take, Nat.min_eq_left (by rw [Nat.sub_mul]; omega)] at h3
  exact h3
/-- Copy into a part of a block. -/
theorem St.copyC (h : St w0 w G) (k i : Nat) {b : Nat} {t : TypeId} {cs : List Value} (he : Has G k i (.cel b t cs)) {e : TypeId} {sz by_ : Nat} {td ts ty : TypeId} [et : Et P td e sz by_] {e2 : TypeId} {sz2 b2 : Nat} [et2 : Et P ts e2 sz2 b2] {da : Option Addr} {dl dc : Nat} (o : Nat)
    (hda : 0 < dl → da = some ⟨b, o, none⟩) (hdl : o + dl * sz ≤ cs.length) {p : Sl} {ws : List Value} (hr : Rd w p sz ws) (h1 : ∀ v ∈ ws, v.oneCell' = true) {K : Int → World → Prop}
    (hk : ∀ w', St w0 w' (updG G k i [.cel b t (cs.take o ++ ws.take (Nat.min p.len dl * sz) ++ cs.drop (o + Nat.min p.len dl * sz))]) → K (Nat.min p.len dl : Nat) w') :
    RunN P (.int .i64) (V (Builtin.copy_ #[td, ts] ty #[.slice da dl dc, .slice p.a p.len p.cap])) w K := by
  obtain ⟨j, z, hi, hz, h2, h3, h4⟩ := et.h.hi
  have ets : (P.underlying ts).isSome = true := by simp [et2.h.ht]
  have hmin1 : Nat.min p.len dl ≤ p.len := Nat.min_le_left _ _
  have hmin2 : Nat.min p.len dl ≤ dl := Nat.min_le_right _ _
  generalize hn : Nat.min p.len dl = n at *
  have hgo : goInt n = (.int .i64 (n : Int) : Value) := rfl
  by_cases h0 : n = 0
  · subst h0
    refine RunN.of (kd := .int .i64) (x := ((0 : Nat) : Int)) (w' := w) ?_ (hk w ?_)
    · have hfc : (Builtin.firstCells sz 0 (.slice p.a p.len p.cap)).run P w = .ok #[] w := by
        cases p.a <;> simp [Builtin.firstCells, loadCells, loadCellsFrom]
      cases da <;> simp [Builtin.copy_, run_underlying et.h.ht, Builtin.lenOf, sizeOf, typeInfo, hi, h2, hn, hfc, storeCells] <;> rfl
    · simp only [Nat.zero_mul, List.take_zero, List.append_nil, Nat.add_zero, List.take_append_drop]
      exact h.change1 he (Upd.refl _ _) (h.ent he) fun j hj => .inl hj
  · have hpos : 0 < n * sz := Nat.mul_pos (by omega) et.pos
    obtain ⟨b', o', ha, hl⟩ := hr.loads (P := P) (n := n) (by omega) hpos
    have hlw : (ws.take (n * sz)).length = n * sz := by
      have h5 := hr.1
      have h6 : n * sz ≤ p.len * sz := Nat.mul_le_mul_right _ hmin1
      simp; omega
    have hfit : n * sz ≤ dl * sz := Nat.mul_le_mul_right _ hmin2
    have h1' : ∀ v ∈ ws.take (n * sz), v.oneCell' = true := fun v hv => h1 v (List.mem_of_mem_take hv)
    have hst := Blk.store (P := P) (h.blk he) (o := o) (news := ws.take (n * sz)) (by omega) h1'
    rw [hlw] at hst
    refine RunN.of (kd := .int .i64) (x := ((n : Nat) : Int)) ?_ (hk _ (h.change1 he (Upd.setRow _ _ _ rfl) ⟨⟨(h.ent he).1.1, (h.blk he).row _⟩, fun u hu => ?_⟩ fun j hj => .inl hj))
    · rw [hda (by omega), ha]
      simp [Builtin.copy_, run_underlying et.h.ht, Builtin.lenOf, Builtin.firstCells, sizeOf, typeInfo, hi, h2, hn, hl, hst, hgo]
      rfl
    · simp only [Ent.vals] at hu
      rcases List.mem_append.1 hu with hu | hu
      · rcases List.mem_append.1 hu with hu | hu
        · exact h.one1 he u (List.mem_of_mem_take hu)
        · exact h1' u hu
      · exact h.one1 he u (List.mem_of_mem_drop hu)
theorem run_subLHM {t e : TypeId} {sz by_ : Nat} [et : Et P t e sz by_] {s : Sl} {k kh km : IntKind} {l h m : Int} {lo hi mx : Nat} (hl : l = (lo : Int)) (hh : h = (hi : Int)) (hm : m = (mx : Int)) (h1 : lo ≤ hi) (h2 : hi ≤ mx) (h3 : mx ≤ s.cap) :
    ∃ q : Sl, (Instr.sliceAt t (.slice s.a s.len s.cap) (some (.int k l)) (some (.int kh h)) (some (.int km m))).run P w = .ok (.slice q.a q.len q.cap) w := by
  subst hl; subst hh; subst hm
  rw [run_sliceAt_slice w t _ _ _ _ (elem_of et.h), run_slice_lhm w t s.a s.len s.cap (elem_of et.h) k kh km _ _ _ (by omega) (by omega) (by omega) (by omega), run_size et.h]
  exact ⟨⟨_, _, _⟩, rfl⟩
end
end Go.Fw

/- Steps on structs of two and of six numbers, on channels. -/
set_option linter.unusedVariables false
set_option linter.unusedSimpArgs false
namespace Go.Fw
open Go Go.RowKit
variable {P : Program} {w0 w : World} {G : Grps}
abbrev Kd2 : Kd := .agg (.cons (.int .i64) (.cons (.int .i64) .nilT))
abbrev Kd6 : Kd := .agg (.cons (.int .i64) (.cons (.int .i64) (.cons (.int .i64) (.cons (.int .i64) (.cons (.int .i64) (.cons (.int .i64) .nilT))))))
theorem St.load2 (h : St w0 w G) (k i : Nat) {b : Nat} {t : TypeId} {x y : Int} (he : Has G k i (.cel b t [.int .i64 x, .int .i64 y])) {t' : TypeId} [Ag P t' 2] {p : Addr} (hp : p = ⟨b, 0, none⟩) {K : (Int × Int × Unit) → World → Prop} (hk : K (x, y, ()) w) :
    RunN P (.agg (.cons (.int .i64) (.cons (.int .i64) .nilT))) (V (Instr.loadAt t' (.pointer (some p)))) w K := RunN.of (kd := Kd2) (x := (x, y, ())) (h.run_loadA he hp rfl rfl) hk
theorem St.read2 (h : St w0 w G) (k i : Nat) {b : Nat} {t : TypeId} {x y : Int} (he : Has G k i (.cel b t [.int .i64 x, .int .i64 y])) {t' : TypeId} [Ag P t' 2] {p : Addr} (hp : p = ⟨b, 0, none⟩) {K : (Int × Int × Unit) → Prop} (hk : K (x, y, ())) :
    ReadN P (.agg (.cons (.int .i64) (.cons (.int .i64) .nilT))) (V (Instr.loadAt t' (.pointer (some p)))) w K := ReadN.of (kd := Kd2) (x := (x, y, ())) (h.run_loadA he hp rfl rfl) hk
theorem St.still2 (h : St w0 w G) (k i : Nat) {b : Nat} {t : TypeId} {x y : Int} (he : Has G k i (.cel b t [.int .i64 x, .int .i64 y])) {t' : TypeId} [Ag P t' 2] {p : Addr} (hp : p = ⟨b, 0, none⟩) :
    StillV P (V (Instr.loadAt t' (.pointer (some p)))) (.agg #[.int .i64 x, .int .i64 y]) w := StillV.of (h.run_loadA he hp rfl rfl)
theorem St.stor2 (h : St w0 w G) (k i : Nat) {b : Nat} {t : TypeId} {x y u v : Int} (he : Has G k i (.cel b t [.int .i64 x, .int .i64 y])) {t' : TypeId} [Ag P t' 2] {p : Addr} (hp : p = ⟨b, 0, none⟩) {K : World → Prop}
    (hk : ∀ w', St w0 w' (updG G k i [.cel b t [.int .i64 u, .int .i64 v]]) → K w') : RunU P (U (Instr.storeAt t' (.pointer (some p)) (.agg #[.int .i64 u, .int .i64 v]))) w K :=
  h.storA k i he (t' := t') (n := 2) (j := 0) hp (ds := [.int .i64 u, .int .i64 v]) rfl rfl rfl hk
theorem St.load6 (h : St w0 w G) (k i : Nat) {b : Nat} {t : TypeId} {x y u v m n : Int} (he : Has G k i (.cel b t [.int .i64 x, .int .i64 y, .int .i64 u, .int .i64 v, .int .i64 m, .int .i64 n])) {t' : TypeId} [Ag P t' 6] {p : Addr} (hp : p = ⟨b, 0, none⟩) {K : (Int × Int × Int × Int × Int × Int × Unit) → World → Prop} (hk : K (x, y, u, v, m, n, ()) w) :
    RunN P (.agg (.cons (.int .i64) (.cons (.int .i64) (.cons (.int .i64) (.cons (.int .i64) (.cons (.int .i64) (.cons (.int .i64) .nilT))))))) (V (Instr.loadAt t' (.pointer (some p)))) w K := RunN.of (kd := Kd6) (x := (x, y, u, v, m, n, ())) (h.run_loadA he hp rfl rfl) hk
theorem RunN.k2Ne {t : TypeId} [K2 P t] {x y : Operand} {a b c d : Int} {K : Bool → World → Prop} (h : K (!(a == c && b == d)) w) : RunN P .bool (V (do eqGuard .neq t x y (kv2 a b) (kv2 c d); binOp .neq t (kv2 a b) (kv2 c d))) w K := RunN.of (kd := .bool) (K2.neV w x y a b c d) h
/-! ### channels -/
theorem St.send (h : St w0 w G) (k i : Nat) {b cap s r : Nat} {buf : List Value} (he : Has G k i (.obj b (.chan cap ⟨buf⟩ false s r false))) (hroom : buf.length < cap) {e : TypeId} {z v : Value} (hz : (zeroValue e).run P w = .ok z w) {Kg Kn : World → Prop}
    (hk : ∀ w', St w0 w' (updG G k i [.obj b (.chan cap ⟨buf ++ [v]⟩ false (s + 1) r false)]) → Kg w') : SendB P e (some b) v w Kg Kn :=
  ⟨b, cap, buf, s, r, z, rfl, h.ob he, hz, .inl ⟨hroom, hk _ (h.setOb he _)⟩⟩
theorem St.recv (h : St w0 w G) (k i : Nat) {b cap s r : Nat} {buf : List Value} {kd : Kd} {x : kd.T} (he : Has G k i (.obj b (.chan cap ⟨kd.val x :: buf⟩ false s r false))) {e : TypeId} {z : Value} (hz : (zeroValue e).run P w = .ok z w) {Kg : kd.T → World → Prop} {Kn : Value → World → Prop}
    (hk : ∀ w', St w0 w' (updG G k i [.obj b (.chan cap ⟨buf⟩ false s (r + 1) false)]) → Kg x w') : RecvB P kd e (some b) w Kg Kn :=
  ⟨b, cap, _, s, r, z, rfl, h.ob he, hz, .inr ⟨x, buf, rfl, hk _ (h.setOb he _)⟩⟩
theorem St.recvNo (h : St w0 w G) (k i : Nat) {b cap s r : Nat} (he : Has G k i (.obj b (.chan cap ⟨[]⟩ false s r false))) {kd : Kd} {e : TypeId} {z : Value} (hz : (zeroValue e).run P w = .ok z w) {Kg : kd.T → World → Prop} {Kn : Value → World → Prop}
    (hk : Kn z w) : RecvB P kd e (some b) w Kg Kn :=
  ⟨b, cap, [], s, r, z, rfl, h.ob he, hz, .inl ⟨rfl, hk⟩⟩
end Go.Fw

/- The epoch's machine in memory: types, places. -/
namespace Go.Proofs.Ytmfbmfppjdkeeaa
open Go Go.Fw Go.RowKit
set_option linter.unusedVariables false
set_option linter.unusedSimpArgs false
set_option maxRecDepth 4000

instance : Sc Try.prog 3 := ⟨by kernel_rfl⟩
instance : Sc Try.prog 4 := ⟨by kernel_rfl⟩
instance : Sc Try.prog 26 := ⟨by kernel_rfl⟩
instance : Sc Try.prog 42 := ⟨by kernel_rfl⟩
instance : Sc Try.prog 43 := ⟨by kernel_rfl⟩
instance : Sc Try.prog 48 := ⟨by kernel_rfl⟩
instance : Sc Try.prog 49 := ⟨by kernel_rfl⟩
instance : Sc Try.prog 50 := ⟨by kernel_rfl⟩
instance : Sc Try.prog 66 := ⟨by kernel_rfl⟩
instance : Sc Try.prog 78 := ⟨by kernel_rfl⟩
instance : Sc Try.prog 82 := ⟨by kernel_rfl⟩
instance : Sc Try.prog 97 := ⟨by kernel_rfl⟩
instance : Sc Try.prog 109 := ⟨by kernel_rfl⟩
instance : Ag Try.prog 54 2 := ⟨by kernel_rfl⟩
instance : Ag Try.prog 70 6 := ⟨by kernel_rfl⟩
instance : Ag Try.prog 114 6 := ⟨by kernel_rfl⟩
instance : Ag Try.prog 118 4 := ⟨by kernel_rfl⟩
instance : Ag Try.prog 56 12 := ⟨by kernel_rfl⟩
instance : Ag Try.prog 98 16 := ⟨by kernel_rfl⟩
instance : Et Try.prog 26 3 1 8 := ⟨ET.of (by kernel_rfl), by decide⟩
instance : Et Try.prog 66 70 6 48 := ⟨ET.of (by kernel_rfl), by decide⟩
instance : Et Try.prog 78 54 2 16 := ⟨ET.of (by kernel_rfl), by decide⟩
instance : Et Try.prog 82 114 6 48 := ⟨ET.of (by kernel_rfl), by decide⟩
instance : Et Try.prog 109 118 4 32 := ⟨ET.of (by kernel_rfl), by decide⟩
instance : Et Try.prog 49 66 1 24 := ⟨ET.of (by kernel_rfl), by decide⟩
instance : Et Try.prog 50 78 1 24 := ⟨ET.of (by kernel_rfl), by decide⟩
instance : Et Try.prog 22 56 12 88 := ⟨ET.of (by kernel_rfl), by decide⟩
instance : Ar Try.prog 98 16 := Ar.of (e := 3) (by kernel_rfl) (by kernel_rfl)
instance : NewC Try.prog 54 [.int .i64 0, .int .i64 0] := ⟨fun _ => by kernel_rfl⟩
instance : NewC Try.prog 70 [.int .i64 0, .int .i64 0, .int .i64 0, .int .i64 0, .int .i64 0, .int .i64 0] := ⟨fun _ => by kernel_rfl⟩
instance : K2 Try.prog 54 := K2.of (ti := 3) (by kernel_rfl) (by kernel_rfl) (by kernel_rfl) (by kernel_rfl) (fun _ _ _ => by kernel_rfl) (fun _ _ _ => by kernel_rfl) (fun _ _ _ _ => by kernel_rfl) (by kernel_rfl)
instance : PtE Try.prog 42 := ⟨fun _ _ _ _ => by kernel_rfl, fun _ _ _ => by kernel_rfl, fun _ _ _ _ => by kernel_rfl, fun _ _ _ => by kernel_rfl⟩
instance : PtE Try.prog 43 := ⟨fun _ _ _ _ => by kernel_rfl, fun _ _ _ => by kernel_rfl, fun _ _ _ _ => by kernel_rfl, fun _ _ _ => by kernel_rfl⟩
theorem zero70 (w : World) : (zeroValue 70).run Try.prog w = .ok (.agg ⟨[.int .i64 0, .int .i64 0, .int .i64 0, .int .i64 0, .int .i64 0, .int .i64 0]⟩) w := by kernel_rfl
theorem max_i (w : World) (a b : Int) : (Builtin.max_ #[3, 3] 3 #[.int .i64 a, .int .i64 b]).run Try.prog w = .ok (.int .i64 (max a b)) w := by
  rw [run_max_int2]
  congr 2
  omega
end Go.Proofs.Ytmfbmfppjdkeeaa

/- The epoch's machine: what lives. -/
namespace Go.Proofs.Ytmfbmfppjdkeeaa
open Go Go.Fw Go.RowKit
set_option linter.unusedVariables false
set_option linter.unusedSimpArgs false
set_option maxRecDepth 4000
set_option maxHeartbeats 2000000
variable {w0 w : World} {F G : Grps}

abbrev Ep := Int × Int
def epv (e : Ep) : List Value := [.int .i64 e.1, .int .i64 e.2]
theorem epv_len (e : Ep) : (epv e).length = 2 := rfl
abbrev eps (l : List Ep) : List Value := l.flatMap epv
abbrev A6 := Int × Int × Int × Int × Int × Int
def acv (a : A6) : List Value := [.int .i64 a.1, .int .i64 a.2.1, .int .i64 a.2.2.1, .int .i64 a.2.2.2.1, .int .i64 a.2.2.2.2.1, .int .i64 a.2.2.2.2.2]
theorem acv_len (e : A6) : (acv e).length = 6 := rfl
abbrev acs (l : List A6) : List Value := l.flatMap acv
def act (a : A6) : (Int × Int × Int × Int × Int × Int × Unit) := (a.1, a.2.1, a.2.2.1, a.2.2.2.1, a.2.2.2.2.1, a.2.2.2.2.2, ())
def aco (a : A6) : Value := .agg ⟨acv a⟩
structure Mv where
  me : Nat
  n : Nat
  kn : List Int
  fi : List Int
  re : List Int
  needs : Bool
structure Em extends Mv where
  cb : Nat
  ch : Nat
  cs : Nat
  cr : Nat
def emC (e : Em) : List Value := [.int .i64 (e.me : Int), .int .i64 (e.n : Int)] ++ (lin e.kn ++ (lin e.fi ++ (lin e.re ++ [.bool e.needs, .chan (some e.ch)])))
def emE (e : Em) (q : List A6) : List Ent := [.cel e.cb 100 (emC e), .obj e.ch (.chan 4 ⟨q.map aco⟩ false e.cs e.cr false)]
abbrev Em.p (e : Em) : Option Addr := some ⟨e.cb, 0, none⟩
structure Mv.wf (e : Mv) : Prop where
  n : 2 ≤ e.n ∧ e.n ≤ 16
  me : e.me < e.n
  kl : e.kn.length = 16
  fl : e.fi.length = 16
  rl : e.re.length = 16
  kb : ∀ x ∈ e.kn, 0 ≤ x ∧ x ≤ 1099511627776
  fb : ∀ x ∈ e.fi, 0 ≤ x ∧ x ≤ 1099511627776
  rb : ∀ x ∈ e.re, -1 ≤ x ∧ x ≤ 1099511627776
def gI (l : List Int) (i : Nat) : Int := l[i]?.getD 0
theorem gI_some {l : List Int} {i : Nat} (h : i < l.length) : l[i]? = some (gI l i) := by rw [gI, List.getElem?_eq_getElem h]; rfl
theorem gI_mem {l : List Int} {i : Nat} (h : i < l.length) : gI l i ∈ l := by rw [gI, List.getElem?_eq_getElem h]; exact List.getElem_mem h
theorem lin_ix {l : List Int} {i : Nat} (h : i < l.length) : (lin l)[i]? = some (.int .i64 (gI l i)) := by rw [lin, List.getElem?_map, gI_some h]; rfl
section
variable {e : Em}
theorem k_at (h : e.wf) {i : Nat} (hi : i < 16) : nthO (emC e) (2 + i) = some (.int .i64 (gI e.kn i)) := by
  rw [nthO_get, emC, List.getElem?_append_right (by simp), List.getElem?_append_left (by simp [lin_len, h.kl]; omega)]
  rw [show 2 + i - ([.int .i64 (e.me : Int), .int .i64 (e.n : Int)] : List Value).length = i by simp]
  exact lin_ix (by rw [h.kl]; exact hi)
theorem f_at (h : e.wf) {i : Nat} (hi : i < 16) : nthO (emC e) (18 + i) = some (.int .i64 (gI e.fi i)) := by
  rw [nthO_get, emC, List.getElem?_append_right (by simp; omega), List.getElem?_append_right (by simp [lin_len, h.kl]; omega), List.getElem?_append_left (by simp [lin_len, h.kl, h.fl]; omega)]
  rw [show 18 + i - ([.int .i64 (e.me : Int), .int .i64 (e.n : Int)] : List Value).length - (lin e.kn).length = i by simp [lin_len, h.kl]; omega]
  exact lin_ix (by rw [h.fl]; exact hi)
theorem r_at (h : e.wf) {i : Nat} (hi : i < 16) : nthO (emC e) (34 + i) = some (.int .i64 (gI e.re i)) := by
  rw [nthO_get, emC, List.getElem?_append_right (by simp; omega), List.getElem?_append_right (by simp [lin_len, h.kl]; omega), List.getElem?_append_right (by simp [lin_len, h.kl, h.fl]; omega), List.getElem?_append_left (by simp [lin_len, h.kl, h.fl, h.rl]; omega)]
  rw [show 34 + i - ([.int .i64 (e.me : Int), .int .i64 (e.n : Int)] : List Value).length - (lin e.kn).length - (lin e.fi).length = i by simp [lin_len, h.kl, h.fl]; omega]
  exact lin_ix (by rw [h.rl]; exact hi)
theorem needs_at (h : e.wf) : nthO (emC e) 50 = some (.bool e.needs) := by
  rw [nthO_get, emC, List.getElem?_append_right (by simp), List.getElem?_append_right (by simp [lin_len, h.kl]), List.getElem?_append_right (by simp [lin_len, h.kl, h.fl]), List.getElem?_append_right (by simp [lin_len, h.kl, h.fl, h.rl])]
  simp [lin_len, h.kl, h.fl, h.rl]
theorem ch_at (h : e.wf) : nthO (emC e) 51 = some (.chan (some e.ch)) := by
  rw [nthO_get, emC, List.getElem?_append_right (by simp), List.getElem?_append_right (by simp [lin_len, h.kl]), List.getElem?_append_right (by simp [lin_len, h.kl, h.fl]), List.getElem?_append_right (by simp [lin_len, h.kl, h.fl, h.rl])]
  simp [lin_len, h.kl, h.fl, h.rl]
theorem emC_len (h : e.wf) : (emC e).length = 52 := by simp [emC, lin_len, h.kl, h.fl, h.rl]
theorem lin_set (l : List Int) (i : Nat) (x : Int) : (lin l).set i (.int .i64 x) = lin (l.set i x) := by rw [lin, lin, List.map_set]
theorem k_set (h : e.wf) {i : Nat} (hi : i < 16) (x : Int) : setO (emC e) (2 + i) (.int .i64 x) = emC { e with kn := e.kn.set i x } := by
  rw [setO_set, emC, List.set_append_right _ _ (by simp), List.set_append_left _ _ (by simp [lin_len, h.kl]; omega)]
  rw [show 2 + i - ([.int .i64 (e.me : Int), .int .i64 (e.n : Int)] : List Value).length = i by simp, lin_set]; rfl
theorem f_set (h : e.wf) {i : Nat} (hi : i < 16) (x : Int) : setO (emC e) (18 + i) (.int .i64 x) = emC { e with fi := e.fi.set i x } := by
  rw [setO_set, emC, List.set_append_right _ _ (by simp; omega), List.set_append_right _ _ (by simp [lin_len, h.kl]; omega), List.set_append_left _ _ (by simp [lin_len, h.kl, h.fl]; omega)]
  rw [show 18 + i - ([.int .i64 (e.me : Int), .int .i64 (e.n : Int)] : List Value).length - (lin e.kn).length = i by simp [lin_len, h.kl]; omega, lin_set]; rfl
theorem r_set (h : e.wf) {i : Nat} (hi : i < 16) (x : Int) : setO (emC e) (34 + i) (.int .i64 x) = emC { e with re := e.re.set i x } := by
  rw [setO_set, emC, List.set_append_right _ _ (by simp; omega), List.set_append_right _ _ (by simp [lin_len, h.kl]; omega), List.set_append_right _ _ (by simp [lin_len, h.kl, h.fl]; omega), List.set_append_left _ _ (by simp [lin_len, h.kl, h.fl, h.rl]; omega)]
  rw [show 34 + i - ([.int .i64 (e.me : Int), .int .i64 (e.n : Int)] : List Value).length - (lin e.kn).length - (lin e.fi).length = i by simp [lin_len, h.kl, h.fl]; omega, lin_set]; rfl
theorem needs_set (h : e.wf) (x : Bool) : setO (emC e) 50 (.bool x) = emC { e with needs := x } := by
  rw [setO_set, emC, List.set_append_right _ _ (by simp), List.set_append_right _ _ (by simp [lin_len, h.kl]), List.set_append_right _ _ (by simp [lin_len, h.kl, h.fl]), List.set_append_right _ _ (by simp [lin_len, h.kl, h.fl, h.rl])]
  rw [show 50 - ([.int .i64 (e.me : Int), .int .i64 (e.n : Int)] : List Value).length - (lin e.kn).length - (lin e.fi).length - (lin e.re).length = 0 by simp [lin_len, h.kl, h.fl, h.rl]]; rfl
end
/-! ### what lives -/
def Mv.lv (e : Mv) (i : Nat) : Bool := decide (gI e.kn i > gI e.fi i)
def Mv.ep (e : Mv) (i : Nat) : Ep := if e.lv i = true then (gI e.kn i, (i : Int)) else (0, 0)
def Mv.lives (e : Mv) : List Ep := ((List.range e.n).filter e.lv).map fun i => (gI e.kn i, (i : Int))
def topE (l : List Ep) : Ep := l.foldl (fun t x => if x.1 ≥ t.1 then x else t) (0, 0)
def Mv.top (e : Mv) : Ep := topE e.lives
def Mv.own (e : Mv) : Ep := e.ep e.me
def someE (x : Ep) : Bool := !(x.1 == 0 && x.2 == 0)
theorem some_st (h : St w0 w F) (x y : Int) : CallK Try.prog .bool 48 #[.agg #[.int .i64 x, .int .i64 y]] w fun (v : Bool) w' => v = someE (x, y) ∧ St w0 w' F := by
  refine T48.calls (p0 := (x, y, ())) ?_
  unfold T48
  refine h.newB run_boxA rfl ?_
  intro bn w h
  refine h.load2 0 0 ⟨_, rfl, rfl⟩ rfl ?_
  refine RunN.k2Ne ?_
  exact ⟨rfl, h.drop 0⟩
theorem live_st {e : Em} {q : List A6} (h : St w0 w (emE e q :: F)) (hw : e.wf) {i : Nat} (hi : i < 16) : CallK Try.prog (.tup (.cons (.agg (.cons (.int .i64) (.cons (.int .i64) .nilT))) (.cons .bool .nilT))) 56 #[.pointer e.p, .int .i64 (i : Int)] w
    fun (v : (Int × Int × Unit) × Bool × Unit) w' => v = (((e.ep i).1, (e.ep i).2, ()), e.lv i, ()) ∧ St w0 w' (emE e q :: F) := by
  refine T56.calls ?_
  unfold T56
  repeat (first | (with_reducible refine NilP.mk ?_) | ((with_reducible refine RunN.isLoad ?_); (first | refine h.load2 0 0 ⟨_, rfl, rfl⟩ rfl ?_ | refine h.loadB 0 0 ⟨_, rfl, rfl⟩ rfl rfl ?_ | refine h.load2 1 0 ⟨_, rfl, rfl⟩ rfl ?_ | refine h.loadB 1 0 ⟨_, rfl, rfl⟩ rfl rfl ?_ | refine h.drew.load2 0 0 ⟨_, rfl, rfl⟩ rfl ?_ | refine h.drew.loadB 0 0 ⟨_, rfl, rfl⟩ rfl rfl ?_ | refine h.drew.load2 1 0 ⟨_, rfl, rfl⟩ rfl ?_ | refine h.drew.loadB 1 0 ⟨_, rfl, rfl⟩ rfl rfl ?_)) | ((with_reducible refine ReadN.isLoad ?_); (first | refine h.read2 0 0 ⟨_, rfl, rfl⟩ rfl ?_ | refine h.readB 0 0 ⟨_, rfl, rfl⟩ rfl rfl ?_ | refine h.read2 1 0 ⟨_, rfl, rfl⟩ rfl ?_ | refine h.readB 1 0 ⟨_, rfl, rfl⟩ rfl rfl ?_ | refine h.drew.read2 0 0 ⟨_, rfl, rfl⟩ rfl ?_ | refine h.drew.readB 0 0 ⟨_, rfl, rfl⟩ rfl rfl ?_ | refine h.drew.read2 1 0 ⟨_, rfl, rfl⟩ rfl ?_ | refine h.drew.readB 1 0 ⟨_, rfl, rfl⟩ rfl rfl ?_)) | ((with_reducible refine StillV.isLoad ?_); (first | refine ⟨h.stillB 0 0 ⟨_, rfl, rfl⟩ rfl rfl, ?_⟩ | refine ⟨h.still2 0 0 ⟨_, rfl, rfl⟩ rfl, ?_⟩ | refine ⟨h.stillB 1 0 ⟨_, rfl, rfl⟩ rfl rfl, ?_⟩ | refine ⟨h.still2 1 0 ⟨_, rfl, rfl⟩ rfl, ?_⟩)) | ((with_reducible refine RunU.isStor ?_); (first | (refine h.stor2 0 0 ⟨_, rfl, rfl⟩ rfl ?_; intro w h; dsimp only [updG, setO] at h) | (refine h.storB 0 0 ⟨_, rfl, rfl⟩ rfl rfl rfl ?_; intro w h; dsimp only [updG, setO] at h) | (refine h.stor2 1 0 ⟨_, rfl, rfl⟩ rfl ?_; intro w h; dsimp only [updG, setO] at h) | (refine h.storB 1 0 ⟨_, rfl, rfl⟩ rfl rfl rfl ?_; intro w h; dsimp only [updG, setO] at h) | (refine h.drew.stor2 0 0 ⟨_, rfl, rfl⟩ rfl ?_; intro w h; dsimp only [updG, setO] at h) | (refine h.drew.storB 0 0 ⟨_, rfl, rfl⟩ rfl rfl rfl ?_; intro w h; dsimp only [updG, setO] at h) | (refine h.drew.stor2 1 0 ⟨_, rfl, rfl⟩ rfl ?_; intro w h; dsimp only [updG, setO] at h) | (refine h.drew.storB 1 0 ⟨_, rfl, rfl⟩ rfl rfl rfl ?_; intro w h; dsimp only [updG, setO] at h))) | ((with_reducible refine RunN.isBox ?_); (first | (refine h.newB run_boxA rfl ?_; intro bn w h; try dsimp only at h; have h := h.ord 2 [1, 0]; dsimp only [pick, nthO, dropO] at h) | (refine h.drew.newB run_boxA rfl ?_; intro bn w h; try dsimp only at h; have h := h.ord 2 [1, 0]; dsimp only [pick, nthO, dropO] at h))) | ((with_reducible refine RunN.isNew ?_); (first | (refine h.newB (NewC.run _) rfl ?_; intro bn w h; have h := h.ord 2 [1, 0]; dsimp only [pick, nthO, dropO] at h) | (refine h.drew.newB (NewC.run _) rfl ?_; intro bn w h; have h := h.ord 2 [1, 0]; dsimp only [pick, nthO, dropO] at h))) | (refine RunN.k2Eq ?_) | (refine RunN.k2Ne ?_) | (refine ReadN.k2Eq ?_) | (refine ReadN.k2Ne ?_))
  refine ReadN.arr rfl i rfl hi ?_
  refine h.drew.readB 0 0 ⟨_, rfl, rfl⟩ rfl (kd := .int .i64) (x := gI e.kn i) (k_at hw hi) ?_
  refine NilP.mk ?_
  refine ReadN.arr rfl i rfl hi ?_
  refine h.drew.readB 0 0 ⟨_, rfl, rfl⟩ rfl (kd := .int .i64) (x := gI e.fi i) (f_at hw hi) ?_
  rw [SplitB_iff]
  refine ⟨fun hc => ?_, fun hc => ?_⟩
  · have hl : e.lv i = true := hc
    refine NilP.mk ?_
    refine RunN.arr rfl i rfl hi ?_
    refine h.drew.loadB 0 0 ⟨_, rfl, rfl⟩ rfl (kd := .int .i64) (x := gI e.kn i) (k_at hw hi) ?_
    repeat (first | (with_reducible refine NilP.mk ?_) | ((with_reducible refine RunN.isLoad ?_); (first | refine h.load2 0 0 ⟨_, rfl, rfl⟩ rfl ?_ | refine h.loadB 0 0 ⟨_, rfl, rfl⟩ rfl rfl ?_ | refine h.load2 1 0 ⟨_, rfl, rfl⟩ rfl ?_ | refine h.loadB 1 0 ⟨_, rfl, rfl⟩ rfl rfl ?_ | refine h.drew.load2 0 0 ⟨_, rfl, rfl⟩ rfl ?_ | refine h.drew.loadB 0 0 ⟨_, rfl, rfl⟩ rfl rfl ?_ | refine h.drew.load2 1 0 ⟨_, rfl, rfl⟩ rfl ?_ | refine h.drew.loadB 1 0 ⟨_, rfl, rfl⟩ rfl rfl ?_)) | ((with_reducible refine ReadN.isLoad ?_); (first | refine h.read2 0 0 ⟨_, rfl, rfl⟩ rfl ?_ | refine h.readB 0 0 ⟨_, rfl, rfl⟩ rfl rfl ?_ | refine h.read2 1 0 ⟨_, rfl, rfl⟩ rfl ?_ | refine h.readB 1 0 ⟨_, rfl, rfl⟩ rfl rfl ?_ | refine h.drew.read2 0 0 ⟨_, rfl, rfl⟩ rfl ?_ | refine h.drew.readB 0 0 ⟨_, rfl, rfl⟩ rfl rfl ?_ | refine h.drew.read2 1 0 ⟨_, rfl, rfl⟩ rfl ?_ | refine h.drew.readB 1 0 ⟨_, rfl, rfl⟩ rfl rfl ?_)) | ((with_reducible refine StillV.isLoad ?_); (first | refine ⟨h.stillB 0 0 ⟨_, rfl, rfl⟩ rfl rfl, ?_⟩ | refine ⟨h.still2 0 0 ⟨_, rfl, rfl⟩ rfl, ?_⟩ | refine ⟨h.stillB 1 0 ⟨_, rfl, rfl⟩ rfl rfl, ?_⟩ | refine ⟨h.still2 1 0 ⟨_, rfl, rfl⟩ rfl, ?_⟩)) | ((with_reducible refine RunU.isStor ?_); (first | (refine h.stor2 0 0 ⟨_, rfl, rfl⟩ rfl ?_; intro w h; dsimp only [updG, setO] at h) | (refine h.storB 0 0 ⟨_, rfl, rfl⟩ rfl rfl rfl ?_; intro w h; dsimp only [updG, setO] at h) | (refine h.stor2 1 0 ⟨_, rfl, rfl⟩ rfl ?_; intro w h; dsimp only [updG, setO] at h) | (refine h.storB 1 0 ⟨_, rfl, rfl⟩ rfl rfl rfl ?_; intro w h; dsimp only [updG, setO] at h) | (refine h.drew.stor2 0 0 ⟨_, rfl, rfl⟩ rfl ?_; intro w h; dsimp only [updG, setO] at h) | (refine h.drew.storB 0 0 ⟨_, rfl, rfl⟩ rfl rfl rfl ?_; intro w h; dsimp only [updG, setO] at h) | (refine h.drew.stor2 1 0 ⟨_, rfl, rfl⟩ rfl ?_; intro w h; dsimp only [updG, setO] at h) | (refine h.drew.storB 1 0 ⟨_, rfl, rfl⟩ rfl rfl rfl ?_; intro w h; dsimp only [updG, setO] at h))) | ((with_reducible refine RunN.isBox ?_); (first | (refine h.newB run_boxA rfl ?_; intro bn w h; try dsimp only at h; have h := h.ord 2 [1, 0]; dsimp only [pick, nthO, dropO] at h) | (refine h.drew.newB run_boxA rfl ?_; intro bn w h; try dsimp only at h; have h := h.ord 2 [1, 0]; dsimp only [pick, nthO, dropO] at h))) | ((with_reducible refine RunN.isNew ?_); (first | (refine h.newB (NewC.run _) rfl ?_; intro bn w h; have h := h.ord 2 [1, 0]; dsimp only [pick, nthO, dropO] at h) | (refine h.drew.newB (NewC.run _) rfl ?_; intro bn w h; have h := h.ord 2 [1, 0]; dsimp only [pick, nthO, dropO] at h))) | (refine RunN.k2Eq ?_) | (refine RunN.k2Ne ?_) | (refine ReadN.k2Eq ?_) | (refine ReadN.k2Ne ?_))
    refine ⟨?_, h.drop 1⟩
    rw [Mv.ep, hl]; rfl
  · have hl : e.lv i = false := hc
    repeat (first | (with_reducible refine NilP.mk ?_) | ((with_reducible refine RunN.isLoad ?_); (first | refine h.load2 0 0 ⟨_, rfl, rfl⟩ rfl ?_ | refine h.loadB 0 0 ⟨_, rfl, rfl⟩ rfl rfl ?_ | refine h.load2 1 0 ⟨_, rfl, rfl⟩ rfl ?_ | refine h.loadB 1 0 ⟨_, rfl, rfl⟩ rfl rfl ?_ | refine h.drew.load2 0 0 ⟨_, rfl, rfl⟩ rfl ?_ | refine h.drew.loadB 0 0 ⟨_, rfl, rfl⟩ rfl rfl ?_ | refine h.drew.load2 1 0 ⟨_, rfl, rfl⟩ rfl ?_ | refine h.drew.loadB 1 0 ⟨_, rfl, rfl⟩ rfl rfl ?_)) | ((with_reducible refine ReadN.isLoad ?_); (first | refine h.read2 0 0 ⟨_, rfl, rfl⟩ rfl ?_ | refine h.readB 0 0 ⟨_, rfl, rfl⟩ rfl rfl ?_ | refine h.read2 1 0 ⟨_, rfl, rfl⟩ rfl ?_ | refine h.readB 1 0 ⟨_, rfl, rfl⟩ rfl rfl ?_ | refine h.drew.read2 0 0 ⟨_, rfl, rfl⟩ rfl ?_ | refine h.drew.readB 0 0 ⟨_, rfl, rfl⟩ rfl rfl ?_ | refine h.drew.read2 1 0 ⟨_, rfl, rfl⟩ rfl ?_ | refine h.drew.readB 1 0 ⟨_, rfl, rfl⟩ rfl rfl ?_)) | ((with_reducible refine StillV.isLoad ?_); (first | refine ⟨h.stillB 0 0 ⟨_, rfl, rfl⟩ rfl rfl, ?_⟩ | refine ⟨h.still2 0 0 ⟨_, rfl, rfl⟩ rfl, ?_⟩ | refine ⟨h.stillB 1 0 ⟨_, rfl, rfl⟩ rfl rfl, ?_⟩ | refine ⟨h.still2 1 0 ⟨_, rfl, rfl⟩ rfl, ?_⟩)) | ((with_reducible refine RunU.isStor ?_); (first | (refine h.stor2 0 0 ⟨_, rfl, rfl⟩ rfl ?_; intro w h; dsimp only [updG, setO] at h) | (refine h.storB 0 0 ⟨_, rfl, rfl⟩ rfl rfl rfl ?_; intro w h; dsimp only [updG, setO] at h) | (refine h.stor2 1 0 ⟨_, rfl, rfl⟩ rfl ?_; intro w h; dsimp only [updG, setO] at h) | (refine h.storB 1 0 ⟨_, rfl, rfl⟩ rfl rfl rfl ?_; intro w h; dsimp only [updG, setO] at h) | (refine h.drew.stor2 0 0 ⟨_, rfl, rfl⟩ rfl ?_; intro w h; dsimp only [updG, setO] at h) | (refine h.drew.storB 0 0 ⟨_, rfl, rfl⟩ rfl rfl rfl ?_; intro w h; dsimp only [updG, setO] at h) | (refine h.drew.stor2 1 0 ⟨_, rfl, rfl⟩ rfl ?_; intro w h; dsimp only [updG, setO] at h) | (refine h.drew.storB 1 0 ⟨_, rfl, rfl⟩ rfl rfl rfl ?_; intro w h; dsimp only [updG, setO] at h))) | ((with_reducible refine RunN.isBox ?_); (first | (refine h.newB run_boxA rfl ?_; intro bn w h; try dsimp only at h; have h := h.ord 2 [1, 0]; dsimp only [pick, nthO, dropO] at h) | (refine h.drew.newB run_boxA rfl ?_; intro bn w h; try dsimp only at h; have h := h.ord 2 [1, 0]; dsimp only [pick, nthO, dropO] at h))) | ((with_reducible refine RunN.isNew ?_); (first | (refine h.newB (NewC.run _) rfl ?_; intro bn w h; have h := h.ord 2 [1, 0]; dsimp only [pick, nthO, dropO] at h) | (refine h.drew.newB (NewC.run _) rfl ?_; intro bn w h; have h := h.ord 2 [1, 0]; dsimp only [pick, nthO, dropO] at h))) | (refine RunN.k2Eq ?_) | (refine RunN.k2Ne ?_) | (refine ReadN.k2Eq ?_) | (refine ReadN.k2Ne ?_))
    refine ⟨?_, h.drop 1⟩
    rw [Mv.ep, hl]; rfl
theorem own_st {e : Em} {q : List A6} (h : St w0 w (emE e q :: F)) (hw : e.wf) : CallK Try.prog (.agg (.cons (.int .i64) (.cons (.int .i64) .nilT))) 25 #[.pointer e.p] w
    fun (v : Int × Int × Unit) w' => v = (e.own.1, e.own.2, ()) ∧ St w0 w' (emE e q :: F) := by
  refine T25.calls ?_
  unfold T25
  repeat (first | (with_reducible refine NilP.mk ?_) | ((with_reducible refine RunN.isLoad ?_); (first | refine h.load2 0 0 ⟨_, rfl, rfl⟩ rfl ?_ | refine h.loadB 0 0 ⟨_, rfl, rfl⟩ rfl rfl ?_ | refine h.load2 1 0 ⟨_, rfl, rfl⟩ rfl ?_ | refine h.loadB 1 0 ⟨_, rfl, rfl⟩ rfl rfl ?_ | refine h.drew.load2 0 0 ⟨_, rfl, rfl⟩ rfl ?_ | refine h.drew.loadB 0 0 ⟨_, rfl, rfl⟩ rfl rfl ?_ | refine h.drew.load2 1 0 ⟨_, rfl, rfl⟩ rfl ?_ | refine h.drew.loadB 1 0 ⟨_, rfl, rfl⟩ rfl rfl ?_)) | ((with_reducible refine ReadN.isLoad ?_); (first | refine h.read2 0 0 ⟨_, rfl, rfl⟩ rfl ?_ | refine h.readB 0 0 ⟨_, rfl, rfl⟩ rfl rfl ?_ | refine h.read2 1 0 ⟨_, rfl, rfl⟩ rfl ?_ | refine h.readB 1 0 ⟨_, rfl, rfl⟩ rfl rfl ?_ | refine h.drew.read2 0 0 ⟨_, rfl, rfl⟩ rfl ?_ | refine h.drew.readB 0 0 ⟨_, rfl, rfl⟩ rfl rfl ?_ | refine h.drew.read2 1 0 ⟨_, rfl, rfl⟩ rfl ?_ | refine h.drew.readB 1 0 ⟨_, rfl, rfl⟩ rfl rfl ?_)) | ((with_reducible refine StillV.isLoad ?_); (first | refine ⟨h.stillB 0 0 ⟨_, rfl, rfl⟩ rfl rfl, ?_⟩ | refine ⟨h.still2 0 0 ⟨_, rfl, rfl⟩ rfl, ?_⟩ | refine ⟨h.stillB 1 0 ⟨_, rfl, rfl⟩ rfl rfl, ?_⟩ | refine ⟨h.still2 1 0 ⟨_, rfl, rfl⟩ rfl, ?_⟩)) | ((with_reducible refine RunU.isStor ?_); (first | (refine h.stor2 0 0 ⟨_, rfl, rfl⟩ rfl ?_; intro w h; dsimp only [updG, setO] at h) | (refine h.storB 0 0 ⟨_, rfl, rfl⟩ rfl rfl rfl ?_; intro w h; dsimp only [updG, setO] at h) | (refine h.stor2 1 0 ⟨_, rfl, rfl⟩ rfl ?_; intro w h; dsimp only [updG, setO] at h) | (refine h.storB 1 0 ⟨_, rfl, rfl⟩ rfl rfl rfl ?_; intro w h; dsimp only [updG, setO] at h) | (refine h.drew.stor2 0 0 ⟨_, rfl, rfl⟩ rfl ?_; intro w h; dsimp only [updG, setO] at h) | (refine h.drew.storB 0 0 ⟨_, rfl, rfl⟩ rfl rfl rfl ?_; intro w h; dsimp only [updG, setO] at h) | (refine h.drew.stor2 1 0 ⟨_, rfl, rfl⟩ rfl ?_; intro w h; dsimp only [updG, setO] at h) | (refine h.drew.storB 1 0 ⟨_, rfl, rfl⟩ rfl rfl rfl ?_; intro w h; dsimp only [updG, setO] at h))) | ((with_reducible refine RunN.isBox ?_); (first | (refine h.newB run_boxA rfl ?_; intro bn w h; try dsimp only at h; have h := h.ord 2 [1, 0]; dsimp only [pick, nthO, dropO] at h) | (refine h.drew.newB run_boxA rfl ?_; intro bn w h; try dsimp only at h; have h := h.ord 2 [1, 0]; dsimp only [pick, nthO, dropO] at h))) | ((with_reducible refine RunN.isNew ?_); (first | (refine h.newB (NewC.run _) rfl ?_; intro bn w h; have h := h.ord 2 [1, 0]; dsimp only [pick, nthO, dropO] at h) | (refine h.drew.newB (NewC.run _) rfl ?_; intro bn w h; have h := h.ord 2 [1, 0]; dsimp only [pick, nthO, dropO] at h))) | (refine RunN.k2Eq ?_) | (refine RunN.k2Ne ?_) | (refine ReadN.k2Eq ?_) | (refine ReadN.k2Ne ?_))
  have hme := hw.me
  have hn := hw.n
  refine (live_st h hw (i := e.me) (by omega)).mono ?_
  rintro _ w1 ⟨rfl, h⟩
  repeat (first | (with_reducible refine NilP.mk ?_) | ((with_reducible refine RunN.isLoad ?_); (first | refine h.load2 0 0 ⟨_, rfl, rfl⟩ rfl ?_ | refine h.loadB 0 0 ⟨_, rfl, rfl⟩ rfl rfl ?_ | refine h.load2 1 0 ⟨_, rfl, rfl⟩ rfl ?_ | refine h.loadB 1 0 ⟨_, rfl, rfl⟩ rfl rfl ?_ | refine h.load2 2 0 ⟨_, rfl, rfl⟩ rfl ?_ | refine h.loadB 2 0 ⟨_, rfl, rfl⟩ rfl rfl ?_ | refine h.drew.load2 0 0 ⟨_, rfl, rfl⟩ rfl ?_ | refine h.drew.loadB 0 0 ⟨_, rfl, rfl⟩ rfl rfl ?_ | refine h.drew.load2 1 0 ⟨_, rfl, rfl⟩ rfl ?_ | refine h.drew.loadB 1 0 ⟨_, rfl, rfl⟩ rfl rfl ?_ | refine h.drew.load2 2 0 ⟨_, rfl, rfl⟩ rfl ?_ | refine h.drew.loadB 2 0 ⟨_, rfl, rfl⟩ rfl rfl ?_)) | ((with_reducible refine ReadN.isLoad ?_); (first | refine h.read2 0 0 ⟨_, rfl, rfl⟩ rfl ?_ | refine h.readB 0 0 ⟨_, rfl, rfl⟩ rfl rfl ?_ | refine h.read2 1 0 ⟨_, rfl, rfl⟩ rfl ?_ | refine h.readB 1 0 ⟨_, rfl, rfl⟩ rfl rfl ?_ | refine h.read2 2 0 ⟨_, rfl, rfl⟩ rfl ?_ | refine h.readB 2 0 ⟨_, rfl, rfl⟩ rfl rfl ?_ | refine h.drew.read2 0 0 ⟨_, rfl, rfl⟩ rfl ?_ | refine h.drew.readB 0 0 ⟨_, rfl, rfl⟩ rfl rfl ?_ | refine h.drew.read2 1 0 ⟨_, rfl, rfl⟩ rfl ?_ | refine h.drew.readB 1 0 ⟨_, rfl, rfl⟩ rfl rfl ?_ | refine h.drew.read2 2 0 ⟨_, rfl, rfl⟩ rfl ?_ | refine h.drew.readB 2 0 ⟨_, rfl, rfl⟩ rfl rfl ?_)) | ((with_reducible refine StillV.isLoad ?_); (first | refine ⟨h.stillB 0 0 ⟨_, rfl, rfl⟩ rfl rfl, ?_⟩ | refine ⟨h.still2 0 0 ⟨_, rfl, rfl⟩ rfl, ?_⟩ | refine ⟨h.stillB 1 0 ⟨_, rfl, rfl⟩ rfl rfl, ?_⟩ | refine ⟨h.still2 1 0 ⟨_, rfl, rfl⟩ rfl, ?_⟩ | refine ⟨h.stillB 2 0 ⟨_, rfl, rfl⟩ rfl rfl, ?_⟩ | refine ⟨h.still2 2 0 ⟨_, rfl, rfl⟩ rfl, ?_⟩)) | ((with_reducible refine RunU.isStor ?_); (first | (refine h.stor2 0 0 ⟨_, rfl, rfl⟩ rfl ?_; intro w h; dsimp only [updG, setO] at h) | (refine h.storB 0 0 ⟨_, rfl, rfl⟩ rfl rfl rfl ?_; intro w h; dsimp only [updG, setO] at h) | (refine h.stor2 1 0 ⟨_, rfl, rfl⟩ rfl ?_; intro w h; dsimp only [updG, setO] at h) | (refine h.storB 1 0 ⟨_, rfl, rfl⟩ rfl rfl rfl ?_; intro w h; dsimp only [updG, setO] at h) | (refine h.stor2 2 0 ⟨_, rfl, rfl⟩ rfl ?_; intro w h; dsimp only [updG, setO] at h) | (refine h.storB 2 0 ⟨_, rfl, rfl⟩ rfl rfl rfl ?_; intro w h; dsimp only [updG, setO] at h) | (refine h.drew.stor2 0 0 ⟨_, rfl, rfl⟩ rfl ?_; intro w h; dsimp only [updG, setO] at h) | (refine h.drew.storB 0 0 ⟨_, rfl, rfl⟩ rfl rfl rfl ?_; intro w h; dsimp only [updG, setO] at h) | (refine h.drew.stor2 1 0 ⟨_, rfl, rfl⟩ rfl ?_; intro w h; dsimp only [updG, setO] at h) | (refine h.drew.storB 1 0 ⟨_, rfl, rfl⟩ rfl rfl rfl ?_; intro w h; dsimp only [updG, setO] at h) | (refine h.drew.stor2 2 0 ⟨_, rfl, rfl⟩ rfl ?_; intro w h; dsimp only [updG, setO] at h) | (refine h.drew.storB 2 0 ⟨_, rfl, rfl⟩ rfl rfl rfl ?_; intro w h; dsimp only [updG, setO] at h))) | ((with_reducible refine RunN.isBox ?_); (first | (refine h.newB run_boxA rfl ?_; intro bn w h; try dsimp only at h; have h := h.ord 2 [1, 0]; dsimp only [pick, nthO, dropO] at h) | (refine h.drew.newB run_boxA rfl ?_; intro bn w h; try dsimp only at h; have h := h.ord 2 [1, 0]; dsimp only [pick, nthO, dropO] at h))) | ((with_reducible refine RunN.isNew ?_); (first | (refine h.newB (NewC.run _) rfl ?_; intro bn w h; have h := h.ord 2 [1, 0]; dsimp only [pick, nthO, dropO] at h) | (refine h.drew.newB (NewC.run _) rfl ?_; intro bn w h; have h := h.ord 2 [1, 0]; dsimp only [pick, nthO, dropO] at h))) | (refine RunN.k2Eq ?_) | (refine RunN.k2Ne ?_) | (refine ReadN.k2Eq ?_) | (refine ReadN.k2Ne ?_))
  exact ⟨rfl, (h.drop 1).drop 1⟩
theorem bs78 (w : World) (x y : Int) : (Instr.buildSlice 78 1 #[(0, .agg #[.int .i64 x, .int .i64 y])]).run Try.prog w = .ok (.slice (some ⟨w.heap.size, 0, none⟩) 1 1) (w.alloc (.cells ⟨[.int .i64 x, .int .i64 y]⟩ 54)) := by kernel_rfl
def Mv.livesTo (e : Mv) (m : Nat) : List Ep := ((List.range m).filter e.lv).map fun i => (gI e.kn i, (i : Int))
theorem livesTo_succ (e : Mv) (m : Nat) : e.livesTo (m + 1) = e.livesTo m ++ (if e.lv m = true then [(gI e.kn m, (m : Int))] else []) := by
  rw [Mv.livesTo, List.range_succ, List.filter_append, List.map_append, Mv.livesTo]
  congr 1
  rw [List.filter_cons, List.filter_nil]
  split <;> simp
theorem livesTo_len (e : Mv) (m : Nat) : (e.livesTo m).length ≤ m := by
  rw [Mv.livesTo, List.length_map]
  exact Nat.le_trans (List.length_filter_le _ _) (by simp)
theorem lives_st {e : Em} {q : List A6} (h : St w0 w (emE e q :: F)) (hw : e.wf) : CallK Try.prog .sl 28 #[.pointer e.p] w
    fun (s : Sl) w' => s.len = e.lives.length ∧ St w0 w' ([.row 54 2 s (eps e.lives)] :: emE e q :: F) := by
  refine T28.calls ?_
  unfold T28
  repeat (first | (with_reducible refine NilP.mk ?_) | ((with_reducible refine RunN.isLoad ?_); (first | refine h.load2 0 0 ⟨_, rfl, rfl⟩ rfl ?_ | refine h.loadB 0 0 ⟨_, rfl, rfl⟩ rfl rfl ?_ | refine h.drew.load2 0 0 ⟨_, rfl, rfl⟩ rfl ?_ | refine h.drew.loadB 0 0 ⟨_, rfl, rfl⟩ rfl rfl ?_)) | ((with_reducible refine ReadN.isLoad ?_); (first | refine h.read2 0 0 ⟨_, rfl, rfl⟩ rfl ?_ | refine h.readB 0 0 ⟨_, rfl, rfl⟩ rfl rfl ?_ | refine h.drew.read2 0 0 ⟨_, rfl, rfl⟩ rfl ?_ | refine h.drew.readB 0 0 ⟨_, rfl, rfl⟩ rfl rfl ?_)) | ((with_reducible refine StillV.isLoad ?_); (first | refine ⟨h.stillB 0 0 ⟨_, rfl, rfl⟩ rfl rfl, ?_⟩ | refine ⟨h.still2 0 0 ⟨_, rfl, rfl⟩ rfl, ?_⟩)) | ((with_reducible refine RunU.isStor ?_); (first | (refine h.stor2 0 0 ⟨_, rfl, rfl⟩ rfl ?_; intro w h; dsimp only [updG, setO] at h) | (refine h.storB 0 0 ⟨_, rfl, rfl⟩ rfl rfl rfl ?_; intro w h; dsimp only [updG, setO] at h) | (refine h.drew.stor2 0 0 ⟨_, rfl, rfl⟩ rfl ?_; intro w h; dsimp only [updG, setO] at h) | (refine h.drew.storB 0 0 ⟨_, rfl, rfl⟩ rfl rfl rfl ?_; intro w h; dsimp only [updG, setO] at h))) | ((with_reducible refine RunN.isBox ?_); (first | (refine h.newB run_boxA rfl ?_; intro bn w h; try dsimp only at h; have h := h.ord 2 [1, 0]; dsimp only [pick, nthO, dropO] at h) | (refine h.drew.newB run_boxA rfl ?_; intro bn w h; try dsimp only at h; have h := h.ord 2 [1, 0]; dsimp only [pick, nthO, dropO] at h))) | ((with_reducible refine RunN.isNew ?_); (first | (refine h.newB (NewC.run _) rfl ?_; intro bn w h; have h := h.ord 2 [1, 0]; dsimp only [pick, nthO, dropO] at h) | (refine h.drew.newB (NewC.run _) rfl ?_; intro bn w h; have h := h.ord 2 [1, 0]; dsimp only [pick, nthO, dropO] at h))) | (refine RunN.k2Eq ?_) | (refine RunN.k2Ne ?_) | (refine ReadN.k2Eq ?_) | (refine ReadN.k2Ne ?_))
  have hn := hw.n
  have h := h.nilrow 54 2
  refine LoopX.mk (fun st w' => ∃ (s : Sl) (m : Nat), st = (s, (m : Int), ()) ∧ m ≤ e.n ∧ s.len = (e.livesTo m).length ∧ St w0 w' ([.row 54 2 s (eps (e.livesTo m))] :: emE e q :: F)) (fun st => ((e.n : Int) - st.2.1).toNat) ⟨_, 0, rfl, Nat.zero_le _, rfl, h⟩ ?_
  clear h
  rintro _ w1 ⟨s, m, rfl, hm, hs, h⟩ k hk
  dsimp only at hk ⊢
  rw [SplitB_iff]
  refine ⟨fun hc => ?_, fun hc => ?_⟩
  · have hc : m < e.n := by have : (m : Int) < (e.n : Int) := of_decide_eq_true hc; omega
    have hem : IntKind.i64.wrap ((m : Int) + 1) = ((m + 1 : Nat) : Int) := by rw [wr (by omega)]; omega
    rw [hem]
    have h := h.ord 2 [1, 0]
    refine (live_st h hw (i := m) (by omega)).mono ?_
    rintro _ w2 ⟨rfl, h⟩
    have hll := livesTo_len e.toMv m
    repeat (first | (with_reducible refine NilP.mk ?_) | ((with_reducible refine RunN.isLoad ?_); (first | refine h.load2 0 0 ⟨_, rfl, rfl⟩ rfl ?_ | refine h.loadB 0 0 ⟨_, rfl, rfl⟩ rfl rfl ?_ | refine h.load2 1 0 ⟨_, rfl, rfl⟩ rfl ?_ | refine h.loadB 1 0 ⟨_, rfl, rfl⟩ rfl rfl ?_ | refine h.drew.load2 0 0 ⟨_, rfl, rfl⟩ rfl ?_ | refine h.drew.loadB 0 0 ⟨_, rfl, rfl⟩ rfl rfl ?_ | refine h.drew.load2 1 0 ⟨_, rfl, rfl⟩ rfl ?_ | refine h.drew.loadB 1 0 ⟨_, rfl, rfl⟩ rfl rfl ?_)) | ((with_reducible refine ReadN.isLoad ?_); (first | refine h.read2 0 0 ⟨_, rfl, rfl⟩ rfl ?_ | refine h.readB 0 0 ⟨_, rfl, rfl⟩ rfl rfl ?_ | refine h.read2 1 0 ⟨_, rfl, rfl⟩ rfl ?_ | refine h.readB 1 0 ⟨_, rfl, rfl⟩ rfl rfl ?_ | refine h.drew.read2 0 0 ⟨_, rfl, rfl⟩ rfl ?_ | refine h.drew.readB 0 0 ⟨_, rfl, rfl⟩ rfl rfl ?_ | refine h.drew.read2 1 0 ⟨_, rfl, rfl⟩ rfl ?_ | refine h.drew.readB 1 0 ⟨_, rfl, rfl⟩ rfl rfl ?_)) | ((with_reducible refine StillV.isLoad ?_); (first | refine ⟨h.stillB 0 0 ⟨_, rfl, rfl⟩ rfl rfl, ?_⟩ | refine ⟨h.still2 0 0 ⟨_, rfl, rfl⟩ rfl, ?_⟩ | refine ⟨h.stillB 1 0 ⟨_, rfl, rfl⟩ rfl rfl, ?_⟩ | refine ⟨h.still2 1 0 ⟨_, rfl, rfl⟩ rfl, ?_⟩)) | ((with_reducible refine RunU.isStor ?_); (first | (refine h.stor2 0 0 ⟨_, rfl, rfl⟩ rfl ?_; intro w h; dsimp only [updG, setO] at h) | (refine h.storB 0 0 ⟨_, rfl, rfl⟩ rfl rfl rfl ?_; intro w h; dsimp only [updG, setO] at h) | (refine h.stor2 1 0 ⟨_, rfl, rfl⟩ rfl ?_; intro w h; dsimp only [updG, setO] at h) | (refine h.storB 1 0 ⟨_, rfl, rfl⟩ rfl rfl rfl ?_; intro w h; dsimp only [updG, setO] at h) | (refine h.drew.stor2 0 0 ⟨_, rfl, rfl⟩ rfl ?_; intro w h; dsimp only [updG, setO] at h) | (refine h.drew.storB 0 0 ⟨_, rfl, rfl⟩ rfl rfl rfl ?_; intro w h; dsimp only [updG, setO] at h) | (refine h.drew.stor2 1 0 ⟨_, rfl, rfl⟩ rfl ?_; intro w h; dsimp only [updG, setO] at h) | (refine h.drew.storB 1 0 ⟨_, rfl, rfl⟩ rfl rfl rfl ?_; intro w h; dsimp only [updG, setO] at h))) | ((with_reducible refine RunN.isBox ?_); (first | (refine h.newB run_boxA rfl ?_; intro bn w h; try dsimp only at h; have h := h.ord 2 [1, 0]; dsimp only [pick, nthO, dropO] at h) | (refine h.drew.newB run_boxA rfl ?_; intro bn w h; try dsimp only at h; have h := h.ord 2 [1, 0]; dsimp only [pick, nthO, dropO] at h))) | ((with_reducible refine RunN.isNew ?_); (first | (refine h.newB (NewC.run _) rfl ?_; intro bn w h; have h := h.ord 2 [1, 0]; dsimp only [pick, nthO, dropO] at h) | (refine h.drew.newB (NewC.run _) rfl ?_; intro bn w h; have h := h.ord 2 [1, 0]; dsimp only [pick, nthO, dropO] at h))) | (refine RunN.k2Eq ?_) | (refine RunN.k2Ne ?_) | (refine ReadN.k2Eq ?_) | (refine ReadN.k2Ne ?_))
    rw [SplitB_iff]
    refine ⟨fun hl => ?_, fun hl => ?_⟩
    · have hl : e.lv m = true := hl
      have ee : e.ep m = (gI e.kn m, (m : Int)) := by rw [Mv.ep, if_pos hl]
      refine h.load2 1 0 ⟨_, rfl, rfl⟩ rfl ?_
      refine h.newS 2 (bs78 _ _ _) rfl rfl rfl ?_
      intro u w3 hu1 hu2 _ h
      dsimp only [pick, nthO, dropO] at h
      refine h.app 3 0 ⟨_, rfl, rfl⟩ (h.rd (k := 0) (i := 0) ⟨_, rfl, rfl⟩) (fun v hv => ?_) (by simp only [maxLen]; omega) (by omega) ?_
      · simp at hv; rcases hv with rfl | rfl <;> rfl
      intro s' w4 hl' h
      dsimp only [updG, setO] at h
      have h := (h.drop 0).ord 3 [2, 0]
      refine hk _ _ ⟨s', m + 1, rfl, by omega, ?_, ?_⟩ (by dsimp only; omega)
      · rw [livesTo_succ, if_pos hl, hl', hs, hu1]; simp
      · rw [livesTo_succ, if_pos hl, eps, List.flatMap_append]
        rw [ee] at h
        exact h
    · have hl : e.lv m = false := hl
      have h := h.ord 3 [2, 0]
      refine hk _ _ ⟨s, m + 1, rfl, by omega, ?_, ?_⟩ (by dsimp only; omega)
      · rw [livesTo_succ, if_neg (by rw [hl]; decide), List.append_nil]; exact hs
      · rw [livesTo_succ, if_neg (by rw [hl]; decide), List.append_nil]; exact h
  · have hc : m = e.n := by have : ¬ (m : Int) < (e.n : Int) := of_decide_eq_false hc; omega
    subst hc
    exact ⟨hs, h⟩
end Go.Proofs.Ytmfbmfppjdkeeaa

/- Rows of pieces that grow. -/
set_option linter.unusedVariables false
set_option linter.unusedSimpArgs false
namespace Go.Fw
open Go Go.RowKit
variable {w0 w : World} {G : Grps}
/-- A row that grows from its old one: it holds it as its beginning, or the old one is left. -/
def GrowS (E : TypeId) (sz : Nat) (w0 w : World) (q : Sl) (v : List Value) (d : Sl) (n : Nat) (e : List Value) (G : Grps) : Prop :=
  v.length = q.len * sz ∧ e.length = n * sz ∧ d.len = q.len + n ∧ (d.a = q.a ∧ d.cap = q.cap ∧ St w0 w ([.row E sz d (v ++ e)] :: G) ∨ St w0 w ([.row E sz d (v ++ e), .row E sz q v] :: G))
theorem GrowS.start {E : TypeId} {sz : Nat} {q : Sl} {v : List Value} {G : Grps} (h : St w0 w ([.row E sz q v] :: G)) : GrowS E sz w0 w q v q 0 [] G := by
  have hl := (h.rd (k := 0) (i := 0) ⟨_, rfl, rfl⟩).1
  exact ⟨hl, by simp, rfl, .inl ⟨rfl, rfl, by simpa using h⟩⟩
theorem GrowS.app {P : Program} {t E sz by_ : Nat} [et : Et P t E sz by_] (x : List Value) (hxl : x.length = sz) (hx : x.all Value.oneCell' = true) {s0 : Sem Value} (hbs : ∀ (w : World), s0.run P w = .ok (.slice (some ⟨w.heap.size, 0, none⟩) 1 1) (w.alloc (.cells ⟨x⟩ E)))
    {q : Sl} {v : List Value} {d : Sl} {n : Nat} {e : List Value} {G : Grps} (hg : GrowS E sz w0 w q v d n e G) (hl : (q.len + n + 1) * by_ ≤ 140737488355328) (hl2 : q.len + n ≤ 1048576000) {ty : TypeId} {K : Sl → World → Prop}
    (hk : ∀ d' w', GrowS E sz w0 w' q v d' (n + 1) (e ++ x) G → K d' w') :
    RunN P .sl (V s0) w fun u w =>
      RunN P .sl (V (Builtin.append_ #[t, t] ty #[.slice d.a d.len d.cap, .slice u.a u.len u.cap])) w fun u' w => K u' w := by
  obtain ⟨hql, hel, hdl, hc⟩ := hg
  have hone : ∀ y ∈ x, y.oneCell' = true := List.all_eq_true.1 hx
  have ebb : (v ++ e) ++ x = v ++ (e ++ x) := by rw [List.append_assoc]
  have hel2 : (e ++ x).length = (n + 1) * sz := by rw [List.length_append, hel, hxl, Nat.add_mul, Nat.one_mul]
  rcases hc with ⟨ha, hcap, h⟩ | h
  · refine h.newS sz (hbs _) rfl (by rw [Nat.one_mul]; exact hxl) hx ?_
    intro u w hl1 hc1 _ h
    have hru := h.rd (k := 0) (i := 0) ⟨_, rfl, rfl⟩
    refine h.appKeep 1 0 ⟨_, rfl, rfl⟩ hru hone (by simp only [maxLen]; omega) (by rw [hdl, hl1]; exact hl) ?_
    intro d' w hl' hd
    rw [ebb] at hd
    refine hk d' w ⟨hql, hel2, by omega, ?_⟩
    rcases hd with ⟨ha', hc', h⟩ | h
    · dsimp only [updG, setO] at h
      exact .inl ⟨ha'.trans ha, hc'.trans hcap, h.drop 0⟩
    · dsimp only [updG, delO, List.append_nil] at h
      have h := h.drop 0
      dsimp only [delO] at h
      have hrd := h.preR (k := 0) (i := 1) ⟨_, rfl, rfl⟩ (hi := q.len) (by omega)
      dsimp only [updG, setO] at hrd
      right
      have e1 : (v ++ e).take (q.len * sz) = v := by rw [← hql, List.take_append_of_le_length (by simp), List.take_of_length_le (by simp)]
      have e2 : subS d 0 q.len sz = q := by rw [subS_zero, ha, hcap]
      rw [e1, e2] at hrd
      exact hrd
  · refine h.newS sz (hbs _) rfl (by rw [Nat.one_mul]; exact hxl) hx ?_
    intro u w hl1 hc1 _ h
    have hru := h.rd (k := 0) (i := 0) ⟨_, rfl, rfl⟩
    refine h.app 1 0 ⟨_, rfl, rfl⟩ hru hone (by simp only [maxLen]; omega) (by rw [hdl, hl1]; exact hl) ?_
    intro d' w hl' h
    dsimp only [updG, setO] at h
    rw [ebb] at h
    exact hk d' w ⟨hql, hel2, by omega, .inr (h.drop 0)⟩
/-- What it grew from is there still. -/
theorem GrowS.done {E : TypeId} {sz : Nat} {q : Sl} {v : List Value} {d : Sl} {n : Nat} {e : List Value} (hg : GrowS E sz w0 w q v d n e G) : St w0 w ([.row E sz q v] :: G) := by
  obtain ⟨hql, hel, hdl, hc⟩ := hg
  rcases hc with ⟨ha, hcap, h⟩ | h
  · have hrd := h.preR (k := 0) (i := 0) ⟨_, rfl, rfl⟩ (hi := q.len) (by omega)
    dsimp only [updG, setO] at hrd
    have e1 : (v ++ e).take (q.len * sz) = v := by rw [← hql, List.take_append_of_le_length (by simp), List.take_of_length_le (by simp)]
    have e2 : subS d 0 q.len sz = q := by rw [subS_zero, ha, hcap]
    rw [e1, e2] at hrd
    exact hrd
  · exact (St.one.1 h).drop 0
/-- One that has grown: what it was is its beginning, or is left where it is. -/
def FarS (E : TypeId) (sz : Nat) (x y : Sl × List Value) (g : List Ent) : Prop :=
  (∃ e, y.2 = x.2 ++ e) ∧ x.2.length = x.1.len * sz ∧ x.1.len ≤ y.1.len ∧ x.1.len ≤ x.1.cap ∧ (g = [.row E sz y.1 y.2] ∧ y.1.a = x.1.a ∨ g = [.row E sz y.1 y.2, .row E sz x.1 x.2])
theorem FarS.reads {E : TypeId} {sz : Nat} {x y : Sl × List Value} {g : List Ent} (hf : FarS E sz x y g) (h : St w0 w G) {k : Nat} {gs : List Ent} (hk : nthO G k = some gs) (hg : ∀ e ∈ g, e ∈ gs) : Rd w y.1 sz y.2 ∧ Rd w x.1 sz x.2 := by
  obtain ⟨⟨e, h1⟩, h2, h3, h4, h5⟩ := hf
  have hy : Rd w y.1 sz y.2 := by
    have : Ent.row E sz y.1 y.2 ∈ gs := hg _ (by rcases h5 with ⟨h5, _⟩ | h5 <;> rw [h5] <;> simp)
    exact (h.memG k hk this).1.rd
  refine ⟨hy, ?_⟩
  rcases h5 with ⟨h5, ha⟩ | h5
  · have hp := hy.pre (hi := x.1.len) h3
    rw [subS_zero] at hp
    have e : y.2.take (x.1.len * sz) = x.2 := by rw [h1, ← h2, List.take_append_of_le_length (by simp), List.take_of_length_le (by simp)]
    rw [e] at hp
    refine ⟨h2, ?_, h4⟩
    rcases hp.2.1 with h0 | ⟨b, o, hb, hc⟩
    · exact .inl h0
    · exact .inr ⟨b, o, by rw [← ha]; exact hb, hc⟩
  · have : Ent.row E sz x.1 x.2 ∈ gs := hg _ (by rw [h5]; simp)
    exact (h.memG k hk this).1.rd
theorem GrowS.far {E : TypeId} {sz : Nat} {q : Sl} {v : List Value} {d : Sl} {n : Nat} {e : List Value} (hg : GrowS E sz w0 w q v d n e G) (hc : q.len ≤ q.cap) : ∃ g, FarS E sz (q, v) (d, v ++ e) g ∧ St w0 w (g :: G) := by
  obtain ⟨h1, h2, h3, h4⟩ := hg
  rcases h4 with ⟨ha, hcap, h⟩ | h
  · exact ⟨_, ⟨⟨e, rfl⟩, h1, by dsimp only; omega, hc, .inl ⟨rfl, ha⟩⟩, h⟩
  · exact ⟨_, ⟨⟨e, rfl⟩, h1, by dsimp only; omega, hc, .inr rfl⟩, h⟩
end Go.Fw

/- The epoch's machine: the target, the reports, what is to be done. -/
namespace Go.Proofs.Ytmfbmfppjdkeeaa
open Go Go.Fw Go.RowKit
set_option linter.unusedVariables false
set_option linter.unusedSimpArgs false
set_option maxRecDepth 4000
set_option maxHeartbeats 2000000
variable {w0 w : World} {F G : Grps}

theorem flat_len {α : Type} {f : α → List Value} {n : Nat} (hf : ∀ x, (f x).length = n) : ∀ l : List α, (l.flatMap f).length = l.length * n
  | [] => by simp
  | x :: r => by rw [List.flatMap_cons, List.length_append, hf, flat_len hf r, List.length_cons, Nat.add_mul]; omega
theorem flat_at {α : Type} {f : α → List Value} {n : Nat} (hf : ∀ x, (f x).length = n) (l : List α) (i : Nat) (hi : i < l.length) : ((l.flatMap f).drop (i * n)).take n = f l[i] := by
  have e1 : l = l.take i ++ l[i] :: l.drop (i + 1) := by rw [← List.drop_eq_getElem_cons hi, List.take_append_drop]
  have hA : ((l.take i).flatMap f).length = i * n := by rw [flat_len hf, List.length_take, Nat.min_eq_left (by omega)]
  have e3 : l.flatMap f = (l.take i).flatMap f ++ (f l[i] ++ (l.drop (i + 1)).flatMap f) := by
    conv => lhs; rw [e1]
    rw [List.flatMap_append, List.flatMap_cons]
  rw [e3, List.drop_append, hA, Nat.sub_self, List.drop_zero, List.drop_of_length_le (by omega), List.nil_append, List.take_append_of_le_length (by rw [hf]; exact Nat.le_refl _), List.take_of_length_le (by rw [hf]; exact Nat.le_refl _)]
theorem flat_cell {α : Type} {f : α → List Value} {n : Nat} (hf : ∀ x, (f x).length = n) {l : List α} {j : Nat} (hj : j < l.length) (m : Nat) (hm : m < n) : (l.flatMap f)[j * n + m]? = (f l[j])[m]? := by
  have h := congrArg (fun y => y[m]?) (flat_at hf l j hj)
  simp only [List.getElem?_take, if_pos hm, List.getElem?_drop] at h
  exact h
theorem flat_part {α : Type} {f : α → List Value} {n : Nat} (hf : ∀ x, (f x).length = n) {l : List α} {j : Nat} (hj : j < l.length) (a k : Nat) (h : a + k ≤ n) : ((l.flatMap f).drop (j * n + a)).take k = ((f l[j]).drop a).take k := by
  rw [← flat_at hf l j hj, List.drop_take, List.take_take, List.drop_drop, Nat.min_eq_left (by omega)]
theorem flat_one {α : Type} {f : α → List Value} (h1 : ∀ x, ∀ v ∈ f x, v.oneCell' = true) (l : List α) : ∀ v ∈ l.flatMap f, v.oneCell' = true := by
  intro v hv
  obtain ⟨x, _, hx⟩ := List.mem_flatMap.1 hv
  exact h1 x v hx
theorem epv_one (x : Ep) : ∀ v ∈ epv x, v.oneCell' = true := by intro v hv; simp [epv] at hv; rcases hv with rfl | rfl <;> rfl
theorem acv_one (x : A6) : ∀ v ∈ acv x, v.oneCell' = true := by intro v hv; simp [acv] at hv; rcases hv with rfl | rfl | rfl | rfl | rfl | rfl <;> rfl
theorem Rd.el2 {s : Sl} {l : List Ep} (h : Rd w s 2 (eps l)) {b o : Nat} (ha : s.a = some ⟨b, o, none⟩) {i : Nat} (hi : i < l.length) {K : (Int × Int × Unit) → World → Prop} (hk : K (l[i].1, l[i].2, ()) w) :
    RunN Try.prog (.agg (.cons (.int .i64) (.cons (.int .i64) .nilT))) (V (Instr.loadAt 54 (.pointer (some ⟨b, o + i * 2, none⟩)))) w K :=
  h.elA ha (i * 2) rfl (kd := Kd2) (l[i].1, l[i].2, ()) (flat_at epv_len _ _ hi) hk
theorem topE_snoc (l : List Ep) (x : Ep) : topE (l ++ [x]) = if x.1 ≥ (topE l).1 then x else topE l := by rw [topE, List.foldl_append]; rfl
theorem top_st {e : Em} {q : List A6} (h : St w0 w (emE e q :: F)) (hw : e.wf) : CallK Try.prog (.agg (.cons (.int .i64) (.cons (.int .i64) .nilT))) 51 #[.pointer e.p] w
    fun (v : Int × Int × Unit) w' => v = (e.top.1, e.top.2, ()) ∧ St w0 w' (emE e q :: F) := by
  refine T51.calls ?_
  unfold T51
  first | refine h.newB (NewC.run _) rfl ?_ | refine h.drew.newB (NewC.run _) rfl ?_
  intro b2 w h
  have h := h.ord 2 [1, 0]
  dsimp only [pick, nthO, dropO] at h
  first | refine h.newB (NewC.run _) rfl ?_ | refine h.drew.newB (NewC.run _) rfl ?_
  intro b1 w h
  have h := h.ord 2 [1, 0]
  dsimp only [pick, nthO, dropO] at h
  refine (lives_st h hw).mono ?_
  rintro s w1 ⟨hs, h⟩
  have hll := livesTo_len e.toMv e.n
  have hll : e.lives.length ≤ e.n := hll
  have hn := hw.n
  refine LoopX.mk (fun st w' => ∃ (m : Nat), st = ((m : Int), ()) ∧ m ≤ e.lives.length ∧ St w0 w' ([.row 54 2 s (eps e.lives)] :: emE e q :: [.cel b1 54 (epv (topE (e.lives.take m)))] :: [.cel b2 54 [.int .i64 0, .int .i64 0]] :: F)) (fun st => ((e.lives.length : Int) - st.1).toNat) ⟨0, rfl, Nat.zero_le _, h⟩ ?_
  clear h
  rintro _ w2 ⟨m, rfl, hm, h⟩ k hk
  dsimp only at hk ⊢
  rw [hs]
  rw [SplitB_iff]
  refine ⟨fun hc => ?_, fun hc => ?_⟩
  · have hc : m < e.lives.length := by have : (m : Int) < (e.lives.length : Int) := of_decide_eq_true hc; omega
    have hem : IntKind.i64.wrap ((m : Int) + 1) = ((m + 1 : Nat) : Int) := by rw [wr (by omega)]; omega
    rw [hem, ← hs]
    have hrr := h.rd (k := 0) (i := 0) (E := 54) (sz := 2) (s := s) (vs := eps e.lives) ⟨_, rfl, rfl⟩
    refine hrr.idxK m rfl (by omega) ?_
    intro g o ha
    refine Rd.el2 hrr ha hc ?_
    have et := topE_snoc (e.lives.take m) e.lives[m]
    rw [← List.take_succ_eq_append_getElem hc] at et
    have h : St w0 w2 ([.row 54 2 s (eps e.lives)] :: emE e q :: [.cel b1 54 [.int .i64 (topE (e.lives.take m)).1, .int .i64 (topE (e.lives.take m)).2]] :: [.cel b2 54 [.int .i64 0, .int .i64 0]] :: F) := h
    repeat (first | (with_reducible refine NilP.mk ?_) | ((with_reducible refine RunN.isLoad ?_); (first | refine h.load2 0 0 ⟨_, rfl, rfl⟩ rfl ?_ | refine h.loadB 0 0 ⟨_, rfl, rfl⟩ rfl rfl ?_ | refine h.load2 1 0 ⟨_, rfl, rfl⟩ rfl ?_ | refine h.loadB 1 0 ⟨_, rfl, rfl⟩ rfl rfl ?_ | refine h.load2 2 0 ⟨_, rfl, rfl⟩ rfl ?_ | refine h.loadB 2 0 ⟨_, rfl, rfl⟩ rfl rfl ?_ | refine h.load2 3 0 ⟨_, rfl, rfl⟩ rfl ?_ | refine h.loadB 3 0 ⟨_, rfl, rfl⟩ rfl rfl ?_ | refine h.drew.load2 0 0 ⟨_, rfl, rfl⟩ rfl ?_ | refine h.drew.loadB 0 0 ⟨_, rfl, rfl⟩ rfl rfl ?_ | refine h.drew.load2 1 0 ⟨_, rfl, rfl⟩ rfl ?_ | refine h.drew.loadB 1 0 ⟨_, rfl, rfl⟩ rfl rfl ?_ | refine h.drew.load2 2 0 ⟨_, rfl, rfl⟩ rfl ?_ | refine h.drew.loadB 2 0 ⟨_, rfl, rfl⟩ rfl rfl ?_ | refine h.drew.load2 3 0 ⟨_, rfl, rfl⟩ rfl ?_ | refine h.drew.loadB 3 0 ⟨_, rfl, rfl⟩ rfl rfl ?_)) | ((with_reducible refine ReadN.isLoad ?_); (first | refine h.read2 0 0 ⟨_, rfl, rfl⟩ rfl ?_ | refine h.readB 0 0 ⟨_, rfl, rfl⟩ rfl rfl ?_ | refine h.read2 1 0 ⟨_, rfl, rfl⟩ rfl ?_ | refine h.readB 1 0 ⟨_, rfl, rfl⟩ rfl rfl ?_ | refine h.read2 2 0 ⟨_, rfl, rfl⟩ rfl ?_ | refine h.readB 2 0 ⟨_, rfl, rfl⟩ rfl rfl ?_ | refine h.read2 3 0 ⟨_, rfl, rfl⟩ rfl ?_ | refine h.readB 3 0 ⟨_, rfl, rfl⟩ rfl rfl ?_ | refine h.drew.read2 0 0 ⟨_, rfl, rfl⟩ rfl ?_ | refine h.drew.readB 0 0 ⟨_, rfl, rfl⟩ rfl rfl ?_ | refine h.drew.read2 1 0 ⟨_, rfl, rfl⟩ rfl ?_ | refine h.drew.readB 1 0 ⟨_, rfl, rfl⟩ rfl rfl ?_ | refine h.drew.read2 2 0 ⟨_, rfl, rfl⟩ rfl ?_ | refine h.drew.readB 2 0 ⟨_, rfl, rfl⟩ rfl rfl ?_ | refine h.drew.read2 3 0 ⟨_, rfl, rfl⟩ rfl ?_ | refine h.drew.readB 3 0 ⟨_, rfl, rfl⟩ rfl rfl ?_)) | ((with_reducible refine StillV.isLoad ?_); (first | refine ⟨h.stillB 0 0 ⟨_, rfl, rfl⟩ rfl rfl, ?_⟩ | refine ⟨h.still2 0 0 ⟨_, rfl, rfl⟩ rfl, ?_⟩ | refine ⟨h.stillB 1 0 ⟨_, rfl, rfl⟩ rfl rfl, ?_⟩ | refine ⟨h.still2 1 0 ⟨_, rfl, rfl⟩ rfl, ?_⟩ | refine ⟨h.stillB 2 0 ⟨_, rfl, rfl⟩ rfl rfl, ?_⟩ | refine ⟨h.still2 2 0 ⟨_, rfl, rfl⟩ rfl, ?_⟩ | refine ⟨h.stillB 3 0 ⟨_, rfl, rfl⟩ rfl rfl, ?_⟩ | refine ⟨h.still2 3 0 ⟨_, rfl, rfl⟩ rfl, ?_⟩)) | ((with_reducible refine RunU.isStor ?_); (first | (refine h.stor2 0 0 ⟨_, rfl, rfl⟩ rfl ?_; intro w h; dsimp only [updG, setO] at h) | (refine h.storB 0 0 ⟨_, rfl, rfl⟩ rfl rfl rfl ?_; intro w h; dsimp only [updG, setO] at h) | (refine h.stor2 1 0 ⟨_, rfl, rfl⟩ rfl ?_; intro w h; dsimp only [updG, setO] at h) | (refine h.storB 1 0 ⟨_, rfl, rfl⟩ rfl rfl rfl ?_; intro w h; dsimp only [updG, setO] at h) | (refine h.stor2 2 0 ⟨_, rfl, rfl⟩ rfl ?_; intro w h; dsimp only [updG, setO] at h) | (refine h.storB 2 0 ⟨_, rfl, rfl⟩ rfl rfl rfl ?_; intro w h; dsimp only [updG, setO] at h) | (refine h.stor2 3 0 ⟨_, rfl, rfl⟩ rfl ?_; intro w h; dsimp only [updG, setO] at h) | (refine h.storB 3 0 ⟨_, rfl, rfl⟩ rfl rfl rfl ?_; intro w h; dsimp only [updG, setO] at h) | (refine h.drew.stor2 0 0 ⟨_, rfl, rfl⟩ rfl ?_; intro w h; dsimp only [updG, setO] at h) | (refine h.drew.storB 0 0 ⟨_, rfl, rfl⟩ rfl rfl rfl ?_; intro w h; dsimp only [updG, setO] at h) | (refine h.drew.stor2 1 0 ⟨_, rfl, rfl⟩ rfl ?_; intro w h; dsimp only [updG, setO] at h) | (refine h.drew.storB 1 0 ⟨_, rfl, rfl⟩ rfl rfl rfl ?_; intro w h; dsimp only [updG, setO] at h) | (refine h.drew.stor2 2 0 ⟨_, rfl, rfl⟩ rfl ?_; intro w h; dsimp only [updG, setO] at h) | (refine h.drew.storB 2 0 ⟨_, rfl, rfl⟩ rfl rfl rfl ?_; intro w h; dsimp only [updG, setO] at h) | (refine h.drew.stor2 3 0 ⟨_, rfl, rfl⟩ rfl ?_; intro w h; dsimp only [updG, setO] at h) | (refine h.drew.storB 3 0 ⟨_, rfl, rfl⟩ rfl rfl rfl ?_; intro w h; dsimp only [updG, setO] at h))) | ((with_reducible refine RunN.isBox ?_); (first | (refine h.newB run_boxA rfl ?_; intro bn w h; try dsimp only at h; have h := h.ord 2 [1, 0]; dsimp only [pick, nthO, dropO] at h) | (refine h.drew.newB run_boxA rfl ?_; intro bn w h; try dsimp only at h; have h := h.ord 2 [1, 0]; dsimp only [pick, nthO, dropO] at h))) | ((with_reducible refine RunN.isNew ?_); (first | (refine h.newB (NewC.run _) rfl ?_; intro bn w h; have h := h.ord 2 [1, 0]; dsimp only [pick, nthO, dropO] at h) | (refine h.drew.newB (NewC.run _) rfl ?_; intro bn w h; have h := h.ord 2 [1, 0]; dsimp only [pick, nthO, dropO] at h))) | (refine RunN.k2Eq ?_) | (refine RunN.k2Ne ?_) | (refine ReadN.k2Eq ?_) | (refine ReadN.k2Ne ?_))
    rw [SplitB_iff]
    refine ⟨fun hd => ?_, fun hd => ?_⟩
    · have hd : e.lives[m].1 ≥ (topE (e.lives.take m)).1 := of_decide_eq_true hd
      rw [if_pos hd] at et
      refine h.load2 1 0 ⟨_, rfl, rfl⟩ rfl ?_
      refine h.stor2 3 0 ⟨_, rfl, rfl⟩ rfl ?_
      intro w h
      dsimp only [updG, setO] at h
      refine hk _ _ ⟨m + 1, rfl, by omega, ?_⟩ (by dsimp only; omega)
      rw [et]
      exact h.drop 1
    · have hd : ¬ e.lives[m].1 ≥ (topE (e.lives.take m)).1 := of_decide_eq_false hd
      rw [if_neg hd] at et
      refine hk _ _ ⟨m + 1, rfl, by omega, ?_⟩ (by dsimp only; omega)
      rw [et]
      exact h.drop 1
  · have hc : m = e.lives.length := by have : ¬ (m : Int) < (e.lives.length : Int) := of_decide_eq_false hc; omega
    subst hc
    rw [List.take_length] at h
    have h : St w0 w2 ([.row 54 2 s (eps e.lives)] :: emE e q :: [.cel b1 54 [.int .i64 (topE e.lives).1, .int .i64 (topE e.lives).2]] :: [.cel b2 54 [.int .i64 0, .int .i64 0]] :: F) := h
    refine h.load2 2 0 ⟨_, rfl, rfl⟩ rfl ?_
    refine h.stor2 3 0 ⟨_, rfl, rfl⟩ rfl ?_
    intro w h
    dsimp only [updG, setO] at h
    refine h.read2 3 0 ⟨_, rfl, rfl⟩ rfl ?_
    exact ⟨rfl, ((h.drop 0).drop 1).drop 1⟩
theorem frozen_st {e : Em} {q : List A6} (h : St w0 w (emE e q :: F)) (hw : e.wf) : CallK Try.prog .bool 22 #[.pointer e.p] w fun (v : Bool) w' => v = someE e.top ∧ St w0 w' (emE e q :: F) := by
  refine T22.calls ?_
  unfold T22
  refine (top_st h hw).mono ?_
  rintro _ w1 ⟨rfl, h⟩
  refine (some_st h _ _).mono ?_
  rintro _ w2 ⟨rfl, h⟩
  exact ⟨rfl, h⟩
/-! ### reports -/
def repTo (l : List Int) (m : Nat) : Int := ((l.take m).map fun x => max x 0).sum
def Mv.reported (e : Mv) : Int := if someE e.own = true then repTo e.re e.n else 0
def Mv.all (e : Mv) : Bool := ((List.range e.n).all fun r => !(decide (r ≠ e.me) && gI e.re r == -1)) && someE e.own
theorem repTo_succ {l : List Int} {m : Nat} (h : m < l.length) : repTo l (m + 1) = repTo l m + max (gI l m) 0 := by
  rw [repTo, List.take_succ_eq_append_getElem h, List.map_append, List.sum_append, repTo, gI, List.getElem?_eq_getElem h]; simp
theorem repTo_bound {l : List Int} (hb : ∀ x ∈ l, -1 ≤ x ∧ x ≤ 1099511627776) : ∀ m, 0 ≤ repTo l m ∧ repTo l m ≤ m * 1099511627776 := by
  intro m
  induction m with
  | zero => simp [repTo]
  | succ m ih =>
    rcases Nat.lt_or_ge m l.length with h | h
    · rw [repTo_succ h]
      have := hb _ (gI_mem h)
      omega
    · have e : repTo l (m + 1) = repTo l m := by rw [repTo, repTo, List.take_of_length_le (by omega), List.take_of_length_le h]
      rw [e]; omega
theorem reported_st {e : Em} {q : List A6} (h : St w0 w (emE e q :: F)) (hw : e.wf) : CallK Try.prog (.int .i64) 49 #[.pointer e.p] w fun (v : Int) w' => v = e.reported ∧ St w0 w' (emE e q :: F) := by
  refine T49.calls ?_
  unfold T49
  refine (own_st h hw).mono ?_
  rintro _ w1 ⟨rfl, h⟩
  refine (some_st h _ _).mono ?_
  rintro _ w2 ⟨rfl, h⟩
  have hn := hw.n
  rw [SplitB_iff]
  refine ⟨fun hs => ?_, fun hs => ?_⟩
  · have hs : someE e.own = true := hs
    have hr : e.reported = repTo e.re e.n := if_pos hs
    repeat (first | (with_reducible refine NilP.mk ?_) | ((with_reducible refine RunN.isLoad ?_); (first | refine h.load2 0 0 ⟨_, rfl, rfl⟩ rfl ?_ | refine h.loadB 0 0 ⟨_, rfl, rfl⟩ rfl rfl ?_ | refine h.drew.load2 0 0 ⟨_, rfl, rfl⟩ rfl ?_ | refine h.drew.loadB 0 0 ⟨_, rfl, rfl⟩ rfl rfl ?_)) | ((with_reducible refine ReadN.isLoad ?_); (first | refine h.read2 0 0 ⟨_, rfl, rfl⟩ rfl ?_ | refine h.readB 0 0 ⟨_, rfl, rfl⟩ rfl rfl ?_ | refine h.drew.read2 0 0 ⟨_, rfl, rfl⟩ rfl ?_ | refine h.drew.readB 0 0 ⟨_, rfl, rfl⟩ rfl rfl ?_)) | ((with_reducible refine StillV.isLoad ?_); (first | refine ⟨h.stillB 0 0 ⟨_, rfl, rfl⟩ rfl rfl, ?_⟩ | refine ⟨h.still2 0 0 ⟨_, rfl, rfl⟩ rfl, ?_⟩)) | ((with_reducible refine RunU.isStor ?_); (first | (refine h.stor2 0 0 ⟨_, rfl, rfl⟩ rfl ?_; intro w h; dsimp only [updG, setO] at h) | (refine h.storB 0 0 ⟨_, rfl, rfl⟩ rfl rfl rfl ?_; intro w h; dsimp only [updG, setO] at h) | (refine h.drew.stor2 0 0 ⟨_, rfl, rfl⟩ rfl ?_; intro w h; dsimp only [updG, setO] at h) | (refine h.drew.storB 0 0 ⟨_, rfl, rfl⟩ rfl rfl rfl ?_; intro w h; dsimp only [updG, setO] at h))) | ((with_reducible refine RunN.isBox ?_); (first | (refine h.newB run_boxA rfl ?_; intro bn w h; try dsimp only at h; have h := h.ord 2 [1, 0]; dsimp only [pick, nthO, dropO] at h) | (refine h.drew.newB run_boxA rfl ?_; intro bn w h; try dsimp only at h; have h := h.ord 2 [1, 0]; dsimp only [pick, nthO, dropO] at h))) | ((with_reducible refine RunN.isNew ?_); (first | (refine h.newB (NewC.run _) rfl ?_; intro bn w h; have h := h.ord 2 [1, 0]; dsimp only [pick, nthO, dropO] at h) | (refine h.drew.newB (NewC.run _) rfl ?_; intro bn w h; have h := h.ord 2 [1, 0]; dsimp only [pick, nthO, dropO] at h))) | (refine RunN.k2Eq ?_) | (refine RunN.k2Ne ?_) | (refine ReadN.k2Eq ?_) | (refine ReadN.k2Ne ?_))
    refine LoopX.mk (fun st w' => ∃ (m : Nat), st = (repTo e.re m, (m : Int), ()) ∧ m ≤ e.n ∧ St w0 w' (emE e q :: F)) (fun st => ((e.n : Int) - st.2.1).toNat) ⟨0, rfl, Nat.zero_le _, h⟩ ?_
    clear h
    rintro _ w3 ⟨m, rfl, hm, h⟩ k hk
    dsimp only at hk ⊢
    rw [SplitB_iff]
    refine ⟨fun hc => ?_, fun hc => ?_⟩
    · have hc : m < e.n := by have : (m : Int) < (e.n : Int) := of_decide_eq_true hc; omega
      have hml : m < e.re.length := by rw [hw.rl]; omega
      have hem : IntKind.i64.wrap ((m : Int) + 1) = ((m + 1 : Nat) : Int) := by rw [wr (by omega)]; omega
      refine NilP.mk ?_
      refine RunN.arr rfl m rfl (by omega) ?_
      refine h.loadB 0 0 ⟨_, rfl, rfl⟩ rfl (kd := .int .i64) (x := gI e.re m) (r_at hw (by omega)) ?_
      refine RunN.of (kd := .int .i64) (max_i _ _ _) ?_
      have hb1 := repTo_bound hw.rb m
      have hb2 := hw.rb _ (gI_mem hml)
      have e3 : IntKind.i64.wrap (repTo e.re m + max (gI e.re m) 0) = repTo e.re (m + 1) := by rw [repTo_succ hml, wr (by omega)]
      rw [hem, e3]
      exact hk _ _ ⟨m + 1, rfl, by omega, h⟩ (by dsimp only; omega)
    · have hc : m = e.n := by have : ¬ (m : Int) < (e.n : Int) := of_decide_eq_false hc; omega
      subst hc
      exact ⟨hr.symm, h⟩
  · have hs : ¬ someE e.own = true := by rw [show someE e.own = false from hs]; decide
    exact ⟨(if_neg hs).symm, h⟩
theorem all_st {e : Em} {q : List A6} (h : St w0 w (emE e q :: F)) (hw : e.wf) : CallK Try.prog .bool 50 #[.pointer e.p] w fun (v : Bool) w' => v = e.all ∧ St w0 w' (emE e q :: F) := by
  refine T50.calls ?_
  unfold T50
  have hn := hw.n
  repeat (first | (with_reducible refine NilP.mk ?_) | ((with_reducible refine RunN.isLoad ?_); (first | refine h.load2 0 0 ⟨_, rfl, rfl⟩ rfl ?_ | refine h.loadB 0 0 ⟨_, rfl, rfl⟩ rfl rfl ?_ | refine h.drew.load2 0 0 ⟨_, rfl, rfl⟩ rfl ?_ | refine h.drew.loadB 0 0 ⟨_, rfl, rfl⟩ rfl rfl ?_)) | ((with_reducible refine ReadN.isLoad ?_); (first | refine h.read2 0 0 ⟨_, rfl, rfl⟩ rfl ?_ | refine h.readB 0 0 ⟨_, rfl, rfl⟩ rfl rfl ?_ | refine h.drew.read2 0 0 ⟨_, rfl, rfl⟩ rfl ?_ | refine h.drew.readB 0 0 ⟨_, rfl, rfl⟩ rfl rfl ?_)) | ((with_reducible refine StillV.isLoad ?_); (first | refine ⟨h.stillB 0 0 ⟨_, rfl, rfl⟩ rfl rfl, ?_⟩ | refine ⟨h.still2 0 0 ⟨_, rfl, rfl⟩ rfl, ?_⟩)) | ((with_reducible refine RunU.isStor ?_); (first | (refine h.stor2 0 0 ⟨_, rfl, rfl⟩ rfl ?_; intro w h; dsimp only [updG, setO] at h) | (refine h.storB 0 0 ⟨_, rfl, rfl⟩ rfl rfl rfl ?_; intro w h; dsimp only [updG, setO] at h) | (refine h.drew.stor2 0 0 ⟨_, rfl, rfl⟩ rfl ?_; intro w h; dsimp only [updG, setO] at h) | (refine h.drew.storB 0 0 ⟨_, rfl, rfl⟩ rfl rfl rfl ?_; intro w h; dsimp only [updG, setO] at h))) | ((with_reducible refine RunN.isBox ?_); (first | (refine h.newB run_boxA rfl ?_; intro bn w h; try dsimp only at h; have h := h.ord 2 [1, 0]; dsimp only [pick, nthO, dropO] at h) | (refine h.drew.newB run_boxA rfl ?_; intro bn w h; try dsimp only at h; have h := h.ord 2 [1, 0]; dsimp only [pick, nthO, dropO] at h))) | ((with_reducible refine RunN.isNew ?_); (first | (refine h.newB (NewC.run _) rfl ?_; intro bn w h; have h := h.ord 2 [1, 0]; dsimp only [pick, nthO, dropO] at h) | (refine h.drew.newB (NewC.run _) rfl ?_; intro bn w h; have h := h.ord 2 [1, 0]; dsimp only [pick, nthO, dropO] at h))) | (refine RunN.k2Eq ?_) | (refine RunN.k2Ne ?_) | (refine ReadN.k2Eq ?_) | (refine ReadN.k2Ne ?_))
  refine LoopX.mk (fun st w' => ∃ (m : Nat), st = ((m : Int), ()) ∧ m ≤ e.n ∧ (∀ r, r < m → ¬ (r ≠ e.me ∧ gI e.re r = -1)) ∧ St w0 w' (emE e q :: F)) (fun st => ((e.n : Int) - st.1).toNat) ⟨0, rfl, Nat.zero_le _, fun r hr => by omega, h⟩ ?_
  clear h
  rintro _ w3 ⟨m, rfl, hm, hall, h⟩ k hk
  dsimp only at hk ⊢
  rw [SplitB_iff]
  refine ⟨fun hc => ?_, fun hc => ?_⟩
  · have hc : m < e.n := by have : (m : Int) < (e.n : Int) := of_decide_eq_true hc; omega
    have hml : m < e.re.length := by rw [hw.rl]; omega
    have hem : IntKind.i64.wrap ((m : Int) + 1) = ((m + 1 : Nat) : Int) := by rw [wr (by omega)]; omega
    rw [hem]
    refine JoinX.mk (fun (y : Bool × Unit) w' => y.1 = decide (m ≠ e.me ∧ gI e.re m = -1) ∧ St w0 w' (emE e q :: F)) ?_ ?_
    · rintro ⟨y, ⟨⟩⟩ w4 ⟨hy, h⟩
      dsimp only at hy
      subst hy
      rw [SplitB_iff]
      refine ⟨fun hd => ?_, fun hd => ?_⟩
      · have hd := of_decide_eq_true hd
        refine ⟨?_, h⟩
        have : (((List.range e.n).all fun r => !(decide (r ≠ e.me) && gI e.re r == -1)) && someE e.own) = false := by
          rw [Bool.and_eq_false_iff]; left
          rw [List.all_eq_false]
          exact ⟨m, List.mem_range.2 hc, by simp [hd.1, hd.2]⟩
        exact this.symm
      · have hd := of_decide_eq_false hd
        refine hk _ _ ⟨m + 1, rfl, by omega, fun r hr => ?_, h⟩ (by dsimp only; omega)
        rcases Nat.lt_or_ge r m with h1 | h1
        · exact hall r h1
        · have : r = m := by omega
          subst this; exact hd
    · intro k3 hk3
      repeat (first | (with_reducible refine NilP.mk ?_) | ((with_reducible refine RunN.isLoad ?_); (first | refine h.load2 0 0 ⟨_, rfl, rfl⟩ rfl ?_ | refine h.loadB 0 0 ⟨_, rfl, rfl⟩ rfl rfl ?_ | refine h.drew.load2 0 0 ⟨_, rfl, rfl⟩ rfl ?_ | refine h.drew.loadB 0 0 ⟨_, rfl, rfl⟩ rfl rfl ?_)) | ((with_reducible refine ReadN.isLoad ?_); (first | refine h.read2 0 0 ⟨_, rfl, rfl⟩ rfl ?_ | refine h.readB 0 0 ⟨_, rfl, rfl⟩ rfl rfl ?_ | refine h.drew.read2 0 0 ⟨_, rfl, rfl⟩ rfl ?_ | refine h.drew.readB 0 0 ⟨_, rfl, rfl⟩ rfl rfl ?_)) | ((with_reducible refine StillV.isLoad ?_); (first | refine ⟨h.stillB 0 0 ⟨_, rfl, rfl⟩ rfl rfl, ?_⟩ | refine ⟨h.still2 0 0 ⟨_, rfl, rfl⟩ rfl, ?_⟩)) | ((with_reducible refine RunU.isStor ?_); (first | (refine h.stor2 0 0 ⟨_, rfl, rfl⟩ rfl ?_; intro w h; dsimp only [updG, setO] at h) | (refine h.storB 0 0 ⟨_, rfl, rfl⟩ rfl rfl rfl ?_; intro w h; dsimp only [updG, setO] at h) | (refine h.drew.stor2 0 0 ⟨_, rfl, rfl⟩ rfl ?_; intro w h; dsimp only [updG, setO] at h) | (refine h.drew.storB 0 0 ⟨_, rfl, rfl⟩ rfl rfl rfl ?_; intro w h; dsimp only [updG, setO] at h))) | ((with_reducible refine RunN.isBox ?_); (first | (refine h.newB run_boxA rfl ?_; intro bn w h; try dsimp only at h; have h := h.ord 2 [1, 0]; dsimp only [pick, nthO, dropO] at h) | (refine h.drew.newB run_boxA rfl ?_; intro bn w h; try dsimp only at h; have h := h.ord 2 [1, 0]; dsimp only [pick, nthO, dropO] at h))) | ((with_reducible refine RunN.isNew ?_); (first | (refine h.newB (NewC.run _) rfl ?_; intro bn w h; have h := h.ord 2 [1, 0]; dsimp only [pick, nthO, dropO] at h) | (refine h.drew.newB (NewC.run _) rfl ?_; intro bn w h; have h := h.ord 2 [1, 0]; dsimp only [pick, nthO, dropO] at h))) | (refine RunN.k2Eq ?_) | (refine RunN.k2Ne ?_) | (refine ReadN.k2Eq ?_) | (refine ReadN.k2Ne ?_))
      rw [SplitB_iff]
      refine ⟨fun hd => ?_, fun hd => ?_⟩
      · have hd : m ≠ e.me := by
          intro he; subst he; simp at hd
        refine NilP.mk ?_
        refine RunN.arr rfl m rfl (by omega) ?_
        refine h.loadB 0 0 ⟨_, rfl, rfl⟩ rfl (kd := .int .i64) (x := gI e.re m) (r_at hw (by omega)) ?_
        refine hk3 _ _ ⟨?_, h⟩
        dsimp only
        by_cases h1 : gI e.re m = -1
        · simp [h1, hd]
        · simp [h1]
      · have hd : m = e.me := by
          have : (m : Int) = (e.me : Int) := by simpa using hd
          omega
        exact hk3 _ _ ⟨by simp [hd], h⟩
  · have hc : m = e.n := by have : ¬ (m : Int) < (e.n : Int) := of_decide_eq_false hc; omega
    subst hc
    refine (own_st h hw).mono ?_
    rintro _ w4 ⟨rfl, h⟩
    refine (some_st h _ _).mono ?_
    rintro _ w5 ⟨rfl, h⟩
    refine ⟨?_, h⟩
    have : ((List.range e.n).all fun r => !(decide (r ≠ e.me) && gI e.re r == -1)) = true := by
      rw [List.all_eq_true]
      intro r hr
      have := hall r (List.mem_range.1 hr)
      by_cases h1 : r = e.me
      · simp [h1]
      · have h2 : ¬ gI e.re r = -1 := fun h2 => this ⟨h1, h2⟩
        simp [h2]
    rw [Mv.all, this, Bool.true_and]
/-! ### amounts -/
def okA (l : List Int) : Bool := l.all fun x => decide (0 ≤ x ∧ x ≤ 1099511627776)
theorem amount_st {s : Sl} {l : List Int} (h : Rd w s 1 (lin l)) (hl : l.length ≤ 1000) : CallK Try.prog .bool 45 #[.slice s.a s.len s.cap] w fun (v : Bool) w' => v = okA l ∧ w' = w := by
  have hsl : s.len = l.length := by have := h.1; rw [lin_len] at this; omega
  refine T45.calls ?_
  unfold T45
  refine LoopX.mk (fun st w' => ∃ (m : Nat), st = ((m : Int), ()) ∧ m ≤ l.length ∧ okA (l.take m) = true ∧ w' = w) (fun st => ((l.length : Int) - st.1).toNat) ⟨0, rfl, Nat.zero_le _, rfl, rfl⟩ ?_
  rintro _ w3 ⟨m, rfl, hm, hall, rfl⟩ k hk
  dsimp only at hk ⊢
  rw [SplitB_iff]
  refine ⟨fun hc => ?_, fun hc => ?_⟩
  · have hc : m < l.length := by have : (m : Int) < (s.len : Int) := of_decide_eq_true hc; omega
    have hem : IntKind.i64.wrap ((m : Int) + 1) = ((m + 1 : Nat) : Int) := by rw [wr (by omega)]; omega
    rw [hem]
    refine h.idxK m rfl (by omega) ?_
    intro g o ha
    refine h.el ha (m * 1) rfl (kd := .int .i64) (x := l[m]) (by rw [Nat.mul_one]; exact lin_at hc) ?_
    refine JoinX.mk (fun (y : Bool × Unit) w' => y.1 = !decide (0 ≤ l[m] ∧ l[m] ≤ 1099511627776) ∧ w' = w3) ?_ ?_
    · rintro ⟨y, ⟨⟩⟩ w4 ⟨hy, rfl⟩
      dsimp only at hy
      subst hy
      rw [SplitB_iff]
      refine ⟨fun hd => ?_, fun hd => ?_⟩
      · refine ⟨?_, rfl⟩
        have : okA l = false := by
          rw [okA, List.all_eq_false]
          exact ⟨l[m], List.getElem_mem hc, by simp at hd ⊢; omega⟩
        exact this.symm
      · refine hk _ _ ⟨m + 1, rfl, by omega, ?_, rfl⟩ (by dsimp only; omega)
        rw [List.take_succ_eq_append_getElem hc, okA, List.all_append]
        have h2 : decide (0 ≤ l[m] ∧ l[m] ≤ 1099511627776) = true := by simpa using hd
        simp only [List.all_cons, List.all_nil, h2, Bool.and_true]
        exact hall
    · intro k3 hk3
      rw [SplitB_iff]
      refine ⟨fun hd => ?_, fun hd => ?_⟩
      · have hd : l[m] < 0 := of_decide_eq_true hd
        refine hk3 _ _ ⟨?_, rfl⟩
        dsimp only
        rw [decide_eq_false (by omega)]; rfl
      · have hd : ¬ l[m] < 0 := of_decide_eq_false hd
        refine hk3 _ _ ⟨?_, rfl⟩
        dsimp only
        by_cases h2 : l[m] > 1099511627776
        · rw [decide_eq_true h2, decide_eq_false (by omega)]; rfl
        · rw [decide_eq_false h2, decide_eq_true (by omega)]; rfl
  · have hc : m = l.length := by have : ¬ (m : Int) < (s.len : Int) := of_decide_eq_false hc; omega
    subst hc
    rw [List.take_length] at hall
    exact ⟨hall.symm, rfl⟩
/-! ### acts -/
theorem put_st {e : Em} {q : List A6} (h : St w0 w (emE e q :: F)) (hw : e.wf) (hq : q.length < 4) (a : A6) : CallK Try.prog (.tup .nilT) 46 #[.pointer e.p, aco a] w fun (v : Unit) w' => St w0 w' (emE { e with cs := e.cs + 1 } (q ++ [a]) :: F) := by
  refine T46.calls (p1 := act a) ?_
  unfold T46
  refine h.newB run_boxA rfl ?_
  intro bn w h
  have h := h.ord 2 [1, 0]
  dsimp only [pick, nthO, dropO] at h
  refine NilP.mk ?_
  refine h.loadB 0 0 ⟨_, rfl, rfl⟩ rfl (kd := .chan) (x := some e.ch) (ch_at hw) ?_
  refine h.load6 1 0 ⟨_, rfl, rfl⟩ rfl ?_
  refine h.send 0 1 ⟨_, rfl, rfl⟩ (by simpa using hq) (zero70 _) ?_
  intro w2 h
  have h : St w0 w2 (emE { e with cs := e.cs + 1 } (q ++ [a]) :: F) := by
    have h := h.drop 1
    dsimp only [updG, setO, delO, emE] at h
    rw [emE, List.map_append]
    exact h
  rw [SplitB_iff]
  exact ⟨fun _ => h, fun _ => h⟩
theorem bs66 (w : World) (a : A6) : (Instr.buildSlice 66 1 #[(0, aco a)]).run Try.prog w = .ok (.slice (some ⟨w.heap.size, 0, none⟩) 1 1) (w.alloc (.cells ⟨acv a⟩ 70)) := by kernel_rfl
theorem taken_st {e : Em} {q : List A6} (h : St w0 w (emE e q :: F)) (hw : e.wf) (hq : q.length ≤ 4) : CallK Try.prog .sl 47 #[.pointer e.p] w
    fun (s : Sl) w' => s.len = q.length ∧ St w0 w' ([.row 70 6 s (acs q)] :: emE { e with cr := e.cr + q.length } [] :: F) := by
  refine T47.calls ?_
  unfold T47
  have h := h.nilrow 70 6
  refine LoopX.mk (fun st w' => ∃ (s : Sl) (m : Nat), st = (s, ()) ∧ m ≤ q.length ∧ s.len = m ∧ St w0 w' ([.row 70 6 s (acs (q.take m))] :: emE { e with cr := e.cr + m } (q.drop m) :: F)) (fun st => q.length - st.1.len) ⟨_, 0, rfl, Nat.zero_le _, rfl, h⟩ ?_
  clear h
  rintro _ w1 ⟨s, m, rfl, hm, hs, h⟩ k hk
  dsimp only at hk ⊢
  have hw1 : ({ e with cr := e.cr + m } : Em).wf := hw
  refine NilP.mk ?_
  refine h.loadB 1 0 ⟨_, rfl, rfl⟩ rfl (kd := .chan) (x := some e.ch) (ch_at hw1) ?_
  by_cases hc : m < q.length
  · rw [List.drop_eq_getElem_cons hc] at h
    refine h.recv 1 1 (kd := Kd6) (x := act q[m]) ⟨_, rfl, rfl⟩ (zero70 _) ?_
    intro w2 h
    rw [SplitB_iff]
    refine ⟨fun _ => ?_, fun hf => (by cases hf)⟩
    refine h.newB (NewC.run _) rfl ?_
    intro b w3 h
    refine h.storA 0 0 ⟨_, rfl, rfl⟩ (t' := 70) (n := 6) (j := 0) rfl (ds := acv q[m]) rfl rfl rfl ?_
    intro w4 h
    refine RunN.of (kd := Kd6) (x := act q[m]) (h.run_loadA (k := 0) (i := 0) (b := b) (t := 70) (cs := acv q[m]) ⟨_, rfl, rfl⟩ (t' := 70) (n := 6) (j := 0) rfl (vs := acv q[m]) rfl rfl) ?_
    refine h.newS 6 (bs66 _ q[m]) rfl rfl rfl ?_
    intro u w5 hu1 hu2 _ h
    refine h.app 2 0 ⟨_, rfl, rfl⟩ (h.rd (k := 0) (i := 0) ⟨_, rfl, rfl⟩) (acv_one _) (by simp only [maxLen]; omega) (by omega) ?_
    intro s' w6 hl h
    have h := (h.drop 0).drop 0
    refine hk _ _ ⟨s', m + 1, rfl, by omega, by omega, ?_⟩ (by dsimp only; omega)
    rw [List.take_succ_eq_append_getElem hc, acs, List.flatMap_append]
    have e2 : [q[m]].flatMap acv = acv q[m] := by simp
    rw [e2]
    exact h
  · have hc : m = q.length := by omega
    subst hc
    rw [List.drop_length] at h
    refine h.recvNo 1 1 ⟨_, rfl, rfl⟩ (zero70 _) ?_
    rw [SplitB_iff]
    refine ⟨fun hf => (by cases hf), fun _ => ?_⟩
    rw [List.take_length] at h
    exact ⟨hs, h⟩
end Go.Proofs.Ytmfbmfppjdkeeaa
