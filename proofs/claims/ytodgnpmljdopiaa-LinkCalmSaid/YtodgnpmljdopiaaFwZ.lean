/- Rows of pieces that grow. -/
import Derived.Test.YtodgnpmljdopiaaFwX
import Derived.Test.YtodgnpmljdopiaaFwY
set_option linter.unusedVariables false
set_option linter.unusedSimpArgs false
namespace Go.Fw
open Go Go.RowKit
variable {w0 w : World} {G : Grps}
/-- A row that grows from its old one: it holds it as its beginning, or the old one is left. -/
def GrowS (E : TypeId) (sz : Nat) (w0 w : World) (q : Sl) (v : List Value) (d : Sl) (n : Nat) (e : List Value) (G : Grps) : Prop :=
  v.length = q.len * sz ∧ e.length = n * sz ∧ d.len = q.len + n ∧ (d.a = q.a ∧ d.cap = q.cap ∧ St w0 w ([.row E sz d (v ++ e)] :: G) ∨ St w0 w ([.row E sz d (v ++ e), .row E sz q v] :: G))
theorem GrowS.start {E : TypeId} {sz : Nat} {q : Sl} {v : List Value} {G : Grps} (h : St w0 w ([.row E sz q v] :: G)) : GrowS E sz w0 w q v q 0 [] G := by
  have hl := (h.rd (k := 0) (i := 0) ⟨_, rfl, rfl⟩).1
  exact ⟨hl, by simp, rfl, .inl ⟨rfl, rfl, by simpa using h⟩⟩
theorem GrowS.app {P : Program} {t E sz by_ : Nat} [et : Et P t E sz by_] (x : List Value) (hxl : x.length = sz) (hx : x.all Value.oneCell' = true) {s0 : Sem Value} (hbs : ∀ (w : World), s0.run P w = .ok (.slice (some ⟨w.heap.size, 0, none⟩) 1 1) (w.alloc (.cells ⟨x⟩ E)))
    {q : Sl} {v : List Value} {d : Sl} {n : Nat} {e : List Value} {G : Grps} (hg : GrowS E sz w0 w q v d n e G) (hl : (q.len + n + 1) * by_ ≤ 140737488355328) (hl2 : q.len + n ≤ 1048576000) {ty : TypeId} {K : Sl → World → Prop}
    (hk : ∀ d' w', GrowS E sz w0 w' q v d' (n + 1) (e ++ x) G → K d' w') :
    RunN P .sl (V s0) w fun u w =>
      RunN P .sl (V (Builtin.append_ #[t, t] ty #[.slice d.a d.len d.cap, .slice u.a u.len u.cap])) w fun u' w => K u' w := by
  obtain ⟨hql, hel, hdl, hc⟩ := hg
  have hone : ∀ y ∈ x, y.oneCell' = true := List.all_eq_true.1 hx
  have ebb : (v ++ e) ++ x = v ++ (e ++ x) := by rw [List.append_assoc]
  have hel2 : (e ++ x).length = (n + 1) * sz := by rw [List.length_append, hel, hxl, Nat.add_mul, Nat.one_mul]
  rcases hc with ⟨ha, hcap, h⟩ | h
  · refine h.newS sz (hbs _) rfl (by rw [Nat.one_mul]; exact hxl) hx ?_
    intro u w hl1 hc1 _ h
    have hru := h.rd (k := 0) (i := 0) ⟨_, rfl, rfl⟩
    refine h.appKeep 1 0 ⟨_, rfl, rfl⟩ hru hone (by simp only [maxLen]; omega) (by rw [hdl, hl1]; exact hl) ?_
    intro d' w hl' hd
    rw [ebb] at hd
    refine hk d' w ⟨hql, hel2, by omega, ?_⟩
    rcases hd with ⟨ha', hc', h⟩ | h
    · dsimp only [updG, setO] at h
      exact .inl ⟨ha'.trans ha, hc'.trans hcap, h.drop 0⟩
    · dsimp only [updG, delO, List.append_nil] at h
      have h := h.drop 0
      dsimp only [delO] at h
      have hrd := h.preR (k := 0) (i := 1) ⟨_, rfl, rfl⟩ (hi := q.len) (by omega)
      dsimp only [updG, setO] at hrd
      right
      have e1 : (v ++ e).take (q.len * sz) = v := by rw [← hql, List.take_append_of_le_length (by simp), List.take_of_length_le (by simp)]
      have e2 : subS d 0 q.len sz = q := by rw [subS_zero, ha, hcap]
      rw [e1, e2] at hrd
      exact hrd
  · refine h.newS sz (hbs _) rfl (by rw [Nat.one_mul]; exact hxl) hx ?_
    intro u w hl1 hc1 _ h
    have hru := h.rd (k := 0) (i := 0) ⟨_, rfl, rfl⟩
    refine h.app 1 0 ⟨_, rfl, rfl⟩ hru hone (by simp only [maxLen]; omega) (by rw [hdl, hl1]; exact hl) ?_
    intro d' w hl' h
    dsimp only [updG, setO] at h
    rw [ebb] at h
    exact hk d' w ⟨hql, hel2, by omega, .inr (h.drop 0)⟩
/-- What it grew from is there still. -/
theorem GrowS.done {E : TypeId} {sz : Nat} {q : Sl} {v : List Value} {d : Sl} {n : Nat} {e : List Value} (hg : GrowS E sz w0 w q v d n e G) : St w0 w ([.row E sz q v] :: G) := by
  obtain ⟨hql, hel, hdl, hc⟩ := hg
  rcases hc with ⟨ha, hcap, h⟩ | h
  · have hrd := h.preR (k := 0) (i := 0) ⟨_, rfl, rfl⟩ (hi := q.len) (by omega)
    dsimp only [updG, setO] at hrd
    have e1 : (v ++ e).take (q.len * sz) = v := by rw [← hql, List.take_append_of_le_length (by simp), List.take_of_length_le (by simp)]
    have e2 : subS d 0 q.len sz = q := by rw [subS_zero, ha, hcap]
    rw [e1, e2] at hrd
    exact hrd
  · exact (St.one.1 h).drop 0
/-- One that has grown: what it was is its beginning, or is left where it is. -/
def FarS (E : TypeId) (sz : Nat) (x y : Sl × List Value) (g : List Ent) : Prop :=
  (∃ e, y.2 = x.2 ++ e) ∧ x.2.length = x.1.len * sz ∧ x.1.len ≤ y.1.len ∧ x.1.len ≤ x.1.cap ∧ (g = [.row E sz y.1 y.2] ∧ y.1.a = x.1.a ∨ g = [.row E sz y.1 y.2, .row E sz x.1 x.2])
theorem FarS.reads {E : TypeId} {sz : Nat} {x y : Sl × List Value} {g : List Ent} (hf : FarS E sz x y g) (h : St w0 w G) {k : Nat} {gs : List Ent} (hk : nthO G k = some gs) (hg : ∀ e ∈ g, e ∈ gs) : Rd w y.1 sz y.2 ∧ Rd w x.1 sz x.2 := by
  obtain ⟨⟨e, h1⟩, h2, h3, h4, h5⟩ := hf
  have hy : Rd w y.1 sz y.2 := by
    have : Ent.row E sz y.1 y.2 ∈ gs := hg _ (by rcases h5 with ⟨h5, _⟩ | h5 <;> rw [h5] <;> simp)
    exact (h.memG k hk this).1.rd
  refine ⟨hy, ?_⟩
  rcases h5 with ⟨h5, ha⟩ | h5
  · have hp := hy.pre (hi := x.1.len) h3
    rw [subS_zero] at hp
    have e : y.2.take (x.1.len * sz) = x.2 := by rw [h1, ← h2, List.take_append_of_le_length (by simp), List.take_of_length_le (by simp)]
    rw [e] at hp
    refine ⟨h2, ?_, h4⟩
    rcases hp.2.1 with h0 | ⟨b, o, hb, hc⟩
    · exact .inl h0
    · exact .inr ⟨b, o, by rw [← ha]; exact hb, hc⟩
  · have : Ent.row E sz x.1 x.2 ∈ gs := hg _ (by rw [h5]; simp)
    exact (h.memG k hk this).1.rd
theorem GrowS.far {E : TypeId} {sz : Nat} {q : Sl} {v : List Value} {d : Sl} {n : Nat} {e : List Value} (hg : GrowS E sz w0 w q v d n e G) (hc : q.len ≤ q.cap) : ∃ g, FarS E sz (q, v) (d, v ++ e) g ∧ St w0 w (g :: G) := by
  obtain ⟨h1, h2, h3, h4⟩ := hg
  rcases h4 with ⟨ha, hcap, h⟩ | h
  · exact ⟨_, ⟨⟨e, rfl⟩, h1, by dsimp only; omega, hc, .inl ⟨rfl, ha⟩⟩, h⟩
  · exact ⟨_, ⟨⟨e, rfl⟩, h1, by dsimp only; omega, hc, .inr rfl⟩, h⟩
end Go.Fw
