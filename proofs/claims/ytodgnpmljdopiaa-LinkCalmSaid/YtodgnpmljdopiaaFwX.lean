/- Rows of any one-cell values that grow. -/
import Derived.Test.YtodgnpmljdopiaaFwU
set_option linter.unusedVariables false
set_option linter.unusedSimpArgs false
namespace Go.Fw
open Go Go.RowKit
variable {w0 w : World} {G : Grps}
/-- A row that grows from its old one: it holds it as its beginning, or the old one is left. -/
def GrowV (E : TypeId) (w0 w : World) (q : Sl) (v : List Value) (d : Sl) (e : List Value) (G : Grps) : Prop :=
  q.len = v.length ∧ d.len = v.length + e.length ∧ (d.a = q.a ∧ d.cap = q.cap ∧ St w0 w ([.row E 1 d (v ++ e)] :: G) ∨ St w0 w ([.row E 1 d (v ++ e), .row E 1 q v] :: G))
theorem GrowV.start {E : TypeId} {q : Sl} {v : List Value} {G : Grps} (h : St w0 w ([.row E 1 q v] :: G)) : GrowV E w0 w q v q [] G := by
  have hl := (h.rd (k := 0) (i := 0) ⟨_, rfl, rfl⟩).1
  exact ⟨by omega, by simp; omega, .inl ⟨rfl, rfl, by simpa using h⟩⟩
theorem GrowV.app {P : Program} {t E by_ : Nat} [et : Et P t E 1 by_] (x : Value) (hx : x.oneCell' = true) {s0 : Sem Value} (hbs : ∀ (w : World), s0.run P w = .ok (.slice (some ⟨w.heap.size, 0, none⟩) 1 1) (w.alloc (.cells ⟨[x]⟩ E)))
    {q : Sl} {v : List Value} {d : Sl} {e : List Value} {G : Grps} (hg : GrowV E w0 w q v d e G) (hl : (v.length + e.length + 1) * by_ ≤ 140737488355328) (hl2 : v.length + e.length ≤ 1048576000) {ty : TypeId} {K : Sl → World → Prop}
    (hk : ∀ d' w', GrowV E w0 w' q v d' (e ++ [x]) G → K d' w') :
    RunN P .sl (V s0) w fun u w =>
      RunN P .sl (V (Builtin.append_ #[t, t] ty #[.slice d.a d.len d.cap, .slice u.a u.len u.cap])) w fun u' w => K u' w := by
  obtain ⟨hql, hdl, hc⟩ := hg
  have hone : ∀ y ∈ [x], y.oneCell' = true := fun y hy => by simp at hy; subst hy; exact hx
  have ebb : (v ++ e) ++ [x] = v ++ (e ++ [x]) := by rw [List.append_assoc]
  rcases hc with ⟨ha, hcap, h⟩ | h
  · refine h.newS 1 (hbs _) rfl rfl (by simp [hx]) ?_
    intro u w hl1 hc1 _ h
    refine h.appKeep 1 0 ⟨_, rfl, rfl⟩ (h.rd (k := 0) (i := 0) ⟨_, rfl, rfl⟩) hone (by simp only [maxLen]; omega) (by rw [hdl, hl1]; exact hl) ?_
    intro d' w hl' hd
    rw [ebb] at hd
    refine hk d' w ⟨hql, by simp; omega, ?_⟩
    rcases hd with ⟨ha', hc', h⟩ | h
    · dsimp only [updG, setO] at h
      exact .inl ⟨ha'.trans ha, hc'.trans hcap, h.drop 0⟩
    · dsimp only [updG, delO, List.append_nil] at h
      have h := h.drop 0
      dsimp only [delO] at h
      have hrd := h.preR (k := 0) (i := 1) ⟨_, rfl, rfl⟩ (hi := v.length) (by omega)
      dsimp only [updG, setO] at hrd
      right
      have e1 : (v ++ e).take (v.length * 1) = v := by rw [Nat.mul_one, List.take_append_of_le_length (by simp), List.take_of_length_le (by simp)]
      have e2 : subS d 0 v.length 1 = q := by
        rw [subS_zero, ha, hcap, ← hql]
      rw [e1, e2] at hrd
      exact hrd
  · refine h.newS 1 (hbs _) rfl rfl (by simp [hx]) ?_
    intro u w hl1 hc1 _ h
    refine h.app 1 0 ⟨_, rfl, rfl⟩ (h.rd (k := 0) (i := 0) ⟨_, rfl, rfl⟩) hone (by simp only [maxLen]; omega) (by rw [hdl, hl1]; exact hl) ?_
    intro d' w hl' h
    dsimp only [updG, setO] at h
    rw [ebb] at h
    exact hk d' w ⟨hql, by simp; omega, .inr (h.drop 0)⟩
/-- One that has grown: what it was is its beginning, or is left where it is. -/
def FarV (E : TypeId) (x y : Sl × List Value) (g : List Ent) : Prop :=
  (∃ e, y.2 = x.2 ++ e) ∧ x.1.len = x.2.length ∧ y.1.len = y.2.length ∧ x.1.len ≤ x.1.cap ∧ (g = [.row E 1 y.1 y.2] ∧ y.1.a = x.1.a ∨ g = [.row E 1 y.1 y.2, .row E 1 x.1 x.2])
theorem FarV.reads {E : TypeId} {x y : Sl × List Value} {g : List Ent} (hf : FarV E x y g) (h : St w0 w G) {k : Nat} {gs : List Ent} (hk : nthO G k = some gs) (hg : ∀ e ∈ g, e ∈ gs) : Rd w y.1 1 y.2 ∧ Rd w x.1 1 x.2 := by
  obtain ⟨⟨e, h1⟩, h2, h3, h4, h5⟩ := hf
  have hy : Rd w y.1 1 y.2 := by
    have : Ent.row E 1 y.1 y.2 ∈ gs := hg _ (by rcases h5 with ⟨h5, _⟩ | h5 <;> rw [h5] <;> simp)
    exact (h.memG k hk this).1.rd
  refine ⟨hy, ?_⟩
  rcases h5 with ⟨h5, ha⟩ | h5
  · have hp := hy.pre (hi := x.1.len) (by rw [h3, h1, List.length_append]; omega)
    rw [subS_zero] at hp
    refine ⟨by rw [h2]; simp, ?_, h4⟩
    have e : y.2.take (x.1.len * 1) = x.2 := by rw [h1, h2, Nat.mul_one, List.take_append_of_le_length (by simp), List.take_of_length_le (by simp)]
    rw [e] at hp
    rcases hp.2.1 with h0 | ⟨b, o, hb, hc⟩
    · exact .inl h0
    · exact .inr ⟨b, o, by rw [← ha]; exact hb, hc⟩
  · have : Ent.row E 1 x.1 x.2 ∈ gs := hg _ (by rw [h5]; simp)
    exact (h.memG k hk this).1.rd
theorem GrowV.far {E : TypeId} {q : Sl} {v : List Value} {d : Sl} {e : List Value} (hg : GrowV E w0 w q v d e G) (hc : q.len ≤ q.cap) : ∃ g, FarV E (q, v) (d, v ++ e) g ∧ St w0 w (g :: G) := by
  obtain ⟨h1, h2, h3⟩ := hg
  rcases h3 with ⟨ha, hcap, h⟩ | h
  · exact ⟨_, ⟨⟨e, rfl⟩, h1, by dsimp only; rw [h2]; simp, hc, .inl ⟨rfl, ha⟩⟩, h⟩
  · exact ⟨_, ⟨⟨e, rfl⟩, h1, by dsimp only; rw [h2]; simp, hc, .inr rfl⟩, h⟩
end Go.Fw
