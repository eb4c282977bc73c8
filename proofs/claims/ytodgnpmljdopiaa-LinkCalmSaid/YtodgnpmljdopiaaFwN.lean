/- A store into memory that is owned. -/
import Derived.Test.YtodgnpmljdopiaaFwM
namespace Go.Fw
open Go Go.RowKit

/-- A place of an owned slice: what it holds, that it may be written, and what is owned then. -/
theorem Ow.place {w : World} {base : Nat} {E : TypeId} {sz : Nat} {s : Sl} {vs : List Value} (h : Ow w base E sz s vs) {i : Nat} (hi : i < vs.length) :
    ∃ g o, s.a = some ⟨g, o, none⟩ ∧ s.blk = some g ∧ w.frozen? ⟨g, o + i, none⟩ = false ∧ w.cell? ⟨g, o + i, none⟩ = some vs[i] ∧
      ∀ v, Ow (w.setCell ⟨g, o + i, none⟩ v) base E sz s (vs.set i v) := by
  have hl := h.1
  rcases h.2 with rfl | ⟨g, o, cs, ha, hb, hg, h1, h2, h3, h4⟩
  · simp at hl; simp [hl] at hi
  have hle : s.len * sz ≤ s.cap * sz := Nat.mul_le_mul_right _ h1
  have hcl : o + i < cs.length := by omega
  refine ⟨g, o, ha, by simp [Sl.blk, ha], ?_, ?_, fun v => ⟨by simp [hl], .inr ⟨g, o, cs.set (o + i) v, ha, hb, ?_, h1, h2, by simpa using h3, ?_⟩⟩⟩
  · unfold World.frozen?
    simp only [hg]
    simp
  · rw [cell_of_row w g _ ⟨cs⟩ E (0, 0) hg]
    have : vs[i]? = some vs[i] := List.getElem?_eq_getElem hi
    rw [← this]
    conv => rhs; rw [← h4]
    rw [List.getElem?_take, if_pos (by omega), List.getElem?_drop]; simp
  · unfold World.setCell
    have := (Array.getElem?_eq_some_iff.1 hg)
    obtain ⟨hlt, hge⟩ := this
    simp only [Array.getElem?_modify, if_pos, hg, Option.map_some, Option.isSome_none, Bool.false_eq_true, if_false]
    simp [Array.setIfInBounds, hcl]
  · rw [List.drop_set, if_neg (by omega), Nat.add_sub_cancel_left, List.take_set, h4]
end Go.Fw
