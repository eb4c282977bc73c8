/- What a damaged, cut or lengthened frame opens to: plain mathematics. No program in sight. -/
import Derived.Test.YtaocddmmgefeoaaDoorFrQ
set_option linter.unusedSimpArgs false
set_option linter.unusedVariables false
namespace Go.Frm

theorem open_err {b : List UInt8} (h : (openS b).2 ≠ 0) : (openS b).1 = [] := by
  rcases open_cases b with h0 | h0
  · exact absurd h0 h
  · exact h0.1
/-- What opens at the length of a frame, and differs from it in few bytes side by side, is the frame. -/
theorem open_near {l p x y q : List UInt8} (hl : l.length ≤ 4096) (hf : frame l = p ++ x ++ q) (hxy : x.length = y.length) (h4 : x.length ≤ 4) (hne : x ≠ y) : (openS (p ++ y ++ q)).2 ≠ 0 := by
  intro h0
  obtain ⟨hm, he⟩ := open_form h0
  have h1 := run_frame (openS (p ++ y ++ q)).1
  rw [he] at h1
  have h2 := run_frame l
  rw [hf] at h2
  exact hne (run_burst hxy h4 (h2.trans h1.symm))
theorem open_burst {l p x y q : List UInt8} (hl : l.length ≤ 4096) (hf : frame l = p ++ x ++ q) (hp : 3 ≤ p.length) (hxy : x.length = y.length) (h4 : x.length ≤ 4) (hne : x ≠ y) : openS (p ++ y ++ q) = ([], 12) := by
  have hlen : (p ++ y ++ q).length = l.length + 7 := by
    have := frame_length l
    rw [hf] at this
    simp at this ⊢; omega
  have hget : ∀ i, i < 3 → (p ++ y ++ q).getD i 0 = (frame l).getD i 0 := by
    intro i hi
    rw [hf]
    have hi' : i < p.length := by omega
    simp [List.getD_eq_getElem?_getD, List.append_assoc, List.getElem?_append_left hi']
  refine open_bad hlen hl ?_ ?_ ?_
  · rw [hget 0 (by omega)]; rfl
  · unfold len16
    rw [hget 1 (by omega), hget 2 (by omega)]
    exact len16_frame hl
  · intro h
    have h2 := run_frame l
    rw [hf] at h2
    exact hne (run_burst hxy h4 (h2.trans h.symm))
theorem open_set {l : List UInt8} (hl : l.length ≤ 4096) {k : Nat} (hk : k < (frame l).length) {c : UInt8} (hc : (frame l)[k] ≠ c) : (openS ((frame l).set k c)).2 ≠ 0 := by
  have hf : frame l = (frame l).take k ++ [(frame l)[k]] ++ (frame l).drop (k + 1) := by
    rw [List.append_assoc, List.singleton_append, ← List.drop_eq_getElem_cons hk, List.take_append_drop]
  have hs : (frame l).set k c = (frame l).take k ++ [c] ++ (frame l).drop (k + 1) := by
    rw [List.set_eq_take_append_cons_drop, if_pos hk]; simp
  rw [hs]
  exact open_near hl hf rfl (by simp) (by simpa using hc)
theorem open_take {l : List UInt8} (hl : l.length ≤ 4096) {k : Nat} (hk : k < (frame l).length) : openS ((frame l).take k) = ([], 10) := by
  have hfl := frame_length l
  unfold openS
  by_cases h7 : k < 7
  · rw [if_pos (by simp; omega)]
  · have hget : ∀ i, i < 3 → ((frame l).take k).getD i 0 = (frame l).getD i 0 := by
      intro i hi
      simp [List.getD_eq_getElem?_getD, List.getElem?_take, show i < k by omega]
    have h16 : len16 ((frame l).take k) = l.length := by
      unfold len16
      rw [hget 1 (by omega), hget 2 (by omega)]
      exact len16_frame hl
    rw [if_neg (by simp; omega), if_neg (by rw [hget 0 (by omega), hdr_get]; exact fun h => h rfl), if_pos (by rw [h16]; right; simp; omega)]
theorem open_more {l m : List UInt8} (hl : l.length ≤ 4096) (hm : m ≠ []) : openS (frame l ++ m) = ([], 10) := by
  have hfl := frame_length l
  have hget : ∀ i, i < 3 → (frame l ++ m).getD i 0 = (frame l).getD i 0 := by
    intro i hi
    simp [List.getD_eq_getElem?_getD, List.getElem?_append_left (show i < (frame l).length by omega)]
  have h16 : len16 (frame l ++ m) = l.length := by
    unfold len16
    rw [hget 1 (by omega), hget 2 (by omega)]
    exact len16_frame hl
  have : 0 < m.length := List.length_pos_iff.2 hm
  unfold openS
  rw [if_neg (by simp; omega), if_neg (by rw [hget 0 (by omega), hdr_get]; exact fun h => h rfl), if_pos (by rw [h16]; right; simp; omega)]
theorem alive1 : frame [97, 98, 99] = [1, 3, 0, 97, 98, 99, 6, 144, 91, 247] := by decide
theorem alive2 : openS [1, 0, 0, 37, 179, 131, 254] = ([], 0) := by decide
theorem alive3 : openS [1, 0, 0, 37, 179, 131, 255] = ([], 12) := by decide
end Go.Frm
