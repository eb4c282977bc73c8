/- What a law of the link reads of its arguments: lists of bytes. -/
import Derived.Test.YtodgnpmljdopiaaLkRow
import Derived.Test.YtodgnpmljdopiaaLkO
namespace Go.Proofs.Ytodgnpmljdopiaa
open Go.ChangeShapes Go.WideShapes Go.ChangeAt Go.RowKit Go Go.Fw
set_option linter.unusedVariables false
set_option linter.unusedSimpArgs false
set_option maxRecDepth 20000

theorem u5 : Try.prog.underlying 5 = some (.int .u8) := by kernel_rfl
theorem u51 : Try.prog.underlying 51 = some (.slice 45) := by kernel_rfl
theorem u45 : Try.prog.underlying 45 = some (.slice 5) := by kernel_rfl
theorem wf_i64 {n : Int} (h : Lit.wf (.int .i64 n) = true) : -9223372036854775808 ≤ n ∧ n ≤ 9223372036854775807 := by
  have hmax : IntKind.i64.max = 9223372036854775807 := rfl
  have hmin : IntKind.i64.min = -9223372036854775808 := rfl
  simp [Lit.wf, hmax, hmin] at h
  omega
theorem recs_els {H : Type} {enc : TypeId × Value → H} {W : World} {base : Nat} {spare : Nat → Bool} {held : Bool} {els : List (List Value)} (hel : ∀ c ∈ els, c.length = 1 ∧ ∃ (n : Nat) (y : DataW H × List MemPlace), DataW.trod enc Try.prog W base spare held n 45 c = some y ∧ Wt Try.prog 45 y.1) :
    ∃ L : List Bs, els.flatten = lsl L ∧ L.length = els.length ∧ ∀ x ∈ L, Rd W x.1 1 (bys x.2) ∧ x.2.length ≤ 140737488351232 := by
  induction els with
  | nil => exact ⟨[], rfl, rfl, fun x hx => by cases hx⟩
  | cons c r ih =>
    obtain ⟨L, e, el, hx⟩ := ih fun c hc => hel c (List.mem_cons_of_mem _ hc)
    obtain ⟨hc1, n, y, hy, hwy⟩ := hel c (List.mem_cons_self ..)
    obtain ⟨s, l, rfl, hr, hl⟩ := open_bys u45 u5 (by kernel_rfl) (by kernel_rfl) hy hwy
    refine ⟨(s, l) :: L, by rw [List.flatten_cons, e]; rfl, by simp [el], fun z hz => ?_⟩
    rcases List.mem_cons.1 hz with rfl | hz
    · exact ⟨hr, Nat.le_trans hl (Nat.le_of_eq rfl)⟩
    · exact hx z hz
theorem recs_of {H : Type} {enc : TypeId × Value → H} {W : World} {base b : Nat} {spare : Nat → Bool} {held : Bool} {v : Value} {d : DataW H} {ps : List MemPlace} (hval : Value.okWide Try.prog W .any b 51 v)
    (hd : DataW.Trod enc Try.prog W base spare held 51 v d ps) (hw : Wt Try.prog 51 d) : ∃ (s : Sl) (L : List Bs), v = .slice s.a s.len s.cap ∧ (Rd W s 1 (lsl L) ∧ ∀ x ∈ L, Rd W x.1 1 (bys x.2) ∧ x.2.length ≤ 140737488351232) ∧ L.length * 24 ≤ 140737488351232 := by
  obtain ⟨a0, len, cap, rfl⟩ := okWide_slice u51 hval
  obtain ⟨fuel0, hf⟩ := hd
  obtain ⟨s, els, hcs, hl, hr, hlen, hel⟩ := open_rd u51 (sz := 1) (by kernel_rfl) (by decide) hf hw
  have hb : Try.prog.bytesOf 45 = 24 := by kernel_rfl
  rw [hb] at hlen
  obtain ⟨L, e, el, hx⟩ := recs_els hel
  rw [e] at hr
  simp [Value.cells] at hcs
  obtain ⟨rfl, rfl, rfl⟩ := hcs
  have hrb : reachBytes = 140737488351232 := rfl
  exact ⟨s, L, rfl, ⟨hr, hx⟩, by rw [el]; omega⟩
end Go.Proofs.Ytodgnpmljdopiaa
