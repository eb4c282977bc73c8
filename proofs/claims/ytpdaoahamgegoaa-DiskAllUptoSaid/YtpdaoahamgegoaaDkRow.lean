/- Writes as they were handed in: what a law reads of its arguments. -/
import Derived.Test.YtpdaoahamgegoaaDkL
import Derived.Test.YtpdaoahamgegoaaFwR
import Derived.Test.YtpdaoahamgegoaaRows
namespace Go.Proofs.Ytpdaoahamgegoaa
open Go.ChangeShapes Go.WideShapes Go.ChangeAt Go.RowKit Go Go.Fw
set_option linter.unusedVariables false
set_option linter.unusedSimpArgs false

theorem own : ownKnob Try.prog.godebug = none := by kernel_rfl
theorem laidOut : laidOutB Try.prog = true := by kernel_rfl
theorem u22 : Try.prog.underlying 22 = some (.slice 34) := by kernel_rfl
theorem u5 : Try.prog.underlying 5 = some (.int .u8) := by kernel_rfl
theorem u3 : Try.prog.underlying 3 = some (.int .i64) := by kernel_rfl
theorem u4 : Try.prog.underlying 4 = some .bool := by kernel_rfl
noncomputable def fields34 : Array Field := match Try.prog.underlying 34 with | some (.struct fs) => fs | _ => #[]
theorem u34 : Try.prog.underlying 34 = some (.struct fields34) := by kernel_rfl
theorem f34 : fields34.toList.map (fun f => (f.type, f.offset)) = [(3, 0), (5, 1)] := by kernel_rfl
theorem field_of {fs : Array Field} {l : List (TypeId × Nat)} (h : fs.toList.map (fun f => (f.type, f.offset)) = l) {i : Nat} {p : TypeId × Nat} (hi : l[i]? = some p) : ∃ f, fs[i]? = some f ∧ f.type = p.1 ∧ f.offset = p.2 := by
  rw [← h, List.getElem?_map, Option.map_eq_some_iff] at hi
  obtain ⟨f, hf, rfl⟩ := hi
  exact ⟨f, by simpa using hf, rfl, rfl⟩

/-- A write's cells. -/
theorem pt_of {H : Type} {enc : TypeId × Value → H} {W : World} {base : Nat} {spare : Nat → Bool} {held : Bool} {n : Nat} {c : List Value} {y : DataW H × List MemPlace} (hc : c.length = 2)
    (hd : DataW.trod enc Try.prog W base spare held n 34 c = some y) (hw : Wt Try.prog 34 y.1) : ∃ o : Pt, c = ptc o := by
  have hf := open_fields u34 hd hw
  have c3 : Try.prog.cellsOf 3 = 1 := by kernel_rfl
  have c5 : Try.prog.cellsOf 5 = 1 := by kernel_rfl
  obtain ⟨g0, h0, t0, o0⟩ := field_of f34 (i := 0) rfl
  obtain ⟨g1, h1, t1, o1⟩ := field_of f34 (i := 1) rfl
  obtain ⟨n0, y0, e0, _⟩ := hf 0 g0 h0
  obtain ⟨n1, y1, e1, _⟩ := hf 1 g1 h1
  rw [t0, o0, c3] at e0
  rw [t1, o1, c5] at e1
  obtain ⟨a0, ha0, _, _⟩ := DataW.trod_int u3 e0
  obtain ⟨a1, ha1, _, hw1⟩ := DataW.trod_int u5 e1
  obtain ⟨f, rfl⟩ := byte_of hw1
  refine ⟨(a0, f), ?_⟩
  match c, hc with
  | [x0, x1], _ =>
    simp at ha0 ha1
    subst ha0; subst ha1
    rfl
/-- A list of writes. -/
theorem pts_of {H : Type} {enc : TypeId × Value → H} {W : World} {base b : Nat} {spare : Nat → Bool} {held : Bool} {v : Value} {d : DataW H} {ps : List MemPlace} (hval : Value.okWide Try.prog W .any b 22 v)
    (hd : DataW.Trod enc Try.prog W base spare held 22 v d ps) (hw : Wt Try.prog 22 d) : ∃ (s : Sl) (os : List Pt), v = .slice s.a s.len s.cap ∧ Rd W s 2 (pts os) := by
  obtain ⟨a0, len, cap, rfl⟩ := okWide_slice u22 hval
  obtain ⟨fuel0, hf⟩ := hd
  obtain ⟨s, els, hcs, hl, hr, hlen, hel⟩ := open_rd u22 (sz := 2) (by kernel_rfl) (by decide) hf hw
  have : ∃ os : List Pt, els.flatten = pts os := by
    clear hcs hl hr hlen hf
    induction els with
    | nil => exact ⟨[], rfl⟩
    | cons c r ih =>
      obtain ⟨os, e⟩ := ih fun c hc => hel c (List.mem_cons_of_mem _ hc)
      obtain ⟨hc1, n, y, hy, hwy⟩ := hel c (List.mem_cons_self ..)
      obtain ⟨o, rfl⟩ := pt_of hc1 hy hwy
      exact ⟨o :: os, by rw [List.flatten_cons, e]; simp [pts]⟩
  obtain ⟨os, e⟩ := this
  rw [e] at hr
  simp [Value.cells] at hcs
  obtain ⟨rfl, rfl, rfl⟩ := hcs
  exact ⟨s, os, rfl, hr⟩
end Go.Proofs.Ytpdaoahamgegoaa
