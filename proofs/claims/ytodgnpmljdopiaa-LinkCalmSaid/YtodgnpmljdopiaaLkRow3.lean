/- What a law of the link reads of its arguments: a play. -/
import Derived.Test.YtodgnpmljdopiaaLkRow2
import Derived.Test.YtodgnpmljdopiaaLkU
namespace Go.Proofs.Ytodgnpmljdopiaa
open Go.ChangeShapes Go.WideShapes Go.ChangeAt Go.RowKit Go Go.Fw
set_option linter.unusedVariables false
set_option linter.unusedSimpArgs false
set_option maxRecDepth 20000

theorem u39 : Try.prog.underlying 39 = some (.slice 47) := by kernel_rfl
noncomputable def fields47 : Array Field := match Try.prog.underlying 47 with | some (.struct fs) => fs | _ => #[]
theorem u47 : Try.prog.underlying 47 = some (.struct fields47) := by kernel_rfl
theorem f47 : fields47.toList.map (fun f => (f.type, f.offset)) = [(3, 0), (3, 1), (3, 2), (45, 3)] := by kernel_rfl
theorem field_of {fs : Array Field} {l : List (TypeId × Nat)} (h : fs.toList.map (fun f => (f.type, f.offset)) = l) {i : Nat} {p : TypeId × Nat} (hi : l[i]? = some p) : ∃ f, fs[i]? = some f ∧ f.type = p.1 ∧ f.offset = p.2 := by
  rw [← h, List.getElem?_map, Option.map_eq_some_iff] at hi
  obtain ⟨f, hf, rfl⟩ := hi
  exact ⟨f, by simpa using hf, rfl, rfl⟩
theorem mo_of {H : Type} {enc : TypeId × Value → H} {W : World} {base : Nat} {spare : Nat → Bool} {held : Bool} {n : Nat} {c : List Value} {y : DataW H × List MemPlace} (hc : c.length = 4)
    (hd : DataW.trod enc Try.prog W base spare held n 47 c = some y) (hw : Wt Try.prog 47 y.1) : ∃ m : Mo, c = mov m ∧ m.ok ∧ Rd W m.d.1 1 (bys m.d.2) := by
  have hf := open_fields u47 hd hw
  have c3 : Try.prog.cellsOf 3 = 1 := by kernel_rfl
  have c45 : Try.prog.cellsOf 45 = 1 := by kernel_rfl
  obtain ⟨g0, h0, t0, o0⟩ := field_of f47 (i := 0) rfl
  obtain ⟨g1, h1, t1, o1⟩ := field_of f47 (i := 1) rfl
  obtain ⟨g2, h2, t2, o2⟩ := field_of f47 (i := 2) rfl
  obtain ⟨g3, h3, t3, o3⟩ := field_of f47 (i := 3) rfl
  obtain ⟨n0, y0, e0, _⟩ := hf 0 g0 h0
  obtain ⟨n1, y1, e1, _⟩ := hf 1 g1 h1
  obtain ⟨n2, y2, e2, _⟩ := hf 2 g2 h2
  obtain ⟨n3, y3, e3, w3⟩ := hf 3 g3 h3
  rw [t0, o0, c3] at e0
  rw [t1, o1, c3] at e1
  rw [t2, o2, c3] at e2
  rw [t3, o3, c45] at e3
  rw [t3] at w3
  obtain ⟨a0, ha0, _, wa0⟩ := DataW.trod_int u3 e0
  obtain ⟨a1, ha1, _, wa1⟩ := DataW.trod_int u3 e1
  obtain ⟨a2, ha2, _, wa2⟩ := DataW.trod_int u3 e2
  obtain ⟨s, l, hs, hr, hl⟩ := open_bys u45 u5 (by kernel_rfl) (by kernel_rfl) e3 w3
  refine ⟨⟨a0, a1, a2, (s, l)⟩, ?_, ⟨wf_i64 wa0, wf_i64 wa1, wf_i64 wa2, Nat.le_trans hl (Nat.le_of_eq rfl)⟩, hr⟩
  match c, hc with
  | [x0, x1, x2, x3], _ =>
    simp at ha0 ha1 ha2 hs
    subst ha0; subst ha1; subst ha2; subst hs
    rfl
theorem movs_of {H : Type} {enc : TypeId × Value → H} {W : World} {base b : Nat} {spare : Nat → Bool} {held : Bool} {v : Value} {d : DataW H} {ps : List MemPlace} (hval : Value.okWide Try.prog W .any b 39 v)
    (hd : DataW.Trod enc Try.prog W base spare held 39 v d ps) (hw : Wt Try.prog 39 d) : ∃ (s : Sl) (L : List Mo), v = .slice s.a s.len s.cap ∧ Rd W s 4 (movs L) ∧ ∀ m ∈ L, m.ok ∧ Rd W m.d.1 1 (bys m.d.2) := by
  obtain ⟨a0, len, cap, rfl⟩ := okWide_slice u39 hval
  obtain ⟨fuel0, hf⟩ := hd
  obtain ⟨s, els, hcs, hl, hr, _, hel⟩ := open_rd u39 (sz := 4) (by kernel_rfl) (by decide) hf hw
  have : ∃ L : List Mo, els.flatten = movs L ∧ ∀ m ∈ L, m.ok ∧ Rd W m.d.1 1 (bys m.d.2) := by
    clear hl hr hcs
    induction els with
    | nil => exact ⟨[], rfl, fun m hm => by cases hm⟩
    | cons c r ih =>
      obtain ⟨L, e, hL⟩ := ih fun c hc => hel c (List.mem_cons_of_mem _ hc)
      obtain ⟨hc1, n, y, hy, hwy⟩ := hel c (List.mem_cons_self ..)
      obtain ⟨m, rfl, hm⟩ := mo_of hc1 hy hwy
      refine ⟨m :: L, by rw [List.flatten_cons, e]; rfl, fun z hz => ?_⟩
      rcases List.mem_cons.1 hz with rfl | hz
      · exact hm
      · exact hL z hz
  obtain ⟨L, e, hL⟩ := this
  rw [e] at hr
  simp [Value.cells] at hcs
  obtain ⟨rfl, rfl, rfl⟩ := hcs
  exact ⟨s, L, rfl, hr, hL⟩
end Go.Proofs.Ytodgnpmljdopiaa
