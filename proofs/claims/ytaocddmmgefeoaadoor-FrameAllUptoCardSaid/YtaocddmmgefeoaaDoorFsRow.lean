/- Calls as they were handed in: what the law of all reads of its arguments. -/
import Derived.Test.YtaocddmmgefeoaaDoorFsG
import Derived.Test.YtaocddmmgefeoaaDoorFrRow
namespace Go.Proofs.YtaocddmmgefeoaaDoor
open Go.ChangeShapes Go.WideShapes Go.ChangeAt Go.RowKit Go Go.Fw Go.Frm
set_option linter.unusedVariables false
set_option linter.unusedSimpArgs false

theorem u31 : Tryd.prog.underlying 31 = some (.slice 33) := by kernel_rfl
noncomputable def fields33 : Array Field := match Tryd.prog.underlying 33 with | some (.struct fs) => fs | _ => #[]
theorem u33 : Tryd.prog.underlying 33 = some (.struct fields33) := by kernel_rfl
theorem f33 : fields33.toList.map (fun f => (f.type, f.offset)) = [(3, 0), (3, 1), (5, 2), (22, 3)] := by kernel_rfl
theorem field_of {fs : Array Field} {l : List (TypeId × Nat)} (h : fs.toList.map (fun f => (f.type, f.offset)) = l) {i : Nat} {p : TypeId × Nat} (hi : l[i]? = some p) : ∃ f, fs[i]? = some f ∧ f.type = p.1 ∧ f.offset = p.2 := by
  rw [← h, List.getElem?_map, Option.map_eq_some_iff] at hi
  obtain ⟨f, hf, rfl⟩ := hi
  exact ⟨f, by simpa using hf, rfl, rfl⟩

/-- A call's cells. -/
theorem cv_of {H : Type} {enc : TypeId × Value → H} {W : World} {base : Nat} {spare : Nat → Bool} {held : Bool} {n : Nat} {c : List Value} {y : DataW H × List MemPlace} (hc : c.length = 4)
    (hd : DataW.trod enc Tryd.prog W base spare held n 33 c = some y) (hw : Wt Tryd.prog 33 y.1) : ∃ o : Cv, c = cvc o ∧ Rd W o.d 1 (bys o.m) ∧ o.m.length ≤ big := by
  have hf := open_fields u33 hd hw
  have c3 : Tryd.prog.cellsOf 3 = 1 := by kernel_rfl
  have c5 : Tryd.prog.cellsOf 5 = 1 := by kernel_rfl
  have c22 : Tryd.prog.cellsOf 22 = 1 := by kernel_rfl
  obtain ⟨g0, h0, t0, o0⟩ := field_of f33 (i := 0) rfl
  obtain ⟨g1, h1, t1, o1⟩ := field_of f33 (i := 1) rfl
  obtain ⟨g2, h2, t2, o2⟩ := field_of f33 (i := 2) rfl
  obtain ⟨g3, h3, t3, o3⟩ := field_of f33 (i := 3) rfl
  obtain ⟨n0, y0, e0, _⟩ := hf 0 g0 h0
  obtain ⟨n1, y1, e1, _⟩ := hf 1 g1 h1
  obtain ⟨n2, y2, e2, _⟩ := hf 2 g2 h2
  obtain ⟨n3, y3, e3, w3⟩ := hf 3 g3 h3
  rw [t0, o0, c3] at e0
  rw [t1, o1, c3] at e1
  rw [t2, o2, c5] at e2
  rw [t3, o3, c22] at e3
  rw [t3] at w3
  obtain ⟨a0, ha0, _, _⟩ := DataW.trod_int u3 e0
  obtain ⟨a1, ha1, _, _⟩ := DataW.trod_int u3 e1
  obtain ⟨a2, ha2, _, hw2⟩ := DataW.trod_int u5 e2
  obtain ⟨f, rfl⟩ := byte_of hw2
  obtain ⟨s, l, hs, hr, hl⟩ := open_bys u22 u5 (by kernel_rfl) (by kernel_rfl) e3 w3
  refine ⟨⟨a0, a1, f, s, l⟩, ?_, hr, Nat.le_trans hl (by decide)⟩
  match c, hc with
  | [x0, x1, x2, x3], _ =>
    simp at ha0 ha1 ha2 hs
    subst ha0; subst ha1; subst ha2; subst hs
    rfl
/-- A list of calls. -/
theorem cal_of {H : Type} {enc : TypeId × Value → H} {W : World} {base b : Nat} {spare : Nat → Bool} {held : Bool} {v : Value} {d : DataW H} {ps : List MemPlace} (hval : Value.okWide Tryd.prog W .any b 31 v)
    (hd : DataW.Trod enc Tryd.prog W base spare held 31 v d ps) (hw : Wt Tryd.prog 31 d) : ∃ (s : Sl) (os : List Cv), v = .slice s.a s.len s.cap ∧ Cal W s os := by
  obtain ⟨a0, len, cap, rfl⟩ := okWide_slice u31 hval
  obtain ⟨fuel0, hf⟩ := hd
  obtain ⟨s, els, hcs, hl, hr, hlen, hel⟩ := open_rd u31 (sz := 4) (by kernel_rfl) (by decide) hf hw
  have hb : Tryd.prog.bytesOf 33 = 48 := by kernel_rfl
  rw [hb] at hlen
  have : ∃ os : List Cv, els.flatten = cvs os ∧ os.length = els.length ∧ ∀ o ∈ os, Rd W o.d 1 (bys o.m) ∧ o.m.length ≤ big := by
    clear hcs hl hr hlen hf
    induction els with
    | nil => exact ⟨[], rfl, rfl, fun x hx => by cases hx⟩
    | cons c r ih =>
      obtain ⟨os, e, el, hx⟩ := ih fun c hc => hel c (List.mem_cons_of_mem _ hc)
      obtain ⟨hc1, n, y, hy, hwy⟩ := hel c (List.mem_cons_self ..)
      obtain ⟨o, rfl, h1, h2⟩ := cv_of hc1 hy hwy
      refine ⟨o :: os, by rw [List.flatten_cons, e]; simp [cvs], by simp [el], fun z hz => ?_⟩
      rcases List.mem_cons.1 hz with rfl | hz
      · exact ⟨h1, h2⟩
      · exact hx z hz
  obtain ⟨os, e, el, hx⟩ := this
  rw [e] at hr
  simp [Value.cells] at hcs
  obtain ⟨rfl, rfl, rfl⟩ := hcs
  refine ⟨s, os, rfl, hr, hx, ?_⟩
  have hrb : reachBytes ≤ 140737488355328 := by decide
  have hbg : big = 140737488355328 := rfl
  rw [el]; omega
end Go.Proofs.YtaocddmmgefeoaaDoor
