/- Lives as they were handed in. -/
import Derived.Test.YtimebochhbfkgaaJkLa
import Derived.Test.YtimebochhbfkgaaJkRow
namespace Go.Proofs.Ytimebochhbfkgaa
open Go.ChangeShapes Go.WideShapes Go.ChangeAt Go.RowKit Go Go.Fw
set_option linter.unusedVariables false
set_option linter.unusedSimpArgs false
set_option maxRecDepth 20000

theorem u45 : Try.prog.underlying 45 = some (.slice 51) := by kernel_rfl
noncomputable def fields51 : Array Field := match Try.prog.underlying 51 with | some (.struct fs) => fs | _ => #[]
theorem u51 : Try.prog.underlying 51 = some (.struct fields51) := by kernel_rfl
theorem f51 : fields51.toList.map (fun f => (f.type, f.offset)) = [(22, 0), (3, 1), (3, 2), (4, 3)] := by kernel_rfl
theorem field_of {fs : Array Field} {l : List (TypeId × Nat)} (h : fs.toList.map (fun f => (f.type, f.offset)) = l) {i : Nat} {p : TypeId × Nat} (hi : l[i]? = some p) : ∃ f, fs[i]? = some f ∧ f.type = p.1 ∧ f.offset = p.2 := by
  rw [← h, List.getElem?_map, Option.map_eq_some_iff] at hi
  obtain ⟨f, hf, rfl⟩ := hi
  exact ⟨f, by simpa using hf, rfl, rfl⟩
/-- A list of lists of bytes, inside something else. -/
theorem recs_in {H : Type} {enc : TypeId × Value → H} {W : World} {base : Nat} {spare : Nat → Bool} {held : Bool} {n : Nat} {c : List Value} {y : DataW H × List MemPlace}
    (hd : DataW.trod enc Try.prog W base spare held n 22 c = some y) (hw : Wt Try.prog 22 y.1) : ∃ (s : Sl) (L : List Bs), c = [.slice s.a s.len s.cap] ∧ Recs W s L ∧ L.length ≤ 140737488351232 := by
  obtain ⟨s, els, hcs, hl, hr, hlen, hel⟩ := open_rd u22 (sz := 1) (by kernel_rfl) (by decide) hd hw
  have hb : Try.prog.bytesOf 31 = 24 := by kernel_rfl
  rw [hb] at hlen
  obtain ⟨L, e, el, hx⟩ := recs_els hel
  rw [e] at hr
  have hrb : reachBytes = 140737488351232 := rfl
  exact ⟨s, L, hcs, ⟨hr, hx⟩, by rw [el]; omega⟩
theorem life_of {H : Type} {enc : TypeId × Value → H} {W : World} {base : Nat} {spare : Nat → Bool} {held : Bool} {n : Nat} {c : List Value} {y : DataW H × List MemPlace} (hc : c.length = 4)
    (hd : DataW.trod enc Try.prog W base spare held n 51 c = some y) (hw : Wt Try.prog 51 y.1) : ∃ o : Lf, c = lfc o ∧ Recs W o.R o.recs ∧ o.A ≤ 9223372036854775807 ∧ o.recs.length ≤ 140737488351232 := by
  have hf := open_fields u51 hd hw
  have c3 : Try.prog.cellsOf 3 = 1 := by kernel_rfl
  have c4 : Try.prog.cellsOf 4 = 1 := by kernel_rfl
  have c22 : Try.prog.cellsOf 22 = 1 := by kernel_rfl
  obtain ⟨g0, h0, t0, o0⟩ := field_of f51 (i := 0) rfl
  obtain ⟨g1, h1, t1, o1⟩ := field_of f51 (i := 1) rfl
  obtain ⟨g2, h2, t2, o2⟩ := field_of f51 (i := 2) rfl
  obtain ⟨g3, h3, t3, o3⟩ := field_of f51 (i := 3) rfl
  obtain ⟨n0, y0, e0, w0⟩ := hf 0 g0 h0
  obtain ⟨n1, y1, e1, _⟩ := hf 1 g1 h1
  obtain ⟨n2, y2, e2, _⟩ := hf 2 g2 h2
  obtain ⟨n3, y3, e3, _⟩ := hf 3 g3 h3
  rw [t0, o0, c22] at e0
  rw [t0] at w0
  rw [t1, o1, c3] at e1
  rw [t2, o2, c3] at e2
  rw [t3, o3, c4] at e3
  obtain ⟨s, L, hs, hr, hl⟩ := recs_in e0 w0
  obtain ⟨a1, ha1, _, hw1⟩ := DataW.trod_int u3 e1
  obtain ⟨a2, ha2, _, _⟩ := DataW.trod_int u3 e2
  obtain ⟨a3, ha3, _⟩ := DataW.trod_bool u4 e3
  refine ⟨⟨s, L, a1, a2, a3⟩, ?_, hr, (wf_i64 hw1).2, hl⟩
  match c, hc with
  | [x0, x1, x2, x3], _ =>
    simp at ha1 ha2 ha3 hs
    subst ha1; subst ha2; subst ha3; subst hs
    rfl
theorem lives_of {H : Type} {enc : TypeId × Value → H} {W : World} {base b : Nat} {spare : Nat → Bool} {held : Bool} {v : Value} {d : DataW H} {ps : List MemPlace} (hval : Value.okWide Try.prog W .any b 45 v)
    (hd : DataW.Trod enc Try.prog W base spare held 45 v d ps) (hw : Wt Try.prog 45 d) : ∃ (s : Sl) (os : List Lf), v = .slice s.a s.len s.cap ∧ Lives W s os := by
  obtain ⟨a0, len, cap, rfl⟩ := okWide_slice u45 hval
  obtain ⟨fuel0, hf⟩ := hd
  obtain ⟨s, els, hcs, hl, hr, hlen, hel⟩ := open_rd u45 (sz := 4) (by kernel_rfl) (by decide) hf hw
  have hb : Try.prog.bytesOf 51 = 48 := by kernel_rfl
  rw [hb] at hlen
  have : ∃ os : List Lf, els.flatten = lfs os ∧ os.length = els.length ∧ ∀ o ∈ os, Recs W o.R o.recs ∧ o.A ≤ 9223372036854775807 ∧ o.recs.length ≤ 140737488351232 := by
    clear hcs hl hr hlen hf
    induction els with
    | nil => exact ⟨[], rfl, rfl, fun x hx => by cases hx⟩
    | cons c r ih =>
      obtain ⟨os, e, el, hx⟩ := ih fun c hc => hel c (List.mem_cons_of_mem _ hc)
      obtain ⟨hc1, n, y, hy, hwy⟩ := hel c (List.mem_cons_self ..)
      obtain ⟨o, rfl, h1⟩ := life_of hc1 hy hwy
      refine ⟨o :: os, by rw [List.flatten_cons, e]; simp [lfs], by simp [el], fun z hz => ?_⟩
      rcases List.mem_cons.1 hz with rfl | hz
      · exact h1
      · exact hx z hz
  obtain ⟨os, e, el, hx⟩ := this
  rw [e] at hr
  simp [Value.cells] at hcs
  obtain ⟨rfl, rfl, rfl⟩ := hcs
  have hrb : reachBytes = 140737488351232 := rfl
  exact ⟨s, os, rfl, hr, hx, by rw [el]; omega⟩
end Go.Proofs.Ytimebochhbfkgaa
