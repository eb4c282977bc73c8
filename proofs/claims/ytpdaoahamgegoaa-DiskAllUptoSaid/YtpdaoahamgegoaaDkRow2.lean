/- Scripts and images as they were handed in. -/
import Derived.Test.YtpdaoahamgegoaaDkHo
import Derived.Test.YtpdaoahamgegoaaDkRow
namespace Go.Proofs.Ytpdaoahamgegoaa
open Go.ChangeShapes Go.WideShapes Go.ChangeAt Go.RowKit Go Go.Fw
set_option linter.unusedVariables false
set_option linter.unusedSimpArgs false

theorem u30 : Try.prog.underlying 30 = some (.slice 5) := by kernel_rfl
theorem u51 : Try.prog.underlying 51 = some (.slice 59) := by kernel_rfl
noncomputable def fields59 : Array Field := match Try.prog.underlying 59 with | some (.struct fs) => fs | _ => #[]
theorem u59 : Try.prog.underlying 59 = some (.struct fields59) := by kernel_rfl
theorem f59 : fields59.toList.map (fun f => (f.type, f.offset)) = [(3, 0), (3, 1), (3, 2), (3, 3), (30, 4)] := by kernel_rfl
theorem wf_max {n : Int} (h : Lit.wf (.int .i64 n) = true) : n ≤ 9223372036854775807 := by
  have hmax : IntKind.i64.max = 9223372036854775807 := rfl
  simp [Lit.wf, hmax] at h
  omega
/-- A call's cells. -/
theorem ov_of {H : Type} {enc : TypeId × Value → H} {W : World} {base : Nat} {spare : Nat → Bool} {held : Bool} {n : Nat} {c : List Value} {y : DataW H × List MemPlace} (hc : c.length = 5)
    (hd : DataW.trod enc Try.prog W base spare held n 59 c = some y) (hw : Wt Try.prog 59 y.1) : ∃ o : Ov, c = ovc o ∧ Rd W o.d 1 (bys o.b) ∧ o.b.length ≤ big ∧ o.n ≤ 9223372036854775807 := by
  have hf := open_fields u59 hd hw
  have c3 : Try.prog.cellsOf 3 = 1 := by kernel_rfl
  have c30 : Try.prog.cellsOf 30 = 1 := by kernel_rfl
  obtain ⟨g0, h0, t0, o0⟩ := field_of f59 (i := 0) rfl
  obtain ⟨g1, h1, t1, o1⟩ := field_of f59 (i := 1) rfl
  obtain ⟨g2, h2, t2, o2⟩ := field_of f59 (i := 2) rfl
  obtain ⟨g3, h3, t3, o3⟩ := field_of f59 (i := 3) rfl
  obtain ⟨g4, h4, t4, o4⟩ := field_of f59 (i := 4) rfl
  obtain ⟨n0, y0, e0, _⟩ := hf 0 g0 h0
  obtain ⟨n1, y1, e1, _⟩ := hf 1 g1 h1
  obtain ⟨n2, y2, e2, _⟩ := hf 2 g2 h2
  obtain ⟨n3, y3, e3, _⟩ := hf 3 g3 h3
  obtain ⟨n4, y4, e4, w4⟩ := hf 4 g4 h4
  rw [t0, o0, c3] at e0
  rw [t1, o1, c3] at e1
  rw [t2, o2, c3] at e2
  rw [t3, o3, c3] at e3
  rw [t4, o4, c30] at e4
  rw [t4] at w4
  obtain ⟨a0, ha0, _, _⟩ := DataW.trod_int u3 e0
  obtain ⟨a1, ha1, _, _⟩ := DataW.trod_int u3 e1
  obtain ⟨a2, ha2, _, hw2⟩ := DataW.trod_int u3 e2
  obtain ⟨a3, ha3, _, _⟩ := DataW.trod_int u3 e3
  obtain ⟨s, l, hs, hr, hl⟩ := open_bys u30 u5 (by kernel_rfl) (by kernel_rfl) e4 w4
  refine ⟨⟨a0, a1, a2, a3, s, l⟩, ?_, hr, Nat.le_trans hl (by decide), wf_max hw2⟩
  match c, hc with
  | [x0, x1, x2, x3, x4], _ =>
    simp at ha0 ha1 ha2 ha3 hs
    subst ha0; subst ha1; subst ha2; subst ha3; subst hs
    rfl
/-- A script. -/
theorem scr_of {H : Type} {enc : TypeId × Value → H} {W : World} {base b : Nat} {spare : Nat → Bool} {held : Bool} {v : Value} {d : DataW H} {ps : List MemPlace} (hval : Value.okWide Try.prog W .any b 51 v)
    (hd : DataW.Trod enc Try.prog W base spare held 51 v d ps) (hw : Wt Try.prog 51 d) : ∃ (s : Sl) (os : List Ov), v = .slice s.a s.len s.cap ∧ Scr W s os := by
  obtain ⟨a0, len, cap, rfl⟩ := okWide_slice u51 hval
  obtain ⟨fuel0, hf⟩ := hd
  obtain ⟨s, els, hcs, hl, hr, hlen, hel⟩ := open_rd u51 (sz := 5) (by kernel_rfl) (by decide) hf hw
  have hb : Try.prog.bytesOf 59 = 56 := by kernel_rfl
  rw [hb] at hlen
  have : ∃ os : List Ov, els.flatten = ovs os ∧ os.length = els.length ∧ ∀ o ∈ os, Rd W o.d 1 (bys o.b) ∧ o.b.length ≤ big ∧ o.n ≤ 9223372036854775807 := by
    clear hcs hl hr hlen hf
    induction els with
    | nil => exact ⟨[], rfl, rfl, fun x hx => by cases hx⟩
    | cons c r ih =>
      obtain ⟨os, e, el, hx⟩ := ih fun c hc => hel c (List.mem_cons_of_mem _ hc)
      obtain ⟨hc1, n, y, hy, hwy⟩ := hel c (List.mem_cons_self ..)
      obtain ⟨o, rfl, h1, h2⟩ := ov_of hc1 hy hwy
      refine ⟨o :: os, by rw [List.flatten_cons, e]; simp [ovs], by simp [el], fun z hz => ?_⟩
      rcases List.mem_cons.1 hz with rfl | hz
      · exact ⟨h1, h2⟩
      · exact hx z hz
  obtain ⟨os, e, el, hx⟩ := this
  rw [e] at hr
  simp [Value.cells] at hcs
  obtain ⟨rfl, rfl, rfl⟩ := hcs
  refine ⟨s, os, rfl, hr, hx, ?_⟩
  have hrb : reachBytes ≤ 140737488355328 := by decide
  have hbg : big = 140737488355328 := rfl
  rw [el]; omega
/-- An image. -/
theorem img_of {H : Type} {enc : TypeId × Value → H} {W : World} {base b : Nat} {spare : Nat → Bool} {held : Bool} {v : Value} {d : DataW H} {ps : List MemPlace} (hval : Value.okWide Try.prog W .any b 30 v)
    (hd : DataW.Trod enc Try.prog W base spare held 30 v d ps) (hw : Wt Try.prog 30 d) : ∃ (s : Sl) (l : List UInt8), v = .slice s.a s.len s.cap ∧ Rd W s 1 (bys l) := by
  obtain ⟨a0, len, cap, rfl⟩ := okWide_slice u30 hval
  obtain ⟨fuel0, hf⟩ := hd
  obtain ⟨s, l, hs, hr, hl⟩ := open_bys u30 u5 (by kernel_rfl) (by kernel_rfl) hf hw
  simp [Value.cells] at hs
  obtain ⟨rfl, rfl, rfl⟩ := hs
  exact ⟨s, l, rfl, hr⟩
end Go.Proofs.Ytpdaoahamgegoaa
