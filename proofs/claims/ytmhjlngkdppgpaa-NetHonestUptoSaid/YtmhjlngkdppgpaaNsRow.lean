/- Scripts as they were handed in: what a law reads of its arguments. -/
import Derived.Test.YtmhjlngkdppgpaaNsL
import Derived.Test.YtmhjlngkdppgpaaNtRow
namespace Go.Proofs.Ytmhjlngkdppgpaa
open Go.ChangeShapes Go.WideShapes Go.ChangeAt Go.RowKit Go Go.Fw
set_option linter.unusedVariables false
set_option linter.unusedSimpArgs false

theorem u40 : Try.prog.underlying 40 = some (.slice 48) := by kernel_rfl
noncomputable def fields48 : Array Field := match Try.prog.underlying 48 with | some (.struct fs) => fs | _ => #[]
theorem u48 : Try.prog.underlying 48 = some (.struct fields48) := by kernel_rfl
theorem f48 : fields48.toList.map (fun f => (f.type, f.offset)) = [(3, 0), (3, 1), (3, 2), (3, 3), (31, 4)] := by kernel_rfl

/-- An operation's cells. -/
theorem op_of {H : Type} {enc : TypeId × Value → H} {W : World} {base : Nat} {spare : Nat → Bool} {held : Bool} {n : Nat} {c : List Value} {y : DataW H × List MemPlace} (hc : c.length = 7)
    (hd : DataW.trod enc Try.prog W base spare held n 48 c = some y) (hw : Wt Try.prog 48 y.1) : ∃ o : Opv, c = opc o ∧ Rd W o.d 1 (bys o.m) ∧ o.m.length ≤ big := by
  have hf := open_fields u48 hd hw
  have c3 : Try.prog.cellsOf 3 = 1 := by kernel_rfl
  have c31 : Try.prog.cellsOf 31 = 3 := by kernel_rfl
  obtain ⟨g0, h0, t0, o0⟩ := field_of f48 (i := 0) rfl
  obtain ⟨g1, h1, t1, o1⟩ := field_of f48 (i := 1) rfl
  obtain ⟨g2, h2, t2, o2⟩ := field_of f48 (i := 2) rfl
  obtain ⟨g3, h3, t3, o3⟩ := field_of f48 (i := 3) rfl
  obtain ⟨g4, h4, t4, o4⟩ := field_of f48 (i := 4) rfl
  obtain ⟨n0, y0, e0, _⟩ := hf 0 g0 h0
  obtain ⟨n1, y1, e1, _⟩ := hf 1 g1 h1
  obtain ⟨n2, y2, e2, _⟩ := hf 2 g2 h2
  obtain ⟨n3, y3, e3, _⟩ := hf 3 g3 h3
  obtain ⟨n4, y4, e4, w4⟩ := hf 4 g4 h4
  rw [t0, o0, c3] at e0
  rw [t1, o1, c3] at e1
  rw [t2, o2, c3] at e2
  rw [t3, o3, c3] at e3
  rw [t4, o4, c31] at e4
  rw [t4] at w4
  obtain ⟨a0, ha0, _, _⟩ := DataW.trod_int u3 e0
  obtain ⟨a1, ha1, _, _⟩ := DataW.trod_int u3 e1
  obtain ⟨a2, ha2, _, _⟩ := DataW.trod_int u3 e2
  obtain ⟨a3, ha3, _, _⟩ := DataW.trod_int u3 e3
  obtain ⟨x, hx, hr, hl⟩ := letter_of (by simp [hc]) e4 w4
  refine ⟨⟨a0, a1, a2, a3, x.1.f, x.1.t, x.2, x.1.m⟩, ?_, hr, hl⟩
  match c, hc with
  | [x0, x1, x2, x3, x4, x5, x6], _ =>
    simp at ha0 ha1 ha2 ha3
    simp [lc] at hx
    obtain ⟨hx4, hx5, hx6⟩ := hx
    subst ha0; subst ha1; subst ha2; subst ha3; subst hx4; subst hx5; subst hx6
    rfl
/-- A script. -/
theorem scr_of {H : Type} {enc : TypeId × Value → H} {W : World} {base b : Nat} {spare : Nat → Bool} {held : Bool} {v : Value} {d : DataW H} {ps : List MemPlace} (hval : Value.okWide Try.prog W .any b 40 v)
    (hd : DataW.Trod enc Try.prog W base spare held 40 v d ps) (hw : Wt Try.prog 40 d) : ∃ (s : Sl) (os : List Opv), v = .slice s.a s.len s.cap ∧ Scr W s os := by
  obtain ⟨a0, len, cap, rfl⟩ := okWide_slice u40 hval
  obtain ⟨fuel0, hf⟩ := hd
  obtain ⟨s, els, hcs, hl, hr, hlen, hel⟩ := open_rd u40 (sz := 7) (by kernel_rfl) (by decide) hf hw
  have hb : Try.prog.bytesOf 48 = 72 := by kernel_rfl
  rw [hb] at hlen
  have : ∃ os : List Opv, els.flatten = ops os ∧ os.length = els.length ∧ ∀ o ∈ os, Rd W o.d 1 (bys o.m) ∧ o.m.length ≤ big := by
    clear hcs hl hr hlen hf
    induction els with
    | nil => exact ⟨[], rfl, rfl, fun x hx => by cases hx⟩
    | cons c r ih =>
      obtain ⟨os, e, el, hx⟩ := ih fun c hc => hel c (List.mem_cons_of_mem _ hc)
      obtain ⟨hc1, n, y, hy, hwy⟩ := hel c (List.mem_cons_self ..)
      obtain ⟨o, rfl, h1, h2⟩ := op_of hc1 hy hwy
      refine ⟨o :: os, by rw [List.flatten_cons, e]; simp [ops], by simp [el], fun z hz => ?_⟩
      rcases List.mem_cons.1 hz with rfl | hz
      · exact ⟨h1, h2⟩
      · exact hx z hz
  obtain ⟨os, e, el, hx⟩ := this
  rw [e] at hr
  simp [Value.cells] at hcs
  obtain ⟨rfl, rfl, rfl⟩ := hcs
  refine ⟨s, os, rfl, hr, hx, ?_⟩
  have hrb : reachBytes ≤ 140737488355328 := by decide
  have hbg : big = 140737488355328 := rfl
  rw [el, hl]; omega
end Go.Proofs.Ytmhjlngkdppgpaa
