/- Letters as they were handed in: what a law reads of its arguments. -/
import Derived.Test.YtmhjlngkdppgpaaNtO
import Derived.Test.YtmhjlngkdppgpaaFwR
import Derived.Test.YtmhjlngkdppgpaaRows
namespace Go.Proofs.Ytmhjlngkdppgpaa
open Go.ChangeShapes Go.WideShapes Go.ChangeAt Go.RowKit Go Go.Fw
set_option linter.unusedVariables false
set_option linter.unusedSimpArgs false

theorem own : ownKnob Try.prog.godebug = none := by kernel_rfl
theorem laidOut : laidOutB Try.prog = true := by kernel_rfl
theorem u22 : Try.prog.underlying 22 = some (.slice 31) := by kernel_rfl
theorem u29 : Try.prog.underlying 29 = some (.slice 5) := by kernel_rfl
theorem u5 : Try.prog.underlying 5 = some (.int .u8) := by kernel_rfl
theorem u3 : Try.prog.underlying 3 = some (.int .i64) := by kernel_rfl
theorem u4 : Try.prog.underlying 4 = some .bool := by kernel_rfl
noncomputable def fields31 : Array Field := match Try.prog.underlying 31 with | some (.struct fs) => fs | _ => #[]
theorem u31 : Try.prog.underlying 31 = some (.struct fields31) := by kernel_rfl
theorem f31 : fields31.toList.map (fun f => (f.type, f.offset)) = [(3, 0), (3, 1), (29, 2)] := by kernel_rfl

theorem field_of {fs : Array Field} {l : List (TypeId × Nat)} (h : fs.toList.map (fun f => (f.type, f.offset)) = l) {i : Nat} {p : TypeId × Nat} (hi : l[i]? = some p) : ∃ f, fs[i]? = some f ∧ f.type = p.1 ∧ f.offset = p.2 := by
  rw [← h, List.getElem?_map, Option.map_eq_some_iff] at hi
  obtain ⟨f, hf, rfl⟩ := hi
  exact ⟨f, by simpa using hf, rfl, rfl⟩

/-- A letter's cells. -/
theorem letter_of {H : Type} {enc : TypeId × Value → H} {W : World} {base : Nat} {spare : Nat → Bool} {held : Bool} {n : Nat} {c : List Value} {y : DataW H × List MemPlace} (hc : c.length = 3)
    (hd : DataW.trod enc Try.prog W base spare held n 31 c = some y) (hw : Wt Try.prog 31 y.1) : ∃ x : Ltr × Sl, c = lc x.1.f x.1.t x.2 ∧ Rd W x.2 1 (bys x.1.m) ∧ x.1.m.length ≤ big := by
  have hf := open_fields u31 hd hw
  obtain ⟨g0, h0, t0, o0⟩ := field_of f31 (i := 0) rfl
  obtain ⟨g1, h1, t1, o1⟩ := field_of f31 (i := 1) rfl
  obtain ⟨g2, h2, t2, o2⟩ := field_of f31 (i := 2) rfl
  have c3 : Try.prog.cellsOf 3 = 1 := by kernel_rfl
  have c29 : Try.prog.cellsOf 29 = 1 := by kernel_rfl
  obtain ⟨n0, y0, e0, _⟩ := hf 0 g0 h0
  obtain ⟨n1, y1, e1, _⟩ := hf 1 g1 h1
  obtain ⟨n2, y2, e2, w2⟩ := hf 2 g2 h2
  rw [t0, o0, c3] at e0
  rw [t1, o1, c3] at e1
  rw [t2, o2, c29] at e2
  rw [t2] at w2
  obtain ⟨a, ha, _, _⟩ := DataW.trod_int u3 e0
  obtain ⟨b, hb, _, _⟩ := DataW.trod_int u3 e1
  obtain ⟨s, l, hs, hr, hl⟩ := open_bys u29 u5 (by kernel_rfl) (by kernel_rfl) e2 w2
  refine ⟨(⟨a, b, l⟩, s), ?_, hr, Nat.le_trans hl (by decide)⟩
  match c, hc with
  | [x0, x1, x2], _ =>
    simp at ha hb hs
    subst ha; subst hb; subst hs
    rfl
/-- A slice of letters. -/
theorem given_of {H : Type} {enc : TypeId × Value → H} {W : World} {base b : Nat} {spare : Nat → Bool} {held : Bool} {v : Value} {d : DataW H} {ps : List MemPlace} (hval : Value.okWide Try.prog W .any b 22 v)
    (hd : DataW.Trod enc Try.prog W base spare held 22 v d ps) (hw : Wt Try.prog 22 d) : ∃ (s : Sl) (ls : List (Ltr × Sl)), v = .slice s.a s.len s.cap ∧ Given W s ls := by
  obtain ⟨a0, len, cap, rfl⟩ := okWide_slice u22 hval
  obtain ⟨fuel0, hf⟩ := hd
  obtain ⟨s, els, hcs, hl, hr, hlen, hel⟩ := open_rd u22 (sz := 3) (by kernel_rfl) (by decide) hf hw
  have : ∃ ls : List (Ltr × Sl), els.flatten = row ls ∧ ∀ x ∈ ls, Rd W x.2 1 (bys x.1.m) ∧ x.1.m.length ≤ big := by
    clear hcs hl hr hlen hf
    induction els with
    | nil => exact ⟨[], rfl, fun x hx => by cases hx⟩
    | cons c r ih =>
      obtain ⟨ls, e, hx⟩ := ih fun c hc => hel c (List.mem_cons_of_mem _ hc)
      obtain ⟨hc1, n, y, hy, hwy⟩ := hel c (List.mem_cons_self ..)
      obtain ⟨x, rfl, h1, h2⟩ := letter_of hc1 hy hwy
      refine ⟨x :: ls, by rw [List.flatten_cons, e, row_cons], fun z hz => ?_⟩
      rcases List.mem_cons.1 hz with rfl | hz
      · exact ⟨h1, h2⟩
      · exact hx z hz
  obtain ⟨ls, e, hx⟩ := this
  rw [e] at hr
  simp [Value.cells] at hcs
  obtain ⟨rfl, rfl, rfl⟩ := hcs
  exact ⟨s, ls, rfl, hr, hx⟩
end Go.Proofs.Ytmhjlngkdppgpaa
