/- What a law of the cache reads of its arguments. -/
import Derived.Test.YtbdhmeefjlkdcaaCkZ
import Derived.Test.YtbdhmeefjlkdcaaFwR
import Derived.Test.YtbdhmeefjlkdcaaRows
namespace Go.Proofs.Ytbdhmeefjlkdcaa
open Go.ChangeShapes Go.WideShapes Go.ChangeAt Go.RowKit Go Go.Fw
set_option linter.unusedVariables false
set_option linter.unusedSimpArgs false
set_option maxRecDepth 20000

theorem own : ownKnob Try.prog.godebug = none := by kernel_rfl
theorem laidOut : laidOutB Try.prog = true := by kernel_rfl
theorem u3 : Try.prog.underlying 3 = some (.int .i64) := by kernel_rfl
theorem u4 : Try.prog.underlying 4 = some .bool := by kernel_rfl
theorem u22 : Try.prog.underlying 22 = some (.slice 34) := by kernel_rfl
noncomputable def fields34 : Array Field := match Try.prog.underlying 34 with | some (.struct fs) => fs | _ => #[]
theorem u34 : Try.prog.underlying 34 = some (.struct fields34) := by kernel_rfl
theorem f34 : fields34.toList.map (fun f => (f.type, f.offset)) = [(3, 0), (32, 1), (3, 3), (3, 4)] := by kernel_rfl
noncomputable def fields32 : Array Field := match Try.prog.underlying 32 with | some (.struct fs) => fs | _ => #[]
theorem u32 : Try.prog.underlying 32 = some (.struct fields32) := by kernel_rfl
theorem f32 : fields32.toList.map (fun f => (f.type, f.offset)) = [(3, 0), (3, 1)] := by kernel_rfl
theorem field_of {fs : Array Field} {l : List (TypeId × Nat)} (h : fs.toList.map (fun f => (f.type, f.offset)) = l) {i : Nat} {p : TypeId × Nat} (hi : l[i]? = some p) : ∃ f, fs[i]? = some f ∧ f.type = p.1 ∧ f.offset = p.2 := by
  rw [← h, List.getElem?_map, Option.map_eq_some_iff] at hi
  obtain ⟨f, hf, rfl⟩ := hi
  exact ⟨f, by simpa using hf, rfl, rfl⟩
theorem op_of {H : Type} {enc : TypeId × Value → H} {W : World} {base : Nat} {spare : Nat → Bool} {held : Bool} {n : Nat} {c : List Value} {y : DataW H × List MemPlace} (hc : c.length = 5)
    (hd : DataW.trod enc Try.prog W base spare held n 34 c = some y) (hw : Wt Try.prog 34 y.1) : ∃ o : Op5, c = opv o := by
  have hf := open_fields u34 hd hw
  have c3 : Try.prog.cellsOf 3 = 1 := by kernel_rfl
  have c32 : Try.prog.cellsOf 32 = 2 := by kernel_rfl
  obtain ⟨g0, h0, t0, o0⟩ := field_of f34 (i := 0) rfl
  obtain ⟨g1, h1, t1, o1⟩ := field_of f34 (i := 1) rfl
  obtain ⟨g2, h2, t2, o2⟩ := field_of f34 (i := 2) rfl
  obtain ⟨g3, h3, t3, o3⟩ := field_of f34 (i := 3) rfl
  obtain ⟨n0, y0, e0, _⟩ := hf 0 g0 h0
  obtain ⟨n1, y1, e1, w1⟩ := hf 1 g1 h1
  obtain ⟨n2, y2, e2, _⟩ := hf 2 g2 h2
  obtain ⟨n3, y3, e3, _⟩ := hf 3 g3 h3
  rw [t0, o0, c3] at e0
  rw [t1, o1, c32] at e1
  rw [t1] at w1
  rw [t2, o2, c3] at e2
  rw [t3, o3, c3] at e3
  have hf2 := open_fields u32 e1 w1
  obtain ⟨k0, i0, s0, q0⟩ := field_of f32 (i := 0) rfl
  obtain ⟨k1, i1, s1, q1⟩ := field_of f32 (i := 1) rfl
  obtain ⟨m0, z0, d0, _⟩ := hf2 0 k0 i0
  obtain ⟨m1, z1, d1, _⟩ := hf2 1 k1 i1
  rw [s0, q0, c3] at d0
  rw [s1, q1, c3] at d1
  obtain ⟨a0, ha0, _, _⟩ := DataW.trod_int u3 e0
  obtain ⟨a1, ha1, _, _⟩ := DataW.trod_int u3 d0
  obtain ⟨a2, ha2, _, _⟩ := DataW.trod_int u3 d1
  obtain ⟨a3, ha3, _, _⟩ := DataW.trod_int u3 e2
  obtain ⟨a4, ha4, _, _⟩ := DataW.trod_int u3 e3
  refine ⟨(a0, a1, a2, a3, a4), ?_⟩
  match c, hc with
  | [x0, x1, x2, x3, x4], _ =>
    simp at ha0 ha1 ha2 ha3 ha4
    subst ha0; subst ha1; subst ha2; subst ha3; subst ha4
    rfl
theorem scr_of {H : Type} {enc : TypeId × Value → H} {W : World} {base b : Nat} {spare : Nat → Bool} {held : Bool} {v : Value} {d : DataW H} {ps : List MemPlace} (hval : Value.okWide Try.prog W .any b 22 v)
    (hd : DataW.Trod enc Try.prog W base spare held 22 v d ps) (hw : Wt Try.prog 22 d) : ∃ (s : Sl) (os : List Op5), v = .slice s.a s.len s.cap ∧ Rd W s 5 (opvs os) := by
  obtain ⟨a0, len, cap, rfl⟩ := okWide_slice u22 hval
  obtain ⟨fuel0, hf⟩ := hd
  obtain ⟨s, els, hcs, hl, hr, _, hel⟩ := open_rd u22 (sz := 5) (by kernel_rfl) (by decide) hf hw
  have : ∃ os : List Op5, els.flatten = opvs os := by
    clear hl hr hcs
    induction els with
    | nil => exact ⟨[], rfl⟩
    | cons c r ih =>
      obtain ⟨os, e⟩ := ih fun c hc => hel c (List.mem_cons_of_mem _ hc)
      obtain ⟨hc1, n, y, hy, hwy⟩ := hel c (List.mem_cons_self ..)
      obtain ⟨o, rfl⟩ := op_of hc1 hy hwy
      exact ⟨o :: os, by rw [List.flatten_cons, e]; rfl⟩
  obtain ⟨os, e⟩ := this
  rw [e] at hr
  simp [Value.cells] at hcs
  obtain ⟨rfl, rfl, rfl⟩ := hcs
  exact ⟨s, os, rfl, hr⟩
theorem trodAll_five {H : Type} {enc : TypeId × Value → H} {P : Program} {w : World} {base : Nat} {spare : Nat → Bool} {held : Bool} {t0 t1 t2 t3 t4 : TypeId} {args : Array Value} {ds : List (DataW H)} {ps : List MemPlace} (h : DataW.TrodAll enc P w base spare held [t0, t1, t2, t3, t4] args.toList ds ps) :
    ∃ v0 v1 v2 v3 v4 d0 d1 d2 d3 d4 p0 p1 p2 p3 p4, args = #[v0, v1, v2, v3, v4] ∧ ds = [d0, d1, d2, d3, d4] ∧ ps = p0 ++ (p1 ++ (p2 ++ (p3 ++ p4))) ∧ DataW.Trod enc P w base spare held t0 v0 d0 p0 ∧ DataW.Trod enc P w base spare held t1 v1 d1 p1 ∧ DataW.Trod enc P w base spare held t2 v2 d2 p2 ∧
      DataW.Trod enc P w base spare held t3 v3 d3 p3 ∧ DataW.Trod enc P w base spare held t4 v4 d4 p4 := by
  obtain ⟨v0, vs0, d0, ds0, p0, q0, hargs, rfl, rfl, h0, h⟩ := trodAll_cons h
  obtain ⟨v1, vs1, d1, ds1, p1, q1, rfl, rfl, rfl, h1, h⟩ := trodAll_cons h
  obtain ⟨v2, vs2, d2, ds2, p2, q2, rfl, rfl, rfl, h2, h⟩ := trodAll_cons h
  obtain ⟨v3, vs3, d3, ds3, p3, q3, rfl, rfl, rfl, h3, h⟩ := trodAll_cons h
  obtain ⟨v4, vs4, d4, ds4, p4, q4, rfl, rfl, rfl, h4, h⟩ := trodAll_cons h
  obtain ⟨rfl, rfl, rfl⟩ := trodAll_nil h
  exact ⟨v0, v1, v2, v3, v4, d0, d1, d2, d3, d4, p0, p1, p2, p3, p4, by cases args; simp_all, rfl, by simp, h0, h1, h2, h3, h4⟩
theorem law3 {W : World} {s : Sl} {os : List Op5} (hs : Rd W s 5 (opvs os)) (a b c d : Int) : CallK Try.prog .bool 3 #[.int .i64 a, .int .i64 b, .int .i64 c, .int .i64 d, .slice s.a s.len s.cap] W fun (r : Bool) w' => Upd W w' nobody ∧ r = true := by
  refine T3.calls ?_
  unfold T3
  refine (holds_st hs a b c d 0 0).mono ?_
  rintro v w ⟨rfl, hu⟩
  exact ⟨hu, rfl⟩
theorem law4 {W : World} {s : Sl} {os : List Op5} (hs : Rd W s 5 (opvs os)) (a b c d : Int) : CallK Try.prog .bool 4 #[.int .i64 a, .int .i64 b, .int .i64 c, .int .i64 d, .slice s.a s.len s.cap] W fun (r : Bool) w' => Upd W w' nobody ∧ r = true := by
  refine T4.calls ?_
  unfold T4
  refine (holds_st hs a b c d 5 6).mono ?_
  rintro v w ⟨rfl, hu⟩
  exact ⟨hu, rfl⟩
end Go.Proofs.Ytbdhmeefjlkdcaa
