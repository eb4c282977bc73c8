/- Scripts of epochs as they were handed in. -/
import Derived.Test.YtmfbmfppjdkeeaaEkS
import Derived.Test.YtmfbmfppjdkeeaaFwR
import Derived.Test.YtmfbmfppjdkeeaaRows
import Derived.Deep.CondSized
namespace Go.Proofs.Ytmfbmfppjdkeeaa
open Go.ChangeShapes Go.WideShapes Go.ChangeAt Go.RowKit Go Go.Fw
set_option linter.unusedVariables false
set_option linter.unusedSimpArgs false
set_option maxRecDepth 20000

theorem own : ownKnob Try.prog.godebug = none := by kernel_rfl
theorem laidOut : laidOutB Try.prog = true := by kernel_rfl
theorem u3 : Try.prog.underlying 3 = some (.int .i64) := by kernel_rfl
theorem u4 : Try.prog.underlying 4 = some .bool := by kernel_rfl
theorem u22 : Try.prog.underlying 22 = some (.slice 56) := by kernel_rfl
noncomputable def fields56 : Array Field := match Try.prog.underlying 56 with | some (.struct fs) => fs | _ => #[]
theorem u56 : Try.prog.underlying 56 = some (.struct fields56) := by kernel_rfl
theorem f56 : fields56.toList.map (fun f => (f.type, f.offset)) = [(3, 0), (3, 1), (3, 2), (3, 3), (3, 4), (4, 5), (4, 6), (3, 7), (54, 8), (54, 10)] := by kernel_rfl
noncomputable def fields54 : Array Field := match Try.prog.underlying 54 with | some (.struct fs) => fs | _ => #[]
theorem u54 : Try.prog.underlying 54 = some (.struct fields54) := by kernel_rfl
theorem f54 : fields54.toList.map (fun f => (f.type, f.offset)) = [(3, 0), (3, 1)] := by kernel_rfl
theorem field_of {fs : Array Field} {l : List (TypeId × Nat)} (h : fs.toList.map (fun f => (f.type, f.offset)) = l) {i : Nat} {p : TypeId × Nat} (hi : l[i]? = some p) : ∃ f, fs[i]? = some f ∧ f.type = p.1 ∧ f.offset = p.2 := by
  rw [← h, List.getElem?_map, Option.map_eq_some_iff] at hi
  obtain ⟨f, hf, rfl⟩ := hi
  exact ⟨f, by simpa using hf, rfl, rfl⟩
theorem ep_of {H : Type} {enc : TypeId × Value → H} {W : World} {base : Nat} {spare : Nat → Bool} {held : Bool} {n : Nat} {c : List Value} {y : DataW H × List MemPlace} (hc : c.length = 2)
    (hd : DataW.trod enc Try.prog W base spare held n 54 c = some y) (hw : Wt Try.prog 54 y.1) : ∃ o : Ep, c = epv o := by
  have hf := open_fields u54 hd hw
  have c3 : Try.prog.cellsOf 3 = 1 := by kernel_rfl
  obtain ⟨g0, h0, t0, o0⟩ := field_of f54 (i := 0) rfl
  obtain ⟨g1, h1, t1, o1⟩ := field_of f54 (i := 1) rfl
  obtain ⟨n0, y0, e0, _⟩ := hf 0 g0 h0
  obtain ⟨n1, y1, e1, _⟩ := hf 1 g1 h1
  rw [t0, o0, c3] at e0
  rw [t1, o1, c3] at e1
  obtain ⟨a0, ha0, _, _⟩ := DataW.trod_int u3 e0
  obtain ⟨a1, ha1, _, _⟩ := DataW.trod_int u3 e1
  refine ⟨(a0, a1), ?_⟩
  match c, hc with
  | [x0, x1], _ =>
    simp at ha0 ha1
    subst ha0; subst ha1
    rfl
theorem ca_of {H : Type} {enc : TypeId × Value → H} {W : World} {base : Nat} {spare : Nat → Bool} {held : Bool} {n : Nat} {c : List Value} {y : DataW H × List MemPlace} (hc : c.length = 12)
    (hd : DataW.trod enc Try.prog W base spare held n 56 c = some y) (hw : Wt Try.prog 56 y.1) : ∃ o : Ca, c = cav o := by
  have hf := open_fields u56 hd hw
  have c3 : Try.prog.cellsOf 3 = 1 := by kernel_rfl
  have c4 : Try.prog.cellsOf 4 = 1 := by kernel_rfl
  have c54 : Try.prog.cellsOf 54 = 2 := by kernel_rfl
  obtain ⟨g0, h0, t0, o0⟩ := field_of f56 (i := 0) rfl
  obtain ⟨n0, y0, e0, w0⟩ := hf 0 g0 h0
  rw [t0, o0, c3] at e0
  obtain ⟨g1, h1, t1, o1⟩ := field_of f56 (i := 1) rfl
  obtain ⟨n1, y1, e1, w1⟩ := hf 1 g1 h1
  rw [t1, o1, c3] at e1
  obtain ⟨g2, h2, t2, o2⟩ := field_of f56 (i := 2) rfl
  obtain ⟨n2, y2, e2, w2⟩ := hf 2 g2 h2
  rw [t2, o2, c3] at e2
  obtain ⟨g3, h3, t3, o3⟩ := field_of f56 (i := 3) rfl
  obtain ⟨n3, y3, e3, w3⟩ := hf 3 g3 h3
  rw [t3, o3, c3] at e3
  obtain ⟨g4, h4, t4, o4⟩ := field_of f56 (i := 4) rfl
  obtain ⟨n4, y4, e4, w4⟩ := hf 4 g4 h4
  rw [t4, o4, c3] at e4
  obtain ⟨g5, h5, t5, o5⟩ := field_of f56 (i := 5) rfl
  obtain ⟨n5, y5, e5, w5⟩ := hf 5 g5 h5
  rw [t5, o5, c4] at e5
  obtain ⟨g6, h6, t6, o6⟩ := field_of f56 (i := 6) rfl
  obtain ⟨n6, y6, e6, w6⟩ := hf 6 g6 h6
  rw [t6, o6, c4] at e6
  obtain ⟨g7, h7, t7, o7⟩ := field_of f56 (i := 7) rfl
  obtain ⟨n7, y7, e7, w7⟩ := hf 7 g7 h7
  rw [t7, o7, c3] at e7
  obtain ⟨g8, h8, t8, o8⟩ := field_of f56 (i := 8) rfl
  obtain ⟨n8, y8, e8, w8⟩ := hf 8 g8 h8
  rw [t8, o8, c54] at e8
  rw [t8] at w8
  obtain ⟨g9, h9, t9, o9⟩ := field_of f56 (i := 9) rfl
  obtain ⟨n9, y9, e9, w9⟩ := hf 9 g9 h9
  rw [t9, o9, c54] at e9
  rw [t9] at w9
  match c, hc with
  | [x0, x1, x2, x3, x4, x5, x6, x7, x8, x9, x10, x11], _ =>
    obtain ⟨a0, ha0, _, _⟩ := DataW.trod_int u3 e0
    simp at ha0
    subst ha0
    obtain ⟨a1, ha1, _, _⟩ := DataW.trod_int u3 e1
    simp at ha1
    subst ha1
    obtain ⟨a2, ha2, _, _⟩ := DataW.trod_int u3 e2
    simp at ha2
    subst ha2
    obtain ⟨a3, ha3, _, _⟩ := DataW.trod_int u3 e3
    simp at ha3
    subst ha3
    obtain ⟨a4, ha4, _, _⟩ := DataW.trod_int u3 e4
    simp at ha4
    subst ha4
    obtain ⟨a5, ha5, _⟩ := DataW.trod_bool u4 e5
    simp at ha5
    subst ha5
    obtain ⟨a6, ha6, _⟩ := DataW.trod_bool u4 e6
    simp at ha6
    subst ha6
    obtain ⟨a7, ha7, _, _⟩ := DataW.trod_int u3 e7
    simp at ha7
    subst ha7
    obtain ⟨a8, ha8⟩ := ep_of rfl e8 w8
    simp [epv] at ha8
    obtain ⟨rfl, rfl⟩ := ha8
    obtain ⟨a9, ha9⟩ := ep_of rfl e9 w9
    simp [epv] at ha9
    obtain ⟨rfl, rfl⟩ := ha9
    exact ⟨⟨a0, a1, a2, a3, a4, a5, a6, a7, a8, a9⟩, rfl⟩
theorem bulk_pos {H : Type} (d : DataW H) : 1 ≤ Rows.uptoBulk d := by
  unfold Rows.uptoBulk
  split <;> omega
theorem bulk_len {H : Type} (l : List (DataW H)) : l.length ≤ Rows.uptoBulkAll l := by
  induction l with
  | nil => exact Nat.zero_le _
  | cons d r ih =>
    have := bulk_pos d
    simp only [Rows.uptoBulkAll, List.length_cons]; omega
theorem slice_bulk {H : Type} {enc : TypeId × Value → H} {P : Program} {w : World} {base : Nat} {spare : Nat → Bool} {held : Bool} {fuel : Nat} {t e : TypeId} {a : Option Addr} {len cap : Nat} {x : DataW H × List MemPlace}
    (ht : P.underlying t = some (.slice e)) (h : DataW.trod enc P w base spare held fuel t [.slice a len cap] = some x) : len ≤ Rows.uptoBulk x.1 := by
  rcases DataW.trod_slice ht h with ⟨hc, rfl⟩ | ⟨a', len', cap', elems, rest, n, _, hc, rfl, hb, hl, hm, hlen, hel, _, _⟩
  · simp at hc
    have := bulk_pos (DataW.nil : DataW H)
    omega
  · simp at hc
    obtain ⟨rfl, rfl, rfl⟩ := hc
    have h1 := bulk_len (elems.map (·.1))
    rw [List.length_map] at h1
    have h2 : ∀ s : List (DataW H), Rows.uptoBulk (DataW.slice (elems.map (·.1)) s) = Rows.uptoBulkAll (elems.map (·.1)) + Rows.uptoBulkAll s + 1 := fun s => by
      simp only [Rows.uptoBulk]
    simp only [h2]
    omega
theorem scr_of {H : Type} {enc : TypeId × Value → H} {W : World} {base b : Nat} {spare : Nat → Bool} {held : Bool} {v : Value} {d : DataW H} {ps : List MemPlace} (hval : Value.okWide Try.prog W .any b 22 v)
    (hd : DataW.Trod enc Try.prog W base spare held 22 v d ps) (hw : Wt Try.prog 22 d) (hk : Rows.uptoBulk d ≤ 1048576) : ∃ (s : Sl) (os : List Ca), v = .slice s.a s.len s.cap ∧ Rd W s 12 (cavs os) ∧ os.length ≤ 1048576 := by
  obtain ⟨a0, len, cap, rfl⟩ := okWide_slice u22 hval
  obtain ⟨fuel0, hf⟩ := hd
  have hlb := slice_bulk u22 hf
  obtain ⟨s, els, hcs, hl, hr, hlen, hel⟩ := open_rd u22 (sz := 12) (by kernel_rfl) (by decide) hf hw
  have : ∃ os : List Ca, els.flatten = cavs os ∧ os.length = els.length := by
    clear hcs hl hr hlen hf
    induction els with
    | nil => exact ⟨[], rfl, rfl⟩
    | cons c r ih =>
      obtain ⟨os, e, el⟩ := ih fun c hc => hel c (List.mem_cons_of_mem _ hc)
      obtain ⟨hc1, n, y, hy, hwy⟩ := hel c (List.mem_cons_self ..)
      obtain ⟨o, rfl⟩ := ca_of hc1 hy hwy
      exact ⟨o :: os, by rw [List.flatten_cons, e]; simp, by simp [el]⟩
  obtain ⟨os, e, el⟩ := this
  rw [e] at hr
  simp [Value.cells] at hcs
  obtain ⟨rfl, rfl, rfl⟩ := hcs
  exact ⟨s, os, rfl, hr, by rw [el, hl]; exact Nat.le_trans hlb hk⟩
theorem trodAll_three {H : Type} {enc : TypeId × Value → H} {P : Program} {w : World} {base : Nat} {spare : Nat → Bool} {held : Bool} {t0 t1 t2 : TypeId} {args : Array Value} {ds : List (DataW H)} {ps : List MemPlace} (h : DataW.TrodAll enc P w base spare held [t0, t1, t2] args.toList ds ps) :
    ∃ v0 v1 v2 d0 d1 d2 p0 p1 p2, args = #[v0, v1, v2] ∧ ds = [d0, d1, d2] ∧ ps = p0 ++ (p1 ++ p2) ∧ DataW.Trod enc P w base spare held t0 v0 d0 p0 ∧ DataW.Trod enc P w base spare held t1 v1 d1 p1 ∧ DataW.Trod enc P w base spare held t2 v2 d2 p2 := by
  obtain ⟨v0, vs0, d0, ds0, p0, q0, hargs, rfl, rfl, h0, h⟩ := trodAll_cons h
  obtain ⟨v1, vs1, d1, ds1, p1, q1, rfl, rfl, rfl, h1, h⟩ := trodAll_cons h
  obtain ⟨v2, vs2, d2, ds2, p2, q2, rfl, rfl, rfl, h2, h⟩ := trodAll_cons h
  obtain ⟨rfl, rfl, rfl⟩ := trodAll_nil h
  exact ⟨v0, v1, v2, d0, d1, d2, p0, p1, p2, by cases args; simp_all, rfl, by simp, h0, h1, h2⟩
theorem trodAll_five {H : Type} {enc : TypeId × Value → H} {P : Program} {w : World} {base : Nat} {spare : Nat → Bool} {held : Bool} {t0 t1 t2 t3 t4 : TypeId} {args : Array Value} {ds : List (DataW H)} {ps : List MemPlace} (h : DataW.TrodAll enc P w base spare held [t0, t1, t2, t3, t4] args.toList ds ps) :
    ∃ v0 v1 v2 v3 v4 d0 d1 d2 d3 d4 p0 p1 p2 p3 p4, args = #[v0, v1, v2, v3, v4] ∧ ds = [d0, d1, d2, d3, d4] ∧ ps = p0 ++ (p1 ++ (p2 ++ (p3 ++ p4))) ∧ DataW.Trod enc P w base spare held t0 v0 d0 p0 ∧ DataW.Trod enc P w base spare held t1 v1 d1 p1 ∧ DataW.Trod enc P w base spare held t2 v2 d2 p2 ∧
      DataW.Trod enc P w base spare held t3 v3 d3 p3 ∧ DataW.Trod enc P w base spare held t4 v4 d4 p4 := by
  obtain ⟨v0, vs0, d0, ds0, p0, q0, hargs, rfl, rfl, h0, h⟩ := trodAll_cons h
  obtain ⟨v1, vs1, d1, ds1, p1, q1, rfl, rfl, rfl, h1, h⟩ := trodAll_cons h
  obtain ⟨v2, vs2, d2, ds2, p2, q2, rfl, rfl, rfl, h2, h⟩ := trodAll_cons h
  obtain ⟨v3, vs3, d3, ds3, p3, q3, rfl, rfl, rfl, h3, h⟩ := trodAll_cons h
  obtain ⟨v4, vs4, d4, ds4, p4, q4, rfl, rfl, rfl, h4, h⟩ := trodAll_cons h
  obtain ⟨rfl, rfl, rfl⟩ := trodAll_nil h
  exact ⟨v0, v1, v2, v3, v4, d0, d1, d2, d3, d4, p0, p1, p2, p3, p4, by cases args; simp_all, rfl, by simp, h0, h1, h2, h3, h4⟩
theorem law3 {W : World} {s : Sl} {os : List Ca} (hs : Rd W s 12 (cavs os)) (hl : os.length ≤ 1048576) (a b : Int) : CallK Try.prog .bool 3 #[.int .i64 a, .int .i64 b, .slice s.a s.len s.cap] W fun (r : Bool) w' => Upd W w' nobody ∧ r = true := by
  refine T3.calls ?_
  unfold T3
  refine (plays_st hs hl a b 0 2 _ _ false).mono ?_
  rintro v w ⟨rfl, hu⟩
  exact ⟨hu, rfl⟩
theorem law4 {W : World} {s : Sl} {os : List Ca} (hs : Rd W s 12 (cavs os)) (hl : os.length ≤ 1048576) (a b : Int) : CallK Try.prog .bool 4 #[.int .i64 a, .int .i64 b, .slice s.a s.len s.cap] W fun (r : Bool) w' => Upd W w' nobody ∧ r = true := by
  refine T4.calls ?_
  unfold T4
  refine (plays_st hs hl a b 0 2 _ _ false).mono ?_
  rintro v w ⟨rfl, hu⟩
  exact ⟨hu, rfl⟩
theorem law5 {W : World} {s : Sl} {os : List Ca} (hs : Rd W s 12 (cavs os)) (hl : os.length ≤ 1048576) (a b : Int) : CallK Try.prog .bool 5 #[.int .i64 a, .int .i64 b, .slice s.a s.len s.cap] W fun (r : Bool) w' => Upd W w' nobody ∧ r = true := by
  refine T5.calls ?_
  unfold T5
  refine (plays_st hs hl a b 0 2 _ _ false).mono ?_
  rintro v w ⟨rfl, hu⟩
  exact ⟨hu, rfl⟩
theorem law6 {W : World} {s : Sl} {os : List Ca} (hs : Rd W s 12 (cavs os)) (hl : os.length ≤ 1048576) (a b c d : Int) : CallK Try.prog .bool 6 #[.int .i64 a, .int .i64 b, .int .i64 c, .int .i64 d, .slice s.a s.len s.cap] W fun (r : Bool) w' => Upd W w' nobody ∧ r = true := by
  refine T6.calls ?_
  unfold T6
  refine (plays_st hs hl a b c d _ _ false).mono ?_
  rintro v w ⟨rfl, hu⟩
  rw [SplitB_iff]
  refine ⟨fun _ => ?_, fun hf => (by cases hf)⟩
  refine (plays_st (hs.upd hu fun _ _ h => h) hl a b c d _ _ true).mono ?_
  rintro v w2 ⟨rfl, hu2⟩
  exact ⟨hu.trans hu2, rfl⟩
end Go.Proofs.Ytmfbmfppjdkeeaa
