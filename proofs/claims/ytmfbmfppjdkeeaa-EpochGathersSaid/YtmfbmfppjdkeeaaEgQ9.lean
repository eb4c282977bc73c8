/- Words and steps, part 9: Scripts of epochs as they were handed in. The world of epochs, in plain words: what always holds. The world of epochs, in plain words: what a machine hears. The world of epochs, in plain words: who decides has all; what is sent. The world of epochs, in plain words: what a step makes of it. The world of epochs, in plain words: a message comes; a step. -/
import Derived.Test.YtmfbmfppjdkeeaaRows
import Derived.Deep.CondSized
import Derived.Test.YtmfbmfppjdkeeaaEgQ8
/- Scripts of epochs as they were handed in. -/
namespace Go.Proofs.Ytmfbmfppjdkeeaa
open Go.ChangeShapes Go.WideShapes Go.ChangeAt Go.RowKit Go Go.Fw
set_option linter.unusedVariables false
set_option linter.unusedSimpArgs false
set_option maxRecDepth 20000

theorem own : ownKnob Try.prog.godebug = none := by kernel_rfl
theorem laidOut : laidOutB Try.prog = true := by kernel_rfl
theorem u3 : Try.prog.underlying 3 = some (.int .i64) := by kernel_rfl
theorem u4 : Try.prog.underlying 4 = some .bool := by kernel_rfl
theorem u22 : Try.prog.underlying 22 = some (.slice 56) := by kernel_rfl
noncomputable def fields56 : Array Field := match Try.prog.underlying 56 with | some (.struct fs) => fs | _ => #[]
theorem u56 : Try.prog.underlying 56 = some (.struct fields56) := by kernel_rfl
theorem f56 : fields56.toList.map (fun f => (f.type, f.offset)) = [(3, 0), (3, 1), (3, 2), (3, 3), (3, 4), (4, 5), (4, 6), (3, 7), (54, 8), (54, 10)] := by kernel_rfl
noncomputable def fields54 : Array Field := match Try.prog.underlying 54 with | some (.struct fs) => fs | _ => #[]
theorem u54 : Try.prog.underlying 54 = some (.struct fields54) := by kernel_rfl
theorem f54 : fields54.toList.map (fun f => (f.type, f.offset)) = [(3, 0), (3, 1)] := by kernel_rfl
theorem field_of {fs : Array Field} {l : List (TypeId × Nat)} (h : fs.toList.map (fun f => (f.type, f.offset)) = l) {i : Nat} {p : TypeId × Nat} (hi : l[i]? = some p) : ∃ f, fs[i]? = some f ∧ f.type = p.1 ∧ f.offset = p.2 := by
  rw [← h, List.getElem?_map, Option.map_eq_some_iff] at hi
  obtain ⟨f, hf, rfl⟩ := hi
  exact ⟨f, by simpa using hf, rfl, rfl⟩
theorem ep_of {H : Type} {enc : TypeId × Value → H} {W : World} {base : Nat} {spare : Nat → Bool} {held : Bool} {n : Nat} {c : List Value} {y : DataW H × List MemPlace} (hc : c.length = 2)
    (hd : DataW.trod enc Try.prog W base spare held n 54 c = some y) (hw : Wt Try.prog 54 y.1) : ∃ o : Ep, c = epv o := by
  have hf := open_fields u54 hd hw
  have c3 : Try.prog.cellsOf 3 = 1 := by kernel_rfl
  obtain ⟨g0, h0, t0, o0⟩ := field_of f54 (i := 0) rfl
  obtain ⟨g1, h1, t1, o1⟩ := field_of f54 (i := 1) rfl
  obtain ⟨n0, y0, e0, _⟩ := hf 0 g0 h0
  obtain ⟨n1, y1, e1, _⟩ := hf 1 g1 h1
  rw [t0, o0, c3] at e0
  rw [t1, o1, c3] at e1
  obtain ⟨a0, ha0, _, _⟩ := DataW.trod_int u3 e0
  obtain ⟨a1, ha1, _, _⟩ := DataW.trod_int u3 e1
  refine ⟨(a0, a1), ?_⟩
  match c, hc with
  | [x0, x1], _ =>
    simp at ha0 ha1
    subst ha0; subst ha1
    rfl
theorem ca_of {H : Type} {enc : TypeId × Value → H} {W : World} {base : Nat} {spare : Nat → Bool} {held : Bool} {n : Nat} {c : List Value} {y : DataW H × List MemPlace} (hc : c.length = 12)
    (hd : DataW.trod enc Try.prog W base spare held n 56 c = some y) (hw : Wt Try.prog 56 y.1) : ∃ o : Ca, c = cav o := by
  have hf := open_fields u56 hd hw
  have c3 : Try.prog.cellsOf 3 = 1 := by kernel_rfl
  have c4 : Try.prog.cellsOf 4 = 1 := by kernel_rfl
  have c54 : Try.prog.cellsOf 54 = 2 := by kernel_rfl
  obtain ⟨g0, h0, t0, o0⟩ := field_of f56 (i := 0) rfl
  obtain ⟨n0, y0, e0, w0⟩ := hf 0 g0 h0
  rw [t0, o0, c3] at e0
  obtain ⟨g1, h1, t1, o1⟩ := field_of f56 (i := 1) rfl
  obtain ⟨n1, y1, e1, w1⟩ := hf 1 g1 h1
  rw [t1, o1, c3] at e1
  obtain ⟨g2, h2, t2, o2⟩ := field_of f56 (i := 2) rfl
  obtain ⟨n2, y2, e2, w2⟩ := hf 2 g2 h2
  rw [t2, o2, c3] at e2
  obtain ⟨g3, h3, t3, o3⟩ := field_of f56 (i := 3) rfl
  obtain ⟨n3, y3, e3, w3⟩ := hf 3 g3 h3
  rw [t3, o3, c3] at e3
  obtain ⟨g4, h4, t4, o4⟩ := field_of f56 (i := 4) rfl
  obtain ⟨n4, y4, e4, w4⟩ := hf 4 g4 h4
  rw [t4, o4, c3] at e4
  obtain ⟨g5, h5, t5, o5⟩ := field_of f56 (i := 5) rfl
  obtain ⟨n5, y5, e5, w5⟩ := hf 5 g5 h5
  rw [t5, o5, c4] at e5
  obtain ⟨g6, h6, t6, o6⟩ := field_of f56 (i := 6) rfl
  obtain ⟨n6, y6, e6, w6⟩ := hf 6 g6 h6
  rw [t6, o6, c4] at e6
  obtain ⟨g7, h7, t7, o7⟩ := field_of f56 (i := 7) rfl
  obtain ⟨n7, y7, e7, w7⟩ := hf 7 g7 h7
  rw [t7, o7, c3] at e7
  obtain ⟨g8, h8, t8, o8⟩ := field_of f56 (i := 8) rfl
  obtain ⟨n8, y8, e8, w8⟩ := hf 8 g8 h8
  rw [t8, o8, c54] at e8
  rw [t8] at w8
  obtain ⟨g9, h9, t9, o9⟩ := field_of f56 (i := 9) rfl
  obtain ⟨n9, y9, e9, w9⟩ := hf 9 g9 h9
  rw [t9, o9, c54] at e9
  rw [t9] at w9
  match c, hc with
  | [x0, x1, x2, x3, x4, x5, x6, x7, x8, x9, x10, x11], _ =>
    obtain ⟨a0, ha0, _, _⟩ := DataW.trod_int u3 e0
    simp at ha0
    subst ha0
    obtain ⟨a1, ha1, _, _⟩ := DataW.trod_int u3 e1
    simp at ha1
    subst ha1
    obtain ⟨a2, ha2, _, _⟩ := DataW.trod_int u3 e2
    simp at ha2
    subst ha2
    obtain ⟨a3, ha3, _, _⟩ := DataW.trod_int u3 e3
    simp at ha3
    subst ha3
    obtain ⟨a4, ha4, _, _⟩ := DataW.trod_int u3 e4
    simp at ha4
    subst ha4
    obtain ⟨a5, ha5, _⟩ := DataW.trod_bool u4 e5
    simp at ha5
    subst ha5
    obtain ⟨a6, ha6, _⟩ := DataW.trod_bool u4 e6
    simp at ha6
    subst ha6
    obtain ⟨a7, ha7, _, _⟩ := DataW.trod_int u3 e7
    simp at ha7
    subst ha7
    obtain ⟨a8, ha8⟩ := ep_of rfl e8 w8
    simp [epv] at ha8
    obtain ⟨rfl, rfl⟩ := ha8
    obtain ⟨a9, ha9⟩ := ep_of rfl e9 w9
    simp [epv] at ha9
    obtain ⟨rfl, rfl⟩ := ha9
    exact ⟨⟨a0, a1, a2, a3, a4, a5, a6, a7, a8, a9⟩, rfl⟩
theorem bulk_pos {H : Type} (d : DataW H) : 1 ≤ Rows.uptoBulk d := by
  unfold Rows.uptoBulk
  split <;> omega
theorem bulk_len {H : Type} (l : List (DataW H)) : l.length ≤ Rows.uptoBulkAll l := by
  induction l with
  | nil => exact Nat.zero_le _
  | cons d r ih =>
    have := bulk_pos d
    simp only [Rows.uptoBulkAll, List.length_cons]; omega
theorem slice_bulk {H : Type} {enc : TypeId × Value → H} {P : Program} {w : World} {base : Nat} {spare : Nat → Bool} {held : Bool} {fuel : Nat} {t e : TypeId} {a : Option Addr} {len cap : Nat} {x : DataW H × List MemPlace}
    (ht : P.underlying t = some (.slice e)) (h : DataW.trod enc P w base spare held fuel t [.slice a len cap] = some x) : len ≤ Rows.uptoBulk x.1 := by
  rcases DataW.trod_slice ht h with ⟨hc, rfl⟩ | ⟨a', len', cap', elems, rest, n, _, hc, rfl, hb, hl, hm, hlen, hel, _, _⟩
  · simp at hc
    have := bulk_pos (DataW.nil : DataW H)
    omega
  · simp at hc
    obtain ⟨rfl, rfl, rfl⟩ := hc
    have h1 := bulk_len (elems.map (·.1))
    rw [List.length_map] at h1
    have h2 : ∀ s : List (DataW H), Rows.uptoBulk (DataW.slice (elems.map (·.1)) s) = Rows.uptoBulkAll (elems.map (·.1)) + Rows.uptoBulkAll s + 1 := fun s => by
      simp only [Rows.uptoBulk]
    simp only [h2]
    omega
theorem scr_of {H : Type} {enc : TypeId × Value → H} {W : World} {base b : Nat} {spare : Nat → Bool} {held : Bool} {v : Value} {d : DataW H} {ps : List MemPlace} (hval : Value.okWide Try.prog W .any b 22 v)
    (hd : DataW.Trod enc Try.prog W base spare held 22 v d ps) (hw : Wt Try.prog 22 d) (hk : Rows.uptoBulk d ≤ 1048576) : ∃ (s : Sl) (os : List Ca), v = .slice s.a s.len s.cap ∧ Rd W s 12 (cavs os) ∧ os.length ≤ 1048576 := by
  obtain ⟨a0, len, cap, rfl⟩ := okWide_slice u22 hval
  obtain ⟨fuel0, hf⟩ := hd
  have hlb := slice_bulk u22 hf
  obtain ⟨s, els, hcs, hl, hr, hlen, hel⟩ := open_rd u22 (sz := 12) (by kernel_rfl) (by decide) hf hw
  have : ∃ os : List Ca, els.flatten = cavs os ∧ os.length = els.length := by
    clear hcs hl hr hlen hf
    induction els with
    | nil => exact ⟨[], rfl, rfl⟩
    | cons c r ih =>
      obtain ⟨os, e, el⟩ := ih fun c hc => hel c (List.mem_cons_of_mem _ hc)
      obtain ⟨hc1, n, y, hy, hwy⟩ := hel c (List.mem_cons_self ..)
      obtain ⟨o, rfl⟩ := ca_of hc1 hy hwy
      exact ⟨o :: os, by rw [List.flatten_cons, e]; simp, by simp [el]⟩
  obtain ⟨os, e, el⟩ := this
  rw [e] at hr
  simp [Value.cells] at hcs
  obtain ⟨rfl, rfl, rfl⟩ := hcs
  exact ⟨s, os, rfl, hr, by rw [el, hl]; exact Nat.le_trans hlb hk⟩
theorem trodAll_three {H : Type} {enc : TypeId × Value → H} {P : Program} {w : World} {base : Nat} {spare : Nat → Bool} {held : Bool} {t0 t1 t2 : TypeId} {args : Array Value} {ds : List (DataW H)} {ps : List MemPlace} (h : DataW.TrodAll enc P w base spare held [t0, t1, t2] args.toList ds ps) :
    ∃ v0 v1 v2 d0 d1 d2 p0 p1 p2, args = #[v0, v1, v2] ∧ ds = [d0, d1, d2] ∧ ps = p0 ++ (p1 ++ p2) ∧ DataW.Trod enc P w base spare held t0 v0 d0 p0 ∧ DataW.Trod enc P w base spare held t1 v1 d1 p1 ∧ DataW.Trod enc P w base spare held t2 v2 d2 p2 := by
  obtain ⟨v0, vs0, d0, ds0, p0, q0, hargs, rfl, rfl, h0, h⟩ := trodAll_cons h
  obtain ⟨v1, vs1, d1, ds1, p1, q1, rfl, rfl, rfl, h1, h⟩ := trodAll_cons h
  obtain ⟨v2, vs2, d2, ds2, p2, q2, rfl, rfl, rfl, h2, h⟩ := trodAll_cons h
  obtain ⟨rfl, rfl, rfl⟩ := trodAll_nil h
  exact ⟨v0, v1, v2, d0, d1, d2, p0, p1, p2, by cases args; simp_all, rfl, by simp, h0, h1, h2⟩
theorem trodAll_five {H : Type} {enc : TypeId × Value → H} {P : Program} {w : World} {base : Nat} {spare : Nat → Bool} {held : Bool} {t0 t1 t2 t3 t4 : TypeId} {args : Array Value} {ds : List (DataW H)} {ps : List MemPlace} (h : DataW.TrodAll enc P w base spare held [t0, t1, t2, t3, t4] args.toList ds ps) :
    ∃ v0 v1 v2 v3 v4 d0 d1 d2 d3 d4 p0 p1 p2 p3 p4, args = #[v0, v1, v2, v3, v4] ∧ ds = [d0, d1, d2, d3, d4] ∧ ps = p0 ++ (p1 ++ (p2 ++ (p3 ++ p4))) ∧ DataW.Trod enc P w base spare held t0 v0 d0 p0 ∧ DataW.Trod enc P w base spare held t1 v1 d1 p1 ∧ DataW.Trod enc P w base spare held t2 v2 d2 p2 ∧
      DataW.Trod enc P w base spare held t3 v3 d3 p3 ∧ DataW.Trod enc P w base spare held t4 v4 d4 p4 := by
  obtain ⟨v0, vs0, d0, ds0, p0, q0, hargs, rfl, rfl, h0, h⟩ := trodAll_cons h
  obtain ⟨v1, vs1, d1, ds1, p1, q1, rfl, rfl, rfl, h1, h⟩ := trodAll_cons h
  obtain ⟨v2, vs2, d2, ds2, p2, q2, rfl, rfl, rfl, h2, h⟩ := trodAll_cons h
  obtain ⟨v3, vs3, d3, ds3, p3, q3, rfl, rfl, rfl, h3, h⟩ := trodAll_cons h
  obtain ⟨v4, vs4, d4, ds4, p4, q4, rfl, rfl, rfl, h4, h⟩ := trodAll_cons h
  obtain ⟨rfl, rfl, rfl⟩ := trodAll_nil h
  exact ⟨v0, v1, v2, v3, v4, d0, d1, d2, d3, d4, p0, p1, p2, p3, p4, by cases args; simp_all, rfl, by simp, h0, h1, h2, h3, h4⟩
theorem law3 {W : World} {s : Sl} {os : List Ca} (hs : Rd W s 12 (cavs os)) (hl : os.length ≤ 1048576) (a b : Int) : CallK Try.prog .bool 3 #[.int .i64 a, .int .i64 b, .slice s.a s.len s.cap] W fun (r : Bool) w' => Upd W w' nobody ∧ r = true := by
  refine T3.calls ?_
  unfold T3
  refine (plays_st hs hl a b 0 2 _ _ false).mono ?_
  rintro v w ⟨rfl, hu⟩
  exact ⟨hu, rfl⟩
theorem law4 {W : World} {s : Sl} {os : List Ca} (hs : Rd W s 12 (cavs os)) (hl : os.length ≤ 1048576) (a b : Int) : CallK Try.prog .bool 4 #[.int .i64 a, .int .i64 b, .slice s.a s.len s.cap] W fun (r : Bool) w' => Upd W w' nobody ∧ r = true := by
  refine T4.calls ?_
  unfold T4
  refine (plays_st hs hl a b 0 2 _ _ false).mono ?_
  rintro v w ⟨rfl, hu⟩
  exact ⟨hu, rfl⟩
theorem law5 {W : World} {s : Sl} {os : List Ca} (hs : Rd W s 12 (cavs os)) (hl : os.length ≤ 1048576) (a b : Int) : CallK Try.prog .bool 5 #[.int .i64 a, .int .i64 b, .slice s.a s.len s.cap] W fun (r : Bool) w' => Upd W w' nobody ∧ r = true := by
  refine T5.calls ?_
  unfold T5
  refine (plays_st hs hl a b 0 2 _ _ false).mono ?_
  rintro v w ⟨rfl, hu⟩
  exact ⟨hu, rfl⟩
theorem law6 {W : World} {s : Sl} {os : List Ca} (hs : Rd W s 12 (cavs os)) (hl : os.length ≤ 1048576) (a b c d : Int) : CallK Try.prog .bool 6 #[.int .i64 a, .int .i64 b, .int .i64 c, .int .i64 d, .slice s.a s.len s.cap] W fun (r : Bool) w' => Upd W w' nobody ∧ r = true := by
  refine T6.calls ?_
  unfold T6
  refine (plays_st hs hl a b c d _ _ false).mono ?_
  rintro v w ⟨rfl, hu⟩
  rw [SplitB_iff]
  refine ⟨fun _ => ?_, fun hf => (by cases hf)⟩
  refine (plays_st (hs.upd hu fun _ _ h => h) hl a b c d _ _ true).mono ?_
  rintro v w2 ⟨rfl, hu2⟩
  exact ⟨hu.trans hu2, rfl⟩
end Go.Proofs.Ytmfbmfppjdkeeaa

/- The world of epochs, in plain words: what always holds. -/
namespace Go.Proofs.Ytmfbmfppjdkeeaa
open Go Go.Fw Go.RowKit
set_option linter.unusedVariables false
set_option linter.unusedSimpArgs false
set_option maxHeartbeats 1000000

structure No where
  m : Mv
  ri : Int
  he : Int
  wait : List Bool
  own : Bool
  y : Ep
  told : Bool
structure Ms where
  kind : Int
  fr : Int
  to : Int
  e : Ep
  ov : Ep
  ri : Int
  he : Int
structure Wo where
  N : List No
  bag : List Ms
  lim : Int
  begun : Int
  ended : Int
  turn : Int
  wrong : Bool
def rsum (l : List No) : Int := (l.map fun x => x.ri + x.he).sum
def bsum (l : List Ms) : Int := (l.map (·.ri)).sum
theorem bsum_app (a b : List Ms) : bsum (a ++ b) = bsum a + bsum b := by simp [bsum]
theorem sum_nonneg : ∀ {l : List Int}, (∀ x ∈ l, 0 ≤ x) → 0 ≤ l.sum
  | [], _ => by simp
  | x :: r, h => by
    have h1 := h x (List.mem_cons_self ..)
    have h2 := sum_nonneg (l := r) fun y hy => h y (List.mem_cons_of_mem _ hy)
    rw [List.sum_cons]; omega
theorem rsum_set {l : List No} {k : Nat} {x x' : No} (h : l[k]? = some x) : rsum (l.set k x') = rsum l - (x.ri + x.he) + (x'.ri + x'.he) := by
  induction l generalizing k with
  | nil => simp at h
  | cons a r ih => cases k with
    | zero =>
      simp at h; subst h
      simp [rsum]; omega
    | succ k =>
      have := ih (k := k) (by simpa using h)
      simp only [rsum, List.set_cons_succ, List.map_cons, List.sum_cons] at this ⊢
      omega
structure NoOk (n i : Nat) (b : Int) (x : No) : Prop where
  wf : x.m.wf
  me : x.m.me = i
  nn : x.m.n = n
  ri : 0 ≤ x.ri
  he : 0 ≤ x.he
  kb : ∀ y ∈ x.m.kn, y ≤ b
  fk : ∀ j, gI x.m.fi j ≤ gI x.m.kn j
  ot : x.m.lv i = true → x.m.top = x.m.own
  ow : x.m.lv i = true → x.own = x.m.needs
  rm : x.m.lv i = true → gI x.m.re i = -1
/-- What f owes to i's epoch of the round r, where it lives: it holds just h, it knows of it, it has none of its own. -/
def Obl (X : Wo) (f i : Nat) (r h : Int) : Prop := ∀ xi xf : No, X.N[i]? = some xi → X.N[f]? = some xf → gI xi.m.kn i = r → gI xi.m.fi i < r → h = xf.he ∧ r ≤ gI xf.m.kn i ∧ xf.m.lv f = false
def EpOk (X : Wo) (e : Ep) : Prop := e.1 ≤ 0 ∨ ∃ (j : Nat) (y : No), e.2 = (j : Int) ∧ X.N[j]? = some y ∧ e.1 ≤ gI y.m.kn j
structure MsOk (X : Wo) (m : Ms) : Prop where
  to : ∃ t : Nat, m.to = (t : Int) ∧ t < X.N.length
  fr : ∃ f : Nat, m.fr = (f : Int) ∧ f < X.N.length
  ri : 0 ≤ m.ri
  e : EpOk X m.e
  ov : EpOk X m.ov
  fin : m.kind = 5 ∨ m.kind = 7 → ∀ (j : Nat) (y : No), m.e.2 = (j : Int) → X.N[j]? = some y → m.e.1 ≤ gI y.m.fi j
  yld : m.kind = 4 → ∀ f j : Nat, m.fr = (f : Int) → m.e.2 = (j : Int) → f ≠ j ∧ Obl X f j m.e.1 m.he
structure Wi (ex : Int) (X : Wo) : Prop where
  n : 2 ≤ X.N.length ∧ X.N.length ≤ 5
  lim : 1 ≤ X.lim ∧ X.lim ≤ 30
  ok : ∀ (i : Nat) (x : No), X.N[i]? = some x → NoOk X.N.length i X.begun x
  kk : ∀ (i : Nat) (x : No) (j : Nat) (y : No), X.N[i]? = some x → X.N[j]? = some y → gI x.m.kn j ≤ gI y.m.kn j
  ff : ∀ (i : Nat) (x : No) (j : Nat) (y : No), X.N[i]? = some x → X.N[j]? = some y → gI x.m.fi j ≤ gI y.m.fi j
  re : ∀ (i : Nat) (xi : No) (f : Nat), X.N[i]? = some xi → f < X.N.length → f ≠ i → xi.m.lv i = true → gI xi.m.re f ≠ -1 → Obl X f i (gI xi.m.kn i) (gI xi.m.re f)
  bag : ∀ m ∈ X.bag, MsOk X m
  sum : rsum X.N + bsum X.bag + ex = X.lim
  ex : 0 ≤ ex
  wrong : X.wrong = false
theorem lv_iff {e : Mv} {i : Nat} : e.lv i = true ↔ gI e.fi i < gI e.kn i := by rw [Mv.lv, decide_eq_true_iff]
theorem lv_no {e : Mv} {i : Nat} : e.lv i = false ↔ gI e.kn i ≤ gI e.fi i := by rw [Mv.lv, decide_eq_false_iff_not]; omega
theorem kn_nonneg {e : Mv} (h : e.wf) (i : Nat) : 0 ≤ gI e.kn i := by
  by_cases hi : i < 16
  · exact (h.kb _ (gI_mem (by rw [h.kl]; exact hi))).1
  · rw [gI, List.getElem?_eq_none (by rw [h.kl]; omega)]; exact Int.le_refl _
theorem fi_nonneg {e : Mv} (h : e.wf) (i : Nat) : 0 ≤ gI e.fi i := by
  by_cases hi : i < 16
  · exact (h.fb _ (gI_mem (by rw [h.fl]; exact hi))).1
  · rw [gI, List.getElem?_eq_none (by rw [h.fl]; omega)]; exact Int.le_refl _
theorem EpOk.le {X : Wo} {e : Ep} (h : EpOk X e) {j : Nat} {y : No} (he : e.2 = (j : Int)) (hy : X.N[j]? = some y) (hw : y.m.wf) : e.1 ≤ gI y.m.kn j := by
  rcases h with h | ⟨j', y', h1, h2, h3⟩
  · have := kn_nonneg hw j; omega
  · have : j' = j := by omega
    subst this
    rw [h2] at hy; cases hy; exact h3
structure Chg (n k : Nat) (x x' : No) : Prop where
  kn : ∀ j, gI x.m.kn j ≤ gI x'.m.kn j
  fi : ∀ j, gI x.m.fi j ≤ gI x'.m.fi j
  debt : x.m.lv k = false → (∃ i, i < n ∧ i ≠ k ∧ x.m.lv i = true) → x'.he = x.he ∧ x'.m.lv k = false
section
variable {ex ex' : Int} {X X' : Wo} {k : Nat} {x x' : No}
theorem get_lt {i : Nat} (h : X.N[i]? = some x) : i < X.N.length := (List.getElem?_eq_some_iff.1 h).1
theorem set_self {l : List No} (h : l[k]? = some x) : (l.set k x')[k]? = some x' := by
  have := (List.getElem?_eq_some_iff.1 h).1
  simp [this]
theorem set_ne {l : List No} {i : Nat} (h : i ≠ k) : (l.set k x')[i]? = l[i]? := List.getElem?_set_ne (Ne.symm h)
theorem Obl.step (hI : Wi ex X) (hx : X.N[k]? = some x) (c : Chg X.N.length k x x') (hN : X'.N = X.N.set k x') {f i : Nat} {r h : Int} (hfi : f ≠ i) (ho : Obl X f i r h) (hr : ∀ y, X.N[i]? = some y → r ≤ gI y.m.kn i) : Obl X' f i r h := by
  intro xi' xf' hi' hf' hkn hfin
  rw [hN] at hi' hf'
  by_cases hik : i = k
  · subst hik
    rw [set_self hx] at hi'; cases hi'
    rw [set_ne hfi] at hf'
    have h1 := hr x hx
    have h2 := c.kn i
    have h3 := c.fi i
    exact ho x xf' hx hf' (by omega) (by omega)
  · rw [set_ne hik] at hi'
    by_cases hfk : f = k
    · subst hfk
      rw [set_self hx] at hf'; cases hf'
      obtain ⟨h1, h2, h3⟩ := ho xi' x hi' hx hkn hfin
      have hlt := get_lt hi'
      have h4 := hI.kk f x i xi' hx hi'
      have h5 := hI.ff f x i xi' hx hi'
      obtain ⟨h6, h7⟩ := c.debt h3 ⟨i, hlt, hik, lv_iff.2 (by omega)⟩
      have h8 := c.kn i
      exact ⟨by rw [h1, h6], by omega, h7⟩
    · rw [set_ne hfk] at hf'
      exact ho xi' xf' hi' hf' hkn hfin
theorem EpOk.step (hx : X.N[k]? = some x) (c : Chg X.N.length k x x') (hN : X'.N = X.N.set k x') {e : Ep} (h : EpOk X e) : EpOk X' e := by
  rcases h with h | ⟨j, y, h1, h2, h3⟩
  · exact .inl h
  · right
    by_cases hj : j = k
    · subst hj
      rw [hx] at h2; cases h2
      exact ⟨j, x', h1, by rw [hN]; exact set_self hx, Int.le_trans h3 (c.kn j)⟩
    · exact ⟨j, y, h1, by rw [hN, set_ne hj]; exact h2, h3⟩
theorem MsOk.step (hI : Wi ex X) (hx : X.N[k]? = some x) (c : Chg X.N.length k x x') (hN : X'.N = X.N.set k x') {m : Ms} (h : MsOk X m) : MsOk X' m := by
  have hl : X'.N.length = X.N.length := by rw [hN, List.length_set]
  refine ⟨by rw [hl]; exact h.to, by rw [hl]; exact h.fr, h.ri, h.e.step hx c hN, h.ov.step hx c hN, fun hk j y hj hy => ?_, fun hk f j hf hj => ?_⟩
  · rw [hN] at hy
    by_cases hjk : j = k
    · subst hjk
      rw [set_self hx] at hy; cases hy
      exact Int.le_trans (h.fin hk j x hj hx) (c.fi j)
    · rw [set_ne hjk] at hy
      exact h.fin hk j y hj hy
  · obtain ⟨h1, h2⟩ := h.yld hk f j hf hj
    exact ⟨h1, h2.step hI hx c hN h1 fun y hy => h.e.le hj hy (hI.ok j y hy).wf⟩
theorem Wi.set (hI : Wi ex X) (hx : X.N[k]? = some x) (c : Chg X.N.length k x x') (hN : X'.N = X.N.set k x') (hbag : X'.bag = X.bag) (hlim : X'.lim = X.lim) (hb : X.begun ≤ X'.begun) (hw : X'.wrong = false)
    (ok' : NoOk X.N.length k X'.begun x') (kk' : ∀ j y, X.N[j]? = some y → j ≠ k → gI x'.m.kn j ≤ gI y.m.kn j) (ff' : ∀ j y, X.N[j]? = some y → j ≠ k → gI x'.m.fi j ≤ gI y.m.fi j)
    (re' : x'.m.lv k = true → ∀ f, f < X.N.length → f ≠ k → gI x'.m.re f ≠ -1 → Obl X f k (gI x'.m.kn k) (gI x'.m.re f) ∧ gI x'.m.kn k = gI x.m.kn k)
    (sum' : (x'.ri + x'.he) + ex' = x.ri + x.he + ex) (hex : 0 ≤ ex') : Wi ex' X' := by
  have hl : X'.N.length = X.N.length := by rw [hN, List.length_set]
  have hget : ∀ i y, X'.N[i]? = some y → (i = k ∧ y = x') ∨ (i ≠ k ∧ X.N[i]? = some y) := fun i y hy => by
    rw [hN] at hy
    by_cases hik : i = k
    · subst hik; rw [set_self hx] at hy; cases hy; exact .inl ⟨rfl, rfl⟩
    · rw [set_ne hik] at hy; exact .inr ⟨hik, hy⟩
  refine ⟨by rw [hl]; exact hI.n, by rw [hlim]; exact hI.lim, fun i y hy => ?_, fun i y j z hy hz => ?_, fun i y j z hy hz => ?_, fun i y f hy hf hfi hlv hre => ?_, fun m hm => ?_, ?_, hex, hw⟩
  · rw [hl]
    rcases hget i y hy with ⟨rfl, rfl⟩ | ⟨_, hy⟩
    · exact ok'
    · have h := hI.ok i y hy
      exact ⟨h.wf, h.me, h.nn, h.ri, h.he, fun z hz => Int.le_trans (h.kb z hz) hb, h.fk, h.ot, h.ow, h.rm⟩
  · rcases hget i y hy with ⟨rfl, rfl⟩ | ⟨hik, hy⟩
    · rcases hget j z hz with ⟨rfl, rfl⟩ | ⟨hjk, hz⟩
      · exact Int.le_refl _
      · exact kk' j z hz hjk
    · rcases hget j z hz with ⟨rfl, rfl⟩ | ⟨hjk, hz⟩
      · exact Int.le_trans (hI.kk i y j x hy hx) (c.kn j)
      · exact hI.kk i y j z hy hz
  · rcases hget i y hy with ⟨rfl, rfl⟩ | ⟨hik, hy⟩
    · rcases hget j z hz with ⟨rfl, rfl⟩ | ⟨hjk, hz⟩
      · exact Int.le_refl _
      · exact ff' j z hz hjk
    · rcases hget j z hz with ⟨rfl, rfl⟩ | ⟨hjk, hz⟩
      · exact Int.le_trans (hI.ff i y j x hy hx) (c.fi j)
      · exact hI.ff i y j z hy hz
  · rw [hl] at hf
    rcases hget i y hy with ⟨rfl, rfl⟩ | ⟨hik, hy⟩
    · obtain ⟨h1, h2⟩ := re' hlv f hf hfi hre
      exact h1.step hI hx c hN hfi fun z hz => by rw [hx] at hz; cases hz; omega
    · exact (hI.re i y f hy hf hfi hlv hre).step hI hx c hN hfi fun z hz => by rw [hy] at hz; cases hz; exact Int.le_refl _
  · rw [hbag] at hm
    exact (hI.bag m hm).step hI hx c hN
  · rw [hN, rsum_set hx, hbag, hlim]
    have := hI.sum; omega
theorem Obl.same (hN : X'.N = X.N) {f i : Nat} {r h : Int} (ho : Obl X f i r h) : Obl X' f i r h := by
  intro xi xf hi hf; rw [hN] at hi hf; exact ho xi xf hi hf
theorem MsOk.same (hN : X'.N = X.N) {m : Ms} (h : MsOk X m) : MsOk X' m := by
  have hE : ∀ {e}, EpOk X e → EpOk X' e := fun h => by
    rcases h with h | ⟨j, y, h1, h2, h3⟩
    · exact .inl h
    · exact .inr ⟨j, y, h1, by rw [hN]; exact h2, h3⟩
  exact ⟨by rw [hN]; exact h.to, by rw [hN]; exact h.fr, h.ri, hE h.e, hE h.ov, by rw [hN]; exact h.fin, fun hk f j hf hj => ⟨(h.yld hk f j hf hj).1, (h.yld hk f j hf hj).2.same hN⟩⟩
/-- Other messages, other counts. -/
theorem Wi.bags (hI : Wi ex X) (hN : X'.N = X.N) (hlim : X'.lim = X.lim) (hb : X'.begun = X.begun) (hw : X'.wrong = false) (hbag : ∀ m ∈ X'.bag, MsOk X m) (hs : bsum X'.bag + ex' = bsum X.bag + ex) (hex : 0 ≤ ex') : Wi ex' X' := by
  refine ⟨by rw [hN]; exact hI.n, by rw [hlim]; exact hI.lim, by rw [hN, hb]; exact hI.ok, by rw [hN]; exact hI.kk, by rw [hN]; exact hI.ff, fun i y f hy hf hfi hlv hre => ?_, fun m hm => (hbag m hm).same hN, ?_, hex, hw⟩
  · rw [hN] at hy hf
    exact (hI.re i y f hy hf hfi hlv hre).same hN
  · rw [hN, hlim]
    have := hI.sum; omega
end
end Go.Proofs.Ytmfbmfppjdkeeaa

/- The world of epochs, in plain words: what a machine hears. -/
namespace Go.Proofs.Ytmfbmfppjdkeeaa
open Go Go.Fw Go.RowKit
set_option linter.unusedVariables false
set_option linter.unusedSimpArgs false
set_option maxHeartbeats 1000000

/-- What a machine has heard of others, from a to b. -/
structure Up (X : Wo) (k : Nat) (a b : Mv) : Prop where
  wf : b.wf
  me : b.me = a.me
  n : b.n = a.n
  needs : b.needs = a.needs
  re : b.re = a.re
  kn : ∀ j, gI a.kn j ≤ gI b.kn j
  fi : ∀ j, gI a.fi j ≤ gI b.fi j
  kk : gI b.kn k = gI a.kn k
  fk : gI b.fi k = gI a.fi k
  ko : ∀ (j : Nat) (y : No), X.N[j]? = some y → j ≠ k → gI b.kn j ≤ gI y.m.kn j
  fo : ∀ (j : Nat) (y : No), X.N[j]? = some y → j ≠ k → gI b.fi j ≤ gI y.m.fi j
  le : ∀ j, gI b.fi j ≤ gI b.kn j
  kb : ∀ y ∈ b.kn, y ≤ X.begun
section
variable {ex ex' : Int} {X X' : Wo} {k : Nat} {x x' : No} {a b : Mv}
theorem Up.refl (hI : Wi ex X) (hx : X.N[k]? = some x) : Up X k x.m x.m :=
  have h := hI.ok k x hx
  ⟨h.wf, rfl, rfl, rfl, rfl, fun _ => Int.le_refl _, fun _ => Int.le_refl _, rfl, rfl, fun j y hy _ => hI.kk k x j y hx hy, fun j y hy _ => hI.ff k x j y hx hy, h.fk, h.kb⟩
theorem Up.lv (h : Up X k a b) : b.lv k = a.lv k := by rw [Mv.lv, Mv.lv, h.kk, h.fk]
theorem Up.told (hI : Wi ex X) (hx : X.N[k]? = some x) (h : Up X k x.m b) {e : Ep} (he : EpOk X e) {fin : Bool} (hf : fin = true → ∀ (j : Nat) (y : No), e.2 = (j : Int) → X.N[j]? = some y → e.1 ≤ gI y.m.fi j) : Up X k x.m (b.told e fin) := by
  have hok := hI.ok k x hx
  have hwf := wf_told h.wf e fin
  unfold Mv.told at hwf ⊢
  by_cases hfo : b.foreign e
  · rw [if_pos hfo] at hwf ⊢
    simp only [Mv.foreign, not_or] at hfo
    obtain ⟨f1, f2, f3, f4, f5⟩ := hfo
    have hbn : b.n = X.N.length := by rw [h.n, hok.nn]
    have hbm : b.me = k := by rw [h.me, hok.me]
    obtain ⟨j, hj⟩ := Int.eq_ofNat_of_zero_le (show 0 ≤ e.2 by omega)
    have hjt : e.2.toNat = j := by omega
    have hjn : j < X.N.length := by omega
    have hjk : j ≠ k := by omega
    have h16 := h.wf.n
    have hy : X.N[j]? = some X.N[j] := List.getElem?_eq_getElem hjn
    have hokj := hI.ok j _ hy
    have hle := he.le hj hy hokj.wf
    have hk : ∀ i, gI (b.kn.set j (max (gI b.kn j) e.1)) i = if i = j then max (gI b.kn j) e.1 else gI b.kn i := fun i => gI_set (by rw [h.wf.kl]; omega)
    have hfi : ∀ i, gI (if fin = true then b.fi.set j (max (gI b.fi j) e.1) else b.fi) i = if fin = true ∧ i = j then max (gI b.fi j) e.1 else gI b.fi i := fun i => by
      cases fin with
      | true => rw [if_pos rfl, gI_set (by rw [h.wf.fl]; omega)]; simp
      | false => rw [if_neg (by decide)]; simp
    rw [hjt] at hwf ⊢
    refine ⟨hwf, h.me, h.n, h.needs, h.re, fun i => ?_, fun i => ?_, ?_, ?_, fun i y hi hik => ?_, fun i y hi hik => ?_, fun i => ?_, fun z hz => ?_⟩
    · show _ ≤ gI (b.kn.set j (max (gI b.kn j) e.1)) i
      rw [hk]
      have := h.kn i
      split
      · rename_i hij; subst hij; omega
      · exact this
    · show _ ≤ gI (if fin = true then b.fi.set j (max (gI b.fi j) e.1) else b.fi) i
      rw [hfi]
      have := h.fi i
      split
      · rename_i hij; obtain ⟨_, rfl⟩ := hij; omega
      · exact this
    · show gI (b.kn.set j (max (gI b.kn j) e.1)) k = _
      rw [hk, if_neg (Ne.symm hjk)]; exact h.kk
    · show gI (if fin = true then b.fi.set j (max (gI b.fi j) e.1) else b.fi) k = _
      rw [hfi, if_neg (fun hh => hjk hh.2.symm)]; exact h.fk
    · show gI (b.kn.set j (max (gI b.kn j) e.1)) i ≤ _
      rw [hk]
      have h1 := h.ko i y hi hik
      split
      · rename_i hij; subst hij
        rw [hy] at hi; cases hi; omega
      · exact h1
    · show gI (if fin = true then b.fi.set j (max (gI b.fi j) e.1) else b.fi) i ≤ _
      rw [hfi]
      have h1 := h.fo i y hi hik
      split
      · rename_i hij
        obtain ⟨hft, rfl⟩ := hij
        rw [hy] at hi; cases hi
        have := hf hft i _ hj hy
        omega
      · exact h1
    · show gI (if fin = true then b.fi.set j (max (gI b.fi j) e.1) else b.fi) i ≤ gI (b.kn.set j (max (gI b.kn j) e.1)) i
      rw [hfi, hk]
      have h1 := h.le i
      by_cases hij : i = j
      · subst hij
        rw [if_pos rfl]
        split <;> omega
      · rw [if_neg (fun hh => hij hh.2), if_neg hij]; exact h1
    · rcases List.mem_or_eq_of_mem_set hz with hz | rfl
      · exact h.kb z hz
      · have h1 := h.kb _ (gI_mem (l := b.kn) (i := j) (by rw [h.wf.kl]; omega))
        have h2 := hokj.kb _ (gI_mem (l := X.N[j].m.kn) (i := j) (by rw [hokj.wf.kl]; omega))
        omega
  · rw [if_neg hfo]; exact h
/-- A machine that has heard turns: that is how it stands then. -/
theorem Up.turn (hI : Wi ex X) (hx : X.N[k]? = some x) (h : Up X k x.m b) (was : Ep) (hN : X'.N = X.N.set k { x with m := (b.turn was).2 }) (hbag : X'.bag = X.bag) (hlim : X'.lim = X.lim) (hb : X'.begun = X.begun) (hw : X'.wrong = false) : Wi ex X' := by
  have hok := hI.ok k x hx
  have hbm : b.me = k := by rw [h.me, hok.me]
  have hlt := get_lt hx
  have h16 := h.wf.n
  have hbn : b.n = X.N.length := by rw [h.n, hok.nn]
  have hwf := wf_turn h.wf was
  have hown := own_live h.wf
  rw [hbm] at hown
  by_cases ht : b.turns
  · have e2 : (b.turn was).2 = { b with fi := b.fi.set b.me b.own.1 } := by rw [Mv.turn, if_pos ht]
    rw [e2] at hN hwf
    have hlv : b.lv k = true := by
      rcases hown with ⟨h1, _⟩ | ⟨_, h1, h2⟩
      · exact h1
      · have := ht.1; rw [h2] at this; cases this
    have ho1 : b.own.1 = gI b.kn k := by
      rcases hown with ⟨_, h1, _⟩ | ⟨h1, _⟩
      · rw [h1]
      · rw [hlv] at h1; cases h1
    have hfi : ∀ i, gI (b.fi.set k (gI b.kn k)) i = if i = k then gI b.kn k else gI b.fi i := fun i => gI_set (by rw [h.wf.fl]; omega)
    have e3 : ({ b with fi := b.fi.set b.me b.own.1 } : Mv) = { b with fi := b.fi.set k (gI b.kn k) } := by rw [hbm, ho1]
    rw [e3] at hN hwf
    have hno : (({ b with fi := b.fi.set k (gI b.kn k) } : Mv).lv k) = false := lv_no.2 (by show gI b.kn k ≤ gI (b.fi.set k (gI b.kn k)) k; rw [hfi, if_pos rfl]; exact Int.le_refl _)
    refine hI.set (x' := { x with m := { b with fi := b.fi.set k (gI b.kn k) } }) hx ⟨h.kn, fun j => ?_, fun hl _ => ⟨rfl, hno⟩⟩ hN hbag hlim (by rw [hb]; exact Int.le_refl _) hw ⟨hwf, hbm, hbn, hok.ri, hok.he, by rw [hb]; exact h.kb, fun j => ?_, fun hl => ?_, fun hl => ?_, fun hl => ?_⟩ h.ko (fun j y hy hj => ?_) (fun hl => ?_) rfl hI.ex
    · show _ ≤ gI (b.fi.set k (gI b.kn k)) j
      rw [hfi]
      have h1 := h.fi j
      have h2 := h.le j
      split
      · rename_i hjk; subst hjk; omega
      · exact h1
    · show gI (b.fi.set k (gI b.kn k)) j ≤ gI b.kn j
      rw [hfi]
      split
      · rename_i hjk; subst hjk; exact Int.le_refl _
      · exact h.le j
    · rw [hno] at hl; cases hl
    · rw [hno] at hl; cases hl
    · rw [hno] at hl; cases hl
    · show gI (b.fi.set k (gI b.kn k)) j ≤ _
      rw [hfi, if_neg hj]; exact h.fo j y hy hj
    · rw [hno] at hl; cases hl
  · have e2 : (b.turn was).2 = b := by rw [Mv.turn, if_neg ht]
    rw [e2] at hN hwf
    refine hI.set (x' := { x with m := b }) hx ⟨h.kn, h.fi, fun hl _ => ⟨rfl, by rw [h.lv]; exact hl⟩⟩ hN hbag hlim (by rw [hb]; exact Int.le_refl _) hw ⟨hwf, hbm, hbn, hok.ri, hok.he, by rw [hb]; exact h.kb, h.le, fun hl => ?_, fun hl => ?_, fun hl => ?_⟩ h.ko h.fo (fun hl f hf hfk hre => ?_) rfl hI.ex
    · have hl : b.lv k = true := hl
      rcases hown with ⟨_, _, _, h1⟩ | ⟨h1, _⟩
      · rcases Classical.em (b.top = b.own) with h2 | h2
        · exact h2
        · exact absurd ⟨h1, h2⟩ ht
      · rw [hl] at h1; cases h1
    · have hl : b.lv k = true := hl
      rw [h.lv] at hl
      rw [h.needs]; exact hok.ow hl
    · have hl : b.lv k = true := hl
      rw [h.lv] at hl
      rw [h.re]; exact hok.rm hl
    · have hl : b.lv k = true := hl
      rw [h.lv] at hl
      have hre : gI b.re f ≠ -1 := hre
      show Obl X f k (gI b.kn k) (gI b.re f) ∧ gI b.kn k = _
      rw [h.re] at hre ⊢
      rw [h.kk]
      exact ⟨hI.re k x f hx hf hfk hl hre, rfl⟩
/-- A report comes. -/
theorem Wi.report (hI : Wi ex X) (hx : X.N[k]? = some x) {m : Ms} (hm : MsOk X m) (h4 : m.kind = 4) (hN : X'.N = X.N.set k { x with m := x.m.report m.fr m.e m.he }) (hbag : X'.bag = X.bag) (hlim : X'.lim = X.lim) (hb : X'.begun = X.begun) (hw : X'.wrong = false) : Wi ex X' := by
  have hok := hI.ok k x hx
  have hwf := wf_report hok.wf m.fr m.e m.he
  have h16 := hok.wf.n
  unfold Mv.report at hwf hN
  by_cases hf : x.m.fitsR m.fr m.e m.he
  · rw [if_pos hf] at hwf hN
    obtain ⟨f1, f2, f3, f4, f5, f6⟩ := hf
    obtain ⟨f, hfr, hfn⟩ := hm.fr
    have hfk : f ≠ k := by rw [hok.me] at f3; omega
    have hft : m.fr.toNat = f := by omega
    rw [hft] at hN hwf
    have hre : ∀ i, gI (x.m.re.set f m.he) i = if i = f then m.he else gI x.m.re i := fun i => gI_set (by rw [hok.wf.rl]; omega)
    have hown := own_live hok.wf
    rw [hok.me] at hown
    have he2 : x.m.lv k = true ∧ m.e = (gI x.m.kn k, (k : Int)) := by
      rcases hown with ⟨h1, h2, _⟩ | ⟨_, h1, h2⟩
      · exact ⟨h1, by rw [f5, h2]⟩
      · rw [f5, h2] at f4; cases f4
    have hy := hm.yld h4 f k hfr (by rw [he2.2])
    refine hI.set (x' := { x with m := { x.m with re := x.m.re.set f m.he } }) hx ⟨fun _ => Int.le_refl _, fun _ => Int.le_refl _, fun hl _ => ⟨rfl, hl⟩⟩ hN hbag hlim (by rw [hb]; exact Int.le_refl _) hw ⟨hwf, hok.me, hok.nn, hok.ri, hok.he, by rw [hb]; exact hok.kb, hok.fk, hok.ot, hok.ow, fun hl => ?_⟩ (fun j y hy' hj => hI.kk k x j y hx hy') (fun j y hy' hj => hI.ff k x j y hx hy') (fun hl i hi hik hr => ?_) rfl hI.ex
    · show gI (x.m.re.set f m.he) k = -1
      rw [hre, if_neg (Ne.symm hfk)]; exact hok.rm hl
    · have hr : gI (x.m.re.set f m.he) i ≠ -1 := hr
      show Obl X i k (gI x.m.kn k) (gI (x.m.re.set f m.he) i) ∧ _
      rw [hre] at hr ⊢
      refine ⟨?_, rfl⟩
      split
      · rename_i hif; subst hif
        have := hy.2
        rw [he2.2] at this; exact this
      · rename_i hif
        rw [if_neg hif] at hr
        exact hI.re k x i hx hi hik hl hr
  · rw [if_neg hf] at hN
    refine hI.set (x' := x) hx ⟨fun _ => Int.le_refl _, fun _ => Int.le_refl _, fun hl _ => ⟨rfl, hl⟩⟩ hN hbag hlim (by rw [hb]; exact Int.le_refl _) hw (by rw [hb]; exact hok) (fun j y hy' hj => hI.kk k x j y hx hy') (fun j y hy' hj => hI.ff k x j y hx hy') (fun hl i hi hik hr => ⟨hI.re k x i hx hi hik hl hr, rfl⟩) rfl hI.ex
/-- A node's other things change. -/
theorem Wi.plain (hI : Wi ex X) (hx : X.N[k]? = some x) (hm : x'.m = x.m) (hri : 0 ≤ x'.ri) (hhe : 0 ≤ x'.he) (how : x.m.lv k = true → x'.own = x.own) (hd : x.m.lv k = false → (∃ i, i < X.N.length ∧ i ≠ k ∧ x.m.lv i = true) → x'.he = x.he)
    (hN : X'.N = X.N.set k x') (hbag : X'.bag = X.bag) (hlim : X'.lim = X.lim) (hb : X'.begun = X.begun) (hw : X'.wrong = false) (hs : (x'.ri + x'.he) + ex' = x.ri + x.he + ex) (hex : 0 ≤ ex') : Wi ex' X' := by
  have hok := hI.ok k x hx
  refine hI.set hx ⟨fun j => by rw [hm]; exact Int.le_refl _, fun j => by rw [hm]; exact Int.le_refl _, fun hl hh => ⟨hd hl hh, by rw [hm]; exact hl⟩⟩ hN hbag hlim (by rw [hb]; exact Int.le_refl _) hw
    ⟨by rw [hm]; exact hok.wf, by rw [hm]; exact hok.me, by rw [hm]; exact hok.nn, hri, hhe, by rw [hm, hb]; exact hok.kb, by rw [hm]; exact hok.fk, by rw [hm]; exact hok.ot, fun hl => by rw [hm] at hl ⊢; rw [how hl]; exact hok.ow hl, by rw [hm]; exact hok.rm⟩
    (fun j y hy' hj => by rw [hm]; exact hI.kk k x j y hx hy') (fun j y hy' hj => by rw [hm]; exact hI.ff k x j y hx hy') (fun hl i hi hik hr => by rw [hm] at hl hr ⊢; exact ⟨hI.re k x i hx hi hik hl hr, rfl⟩) hs hex
/-- The own epoch ends. -/
theorem finish_lv {e : Mv} (h : e.wf) (hl : e.lv e.me = true) : e.finish.2 = { e with fi := e.fi.set e.me (gI e.kn e.me) } := by
  have hown := own_live h
  rcases hown with ⟨_, h1, _, h2⟩ | ⟨h1, _⟩
  · have e1 : e.own.1 = gI e.kn e.me := by rw [h1]
    have hno : someE (({ e with fi := e.fi.set e.me (gI e.kn e.me) } : Mv).own) = false := by
      have h16 := h.n
      have hm := h.me
      have hl0 : (({ e with fi := e.fi.set e.me (gI e.kn e.me) } : Mv).lv e.me) = false := lv_no.2 (by
        show gI e.kn e.me ≤ gI (e.fi.set e.me (gI e.kn e.me)) e.me
        rw [gI_set (by rw [h.fl]; omega), if_pos rfl]; exact Int.le_refl _)
      rw [Mv.own, Mv.ep]
      show someE (if _ then _ else _) = false
      rw [if_neg (by rw [hl0]; decide)]; rfl
    rw [Mv.finish, if_pos h2, e1, Mv.turn, if_neg]
    rintro ⟨h3, _⟩
    rw [hno] at h3; cases h3
  · rw [hl] at h1; cases h1
theorem Wi.fin1 (hI : Wi ex X) (hx : X.N[k]? = some x) (hl : x.m.lv k = true) (hm : x'.m = x.m.finish.2) (hri : 0 ≤ x'.ri) (hhe : x'.he = x.he)
    (hN : X'.N = X.N.set k x') (hbag : X'.bag = X.bag) (hlim : X'.lim = X.lim) (hb : X'.begun = X.begun) (hw : X'.wrong = false) (hs : (x'.ri + x'.he) + ex' = x.ri + x.he + ex) (hex : 0 ≤ ex') : Wi ex' X' := by
  have hok := hI.ok k x hx
  have h16 := hok.wf.n
  have hlt := get_lt hx
  have hnn := hok.nn
  have hwf := wf_finish hok.wf
  rw [← hm] at hwf
  rw [finish_lv hok.wf (by rw [hok.me]; exact hl), hok.me] at hm
  have hfi : ∀ i, gI x'.m.fi i = if i = k then gI x.m.kn k else gI x.m.fi i := fun i => by rw [hm]; exact gI_set (by rw [hok.wf.fl]; omega)
  have hkn : x'.m.kn = x.m.kn := by rw [hm]
  have hno : x'.m.lv k = false := lv_no.2 (by rw [hfi, if_pos rfl, hkn]; exact Int.le_refl _)
  refine hI.set hx ⟨fun j => by rw [hkn]; exact Int.le_refl _, fun j => ?_, fun hl0 _ => by rw [hl] at hl0; cases hl0⟩ hN hbag hlim (by rw [hb]; exact Int.le_refl _) hw
    ⟨hwf, by rw [hm], by rw [hm]; exact hok.nn, hri, by rw [hhe]; exact hok.he, by rw [hkn, hb]; exact hok.kb, fun j => ?_, fun hl => ?_, fun hl => ?_, fun hl => ?_⟩
    (fun j y hy' hj => by rw [hkn]; exact hI.kk k x j y hx hy') (fun j y hy' hj => ?_) (fun hl => ?_) hs hex
  · rw [hfi]
    split
    · rename_i hjk; subst hjk; exact hok.fk j
    · exact Int.le_refl _
  · rw [hfi, hkn]
    split
    · rename_i hjk; subst hjk; exact Int.le_refl _
    · exact hok.fk j
  · rw [hno] at hl; cases hl
  · rw [hno] at hl; cases hl
  · rw [hno] at hl; cases hl
  · rw [hfi, if_neg hj]; exact hI.ff k x j y hx hy'
  · rw [hno] at hl; cases hl
theorem top16_le {l : List Int} {b : Int} (h : ∀ y ∈ l, y ≤ b) (hb : 0 ≤ b) : top16 l ≤ b := by
  have : ∀ (l : List Int) (a : Int), a ≤ b → (∀ y ∈ l, y ≤ b) → l.foldl max a ≤ b := by
    intro l
    induction l with
    | nil => intro a ha _; exact ha
    | cons y r ih =>
      intro a ha h
      rw [List.foldl_cons]
      exact ih _ (by have := h y (List.mem_cons_self ..); omega) fun z hz => h z (List.mem_cons_of_mem _ hz)
  exact this l 0 hb h
theorem le_top16 {l : List Int} {y : Int} (h : y ∈ l) : y ≤ top16 l := by
  have : ∀ (l : List Int) (a : Int), a ≤ l.foldl max a ∧ ∀ y ∈ l, y ≤ l.foldl max a := by
    intro l
    induction l with
    | nil => intro a; exact ⟨Int.le_refl _, fun y hy => by cases hy⟩
    | cons z r ih =>
      intro a
      rw [List.foldl_cons]
      obtain ⟨h1, h2⟩ := ih (max a z)
      refine ⟨by omega, fun y hy => ?_⟩
      rcases List.mem_cons.1 hy with rfl | hy
      · omega
      · exact h2 y hy
  exact (this l 0).2 y h
theorem not_frozen {e : Mv} (h : e.wf) (hf : someE e.top = false) {i : Nat} (hi : i < e.n) : e.lv i = false := by
  cases hl : e.lv i with
  | false => rfl
  | true =>
    exfalso
    have hm := mem_lives.2 ⟨i, hi, hl, rfl⟩
    rcases top_some h with ⟨h1, _⟩ | ⟨_, _, _, h1⟩
    · rw [h1] at hm; cases hm
    · rw [hf] at h1; cases h1
/-- An epoch begins. -/
theorem Wi.fresh (hI : Wi ex X) (hx : X.N[k]? = some x) (hf : someE x.m.top = false) (hbeg : X.begun < 1099511627776) (all : Bool) (hm : x'.m = x.m.fresh all) (how : x'.own = all) (hri : x'.ri = x.ri) (hhe : x'.he = x.he)
    (hN : X'.N = X.N.set k x') (hbag : X'.bag = X.bag) (hlim : X'.lim = X.lim) (hb : X'.begun = X.begun + 1) (hw : X'.wrong = false) : Wi ex X' := by
  have hok := hI.ok k x hx
  have h16 := hok.wf.n
  have hlt := get_lt hx
  have hnn := hok.nn
  have hb0 : 0 ≤ X.begun := by
    have := hok.kb _ (gI_mem (l := x.m.kn) (i := 0) (by rw [hok.wf.kl]; omega))
    have := kn_nonneg hok.wf 0
    omega
  have ht := top16_le hok.kb hb0
  have hwf := wf_fresh hok.wf (by omega) all
  rw [← hm] at hwf
  have hkn : ∀ i, gI x'.m.kn i = if i = k then top16 x.m.kn + 1 else gI x.m.kn i := fun i => by
    rw [hm]; show gI (x.m.kn.set x.m.me (top16 x.m.kn + 1)) i = _
    rw [hok.me]; exact gI_set (by rw [hok.wf.kl]; omega)
  have hfi : x'.m.fi = x.m.fi := by rw [hm]; rfl
  have htk : ∀ i, i < 16 → gI x.m.kn i ≤ top16 x.m.kn := fun i hi => le_top16 (gI_mem (by rw [hok.wf.kl]; exact hi))
  have hno : ∀ i, i < X.N.length → x.m.lv i = false := fun i hi => not_frozen hok.wf hf (by omega)
  have hre : ∀ i, i < 16 → gI x'.m.re i = -1 := fun i hi => by
    rw [hm]; show gI (List.replicate 16 (-1)) i = -1
    rw [gI, List.getElem?_replicate, if_pos hi]; rfl
  have hl' : ∀ i, i < X.N.length → (x'.m.lv i = true ↔ i = k) := fun i hi => by
    rw [lv_iff, hkn, hfi]
    have h1 := lv_no.1 (hno i hi)
    split
    · rename_i hik; subst hik
      have h2 := hok.fk i
      have h3 := htk i (by omega)
      exact ⟨fun _ => rfl, fun _ => by omega⟩
    · rename_i hik
      exact ⟨fun h => by omega, fun h => absurd h hik⟩
  refine hI.set hx ⟨fun j => ?_, fun j => by rw [hfi]; exact Int.le_refl _, fun hl0 ⟨i, hi, hik, hli⟩ => by rw [hno i hi] at hli; cases hli⟩ hN hbag hlim (by rw [hb]; omega) hw
    ⟨hwf, by rw [hm]; exact hok.me, by rw [hm]; exact hok.nn, by rw [hri]; exact hok.ri, by rw [hhe]; exact hok.he, fun y hy => ?_, fun j => ?_, fun _ => ?_, fun _ => by rw [how, hm]; rfl, fun _ => hre k (by omega)⟩
    (fun j y hy' hj => by rw [hkn, if_neg hj]; exact hI.kk k x j y hx hy') (fun j y hy' hj => by rw [hfi]; exact hI.ff k x j y hx hy') (fun _ f hf2 _ hr => absurd (hre f (by omega)) hr) (by rw [hri, hhe]) hI.ex
  · rw [hkn]
    split
    · rename_i hjk; subst hjk
      have := htk j (by omega); omega
    · exact Int.le_refl _
  · rw [hm] at hy
    rcases List.mem_or_eq_of_mem_set hy with hy | rfl
    · have := hok.kb y hy; omega
    · omega
  · rw [hkn, hfi]
    have := hok.fk j
    split
    · rename_i hjk; subst hjk
      have := htk j (by omega); omega
    · exact this
  · have hme : x'.m.me = k := by rw [hm]; exact hok.me
    have hn' : x'.m.n = X.N.length := by rw [hm]; exact hok.nn
    have hownl := own_live hwf
    rw [hme] at hownl
    have hlk := (hl' k hlt).2 rfl
    rcases hownl with ⟨_, h1, h2, h3⟩ | ⟨h1, _⟩
    · rcases top_some hwf with ⟨h4, _⟩ | ⟨_, h4, _, _⟩
      · have := own_mem hwf h3; rw [h4] at this; cases this
      · obtain ⟨i, hi, hli, he⟩ := mem_lives.1 h4
        have : i = k := (hl' i (by omega)).1 hli
        subst this
        rw [he, h1]
    · rw [hlk] at h1; cases h1
end
end Go.Proofs.Ytmfbmfppjdkeeaa

/- The world of epochs, in plain words: who decides has all; what is sent. -/
namespace Go.Proofs.Ytmfbmfppjdkeeaa
open Go Go.Fw Go.RowKit
set_option linter.unusedVariables false
set_option linter.unusedSimpArgs false
set_option maxHeartbeats 1000000

def Sm (f : Nat → Int) (n : Nat) : Int := ((List.range n).map f).sum
theorem Sm_succ (f : Nat → Int) (n : Nat) : Sm f (n + 1) = Sm f n + f n := by simp [Sm, List.range_succ]
theorem Sm_le {f g : Nat → Int} : ∀ {n : Nat}, (∀ j, j < n → f j ≤ g j) → Sm f n ≤ Sm g n
  | 0, _ => Int.le_refl _
  | n + 1, h => by
    have h1 := Sm_le (n := n) fun j hj => h j (by omega)
    have h2 := h n (by omega)
    rw [Sm_succ, Sm_succ]; omega
theorem Sm_eq {f g : Nat → Int} : ∀ {n : Nat}, (∀ j, j < n → f j ≤ g j) → Sm f n = Sm g n → ∀ j, j < n → f j = g j
  | 0, _, _, j, hj => absurd hj (Nat.not_lt_zero _)
  | n + 1, h, he, j, hj => by
    have h1 := Sm_le (n := n) fun j hj => h j (by omega)
    have h2 := h n (by omega)
    rw [Sm_succ, Sm_succ] at he
    rcases Nat.lt_or_ge j n with hlt | hge
    · exact Sm_eq (n := n) (fun j hj => h j (by omega)) (by omega) j hlt
    · have : j = n := by omega
      subst this; omega
theorem Sm_one {r : Nat → Int} {k : Nat} {c : Int} (hr : r k = 0) : ∀ {n : Nat}, k < n → Sm (fun j => if j = k then c else r j) n = c + Sm r n
  | 0, h => absurd h (Nat.not_lt_zero _)
  | n + 1, h => by
    rw [Sm_succ, Sm_succ]
    by_cases hn : n = k
    · subst hn
      have : Sm (fun j => if j = n then c else r j) n = Sm r n := by
        unfold Sm
        congr 1
        exact List.map_congr_left fun j hj => by
          have := List.mem_range.1 hj
          exact if_neg (by omega)
      rw [this, if_pos rfl, hr]; omega
    · have := Sm_one (c := c) hr (n := n) (by omega)
      rw [this, if_neg hn]; omega
theorem Sm_congr {f g : Nat → Int} {n : Nat} (h : ∀ j, j < n → f j = g j) : Sm f n = Sm g n := by
  unfold Sm
  congr 1
  exact List.map_congr_left fun j hj => h j (List.mem_range.1 hj)
theorem Sm_list {α : Type} (f : α → Int) (l : List α) : (l.map f).sum = Sm (fun j => (l[j]?.map f).getD 0) l.length := by
  have : ∀ n, n ≤ l.length → ((l.take n).map f).sum = Sm (fun j => (l[j]?.map f).getD 0) n := by
    intro n
    induction n with
    | zero => intro _; simp [Sm]
    | succ n ih =>
      intro hn
      rw [List.take_succ_eq_append_getElem (by omega), List.map_append, List.sum_append, ih (by omega), Sm_succ, List.getElem?_eq_getElem (by omega)]
      simp
  have h := this l.length (Nat.le_refl _)
  rwa [List.take_length] at h
theorem repTo_Sm {l : List Int} : ∀ {m : Nat}, m ≤ l.length → repTo l m = Sm (fun j => max (gI l j) 0) m
  | 0, _ => by simp [repTo, Sm]
  | m + 1, h => by rw [repTo_succ (by omega), repTo_Sm (by omega), Sm_succ]
section
variable {ex ex' : Int} {X X' : Wo} {k : Nat} {x x' : No}
def heAt (X : Wo) (k j : Nat) : Int := if j = k then 0 else (X.N[j]?.map (·.he)).getD 0
def hTo (X : Wo) (k m : Nat) : Int := Sm (heAt X k) m
structure HasAll (X : Wo) (k : Nat) (x : No) : Prop where
  ri : ∀ (j : Nat) (y : No), X.N[j]? = some y → j ≠ k → y.ri = 0
  bag : ∀ m ∈ X.bag, m.ri = 0
  rep : x.m.reported = hTo X k X.N.length
  sum : x.ri + x.he + hTo X k X.N.length = X.lim
  all : x.own = true → x.m.all = true
theorem has_all (hI : Wi 0 X) (hx : X.N[k]? = some x) (hl : x.m.lv k = true) (hlook : x.m.looks X.lim x.ri x.he) : HasAll X k x := by
  have hok := hI.ok k x hx
  have h16 := hok.wf.n
  have hlt := get_lt hx
  have hnn := hok.nn
  obtain ⟨h1, h2, h3, h4, h5⟩ := hlook
  have hrep : x.m.reported = Sm (fun j => max (gI x.m.re j) 0) X.N.length := by
    rw [Mv.reported, if_pos h1, repTo_Sm (by rw [hok.wf.rl]; omega), hnn]
  have hrk : max (gI x.m.re k) 0 = 0 := by rw [hok.rm hl]; decide
  have hone := Sm_one (r := fun j => max (gI x.m.re j) 0) (k := k) (c := x.ri + x.he) hrk hlt
  have hlist := Sm_list (fun x : No => x.ri + x.he) X.N
  have hbs : 0 ≤ bsum X.bag := sum_nonneg fun z hz => by
    obtain ⟨m, hm, rfl⟩ := List.mem_map.1 hz
    exact (hI.bag m hm).ri
  have hsum := hI.sum
  rw [rsum, hlist] at hsum
  have hle : ∀ j, j < X.N.length → (if j = k then x.ri + x.he else max (gI x.m.re j) 0) ≤ ((X.N[j]?.map fun x => x.ri + x.he).getD 0) := by
    intro j hj
    by_cases hjk : j = k
    · subst hjk; rw [if_pos rfl, hx]; exact Int.le_refl _
    · rw [if_neg hjk, List.getElem?_eq_getElem hj]
      have hokj := hI.ok j _ (List.getElem?_eq_getElem hj)
      have hri := hokj.ri; have hhe := hokj.he
      show _ ≤ X.N[j].ri + X.N[j].he
      by_cases hr : gI x.m.re j = -1
      · rw [hr]; omega
      · have := (hI.re k x j hx hj hjk hl hr x X.N[j] hx (List.getElem?_eq_getElem hj) rfl (lv_iff.1 hl)).1
        omega
  have hall := Sm_le hle
  have heq : Sm (fun j => if j = k then x.ri + x.he else max (gI x.m.re j) 0) X.N.length = Sm (fun j => ((X.N[j]?.map fun x => x.ri + x.he).getD 0)) X.N.length := by omega
  have hbz : bsum X.bag = 0 := by omega
  have hterm := Sm_eq hle heq
  have hj0 : ∀ (j : Nat) (y : No), X.N[j]? = some y → j ≠ k → y.ri = 0 ∧ max (gI x.m.re j) 0 = y.he := by
    intro j y hy hjk
    have hj := get_lt hy
    have h6 := hterm j hj
    rw [if_neg hjk, hy] at h6
    have h6 : max (gI x.m.re j) 0 = y.ri + y.he := h6
    have hokj := hI.ok j _ hy
    have hri := hokj.ri; have hhe := hokj.he
    by_cases hr : gI x.m.re j = -1
    · rw [hr] at h6 ⊢
      omega
    · have := (hI.re k x j hx hj hjk hl hr x y hx hy rfl (lv_iff.1 hl)).1
      omega
  have hrh : x.m.reported = hTo X k X.N.length := by
    rw [hrep, hTo]
    refine Sm_congr fun j hj => ?_
    by_cases hjk : j = k
    · subst hjk; rw [hrk, heAt, if_pos rfl]
    · have hy := List.getElem?_eq_getElem hj
      rw [(hj0 j _ hy hjk).2, heAt, if_neg hjk, hy]; rfl
  refine ⟨fun j y hy hjk => (hj0 j y hy hjk).1, fun m hm => ?_, hrh, by rw [← hrh]; exact h4, fun how => h5 (by rw [← hok.ow hl]; exact how)⟩
  have : ∀ (l : List Ms), (∀ m ∈ l, 0 ≤ m.ri) → bsum l = 0 → ∀ m ∈ l, m.ri = 0 := by
    intro l
    induction l with
    | nil => intro _ _ m hm; cases hm
    | cons a r ih =>
      intro hn hs m hm
      have h7 := hn a (List.mem_cons_self ..)
      have h8 : 0 ≤ bsum r := sum_nonneg fun z hz => by
        obtain ⟨m, hm, rfl⟩ := List.mem_map.1 hz
        exact hn m (List.mem_cons_of_mem _ hm)
      have hs : a.ri + bsum r = 0 := by simpa [bsum] using hs
      rcases List.mem_cons.1 hm with rfl | hm
      · omega
      · exact ih (fun m hm => hn m (List.mem_cons_of_mem _ hm)) (by omega) m hm
  exact this X.bag (fun m hm => (hI.bag m hm).ri) hbz m hm
/-- To all others. -/
def oth (n k : Nat) (m : Ms) : List Ms := ((List.range n).filter (fun j => j != k)).map fun (j : Nat) => { m with to := (j : Int) }
def othTo (n k : Nat) (m : Ms) : List Ms := oth n k m
theorem oth_succ (n k : Nat) (m : Ms) : oth (n + 1) k m = oth n k m ++ (if n = k then [] else [{ m with to := (n : Int) }]) := by
  rw [oth, List.range_succ, List.filter_append, List.map_append, oth]
  congr 1
  by_cases h : n = k
  · subst h; simp
  · simp [h]
theorem oth_len {n k : Nat} (m : Ms) : (oth n k m).length ≤ n := by
  rw [oth, List.length_map]
  exact Nat.le_trans (List.length_filter_le _ _) (by simp)
theorem bsum_oth (k : Nat) (m : Ms) : ∀ n, bsum (oth n k m) = (if k < n then (n : Int) - 1 else n) * m.ri
  | 0 => by simp [oth, bsum]
  | n + 1 => by
    rw [oth_succ, bsum_app, bsum_oth k m n]
    by_cases h : n = k
    · subst h
      rw [if_pos rfl, if_neg (Nat.lt_irrefl _), if_pos (Nat.lt_succ_self _)]
      simp [bsum]
    · rw [if_neg h]
      have e1 : bsum [({ m with to := (n : Int) } : Ms)] = m.ri := by simp [bsum]
      rw [e1]
      by_cases hk : k < n
      · rw [if_pos hk, if_pos (by omega)]
        have : ((n + 1 : Nat) : Int) - 1 = ((n : Int) - 1) + 1 := by omega
        rw [this, Int.add_mul, Int.one_mul]
      · rw [if_neg hk, if_neg (by omega)]
        have : ((n + 1 : Nat) : Int) = (n : Int) + 1 := by omega
        rw [this, Int.add_mul, Int.one_mul]
theorem oth_mem {n k : Nat} {m z : Ms} (h : z ∈ oth n k m) : ∃ j : Nat, j < n ∧ z = { m with to := (j : Int) } := by
  obtain ⟨j, hj, rfl⟩ := List.mem_map.1 h
  exact ⟨j, List.mem_range.1 (List.mem_filter.1 hj).1, rfl⟩
/-- The own epoch of a node, as it is told. -/
theorem ep_own (hx : X.N[k]? = some x) : EpOk X (gI x.m.kn k, (k : Int)) := .inr ⟨k, x, rfl, hx, Int.le_refl _⟩
theorem ep_zero : EpOk X (0, 0) := .inl (Int.le_refl _)
theorem ok_mark (hx : X.N[k]? = some x) {j : Nat} (hj : j < X.N.length) : MsOk X ⟨3, (k : Int), (j : Int), (gI x.m.kn k, (k : Int)), (0, 0), 0, 0⟩ :=
  ⟨⟨j, rfl, hj⟩, ⟨k, rfl, get_lt hx⟩, Int.le_refl _, ep_own hx, ep_zero, fun h => (by rcases h with h | h <;> cases h), fun h => (by cases h)⟩
theorem ok_grant (hx : X.N[k]? = some x) (hf : gI x.m.kn k ≤ gI x.m.fi k) {p : Int} (hp : 0 ≤ p) {j : Nat} (hj : j < X.N.length) : MsOk X ⟨5, (k : Int), (j : Int), (gI x.m.kn k, (k : Int)), (0, 0), p, 0⟩ :=
  ⟨⟨j, rfl, hj⟩, ⟨k, rfl, get_lt hx⟩, hp, ep_own hx, ep_zero, fun _ i y hi hy => (by
    have : i = k := by have hi : (k : Int) = (i : Int) := hi; omega
    subst this; rw [hx] at hy; cases hy; exact hf), fun h => (by cases h)⟩
theorem ok_over (hx : X.N[k]? = some x) (hf : gI x.m.kn k ≤ gI x.m.fi k) {v : Ep} (hv : EpOk X v) {j : Nat} (hj : j < X.N.length) : MsOk X ⟨7, (k : Int), (j : Int), (gI x.m.kn k, (k : Int)), v, 0, 0⟩ :=
  ⟨⟨j, rfl, hj⟩, ⟨k, rfl, get_lt hx⟩, Int.le_refl _, ep_own hx, hv, fun _ i y hi hy => (by
    have : i = k := by have hi : (k : Int) = (i : Int) := hi; omega
    subst this; rw [hx] at hy; cases hy; exact hf), fun h => (by cases h)⟩
theorem ok_give (hk : k < X.N.length) {p : Int} (hp : 0 ≤ p) {j : Nat} (hj : j < X.N.length) : MsOk X ⟨9, (k : Int), (j : Int), (0, 0), (0, 0), p, 0⟩ :=
  ⟨⟨j, rfl, hj⟩, ⟨k, rfl, hk⟩, hp, ep_zero, ep_zero, fun h => (by rcases h with h | h <;> cases h), fun h => (by cases h)⟩
theorem top_in (hI : Wi ex X) (hx : X.N[k]? = some x) (ht : someE x.m.top = true) : ∃ j : Nat, j < X.N.length ∧ x.m.lv j = true ∧ x.m.top = (gI x.m.kn j, (j : Int)) := by
  have hok := hI.ok k x hx
  rcases top_some hok.wf with ⟨_, h⟩ | ⟨_, h, _⟩
  · rw [h] at ht; cases ht
  · obtain ⟨j, h1, h2, h3⟩ := mem_lives.1 h
    exact ⟨j, by rw [← hok.nn]; exact h1, h2, h3⟩
theorem ep_top (hI : Wi ex X) (hx : X.N[k]? = some x) (ht : someE x.m.top = true) : EpOk X x.m.top := by
  obtain ⟨j, hj, _, he⟩ := top_in hI hx ht
  have hy := List.getElem?_eq_getElem hj
  exact .inr ⟨j, _, by rw [he], hy, by rw [he]; exact hI.kk k x j _ hx hy⟩
theorem not_own (hI : Wi ex X) (hx : X.N[k]? = some x) (h : ¬ (x.m.own.1 > 0 ∧ x.m.top = x.m.own)) : x.m.lv k = false := by
  have hok := hI.ok k x hx
  cases hl : x.m.lv k with
  | false => rfl
  | true =>
    exfalso
    have hown := own_live hok.wf
    rw [hok.me] at hown
    rcases hown with ⟨_, _, h1, _⟩ | ⟨h1, _⟩
    · exact h ⟨by omega, hok.ot hl⟩
    · rw [hl] at h1; cases h1
theorem ok_yield (hI : Wi ex X) (hx : X.N[k]? = some x) (ht : someE x.m.top = true) (hl : x.m.lv k = false) {p : Int} (hp : 0 ≤ p) : MsOk X ⟨4, (k : Int), x.m.top.2, x.m.top, (0, 0), p, x.he⟩ := by
  obtain ⟨j, hj, hlj, he⟩ := top_in hI hx ht
  refine ⟨⟨j, by show x.m.top.2 = _; rw [he], hj⟩, ⟨k, rfl, get_lt hx⟩, hp, ep_top hI hx ht, ep_zero, fun h => (by rcases h with h | h <;> cases h), fun _ f i hf hi => ?_⟩
  have hf2 : f = k := by have hf : (k : Int) = (f : Int) := hf; omega
  have hi2 : i = j := by have hi : x.m.top.2 = (i : Int) := hi; rw [he] at hi; have hi : (j : Int) = (i : Int) := hi; omega
  clear hf hi
  subst hf2; subst hi2
  refine ⟨fun h => (by subst h; rw [hl] at hlj; cases hlj), fun xi xf hxi hxf hkn hfin => ?_⟩
  rw [hx] at hxf; cases hxf
  exact ⟨rfl, by show x.m.top.1 ≤ _; rw [he]; exact Int.le_refl _, hl⟩
theorem sent (hI : Wi ex X) {ms : List Ms} (hm : ∀ m ∈ ms, MsOk X m) (hs : bsum ms + ex' = ex) (hex : 0 ≤ ex') : Wi ex' { X with bag := X.bag ++ ms } :=
  hI.bags (X' := { X with bag := X.bag ++ ms }) rfl rfl rfl hI.wrong (fun m h => by
    rcases List.mem_append.1 h with h | h
    · exact hI.bag m h
    · exact hm m h) (by show bsum (X.bag ++ ms) + ex' = _; rw [bsum_app]; omega) hex
end
end Go.Proofs.Ytmfbmfppjdkeeaa

/- The world of epochs, in plain words: what a step makes of it. -/
namespace Go.Proofs.Ytmfbmfppjdkeeaa
open Go Go.Fw Go.RowKit
set_option linter.unusedVariables false
set_option linter.unusedSimpArgs false
set_option maxHeartbeats 1000000

def Wo.put (X : Wo) (k : Nat) (x : No) : Wo := { X with N := X.N.set k x }
/-- The own epoch of a node ends; its rights are dealt out, if others were told. -/
def Wo.fin (X : Wo) (k : Nat) (x : No) : Wo :=
  if x.told = true then { X with N := X.N.set k { x with m := x.m.finish.2, ri := x.ri - ((X.N.length : Int) - 1) * Int.tdiv x.ri X.N.length }, ended := X.ended + 1, bag := X.bag ++ oth X.N.length k ⟨5, (k : Int), 0, x.m.own, (0, 0), Int.tdiv x.ri X.N.length, 0⟩ }
  else { X with N := X.N.set k { x with m := x.m.finish.2 }, ended := X.ended + 1 }
def moved (t : Int) (x : No) : Int := if Int.tmod t 2 = 0 then -(min (Int.tmod t 4) x.he) else min (Int.tmod t 3) x.ri
def No.mv (x : No) (d : Int) : No := { x with ri := x.ri - d, he := x.he + d }
def Wo.deal (X : Wo) (k : Nat) (x : No) : Wo := ({ X with turn := X.turn + 1, N := X.N.set k (x.mv (moved (X.turn + 1) x)) } : Wo).fin k (x.mv (moved (X.turn + 1) x))
def Wo.beg (X : Wo) (k : Nat) (x : No) (all : Bool) : Wo :=
  { X with N := X.N.set k { x with m := x.m.fresh all, own := all, told := decide ((x.m.fresh all).look X.lim x.ri x.he = []) }, begun := X.begun + 1,
           bag := X.bag ++ (if (x.m.fresh all).look X.lim x.ri x.he = [] then oth X.N.length k ⟨3, (k : Int), 0, (x.m.fresh all).own, (0, 0), 0, 0⟩ else []) }
def Wo.yield (X : Wo) (k : Nat) (x : No) : Wo :=
  { X with N := X.N.set k { x with ri := 0, y := x.m.top }, bag := X.bag ++ [⟨4, (k : Int), x.m.top.2, x.m.top, (0, 0), x.ri, x.he⟩] }
def Wo.oneX (X : Wo) (k : Nat) (x : No) : Wo × Bool :=
  if x.m.own.1 > 0 ∧ x.m.top = x.m.own then
    if x.m.look X.lim x.ri x.he = [] then (X, false) else (X.deal k x, true)
  else if someE x.m.top = true then
    if x.m.top ≠ x.y ∨ x.ri > 0 then (X.yield k x, false) else (X, false)
  else match x.wait with
    | [] => (X.put k { x with y := (0, 0) }, false)
    | a :: r => ((X.put k { x with y := (0, 0), wait := r }).beg k { x with y := (0, 0), wait := r } a, true)
def Wo.one (X : Wo) (k : Nat) : Wo × Bool := match X.N[k]? with
  | some x => X.oneX k x
  | none => (X, false)
def Wo.settleN : Nat → Wo → Nat → Wo
  | 0, X, _ => X
  | f + 1, X, k => if (X.one k).2 = true then Wo.settleN f (X.one k).1 k else (X.one k).1
def Wo.settle (X : Wo) (k : Nat) : Wo := Wo.settleN 1000 X k
def No.hears (x : No) (m : Ms) : List A6 × Mv :=
  if m.kind = 3 then x.m.hear m.e else if m.kind = 5 then x.m.end_ m.e (0, 0) else if m.kind = 7 then x.m.end_ m.e m.ov else ([], if m.kind = 4 then x.m.report m.fr m.e m.he else x.m)
def Wo.act (k : Nat) (own : Bool) (X : Wo) (a : A6) : Wo :=
  if a.1 = 3 then { X with bag := X.bag ++ oth X.N.length k ⟨7, (k : Int), 0, (a.2.2.1, a.2.2.2.1), (a.2.2.2.2.1, a.2.2.2.2.2), 0, 0⟩ }
  else if a.1 = 5 then match X.N[k]? with
    | some x => { X with N := X.N.set k { x with wait := own :: x.wait }, ended := X.ended + 1 }
    | none => X
  else X
def Wo.gain (X : Wo) (k : Nat) (r : Int) : Wo := match X.N[k]? with
  | some x => X.put k { x with ri := x.ri + r }
  | none => X
/-- A message has been taken from the bag: what becomes of it, but for what follows behind everything. -/
def Wo.heardX (X : Wo) (m : Ms) (k : Nat) (x : No) : Wo := ((x.hears m).1.foldl (Wo.act k x.own) (X.put k { x with m := (x.hears m).2 })).gain k m.ri
def Wo.comes (X : Wo) (m : Ms) : Wo := match X.N[m.to.toNat]? with
  | some x => (X.heardX m m.to.toNat x).settle m.to.toNat
  | none => X
section
variable {ex ex' : Int} {X X' : Wo} {k : Nat} {x x' : No}
theorem tdiv_part {a n : Int} (ha : 0 ≤ a) (hn : 1 ≤ n) : 0 ≤ Int.tdiv a n ∧ n * Int.tdiv a n ≤ a := by
  refine ⟨Int.tdiv_nonneg ha (by omega), ?_⟩
  rw [Int.tdiv_eq_ediv_of_nonneg ha]
  exact Int.mul_ediv_self_le (by omega)
theorem Wi.fin (hI : Wi 0 X) (hx : X.N[k]? = some x) (hl : x.m.lv k = true) : Wi 0 (X.fin k x) := by
  have hok := hI.ok k x hx
  have hlt := get_lt hx
  have hn := hI.n
  obtain ⟨hp0, hp1⟩ := tdiv_part hok.ri (show (1 : Int) ≤ (X.N.length : Int) by omega)
  have hown : x.m.own = (gI x.m.kn k, (k : Int)) := by
    have := own_live hok.wf
    rw [hok.me] at this
    rcases this with ⟨_, h, _⟩ | ⟨h, _⟩
    · exact h
    · rw [hl] at h; cases h
  unfold Wo.fin
  by_cases ht : x.told = true
  · rw [if_pos ht]
    have hmul : ((X.N.length : Int) - 1) * Int.tdiv x.ri X.N.length ≤ X.N.length * Int.tdiv x.ri X.N.length := Int.mul_le_mul_of_nonneg_right (by omega) hp0
    have hmul0 : 0 ≤ ((X.N.length : Int) - 1) * Int.tdiv x.ri X.N.length := Int.mul_nonneg (by omega) hp0
    generalize hq : ((X.N.length : Int) - 1) * Int.tdiv x.ri X.N.length = q at hmul hmul0
    let x1 : No := { x with m := x.m.finish.2, ri := x.ri - q }
    let X1 : Wo := { X with N := X.N.set k x1, ended := X.ended + 1 }
    have h1 : Wi q X1 := hI.fin1 (x' := x1) (X' := X1) hx hl rfl (by show 0 ≤ x.ri - q; omega) rfl rfl rfl rfl rfl hI.wrong (by show (x.ri - q + x.he) + q = _; omega) hmul0
    have hx1 : X1.N[k]? = some x1 := set_self hx
    have hl1 : X1.N.length = X.N.length := List.length_set
    have hfk : gI x1.m.kn k ≤ gI x1.m.fi k ∧ gI x1.m.kn k = gI x.m.kn k := by
      have e : x1.m = _ := finish_lv hok.wf (by rw [hok.me]; exact hl)
      rw [hok.me] at e
      have h16 := hok.wf.n
      rw [e]
      refine ⟨?_, rfl⟩
      show gI x.m.kn k ≤ gI (x.m.fi.set k (gI x.m.kn k)) k
      rw [gI_set (by rw [hok.wf.fl]; have := hok.nn; omega), if_pos rfl]; exact Int.le_refl _
    have hb : bsum (oth X.N.length k ⟨5, (k : Int), 0, x.m.own, (0, 0), Int.tdiv x.ri X.N.length, 0⟩) = q := by
      rw [bsum_oth, if_pos hlt]; exact hq
    refine sent h1 (ms := oth X.N.length k ⟨5, (k : Int), 0, x.m.own, (0, 0), Int.tdiv x.ri X.N.length, 0⟩) (fun m hm => ?_) (by rw [hb]; omega) (Int.le_refl 0)
    obtain ⟨j, hj, rfl⟩ := oth_mem hm
    rw [hown, ← hfk.2]
    exact ok_grant hx1 hfk.1 hp0 (by rw [hl1]; exact hj)
  · rw [if_neg ht]
    exact hI.fin1 (x' := { x with m := x.m.finish.2 }) hx hl rfl hok.ri rfl rfl rfl rfl rfl hI.wrong rfl (Int.le_refl 0)
theorem moved_ok {t : Int} (ht : 0 ≤ t) (hr : 0 ≤ x.ri) (hh : 0 ≤ x.he) : 0 ≤ x.ri - moved t x ∧ 0 ≤ x.he + moved t x := by
  have h3 : 0 ≤ Int.tmod t 3 := Int.tmod_nonneg _ ht
  have h4 : 0 ≤ Int.tmod t 4 := Int.tmod_nonneg _ ht
  unfold moved
  split <;> omega
theorem Wi.deal (hI : Wi 0 X) (hx : X.N[k]? = some x) (hl : x.m.lv k = true) (ht : 0 ≤ X.turn) : Wi 0 (X.deal k x) := by
  have hok := hI.ok k x hx
  have hm := moved_ok (x := x) (t := X.turn + 1) (by omega) hok.ri hok.he
  have h1 : Wi 0 ({ X with turn := X.turn + 1, N := X.N.set k (x.mv (moved (X.turn + 1) x)) } : Wo) :=
    hI.plain (x' := x.mv (moved (X.turn + 1) x)) hx rfl hm.1 hm.2 (fun _ => rfl) (fun h => by rw [hl] at h; cases h) rfl rfl rfl rfl hI.wrong (by show (x.ri - _ + (x.he + _)) + 0 = _; omega) (Int.le_refl 0)
  exact h1.fin (set_self hx) hl
theorem Wi.beg (hI : Wi 0 X) (hx : X.N[k]? = some x) (hf : someE x.m.top = false) (hb : X.begun < 1099511627776) (all : Bool) : Wi 0 (X.beg k x all) := by
  have hok := hI.ok k x hx
  have hlt := get_lt hx
  let x1 : No := { x with m := x.m.fresh all, own := all, told := decide ((x.m.fresh all).look X.lim x.ri x.he = []) }
  let X1 : Wo := { X with N := X.N.set k x1, begun := X.begun + 1 }
  have h1 : Wi 0 X1 := hI.fresh (x' := x1) (X' := X1) hx hf hb all rfl rfl rfl rfl rfl rfl rfl rfl hI.wrong
  have hx1 : X1.N[k]? = some x1 := set_self hx
  have hl1 : X1.N.length = X.N.length := List.length_set
  refine sent h1 (ms := if (x.m.fresh all).look X.lim x.ri x.he = [] then oth X.N.length k ⟨3, (k : Int), 0, (x.m.fresh all).own, (0, 0), 0, 0⟩ else []) (fun m hm => ?_) ?_ (Int.le_refl 0)
  · split at hm
    · obtain ⟨j, hj, rfl⟩ := oth_mem hm
      have hok1 := h1.ok k x1 hx1
      have hown := own_live hok1.wf
      rw [hok1.me] at hown
      have hl : x1.m.lv k = true := by
        have h16 := hok.wf.n
        have hme := hok.me
        have hmn := hok.wf.me
        rw [lv_iff]
        show gI x.m.fi k < gI (x.m.kn.set x.m.me (top16 x.m.kn + 1)) k
        rw [hme, gI_set (by rw [hok.wf.kl]; omega), if_pos rfl]
        have h2 := hok.fk k
        have h3 := le_top16 (gI_mem (l := x.m.kn) (i := k) (by rw [hok.wf.kl]; omega))
        omega
      rcases hown with ⟨_, h, _⟩ | ⟨h, _⟩
      · have e : (x.m.fresh all).own = (gI x1.m.kn k, (k : Int)) := h
        rw [e]
        exact ok_mark hx1 (by rw [hl1]; exact hj)
      · rw [hl] at h; cases h
    · cases hm
  · split
    · rw [bsum_oth]; simp
    · simp [bsum]
theorem Wi.yield (hI : Wi 0 X) (hx : X.N[k]? = some x) (ht : someE x.m.top = true) (hl : x.m.lv k = false) : Wi 0 (X.yield k x) := by
  have hok := hI.ok k x hx
  let x1 : No := { x with ri := 0, y := x.m.top }
  let X1 : Wo := { X with N := X.N.set k x1 }
  have h1 : Wi x.ri X1 := hI.plain (x' := x1) (X' := X1) hx rfl (Int.le_refl 0) hok.he (fun _ => rfl) (fun _ _ => rfl) rfl rfl rfl rfl hI.wrong (by show (0 + x.he) + x.ri = _; omega) hok.ri
  refine sent h1 (ms := [⟨4, (k : Int), x.m.top.2, x.m.top, (0, 0), x.ri, x.he⟩]) (fun m hm => ?_) (by simp [bsum]) (Int.le_refl 0)
  simp at hm; subst hm
  exact ok_yield (x := x1) h1 (set_self hx) ht hl hok.ri
theorem looks_of (h : x.m.look X.lim x.ri x.he ≠ []) : x.m.looks X.lim x.ri x.he := by
  unfold Mv.look at h
  split at h
  · assumption
  · exact absurd rfl h
theorem Wi.one (hI : Wi 0 X) (ht : 0 ≤ X.turn) (hb : X.begun < 1099511627776) (k : Nat) : Wi 0 (X.one k).1 := by
  unfold Wo.one
  cases hx : X.N[k]? with
  | none => exact hI
  | some x =>
    have hok := hI.ok k x hx
    show Wi 0 (X.oneX k x).1
    unfold Wo.oneX
    by_cases h1 : x.m.own.1 > 0 ∧ x.m.top = x.m.own
    · rw [if_pos h1]
      by_cases h2 : x.m.look X.lim x.ri x.he = []
      · rw [if_pos h2]; exact hI
      · rw [if_neg h2]
        have hl : x.m.lv k = true := by
          have := own_live hok.wf
          rw [hok.me] at this
          rcases this with ⟨h, _⟩ | ⟨_, h, _⟩
          · exact h
          · rw [h] at h1; exact absurd h1.1 (by decide)
        exact hI.deal hx hl ht
    · rw [if_neg h1]
      have hl := not_own hI hx h1
      by_cases h2 : someE x.m.top = true
      · rw [if_pos h2]
        by_cases h3 : x.m.top ≠ x.y ∨ x.ri > 0
        · rw [if_pos h3]; exact hI.yield hx h2 hl
        · rw [if_neg h3]; exact hI
      · rw [if_neg h2]
        have hf : someE x.m.top = false := by simpa using h2
        cases hw : x.wait with
        | nil => exact hI.plain (x' := { x with y := (0, 0), wait := [] }) hx rfl hok.ri hok.he (fun _ => rfl) (fun _ _ => rfl) rfl rfl rfl rfl hI.wrong rfl (Int.le_refl 0)
        | cons a r =>
          have h4 : Wi 0 (X.put k { x with y := (0, 0), wait := r }) := hI.plain (x' := { x with y := (0, 0), wait := r }) hx rfl hok.ri hok.he (fun _ => rfl) (fun _ _ => rfl) rfl rfl rfl rfl hI.wrong rfl (Int.le_refl 0)
          exact h4.beg (set_self hx) hf hb a
/-- How much there is at the most. -/
structure Bd (c : Int) (X : Wo) : Prop where
  bag : (X.bag.length : Int) ≤ c
  begun : 0 ≤ X.begun ∧ X.begun ≤ c
  ended : 0 ≤ X.ended ∧ X.ended ≤ c
  turn : 0 ≤ X.turn ∧ X.turn ≤ c
  wait : ∀ (k : Nat) (x : No), X.N[k]? = some x → (x.wait.length : Int) ≤ c
theorem Bd.mono {c d : Int} (h : Bd c X) (hc : c ≤ d) : Bd d X := ⟨by have := h.bag; omega, by have := h.begun; omega, by have := h.ended; omega, by have := h.turn; omega, fun k x hx => by have := h.wait k x hx; omega⟩
theorem Bd.put {c : Int} (h : Bd c X) (hx : X.N[k]? = some x) (hN : X'.N = X.N.set k x') (hw : (x'.wait.length : Int) ≤ c) (hbag : (X'.bag.length : Int) ≤ c) (hb : 0 ≤ X'.begun ∧ X'.begun ≤ c) (he : 0 ≤ X'.ended ∧ X'.ended ≤ c) (ht : 0 ≤ X'.turn ∧ X'.turn ≤ c) : Bd c X' := by
  refine ⟨hbag, hb, he, ht, fun j y hy => ?_⟩
  rw [hN] at hy
  by_cases hj : j = k
  · subst hj; rw [set_self hx] at hy; cases hy; exact hw
  · rw [set_ne hj] at hy; exact h.wait j y hy
theorem fin_len (X : Wo) (k : Nat) (x : No) : (X.fin k x).N.length = X.N.length := by
  unfold Wo.fin; split <;> simp
theorem Bd.fin {c : Int} (h : Bd c X) (hx : X.N[k]? = some x) (hn : X.N.length ≤ 5) : Bd (c + 5) (X.fin k x) := by
  have hw := h.wait k x hx
  have hb := h.begun; have he := h.ended; have ht := h.turn; have hbag := h.bag
  have h5 := h.mono (d := c + 5) (by omega)
  unfold Wo.fin
  split
  · refine h5.put hx rfl (by show (x.wait.length : Int) ≤ _; omega) ?_ (by dsimp only; omega) (by dsimp only; omega) (by dsimp only; omega)
    have := oth_len (n := X.N.length) (k := k) ⟨5, (k : Int), 0, x.m.own, (0, 0), Int.tdiv x.ri X.N.length, 0⟩
    show ((X.bag ++ _).length : Int) ≤ _
    rw [List.length_append]; omega
  · exact h5.put hx rfl (by show (x.wait.length : Int) ≤ _; omega) (by dsimp only; omega) (by dsimp only; omega) (by dsimp only; omega) (by dsimp only; omega)
theorem Bd.one {c : Int} (h : Bd c X) (hn : X.N.length ≤ 5) (k : Nat) : Bd (c + 10) (X.one k).1 ∧ (X.one k).1.N.length = X.N.length := by
  have hb := h.begun; have he := h.ended; have ht := h.turn; have hbag := h.bag
  unfold Wo.one
  cases hx : X.N[k]? with
  | none => exact ⟨h.mono (by omega), rfl⟩
  | some x =>
    have hw := h.wait k x hx
    show Bd (c + 10) (X.oneX k x).1 ∧ (X.oneX k x).1.N.length = X.N.length
    unfold Wo.oneX
    split
    · split
      · exact ⟨h.mono (by omega), rfl⟩
      · have h1 : Bd (c + 5) ({ X with turn := X.turn + 1, N := X.N.set k (x.mv (moved (X.turn + 1) x)) } : Wo) :=
          (h.mono (by omega)).put (x' := x.mv (moved (X.turn + 1) x)) hx rfl (by show (x.wait.length : Int) ≤ _; omega) (by dsimp only; omega) (by dsimp only; omega) (by dsimp only; omega) (by dsimp only; omega)
        refine ⟨(h1.fin (x := x.mv (moved (X.turn + 1) x)) (set_self hx) (by simpa using hn)).mono (by omega), ?_⟩
        show (Wo.fin _ _ _).N.length = _
        rw [fin_len]; simp
    · split
      · split
        · refine ⟨(h.mono (show c ≤ c + 10 by omega)).put (x' := { x with ri := 0, y := x.m.top }) hx rfl (by show (x.wait.length : Int) ≤ _; omega) ?_ (by show 0 ≤ X.begun ∧ X.begun ≤ _; omega) (by show 0 ≤ X.ended ∧ X.ended ≤ _; omega) (by show 0 ≤ X.turn ∧ X.turn ≤ _; omega), by simp [Wo.yield]⟩
          show ((X.bag ++ _).length : Int) ≤ _
          rw [List.length_append]; simp; omega
        · exact ⟨h.mono (by omega), rfl⟩
      · split
        · exact ⟨(h.mono (show c ≤ c + 10 by omega)).put (x' := { x with y := (0, 0) }) hx rfl (by show (x.wait.length : Int) ≤ _; omega) (by show (X.bag.length : Int) ≤ _; omega) (by show 0 ≤ X.begun ∧ X.begun ≤ _; omega) (by show 0 ≤ X.ended ∧ X.ended ≤ _; omega) (by show 0 ≤ X.turn ∧ X.turn ≤ _; omega), by simp [Wo.put]⟩
        · rename_i a r hwr
          rw [hwr] at hw
          have hw : ((r.length + 1 : Nat) : Int) ≤ c := by simpa using hw
          have e : ((X.put k { x with y := (0, 0), wait := r }).beg k { x with y := (0, 0), wait := r } a).N = X.N.set k { x with y := (0, 0), wait := r, m := x.m.fresh a, own := a, told := decide ((x.m.fresh a).look X.lim x.ri x.he = []) } := by
            show (X.N.set k _).set k _ = _
            rw [List.set_set]; rfl
          refine ⟨(h.mono (show c ≤ c + 10 by omega)).put hx e (by show (r.length : Int) ≤ _; omega) ?_ ?_ ?_ ?_, by rw [e]; simp⟩
          · have key : ∀ z : List Ms, z.length ≤ 5 → ((X.bag ++ z).length : Int) ≤ c + 10 := by
              intro z hz
              rw [List.length_append]; omega
            have hl : (X.put k { x with y := (0, 0), wait := r }).N.length = X.N.length := by simp [Wo.put]
            refine key _ ?_
            split
            · exact Nat.le_trans (oth_len _) (by rw [hl]; exact hn)
            · exact Nat.zero_le _
          · show 0 ≤ X.begun + 1 ∧ X.begun + 1 ≤ _
            omega
          · show 0 ≤ X.ended ∧ X.ended ≤ _
            omega
          · show 0 ≤ X.turn ∧ X.turn ≤ _
            omega
end
end Go.Proofs.Ytmfbmfppjdkeeaa

/- The world of epochs, in plain words: a message comes; a step. -/
namespace Go.Proofs.Ytmfbmfppjdkeeaa
open Go Go.Fw Go.RowKit
set_option linter.unusedVariables false
set_option linter.unusedSimpArgs false
set_option maxHeartbeats 1000000

structure Stp where
  kind : Int
  who : Int
  a : Int
  b : Int
  all : Bool
def wi2 (x n : Int) : Int := Int.tmod (if x < 0 then -(x + 1) else x) n
def Wo.moves (X : Wo) (i : Nat) (x : No) (s : Stp) : Wo :=
  if s.kind = 3 then X.put i (x.mv (min (wi2 s.a 4) x.ri))
  else if s.kind = 4 then X.put i (x.mv (-(min (wi2 s.a 4) x.he)))
  else if s.kind = 5 then
    if wi2 s.b X.N.length ≠ (i : Int) ∧ min (wi2 s.a 4) x.ri > 0 then
      { X with N := X.N.set i { x with ri := x.ri - min (wi2 s.a 4) x.ri }, bag := X.bag ++ [⟨9, (i : Int), wi2 s.b X.N.length, (0, 0), (0, 0), min (wi2 s.a 4) x.ri, 0⟩] }
    else X
  else X
def Wo.takeOut (X : Wo) (k : Nat) : Wo := { X with bag := X.bag.take k ++ X.bag.drop (k + 1) }
def Wo.stepX (X : Wo) (s : Stp) (i : Nat) (x : No) : Wo :=
  if s.kind = 2 ∧ 0 < X.bag.length then
    match X.bag[(wi2 s.a X.bag.length).toNat]? with
    | some m => (X.takeOut (wi2 s.a X.bag.length).toNat).comes m
    | none => X
  else if s.kind = 1 then
    if someE x.m.top = true then X.put i { x with wait := x.wait ++ [s.all] } else (X.put i { x with wait := x.wait ++ [s.all] }).settle i
  else if s.kind = 6 then
    if x.m.own.1 > 0 then (X.fin i x).settle i else X
  else if (3 ≤ s.kind ∧ s.kind ≤ 5) ∧ someE x.m.top = false then X.moves i x s
  else X
def Wo.step (X : Wo) (s : Stp) : Wo := match X.N[(wi2 s.who X.N.length).toNat]? with
  | some x => X.stepX s (wi2 s.who X.N.length).toNat x
  | none => X
section
variable {ex ex' c : Int} {X X' : Wo} {k : Nat} {x x' : No}
theorem settleN_ok (k : Nat) : ∀ (f : Nat) (X : Wo) (c : Int), Wi 0 X → Bd c X → c + 10 * f ≤ 1000000000000 → Wi 0 (Wo.settleN f X k) ∧ Bd (c + 10 * f) (Wo.settleN f X k) ∧ (Wo.settleN f X k).N.length = X.N.length
  | 0, X, c, h1, h2, h3 => ⟨h1, h2.mono (by omega), rfl⟩
  | f + 1, X, c, h1, h2, h3 => by
    have hb := h2.begun
    have ho := h1.one h2.turn.1 (by omega) k
    have hd := h2.one h1.n.2 k
    rw [Wo.settleN]
    split
    · obtain ⟨a1, a2, a3⟩ := settleN_ok k f (X.one k).1 (c + 10) ho hd.1 (by omega)
      exact ⟨a1, a2.mono (by omega), by rw [a3, hd.2]⟩
    · exact ⟨ho, hd.1.mono (by omega), hd.2⟩
theorem settle_ok (h1 : Wi 0 X) (h2 : Bd c X) (h3 : c ≤ 999999980000) (k : Nat) : Wi 0 (X.settle k) ∧ Bd (c + 10000) (X.settle k) ∧ (X.settle k).N.length = X.N.length := by
  obtain ⟨a1, a2, a3⟩ := settleN_ok k 1000 X c h1 h2 (by omega)
  exact ⟨a1, a2.mono (by omega), a3⟩
theorem act_no {own : Bool} {a : A6} (h3 : a.1 ≠ 3) (h5 : a.1 ≠ 5) : Wo.act k own X a = X := by
  unfold Wo.act; rw [if_neg h3, if_neg h5]
theorem tail_no {own : Bool} (me : Nat) (a b d : Ep) (X : Wo) : (tailA me a b d).foldl (Wo.act k own) X = X := by
  unfold tailA
  split
  · rfl
  · split
    · rw [List.foldl_cons, List.foldl_nil, act_no (by show (6 : Int) ≠ 3; decide) (by show (6 : Int) ≠ 5; decide)]
    · rw [List.foldl_cons, List.foldl_nil, act_no (by show (2 : Int) ≠ 3; decide) (by show (2 : Int) ≠ 5; decide)]
/-- What a machine makes of a message that is no report. -/
theorem hears_turn (hI : Wi ex X) (hx : X.N[k]? = some x) {m : Ms} (hm : MsOk X m) (hk : m.kind = 3 ∨ m.kind = 5 ∨ m.kind = 7) : ∃ b, Up X k x.m b ∧ x.hears m = b.turn x.m.top := by
  have h0 := Up.refl hI hx
  unfold No.hears
  rcases hk with hk | hk | hk
  · rw [if_pos hk]
    exact ⟨_, h0.told hI hx hm.e (fin := false) (fun h => by cases h), rfl⟩
  · rw [if_neg (by rw [hk]; decide), if_pos hk]
    exact ⟨_, (h0.told hI hx hm.e (fin := true) (fun _ => hm.fin (.inl hk))).told hI hx (ep_zero (X := X)) (fin := false) (fun h => by cases h), rfl⟩
  · rw [if_neg (by rw [hk]; decide), if_neg (by rw [hk]; decide), if_pos hk]
    exact ⟨_, (h0.told hI hx hm.e (fin := true) (fun _ => hm.fin (.inr hk))).told hI hx hm.ov (fin := false) (fun h => by cases h), rfl⟩
/-- The world behind the acts. -/
def Wo.overs (X : Wo) (k : Nat) (x : No) (b : Mv) (was : Ep) : Wo :=
  if b.turns then { X with N := X.N.set k { x with m := (b.turn was).2, wait := x.own :: x.wait }, ended := X.ended + 1, bag := X.bag ++ oth X.N.length k ⟨7, (k : Int), 0, b.own, b.top, 0, 0⟩ }
  else X.put k { x with m := (b.turn was).2 }
theorem acts_wo (hx : X.N[k]? = some x) (b : Mv) (was : Ep) : (b.turn was).1.foldl (Wo.act k x.own) (X.put k { x with m := (b.turn was).2 }) = X.overs k x b was := by
  unfold Wo.overs
  by_cases ht : b.turns
  · rw [if_pos ht]
    have e : (b.turn was).1 = [(3, -1, b.own.1, b.own.2, b.top.1, b.top.2), (5, (b.me : Int), b.own.1, b.own.2, 0, 0)] ++ tailA b.me b.own b.top b.own := by rw [Mv.turn, if_pos ht]
    rw [e, List.foldl_append, tail_no, List.foldl_cons, List.foldl_cons, List.foldl_nil]
    have e1 : Wo.act k x.own (X.put k { x with m := (b.turn was).2 }) (3, -1, b.own.1, b.own.2, b.top.1, b.top.2) = { X.put k { x with m := (b.turn was).2 } with bag := X.bag ++ oth X.N.length k ⟨7, (k : Int), 0, b.own, b.top, 0, 0⟩ } := by
      unfold Wo.act
      rw [if_pos rfl]
      simp only [Wo.put, List.length_set]
    rw [e1]
    unfold Wo.act
    rw [if_neg (by show ¬ (5 : Int) = 3; decide), if_pos rfl]
    have hg : (X.N.set k { x with m := (b.turn was).2 })[k]? = some { x with m := (b.turn was).2 } := set_self hx
    simp only [Wo.put, hg, List.set_set]
  · rw [if_neg ht]
    have e : (b.turn was).1 = tailA b.me b.own b.top was := by rw [Mv.turn, if_neg ht]
    rw [e, tail_no]
theorem Wi.overs (hI : Wi ex X) (hx : X.N[k]? = some x) {b : Mv} (hu : Up X k x.m b) (was : Ep) : Wi ex (X.overs k x b was) := by
  have h1 : Wi ex (X.put k { x with m := (b.turn was).2 }) := hu.turn hI hx was (X' := X.put k { x with m := (b.turn was).2 }) rfl rfl rfl rfl hI.wrong
  have hok := hI.ok k x hx
  unfold Wo.overs
  by_cases ht : b.turns
  · rw [if_pos ht]
    let x1 : No := { x with m := (b.turn was).2 }
    let x2 : No := { x with m := (b.turn was).2, wait := x.own :: x.wait }
    have hx1 : (X.put k x1).N[k]? = some x1 := set_self hx
    let X2 : Wo := { X with N := X.N.set k x2, ended := X.ended + 1 }
    have hok1 := h1.ok k x1 hx1
    have h2 : Wi ex X2 := h1.plain (x' := x2) (X' := X2) hx1 rfl hok.ri hok.he (fun _ => rfl) (fun _ _ => rfl) (by show X.N.set k x2 = (X.N.set k x1).set k x2; rw [List.set_set]) rfl rfl rfl hI.wrong rfl hI.ex
    have hx2 : X2.N[k]? = some x2 := set_self hx
    have hl2 : X2.N.length = X.N.length := List.length_set
    have hbm : b.me = k := by rw [hu.me, hok.me]
    have hown := own_live hu.wf
    rw [hbm] at hown
    have ho : b.own = (gI b.kn k, (k : Int)) := by
      rcases hown with ⟨_, h, _⟩ | ⟨_, _, h⟩
      · exact h
      · have := ht.1; rw [h] at this; cases this
    have e2 : (b.turn was).2 = { b with fi := b.fi.set b.me b.own.1 } := by rw [Mv.turn, if_pos ht]
    have hkn : gI x2.m.kn k = gI b.kn k := by show gI (b.turn was).2.kn k = _; rw [e2]
    have hfi : gI x2.m.kn k ≤ gI x2.m.fi k := by
      rw [hkn]
      show _ ≤ gI (b.turn was).2.fi k
      rw [e2]
      show _ ≤ gI (b.fi.set b.me b.own.1) k
      have h16 := hu.wf.n
      have hm := hu.wf.me
      rw [hbm, gI_set (by rw [hu.wf.fl]; omega), if_pos rfl, ho]; exact Int.le_refl _
    have htop := (top_of_own hu.wf ht.1).2
    have hv : EpOk X2 b.top := by
      rcases top_some hu.wf with ⟨_, h⟩ | ⟨_, h, _⟩
      · rw [h] at htop; cases htop
      · obtain ⟨j, hj, _, he⟩ := mem_lives.1 h
        have hjn : j < X.N.length := by rw [hu.n, hok.nn] at hj; exact hj
        right
        by_cases hjk : j = k
        · subst hjk
          exact ⟨j, x2, by rw [he], hx2, by rw [he, hkn]; exact Int.le_refl _⟩
        · have hy := List.getElem?_eq_getElem hjn
          exact ⟨j, X.N[j], by rw [he], by show (X.N.set k x2)[j]? = _; rw [set_ne hjk]; exact hy, by rw [he]; exact hu.ko j _ hy hjk⟩
    refine sent h2 (ms := oth X.N.length k ⟨7, (k : Int), 0, b.own, b.top, 0, 0⟩) (fun m hm => ?_) (by rw [bsum_oth]; simp) hI.ex
    obtain ⟨j, hj, rfl⟩ := oth_mem hm
    rw [ho, ← hkn]
    exact ok_over hx2 hfi hv (by rw [hl2]; exact hj)
  · rw [if_neg ht]; exact h1
theorem overs_get (hx : X.N[k]? = some x) (b : Mv) (was : Ep) : ∃ x2, (X.overs k x b was).N[k]? = some x2 ∧ x2.ri = x.ri ∧ x2.he = x.he ∧ (X.overs k x b was).N.length = X.N.length := by
  unfold Wo.overs
  split
  · exact ⟨_, set_self hx, rfl, rfl, by simp⟩
  · exact ⟨_, set_self hx, rfl, rfl, by simp [Wo.put]⟩
theorem Bd.overs (h : Bd c X) (hx : X.N[k]? = some x) (hn : X.N.length ≤ 5) (b : Mv) (was : Ep) : Bd (c + 5) (X.overs k x b was) := by
  have hw := h.wait k x hx
  have hb := h.begun; have he := h.ended; have ht := h.turn; have hbag := h.bag
  have h5 := h.mono (d := c + 5) (by omega)
  unfold Wo.overs
  split
  · refine h5.put hx rfl (by show ((x.wait.length + 1 : Nat) : Int) ≤ _; omega) ?_ (by dsimp only; omega) (by dsimp only; omega) (by dsimp only; omega)
    have := oth_len (n := X.N.length) (k := k) ⟨7, (k : Int), 0, b.own, b.top, 0, 0⟩
    show ((X.bag ++ _).length : Int) ≤ _
    rw [List.length_append]; omega
  · exact h5.put (X' := X.put k { x with m := (b.turn was).2 }) hx rfl (by show (x.wait.length : Int) ≤ _; omega) (by show (X.bag.length : Int) ≤ _; omega) (by show 0 ≤ X.begun ∧ X.begun ≤ _; omega) (by show 0 ≤ X.ended ∧ X.ended ≤ _; omega) (by show 0 ≤ X.turn ∧ X.turn ≤ _; omega)
theorem gain_eq {r : Int} (hx : X.N[k]? = some x) : X.gain k r = X.put k { x with ri := x.ri + r } := by unfold Wo.gain; rw [hx]
theorem Wi.gain {r : Int} (hI : Wi r X) (hx : X.N[k]? = some x) : Wi 0 (X.gain k r) := by
  have hok := hI.ok k x hx
  rw [gain_eq hx]
  exact hI.plain (x' := { x with ri := x.ri + r }) hx rfl (by show 0 ≤ x.ri + r; have := hok.ri; have := hI.ex; omega) hok.he (fun _ => rfl) (fun _ _ => rfl) rfl rfl rfl rfl hI.wrong (by show (x.ri + r + x.he) + 0 = _; omega) (Int.le_refl 0)
theorem Bd.gain {r : Int} (h : Bd c X) (hx : X.N[k]? = some x) : Bd c (X.gain k r) ∧ (X.gain k r).N.length = X.N.length := by
  rw [gain_eq hx]
  exact ⟨h.put (X' := X.put k { x with ri := x.ri + r }) hx rfl (h.wait k x hx) h.bag h.begun h.ended h.turn, by simp [Wo.put]⟩
theorem heard_ok {m : Ms} (hI : Wi m.ri X) (hx : X.N[k]? = some x) (hm : MsOk X m) (hB : Bd c X) : Wi 0 (X.heardX m k x) ∧ Bd (c + 5) (X.heardX m k x) ∧ (X.heardX m k x).N.length = X.N.length := by
  have hok := hI.ok k x hx
  unfold Wo.heardX
  by_cases hk : m.kind = 3 ∨ m.kind = 5 ∨ m.kind = 7
  · obtain ⟨b, hu, he⟩ := hears_turn hI hx hm hk
    rw [he, acts_wo hx]
    obtain ⟨x2, hx2, _, _, hl⟩ := overs_get (X := X) hx b x.m.top
    have h1 := hI.overs hx hu x.m.top
    have h2 := hB.overs hx hI.n.2 b x.m.top
    have h3 := h2.gain (r := m.ri) hx2
    exact ⟨h1.gain hx2, h3.1, by rw [h3.2, hl]⟩
  · have e : x.hears m = ([], if m.kind = 4 then x.m.report m.fr m.e m.he else x.m) := by
      unfold No.hears
      rw [if_neg (fun h => hk (.inl h)), if_neg (fun h => hk (.inr (.inl h))), if_neg (fun h => hk (.inr (.inr h)))]
    rw [e, List.foldl_nil]
    have h1 : Wi m.ri (X.put k { x with m := if m.kind = 4 then x.m.report m.fr m.e m.he else x.m }) := by
      by_cases h4 : m.kind = 4
      · rw [if_pos h4]
        exact hI.report hx hm h4 (X' := X.put k { x with m := x.m.report m.fr m.e m.he }) rfl rfl rfl rfl hI.wrong
      · rw [if_neg h4]
        exact hI.plain (x' := x) hx rfl hok.ri hok.he (fun _ => rfl) (fun _ _ => rfl) rfl rfl rfl rfl hI.wrong rfl hI.ex
    have hx1 : (X.put k { x with m := if m.kind = 4 then x.m.report m.fr m.e m.he else x.m }).N[k]? = some { x with m := if m.kind = 4 then x.m.report m.fr m.e m.he else x.m } := set_self hx
    have hB1 : Bd (c + 5) (X.put k { x with m := if m.kind = 4 then x.m.report m.fr m.e m.he else x.m }) := by
      have h5 := hB.mono (d := c + 5) (by omega)
      exact h5.put (X' := X.put k { x with m := if m.kind = 4 then x.m.report m.fr m.e m.he else x.m }) hx rfl (h5.wait k x hx) h5.bag h5.begun h5.ended h5.turn
    have h3 := hB1.gain (r := m.ri) hx1
    exact ⟨h1.gain hx1, h3.1, by rw [h3.2]; simp [Wo.put]⟩
theorem comes_ok {m : Ms} (hI : Wi m.ri X) (hm : MsOk X m) (hB : Bd c X) (hc : c ≤ 999999970000) : Wi 0 (X.comes m) ∧ Bd (c + 10005) (X.comes m) ∧ (X.comes m).N.length = X.N.length := by
  obtain ⟨t, ht, htn⟩ := hm.to
  have htt : m.to.toNat = t := by omega
  have hx := List.getElem?_eq_getElem htn
  unfold Wo.comes
  rw [htt, hx]
  obtain ⟨h1, h2, h3⟩ := heard_ok hI hx hm hB
  obtain ⟨a1, a2, a3⟩ := settle_ok h1 h2 (by omega) t
  exact ⟨a1, a2.mono (by omega), by show ((X.heardX m t X.N[t]).settle t).N.length = _; rw [a3, h3]⟩
theorem wi2_in {x n : Int} (hn : 1 ≤ n) : 0 ≤ wi2 x n ∧ wi2 x n < n := by
  unfold wi2
  have h0 : 0 ≤ (if x < 0 then -(x + 1) else x) := by split <;> omega
  exact ⟨Int.tmod_nonneg _ h0, Int.tmod_lt_of_pos _ (by omega)⟩
theorem take_ok {k : Nat} {m : Ms} (hI : Wi 0 X) (hm : X.bag[k]? = some m) : Wi m.ri (X.takeOut k) ∧ MsOk (X.takeOut k) m := by
  have hmem : m ∈ X.bag := List.mem_of_getElem? hm
  have hok := hI.bag m hmem
  obtain ⟨hlt, hme⟩ := List.getElem?_eq_some_iff.1 hm
  have hs : bsum X.bag = bsum (X.bag.take k ++ X.bag.drop (k + 1)) + m.ri := by
    conv => lhs; rw [← List.take_append_drop k X.bag, List.drop_eq_getElem_cons hlt]
    rw [bsum_app, bsum_app, hme]
    have : bsum (m :: X.bag.drop (k + 1)) = m.ri + bsum (X.bag.drop (k + 1)) := by simp [bsum]
    omega
  refine ⟨hI.bags (X' := X.takeOut k) rfl rfl rfl hI.wrong (fun z hz => hI.bag z ?_) (by show bsum (X.bag.take k ++ X.bag.drop (k + 1)) + m.ri = _; omega) hok.ri, MsOk.same (X := X) (X' := X.takeOut k) rfl hok⟩
  rcases List.mem_append.1 hz with hz | hz
  · exact List.mem_of_mem_take hz
  · exact List.mem_of_mem_drop hz
theorem moves_ok (hI : Wi 0 X) (hx : X.N[k]? = some x) (hB : Bd c X) (hf : someE x.m.top = false) (s : Stp) : Wi 0 (X.moves k x s) ∧ Bd (c + 1) (X.moves k x s) ∧ (X.moves k x s).N.length = X.N.length := by
  have hok := hI.ok k x hx
  have hri := hok.ri; have hhe := hok.he
  have hlt := get_lt hx
  have hno : ∀ i, i < X.N.length → x.m.lv i = false := fun i hi => not_frozen hok.wf hf (by rw [hok.nn]; exact hi)
  have hB1 := hB.mono (d := c + 1) (by omega)
  have hw := hB1.wait k x hx
  have h4 := wi2_in (x := s.a) (n := 4) (by decide)
  have hbag := hB.bag
  unfold Wo.moves
  have hmv : ∀ d, 0 ≤ x.ri - d → 0 ≤ x.he + d → Wi 0 (X.put k (x.mv d)) ∧ Bd (c + 1) (X.put k (x.mv d)) ∧ (X.put k (x.mv d)).N.length = X.N.length := fun d h1 h2 =>
    ⟨hI.plain (x' := x.mv d) hx rfl h1 h2 (fun _ => rfl) (fun _ ⟨i, hi, _, hl⟩ => by rw [hno i hi] at hl; cases hl) rfl rfl rfl rfl hI.wrong (by show (x.ri - d + (x.he + d)) + 0 = _; omega) (Int.le_refl 0),
     hB1.put (X' := X.put k (x.mv d)) hx rfl hw hB1.bag hB1.begun hB1.ended hB1.turn, by simp [Wo.put]⟩
  split
  · exact hmv _ (by omega) (by omega)
  · split
    · exact hmv _ (by omega) (by omega)
    · split
      · split
        · rename_i hc
          have hto := wi2_in (x := s.b) (n := (X.N.length : Int)) (by omega)
          obtain ⟨t, ht⟩ := Int.eq_ofNat_of_zero_le hto.1
          generalize hq : min (wi2 s.a 4) x.ri = q at hc
          have hq0 : 0 ≤ q ∧ q ≤ x.ri := by omega
          have h1 : Wi q (X.put k { x with ri := x.ri - q }) := hI.plain (x' := { x with ri := x.ri - q }) hx rfl (by show 0 ≤ x.ri - q; omega) hhe (fun _ => rfl) (fun _ _ => rfl) rfl rfl rfl rfl hI.wrong (by show (x.ri - q + x.he) + q = _; omega) hq0.1
          have hl1 : (X.put k { x with ri := x.ri - q }).N.length = X.N.length := by simp [Wo.put]
          refine ⟨sent h1 (ms := [⟨9, (k : Int), wi2 s.b X.N.length, (0, 0), (0, 0), q, 0⟩]) (fun m hm => ?_) (by simp [bsum]) (Int.le_refl 0), ?_, by simp⟩
          · simp at hm; subst hm
            rw [ht]
            exact ok_give (by rw [hl1]; exact hlt) hq0.1 (by rw [hl1]; omega)
          · refine hB1.put (x' := { x with ri := x.ri - q }) hx rfl hw ?_ hB1.begun hB1.ended hB1.turn
            show ((X.bag ++ _).length : Int) ≤ _
            rw [List.length_append]; simp; omega
        · exact ⟨hI, hB1, rfl⟩
      · exact ⟨hI, hB1, rfl⟩
theorem step_ok (hI : Wi 0 X) (hB : Bd c X) (hc : c ≤ 999999960000) (s : Stp) : Wi 0 (X.step s) ∧ Bd (c + 10010) (X.step s) ∧ (X.step s).N.length = X.N.length := by
  have hn := hI.n
  have hw := wi2_in (x := s.who) (n := (X.N.length : Int)) (by omega)
  have hit : (wi2 s.who X.N.length).toNat < X.N.length := by omega
  unfold Wo.step
  rw [List.getElem?_eq_getElem hit]
  show Wi 0 (X.stepX s (wi2 s.who X.N.length).toNat X.N[(wi2 s.who X.N.length).toNat]) ∧ Bd (c + 10010) (X.stepX s (wi2 s.who X.N.length).toNat X.N[(wi2 s.who X.N.length).toNat]) ∧ (X.stepX s (wi2 s.who X.N.length).toNat X.N[(wi2 s.who X.N.length).toNat]).N.length = X.N.length
  have hx := List.getElem?_eq_getElem hit
  generalize (wi2 s.who X.N.length).toNat = i at hit hx
  generalize X.N[i] = x at hx
  have hok := hI.ok i x hx
  have hbag := hB.bag
  unfold Wo.stepX
  split
  · rename_i hk
    have hwb := wi2_in (x := s.a) (n := (X.bag.length : Int)) (by omega)
    have hbt : (wi2 s.a X.bag.length).toNat < X.bag.length := by omega
    rw [List.getElem?_eq_getElem hbt]
    obtain ⟨h1, h2⟩ := take_ok hI (List.getElem?_eq_getElem hbt)
    have h3 : Bd c (X.takeOut (wi2 s.a X.bag.length).toNat) := ⟨by
      show ((X.bag.take _ ++ X.bag.drop _).length : Int) ≤ _
      rw [List.length_append, List.length_take, List.length_drop]; omega, hB.begun, hB.ended, hB.turn, hB.wait⟩
    obtain ⟨a1, a2, a3⟩ := comes_ok h1 h2 h3 (by omega)
    exact ⟨a1, a2.mono (by omega), a3⟩
  · split
    · have hB1 := hB.mono (d := c + 1) (by omega)
      have h1 : Wi 0 (X.put i { x with wait := x.wait ++ [s.all] }) := hI.plain (x' := { x with wait := x.wait ++ [s.all] }) hx rfl hok.ri hok.he (fun _ => rfl) (fun _ _ => rfl) rfl rfl rfl rfl hI.wrong rfl (Int.le_refl 0)
      have h2 : Bd (c + 1) (X.put i { x with wait := x.wait ++ [s.all] }) := hB1.put (X' := X.put i { x with wait := x.wait ++ [s.all] }) hx rfl (by show ((x.wait ++ [s.all]).length : Int) ≤ _; rw [List.length_append]; have := hB.wait i x hx; simp; omega) hB1.bag hB1.begun hB1.ended hB1.turn
      have hl : (X.put i { x with wait := x.wait ++ [s.all] }).N.length = X.N.length := by simp [Wo.put]
      split
      · exact ⟨h1, h2.mono (by omega), hl⟩
      · obtain ⟨a1, a2, a3⟩ := settle_ok h1 h2 (by omega) i
        exact ⟨a1, a2.mono (by omega), by rw [a3, hl]⟩
    · split
      · split
        · rename_i ho
          have hl : x.m.lv i = true := by
            have := own_live hok.wf
            rw [hok.me] at this
            rcases this with ⟨h, _⟩ | ⟨_, h, _⟩
            · exact h
            · rw [h] at ho; exact absurd ho (by decide)
          obtain ⟨a1, a2, a3⟩ := settle_ok (hI.fin hx hl) (hB.fin hx hn.2) (by omega) i
          exact ⟨a1, a2.mono (by omega), by rw [a3, fin_len]⟩
        · exact ⟨hI, hB.mono (by omega), rfl⟩
      · split
        · rename_i hk
          obtain ⟨a1, a2, a3⟩ := moves_ok hI hx hB hk.2 s
          exact ⟨a1, a2.mono (by omega), a3⟩
        · exact ⟨hI, hB.mono (by omega), rfl⟩
end
end Go.Proofs.Ytmfbmfppjdkeeaa
