/- Scripts as they were handed in. -/
import Derived.Test.YtimebochhbfkgaaJkPl
import Derived.Test.YtimebochhbfkgaaJkRow
import Derived.Deep.CondSized
namespace Go.Proofs.Ytimebochhbfkgaa
open Go.ChangeShapes Go.WideShapes Go.ChangeAt Go.RowKit Go Go.Fw
set_option linter.unusedVariables false
set_option linter.unusedSimpArgs false
set_option maxRecDepth 20000

theorem u71 : Try.prog.underlying 71 = some (.slice 69) := by kernel_rfl
noncomputable def fields69 : Array Field := match Try.prog.underlying 69 with | some (.struct fs) => fs | _ => #[]
theorem u69 : Try.prog.underlying 69 = some (.struct fields69) := by kernel_rfl
theorem f69 : fields69.toList.map (fun f => (f.type, f.offset)) = [(3, 0), (3, 1), (3, 2), (31, 3)] := by kernel_rfl
theorem field_of' {fs : Array Field} {l : List (TypeId × Nat)} (h : fs.toList.map (fun f => (f.type, f.offset)) = l) {i : Nat} {p : TypeId × Nat} (hi : l[i]? = some p) : ∃ f, fs[i]? = some f ∧ f.type = p.1 ∧ f.offset = p.2 := by
  rw [← h, List.getElem?_map, Option.map_eq_some_iff] at hi
  obtain ⟨f, hf, rfl⟩ := hi
  exact ⟨f, by simpa using hf, rfl, rfl⟩
theorem av_of {H : Type} {enc : TypeId × Value → H} {W : World} {base : Nat} {spare : Nat → Bool} {held : Bool} {n : Nat} {c : List Value} {y : DataW H × List MemPlace} (hc : c.length = 4)
    (hd : DataW.trod enc Try.prog W base spare held n 69 c = some y) (hw : Wt Try.prog 69 y.1) : ∃ o : Av, c = avc o ∧ Rd W o.B 1 (bys o.b) ∧ o.b.length ≤ 140737488351232 ∧ o.A ≤ 9223372036854775807 := by
  have hf := open_fields u69 hd hw
  have c3 : Try.prog.cellsOf 3 = 1 := by kernel_rfl
  have c31 : Try.prog.cellsOf 31 = 1 := by kernel_rfl
  obtain ⟨g0, h0, t0, o0⟩ := field_of' f69 (i := 0) rfl
  obtain ⟨g1, h1, t1, o1⟩ := field_of' f69 (i := 1) rfl
  obtain ⟨g2, h2, t2, o2⟩ := field_of' f69 (i := 2) rfl
  obtain ⟨g3, h3, t3, o3⟩ := field_of' f69 (i := 3) rfl
  obtain ⟨n0, y0, e0, _⟩ := hf 0 g0 h0
  obtain ⟨n1, y1, e1, _⟩ := hf 1 g1 h1
  obtain ⟨n2, y2, e2, _⟩ := hf 2 g2 h2
  obtain ⟨n3, y3, e3, w3⟩ := hf 3 g3 h3
  rw [t0, o0, c3] at e0
  rw [t1, o1, c3] at e1
  rw [t2, o2, c3] at e2
  rw [t3, o3, c31] at e3
  rw [t3] at w3
  obtain ⟨a0, ha0, _, _⟩ := DataW.trod_int u3 e0
  obtain ⟨a1, ha1, _, hw1⟩ := DataW.trod_int u3 e1
  obtain ⟨a2, ha2, _, _⟩ := DataW.trod_int u3 e2
  obtain ⟨s, l, hs, hr, hl⟩ := open_bys u31 u5 (by kernel_rfl) (by kernel_rfl) e3 w3
  refine ⟨⟨a0, a1, a2, s, l⟩, ?_, hr, Nat.le_trans hl (Nat.le_of_eq rfl), (wf_i64 hw1).2⟩
  match c, hc with
  | [x0, x1, x2, x3], _ =>
    simp at ha0 ha1 ha2 hs
    subst ha0; subst ha1; subst ha2; subst hs
    rfl
theorem bulk_pos {H : Type} (d : DataW H) : 1 ≤ Rows.uptoBulk d := by
  unfold Rows.uptoBulk
  split <;> omega
theorem bulk_len {H : Type} (l : List (DataW H)) : l.length ≤ Rows.uptoBulkAll l := by
  induction l with
  | nil => exact Nat.zero_le _
  | cons d r ih =>
    have := bulk_pos d
    simp only [Rows.uptoBulkAll, List.length_cons]; omega
theorem slice_bulk {H : Type} {enc : TypeId × Value → H} {P : Program} {w : World} {base : Nat} {spare : Nat → Bool} {held : Bool} {fuel : Nat} {t e : TypeId} {a : Option Addr} {len cap : Nat} {x : DataW H × List MemPlace}
    (ht : P.underlying t = some (.slice e)) (h : DataW.trod enc P w base spare held fuel t [.slice a len cap] = some x) : len ≤ Rows.uptoBulk x.1 := by
  rcases DataW.trod_slice ht h with ⟨hc, rfl⟩ | ⟨a', len', cap', elems, rest, n, _, hc, rfl, hb, hl, hm, hlen, hel, _, _⟩
  · simp at hc
    have := bulk_pos (DataW.nil : DataW H)
    omega
  · simp at hc
    obtain ⟨rfl, rfl, rfl⟩ := hc
    have h1 := bulk_len (elems.map (·.1))
    rw [List.length_map] at h1
    have h2 : ∀ s : List (DataW H), Rows.uptoBulk (DataW.slice (elems.map (·.1)) s) = Rows.uptoBulkAll (elems.map (·.1)) + Rows.uptoBulkAll s + 1 := fun s => by
      simp only [Rows.uptoBulk]
    simp only [h2]
    omega
theorem scr_of {H : Type} {enc : TypeId × Value → H} {W : World} {base b : Nat} {spare : Nat → Bool} {held : Bool} {v : Value} {d : DataW H} {ps : List MemPlace} (hval : Value.okWide Try.prog W .any b 71 v)
    (hd : DataW.Trod enc Try.prog W base spare held 71 v d ps) (hw : Wt Try.prog 71 d) (hk : Rows.uptoBulk d ≤ 1048576) : ∃ (s : Sl) (os : List Av), v = .slice s.a s.len s.cap ∧ Scr W s os := by
  obtain ⟨a0, len, cap, rfl⟩ := okWide_slice u71 hval
  obtain ⟨fuel0, hf⟩ := hd
  have hlb := slice_bulk u71 hf
  obtain ⟨s, els, hcs, hl, hr, hlen, hel⟩ := open_rd u71 (sz := 4) (by kernel_rfl) (by decide) hf hw
  have : ∃ os : List Av, els.flatten = avs os ∧ os.length = els.length ∧ ∀ o ∈ os, Rd W o.B 1 (bys o.b) ∧ o.b.length ≤ 140737488351232 ∧ o.A ≤ 9223372036854775807 := by
    clear hcs hl hr hlen hf
    induction els with
    | nil => exact ⟨[], rfl, rfl, fun x hx => by cases hx⟩
    | cons c r ih =>
      obtain ⟨os, e, el, hx⟩ := ih fun c hc => hel c (List.mem_cons_of_mem _ hc)
      obtain ⟨hc1, n, y, hy, hwy⟩ := hel c (List.mem_cons_self ..)
      obtain ⟨o, rfl, h1⟩ := av_of hc1 hy hwy
      refine ⟨o :: os, by rw [List.flatten_cons, e]; simp [avs], by simp [el], fun z hz => ?_⟩
      rcases List.mem_cons.1 hz with rfl | hz
      · exact h1
      · exact hx z hz
  obtain ⟨os, e, el, hx⟩ := this
  rw [e] at hr
  simp [Value.cells] at hcs
  obtain ⟨rfl, rfl, rfl⟩ := hcs
  exact ⟨s, os, rfl, hr, hx, by rw [el, hl]; exact Nat.le_trans hlb hk⟩
end Go.Proofs.Ytimebochhbfkgaa
