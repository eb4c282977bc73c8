/- From a walk to a row: the arguments read behind a call that changed nothing as they read before it. -/
import Derived.Test.YtodgnpmljdopiaaFwM
import Derived.ProofKit
import Derived.LaidMore
import Derived.OpenShut
import Derived.Stop.Joined
import Derived.SizedLaws
namespace Go.Fw
open Go.ChangeShapes Go.WideShapes Go.ChangeAt Go.RowKit Go

theorem trodAll_below {H : Type} {enc : TypeId × Value → H} {P : Program} {W W' : World} (hl : laidOutB P = true) (hb : Below W.heap.size W W') :
    ∀ {ts : List TypeId} {vs : List Value} {ds : List (DataW H)} {ps : List MemPlace}, (ts.all fun t => P.readableRec t && decide (t < P.types.size)) = true → DataW.TrodAll enc P W 0 (fun _ => true) true ts vs ds ps →
      (∀ x ∈ ps, x.block < W.heap.size) → DataW.TrodAll enc P W' 0 (fun b => decide (b < W.heap.size)) true ts vs ds ps
  | [], [], [], ps, _, h, _ => h
  | t :: ts, v :: vs, d :: ds, ps, ht, h, hlt => by
    obtain ⟨p, q, h1, h2, rfl⟩ := h
    simp only [List.all_cons, Bool.and_eq_true, decide_eq_true_eq] at ht
    exact ⟨p, q, Below.trod hl ht.1.1 ht.1.2 h1 hb (fun x hx => hlt x (List.mem_append_left _ hx)), trodAll_below hl hb (by simpa using ht.2) h2 (fun x hx => hlt x (List.mem_append_right _ hx)), rfl⟩
  | [], [], _ :: _, _, _, h, _ => h.elim
  | [], _ :: _, _, _, _, h, _ => h.elim
  | _ :: _, [], _, _, _, h, _ => h.elim
  | _ :: _, _ :: _, [], _, _, h, _ => h.elim

theorem byte_of {n : Int} (h : (Lit.int .u8 n).wf = true) : ∃ d : UInt8, n = (d.toNat : Int) := by
  have hmin : IntKind.u8.min = 0 := rfl
  have hmax : IntKind.u8.max = 255 := rfl
  simp [Lit.wf, hmin, hmax] at h
  refine ⟨UInt8.ofNat n.toNat, ?_⟩
  rw [UInt8.toNat_ofNat']; omega

/-! ### what was handed in, opened -/
def Wt {H : Type} (P : Program) (t : TypeId) (d : DataW H) : Prop := ∀ n ∈ d.weights P t, n ≤ reachBytes
theorem weightsAll_mem {H : Type} {P : Program} {e : TypeId} : ∀ {l : List (DataW H)} {d : DataW H}, d ∈ l → ∀ n ∈ d.weights P e, n ∈ DataW.weightsAll P e l
  | x :: r, d, hm, n, hn => by
    simp only [DataW.weightsAll, List.mem_append]
    rcases List.mem_cons.1 hm with rfl | hm
    · exact .inl hn
    · exact .inr (weightsAll_mem hm n hn)
theorem wt_of_all {H : Type} {P : Program} {ts : List TypeId} {ds : List (DataW H)} (h : (DataW.weightsEach P ts ds).all (· ≤ reachBytes) = true) {j : Nat} {t : TypeId} {d : DataW H} (ht : ts[j]? = some t) (hd : ds[j]? = some d) : Wt P t d := by
  intro n hn
  have := List.all_eq_true.1 h _ (DataW.weights_mem_each ht hd n hn)
  simpa using this
/-- A slice, its elements' cells, and how long it may be. -/
theorem open_rd {H : Type} {enc : TypeId × Value → H} {P : Program} {w : World} {base : Nat} {spare : Nat → Bool} {held : Bool} {fuel : Nat} {t e : TypeId} {sz : Nat} {cs : List Value} {x : DataW H × List MemPlace}
    (ht : P.underlying t = some (.slice e)) (hc : P.cellsOf e = sz) (hsz : 0 < sz) (h : DataW.trod enc P w base spare held fuel t cs = some x) (hw : Wt P t x.1) :
    ∃ (s : Sl) (els : List (List Value)), cs = [.slice s.a s.len s.cap] ∧ els.length = s.len ∧ Rd w s sz els.flatten ∧ s.len * P.bytesOf e ≤ reachBytes ∧ ∀ c ∈ els, c.length = sz ∧ ∃ (n : Nat) (y : DataW H × List MemPlace), DataW.trod enc P w base spare held n e c = some y ∧ Wt P e y.1 := by
  rcases DataW.trod_slice ht h with ⟨rfl, rfl⟩ | ⟨a, len, cap, elems, rest, n, _, rfl, rfl, hb, hl, hm, hlen, hel, _, _⟩
  · exact ⟨⟨none, 0, 0⟩, [], rfl, rfl, Rd.nil _ _, by simp, fun c hc => by cases hc⟩
  have hwl : (elems.length + rest.length) * P.bytesOf e ≤ reachBytes := by
    have := hw _ (by simp only [DataW.weights, ht, List.length_map]; exact List.mem_cons_self ..)
    exact this
  have each : ∀ i, i < len → ∃ c, w.cells? base (a.add (i * sz)) sz = some c ∧ ∃ y, DataW.trod enc P w base spare held n e c = some y ∧ Wt P e y.1 := by
    intro i hi
    have h1 := hel i hi
    obtain ⟨y, hy⟩ : ∃ y, elems[i]? = some y := ⟨elems[i]'(by omega), List.getElem?_eq_getElem (by omega)⟩
    rw [hy, hc, Option.bind_eq_some_iff] at h1
    obtain ⟨c, hc1, hc2⟩ := h1
    refine ⟨c, hc1, y, hc2, fun m hm => hw m ?_⟩
    simp only [DataW.weights, ht, List.mem_cons, List.mem_append]
    exact .inr (.inl (weightsAll_mem (List.mem_map.2 ⟨y, List.mem_of_getElem? hy, rfl⟩) m hm))
  refine ⟨⟨some a, len, cap⟩, (List.range len).map fun i => ((w.cells? base (a.add (i * sz)) sz).getD []), rfl, by simp, ?_, ?_, ?_⟩
  · have hrow : ∀ k, k ≤ len → ((List.range k).map fun i => ((w.cells? base (a.add (i * sz)) sz).getD [])).flatten.length = k * sz ∧
        ∀ j v, ((List.range k).map fun i => ((w.cells? base (a.add (i * sz)) sz).getD [])).flatten[j]? = some v → w.cell? (a.add j) = some v := by
      intro k
      induction k with
      | zero => intro _; exact ⟨by simp, fun j v h => by simp at h⟩
      | succ k ih =>
        intro hk
        obtain ⟨ih1, ih2⟩ := ih (by omega)
        obtain ⟨c, hc1, _⟩ := each k (by omega)
        obtain ⟨_, hcl, hcc⟩ := World.cells?_some hc1
        rw [List.range_succ, List.map_append, List.flatten_append]
        simp only [List.map_cons, List.map_nil, List.flatten_cons, List.flatten_nil, List.append_nil, hc1, Option.getD_some]
        refine ⟨by rw [List.length_append, ih1, hcl, Nat.add_mul, Nat.one_mul], fun j v hv => ?_⟩
        rcases Nat.lt_or_ge j (k * sz) with hj | hj
        · rw [List.getElem?_append_left (by omega)] at hv; exact ih2 j v hv
        · rw [List.getElem?_append_right (by omega), ih1] at hv
          have hjl := (List.getElem?_eq_some_iff.1 hv).1
          have := hcc (j - k * sz) (by omega)
          rw [hv] at this
          rw [← this]
          congr 1
          rcases a with ⟨b, o, sp⟩
          unfold Addr.add
          by_cases h1 : k * sz = 0
          · simp only [h1, if_true, Nat.sub_zero]
          · by_cases h2 : j - k * sz = 0
            · have : j = k * sz := by omega
              subst this
              simp [h1]
            · have : j ≠ 0 := by omega
              simp only [h1, h2, this, if_false, Addr.mk.injEq]
              exact ⟨trivial, by omega, trivial⟩
    obtain ⟨h1, h2⟩ := hrow len (Nat.le_refl _)
    refine ⟨h1, ?_, hl⟩
    by_cases h0 : len = 0
    · left; subst h0; rfl
    right
    have hsp : a.spot = none := by
      obtain ⟨c, hc1, _⟩ := each 0 (by omega)
      obtain ⟨_, hcl, hcc⟩ := World.cells?_some hc1
      have h3 := hcc 0 hsz
      have h4 : (a.add (0 * sz)).add 0 = a := by simp [Addr.add]
      rw [h4, List.getElem?_eq_getElem (by omega)] at h3
      unfold World.cell? at h3
      cases hs : a.spot with
      | none => rfl
      | some k =>
        simp only [hs, Option.isSome_some, if_true] at h3
        split at h3 <;> simp at h3
    obtain ⟨b, o, sp⟩ := a
    dsimp only at hsp
    subst hsp
    exact ⟨b, o, rfl, fun i v hv => by have := h2 i v hv; rwa [add_lit'] at this⟩
  · have : len * P.bytesOf e ≤ (elems.length + rest.length) * P.bytesOf e := Nat.mul_le_mul_right _ (by omega)
    dsimp only; omega
  · intro c hcm
    obtain ⟨i, hi, rfl⟩ := List.mem_map.1 hcm
    have hi := List.mem_range.1 hi
    obtain ⟨c, hc1, y, hy, hwy⟩ := each i hi
    obtain ⟨_, hcl, _⟩ := World.cells?_some hc1
    simp only [hc1, Option.getD_some]
    exact ⟨hcl, n, y, hy, hwy⟩
/-- A struct's fields. -/
theorem open_fields {H : Type} {enc : TypeId × Value → H} {P : Program} {w : World} {base : Nat} {spare : Nat → Bool} {held : Bool} {fuel : Nat} {t : TypeId} {fs : Array Field} {cs : List Value} {x : DataW H × List MemPlace}
    (ht : P.underlying t = some (.struct fs)) (h : DataW.trod enc P w base spare held fuel t cs = some x) (hw : Wt P t x.1) :
    ∀ (i : Nat) (f : Field), fs[i]? = some f → ∃ (n : Nat) (y : DataW H × List MemPlace), DataW.trod enc P w base spare held n f.type ((cs.drop f.offset).take (P.cellsOf f.type)) = some y ∧ Wt P f.type y.1 := by
  obtain ⟨xs, n, rfl, rfl, hcl, hxl, hel⟩ := DataW.trod_struct ht h
  intro i f hf
  have h1 := hel i f hf
  have hlt : i < xs.length := by rw [hxl]; exact (Array.getElem?_eq_some_iff.1 hf).1
  rw [List.getElem?_eq_getElem hlt] at h1
  refine ⟨n, xs[i], h1, fun m hm => hw m ?_⟩
  simp only [DataW.weights, ht]
  exact DataW.weights_mem_each (j := i) (t := f.type) (d := xs[i].1) (by simp [hf]) (by simp [hlt]) m hm
/-- Bytes. -/
theorem open_bys {H : Type} {enc : TypeId × Value → H} {P : Program} {w : World} {base : Nat} {spare : Nat → Bool} {held : Bool} {fuel : Nat} {t e : TypeId} {cs : List Value} {x : DataW H × List MemPlace}
    (ht : P.underlying t = some (.slice e)) (he : P.underlying e = some (.int .u8)) (hc : P.cellsOf e = 1) (hb : P.bytesOf e = 1) (h : DataW.trod enc P w base spare held fuel t cs = some x) (hw : Wt P t x.1) :
    ∃ (s : Sl) (l : List UInt8), cs = [.slice s.a s.len s.cap] ∧ Rd w s 1 (bys l) ∧ l.length ≤ reachBytes := by
  obtain ⟨s, els, rfl, hl, hr, hlen, hel⟩ := open_rd ht hc (by decide) h hw
  have : ∃ l : List UInt8, els.flatten = bys l := by
    clear hl hr hlen h hw
    induction els with
    | nil => exact ⟨[], rfl⟩
    | cons c r ih =>
      obtain ⟨l, hl⟩ := ih fun c hc => hel c (List.mem_cons_of_mem _ hc)
      obtain ⟨hc1, n, y, hy, _⟩ := hel c (List.mem_cons_self ..)
      obtain ⟨m, rfl, _, hwf⟩ := DataW.trod_int he hy
      obtain ⟨d, rfl⟩ := byte_of hwf
      exact ⟨d :: l, by rw [List.flatten_cons, hl]; rfl⟩
  obtain ⟨l, hbl⟩ := this
  rw [hbl] at hr
  refine ⟨s, l, rfl, hr, ?_⟩
  have := hr.bys_len
  rw [hb] at hlen; omega
end Go.Fw
