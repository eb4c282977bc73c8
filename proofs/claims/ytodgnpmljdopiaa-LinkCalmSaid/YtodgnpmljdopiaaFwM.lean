/- Memory as a reader of code meets it: slices that are read, slices that are owned, what an operation leaves as it was; and what each operation on memory comes to. -/
import Derived.Test.YtodgnpmljdopiaaFwC
import Derived.Below
import Derived.Deep.AppendSrc
import Derived.Laws.BytesString
import Derived.Lib.ConvBytes
import Derived.Laws.Slices
import Derived.Laws.MakeOwn
import Derived.Laws.Tables
import Derived.Laws.Cells
import Derived.IntWalk
namespace Go.Fw
open Go Go.RowKit

/-! ### what has not changed -/
structure Upd (w w' : World) (S : Nat → Prop) : Prop where
  os : w'.os = w.os
  tape : w'.tape = w.tape
  output : w'.output = w.output
  size : w.heap.size ≤ w'.heap.size
  block : ∀ k, k < w.heap.size → ¬ S k → w'.heap[k]? = w.heap[k]?

def nobody : Nat → Prop := fun _ => False
theorem Upd.refl (w : World) (S : Nat → Prop) : Upd w w S := ⟨rfl, rfl, rfl, Nat.le_refl _, fun _ _ _ => rfl⟩
theorem Upd.trans {a b c : World} {S : Nat → Prop} (h : Upd a b S) (k : Upd b c S) : Upd a c S :=
  ⟨k.os.trans h.os, k.tape.trans h.tape, k.output.trans h.output, Nat.le_trans h.size k.size, fun i hi hs => (k.block i (by have := h.size; omega) hs).trans (h.block i hi hs)⟩
/-- The second step may also write whatever is new. -/
theorem Upd.trans' {a b c : World} {S T : Nat → Prop} (h : Upd a b S) (k : Upd b c T) (hT : ∀ i, T i → i < a.heap.size → S i) : Upd a c S :=
  ⟨k.os.trans h.os, k.tape.trans h.tape, k.output.trans h.output, Nat.le_trans h.size k.size,
    fun i hi hs => (k.block i (by have := h.size; omega) (fun ht => hs (hT i ht hi))).trans (h.block i hi hs)⟩
theorem Upd.mono {a b : World} {S T : Nat → Prop} (h : Upd a b S) (hST : ∀ i, i < a.heap.size → S i → T i) : Upd a b T :=
  ⟨h.os, h.tape, h.output, h.size, fun i hi hs => h.block i hi fun hS => hs (hST i hi hS)⟩
theorem Upd.drew (w : World) (S : Nat → Prop) : Upd w w.drew S := ⟨rfl, rfl, rfl, Nat.le_refl _, fun _ _ _ => rfl⟩
theorem Upd.alloc (w : World) (o : Obj) (S : Nat → Prop) : Upd w (w.alloc o) S :=
  ⟨rfl, rfl, rfl, by simp, fun k hk _ => heap_alloc_old w o k hk⟩
theorem Upd.setCell (w : World) (a : Addr) (v : Value) {S : Nat → Prop} (h : S a.block) : Upd w (w.setCell a v) S :=
  ⟨rfl, rfl, rfl, by simp, fun k _ hs => heap_setCell_other w a k v fun e => hs (e ▸ h)⟩
theorem Upd.setRow (w : World) (g : Nat) (cs : Array Value) {S : Nat → Prop} (h : S g) : Upd w (w.setRow g cs) S :=
  ⟨rfl, rfl, rfl, by simp, fun k _ hs => setRow_other w g k cs fun e => hs (e ▸ h)⟩
theorem Upd.below {w w' : World} (h : Upd w w' nobody) : Below w.heap.size w w' := ⟨h.os, h.tape, h.output, h.size, fun k hk => h.block k hk (fun h => h)⟩
theorem Upd.cell {w w' : World} {S : Nat → Prop} (h : Upd w w' S) {a : Addr} {v : Value} (hc : w.cell? a = some v) (hs : ¬ S a.block) : w'.cell? a = some v :=
  (World.cell?_of_block (w := w) (h.block a.block (World.block_lt_of_cell? w a hc) hs)).trans hc
theorem Upd.obj {w w' : World} {S : Nat → Prop} (h : Upd w w' S) {b : Nat} {o : Obj} (hc : w.heap[b]? = some o) (hs : ¬ S b) : w'.heap[b]? = some o :=
  (h.block b (Array.getElem?_eq_some_iff.1 hc).1 hs).trans hc
theorem lt_of_obj {w : World} {b : Nat} {o : Obj} (h : w.heap[b]? = some o) : b < w.heap.size := (Array.getElem?_eq_some_iff.1 h).1

/-! ### slices -/
def Sl.blk (s : Sl) : Option Nat := s.a.map (·.block)
/-- A slice that reads so: each element has 'sz' cells. -/
def Rd (w : World) (s : Sl) (sz : Nat) (vs : List Value) : Prop :=
  vs.length = s.len * sz ∧ (vs = [] ∨ ∃ b o, s.a = some ⟨b, o, none⟩ ∧ ∀ i v, vs[i]? = some v → w.cell? ⟨b, o + i, none⟩ = some v) ∧ s.len ≤ s.cap
/-- A slice whose memory, up to its capacity, is nobody else's. -/
def Ow (w : World) (base : Nat) (E : TypeId) (sz : Nat) (s : Sl) (vs : List Value) : Prop :=
  vs.length = s.len * sz ∧ ((s = ⟨none, 0, 0⟩) ∨ ∃ g o cs, s.a = some ⟨g, o, none⟩ ∧ base ≤ g ∧ w.heap[g]? = some (.cells ⟨cs⟩ E (0, 0)) ∧ s.len ≤ s.cap ∧ s.cap ≤ maxLen ∧
    o + s.cap * sz ≤ cs.length ∧ (cs.drop o).take (s.len * sz) = vs)

theorem Rd.len {w : World} {s : Sl} {sz : Nat} {vs : List Value} (h : Rd w s sz vs) : vs.length = s.len * sz := h.1
theorem Ow.len {w : World} {base : Nat} {E : TypeId} {sz : Nat} {s : Sl} {vs : List Value} (h : Ow w base E sz s vs) : vs.length = s.len * sz := h.1
theorem Ow.nil (w : World) (base : Nat) (E : TypeId) (sz : Nat) : Ow w base E sz ⟨none, 0, 0⟩ [] := ⟨by simp, .inl rfl⟩
theorem Rd.nil (w : World) (sz : Nat) : Rd w ⟨none, 0, 0⟩ sz [] := ⟨by simp, .inl rfl, Nat.le_refl _⟩
theorem Ow.rd {w : World} {base : Nat} {E : TypeId} {sz : Nat} {s : Sl} {vs : List Value} (h : Ow w base E sz s vs) : Rd w s sz vs := by
  rcases h.2 with rfl | ⟨g, o, cs, ha, hb, hg, h1, h2, h3, h4⟩
  · refine ⟨h.1, .inl ?_, Nat.le_refl _⟩
    have := h.1
    simp at this
    exact this
  · refine ⟨h.1, .inr ⟨g, o, ha, fun i v hv => ?_⟩, h1⟩
    rw [cell_of_row w g _ ⟨cs⟩ E (0, 0) hg]
    rw [← h4, List.getElem?_take] at hv
    split at hv
    · simpa [List.getElem?_drop] using hv
    · cases hv
theorem Rd.upd {w w' : World} {S : Nat → Prop} {s : Sl} {sz : Nat} {vs : List Value} (h : Rd w s sz vs) (hu : Upd w w' S) (hs : ∀ b, s.blk = some b → ¬ S b) : Rd w' s sz vs := by
  refine ⟨h.1, ?_, h.2.2⟩
  rcases h.2.1 with h0 | ⟨b, o, ha, hc⟩
  · exact .inl h0
  · exact .inr ⟨b, o, ha, fun i v hv => hu.cell (hc i v hv) (hs b (by simp [Sl.blk, ha]))⟩
theorem Ow.upd {w w' : World} {S : Nat → Prop} {base : Nat} {E : TypeId} {sz : Nat} {s : Sl} {vs : List Value} (h : Ow w base E sz s vs) (hu : Upd w w' S) (hs : ∀ b, s.blk = some b → ¬ S b) : Ow w' base E sz s vs := by
  refine ⟨h.1, ?_⟩
  rcases h.2 with h0 | ⟨g, o, cs, ha, hb, hg, r⟩
  · exact .inl h0
  · exact .inr ⟨g, o, cs, ha, hb, hu.obj hg (hs g (by simp [Sl.blk, ha])), r⟩
theorem Ow.lt {w : World} {base : Nat} {E : TypeId} {sz : Nat} {s : Sl} {vs : List Value} (h : Ow w base E sz s vs) {b : Nat} (hb : s.blk = some b) : base ≤ b ∧ b < w.heap.size := by
  rcases h.2 with rfl | ⟨g, o, cs, ha, hbase, hg, r⟩
  · simp [Sl.blk] at hb
  · simp [Sl.blk, ha] at hb; subst hb; exact ⟨hbase, lt_of_obj hg⟩
theorem Ow.base {w : World} {base base' : Nat} {E : TypeId} {sz : Nat} {s : Sl} {vs : List Value} (h : Ow w base E sz s vs) (hb : ∀ b, s.blk = some b → base' ≤ b) : Ow w base' E sz s vs := by
  refine ⟨h.1, ?_⟩
  rcases h.2 with h0 | ⟨g, o, cs, ha, hbase, r⟩
  · exact .inl h0
  · exact .inr ⟨g, o, cs, ha, hb g (by simp [Sl.blk, ha]), r⟩
theorem Rd.cell {w : World} {s : Sl} {sz : Nat} {vs : List Value} (h : Rd w s sz vs) {i : Nat} {v : Value} (hv : vs[i]? = some v) : ∃ b o, s.a = some ⟨b, o, none⟩ ∧ w.cell? ⟨b, o + i, none⟩ = some v := by
  rcases h.2.1 with h0 | ⟨b, o, ha, hc⟩
  · subst h0; simp at hv
  · exact ⟨b, o, ha, hc i v hv⟩

/-! ### types of slices -/
def etB (P : Program) (t e : TypeId) (sz by_ : Nat) : Bool :=
  match P.underlying t, P.info? e with
  | some (.slice e'), some i => Nat.beq e' e && Nat.beq i.size sz && Nat.beq i.bytes by_ && (match i.zero with | some z => Nat.beq z.cells.size sz | none => false)
  | _, _ => false
structure ET (P : Program) (t e : TypeId) (sz by_ : Nat) : Prop where
  ht : P.underlying t = some (.slice e)
  hi : ∃ i z, P.info? e = some i ∧ i.zero = some z ∧ i.size = sz ∧ i.bytes = by_ ∧ z.cells.size = sz
theorem ET.of {P : Program} {t e : TypeId} {sz by_ : Nat} (h : etB P t e sz by_ = true) : ET P t e sz by_ := by
  unfold etB at h
  split at h
  · rename_i e' i ht hi
    simp only [Bool.and_eq_true] at h
    obtain ⟨⟨⟨h1, h2⟩, h3⟩, h4⟩ := h
    have := Nat.eq_of_beq_eq_true h1; subst this
    split at h4
    · rename_i z hz
      exact ⟨ht, i, z, hi, hz, Nat.eq_of_beq_eq_true h2, Nat.eq_of_beq_eq_true h3, Nat.eq_of_beq_eq_true h4⟩
    · cases h4
  · cases h

section
variable {P : Program} {w : World}

theorem RunN.of {kd : Kd} {s : Sem Value} {K : kd.T → World → Prop} {x : kd.T} {w' : World} (hr : s.run P w = .ok (kd.val x) w') (h : K x w') : RunN P kd (V s) w K :=
  ⟨x, w', by simp [V, hr], h⟩
theorem RunU.of {s : Sem Unit} {K : World → Prop} {w' : World} (hr : s.run P w = .ok () w') (h : K w') : RunU P (U s) w K := ⟨w', by simp [U, hr], h⟩
theorem ReadN.of {kd : Kd} {s : Sem Value} {K : kd.T → Prop} {x : kd.T} (hr : s.run P w = .ok (kd.val x) w) (h : K x) : ReadN P kd (V s) w K := ⟨x, by simp [V, hr], h⟩
theorem StillV.of {s : Sem Value} {v : Value} (hr : s.run P w = .ok v w) : StillV P (V s) v w := by simp [StillV, V, hr]
theorem CallK.mono {kd : Kd} {f : FuncId} {args : Array Value} {K K' : kd.T → World → Prop} (h : CallK P kd f args w K) (hk : ∀ x w', K x w' → K' x w') : CallK P kd f args w K' :=
  Calls.mono h fun _ _ ⟨x, e, hx⟩ => ⟨x, e, hk _ _ hx⟩

/-- Append, onto what is owned, of whatever may be read. -/
theorem run_app {base : Nat} {t tx ty e : TypeId} {sz by_ : Nat} (et : ET P t e sz by_) (hsz : 0 < sz) {s : Sl} {xs : List Value} (ho : Ow w base e sz s xs) {x : Value} {n : Nat} {news : List Value} (hs : Src P sz tx x n news w)
    (hbase : base ≤ w.heap.size) (h63 : s.len + n ≤ maxLen) (hfit : (s.len + n) * by_ ≤ 140737488355328) :
    ∃ s' w', (Builtin.append_ #[t, tx] ty #[.slice s.a s.len s.cap, x]).run P w = .ok (.slice s'.a s'.len s'.cap) w' ∧ s'.len = s.len + n ∧ Ow w' base e sz s' (xs ++ news) ∧
      Upd w w' (fun k => s.blk = some k) ∧ ((s'.a = s.a ∧ s'.cap = s.cap) ∨ (Upd w w' nobody ∧ ∃ g, s'.blk = some g ∧ w.heap.size ≤ g ∧ g < w'.heap.size)) := by
  obtain ⟨i, z, hi, hz, h1, h2, h3⟩ := et.hi
  subst h1; subst h2
  have hs63 : ((s.len + n : Nat) : Int) ≤ 9223372036854775807 := by simp only [maxLen] at h63; omega
  rcases ho.2 with hnil | ⟨g, o, cs, ha, hbg, hg, hlc, hcm, hcs, htake⟩
  · subst hnil
    have hx : xs = [] := by have := ho.1; simpa using this
    subst hx
    by_cases hn : n = 0
    · subst hn
      have hnw : news = [] := by have := hs.newsLen; simpa using this
      subst hnw
      refine ⟨⟨none, 0, 0⟩, w, ?_, rfl, Ow.nil _ _ _ _, Upd.refl _ _, .inl ⟨rfl, rfl⟩⟩
      rcases hs.kind with ⟨e', hk⟩ | hk <;> simp [Builtin.append_, run_underlying et.ht, run_underlying hk, sizeOf, typeInfo, hi, hs.len, hs.cells]
    · have hr := run_append_grow_src (P := P) w t tx ty e i z et.ht hi hz none 0 0 [] (by simp [Builtin.firstCells]) x n news hs (by omega) (by simpa using hs63)
        (growslice_fits (by omega) (by simpa using hfit))
      simp only [Nat.zero_add] at hr
      refine ⟨⟨some ⟨w.heap.size, 0, none⟩, n, grownCap w n 0 e⟩, _, hr, by simp, ⟨by simp [hs.newsLen], .inr ⟨w.heap.size, 0, (([] ++ news).toArray ++ Builtin.zeroCells z.cells (grownCap w n 0 e - n)).toList, rfl, hbase, heap_alloc_new w.drew _, grownCap_ge _ _ _ _, grownCap_le_maxLen _ _ _ _ (by simpa using h63), ?_, ?_⟩⟩,
        (Upd.drew w _).trans (Upd.alloc _ _ _), .inr ⟨(Upd.drew w _).trans (Upd.alloc _ _ _), w.heap.size, rfl, Nat.le_refl _, by simp⟩⟩
      · have hge := grownCap_ge w n 0 e
        rw [Array.length_toList, Array.size_append, size_zeroCells, h3]
        simp only [List.nil_append, List.size_toArray, hs.newsLen, ← Nat.add_mul]
        rw [Nat.zero_add]
        exact Nat.mul_le_mul_right _ (by omega)
      · have : ([] ++ news : List Value).length = n * i.size := by simp [hs.newsLen]
        rw [List.drop_zero, Array.toList_append, ← this]
        exact List.take_left
  · by_cases hroom : s.len + n ≤ s.cap
    · have hle : (s.len + n) * i.size ≤ s.cap * i.size := Nat.mul_le_mul_right _ hroom
      rw [Nat.add_mul] at hle
      have hst := run_storeCells_at P g (o + s.len * i.size) e news 0 ⟨cs⟩ w hg (by simp [hs.newsLen]; omega) hs.one
      simp only [Nat.add_zero] at hst
      refine ⟨⟨s.a, s.len + n, s.cap⟩, w.setRow g (cs.take (o + s.len * i.size) ++ news ++ cs.drop (o + s.len * i.size + news.length)).toArray, ?_, rfl, ⟨by simp [ho.1, hs.newsLen, Nat.add_mul], .inr ⟨g, o, _, ha, hbg, setRow_heap w g ⟨cs⟩ _ e _ hg, hroom, hcm, ?_, ?_⟩⟩,
        Upd.setRow _ _ _ (by simp [Sl.blk, ha]), .inl ⟨rfl, rfl⟩⟩
      · rw [ha]
        rcases hs.kind with ⟨e', hk⟩ | hk <;> simp [Builtin.append_, run_underlying et.ht, run_underlying hk, sizeOf, typeInfo, hi, hs.len, hroom, hs.cells, Addr.add_lit, hst]
      · simp [hs.newsLen]; omega
      · have hl1 : (cs.take (o + s.len * i.size)).length = o + s.len * i.size := by simp; omega
        rw [List.append_assoc, List.drop_append_of_le_length (by rw [hl1]; omega), List.drop_take]
        have : o + s.len * i.size - o = s.len * i.size := by omega
        rw [this, htake, ← List.append_assoc]
        have hlen : (xs ++ news).length = (s.len + n) * i.size := by simp [ho.1, hs.newsLen, Nat.add_mul]
        rw [← hlen]; exact List.take_left
    · have holds : ∀ j u, xs[j]? = some u → w.drew.cell? ((⟨g, o, none⟩ : Addr).add j) = some u := by
        intro j u hu
        have hadd : (⟨g, o, none⟩ : Addr).add j = ⟨g, o + j, none⟩ := by unfold Addr.add; split <;> simp_all
        rw [hadd, World.cell?_drew, cell_of_row w g _ ⟨cs⟩ e (0, 0) hg]
        rw [← htake, List.getElem?_take] at hu
        split at hu
        · simpa [List.getElem?_drop] using hu
        · cases hu
      have hr := run_append_grow_src (P := P) w t tx ty e i z et.ht hi hz s.a s.len s.cap xs (by rw [ha]; exact run_firstCells_some w.drew i.size s.len ⟨g, o, none⟩ s.len s.cap xs ho.1 holds) x n news hs (by omega) hs63 (growslice_fits (by omega) hfit)
      refine ⟨⟨some ⟨w.heap.size, 0, none⟩, s.len + n, grownCap w (s.len + n) s.cap e⟩, _, hr, rfl, ⟨by simp [ho.1, hs.newsLen, Nat.add_mul], .inr ⟨w.heap.size, 0, ((xs ++ news).toArray ++ Builtin.zeroCells z.cells (grownCap w (s.len + n) s.cap e - (s.len + n))).toList, rfl, hbase, heap_alloc_new w.drew _, grownCap_ge _ _ _ _, grownCap_le_maxLen _ _ _ _ h63, ?_, ?_⟩⟩,
        (Upd.drew w _).trans (Upd.alloc _ _ _), .inr ⟨(Upd.drew w _).trans (Upd.alloc _ _ _), w.heap.size, rfl, Nat.le_refl _, by simp⟩⟩
      · have hge := grownCap_ge w (s.len + n) s.cap e
        rw [Array.length_toList, Array.size_append, size_zeroCells, h3]
        simp only [List.size_toArray, List.length_append, ho.1, hs.newsLen, ← Nat.add_mul]
        rw [Nat.zero_add]
        exact Nat.mul_le_mul_right _ (by omega)
      · have hlen : (xs ++ news).length = (s.len + n) * i.size := by simp [ho.1, hs.newsLen, Nat.add_mul]
        rw [List.drop_zero, Array.toList_append, ← hlen]
        exact List.take_left

/-! ### the operations, each by its own law -/
theorem add_lit' (b o i : Nat) : (⟨b, o, none⟩ : Addr).add i = ⟨b, o + i, none⟩ := by unfold Addr.add; split <;> simp_all

theorem Src.ofRd {t e : TypeId} {sz by_ : Nat} (et : ET P t e sz by_) (hsz : 0 < sz) {p : Sl} {vs : List Value} (h : Rd w p sz vs) (h1 : ∀ u ∈ vs, u.oneCell' = true) : Src P sz t (.slice p.a p.len p.cap) p.len vs w := by
  cases ha : p.a with
  | none =>
    have hv : vs = [] := by
      rcases h.2.1 with h0 | ⟨b, o, ha', _⟩
      · exact h0
      · rw [ha] at ha'; cases ha'
    subst hv
    have hl : p.len = 0 := by
      have := h.1
      simp only [List.length_nil] at this
      rcases Nat.eq_zero_or_pos p.len with h0 | h0
      · exact h0
      · have := Nat.mul_pos h0 hsz; omega
    rw [hl]
    exact Src.ofNil w et.ht p.cap
  | some a =>
    refine Src.ofSlice w et.ht a p.len p.cap vs h.1 (fun j u hu => ?_) h1
    rcases h.2.1 with h0 | ⟨b, o, ha', hc⟩
    · subst h0; simp at hu
    · rw [ha] at ha'; cases ha'
      rw [add_lit']; exact hc j u hu

theorem RunN.app {base : Nat} {t tx ty e : TypeId} {sz by_ : Nat} (et : ET P t e sz by_) (hsz : 0 < sz) {s : Sl} {xs : List Value} (ho : Ow w base e sz s xs) {x : Value} {n : Nat} {news : List Value} (hs : Src P sz tx x n news w)
    (hbase : base ≤ w.heap.size) (h63 : s.len + n ≤ maxLen) (hfit : (s.len + n) * by_ ≤ 140737488355328) {K : Sl → World → Prop}
    (h : ∀ s' w', s'.len = s.len + n → Ow w' base e sz s' (xs ++ news) → Upd w w' (fun k => s.blk = some k) → (s'.blk = s.blk ∨ ∃ g, s'.blk = some g ∧ w.heap.size ≤ g ∧ g < w'.heap.size) → K s' w') :
    RunN P .sl (V (Builtin.append_ #[t, tx] ty #[.slice s.a s.len s.cap, x])) w K := by
  obtain ⟨s', w', hr, h1, h2, h3, h4⟩ := run_app et hsz ho hs hbase h63 hfit (ty := ty)
  refine RunN.of (kd := .sl) (x := s') hr (h s' w' h1 h2 h3 ?_)
  rcases h4 with ⟨h4, _⟩ | ⟨_, h4⟩
  · exact .inl (by simp [Sl.blk, h4])
  · exact .inr h4

/-- A place of a slice. -/
theorem run_idx {t e : TypeId} {sz by_ : Nat} (et : ET P t e sz by_) {s : Sl} {b o : Nat} (ha : s.a = some ⟨b, o, none⟩) {k : IntKind} {i : Int} (h0 : 0 ≤ i) (h1 : i < s.len) :
    (Instr.indexAt t (.slice s.a s.len s.cap) (.int k i)).run P w = .ok (.pointer (some ⟨b, o + i.toNat * sz, none⟩)) w := by
  obtain ⟨j, z, hi, hz, h2, h3, h4⟩ := et.hi
  rw [ha]
  simp [Instr.indexAt, asIntOf, run_underlying et.ht, h0, h1, sizeOf, typeInfo, hi, h2, add_lit']
theorem RunN.idx {t e : TypeId} {sz by_ : Nat} (et : ET P t e sz by_) {s : Sl} {b o : Nat} (ha : s.a = some ⟨b, o, none⟩) {k : IntKind} {i : Int} (h0 : 0 ≤ i) (h1 : i < s.len) {K : Addr → World → Prop}
    (h : K ⟨b, o + i.toNat * sz, none⟩ w) : RunN P .addr (V (Instr.indexAt t (.slice s.a s.len s.cap) (.int k i))) w K :=
  RunN.of (kd := .addr) (run_idx et ha h0 h1) h

/-- A type whose values lie in one cell. -/
def scB (P : Program) (t : TypeId) : Bool := match P.underlying t with
  | some (.struct _) => false
  | some (.array _ _) => false
  | some _ => (match P.info? t with | some i => Nat.beq i.size 1 | none => false)
  | none => false
theorem isAgg_of {t : TypeId} (h : scB P t = true) : (isAgg t).run P w = .ok false w := by
  unfold scB at h
  cases hu : P.underlying t with
  | none => simp [hu] at h
  | some d => cases d <;> simp_all [isAgg, run_underlying hu]
theorem run_load {t : TypeId} (ht : scB P t = true) {p : Addr} {v : Value} (hc : w.cell? p = some v) : (Instr.loadAt t (.pointer (some p))).run P w = .ok v w := by
  have := isAgg_of (w := w) ht
  simp [Instr.loadAt, Instr.sureAddr, loadVar, this, load, Sem.run, hc]
theorem RunN.load {t : TypeId} (ht : scB P t = true) {kd : Kd} {p : Addr} {x : kd.T} (hc : w.cell? p = some (kd.val x)) {K : kd.T → World → Prop} (h : K x w) : RunN P kd (V (Instr.loadAt t (.pointer (some p)))) w K :=
  RunN.of (run_load ht hc) h
theorem ReadN.load {t : TypeId} (ht : scB P t = true) {kd : Kd} {p : Addr} {x : kd.T} (hc : w.cell? p = some (kd.val x)) {K : kd.T → Prop} (h : K x) : ReadN P kd (V (Instr.loadAt t (.pointer (some p)))) w K :=
  ReadN.of (run_load ht hc) h
theorem StillV.load {t : TypeId} (ht : scB P t = true) {p : Addr} {v : Value} (hc : w.cell? p = some v) : StillV P (V (Instr.loadAt t (.pointer (some p)))) v w := StillV.of (run_load ht hc)
theorem run_stor {t : TypeId} (ht : scB P t = true) {p : Addr} {u v : Value} (hv : v.oneCell' = true) (hc : w.cell? p = some u) (hf : w.frozen? p = false) :
    (Instr.storeAt t (.pointer (some p)) v).run P w = .ok () (w.setCell p v) := by
  have hsz : (sizeOf t).run P w = .ok 1 w := by
    unfold scB at ht
    cases hu : P.underlying t with
    | none => simp [hu] at ht
    | some d =>
      cases hi : P.info? t with
      | none => cases d <;> simp [hu, hi] at ht
      | some i =>
        have : i.size = 1 := by cases d <;> simp [hu, hi] at ht <;> exact ht
        simp [sizeOf, typeInfo, hi, this]
  have h1 : v.cells = #[v] := by cases v <;> first | rfl | (simp [Value.oneCell'] at hv)
  have hst := run_store P w p v .plain hv
  rw [hc] at hst
  simp only [hf] at hst
  have hadd : p.add 0 = p := by simp [Addr.add]
  simp [Instr.storeAt, Instr.sureAddr, storeVar, hsz, h1, storeCells, hadd, hst]
theorem RunU.stor {t : TypeId} (ht : scB P t = true) {p : Addr} {u v : Value} (hv : v.oneCell' = true) (hc : w.cell? p = some u) (hf : w.frozen? p = false) {K : World → Prop} (h : K (w.setCell p v)) :
    RunU P (U (Instr.storeAt t (.pointer (some p)) v)) w K := RunU.of (run_stor ht hv hc hf) h

/-- Bytes. -/
def u8v (x : UInt8) : Value := .int .u8 (x.toNat : Int)
def bys (l : List UInt8) : List Value := l.map u8v
@[simp] theorem bys_length (l : List UInt8) : (bys l).length = l.length := by simp [bys]
theorem bys_append (a b : List UInt8) : bys (a ++ b) = bys a ++ bys b := by simp [bys]
theorem bys_get {l : List UInt8} {i : Nat} (h : i < l.length) : (bys l)[i]? = some (u8v l[i]) := by simp [bys, h]
theorem bys_one (l : List UInt8) : ∀ u ∈ bys l, u.oneCell' = true := by
  intro u hu
  obtain ⟨x, _, rfl⟩ := List.mem_map.1 hu
  rfl

def strB (P : Program) (src e dst : TypeId) : Bool := match P.underlying src, P.underlying e, P.underlying dst with
  | some (.slice e'), some (.int .u8), some .string => Nat.beq e' e
  | _, _, _ => false
theorem foldl_push (l : List UInt8) (acc : ByteArray) : (l.map fun x => (x.toNat : Int)).foldl (fun r n => r.push (UInt8.ofNat n.toNat)) acc = ⟨acc.data ++ l.toArray⟩ := by
  induction l generalizing acc with
  | nil => simp
  | cons x r ih =>
    simp only [List.map_cons, List.foldl_cons, ih]
    have : (acc.push (UInt8.ofNat (x.toNat : Int).toNat)).data = acc.data.push x := by simp [ByteArray.push]
    rw [this]; simp
theorem run_toStr {src e dst : TypeId} (h : strB P src e dst = true) {s : Sl} {l : List UInt8} (hr : Rd w s 1 (bys l)) : (convert src dst (.slice s.a s.len s.cap)).run P w = .ok (.string ⟨l.toArray⟩) w := by
  unfold strB at h
  split at h
  · rename_i e' h1 h2 h3
    have := Nat.eq_of_beq_eq_true h; subst this
    rw [run_convert_bytes_string w src dst e' s.a s.len s.cap h1 h2 h3]
    cases ha : s.a with
    | none =>
      have hv : l = [] := by
        rcases hr.2.1 with h0 | ⟨b, o, ha', _⟩
        · simpa [bys] using h0
        · rw [ha] at ha'; cases ha'
      subst hv
      simp [Conv.bytesToString]; rfl
    | some a =>
      have hlen : s.len = l.length := by have := hr.1; simp at this; omega
      have hl : (loadCells a s.len).run P w = .ok ((l.map fun x => (x.toNat : Int)).map (Value.int .u8)).toArray w := by
        have e1 : (l.map fun x => (x.toNat : Int)).map (Value.int .u8) = bys l := by simp [bys, u8v]
        rw [e1, hlen, ← bys_length l]
        refine run_loadCells_list w a (bys l) fun j u hu => ?_
        rcases hr.2.1 with h0 | ⟨b, o, ha', hc⟩
        · rw [h0] at hu; simp at hu
        · rw [ha] at ha'; cases ha'
          rw [add_lit']; exact hc j u hu
      rw [run_bytesToString w a s.len s.cap _ hl, foldl_push]
      simp
  · cases h

theorem RunN.toStr {src e dst : TypeId} (h : strB P src e dst = true) {s : Sl} {l : List UInt8} (hr : Rd w s 1 (bys l)) {K : ByteArray → World → Prop} (hk : K ⟨l.toArray⟩ w) : RunN P .str (V (convert src dst (.slice s.a s.len s.cap))) w K :=
  RunN.of (kd := .str) (run_toStr h hr) hk
theorem ReadN.toStr {src e dst : TypeId} (h : strB P src e dst = true) {s : Sl} {l : List UInt8} (hr : Rd w s 1 (bys l)) {K : ByteArray → Prop} (hk : K ⟨l.toArray⟩) : ReadN P .str (V (convert src dst (.slice s.a s.len s.cap))) w K :=
  ReadN.of (kd := .str) (run_toStr h hr) hk
theorem StillV.toStr {src e dst : TypeId} (h : strB P src e dst = true) {s : Sl} {l : List UInt8} (hr : Rd w s 1 (bys l)) : StillV P (V (convert src dst (.slice s.a s.len s.cap))) (.string ⟨l.toArray⟩) w :=
  StillV.of (run_toStr h hr)

/-- A literal slice in memory of its own. -/
theorem Ow.lit {base : Nat} {e : TypeId} {sz n c : Nat} {cs : List Value} (hbase : base ≤ w.heap.size) (hn : n ≤ c) (hc : c ≤ maxLen) (hl : cs.length = c * sz) : Ow (w.alloc (.cells ⟨cs⟩ e)) base e sz ⟨some ⟨w.heap.size, 0, none⟩, n, c⟩ (cs.take (n * sz)) := by
  have h1 : n * sz ≤ c * sz := Nat.mul_le_mul_right _ hn
  exact ⟨by simp; omega, .inr ⟨w.heap.size, 0, cs, rfl, hbase, heap_alloc_new w _, hn, hc, by simp; omega, by simp⟩⟩

theorem RunN.make0 {t e : TypeId} {sz by_ : Nat} (et : ET P t e sz by_) {base : Nat} {kc : IntKind} {c : Int} (h0 : 0 ≤ c) (hb : (by_ : Int) * c ≤ 281474976710656) (h63 : c ≤ 9223372036854775807) (hbase : base ≤ w.heap.size) {K : Sl → World → Prop}
    (h : ∀ s' w', s'.len = 0 → s'.cap = c.toNat → Ow w' base e sz s' [] → Upd w w' nobody → s'.blk = some w.heap.size → w.heap.size < w'.heap.size → K s' w') :
    RunN P .sl (V (Instr.makeSlice t (.int .i64 0) (.int kc c))) w K := by
  obtain ⟨i, z, hi, hz, h1, h2, h3⟩ := et.hi
  subst h1; subst h2
  have hr := run_make (P := P) w t e i z et.ht hi hz .i64 kc 0 c (Int.le_refl _) h0 hb h63
  refine RunN.of (kd := .sl) (x := ⟨some ⟨w.heap.size, 0, none⟩, 0, c.toNat⟩) (by simpa [Kd.val] using hr) (h _ _ rfl rfl ?_ (Upd.alloc _ _ _) rfl (by simp))
  have := Ow.lit (w := w) (e := e) (sz := i.size) (n := 0) (c := c.toNat) (cs := (madeCells z.cells (c.toNat * i.size)).toList) hbase (Nat.zero_le _) (by simp only [maxLen]; omega) (by rw [Array.length_toList, size_madeCells])
  simpa using this
theorem Rd.bys_at {w : World} {s : Sl} {l : List UInt8} (hr : Rd w s 1 (bys l)) (hne : l ≠ []) : ∃ b o, s.a = some ⟨b, o, none⟩ ∧ ∀ i (h : i < l.length), w.cell? ⟨b, o + i, none⟩ = some (u8v l[i]) := by
  rcases hr.2.1 with h0 | ⟨b, o, ha, hc⟩
  · exact absurd (by simpa [bys] using h0) hne
  · exact ⟨b, o, ha, fun i h => hc i _ (bys_get h)⟩
theorem Rd.bys_len {w : World} {s : Sl} {l : List UInt8} (hr : Rd w s 1 (bys l)) : s.len = l.length := by have := hr.1; simp at this; omega


theorem toList_mk (l : List UInt8) : (⟨l.toArray⟩ : ByteArray).toList = l := by
  have key : ∀ (n : Nat) (i : Nat) (r : List UInt8), l.length - i = n → i ≤ l.length → ByteArray.toList.loop (⟨l.toArray⟩ : ByteArray) i r = r.reverse ++ l.drop i := by
    intro n
    induction n with
    | zero =>
      intro i r hn hi
      have : i = l.length := by omega
      subst this
      unfold ByteArray.toList.loop
      have : ¬ (l.length < (⟨l.toArray⟩ : ByteArray).size) := by simp [ByteArray.size]
      rw [if_neg this]; simp
    | succ n ih =>
      intro i r hn hi
      unfold ByteArray.toList.loop
      have hlt : i < (⟨l.toArray⟩ : ByteArray).size := by simp [ByteArray.size]; omega
      have hlt' : i < l.length := by omega
      rw [if_pos hlt, ih (i + 1) _ (by omega) (by omega)]
      have hg : (⟨l.toArray⟩ : ByteArray).get! i = l[i] := by simp [ByteArray.get!, hlt']
      rw [hg, List.reverse_cons, List.append_assoc, List.singleton_append, ← List.drop_eq_getElem_cons hlt']
  have := key l.length 0 [] (by omega) (Nat.zero_le _)
  simpa [ByteArray.toList] using this

/-- A part of a slice. -/
def subA (s : Sl) (lo sz : Nat) : Option Addr := if s.cap = lo then s.a else s.a.map (·.add (lo * sz))
theorem Rd.sub {w : World} {s : Sl} {sz : Nat} {vs : List Value} (h : Rd w s sz vs) {lo hi m : Nat} (h1 : lo ≤ hi) (h2 : hi ≤ s.len) (hm : hi ≤ m) :
    Rd w ⟨if m = lo then s.a else s.a.map (·.add (lo * sz)), hi - lo, m - lo⟩ sz ((vs.drop (lo * sz)).take ((hi - lo) * sz)) := by
  have hle : hi * sz ≤ s.len * sz := Nat.mul_le_mul_right _ h2
  have hsub : (hi - lo) * sz = hi * sz - lo * sz := Nat.sub_mul _ _ _
  refine ⟨by simp [h.1]; omega, ?_, by dsimp only; omega⟩
  by_cases he : hi = lo
  · left; subst he; simp
  · rcases h.2.1 with h0 | ⟨b, o, ha, hc⟩
    · left; subst h0; simp
    · right
      have hml : m ≠ lo := by omega
      refine ⟨b, o + lo * sz, by simp [hml, ha, add_lit'], fun i v hv => ?_⟩
      rw [List.getElem?_take] at hv
      split at hv
      · rw [List.getElem?_drop] at hv
        rw [Nat.add_assoc]; exact hc _ v hv
      · cases hv
theorem elem_of {t e : TypeId} {sz by_ : Nat} (et : ET P t e sz by_) : P.underlying t = some (.slice (P.elem t)) := by simp [Program.elem, et.ht]
theorem run_size {t e : TypeId} {sz by_ : Nat} (et : ET P t e sz by_) : (sizeOf (P.elem t)).run P w = .ok sz w := by
  obtain ⟨i, z, hi, hz, h1, h2, h3⟩ := et.hi
  have : P.elem t = e := by simp [Program.elem, et.ht]
  rw [this]; simp [sizeOf, typeInfo, hi, h1]
/-- s[:h] -/
theorem RunN.subH {t e : TypeId} {sz by_ : Nat} (et : ET P t e sz by_) {s : Sl} {k : IntKind} {h : Int} (h0 : 0 ≤ h) (h2 : h ≤ s.cap) {K : Sl → World → Prop}
    (hk : K ⟨if s.cap = 0 then s.a else s.a.map (·.add (0 * sz)), h.toNat - 0, s.cap - 0⟩ w) : RunN P .sl (V (Instr.sliceAt t (.slice s.a s.len s.cap) none (some (.int k h)) none)) w K := by
  refine RunN.of (kd := .sl) ?_ hk
  rw [run_sliceAt_slice w t _ _ _ _ (elem_of et), run_slice_h w t s.a s.len s.cap (elem_of et) k h h0 h2, run_size et]
  rfl
/-- s[l:] -/
theorem RunN.subL {t e : TypeId} {sz by_ : Nat} (et : ET P t e sz by_) {s : Sl} {k : IntKind} {l : Int} (h0 : 0 ≤ l) (h2 : l ≤ s.len) {K : Sl → World → Prop}
    (hk : K ⟨if s.cap = l.toNat then s.a else s.a.map (·.add (l.toNat * sz)), s.len - l.toNat, s.cap - l.toNat⟩ w) : RunN P .sl (V (Instr.sliceAt t (.slice s.a s.len s.cap) (some (.int k l)) none none)) w K := by
  refine RunN.of (kd := .sl) ?_ hk
  rw [run_sliceAt_slice w t _ _ _ _ (elem_of et), run_slice_l w t s.a s.len s.cap (elem_of et) k l h0 h2, run_size et]
  rfl
/-- s[l:h:m] -/
theorem RunN.subLHM {t e : TypeId} {sz by_ : Nat} (et : ET P t e sz by_) {s : Sl} {kl kh km : IntKind} {l h m : Int} (h0 : 0 ≤ l) (h1 : l ≤ h) (h2 : h ≤ m) (h3 : m ≤ s.cap) {K : Sl → World → Prop}
    (hk : K ⟨if m.toNat = l.toNat then s.a else s.a.map (·.add (l.toNat * sz)), h.toNat - l.toNat, m.toNat - l.toNat⟩ w) : RunN P .sl (V (Instr.sliceAt t (.slice s.a s.len s.cap) (some (.int kl l)) (some (.int kh h)) (some (.int km m)))) w K := by
  refine RunN.of (kd := .sl) ?_ hk
  rw [run_sliceAt_slice w t _ _ _ _ (elem_of et), run_slice_lhm w t s.a s.len s.cap (elem_of et) kl kh km l h m h0 h1 h2 h3, run_size et]
  rfl
end
end Go.Fw
