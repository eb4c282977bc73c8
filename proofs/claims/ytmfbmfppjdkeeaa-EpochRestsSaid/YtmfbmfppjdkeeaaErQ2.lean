/- Words and steps, part 2: Memory as a reader of code meets it: slices that are read, slices that are owned, what an operation leaves as it was; and what each operation on memory comes to. From a walk to a row: the arguments read behind a call that changed nothing as they read before it. A region that draws its order, with calls in it: what is read is read as early as it may be, and whatever is done behind it is done in one chain; then one reading serves every order. Whole pieces of code, and whole functions: drawn regions may hold calls, results may be variables of their own. -/
import Derived.Below
import Derived.Deep.AppendSrc
import Derived.Laws.BytesString
import Derived.Lib.ConvBytes
import Derived.Laws.Slices
import Derived.Laws.MakeOwn
import Derived.Laws.Tables
import Derived.Laws.Cells
import Derived.IntWalk
import Derived.ProofKit
import Derived.LaidMore
import Derived.OpenShut
import Derived.Stop.Joined
import Derived.SizedLaws
import Derived.Test.YtmfbmfppjdkeeaaErQ1
/- Memory as a reader of code meets it: slices that are read, slices that are owned, what an operation leaves as it was; and what each operation on memory comes to. -/
namespace Go.Fw
open Go Go.RowKit

/-! ### what has not changed -/
structure Upd (w w' : World) (S : Nat → Prop) : Prop where
  os : w'.os = w.os
  tape : w'.tape = w.tape
  output : w'.output = w.output
  size : w.heap.size ≤ w'.heap.size
  block : ∀ k, k < w.heap.size → ¬ S k → w'.heap[k]? = w.heap[k]?

def nobody : Nat → Prop := fun _ => False
theorem Upd.refl (w : World) (S : Nat → Prop) : Upd w w S := ⟨rfl, rfl, rfl, Nat.le_refl _, fun _ _ _ => rfl⟩
theorem Upd.trans {a b c : World} {S : Nat → Prop} (h : Upd a b S) (k : Upd b c S) : Upd a c S :=
  ⟨k.os.trans h.os, k.tape.trans h.tape, k.output.trans h.output, Nat.le_trans h.size k.size, fun i hi hs => (k.block i (by have := h.size; omega) hs).trans (h.block i hi hs)⟩
/-- The second step may also write whatever is new. -/
theorem Upd.trans' {a b c : World} {S T : Nat → Prop} (h : Upd a b S) (k : Upd b c T) (hT : ∀ i, T i → i < a.heap.size → S i) : Upd a c S :=
  ⟨k.os.trans h.os, k.tape.trans h.tape, k.output.trans h.output, Nat.le_trans h.size k.size,
    fun i hi hs => (k.block i (by have := h.size; omega) (fun ht => hs (hT i ht hi))).trans (h.block i hi hs)⟩
theorem Upd.mono {a b : World} {S T : Nat → Prop} (h : Upd a b S) (hST : ∀ i, i < a.heap.size → S i → T i) : Upd a b T :=
  ⟨h.os, h.tape, h.output, h.size, fun i hi hs => h.block i hi fun hS => hs (hST i hi hS)⟩
theorem Upd.drew (w : World) (S : Nat → Prop) : Upd w w.drew S := ⟨rfl, rfl, rfl, Nat.le_refl _, fun _ _ _ => rfl⟩
theorem Upd.alloc (w : World) (o : Obj) (S : Nat → Prop) : Upd w (w.alloc o) S :=
  ⟨rfl, rfl, rfl, by simp, fun k hk _ => heap_alloc_old w o k hk⟩
theorem Upd.setCell (w : World) (a : Addr) (v : Value) {S : Nat → Prop} (h : S a.block) : Upd w (w.setCell a v) S :=
  ⟨rfl, rfl, rfl, by simp, fun k _ hs => heap_setCell_other w a k v fun e => hs (e ▸ h)⟩
theorem Upd.setRow (w : World) (g : Nat) (cs : Array Value) {S : Nat → Prop} (h : S g) : Upd w (w.setRow g cs) S :=
  ⟨rfl, rfl, rfl, by simp, fun k _ hs => setRow_other w g k cs fun e => hs (e ▸ h)⟩
theorem Upd.below {w w' : World} (h : Upd w w' nobody) : Below w.heap.size w w' := ⟨h.os, h.tape, h.output, h.size, fun k hk => h.block k hk (fun h => h)⟩
theorem Upd.cell {w w' : World} {S : Nat → Prop} (h : Upd w w' S) {a : Addr} {v : Value} (hc : w.cell? a = some v) (hs : ¬ S a.block) : w'.cell? a = some v :=
  (World.cell?_of_block (w := w) (h.block a.block (World.block_lt_of_cell? w a hc) hs)).trans hc
theorem Upd.obj {w w' : World} {S : Nat → Prop} (h : Upd w w' S) {b : Nat} {o : Obj} (hc : w.heap[b]? = some o) (hs : ¬ S b) : w'.heap[b]? = some o :=
  (h.block b (Array.getElem?_eq_some_iff.1 hc).1 hs).trans hc
theorem lt_of_obj {w : World} {b : Nat} {o : Obj} (h : w.heap[b]? = some o) : b < w.heap.size := (Array.getElem?_eq_some_iff.1 h).1

/-! ### slices -/
def Sl.blk (s : Sl) : Option Nat := s.a.map (·.block)
/-- A slice that reads so: each element has 'sz' cells. -/
def Rd (w : World) (s : Sl) (sz : Nat) (vs : List Value) : Prop :=
  vs.length = s.len * sz ∧ (vs = [] ∨ ∃ b o, s.a = some ⟨b, o, none⟩ ∧ ∀ i v, vs[i]? = some v → w.cell? ⟨b, o + i, none⟩ = some v) ∧ s.len ≤ s.cap
/-- A slice whose memory, up to its capacity, is nobody else's. -/
def Ow (w : World) (base : Nat) (E : TypeId) (sz : Nat) (s : Sl) (vs : List Value) : Prop :=
  vs.length = s.len * sz ∧ ((s = ⟨none, 0, 0⟩) ∨ ∃ g o cs, s.a = some ⟨g, o, none⟩ ∧ base ≤ g ∧ w.heap[g]? = some (.cells ⟨cs⟩ E (0, 0)) ∧ s.len ≤ s.cap ∧ s.cap ≤ maxLen ∧
    o + s.cap * sz ≤ cs.length ∧ (cs.drop o).take (s.len * sz) = vs)

theorem Rd.len {w : World} {s : Sl} {sz : Nat} {vs : List Value} (h : Rd w s sz vs) : vs.length = s.len * sz := h.1
theorem Ow.len {w : World} {base : Nat} {E : TypeId} {sz : Nat} {s : Sl} {vs : List Value} (h : Ow w base E sz s vs) : vs.length = s.len * sz := h.1
theorem Ow.nil (w : World) (base : Nat) (E : TypeId) (sz : Nat) : Ow w base E sz ⟨none, 0, 0⟩ [] := ⟨by simp, .inl rfl⟩
theorem Rd.nil (w : World) (sz : Nat) : Rd w ⟨none, 0, 0⟩ sz [] := ⟨by simp, .inl rfl, Nat.le_refl _⟩
theorem Ow.rd {w : World} {base : Nat} {E : TypeId} {sz : Nat} {s : Sl} {vs : List Value} (h : Ow w base E sz s vs) : Rd w s sz vs := by
  rcases h.2 with rfl | ⟨g, o, cs, ha, hb, hg, h1, h2, h3, h4⟩
  · refine ⟨h.1, .inl ?_, Nat.le_refl _⟩
    have := h.1
    simp at this
    exact this
  · refine ⟨h.1, .inr ⟨g, o, ha, fun i v hv => ?_⟩, h1⟩
    rw [cell_of_row w g _ ⟨cs⟩ E (0, 0) hg]
    rw [← h4, List.getElem?_take] at hv
    split at hv
    · simpa [List.getElem?_drop] using hv
    · cases hv
theorem Rd.upd {w w' : World} {S : Nat → Prop} {s : Sl} {sz : Nat} {vs : List Value} (h : Rd w s sz vs) (hu : Upd w w' S) (hs : ∀ b, s.blk = some b → ¬ S b) : Rd w' s sz vs := by
  refine ⟨h.1, ?_, h.2.2⟩
  rcases h.2.1 with h0 | ⟨b, o, ha, hc⟩
  · exact .inl h0
  · exact .inr ⟨b, o, ha, fun i v hv => hu.cell (hc i v hv) (hs b (by simp [Sl.blk, ha]))⟩
theorem Ow.upd {w w' : World} {S : Nat → Prop} {base : Nat} {E : TypeId} {sz : Nat} {s : Sl} {vs : List Value} (h : Ow w base E sz s vs) (hu : Upd w w' S) (hs : ∀ b, s.blk = some b → ¬ S b) : Ow w' base E sz s vs := by
  refine ⟨h.1, ?_⟩
  rcases h.2 with h0 | ⟨g, o, cs, ha, hb, hg, r⟩
  · exact .inl h0
  · exact .inr ⟨g, o, cs, ha, hb, hu.obj hg (hs g (by simp [Sl.blk, ha])), r⟩
theorem Ow.lt {w : World} {base : Nat} {E : TypeId} {sz : Nat} {s : Sl} {vs : List Value} (h : Ow w base E sz s vs) {b : Nat} (hb : s.blk = some b) : base ≤ b ∧ b < w.heap.size := by
  rcases h.2 with rfl | ⟨g, o, cs, ha, hbase, hg, r⟩
  · simp [Sl.blk] at hb
  · simp [Sl.blk, ha] at hb; subst hb; exact ⟨hbase, lt_of_obj hg⟩
theorem Ow.base {w : World} {base base' : Nat} {E : TypeId} {sz : Nat} {s : Sl} {vs : List Value} (h : Ow w base E sz s vs) (hb : ∀ b, s.blk = some b → base' ≤ b) : Ow w base' E sz s vs := by
  refine ⟨h.1, ?_⟩
  rcases h.2 with h0 | ⟨g, o, cs, ha, hbase, r⟩
  · exact .inl h0
  · exact .inr ⟨g, o, cs, ha, hb g (by simp [Sl.blk, ha]), r⟩
theorem Rd.cell {w : World} {s : Sl} {sz : Nat} {vs : List Value} (h : Rd w s sz vs) {i : Nat} {v : Value} (hv : vs[i]? = some v) : ∃ b o, s.a = some ⟨b, o, none⟩ ∧ w.cell? ⟨b, o + i, none⟩ = some v := by
  rcases h.2.1 with h0 | ⟨b, o, ha, hc⟩
  · subst h0; simp at hv
  · exact ⟨b, o, ha, hc i v hv⟩

/-! ### types of slices -/
def etB (P : Program) (t e : TypeId) (sz by_ : Nat) : Bool :=
  match P.underlying t, P.info? e with
  | some (.slice e'), some i => Nat.beq e' e && Nat.beq i.size sz && Nat.beq i.bytes by_ && (match i.zero with | some z => Nat.beq z.cells.size sz | none => false)
  | _, _ => false
structure ET (P : Program) (t e : TypeId) (sz by_ : Nat) : Prop where
  ht : P.underlying t = some (.slice e)
  hi : ∃ i z, P.info? e = some i ∧ i.zero = some z ∧ i.size = sz ∧ i.bytes = by_ ∧ z.cells.size = sz
theorem ET.of {P : Program} {t e : TypeId} {sz by_ : Nat} (h : etB P t e sz by_ = true) : ET P t e sz by_ := by
  unfold etB at h
  split at h
  · rename_i e' i ht hi
    simp only [Bool.and_eq_true] at h
    obtain ⟨⟨⟨h1, h2⟩, h3⟩, h4⟩ := h
    have := Nat.eq_of_beq_eq_true h1; subst this
    split at h4
    · rename_i z hz
      exact ⟨ht, i, z, hi, hz, Nat.eq_of_beq_eq_true h2, Nat.eq_of_beq_eq_true h3, Nat.eq_of_beq_eq_true h4⟩
    · cases h4
  · cases h

section
variable {P : Program} {w : World}

theorem RunN.of {kd : Kd} {s : Sem Value} {K : kd.T → World → Prop} {x : kd.T} {w' : World} (hr : s.run P w = .ok (kd.val x) w') (h : K x w') : RunN P kd (V s) w K :=
  ⟨x, w', by simp [V, hr], h⟩
theorem RunU.of {s : Sem Unit} {K : World → Prop} {w' : World} (hr : s.run P w = .ok () w') (h : K w') : RunU P (U s) w K := ⟨w', by simp [U, hr], h⟩
theorem ReadN.of {kd : Kd} {s : Sem Value} {K : kd.T → Prop} {x : kd.T} (hr : s.run P w = .ok (kd.val x) w) (h : K x) : ReadN P kd (V s) w K := ⟨x, by simp [V, hr], h⟩
theorem StillV.of {s : Sem Value} {v : Value} (hr : s.run P w = .ok v w) : StillV P (V s) v w := by simp [StillV, V, hr]
theorem CallK.mono {kd : Kd} {f : FuncId} {args : Array Value} {K K' : kd.T → World → Prop} (h : CallK P kd f args w K) (hk : ∀ x w', K x w' → K' x w') : CallK P kd f args w K' :=
  Calls.mono h fun _ _ ⟨x, e, hx⟩ => ⟨x, e, hk _ _ hx⟩

/-- Append, onto what is owned, of whatever may be read. -/
theorem run_app {base : Nat} {t tx ty e : TypeId} {sz by_ : Nat} (et : ET P t e sz by_) (hsz : 0 < sz) {s : Sl} {xs : List Value} (ho : Ow w base e sz s xs) {x : Value} {n : Nat} {news : List Value} (hs : Src P sz tx x n news w)
    (hbase : base ≤ w.heap.size) (h63 : s.len + n ≤ maxLen) (hfit : (s.len + n) * by_ ≤ 140737488355328) :
    ∃ s' w', (Builtin.append_ #[t, tx] ty #[.slice s.a s.len s.cap, x]).run P w = .ok (.slice s'.a s'.len s'.cap) w' ∧ s'.len = s.len + n ∧ Ow w' base e sz s' (xs ++ news) ∧
      Upd w w' (fun k => s.blk = some k) ∧ ((s'.a = s.a ∧ s'.cap = s.cap) ∨ (Upd w w' nobody ∧ ∃ g, s'.blk = some g ∧ w.heap.size ≤ g ∧ g < w'.heap.size)) := by
  obtain ⟨i, z, hi, hz, h1, h2, h3⟩ := et.hi
  subst h1; subst h2
  have hs63 : ((s.len + n : Nat) : Int) ≤ 9223372036854775807 := by simp only [maxLen] at h63; omega
  rcases ho.2 with hnil | ⟨g, o, cs, ha, hbg, hg, hlc, hcm, hcs, htake⟩
  · subst hnil
    have hx : xs = [] := by have := ho.1; simpa using this
    subst hx
    by_cases hn : n = 0
    · subst hn
      have hnw : news = [] := by have := hs.newsLen; simpa using this
      subst hnw
      refine ⟨⟨none, 0, 0⟩, w, ?_, rfl, Ow.nil _ _ _ _, Upd.refl _ _, .inl ⟨rfl, rfl⟩⟩
      rcases hs.kind with ⟨e', hk⟩ | hk <;> simp [Builtin.append_, run_underlying et.ht, run_underlying hk, sizeOf, typeInfo, hi, hs.len, hs.cells]
    · have hr := run_append_grow_src (P := P) w t tx ty e i z et.ht hi hz none 0 0 [] (by simp [Builtin.firstCells]) x n news hs (by omega) (by simpa using hs63)
        (growslice_fits (by omega) (by simpa using hfit))
      simp only [Nat.zero_add] at hr
      refine ⟨⟨some ⟨w.heap.size, 0, none⟩, n, grownCap w n 0 e⟩, _, hr, by simp, ⟨by simp [hs.newsLen], .inr ⟨w.heap.size, 0, (([] ++ news).toArray ++ Builtin.zeroCells z.cells (grownCap w n 0 e - n)).toList, rfl, hbase, heap_alloc_new w.drew _, grownCap_ge _ _ _ _, grownCap_le_maxLen _ _ _ _ (by simpa using h63), ?_, ?_⟩⟩,
        (Upd.drew w _).trans (Upd.alloc _ _ _), .inr ⟨(Upd.drew w _).trans (Upd.alloc _ _ _), w.heap.size, rfl, Nat.le_refl _, by simp⟩⟩
      · have hge := grownCap_ge w n 0 e
        rw [Array.length_toList, Array.size_append, size_zeroCells, h3]
        simp only [List.nil_append, List.size_toArray, hs.newsLen, ← Nat.add_mul]
        rw [Nat.zero_add]
        exact Nat.mul_le_mul_right _ (by omega)
      · have : ([] ++ news : List Value).length = n * i.size := by simp [hs.newsLen]
        rw [List.drop_zero, Array.toList_append, ← this]
        exact List.take_left
  · by_cases hroom : s.len + n ≤ s.cap
    · have hle : (s.len + n) * i.size ≤ s.cap * i.size := Nat.mul_le_mul_right _ hroom
      rw [Nat.add_mul] at hle
      have hst := run_storeCells_at P g (o + s.len * i.size) e news 0 ⟨cs⟩ w hg (by simp [hs.newsLen]; omega) hs.one
      simp only [Nat.add_zero] at hst
      refine ⟨⟨s.a, s.len + n, s.cap⟩, w.setRow g (cs.take (o + s.len * i.size) ++ news ++ cs.drop (o + s.len * i.size + news.length)).toArray, ?_, rfl, ⟨by simp [ho.1, hs.newsLen, Nat.add_mul], .inr ⟨g, o, _, ha, hbg, setRow_heap w g ⟨cs⟩ _ e _ hg, hroom, hcm, ?_, ?_⟩⟩,
        Upd.setRow _ _ _ (by simp [Sl.blk, ha]), .inl ⟨rfl, rfl⟩⟩
      · rw [ha]
        rcases hs.kind with ⟨e', hk⟩ | hk <;> simp [Builtin.append_, run_underlying et.ht, run_underlying hk, sizeOf, typeInfo, hi, hs.len, hroom, hs.cells, Addr.add_lit, hst]
      · simp [hs.newsLen]; omega
      · have hl1 : (cs.take (o + s.len * i.size)).length = o + s.len * i.size := by simp; omega
        rw [List.append_assoc, List.drop_append_of_le_length (by rw [hl1]; omega), List.drop_take]
        have : o + s.len * i.size - o = s.len * i.size := by omega
        rw [this, htake, ← List.append_assoc]
        have hlen : (xs ++ news).length = (s.len + n) * i.size := by simp [ho.1, hs.newsLen, Nat.add_mul]
        rw [← hlen]; exact List.take_left
    · have holds : ∀ j u, xs[j]? = some u → w.drew.cell? ((⟨g, o, none⟩ : Addr).add j) = some u := by
        intro j u hu
        have hadd : (⟨g, o, none⟩ : Addr).add j = ⟨g, o + j, none⟩ := by unfold Addr.add; split <;> simp_all
        rw [hadd, World.cell?_drew, cell_of_row w g _ ⟨cs⟩ e (0, 0) hg]
        rw [← htake, List.getElem?_take] at hu
        split at hu
        · simpa [List.getElem?_drop] using hu
        · cases hu
      have hr := run_append_grow_src (P := P) w t tx ty e i z et.ht hi hz s.a s.len s.cap xs (by rw [ha]; exact run_firstCells_some w.drew i.size s.len ⟨g, o, none⟩ s.len s.cap xs ho.1 holds) x n news hs (by omega) hs63 (growslice_fits (by omega) hfit)
      refine ⟨⟨some ⟨w.heap.size, 0, none⟩, s.len + n, grownCap w (s.len + n) s.cap e⟩, _, hr, rfl, ⟨by simp [ho.1, hs.newsLen, Nat.add_mul], .inr ⟨w.heap.size, 0, ((xs ++ news).toArray ++ Builtin.zeroCells z.cells (grownCap w (s.len + n) s.cap e - (s.len + n))).toList, rfl, hbase, heap_alloc_new w.drew _, grownCap_ge _ _ _ _, grownCap_le_maxLen _ _ _ _ h63, ?_, ?_⟩⟩,
        (Upd.drew w _).trans (Upd.alloc _ _ _), .inr ⟨(Upd.drew w _).trans (Upd.alloc _ _ _), w.heap.size, rfl, Nat.le_refl _, by simp⟩⟩
      · have hge := grownCap_ge w (s.len + n) s.cap e
        rw [Array.length_toList, Array.size_append, size_zeroCells, h3]
        simp only [List.size_toArray, List.length_append, ho.1, hs.newsLen, ← Nat.add_mul]
        rw [Nat.zero_add]
        exact Nat.mul_le_mul_right _ (by omega)
      · have hlen : (xs ++ news).length = (s.len + n) * i.size := by simp [ho.1, hs.newsLen, Nat.add_mul]
        rw [List.drop_zero, Array.toList_append, ← hlen]
        exact List.take_left

/-! ### the operations, each by its own law -/
theorem add_lit' (b o i : Nat) : (⟨b, o, none⟩ : Addr).add i = ⟨b, o + i, none⟩ := by unfold Addr.add; split <;> simp_all

theorem Src.ofRd {t e : TypeId} {sz by_ : Nat} (et : ET P t e sz by_) (hsz : 0 < sz) {p : Sl} {vs : List Value} (h : Rd w p sz vs) (h1 : ∀ u ∈ vs, u.oneCell' = true) : Src P sz t (.slice p.a p.len p.cap) p.len vs w := by
  cases ha : p.a with
  | none =>
    have hv : vs = [] := by
      rcases h.2.1 with h0 | ⟨b, o, ha', _⟩
      · exact h0
      · rw [ha] at ha'; cases ha'
    subst hv
    have hl : p.len = 0 := by
      have := h.1
      simp only [List.length_nil] at this
      rcases Nat.eq_zero_or_pos p.len with h0 | h0
      · exact h0
      · have := Nat.mul_pos h0 hsz; omega
    rw [hl]
    exact Src.ofNil w et.ht p.cap
  | some a =>
    refine Src.ofSlice w et.ht a p.len p.cap vs h.1 (fun j u hu => ?_) h1
    rcases h.2.1 with h0 | ⟨b, o, ha', hc⟩
    · subst h0; simp at hu
    · rw [ha] at ha'; cases ha'
      rw [add_lit']; exact hc j u hu

theorem RunN.app {base : Nat} {t tx ty e : TypeId} {sz by_ : Nat} (et : ET P t e sz by_) (hsz : 0 < sz) {s : Sl} {xs : List Value} (ho : Ow w base e sz s xs) {x : Value} {n : Nat} {news : List Value} (hs : Src P sz tx x n news w)
    (hbase : base ≤ w.heap.size) (h63 : s.len + n ≤ maxLen) (hfit : (s.len + n) * by_ ≤ 140737488355328) {K : Sl → World → Prop}
    (h : ∀ s' w', s'.len = s.len + n → Ow w' base e sz s' (xs ++ news) → Upd w w' (fun k => s.blk = some k) → (s'.blk = s.blk ∨ ∃ g, s'.blk = some g ∧ w.heap.size ≤ g ∧ g < w'.heap.size) → K s' w') :
    RunN P .sl (V (Builtin.append_ #[t, tx] ty #[.slice s.a s.len s.cap, x])) w K := by
  obtain ⟨s', w', hr, h1, h2, h3, h4⟩ := run_app et hsz ho hs hbase h63 hfit (ty := ty)
  refine RunN.of (kd := .sl) (x := s') hr (h s' w' h1 h2 h3 ?_)
  rcases h4 with ⟨h4, _⟩ | ⟨_, h4⟩
  · exact .inl (by simp [Sl.blk, h4])
  · exact .inr h4

/-- A place of a slice. -/
theorem run_idx {t e : TypeId} {sz by_ : Nat} (et : ET P t e sz by_) {s : Sl} {b o : Nat} (ha : s.a = some ⟨b, o, none⟩) {k : IntKind} {i : Int} (h0 : 0 ≤ i) (h1 : i < s.len) :
    (Instr.indexAt t (.slice s.a s.len s.cap) (.int k i)).run P w = .ok (.pointer (some ⟨b, o + i.toNat * sz, none⟩)) w := by
  obtain ⟨j, z, hi, hz, h2, h3, h4⟩ := et.hi
  rw [ha]
  simp [Instr.indexAt, asIntOf, run_underlying et.ht, h0, h1, sizeOf, typeInfo, hi, h2, add_lit']
theorem RunN.idx {t e : TypeId} {sz by_ : Nat} (et : ET P t e sz by_) {s : Sl} {b o : Nat} (ha : s.a = some ⟨b, o, none⟩) {k : IntKind} {i : Int} (h0 : 0 ≤ i) (h1 : i < s.len) {K : Addr → World → Prop}
    (h : K ⟨b, o + i.toNat * sz, none⟩ w) : RunN P .addr (V (Instr.indexAt t (.slice s.a s.len s.cap) (.int k i))) w K :=
  RunN.of (kd := .addr) (run_idx et ha h0 h1) h

/-- A type whose values lie in one cell. -/
def scB (P : Program) (t : TypeId) : Bool := match P.underlying t with
  | some (.struct _) => false
  | some (.array _ _) => false
  | some _ => (match P.info? t with | some i => Nat.beq i.size 1 | none => false)
  | none => false
theorem isAgg_of {t : TypeId} (h : scB P t = true) : (isAgg t).run P w = .ok false w := by
  unfold scB at h
  cases hu : P.underlying t with
  | none => simp [hu] at h
  | some d => cases d <;> simp_all [isAgg, run_underlying hu]
theorem run_load {t : TypeId} (ht : scB P t = true) {p : Addr} {v : Value} (hc : w.cell? p = some v) : (Instr.loadAt t (.pointer (some p))).run P w = .ok v w := by
  have := isAgg_of (w := w) ht
  simp [Instr.loadAt, Instr.sureAddr, loadVar, this, load, Sem.run, hc]
theorem RunN.load {t : TypeId} (ht : scB P t = true) {kd : Kd} {p : Addr} {x : kd.T} (hc : w.cell? p = some (kd.val x)) {K : kd.T → World → Prop} (h : K x w) : RunN P kd (V (Instr.loadAt t (.pointer (some p)))) w K :=
  RunN.of (run_load ht hc) h
theorem ReadN.load {t : TypeId} (ht : scB P t = true) {kd : Kd} {p : Addr} {x : kd.T} (hc : w.cell? p = some (kd.val x)) {K : kd.T → Prop} (h : K x) : ReadN P kd (V (Instr.loadAt t (.pointer (some p)))) w K :=
  ReadN.of (run_load ht hc) h
theorem StillV.load {t : TypeId} (ht : scB P t = true) {p : Addr} {v : Value} (hc : w.cell? p = some v) : StillV P (V (Instr.loadAt t (.pointer (some p)))) v w := StillV.of (run_load ht hc)
theorem run_stor {t : TypeId} (ht : scB P t = true) {p : Addr} {u v : Value} (hv : v.oneCell' = true) (hc : w.cell? p = some u) (hf : w.frozen? p = false) :
    (Instr.storeAt t (.pointer (some p)) v).run P w = .ok () (w.setCell p v) := by
  have hsz : (sizeOf t).run P w = .ok 1 w := by
    unfold scB at ht
    cases hu : P.underlying t with
    | none => simp [hu] at ht
    | some d =>
      cases hi : P.info? t with
      | none => cases d <;> simp [hu, hi] at ht
      | some i =>
        have : i.size = 1 := by cases d <;> simp [hu, hi] at ht <;> exact ht
        simp [sizeOf, typeInfo, hi, this]
  have h1 : v.cells = #[v] := by cases v <;> first | rfl | (simp [Value.oneCell'] at hv)
  have hst := run_store P w p v .plain hv
  rw [hc] at hst
  simp only [hf] at hst
  have hadd : p.add 0 = p := by simp [Addr.add]
  simp [Instr.storeAt, Instr.sureAddr, storeVar, hsz, h1, storeCells, hadd, hst]
theorem RunU.stor {t : TypeId} (ht : scB P t = true) {p : Addr} {u v : Value} (hv : v.oneCell' = true) (hc : w.cell? p = some u) (hf : w.frozen? p = false) {K : World → Prop} (h : K (w.setCell p v)) :
    RunU P (U (Instr.storeAt t (.pointer (some p)) v)) w K := RunU.of (run_stor ht hv hc hf) h

/-- Bytes. -/
def u8v (x : UInt8) : Value := .int .u8 (x.toNat : Int)
def bys (l : List UInt8) : List Value := l.map u8v
@[simp] theorem bys_length (l : List UInt8) : (bys l).length = l.length := by simp [bys]
theorem bys_append (a b : List UInt8) : bys (a ++ b) = bys a ++ bys b := by simp [bys]
theorem bys_get {l : List UInt8} {i : Nat} (h : i < l.length) : (bys l)[i]? = some (u8v l[i]) := by simp [bys, h]
theorem bys_one (l : List UInt8) : ∀ u ∈ bys l, u.oneCell' = true := by
  intro u hu
  obtain ⟨x, _, rfl⟩ := List.mem_map.1 hu
  rfl

def strB (P : Program) (src e dst : TypeId) : Bool := match P.underlying src, P.underlying e, P.underlying dst with
  | some (.slice e'), some (.int .u8), some .string => Nat.beq e' e
  | _, _, _ => false
theorem foldl_push (l : List UInt8) (acc : ByteArray) : (l.map fun x => (x.toNat : Int)).foldl (fun r n => r.push (UInt8.ofNat n.toNat)) acc = ⟨acc.data ++ l.toArray⟩ := by
  induction l generalizing acc with
  | nil => simp
  | cons x r ih =>
    simp only [List.map_cons, List.foldl_cons, ih]
    have : (acc.push (UInt8.ofNat (x.toNat : Int).toNat)).data = acc.data.push x := by simp [ByteArray.push]
    rw [this]; simp
theorem run_toStr {src e dst : TypeId} (h : strB P src e dst = true) {s : Sl} {l : List UInt8} (hr : Rd w s 1 (bys l)) : (convert src dst (.slice s.a s.len s.cap)).run P w = .ok (.string ⟨l.toArray⟩) w := by
  unfold strB at h
  split at h
  · rename_i e' h1 h2 h3
    have := Nat.eq_of_beq_eq_true h; subst this
    rw [run_convert_bytes_string w src dst e' s.a s.len s.cap h1 h2 h3]
    cases ha : s.a with
    | none =>
      have hv : l = [] := by
        rcases hr.2.1 with h0 | ⟨b, o, ha', _⟩
        · simpa [bys] using h0
        · rw [ha] at ha'; cases ha'
      subst hv
      simp [Conv.bytesToString]; rfl
    | some a =>
      have hlen : s.len = l.length := by have := hr.1; simp at this; omega
      have hl : (loadCells a s.len).run P w = .ok ((l.map fun x => (x.toNat : Int)).map (Value.int .u8)).toArray w := by
        have e1 : (l.map fun x => (x.toNat : Int)).map (Value.int .u8) = bys l := by simp [bys, u8v]
        rw [e1, hlen, ← bys_length l]
        refine run_loadCells_list w a (bys l) fun j u hu => ?_
        rcases hr.2.1 with h0 | ⟨b, o, ha', hc⟩
        · rw [h0] at hu; simp at hu
        · rw [ha] at ha'; cases ha'
          rw [add_lit']; exact hc j u hu
      rw [run_bytesToString w a s.len s.cap _ hl, foldl_push]
      simp
  · cases h

theorem RunN.toStr {src e dst : TypeId} (h : strB P src e dst = true) {s : Sl} {l : List UInt8} (hr : Rd w s 1 (bys l)) {K : ByteArray → World → Prop} (hk : K ⟨l.toArray⟩ w) : RunN P .str (V (convert src dst (.slice s.a s.len s.cap))) w K :=
  RunN.of (kd := .str) (run_toStr h hr) hk
theorem ReadN.toStr {src e dst : TypeId} (h : strB P src e dst = true) {s : Sl} {l : List UInt8} (hr : Rd w s 1 (bys l)) {K : ByteArray → Prop} (hk : K ⟨l.toArray⟩) : ReadN P .str (V (convert src dst (.slice s.a s.len s.cap))) w K :=
  ReadN.of (kd := .str) (run_toStr h hr) hk
theorem StillV.toStr {src e dst : TypeId} (h : strB P src e dst = true) {s : Sl} {l : List UInt8} (hr : Rd w s 1 (bys l)) : StillV P (V (convert src dst (.slice s.a s.len s.cap))) (.string ⟨l.toArray⟩) w :=
  StillV.of (run_toStr h hr)

/-- A literal slice in memory of its own. -/
theorem Ow.lit {base : Nat} {e : TypeId} {sz n c : Nat} {cs : List Value} (hbase : base ≤ w.heap.size) (hn : n ≤ c) (hc : c ≤ maxLen) (hl : cs.length = c * sz) : Ow (w.alloc (.cells ⟨cs⟩ e)) base e sz ⟨some ⟨w.heap.size, 0, none⟩, n, c⟩ (cs.take (n * sz)) := by
  have h1 : n * sz ≤ c * sz := Nat.mul_le_mul_right _ hn
  exact ⟨by simp; omega, .inr ⟨w.heap.size, 0, cs, rfl, hbase, heap_alloc_new w _, hn, hc, by simp; omega, by simp⟩⟩

theorem RunN.make0 {t e : TypeId} {sz by_ : Nat} (et : ET P t e sz by_) {base : Nat} {kc : IntKind} {c : Int} (h0 : 0 ≤ c) (hb : (by_ : Int) * c ≤ 281474976710656) (h63 : c ≤ 9223372036854775807) (hbase : base ≤ w.heap.size) {K : Sl → World → Prop}
    (h : ∀ s' w', s'.len = 0 → s'.cap = c.toNat → Ow w' base e sz s' [] → Upd w w' nobody → s'.blk = some w.heap.size → w.heap.size < w'.heap.size → K s' w') :
    RunN P .sl (V (Instr.makeSlice t (.int .i64 0) (.int kc c))) w K := by
  obtain ⟨i, z, hi, hz, h1, h2, h3⟩ := et.hi
  subst h1; subst h2
  have hr := run_make (P := P) w t e i z et.ht hi hz .i64 kc 0 c (Int.le_refl _) h0 hb h63
  refine RunN.of (kd := .sl) (x := ⟨some ⟨w.heap.size, 0, none⟩, 0, c.toNat⟩) (by simpa [Kd.val] using hr) (h _ _ rfl rfl ?_ (Upd.alloc _ _ _) rfl (by simp))
  have := Ow.lit (w := w) (e := e) (sz := i.size) (n := 0) (c := c.toNat) (cs := (madeCells z.cells (c.toNat * i.size)).toList) hbase (Nat.zero_le _) (by simp only [maxLen]; omega) (by rw [Array.length_toList, size_madeCells])
  simpa using this
theorem Rd.bys_at {w : World} {s : Sl} {l : List UInt8} (hr : Rd w s 1 (bys l)) (hne : l ≠ []) : ∃ b o, s.a = some ⟨b, o, none⟩ ∧ ∀ i (h : i < l.length), w.cell? ⟨b, o + i, none⟩ = some (u8v l[i]) := by
  rcases hr.2.1 with h0 | ⟨b, o, ha, hc⟩
  · exact absurd (by simpa [bys] using h0) hne
  · exact ⟨b, o, ha, fun i h => hc i _ (bys_get h)⟩
theorem Rd.bys_len {w : World} {s : Sl} {l : List UInt8} (hr : Rd w s 1 (bys l)) : s.len = l.length := by have := hr.1; simp at this; omega


theorem toList_mk (l : List UInt8) : (⟨l.toArray⟩ : ByteArray).toList = l := by
  have key : ∀ (n : Nat) (i : Nat) (r : List UInt8), l.length - i = n → i ≤ l.length → ByteArray.toList.loop (⟨l.toArray⟩ : ByteArray) i r = r.reverse ++ l.drop i := by
    intro n
    induction n with
    | zero =>
      intro i r hn hi
      have : i = l.length := by omega
      subst this
      unfold ByteArray.toList.loop
      have : ¬ (l.length < (⟨l.toArray⟩ : ByteArray).size) := by simp [ByteArray.size]
      rw [if_neg this]; simp
    | succ n ih =>
      intro i r hn hi
      unfold ByteArray.toList.loop
      have hlt : i < (⟨l.toArray⟩ : ByteArray).size := by simp [ByteArray.size]; omega
      have hlt' : i < l.length := by omega
      rw [if_pos hlt, ih (i + 1) _ (by omega) (by omega)]
      have hg : (⟨l.toArray⟩ : ByteArray).get! i = l[i] := by simp [ByteArray.get!, hlt']
      rw [hg, List.reverse_cons, List.append_assoc, List.singleton_append, ← List.drop_eq_getElem_cons hlt']
  have := key l.length 0 [] (by omega) (Nat.zero_le _)
  simpa [ByteArray.toList] using this

/-- A part of a slice. -/
def subA (s : Sl) (lo sz : Nat) : Option Addr := if s.cap = lo then s.a else s.a.map (·.add (lo * sz))
theorem Rd.sub {w : World} {s : Sl} {sz : Nat} {vs : List Value} (h : Rd w s sz vs) {lo hi m : Nat} (h1 : lo ≤ hi) (h2 : hi ≤ s.len) (hm : hi ≤ m) :
    Rd w ⟨if m = lo then s.a else s.a.map (·.add (lo * sz)), hi - lo, m - lo⟩ sz ((vs.drop (lo * sz)).take ((hi - lo) * sz)) := by
  have hle : hi * sz ≤ s.len * sz := Nat.mul_le_mul_right _ h2
  have hsub : (hi - lo) * sz = hi * sz - lo * sz := Nat.sub_mul _ _ _
  refine ⟨by simp [h.1]; omega, ?_, by dsimp only; omega⟩
  by_cases he : hi = lo
  · left; subst he; simp
  · rcases h.2.1 with h0 | ⟨b, o, ha, hc⟩
    · left; subst h0; simp
    · right
      have hml : m ≠ lo := by omega
      refine ⟨b, o + lo * sz, by simp [hml, ha, add_lit'], fun i v hv => ?_⟩
      rw [List.getElem?_take] at hv
      split at hv
      · rw [List.getElem?_drop] at hv
        rw [Nat.add_assoc]; exact hc _ v hv
      · cases hv
theorem elem_of {t e : TypeId} {sz by_ : Nat} (et : ET P t e sz by_) : P.underlying t = some (.slice (P.elem t)) := by simp [Program.elem, et.ht]
theorem run_size {t e : TypeId} {sz by_ : Nat} (et : ET P t e sz by_) : (sizeOf (P.elem t)).run P w = .ok sz w := by
  obtain ⟨i, z, hi, hz, h1, h2, h3⟩ := et.hi
  have : P.elem t = e := by simp [Program.elem, et.ht]
  rw [this]; simp [sizeOf, typeInfo, hi, h1]
/-- s[:h] -/
theorem RunN.subH {t e : TypeId} {sz by_ : Nat} (et : ET P t e sz by_) {s : Sl} {k : IntKind} {h : Int} (h0 : 0 ≤ h) (h2 : h ≤ s.cap) {K : Sl → World → Prop}
    (hk : K ⟨if s.cap = 0 then s.a else s.a.map (·.add (0 * sz)), h.toNat - 0, s.cap - 0⟩ w) : RunN P .sl (V (Instr.sliceAt t (.slice s.a s.len s.cap) none (some (.int k h)) none)) w K := by
  refine RunN.of (kd := .sl) ?_ hk
  rw [run_sliceAt_slice w t _ _ _ _ (elem_of et), run_slice_h w t s.a s.len s.cap (elem_of et) k h h0 h2, run_size et]
  rfl
/-- s[l:] -/
theorem RunN.subL {t e : TypeId} {sz by_ : Nat} (et : ET P t e sz by_) {s : Sl} {k : IntKind} {l : Int} (h0 : 0 ≤ l) (h2 : l ≤ s.len) {K : Sl → World → Prop}
    (hk : K ⟨if s.cap = l.toNat then s.a else s.a.map (·.add (l.toNat * sz)), s.len - l.toNat, s.cap - l.toNat⟩ w) : RunN P .sl (V (Instr.sliceAt t (.slice s.a s.len s.cap) (some (.int k l)) none none)) w K := by
  refine RunN.of (kd := .sl) ?_ hk
  rw [run_sliceAt_slice w t _ _ _ _ (elem_of et), run_slice_l w t s.a s.len s.cap (elem_of et) k l h0 h2, run_size et]
  rfl
/-- s[l:h:m] -/
theorem RunN.subLHM {t e : TypeId} {sz by_ : Nat} (et : ET P t e sz by_) {s : Sl} {kl kh km : IntKind} {l h m : Int} (h0 : 0 ≤ l) (h1 : l ≤ h) (h2 : h ≤ m) (h3 : m ≤ s.cap) {K : Sl → World → Prop}
    (hk : K ⟨if m.toNat = l.toNat then s.a else s.a.map (·.add (l.toNat * sz)), h.toNat - l.toNat, m.toNat - l.toNat⟩ w) : RunN P .sl (V (Instr.sliceAt t (.slice s.a s.len s.cap) (some (.int kl l)) (some (.int kh h)) (some (.int km m)))) w K := by
  refine RunN.of (kd := .sl) ?_ hk
  rw [run_sliceAt_slice w t _ _ _ _ (elem_of et), run_slice_lhm w t s.a s.len s.cap (elem_of et) kl kh km l h m h0 h1 h2 h3, run_size et]
  rfl
end
end Go.Fw

/- From a walk to a row: the arguments read behind a call that changed nothing as they read before it. -/
namespace Go.Fw
open Go.ChangeShapes Go.WideShapes Go.ChangeAt Go.RowKit Go

theorem trodAll_below {H : Type} {enc : TypeId × Value → H} {P : Program} {W W' : World} (hl : laidOutB P = true) (hb : Below W.heap.size W W') :
    ∀ {ts : List TypeId} {vs : List Value} {ds : List (DataW H)} {ps : List MemPlace}, (ts.all fun t => P.readableRec t && decide (t < P.types.size)) = true → DataW.TrodAll enc P W 0 (fun _ => true) true ts vs ds ps →
      (∀ x ∈ ps, x.block < W.heap.size) → DataW.TrodAll enc P W' 0 (fun b => decide (b < W.heap.size)) true ts vs ds ps
  | [], [], [], ps, _, h, _ => h
  | t :: ts, v :: vs, d :: ds, ps, ht, h, hlt => by
    obtain ⟨p, q, h1, h2, rfl⟩ := h
    simp only [List.all_cons, Bool.and_eq_true, decide_eq_true_eq] at ht
    exact ⟨p, q, Below.trod hl ht.1.1 ht.1.2 h1 hb (fun x hx => hlt x (List.mem_append_left _ hx)), trodAll_below hl hb (by simpa using ht.2) h2 (fun x hx => hlt x (List.mem_append_right _ hx)), rfl⟩
  | [], [], _ :: _, _, _, h, _ => h.elim
  | [], _ :: _, _, _, _, h, _ => h.elim
  | _ :: _, [], _, _, _, h, _ => h.elim
  | _ :: _, _ :: _, [], _, _, h, _ => h.elim

theorem byte_of {n : Int} (h : (Lit.int .u8 n).wf = true) : ∃ d : UInt8, n = (d.toNat : Int) := by
  have hmin : IntKind.u8.min = 0 := rfl
  have hmax : IntKind.u8.max = 255 := rfl
  simp [Lit.wf, hmin, hmax] at h
  refine ⟨UInt8.ofNat n.toNat, ?_⟩
  rw [UInt8.toNat_ofNat']; omega

/-! ### what was handed in, opened -/
def Wt {H : Type} (P : Program) (t : TypeId) (d : DataW H) : Prop := ∀ n ∈ d.weights P t, n ≤ reachBytes
theorem weightsAll_mem {H : Type} {P : Program} {e : TypeId} : ∀ {l : List (DataW H)} {d : DataW H}, d ∈ l → ∀ n ∈ d.weights P e, n ∈ DataW.weightsAll P e l
  | x :: r, d, hm, n, hn => by
    simp only [DataW.weightsAll, List.mem_append]
    rcases List.mem_cons.1 hm with rfl | hm
    · exact .inl hn
    · exact .inr (weightsAll_mem hm n hn)
theorem wt_of_all {H : Type} {P : Program} {ts : List TypeId} {ds : List (DataW H)} (h : (DataW.weightsEach P ts ds).all (· ≤ reachBytes) = true) {j : Nat} {t : TypeId} {d : DataW H} (ht : ts[j]? = some t) (hd : ds[j]? = some d) : Wt P t d := by
  intro n hn
  have := List.all_eq_true.1 h _ (DataW.weights_mem_each ht hd n hn)
  simpa using this
/-- A slice, its elements' cells, and how long it may be. -/
theorem open_rd {H : Type} {enc : TypeId × Value → H} {P : Program} {w : World} {base : Nat} {spare : Nat → Bool} {held : Bool} {fuel : Nat} {t e : TypeId} {sz : Nat} {cs : List Value} {x : DataW H × List MemPlace}
    (ht : P.underlying t = some (.slice e)) (hc : P.cellsOf e = sz) (hsz : 0 < sz) (h : DataW.trod enc P w base spare held fuel t cs = some x) (hw : Wt P t x.1) :
    ∃ (s : Sl) (els : List (List Value)), cs = [.slice s.a s.len s.cap] ∧ els.length = s.len ∧ Rd w s sz els.flatten ∧ s.len * P.bytesOf e ≤ reachBytes ∧ ∀ c ∈ els, c.length = sz ∧ ∃ (n : Nat) (y : DataW H × List MemPlace), DataW.trod enc P w base spare held n e c = some y ∧ Wt P e y.1 := by
  rcases DataW.trod_slice ht h with ⟨rfl, rfl⟩ | ⟨a, len, cap, elems, rest, n, _, rfl, rfl, hb, hl, hm, hlen, hel, _, _⟩
  · exact ⟨⟨none, 0, 0⟩, [], rfl, rfl, Rd.nil _ _, by simp, fun c hc => by cases hc⟩
  have hwl : (elems.length + rest.length) * P.bytesOf e ≤ reachBytes := by
    have := hw _ (by simp only [DataW.weights, ht, List.length_map]; exact List.mem_cons_self ..)
    exact this
  have each : ∀ i, i < len → ∃ c, w.cells? base (a.add (i * sz)) sz = some c ∧ ∃ y, DataW.trod enc P w base spare held n e c = some y ∧ Wt P e y.1 := by
    intro i hi
    have h1 := hel i hi
    obtain ⟨y, hy⟩ : ∃ y, elems[i]? = some y := ⟨elems[i]'(by omega), List.getElem?_eq_getElem (by omega)⟩
    rw [hy, hc, Option.bind_eq_some_iff] at h1
    obtain ⟨c, hc1, hc2⟩ := h1
    refine ⟨c, hc1, y, hc2, fun m hm => hw m ?_⟩
    simp only [DataW.weights, ht, List.mem_cons, List.mem_append]
    exact .inr (.inl (weightsAll_mem (List.mem_map.2 ⟨y, List.mem_of_getElem? hy, rfl⟩) m hm))
  refine ⟨⟨some a, len, cap⟩, (List.range len).map fun i => ((w.cells? base (a.add (i * sz)) sz).getD []), rfl, by simp, ?_, ?_, ?_⟩
  · have hrow : ∀ k, k ≤ len → ((List.range k).map fun i => ((w.cells? base (a.add (i * sz)) sz).getD [])).flatten.length = k * sz ∧
        ∀ j v, ((List.range k).map fun i => ((w.cells? base (a.add (i * sz)) sz).getD [])).flatten[j]? = some v → w.cell? (a.add j) = some v := by
      intro k
      induction k with
      | zero => intro _; exact ⟨by simp, fun j v h => by simp at h⟩
      | succ k ih =>
        intro hk
        obtain ⟨ih1, ih2⟩ := ih (by omega)
        obtain ⟨c, hc1, _⟩ := each k (by omega)
        obtain ⟨_, hcl, hcc⟩ := World.cells?_some hc1
        rw [List.range_succ, List.map_append, List.flatten_append]
        simp only [List.map_cons, List.map_nil, List.flatten_cons, List.flatten_nil, List.append_nil, hc1, Option.getD_some]
        refine ⟨by rw [List.length_append, ih1, hcl, Nat.add_mul, Nat.one_mul], fun j v hv => ?_⟩
        rcases Nat.lt_or_ge j (k * sz) with hj | hj
        · rw [List.getElem?_append_left (by omega)] at hv; exact ih2 j v hv
        · rw [List.getElem?_append_right (by omega), ih1] at hv
          have hjl := (List.getElem?_eq_some_iff.1 hv).1
          have := hcc (j - k * sz) (by omega)
          rw [hv] at this
          rw [← this]
          congr 1
          rcases a with ⟨b, o, sp⟩
          unfold Addr.add
          by_cases h1 : k * sz = 0
          · simp only [h1, if_true, Nat.sub_zero]
          · by_cases h2 : j - k * sz = 0
            · have : j = k * sz := by omega
              subst this
              simp [h1]
            · have : j ≠ 0 := by omega
              simp only [h1, h2, this, if_false, Addr.mk.injEq]
              exact ⟨trivial, by omega, trivial⟩
    obtain ⟨h1, h2⟩ := hrow len (Nat.le_refl _)
    refine ⟨h1, ?_, hl⟩
    by_cases h0 : len = 0
    · left; subst h0; rfl
    right
    have hsp : a.spot = none := by
      obtain ⟨c, hc1, _⟩ := each 0 (by omega)
      obtain ⟨_, hcl, hcc⟩ := World.cells?_some hc1
      have h3 := hcc 0 hsz
      have h4 : (a.add (0 * sz)).add 0 = a := by simp [Addr.add]
      rw [h4, List.getElem?_eq_getElem (by omega)] at h3
      unfold World.cell? at h3
      cases hs : a.spot with
      | none => rfl
      | some k =>
        simp only [hs, Option.isSome_some, if_true] at h3
        split at h3 <;> simp at h3
    obtain ⟨b, o, sp⟩ := a
    dsimp only at hsp
    subst hsp
    exact ⟨b, o, rfl, fun i v hv => by have := h2 i v hv; rwa [add_lit'] at this⟩
  · have : len * P.bytesOf e ≤ (elems.length + rest.length) * P.bytesOf e := Nat.mul_le_mul_right _ (by omega)
    dsimp only; omega
  · intro c hcm
    obtain ⟨i, hi, rfl⟩ := List.mem_map.1 hcm
    have hi := List.mem_range.1 hi
    obtain ⟨c, hc1, y, hy, hwy⟩ := each i hi
    obtain ⟨_, hcl, _⟩ := World.cells?_some hc1
    simp only [hc1, Option.getD_some]
    exact ⟨hcl, n, y, hy, hwy⟩
/-- A struct's fields. -/
theorem open_fields {H : Type} {enc : TypeId × Value → H} {P : Program} {w : World} {base : Nat} {spare : Nat → Bool} {held : Bool} {fuel : Nat} {t : TypeId} {fs : Array Field} {cs : List Value} {x : DataW H × List MemPlace}
    (ht : P.underlying t = some (.struct fs)) (h : DataW.trod enc P w base spare held fuel t cs = some x) (hw : Wt P t x.1) :
    ∀ (i : Nat) (f : Field), fs[i]? = some f → ∃ (n : Nat) (y : DataW H × List MemPlace), DataW.trod enc P w base spare held n f.type ((cs.drop f.offset).take (P.cellsOf f.type)) = some y ∧ Wt P f.type y.1 := by
  obtain ⟨xs, n, rfl, rfl, hcl, hxl, hel⟩ := DataW.trod_struct ht h
  intro i f hf
  have h1 := hel i f hf
  have hlt : i < xs.length := by rw [hxl]; exact (Array.getElem?_eq_some_iff.1 hf).1
  rw [List.getElem?_eq_getElem hlt] at h1
  refine ⟨n, xs[i], h1, fun m hm => hw m ?_⟩
  simp only [DataW.weights, ht]
  exact DataW.weights_mem_each (j := i) (t := f.type) (d := xs[i].1) (by simp [hf]) (by simp [hlt]) m hm
/-- Bytes. -/
theorem open_bys {H : Type} {enc : TypeId × Value → H} {P : Program} {w : World} {base : Nat} {spare : Nat → Bool} {held : Bool} {fuel : Nat} {t e : TypeId} {cs : List Value} {x : DataW H × List MemPlace}
    (ht : P.underlying t = some (.slice e)) (he : P.underlying e = some (.int .u8)) (hc : P.cellsOf e = 1) (hb : P.bytesOf e = 1) (h : DataW.trod enc P w base spare held fuel t cs = some x) (hw : Wt P t x.1) :
    ∃ (s : Sl) (l : List UInt8), cs = [.slice s.a s.len s.cap] ∧ Rd w s 1 (bys l) ∧ l.length ≤ reachBytes := by
  obtain ⟨s, els, rfl, hl, hr, hlen, hel⟩ := open_rd ht hc (by decide) h hw
  have : ∃ l : List UInt8, els.flatten = bys l := by
    clear hl hr hlen h hw
    induction els with
    | nil => exact ⟨[], rfl⟩
    | cons c r ih =>
      obtain ⟨l, hl⟩ := ih fun c hc => hel c (List.mem_cons_of_mem _ hc)
      obtain ⟨hc1, n, y, hy, _⟩ := hel c (List.mem_cons_self ..)
      obtain ⟨m, rfl, _, hwf⟩ := DataW.trod_int he hy
      obtain ⟨d, rfl⟩ := byte_of hwf
      exact ⟨d :: l, by rw [List.flatten_cons, hl]; rfl⟩
  obtain ⟨l, hbl⟩ := this
  rw [hbl] at hr
  refine ⟨s, l, rfl, hr, ?_⟩
  have := hr.bys_len
  rw [hb] at hlen; omega
end Go.Fw

/- A region that draws its order, with calls in it: what is read is read as early as it may be, and whatever is done behind it is done in one chain; then one reading serves every order. -/
namespace Go.Fw
open Go
set_option linter.unusedVariables false

inductive DClsY where
  | pure | nilc (x : Operand) | read (kd : Kd) | eff (kd : Kd) | effU | call (kd : Kd) | bad
def isCallY : Op → Bool
  | .call c => match c.callee with
    | .builtin _ => false
    | _ => true
  | _ => false
def isReadY (κ : List Kd) (op : Op) : Bool :=
  match op with
  | .call c => match c.callee with
    | .builtin b => match b with | .min | .max => true | _ => isRead κ op
    | _ => isRead κ op
  | _ => isRead κ op
def dclsY (κ : List Kd) (o : Oper) : DClsY :=
  match isCallY o.op with
  | true => .call (nth .raw κ o.type)
  | false => match clsOf κ o with
    | .mv _ => .pure
    | .nilc x => .nilc x
    | .run => .pure
    | .eff kd => match isReadY κ o.op with | true => .read kd | false => .eff kd
    | .effU => .effU
    | .bad => .bad
def isEffY (κ : List Kd) (o : Oper) : Bool := match dclsY κ o with | .eff _ => true | .effU => true | .call _ => true | _ => false
def effsY (κ : List Kd) : List Oper → Nat → List Nat
  | [], _ => []
  | o :: r, i => match isEffY κ o with | true => i :: effsY κ r (i + 1) | false => effsY κ r (i + 1)

/-- One operation; 'hi': how many writers may still come before it runs. -/
def dstepY (P : Program) (κ : List Kd) (o : Oper) (hi : Nat) (fr : Fr) (w : World) (pend : List Pend) (K : Fr → World → List Pend → Prop) : Prop :=
  match Fr.allKnown fr o.op.operands.toList with
  | false => False
  | true => match dclsY κ o with
    | .pure => match pureEval P (execOp (Fr.eval fr) o) with
      | some (.value v) => K (Fr.put fr o.dst v) w pend
      | _ => False
    | .nilc x => match (Fr.eval fr) x with
      | .pointer p => NilP p fun a => K (Fr.put fr o.dst (.pointer (some a))) w pend
      | _ => False
    | .read kd => ReadN P kd (execOp (Fr.eval fr) o) w fun x => K (Fr.put fr o.dst (kd.val x)) w (⟨execOp (Fr.eval fr) o, kd.val x, hi⟩ :: pend)
    | .eff kd => RunN P kd (execOp (Fr.eval fr) o) w fun x w' => stillAll P w' (K (Fr.put fr o.dst (kd.val x)) w' (tick pend)) pend
    | .effU => RunU P (execOp (Fr.eval fr) o) w fun w' => stillAll P w' (K (Fr.put fr o.dst undef) w' (tick pend)) pend
    | .call kd => match (execOp (Fr.eval fr) o).run P w with
      | .ok (.enter f args) w1 => CallK P kd f args w1 fun x w' => stillAll P w' (K (Fr.put fr o.dst (kd.val x)) w' (tick pend)) pend
      | _ => False
    | .bad => False
def dskipY (κ : List Kd) (o : Oper) (fr : Fr) (w : World) (pend : List Pend) (K : Fr → World → List Pend → Prop) : Prop :=
  match isEffY κ o with
  | false => K (Fr.put fr o.dst undef) w pend
  | true => K (Fr.put fr o.dst undef) w (tick pend)
def bumpY (κ : List Kd) (o : Oper) (j : Nat) : Nat := match isEffY κ o with | true => j + 1 | false => j
def lvl (bf ef : List Nat) (i : Nat) : Nat := cnt (fun e => (nth 0 bf i).testBit e) ef
def late (bf ef : List Nat) (i : Nat) : Nat := ef.length - cnt (fun e => (nth 0 bf e).testBit i) ef

def drawY (P : Program) (κ : List Kd) (ops : List Oper) (bf ef : List Nat) : List Nat → Nat → Option (Nat × Bool) → Fr → World → List Pend → KF → Prop
  | [], _, _, fr, w, _, K => K fr w
  | i :: rest, rk, prev, fr, w, pend, K =>
    match ops[i]? with
    | none => False
    | some o => match o.guard with
      | none => dstepY P κ o (late bf ef i - rk) fr w pend fun fr w pend => drawY P κ ops bf ef rest (bumpY κ o rk) none fr w pend K
      | some (j, want) =>
        match (ops[j]?).bind (·.dst) with
        | none => False
        | some d =>
          match sget fr d with
          | none => False
          | some (.bool b) =>
            match sameGuard prev j want with
            | true => match b, want with
              | true, true => dstepY P κ o (late bf ef i - rk) fr w pend fun fr w pend => drawY P κ ops bf ef rest (bumpY κ o rk) (some (j, want)) fr w pend K
              | false, false => dstepY P κ o (late bf ef i - rk) fr w pend fun fr w pend => drawY P κ ops bf ef rest (bumpY κ o rk) (some (j, want)) fr w pend K
              | _, _ => dskipY κ o fr w pend fun fr w pend => drawY P κ ops bf ef rest (bumpY κ o rk) (some (j, want)) fr w pend K
            | false => SplitB b
              (match want with
                | true => dstepY P κ o (late bf ef i - rk) (Fr.put fr (some d) (.bool true)) w pend fun fr w pend => drawY P κ ops bf ef rest (bumpY κ o rk) (some (j, want)) fr w pend K
                | false => dskipY κ o (Fr.put fr (some d) (.bool true)) w pend fun fr w pend => drawY P κ ops bf ef rest (bumpY κ o rk) (some (j, want)) fr w pend K)
              (match want with
                | false => dstepY P κ o (late bf ef i - rk) (Fr.put fr (some d) (.bool false)) w pend fun fr w pend => drawY P κ ops bf ef rest (bumpY κ o rk) (some (j, want)) fr w pend K
                | true => dskipY κ o (Fr.put fr (some d) (.bool false)) w pend fun fr w pend => drawY P κ ops bf ef rest (bumpY κ o rk) (some (j, want)) fr w pend K)
          | some _ => dskipY κ o fr w pend fun fr w pend => drawY P κ ops bf ef rest (bumpY κ o rk) (some (j, want)) fr w pend K

/-! ### the order of the reading, and what is checked of it -/
def atLvl (κ : List Kd) (ops : List Oper) (bf ef : List Nat) (l : Nat) : List Oper → Nat → List Nat
  | [], _ => []
  | o :: r, i => match isEffY κ o, Nat.beq (lvl bf ef i) l with
    | false, true => i :: atLvl κ ops bf ef l r (i + 1)
    | _, _ => atLvl κ ops bf ef l r (i + 1)
def ordGo (κ : List Kd) (ops : List Oper) (bf ef : List Nat) : List Nat → Nat → List Nat
  | [], l => atLvl κ ops bf ef l ops 0
  | e :: es, l => atLvl κ ops bf ef l ops 0 ++ e :: ordGo κ ops bf ef es (l + 1)
def ordB (κ : List Kd) (ops : List Oper) (bf ef : List Nat) : List Nat → Nat → List Nat → Nat → Bool
  | [], seen, es, rk => Nat.beq seen (2 ^ ops.length - 1) && (match es with | [] => true | _ => false) && Nat.beq rk ef.length
  | i :: r, seen, es, rk => match ops[i]? with
    | none => false
    | some o => !seen.testBit i && Nat.beq (nth 0 bf i &&& seen) (nth 0 bf i) && (match isEffY κ o with
      | true => (match es with | e :: es' => Nat.beq e i && (r.all fun k => match ops[k]? with | some o' => isEffY κ o' || Nat.blt rk (lvl bf ef k) | none => false) && ordB κ ops bf ef r (seen ||| 2 ^ i) es' (rk + 1) | [] => false)
      | false => Nat.beq (lvl bf ef i) rk && ordB κ ops bf ef r (seen ||| 2 ^ i) es rk)
def drawOkY (κ : List Kd) (ops : List Oper) (bf ef : List Nat) : Bool :=
  namesOk ops bf ops 0 && uniqOk ops && bfOk bf ops 0 && chainOk bf ef && ordB κ ops bf ef (ordGo κ ops bf ef ef 0) 0 ef 0

section
variable {P : Program} {κ : List Kd} {ops : List Oper} {bf ef : List Nat}

/-! ### what a schedule needs -/
/-- The frame in which operation i is read: what is written behind it is as it was at the start. -/
def NameOk (ops : List Oper) (bf : List Nat) (fr0 : Fr) (i : Nat) (o : Oper) (fi fr : Fr) : Prop :=
  ∀ t ∈ nameSlots ops o, (sget fi t = sget fr t ∧ ∀ j oj, ops[j]? = some oj → oj.dst = some t → (nth 0 bf i).testBit j = true) ∨
    (sget fi t = sget fr0 t ∧ ∃ (j : Nat) (oj : Oper), ops[j]? = some oj ∧ oj.dst = some t ∧ ((nth 0 bf j).testBit i = true ∨ j = i))

/-- The slots that some operation that writes nothing, of this level, fills. -/
def LvlSlot (κ : List Kd) (ops : List Oper) (bf ef : List Nat) (l t : Nat) : Prop := ∃ i o, ops[i]? = some o ∧ isEffY κ o = false ∧ lvl bf ef i = l ∧ o.dst = some t
def Ext (κ : List Kd) (ops : List Oper) (bf ef : List Nat) (l : Nat) (fr fr' : Fr) : Prop := fr'.length = fr.length ∧ ∀ t, ¬ LvlSlot κ ops bf ef l t → sget fr' t = sget fr t
def Reads (P : Program) (κ : List Kd) (ops : List Oper) (bf ef : List Nat) (fr0 : Fr) (rk : Nat) (fr : Fr) (w : World) : Prop :=
  ∀ i o, ops[i]? = some o → isEffY κ o = false → lvl bf ef i ≤ rk → rk ≤ late bf ef i → ∃ v fi, NameOk ops bf fr0 i o fi fr ∧ DoesAt P ops o fi w v w ∧ ∀ d, o.dst = some d → d < fr.length → sget fr d = some v
def EffAt (P : Program) (ops : List Oper) (o : Oper) (fr : Fr) (w : World) (Kont : Value → World → Prop) : Prop :=
  (wantIn ops fr o = some false ∧ Kont undef w) ∨
  (wantIn ops fr o = some true ∧ Fr.allKnown fr o.op.operands.toList = true ∧ (∀ cs b, o.op ≠ .select cs b) ∧
    ((∃ v w', (execOp (Fr.eval fr) o).run P w = .ok (.value v) w' ∧ Kont v w') ∨ (∃ w', (execOp (Fr.eval fr) o).run P w = .ok .skip w' ∧ Kont undef w') ∨
     (∃ f args w1, (execOp (Fr.eval fr) o).run P w = .ok (.enter f args) w1 ∧ Calls P f args w1 fun e w' => ∃ v, e = .returned v ∧ Kont v w')))
def NodeP (P : Program) (κ : List Kd) (ops : List Oper) (bf ef : List Nat) (fr0 : Fr) (K : KF) : List Nat → Nat → Fr → World → Prop
  | [], rk, fr, w => Reads P κ ops bf ef fr0 rk fr w ∧ K fr w
  | e :: es, rk, fr, w => Reads P κ ops bf ef fr0 rk fr w ∧ ∃ o, ops[e]? = some o ∧ NameOk ops bf fr0 e o fr fr ∧ EffAt P ops o fr w fun v w' => ∃ fr', Ext κ ops bf ef (rk + 1) (Fr.put fr o.dst v) fr' ∧ NodeP P κ ops bf ef fr0 K es (rk + 1) fr' w'

theorem Ext.refl (l : Nat) (fr : Fr) : Ext κ ops bf ef l fr fr := ⟨rfl, fun _ _ => rfl⟩

theorem put_len (fr : Fr) (dst : Option Tmp) (v : Value) : (Fr.put fr dst v).length = fr.length := by cases dst <;> simp [Fr.put, sput_eq]
theorem put_get (fr : Fr) (dst : Option Tmp) (v : Value) (t : Nat) : sget (Fr.put fr dst v) t = if dst = some t ∧ t < fr.length then some v else sget fr t := by
  cases dst with
  | none => simp [Fr.put]
  | some d =>
    simp only [Fr.put, sput_eq, sget_eq, List.getElem?_set]
    by_cases hd : d = t
    · subst hd
      by_cases hl : d < fr.length <;> simp [hl]
    · simp [hd]

/-! ### names -/
/-- Whoever writes a slot that operation i names comes before it, or comes behind it, or is it itself. -/
theorem names_bf (h : namesOk ops bf ops 0 = true) {i j : Nat} {o o' : Oper} {d : Nat} (ho : ops[i]? = some o) (ho' : ops[j]? = some o') (hd : o'.dst = some d) (hm : d ∈ nameSlots ops o) :
    (nth 0 bf i).testBit j = true ∨ (nth 0 bf j).testBit i = true ∨ j = i := by
  have := writers_spec (names_spec h i o ho) j o' d ho' hd hm
  simp only [Nat.zero_add] at this
  unfold pairOk at this
  have hb : ∀ x y, Nat.blt x y = decide (x < y) := by
    intro x y; by_cases h : x < y
    · simp [h, Nat.blt_eq]
    · simp only [h, decide_false]; cases hbb : Nat.blt x y with
      | false => rfl
      | true => exact absurd (Nat.blt_eq ▸ hbb) h
  rw [hb, hb] at this
  by_cases h1 : j < i
  · simp only [h1, decide_true] at this; exact .inl this
  · by_cases h2 : i < j
    · simp only [h1, h2, decide_true, decide_false] at this; exact .inr (.inl this)
    · exact .inr (.inr (by omega))
/-! ### frames that agree on the names of an operation -/
theorem known_tmp_mem {fr : Fr} {o : Oper} (hk : Fr.allKnown fr o.op.operands.toList = true) {t : Nat} (hx : Operand.tmp t ∈ o.op.operands.toList) : t ∈ nameSlots ops o :=
  List.mem_append_left _ (List.mem_filterMap.2 ⟨.tmp t, hx, rfl⟩)
theorem wantIn_congr {fr fr' : Fr} {o : Oper} (h : ∀ t ∈ nameSlots ops o, sget fr' t = sget fr t) : wantIn ops fr' o = wantIn ops fr o := by
  unfold wantIn
  cases hg : o.guard with
  | none => rfl
  | some jw =>
    obtain ⟨j, want⟩ := jw
    simp only
    cases hd : (ops[j]?).bind (·.dst) with
    | none => rfl
    | some d =>
      simp only
      rw [h d (by unfold nameSlots; refine List.mem_append_right _ ?_; simp only [hg, hd]; simp)]
theorem allKnown_congr {fr fr' : Fr} : ∀ {l : List Operand}, (∀ t, Operand.tmp t ∈ l → sget fr' t = sget fr t) → Fr.allKnown fr' l = Fr.allKnown fr l
  | [], _ => rfl
  | x :: r, h => by
    have e : Fr.known fr' x = Fr.known fr x := by
      cases x with
      | tmp t => simp only [Fr.known]; rw [h t (List.mem_cons_self ..)]
      | const v => rfl
      | global g => rfl
      | func f => rfl
    simp only [Fr.allKnown, e]
    rw [allKnown_congr fun t ht => h t (List.mem_cons_of_mem _ ht)]
theorem exec_congr {fr fr' : Fr} {o : Oper} (hs : ∀ cs b, o.op ≠ .select cs b) (h : ∀ t ∈ nameSlots ops o, sget fr' t = sget fr t) : execOp (Fr.eval fr') o = execOp (Fr.eval fr) o := by
  refine execOp_congr' o hs fun x hx => ?_
  cases x with
  | tmp t =>
    have := h t (List.mem_append_left _ (List.mem_filterMap.2 ⟨.tmp t, hx, rfl⟩))
    simp only [Fr.eval, this]
  | const v => rfl
  | global g => rfl
  | func f => rfl
theorem known_congr {fr fr' : Fr} {o : Oper} (h : ∀ t ∈ nameSlots ops o, sget fr' t = sget fr t) : Fr.allKnown fr' o.op.operands.toList = Fr.allKnown fr o.op.operands.toList :=
  allKnown_congr fun t ht => h t (List.mem_append_left _ (List.mem_filterMap.2 ⟨.tmp t, ht, rfl⟩))
theorem DoesAt.congr {fr fr' : Fr} {o : Oper} {w w' : World} {v : Value} (h : ∀ t ∈ nameSlots ops o, sget fr' t = sget fr t) (hd : DoesAt P ops o fr w v w') : DoesAt P ops o fr' w v w' := by
  rcases hd with ⟨h1, h2, h3, h4⟩ | ⟨h1, h2⟩
  · left
    rw [wantIn_congr h, known_congr h, exec_congr h3 h]
    exact ⟨h1, h2, h3, h4⟩
  · right; rw [wantIn_congr h]; exact ⟨h1, h2⟩

/-! ### from the reading to what a schedule needs -/
theorem EffAt.mono {o : Oper} {fr : Fr} {w : World} {K K' : Value → World → Prop} (h : EffAt P ops o fr w K) (hk : ∀ v w', K v w' → K' v w') : EffAt P ops o fr w K' := by
  rcases h with ⟨h1, h2⟩ | ⟨h1, h2, h3, h4⟩
  · exact .inl ⟨h1, hk _ _ h2⟩
  · refine .inr ⟨h1, h2, h3, ?_⟩
    rcases h4 with ⟨v, w', h4, h5⟩ | ⟨w', h4, h5⟩ | ⟨f, args, w1, h4, h5⟩
    · exact .inl ⟨v, w', h4, hk _ _ h5⟩
    · exact .inr (.inl ⟨w', h4, hk _ _ h5⟩)
    · exact .inr (.inr ⟨f, args, w1, h4, Calls.mono h5 fun e w' ⟨v, he, hv⟩ => ⟨v, he, hk _ _ hv⟩⟩)
theorem clsY_not_select {o : Oper} (h : dclsY κ o ≠ .bad) : ∀ cs b, o.op ≠ .select cs b := fun cs b e => h (by simp [dclsY, isCallY, clsOf, e])
theorem dclsY_nilc {o : Oper} {x : Operand} (hc : dclsY κ o = .nilc x) : o.op = .nilCheck x := by
  unfold dclsY at hc
  split at hc
  · cases hc
  · refine clsOf_nilc (κ := κ) ?_
    split at hc <;> (try cases hc)
    · assumption
    · split at hc <;> cases hc

theorem dstepY_mono {o : Oper} {hi : Nat} {fr : Fr} {w : World} {pend : List Pend} {K K' : Fr → World → List Pend → Prop} (h : dstepY P κ o hi fr w pend K) (hk : ∀ fr w pend, K fr w pend → K' fr w pend) : dstepY P κ o hi fr w pend K' := by
  unfold dstepY at h ⊢
  split at h
  · exact h
  · split at h
    · split at h
      · exact hk _ _ _ h
      · exact h
    · split at h
      · rename_i p hp
        cases p with
        | none => exact h
        | some b => exact hk _ _ _ h
      · exact h
    · obtain ⟨x, hr, h⟩ := h
      exact ⟨x, hr, hk _ _ _ h⟩
    · obtain ⟨x, w', hr, h⟩ := h
      rw [stillAll_iff] at h
      exact ⟨x, w', hr, stillAll_iff.2 ⟨h.1, hk _ _ _ h.2⟩⟩
    · obtain ⟨w', hr, h⟩ := h
      rw [stillAll_iff] at h
      exact ⟨w', hr, stillAll_iff.2 ⟨h.1, hk _ _ _ h.2⟩⟩
    · split at h
      · refine Calls.mono h ?_
        rintro e w' ⟨x, he, h⟩
        rw [stillAll_iff] at h
        exact ⟨x, he, stillAll_iff.2 ⟨h.1, hk _ _ _ h.2⟩⟩
      · exact h
    · exact h

theorem dskipY_mono {o : Oper} {fr : Fr} {w : World} {pend : List Pend} {K K' : Fr → World → List Pend → Prop} (h : dskipY κ o fr w pend K) (hk : ∀ fr w pend, K fr w pend → K' fr w pend) : dskipY κ o fr w pend K' := by
  unfold dskipY at h ⊢
  split at h <;> exact hk _ _ _ h

theorem dstepY_read {o : Oper} {hi : Nat} {fr : Fr} {w : World} {pend : List Pend} {K : Fr → World → List Pend → Prop} (he : isEffY κ o = false) (hw : wantIn ops fr o = some true) (h : dstepY P κ o hi fr w pend K) :
    ∃ v pend', K (Fr.put fr o.dst v) w pend' ∧ (∀ p ∈ pend, p ∈ pend') ∧ ((∀ w, DoesAt P ops o fr w v w) ∨ ∃ sem, (∀ w, StillV P sem v w → DoesAt P ops o fr w v w) ∧ StillV P sem v w ∧ (⟨sem, v, hi⟩ : Pend) ∈ pend') := by
  unfold dstepY at h
  split at h
  · exact h.elim
  · rename_i hk
    split at h
    · rename_i hc
      have hs := clsY_not_select (κ := κ) (o := o) (by rw [hc]; simp)
      split at h
      · rename_i v hv
        exact ⟨v, pend, h, fun _ h => h, .inl fun w => .inl ⟨hw, hk, hs, .inl (pureEval_run hv w)⟩⟩
      · exact h.elim
    · rename_i x hc
      have hs := clsY_not_select (κ := κ) (o := o) (by rw [hc]; simp)
      have hop := dclsY_nilc hc
      split at h
      · rename_i p hp
        cases p with
        | none => exact h.elim
        | some b =>
          have hx : execOp (Fr.eval fr) o = pure (.value (.pointer (some b))) := by simp [execOp, hop, hp]
          exact ⟨_, pend, h, fun _ h => h, .inl fun w => .inl ⟨hw, hk, hs, .inl (by rw [hx]; rfl)⟩⟩
      · exact h.elim
    · rename_i kd hc
      have hs := clsY_not_select (κ := κ) (o := o) (by rw [hc]; simp)
      obtain ⟨x, hr, h⟩ := h
      exact ⟨_, _, h, fun _ h => List.mem_cons_of_mem _ h, .inr ⟨execOp (Fr.eval fr) o, fun w hw' => .inl ⟨hw, hk, hs, .inl hw'⟩, hr, List.mem_cons_self ..⟩⟩
    · rename_i kd hc; simp [isEffY, hc] at he
    · rename_i hc; simp [isEffY, hc] at he
    · rename_i kd hc; simp [isEffY, hc] at he
    · exact h.elim
theorem dstepY_eff {o : Oper} {hi : Nat} {fr : Fr} {w : World} {pend : List Pend} {K : Fr → World → List Pend → Prop} (he : isEffY κ o = true) (hw : wantIn ops fr o = some true) (h : dstepY P κ o hi fr w pend K) :
    EffAt P ops o fr w fun v w' => K (Fr.put fr o.dst v) w' (tick pend) ∧ ∀ p ∈ pend, 1 ≤ p.left → StillV P p.s p.v w' := by
  unfold dstepY at h
  split at h
  · exact h.elim
  · rename_i hk
    split at h
    · rename_i hc; simp [isEffY, hc] at he
    · rename_i x hc; simp [isEffY, hc] at he
    · rename_i kd hc; simp [isEffY, hc] at he
    · rename_i kd hc
      have hs := clsY_not_select (κ := κ) (o := o) (by rw [hc]; simp)
      obtain ⟨x, w', hr, h⟩ := h
      rw [stillAll_iff] at h
      exact .inr ⟨hw, hk, hs, .inl ⟨_, w', hr, h.2, h.1⟩⟩
    · rename_i hc
      have hs := clsY_not_select (κ := κ) (o := o) (by rw [hc]; simp)
      obtain ⟨w', hr, h⟩ := h
      rw [stillAll_iff] at h
      exact .inr ⟨hw, hk, hs, .inr (.inl ⟨w', hr, h.2, h.1⟩)⟩
    · rename_i kd hc
      have hs := clsY_not_select (κ := κ) (o := o) (by rw [hc]; simp)
      split at h
      · rename_i f args w1 hr
        refine .inr ⟨hw, hk, hs, .inr (.inr ⟨f, args, w1, hr, Calls.mono h ?_⟩)⟩
        rintro e w' ⟨x, he, h⟩
        rw [stillAll_iff] at h
        exact ⟨_, he, h.2, h.1⟩
      · exact h.elim
    · exact h.elim

theorem drawY_cons {i rk : Nat} {rest : List Nat} {prev : Option (Nat × Bool)} {fr : Fr} {w : World} {pend : List Pend} {K : KF} (h : drawY P κ ops bf ef (i :: rest) rk prev fr w pend K) :
    ∃ o, ops[i]? = some o ∧
      ((wantIn ops fr o = some true ∧ dstepY P κ o (late bf ef i - rk) fr w pend fun fr w pend => ∃ prev', drawY P κ ops bf ef rest (bumpY κ o rk) prev' fr w pend K) ∨
       (wantIn ops fr o = some false ∧ dskipY κ o fr w pend fun fr w pend => ∃ prev', drawY P κ ops bf ef rest (bumpY κ o rk) prev' fr w pend K)) := by
  unfold drawY at h
  split at h
  · exact h.elim
  · rename_i o ho
    refine ⟨o, ho, ?_⟩
    split at h
    · rename_i hg
      exact .inl ⟨by simp [wantIn, hg], dstepY_mono h fun _ _ _ h => ⟨_, h⟩⟩
    · rename_i j want hg
      split at h
      · exact h.elim
      · rename_i d hd
        split at h
        · exact h.elim
        · rename_i b hb
          have hwant : wantIn ops fr o = some (b == want) := by simp [wantIn, hg, hd, hb]
          split at h
          · split at h
            · exact .inl ⟨hwant, dstepY_mono h fun _ _ _ h => ⟨_, h⟩⟩
            · exact .inl ⟨hwant, dstepY_mono h fun _ _ _ h => ⟨_, h⟩⟩
            · rename_i h1 h2
              have : (b == want) = false := by cases b <;> cases want <;> simp_all
              exact .inr ⟨by rw [hwant, this], dskipY_mono h fun _ _ _ h => ⟨_, h⟩⟩
          · rw [SplitB_iff] at h
            have hp := put_same hb
            cases b with
            | true =>
              have h := h.1 rfl
              rw [hp] at h
              split at h
              · exact .inl ⟨hwant, dstepY_mono h fun _ _ _ h => ⟨_, h⟩⟩
              · exact .inr ⟨hwant, dskipY_mono h fun _ _ _ h => ⟨_, h⟩⟩
            | false =>
              have h := h.2 rfl
              rw [hp] at h
              split at h
              · exact .inl ⟨hwant, dstepY_mono h fun _ _ _ h => ⟨_, h⟩⟩
              · exact .inr ⟨hwant, dskipY_mono h fun _ _ _ h => ⟨_, h⟩⟩
        · rename_i v hb hv
          refine .inr ⟨?_, dskipY_mono h fun _ _ _ h => ⟨_, h⟩⟩
          simp only [wantIn, hg, hd, hv]

structure SeenInv (P : Program) (κ : List Kd) (ops : List Oper) (bf ef : List Nat) (fr0 : Fr) (seen rk : Nat) (fr : Fr) (w : World) (pend : List Pend) : Prop where
  closed : ∀ i, seen.testBit i = true → ∀ j, (nth 0 bf i).testBit j = true → seen.testBit j = true
  fresh : ∀ t, (∀ j oj, ops[j]? = some oj → oj.dst = some t → seen.testBit j = false) → sget fr t = sget fr0 t
  each : ∀ i o, ops[i]? = some o → seen.testBit i = true → isEffY κ o = false → ∃ v fi, NameOk ops bf fr0 i o fi fr ∧ (∀ d, o.dst = some d → d < fr.length → sget fr d = some v) ∧
    ((∀ w, DoesAt P ops o fi w v w) ∨ ∃ sem, (∀ w, StillV P sem v w → DoesAt P ops o fi w v w) ∧ (rk ≤ late bf ef i → StillV P sem v w ∧ (⟨sem, v, late bf ef i - rk⟩ : Pend) ∈ pend))

theorem or_bit {seen i j : Nat} : (seen ||| 2 ^ i).testBit j = (seen.testBit j || decide (i = j)) := by rw [Nat.testBit_or, Nat.testBit_two_pow]

theorem SeenInv.here {fr0 : Fr} {seen rk : Nat} {fr : Fr} {w : World} {pend : List Pend} (hs : SeenInv P κ ops bf ef fr0 seen rk fr w pend) (hn : namesOk ops bf ops 0 = true) (hu : uniqOk ops = true) {i : Nat} {o : Oper} (ho : ops[i]? = some o) (hun : seen.testBit i = false) :
    NameOk ops bf fr0 i o fr fr := by
  intro t ht
  by_cases hw : ∃ (j : Nat) (oj : Oper), ops[j]? = some oj ∧ oj.dst = some t
  · obtain ⟨j, oj, hj, hd⟩ := hw
    rcases names_bf hn ho hj hd ht with h | h
    · left
      refine ⟨rfl, fun k ok hk hdk => ?_⟩
      have := uniq_spec hu k j ok oj t hk hj hdk hd
      subst this; exact h
    · right
      have h : (nth 0 bf j).testBit i = true ∨ j = i := h
      refine ⟨hs.fresh t fun k ok hk hdk => ?_, j, oj, hj, hd, h⟩
      have := uniq_spec hu k j ok oj t hk hj hdk hd
      subst this
      rcases h with h | h
      · cases hb : seen.testBit k with
        | false => rfl
        | true => rw [hs.closed k hb i h] at hun; cases hun
      · rw [h]; exact hun
  · left
    exact ⟨rfl, fun k ok hk hdk => absurd ⟨k, ok, hk, hdk⟩ hw⟩

theorem NameOk.put {fr0 : Fr} {seen rk : Nat} {fr fi : Fr} {w : World} {pend : List Pend} {i : Nat} {o : Oper} (h : NameOk ops bf fr0 i o fi fr) (hb : ∀ j, (nth 0 bf i).testBit j = true → seen.testBit j = true) {k : Nat} {ok : Oper} (hk : ops[k]? = some ok) (hun : seen.testBit k = false) (v : Value) :
    NameOk ops bf fr0 i o fi (Fr.put fr ok.dst v) := by
  intro t ht
  rcases h t ht with ⟨h1, h2⟩ | h
  · left
    refine ⟨?_, h2⟩
    rw [h1, put_get]
    by_cases hd : ok.dst = some t
    · have := hb k (h2 k ok hk hd)
      rw [hun] at this; cases this
    · simp [hd]
  · exact .inr h

/-- A new slot is filled: what was seen stands; the operation itself is seen from now on. -/
theorem SeenInv.put {fr0 : Fr} {seen rk : Nat} {fr : Fr} {w : World} {pend : List Pend} (hs : SeenInv P κ ops bf ef fr0 seen rk fr w pend) (hu : uniqOk ops = true) {k : Nat} {ok : Oper} (hk : ops[k]? = some ok) (hun : seen.testBit k = false) (v : Value)
    (hb : ∀ j, (nth 0 bf k).testBit j = true → seen.testBit j = true) {rk' : Nat} {w' : World} {pend' : List Pend}
    (hself : isEffY κ ok = false → ∃ fi, NameOk ops bf fr0 k ok fi (Fr.put fr ok.dst v) ∧ ((∀ w, DoesAt P ops ok fi w v w) ∨ ∃ sem, (∀ w, StillV P sem v w → DoesAt P ops ok fi w v w) ∧ (rk' ≤ late bf ef k → StillV P sem v w' ∧ (⟨sem, v, late bf ef k - rk'⟩ : Pend) ∈ pend')))
    (hpend : ∀ i sem u, (rk ≤ late bf ef i → StillV P sem u w ∧ (⟨sem, u, late bf ef i - rk⟩ : Pend) ∈ pend) → rk' ≤ late bf ef i → StillV P sem u w' ∧ (⟨sem, u, late bf ef i - rk'⟩ : Pend) ∈ pend') :
    SeenInv P κ ops bf ef fr0 (seen ||| 2 ^ k) rk' (Fr.put fr ok.dst v) w' pend' := by
  refine ⟨fun j hj m hm => ?_, fun t ht => ?_, fun i o ho hi he => ?_⟩
  · rw [or_bit] at hj ⊢
    by_cases hij : k = j
    · subst hij; rw [hb m hm]; rfl
    · simp only [hij, decide_false, Bool.or_false] at hj
      rw [hs.closed j hj m hm]; rfl
  · rw [put_get]
    have hne : ok.dst ≠ some t := by
      intro hd
      have := ht k ok hk hd
      rw [or_bit] at this; simp at this
    rw [if_neg (fun h => hne h.1)]
    exact hs.fresh t fun j oj hj hd => by
      have := ht j oj hj hd
      rw [or_bit] at this
      simp at this; exact this.1
  · rw [or_bit] at hi
    by_cases hki : k = i
    · subst hki
      rw [hk] at ho; cases ho
      obtain ⟨fi, h1, h2⟩ := hself he
      refine ⟨v, fi, h1, fun d hd hl => ?_, h2⟩
      rw [put_get]; rw [put_len] at hl; simp [hd, hl]
    · simp only [hki, decide_false, Bool.or_false] at hi
      obtain ⟨u, fi, h0, h1, h2⟩ := hs.each i o ho hi he
      refine ⟨u, fi, h0.put (rk := rk) (w := w) (pend := pend) (hs.closed i hi) hk hun v, fun d hd hl => ?_, ?_⟩
      · rw [put_get]
        rw [put_len] at hl
        by_cases hdk : ok.dst = some d
        · exact absurd (uniq_spec hu k i ok o d hk ho hdk hd) hki
        · simp only [hdk, false_and, if_false]; exact h1 d hd hl
      · rcases h2 with h2 | ⟨sem, h2, h3⟩
        · exact .inl h2
        · exact .inr ⟨sem, h2, hpend i sem u h3⟩

theorem ordB_all : ∀ {l : List Nat} {seen : Nat} {es : List Nat} {rk : Nat}, ordB κ ops bf ef l seen es rk = true → ∀ i, i < ops.length → seen.testBit i = true ∨ i ∈ l
  | [], seen, es, rk, h, i, hi => by
    simp only [ordB, Bool.and_eq_true] at h
    have := Nat.eq_of_beq_eq_true h.1.1
    left; rw [this, Nat.testBit_two_pow_sub_one]; simpa using hi
  | k :: r, seen, es, rk, h, i, hi => by
    unfold ordB at h
    split at h
    · cases h
    · rename_i o ho
      simp only [Bool.and_eq_true] at h
      have key : ∀ es rk, ordB κ ops bf ef r (seen ||| 2 ^ k) es rk = true → seen.testBit i = true ∨ i ∈ k :: r := by
        intro es rk h
        rcases ordB_all h i hi with h | h
        · rw [or_bit] at h
          by_cases hki : k = i
          · subst hki; right; exact List.mem_cons_self ..
          · left; simpa [hki] using h
        · right; exact List.mem_cons_of_mem _ h
      split at h
      · split at h
        · simp only [Bool.and_eq_true] at h
          exact key _ _ h.2.2
        · cases h.2
      · simp only [Bool.and_eq_true] at h
        exact key _ _ h.2.2

theorem drawY_node {fr0 : Fr} {K : KF} (hn : namesOk ops bf ops 0 = true) (hu : uniqOk ops = true) : ∀ (l : List Nat) (seen rk : Nat) (es : List Nat) (prev : Option (Nat × Bool)) (fr : Fr) (w : World) (pend : List Pend),
    ordB κ ops bf ef l seen es rk = true → SeenInv P κ ops bf ef fr0 seen rk fr w pend → drawY P κ ops bf ef l rk prev fr w pend K → ∃ fr', Ext κ ops bf ef rk fr fr' ∧ NodeP P κ ops bf ef fr0 K es rk fr' w := by
  intro l
  induction l with
  | nil =>
    intro seen rk es prev fr w pend ho hs h
    have hall := ordB_all ho
    simp only [ordB, Bool.and_eq_true] at ho
    have hes : es = [] := by
      cases es with
      | nil => rfl
      | cons => simp at ho
    subst hes
    refine ⟨fr, Ext.refl _ _, fun i o hi he h1 h2 => ?_, h⟩
    have hlt : i < ops.length := (List.getElem?_eq_some_iff.1 hi).1
    have hsi : seen.testBit i = true := by
      rcases hall i hlt with h | h
      · exact h
      · cases h
    obtain ⟨v, fi, h0, h3, h4⟩ := hs.each i o hi hsi he
    refine ⟨v, fi, h0, ?_, h3⟩
    rcases h4 with h4 | ⟨sem, h4, h5⟩
    · exact h4 w
    · exact h4 w (h5 h2).1
  | cons i r ih =>
    intro seen rk es prev fr w pend hord hs h
    have hall := ordB_all hord
    obtain ⟨o, ho, h⟩ := drawY_cons h
    unfold ordB at hord
    simp only [ho, Bool.and_eq_true] at hord
    obtain ⟨⟨hun, hbf⟩, hord⟩ := hord
    have hun : seen.testBit i = false := by simpa using hun
    have hbf := Nat.eq_of_beq_eq_true hbf
    have hb : ∀ j, (nth 0 bf i).testBit j = true → seen.testBit j = true := by
      intro j hj
      have := congrArg (fun n => n.testBit j) hbf
      simp only [Nat.testBit_and, hj, Bool.true_and] at this
      exact this
    have hhere := hs.here hn hu ho hun
    cases he : isEffY κ o with
    | false =>
      simp only [he, Bool.and_eq_true] at hord
      obtain ⟨hl, hord⟩ := hord
      have hl : lvl bf ef i = rk := Nat.eq_of_beq_eq_true hl
      have hbump : bumpY κ o rk = rk := by simp [bumpY, he]
      have fin : ∀ v pend', (∀ p ∈ pend, p ∈ pend') →
          ((∀ w, DoesAt P ops o fr w v w) ∨ ∃ sem, (∀ w, StillV P sem v w → DoesAt P ops o fr w v w) ∧ (rk ≤ late bf ef i → StillV P sem v w ∧ (⟨sem, v, late bf ef i - rk⟩ : Pend) ∈ pend')) →
          (∃ prev', drawY P κ ops bf ef r (bumpY κ o rk) prev' (Fr.put fr o.dst v) w pend' K) → ∃ fr', Ext κ ops bf ef rk fr fr' ∧ NodeP P κ ops bf ef fr0 K es rk fr' w := by
        rintro v pend' hsub hdo ⟨prev', hk⟩
        rw [hbump] at hk
        have hs2 := hs.put hu ho hun v hb (rk' := rk) (w' := w) (pend' := pend') (fun _ => ⟨fr, hhere.put (rk := rk) (w := w) (pend := pend) hb ho hun v, hdo⟩)
          (fun i sem u h1 h2 => ⟨(h1 h2).1, hsub _ (h1 h2).2⟩)
        obtain ⟨fr', h1, h2⟩ := ih _ _ _ _ _ _ _ hord hs2 hk
        refine ⟨fr', ⟨by rw [h1.1, put_len], fun t ht => ?_⟩, h2⟩
        rw [h1.2 t ht, put_get]
        have : o.dst ≠ some t := fun hd => ht ⟨i, o, ho, he, hl, hd⟩
        simp [this]
      rcases h with ⟨hw, h⟩ | ⟨hw, h⟩
      · obtain ⟨v, pend', hk, hsub, hd⟩ := dstepY_read he hw h
        refine fin v pend' hsub ?_ hk
        rcases hd with hd | ⟨sem, h1, h2, h3⟩
        · exact .inl hd
        · exact .inr ⟨sem, h1, fun _ => ⟨h2, h3⟩⟩
      · simp only [dskipY, he] at h
        exact fin undef pend (fun _ h => h) (.inl fun w => .inr ⟨hw, rfl, rfl⟩) h
    | true =>
      simp only [he] at hord
      have hbump : bumpY κ o rk = rk + 1 := by simp [bumpY, he]
      split at hord
      · rename_i es0 e es'
        simp only [Bool.and_eq_true] at hord
        obtain ⟨⟨hei, hrest⟩, hord⟩ := hord
        have hei := Nat.eq_of_beq_eq_true hei
        subst hei
        have tickp : ∀ w', (∀ p ∈ pend, 1 ≤ p.left → StillV P p.s p.v w') → ∀ i sem u, (rk ≤ late bf ef i → StillV P sem u w ∧ (⟨sem, u, late bf ef i - rk⟩ : Pend) ∈ pend) → rk + 1 ≤ late bf ef i → StillV P sem u w' ∧ (⟨sem, u, late bf ef i - (rk + 1)⟩ : Pend) ∈ tick pend := by
          intro w' hst i sem u h1 h2
          obtain ⟨h4, h5⟩ := h1 (by omega)
          refine ⟨hst _ h5 (by dsimp only; omega), ?_⟩
          have := mem_tick h5 (by dsimp only; omega)
          have e1 : late bf ef i - rk - 1 = late bf ef i - (rk + 1) := by omega
          rw [← e1]; exact this
        refine ⟨fr, Ext.refl _ _, ?_, o, ho, hhere, ?_⟩
        · intro k ok hk hek h1 h2
          have hlt : k < ops.length := (List.getElem?_eq_some_iff.1 hk).1
          have hsk : seen.testBit k = true := by
            rcases hall k hlt with h | h
            · exact h
            · rcases List.mem_cons.1 h with h | h
              · subst h; rw [ho] at hk; cases hk; rw [he] at hek; cases hek
              · have := List.all_eq_true.1 hrest k h
                simp only [hk, hek, Bool.false_or] at this
                rw [Nat.blt_eq] at this; omega
          obtain ⟨v, fi, h0, h3, h4⟩ := hs.each k ok hk hsk hek
          refine ⟨v, fi, h0, ?_, h3⟩
          rcases h4 with h4 | ⟨sem, h4, h5⟩
          · exact h4 w
          · exact h4 w (h5 h2).1
        · have fin : ∀ v w', (∀ i sem u, (rk ≤ late bf ef i → StillV P sem u w ∧ (⟨sem, u, late bf ef i - rk⟩ : Pend) ∈ pend) → rk + 1 ≤ late bf ef i → StillV P sem u w' ∧ (⟨sem, u, late bf ef i - (rk + 1)⟩ : Pend) ∈ tick pend) →
              (∃ prev', drawY P κ ops bf ef r (bumpY κ o rk) prev' (Fr.put fr o.dst v) w' (tick pend) K) →
              ∃ fr', Ext κ ops bf ef (rk + 1) (Fr.put fr o.dst v) fr' ∧ NodeP P κ ops bf ef fr0 K es' (rk + 1) fr' w' := by
            rintro v w' hst ⟨prev', hk⟩
            rw [hbump] at hk
            exact ih _ _ _ _ _ _ _ hord (hs.put hu ho hun v hb (rk' := rk + 1) (w' := w') (pend' := tick pend) (fun hf => by rw [he] at hf; cases hf) hst) hk
          rcases h with ⟨hw, h⟩ | ⟨hw, h⟩
          · exact (dstepY_eff he hw h).mono fun v w' ⟨h1, h2⟩ => fin v w' (tickp w' h2) h1
          · simp only [dskipY, he] at h
            refine .inl ⟨hw, fin undef w ?_ h⟩
            intro i sem u h1 h2
            obtain ⟨h4, h5⟩ := h1 (by omega)
            refine ⟨h4, ?_⟩
            have := mem_tick h5 (by dsimp only; omega)
            have e1 : late bf ef i - rk - 1 = late bf ef i - (rk + 1) := by omega
            rw [← e1]; exact this
      · cases hord
end

theorem effsY_spec (κ : List Kd) : ∀ (l : List Oper) (k : Nat), ∀ e, e ∈ effsY κ l k ↔ k ≤ e ∧ ∃ o, l[e - k]? = some o ∧ isEffY κ o = true
  | [], k => by simp [effsY]
  | o :: r, k => by
    intro e
    have h1 := effsY_spec κ r (k + 1) e
    have key : (k ≤ e ∧ ∃ o', (o :: r)[e - k]? = some o' ∧ isEffY κ o' = true) ↔ (e = k ∧ isEffY κ o = true) ∨ (k + 1 ≤ e ∧ ∃ o', r[e - (k + 1)]? = some o' ∧ isEffY κ o' = true) := by
      constructor
      · rintro ⟨hk, o', ho', he⟩
        by_cases hlt : k + 1 ≤ e
        · right
          have : e - k = (e - (k + 1)) + 1 := by omega
          rw [this] at ho'
          exact ⟨hlt, o', by simpa using ho', he⟩
        · have : e = k := by omega
          subst this
          simp at ho'; subst ho'
          exact .inl ⟨rfl, he⟩
      · rintro (⟨rfl, he⟩ | ⟨hk, o', ho', he⟩)
        · exact ⟨Nat.le_refl _, o, by simp, he⟩
        · refine ⟨by omega, o', ?_, he⟩
          have : e - k = (e - (k + 1)) + 1 := by omega
          rw [this]; simpa using ho'
    unfold effsY
    split
    · rename_i he
      rw [key, List.mem_cons, h1]; simp [he]
    · rename_i he
      rw [key, h1]; simp [he]
theorem cnt_append (f : Nat → Bool) : ∀ (a b : List Nat), cnt f (a ++ b) = cnt f a + cnt f b
  | [], b => by simp [cnt]
  | x :: r, b => by simp only [List.cons_append, cnt, cnt_append f r b]; split <;> omega
theorem cnt_zero {f : Nat → Bool} : ∀ {l : List Nat}, (∀ x ∈ l, f x = false) → cnt f l = 0
  | [], _ => rfl
  | x :: r, h => by simp only [cnt, h x (List.mem_cons_self ..)]; exact cnt_zero fun y hy => h y (List.mem_cons_of_mem _ hy)
theorem chain_spec {bf : List Nat} : ∀ {l : List Nat}, chainOk bf l = true → ∀ {a : List Nat} {e : Nat} {r : List Nat}, l = a ++ e :: r → ∀ f ∈ r, (nth 0 bf f).testBit e = true ∧ e < f
  | [], _, a, e, r, h, f, _ => by simp at h
  | x :: l, hc, a, e, r, h, f, hf => by
    simp only [chainOk, Bool.and_eq_true] at hc
    cases a with
    | nil =>
      simp only [List.nil_append, List.cons.injEq] at h
      obtain ⟨rfl, rfl⟩ := h
      have := List.all_eq_true.1 hc.1 f hf
      simp only [Bool.and_eq_true] at this
      exact ⟨this.1, by have := this.2; rwa [Nat.blt_eq] at this⟩
    | cons y a =>
      simp only [List.cons_append, List.cons.injEq] at h
      exact chain_spec hc.2 h.2 f hf

theorem does_eff {P : Program} {ops : Array Oper} {K : Act → World → Prop} {i : Nat} {rest : List Nat} {o : Oper} {fr : Fr} {a : Act} {w : World} (ho : ops[i]? = some o) {Kont : Value → World → Prop} (hd : EffAt P ops.toList o fr w Kont)
    (hag : ∀ t ∈ nameSlots ops.toList o, ∀ v, sget fr t = some v → a.tmps[t]? = some v) (hnext : ∀ v w', Kont v w' → OpsWp P ops K rest (a.put o.dst v) w') : OpsWp P ops K (i :: rest) a w := by
  rcases hd with ⟨h1, h2⟩ | ⟨h1, h2, h3, h4⟩
  · exact does_step ho (.inr ⟨h1, rfl, rfl⟩) hag (hnext _ _ h2)
  · rcases h4 with ⟨v, w', hr, hk⟩ | ⟨w', hr, hk⟩ | ⟨f, args, w1, hr, hk⟩
    · exact does_step ho (.inl ⟨h1, h2, h3, .inl hr⟩) hag (hnext _ _ hk)
    · exact does_step ho (.inl ⟨h1, h2, h3, .inr ⟨hr, rfl⟩⟩) hag (hnext _ _ hk)
    · have hw : Region.wanted o (yielded ops a.tmps) = true := by
        unfold wantIn at h1
        cases hg : o.guard with
        | none => simp [Region.wanted, hg]
        | some jw =>
          obtain ⟨j, want⟩ := jw
          simp only [hg] at h1
          split at h1
          · cases h1
          · rename_i d hd
            have hmem : d ∈ nameSlots ops.toList o := by
              unfold nameSlots; refine List.mem_append_right _ ?_; simp only [hg, hd]; simp
            have hd' : (ops[j]?).bind (·.dst) = some d := by simpa using hd
            split at h1
            · cases h1
            · rename_i b' hb'
              have h5 := hag d hmem _ hb'
              simp only [Region.wanted, hg, yielded, hd', Option.bind_some, h5]
              simp at h1
              rw [← h1]; cases b' <;> rfl
            · cases h1
      have hmem := Fr.allKnown_mem h2
      have he : execOp a.eval o = execOp (Fr.eval fr) o := by
        refine execOp_congr' o h3 fun x hx => ?_
        have hk := hmem x hx
        cases x with
        | tmp t =>
          simp only [Fr.known] at hk
          split at hk
          · rename_i u hu
            have := hag t (List.mem_append_left _ (List.mem_filterMap.2 ⟨.tmp t, hx, rfl⟩)) u hu
            simp [Act.eval, Fr.eval, hu, Array.getD_eq_getD_getElem?, this]
          · cases hk
        | const v => rfl
        | global g => rfl
        | func f => rfl
      exact .enter ho hw (by rw [he]; exact hr) (Calls.mono hk fun e w' ⟨v, he, hv⟩ => ⟨v, he, hnext _ _ hv⟩)

/-- Where a schedule stands. -/
structure InvY (P : Program) (κ : List Kd) (ops : Array Oper) (bf ef : List Nat) (fr0 : Fr) (Kn : KF) (N : Nat) (D : List Deferred) (a0 : Act) (es : List Nat) (rk : Nat) (fr : Fr) (listed : Array Bool) (a : Act) (w : World) : Prop where
  size : listed.size = ops.size
  closed : ∀ i, i < ops.size → listed.getD i false = true → ∀ j, (nth 0 bf i).testBit j = true → listed.getD j false = true
  split : ∃ pre, ef = pre ++ es ∧ pre.length = rk
  effs : ∀ e ∈ ef, listed.getD e false = false ↔ e ∈ es
  slot : ∀ t v, sget fr t = some v → (∀ i o, ops[i]? = some o → o.dst = some t → listed.getD i false = true) → a.tmps[t]? = some v
  old : ∀ t, (∀ i o, ops[i]? = some o → listed.getD i false = true → o.dst ≠ some t) → a.tmps[t]? = a0.tmps[t]?
  len : fr.length = N
  size2 : fr.length = a.tmps.size
  defers : a.defers = D
  node : NodeP P κ ops.toList bf ef fr0 Kn es rk fr w

theorem act_put_get (a : Act) (dst : Option Tmp) (v : Value) (t : Nat) : (a.put dst v).tmps[t]? = if dst = some t ∧ t < a.tmps.size then some v else a.tmps[t]? := by
  cases dst with
  | none => simp [Act.put]
  | some d =>
    simp only [Act.put, Array.getElem?_setIfInBounds]
    by_cases hd : d = t
    · subst hd
      by_cases hl : d < a.tmps.size <;> simp [hl]
    · simp [hd]
theorem act_put_size (a : Act) (dst : Option Tmp) (v : Value) : (a.put dst v).tmps.size = a.tmps.size := by cases dst <;> simp [Act.put]
theorem act_put_defers (a : Act) (dst : Option Tmp) (v : Value) : (a.put dst v).defers = a.defers := by cases dst <;> rfl

theorem draw_goY {P : Program} {κ : List Kd} {ops : Array Oper} {bf : List Nat} {a0 : Act} {D : List Deferred} {N : Nat} {fr0 : Fr} {Kn : KF} {K : Act → World → Prop} (hfr0 : ∀ t v, sget fr0 t = some v → a0.tmps[t]? = some v)
    (hok : drawOkY κ ops.toList bf (effsY κ ops.toList 0) = true)
    (hend : ∀ fr a w, Agree D N fr a → Same (asgOps ops.toList) a0 a → Kn fr w → K a w) :
    ∀ (fuel t : Nat) (listed : Array Bool) (a : Act) (w : World) (es : List Nat) (rk : Nat) (fr : Fr), InvY P κ ops bf (effsY κ ops.toList 0) fr0 Kn N D a0 es rk fr listed a w → cnt (fun i => !listed.getD i false) (List.range ops.size) ≤ fuel →
      OpsWp P ops K (Region.linearise.go .any ops fuel t listed []) a w := by
  simp only [drawOkY, Bool.and_eq_true] at hok
  obtain ⟨⟨⟨⟨hnames, huniq⟩, hbf⟩, hchain⟩, _⟩ := hok
  have heff := effsY_spec κ ops.toList 0
  have hbfs := fun i o (h : ops[i]? = some o) => bf_spec hbf i o (by simpa using h)
  simp only [Nat.zero_add] at hbfs
  generalize hef : effsY κ ops.toList 0 = ef at *
  have hefflt : ∀ e ∈ ef, ∃ o, ops[e]? = some o ∧ isEffY κ o = true := by
    intro e he
    obtain ⟨_, o, ho, h⟩ := (heff e).1 he
    exact ⟨o, by simpa using ho, h⟩
  have hmemeff : ∀ i o, ops[i]? = some o → isEffY κ o = true → i ∈ ef := fun i o ho he => (heff i).2 ⟨Nat.zero_le _, o, by simpa using ho, he⟩
  -- the end
  have fin : ∀ listed a w es rk fr, InvY P κ ops bf ef fr0 Kn N D a0 es rk fr listed a w → (∀ i, i < ops.size → listed.getD i false = true) → K a w := by
    intro listed a w es rk fr hi hall
    have hes : es = [] := by
      cases es with
      | nil => rfl
      | cons e r =>
        obtain ⟨pre, hpre, _⟩ := hi.split
        have hm : e ∈ ef := by rw [hpre]; simp
        have := (hi.effs e hm).2 (List.mem_cons_self ..)
        obtain ⟨o, ho, _⟩ := hefflt e hm
        rw [hall e (Array.getElem?_eq_some_iff.1 ho).1] at this; cases this
    subst hes
    refine hend fr a w ⟨hi.len, hi.size2, hi.defers, fun t v h => hi.slot t v h fun i o ho _ => hall i (Array.getElem?_eq_some_iff.1 ho).1⟩ ?_ hi.node.2
    intro t ht
    refine hi.old t fun i o ho _ hd => ?_
    have := asgOps_mem (l := ops.toList) (List.mem_of_getElem? (show ops.toList[i]? = some o by simpa using ho)) hd
    rw [ht] at this; cases this
  intro fuel
  induction fuel with
  | zero =>
    intro t listed a w es rk fr hi hcnt
    refine .nil (fin listed a w es rk fr hi fun i hlt => ?_)
    have key : ∀ l : List Nat, cnt (fun i => !listed.getD i false) l ≤ 0 → ∀ i ∈ l, listed.getD i false = true := by
      intro l
      induction l with
      | nil => intro _ i hm; cases hm
      | cons x r ih =>
        intro h i hm
        simp only [cnt] at h
        split at h
        · omega
        · rename_i hx
          rcases List.mem_cons.1 hm with e | hm
          · subst e; simpa using hx
          · exact ih h i hm
    exact key _ hcnt i (List.mem_range.2 hlt)
  | succ fuel ih =>
    intro t listed a w es rk fr hi hcnt
    simp only [Region.linearise.go]
    change OpsWp P ops K (match (Region.ready .any ops listed)[t % (Region.ready .any ops listed).length]? with
      | some i => Region.linearise.go .any ops fuel (t / (Region.ready .any ops listed).length) (listed.setIfInBounds i true) [i]
      | none => [].reverse) a w
    have hready : ∀ i, i ∈ Region.ready .any ops listed ↔ i < ops.size ∧ listed.getD i true = false ∧ ∃ o, ops[i]? = some o ∧ ∀ e ∈ o.after.toList, Region.binds .any e = true → listed.getD e.on false = true := by
      intro i
      unfold Region.ready
      rw [List.mem_filter, List.mem_range]
      refine and_congr_right fun hlt => ?_
      rw [Bool.and_eq_true]
      refine and_congr (by simp) ?_
      obtain ⟨o, ho⟩ : ∃ o, ops[i]? = some o := ⟨_, Array.getElem?_eq_getElem hlt⟩
      simp only [ho, Option.map_some, Option.getD_some, Array.all_eq_true_iff_forall_mem]
      constructor
      · intro h
        refine ⟨o, rfl, fun e he hb => ?_⟩
        have := h e (by simpa using he)
        simpa [hb] using this
      · rintro ⟨o', e', h⟩ e he
        cases e'
        have := h e (by simpa using he)
        cases hb : Region.binds .any e with
        | false => simp
        | true => simpa using this hb
    have hgetD : ∀ i, i < ops.size → listed.getD i true = listed.getD i false := by
      intro i hlt
      rw [Array.getD_eq_getD_getElem?, Array.getD_eq_getD_getElem?, Array.getElem?_eq_getElem (by rw [hi.size]; exact hlt)]
      rfl
    cases hsel : (Region.ready .any ops listed)[t % (Region.ready .any ops listed).length]? with
    | none =>
      have hnil : Region.ready .any ops listed = [] := by
        cases hr : Region.ready .any ops listed with
        | nil => rfl
        | cons x xs =>
          rw [hr] at hsel
          have hlt : t % (x :: xs).length < (x :: xs).length := Nat.mod_lt _ (by simp)
          rw [List.getElem?_eq_getElem hlt] at hsel
          cases hsel
      refine .nil (fin listed a w es rk fr hi ?_)
      intro i
      induction i using Nat.strongRecOn with
      | _ i ihi =>
        intro hlt
        cases hl : listed.getD i false with
        | true => rfl
        | false =>
          exfalso
          obtain ⟨o, ho⟩ : ∃ o, ops[i]? = some o := ⟨_, Array.getElem?_eq_getElem hlt⟩
          have : i ∈ Region.ready .any ops listed := (hready i).2 ⟨hlt, by rw [hgetD i hlt]; exact hl, o, ho, fun e he hb => ihi e.on ((hbfs i o ho).2 e he hb) (by have := (hbfs i o ho).2 e he hb; omega)⟩
          rw [hnil] at this; cases this
    | some i =>
      simp only []
      rw [linearise_go_acc, List.reverse_singleton, List.singleton_append]
      obtain ⟨hlt, hun0, o, ho, hdeps⟩ := (hready i).1 (List.mem_of_getElem? hsel)
      have hun : listed.getD i false = false := by rw [← hgetD i hlt]; exact hun0
      have hpre : ∀ j, (nth 0 bf i).testBit j = true → listed.getD j false = true := by
        intro j hj
        rw [(hbfs i o ho).1] at hj
        obtain ⟨e, he, hb, h⟩ := mask_spec hj
        have hl := hdeps e he hb
        rcases h with rfl | h
        · exact hl
        · exact hi.closed e.on (by have := (hbfs i o ho).2 e he hb; omega) hl j h
      have hpost : ∀ j, j < ops.size → (nth 0 bf j).testBit i = true → listed.getD j false = false := by
        intro j hj h
        cases hl : listed.getD j false with
        | false => rfl
        | true => rw [hi.closed j hj hl i h] at hun; cases hun
      obtain ⟨pre, hsplit, hprelen⟩ := hi.split
      have hag : ∀ fi, NameOk ops.toList bf fr0 i o fi fr → ∀ t ∈ nameSlots ops.toList o, ∀ v, sget fi t = some v → a.tmps[t]? = some v := by
        intro fi hname t ht v hv
        rcases hname t ht with ⟨h1, h2⟩ | ⟨h1, j, oj, hoj, hd, hj⟩
        · rw [h1] at hv
          exact hi.slot t v hv fun j oj hoj hd => hpre j (h2 j oj (by simpa using hoj) hd)
        · rw [h1] at hv
          rw [hi.old t fun k ok hok hl hdk => ?_]
          · exact hfr0 t v hv
          · have := uniq_spec huniq k j ok oj t (by simpa using hok) hoj hdk hd
            subst this
            rcases hj with hj | hj
            · rw [hpost k (Array.getElem?_eq_some_iff.1 hok).1 hj] at hl; cases hl
            · subst hj; rw [hun] at hl; cases hl
      have hset : ∀ j, (listed.setIfInBounds i true).getD j false = if j = i then true else listed.getD j false := by
        intro j
        rw [Array.getD_eq_getD_getElem?, Array.getD_eq_getD_getElem?, Array.getElem?_setIfInBounds]
        by_cases hij : i = j
        · subst hij
          simp [hi.size, hlt]
        · simp [hij, Ne.symm hij]
      have hcnt' : cnt (fun j => !(listed.setIfInBounds i true).getD j false) (List.range ops.size) ≤ fuel := by
        have h1 := cnt_add (f := fun j => !(listed.setIfInBounds i true).getD j false) (g := fun j => !listed.getD j false) (i := i) (fun x => by
          simp only [hset]; by_cases hx : x = i
          · subst hx; simp [hun]
          · simp [hx]) (by simp [hset]) (l := List.range ops.size) List.nodup_range
        have h2 : (List.range ops.size).contains i = true := by simp [hlt]
        rw [h2] at h1
        simp only at h1
        omega
      have hclosed' : ∀ k, k < ops.size → (listed.setIfInBounds i true).getD k false = true → ∀ j, (nth 0 bf k).testBit j = true → (listed.setIfInBounds i true).getD j false = true := by
        intro k hk hl j hj
        rw [hset] at hl ⊢
        split
        · rfl
        · by_cases hki : k = i
          · subst hki; exact hpre j hj
          · rw [if_neg hki] at hl; exact hi.closed k hk hl j hj
      have hold' : ∀ v, ∀ t, (∀ k ok, ops[k]? = some ok → (listed.setIfInBounds i true).getD k false = true → ok.dst ≠ some t) → (a.put o.dst v).tmps[t]? = a0.tmps[t]? := by
        intro v t h
        have hne : o.dst ≠ some t := h i o ho (by rw [hset]; simp)
        rw [act_put_get, if_neg (fun hh => hne hh.1)]
        exact hi.old t fun k ok hok hl => h k ok hok (by rw [hset]; split <;> simp [hl])
      cases he : isEffY κ o with
      | false =>
        have hlo : lvl bf ef i ≤ rk := by
          unfold lvl
          rw [hsplit, cnt_append]
          have h0 : cnt (fun e => (nth 0 bf i).testBit e) es = 0 := cnt_zero fun e hm => by
            cases hb : (nth 0 bf i).testBit e with
            | false => rfl
            | true =>
              have h1 := hpre e hb
              have h2 := (hi.effs e (by rw [hsplit]; exact List.mem_append_right _ hm)).2 hm
              rw [h1] at h2; cases h2
          have := cnt_len (fun e => (nth 0 bf i).testBit e) pre
          omega
        have hhi : rk ≤ late bf ef i := by
          unfold late
          rw [hsplit, cnt_append]
          have h0 : cnt (fun e => (nth 0 bf e).testBit i) pre = 0 := cnt_zero fun e hm => by
            cases hb : (nth 0 bf e).testBit i with
            | false => rfl
            | true =>
              have hme : e ∈ ef := by rw [hsplit]; exact List.mem_append_left _ hm
              obtain ⟨oe, hoe, _⟩ := hefflt e hme
              have h1 := hpost e (Array.getElem?_eq_some_iff.1 hoe).1 hb
              have h2 := (hi.effs e hme).1 h1
              obtain ⟨p1, p2, hp⟩ := List.append_of_mem hm
              have := (chain_spec hchain (a := p1) (e := e) (r := p2 ++ es) (by rw [hsplit, hp]; simp) e (List.mem_append_right _ h2)).2
              omega
          have := cnt_len (fun e => (nth 0 bf e).testBit i) es
          rw [List.length_append]
          omega
        have hreads : Reads P κ ops.toList bf ef fr0 rk fr w := by
          have := hi.node
          cases es with
          | nil => exact this.1
          | cons e r => exact this.1
        obtain ⟨v, fi, hname, hd, hv⟩ := hreads i o (by simpa using ho) he hlo hhi
        refine does_step ho hd (hag fi hname) (ih _ _ _ _ es rk fr ⟨by simp [hi.size], hclosed', ⟨pre, hsplit, hprelen⟩, ?_, ?_, hold' v, hi.len, by rw [act_put_size]; exact hi.size2, by rw [act_put_defers]; exact hi.defers, hi.node⟩ hcnt')
        · intro e hm
          have hne : e ≠ i := by
            rintro rfl
            obtain ⟨oe, hoe, hee⟩ := hefflt e hm
            rw [ho] at hoe; cases hoe; rw [he] at hee; cases hee
          rw [hset, if_neg hne]; exact hi.effs e hm
        · intro t u hu hall
          rw [act_put_get]
          by_cases hd : o.dst = some t
          · have hsz : t < a.tmps.size := by
              rcases Nat.lt_or_ge t fr.length with h | h
              · rw [← hi.size2]; exact h
              · rw [sget_eq, List.getElem?_eq_none h] at hu; cases hu
            rw [if_pos ⟨hd, hsz⟩]
            have := hv t hd (by rw [hi.size2]; exact hsz)
            rw [hu] at this; exact this.symm
          · rw [if_neg (fun h => hd h.1)]
            refine hi.slot t u hu fun k ok hok hdk => ?_
            have := hall k ok hok hdk
            rw [hset] at this
            by_cases hki : k = i
            · subst hki; rw [ho] at hok; cases hok; exact absurd hdk hd
            · rwa [if_neg hki] at this
      | true =>
        have hmi : i ∈ ef := hmemeff i o ho he
        have hmes : i ∈ es := (hi.effs i hmi).1 hun
        cases es with
        | nil => cases hmes
        | cons e r =>
          have hie : i = e := by
            rcases List.mem_cons.1 hmes with h | h
            · exact h
            · have h1 := (chain_spec hchain hsplit i h).1
              have h2 := hpre e h1
              have h3 := (hi.effs e (by rw [hsplit]; simp)).2 (List.mem_cons_self ..)
              rw [h2] at h3; cases h3
          subst hie
          obtain ⟨_, o', ho', hname, heffat⟩ := hi.node
          have : o' = o := by
            have h1 : ops.toList[i]? = some o := by simpa using ho
            rw [h1] at ho'; exact (Option.some.inj ho').symm
          subst this
          refine does_eff ho heffat (hag _ hname) ?_
          rintro v w' ⟨fr', hext, hnode⟩
          refine ih _ _ _ _ r (rk + 1) fr' ⟨by simp [hi.size], hclosed', ⟨pre ++ [i], by rw [hsplit]; simp, by simp [hprelen]⟩, ?_, ?_, hold' v, by rw [hext.1, put_len]; exact hi.len, by rw [hext.1, put_len, act_put_size]; exact hi.size2, by rw [act_put_defers]; exact hi.defers, hnode⟩ hcnt'
          · intro f hm
            rw [hset]
            by_cases hfi : f = i
            · subst hfi
              simp only [if_true]
              constructor
              · intro h; cases h
              · intro h
                have := (chain_spec hchain hsplit f h).2
                omega
            · rw [if_neg hfi, hi.effs f hm, List.mem_cons]
              simp [hfi]
          · intro t u hu hall
            have hnl : ¬ LvlSlot κ ops.toList bf ef (rk + 1) t := by
              rintro ⟨k, ok, hok, hek, hlk, hdk⟩
              have hok' : ops[k]? = some ok := by simpa using hok
              have h1 := hall k ok hok' hdk
              rw [hset] at h1
              have hki : k ≠ i := by rintro rfl; rw [ho] at hok'; cases hok'; rw [he] at hek; cases hek
              rw [if_neg hki] at h1
              -- its level: only writers that are listed come before it
              have : lvl bf ef k ≤ rk := by
                unfold lvl
                rw [hsplit, cnt_append]
                have h0 : cnt (fun e => (nth 0 bf k).testBit e) (i :: r) = 0 := cnt_zero fun e hm => by
                  cases hb : (nth 0 bf k).testBit e with
                  | false => rfl
                  | true =>
                    have h2 := hi.closed k (Array.getElem?_eq_some_iff.1 hok').1 h1 e hb
                    have h3 := (hi.effs e (by rw [hsplit]; exact List.mem_append_right _ hm)).2 hm
                    rw [h2] at h3; cases h3
                have := cnt_len (fun e => (nth 0 bf k).testBit e) pre
                omega
              omega
            rw [hext.2 t hnl, put_get] at hu
            rw [act_put_get]
            by_cases hd : o'.dst = some t
            · by_cases hl : t < fr.length
              · rw [if_pos ⟨hd, hl⟩] at hu
                rw [if_pos ⟨hd, by rw [← hi.size2]; exact hl⟩]; exact hu
              · rw [if_neg (fun h => hl h.2)] at hu
                rw [sget_eq, List.getElem?_eq_none (by omega)] at hu; cases hu
            · rw [if_neg (fun h => hd h.1)] at hu
              rw [if_neg (fun h => hd h.1)]
              refine hi.slot t u hu fun k ok hok hdk => ?_
              have := hall k ok hok hdk
              rw [hset] at this
              by_cases hki : k = i
              · subst hki; rw [ho] at hok; cases hok; exact absurd hdk hd
              · rwa [if_neg hki] at this

/-- The region that draws, with calls: the reading is enough. -/
theorem drawY_sound {P : Program} {κ : List Kd} {ops : Array Oper} {id : Nat} {bf : List Nat} {D : List Deferred} {N : Nat} {fr : Fr} {a : Act} {w : World} {Kn Kr : KF} {Ke : Nat → KF}
    (hm : P.follows .mixedOrders = true) (hok : drawOkY κ ops.toList bf (effsY κ ops.toList 0) = true) (ha : Agree D N fr a)
    (h : drawY P κ ops.toList bf (effsY κ ops.toList 0) (ordGo κ ops.toList bf (effsY κ ops.toList 0) (effsY κ ops.toList 0) 0) 0 none fr w.drew [] Kn) :
    (Code.region id ops true).wp P (postOf D N (asgOps ops.toList) a Kn Ke Kr) a w := by
  have hok' := hok
  simp only [drawOkY, Bool.and_eq_true] at hok'
  obtain ⟨⟨⟨⟨hnames, huniq⟩, hbf⟩, hchain⟩, hord⟩ := hok'
  have hz : ∀ i, (Array.replicate ops.size false).getD i false = false := by
    intro i
    rw [Array.getD_eq_getD_getElem?, Array.getElem?_replicate]
    split <;> rfl
  obtain ⟨fr', hext, hnode⟩ := drawY_node (fr0 := fr) hnames huniq _ 0 0 _ _ _ _ _ hord ⟨fun i hi => by simp at hi, fun t _ => rfl, fun i o _ hi => by simp at hi⟩ h
  intro b k cs
  have key : ∀ t, OpsWp P ops (postOf D N (asgOps ops.toList) a Kn Ke Kr .normal) (Region.schedule (P.follows .mixedOrders) ops t) a w.drew := by
    intro t
    simp only [Region.schedule, hm, Bool.true_or, if_true, Region.linearise]
    refine draw_goY (a0 := a) (D := D) (N := N) (Kn := Kn) (fr0 := fr) ha.slot hok (fun fr a' w' h1 h2 h3 => ⟨fr, h1, h2, h3⟩) ops.size t _ a w.drew _ 0 fr' ⟨by simp, ?_, ⟨[], rfl, rfl⟩, ?_, ?_, fun t _ => rfl, by rw [hext.1]; exact ha.len, by rw [hext.1]; exact ha.size, ha.defers, hnode⟩ ?_
    · intro i _ hl; rw [hz] at hl; cases hl
    · intro e he; rw [hz]; simp [he]
    · intro t v hv hall
      have : ¬ LvlSlot κ ops.toList bf (effsY κ ops.toList 0) 0 t := by
        rintro ⟨i, o, ho, _, _, hd⟩
        have := hall i o (by simpa using ho) hd
        rw [hz] at this; cases this
      rw [hext.2 t this] at hv
      exact ha.slot t v hv
    · exact Nat.le_trans (cnt_len _ _) (by simp)
  obtain ⟨a', w', hk, hs⟩ := key (w.tape w.drawn (.order b.fn id)) b k cs
  exact ⟨.normal, a', w', hk, .head step_region_draw hs⟩
end Go.Fw

/- Whole pieces of code, and whole functions: drawn regions may hold calls, results may be variables of their own. -/
namespace Go.Fw
open Go
def codeY (P : Program) (κ : List Kd) (ann : List (Nat × Live)) : Code → Nat → Fr → World → KF → (Nat → KF) → KF → Prop
  | .skip, _, fr, w, Kn, _, _ => Kn fr w
  | .region _ ops draw, _, fr, w, Kn, _, _ => match draw with
    | true => match P.follows .mixedOrders, drawOkY κ ops.toList (befGo ops.toList []) (effsY κ ops.toList 0) with
      | true, true => drawY P κ ops.toList (befGo ops.toList []) (effsY κ ops.toList 0) (ordGo κ ops.toList (befGo ops.toList []) (effsY κ ops.toList 0) (effsY κ ops.toList 0) 0) 0 none fr w.drew [] Kn
      | _, _ => False
    | false => opsX P κ ops ops.toList none fr w Kn
  | .seq a b, n, fr, w, Kn, Ke, Kr => match look ann n with
    | none => codeY P κ ann a (n + 1) fr w (fun fr w => codeY P κ ann b (n + 1 + sz a) fr w Kn Ke Kr) Ke Kr
    | some l => JoinX (fun (x : LT l) w => codeY P κ ann b (n + 1 + sz a) (inj (asg a) l x fr) w Kn Ke Kr)
        fun k => codeY P κ ann a (n + 1) fr w (fun fr w => sel l fr fun x => k x w) Ke Kr
  | .cond c a b, n, fr, w, Kn, Ke, Kr => match Fr.known fr c, (Fr.eval fr) c with
    | true, .bool t => SplitB t (codeY P κ ann a n fr w Kn Ke Kr) (codeY P κ ann b (n + sz a) fr w Kn Ke Kr)
    | _, _ => False
  | .block id b, n, fr, w, Kn, Ke, Kr => codeY P κ ann b n fr w Kn (fun i fr w => match Nat.beq i id with | true => Kn fr w | false => Ke i fr w) Kr
  | .exit id, _, fr, w, _, Ke, _ => Ke id fr w
  | .ret, _, fr, w, _, _, Kr => Kr fr w
  | .loop b, n, fr, w, _, Ke, Kr => match look ann n with
    | none => False
    | some l => sel l fr fun x => LoopX (fun (x : LT l) w k => codeY P κ ann b (n + 1) (inj (asg b) l x fr) w (fun fr w => sel l fr fun x => k x w) Ke Kr) x w
  | .label _, _, fr, w, Kn, _, _ => Kn fr w
  | _, _, _, _, _, _, _ => False

theorem codeY_sound {D : List Deferred} {N : Nat} {P : Program} {κ : List Kd} {ann : List (Nat × Live)} : ∀ (c : Code) (n : Nat) (fr : Fr) (a : Act) (w : World) (Kn : KF) (Ke : Nat → KF) (Kr : KF),
    Agree D N fr a → codeY P κ ann c n fr w Kn Ke Kr → c.wp P (postOf D N (asg c) a Kn Ke Kr) a w := by
  intro c
  induction c with
  | skip => intro n fr a w Kn Ke Kr ha h; exact wp_skip ⟨fr, ha, Same.refl _ _, h⟩
  | label l => intro n fr a w Kn Ke Kr ha h; exact wp_label ⟨fr, ha, Same.refl _ _, h⟩
  | exit id => intro n fr a w Kn Ke Kr ha h; exact wp_exit ⟨fr, ha, Same.refl _ _, h⟩
  | ret => intro n fr a w Kn Ke Kr ha h; exact wp_ret ⟨fr, ha, Same.refl _ _, h⟩
  | region id ops draw =>
    intro n fr a w Kn Ke Kr ha h
    simp only [codeY] at h
    cases draw with
    | true =>
      simp only at h
      split at h
      · rename_i hm hok
        exact drawY_sound hm hok ha h
      · exact h.elim
    | false =>
      have := opsX_sound (P := P) (κ := κ) (ops := ops) ops.toList 0 none fr a w Kn (asgOps ops.toList) (by simp) (fun o ho d hd => asgOps_mem ho hd) ha h
      exact wp_of_opsWp (by rw [List.range_eq_range', ← Array.length_toList]; exact this)
  | seq x y ihx ihy =>
    intro n fr a w Kn Ke Kr ha h
    simp only [codeY] at h
    refine wp_seq ?_
    split at h
    · refine wp_mono (ihx _ _ _ _ _ _ _ ha h) ?_
      intro e a' w' hq
      cases e <;> simp only [postOf, Exit.then] at hq ⊢ <;> first
        | exact hq
        | (obtain ⟨fr', ha', hs, hk⟩ := hq; exact ⟨fr', ha', hs.weaken fun t ht => (asg_seq1 ht).1, hk⟩)
        | skip
      obtain ⟨fr', ha', hs, hk⟩ := hq
      exact wp_mono (ihy _ _ _ _ _ _ _ ha' hk) fun e a w hh => postOf_weaken (fun t ht => (asg_seq1 ht).2) (hs.weaken fun t ht => (asg_seq1 ht).1) hh
    · rename_i l hl
      refine wp_mono (ihx _ _ _ _ _ _ _ ha h) ?_
      intro e a' w' hq
      cases e <;> simp only [postOf, Exit.then] at hq ⊢ <;> first
        | exact hq
        | (obtain ⟨fr', ha', hs, hk⟩ := hq; exact ⟨fr', ha', hs.weaken fun t ht => (asg_seq1 ht).1, hk⟩)
        | skip
      obtain ⟨fr', ha', hs, hk⟩ := hq
      obtain ⟨x, hx, hk⟩ := sel_holds _ _ _ hk
      exact wp_mono (ihy _ _ _ _ _ _ _ (inj_agree ha ha' hs hx) hk) fun e a w hh => postOf_weaken (fun t ht => (asg_seq1 ht).2) (hs.weaken fun t ht => (asg_seq1 ht).1) hh
  | cond c x y ihx ihy =>
    intro n fr a w Kn Ke Kr ha h
    simp only [codeY] at h
    split at h
    · rename_i t hk hc
      refine wp_cond_split (t := t) (by rw [ha.eval hk]; exact hc) ?_ ?_
      · rintro rfl; exact wp_mono (ihx _ _ _ _ _ _ _ ha h) fun e a w hh => postOf_weaken (fun t ht => (asg_cond1 ht).1) (Same.refl _ _) hh
      · rintro rfl; exact wp_mono (ihy _ _ _ _ _ _ _ ha h) fun e a w hh => postOf_weaken (fun t ht => (asg_cond1 ht).2) (Same.refl _ _) hh
    · exact h.elim
  | block id b ih =>
    intro n fr a w Kn Ke Kr ha h
    simp only [codeY] at h
    refine wp_block (wp_mono (ih _ _ _ _ _ _ _ ha h) ?_)
    intro e a' w' hq
    cases e <;> simp only [postOf, Exit.inBlock] at hq ⊢ <;> first | exact hq | skip
    rename_i i
    obtain ⟨fr', ha', hs, hk⟩ := hq
    split at hk
    · rename_i hi
      rw [if_pos (Nat.eq_of_beq_eq_true hi)]; exact ⟨fr', ha', hs, hk⟩
    · rename_i hi
      rw [if_neg (fun e => by subst e; simp at hi)]; exact ⟨fr', ha', hs, hk⟩
  | loop b ih =>
    intro n fr a w Kn Ke Kr ha h
    simp only [codeY] at h
    split at h
    · exact h.elim
    · rename_i l hl
      obtain ⟨x, hx, h⟩ := sel_holds _ _ _ h
      obtain ⟨I, μ, hI, hround⟩ := h
      refine wp_loop_ranked (fun m a₁ w => ∃ x, Agree D N (inj (asg b) l x fr) a₁ ∧ Same (asg b) a a₁ ∧ I x w ∧ μ x w = m) ?_ (μ x w) a w ⟨x, inj_agree ha ha (Same.refl _ _) hx, Same.refl _ _, hI, rfl⟩
      rintro m a₁ w₁ ⟨x₁, ha₁, hs₁, hI₁, rfl⟩
      refine wp_mono (ih _ _ _ _ _ _ _ ha₁ (hround _ _ hI₁)) ?_
      intro e a' w' hq
      cases e <;> simp only [postOf, Exit.then] at hq ⊢ <;> first
        | exact hq
        | (obtain ⟨fr', ha', hs, hk⟩ := hq; exact ⟨fr', ha', hs₁.trans hs, hk⟩)
        | skip
      obtain ⟨fr', ha', hs, hk⟩ := hq
      obtain ⟨y, hy, hI', hm⟩ := sel_holds _ _ _ hk
      exact ⟨_, hm, y, inj_agree ha ha' (hs₁.trans hs) hy, hs₁.trans hs, hI', rfl⟩
  | scope b ih => intro n fr a w Kn Ke Kr ha h; exact h.elim
  | goto l => intro n fr a w Kn Ke Kr ha h; exact h.elim
  | rangeFunc f ps x y _ _ => intro n fr a w Kn Ke Kr ha h; exact h.elim
  | refuse s => intro n fr a w Kn Ke Kr ha h; exact h.elim


/-! ### a whole function -/
def resY (P : Program) (κ : List Kd) : List ResultVar → Fr → World → (List Value → Prop) → Prop
  | [], _, _, f => f []
  | .tmp t :: r, fr, w, f => match sget fr t with
    | some v => resY P κ r fr w fun l => f (v :: l)
    | none => False
  | .cell a t :: r, fr, w, f => match sget fr a with
    | some (.pointer (some p)) => ReadN P (nth .raw κ t) (V (Instr.loadAt t (.pointer (some p)))) w fun x => resY P κ r fr w fun l => f ((nth .raw κ t).val x :: l)
    | _ => False
def oneOf : List Value → Value
  | [v] => v
  | l => .tuple ⟨l⟩
def resK (P : Program) (κ : List Kd) (kd : Kd) (rs : List ResultVar) (fr : Fr) (w : World) (f : kd.T → Prop) : Prop := resY P κ rs fr w fun l => kd.un (oneOf l) f

def resOne (tmps : Array Value) : ResultVar → Sem Value
  | .tmp t => pure (tmps.getD t undef)
  | .cell a t => do loadVar t (← asAddr (tmps.getD a undef))
theorem run_one_tmp {P : Program} {w : World} {tmps : Array Value} {t : Nat} {v : Value} (h : tmps[t]? = some v) : (resOne tmps (.tmp t)).run P w = .ok v w := by
  have e : tmps.getD t undef = v := by rw [Array.getD_eq_getD_getElem?, h]; rfl
  show (pure (tmps.getD t undef) : Sem Value).run P w = _
  rw [e]; rfl
theorem run_one_cell {P : Program} {w : World} {tmps : Array Value} {x : Nat} {t : TypeId} {p : Addr} {v : Value} (h : tmps[x]? = some (.pointer (some p))) (hv : (loadVar t p).run P w = .ok v w) : (resOne tmps (.cell x t)).run P w = .ok v w := by
  have e : tmps.getD x undef = .pointer (some p) := by rw [Array.getD_eq_getD_getElem?, h]; rfl
  show ((do loadVar t (← asAddr (tmps.getD x undef))) : Sem Value).run P w = _
  rw [e]; simp [asAddr, hv]
theorem run_load_var {P : Program} {w : World} {t : TypeId} {p : Addr} {v : Value} (hy : (V (Instr.loadAt t (.pointer (some p)))).run P w = .ok (.value v) w) : (loadVar t p).run P w = .ok v w := by
  simp only [V, Instr.loadAt, Instr.sureAddr] at hy
  cases hq : (loadVar t p).run P w with
  | ok v w' => simp [hq] at hy; obtain ⟨rfl, rfl⟩ := hy; rfl
  | _ => simp [hq] at hy

theorem resY_sound {D : List Deferred} {N : Nat} {P : Program} {κ : List Kd} {fr : Fr} {a : Act} {w : World} (ha : Agree D N fr a) : ∀ (rs : List ResultVar) (f : List Value → Prop), resY P κ rs fr w f →
    ∃ l, (rs.mapM (resOne a.tmps)).run P w = .ok l w ∧ f l
  | [], f, h => ⟨[], by simp, h⟩
  | .tmp t :: r, f, h => by
    unfold resY at h
    split at h
    · rename_i v hv
      obtain ⟨l, hr, hl⟩ := resY_sound ha r _ h
      refine ⟨v :: l, ?_, hl⟩
      rw [List.mapM_cons]
      simp [run_one_tmp (ha.slot _ _ hv), hr]
    · exact h.elim
  | .cell x t :: r, f, h => by
    unfold resY at h
    split at h
    · rename_i p hv
      obtain ⟨y, hy, h⟩ := h
      obtain ⟨l, hr, hl⟩ := resY_sound ha r _ h
      refine ⟨_ :: l, ?_, hl⟩
      rw [List.mapM_cons]
      simp [run_one_cell (ha.slot _ _ hv) (run_load_var hy), hr]
    · exact h.elim
theorem results_eq (fn : Func) (tmps : Array Value) : results fn tmps = (do
    let vs ← fn.results.mapM (resOne tmps)
    pure (if h : vs.size = 1 then vs[0] else .tuple vs)) := by
  unfold results
  congr 1
theorem resK_sound {D : List Deferred} {N : Nat} {P : Program} {κ : List Kd} {fn : Func} {kd : Kd} {fr : Fr} {a : Act} {w : World} {f : kd.T → Prop} (ha : Agree D N fr a) (h : resK P κ kd fn.results.toList fr w f) :
    ∃ x, (results fn a.tmps).run P w = .ok (kd.val x) w ∧ f x := by
  obtain ⟨l, hr, h⟩ := resY_sound ha _ _ h
  obtain ⟨x, hx, hf⟩ := (Kd.un_uns kd).1 _ _ h
  refine ⟨x, ?_, hf⟩
  rw [hx, results_eq, Array.mapM_eq_mapM_toList]
  simp [hr]
  match l with
  | [] => rfl
  | [v] => rfl
  | v :: u :: r => simp [oneOf]

/-- A function's proposition. -/
def bodyY (P : Program) (κ : List Kd) (ann : List (Nat × Live)) (kd : Kd) (fn : Func) (args : List Value) (w : World) (K : kd.T → World → Prop) : Prop :=
  codeY P κ ann (bodyOf fn) 0 (start args fn.ntmps) w (fun fr w => resK P κ kd fn.results.toList fr w fun x => K x w) (fun _ _ _ => False) (fun fr w => resK P κ kd fn.results.toList fr w fun x => K x w)

theorem bodyY_sound {P : Program} {κ : List Kd} {ann : List (Nat × Live)} {kd : Kd} {f : FuncId} {fn : Func} {args : List Value} {w : World} {K : kd.T → World → Prop}
    (hf : P.funcs[f]? = some fn) (hb : fn.body.isSome = true) (hn : Nat.ble args.length fn.ntmps = true) (h : bodyY P κ ann kd fn args w K) : CallK P kd f ⟨args⟩ w K := by
  obtain ⟨c, hb⟩ := Option.isSome_iff_exists.1 hb
  have hbo : bodyOf fn = c := by simp [bodyOf, hb]
  unfold bodyY at h
  rw [hbo] at h
  refine calls_of_wp hf hb (wp_mono (codeY_sound (D := []) (N := fn.ntmps) _ _ _ _ _ _ _ _ ?_ h) ?_)
  · have hn' : args.length ≤ fn.ntmps := Nat.le_of_ble_eq_true hn
    refine ⟨start_len _ _, by rw [start_len]; simp; omega, rfl, fun t v ht => ?_⟩
    have := start_get _ _ _ _ ht
    have hl : t < args.length := by
      rcases Nat.lt_or_ge t args.length with h' | h'
      · exact h'
      · simp [List.getElem?_eq_none h'] at this
    rw [Array.getElem?_append_left (by simpa using hl)]
    simpa using this
  · intro e a' w' hq
    cases e <;> simp only [postOf] at hq
    · obtain ⟨fr, ha, -, hr⟩ := hq
      obtain ⟨x, hx, hk⟩ := resK_sound (P := P) (fn := fn) (w := w') ha hr
      exact ⟨ha.defers, _, hx, x, rfl, hk⟩
    · obtain ⟨fr, ha, -, hr⟩ := hq; exact hr.elim
    · obtain ⟨fr, ha, -, hr⟩ := hq
      obtain ⟨x, hx, hk⟩ := resK_sound (P := P) (fn := fn) (w := w') ha hr
      exact ⟨ha.defers, _, hx, x, rfl, hk⟩
end Go.Fw
